/- Programs of the M-world for Go functions, each with the proof that the Go text does what it says. Printed by lxgen.py. -/
import Derived.Test.YtpmhinidiplhiaaDoorLxT
import Derived.Test.YtpmhinidiplhiaaDoorLxP0
set_option linter.unusedVariables false
set_option linter.unusedSimpArgs false
set_option linter.unusedSectionVars false
namespace Go.Proofs.YtpmhinidiplhiaaDoor.Lx
open Go Go.Proofs
variable [ZcL]
/-! ### (*weir/rules.reader).ports: function 51 -/
noncomputable def ZaH.B : Code := bod Tryd.f51
noncomputable def ZaH.cx : Fx := ⟨Tryd.prog, 51, Tryd.f51, none⟩
noncomputable def ZaH.out (r_ : ZaM) : Value := ZaS.val r_
noncomputable def ZaH.K1 (a0 : (Option Addr)) (a1 : Int) (r2 : Zaw) (r4 : (ByteArray × ByteArray × Bool)) (j5 : ByteArray) : M ZaM :=
 ZaT r4.1 0 65535 >>= fun r6 =>
 ZaT j5 0 65535 >>= fun r7 =>
 nilck a0 >>= fun p8 =>
 ld (cI .i64) (Addr.add p8 19) >>= fun x9 =>
 (if x9 = 0 then
   (if ¬ (r6.2 = true) then
     pure true
    else
     pure (!r7.2)) >>= fun y10 =>
   (if y10 = true then
     pure true
    else
     pure (decide (r6.1 > r7.1))) >>= fun y11 =>
   (if y11 = true then
     pure true
    else
     pure (a1 == 16)) >>= fun y12 =>
   pure y12
  else
   pure false) >>= fun y13 =>
 if y13 = true then
  ZaN a0 164 r2.at_ >>= fun r15 =>
  pure (⟨r6.1, r7.1⟩ : ZaM)
 else
  pure (⟨r6.1, r7.1⟩ : ZaM)
theorem ZaH.K1_ok (a0 : (Option Addr)) (a1 : Int) (b1 : Nat) (r2 : Zaw) (b3 : Nat) (r4 : (ByteArray × ByteArray × Bool)) (j5 : ByteArray) :
  SJ ZaH.cx [.code (c2 (c2 (c2 (c2 ZaH.B))))] [(0, .pointer a0), (1, .int .i64 a1), (4, .pointer (some (pt b1 0))), (5, .pointer (some (pt b3 0))), (6, .string r4.1), (7, .string j5)] [(b3, ZaJ.enc r2), (b1, ZaS.enc ZfC)] (ZaH.K1 a0 a1 r2 r4 j5) (rt ZaH.out) := by
 unfold ZaH.K1
 refine SJ.sr 7 <| J.C 1 F47 (ZdT _ _ _) fun r6 => J.z 5 <| SJ.sr 7 <| J.C 1 F47 (ZdT _ _ _) fun r7 => J.z 5 <| SJ.seq <| SJ.sr 22 <| J.n 1 fun p8 => J.l 1 Ty28 fun x9 => J.g 2 <| OJ.join (b := (x9 == 0)) [6, 7, 8, 9, 10, 11, 12, 13, 14, 15, 16, 17, 18, 19, 20, 21] [] [0, 4, 5, 9, 11, 56] (fun y13 => [(0, .pointer a0), (4, .pointer (some (pt b1 0))), (5, .pointer (some (pt b3 0))), (9, .int .i64 r6.1), (11, .int .i64 r7.1), (56, .bool y13)]) [] [] (t := 40) beq_iff_eq (fun hp_ => ?_) (fun hp_ => ?_) (fun _ _ _ _ _ _ h_ => h_) fun y13 => ?_
 ·refine J.g 3 <| OJ.join (b := (!r6.2)) [9, 10, 11] [12, 13, 14, 15, 16, 17, 18, 19, 20, 21] [0, 1, 4, 5, 9, 11, 40, 46] (fun y10 => [(0, .pointer a0), (1, .int .i64 a1), (4, .pointer (some (pt b1 0))), (5, .pointer (some (pt b3 0))), (9, .int .i64 r6.1), (11, .int .i64 r7.1), (40, .bool true), (46, .bool y10)]) [] [] (t := 43) (ZlG Iff.rfl) (fun hp_ => ?_) (fun hp_ => ?_) (fun _ _ _ _ _ hq_ h_ => ⟨fun e_ he_ => (hq_ e_ he_).elim (fun h => h_.1 e_ h) (fun h => nomatch h), h_.2⟩) fun y10 => ?_
  ·exact J.g 3 <| OJ.nil ⟨(Cov.mem Cov.nil), rfl, _, rfl, by kernel_rfl⟩
  ·exact J.g 3 <| OJ.nil ⟨(Cov.mem Cov.nil), rfl, _, rfl, by kernel_rfl⟩
  ·refine J.g 1 <| OJ.join (b := y10) [13, 14, 15, 16] [17, 18, 19, 20, 21] [0, 1, 4, 5, 9, 11, 40, 51] (fun y11 => [(0, .pointer a0), (1, .int .i64 a1), (4, .pointer (some (pt b1 0))), (5, .pointer (some (pt b3 0))), (9, .int .i64 r6.1), (11, .int .i64 r7.1), (40, .bool true), (51, .bool y11)]) [] [] (t := 47) Iff.rfl (fun hp_ => ?_) (fun hp_ => ?_) (fun _ _ _ _ _ hq_ h_ => ⟨fun e_ he_ => (hq_ e_ he_).elim (fun h => h_.1 e_ h) (fun h => nomatch h), h_.2⟩) fun y11 => ?_
   ·exact J.g 4 <| OJ.nil ⟨(Cov.mem Cov.nil), rfl, _, rfl, by kernel_rfl⟩
   ·exact J.g 4 <| OJ.nil ⟨(Cov.mem Cov.nil), rfl, _, rfl, by kernel_rfl⟩
   ·refine J.g 1 <| OJ.join (b := y11) [18, 19, 20] [21] [0, 4, 5, 9, 11, 40, 55] (fun y12 => [(0, .pointer a0), (4, .pointer (some (pt b1 0))), (5, .pointer (some (pt b3 0))), (9, .int .i64 r6.1), (11, .int .i64 r7.1), (40, .bool true), (55, .bool y12)]) [] [] (t := 52) Iff.rfl (fun hp_ => ?_) (fun hp_ => ?_) (fun _ _ _ _ _ hq_ h_ => ⟨fun e_ he_ => (hq_ e_ he_).elim (fun h => h_.1 e_ h) (fun h => nomatch h), h_.2⟩) fun y12 => ?_
    ·exact J.g 3 <| OJ.nil ⟨(Cov.mem Cov.nil), rfl, _, rfl, by kernel_rfl⟩
    ·exact J.g 3 <| OJ.nil ⟨(Cov.mem Cov.nil), rfl, _, rfl, by kernel_rfl⟩
    ·exact J.g 1 <| OJ.nil ⟨(Cov.mem Cov.nil), rfl, _, rfl, by kernel_rfl⟩
 ·exact J.g 16 <| OJ.nil ⟨(Cov.mem Cov.nil), rfl, _, rfl, by kernel_rfl⟩
 ·refine J.z 0 <| J.f ?_ ?_
  ·exact SJ.rg 4 <| J.k 2 0 rfl Ty3 (Zbh _) <| J.C 0 F20 (ZaV _ _ _) fun r15 => J.z 0 <| SJ.sr 4 <| J.u 2 Ty64 (.f 0 (Zd1 _ r6.1) (.f 1 (Zd2 _ r7.1) .nil)) <| J.s 0 1 rfl Ty64 (Upd.w (⟨r6.1, r7.1⟩ : ZaM)) <| J.z 0 <| SJ.ret rfl (Res.run (ys := [ZaS.val (⟨r6.1, r7.1⟩ : ZaM)]) (.cell (j := 1) (b := b1) (cd := ZaS) (q := (⟨r6.1, r7.1⟩ : ZaM)) (by kernel_rfl) rfl Ty64 (At.whole _) .nil) rfl)
  ·exact SJ.skip <| SJ.sr 4 <| J.u 2 Ty64 (.f 0 (Zd1 _ r6.1) (.f 1 (Zd2 _ r7.1) .nil)) <| J.s 0 1 rfl Ty64 (Upd.w (⟨r6.1, r7.1⟩ : ZaM)) <| J.z 0 <| SJ.ret rfl (Res.run (ys := [ZaS.val (⟨r6.1, r7.1⟩ : ZaM)]) (.cell (j := 1) (b := b1) (cd := ZaS) (q := (⟨r6.1, r7.1⟩ : ZaM)) (by kernel_rfl) rfl Ty64 (At.whole _) .nil) rfl)
noncomputable def ZaH (a0 : (Option Addr)) (a1 : Int) : M ZaM :=
 slot 64 >>= fun b1 =>
 Zbr a0 >>= fun r2 =>
 slot 53 >>= fun b3 =>
 Zcr r2.s ZgY >>= fun r4 =>
 if ¬ (r4.2.2 = true) then
  ZaH.K1 a0 a1 r2 r4 r4.1
 else
  ZaH.K1 a0 a1 r2 r4 r4.2.1
theorem Zgc (a0 : (Option Addr)) (a1 : Int) : Ref Tryd.prog 51 [.pointer a0, .int .i64 a1] (ZaH a0 a1) ZaH.out := by
 refine J.Fn Tryd.func51 ?_
 unfold ZaH
 refine SJ.sr 1 <| J.a 0 Ty64 fun b1 => J.z 0 <| SJ.sr 4 <| J.C 1 F46 (Zcj _) fun r2 => J.a 0 Ty53 fun b3 => J.s 0 0 rfl Ty53 (Upd.w r2) <| J.z 0 <| SJ.sr 10 <| J.k 1 0 rfl Ty9 (ZaZ _) <| J.C 0 F64 (ZgP _ _) fun r4 => J.z 7 <| SJ.seq <| SJ.sr 2 <| J.z 2 <| J.f ?_ ?_
 ·exact SJ.rg 2 <| J.z 2 <| J.q <| ZaH.K1_ok a0 a1 b1 r2 b3 r4 r4.1
 ·exact SJ.skip <| J.q <| ZaH.K1_ok a0 a1 b1 r2 b3 r4 r4.2.1

/-! ### (*weir/rules.reader).side: function 35 -/
noncomputable def Zac.B : Code := bod Tryd.f35
noncomputable def Zac.cx : Fx := ⟨Tryd.prog, 35, Tryd.f35, none⟩
noncomputable def Zac.out (r_ : Zan) : Value := ZaF.val r_
noncomputable def Zac.F1 (a0 : (Option Addr)) (b1 : Nat) (b2 : Nat) : LF (Bool × Zan) Zan := ⟨[.inBlock 2, .code (c2 (c2 (c2 (c2 (c2 (c2 Zac.B))))))], c1 (c2 (c1 (c2 (c2 (c2 (c2 (c2 Zac.B))))))), fun s_ => [(0, .pointer a0), (2, .pointer (some (pt b1 0))), (3, .pointer (some (pt b2 0))), (5, .bool s_.1)], fun s_ => [(b2, ZaF.enc s_.2), (b1, ZaF.enc ZaC)], (rt Zac.out)⟩
noncomputable def Zac.L1 (a0 : (Option Addr)) (s35 : Bool) (s36 : Zan) : M (LS (Bool × Zan) Zan) :=
 (if s35 = true then
   nilck a0 >>= fun p45 =>
   ld (cI .i64) (Addr.add p45 19) >>= fun x46 =>
   pure (x46 == 0)
  else
   pure false) >>= fun y47 =>
 if y47 = true then
  draw >>= fun _ =>
  ZaH a0 (s36.Ports.len : Int) >>= fun r48 =>
  slot 64 >>= fun b49 =>
  appl ZaS 64 16 ZfC s36.Ports [r48] >>= fun r50 =>
  ZaX a0 str0 >>= fun r51 =>
  pure (LS.next (r51, (⟨s36.Not, s36.Nets, r50⟩ : Zan)))
 else
  pure (LS.done s36)
theorem Zac.L1_ok (a0 : (Option Addr)) (b1 : Nat) (b2 : Nat) : LJ Zac.cx (Zac.F1 a0 b1 b2) (fun s_ => Zac.L1 a0 s_.1 s_.2) := by
 rintro ⟨s35, s36⟩
 show SJ _ _ _ _ (Zac.L1 a0 s35 s36) _
 unfold Zac.L1
 refine SJ.seq <| SJ.sr 8 <| J.j 2 5 .bool ?_ ?_ fun y47 => ?_
 ·exact J.n 1 fun p45 => J.l 1 Ty28 fun x46 => J.e 2
 ·exact J.e 6
 ·refine J.z 0 <| J.f ?_ ?_
  ·exact SJ.skip <| SJ.seq <| SJ.block (id := 3) <| J.R 11 Zc6 <| J.k 1 0 rfl Ty23 (Zbb _) <| J.k 2 0 rfl Ty23 (Zbb _) <| J.g 1 <| OJ.call (d := 73) (g := 51) (ats := #[48, 3]) (args := [.tmp 69, .tmp 72]) (owed := [⟨1, 23, (pt b2 2), cL.val s36.Ports⟩]) F51 (Zgc a0 (s36.Ports.len : Int)) fun r48 => OW.known (j := 0) (q := s36.Ports) Ty23 rfl (Zbb s36) <| OW.nil <| OJ.rowSlot (d := 74) (t := 23) (parts := [(0, .tmp 73)]) (ps := [(0, ZaS.val r48)]) (cd := ZaS) (⟨[r48], rfl⟩ : Vec ZaM 1) (owed := [⟨1, 23, (pt b2 2), cL.val s36.Ports⟩]) Ty64 (Zbj.cons (cd := ZaS) (q := r48) (o := 0) rfl (Upd.arr (i := 0) (by decide) (by decide)) Zbj.nil) fun b49 => OW.known (j := 1) (q := s36.Ports) Ty23 rfl (Zbb s36) <| OW.nil <| OJ.appl (d := 75) (t := 23) (u := 23) (so := .tmp 68) (xo := .tmp 74) (j := 0) (b := b49) (l := (ZaS.arr 1).enc (⟨[r48], rfl⟩ : Vec ZaM 1)) (n := 1) (k := 1) [r48] (owed := []) Ty64 (by rfl) (Cod.arr_enc _ _ _) (by rfl) fun r50 => OW.nil <| J.s 1 1 rfl Ty23 (Zeg _ r50) <| J.z 0 <| SJ.inBlock <| SJ.rg 3 <| J.C 1 F30 (ZbJ _ _) fun r51 => J.z 1 <| SJ.forget (List.Sublist.cons _ (List.Sublist.cons_cons _ (List.Sublist.cons_cons _ List.Sublist.slnil))) <| J.o rfl
  ·exact SJ.exit (id := 2) (by rfl) <| SJ.sr 2 <| J.k 0 0 rfl Ty25 (At.whole _) <| J.s 0 1 rfl Ty25 (Upd.w s36) <| J.z 0 <| SJ.ret rfl (Res.run (ys := [ZaF.val s36]) (.cell (j := 1) (b := b1) (cd := ZaF) (q := s36) (by kernel_rfl) rfl Ty25 (At.whole _) .nil) rfl)
noncomputable def Zac.K1 (a0 : (Option Addr)) (j23 : Zan) : M Zan :=
 Zck (fun s_ : (Bool × Zan) => Zac.L1 a0 s_.1 s_.2) (true, j23)
theorem Zac.K1_ok (a0 : (Option Addr)) (b1 : Nat) (b2 : Nat) (j23 : Zan) :
  SJ Zac.cx [.code (c2 (c2 (c2 (c2 (c2 Zac.B)))))] [(0, .pointer a0), (2, .pointer (some (pt b1 0))), (3, .pointer (some (pt b2 0)))] [(b2, ZaF.enc j23), (b1, ZaF.enc ZaC)] (Zac.K1 a0 j23) (rt Zac.out) := by
 unfold Zac.K1
 exact SJ.seq <| SJ.sr 1 <| J.z 1 <| SJ.block (id := 2) <| J.L (Zac.L1_ok a0 b1 b2)
noncomputable def Zac.K2 (a0 : (Option Addr)) (j23 : Zan) : M Zan :=
 ZaX a0 Zte >>= fun r24 =>
 if ¬ (r24 = true) then
  pure j23
 else
  nilck a0 >>= fun p25 =>
  ld (cI .i64) (Addr.add (Addr.add p25 3) 3) >>= fun x26 =>
  ZcX x26 >>= fun r27 =>
  if ¬ (r27 = true) then
   draw >>= fun _ =>
   nilck a0 >>= fun p53 =>
   ld cL p53 >>= fun x54 =>
   nilck a0 >>= fun p55 =>
   ld (cI .i64) (Addr.add p55 1) >>= fun x56 =>
   idx x54.a x54.len (IntKind.wrap .i64 (x56 - 1)) 2 >>= fun p57 =>
   ld (cI .i64) (Addr.add p57 1) >>= fun x58 =>
   ZaN a0 165 x58 >>= fun r59 =>
   Zac.K1 a0 j23
  else
   Zac.K1 a0 j23
theorem Zac.K2_ok (a0 : (Option Addr)) (b1 : Nat) (b2 : Nat) (j23 : Zan) :
  SJ Zac.cx [.code (c2 (c2 (c2 Zac.B)))] [(0, .pointer a0), (2, .pointer (some (pt b1 0))), (3, .pointer (some (pt b2 0)))] [(b2, ZaF.enc j23), (b1, ZaF.enc ZaC)] (Zac.K2 a0 j23) (rt Zac.out) := by
 unfold Zac.K2
 refine SJ.seq <| SJ.sr 3 <| J.C 1 F30 (ZbJ _ _) fun r24 => J.z 1 <| J.f ?_ ?_
 ·exact SJ.sr 2 <| J.k 0 0 rfl Ty25 (At.whole _) <| J.s 0 1 rfl Ty25 (Upd.w j23) <| J.z 0 <| SJ.ret rfl (Res.run (ys := [ZaF.val j23]) (.cell (j := 1) (b := b1) (cd := ZaF) (q := j23) (by kernel_rfl) rfl Ty25 (At.whole _) .nil) rfl)
 ·refine SJ.skip <| SJ.seq <| SJ.sr 7 <| J.n 1 fun p25 => J.l 2 Ty3 fun x26 => J.C 0 F24 (Zge _) fun r27 => J.z 1 <| J.f ?_ ?_
  ·exact J.R 14 Zc6 <| J.n 2 fun p53 => J.l 1 Ty45 fun x54 => J.n 1 fun p55 => J.l 1 Ty3 fun x56 => J.i 1 fun p57 => J.l 1 Ty3 fun x58 => J.C 0 F20 (ZaV _ _ _) fun r59 => J.z 0 <| J.q <| Zac.K1_ok a0 b1 b2 j23
  ·exact SJ.skip <| J.q <| Zac.K1_ok a0 b1 b2 j23
noncomputable def Zac.K3 (a0 : (Option Addr)) (s64 : Zan) : M Zan :=
 Zac.K2 a0 s64
theorem Zac.K3_ok (a0 : (Option Addr)) (b1 : Nat) (b2 : Nat) (s64 : Zan) :
  SJ Zac.cx [.code (c2 (c2 (c2 Zac.B)))] [(0, .pointer a0), (2, .pointer (some (pt b1 0))), (3, .pointer (some (pt b2 0)))] [(b2, ZaF.enc s64), (b1, ZaF.enc ZaC)] (Zac.K3 a0 s64) (rt Zac.out) := by
 unfold Zac.K3
 exact J.q <| Zac.K2_ok a0 b1 b2 s64
noncomputable def Zac.F2 (a0 : (Option Addr)) (b1 : Nat) (b2 : Nat) : LF (Bool × Zan) Zan := ⟨[.inBlock 0, .code (c2 (c2 (c2 Zac.B)))], c1 (c2 (c2 (c1 (c2 (c1 (c2 (c2 Zac.B))))))), fun s_ => [(0, .pointer a0), (2, .pointer (some (pt b1 0))), (3, .pointer (some (pt b2 0))), (4, .bool s_.1)], fun s_ => [(b2, ZaF.enc s_.2), (b1, ZaF.enc ZaC)], (rt Zac.out)⟩
noncomputable def Zac.L2 (a0 : (Option Addr)) (s63 : Bool) (s64 : Zan) : M (LS (Bool × Zan) Zan) :=
 (if s63 = true then
   nilck a0 >>= fun p73 =>
   ld (cI .i64) (Addr.add p73 19) >>= fun x74 =>
   pure (x74 == 0)
  else
   pure false) >>= fun y75 =>
 if y75 = true then
  draw >>= fun _ =>
  Zay a0 (s64.Nets.len : Int) >>= fun r76 =>
  slot 61 >>= fun b77 =>
  appl Zav 61 32 Za4 s64.Nets [r76] >>= fun r78 =>
  ZaX a0 str0 >>= fun r79 =>
  pure (LS.next (r79, (⟨s64.Not, r78, s64.Ports⟩ : Zan)))
 else
  (Zac.K3 a0 s64) >>= fun b => pure (LS.done b)
theorem Zac.L2_ok (a0 : (Option Addr)) (b1 : Nat) (b2 : Nat) : LJ Zac.cx (Zac.F2 a0 b1 b2) (fun s_ => Zac.L2 a0 s_.1 s_.2) := by
 rintro ⟨s63, s64⟩
 show SJ _ _ _ _ (Zac.L2 a0 s63 s64) _
 unfold Zac.L2
 refine SJ.seq <| SJ.sr 8 <| J.j 2 5 .bool ?_ ?_ fun y75 => ?_
 ·exact J.n 1 fun p73 => J.l 1 Ty28 fun x74 => J.e 2
 ·exact J.e 6
 ·refine J.z 0 <| J.f ?_ ?_
  ·exact SJ.skip <| SJ.seq <| SJ.block (id := 1) <| J.R 11 Zc6 <| J.k 1 0 rfl Ty22 (Zbi _) <| J.k 2 0 rfl Ty22 (Zbi _) <| J.g 1 <| OJ.call (d := 28) (g := 50) (ats := #[48, 3]) (args := [.tmp 24, .tmp 27]) (owed := [⟨1, 22, (pt b2 1), cL.val s64.Nets⟩]) F50 (Zg2 a0 (s64.Nets.len : Int)) fun r76 => OW.known (j := 0) (q := s64.Nets) Ty22 rfl (Zbi s64) <| OW.nil <| OJ.rowSlot (d := 29) (t := 22) (parts := [(0, .tmp 28)]) (ps := [(0, Zav.val r76)]) (cd := Zav) (⟨[r76], rfl⟩ : Vec Zaj 1) (owed := [⟨1, 22, (pt b2 1), cL.val s64.Nets⟩]) Ty61 (Zbj.cons (cd := Zav) (q := r76) (o := 0) rfl (Upd.arr (i := 0) (by decide) (by decide)) Zbj.nil) fun b77 => OW.known (j := 1) (q := s64.Nets) Ty22 rfl (Zbi s64) <| OW.nil <| OJ.appl (d := 30) (t := 22) (u := 22) (so := .tmp 23) (xo := .tmp 29) (j := 0) (b := b77) (l := (Zav.arr 1).enc (⟨[r76], rfl⟩ : Vec Zaj 1)) (n := 1) (k := 1) [r76] (owed := []) Ty61 (by rfl) (Cod.arr_enc _ _ _) (by rfl) fun r78 => OW.nil <| J.s 1 1 rfl Ty22 (Zes _ r78) <| J.z 0 <| SJ.inBlock <| SJ.rg 3 <| J.C 1 F30 (ZbJ _ _) fun r79 => J.z 1 <| SJ.forget (List.Sublist.cons _ (List.Sublist.cons_cons _ (List.Sublist.cons_cons _ List.Sublist.slnil))) <| J.o rfl
  ·exact SJ.exit (id := 0) (by rfl) <| J.q <| SJ.done <| Zac.K3_ok a0 b1 b2 s64
noncomputable def Zac (a0 : (Option Addr)) : M Zan :=
 slot 25 >>= fun b1 =>
 slot 25 >>= fun b2 =>
 ZaX a0 str7 >>= fun r3 =>
 if ¬ (r3 = true) then
  ZaX a0 Ztf >>= fun r62 =>
  Zck (fun s_ : (Bool × Zan) => Zac.L2 a0 s_.1 s_.2) (true, (⟨r62, ZaC.Nets, ZaC.Ports⟩ : Zan))
 else
  Zac.K2 a0 ZaC
theorem Zey (a0 : (Option Addr)) : Ref Tryd.prog 35 [.pointer a0] (Zac a0) Zac.out := by
 refine J.Fn Tryd.func35 ?_
 unfold Zac
 refine SJ.sr 1 <| J.a 0 Ty25 fun b1 => J.z 0 <| SJ.sr 1 <| J.a 0 Ty25 fun b2 => J.z 0 <| SJ.seq <| SJ.sr 3 <| J.C 1 F30 (ZbJ _ _) fun r3 => J.z 1 <| J.f ?_ ?_
 ·exact SJ.sr 4 <| J.C 1 F30 (ZbJ _ _) fun r62 => J.s 1 0 rfl Ty4 (ZjY _ r62) <| J.z 0 <| SJ.sr 1 <| J.z 1 <| SJ.block (id := 0) <| J.L (Zac.L2_ok a0 b1 b2)
 ·exact SJ.skip <| J.q <| Zac.K2_ok a0 b1 b2 ZaC

/-! ### (*weir/rules.reader).flags: function 36 -/
noncomputable def Zak.B : Code := bod Tryd.f36
noncomputable def Zak.cx : Fx := ⟨Tryd.prog, 36, Tryd.f36, none⟩
noncomputable def Zak.out (r_ : Unit) : Value := .tuple #[]
noncomputable def Zak.F1 (a0 : (Option Addr)) : LF Bool Unit := ⟨[.inBlock 0], c1 (c2 Zak.B), fun s_ => [(0, .pointer a0), (2, .bool s_)], fun s_ => [], (rt Zak.out)⟩
noncomputable def Zak.K1 (a0 : (Option Addr)) : M (LS Bool Unit) :=
 ZaX a0 str0 >>= fun r99 =>
 pure (LS.next r99)
theorem Zak.K1_ok (a0 : (Option Addr)) :
  SJ Zak.cx [.inBlock 2, .inBlock 1, .code (c2 (c2 (c1 (c1 (c2 Zak.B))))), .inLoop (c1 (c1 (c2 Zak.B))), .inBlock 0] [(0, .pointer a0)] [] (Zak.K1 a0) (Zak.F1 a0).f := by
 unfold Zak.K1
 exact SJ.inBlock <| SJ.inBlock <| SJ.rg 3 <| J.C 1 F30 (ZbJ _ _) fun r99 => J.z 1 <| J.o rfl
noncomputable def Zak.L1 (a0 : (Option Addr)) (s1 : Bool) : M (LS Bool Unit) :=
 (if s1 = true then
   nilck a0 >>= fun p2 =>
   ld (cI .i64) (Addr.add p2 19) >>= fun x3 =>
   pure (x3 == 0)
  else
   pure false) >>= fun y4 =>
 if y4 = true then
  Zbr a0 >>= fun r5 =>
  slot 53 >>= fun b6 =>
  ZbD r5.s ZiJ >>= fun r7 =>
  ld cL ⟨1, 0, none⟩ >>= fun x8 =>
  Zao x8 r7.1 >>= fun r9 =>
  nilck a0 >>= fun p10 =>
  ld (cI .i64) (Addr.add p10 19) >>= fun x11 =>
  if x11 ≠ 0 then
   Zak.K1 a0
  else
   if r9 < 0 then
    ZaN a0 160 r5.at_ >>= fun r143 =>
    Zak.K1 a0
   else
    draw >>= fun _ =>
    nilck a0 >>= fun p144 =>
    ld (cI .i64) (Addr.add (Addr.add p144 3) 12) >>= fun x145 =>
    nilck a0 >>= fun p146 =>
    ld (cI .i64) (Addr.add (Addr.add p146 3) 13) >>= fun x147 =>
    chk (0 ≤ (IntKind.wrap .u64 r9)) >>= fun _ =>
    if (band .i64 (Int.fdiv (bor .i64 x145 x147) (2 ^ min (Int.toNat (IntKind.wrap .u64 r9)) 64)) 1) = 1 then
     ZaN a0 165 r5.at_ >>= fun r166 =>
     Zak.K1 a0
    else
     if r7.2 = true then
      nilck a0 >>= fun p175 =>
      ld (cI .i64) (Addr.add (Addr.add p175 3) 13) >>= fun x176 =>
      chk (0 ≤ (IntKind.wrap .u64 r9)) >>= fun _ =>
      nilck a0 >>= fun p177 =>
      st (cI .i64) (Addr.add (Addr.add p177 3) 13) (bor .i64 x176 (IntKind.wrap .i64 (1 * 2 ^ min (Int.toNat (IntKind.wrap .u64 r9)) 64))) >>= fun _ =>
      Zak.K1 a0
     else
      nilck a0 >>= fun p179 =>
      ld (cI .i64) (Addr.add (Addr.add p179 3) 12) >>= fun x180 =>
      chk (0 ≤ (IntKind.wrap .u64 r9)) >>= fun _ =>
      nilck a0 >>= fun p181 =>
      st (cI .i64) (Addr.add (Addr.add p181 3) 12) (bor .i64 x180 (IntKind.wrap .i64 (1 * 2 ^ min (Int.toNat (IntKind.wrap .u64 r9)) 64))) >>= fun _ =>
      Zak.K1 a0
 else
  pure (LS.done ())
theorem Zak.L1_ok (a0 : (Option Addr)) : LJ Zak.cx (Zak.F1 a0) (fun s_ => Zak.L1 a0 s_) := by
 rintro s1
 show SJ _ _ _ _ (Zak.L1 a0 s1) _
 unfold Zak.L1
 refine SJ.seq <| SJ.sr 8 <| J.j 2 5 .bool ?_ ?_ fun y4 => ?_
 ·exact J.n 1 fun p2 => J.l 1 Ty28 fun x3 => J.e 2
 ·exact J.e 6
 ·refine J.z 0 <| J.f ?_ ?_
  ·refine SJ.skip <| SJ.seq <| SJ.block (id := 1) <| SJ.sr 4 <| J.C 1 F46 (Zcj _) fun r5 => J.a 0 Ty53 fun b6 => J.s 0 0 rfl Ty53 (Upd.w r5) <| J.z 0 <| SJ.sr 8 <| J.k 1 0 rfl Ty9 (ZaZ _) <| J.C 0 F49 (Zew _ _) fun r7 => J.z 5 <| SJ.sr 4 <| J.l 0 Ty65 fun x8 => J.C 1 F29 (Zcf _ _) fun r9 => J.z 1 <| SJ.block (id := 2) <| SJ.sr 6 <| J.n 1 fun p10 => J.l 1 Ty28 fun x11 => J.z 2 <| J.f ?_ ?_
   ·exact SJ.skip <| SJ.forget (List.Sublist.cons _ List.Sublist.slnil) <| J.q <| Zak.K1_ok a0
   ·refine SJ.sr 3 <| J.z 3 <| J.f ?_ ?_
    ·exact SJ.rg 4 <| J.k 2 0 rfl Ty3 (Zbh _) <| J.C 0 F20 (ZaV _ _ _) fun r143 => J.z 0 <| SJ.forget (List.Sublist.cons _ List.Sublist.slnil) <| J.q <| Zak.K1_ok a0
    ·refine SJ.seq <| J.R 17 Zc6 <| J.n 1 fun p144 => J.l 2 Ty3 fun x145 => J.n 1 fun p146 => J.l 2 Ty3 fun x147 => J.g 3 <| OJ.shr (d := 67) (T := 3) (yT := 68) (y := .tmp 64) (z := .tmp 66) (k := .i64) (yk := .u64) (p := (bor .i64 x145 x147)) (q := (IntKind.wrap .u64 r9)) fun hq185 => J.z 3 <| J.f ?_ ?_
     ·exact SJ.rg 4 <| J.k 2 0 rfl Ty3 (Zbh _) <| J.C 0 F20 (ZaV _ _ _) fun r166 => J.z 0 <| SJ.forget (List.Sublist.cons _ List.Sublist.slnil) <| J.q <| Zak.K1_ok a0
     ·refine SJ.sr 2 <| J.z 2 <| J.f ?_ ?_
      ·exact SJ.rg 13 <| J.n 1 fun p175 => J.l 2 Ty3 fun x176 => J.g 2 <| OJ.shl (d := 83) (T := 3) (yT := 68) (y := .const (.int .i64 1)) (z := .tmp 82) (k := .i64) (yk := .u64) (p := 1) (q := (IntKind.wrap .u64 r9)) fun hq178 => J.n 1 fun p177 => J.w 2 Ty3 <| J.z 0 <| SJ.forget (List.Sublist.cons _ List.Sublist.slnil) <| J.q <| Zak.K1_ok a0
      ·exact SJ.rg 13 <| J.n 1 fun p179 => J.l 2 Ty3 fun x180 => J.g 2 <| OJ.shl (d := 35) (T := 3) (yT := 68) (y := .const (.int .i64 1)) (z := .tmp 34) (k := .i64) (yk := .u64) (p := 1) (q := (IntKind.wrap .u64 r9)) fun hq182 => J.n 1 fun p181 => J.w 2 Ty3 <| J.z 0 <| SJ.forget (List.Sublist.cons _ List.Sublist.slnil) <| J.q <| Zak.K1_ok a0
  ·exact SJ.exit (id := 0) (by rfl) <| SJ.end_ rfl (Res.run (ys := []) .nil rfl)
noncomputable def Zak (a0 : (Option Addr)) : M Unit :=
 Zck (fun s_ : Bool => Zak.L1 a0 s_) true
theorem Zgd (a0 : (Option Addr)) : Ref Tryd.prog 36 [.pointer a0] (Zak a0) Zak.out := by
 refine J.Fn Tryd.func36 ?_
 unfold Zak
 exact SJ.sr 1 <| J.z 1 <| SJ.block (id := 0) <| J.L (Zak.L1_ok a0)

/-! ### (*weir/rules.reader).clause: function 21 -/
noncomputable def Zax.B : Code := bod Tryd.f21
noncomputable def Zax.cx : Fx := ⟨Tryd.prog, 21, Tryd.f21, none⟩
noncomputable def Zax.out (r_ : Bool) : Value := .bool r_
noncomputable def Zax.K1  : M Bool :=
 pure true
theorem Zax.K1_ok  :
  SJ Zax.cx [.inBlock 0, .code (c2 (c2 Zax.B))] [] [] (Zax.K1) (rt Zax.out) := by
 unfold Zax.K1
 exact SJ.inBlock <| SJ.sr 1 <| J.z 1 <| J.r
noncomputable def Zax (a0 : (Option Addr)) (a1 : ByteArray) : M Bool :=
 if a1.toList = Zsp.toList then
  Zb5 a0 >>= fun r238 =>
  nilck a0 >>= fun p239 =>
  st (cI .i64) (Addr.add (Addr.add p239 3) 4) (IntKind.wrap .i64 (r238 + 1)) >>= fun _ =>
  pure true
 else
  if a1.toList = Zso.toList then
   Zbn a0 1 4094 >>= fun r357 =>
   nilck a0 >>= fun p358 =>
   st (cI .i64) (Addr.add (Addr.add p358 3) 5) r357 >>= fun _ =>
   pure true
  else
   if a1.toList = Zna.toList then
    Zac a0 >>= fun r416 =>
    nilck a0 >>= fun p417 =>
    st ZaF (Addr.add (Addr.add p417 3) 6) r416 >>= fun _ =>
    Zax.K1
   else
    if a1.toList = ZpF.toList then
     Zac a0 >>= fun r445 =>
     nilck a0 >>= fun p446 =>
     st ZaF (Addr.add (Addr.add p446 3) 9) r445 >>= fun _ =>
     Zax.K1
    else
     if a1.toList = Zm9.toList then
      Zak a0 >>= fun r459 =>
      Zax.K1
     else
      if a1.toList = Zm8.toList then
       Zbn a0 0 255 >>= fun r465 =>
       nilck a0 >>= fun p466 =>
       st (cI .i64) (Addr.add (Addr.add p466 3) 14) (IntKind.wrap .i64 (r465 + 1)) >>= fun _ =>
       Zax.K1
      else
       if a1.toList = Zsn.toList then
        nilck a0 >>= fun p468 =>
        st cB (Addr.add (Addr.add p468 3) 15) true >>= fun _ =>
        Zax.K1
       else
        pure false
theorem Zf4 (a0 : (Option Addr)) (a1 : ByteArray) : Ref Tryd.prog 21 [.pointer a0, .string a1] (Zax a0 a1) Zax.out := by
 refine J.Fn Tryd.func21 ?_
 unfold Zax
 refine SJ.sr 1 <| J.z 1 <| SJ.seq <| SJ.sr 1 <| J.z 1 <| SJ.block (id := 0) <| SJ.sr 2 <| J.z 2 <| J.f ?_ ?_
 ·exact SJ.rg 8 <| J.C 2 F34 (ZgK _) fun r238 => J.n 1 fun p239 => J.w 2 Ty3 <| J.z 0 <| SJ.inBlock <| SJ.sr 1 <| J.z 1 <| J.r
 ·refine SJ.sr 2 <| J.z 2 <| J.f ?_ ?_
  ·exact SJ.rg 7 <| J.C 2 F31 (Zcu _ _ _) fun r357 => J.n 0 fun p358 => J.w 2 Ty3 <| J.z 0 <| SJ.inBlock <| SJ.sr 1 <| J.z 1 <| J.r
  ·refine SJ.sr 2 <| J.z 2 <| J.f ?_ ?_
   ·exact SJ.rg 7 <| J.C 2 F35 (Zey _) fun r416 => J.n 0 fun p417 => J.w 2 Ty25 <| J.z 0 <| J.q <| Zax.K1_ok 
   ·refine SJ.sr 2 <| J.z 2 <| J.f ?_ ?_
    ·exact SJ.rg 7 <| J.C 2 F35 (Zey _) fun r445 => J.n 0 fun p446 => J.w 2 Ty25 <| J.z 0 <| J.q <| Zax.K1_ok 
    ·refine SJ.sr 2 <| J.z 2 <| J.f ?_ ?_
     ·exact SJ.rg 2 <| J.C 1 F36 (Zgd _) fun r459 => J.z 0 <| J.q <| Zax.K1_ok 
     ·refine SJ.sr 2 <| J.z 2 <| J.f ?_ ?_
      ·exact SJ.rg 8 <| J.C 2 F31 (Zcu _ _ _) fun r465 => J.n 1 fun p466 => J.w 2 Ty3 <| J.z 0 <| J.q <| Zax.K1_ok 
      ·refine SJ.sr 2 <| J.z 2 <| J.f ?_ ?_
       ·exact SJ.rg 5 <| J.n 1 fun p468 => J.w 2 Ty4 <| J.z 0 <| J.q <| Zax.K1_ok 
       ·exact SJ.sr 1 <| J.z 1 <| J.r

/-! ### weir/rules.ParseRule: function 10 -/
noncomputable def Zah.B : Code := bod Tryd.f10
noncomputable def Zah.cx : Fx := ⟨Tryd.prog, 10, Tryd.f10, none⟩
noncomputable def Zah.out (r_ : (Zas × Int × Int)) : Value := .tuple #[Zaq.val r_.1, .int .i64 r_.2.1, .int .i64 r_.2.2]
noncomputable def Zah.K1 (b3 : Nat) : M (Zas × Int × Int) :=
 ld (cI .i64) (Addr.add (pt b3 0) 19) >>= fun x28 =>
 if x28 ≠ 0 then
  draw >>= fun _ =>
  ld (cI .i64) (Addr.add (pt b3 0) 19) >>= fun x31 =>
  ld (cI .i64) (Addr.add (pt b3 0) 20) >>= fun x32 =>
  same (cI .i64) (Addr.add (pt b3 0) 20) x32 >>= fun _ =>
  same (cI .i64) (Addr.add (pt b3 0) 19) x31 >>= fun _ =>
  pure (Zal, x31, x32)
 else
  ld Zaq (Addr.add (pt b3 0) 3) >>= fun x33 =>
  pure (x33, 0, 0)
theorem Zah.K1_ok (b1 : Nat) (b3 : Nat) :
  SJ Zah.cx [.code (c2 (c2 (c2 (c2 (c2 (c2 (c2 (c2 Zah.B))))))))] [(2, .pointer (some (pt b1 0))), (7, .pointer (some (pt b3 0)))] [(b1, Zaq.enc Zal)] (Zah.K1 b3) (rt Zah.out) := by
 unfold Zah.K1
 refine SJ.seq <| SJ.sr 5 <| J.l 3 Ty28 fun x28 => J.z 1 <| J.f ?_ ?_
 ·exact SJ.seq <| J.R 12 Zc6 <| J.u 0 Ty27 .nil <| J.l 3 Ty28 fun x31 => J.l 3 Ty3 fun x32 => OJ.kst (y := .tmp 2) (z := .tmp 104) (cd := Zaq) (u := Zal) (j := 0) (b := b1) (o := 0) (Zaq.enc Zal) (owed := [⟨8, 3, (Addr.add (pt b3 0) 20), (cI .i64).val x32⟩, ⟨4, 28, (Addr.add (pt b3 0) 19), (cI .i64).val x31⟩]) Ty27 rfl (Upd.whole ((Cod.len _ _).trans (Cod.len _ _).symm)) rfl <| OW.same Ty3 <| OW.same Ty28 <| OW.nil <| J.z 2 <| SJ.ret rfl (Res.run (ys := [Zaq.val Zal, .int .i64 x31, .int .i64 x32]) (.cell (j := 0) (b := b1) (cd := Zaq) (q := Zal) (by kernel_rfl) rfl Ty27 (At.whole _) (.tmp (by kernel_rfl) (.tmp (by kernel_rfl) .nil))) rfl)
 ·exact SJ.skip <| SJ.sr 7 <| J.l 3 Ty27 fun x33 => J.s 0 0 rfl Ty27 (Upd.w x33) <| J.z 2 <| SJ.ret rfl (Res.run (ys := [Zaq.val x33, .int .i64 0, .int .i64 0]) (.cell (j := 0) (b := b1) (cd := Zaq) (q := x33) (by kernel_rfl) rfl Ty27 (At.whole _) (.tmp (by kernel_rfl) (.tmp (by kernel_rfl) .nil))) rfl)
noncomputable def Zah.F1 (b1 : Nat) (r2 : (Sl × Int)) (b3 : Nat) (b5 : Nat) : LF Unit (Zas × Int × Int) := ⟨[.inBlock 0, .code (c2 (c2 (c2 (c2 (c2 (c2 (c2 (c2 Zah.B))))))))], c1 (c1 (c2 (c2 (c2 (c2 (c2 (c2 (c2 Zah.B)))))))), fun s_ => [(2, .pointer (some (pt b1 0))), (5, Sl.v r2.1), (7, .pointer (some (pt b3 0))), (8, .map (some b5))], fun s_ => [(b1, Zaq.enc Zal)], (rt Zah.out)⟩
noncomputable def Zah.K2 (b3 : Nat) (b5 : Nat) (r38 : Zaw) : M (LS Unit (Zas × Int × Int)) :=
 draw >>= fun _ =>
 ld (cI .i64) (Addr.add (pt b3 0) 1) >>= fun x52 =>
 mset cS (cI .i64) (some b5) r38.s x52 >>= fun _ =>
 pure (LS.next ())
theorem Zah.K2_ok (b1 : Nat) (r2 : (Sl × Int)) (b3 : Nat) (b5 : Nat) (r38 : Zaw) (b39 : Nat) :
  SJ Zah.cx [.code (c2 (c2 (c2 (c1 (c2 (c1 (c1 (c1 (c2 (c2 (c2 (c2 (c2 (c2 (c2 Zah.B))))))))))))))), .inBlock 1, .inLoop (c1 (c1 (c1 (c2 (c2 (c2 (c2 (c2 (c2 (c2 Zah.B)))))))))), .inBlock 0, .code (c2 (c2 (c2 (c2 (c2 (c2 (c2 (c2 Zah.B))))))))] [(2, .pointer (some (pt b1 0))), (5, Sl.v r2.1), (7, .pointer (some (pt b3 0))), (8, .map (some b5)), (9, .pointer (some (pt b39 0)))] [(b39, ZaJ.enc r38), (b1, Zaq.enc Zal)] (Zah.K2 b3 b5 r38) (Zah.F1 b1 r2 b3 b5).f := by
 unfold Zah.K2
 exact J.R 8 Zc6 <| J.k 2 0 rfl Ty9 (ZaZ _) <| J.l 3 Ty3 fun x52 => OJ.mset (x := .tmp 92) (y := .tmp 94) (q := .tmp 98) (owed := []) Kt51 <| OW.nil <| J.z 0 <| SJ.inBlock <| SJ.forget (List.Sublist.cons _ (List.Sublist.cons_cons _ List.Sublist.slnil)) <| J.o rfl
noncomputable def Zah.L1 (r2 : (Sl × Int)) (b3 : Nat) (b5 : Nat) : M (LS Unit (Zas × Int × Int)) :=
 ld (cI .i64) (Addr.add (pt b3 0) 19) >>= fun x35 =>
 (if x35 = 0 then
   ld (cI .i64) (Addr.add (pt b3 0) 1) >>= fun x36 =>
   pure (decide (x36 < (r2.1.len : Int)))
  else
   pure false) >>= fun y37 =>
 if y37 = true then
  ZaD (some (pt b3 0)) >>= fun r38 =>
  slot 53 >>= fun b39 =>
  mget cS (cI .i64) 0 (some b5) r38.s >>= fun r40 =>
  (if r40.1 > 0 then
    pure true
   else
    (if r38.s.toList = Zm9.toList then
      ld (cI .i64) (Addr.add (Addr.add (pt b3 0) 3) 3) >>= fun x41 =>
      pure (x41 != 6)
     else
      pure false) >>= fun y42 =>
    pure y42) >>= fun y43 =>
  (if y43 = true then
    pure true
   else
    (if r38.s.toList = Zm8.toList then
      ld (cI .i64) (Addr.add (Addr.add (pt b3 0) 3) 3) >>= fun x44 =>
      Zc0 x44 >>= fun r45 =>
      pure (!r45)
     else
      pure false) >>= fun y46 =>
    pure y46) >>= fun y47 =>
  if y47 = true then
   ZaN (some (pt b3 0)) 165 r38.at_ >>= fun r49 =>
   (Zah.K1 b3) >>= fun b => pure (LS.done b)
  else
   Zax (some (pt b3 0)) r38.s >>= fun r50 =>
   if ¬ (r50 = true) then
    ZaN (some (pt b3 0)) 160 r38.at_ >>= fun r53 =>
    Zah.K2 b3 b5 r38
   else
    Zah.K2 b3 b5 r38
 else
  (Zah.K1 b3) >>= fun b => pure (LS.done b)
theorem Zah.L1_ok (b1 : Nat) (r2 : (Sl × Int)) (b3 : Nat) (b5 : Nat) : LJ Zah.cx (Zah.F1 b1 r2 b3 b5) (fun s_ => Zah.L1 r2 b3 b5) := by
 rintro _
 show SJ _ _ _ _ (Zah.L1 r2 b3 b5) _
 unfold Zah.L1
 refine SJ.seq <| SJ.sr 14 <| J.l 3 Ty28 fun x35 => J.j 2 7 .bool ?_ ?_ fun y37 => ?_
 ·exact J.l 3 Ty3 fun x36 => J.e 4
 ·exact J.e 8
 ·refine J.z 0 <| J.f ?_ ?_
  ·refine SJ.skip <| SJ.block (id := 1) <| SJ.sr 4 <| J.C 1 F19 (Zci _) fun r38 => J.a 0 Ty53 fun b39 => J.s 0 0 rfl Ty53 (Upd.w r38) <| J.z 0 <| SJ.seq <| SJ.sr 32 <| J.k 2 0 rfl Ty9 (ZaZ _) <| OJ.get0 (d := 50) (x := .tmp 47) (y := .tmp 49) (owed := []) Kt51 fun r40 => OW.nil <| J.g 2 <| OJ.join (b := decide (r40.1 > 0)) [6, 7, 8, 9, 10, 11, 12, 13, 14, 15, 16, 17] [18, 19, 20, 21, 22, 23, 24, 25, 26, 27, 28, 29, 30, 31] [2, 5, 7, 8, 9, 64] (fun y43 => [(2, .pointer (some (pt b1 0))), (5, Sl.v r2.1), (7, .pointer (some (pt b3 0))), (8, .map (some b5)), (9, .pointer (some (pt b39 0))), (64, .bool y43)]) [] [] (t := 52) decide_eq_true_iff (fun hp_ => ?_) (fun hp_ => ?_) (fun _ _ _ _ _ _ h_ => h_) fun y43 => ?_
   ·exact J.g 12 <| OJ.nil ⟨(Cov.mem Cov.nil), rfl, _, rfl, by kernel_rfl⟩
   ·refine J.k 1 0 rfl Ty9 (ZaZ _) <| J.g 2 <| OJ.join (b := (r38.s.toList == Zm9.toList)) [10, 11, 12, 13, 14, 15, 16] [17] [2, 5, 7, 8, 9, 52, 63] (fun y42 => [(2, .pointer (some (pt b1 0))), (5, Sl.v r2.1), (7, .pointer (some (pt b3 0))), (8, .map (some b5)), (9, .pointer (some (pt b39 0))), (52, .bool false), (63, .bool y42)]) [] [] (t := 56) beq_iff_eq (fun hp_ => ?_) (fun hp_ => ?_) (fun _ _ _ _ _ hq_ h_ => ⟨fun e_ he_ => (hq_ e_ he_).elim (fun h => h_.1 e_ h) (fun h => nomatch h), h_.2⟩) fun y42 => ?_
    ·exact J.l 4 Ty3 fun x41 => J.g 2 <| OJ.nil ⟨(Cov.mem Cov.nil), rfl, _, rfl, by kernel_rfl⟩
    ·exact J.g 7 <| OJ.nil ⟨(Cov.mem Cov.nil), rfl, _, rfl, by kernel_rfl⟩
    ·exact J.g 1 <| OJ.nil ⟨(Cov.mem Cov.nil), rfl, _, rfl, by kernel_rfl⟩
   ·refine J.g 1 <| OJ.join (b := y43) [19, 20, 21, 22, 23, 24, 25, 26, 27, 28, 29, 30, 31] [] [2, 5, 7, 8, 9, 78] (fun y47 => [(2, .pointer (some (pt b1 0))), (5, Sl.v r2.1), (7, .pointer (some (pt b3 0))), (8, .map (some b5)), (9, .pointer (some (pt b39 0))), (78, .bool y47)]) [] [] (t := 65) Iff.rfl (fun hp_ => ?_) (fun hp_ => ?_) (fun _ _ _ _ _ _ h_ => h_) fun y47 => ?_
    ·exact J.g 13 <| OJ.nil ⟨(Cov.mem Cov.nil), rfl, _, rfl, by kernel_rfl⟩
    ·refine J.k 1 0 rfl Ty9 (ZaZ _) <| J.g 2 <| OJ.join (b := (r38.s.toList == Zm8.toList)) [23, 24, 25, 26, 27, 28, 29, 30] [31] [2, 5, 7, 8, 9, 65, 77] (fun y46 => [(2, .pointer (some (pt b1 0))), (5, Sl.v r2.1), (7, .pointer (some (pt b3 0))), (8, .map (some b5)), (9, .pointer (some (pt b39 0))), (65, .bool false), (77, .bool y46)]) [] [] (t := 69) beq_iff_eq (fun hp_ => ?_) (fun hp_ => ?_) (fun _ _ _ _ _ hq_ h_ => ⟨fun e_ he_ => (hq_ e_ he_).elim (fun h => h_.1 e_ h) (fun h => nomatch h), h_.2⟩) fun y46 => ?_
     ·exact J.l 4 Ty3 fun x44 => J.C 0 F13 (ZgQ _) fun r45 => J.g 2 <| OJ.nil ⟨(Cov.mem Cov.nil), rfl, _, rfl, by kernel_rfl⟩
     ·exact J.g 8 <| OJ.nil ⟨(Cov.mem Cov.nil), rfl, _, rfl, by kernel_rfl⟩
     ·exact J.g 1 <| OJ.nil ⟨(Cov.mem Cov.nil), rfl, _, rfl, by kernel_rfl⟩
    ·refine J.z 0 <| J.f ?_ ?_
     ·exact SJ.sr 4 <| J.k 2 0 rfl Ty3 (Zbh _) <| J.C 0 F20 (ZaV _ _ _) fun r49 => J.z 0 <| SJ.exit (id := 0) (by rfl) <| SJ.forget (List.Sublist.cons _ (List.Sublist.cons_cons _ List.Sublist.slnil)) <| J.q <| SJ.done <| Zah.K1_ok b1 b3
     ·refine SJ.skip <| SJ.seq <| SJ.sr 5 <| J.k 2 0 rfl Ty9 (ZaZ _) <| J.C 0 F21 (Zf4 _ _) fun r50 => J.z 1 <| J.f ?_ ?_
      ·exact SJ.rg 4 <| J.k 2 0 rfl Ty3 (Zbh _) <| J.C 0 F20 (ZaV _ _ _) fun r53 => J.z 0 <| J.q <| Zah.K2_ok b1 r2 b3 b5 r38 b39
      ·exact SJ.skip <| J.q <| Zah.K2_ok b1 r2 b3 b5 r38 b39
  ·exact SJ.exit (id := 0) (by rfl) <| J.q <| SJ.done <| Zah.K1_ok b1 b3
noncomputable def Zah (a0 : ByteArray) : M (Zas × Int × Int) :=
 slot 27 >>= fun b1 =>
 if (a0.size : Int) > 1024 then
  pure (Zal, 2, 1024)
 else
  ZaE a0 >>= fun r2 =>
  if r2.2 ≥ 0 then
   pure (Zal, 160, r2.2)
  else
   newv 50 ZaW (⟨r2.1, Zc8.i, (a0.size : Int), Zc8.rule, Zc8.err, Zc8.at_⟩ : ZaY) >>= fun b3 =>
   Zau (some (pt b3 0)) >>= fun r4 =>
   mkMap >>= fun b5 =>
   Zck (fun s_ : Unit => Zah.L1 r2 b3 b5) ()
theorem ZdV (a0 : ByteArray) : Ref Tryd.prog 10 [.string a0] (Zah a0) Zah.out := by
 refine J.Fn Tryd.func10 ?_
 unfold Zah
 refine SJ.sr 3 <| J.a 0 Ty27 fun b1 => J.z 2 <| SJ.seq <| SJ.sr 3 <| J.z 3 <| J.f ?_ ?_
 ·exact SJ.sr 4 <| J.u 0 Ty27 .nil <| J.s 0 0 rfl Ty27 (Upd.w Zal) <| J.z 2 <| SJ.ret rfl (Res.run (ys := [Zaq.val Zal, .int .i64 2, .int .i64 1024]) (.cell (j := 0) (b := b1) (cd := Zaq) (q := Zal) (by kernel_rfl) rfl Ty27 (At.whole _) (.tmp (by kernel_rfl) (.tmp (by kernel_rfl) .nil))) rfl)
 ·refine SJ.skip <| SJ.sr 7 <| J.C 1 F17 (Zj6 _) fun r2 => J.z 5 <| SJ.seq <| SJ.sr 2 <| J.z 2 <| J.f ?_ ?_
  ·exact SJ.sr 5 <| J.u 0 Ty27 .nil <| J.s 1 0 rfl Ty27 (Upd.w Zal) <| J.z 2 <| SJ.ret rfl (Res.run (ys := [Zaq.val Zal, .int .i64 160, .int .i64 r2.2]) (.cell (j := 0) (b := b1) (cd := Zaq) (q := Zal) (by kernel_rfl) rfl Ty27 (At.whole _) (.tmp (by kernel_rfl) (.tmp (by kernel_rfl) .nil))) rfl)
  ·exact SJ.skip <| SJ.sr 6 <| J.u 3 Ty50 (.f 0 (Zil _ r2.1) (.f 2 (ZgM _ (a0.size : Int)) .nil)) <| J.B 0 fun b3 => J.z 1 <| SJ.sr 2 <| J.C 1 F18 (ZgL _) fun r4 => J.z 0 <| SJ.sr 2 <| OJ.mkMap (d := 30) (t := 51) (owed := []) fun b5 => OW.nil <| J.z 1 <| SJ.seq <| SJ.block (id := 0) <| J.L (Zah.L1_ok b1 r2 b3 b5)

/-! ### weir/weirlaw16.num: function 8 -/
noncomputable def ZbC.out (r_ : Int) : Value := .int .i64 r_
noncomputable def ZbC (a0 : Int) : M Int :=
 pure a0
theorem Zb0 (a0 : Int) : Ref Tryd.prog 8 [.int .i64 a0] (ZbC a0) ZbC.out := by
 refine J.Fn Tryd.func8 ?_
 unfold ZbC
 exact SJ.sr 1 <| J.z 1 <| SJ.sr 2 <| J.z 2 <| J.r

/-! ### weir/weirlaw16.line: function 16 -/
noncomputable def Zb9.B : Code := bod Tryd.f16
noncomputable def Zb9.out (r_ : (ByteArray × Zas)) : Value := .tuple #[.string r_.1, Zaq.val r_.2]
noncomputable def Zb9  : M (ByteArray × Zas) :=
 slot 27 >>= fun b1 =>
 slot 61 >>= fun b2 =>
 draws 16 2 (ZdW (c1 (c2 (c2 Zb9.B)))) >>= fun o3 =>
 if bfr o3 1 4 = true then
  newv 61 (Zav.arr 1) (⟨[(⟨(⟨4, (⟨[10, 0, 0, 0, 0, 0, 0, 0, 0, 0, 0, 0, 0, 0, 0, 0], rfl⟩ : (Vec Int 16))⟩ : Za2), 8⟩ : Zaj)], rfl⟩ : Vec Zaj 1) >>= fun b10 =>
  newv 64 (ZaS.arr 1) (⟨[(⟨80, 80⟩ : ZaM)], rfl⟩ : Vec ZaM 1) >>= fun b11 =>
  pure (ZpE, (⟨1, Zal.Class, Zal.Kind, 6, Zal.In, Zal.Vid, (⟨ZaC.Not, (⟨some (pt b10 0), 1, 1⟩ : Sl), ZaC.Ports⟩ : Zan), (⟨ZaC.Not, ZaC.Nets, (⟨some (pt b11 0), 1, 1⟩ : Sl)⟩ : Zan), Zal.Set, Zal.Clear, Zal.Type_, Zal.Pieces⟩ : Zas))
 else
  newv 64 (ZaS.arr 1) (⟨[(⟨80, 80⟩ : ZaM)], rfl⟩ : Vec ZaM 1) >>= fun b12 =>
  newv 61 (Zav.arr 1) (⟨[(⟨(⟨4, (⟨[10, 0, 0, 0, 0, 0, 0, 0, 0, 0, 0, 0, 0, 0, 0, 0], rfl⟩ : (Vec Int 16))⟩ : Za2), 8⟩ : Zaj)], rfl⟩ : Vec Zaj 1) >>= fun b13 =>
  pure (ZpE, (⟨1, Zal.Class, Zal.Kind, 6, Zal.In, Zal.Vid, (⟨ZaC.Not, (⟨some (pt b13 0), 1, 1⟩ : Sl), ZaC.Ports⟩ : Zan), (⟨ZaC.Not, ZaC.Nets, (⟨some (pt b12 0), 1, 1⟩ : Sl)⟩ : Zan), Zal.Set, Zal.Clear, Zal.Type_, Zal.Pieces⟩ : Zas))
theorem ZhT  : Ref Tryd.prog 16 [] (Zb9) Zb9.out := by
 refine J.Fn Tryd.func16 ?_
 unfold Zb9
 refine SJ.sr 2 <| J.a 1 Ty27 fun b1 => J.z 0 <| SJ.sr 5 <| OJ.build (d := 3) (T := 57) (parts := [(0, .const (.int .u8 10))]) (ps := [(0, (cI .u8).val 10)]) (cd := ((cI .u8).arr 16)) (z0 := (Vec.rep 16 0)) (⟨[10, 0, 0, 0, 0, 0, 0, 0, 0, 0, 0, 0, 0, 0, 0, 0], rfl⟩ : (Vec Int 16)) Ty57 rfl (Zbj.cons (cd := (cI .u8)) (q := 10) (o := 0) (by kernel_rfl) (Upd.arr (i := 0) (by decide) (by decide)) Zbj.nil) <| J.u 0 Ty59 (.f 0 (Zhf _ 4) (.f 1 (Zhg _ (⟨[10, 0, 0, 0, 0, 0, 0, 0, 0, 0, 0, 0, 0, 0, 0, 0], rfl⟩ : (Vec Int 16))) .nil)) <| J.u 0 Ty61 (.f 0 (Zet _ (⟨4, (⟨[10, 0, 0, 0, 0, 0, 0, 0, 0, 0, 0, 0, 0, 0, 0, 0], rfl⟩ : (Vec Int 16))⟩ : Za2)) (.f 1 (Zdr _ 8) .nil)) <| J.a 0 Ty61 fun b2 => J.s 0 0 rfl Ty61 (Upd.w (⟨(⟨4, (⟨[10, 0, 0, 0, 0, 0, 0, 0, 0, 0, 0, 0, 0, 0, 0, 0], rfl⟩ : (Vec Int 16))⟩ : Za2), 8⟩ : Zaj)) <| J.z 0 <| SJ.seq <| SJ.draws (id := 2) (kd := [1, 2, 0, 0, 2, 0, 0, 0, 2]) (bef := [0, 1, 3, 0, 8, 24, 63, 0, 255]) (ord := [0, 1, 2, 3, 4, 5, 6, 7, 8]) (E := [(1, 4)]) Zc6 fun o3 hg_ => SJ.bfr hg_ (by decide) (fun ho9 => ?_) fun ho9 => ?_
 ·exact SJ.leaf hg_ (kd := [1, 2, 0, 0, 2, 0, 0, 0, 2]) (bef := [0, 1, 3, 0, 8, 24, 63, 0, 255]) (ord := [0, 1, 2, 3, 4, 5, 6, 7, 8]) (E := [(1, 4)]) (allB.cons ho9 allB.nil) <| J.k 0 0 rfl Ty61 (At.whole _) <| OJ.rowNew (d := 7) (t := 22) (parts := [(0, .tmp 6)]) (ps := [(0, Zav.val (⟨(⟨4, (⟨[10, 0, 0, 0, 0, 0, 0, 0, 0, 0, 0, 0, 0, 0, 0, 0], rfl⟩ : (Vec Int 16))⟩ : Za2), 8⟩ : Zaj))]) (cd := Zav) (owed := []) Ty61 (Zbj.cons (cd := Zav) (q := (⟨(⟨4, (⟨[10, 0, 0, 0, 0, 0, 0, 0, 0, 0, 0, 0, 0, 0, 0, 0], rfl⟩ : (Vec Int 16))⟩ : Za2), 8⟩ : Zaj)) (o := 0) rfl (Upd.arr (i := 0) (by decide) (by decide)) Zbj.nil) fun b10 => OW.nil <| J.u 0 Ty25 (.f 1 (Zes _ (⟨some (pt b10 0), 1, 1⟩ : Sl)) .nil) <| J.u 0 Ty64 (.f 0 (Zd1 _ 80) (.f 1 (Zd2 _ 80) .nil)) <| OJ.rowNew (d := 10) (t := 23) (parts := [(0, .tmp 9)]) (ps := [(0, ZaS.val (⟨80, 80⟩ : ZaM))]) (cd := ZaS) (owed := [⟨0, 61, (pt b2 0), Zav.val (⟨(⟨4, (⟨[10, 0, 0, 0, 0, 0, 0, 0, 0, 0, 0, 0, 0, 0, 0, 0], rfl⟩ : (Vec Int 16))⟩ : Za2), 8⟩ : Zaj)⟩]) Ty64 (Zbj.cons (cd := ZaS) (q := (⟨80, 80⟩ : ZaM)) (o := 0) rfl (Upd.arr (i := 0) (by decide) (by decide)) Zbj.nil) fun b11 => OW.known (j := 0) (q := (⟨(⟨4, (⟨[10, 0, 0, 0, 0, 0, 0, 0, 0, 0, 0, 0, 0, 0, 0, 0], rfl⟩ : (Vec Int 16))⟩ : Za2), 8⟩ : Zaj)) Ty61 rfl (At.whole _) <| OW.nil <| J.u 0 Ty25 (.f 2 (Zeg _ (⟨some (pt b11 0), 1, 1⟩ : Sl)) .nil) <| J.u 0 Ty27 (.f 0 (Zdk _ 1) (.f 3 (Zdq _ 6) (.f 6 (ZdC _ (⟨ZaC.Not, (⟨some (pt b10 0), 1, 1⟩ : Sl), ZaC.Ports⟩ : Zan)) (.f 7 (Zem _ (⟨ZaC.Not, ZaC.Nets, (⟨some (pt b11 0), 1, 1⟩ : Sl)⟩ : Zan)) .nil)))) <| J.s 1 1 rfl Ty27 (Upd.w (⟨1, Zal.Class, Zal.Kind, 6, Zal.In, Zal.Vid, (⟨ZaC.Not, (⟨some (pt b10 0), 1, 1⟩ : Sl), ZaC.Ports⟩ : Zan), (⟨ZaC.Not, ZaC.Nets, (⟨some (pt b11 0), 1, 1⟩ : Sl)⟩ : Zan), Zal.Set, Zal.Clear, Zal.Type_, Zal.Pieces⟩ : Zas)) <| J.z 0 <| SJ.ret rfl (Res.run (ys := [.string ZpE, Zaq.val (⟨1, Zal.Class, Zal.Kind, 6, Zal.In, Zal.Vid, (⟨ZaC.Not, (⟨some (pt b10 0), 1, 1⟩ : Sl), ZaC.Ports⟩ : Zan), (⟨ZaC.Not, ZaC.Nets, (⟨some (pt b11 0), 1, 1⟩ : Sl)⟩ : Zan), Zal.Set, Zal.Clear, Zal.Type_, Zal.Pieces⟩ : Zas)]) (.tmp (by kernel_rfl) (.cell (j := 1) (b := b1) (cd := Zaq) (q := (⟨1, Zal.Class, Zal.Kind, 6, Zal.In, Zal.Vid, (⟨ZaC.Not, (⟨some (pt b10 0), 1, 1⟩ : Sl), ZaC.Ports⟩ : Zan), (⟨ZaC.Not, ZaC.Nets, (⟨some (pt b11 0), 1, 1⟩ : Sl)⟩ : Zan), Zal.Set, Zal.Clear, Zal.Type_, Zal.Pieces⟩ : Zas)) (by kernel_rfl) rfl Ty27 (At.whole _) .nil)) rfl)
 ·exact SJ.leaf hg_ (kd := [1, 2, 0, 0, 2, 0, 0, 0, 2]) (bef := [0, 1, 3, 0, 8, 24, 63, 0, 255]) (ord := [0, 3, 4, 1, 2, 5, 6, 7, 8]) (E := [(4, 1)]) (allB.cons ho9 allB.nil) <| J.k 0 0 rfl Ty61 (At.whole _) <| J.u 0 Ty64 (.f 0 (Zd1 _ 80) (.f 1 (Zd2 _ 80) .nil)) <| OJ.rowNew (d := 10) (t := 23) (parts := [(0, .tmp 9)]) (ps := [(0, ZaS.val (⟨80, 80⟩ : ZaM))]) (cd := ZaS) (owed := [⟨0, 61, (pt b2 0), Zav.val (⟨(⟨4, (⟨[10, 0, 0, 0, 0, 0, 0, 0, 0, 0, 0, 0, 0, 0, 0, 0], rfl⟩ : (Vec Int 16))⟩ : Za2), 8⟩ : Zaj)⟩]) Ty64 (Zbj.cons (cd := ZaS) (q := (⟨80, 80⟩ : ZaM)) (o := 0) rfl (Upd.arr (i := 0) (by decide) (by decide)) Zbj.nil) fun b12 => OW.known (j := 0) (q := (⟨(⟨4, (⟨[10, 0, 0, 0, 0, 0, 0, 0, 0, 0, 0, 0, 0, 0, 0, 0], rfl⟩ : (Vec Int 16))⟩ : Za2), 8⟩ : Zaj)) Ty61 rfl (At.whole _) <| OW.nil <| OJ.rowNew (d := 7) (t := 22) (parts := [(0, .tmp 6)]) (ps := [(0, Zav.val (⟨(⟨4, (⟨[10, 0, 0, 0, 0, 0, 0, 0, 0, 0, 0, 0, 0, 0, 0, 0], rfl⟩ : (Vec Int 16))⟩ : Za2), 8⟩ : Zaj))]) (cd := Zav) (owed := []) Ty61 (Zbj.cons (cd := Zav) (q := (⟨(⟨4, (⟨[10, 0, 0, 0, 0, 0, 0, 0, 0, 0, 0, 0, 0, 0, 0, 0], rfl⟩ : (Vec Int 16))⟩ : Za2), 8⟩ : Zaj)) (o := 0) rfl (Upd.arr (i := 0) (by decide) (by decide)) Zbj.nil) fun b13 => OW.nil <| J.u 0 Ty25 (.f 1 (Zes _ (⟨some (pt b13 0), 1, 1⟩ : Sl)) .nil) <| J.u 0 Ty25 (.f 2 (Zeg _ (⟨some (pt b12 0), 1, 1⟩ : Sl)) .nil) <| J.u 0 Ty27 (.f 0 (Zdk _ 1) (.f 3 (Zdq _ 6) (.f 6 (ZdC _ (⟨ZaC.Not, (⟨some (pt b13 0), 1, 1⟩ : Sl), ZaC.Ports⟩ : Zan)) (.f 7 (Zem _ (⟨ZaC.Not, ZaC.Nets, (⟨some (pt b12 0), 1, 1⟩ : Sl)⟩ : Zan)) .nil)))) <| J.s 1 1 rfl Ty27 (Upd.w (⟨1, Zal.Class, Zal.Kind, 6, Zal.In, Zal.Vid, (⟨ZaC.Not, (⟨some (pt b13 0), 1, 1⟩ : Sl), ZaC.Ports⟩ : Zan), (⟨ZaC.Not, ZaC.Nets, (⟨some (pt b12 0), 1, 1⟩ : Sl)⟩ : Zan), Zal.Set, Zal.Clear, Zal.Type_, Zal.Pieces⟩ : Zas)) <| J.z 0 <| SJ.ret rfl (Res.run (ys := [.string ZpE, Zaq.val (⟨1, Zal.Class, Zal.Kind, 6, Zal.In, Zal.Vid, (⟨ZaC.Not, (⟨some (pt b13 0), 1, 1⟩ : Sl), ZaC.Ports⟩ : Zan), (⟨ZaC.Not, ZaC.Nets, (⟨some (pt b12 0), 1, 1⟩ : Sl)⟩ : Zan), Zal.Set, Zal.Clear, Zal.Type_, Zal.Pieces⟩ : Zas)]) (.tmp (by kernel_rfl) (.cell (j := 1) (b := b1) (cd := Zaq) (q := (⟨1, Zal.Class, Zal.Kind, 6, Zal.In, Zal.Vid, (⟨ZaC.Not, (⟨some (pt b13 0), 1, 1⟩ : Sl), ZaC.Ports⟩ : Zan), (⟨ZaC.Not, ZaC.Nets, (⟨some (pt b12 0), 1, 1⟩ : Sl)⟩ : Zan), Zal.Set, Zal.Clear, Zal.Type_, Zal.Pieces⟩ : Zas)) (by kernel_rfl) rfl Ty27 (At.whole _) .nil)) rfl)

/-! ### weir/rules.checkSide: function 14 -/
noncomputable def Zai.B : Code := bod Tryd.f14
noncomputable def Zai.cx : Fx := ⟨Tryd.prog, 14, Tryd.f14, none⟩
noncomputable def Zai.out (r_ : Int) : Value := .int .i64 r_
noncomputable def Zai.K1 (a0 : Zan) (a2 : Int) : M Int :=
 (if (a0.Ports.len : Int) > 0 then
   ZcX a2 >>= fun r19 =>
   pure (!r19)
  else
   pure false) >>= fun y20 =>
 if y20 = true then
  pure 165
 else
  pure 0
theorem Zai.K1_ok (a0 : Zan) (a2 : Int) (b1 : Nat) :
  SJ Zai.cx [.code (c2 (c2 (c2 (c2 (c2 Zai.B)))))] [(2, .int .i64 a2), (3, .pointer (some (pt b1 0)))] [(b1, ZaF.enc a0)] (Zai.K1 a0 a2) (rt Zai.out) := by
 unfold Zai.K1
 refine SJ.seq <| SJ.sr 9 <| J.k 1 0 rfl Ty23 (Zbb _) <| J.j 3 3 .bool ?_ ?_ fun y20 => ?_
 ·exact J.C 1 F24 (Zge _) fun r19 => J.e 2
 ·exact J.e 4
 ·refine J.z 0 <| J.f ?_ ?_
  ·exact SJ.sr 1 <| J.z 1 <| J.r
  ·exact SJ.skip <| SJ.sr 1 <| J.z 1 <| J.r
noncomputable def Zai.F1 (a0 : Zan) (a2 : Int) (b1 : Nat) : LF Int Int := ⟨[.inBlock 2, .code (c2 (c2 (c2 (c2 (c2 Zai.B)))))], c1 (c2 (c1 (c2 (c2 (c2 (c2 Zai.B)))))), fun s_ => [(2, .int .i64 a2), (3, .pointer (some (pt b1 0))), (42, Sl.v a0.Ports), (43, .int .i64 (a0.Ports.len : Int)), (44, .int .i64 s_)], fun s_ => [(b1, ZaF.enc a0)], (rt Zai.out)⟩
noncomputable def Zai.L1 (a0 : Zan) (a2 : Int) (s11 : Int) : M (LS Int Int) :=
 if s11 < (a0.Ports.len : Int) then
  idx a0.Ports.a a0.Ports.len s11 2 >>= fun p22 =>
  ld ZaS p22 >>= fun x23 =>
  slot 64 >>= fun b24 =>
  (if x23.Lo < 0 then
    pure true
   else
    pure (decide (x23.Hi > 65535))) >>= fun y25 =>
  (if y25 = true then
    pure true
   else
    pure (decide (x23.Lo > x23.Hi))) >>= fun y26 =>
  if y26 = true then
   pure (LS.done 164)
  else
   pure (LS.next (IntKind.wrap .i64 (s11 + 1)))
 else
  (Zai.K1 a0 a2) >>= fun b => pure (LS.done b)
theorem Zai.L1_ok (a0 : Zan) (a2 : Int) (b1 : Nat) : LJ Zai.cx (Zai.F1 a0 a2 b1) (fun s_ => Zai.L1 a0 a2 s_) := by
 rintro s11
 show SJ _ _ _ _ (Zai.L1 a0 a2 s11) _
 unfold Zai.L1
 refine SJ.sr 1 <| J.z 1 <| SJ.seq <| J.f ?_ ?_
 ·refine SJ.skip <| SJ.seq <| SJ.block (id := 3) <| SJ.sr 4 <| J.i 0 fun p22 => J.l 0 Ty64 fun x23 => J.a 0 Ty64 fun b24 => J.s 0 0 rfl Ty64 (Upd.w x23) <| J.z 0 <| SJ.sr 15 <| J.k 1 0 rfl Ty3 (ZcU _) <| J.j 2 3 .bool ?_ ?_ fun y25 => ?_
  ·exact J.e 4
  ·exact J.k 1 0 rfl Ty3 (ZcV _) <| J.e 2
  ·refine J.j 1 5 .bool ?_ ?_ fun y26 => ?_
   ·exact J.e 6
   ·exact J.k 1 0 rfl Ty3 (ZcU _) <| J.k 1 0 rfl Ty3 (ZcV _) <| J.e 2
   ·refine J.z 0 <| J.f ?_ ?_
    ·exact SJ.sr 1 <| J.z 1 <| J.r
    ·exact SJ.skip <| SJ.inBlock <| SJ.rg 2 <| J.z 2 <| SJ.forget (List.Sublist.cons _ (List.Sublist.cons_cons _ List.Sublist.slnil)) <| J.o rfl
 ·exact SJ.exit (id := 2) (by rfl) <| J.q <| SJ.done <| Zai.K1_ok a0 a2 b1
noncomputable def Zai.K2 (a0 : Zan) (a2 : Int) : M Int :=
 if (a0.Ports.len : Int) > 16 then
  pure 164
 else
  Zck (fun s_ : Int => Zai.L1 a0 a2 s_) 0
theorem Zai.K2_ok (a0 : Zan) (a2 : Int) (b1 : Nat) :
  SJ Zai.cx [.code (c2 (c2 (c2 Zai.B)))] [(2, .int .i64 a2), (3, .pointer (some (pt b1 0)))] [(b1, ZaF.enc a0)] (Zai.K2 a0 a2) (rt Zai.out) := by
 unfold Zai.K2
 refine SJ.seq <| SJ.sr 4 <| J.k 1 0 rfl Ty23 (Zbb _) <| J.z 2 <| J.f ?_ ?_
 ·exact SJ.sr 1 <| J.z 1 <| J.r
 ·exact SJ.skip <| SJ.seq <| SJ.sr 4 <| J.k 1 0 rfl Ty23 (Zbb _) <| J.z 2 <| SJ.block (id := 2) <| J.L (Zai.L1_ok a0 a2 b1)
noncomputable def Zai.F2 (a0 : Zan) (a1 : Int) (a2 : Int) (b1 : Nat) : LF Int Int := ⟨[.inBlock 0, .code (c2 (c2 (c2 Zai.B)))], c1 (c2 (c1 (c2 (c2 Zai.B)))), fun s_ => [(1, .int .i64 a1), (2, .int .i64 a2), (3, .pointer (some (pt b1 0))), (26, Sl.v a0.Nets), (27, .int .i64 (a0.Nets.len : Int)), (28, .int .i64 s_)], fun s_ => [(b1, ZaF.enc a0)], (rt Zai.out)⟩
noncomputable def Zai.L2 (a0 : Zan) (a1 : Int) (a2 : Int) (s4 : Int) : M (LS Int Int) :=
 if s4 < (a0.Nets.len : Int) then
  idx a0.Nets.a a0.Nets.len s4 18 >>= fun p30 =>
  ld Zav p30 >>= fun x31 =>
  slot 61 >>= fun b32 =>
  ZcC x31 a1 >>= fun r33 =>
  if ¬ (r33 = true) then
   pure (LS.done 163)
  else
   pure (LS.next (IntKind.wrap .i64 (s4 + 1)))
 else
  (Zai.K2 a0 a2) >>= fun b => pure (LS.done b)
theorem Zai.L2_ok (a0 : Zan) (a1 : Int) (a2 : Int) (b1 : Nat) : LJ Zai.cx (Zai.F2 a0 a1 a2 b1) (fun s_ => Zai.L2 a0 a1 a2 s_) := by
 rintro s4
 show SJ _ _ _ _ (Zai.L2 a0 a1 a2 s4) _
 unfold Zai.L2
 refine SJ.sr 1 <| J.z 1 <| SJ.seq <| J.f ?_ ?_
 ·refine SJ.skip <| SJ.seq <| SJ.block (id := 1) <| SJ.sr 4 <| J.i 0 fun p30 => J.l 0 Ty61 fun x31 => J.a 0 Ty61 fun b32 => J.s 0 0 rfl Ty61 (Upd.w x31) <| J.z 0 <| SJ.sr 4 <| J.k 0 0 rfl Ty61 (At.whole _) <| J.C 1 F23 (Zf0 _ _) fun r33 => J.z 1 <| J.f ?_ ?_
  ·exact SJ.sr 1 <| J.z 1 <| J.r
  ·exact SJ.skip <| SJ.inBlock <| SJ.rg 2 <| J.z 2 <| SJ.forget (List.Sublist.cons _ (List.Sublist.cons_cons _ List.Sublist.slnil)) <| J.o rfl
 ·exact SJ.exit (id := 0) (by rfl) <| J.q <| SJ.done <| Zai.K2_ok a0 a2 b1
noncomputable def Zai (a0 : Zan) (a1 : Int) (a2 : Int) : M Int :=
 slot 25 >>= fun b1 =>
 (if (a0.Nets.len : Int) > 16 then
   pure true
  else
   (if a0.Not = true then
     pure ((a0.Nets.len : Int) == 0)
    else
     pure false) >>= fun y2 =>
   pure y2) >>= fun y3 =>
 if y3 = true then
  pure 163
 else
  Zck (fun s_ : Int => Zai.L2 a0 a1 a2 s_) 0
theorem ZeZ (a0 : Zan) (a1 : Int) (a2 : Int) : Ref Tryd.prog 14 [ZaF.val a0, .int .i64 a1, .int .i64 a2] (Zai a0 a1 a2) Zai.out := by
 refine J.Fn Tryd.func14 ?_
 unfold Zai
 refine SJ.sr 2 <| J.b 0 ZaF a0 fun b1 => J.z 1 <| SJ.seq <| SJ.sr 14 <| J.k 1 0 rfl Ty22 (Zbi _) <| J.g 3 <| OJ.join (b := decide ((a0.Nets.len : Int) > 16)) [5, 6, 7, 8, 9, 10, 11, 12, 13] [] [1, 2, 3, 24] (fun y3 => [(1, .int .i64 a1), (2, .int .i64 a2), (3, .pointer (some (pt b1 0))), (24, .bool y3)]) [] [] (t := 15) decide_eq_true_iff (fun hp_ => ?_) (fun hp_ => ?_) (fun _ _ _ _ _ _ h_ => h_) fun y3 => ?_
 ·exact J.g 9 <| OJ.nil ⟨(Cov.mem Cov.nil), rfl, _, rfl, by kernel_rfl⟩
 ·refine J.k 1 0 rfl Ty4 (Zd6 _) <| J.g 1 <| OJ.join (b := a0.Not) [8, 9, 10, 11, 12] [13] [1, 2, 3, 15, 23] (fun y2 => [(1, .int .i64 a1), (2, .int .i64 a2), (3, .pointer (some (pt b1 0))), (15, .bool false), (23, .bool y2)]) [] [] (t := 18) Iff.rfl (fun hp_ => ?_) (fun hp_ => ?_) (fun _ _ _ _ _ hq_ h_ => ⟨fun e_ he_ => (hq_ e_ he_).elim (fun h => h_.1 e_ h) (fun h => nomatch h), h_.2⟩) fun y2 => ?_
  ·exact J.k 1 0 rfl Ty22 (Zbi _) <| J.g 3 <| OJ.nil ⟨(Cov.mem Cov.nil), rfl, _, rfl, by kernel_rfl⟩
  ·exact J.g 5 <| OJ.nil ⟨(Cov.mem Cov.nil), rfl, _, rfl, by kernel_rfl⟩
  ·exact J.g 1 <| OJ.nil ⟨(Cov.mem Cov.nil), rfl, _, rfl, by kernel_rfl⟩
 ·refine J.z 0 <| J.f ?_ ?_
  ·exact SJ.sr 1 <| J.z 1 <| J.r
  ·exact SJ.skip <| SJ.seq <| SJ.sr 4 <| J.k 1 0 rfl Ty22 (Zbi _) <| J.z 2 <| SJ.block (id := 0) <| J.L (Zai.L2_ok a0 a1 a2 b1)

/-! ### weir/rules.Check: function 6 -/
noncomputable def ZaP.B : Code := bod Tryd.f6
noncomputable def ZaP.cx : Fx := ⟨Tryd.prog, 6, Tryd.f6, none⟩
noncomputable def ZaP.out (r_ : Int) : Value := .int .i64 r_
noncomputable def ZaP.K1 (a0 : Zas) (j56 : Bool) : M Int :=
 if j56 = true then
  pure 165
 else
  Zai a0.From a0.Kind a0.Proto >>= fun r57 =>
  if r57 ≠ 0 then
   pure r57
  else
   Zai a0.To a0.Kind a0.Proto >>= fun r58 =>
   pure r58
theorem ZaP.K1_ok (a0 : Zas) (b1 : Nat) (j56 : Bool) :
  SJ ZaP.cx [.code (c2 (c2 (c2 (c2 (c2 (c1 (c1 (c2 (c2 (c2 ZaP.B)))))))))), .inBlock 0, .code (c2 (c2 (c2 (c2 ZaP.B))))] [(1, .pointer (some (pt b1 0))), (77, .bool j56)] [(b1, Zaq.enc a0)] (ZaP.K1 a0 j56) (rt ZaP.out) := by
 unfold ZaP.K1
 refine J.f ?_ ?_
 ·exact SJ.sr 1 <| J.z 1 <| J.r
 ·refine SJ.skip <| SJ.inBlock <| SJ.seq <| SJ.sr 8 <| J.k 1 0 rfl Ty25 (ZdD _) <| J.k 1 0 rfl Ty3 (Zbz _) <| J.k 1 0 rfl Ty3 (Zbk _) <| J.C 0 F14 (ZeZ _ _ _) fun r57 => J.z 1 <| SJ.sr 2 <| J.z 2 <| J.f ?_ ?_
  ·exact SJ.sr 2 <| J.z 2 <| J.r
  ·exact SJ.skip <| SJ.sr 8 <| J.k 1 0 rfl Ty25 (Zdy _) <| J.k 1 0 rfl Ty3 (Zbz _) <| J.k 1 0 rfl Ty3 (Zbk _) <| J.C 0 F14 (ZeZ _ _ _) fun r58 => J.z 1 <| J.r
noncomputable def ZaP.K2 (a0 : Zas) (j44 : Bool) : M Int :=
 if j44 = true then
  pure 165
 else
  (if (bor .i64 a0.Set a0.Clear) ≠ 0 then
    pure (a0.Proto != 6)
   else
    pure false) >>= fun y53 =>
  if y53 = true then
   ZaP.K1 a0 y53
  else
   (if a0.Type_ ≠ 0 then
     Zc0 a0.Proto >>= fun r61 =>
     pure (!r61)
    else
     pure false) >>= fun y62 =>
   ZaP.K1 a0 y62
theorem ZaP.K2_ok (a0 : Zas) (b1 : Nat) (j44 : Bool) :
  SJ ZaP.cx [.code (c2 (c2 (c2 (c1 (c1 (c2 (c2 (c2 ZaP.B)))))))), .inBlock 0, .code (c2 (c2 (c2 (c2 ZaP.B))))] [(1, .pointer (some (pt b1 0))), (60, .bool j44)] [(b1, Zaq.enc a0)] (ZaP.K2 a0 j44) (rt ZaP.out) := by
 unfold ZaP.K2
 refine J.f ?_ ?_
 ·exact SJ.sr 1 <| J.z 1 <| J.r
 ·refine SJ.seq <| SJ.sr 12 <| J.k 1 0 rfl Ty3 (Zcc _) <| J.k 1 0 rfl Ty3 (ZbR _) <| J.j 3 3 .bool ?_ ?_ fun y53 => ?_
  ·exact J.k 1 0 rfl Ty3 (Zbk _) <| J.e 2
  ·exact J.e 4
  ·refine J.z 1 <| J.f ?_ ?_
   ·exact SJ.skip <| J.q <| ZaP.K1_ok a0 b1 y53
   ·refine SJ.rg 10 <| J.k 1 0 rfl Ty3 (Zcn _) <| J.j 2 4 .bool ?_ ?_ fun y62 => ?_
    ·exact J.k 1 0 rfl Ty3 (Zbk _) <| J.C 0 F13 (ZgQ _) fun r61 => J.e 2
    ·exact J.e 5
    ·exact J.z 1 <| J.q <| ZaP.K1_ok a0 b1 y62
noncomputable def ZaP (a0 : Zas) : M Int :=
 slot 27 >>= fun b1 =>
 Zbp a0.Act 1 3 >>= fun r2 =>
 (if r2 = true then
   Zbp a0.Class 0 7 >>= fun r3 =>
   pure r3
  else
   pure false) >>= fun y4 =>
 (if y4 = true then
   Zbp a0.Kind 0 3 >>= fun r5 =>
   pure r5
  else
   pure false) >>= fun y6 =>
 (if y6 = true then
   Zbp a0.Proto 0 255 >>= fun r7 =>
   pure r7
  else
   pure false) >>= fun y8 =>
 (if y8 = true then
   Zbp a0.In 0 8 >>= fun r9 =>
   pure r9
  else
   pure false) >>= fun y10 =>
 (if y10 = true then
   Zbp a0.Vid 0 4094 >>= fun r11 =>
   pure r11
  else
   pure false) >>= fun y12 =>
 (if y12 = true then
   Zbp a0.Set 0 255 >>= fun r13 =>
   pure r13
  else
   pure false) >>= fun y14 =>
 (if y14 = true then
   Zbp a0.Clear 0 255 >>= fun r15 =>
   pure r15
  else
   pure false) >>= fun y16 =>
 (if y16 = true then
   Zbp a0.Type_ 0 256 >>= fun r17 =>
   pure r17
  else
   pure false) >>= fun y18 =>
 (if y18 = true then
   pure ((band .i64 a0.Set a0.Clear) == 0)
  else
   pure false) >>= fun y19 =>
 if ¬ (y19 = true) then
  pure 166
 else
  (if a0.Class ≠ 0 then
    pure (a0.Act != 1)
   else
    pure false) >>= fun y42 =>
  if y42 = true then
   ZaP.K2 a0 y42
  else
   (if a0.Proto ≠ 0 then
     pure (a0.Kind == 1)
    else
     pure false) >>= fun y65 =>
   ZaP.K2 a0 y65
theorem Zfc (a0 : Zas) : Ref Tryd.prog 6 [Zaq.val a0] (ZaP a0) ZaP.out := by
 refine J.Fn Tryd.func6 ?_
 unfold ZaP
 refine SJ.sr 2 <| J.b 0 Zaq a0 fun b1 => J.z 1 <| SJ.sr 24 <| J.k 1 0 rfl Ty3 (ZbV _) <| J.C 0 F12 (ZbK _ _ _) fun r2 => J.j 1 3 .bool ?_ ?_ fun y4 => ?_
 ·exact J.k 1 0 rfl Ty3 (Zco _) <| J.C 0 F12 (ZbK _ _ _) fun r3 => J.e 1
 ·exact J.e 4
 ·refine J.j 1 3 .bool ?_ ?_ fun y6 => ?_
  ·exact J.k 1 0 rfl Ty3 (Zbz _) <| J.C 0 F12 (ZbK _ _ _) fun r5 => J.e 1
  ·exact J.e 4
  ·refine J.j 1 3 .bool ?_ ?_ fun y8 => ?_
   ·exact J.k 1 0 rfl Ty3 (Zbk _) <| J.C 0 F12 (ZbK _ _ _) fun r7 => J.e 1
   ·exact J.e 4
   ·refine J.j 1 3 .bool ?_ ?_ fun y10 => ?_
    ·exact J.k 1 0 rfl Ty3 (Zdz _) <| J.C 0 F12 (ZbK _ _ _) fun r9 => J.e 1
    ·exact J.e 4
    ·refine J.z 1 <| SJ.sr 30 <| J.j 2 3 .bool ?_ ?_ fun y12 => ?_
     ·exact J.k 1 0 rfl Ty3 (Zdl _) <| J.C 0 F12 (ZbK _ _ _) fun r11 => J.e 1
     ·exact J.e 4
     ·refine J.j 1 3 .bool ?_ ?_ fun y14 => ?_
      ·exact J.k 1 0 rfl Ty3 (Zcc _) <| J.C 0 F12 (ZbK _ _ _) fun r13 => J.e 1
      ·exact J.e 4
      ·refine J.j 1 3 .bool ?_ ?_ fun y16 => ?_
       ·exact J.k 1 0 rfl Ty3 (ZbR _) <| J.C 0 F12 (ZbK _ _ _) fun r15 => J.e 1
       ·exact J.e 4
       ·refine J.j 1 3 .bool ?_ ?_ fun y18 => ?_
        ·exact J.k 1 0 rfl Ty3 (Zcn _) <| J.C 0 F12 (ZbK _ _ _) fun r17 => J.e 1
        ·exact J.e 4
        ·refine J.j 1 6 .bool ?_ ?_ fun y19 => ?_
         ·exact J.k 1 0 rfl Ty3 (Zcc _) <| J.k 1 0 rfl Ty3 (ZbR _) <| J.e 3
         ·exact J.e 7
         ·refine J.z 1 <| SJ.seq <| SJ.block (id := 0) <| SJ.sr 3 <| J.z 3 <| J.f ?_ ?_
          ·exact SJ.sr 1 <| J.z 1 <| J.r
          ·refine SJ.seq <| SJ.sr 9 <| J.k 1 0 rfl Ty3 (Zco _) <| J.j 2 3 .bool ?_ ?_ fun y42 => ?_
           ·exact J.k 1 0 rfl Ty3 (ZbV _) <| J.e 2
           ·exact J.e 4
           ·refine J.z 1 <| J.f ?_ ?_
            ·exact SJ.skip <| J.q <| ZaP.K2_ok a0 b1 y42
            ·refine SJ.rg 9 <| J.k 1 0 rfl Ty3 (Zbk _) <| J.j 2 3 .bool ?_ ?_ fun y65 => ?_
             ·exact J.k 1 0 rfl Ty3 (Zbz _) <| J.e 2
             ·exact J.e 4
             ·exact J.z 1 <| J.q <| ZaP.K2_ok a0 b1 y65

/-! ### internal/strconv.small: function 65 -/
noncomputable def ZcZ.out (r_ : ByteArray) : Value := .string r_
noncomputable def ZcZ (a0 : Int) : M ByteArray :=
 if a0 < 10 then
  chk (0 ≤ (a0 : Int) ∧ (a0 : Int) ≤ (IntKind.wrap .i64 (a0 + 1)) ∧ (IntKind.wrap .i64 (a0 + 1)) ≤ (Zhk.size : Int)) >>= fun _ =>
  pure (ByteArray.extract Zhk (Int.toNat a0) (Int.toNat (IntKind.wrap .i64 (a0 + 1))))
 else
  chk (0 ≤ ((IntKind.wrap .i64 (a0 * 2)) : Int) ∧ ((IntKind.wrap .i64 (a0 * 2)) : Int) ≤ (IntKind.wrap .i64 ((IntKind.wrap .i64 (a0 * 2)) + 2)) ∧ (IntKind.wrap .i64 ((IntKind.wrap .i64 (a0 * 2)) + 2)) ≤ (Zdh.size : Int)) >>= fun _ =>
  pure (ByteArray.extract Zdh (Int.toNat (IntKind.wrap .i64 (a0 * 2))) (Int.toNat (IntKind.wrap .i64 ((IntKind.wrap .i64 (a0 * 2)) + 2))))
theorem ZiI (a0 : Int) : Ref Tryd.prog 65 [.int .i64 a0] (ZcZ a0) ZcZ.out := by
 refine J.Fn Tryd.func65 ?_
 unfold ZcZ
 refine SJ.sr 1 <| J.z 1 <| SJ.seq <| SJ.sr 2 <| J.z 2 <| J.f ?_ ?_
 ·exact SJ.sr 5 <| J.g 3 <| OJ.cutT (d := 8) (t := 9) (y := .const (.string Zhk)) (lo := (some (.tmp 5))) (hi := (some (.tmp 7))) (lo' := some (.i64, a0)) (hi' := some (.i64, IntKind.wrap .i64 (a0 + 1))) <| J.z 1 <| J.r
 ·exact SJ.skip <| SJ.sr 7 <| J.g 5 <| OJ.cutT (d := 14) (t := 9) (y := .const (.string Zdh)) (lo := (some (.tmp 10))) (hi := (some (.tmp 13))) (lo' := some (.i64, IntKind.wrap .i64 (a0 * 2))) (hi' := some (.i64, IntKind.wrap .i64 ((IntKind.wrap .i64 (a0 * 2)) + 2))) <| J.z 1 <| J.r

/-! ### math/bits.Len64: function 77 -/
noncomputable def ZaU.B : Code := bod Tryd.f77
noncomputable def ZaU.cx : Fx := ⟨Tryd.prog, 77, Tryd.f77, none⟩
noncomputable def ZaU.out (r_ : Int) : Value := .int .i64 r_
noncomputable def ZaU.K1 (j3 : Int) (j4 : Int) : M Int :=
 if j3 ≥ 256 then
  chk ((0 : Int) ≤ (IntKind.wrap .u8 (Int.fdiv j3 (2 ^ 8))) ∧ (IntKind.wrap .u8 (Int.fdiv j3 (2 ^ 8))) < (ZgJ.size : Int)) >>= fun _ =>
  pure (IntKind.wrap .i64 ((IntKind.wrap .i64 (j4 + 8)) + (IntKind.wrap .i64 (sb ZgJ (IntKind.wrap .u8 (Int.fdiv j3 (2 ^ 8)))))))
 else
  chk ((0 : Int) ≤ (IntKind.wrap .u8 j3) ∧ (IntKind.wrap .u8 j3) < (ZgJ.size : Int)) >>= fun _ =>
  pure (IntKind.wrap .i64 (j4 + (IntKind.wrap .i64 (sb ZgJ (IntKind.wrap .u8 j3)))))
theorem ZaU.K1_ok (j3 : Int) (j4 : Int) :
  SJ ZaU.cx [.code (c2 (c2 (c2 ZaU.B)))] [(0, .int .u64 j3), (2, .int .i64 j4)] [] (ZaU.K1 j3 j4) (rt ZaU.out) := by
 unfold ZaU.K1
 refine SJ.seq <| SJ.sr 2 <| J.z 2 <| J.f ?_ ?_
 ·exact SJ.sr 3 <| J.z 3 <| SJ.rg 3 <| J.z 3 <| SJ.sr 7 <| J.t 3 fun hb5 hb6 => J.z 3 <| J.r
 ·exact SJ.skip <| SJ.sr 7 <| J.t 3 fun hb7 hb8 => J.z 3 <| J.r
noncomputable def ZaU.K2 (j1 : Int) (j2 : Int) : M Int :=
 if j1 ≥ 65536 then
  ZaU.K1 (Int.fdiv j1 (2 ^ 16)) (IntKind.wrap .i64 (j2 + 16))
 else
  ZaU.K1 j1 j2
theorem ZaU.K2_ok (j1 : Int) (j2 : Int) :
  SJ ZaU.cx [.code (c2 (c2 ZaU.B))] [(0, .int .u64 j1), (2, .int .i64 j2)] [] (ZaU.K2 j1 j2) (rt ZaU.out) := by
 unfold ZaU.K2
 refine SJ.seq <| SJ.sr 2 <| J.z 2 <| J.f ?_ ?_
 ·exact SJ.sr 3 <| J.z 3 <| SJ.rg 3 <| J.z 3 <| J.q <| ZaU.K1_ok (Int.fdiv j1 (2 ^ 16)) (IntKind.wrap .i64 (j2 + 16))
 ·exact SJ.skip <| J.q <| ZaU.K1_ok j1 j2
noncomputable def ZaU (a0 : Int) : M Int :=
 if a0 ≥ 4294967296 then
  ZaU.K2 (Int.fdiv a0 (2 ^ 32)) 32
 else
  ZaU.K2 a0 0
theorem ZlH (a0 : Int) : Ref Tryd.prog 77 [.int .u64 a0] (ZaU a0) ZaU.out := by
 refine J.Fn Tryd.func77 ?_
 unfold ZaU
 refine SJ.sr 1 <| J.z 1 <| SJ.seq <| SJ.sr 2 <| J.z 2 <| J.f ?_ ?_
 ·exact SJ.sr 3 <| J.z 3 <| SJ.rg 1 <| J.z 1 <| J.q <| ZaU.K2_ok (Int.fdiv a0 (2 ^ 32)) 32
 ·exact SJ.skip <| J.q <| ZaU.K2_ok a0 0

/-! ### internal/strconv.log10Pow2: function 76 -/
noncomputable def Zb3.out (r_ : Int) : Value := .int .i64 r_
noncomputable def Zb3 (a0 : Int) : M Int :=
 pure (Int.fdiv (IntKind.wrap .i64 (a0 * 78913)) (2 ^ 18))
theorem ZgH (a0 : Int) : Ref Tryd.prog 76 [.int .i64 a0] (Zb3 a0) Zb3.out := by
 refine J.Fn Tryd.func76 ?_
 unfold Zb3
 exact SJ.sr 1 <| J.z 1 <| SJ.sr 4 <| J.z 4 <| J.r

/-! ### internal/strconv.bool2[int]: function 78 -/
noncomputable def Zb4.out (r_ : Int) : Value := .int .i64 r_
noncomputable def Zb4 (a0 : Bool) : M Int :=
 if a0 = true then
  pure 1
 else
  pure 0
theorem ZgI (a0 : Bool) : Ref Tryd.prog 78 [.bool a0] (Zb4 a0) Zb4.out := by
 refine J.Fn Tryd.func78 ?_
 unfold Zb4
 refine SJ.sr 1 <| J.z 1 <| SJ.seq <| SJ.sr 1 <| J.z 1 <| J.f ?_ ?_
 ·exact SJ.sr 1 <| J.z 1 <| J.r
 ·exact SJ.skip <| SJ.sr 1 <| J.z 1 <| J.r

/-! ### internal/strconv.numDigits: function 66 -/
noncomputable def ZbE.out (r_ : Int) : Value := .int .i64 r_
noncomputable def ZbE (a0 : Int) : M Int :=
 ZaU a0 >>= fun r1 =>
 Zb3 r1 >>= fun r2 =>
 idx (some ⟨3, 0, none⟩) 20 r2 1 >>= fun p3 =>
 ld (cI .u64) p3 >>= fun x4 =>
 Zb4 (decide (a0 ≥ x4)) >>= fun r5 =>
 pure (IntKind.wrap .i64 (r2 + r5))
theorem ZgG (a0 : Int) : Ref Tryd.prog 66 [.int .u64 a0] (ZbE a0) ZbE.out := by
 refine J.Fn Tryd.func66 ?_
 unfold ZbE
 exact SJ.sr 1 <| J.z 1 <| SJ.sr 4 <| J.C 1 F77 (ZlH _) fun r1 => J.C 0 F76 (ZgH _) fun r2 => J.z 1 <| SJ.sr 9 <| J.g 3 <| OJ.idxA (d := 10) (T := 133) (y := .global 3) (j := .tmp 9) (E := 116) (k := .i64) fun p3 => J.l 0 Zue fun x4 => J.C 1 F78 (ZgI _) fun r5 => J.z 2 <| J.r

/-! ### internal/strconv.formatBase10: function 67 -/
noncomputable def Zab.B : Code := bod Tryd.f67
noncomputable def Zab.cx : Fx := ⟨Tryd.prog, 67, Tryd.f67, none⟩
noncomputable def Zab.out (r_ : Unit) : Value := .tuple #[]
noncomputable def Zab.K1 (a0 : Sl) (j48 : Int) (j49 : Int) : M Unit :=
 if j48 > 0 then
  idx a0.a a0.len 0 1 >>= fun p51 =>
  st (cI .u8) p51 (IntKind.wrap .u8 (IntKind.wrap .u32 (48 + j49))) >>= fun _ =>
  pure ()
 else
  pure ()
theorem Zab.K1_ok (a0 : Sl) (j48 : Int) (j49 : Int) :
  SJ Zab.cx [.code (c2 (c2 (c2 (c2 (c2 Zab.B)))))] [(0, Sl.v a0), (4, .int .i64 j48), (12, .int .u32 j49)] [] (Zab.K1 a0 j48 j49) (rt Zab.out) := by
 unfold Zab.K1
 refine SJ.sr 2 <| J.z 2 <| J.f ?_ ?_
 ·exact SJ.rg 6 <| J.i 4 fun p51 => J.w 0 Ty5 <| J.z 0 <| SJ.end_ rfl (Res.run (ys := []) .nil rfl)
 ·exact SJ.skip <| SJ.end_ rfl (Res.run (ys := []) .nil rfl)
noncomputable def Zab.K2 (a0 : Sl) (j40 : Int) (j41 : Int) : M Unit :=
 if j40 ≥ 2 then
  draw >>= fun _ =>
  chk ((0 : Int) ≤ (IntKind.wrap .u32 ((IntKind.wrap .u32 ((Int.tmod j41 100) * 2)) + 1)) ∧ (IntKind.wrap .u32 ((IntKind.wrap .u32 ((Int.tmod j41 100) * 2)) + 1)) < (Zdh.size : Int)) >>= fun _ =>
  chk ((0 : Int) ≤ (IntKind.wrap .u32 ((Int.tmod j41 100) * 2)) ∧ (IntKind.wrap .u32 ((Int.tmod j41 100) * 2)) < (Zdh.size : Int)) >>= fun _ =>
  idx a0.a a0.len (IntKind.wrap .i64 (j40 - 1)) 1 >>= fun p57 =>
  st (cI .u8) p57 (sb Zdh (IntKind.wrap .u32 ((IntKind.wrap .u32 ((Int.tmod j41 100) * 2)) + 1))) >>= fun _ =>
  idx a0.a a0.len (IntKind.wrap .i64 (j40 - 2)) 1 >>= fun p58 =>
  st (cI .u8) p58 (sb Zdh (IntKind.wrap .u32 ((Int.tmod j41 100) * 2))) >>= fun _ =>
  Zab.K1 a0 (IntKind.wrap .i64 (j40 - 2)) (IntKind.wrap .u32 (Int.tdiv j41 100))
 else
  Zab.K1 a0 j40 j41
theorem Zab.K2_ok (a0 : Sl) (j40 : Int) (j41 : Int) :
  SJ Zab.cx [.code (c2 (c2 (c2 (c2 Zab.B))))] [(0, Sl.v a0), (4, .int .i64 j40), (12, .int .u32 j41)] [] (Zab.K2 a0 j40 j41) (rt Zab.out) := by
 unfold Zab.K2
 refine SJ.seq <| SJ.sr 2 <| J.z 2 <| J.f ?_ ?_
 ·exact SJ.sr 4 <| J.z 4 <| SJ.sr 3 <| J.z 3 <| SJ.seq <| J.R 15 Zc6 <| J.t 8 fun hb53 hb54 => J.t 1 fun hb55 hb56 => J.i 0 fun p57 => J.w 0 Ty5 <| J.i 0 fun p58 => J.w 0 Ty5 <| J.z 0 <| SJ.rg 3 <| J.z 3 <| J.q <| Zab.K1_ok a0 (IntKind.wrap .i64 (j40 - 2)) (IntKind.wrap .u32 (Int.tdiv j41 100))
 ·exact SJ.skip <| J.q <| Zab.K1_ok a0 j40 j41
noncomputable def Zab.K3 (a0 : Sl) (s1 : Int) (s2 : Int) : M Unit :=
 if s2 ≥ 4 then
  draw >>= fun _ =>
  chk ((0 : Int) ≤ (IntKind.wrap .u32 ((IntKind.wrap .u32 ((Int.tmod (Int.tmod (IntKind.wrap .u32 s1) 10000) 100) * 2)) + 1)) ∧ (IntKind.wrap .u32 ((IntKind.wrap .u32 ((Int.tmod (Int.tmod (IntKind.wrap .u32 s1) 10000) 100) * 2)) + 1)) < (Zdh.size : Int)) >>= fun _ =>
  chk ((0 : Int) ≤ (IntKind.wrap .u32 ((Int.tmod (Int.tmod (IntKind.wrap .u32 s1) 10000) 100) * 2)) ∧ (IntKind.wrap .u32 ((Int.tmod (Int.tmod (IntKind.wrap .u32 s1) 10000) 100) * 2)) < (Zdh.size : Int)) >>= fun _ =>
  idx a0.a a0.len (IntKind.wrap .i64 (s2 - 1)) 1 >>= fun p64 =>
  st (cI .u8) p64 (sb Zdh (IntKind.wrap .u32 ((IntKind.wrap .u32 ((Int.tmod (Int.tmod (IntKind.wrap .u32 s1) 10000) 100) * 2)) + 1))) >>= fun _ =>
  idx a0.a a0.len (IntKind.wrap .i64 (s2 - 2)) 1 >>= fun p65 =>
  st (cI .u8) p65 (sb Zdh (IntKind.wrap .u32 ((Int.tmod (Int.tmod (IntKind.wrap .u32 s1) 10000) 100) * 2))) >>= fun _ =>
  draw >>= fun _ =>
  chk ((0 : Int) ≤ (IntKind.wrap .u32 ((IntKind.wrap .u32 ((IntKind.wrap .u32 (Int.tdiv (Int.tmod (IntKind.wrap .u32 s1) 10000) 100)) * 2)) + 1)) ∧ (IntKind.wrap .u32 ((IntKind.wrap .u32 ((IntKind.wrap .u32 (Int.tdiv (Int.tmod (IntKind.wrap .u32 s1) 10000) 100)) * 2)) + 1)) < (Zdh.size : Int)) >>= fun _ =>
  chk ((0 : Int) ≤ (IntKind.wrap .u32 ((IntKind.wrap .u32 (Int.tdiv (Int.tmod (IntKind.wrap .u32 s1) 10000) 100)) * 2)) ∧ (IntKind.wrap .u32 ((IntKind.wrap .u32 (Int.tdiv (Int.tmod (IntKind.wrap .u32 s1) 10000) 100)) * 2)) < (Zdh.size : Int)) >>= fun _ =>
  idx a0.a a0.len (IntKind.wrap .i64 (s2 - 3)) 1 >>= fun p70 =>
  st (cI .u8) p70 (sb Zdh (IntKind.wrap .u32 ((IntKind.wrap .u32 ((IntKind.wrap .u32 (Int.tdiv (Int.tmod (IntKind.wrap .u32 s1) 10000) 100)) * 2)) + 1))) >>= fun _ =>
  idx a0.a a0.len (IntKind.wrap .i64 (s2 - 4)) 1 >>= fun p71 =>
  st (cI .u8) p71 (sb Zdh (IntKind.wrap .u32 ((IntKind.wrap .u32 (Int.tdiv (Int.tmod (IntKind.wrap .u32 s1) 10000) 100)) * 2))) >>= fun _ =>
  Zab.K2 a0 (IntKind.wrap .i64 (s2 - 4)) (IntKind.wrap .u32 (Int.tdiv (IntKind.wrap .u32 s1) 10000))
 else
  Zab.K2 a0 s2 (IntKind.wrap .u32 s1)
theorem Zab.K3_ok (a0 : Sl) (s1 : Int) (s2 : Int) :
  SJ Zab.cx [.code (c2 (c2 Zab.B))] [(0, Sl.v a0), (1, .int .u64 s1), (4, .int .i64 s2)] [] (Zab.K3 a0 s1 s2) (rt Zab.out) := by
 unfold Zab.K3
 refine SJ.sr 3 <| J.z 3 <| SJ.seq <| SJ.sr 2 <| J.z 2 <| J.f ?_ ?_
 ·exact SJ.sr 3 <| J.z 3 <| SJ.sr 3 <| J.z 3 <| SJ.sr 8 <| J.z 8 <| SJ.seq <| J.R 15 Zc6 <| J.t 8 fun hb60 hb61 => J.t 1 fun hb62 hb63 => J.i 0 fun p64 => J.w 0 Ty5 <| J.i 0 fun p65 => J.w 0 Ty5 <| J.z 0 <| SJ.seq <| J.R 15 Zc6 <| J.t 8 fun hb66 hb67 => J.t 1 fun hb68 hb69 => J.i 0 fun p70 => J.w 0 Ty5 <| J.i 0 fun p71 => J.w 0 Ty5 <| J.z 0 <| SJ.rg 3 <| J.z 3 <| J.q <| Zab.K2_ok a0 (IntKind.wrap .i64 (s2 - 4)) (IntKind.wrap .u32 (Int.tdiv (IntKind.wrap .u32 s1) 10000))
 ·exact SJ.skip <| J.q <| Zab.K2_ok a0 s2 (IntKind.wrap .u32 s1)
noncomputable def Zab.F1 (a0 : Sl) : LF (Int × Int) Unit := ⟨[.inBlock 0, .code (c2 (c2 Zab.B))], c1 (c1 (c2 Zab.B)), fun s_ => [(0, Sl.v a0), (1, .int .u64 s_.1), (4, .int .i64 s_.2)], fun s_ => [], (rt Zab.out)⟩
noncomputable def Zab.L1 (a0 : Sl) (s1 : Int) (s2 : Int) : M (LS (Int × Int) Unit) :=
 if s2 ≥ 8 then
  draw >>= fun _ =>
  chk ((0 : Int) ≤ (IntKind.wrap .u32 ((IntKind.wrap .u32 ((Int.tmod (Int.tmod (IntKind.wrap .u32 (Int.tmod s1 100000000)) 10000) 100) * 2)) + 1)) ∧ (IntKind.wrap .u32 ((IntKind.wrap .u32 ((Int.tmod (Int.tmod (IntKind.wrap .u32 (Int.tmod s1 100000000)) 10000) 100) * 2)) + 1)) < (Zdh.size : Int)) >>= fun _ =>
  chk ((0 : Int) ≤ (IntKind.wrap .u32 ((Int.tmod (Int.tmod (IntKind.wrap .u32 (Int.tmod s1 100000000)) 10000) 100) * 2)) ∧ (IntKind.wrap .u32 ((Int.tmod (Int.tmod (IntKind.wrap .u32 (Int.tmod s1 100000000)) 10000) 100) * 2)) < (Zdh.size : Int)) >>= fun _ =>
  idx a0.a a0.len (IntKind.wrap .i64 (s2 - 1)) 1 >>= fun p77 =>
  st (cI .u8) p77 (sb Zdh (IntKind.wrap .u32 ((IntKind.wrap .u32 ((Int.tmod (Int.tmod (IntKind.wrap .u32 (Int.tmod s1 100000000)) 10000) 100) * 2)) + 1))) >>= fun _ =>
  idx a0.a a0.len (IntKind.wrap .i64 (s2 - 2)) 1 >>= fun p78 =>
  st (cI .u8) p78 (sb Zdh (IntKind.wrap .u32 ((Int.tmod (Int.tmod (IntKind.wrap .u32 (Int.tmod s1 100000000)) 10000) 100) * 2))) >>= fun _ =>
  draw >>= fun _ =>
  chk ((0 : Int) ≤ (IntKind.wrap .u32 ((IntKind.wrap .u32 ((IntKind.wrap .u32 (Int.tdiv (Int.tmod (IntKind.wrap .u32 (Int.tmod s1 100000000)) 10000) 100)) * 2)) + 1)) ∧ (IntKind.wrap .u32 ((IntKind.wrap .u32 ((IntKind.wrap .u32 (Int.tdiv (Int.tmod (IntKind.wrap .u32 (Int.tmod s1 100000000)) 10000) 100)) * 2)) + 1)) < (Zdh.size : Int)) >>= fun _ =>
  chk ((0 : Int) ≤ (IntKind.wrap .u32 ((IntKind.wrap .u32 (Int.tdiv (Int.tmod (IntKind.wrap .u32 (Int.tmod s1 100000000)) 10000) 100)) * 2)) ∧ (IntKind.wrap .u32 ((IntKind.wrap .u32 (Int.tdiv (Int.tmod (IntKind.wrap .u32 (Int.tmod s1 100000000)) 10000) 100)) * 2)) < (Zdh.size : Int)) >>= fun _ =>
  idx a0.a a0.len (IntKind.wrap .i64 (s2 - 3)) 1 >>= fun p83 =>
  st (cI .u8) p83 (sb Zdh (IntKind.wrap .u32 ((IntKind.wrap .u32 ((IntKind.wrap .u32 (Int.tdiv (Int.tmod (IntKind.wrap .u32 (Int.tmod s1 100000000)) 10000) 100)) * 2)) + 1))) >>= fun _ =>
  idx a0.a a0.len (IntKind.wrap .i64 (s2 - 4)) 1 >>= fun p84 =>
  st (cI .u8) p84 (sb Zdh (IntKind.wrap .u32 ((IntKind.wrap .u32 (Int.tdiv (Int.tmod (IntKind.wrap .u32 (Int.tmod s1 100000000)) 10000) 100)) * 2))) >>= fun _ =>
  draw >>= fun _ =>
  chk ((0 : Int) ≤ (IntKind.wrap .u32 ((IntKind.wrap .u32 ((Int.tmod (IntKind.wrap .u32 (Int.tdiv (IntKind.wrap .u32 (Int.tmod s1 100000000)) 10000)) 100) * 2)) + 1)) ∧ (IntKind.wrap .u32 ((IntKind.wrap .u32 ((Int.tmod (IntKind.wrap .u32 (Int.tdiv (IntKind.wrap .u32 (Int.tmod s1 100000000)) 10000)) 100) * 2)) + 1)) < (Zdh.size : Int)) >>= fun _ =>
  chk ((0 : Int) ≤ (IntKind.wrap .u32 ((Int.tmod (IntKind.wrap .u32 (Int.tdiv (IntKind.wrap .u32 (Int.tmod s1 100000000)) 10000)) 100) * 2)) ∧ (IntKind.wrap .u32 ((Int.tmod (IntKind.wrap .u32 (Int.tdiv (IntKind.wrap .u32 (Int.tmod s1 100000000)) 10000)) 100) * 2)) < (Zdh.size : Int)) >>= fun _ =>
  idx a0.a a0.len (IntKind.wrap .i64 (s2 - 5)) 1 >>= fun p89 =>
  st (cI .u8) p89 (sb Zdh (IntKind.wrap .u32 ((IntKind.wrap .u32 ((Int.tmod (IntKind.wrap .u32 (Int.tdiv (IntKind.wrap .u32 (Int.tmod s1 100000000)) 10000)) 100) * 2)) + 1))) >>= fun _ =>
  idx a0.a a0.len (IntKind.wrap .i64 (s2 - 6)) 1 >>= fun p90 =>
  st (cI .u8) p90 (sb Zdh (IntKind.wrap .u32 ((Int.tmod (IntKind.wrap .u32 (Int.tdiv (IntKind.wrap .u32 (Int.tmod s1 100000000)) 10000)) 100) * 2))) >>= fun _ =>
  draw >>= fun _ =>
  chk ((0 : Int) ≤ (IntKind.wrap .u32 ((IntKind.wrap .u32 ((IntKind.wrap .u32 (Int.tdiv (IntKind.wrap .u32 (Int.tdiv (IntKind.wrap .u32 (Int.tmod s1 100000000)) 10000)) 100)) * 2)) + 1)) ∧ (IntKind.wrap .u32 ((IntKind.wrap .u32 ((IntKind.wrap .u32 (Int.tdiv (IntKind.wrap .u32 (Int.tdiv (IntKind.wrap .u32 (Int.tmod s1 100000000)) 10000)) 100)) * 2)) + 1)) < (Zdh.size : Int)) >>= fun _ =>
  chk ((0 : Int) ≤ (IntKind.wrap .u32 ((IntKind.wrap .u32 (Int.tdiv (IntKind.wrap .u32 (Int.tdiv (IntKind.wrap .u32 (Int.tmod s1 100000000)) 10000)) 100)) * 2)) ∧ (IntKind.wrap .u32 ((IntKind.wrap .u32 (Int.tdiv (IntKind.wrap .u32 (Int.tdiv (IntKind.wrap .u32 (Int.tmod s1 100000000)) 10000)) 100)) * 2)) < (Zdh.size : Int)) >>= fun _ =>
  idx a0.a a0.len (IntKind.wrap .i64 (s2 - 7)) 1 >>= fun p95 =>
  st (cI .u8) p95 (sb Zdh (IntKind.wrap .u32 ((IntKind.wrap .u32 ((IntKind.wrap .u32 (Int.tdiv (IntKind.wrap .u32 (Int.tdiv (IntKind.wrap .u32 (Int.tmod s1 100000000)) 10000)) 100)) * 2)) + 1))) >>= fun _ =>
  idx a0.a a0.len (IntKind.wrap .i64 (s2 - 8)) 1 >>= fun p96 =>
  st (cI .u8) p96 (sb Zdh (IntKind.wrap .u32 ((IntKind.wrap .u32 (Int.tdiv (IntKind.wrap .u32 (Int.tdiv (IntKind.wrap .u32 (Int.tmod s1 100000000)) 10000)) 100)) * 2))) >>= fun _ =>
  pure (LS.next (IntKind.wrap .u64 (Int.tdiv s1 100000000), IntKind.wrap .i64 (s2 - 8)))
 else
  (Zab.K3 a0 s1 s2) >>= fun b => pure (LS.done b)
theorem Zab.L1_ok (a0 : Sl) : LJ Zab.cx (Zab.F1 a0) (fun s_ => Zab.L1 a0 s_.1 s_.2) := by
 rintro ⟨s1, s2⟩
 show SJ _ _ _ _ (Zab.L1 a0 s1 s2) _
 unfold Zab.L1
 refine SJ.seq <| SJ.sr 2 <| J.z 2 <| J.f ?_ ?_
 ·exact SJ.skip <| SJ.block (id := 1) <| SJ.sr 4 <| J.z 4 <| SJ.sr 3 <| J.z 3 <| SJ.sr 6 <| J.z 6 <| SJ.sr 8 <| J.z 8 <| SJ.sr 8 <| J.z 8 <| SJ.seq <| J.R 15 Zc6 <| J.t 8 fun hb73 hb74 => J.t 1 fun hb75 hb76 => J.i 0 fun p77 => J.w 0 Ty5 <| J.i 0 fun p78 => J.w 0 Ty5 <| J.z 0 <| SJ.seq <| J.R 15 Zc6 <| J.t 8 fun hb79 hb80 => J.t 1 fun hb81 hb82 => J.i 0 fun p83 => J.w 0 Ty5 <| J.i 0 fun p84 => J.w 0 Ty5 <| J.z 0 <| SJ.seq <| J.R 15 Zc6 <| J.t 8 fun hb85 hb86 => J.t 1 fun hb87 hb88 => J.i 0 fun p89 => J.w 0 Ty5 <| J.i 0 fun p90 => J.w 0 Ty5 <| J.z 0 <| SJ.seq <| J.R 15 Zc6 <| J.t 8 fun hb91 hb92 => J.t 1 fun hb93 hb94 => J.i 0 fun p95 => J.w 0 Ty5 <| J.i 0 fun p96 => J.w 0 Ty5 <| J.z 0 <| SJ.rg 3 <| J.z 3 <| SJ.inBlock <| J.o rfl
 ·exact SJ.exit (id := 0) (by rfl) <| J.q <| SJ.done <| Zab.K3_ok a0 s1 s2
noncomputable def Zab (a0 : Sl) (a1 : Int) : M Unit :=
 Zck (fun s_ : (Int × Int) => Zab.L1 a0 s_.1 s_.2) (a1, (a0.len : Int))
theorem ZfH (a0 : Sl) (a1 : Int) : Ref Tryd.prog 67 [Sl.v a0, .int .u64 a1] (Zab a0 a1) Zab.out := by
 refine J.Fn Tryd.func67 ?_
 unfold Zab
 exact SJ.sr 3 <| J.z 3 <| SJ.seq <| SJ.block (id := 0) <| J.L (Zab.L1_ok a0)

/-! ### internal/strconv.isPowerOfTwo: function 79 -/
noncomputable def ZbY.out (r_ : Bool) : Value := .bool r_
noncomputable def ZbY (a0 : Int) : M Bool :=
 pure ((band .i64 a0 (IntKind.wrap .i64 (a0 - 1))) == 0)
theorem ZfG (a0 : Int) : Ref Tryd.prog 79 [.int .i64 a0] (ZbY a0) ZbY.out := by
 refine J.Fn Tryd.func79 ?_
 unfold ZbY
 exact SJ.sr 1 <| J.z 1 <| SJ.sr 6 <| J.z 6 <| J.r

/-! ### math/bits.TrailingZeros64: function 89 -/
noncomputable def ZbZ.out (r_ : Int) : Value := .int .i64 r_
noncomputable def ZbZ (a0 : Int) : M Int :=
 if a0 = 0 then
  pure 64
 else
  idx (some ⟨6, 0, none⟩) 64 (Int.fdiv (IntKind.wrap .u64 ((band .u64 a0 (IntKind.wrap .u64 (0 - a0))) * 285870213051353865)) (2 ^ 58)) 1 >>= fun p1 =>
  ld (cI .u8) p1 >>= fun x2 =>
  pure (IntKind.wrap .i64 x2)
theorem ZfU (a0 : Int) : Ref Tryd.prog 89 [.int .u64 a0] (ZbZ a0) ZbZ.out := by
 refine J.Fn Tryd.func89 ?_
 unfold ZbZ
 refine SJ.sr 1 <| J.z 1 <| SJ.seq <| SJ.sr 2 <| J.z 2 <| J.f ?_ ?_
 ·exact SJ.sr 1 <| J.z 1 <| J.r
 ·exact SJ.skip <| SJ.sr 10 <| J.g 6 <| OJ.idxA (d := 11) (T := 153) (y := .global 6) (j := .tmp 10) (E := 5) (k := .u64) fun p1 => J.l 0 Ty5 fun x2 => J.z 2 <| J.r

/-! ### math/bits.TrailingZeros: function 80 -/
noncomputable def Zcd.out (r_ : Int) : Value := .int .i64 r_
noncomputable def Zcd (a0 : Int) : M Int :=
 ZbZ a0 >>= fun r1 =>
 pure r1
theorem Zgq (a0 : Int) : Ref Tryd.prog 80 [.int .u64 a0] (Zcd a0) Zcd.out := by
 refine J.Fn Tryd.func80 ?_
 unfold Zcd
 exact SJ.sr 1 <| J.z 1 <| SJ.seq <| SJ.cond0 (t := (.const (.bool false))) <| SJ.skip <| SJ.sr 3 <| J.C 1 F89 (ZfU _) fun r1 => J.z 1 <| J.r

/-! ### internal/strconv.formatBits: function 68 -/
noncomputable def Zaa.B : Code := bod Tryd.f68
noncomputable def Zaa.cx : Fx := ⟨Tryd.prog, 68, Tryd.f68, none⟩
noncomputable def Zaa.out (r_ : (Sl × ByteArray)) : Value := .tuple #[Sl.v r_.1, .string r_.2]
noncomputable def Zaa.K1 (a0 : Sl) (a3 : Bool) (a4 : Bool) (b3 : Nat) (j37 : Int) : M (Sl × ByteArray) :=
 if a3 = true then
  idx (some (pt b3 0)) 65 (IntKind.wrap .i64 (j37 - 1)) 1 >>= fun p39 =>
  st (cI .u8) p39 45 >>= fun _ =>
  if a4 = true then
   cut 1 ⟨some (pt b3 0), 65, 65⟩ (some (IntKind.wrap .i64 (j37 - 1))) none none >>= fun r42 =>
   appS (cI .u8) 5 1 0 a0 r42 >>= fun r43 =>
   pure (r43, ByteArray.empty)
  else
   cut 1 ⟨some (pt b3 0), 65, 65⟩ (some (IntKind.wrap .i64 (j37 - 1))) none none >>= fun r44 =>
   toStr r44 >>= fun r45 =>
   pure (Sl.nil, r45)
 else
  if a4 = true then
   cut 1 ⟨some (pt b3 0), 65, 65⟩ (some j37) none none >>= fun r49 =>
   appS (cI .u8) 5 1 0 a0 r49 >>= fun r50 =>
   pure (r50, ByteArray.empty)
  else
   cut 1 ⟨some (pt b3 0), 65, 65⟩ (some j37) none none >>= fun r51 =>
   toStr r51 >>= fun r52 =>
   pure (Sl.nil, r52)
theorem Zaa.K1_ok (a0 : Sl) (a3 : Bool) (a4 : Bool) (b3 : Nat) (j37 : Int) :
  SJ Zaa.cx [.code (c2 (c2 (c2 (c2 (c2 (c2 Zaa.B))))))] [(0, Sl.v a0), (3, .bool a3), (4, .bool a4), (10, Sl.v Sl.nil), (11, .string ByteArray.empty), (12, .pointer (some (pt b3 0))), (13, .int .i64 j37)] [] (Zaa.K1 a0 a3 a4 b3 j37) (rt Zaa.out) := by
 unfold Zaa.K1
 refine SJ.seq <| SJ.sr 1 <| J.z 1 <| J.f ?_ ?_
 ·refine SJ.sr 3 <| J.z 3 <| SJ.rg 3 <| J.g 1 <| OJ.idxA (d := 93) (T := 135) (y := .tmp 12) (j := .tmp 92) (E := 5) (k := .i64) fun p39 => J.w 0 Ty5 <| J.z 0 <| SJ.seq <| SJ.sr 1 <| J.z 1 <| J.f ?_ ?_
  ·exact SJ.sr 5 <| J.g 2 <| OJ.cutA (d := 97) (t := 135) (E := 5) (y := .tmp 12) (lo := (some (.tmp 96))) (hi := none) (mx := none) (lo' := some (.i64, IntKind.wrap .i64 (j37 - 1))) (hi' := none) (mx' := none) (fun h => by cases h) fun r42 => OJ.appS (d := 98) (t := 81) (u := 81) (so := .tmp 95) (xo := .tmp 97) (owed := []) Ty5 fun r43 => OW.nil <| J.z 1 <| J.r
  ·exact SJ.skip <| SJ.sr 4 <| J.g 1 <| OJ.cutA (d := 100) (t := 135) (E := 5) (y := .tmp 12) (lo := (some (.tmp 99))) (hi := none) (mx := none) (lo' := some (.i64, IntKind.wrap .i64 (j37 - 1))) (hi' := none) (mx' := none) (fun h => by cases h) fun r44 => OJ.toStr (d := 101) (t := 81) (u := 9) (E := 5) (x := .tmp 100) (owed := []) fun r45 => OW.nil <| J.z 1 <| J.r
 ·refine SJ.skip <| SJ.seq <| SJ.sr 1 <| J.z 1 <| J.f ?_ ?_
  ·exact SJ.sr 5 <| J.g 2 <| OJ.cutA (d := 97) (t := 135) (E := 5) (y := .tmp 12) (lo := (some (.tmp 96))) (hi := none) (mx := none) (lo' := some (.i64, j37)) (hi' := none) (mx' := none) (fun h => by cases h) fun r49 => OJ.appS (d := 98) (t := 81) (u := 81) (so := .tmp 95) (xo := .tmp 97) (owed := []) Ty5 fun r50 => OW.nil <| J.z 1 <| J.r
  ·exact SJ.skip <| SJ.sr 4 <| J.g 1 <| OJ.cutA (d := 100) (t := 135) (E := 5) (y := .tmp 12) (lo := (some (.tmp 99))) (hi := none) (mx := none) (lo' := some (.i64, j37)) (hi' := none) (mx' := none) (fun h => by cases h) fun r51 => OJ.toStr (d := 101) (t := 81) (u := 9) (E := 5) (x := .tmp 100) (owed := []) fun r52 => OW.nil <| J.z 1 <| J.r
noncomputable def Zaa.K2 (a0 : Sl) (a3 : Bool) (a4 : Bool) (b3 : Nat) (s56 : Int) (s57 : Int) : M (Sl × ByteArray) :=
 chk ((0 : Int) ≤ s56 ∧ s56 < (Zhk.size : Int)) >>= fun _ =>
 idx (some (pt b3 0)) 65 (IntKind.wrap .i64 (s57 - 1)) 1 >>= fun p65 =>
 st (cI .u8) p65 (sb Zhk s56) >>= fun _ =>
 Zaa.K1 a0 a3 a4 b3 (IntKind.wrap .i64 (s57 - 1))
theorem Zaa.K2_ok (a0 : Sl) (a3 : Bool) (a4 : Bool) (b3 : Nat) (s56 : Int) (s57 : Int) :
  SJ Zaa.cx [.code (c2 (c2 (c2 (c2 (c1 (c2 (c1 (c2 (c2 (c2 (c2 (c2 Zaa.B)))))))))))), .code (c2 (c2 (c2 (c2 (c2 (c2 Zaa.B))))))] [(0, Sl.v a0), (1, .int .u64 s56), (3, .bool a3), (4, .bool a4), (10, Sl.v Sl.nil), (11, .string ByteArray.empty), (12, .pointer (some (pt b3 0))), (13, .int .i64 s57)] [] (Zaa.K2 a0 a3 a4 b3 s56 s57) (rt Zaa.out) := by
 unfold Zaa.K2
 exact SJ.sr 3 <| J.z 3 <| SJ.rg 5 <| J.t 2 fun hb63 hb64 => OJ.idxA (d := 63) (T := 135) (y := .tmp 12) (j := .tmp 60) (E := 5) (k := .i64) fun p65 => J.w 0 Ty5 <| J.z 0 <| J.q <| Zaa.K1_ok a0 a3 a4 b3 (IntKind.wrap .i64 (s57 - 1))
noncomputable def Zaa.F1 (a0 : Sl) (a2 : Int) (a3 : Bool) (a4 : Bool) (b3 : Nat) (r55 : Int) : LF (Int × Int) (Sl × ByteArray) := ⟨[.inBlock 0, .code (c2 (c2 (c2 (c2 (c1 (c2 (c1 (c2 (c2 (c2 (c2 (c2 Zaa.B)))))))))))), .code (c2 (c2 (c2 (c2 (c2 (c2 Zaa.B))))))], c1 (c1 (c2 (c2 (c2 (c1 (c2 (c1 (c2 (c2 (c2 (c2 (c2 Zaa.B)))))))))))), fun s_ => [(0, Sl.v a0), (1, .int .u64 s_.1), (3, .bool a3), (4, .bool a4), (10, Sl.v Sl.nil), (11, .string ByteArray.empty), (12, .pointer (some (pt b3 0))), (13, .int .i64 s_.2), (14, .int .u64 (IntKind.wrap .u64 r55)), (15, .int .u64 (IntKind.wrap .u64 a2)), (16, .int .u64 (IntKind.wrap .u64 ((IntKind.wrap .u64 a2) - 1)))], fun s_ => [], (rt Zaa.out)⟩
noncomputable def Zaa.L1 (a0 : Sl) (a2 : Int) (a3 : Bool) (a4 : Bool) (b3 : Nat) (r55 : Int) (s56 : Int) (s57 : Int) : M (LS (Int × Int) (Sl × ByteArray)) :=
 if s56 ≥ (IntKind.wrap .u64 a2) then
  chk ((0 : Int) ≤ (band .u64 s56 (IntKind.wrap .u64 ((IntKind.wrap .u64 a2) - 1))) ∧ (band .u64 s56 (IntKind.wrap .u64 ((IntKind.wrap .u64 a2) - 1))) < (Zhk.size : Int)) >>= fun _ =>
  idx (some (pt b3 0)) 65 (IntKind.wrap .i64 (s57 - 1)) 1 >>= fun p68 =>
  st (cI .u8) p68 (sb Zhk (band .u64 s56 (IntKind.wrap .u64 ((IntKind.wrap .u64 a2) - 1)))) >>= fun _ =>
  chk (0 ≤ (IntKind.wrap .u64 r55)) >>= fun _ =>
  pure (LS.next (Int.fdiv s56 (2 ^ min (Int.toNat (IntKind.wrap .u64 r55)) 64), IntKind.wrap .i64 (s57 - 1)))
 else
  (Zaa.K2 a0 a3 a4 b3 s56 s57) >>= fun b => pure (LS.done b)
theorem Zaa.L1_ok (a0 : Sl) (a2 : Int) (a3 : Bool) (a4 : Bool) (b3 : Nat) (r55 : Int) : LJ Zaa.cx (Zaa.F1 a0 a2 a3 a4 b3 r55) (fun s_ => Zaa.L1 a0 a2 a3 a4 b3 r55 s_.1 s_.2) := by
 rintro ⟨s56, s57⟩
 show SJ _ _ _ _ (Zaa.L1 a0 a2 a3 a4 b3 r55 s56 s57) _
 unfold Zaa.L1
 refine SJ.seq <| SJ.sr 3 <| J.z 3 <| J.f ?_ ?_
 ·exact SJ.skip <| SJ.block (id := 1) <| SJ.sr 3 <| J.z 3 <| SJ.sr 7 <| J.t 4 fun hb66 hb67 => OJ.idxA (d := 54) (T := 135) (y := .tmp 12) (j := .tmp 49) (E := 5) (k := .i64) fun p68 => J.w 0 Ty5 <| J.z 0 <| SJ.rg 4 <| J.g 2 <| OJ.shr (d := 57) (T := 116) (yT := 68) (y := .tmp 55) (z := .tmp 56) (k := .u64) (yk := .u64) (p := s56) (q := (IntKind.wrap .u64 r55)) fun hq69 => J.z 1 <| SJ.inBlock <| J.o rfl
 ·exact SJ.exit (id := 0) (by rfl) <| J.q <| SJ.done <| Zaa.K2_ok a0 a3 a4 b3 s56 s57
noncomputable def Zaa.K3 (a0 : Sl) (a3 : Bool) (a4 : Bool) (b3 : Nat) (s71 : Int) (s72 : Int) : M (Sl × ByteArray) :=
 chk ((0 : Int) ≤ s71 ∧ s71 < (Zhk.size : Int)) >>= fun _ =>
 idx (some (pt b3 0)) 65 (IntKind.wrap .i64 (s72 - 1)) 1 >>= fun p80 =>
 st (cI .u8) p80 (sb Zhk s71) >>= fun _ =>
 Zaa.K1 a0 a3 a4 b3 (IntKind.wrap .i64 (s72 - 1))
theorem Zaa.K3_ok (a0 : Sl) (a3 : Bool) (a4 : Bool) (b3 : Nat) (s71 : Int) (s72 : Int) :
  SJ Zaa.cx [.code (c2 (c2 (c2 (c2 (c1 (c2 (c2 (c2 (c2 (c2 Zaa.B)))))))))), .code (c2 (c2 (c2 (c2 (c2 (c2 Zaa.B))))))] [(0, Sl.v a0), (1, .int .u64 s71), (3, .bool a3), (4, .bool a4), (10, Sl.v Sl.nil), (11, .string ByteArray.empty), (12, .pointer (some (pt b3 0))), (13, .int .i64 s72)] [] (Zaa.K3 a0 a3 a4 b3 s71 s72) (rt Zaa.out) := by
 unfold Zaa.K3
 exact SJ.sr 3 <| J.z 3 <| SJ.rg 5 <| J.t 2 fun hb78 hb79 => OJ.idxA (d := 88) (T := 135) (y := .tmp 12) (j := .tmp 85) (E := 5) (k := .i64) fun p80 => J.w 0 Ty5 <| J.z 0 <| J.q <| Zaa.K1_ok a0 a3 a4 b3 (IntKind.wrap .i64 (s72 - 1))
noncomputable def Zaa.F2 (a0 : Sl) (a2 : Int) (a3 : Bool) (a4 : Bool) (b3 : Nat) : LF (Int × Int) (Sl × ByteArray) := ⟨[.inBlock 2, .code (c2 (c2 (c2 (c2 (c1 (c2 (c2 (c2 (c2 (c2 Zaa.B)))))))))), .code (c2 (c2 (c2 (c2 (c2 (c2 Zaa.B))))))], c1 (c1 (c2 (c2 (c2 (c1 (c2 (c2 (c2 (c2 (c2 Zaa.B)))))))))), fun s_ => [(0, Sl.v a0), (1, .int .u64 s_.1), (3, .bool a3), (4, .bool a4), (10, Sl.v Sl.nil), (11, .string ByteArray.empty), (12, .pointer (some (pt b3 0))), (13, .int .i64 s_.2), (17, .int .u64 (IntKind.wrap .u64 a2))], fun s_ => [], (rt Zaa.out)⟩
noncomputable def Zaa.L2 (a0 : Sl) (a2 : Int) (a3 : Bool) (a4 : Bool) (b3 : Nat) (s71 : Int) (s72 : Int) : M (LS (Int × Int) (Sl × ByteArray)) :=
 if s71 ≥ (IntKind.wrap .u64 a2) then
  chk ((IntKind.wrap .u64 a2) ≠ 0) >>= fun _ =>
  chk ((0 : Int) ≤ (IntKind.wrap .u64 (s71 - (IntKind.wrap .u64 ((IntKind.wrap .u64 (Int.tdiv s71 (IntKind.wrap .u64 a2))) * (IntKind.wrap .u64 a2))))) ∧ (IntKind.wrap .u64 (s71 - (IntKind.wrap .u64 ((IntKind.wrap .u64 (Int.tdiv s71 (IntKind.wrap .u64 a2))) * (IntKind.wrap .u64 a2))))) < (Zhk.size : Int)) >>= fun _ =>
  idx (some (pt b3 0)) 65 (IntKind.wrap .i64 (s72 - 1)) 1 >>= fun p83 =>
  st (cI .u8) p83 (sb Zhk (IntKind.wrap .u64 (s71 - (IntKind.wrap .u64 ((IntKind.wrap .u64 (Int.tdiv s71 (IntKind.wrap .u64 a2))) * (IntKind.wrap .u64 a2)))))) >>= fun _ =>
  pure (LS.next (IntKind.wrap .u64 (Int.tdiv s71 (IntKind.wrap .u64 a2)), IntKind.wrap .i64 (s72 - 1)))
 else
  (Zaa.K3 a0 a3 a4 b3 s71 s72) >>= fun b => pure (LS.done b)
theorem Zaa.L2_ok (a0 : Sl) (a2 : Int) (a3 : Bool) (a4 : Bool) (b3 : Nat) : LJ Zaa.cx (Zaa.F2 a0 a2 a3 a4 b3) (fun s_ => Zaa.L2 a0 a2 a3 a4 b3 s_.1 s_.2) := by
 rintro ⟨s71, s72⟩
 show SJ _ _ _ _ (Zaa.L2 a0 a2 a3 a4 b3 s71 s72) _
 unfold Zaa.L2
 refine SJ.seq <| SJ.sr 3 <| J.z 3 <| J.f ?_ ?_
 ·exact SJ.skip <| SJ.block (id := 3) <| SJ.sr 3 <| J.z 3 <| SJ.sr 4 <| J.g 2 <| OJ.quo (d := 73) (T := 116) (yT := 116) (y := .tmp 71) (z := .tmp 72) (p := s71) (q := (IntKind.wrap .u64 a2)) (k := .u64) fun hq84 => J.z 1 <| SJ.sr 9 <| J.t 6 fun hb81 hb82 => OJ.idxA (d := 81) (T := 135) (y := .tmp 12) (j := .tmp 74) (E := 5) (k := .i64) fun p83 => J.w 0 Ty5 <| J.z 0 <| SJ.rg 2 <| J.z 2 <| SJ.inBlock <| J.o rfl
 ·exact SJ.exit (id := 2) (by rfl) <| J.q <| SJ.done <| Zaa.K3_ok a0 a3 a4 b3 s71 s72
noncomputable def Zaa.K4 (a0 : Sl) (a2 : Int) (a3 : Bool) (a4 : Bool) (b3 : Nat) (j4 : Int) : M (Sl × ByteArray) :=
 ZbY a2 >>= fun r5 =>
 if r5 = true then
  Zcd (IntKind.wrap .u64 a2) >>= fun r55 =>
  Zck (fun s_ : (Int × Int) => Zaa.L1 a0 a2 a3 a4 b3 r55 s_.1 s_.2) (j4, 65)
 else
  Zck (fun s_ : (Int × Int) => Zaa.L2 a0 a2 a3 a4 b3 s_.1 s_.2) (j4, 65)
theorem Zaa.K4_ok (a0 : Sl) (a2 : Int) (a3 : Bool) (a4 : Bool) (b3 : Nat) (j4 : Int) :
  SJ Zaa.cx [.code (c2 (c2 (c2 (c2 (c2 Zaa.B)))))] [(0, Sl.v a0), (1, .int .u64 j4), (2, .int .i64 a2), (3, .bool a3), (4, .bool a4), (10, Sl.v Sl.nil), (11, .string ByteArray.empty), (12, .pointer (some (pt b3 0))), (13, .int .i64 65)] [] (Zaa.K4 a0 a2 a3 a4 b3 j4) (rt Zaa.out) := by
 unfold Zaa.K4
 refine SJ.seq <| SJ.sr 2 <| J.C 1 F79 (ZfG _) fun r5 => J.z 0 <| J.f ?_ ?_
 ·exact SJ.sr 5 <| J.C 2 F80 (Zgq _) fun r55 => J.z 2 <| SJ.sr 3 <| J.z 3 <| SJ.sr 4 <| J.z 4 <| SJ.seq <| SJ.block (id := 0) <| J.L (Zaa.L1_ok a0 a2 a3 a4 b3 r55)
 ·exact SJ.sr 3 <| J.z 3 <| SJ.seq <| SJ.block (id := 2) <| J.L (Zaa.L2_ok a0 a2 a3 a4 b3)
noncomputable def Zaa (a0 : Sl) (a1 : Int) (a2 : Int) (a3 : Bool) (a4 : Bool) : M (Sl × ByteArray) :=
 (if a2 < 2 then
   pure true
  else
   pure (a2 == 10)) >>= fun y1 =>
 (if y1 = true then
   pure true
  else
   pure (decide (a2 > 36))) >>= fun y2 =>
 if y2 = true then
  fail
 else
  newv 135 ((cI .u8).arr 65) (Vec.rep 65 0) >>= fun b3 =>
  if a3 = true then
   Zaa.K4 a0 a2 a3 a4 b3 (IntKind.wrap .u64 (0 - a1))
  else
   Zaa.K4 a0 a2 a3 a4 b3 a1
theorem Zf8 (a0 : Sl) (a1 : Int) (a2 : Int) (a3 : Bool) (a4 : Bool) : Ref Tryd.prog 68 [Sl.v a0, .int .u64 a1, .int .i64 a2, .bool a3, .bool a4] (Zaa a0 a1 a2 a3 a4) Zaa.out := by
 refine J.Fn Tryd.func68 ?_
 unfold Zaa
 refine SJ.sr 2 <| J.z 2 <| SJ.seq <| SJ.sr 10 <| J.j 3 2 .bool ?_ ?_ fun y1 => ?_
 ·exact J.e 3
 ·exact J.e 3
 ·refine J.j 1 2 .bool ?_ ?_ fun y2 => ?_
  ·exact J.e 3
  ·exact J.e 3
  ·refine J.z 0 <| J.f ?_ ?_
   ·exact SJ.rg 2 <| J.g 1 <| OJ.fail
   ·refine SJ.skip <| SJ.sr 1 <| J.A 0 Zud fun b3 => J.z 0 <| SJ.sr 1 <| J.z 1 <| SJ.seq <| SJ.sr 1 <| J.z 1 <| J.f ?_ ?_
    ·exact SJ.rg 3 <| J.z 3 <| J.q <| Zaa.K4_ok a0 a2 a3 a4 b3 (IntKind.wrap .u64 (0 - a1))
    ·exact SJ.skip <| J.q <| Zaa.K4_ok a0 a2 a3 a4 b3 a1

/-! ### internal/strconv.FormatInt: function 54 -/
noncomputable def ZaI.B : Code := bod Tryd.f54
noncomputable def ZaI.cx : Fx := ⟨Tryd.prog, 54, Tryd.f54, none⟩
noncomputable def ZaI.out (r_ : ByteArray) : Value := .string r_
noncomputable def ZaI.K1 (a0 : Int) (b21 : Nat) (j22 : Int) : M ByteArray :=
 ZbE j22 >>= fun r23 =>
 cut 1 ⟨some (pt b21 0), 24, 24⟩ (some 1) (some (IntKind.wrap .i64 (1 + r23))) none >>= fun r24 =>
 Zab r24 j22 >>= fun r25 =>
 if a0 < 0 then
  st (cI .u8) (pt b21 0) 45 >>= fun _ =>
  cut 1 ⟨some (pt b21 0), 24, 24⟩ none (some (IntKind.wrap .i64 (1 + r23))) none >>= fun r28 =>
  toStr r28 >>= fun r29 =>
  pure r29
 else
  cut 1 ⟨some (pt b21 0), 24, 24⟩ (some 1) (some (IntKind.wrap .i64 (1 + r23))) none >>= fun r30 =>
  toStr r30 >>= fun r31 =>
  pure r31
theorem ZaI.K1_ok (a0 : Int) (b21 : Nat) (j22 : Int) :
  SJ ZaI.cx [.code (c2 (c2 (c2 (c2 (c1 (c2 (c1 (c2 ZaI.B)))))))), .code (c2 (c2 ZaI.B))] [(0, .int .i64 a0), (5, .pointer (some (pt b21 0))), (6, .int .u64 j22)] [] (ZaI.K1 a0 b21 j22) (rt ZaI.out) := by
 unfold ZaI.K1
 refine SJ.sr 3 <| J.C 1 F66 (ZgG _) fun r23 => J.z 1 <| SJ.sr 5 <| J.g 2 <| OJ.cutA (d := 30) (t := 115) (E := 5) (y := .tmp 5) (lo := (some (.const (.int .i64 1)))) (hi := (some (.tmp 29))) (mx := none) (lo' := some (.i64, 1)) (hi' := some (.i64, IntKind.wrap .i64 (1 + r23))) (mx' := none) (fun h => by cases h) fun r24 => J.C 1 F67 (ZfH _ _) fun r25 => J.z 0 <| SJ.seq <| SJ.sr 2 <| J.z 2 <| J.f ?_ ?_
 ·exact SJ.sr 2 <| J.w 1 Ty5 <| J.z 0 <| SJ.sr 5 <| J.g 2 <| OJ.cutA (d := 38) (t := 115) (E := 5) (y := .tmp 5) (lo := none) (hi := (some (.tmp 37))) (mx := none) (lo' := none) (hi' := some (.i64, IntKind.wrap .i64 (1 + r23))) (mx' := none) (fun h => by cases h) fun r28 => OJ.toStr (d := 39) (t := 81) (u := 9) (E := 5) (x := .tmp 38) (owed := []) fun r29 => OW.nil <| J.z 1 <| J.r
 ·exact SJ.skip <| SJ.sr 5 <| J.g 2 <| OJ.cutA (d := 42) (t := 115) (E := 5) (y := .tmp 5) (lo := (some (.const (.int .i64 1)))) (hi := (some (.tmp 41))) (mx := none) (lo' := some (.i64, 1)) (hi' := some (.i64, IntKind.wrap .i64 (1 + r23))) (mx' := none) (fun h => by cases h) fun r30 => OJ.toStr (d := 43) (t := 81) (u := 9) (E := 5) (x := .tmp 42) (owed := []) fun r31 => OW.nil <| J.z 1 <| J.r
noncomputable def ZaI (a0 : Int) (a1 : Int) : M ByteArray :=
 if a1 = 10 then
  (if 0 ≤ a0 then
    pure (decide (a0 < 100))
   else
    pure false) >>= fun y18 =>
  if y18 = true then
   ZcZ a0 >>= fun r20 =>
   pure r20
  else
   newv 115 ((cI .u8).arr 24) (Vec.rep 24 0) >>= fun b21 =>
   if a0 < 0 then
    ZaI.K1 a0 b21 (IntKind.wrap .u64 (0 - (IntKind.wrap .u64 a0)))
   else
    ZaI.K1 a0 b21 (IntKind.wrap .u64 a0)
 else
  Zaa Sl.nil (IntKind.wrap .u64 a0) a1 (decide (a0 < 0)) false >>= fun r35 =>
  pure r35.2
theorem Zex (a0 : Int) (a1 : Int) : Ref Tryd.prog 54 [.int .i64 a0, .int .i64 a1] (ZaI a0 a1) ZaI.out := by
 refine J.Fn Tryd.func54 ?_
 unfold ZaI
 refine SJ.sr 1 <| J.z 1 <| SJ.seq <| SJ.sr 2 <| J.z 2 <| J.f ?_ ?_
 ·refine SJ.seq <| SJ.sr 6 <| J.j 3 2 .bool ?_ ?_ fun y18 => ?_
  ·exact J.e 3
  ·exact J.e 3
  ·refine J.z 0 <| J.f ?_ ?_
   ·exact SJ.sr 3 <| J.C 1 F65 (ZiI _) fun r20 => J.z 1 <| J.r
   ·refine SJ.skip <| SJ.sr 1 <| J.A 0 Zuf fun b21 => J.z 0 <| SJ.sr 3 <| J.z 3 <| SJ.seq <| SJ.sr 2 <| J.z 2 <| J.f ?_ ?_
    ·exact SJ.rg 3 <| J.z 3 <| J.q <| ZaI.K1_ok a0 b21 (IntKind.wrap .u64 (0 - (IntKind.wrap .u64 a0)))
    ·exact SJ.skip <| J.q <| ZaI.K1_ok a0 b21 (IntKind.wrap .u64 a0)
 ·exact SJ.skip <| SJ.sr 11 <| J.C 5 F68 (Zf8 _ _ _ _ _) fun r35 => J.z 5 <| SJ.sr 2 <| J.z 2 <| J.r

/-! ### internal/strconv.Itoa: function 39 -/
noncomputable def Zdg.out (r_ : ByteArray) : Value := .string r_
noncomputable def Zdg (a0 : Int) : M ByteArray :=
 ZaI a0 10 >>= fun r1 =>
 pure r1
theorem Zi9 (a0 : Int) : Ref Tryd.prog 39 [.int .i64 a0] (Zdg a0) Zdg.out := by
 refine J.Fn Tryd.func39 ?_
 unfold Zdg
 exact SJ.sr 1 <| J.z 1 <| SJ.sr 3 <| J.C 1 F54 (Zex _ _) fun r1 => J.z 1 <| J.r

/-! ### strconv.Itoa: function 25 -/
noncomputable def Zbl.out (r_ : ByteArray) : Value := .string r_
noncomputable def Zbl (a0 : Int) : M ByteArray :=
 Zdg a0 >>= fun r1 =>
 pure r1
theorem ZbL (a0 : Int) : Ref Tryd.prog 25 [.int .i64 a0] (Zbl a0) Zbl.out := by
 refine J.Fn Tryd.func25 ?_
 unfold Zbl
 exact SJ.sr 1 <| J.z 1 <| SJ.sr 3 <| J.C 1 F39 (Zi9 _) fun r1 => J.z 1 <| J.r

/-! ### weir/rules.protoName: function 40 -/
noncomputable def Zcs.out (r_ : ByteArray) : Value := .string r_
noncomputable def Zcs (a0 : Int) : M ByteArray :=
 if a0 = 6 then
  pure str1
 else
  if a0 = 17 then
   pure str2
  else
   if a0 = 1 then
    pure str3
   else
    if a0 = 58 then
     pure str4
    else
     pure ByteArray.empty
theorem Zhn (a0 : Int) : Ref Tryd.prog 40 [.int .i64 a0] (Zcs a0) Zcs.out := by
 refine J.Fn Tryd.func40 ?_
 unfold Zcs
 refine SJ.sr 1 <| J.z 1 <| SJ.seq <| SJ.sr 1 <| J.z 1 <| SJ.block (id := 0) <| SJ.sr 2 <| J.z 2 <| J.f ?_ ?_
 ·exact SJ.sr 1 <| J.z 1 <| J.r
 ·refine SJ.sr 2 <| J.z 2 <| J.f ?_ ?_
  ·exact SJ.sr 1 <| J.z 1 <| J.r
  ·refine SJ.sr 2 <| J.z 2 <| J.f ?_ ?_
   ·exact SJ.sr 1 <| J.z 1 <| J.r
   ·refine SJ.sr 2 <| J.z 2 <| J.f ?_ ?_
    ·exact SJ.sr 1 <| J.z 1 <| J.r
    ·exact SJ.skip <| SJ.inBlock <| SJ.sr 1 <| J.z 1 <| J.r

/-! ### weir/rules.what: function 26 -/
noncomputable def Zbt.B : Code := bod Tryd.f26
noncomputable def Zbt.cx : Fx := ⟨Tryd.prog, 26, Tryd.f26, none⟩
noncomputable def Zbt.out (r_ : ByteArray) : Value := .string r_
noncomputable def Zbt.K1 (a0 : Zas) (j5 : ByteArray) : M ByteArray :=
 Zcs a0.Proto >>= fun r6 =>
 if ¬ (r6.toList = ByteArray.empty.toList) then
  chk (((ZcA.size + r6.size : Nat) : Int) ≤ 9223372036854775807) >>= fun _ =>
  chk (((j5.size + (ZcA ++ r6).size : Nat) : Int) ≤ 9223372036854775807) >>= fun _ =>
  pure (j5 ++ (ZcA ++ r6))
 else
  if a0.Proto > 0 then
   Zbl a0.Proto >>= fun r14 =>
   chk (((Zm7.size + r14.size : Nat) : Int) ≤ 9223372036854775807) >>= fun _ =>
   chk (((j5.size + (Zm7 ++ r14).size : Nat) : Int) ≤ 9223372036854775807) >>= fun _ =>
   pure (j5 ++ (Zm7 ++ r14))
  else
   if a0.Kind = 0 then
    pure Ztd
   else
    pure j5
theorem Zbt.K1_ok (a0 : Zas) (b1 : Nat) (j5 : ByteArray) :
  SJ Zbt.cx [.code (c2 (c2 (c2 Zbt.B)))] [(1, .pointer (some (pt b1 0))), (3, .string j5)] [(b1, Zaq.enc a0)] (Zbt.K1 a0 j5) (rt Zbt.out) := by
 unfold Zbt.K1
 refine SJ.sr 4 <| J.k 1 0 rfl Ty3 (Zbk _) <| J.C 0 F40 (Zhn _) fun r6 => J.z 1 <| SJ.seq <| SJ.block (id := 0) <| SJ.sr 3 <| J.z 3 <| J.f ?_ ?_
 ·exact SJ.rg 5 <| J.g 2 <| OJ.cat (d := 23) (T := 9) (yT := 9) (y := .const (.string ZcA)) (z := .tmp 22) (p := ZcA) (q := r6) <| OJ.cat (d := 24) (T := 9) (yT := 9) (y := .tmp 21) (z := .tmp 23) (p := j5) (q := (ZcA ++ r6)) <| J.z 1 <| SJ.inBlock <| SJ.sr 2 <| J.z 2 <| J.r
 ·refine SJ.sr 4 <| J.k 1 0 rfl Ty3 (Zbk _) <| J.z 2 <| J.f ?_ ?_
  ·exact SJ.rg 7 <| J.k 2 0 rfl Ty3 (Zbk _) <| J.C 0 F25 (ZbL _) fun r14 => OJ.cat (d := 33) (T := 9) (yT := 9) (y := .const (.string Zm7)) (z := .tmp 32) (p := Zm7) (q := r14) <| OJ.cat (d := 34) (T := 9) (yT := 9) (y := .tmp 29) (z := .tmp 33) (p := j5) (q := (Zm7 ++ r14)) <| J.z 1 <| SJ.inBlock <| SJ.sr 2 <| J.z 2 <| J.r
  ·refine SJ.sr 4 <| J.k 1 0 rfl Ty3 (Zbz _) <| J.z 2 <| J.f ?_ ?_
   ·exact SJ.rg 1 <| J.z 1 <| SJ.inBlock <| SJ.sr 2 <| J.z 2 <| J.r
   ·exact SJ.skip <| SJ.inBlock <| SJ.sr 2 <| J.z 2 <| J.r
noncomputable def Zbt (a0 : Zas) : M ByteArray :=
 slot 27 >>= fun b1 =>
 if a0.Kind > 0 then
  ld cL ⟨2, 0, none⟩ >>= fun x18 =>
  idx x18.a x18.len (IntKind.wrap .i64 (a0.Kind - 1)) 1 >>= fun p19 =>
  ld cS p19 >>= fun x20 =>
  chk (((ZcA.size + x20.size : Nat) : Int) ≤ 9223372036854775807) >>= fun _ =>
  Zbt.K1 a0 (ZcA ++ x20)
 else
  Zbt.K1 a0 ByteArray.empty
theorem Zlb (a0 : Zas) : Ref Tryd.prog 26 [Zaq.val a0] (Zbt a0) Zbt.out := by
 refine J.Fn Tryd.func26 ?_
 unfold Zbt
 refine SJ.sr 2 <| J.b 0 Zaq a0 fun b1 => J.z 1 <| SJ.sr 1 <| J.z 1 <| SJ.seq <| SJ.sr 3 <| J.k 1 0 rfl Ty3 (Zbz _) <| J.z 1 <| J.f ?_ ?_
 ·exact SJ.rg 8 <| J.l 0 Ty65 fun x18 => J.k 1 0 rfl Ty3 (Zbz _) <| J.i 1 fun p19 => J.l 0 Ty9 fun x20 => OJ.cat (d := 14) (T := 9) (yT := 9) (y := .const (.string ZcA)) (z := .tmp 13) (p := ZcA) (q := x20) <| J.z 1 <| J.q <| Zbt.K1_ok a0 b1 (ZcA ++ x20)
 ·exact SJ.skip <| J.q <| Zbt.K1_ok a0 b1 ByteArray.empty

/-! ### weir/addr.Valid: function 55 -/
noncomputable def Zee.out (r_ : Bool) : Value := .bool r_
noncomputable def Zee (a0 : Za2) : M Bool :=
 slot 59 >>= fun b1 =>
 Zd0 a0 >>= fun r2 =>
 pure (decide (r2 > 0))
theorem ZlJ (a0 : Za2) : Ref Tryd.prog 55 [Za1.val a0] (Zee a0) Zee.out := by
 refine J.Fn Tryd.func55 ?_
 unfold Zee
 exact SJ.sr 2 <| J.b 0 Za1 a0 fun b1 => J.z 1 <| SJ.sr 4 <| J.k 0 0 rfl Ty59 (At.whole _) <| J.C 0 F52 (Zgs _) fun r2 => J.z 2 <| J.r

/-! ### (*strings.Builder).copyCheck: function 59 -/
noncomputable def Zbg.out (r_ : Unit) : Value := .tuple #[]
noncomputable def Zbg (a0 : (Option Addr)) : M Unit :=
 nilck a0 >>= fun p1 =>
 ld cP p1 >>= fun x2 =>
 if x2 = none then
  upOf a0 >>= fun r11 =>
  noesc r11 >>= fun r12 =>
  ptOf 83 2 r12 >>= fun r13 =>
  nilck a0 >>= fun p14 =>
  st cP p14 r13 >>= fun _ =>
  pure ()
 else
  nilck a0 >>= fun p15 =>
  ld cP p15 >>= fun x16 =>
  ptrEq x16 a0 >>= fun y17 =>
  if ¬ (y17 = true) then
   fail
  else
   pure ()
theorem Zdb (a0 : (Option Addr)) : Ref Tryd.prog 59 [.pointer a0] (Zbg a0) Zbg.out := by
 refine J.Fn Tryd.func59 ?_
 unfold Zbg
 refine SJ.sr 5 <| J.n 1 fun p1 => J.l 1 Ty80 fun x2 => J.z 1 <| J.f ?_ ?_
 ·exact SJ.rg 8 <| J.g 2 <| OJ.upOf (d := 9) (t := 80) (u := 121) (E := 83) (x := .tmp 8) (p := a0) (owed := []) fun r11 => OW.nil <| OJ.ext (d := 10) (g := 70) (ats := #[121]) (args := [.tmp 9]) (out := fun r => .pointer r) (owed := []) Tryd.func70 Zp7 fun r12 => OW.nil <| OJ.ptOf (d := 11) (t := 80) (u := 121) (E := 83) (T := 83) (n := 2) (x := .tmp 10) (p := r12) (owed := []) (by kernel_rfl) fun r13 => OW.nil <| J.n 0 fun p14 => J.w 1 Ty80 <| J.z 0 <| SJ.end_ rfl (Res.run (ys := []) .nil rfl)
 ·refine SJ.sr 6 <| J.n 1 fun p15 => J.l 1 Ty80 fun x16 => J.g 1 <| OJ.pneq (d := 19) (T := 80) (E := 83) (yT := 80) (y := .tmp 17) (z := .tmp 18) (p := x16) (q := a0) fun y17 => J.z 0 <| J.f ?_ ?_
  ·exact SJ.fail
  ·exact SJ.skip <| SJ.end_ rfl (Res.run (ys := []) .nil rfl)

/-! ### (*strings.Builder).grow: function 60 -/
noncomputable def ZbX.out (r_ : Unit) : Value := .tuple #[]
noncomputable def ZbX (a0 : (Option Addr)) (a1 : Int) : M Unit :=
 draw >>= fun _ =>
 nilck a0 >>= fun p1 =>
 ld cL (Addr.add p1 1) >>= fun x2 =>
 nilck a0 >>= fun p3 =>
 ld cL (Addr.add p3 1) >>= fun x4 =>
 mkNZ 5 (IntKind.wrap .i64 ((IntKind.wrap .i64 (2 * (x2.cap : Int))) + a1)) >>= fun r5 =>
 same cL (Addr.add p3 1) x4 >>= fun _ =>
 cut 1 r5 none (some (x4.len : Int)) none >>= fun r6 =>
 nilck a0 >>= fun p7 =>
 ld cL (Addr.add p7 1) >>= fun x8 =>
 cpyS (cI .u8) r6 x8 >>= fun r9 =>
 nilck a0 >>= fun p10 =>
 st cL (Addr.add p10 1) r6 >>= fun _ =>
 pure ()
theorem ZfE (a0 : (Option Addr)) (a1 : Int) : Ref Tryd.prog 60 [.pointer a0, .int .i64 a1] (ZbX a0 a1) ZbX.out := by
 refine J.Fn Tryd.func60 ?_
 unfold ZbX
 exact SJ.seq <| J.D [0, 1, 2, 3, 4, 5, 6, 7, 9, 10, 11, 12, 8, 13, 14, 15] Zc6 <| J.n 1 fun p1 => J.l 1 Ty81 fun x2 => OJ.capS (d := 9) (so := .tmp 8) (t := 81) (E := 5) (s := x2) <| J.n 4 fun p3 => J.l 1 Ty81 fun x4 => OJ.ext (d := 13) (g := 71) (ats := #[3]) (args := [.tmp 12]) (out := Sl.v) (owed := [⟨12, 81, (Addr.add p3 1), cL.val x4⟩]) Tryd.func71 (Zrt (t := 81) (E := 5) (ps := #[3]) (by kernel_rfl)) fun r5 => OW.same Ty81 <| OW.nil <| J.g 1 <| OJ.cut (d := 19) (t := 81) (E := 5) (y := .tmp 13) (lo := none) (hi := (some (.tmp 18))) (mx := none) (lo' := none) (hi' := some (.i64, (x4.len : Int))) (mx' := none) (fun h => by cases h) fun r6 => J.z 1 <| SJ.sr 6 <| J.n 2 fun p7 => J.l 1 Ty81 fun x8 => OJ.cpy1 (n := 25) (t := 81) (u := 81) (so := .tmp 20) (xo := .tmp 24) (owed := []) Ty5 fun r9 => OW.nil <| J.z 0 <| SJ.rg 5 <| J.n 2 fun p10 => J.w 1 Ty81 <| J.z 0 <| SJ.end_ rfl (Res.run (ys := []) .nil rfl)

/-! ### (*strings.Builder).Grow: function 43 -/
noncomputable def ZbI.out (r_ : Unit) : Value := .tuple #[]
noncomputable def ZbI (a0 : (Option Addr)) (a1 : Int) : M Unit :=
 Zbg a0 >>= fun r1 =>
 if a1 < 0 then
  fail
 else
  draw >>= fun _ =>
  nilck a0 >>= fun p2 =>
  ld cL (Addr.add p2 1) >>= fun x3 =>
  nilck a0 >>= fun p4 =>
  ld cL (Addr.add p4 1) >>= fun x5 =>
  if (IntKind.wrap .i64 ((x3.cap : Int) - (x5.len : Int))) < a1 then
   ZbX a0 a1 >>= fun r7 =>
   pure ()
  else
   pure ()
theorem ZfF (a0 : (Option Addr)) (a1 : Int) : Ref Tryd.prog 43 [.pointer a0, .int .i64 a1] (ZbI a0 a1) ZbI.out := by
 refine J.Fn Tryd.func43 ?_
 unfold ZbI
 refine SJ.sr 2 <| J.C 1 F59 (Zdb _) fun r1 => J.z 0 <| SJ.seq <| SJ.sr 2 <| J.z 2 <| J.f ?_ ?_
 ·exact SJ.rg 2 <| J.g 1 <| OJ.fail
 ·refine SJ.skip <| SJ.seq <| J.R 13 Zc6 <| J.n 1 fun p2 => J.l 1 Ty81 fun x3 => OJ.capS (d := 13) (so := .tmp 12) (t := 81) (E := 5) (s := x3) <| J.n 1 fun p4 => J.l 1 Ty81 fun x5 => J.z 4 <| J.f ?_ ?_
  ·exact SJ.rg 3 <| J.C 2 F60 (ZfE _ _) fun r7 => J.z 0 <| SJ.end_ rfl (Res.run (ys := []) .nil rfl)
  ·exact SJ.skip <| SJ.end_ rfl (Res.run (ys := []) .nil rfl)

/-! ### (*strings.Builder).WriteString: function 44 -/
noncomputable def Za0.out (r_ : (Int × Any)) : Value := .tuple #[.int .i64 r_.1, r_.2.v]
noncomputable def Za0 (a0 : (Option Addr)) (a1 : ByteArray) : M (Int × Any) :=
 Zbg a0 >>= fun r1 =>
 nilck a0 >>= fun p2 =>
 ld cL (Addr.add p2 1) >>= fun x3 =>
 appl (cI .u8) 5 1 0 x3 (strI a1) >>= fun r4 =>
 nilck a0 >>= fun p5 =>
 st cL (Addr.add p5 1) r4 >>= fun _ =>
 pure ((a1.size : Int), (⟨.nilIface, rfl⟩ : Any))
theorem Zca (a0 : (Option Addr)) (a1 : ByteArray) : Ref Tryd.prog 44 [.pointer a0, .string a1] (Za0 a0 a1) Za0.out := by
 refine J.Fn Tryd.func44 ?_
 unfold Za0
 exact SJ.sr 2 <| J.z 2 <| SJ.sr 2 <| J.C 1 F59 (Zdb _) fun r1 => J.z 0 <| SJ.sr 10 <| J.n 2 fun p2 => J.l 1 Ty81 fun x3 => J.g 1 <| OJ.appT (d := 14) (t := 81) (u := 9) (so := .tmp 12) (xo := .tmp 13) (y := a1) (owed := []) Ty5 fun r4 => OW.nil <| J.n 0 fun p5 => J.w 1 Ty81 <| J.z 0 <| SJ.sr 4 <| J.z 4 <| J.r

/-! ### (*strings.Builder).String: function 45 -/
noncomputable def Zbu.out (r_ : ByteArray) : Value := .string r_
noncomputable def Zbu (a0 : (Option Addr)) : M ByteArray :=
 draw >>= fun _ =>
 nilck a0 >>= fun p1 =>
 ld cL (Addr.add p1 1) >>= fun x2 =>
 nilck a0 >>= fun p3 =>
 ld cL (Addr.add p3 1) >>= fun x4 =>
 sdata x2 >>= fun r5 =>
 same cL (Addr.add p3 1) x4 >>= fun _ =>
 ustr 5 r5 (x4.len : Int) >>= fun r6 =>
 pure r6
theorem Zfb (a0 : (Option Addr)) : Ref Tryd.prog 45 [.pointer a0] (Zbu a0) Zbu.out := by
 refine J.Fn Tryd.func45 ?_
 unfold Zbu
 exact SJ.sr 1 <| J.z 1 <| SJ.seq <| J.D [0, 1, 2, 3, 5, 6, 7, 8, 4, 9, 10, 11] Zc6 <| J.n 1 fun p1 => J.l 1 Ty81 fun x2 => J.n 1 fun p3 => J.l 1 Ty81 fun x4 => OJ.sdata (d := 7) (t := 81) (x := .tmp 6) (s := x2) (owed := [⟨8, 81, (Addr.add p3 1), cL.val x4⟩]) fun r5 => OW.same Ty81 <| OW.nil <| J.g 1 <| OJ.ustr (d := 13) (t := 108) (t2 := 3) (E := 5) (x := .tmp 7) (y := .tmp 12) (p := r5) (n := (x4.len : Int)) (owed := []) fun r6 => OW.nil <| J.z 1 <| J.r

/-! ### strings.Join: function 28 -/
noncomputable def Zar.B : Code := bod Tryd.f28
noncomputable def Zar.cx : Fx := ⟨Tryd.prog, 28, Tryd.f28, none⟩
noncomputable def Zar.out (r_ : ByteArray) : Value := .string r_
noncomputable def Zar.F1 (a1 : ByteArray) (b19 : Nat) (r24 : Sl) : LF Int ByteArray := ⟨[.inBlock 3, .code (c2 (c2 (c2 (c2 (c2 (c2 (c2 (c2 (c2 Zar.B)))))))))], c1 (c2 (c1 (c2 (c2 (c2 (c2 (c2 (c2 (c2 (c2 Zar.B)))))))))), fun s_ => [(1, .string a1), (8, .pointer (some (pt b19 0))), (63, Sl.v r24), (64, .int .i64 (r24.len : Int)), (65, .int .i64 s_)], fun s_ => [], (rt Zar.out)⟩
noncomputable def Zar.L1 (a1 : ByteArray) (b19 : Nat) (r24 : Sl) (s25 : Int) : M (LS Int ByteArray) :=
 if s25 < (r24.len : Int) then
  idx r24.a r24.len s25 1 >>= fun p32 =>
  ld cS p32 >>= fun x33 =>
  Za0 (some (pt b19 0)) a1 >>= fun r34 =>
  Za0 (some (pt b19 0)) x33 >>= fun r35 =>
  pure (LS.next (IntKind.wrap .i64 (s25 + 1)))
 else
  Zbu (some (pt b19 0)) >>= fun r36 =>
  pure (LS.done r36)
theorem Zar.L1_ok (a1 : ByteArray) (b19 : Nat) (r24 : Sl) : LJ Zar.cx (Zar.F1 a1 b19 r24) (fun s_ => Zar.L1 a1 b19 r24 s_) := by
 rintro s25
 show SJ _ _ _ _ (Zar.L1 a1 b19 r24 s25) _
 unfold Zar.L1
 refine SJ.sr 1 <| J.z 1 <| SJ.seq <| J.f ?_ ?_
 ·exact SJ.skip <| SJ.seq <| SJ.block (id := 4) <| SJ.sr 3 <| J.i 0 fun p32 => J.l 0 Ty9 fun x33 => J.z 1 <| SJ.sr 2 <| J.C 1 F44 (Zca _ _) fun r34 => J.z 0 <| SJ.rg 2 <| J.C 1 F44 (Zca _ _) fun r35 => J.z 0 <| SJ.inBlock <| SJ.rg 2 <| J.z 2 <| J.o rfl
 ·exact SJ.exit (id := 3) (by rfl) <| SJ.sr 2 <| J.C 0 F45 (Zfb _) fun r36 => J.z 1 <| J.r
noncomputable def Zar.K1 (a0 : Sl) (a1 : ByteArray) (s13 : Int) : M ByteArray :=
 newv 83 ZbF Zdn >>= fun b19 =>
 ZbI (some (pt b19 0)) s13 >>= fun r20 =>
 idx a0.a a0.len 0 1 >>= fun p21 =>
 ld cS p21 >>= fun x22 =>
 Za0 (some (pt b19 0)) x22 >>= fun r23 =>
 cut 1 a0 (some 1) none none >>= fun r24 =>
 Zck (fun s_ : Int => Zar.L1 a1 b19 r24 s_) 0
theorem Zar.K1_ok (a0 : Sl) (a1 : ByteArray) (s13 : Int) :
  SJ Zar.cx [.code (c2 (c2 (c2 (c2 (c2 Zar.B)))))] [(0, Sl.v a0), (1, .string a1), (5, .int .i64 s13)] [] (Zar.K1 a0 a1 s13) (rt Zar.out) := by
 unfold Zar.K1
 exact SJ.sr 1 <| J.A 0 Ty83 fun b19 => J.z 0 <| SJ.sr 2 <| J.C 1 F43 (ZfF _ _) fun r20 => J.z 0 <| SJ.sr 4 <| J.i 1 fun p21 => J.l 0 Ty9 fun x22 => J.C 0 F44 (Zca _ _) fun r23 => J.z 0 <| SJ.seq <| SJ.sr 4 <| J.g 1 <| OJ.cut (d := 63) (t := 65) (E := 9) (y := .tmp 62) (lo := (some (.const (.int .i64 1)))) (hi := none) (mx := none) (lo' := some (.i64, 1)) (hi' := none) (mx' := none) (fun h => by cases h) fun r24 => J.z 2 <| SJ.block (id := 3) <| J.L (Zar.L1_ok a1 b19 r24)
noncomputable def Zar.F2 (a0 : Sl) (a1 : ByteArray) : LF (Int × Int) ByteArray := ⟨[.inBlock 1, .code (c2 (c2 (c2 (c2 (c2 Zar.B)))))], c1 (c2 (c1 (c2 (c2 (c2 (c2 Zar.B)))))), fun s_ => [(0, Sl.v a0), (1, .string a1), (5, .int .i64 s_.1), (39, Sl.v a0), (40, .int .i64 (a0.len : Int)), (41, .int .i64 s_.2)], fun s_ => [], (rt Zar.out)⟩
noncomputable def Zar.L2 (a0 : Sl) (a1 : ByteArray) (s13 : Int) (s14 : Int) : M (LS (Int × Int) ByteArray) :=
 if s14 < (a0.len : Int) then
  idx a0.a a0.len s14 1 >>= fun p38 =>
  ld cS p38 >>= fun x39 =>
  if (x39.size : Int) > (IntKind.wrap .i64 (9223372036854775807 - s13)) then
   fail
  else
   pure (LS.next (IntKind.wrap .i64 (s13 + (x39.size : Int)), IntKind.wrap .i64 (s14 + 1)))
 else
  (Zar.K1 a0 a1 s13) >>= fun b => pure (LS.done b)
theorem Zar.L2_ok (a0 : Sl) (a1 : ByteArray) : LJ Zar.cx (Zar.F2 a0 a1) (fun s_ => Zar.L2 a0 a1 s_.1 s_.2) := by
 rintro ⟨s13, s14⟩
 show SJ _ _ _ _ (Zar.L2 a0 a1 s13 s14) _
 unfold Zar.L2
 refine SJ.sr 1 <| J.z 1 <| SJ.seq <| J.f ?_ ?_
 ·refine SJ.skip <| SJ.seq <| SJ.block (id := 2) <| SJ.sr 3 <| J.i 0 fun p38 => J.l 0 Ty9 fun x39 => J.z 1 <| SJ.seq <| SJ.sr 5 <| J.z 5 <| J.f ?_ ?_
  ·exact SJ.rg 2 <| J.g 1 <| OJ.fail
  ·exact SJ.skip <| SJ.rg 5 <| J.z 5 <| SJ.inBlock <| SJ.rg 2 <| J.z 2 <| J.o rfl
 ·exact SJ.exit (id := 1) (by rfl) <| J.q <| SJ.done <| Zar.K1_ok a0 a1 s13
noncomputable def Zar.K2 (a0 : Sl) (a1 : ByteArray) (j12 : Int) : M ByteArray :=
 Zck (fun s_ : (Int × Int) => Zar.L2 a0 a1 s_.1 s_.2) (j12, 0)
theorem Zar.K2_ok (a0 : Sl) (a1 : ByteArray) (j12 : Int) :
  SJ Zar.cx [.code (c2 (c2 (c2 (c2 Zar.B))))] [(0, Sl.v a0), (1, .string a1), (5, .int .i64 j12)] [] (Zar.K2 a0 a1 j12) (rt Zar.out) := by
 unfold Zar.K2
 exact SJ.seq <| SJ.sr 3 <| J.z 3 <| SJ.block (id := 1) <| J.L (Zar.L2_ok a0 a1)
noncomputable def Zar (a0 : Sl) (a1 : ByteArray) : M ByteArray :=
 if (a0.len : Int) = 0 then
  pure ByteArray.empty
 else
  if (a0.len : Int) = 1 then
   idx a0.a a0.len 0 1 >>= fun p8 =>
   ld cS p8 >>= fun x9 =>
   pure x9
  else
   if (a1.size : Int) > 0 then
    chk ((IntKind.wrap .i64 ((a0.len : Int) - 1)) ≠ 0) >>= fun _ =>
    if (a1.size : Int) ≥ (IntKind.wrap .i64 (Int.tdiv 9223372036854775807 (IntKind.wrap .i64 ((a0.len : Int) - 1)))) then
     fail
    else
     Zar.K2 a0 a1 (IntKind.wrap .i64 (0 + (IntKind.wrap .i64 ((a1.size : Int) * (IntKind.wrap .i64 ((a0.len : Int) - 1))))))
   else
    Zar.K2 a0 a1 0
theorem ZcP (a0 : Sl) (a1 : ByteArray) : Ref Tryd.prog 28 [Sl.v a0, .string a1] (Zar a0 a1) Zar.out := by
 refine J.Fn Tryd.func28 ?_
 unfold Zar
 refine SJ.sr 1 <| J.z 1 <| SJ.seq <| SJ.sr 2 <| J.z 2 <| SJ.block (id := 0) <| SJ.sr 2 <| J.z 2 <| J.f ?_ ?_
 ·exact SJ.sr 1 <| J.z 1 <| J.r
 ·refine SJ.sr 2 <| J.z 2 <| J.f ?_ ?_
  ·exact SJ.sr 4 <| J.i 1 fun p8 => J.l 0 Ty9 fun x9 => J.z 1 <| J.r
  ·refine SJ.skip <| SJ.inBlock <| SJ.sr 1 <| J.z 1 <| SJ.seq <| SJ.sr 3 <| J.z 3 <| J.f ?_ ?_
   ·refine SJ.seq <| SJ.sr 7 <| J.g 5 <| OJ.quo (d := 28) (T := 3) (yT := 3) (y := .const (.int .i64 9223372036854775807)) (z := .tmp 27) (p := 9223372036854775807) (q := (IntKind.wrap .i64 ((a0.len : Int) - 1))) (k := .i64) fun hq43 => J.z 1 <| J.f ?_ ?_
    ·exact SJ.rg 2 <| J.g 1 <| OJ.fail
    ·exact SJ.skip <| SJ.rg 9 <| J.z 9 <| J.q <| Zar.K2_ok a0 a1 (IntKind.wrap .i64 (0 + (IntKind.wrap .i64 ((a1.size : Int) * (IntKind.wrap .i64 ((a0.len : Int) - 1))))))
   ·exact SJ.skip <| J.q <| Zar.K2_ok a0 a1 0

/-! ### weir/addr.dotted: function 56 -/
noncomputable def Zbe.B : Code := bod Tryd.f56
noncomputable def Zbe.cx : Fx := ⟨Tryd.prog, 56, Tryd.f56, none⟩
noncomputable def Zbe.out (r_ : ByteArray) : Value := .string r_
noncomputable def Zbe.F1 (a0 : Sl) : LF (Sl × Int) ByteArray := ⟨[.inBlock 0, .code (c2 (c2 (c2 Zbe.B)))], c1 (c2 (c1 (c2 (c2 Zbe.B)))), fun s_ => [(3, Sl.v s_.1), (6, Sl.v a0), (7, .int .i64 (a0.len : Int)), (8, .int .i64 s_.2)], fun s_ => [], (rt Zbe.out)⟩
noncomputable def Zbe.L1 (a0 : Sl) (s1 : Sl) (s2 : Int) : M (LS (Sl × Int) ByteArray) :=
 if s2 < (a0.len : Int) then
  idx a0.a a0.len s2 1 >>= fun p10 =>
  ld (cI .u8) p10 >>= fun x11 =>
  Zbl (IntKind.wrap .i64 x11) >>= fun r12 =>
  slot 9 >>= fun b13 =>
  appl cS 9 16 ByteArray.empty s1 [r12] >>= fun r14 =>
  pure (LS.next (r14, IntKind.wrap .i64 (s2 + 1)))
 else
  Zar s1 Ztc >>= fun r15 =>
  pure (LS.done r15)
theorem Zbe.L1_ok (a0 : Sl) : LJ Zbe.cx (Zbe.F1 a0) (fun s_ => Zbe.L1 a0 s_.1 s_.2) := by
 rintro ⟨s1, s2⟩
 show SJ _ _ _ _ (Zbe.L1 a0 s1 s2) _
 unfold Zbe.L1
 refine SJ.sr 1 <| J.z 1 <| SJ.seq <| J.f ?_ ?_
 ·exact SJ.skip <| SJ.seq <| SJ.block (id := 1) <| SJ.sr 3 <| J.i 0 fun p10 => J.l 0 Ty5 fun x11 => J.z 1 <| SJ.rg 7 <| J.C 3 F25 (ZbL _) fun r12 => OJ.rowSlot (d := 16) (t := 65) (parts := [(0, .tmp 15)]) (ps := [(0, cS.val r12)]) (cd := cS) (⟨[r12], rfl⟩ : Vec ByteArray 1) (owed := []) Ty9 (Zbj.cons (cd := cS) (q := r12) (o := 0) rfl (Upd.arr (i := 0) (by decide) (by decide)) Zbj.nil) fun b13 => OW.nil <| OJ.appl (d := 17) (t := 65) (u := 65) (so := .tmp 12) (xo := .tmp 16) (j := 0) (b := b13) (l := (cS.arr 1).enc (⟨[r12], rfl⟩ : Vec ByteArray 1)) (n := 1) (k := 1) [r12] (owed := []) Ty9 (by rfl) (Cod.arr_enc _ _ _) (by rfl) fun r14 => OW.nil <| J.z 1 <| SJ.inBlock <| SJ.rg 2 <| J.z 2 <| SJ.forget (List.Sublist.cons _ List.Sublist.slnil) <| J.o rfl
 ·exact SJ.exit (id := 0) (by rfl) <| SJ.sr 3 <| J.C 1 F28 (ZcP _ _) fun r15 => J.z 1 <| J.r
noncomputable def Zbe (a0 : Sl) : M ByteArray :=
 Zck (fun s_ : (Sl × Int) => Zbe.L1 a0 s_.1 s_.2) (Sl.nil, 0)
theorem ZgU (a0 : Sl) : Ref Tryd.prog 56 [Sl.v a0] (Zbe a0) Zbe.out := by
 refine J.Fn Tryd.func56 ?_
 unfold Zbe
 exact SJ.sr 1 <| J.z 1 <| SJ.sr 1 <| J.z 1 <| SJ.seq <| SJ.sr 3 <| J.z 3 <| SJ.block (id := 0) <| J.L (Zbe.L1_ok a0)

/-! ### weir/addr.longest: function 57 -/
noncomputable def ZaK.B : Code := bod Tryd.f57
noncomputable def ZaK.cx : Fx := ⟨Tryd.prog, 57, Tryd.f57, none⟩
noncomputable def ZaK.out (r_ : (Int × Int)) : Value := .tuple #[.int .i64 r_.1, .int .i64 r_.2]
noncomputable def ZaK.F1 (a0 : (Vec Int 8)) (b1 : Nat) : LF (Int × Int × Int) (Int × Int) := ⟨[.inBlock 0, .code (c2 (c2 (c2 ZaK.B)))], c1 (c2 (c1 (c2 (c2 ZaK.B)))), fun s_ => [(1, .pointer (some (pt b1 0))), (4, .int .i64 s_.1), (5, .int .i64 s_.2.1), (8, .int .i64 s_.2.2)], fun s_ => [(b1, ((cI .i64).arr 8).enc a0)], (rt ZaK.out)⟩
noncomputable def ZaK.F2 (a0 : (Vec Int 8)) (b1 : Nat) (s2 : Int) (s3 : Int) (s4 : Int) : LF Int (LS (Int × Int × Int) (Int × Int)) := ⟨[.inBlock 2, .code (c2 (c2 (c2 (c1 (c1 (c2 (c2 (c1 (c1 (c2 (c1 (c2 (c2 ZaK.B))))))))))))), .inBlock 1, .code (c2 (c2 (c2 (c1 (c1 (c2 (c1 (c2 (c2 ZaK.B))))))))), .inLoop (c1 (c1 (c2 (c1 (c2 (c2 ZaK.B)))))), .inBlock 0, .code (c2 (c2 (c2 ZaK.B)))], c1 (c1 (c2 (c2 (c1 (c1 (c2 (c2 (c1 (c1 (c2 (c1 (c2 (c2 ZaK.B))))))))))))), fun s_ => [(1, .pointer (some (pt b1 0))), (4, .int .i64 s2), (5, .int .i64 s3), (8, .int .i64 s4), (6, .int .i64 s4), (7, .int .i64 s_)], fun s_ => [(b1, ((cI .i64).arr 8).enc a0)], (ZaK.F1 a0 b1).f⟩
noncomputable def ZaK.L2 (a0 : (Vec Int 8)) (s2 : Int) (s3 : Int) (s4 : Int) (s17 : Int) : M (LS Int (LS (Int × Int × Int) (Int × Int))) :=
 (if (IntKind.wrap .i64 (s4 + s17)) < 8 then
   chk ((0 : Int) ≤ (IntKind.wrap .i64 (s4 + s17)) ∧ (IntKind.wrap .i64 (s4 + s17)) < (8 : Nat)) >>= fun _ =>
   pure ((Vec.g a0 (IntKind.wrap .i64 (s4 + s17)) 0) == 0)
  else
   pure false) >>= fun y24 =>
 if y24 = true then
  pure (LS.next (IntKind.wrap .i64 (s17 + 1)))
 else
  if s17 > s3 then
   pure (LS.done (LS.next (s4, s17, IntKind.wrap .i64 (s4 + 1))))
  else
   pure (LS.done (LS.next (s2, s3, IntKind.wrap .i64 (s4 + 1))))
theorem ZaK.L2_ok (a0 : (Vec Int 8)) (b1 : Nat) (s2 : Int) (s3 : Int) (s4 : Int) : LJ ZaK.cx (ZaK.F2 a0 b1 s2 s3 s4) (fun s_ => ZaK.L2 a0 s2 s3 s4 s_) := by
 rintro s17
 show SJ _ _ _ _ (ZaK.L2 a0 s2 s3 s4 s17) _
 unfold ZaK.L2
 refine SJ.seq <| SJ.sr 12 <| J.j 5 6 .bool ?_ ?_ fun y24 => ?_
 ·exact J.y 3 fun hb22 hb23 => J.k 0 0 rfl Ty3 (At.zero (At.arr (z := 0) hb22 hb23)) <| J.e 2
 ·exact J.e 7
 ·refine J.z 0 <| J.f ?_ ?_
  ·exact SJ.skip <| SJ.block (id := 3) <| SJ.rg 3 <| J.z 3 <| SJ.inBlock <| J.o rfl
  ·refine SJ.exit (id := 2) (by rfl) <| SJ.sr 3 <| J.z 3 <| J.f ?_ ?_
   ·exact SJ.rg 4 <| J.z 4 <| SJ.inBlock <| SJ.rg 2 <| J.z 2 <| J.o rfl
   ·exact SJ.skip <| SJ.inBlock <| SJ.rg 2 <| J.z 2 <| J.o rfl
noncomputable def ZaK.L1 (a0 : (Vec Int 8)) (s2 : Int) (s3 : Int) (s4 : Int) : M (LS (Int × Int × Int) (Int × Int)) :=
 if s4 < 8 then
  Zck (fun s_ : Int => ZaK.L2 a0 s2 s3 s4 s_) 0
 else
  pure (LS.done (s2, s3))
theorem ZaK.L1_ok (a0 : (Vec Int 8)) (b1 : Nat) : LJ ZaK.cx (ZaK.F1 a0 b1) (fun s_ => ZaK.L1 a0 s_.1 s_.2.1 s_.2.2) := by
 rintro ⟨s2, s3, s4⟩
 show SJ _ _ _ _ (ZaK.L1 a0 s2 s3 s4) _
 unfold ZaK.L1
 refine SJ.sr 1 <| J.z 1 <| SJ.seq <| J.f ?_ ?_
 ·exact SJ.skip <| SJ.seq <| SJ.block (id := 1) <| SJ.sr 2 <| J.z 2 <| SJ.sr 1 <| J.z 1 <| SJ.seq <| SJ.block (id := 2) <| J.L (ZaK.L2_ok a0 b1 s2 s3 s4)
 ·exact SJ.exit (id := 0) (by rfl) <| SJ.sr 4 <| J.z 4 <| J.r
noncomputable def ZaK (a0 : (Vec Int 8)) : M (Int × Int) :=
 slot 103 >>= fun b1 =>
 Zck (fun s_ : (Int × Int × Int) => ZaK.L1 a0 s_.1 s_.2.1 s_.2.2) ((-1), 1, 0)
theorem ZjW (a0 : (Vec Int 8)) : Ref Tryd.prog 57 [((cI .i64).arr 8).val a0] (ZaK a0) ZaK.out := by
 refine J.Fn Tryd.func57 ?_
 unfold ZaK
 exact SJ.sr 3 <| J.b 0 ((cI .i64).arr 8) a0 fun b1 => J.z 2 <| SJ.sr 2 <| J.z 2 <| SJ.seq <| SJ.sr 1 <| J.z 1 <| SJ.block (id := 0) <| J.L (ZaK.L1_ok a0 b1)

/-! ### strconv.FormatInt: function 69 -/
noncomputable def ZbU.out (r_ : ByteArray) : Value := .string r_
noncomputable def ZbU (a0 : Int) (a1 : Int) : M ByteArray :=
 ZaI a0 a1 >>= fun r1 =>
 pure r1
theorem Zf9 (a0 : Int) (a1 : Int) : Ref Tryd.prog 69 [.int .i64 a0, .int .i64 a1] (ZbU a0 a1) ZbU.out := by
 refine J.Fn Tryd.func69 ?_
 unfold ZbU
 exact SJ.sr 1 <| J.z 1 <| SJ.sr 4 <| J.C 2 F54 (Zex _ _) fun r1 => J.z 1 <| J.r

/-! ### weir/addr.colons: function 58 -/
noncomputable def Za7.B : Code := bod Tryd.f58
noncomputable def Za7.cx : Fx := ⟨Tryd.prog, 58, Tryd.f58, none⟩
noncomputable def Za7.out (r_ : ByteArray) : Value := .string r_
noncomputable def Za7.F1 (a0 : Sl) : LF (Sl × Int) ByteArray := ⟨[.inBlock 0, .code (c2 (c2 (c2 Za7.B)))], c1 (c2 (c1 (c2 (c2 Za7.B)))), fun s_ => [(3, Sl.v s_.1), (6, Sl.v a0), (7, .int .i64 (a0.len : Int)), (8, .int .i64 s_.2)], fun s_ => [], (rt Za7.out)⟩
noncomputable def Za7.L1 (a0 : Sl) (s1 : Sl) (s2 : Int) : M (LS (Sl × Int) ByteArray) :=
 if s2 < (a0.len : Int) then
  idx a0.a a0.len s2 1 >>= fun p10 =>
  ld (cI .i64) p10 >>= fun x11 =>
  ZbU x11 16 >>= fun r12 =>
  slot 9 >>= fun b13 =>
  appl cS 9 16 ByteArray.empty s1 [r12] >>= fun r14 =>
  pure (LS.next (r14, IntKind.wrap .i64 (s2 + 1)))
 else
  Zar s1 Zsq >>= fun r15 =>
  pure (LS.done r15)
theorem Za7.L1_ok (a0 : Sl) : LJ Za7.cx (Za7.F1 a0) (fun s_ => Za7.L1 a0 s_.1 s_.2) := by
 rintro ⟨s1, s2⟩
 show SJ _ _ _ _ (Za7.L1 a0 s1 s2) _
 unfold Za7.L1
 refine SJ.sr 1 <| J.z 1 <| SJ.seq <| J.f ?_ ?_
 ·exact SJ.skip <| SJ.seq <| SJ.block (id := 1) <| SJ.sr 3 <| J.i 0 fun p10 => J.l 0 Ty3 fun x11 => J.z 1 <| SJ.rg 6 <| J.C 2 F69 (Zf9 _ _) fun r12 => OJ.rowSlot (d := 15) (t := 65) (parts := [(0, .tmp 14)]) (ps := [(0, cS.val r12)]) (cd := cS) (⟨[r12], rfl⟩ : Vec ByteArray 1) (owed := []) Ty9 (Zbj.cons (cd := cS) (q := r12) (o := 0) rfl (Upd.arr (i := 0) (by decide) (by decide)) Zbj.nil) fun b13 => OW.nil <| OJ.appl (d := 16) (t := 65) (u := 65) (so := .tmp 12) (xo := .tmp 15) (j := 0) (b := b13) (l := (cS.arr 1).enc (⟨[r12], rfl⟩ : Vec ByteArray 1)) (n := 1) (k := 1) [r12] (owed := []) Ty9 (by rfl) (Cod.arr_enc _ _ _) (by rfl) fun r14 => OW.nil <| J.z 1 <| SJ.inBlock <| SJ.rg 2 <| J.z 2 <| SJ.forget (List.Sublist.cons _ List.Sublist.slnil) <| J.o rfl
 ·exact SJ.exit (id := 0) (by rfl) <| SJ.sr 3 <| J.C 1 F28 (ZcP _ _) fun r15 => J.z 1 <| J.r
noncomputable def Za7 (a0 : Sl) : M ByteArray :=
 Zck (fun s_ : (Sl × Int) => Za7.L1 a0 s_.1 s_.2) (Sl.nil, 0)
theorem Zfj (a0 : Sl) : Ref Tryd.prog 58 [Sl.v a0] (Za7 a0) Za7.out := by
 refine J.Fn Tryd.func58 ?_
 unfold Za7
 exact SJ.sr 1 <| J.z 1 <| SJ.sr 1 <| J.z 1 <| SJ.seq <| SJ.sr 3 <| J.z 3 <| SJ.block (id := 0) <| J.L (Za7.L1_ok a0)

/-! ### weir/addr.PrintIP: function 42 -/
noncomputable def ZaQ.B : Code := bod Tryd.f42
noncomputable def ZaQ.cx : Fx := ⟨Tryd.prog, 42, Tryd.f42, none⟩
noncomputable def ZaQ.out (r_ : (ByteArray × Int)) : Value := .tuple #[.string r_.1, .int .i64 r_.2]
noncomputable def ZaQ.K1 (b46 : Nat) : M (ByteArray × Int) :=
 ld ((cI .i64).arr 8) (pt b46 0) >>= fun x54 =>
 ZaK x54 >>= fun r55 =>
 if r55.1 < 0 then
  cut 1 ⟨some (pt b46 0), 8, 8⟩ none none none >>= fun r58 =>
  Za7 r58 >>= fun r59 =>
  pure (r59, 0)
 else
  draw >>= fun _ =>
  cut 1 ⟨some (pt b46 0), 8, 8⟩ none (some r55.1) none >>= fun r60 =>
  Za7 r60 >>= fun r61 =>
  chk (((r61.size + str9.size : Nat) : Int) ≤ 9223372036854775807) >>= fun _ =>
  cut 1 ⟨some (pt b46 0), 8, 8⟩ (some (IntKind.wrap .i64 (r55.1 + r55.2))) none none >>= fun r62 =>
  Za7 r62 >>= fun r63 =>
  chk ((((r61 ++ str9).size + r63.size : Nat) : Int) ≤ 9223372036854775807) >>= fun _ =>
  pure (((r61 ++ str9) ++ r63), 0)
theorem ZaQ.K1_ok (b46 : Nat) :
  SJ ZaQ.cx [.code (c2 (c2 (c2 (c2 ZaQ.B))))] [(4, .pointer (some (pt b46 0)))] [] (ZaQ.K1 b46) (rt ZaQ.out) := by
 unfold ZaQ.K1
 refine SJ.sr 7 <| J.l 0 ZtN fun x54 => J.C 0 F57 (ZjW _) fun r55 => J.z 5 <| SJ.seq <| SJ.sr 2 <| J.z 2 <| J.f ?_ ?_
 ·exact SJ.sr 4 <| OJ.cutA (d := 58) (t := 103) (E := 3) (y := .tmp 4) (lo := none) (hi := none) (mx := none) (lo' := none) (hi' := none) (mx' := none) (fun h => by cases h) fun r58 => J.C 0 F58 (Zfj _) fun r59 => J.z 2 <| J.r
 ·exact SJ.skip <| SJ.seq <| J.R 12 Zc6 <| J.g 1 <| OJ.cutA (d := 61) (t := 103) (E := 3) (y := .tmp 4) (lo := none) (hi := (some (.tmp 60))) (mx := none) (lo' := none) (hi' := some (.i64, r55.1)) (mx' := none) (fun h => by cases h) fun r60 => J.C 0 F58 (Zfj _) fun r61 => OJ.cat (d := 63) (T := 9) (yT := 9) (y := .tmp 62) (z := .const (.string str9)) (p := r61) (q := str9) <| J.g 3 <| OJ.cutA (d := 67) (t := 103) (E := 3) (y := .tmp 4) (lo := (some (.tmp 66))) (hi := none) (mx := none) (lo' := some (.i64, IntKind.wrap .i64 (r55.1 + r55.2))) (hi' := none) (mx' := none) (fun h => by cases h) fun r62 => J.C 0 F58 (Zfj _) fun r63 => OJ.cat (d := 69) (T := 9) (yT := 9) (y := .tmp 63) (z := .tmp 68) (p := (r61 ++ str9)) (q := r63) <| J.z 2 <| J.r
noncomputable def ZaQ.F1 (b1 : Nat) (b46 : Nat) : LF Int (ByteArray × Int) := ⟨[.inBlock 1, .code (c2 (c2 (c2 (c2 ZaQ.B))))], c1 (c2 (c1 (c2 (c2 (c2 ZaQ.B))))), fun s_ => [(1, .pointer (some (pt b1 0))), (4, .pointer (some (pt b46 0))), (30, .int .i64 s_)], fun s_ => [], (rt ZaQ.out)⟩
noncomputable def ZaQ.L1 (b1 : Nat) (b46 : Nat) (s47 : Int) : M (LS Int (ByteArray × Int)) :=
 if s47 < 8 then
  draw >>= fun _ =>
  idx (some (Addr.add (pt b1 0) 1)) 16 (IntKind.wrap .i64 (2 * s47)) 1 >>= fun p65 =>
  ld (cI .u8) p65 >>= fun x66 =>
  idx (some (Addr.add (pt b1 0) 1)) 16 (IntKind.wrap .i64 ((IntKind.wrap .i64 (2 * s47)) + 1)) 1 >>= fun p67 =>
  ld (cI .u8) p67 >>= fun x68 =>
  idx (some (pt b46 0)) 8 s47 1 >>= fun p69 =>
  st (cI .i64) p69 (bor .i64 (IntKind.wrap .i64 ((IntKind.wrap .i64 x66) * 2 ^ 8)) (IntKind.wrap .i64 x68)) >>= fun _ =>
  pure (LS.next (IntKind.wrap .i64 (s47 + 1)))
 else
  (ZaQ.K1 b46) >>= fun b => pure (LS.done b)
theorem ZaQ.L1_ok (b1 : Nat) (b46 : Nat) : LJ ZaQ.cx (ZaQ.F1 b1 b46) (fun s_ => ZaQ.L1 b1 b46 s_) := by
 rintro s47
 show SJ _ _ _ _ (ZaQ.L1 b1 b46 s47) _
 unfold ZaQ.L1
 refine SJ.sr 1 <| J.z 1 <| SJ.seq <| J.f ?_ ?_
 ·exact SJ.skip <| SJ.seq <| SJ.block (id := 2) <| SJ.sr 2 <| J.z 2 <| J.R 18 Zc6 <| J.g 4 <| OJ.idxA (d := 37) (T := 57) (y := .tmp 36) (j := .tmp 35) (E := 5) (k := .i64) fun p65 => J.l 0 Ty5 fun x66 => J.g 6 <| OJ.idxA (d := 45) (T := 57) (y := .tmp 44) (j := .tmp 43) (E := 5) (k := .i64) fun p67 => J.l 0 Ty5 fun x68 => J.g 2 <| OJ.idxA (d := 49) (T := 103) (y := .tmp 4) (j := .tmp 33) (E := 3) (k := .i64) fun p69 => J.w 0 Ty3 <| J.z 0 <| SJ.inBlock <| SJ.rg 2 <| J.z 2 <| J.o rfl
 ·exact SJ.exit (id := 1) (by rfl) <| J.q <| SJ.done <| ZaQ.K1_ok b46
noncomputable def ZaQ (a0 : Za2) : M (ByteArray × Int) :=
 newv 59 Za1 a0 >>= fun b1 =>
 ld Za1 (pt b1 0) >>= fun x2 =>
 Zee x2 >>= fun r3 =>
 if ¬ (r3 = true) then
  pure (ByteArray.empty, 40)
 else
  ld (cI .i64) (pt b1 0) >>= fun x26 =>
  if x26 = 4 then
   cut 1 ⟨some (Addr.add (pt b1 0) 1), 16, 16⟩ none (some 4) none >>= fun r37 =>
   Zbe r37 >>= fun r38 =>
   pure (r38, 0)
  else
   cut 1 ⟨some (Addr.add (pt b1 0) 1), 16, 16⟩ none (some 12) none >>= fun r39 =>
   (chk (12 ≤ r39.len) >>= fun _ => nilck r39.a) >>= fun p40 =>
   ld ((cI .u8).arr 12) p40 >>= fun x41 =>
   if x41 = (⟨[0, 0, 0, 0, 0, 0, 0, 0, 0, 0, 255, 255], rfl⟩ : (Vec Int 12)) then
    cut 1 ⟨some (Addr.add (pt b1 0) 1), 16, 16⟩ (some 12) none none >>= fun r44 =>
    Zbe r44 >>= fun r45 =>
    chk (((ZoK.size + r45.size : Nat) : Int) ≤ 9223372036854775807) >>= fun _ =>
    pure ((ZoK ++ r45), 0)
   else
    newv 103 ((cI .i64).arr 8) (Vec.rep 8 0) >>= fun b46 =>
    Zck (fun s_ : Int => ZaQ.L1 b1 b46 s_) 0
theorem Zgt (a0 : Za2) : Ref Tryd.prog 42 [Za1.val a0] (ZaQ a0) ZaQ.out := by
 refine J.Fn Tryd.func42 ?_
 unfold ZaQ
 refine SJ.sr 3 <| J.B 0 fun b1 => J.z 2 <| SJ.seq <| SJ.block (id := 0) <| SJ.sr 4 <| J.l 0 Ty59 fun x2 => J.C 0 F55 (ZlJ _) fun r3 => J.z 2 <| J.f ?_ ?_
 ·exact SJ.sr 2 <| J.z 2 <| J.r
 ·refine SJ.sr 4 <| J.l 1 Ty3 fun x26 => J.z 2 <| J.f ?_ ?_
  ·exact SJ.sr 5 <| J.g 1 <| OJ.cutA (d := 17) (t := 57) (E := 5) (y := .tmp 16) (lo := none) (hi := (some (.const (.int .i64 4)))) (mx := none) (lo' := none) (hi' := some (.i64, 4)) (mx' := none) (fun h => by cases h) fun r37 => J.C 0 F56 (ZgU _) fun r38 => J.z 2 <| J.r
  ·refine SJ.sr 7 <| J.g 1 <| OJ.cutA (d := 21) (t := 57) (E := 5) (y := .tmp 20) (lo := none) (hi := (some (.const (.int .i64 12)))) (mx := none) (lo' := none) (hi' := some (.i64, 12)) (mx' := none) (fun h => by cases h) fun r39 => OJ.toArr (d := 22) (t := 102) (E := 5) (y := .tmp 21) (s := r39) fun p40 => J.l 0 ZrY fun x41 => OJ.build (d := 24) (T := 102) (parts := [(10, .const (.int .u8 255)), (11, .const (.int .u8 255))]) (ps := [(10, (cI .u8).val 255), (11, (cI .u8).val 255)]) (cd := ((cI .u8).arr 12)) (z0 := (Vec.rep 12 0)) (⟨[0, 0, 0, 0, 0, 0, 0, 0, 0, 0, 255, 255], rfl⟩ : (Vec Int 12)) ZrY rfl (Zbj.cons (cd := (cI .u8)) (q := 255) (o := 10) (by kernel_rfl) (Upd.arr (i := 10) (by decide) (by decide)) (Zbj.cons (cd := (cI .u8)) (q := 255) (o := 11) (by kernel_rfl) (Upd.arr (i := 11) (by decide) (by decide)) Zbj.nil)) <| OJ.eql (d := 25) (T := 102) (yT := 102) (y := .tmp 23) (z := .tmp 24) (cd := ((cI .u8).arr 12)) (p := x41) (q := (⟨[0, 0, 0, 0, 0, 0, 0, 0, 0, 0, 255, 255], rfl⟩ : (Vec Int 12))) rfl ZtR <| J.z 1 <| J.f ?_ ?_
   ·exact SJ.sr 6 <| J.g 1 <| OJ.cutA (d := 27) (t := 57) (E := 5) (y := .tmp 26) (lo := (some (.const (.int .i64 12)))) (hi := none) (mx := none) (lo' := some (.i64, 12)) (hi' := none) (mx' := none) (fun h => by cases h) fun r44 => J.C 0 F56 (ZgU _) fun r45 => OJ.cat (d := 29) (T := 9) (yT := 9) (y := .const (.string ZoK)) (z := .tmp 28) (p := ZoK) (q := r45) <| J.z 2 <| J.r
   ·exact SJ.skip <| SJ.inBlock <| SJ.sr 1 <| J.A 0 ZtN fun b46 => J.z 0 <| SJ.seq <| SJ.sr 1 <| J.z 1 <| SJ.block (id := 1) <| J.L (ZaQ.L1_ok b1 b46)

/-! ### weir/addr.PrintPrefix: function 41 -/
noncomputable def Zch.out (r_ : (ByteArray × Int)) : Value := .tuple #[.string r_.1, .int .i64 r_.2]
noncomputable def Zch (a0 : Zaj) : M (ByteArray × Int) :=
 slot 61 >>= fun b1 =>
 ZbM a0 >>= fun r2 =>
 if r2 ≠ 0 then
  pure (ByteArray.empty, r2)
 else
  ZaQ a0.IP >>= fun r3 =>
  chk (((r3.1.size + Zk6.size : Nat) : Int) ≤ 9223372036854775807) >>= fun _ =>
  Zbl a0.Len >>= fun r4 =>
  chk ((((r3.1 ++ Zk6).size + r4.size : Nat) : Int) ≤ 9223372036854775807) >>= fun _ =>
  pure (((r3.1 ++ Zk6) ++ r4), 0)
theorem Zhb (a0 : Zaj) : Ref Tryd.prog 41 [Zav.val a0] (Zch a0) Zch.out := by
 refine J.Fn Tryd.func41 ?_
 unfold Zch
 refine SJ.sr 3 <| J.b 0 Zav a0 fun b1 => J.z 2 <| SJ.seq <| SJ.sr 3 <| J.k 0 0 rfl Ty61 (At.whole _) <| J.C 0 F38 (ZdF _) fun r2 => J.z 1 <| SJ.sr 2 <| J.z 2 <| J.f ?_ ?_
 ·exact SJ.sr 3 <| J.z 3 <| J.r
 ·exact SJ.skip <| SJ.sr 8 <| J.k 1 0 rfl Ty59 (ZbA _) <| J.C 0 F42 (Zgt _) fun r3 => J.z 5 <| SJ.sr 8 <| J.g 1 <| OJ.cat (d := 19) (T := 9) (yT := 9) (y := .tmp 18) (z := .const (.string Zk6)) (p := r3.1) (q := Zk6) <| J.k 1 0 rfl Ty3 (ZbS _) <| J.C 0 F25 (ZbL _) fun r4 => OJ.cat (d := 23) (T := 9) (yT := 9) (y := .tmp 19) (z := .tmp 22) (p := (r3.1 ++ Zk6)) (q := r4) <| J.z 2 <| J.r
end Go.Proofs.YtpmhinidiplhiaaDoor.Lx
