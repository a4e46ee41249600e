/- Programs of the M-world for Go functions, each with the proof that the Go text does what it says. Printed by lxgen.py. -/
import Derived.Test.YtpmhinidiplhiaaDoorLxT
import Derived.Test.YtpmhinidiplhiaaDoorLxP0
import Derived.Test.YtpmhinidiplhiaaDoorLxP1
set_option linter.unusedVariables false
set_option linter.unusedSimpArgs false
set_option linter.unusedSectionVars false
namespace Go.Proofs.YtpmhinidiplhiaaDoor.Lx
open Go Go.Proofs
variable [ZcG]
/-! ### (*weir/rules.reader).side: function 35 -/
noncomputable def Zac.B : Code := bod Tryd.f35
noncomputable def Zac.cx : Fx := ⟨Tryd.prog, 35, Tryd.f35, none⟩
noncomputable def Zac.out (r_ : Zan) : Value := ZaF.val r_
noncomputable def Zac.F1 (a0 : (Option Addr)) (b1 : Nat) (b2 : Nat) : LF (Bool × Zan) Zan := ⟨[.inBlock 2, .code (c2 (c2 (c2 (c2 (c2 (c2 Zac.B))))))], c1 (c2 (c1 (c2 (c2 (c2 (c2 (c2 Zac.B))))))), fun s_ => [(0, .pointer a0), (2, .pointer (some (pt b1 0))), (3, .pointer (some (pt b2 0))), (5, .bool s_.1)], fun s_ => [(b2, ZaF.enc s_.2), (b1, ZaF.enc ZaC)], (rt Zac.out)⟩
noncomputable def Zac.L1 (a0 : (Option Addr)) (s35 : Bool) (s36 : Zan) : M (LS (Bool × Zan) Zan) :=
 (if s35 = true then
   nilck a0 >>= fun p45 =>
   ld (cI .i64) (Addr.add p45 19) >>= fun x46 =>
   pure (x46 == 0)
  else
   pure false) >>= fun y47 =>
 if y47 = true then
  draw >>= fun _ =>
  ZaH a0 (s36.Ports.len : Int) >>= fun r48 =>
  slot 64 >>= fun b49 =>
  appl ZaS 64 16 Zfs s36.Ports [r48] >>= fun r50 =>
  ZaX a0 ZiV >>= fun r51 =>
  pure (LS.next (r51, (⟨s36.Not, s36.Nets, r50⟩ : Zan)))
 else
  pure (LS.done s36)
theorem Zac.L1_ok (a0 : (Option Addr)) (b1 : Nat) (b2 : Nat) : LJ Zac.cx (Zac.F1 a0 b1 b2) (fun s_ => Zac.L1 a0 s_.1 s_.2) := by
 rintro ⟨s35, s36⟩
 show SJ _ _ _ _ (Zac.L1 a0 s35 s36) _
 unfold Zac.L1
 refine SJ.seq <| SJ.sr 8 <| J.j 2 5 .bool ?_ ?_ fun y47 => ?_
 ·exact J.n 1 fun p45 => J.l 1 Ty28 fun x46 => J.e 2
 ·exact J.e 6
 ·refine J.z 0 <| J.f ?_ ?_
  ·exact SJ.skip <| SJ.seq <| SJ.block (id := 3) <| J.R 11 Zc3 <| J.k 1 0 rfl Ty23 (Zbb _) <| J.k 2 0 rfl Ty23 (Zbb _) <| J.g 1 <| OJ.call (d := 73) (g := 51) (ats := #[48, 3]) (args := [.tmp 69, .tmp 72]) (owed := [⟨1, 23, (pt b2 2), cL.val s36.Ports⟩]) F51 (ZfZ a0 (s36.Ports.len : Int)) fun r48 => OW.known (j := 0) (q := s36.Ports) Ty23 rfl (Zbb s36) <| OW.nil <| OJ.rowSlot (d := 74) (t := 23) (parts := [(0, .tmp 73)]) (ps := [(0, ZaS.val r48)]) (cd := ZaS) (⟨[r48], rfl⟩ : Vec ZaM 1) (owed := [⟨1, 23, (pt b2 2), cL.val s36.Ports⟩]) Ty64 (Zbj.cons (cd := ZaS) (q := r48) (o := 0) rfl (Upd.arr (i := 0) (by decide) (by decide)) Zbj.nil) fun b49 => OW.known (j := 1) (q := s36.Ports) Ty23 rfl (Zbb s36) <| OW.nil <| OJ.appl (d := 75) (t := 23) (u := 23) (so := .tmp 68) (xo := .tmp 74) (j := 0) (b := b49) (l := (ZaS.arr 1).enc (⟨[r48], rfl⟩ : Vec ZaM 1)) (n := 1) (k := 1) [r48] (owed := []) Ty64 (by rfl) (Cod.arr_enc _ _ _) (by rfl) fun r50 => OW.nil <| J.s 1 1 rfl Ty23 (Zea _ r50) <| J.z 0 <| SJ.inBlock <| SJ.rg 3 <| J.C 1 F30 (ZbH _ _) fun r51 => J.z 1 <| SJ.forget (List.Sublist.cons _ (List.Sublist.cons_cons _ (List.Sublist.cons_cons _ List.Sublist.slnil))) <| J.o rfl
  ·exact SJ.exit (id := 2) (by rfl) <| SJ.sr 2 <| J.k 0 0 rfl Ty25 (At.whole _) <| J.s 0 1 rfl Ty25 (Upd.w s36) <| J.z 0 <| SJ.ret rfl (Res.run (ys := [ZaF.val s36]) (.cell (j := 1) (b := b1) (cd := ZaF) (q := s36) (by kernel_rfl) rfl Ty25 (At.whole _) .nil) rfl)
noncomputable def Zac.K1 (a0 : (Option Addr)) (j23 : Zan) : M Zan :=
 Zci (fun s_ : (Bool × Zan) => Zac.L1 a0 s_.1 s_.2) (true, j23)
theorem Zac.K1_ok (a0 : (Option Addr)) (b1 : Nat) (b2 : Nat) (j23 : Zan) :
  SJ Zac.cx [.code (c2 (c2 (c2 (c2 (c2 Zac.B)))))] [(0, .pointer a0), (2, .pointer (some (pt b1 0))), (3, .pointer (some (pt b2 0)))] [(b2, ZaF.enc j23), (b1, ZaF.enc ZaC)] (Zac.K1 a0 j23) (rt Zac.out) := by
 unfold Zac.K1
 exact SJ.seq <| SJ.sr 1 <| J.z 1 <| SJ.block (id := 2) <| J.L (Zac.L1_ok a0 b1 b2)
noncomputable def Zac.K2 (a0 : (Option Addr)) (j23 : Zan) : M Zan :=
 ZaX a0 ZsO >>= fun r24 =>
 if ¬ (r24 = true) then
  pure j23
 else
  nilck a0 >>= fun p25 =>
  ld (cI .i64) (Addr.add (Addr.add p25 3) 3) >>= fun x26 =>
  ZcT x26 >>= fun r27 =>
  if ¬ (r27 = true) then
   draw >>= fun _ =>
   nilck a0 >>= fun p53 =>
   ld cL p53 >>= fun x54 =>
   nilck a0 >>= fun p55 =>
   ld (cI .i64) (Addr.add p55 1) >>= fun x56 =>
   idx x54.a x54.len (IntKind.wrap .i64 (x56 - 1)) 2 >>= fun p57 =>
   ld (cI .i64) (Addr.add p57 1) >>= fun x58 =>
   ZaN a0 165 x58 >>= fun r59 =>
   Zac.K1 a0 j23
  else
   Zac.K1 a0 j23
theorem Zac.K2_ok (a0 : (Option Addr)) (b1 : Nat) (b2 : Nat) (j23 : Zan) :
  SJ Zac.cx [.code (c2 (c2 (c2 Zac.B)))] [(0, .pointer a0), (2, .pointer (some (pt b1 0))), (3, .pointer (some (pt b2 0)))] [(b2, ZaF.enc j23), (b1, ZaF.enc ZaC)] (Zac.K2 a0 j23) (rt Zac.out) := by
 unfold Zac.K2
 refine SJ.seq <| SJ.sr 3 <| J.C 1 F30 (ZbH _ _) fun r24 => J.z 1 <| J.f ?_ ?_
 ·exact SJ.sr 2 <| J.k 0 0 rfl Ty25 (At.whole _) <| J.s 0 1 rfl Ty25 (Upd.w j23) <| J.z 0 <| SJ.ret rfl (Res.run (ys := [ZaF.val j23]) (.cell (j := 1) (b := b1) (cd := ZaF) (q := j23) (by kernel_rfl) rfl Ty25 (At.whole _) .nil) rfl)
 ·refine SJ.skip <| SJ.seq <| SJ.sr 7 <| J.n 1 fun p25 => J.l 2 Ty3 fun x26 => J.C 0 F24 (Zf1 _) fun r27 => J.z 1 <| J.f ?_ ?_
  ·exact J.R 14 Zc3 <| J.n 2 fun p53 => J.l 1 Ty45 fun x54 => J.n 1 fun p55 => J.l 1 Ty3 fun x56 => J.i 1 fun p57 => J.l 1 Ty3 fun x58 => J.C 0 F20 (ZaV _ _ _) fun r59 => J.z 0 <| J.q <| Zac.K1_ok a0 b1 b2 j23
  ·exact SJ.skip <| J.q <| Zac.K1_ok a0 b1 b2 j23
noncomputable def Zac.K3 (a0 : (Option Addr)) (s64 : Zan) : M Zan :=
 Zac.K2 a0 s64
theorem Zac.K3_ok (a0 : (Option Addr)) (b1 : Nat) (b2 : Nat) (s64 : Zan) :
  SJ Zac.cx [.code (c2 (c2 (c2 Zac.B)))] [(0, .pointer a0), (2, .pointer (some (pt b1 0))), (3, .pointer (some (pt b2 0)))] [(b2, ZaF.enc s64), (b1, ZaF.enc ZaC)] (Zac.K3 a0 s64) (rt Zac.out) := by
 unfold Zac.K3
 exact J.q <| Zac.K2_ok a0 b1 b2 s64
noncomputable def Zac.F2 (a0 : (Option Addr)) (b1 : Nat) (b2 : Nat) : LF (Bool × Zan) Zan := ⟨[.inBlock 0, .code (c2 (c2 (c2 Zac.B)))], c1 (c2 (c2 (c1 (c2 (c1 (c2 (c2 Zac.B))))))), fun s_ => [(0, .pointer a0), (2, .pointer (some (pt b1 0))), (3, .pointer (some (pt b2 0))), (4, .bool s_.1)], fun s_ => [(b2, ZaF.enc s_.2), (b1, ZaF.enc ZaC)], (rt Zac.out)⟩
noncomputable def Zac.L2 (a0 : (Option Addr)) (s63 : Bool) (s64 : Zan) : M (LS (Bool × Zan) Zan) :=
 (if s63 = true then
   nilck a0 >>= fun p73 =>
   ld (cI .i64) (Addr.add p73 19) >>= fun x74 =>
   pure (x74 == 0)
  else
   pure false) >>= fun y75 =>
 if y75 = true then
  draw >>= fun _ =>
  Zay a0 (s64.Nets.len : Int) >>= fun r76 =>
  slot 61 >>= fun b77 =>
  appl Zau 61 32 Za4 s64.Nets [r76] >>= fun r78 =>
  ZaX a0 ZiV >>= fun r79 =>
  pure (LS.next (r79, (⟨s64.Not, r78, s64.Ports⟩ : Zan)))
 else
  (Zac.K3 a0 s64) >>= fun b => pure (LS.done b)
theorem Zac.L2_ok (a0 : (Option Addr)) (b1 : Nat) (b2 : Nat) : LJ Zac.cx (Zac.F2 a0 b1 b2) (fun s_ => Zac.L2 a0 s_.1 s_.2) := by
 rintro ⟨s63, s64⟩
 show SJ _ _ _ _ (Zac.L2 a0 s63 s64) _
 unfold Zac.L2
 refine SJ.seq <| SJ.sr 8 <| J.j 2 5 .bool ?_ ?_ fun y75 => ?_
 ·exact J.n 1 fun p73 => J.l 1 Ty28 fun x74 => J.e 2
 ·exact J.e 6
 ·refine J.z 0 <| J.f ?_ ?_
  ·exact SJ.skip <| SJ.seq <| SJ.block (id := 1) <| J.R 11 Zc3 <| J.k 1 0 rfl Ty22 (Zbi _) <| J.k 2 0 rfl Ty22 (Zbi _) <| J.g 1 <| OJ.call (d := 28) (g := 50) (ats := #[48, 3]) (args := [.tmp 24, .tmp 27]) (owed := [⟨1, 22, (pt b2 1), cL.val s64.Nets⟩]) F50 (ZgT a0 (s64.Nets.len : Int)) fun r76 => OW.known (j := 0) (q := s64.Nets) Ty22 rfl (Zbi s64) <| OW.nil <| OJ.rowSlot (d := 29) (t := 22) (parts := [(0, .tmp 28)]) (ps := [(0, Zau.val r76)]) (cd := Zau) (⟨[r76], rfl⟩ : Vec Zak 1) (owed := [⟨1, 22, (pt b2 1), cL.val s64.Nets⟩]) Ty61 (Zbj.cons (cd := Zau) (q := r76) (o := 0) rfl (Upd.arr (i := 0) (by decide) (by decide)) Zbj.nil) fun b77 => OW.known (j := 1) (q := s64.Nets) Ty22 rfl (Zbi s64) <| OW.nil <| OJ.appl (d := 30) (t := 22) (u := 22) (so := .tmp 23) (xo := .tmp 29) (j := 0) (b := b77) (l := (Zau.arr 1).enc (⟨[r76], rfl⟩ : Vec Zak 1)) (n := 1) (k := 1) [r76] (owed := []) Ty61 (by rfl) (Cod.arr_enc _ _ _) (by rfl) fun r78 => OW.nil <| J.s 1 1 rfl Ty22 (Zel _ r78) <| J.z 0 <| SJ.inBlock <| SJ.rg 3 <| J.C 1 F30 (ZbH _ _) fun r79 => J.z 1 <| SJ.forget (List.Sublist.cons _ (List.Sublist.cons_cons _ (List.Sublist.cons_cons _ List.Sublist.slnil))) <| J.o rfl
  ·exact SJ.exit (id := 0) (by rfl) <| J.q <| SJ.done <| Zac.K3_ok a0 b1 b2 s64
noncomputable def Zac (a0 : (Option Addr)) : M Zan :=
 slot 25 >>= fun b1 =>
 slot 25 >>= fun b2 =>
 ZaX a0 ZkM >>= fun r3 =>
 if ¬ (r3 = true) then
  ZaX a0 ZsP >>= fun r62 =>
  Zci (fun s_ : (Bool × Zan) => Zac.L2 a0 s_.1 s_.2) (true, (⟨r62, ZaC.Nets, ZaC.Ports⟩ : Zan))
 else
  Zac.K2 a0 ZaC
theorem Zes (a0 : (Option Addr)) : Ref Tryd.prog 35 [.pointer a0] (Zac a0) Zac.out := by
 refine J.Fn Tryd.func35 ?_
 unfold Zac
 refine SJ.sr 1 <| J.a 0 Ty25 fun b1 => J.z 0 <| SJ.sr 1 <| J.a 0 Ty25 fun b2 => J.z 0 <| SJ.seq <| SJ.sr 3 <| J.C 1 F30 (ZbH _ _) fun r3 => J.z 1 <| J.f ?_ ?_
 ·exact SJ.sr 4 <| J.C 1 F30 (ZbH _ _) fun r62 => J.s 1 0 rfl Ty4 (ZjF _ r62) <| J.z 0 <| SJ.sr 1 <| J.z 1 <| SJ.block (id := 0) <| J.L (Zac.L2_ok a0 b1 b2)
 ·exact SJ.skip <| J.q <| Zac.K2_ok a0 b1 b2 ZaC

/-! ### (*weir/rules.reader).flags: function 36 -/
noncomputable def Zaj.B : Code := bod Tryd.f36
noncomputable def Zaj.cx : Fx := ⟨Tryd.prog, 36, Tryd.f36, none⟩
noncomputable def Zaj.out (r_ : Unit) : Value := .tuple #[]
noncomputable def Zaj.F1 (a0 : (Option Addr)) : LF Bool Unit := ⟨[.inBlock 0], c1 (c2 Zaj.B), fun s_ => [(0, .pointer a0), (2, .bool s_)], fun s_ => [], (rt Zaj.out)⟩
noncomputable def Zaj.K1 (a0 : (Option Addr)) : M (LS Bool Unit) :=
 ZaX a0 ZiV >>= fun r99 =>
 pure (LS.next r99)
theorem Zaj.K1_ok (a0 : (Option Addr)) :
  SJ Zaj.cx [.inBlock 2, .inBlock 1, .code (c2 (c2 (c1 (c1 (c2 Zaj.B))))), .inLoop (c1 (c1 (c2 Zaj.B))), .inBlock 0] [(0, .pointer a0)] [] (Zaj.K1 a0) (Zaj.F1 a0).f := by
 unfold Zaj.K1
 exact SJ.inBlock <| SJ.inBlock <| SJ.rg 3 <| J.C 1 F30 (ZbH _ _) fun r99 => J.z 1 <| J.o rfl
noncomputable def Zaj.L1 (a0 : (Option Addr)) (s1 : Bool) : M (LS Bool Unit) :=
 (if s1 = true then
   nilck a0 >>= fun p2 =>
   ld (cI .i64) (Addr.add p2 19) >>= fun x3 =>
   pure (x3 == 0)
  else
   pure false) >>= fun y4 =>
 if y4 = true then
  Zbr a0 >>= fun r5 =>
  slot 53 >>= fun b6 =>
  ZbC r5.s Zis >>= fun r7 =>
  ld cL ⟨1, 0, none⟩ >>= fun x8 =>
  Zaq x8 r7.1 >>= fun r9 =>
  nilck a0 >>= fun p10 =>
  ld (cI .i64) (Addr.add p10 19) >>= fun x11 =>
  if x11 ≠ 0 then
   Zaj.K1 a0
  else
   if r9 < 0 then
    ZaN a0 160 r5.at_ >>= fun r143 =>
    Zaj.K1 a0
   else
    draw >>= fun _ =>
    nilck a0 >>= fun p144 =>
    ld (cI .i64) (Addr.add (Addr.add p144 3) 12) >>= fun x145 =>
    nilck a0 >>= fun p146 =>
    ld (cI .i64) (Addr.add (Addr.add p146 3) 13) >>= fun x147 =>
    chk (0 ≤ (IntKind.wrap .u64 r9)) >>= fun _ =>
    if (band .i64 (Int.fdiv (bor .i64 x145 x147) (2 ^ min (Int.toNat (IntKind.wrap .u64 r9)) 64)) 1) = 1 then
     ZaN a0 165 r5.at_ >>= fun r166 =>
     Zaj.K1 a0
    else
     if r7.2 = true then
      nilck a0 >>= fun p175 =>
      ld (cI .i64) (Addr.add (Addr.add p175 3) 13) >>= fun x176 =>
      chk (0 ≤ (IntKind.wrap .u64 r9)) >>= fun _ =>
      nilck a0 >>= fun p177 =>
      st (cI .i64) (Addr.add (Addr.add p177 3) 13) (bor .i64 x176 (IntKind.wrap .i64 (1 * 2 ^ min (Int.toNat (IntKind.wrap .u64 r9)) 64))) >>= fun _ =>
      Zaj.K1 a0
     else
      nilck a0 >>= fun p179 =>
      ld (cI .i64) (Addr.add (Addr.add p179 3) 12) >>= fun x180 =>
      chk (0 ≤ (IntKind.wrap .u64 r9)) >>= fun _ =>
      nilck a0 >>= fun p181 =>
      st (cI .i64) (Addr.add (Addr.add p181 3) 12) (bor .i64 x180 (IntKind.wrap .i64 (1 * 2 ^ min (Int.toNat (IntKind.wrap .u64 r9)) 64))) >>= fun _ =>
      Zaj.K1 a0
 else
  pure (LS.done ())
theorem Zaj.L1_ok (a0 : (Option Addr)) : LJ Zaj.cx (Zaj.F1 a0) (fun s_ => Zaj.L1 a0 s_) := by
 rintro s1
 show SJ _ _ _ _ (Zaj.L1 a0 s1) _
 unfold Zaj.L1
 refine SJ.seq <| SJ.sr 8 <| J.j 2 5 .bool ?_ ?_ fun y4 => ?_
 ·exact J.n 1 fun p2 => J.l 1 Ty28 fun x3 => J.e 2
 ·exact J.e 6
 ·refine J.z 0 <| J.f ?_ ?_
  ·refine SJ.skip <| SJ.seq <| SJ.block (id := 1) <| SJ.sr 4 <| J.C 1 F46 (Zch _) fun r5 => J.a 0 Ty53 fun b6 => J.s 0 0 rfl Ty53 (Upd.w r5) <| J.z 0 <| SJ.sr 8 <| J.k 1 0 rfl Ty9 (ZaZ _) <| J.C 0 F49 (Zeq _ _) fun r7 => J.z 5 <| SJ.sr 4 <| J.l 0 Ty65 fun x8 => J.C 1 F29 (Zcd _ _) fun r9 => J.z 1 <| SJ.block (id := 2) <| SJ.sr 6 <| J.n 1 fun p10 => J.l 1 Ty28 fun x11 => J.z 2 <| J.f ?_ ?_
   ·exact SJ.skip <| SJ.forget (List.Sublist.cons _ List.Sublist.slnil) <| J.q <| Zaj.K1_ok a0
   ·refine SJ.sr 3 <| J.z 3 <| J.f ?_ ?_
    ·exact SJ.rg 4 <| J.k 2 0 rfl Ty3 (Zbh _) <| J.C 0 F20 (ZaV _ _ _) fun r143 => J.z 0 <| SJ.forget (List.Sublist.cons _ List.Sublist.slnil) <| J.q <| Zaj.K1_ok a0
    ·refine SJ.seq <| J.R 17 Zc3 <| J.n 1 fun p144 => J.l 2 Ty3 fun x145 => J.n 1 fun p146 => J.l 2 Ty3 fun x147 => J.g 3 <| OJ.shr (d := 67) (T := 3) (yT := 68) (y := .tmp 64) (z := .tmp 66) (k := .i64) (yk := .u64) (p := (bor .i64 x145 x147)) (q := (IntKind.wrap .u64 r9)) fun hq185 => J.z 3 <| J.f ?_ ?_
     ·exact SJ.rg 4 <| J.k 2 0 rfl Ty3 (Zbh _) <| J.C 0 F20 (ZaV _ _ _) fun r166 => J.z 0 <| SJ.forget (List.Sublist.cons _ List.Sublist.slnil) <| J.q <| Zaj.K1_ok a0
     ·refine SJ.sr 2 <| J.z 2 <| J.f ?_ ?_
      ·exact SJ.rg 13 <| J.n 1 fun p175 => J.l 2 Ty3 fun x176 => J.g 2 <| OJ.shl (d := 83) (T := 3) (yT := 68) (y := .const (.int .i64 1)) (z := .tmp 82) (k := .i64) (yk := .u64) (p := 1) (q := (IntKind.wrap .u64 r9)) fun hq178 => J.n 1 fun p177 => J.w 2 Ty3 <| J.z 0 <| SJ.forget (List.Sublist.cons _ List.Sublist.slnil) <| J.q <| Zaj.K1_ok a0
      ·exact SJ.rg 13 <| J.n 1 fun p179 => J.l 2 Ty3 fun x180 => J.g 2 <| OJ.shl (d := 35) (T := 3) (yT := 68) (y := .const (.int .i64 1)) (z := .tmp 34) (k := .i64) (yk := .u64) (p := 1) (q := (IntKind.wrap .u64 r9)) fun hq182 => J.n 1 fun p181 => J.w 2 Ty3 <| J.z 0 <| SJ.forget (List.Sublist.cons _ List.Sublist.slnil) <| J.q <| Zaj.K1_ok a0
  ·exact SJ.exit (id := 0) (by rfl) <| SJ.end_ rfl (Res.run (ys := []) .nil rfl)
noncomputable def Zaj (a0 : (Option Addr)) : M Unit :=
 Zci (fun s_ : Bool => Zaj.L1 a0 s_) true
theorem Zf0 (a0 : (Option Addr)) : Ref Tryd.prog 36 [.pointer a0] (Zaj a0) Zaj.out := by
 refine J.Fn Tryd.func36 ?_
 unfold Zaj
 exact SJ.sr 1 <| J.z 1 <| SJ.block (id := 0) <| J.L (Zaj.L1_ok a0)

/-! ### (*weir/rules.reader).clause: function 21 -/
noncomputable def Zax.B : Code := bod Tryd.f21
noncomputable def Zax.cx : Fx := ⟨Tryd.prog, 21, Tryd.f21, none⟩
noncomputable def Zax.out (r_ : Bool) : Value := .bool r_
noncomputable def Zax.K1  : M Bool :=
 pure true
theorem Zax.K1_ok  :
  SJ Zax.cx [.inBlock 0, .code (c2 (c2 Zax.B))] [] [] (Zax.K1) (rt Zax.out) := by
 unfold Zax.K1
 exact SJ.inBlock <| SJ.sr 1 <| J.z 1 <| J.r
noncomputable def Zax (a0 : (Option Addr)) (a1 : ByteArray) : M Bool :=
 if a1.toList = Zr0.toList then
  Zb4 a0 >>= fun r238 =>
  nilck a0 >>= fun p239 =>
  st (cI .i64) (Addr.add (Addr.add p239 3) 4) (IntKind.wrap .i64 (r238 + 1)) >>= fun _ =>
  pure true
 else
  if a1.toList = ZrZ.toList then
   Zbm a0 1 4094 >>= fun r357 =>
   nilck a0 >>= fun p358 =>
   st (cI .i64) (Addr.add (Addr.add p358 3) 5) r357 >>= fun _ =>
   pure true
  else
   if a1.toList = ZmN.toList then
    Zac a0 >>= fun r416 =>
    nilck a0 >>= fun p417 =>
    st ZaF (Addr.add (Addr.add p417 3) 6) r416 >>= fun _ =>
    Zax.K1
   else
    if a1.toList = Zpe.toList then
     Zac a0 >>= fun r445 =>
     nilck a0 >>= fun p446 =>
     st ZaF (Addr.add (Addr.add p446 3) 9) r445 >>= fun _ =>
     Zax.K1
    else
     if a1.toList = ZmM.toList then
      Zaj a0 >>= fun r459 =>
      Zax.K1
     else
      if a1.toList = ZmL.toList then
       Zbm a0 0 255 >>= fun r465 =>
       nilck a0 >>= fun p466 =>
       st (cI .i64) (Addr.add (Addr.add p466 3) 14) (IntKind.wrap .i64 (r465 + 1)) >>= fun _ =>
       Zax.K1
      else
       if a1.toList = ZrY.toList then
        nilck a0 >>= fun p468 =>
        st cB (Addr.add (Addr.add p468 3) 15) true >>= fun _ =>
        Zax.K1
       else
        pure false
theorem ZfS (a0 : (Option Addr)) (a1 : ByteArray) : Ref Tryd.prog 21 [.pointer a0, .string a1] (Zax a0 a1) Zax.out := by
 refine J.Fn Tryd.func21 ?_
 unfold Zax
 refine SJ.sr 1 <| J.z 1 <| SJ.seq <| SJ.sr 1 <| J.z 1 <| SJ.block (id := 0) <| SJ.sr 2 <| J.z 2 <| J.f ?_ ?_
 ·exact SJ.rg 8 <| J.C 2 F34 (Zgx _) fun r238 => J.n 1 fun p239 => J.w 2 Ty3 <| J.z 0 <| SJ.inBlock <| SJ.sr 1 <| J.z 1 <| J.r
 ·refine SJ.sr 2 <| J.z 2 <| J.f ?_ ?_
  ·exact SJ.rg 7 <| J.C 2 F31 (Zct _ _ _) fun r357 => J.n 0 fun p358 => J.w 2 Ty3 <| J.z 0 <| SJ.inBlock <| SJ.sr 1 <| J.z 1 <| J.r
  ·refine SJ.sr 2 <| J.z 2 <| J.f ?_ ?_
   ·exact SJ.rg 7 <| J.C 2 F35 (Zes _) fun r416 => J.n 0 fun p417 => J.w 2 Ty25 <| J.z 0 <| J.q <| Zax.K1_ok 
   ·refine SJ.sr 2 <| J.z 2 <| J.f ?_ ?_
    ·exact SJ.rg 7 <| J.C 2 F35 (Zes _) fun r445 => J.n 0 fun p446 => J.w 2 Ty25 <| J.z 0 <| J.q <| Zax.K1_ok 
    ·refine SJ.sr 2 <| J.z 2 <| J.f ?_ ?_
     ·exact SJ.rg 2 <| J.C 1 F36 (Zf0 _) fun r459 => J.z 0 <| J.q <| Zax.K1_ok 
     ·refine SJ.sr 2 <| J.z 2 <| J.f ?_ ?_
      ·exact SJ.rg 8 <| J.C 2 F31 (Zct _ _ _) fun r465 => J.n 1 fun p466 => J.w 2 Ty3 <| J.z 0 <| J.q <| Zax.K1_ok 
      ·refine SJ.sr 2 <| J.z 2 <| J.f ?_ ?_
       ·exact SJ.rg 5 <| J.n 1 fun p468 => J.w 2 Ty4 <| J.z 0 <| J.q <| Zax.K1_ok 
       ·exact SJ.sr 1 <| J.z 1 <| J.r

/-! ### weir/rules.ParseRule: function 10 -/
noncomputable def Zai.B : Code := bod Tryd.f10
noncomputable def Zai.cx : Fx := ⟨Tryd.prog, 10, Tryd.f10, none⟩
noncomputable def Zai.out (r_ : (Zap × Int × Int)) : Value := .tuple #[Zao.val r_.1, .int .i64 r_.2.1, .int .i64 r_.2.2]
noncomputable def Zai.K1 (b3 : Nat) : M (Zap × Int × Int) :=
 ld (cI .i64) (Addr.add (pt b3 0) 19) >>= fun x28 =>
 if x28 ≠ 0 then
  draw >>= fun _ =>
  ld (cI .i64) (Addr.add (pt b3 0) 19) >>= fun x31 =>
  ld (cI .i64) (Addr.add (pt b3 0) 20) >>= fun x32 =>
  same (cI .i64) (Addr.add (pt b3 0) 20) x32 >>= fun _ =>
  same (cI .i64) (Addr.add (pt b3 0) 19) x31 >>= fun _ =>
  pure (Zal, x31, x32)
 else
  ld Zao (Addr.add (pt b3 0) 3) >>= fun x33 =>
  pure (x33, 0, 0)
theorem Zai.K1_ok (b1 : Nat) (b3 : Nat) :
  SJ Zai.cx [.code (c2 (c2 (c2 (c2 (c2 (c2 (c2 (c2 Zai.B))))))))] [(2, .pointer (some (pt b1 0))), (7, .pointer (some (pt b3 0)))] [(b1, Zao.enc Zal)] (Zai.K1 b3) (rt Zai.out) := by
 unfold Zai.K1
 refine SJ.seq <| SJ.sr 5 <| J.l 3 Ty28 fun x28 => J.z 1 <| J.f ?_ ?_
 ·exact SJ.seq <| J.R 12 Zc3 <| J.u 0 Ty27 .nil <| J.l 3 Ty28 fun x31 => J.l 3 Ty3 fun x32 => OJ.kst (y := .tmp 2) (z := .tmp 104) (cd := Zao) (u := Zal) (j := 0) (b := b1) (o := 0) (Zao.enc Zal) (owed := [⟨8, 3, (Addr.add (pt b3 0) 20), (cI .i64).val x32⟩, ⟨4, 28, (Addr.add (pt b3 0) 19), (cI .i64).val x31⟩]) Ty27 rfl (Upd.whole ((Cod.len _ _).trans (Cod.len _ _).symm)) rfl <| OW.same Ty3 <| OW.same Ty28 <| OW.nil <| J.z 2 <| SJ.ret rfl (Res.run (ys := [Zao.val Zal, .int .i64 x31, .int .i64 x32]) (.cell (j := 0) (b := b1) (cd := Zao) (q := Zal) (by kernel_rfl) rfl Ty27 (At.whole _) (.tmp (by kernel_rfl) (.tmp (by kernel_rfl) .nil))) rfl)
 ·exact SJ.skip <| SJ.sr 7 <| J.l 3 Ty27 fun x33 => J.s 0 0 rfl Ty27 (Upd.w x33) <| J.z 2 <| SJ.ret rfl (Res.run (ys := [Zao.val x33, .int .i64 0, .int .i64 0]) (.cell (j := 0) (b := b1) (cd := Zao) (q := x33) (by kernel_rfl) rfl Ty27 (At.whole _) (.tmp (by kernel_rfl) (.tmp (by kernel_rfl) .nil))) rfl)
noncomputable def Zai.F1 (b1 : Nat) (r2 : (Sl × Int)) (b3 : Nat) (b5 : Nat) : LF Unit (Zap × Int × Int) := ⟨[.inBlock 0, .code (c2 (c2 (c2 (c2 (c2 (c2 (c2 (c2 Zai.B))))))))], c1 (c1 (c2 (c2 (c2 (c2 (c2 (c2 (c2 Zai.B)))))))), fun s_ => [(2, .pointer (some (pt b1 0))), (5, Sl.v r2.1), (7, .pointer (some (pt b3 0))), (8, .map (some b5))], fun s_ => [(b1, Zao.enc Zal)], (rt Zai.out)⟩
noncomputable def Zai.K2 (b3 : Nat) (b5 : Nat) (r38 : Zaw) : M (LS Unit (Zap × Int × Int)) :=
 draw >>= fun _ =>
 ld (cI .i64) (Addr.add (pt b3 0) 1) >>= fun x52 =>
 mset cS (cI .i64) (some b5) r38.s x52 >>= fun _ =>
 pure (LS.next ())
theorem Zai.K2_ok (b1 : Nat) (r2 : (Sl × Int)) (b3 : Nat) (b5 : Nat) (r38 : Zaw) (b39 : Nat) :
  SJ Zai.cx [.code (c2 (c2 (c2 (c1 (c2 (c1 (c1 (c1 (c2 (c2 (c2 (c2 (c2 (c2 (c2 Zai.B))))))))))))))), .inBlock 1, .inLoop (c1 (c1 (c1 (c2 (c2 (c2 (c2 (c2 (c2 (c2 Zai.B)))))))))), .inBlock 0, .code (c2 (c2 (c2 (c2 (c2 (c2 (c2 (c2 Zai.B))))))))] [(2, .pointer (some (pt b1 0))), (5, Sl.v r2.1), (7, .pointer (some (pt b3 0))), (8, .map (some b5)), (9, .pointer (some (pt b39 0)))] [(b39, ZaJ.enc r38), (b1, Zao.enc Zal)] (Zai.K2 b3 b5 r38) (Zai.F1 b1 r2 b3 b5).f := by
 unfold Zai.K2
 exact J.R 8 Zc3 <| J.k 2 0 rfl Ty9 (ZaZ _) <| J.l 3 Ty3 fun x52 => OJ.mset (x := .tmp 92) (y := .tmp 94) (q := .tmp 98) (owed := []) Kt51 <| OW.nil <| J.z 0 <| SJ.inBlock <| SJ.forget (List.Sublist.cons _ (List.Sublist.cons_cons _ List.Sublist.slnil)) <| J.o rfl
noncomputable def Zai.L1 (r2 : (Sl × Int)) (b3 : Nat) (b5 : Nat) : M (LS Unit (Zap × Int × Int)) :=
 ld (cI .i64) (Addr.add (pt b3 0) 19) >>= fun x35 =>
 (if x35 = 0 then
   ld (cI .i64) (Addr.add (pt b3 0) 1) >>= fun x36 =>
   pure (decide (x36 < (r2.1.len : Int)))
  else
   pure false) >>= fun y37 =>
 if y37 = true then
  ZaD (some (pt b3 0)) >>= fun r38 =>
  slot 53 >>= fun b39 =>
  mget cS (cI .i64) 0 (some b5) r38.s >>= fun r40 =>
  (if r40.1 > 0 then
    pure true
   else
    (if r38.s.toList = ZmM.toList then
      ld (cI .i64) (Addr.add (Addr.add (pt b3 0) 3) 3) >>= fun x41 =>
      pure (x41 != 6)
     else
      pure false) >>= fun y42 =>
    pure y42) >>= fun y43 =>
  (if y43 = true then
    pure true
   else
    (if r38.s.toList = ZmL.toList then
      ld (cI .i64) (Addr.add (Addr.add (pt b3 0) 3) 3) >>= fun x44 =>
      ZcX x44 >>= fun r45 =>
      pure (!r45)
     else
      pure false) >>= fun y46 =>
    pure y46) >>= fun y47 =>
  if y47 = true then
   ZaN (some (pt b3 0)) 165 r38.at_ >>= fun r49 =>
   (Zai.K1 b3) >>= fun b => pure (LS.done b)
  else
   Zax (some (pt b3 0)) r38.s >>= fun r50 =>
   if ¬ (r50 = true) then
    ZaN (some (pt b3 0)) 160 r38.at_ >>= fun r53 =>
    Zai.K2 b3 b5 r38
   else
    Zai.K2 b3 b5 r38
 else
  (Zai.K1 b3) >>= fun b => pure (LS.done b)
theorem Zai.L1_ok (b1 : Nat) (r2 : (Sl × Int)) (b3 : Nat) (b5 : Nat) : LJ Zai.cx (Zai.F1 b1 r2 b3 b5) (fun s_ => Zai.L1 r2 b3 b5) := by
 rintro _
 show SJ _ _ _ _ (Zai.L1 r2 b3 b5) _
 unfold Zai.L1
 refine SJ.seq <| SJ.sr 14 <| J.l 3 Ty28 fun x35 => J.j 2 7 .bool ?_ ?_ fun y37 => ?_
 ·exact J.l 3 Ty3 fun x36 => J.e 4
 ·exact J.e 8
 ·refine J.z 0 <| J.f ?_ ?_
  ·refine SJ.skip <| SJ.block (id := 1) <| SJ.sr 4 <| J.C 1 F19 (Zcg _) fun r38 => J.a 0 Ty53 fun b39 => J.s 0 0 rfl Ty53 (Upd.w r38) <| J.z 0 <| SJ.seq <| SJ.sr 32 <| J.k 2 0 rfl Ty9 (ZaZ _) <| OJ.get0 (d := 50) (x := .tmp 47) (y := .tmp 49) (owed := []) Kt51 fun r40 => OW.nil <| J.g 2 <| OJ.join (b := decide (r40.1 > 0)) [6, 7, 8, 9, 10, 11, 12, 13, 14, 15, 16, 17] [18, 19, 20, 21, 22, 23, 24, 25, 26, 27, 28, 29, 30, 31] [2, 5, 7, 8, 9, 64] (fun y43 => [(2, .pointer (some (pt b1 0))), (5, Sl.v r2.1), (7, .pointer (some (pt b3 0))), (8, .map (some b5)), (9, .pointer (some (pt b39 0))), (64, .bool y43)]) [] [] (t := 52) decide_eq_true_iff (fun hp_ => ?_) (fun hp_ => ?_) (fun _ _ _ _ _ _ h_ => h_) fun y43 => ?_
   ·exact J.g 12 <| OJ.nil ⟨(Cov.mem Cov.nil), rfl, _, rfl, by kernel_rfl⟩
   ·refine J.k 1 0 rfl Ty9 (ZaZ _) <| J.g 2 <| OJ.join (b := (r38.s.toList == ZmM.toList)) [10, 11, 12, 13, 14, 15, 16] [17] [2, 5, 7, 8, 9, 52, 63] (fun y42 => [(2, .pointer (some (pt b1 0))), (5, Sl.v r2.1), (7, .pointer (some (pt b3 0))), (8, .map (some b5)), (9, .pointer (some (pt b39 0))), (52, .bool false), (63, .bool y42)]) [] [] (t := 56) beq_iff_eq (fun hp_ => ?_) (fun hp_ => ?_) (fun _ _ _ _ _ hq_ h_ => ⟨fun e_ he_ => (hq_ e_ he_).elim (fun h => h_.1 e_ h) (fun h => nomatch h), h_.2⟩) fun y42 => ?_
    ·exact J.l 4 Ty3 fun x41 => J.g 2 <| OJ.nil ⟨(Cov.mem Cov.nil), rfl, _, rfl, by kernel_rfl⟩
    ·exact J.g 7 <| OJ.nil ⟨(Cov.mem Cov.nil), rfl, _, rfl, by kernel_rfl⟩
    ·exact J.g 1 <| OJ.nil ⟨(Cov.mem Cov.nil), rfl, _, rfl, by kernel_rfl⟩
   ·refine J.g 1 <| OJ.join (b := y43) [19, 20, 21, 22, 23, 24, 25, 26, 27, 28, 29, 30, 31] [] [2, 5, 7, 8, 9, 78] (fun y47 => [(2, .pointer (some (pt b1 0))), (5, Sl.v r2.1), (7, .pointer (some (pt b3 0))), (8, .map (some b5)), (9, .pointer (some (pt b39 0))), (78, .bool y47)]) [] [] (t := 65) Iff.rfl (fun hp_ => ?_) (fun hp_ => ?_) (fun _ _ _ _ _ _ h_ => h_) fun y47 => ?_
    ·exact J.g 13 <| OJ.nil ⟨(Cov.mem Cov.nil), rfl, _, rfl, by kernel_rfl⟩
    ·refine J.k 1 0 rfl Ty9 (ZaZ _) <| J.g 2 <| OJ.join (b := (r38.s.toList == ZmL.toList)) [23, 24, 25, 26, 27, 28, 29, 30] [31] [2, 5, 7, 8, 9, 65, 77] (fun y46 => [(2, .pointer (some (pt b1 0))), (5, Sl.v r2.1), (7, .pointer (some (pt b3 0))), (8, .map (some b5)), (9, .pointer (some (pt b39 0))), (65, .bool false), (77, .bool y46)]) [] [] (t := 69) beq_iff_eq (fun hp_ => ?_) (fun hp_ => ?_) (fun _ _ _ _ _ hq_ h_ => ⟨fun e_ he_ => (hq_ e_ he_).elim (fun h => h_.1 e_ h) (fun h => nomatch h), h_.2⟩) fun y46 => ?_
     ·exact J.l 4 Ty3 fun x44 => J.C 0 F13 (ZgE _) fun r45 => J.g 2 <| OJ.nil ⟨(Cov.mem Cov.nil), rfl, _, rfl, by kernel_rfl⟩
     ·exact J.g 8 <| OJ.nil ⟨(Cov.mem Cov.nil), rfl, _, rfl, by kernel_rfl⟩
     ·exact J.g 1 <| OJ.nil ⟨(Cov.mem Cov.nil), rfl, _, rfl, by kernel_rfl⟩
    ·refine J.z 0 <| J.f ?_ ?_
     ·exact SJ.sr 4 <| J.k 2 0 rfl Ty3 (Zbh _) <| J.C 0 F20 (ZaV _ _ _) fun r49 => J.z 0 <| SJ.exit (id := 0) (by rfl) <| SJ.forget (List.Sublist.cons _ (List.Sublist.cons_cons _ List.Sublist.slnil)) <| J.q <| SJ.done <| Zai.K1_ok b1 b3
     ·refine SJ.skip <| SJ.seq <| SJ.sr 5 <| J.k 2 0 rfl Ty9 (ZaZ _) <| J.C 0 F21 (ZfS _ _) fun r50 => J.z 1 <| J.f ?_ ?_
      ·exact SJ.rg 4 <| J.k 2 0 rfl Ty3 (Zbh _) <| J.C 0 F20 (ZaV _ _ _) fun r53 => J.z 0 <| J.q <| Zai.K2_ok b1 r2 b3 b5 r38 b39
      ·exact SJ.skip <| J.q <| Zai.K2_ok b1 r2 b3 b5 r38 b39
  ·exact SJ.exit (id := 0) (by rfl) <| J.q <| SJ.done <| Zai.K1_ok b1 b3
noncomputable def Zai (a0 : ByteArray) : M (Zap × Int × Int) :=
 slot 27 >>= fun b1 =>
 if (a0.size : Int) > 1024 then
  pure (Zal, 2, 1024)
 else
  ZaE a0 >>= fun r2 =>
  if r2.2 ≥ 0 then
   pure (Zal, 160, r2.2)
  else
   newv 50 ZaW (⟨r2.1, Zc5.i, (a0.size : Int), Zc5.rule, Zc5.err, Zc5.at_⟩ : ZaY) >>= fun b3 =>
   Zav (some (pt b3 0)) >>= fun r4 =>
   mkMap >>= fun b5 =>
   Zci (fun s_ : Unit => Zai.L1 r2 b3 b5) ()
theorem Zhe (a0 : ByteArray) : Ref Tryd.prog 10 [.string a0] (Zai a0) Zai.out := by
 refine J.Fn Tryd.func10 ?_
 unfold Zai
 refine SJ.sr 3 <| J.a 0 Ty27 fun b1 => J.z 2 <| SJ.seq <| SJ.sr 3 <| J.z 3 <| J.f ?_ ?_
 ·exact SJ.sr 4 <| J.u 0 Ty27 .nil <| J.s 0 0 rfl Ty27 (Upd.w Zal) <| J.z 2 <| SJ.ret rfl (Res.run (ys := [Zao.val Zal, .int .i64 2, .int .i64 1024]) (.cell (j := 0) (b := b1) (cd := Zao) (q := Zal) (by kernel_rfl) rfl Ty27 (At.whole _) (.tmp (by kernel_rfl) (.tmp (by kernel_rfl) .nil))) rfl)
 ·refine SJ.skip <| SJ.sr 7 <| J.C 1 F17 (ZjO _) fun r2 => J.z 5 <| SJ.seq <| SJ.sr 2 <| J.z 2 <| J.f ?_ ?_
  ·exact SJ.sr 5 <| J.u 0 Ty27 .nil <| J.s 1 0 rfl Ty27 (Upd.w Zal) <| J.z 2 <| SJ.ret rfl (Res.run (ys := [Zao.val Zal, .int .i64 160, .int .i64 r2.2]) (.cell (j := 0) (b := b1) (cd := Zao) (q := Zal) (by kernel_rfl) rfl Ty27 (At.whole _) (.tmp (by kernel_rfl) (.tmp (by kernel_rfl) .nil))) rfl)
  ·exact SJ.skip <| SJ.sr 6 <| J.u 3 Ty50 (.f 0 (Zh5 _ r2.1) (.f 2 (ZgB _ (a0.size : Int)) .nil)) <| J.B 0 fun b3 => J.z 1 <| SJ.sr 2 <| J.C 1 F18 (Zgy _) fun r4 => J.z 0 <| SJ.sr 2 <| OJ.mkMap (d := 30) (t := 51) (owed := []) fun b5 => OW.nil <| J.z 1 <| SJ.seq <| SJ.block (id := 0) <| J.L (Zai.L1_ok b1 r2 b3 b5)

/-! ### weir/weirref16.SameSide: function 22 -/
noncomputable def Zag.B : Code := bod Tryd.f22
noncomputable def Zag.cx : Fx := ⟨Tryd.prog, 22, Tryd.f22, none⟩
noncomputable def Zag.out (r_ : Bool) : Value := .bool r_
noncomputable def Zag.F1 (a0 : Zan) (a1 : Zan) (b1 : Nat) (b2 : Nat) : LF Int Bool := ⟨[.inBlock 2, .code (c2 (c2 (c2 (c2 Zag.B))))], c1 (c2 (c1 (c2 (c2 (c2 Zag.B))))), fun s_ => [(2, .pointer (some (pt b1 0))), (3, .pointer (some (pt b2 0))), (6, .int .i64 s_)], fun s_ => [(b2, ZaF.enc a1), (b1, ZaF.enc a0)], (rt Zag.out)⟩
noncomputable def Zag.L1 (a0 : Zan) (a1 : Zan) (s12 : Int) : M (LS Int Bool) :=
 if s12 < (a0.Ports.len : Int) then
  draw >>= fun _ =>
  idx a0.Ports.a a0.Ports.len s12 2 >>= fun p19 =>
  ld ZaS p19 >>= fun x20 =>
  idx a1.Ports.a a1.Ports.len s12 2 >>= fun p21 =>
  ld ZaS p21 >>= fun x22 =>
  if ¬ (x20 = x22) then
   pure (LS.done false)
  else
   pure (LS.next (IntKind.wrap .i64 (s12 + 1)))
 else
  pure (LS.done true)
theorem Zag.L1_ok (a0 : Zan) (a1 : Zan) (b1 : Nat) (b2 : Nat) : LJ Zag.cx (Zag.F1 a0 a1 b1 b2) (fun s_ => Zag.L1 a0 a1 s_) := by
 rintro s12
 show SJ _ _ _ _ (Zag.L1 a0 a1 s12) _
 unfold Zag.L1
 refine SJ.seq <| SJ.sr 5 <| J.k 2 1 rfl Ty23 (Zbb _) <| J.z 2 <| J.f ?_ ?_
 ·refine SJ.skip <| SJ.seq <| SJ.block (id := 3) <| SJ.seq <| J.R 11 Zc3 <| J.k 1 1 rfl Ty23 (Zbb _) <| J.i 1 fun p19 => J.l 0 Ty64 fun x20 => J.k 1 0 rfl Ty23 (Zbb _) <| J.i 1 fun p21 => J.l 0 Ty64 fun x22 => OJ.neq (d := 65) (T := 64) (yT := 64) (y := .tmp 59) (z := .tmp 64) (cd := ZaS) (p := x20) (q := x22) rfl Eq64 <| J.z 0 <| J.f ?_ ?_
  ·exact SJ.sr 1 <| J.z 1 <| J.r
  ·exact SJ.skip <| SJ.inBlock <| SJ.rg 3 <| J.z 3 <| J.o rfl
 ·exact SJ.exit (id := 2) (by rfl) <| SJ.sr 1 <| J.z 1 <| J.r
noncomputable def Zag.K1 (a0 : Zan) (a1 : Zan) : M Bool :=
 Zci (fun s_ : Int => Zag.L1 a0 a1 s_) 0
theorem Zag.K1_ok (a0 : Zan) (a1 : Zan) (b1 : Nat) (b2 : Nat) :
  SJ Zag.cx [.code (c2 (c2 (c2 Zag.B)))] [(2, .pointer (some (pt b1 0))), (3, .pointer (some (pt b2 0)))] [(b2, ZaF.enc a1), (b1, ZaF.enc a0)] (Zag.K1 a0 a1) (rt Zag.out) := by
 unfold Zag.K1
 exact SJ.seq <| SJ.sr 1 <| J.z 1 <| SJ.block (id := 2) <| J.L (Zag.L1_ok a0 a1 b1 b2)
noncomputable def Zag.F2 (a0 : Zan) (a1 : Zan) (b1 : Nat) (b2 : Nat) : LF Int Bool := ⟨[.inBlock 0, .code (c2 (c2 (c2 Zag.B)))], c1 (c2 (c1 (c2 (c2 Zag.B)))), fun s_ => [(2, .pointer (some (pt b1 0))), (3, .pointer (some (pt b2 0))), (5, .int .i64 s_)], fun s_ => [(b2, ZaF.enc a1), (b1, ZaF.enc a0)], (rt Zag.out)⟩
noncomputable def Zag.L2 (a0 : Zan) (a1 : Zan) (s5 : Int) : M (LS Int Bool) :=
 if s5 < (a0.Nets.len : Int) then
  draw >>= fun _ =>
  idx a0.Nets.a a0.Nets.len s5 18 >>= fun p25 =>
  ld Zau p25 >>= fun x26 =>
  idx a1.Nets.a a1.Nets.len s5 18 >>= fun p27 =>
  ld Zau p27 >>= fun x28 =>
  if ¬ (x26 = x28) then
   pure (LS.done false)
  else
   pure (LS.next (IntKind.wrap .i64 (s5 + 1)))
 else
  (Zag.K1 a0 a1) >>= fun b => pure (LS.done b)
theorem Zag.L2_ok (a0 : Zan) (a1 : Zan) (b1 : Nat) (b2 : Nat) : LJ Zag.cx (Zag.F2 a0 a1 b1 b2) (fun s_ => Zag.L2 a0 a1 s_) := by
 rintro s5
 show SJ _ _ _ _ (Zag.L2 a0 a1 s5) _
 unfold Zag.L2
 refine SJ.seq <| SJ.sr 5 <| J.k 2 1 rfl Ty22 (Zbi _) <| J.z 2 <| J.f ?_ ?_
 ·refine SJ.skip <| SJ.seq <| SJ.block (id := 1) <| SJ.seq <| J.R 11 Zc3 <| J.k 1 1 rfl Ty22 (Zbi _) <| J.i 1 fun p25 => J.l 0 Ty61 fun x26 => J.k 1 0 rfl Ty22 (Zbi _) <| J.i 1 fun p27 => J.l 0 Ty61 fun x28 => OJ.neq (d := 47) (T := 61) (yT := 61) (y := .tmp 41) (z := .tmp 46) (cd := Zau) (p := x26) (q := x28) rfl Eq61 <| J.z 0 <| J.f ?_ ?_
  ·exact SJ.sr 1 <| J.z 1 <| J.r
  ·exact SJ.skip <| SJ.inBlock <| SJ.rg 3 <| J.z 3 <| J.o rfl
 ·exact SJ.exit (id := 0) (by rfl) <| J.q <| SJ.done <| Zag.K1_ok a0 a1 b1 b2
noncomputable def Zag (a0 : Zan) (a1 : Zan) : M Bool :=
 slot 25 >>= fun b1 =>
 slot 25 >>= fun b2 =>
 (if ¬ (a0.Not = a1.Not) then
   pure true
  else
   pure ((a0.Nets.len : Int) != (a1.Nets.len : Int))) >>= fun y3 =>
 (if y3 = true then
   pure true
  else
   pure ((a0.Ports.len : Int) != (a1.Ports.len : Int))) >>= fun y4 =>
 if y4 = true then
  pure false
 else
  Zci (fun s_ : Int => Zag.L2 a0 a1 s_) 0
theorem Zeg (a0 : Zan) (a1 : Zan) : Ref Tryd.prog 22 [ZaF.val a0, ZaF.val a1] (Zag a0 a1) Zag.out := by
 refine J.Fn Tryd.func22 ?_
 unfold Zag
 refine SJ.sr 3 <| J.b 0 ZaF a0 fun b1 => J.b 0 ZaF a1 fun b2 => J.z 1 <| SJ.seq <| SJ.sr 23 <| J.k 1 1 rfl Ty4 (Zd2 _) <| J.k 1 0 rfl Ty4 (Zd2 _) <| J.j 2 7 .bool ?_ ?_ fun y3 => ?_
 ·exact J.e 8
 ·exact J.k 1 1 rfl Ty22 (Zbi _) <| J.k 2 0 rfl Ty22 (Zbi _) <| J.e 3
 ·refine J.j 1 7 .bool ?_ ?_ fun y4 => ?_
  ·exact J.e 8
  ·exact J.k 1 1 rfl Ty23 (Zbb _) <| J.k 2 0 rfl Ty23 (Zbb _) <| J.e 3
  ·refine J.z 0 <| J.f ?_ ?_
   ·exact SJ.sr 1 <| J.z 1 <| J.r
   ·exact SJ.skip <| SJ.seq <| SJ.sr 1 <| J.z 1 <| SJ.block (id := 0) <| J.L (Zag.L2_ok a0 a1 b1 b2)

/-! ### weir/weirref16.Same: function 11 -/
noncomputable def Zcj.out (r_ : Bool) : Value := .bool r_
noncomputable def Zcj (a0 : Zap) (a1 : Zap) : M Bool :=
 slot 27 >>= fun b1 =>
 slot 27 >>= fun b2 =>
 (if a0.Act ≠ a1.Act then
   pure true
  else
   pure (a0.Class != a1.Class)) >>= fun y3 =>
 (if y3 = true then
   pure true
  else
   pure (a0.Kind != a1.Kind)) >>= fun y4 =>
 (if y4 = true then
   pure true
  else
   pure (a0.Proto != a1.Proto)) >>= fun y5 =>
 (if y5 = true then
   pure true
  else
   pure (a0.In != a1.In)) >>= fun y6 =>
 (if y6 = true then
   pure true
  else
   pure (a0.Vid != a1.Vid)) >>= fun y7 =>
 if y7 = true then
  pure false
 else
  (if a0.Set ≠ a1.Set then
    pure true
   else
    pure (a0.Clear != a1.Clear)) >>= fun y8 =>
  (if y8 = true then
    pure true
   else
    pure (a0.Type_ != a1.Type_)) >>= fun y9 =>
  (if y9 = true then
    pure true
   else
    pure (!(a0.Pieces == a1.Pieces))) >>= fun y10 =>
  if y10 = true then
   pure false
  else
   Zag a0.From a1.From >>= fun r11 =>
   (if r11 = true then
     Zag a0.To a1.To >>= fun r12 =>
     pure r12
    else
     pure false) >>= fun y13 =>
   pure y13
theorem Zfe (a0 : Zap) (a1 : Zap) : Ref Tryd.prog 11 [Zao.val a0, Zao.val a1] (Zcj a0 a1) Zcj.out := by
 refine J.Fn Tryd.func11 ?_
 unfold Zcj
 refine SJ.sr 3 <| J.b 0 Zao a0 fun b1 => J.b 0 Zao a1 fun b2 => J.z 1 <| SJ.seq <| SJ.sr 40 <| J.k 1 1 rfl Ty3 (ZbV _) <| J.k 1 0 rfl Ty3 (ZbV _) <| J.j 2 5 .bool ?_ ?_ fun y3 => ?_
 ·exact J.e 6
 ·exact J.k 1 1 rfl Ty3 (Zcn _) <| J.k 1 0 rfl Ty3 (Zcn _) <| J.e 2
 ·refine J.j 1 5 .bool ?_ ?_ fun y4 => ?_
  ·exact J.e 6
  ·exact J.k 1 1 rfl Ty3 (ZbA _) <| J.k 1 0 rfl Ty3 (ZbA _) <| J.e 2
  ·refine J.j 1 5 .bool ?_ ?_ fun y5 => ?_
   ·exact J.e 6
   ·exact J.k 1 1 rfl Ty3 (Zbk _) <| J.k 1 0 rfl Ty3 (Zbk _) <| J.e 2
   ·refine J.j 1 5 .bool ?_ ?_ fun y6 => ?_
    ·exact J.e 6
    ·exact J.k 1 1 rfl Ty3 (Zdu _) <| J.k 1 0 rfl Ty3 (Zdu _) <| J.e 2
    ·refine J.j 1 5 .bool ?_ ?_ fun y7 => ?_
     ·exact J.e 6
     ·exact J.k 1 1 rfl Ty3 (Zdh _) <| J.k 1 0 rfl Ty3 (Zdh _) <| J.e 2
     ·refine J.z 0 <| J.f ?_ ?_
      ·exact SJ.sr 1 <| J.z 1 <| J.r
      ·refine SJ.skip <| SJ.seq <| SJ.sr 26 <| J.k 1 1 rfl Ty3 (Zca _) <| J.k 1 0 rfl Ty3 (Zca _) <| J.j 2 5 .bool ?_ ?_ fun y8 => ?_
       ·exact J.e 6
       ·exact J.k 1 1 rfl Ty3 (ZbR _) <| J.k 1 0 rfl Ty3 (ZbR _) <| J.e 2
       ·refine J.j 1 5 .bool ?_ ?_ fun y9 => ?_
        ·exact J.e 6
        ·exact J.k 1 1 rfl Ty3 (Zcm _) <| J.k 1 0 rfl Ty3 (Zcm _) <| J.e 2
        ·refine J.j 1 5 .bool ?_ ?_ fun y10 => ?_
         ·exact J.e 6
         ·exact J.k 1 1 rfl Ty4 (Zc8 _) <| J.k 1 0 rfl Ty4 (Zc8 _) <| J.e 2
         ·refine J.z 0 <| J.f ?_ ?_
          ·exact SJ.sr 1 <| J.z 1 <| J.r
          ·refine SJ.skip <| SJ.sr 13 <| J.k 1 1 rfl Ty25 (Zdy _) <| J.k 1 0 rfl Ty25 (Zdy _) <| J.C 0 F22 (Zeg _ _) fun r11 => J.j 1 5 .bool ?_ ?_ fun y13 => ?_
           ·exact J.k 1 1 rfl Ty25 (Zdt _) <| J.k 1 0 rfl Ty25 (Zdt _) <| J.C 0 F22 (Zeg _ _) fun r12 => J.e 1
           ·exact J.e 6
           ·exact J.z 1 <| J.r

/-! ### weir/weirlaw16.started: function 9 -/
noncomputable def ZbN.out (r_ : Bool) : Value := .bool r_
noncomputable def ZbN  : M Bool :=
 Zb7 >>= fun r1 =>
 slot 27 >>= fun b2 =>
 Zai r1.1 >>= fun r3 =>
 slot 27 >>= fun b4 =>
 Zbz r1.2 >>= fun r5 =>
 Zb6 r3.2.1 >>= fun r6 =>
 (if r6 = 0 then
   pure (r3.2.2 == 0)
  else
   pure false) >>= fun y7 =>
 (if y7 = true then
   Zcj r3.1 r1.2 >>= fun r8 =>
   pure r8
  else
   pure false) >>= fun y9 =>
 (if y9 = true then
   Zb6 r5.2 >>= fun r10 =>
   pure (r10 == 0)
  else
   pure false) >>= fun y11 =>
 (if y11 = true then
   pure (r5.1.toList == r1.1.toList)
  else
   pure false) >>= fun y12 =>
 (if y12 = true then
   ZaQ r1.2 >>= fun r13 =>
   Zb6 r13 >>= fun r14 =>
   pure (r14 == 0)
  else
   pure false) >>= fun y15 =>
 pure y15
theorem Zeo  : Ref Tryd.prog 9 [] (ZbN) ZbN.out := by
 refine J.Fn Tryd.func9 ?_
 unfold ZbN
 refine SJ.sr 1 <| J.z 1 <| SJ.sr 7 <| J.C 0 F16 ZhG fun r1 => J.a 3 Ty27 fun b2 => J.s 1 0 rfl Ty27 (Upd.w r1.2) <| J.z 0 <| SJ.sr 10 <| J.C 1 F10 (Zhe _) fun r3 => J.a 4 Ty27 fun b4 => J.s 0 0 rfl Ty27 (Upd.w r3.1) <| J.z 2 <| SJ.sr 7 <| J.k 0 1 rfl Ty27 (At.whole _) <| J.C 0 F7 (ZdP _) fun r5 => J.z 5 <| SJ.sr 29 <| J.C 1 F8 (Zc2 _) fun r6 => J.j 2 2 .bool ?_ ?_ fun y7 => ?_
 ·exact J.e 3
 ·exact J.e 3
 ·refine J.j 1 3 .bool ?_ ?_ fun y9 => ?_
  ·exact J.k 0 0 rfl Ty27 (At.whole _) <| J.k 0 1 rfl Ty27 (At.whole _) <| J.C 0 F11 (Zfe _ _) fun r8 => J.e 1
  ·exact J.e 4
  ·refine J.j 1 3 .bool ?_ ?_ fun y11 => ?_
   ·exact J.C 1 F8 (Zc2 _) fun r10 => J.e 2
   ·exact J.e 4
   ·refine J.j 1 3 .bool ?_ ?_ fun y12 => ?_
    ·exact J.e 4
    ·exact J.e 4
    ·refine J.j 1 4 .bool ?_ ?_ fun y15 => ?_
     ·exact J.k 0 1 rfl Ty27 (At.whole _) <| J.C 0 F6 (ZgF _) fun r13 => J.C 0 F8 (Zc2 _) fun r14 => J.e 2
     ·exact J.e 5
     ·exact J.z 1 <| J.r

/-! ### weir/weirlaw16.RulesUnlike: function 5 -/
noncomputable def Zbx.out (r_ : Bool) : Value := .bool r_
noncomputable def Zbx (a0 : Zap) (a1 : Zap) : M Bool :=
 slot 27 >>= fun b1 =>
 slot 27 >>= fun b2 =>
 Zbz a0 >>= fun r3 =>
 Zbz a1 >>= fun r4 =>
 Zb6 r3.2 >>= fun r5 =>
 (if r5 ≠ 0 then
   pure true
  else
   Zb6 r4.2 >>= fun r6 =>
   pure (r6 != 0)) >>= fun y7 =>
 (if y7 = true then
   pure true
  else
   pure (decide ((r3.1.size : Int) > 1024))) >>= fun y8 =>
 (if y8 = true then
   pure true
  else
   pure (decide ((r4.1.size : Int) > 1024))) >>= fun y9 =>
 if y9 = true then
  ZbN >>= fun r11 =>
  pure r11
 else
  ZbN >>= fun r12 =>
  (if r12 = true then
    Zcj a0 a1 >>= fun r13 =>
    pure ((r3.1.toList == r4.1.toList) == r13)
   else
    pure false) >>= fun y14 =>
  pure y14
theorem Zff (a0 : Zap) (a1 : Zap) : Ref Tryd.prog 5 [Zao.val a0, Zao.val a1] (Zbx a0 a1) Zbx.out := by
 refine J.Fn Tryd.func5 ?_
 unfold Zbx
 refine SJ.sr 3 <| J.b 0 Zao a0 fun b1 => J.b 0 Zao a1 fun b2 => J.z 1 <| SJ.sr 7 <| J.k 0 1 rfl Ty27 (At.whole _) <| J.C 0 F7 (ZdP _) fun r3 => J.z 5 <| SJ.sr 7 <| J.k 0 0 rfl Ty27 (At.whole _) <| J.C 0 F7 (ZdP _) fun r4 => J.z 5 <| SJ.seq <| SJ.sr 18 <| J.C 1 F8 (Zc2 _) fun r5 => J.j 2 3 .bool ?_ ?_ fun y7 => ?_
 ·exact J.e 4
 ·exact J.C 1 F8 (Zc2 _) fun r6 => J.e 2
 ·refine J.j 1 3 .bool ?_ ?_ fun y8 => ?_
  ·exact J.e 4
  ·exact J.e 4
  ·refine J.j 1 3 .bool ?_ ?_ fun y9 => ?_
   ·exact J.e 4
   ·exact J.e 4
   ·refine J.z 0 <| J.f ?_ ?_
    ·exact SJ.sr 2 <| J.C 0 F9 Zeo fun r11 => J.z 1 <| J.r
    ·refine SJ.skip <| SJ.sr 11 <| J.C 0 F9 Zeo fun r12 => J.j 1 7 .bool ?_ ?_ fun y14 => ?_
     ·exact J.k 3 1 rfl Ty27 (At.whole _) <| J.k 0 0 rfl Ty27 (At.whole _) <| J.C 0 F11 (Zfe _ _) fun r13 => J.e 2
     ·exact J.e 8
     ·exact J.z 1 <| J.r
end Go.Proofs.YtpmhinidiplhiaaDoor.Lx
