/- Programs of the M-world for Go functions, each with the proof that the Go text does what it says. Printed by lxgen.py. -/
import Derived.Test.YtmgbjiaognomhaaGreatDoorLxT
import Derived.Test.YtmgbjiaognomhaaGreatDoorLxP0
import Derived.Test.YtmgbjiaognomhaaGreatDoorLxP1
set_option linter.unusedVariables false
set_option linter.unusedSimpArgs false
set_option linter.unusedSectionVars false
namespace Go.Proofs.YtmgbjiaognomhaaGreatDoor.Lx
open Go Go.Proofs
variable [ZdY]
/-! ### (*weir/weirref16.reader).clause: function 19 -/
noncomputable def ZaB.cx : Fx := ⟨Tryz.prog, 19, Tryz.f19, none⟩
noncomputable def ZaB.out (r_ : Unit) : Value := .tuple #[]
noncomputable def ZaB.K1  : M Unit :=
 pure ()
theorem ZaB.K1_ok  :
  SJ ZaB.cx [.inBlock 0] [] [] (ZaB.K1) (rt ZaB.out) := by
 unfold ZaB.K1
 exact SJ.inBlock <| SJ.end_ rfl (Res.run (ys := []) .nil rfl)
noncomputable def ZaB (a0 : (Option Addr)) : M Unit :=
 Zbv a0 >>= fun r1 =>
 slot 87 >>= fun b2 =>
 Zbj r1.Text >>= fun r3 =>
 if ¬ (r3 = true) then
  Za1 a0 160 r1.At >>= fun r5 =>
  pure ()
 else
  Zay a0 r1.Text >>= fun r6 =>
  if ¬ (r6 = true) then
   Za1 a0 165 r1.At >>= fun r8 =>
   pure ()
  else
   draw >>= fun _ =>
   nilck a0 >>= fun p9 =>
   ld cL (Addr.add p9 18) >>= fun x10 =>
   slot 9 >>= fun b11 =>
   same cL (Addr.add p9 18) x10 >>= fun _ =>
   appl cS 9 16 ByteArray.empty x10 [r1.Text] >>= fun r12 =>
   nilck a0 >>= fun p13 =>
   st cL (Addr.add p13 18) r12 >>= fun _ =>
   nilck a0 >>= fun p14 =>
   ld cL p14 >>= fun x15 =>
   cut 2 x15 (some 1) none none >>= fun r16 =>
   nilck a0 >>= fun p17 =>
   st cL p17 r16 >>= fun _ =>
   if r1.Text.toList = ZnJ.toList then
    ZaL a0 >>= fun r255 =>
    nilck a0 >>= fun p256 =>
    st (cI .i64) (Addr.add (Addr.add p256 2) 4) r255 >>= fun _ =>
    pure ()
   else
    if r1.Text.toList = ZnI.toList then
     ZbT a0 1 4094 >>= fun r374 =>
     nilck a0 >>= fun p375 =>
     st (cI .i64) (Addr.add (Addr.add p375 2) 5) r374 >>= fun _ =>
     pure ()
    else
     if r1.Text.toList = Zkw.toList then
      Zam a0 >>= fun r433 =>
      nilck a0 >>= fun p434 =>
      st ZaR (Addr.add (Addr.add p434 2) 6) r433 >>= fun _ =>
      pure ()
     else
      if r1.Text.toList = Zl5.toList then
       Zam a0 >>= fun r462 =>
       nilck a0 >>= fun p463 =>
       st ZaR (Addr.add (Addr.add p463 2) 9) r462 >>= fun _ =>
       ZaB.K1
      else
       if r1.Text.toList = Zj0.toList then
        ZaN a0 >>= fun r476 =>
        ZaB.K1
       else
        if r1.Text.toList = ZjZ.toList then
         ZbT a0 0 255 >>= fun r482 =>
         nilck a0 >>= fun p483 =>
         st (cI .i64) (Addr.add (Addr.add p483 2) 14) (IntKind.wrap .i64 (r482 + 1)) >>= fun _ =>
         ZaB.K1
        else
         if r1.Text.toList = ZnH.toList then
          nilck a0 >>= fun p485 =>
          st cB (Addr.add (Addr.add p485 2) 15) true >>= fun _ =>
          ZaB.K1
         else
          ZaB.K1
theorem Zf6 (a0 : (Option Addr)) : Ref Tryz.prog 19 [.pointer a0] (ZaB a0) ZaB.out := by
 refine J.Fn Tryz.func19 ?_
 unfold ZaB
 refine SJ.sr 4 <| J.C 1 F40 (ZcF _) fun r1 => J.a 0 Ty87 fun b2 => J.s 0 0 rfl Ty87 (Upd.w r1) <| J.z 0 <| SJ.seq <| SJ.sr 4 <| J.k 1 0 rfl Ty9 (Za4 _) <| J.C 0 F41 (ZiD _) fun r3 => J.z 1 <| J.f ?_ ?_
 ·exact SJ.sr 4 <| J.k 2 0 rfl Ty3 (ZbK _) <| J.C 0 F42 (Zbg _ _ _) fun r5 => J.z 0 <| J.r
 refine SJ.skip <| SJ.seq <| SJ.sr 5 <| J.k 2 0 rfl Ty9 (Za4 _) <| J.C 0 F43 (ZgN _ _) fun r6 => J.z 1 <| J.f ?_ ?_
 ·exact SJ.sr 4 <| J.k 2 0 rfl Ty3 (ZbK _) <| J.C 0 F42 (Zbg _ _ _) fun r8 => J.z 0 <| J.r
 refine SJ.skip <| SJ.seq <| J.R 12 Zdz <| J.n 2 fun p9 => J.l 1 Ty22 fun x10 => J.k 1 0 rfl Ty9 (Za4 _) <| OJ.rowSlot (d := 29) (t := 22) (parts := [(0, .tmp 28)]) (ps := [(0, cS.val r1.Text)]) (cd := cS) (⟨[r1.Text], rfl⟩ : Vec ByteArray 1) (owed := [⟨4, 22, (Addr.add p9 18), cL.val x10⟩]) Ty9 (Zcf.cons (cd := cS) (q := r1.Text) (o := 0) rfl (Upd.arr (i := 0) (by decide) (by decide)) Zcf.nil) fun b11 => OW.same Ty22 <| OW.nil <| J.p 0 0 rfl Ty9 fun r12 => J.n 0 fun p13 => J.w 1 Ty22 <| J.z 0 <| SJ.sr 9 <| J.n 2 fun p14 => J.l 1 Ty53 fun x15 => J.cs 0 fun r16 => J.n 0 fun p17 => J.w 1 Ty53 <| J.z 0 <| SJ.sr 2 <| J.k 1 1 rfl Ty9 (Za4 _) <| J.z 0 <| SJ.block (id := 0) <| SJ.sr 2 <| J.z 2 <| J.f ?_ ?_
 ·exact SJ.rg 7 <| J.C 2 F44 (Zgw _) fun r255 => J.n 0 fun p256 => J.w 2 Ty3 <| J.z 0 <| SJ.inBlock <| SJ.end_ rfl (Res.run (ys := []) .nil rfl)
 refine SJ.sr 2 <| J.z 2 <| J.f ?_ ?_
 ·exact SJ.rg 7 <| J.C 2 F37 (Zc2 _ _ _) fun r374 => J.n 0 fun p375 => J.w 2 Ty3 <| J.z 0 <| SJ.inBlock <| SJ.end_ rfl (Res.run (ys := []) .nil rfl)
 refine SJ.sr 2 <| J.z 2 <| J.f ?_ ?_
 ·exact SJ.rg 7 <| J.C 2 F45 (ZeK _) fun r433 => J.n 0 fun p434 => J.w 2 Ty26 <| J.z 0 <| SJ.inBlock <| SJ.end_ rfl (Res.run (ys := []) .nil rfl)
 refine SJ.sr 2 <| J.z 2 <| J.f ?_ ?_
 ·exact SJ.rg 7 <| J.C 2 F45 (ZeK _) fun r462 => J.n 0 fun p463 => J.w 2 Ty26 <| J.z 0 <| SJ.forget (List.Sublist.cons _ (List.Sublist.cons _ List.Sublist.slnil)) <| J.q <| ZaB.K1_ok 
 refine SJ.sr 2 <| J.z 2 <| J.f ?_ ?_
 ·exact SJ.rg 2 <| J.C 1 F46 (Zgj _) fun r476 => J.z 0 <| SJ.forget (List.Sublist.cons _ (List.Sublist.cons _ List.Sublist.slnil)) <| J.q <| ZaB.K1_ok 
 refine SJ.sr 2 <| J.z 2 <| J.f ?_ ?_
 ·exact SJ.rg 8 <| J.C 2 F37 (Zc2 _ _ _) fun r482 => J.n 1 fun p483 => J.w 2 Ty3 <| J.z 0 <| SJ.forget (List.Sublist.cons _ (List.Sublist.cons _ List.Sublist.slnil)) <| J.q <| ZaB.K1_ok 
 refine SJ.sr 2 <| J.z 2 <| J.f ?_ ?_
 ·exact SJ.rg 5 <| J.n 1 fun p485 => J.w 2 Ty4 <| J.z 0 <| SJ.forget (List.Sublist.cons _ (List.Sublist.cons _ List.Sublist.slnil)) <| J.q <| ZaB.K1_ok 
 exact SJ.skip <| SJ.forget (List.Sublist.cons _ (List.Sublist.cons _ List.Sublist.slnil)) <| J.q <| ZaB.K1_ok 

/-! ### weir/weirref16.ParseRule: function 5 -/
noncomputable def Zaf.B : Code := bod Tryz.f5
noncomputable def Zaf.cx : Fx := ⟨Tryz.prog, 5, Tryz.f5, none⟩
noncomputable def Zaf.out (r_ : (Zaz × Int × Int)) : Value := .tuple #[Zaj.val r_.1, .int .i64 r_.2.1, .int .i64 r_.2.2]
noncomputable def Zaf.K1 (b3 : Nat) : M (Zaz × Int × Int) :=
 ld (cI .i64) (Addr.add (pt b3 0) 19) >>= fun x12 =>
 if x12 ≠ 0 then
  draw >>= fun _ =>
  ld (cI .i64) (Addr.add (pt b3 0) 19) >>= fun x15 =>
  ld (cI .i64) (Addr.add (pt b3 0) 20) >>= fun x16 =>
  same (cI .i64) (Addr.add (pt b3 0) 20) x16 >>= fun _ =>
  same (cI .i64) (Addr.add (pt b3 0) 19) x15 >>= fun _ =>
  pure (Zax, x15, x16)
 else
  ld Zaj (Addr.add (pt b3 0) 2) >>= fun x17 =>
  pure (x17, 0, 0)
theorem Zaf.K1_ok (b1 : Nat) (b3 : Nat) :
  SJ Zaf.cx [.code (c2 (c2 (c2 (c2 (c2 (c2 (c2 (c2 Zaf.B))))))))] [(2, .pointer (some (pt b1 0))), (8, .pointer (some (pt b3 0)))] [(b1, Zaj.enc Zax)] (Zaf.K1 b3) (rt Zaf.out) := by
 unfold Zaf.K1
 refine SJ.seq <| SJ.sr 5 <| J.l 3 Ty3 fun x12 => J.z 1 <| J.f ?_ ?_
 ·exact SJ.seq <| J.R 12 Zdz <| J.u 0 Ty28 .nil <| J.l 3 Ty3 fun x15 => J.l 3 Ty3 fun x16 => OJ.kst (y := .tmp 2) (z := .tmp 58) (cd := Zaj) (u := Zax) (j := 0) (b := b1) (o := 0) (Zaj.enc Zax) (owed := [⟨8, 3, (Addr.add (pt b3 0) 20), (cI .i64).val x16⟩, ⟨4, 3, (Addr.add (pt b3 0) 19), (cI .i64).val x15⟩]) Ty28 rfl (Upd.whole ((Cod.len _ _).trans (Cod.len _ _).symm)) rfl <| OW.same Ty3 <| OW.same Ty3 <| OW.nil <| J.z 2 <| J.rc (.c 0 rfl Ty28 .n)
 exact SJ.skip <| SJ.sr 7 <| J.l 3 Ty28 fun x17 => J.s 0 0 rfl Ty28 (Upd.w x17) <| J.z 2 <| J.rc (.c 0 rfl Ty28 .n)
noncomputable def Zaf.F1 (b1 : Nat) (b3 : Nat) : LF Unit (Zaz × Int × Int) := ⟨[.inBlock 0, .code (c2 (c2 (c2 (c2 (c2 (c2 (c2 (c2 Zaf.B))))))))], c1 (c1 (c2 (c2 (c2 (c2 (c2 (c2 (c2 Zaf.B)))))))), fun s_ => [(2, .pointer (some (pt b1 0))), (8, .pointer (some (pt b3 0)))], fun s_ => [(b1, Zaj.enc Zax)], (rt Zaf.out)⟩
noncomputable def Zaf.L1 (b3 : Nat) : M (LS Unit (Zaz × Int × Int)) :=
 ld (cI .i64) (Addr.add (pt b3 0) 19) >>= fun x19 =>
 (if x19 = 0 then
   ld cL (pt b3 0) >>= fun x20 =>
   pure (decide ((x20.len : Int) > 0))
  else
   pure false) >>= fun y21 =>
 if y21 = true then
  ZaB (some (pt b3 0)) >>= fun r22 =>
  pure (LS.next ())
 else
  (Zaf.K1 b3) >>= fun b => pure (LS.done b)
theorem Zaf.L1_ok (b1 : Nat) (b3 : Nat) : LJ Zaf.cx (Zaf.F1 b1 b3) (fun s_ => Zaf.L1 b3) := by
 rintro _
 show SJ _ _ _ _ (Zaf.L1 b3) _
 unfold Zaf.L1
 refine SJ.seq <| SJ.sr 13 <| J.l 3 Ty3 fun x19 => J.j 2 6 .bool ?_ ?_ fun y21 => ?_
 ·exact J.l 3 Ty53 fun x20 => J.e 3
 ·exact J.e 7
 refine J.z 0 <| J.f ?_ ?_
 ·exact SJ.skip <| SJ.block (id := 1) <| SJ.rg 2 <| J.C 1 F19 (Zf6 _) fun r22 => J.z 0 <| SJ.inBlock <| J.o rfl
 exact SJ.exit (id := 0) (by rfl) <| J.q <| SJ.done <| Zaf.K1_ok b1 b3
noncomputable def Zaf.K2 (b3 : Nat) : M (Zaz × Int × Int) :=
 Zci (fun s_ : Unit => Zaf.L1 b3) ()
theorem Zaf.K2_ok (b1 : Nat) (b3 : Nat) :
  SJ Zaf.cx [.code (c2 (c2 (c2 (c2 (c2 (c2 (c2 Zaf.B)))))))] [(2, .pointer (some (pt b1 0))), (8, .pointer (some (pt b3 0)))] [(b1, Zaj.enc Zax)] (Zaf.K2 b3) (rt Zaf.out) := by
 unfold Zaf.K2
 exact SJ.seq <| SJ.block (id := 0) <| J.L (Zaf.L1_ok b1 b3)
noncomputable def Zaf (a0 : ByteArray) : M (Zaz × Int × Int) :=
 slot 28 >>= fun b1 =>
 if (a0.size : Int) > 1024 then
  pure (Zax, 2, 1024)
 else
  Zat a0 >>= fun r2 =>
  if r2.2.1 ≠ 0 then
   pure (Zax, r2.2.1, r2.2.2)
  else
   newv 58 Za9 (⟨r2.1, (a0.size : Int), Zdb.r, Zdb.seen, Zdb.err, Zdb.at_⟩ : Zbd) >>= fun b3 =>
   ZaT (some (pt b3 0)) >>= fun r4 =>
   ld (cI .i64) (Addr.add (pt b3 0) 19) >>= fun x5 =>
   if x5 = 0 then
    Zag (some (pt b3 0)) >>= fun r24 =>
    Zaf.K2 b3
   else
    Zaf.K2 b3
theorem Zhc (a0 : ByteArray) : Ref Tryz.prog 5 [.string a0] (Zaf a0) Zaf.out := by
 refine J.Fn Tryz.func5 ?_
 unfold Zaf
 refine SJ.sr 3 <| J.a 0 Ty28 fun b1 => J.z 2 <| SJ.seq <| SJ.sr 3 <| J.z 3 <| J.f ?_ ?_
 ·exact SJ.sr 4 <| J.u 0 Ty28 .nil <| J.s 0 0 rfl Ty28 (Upd.w Zax) <| J.z 2 <| J.rc (.c 0 rfl Ty28 .n)
 refine SJ.skip <| SJ.sr 9 <| J.C 1 F16 (ZiF _) fun r2 => J.z 7 <| SJ.seq <| SJ.sr 2 <| J.z 2 <| J.f ?_ ?_
 ·exact SJ.sr 6 <| J.u 0 Ty28 .nil <| J.s 2 0 rfl Ty28 (Upd.w Zax) <| J.z 2 <| J.rc (.c 0 rfl Ty28 .n)
 refine SJ.skip <| SJ.sr 6 <| J.u 3 Ty58 (.f 0 (Zep _ r2.1) (.f 1 (ZgG _ (a0.size : Int)) .nil)) <| J.B 0 fun b3 => J.z 1 <| SJ.sr 2 <| J.C 1 F17 (ZgO _) fun r4 => J.z 0 <| SJ.seq <| SJ.sr 5 <| J.l 3 Ty3 fun x5 => J.z 1 <| J.f ?_ ?_
 ·exact SJ.rg 2 <| J.C 1 F18 (Zgv _) fun r24 => J.z 0 <| J.q <| Zaf.K2_ok b1 b3
 exact SJ.skip <| J.q <| Zaf.K2_ok b1 b3

/-! ### weir/weirlaw16.num: function 6 -/
noncomputable def Zc4.out (r_ : Int) : Value := .int .i64 r_
noncomputable def Zc4 (a0 : Int) : M Int :=
 pure a0
theorem Zec (a0 : Int) : Ref Tryz.prog 6 [.int .i64 a0] (Zc4 a0) Zc4.out := by
 refine J.Fn Tryz.func6 ?_
 unfold Zc4
 exact SJ.sr 1 <| J.z 1 <| SJ.sr 2 <| J.z 2 <| J.r

/-! ### weir/weirref16.SameSide: function 20 -/
noncomputable def Zah.B : Code := bod Tryz.f20
noncomputable def Zah.cx : Fx := ⟨Tryz.prog, 20, Tryz.f20, none⟩
noncomputable def Zah.out (r_ : Bool) : Value := .bool r_
noncomputable def Zah.F1 (a0 : Zap) (a1 : Zap) (b1 : Nat) (b2 : Nat) : LF Int Bool := ⟨[.inBlock 2, .code (c2 (c2 (c2 (c2 Zah.B))))], c1 (c2 (c1 (c2 (c2 (c2 Zah.B))))), fun s_ => [(2, .pointer (some (pt b1 0))), (3, .pointer (some (pt b2 0))), (6, .int .i64 s_)], fun s_ => [(b2, ZaR.enc a1), (b1, ZaR.enc a0)], (rt Zah.out)⟩
noncomputable def Zah.L1 (a0 : Zap) (a1 : Zap) (s12 : Int) : M (LS Int Bool) :=
 if s12 < (a0.Ports.len : Int) then
  draw >>= fun _ =>
  idx a0.Ports.a a0.Ports.len s12 2 >>= fun p19 =>
  ld Zbi p19 >>= fun x20 =>
  idx a1.Ports.a a1.Ports.len s12 2 >>= fun p21 =>
  ld Zbi p21 >>= fun x22 =>
  if ¬ (x20 = x22) then
   pure (LS.done false)
  else
   pure (LS.next (IntKind.wrap .i64 (s12 + 1)))
 else
  pure (LS.done true)
theorem Zah.L1_ok (a0 : Zap) (a1 : Zap) (b1 : Nat) (b2 : Nat) : LJ Zah.cx (Zah.F1 a0 a1 b1 b2) (fun s_ => Zah.L1 a0 a1 s_) := by
 rintro s12
 show SJ _ _ _ _ (Zah.L1 a0 a1 s12) _
 unfold Zah.L1
 refine SJ.seq <| SJ.sr 5 <| J.k 2 1 rfl Ty24 (ZbG _) <| J.z 2 <| J.f ?_ ?_
 ·refine SJ.skip <| SJ.seq <| SJ.block (id := 3) <| SJ.seq <| J.R 11 Zdz <| J.k 1 1 rfl Ty24 (ZbG _) <| J.i 1 fun p19 => J.l 0 Ty71 fun x20 => J.k 1 0 rfl Ty24 (ZbG _) <| J.i 1 fun p21 => J.l 0 Ty71 fun x22 => OJ.neq (d := 65) (T := 71) (yT := 71) (y := .tmp 59) (z := .tmp 64) (cd := Zbi) (p := x20) (q := x22) rfl Eq71 <| J.z 0 <| J.f ?_ ?_
  ·exact SJ.sr 1 <| J.z 1 <| J.r
  exact SJ.skip <| SJ.inBlock <| SJ.rg 3 <| J.z 3 <| J.o rfl
 exact SJ.exit (id := 2) (by rfl) <| SJ.sr 1 <| J.z 1 <| J.r
noncomputable def Zah.K1 (a0 : Zap) (a1 : Zap) : M Bool :=
 Zci (fun s_ : Int => Zah.L1 a0 a1 s_) 0
theorem Zah.K1_ok (a0 : Zap) (a1 : Zap) (b1 : Nat) (b2 : Nat) :
  SJ Zah.cx [.code (c2 (c2 (c2 Zah.B)))] [(2, .pointer (some (pt b1 0))), (3, .pointer (some (pt b2 0)))] [(b2, ZaR.enc a1), (b1, ZaR.enc a0)] (Zah.K1 a0 a1) (rt Zah.out) := by
 unfold Zah.K1
 exact SJ.seq <| SJ.sr 1 <| J.z 1 <| SJ.block (id := 2) <| J.L (Zah.L1_ok a0 a1 b1 b2)
noncomputable def Zah.F2 (a0 : Zap) (a1 : Zap) (b1 : Nat) (b2 : Nat) : LF Int Bool := ⟨[.inBlock 0, .code (c2 (c2 (c2 Zah.B)))], c1 (c2 (c1 (c2 (c2 Zah.B)))), fun s_ => [(2, .pointer (some (pt b1 0))), (3, .pointer (some (pt b2 0))), (5, .int .i64 s_)], fun s_ => [(b2, ZaR.enc a1), (b1, ZaR.enc a0)], (rt Zah.out)⟩
noncomputable def Zah.L2 (a0 : Zap) (a1 : Zap) (s5 : Int) : M (LS Int Bool) :=
 if s5 < (a0.Nets.len : Int) then
  draw >>= fun _ =>
  idx a0.Nets.a a0.Nets.len s5 18 >>= fun p25 =>
  ld ZaI p25 >>= fun x26 =>
  idx a1.Nets.a a1.Nets.len s5 18 >>= fun p27 =>
  ld ZaI p27 >>= fun x28 =>
  if ¬ (x26 = x28) then
   pure (LS.done false)
  else
   pure (LS.next (IntKind.wrap .i64 (s5 + 1)))
 else
  (Zah.K1 a0 a1) >>= fun b => pure (LS.done b)
theorem Zah.L2_ok (a0 : Zap) (a1 : Zap) (b1 : Nat) (b2 : Nat) : LJ Zah.cx (Zah.F2 a0 a1 b1 b2) (fun s_ => Zah.L2 a0 a1 s_) := by
 rintro s5
 show SJ _ _ _ _ (Zah.L2 a0 a1 s5) _
 unfold Zah.L2
 refine SJ.seq <| SJ.sr 5 <| J.k 2 1 rfl Ty23 (ZbL _) <| J.z 2 <| J.f ?_ ?_
 ·refine SJ.skip <| SJ.seq <| SJ.block (id := 1) <| SJ.seq <| J.R 11 Zdz <| J.k 1 1 rfl Ty23 (ZbL _) <| J.i 1 fun p25 => J.l 0 Ty69 fun x26 => J.k 1 0 rfl Ty23 (ZbL _) <| J.i 1 fun p27 => J.l 0 Ty69 fun x28 => OJ.neq (d := 47) (T := 69) (yT := 69) (y := .tmp 41) (z := .tmp 46) (cd := ZaI) (p := x26) (q := x28) rfl Eq69 <| J.z 0 <| J.f ?_ ?_
  ·exact SJ.sr 1 <| J.z 1 <| J.r
  exact SJ.skip <| SJ.inBlock <| SJ.rg 3 <| J.z 3 <| J.o rfl
 exact SJ.exit (id := 0) (by rfl) <| J.q <| SJ.done <| Zah.K1_ok a0 a1 b1 b2
noncomputable def Zah (a0 : Zap) (a1 : Zap) : M Bool :=
 slot 26 >>= fun b1 =>
 slot 26 >>= fun b2 =>
 (if ¬ (a0.Not = a1.Not) then
   pure true
  else
   pure ((a0.Nets.len : Int) != (a1.Nets.len : Int))) >>= fun y3 =>
 (if y3 = true then
   pure true
  else
   pure ((a0.Ports.len : Int) != (a1.Ports.len : Int))) >>= fun y4 =>
 if y4 = true then
  pure false
 else
  Zci (fun s_ : Int => Zah.L2 a0 a1 s_) 0
theorem Zfv (a0 : Zap) (a1 : Zap) : Ref Tryz.prog 20 [ZaR.val a0, ZaR.val a1] (Zah a0 a1) Zah.out := by
 refine J.Fn Tryz.func20 ?_
 unfold Zah
 refine SJ.sr 3 <| J.b 0 ZaR a0 fun b1 => J.b 0 ZaR a1 fun b2 => J.z 1 <| SJ.seq <| SJ.sr 23 <| J.k 1 1 rfl Ty4 (Ze8 _) <| J.k 1 0 rfl Ty4 (Ze8 _) <| J.j 2 7 .bool ?_ ?_ fun y3 => ?_
 ·exact J.e 8
 ·exact J.k 1 1 rfl Ty23 (ZbL _) <| J.k 2 0 rfl Ty23 (ZbL _) <| J.e 3
 refine J.j 1 7 .bool ?_ ?_ fun y4 => ?_
 ·exact J.e 8
 ·exact J.k 1 1 rfl Ty24 (ZbG _) <| J.k 2 0 rfl Ty24 (ZbG _) <| J.e 3
 refine J.z 0 <| J.f ?_ ?_
 ·exact SJ.sr 1 <| J.z 1 <| J.r
 exact SJ.skip <| SJ.seq <| SJ.sr 1 <| J.z 1 <| SJ.block (id := 0) <| J.L (Zah.L2_ok a0 a1 b1 b2)

/-! ### weir/weirref16.Same: function 7 -/
noncomputable def Zc3.out (r_ : Bool) : Value := .bool r_
noncomputable def Zc3 (a0 : Zaz) (a1 : Zaz) : M Bool :=
 slot 28 >>= fun b1 =>
 slot 28 >>= fun b2 =>
 (if a0.Act ≠ a1.Act then
   pure true
  else
   pure (a0.Class != a1.Class)) >>= fun y3 =>
 (if y3 = true then
   pure true
  else
   pure (a0.Kind != a1.Kind)) >>= fun y4 =>
 (if y4 = true then
   pure true
  else
   pure (a0.Proto != a1.Proto)) >>= fun y5 =>
 (if y5 = true then
   pure true
  else
   pure (a0.In != a1.In)) >>= fun y6 =>
 (if y6 = true then
   pure true
  else
   pure (a0.Vid != a1.Vid)) >>= fun y7 =>
 if y7 = true then
  pure false
 else
  (if a0.Set ≠ a1.Set then
    pure true
   else
    pure (a0.Clear != a1.Clear)) >>= fun y8 =>
  (if y8 = true then
    pure true
   else
    pure (a0.Type_ != a1.Type_)) >>= fun y9 =>
  (if y9 = true then
    pure true
   else
    pure (!(a0.Pieces == a1.Pieces))) >>= fun y10 =>
  if y10 = true then
   pure false
  else
   Zah a0.From a1.From >>= fun r11 =>
   (if r11 = true then
     Zah a0.To a1.To >>= fun r12 =>
     pure r12
    else
     pure false) >>= fun y13 =>
   pure y13
theorem Zfi (a0 : Zaz) (a1 : Zaz) : Ref Tryz.prog 7 [Zaj.val a0, Zaj.val a1] (Zc3 a0 a1) Zc3.out := by
 refine J.Fn Tryz.func7 ?_
 unfold Zc3
 refine SJ.sr 3 <| J.b 0 Zaj a0 fun b1 => J.b 0 Zaj a1 fun b2 => J.z 1 <| SJ.seq <| SJ.sr 40 <| J.k 1 1 rfl Ty3 (ZcQ _) <| J.k 1 0 rfl Ty3 (ZcQ _) <| J.j 2 5 .bool ?_ ?_ fun y3 => ?_
 ·exact J.e 6
 ·exact J.k 1 1 rfl Ty3 (Zd0 _) <| J.k 1 0 rfl Ty3 (Zd0 _) <| J.e 2
 refine J.j 1 5 .bool ?_ ?_ fun y4 => ?_
 ·exact J.e 6
 ·exact J.k 1 1 rfl Ty3 (ZcD _) <| J.k 1 0 rfl Ty3 (ZcD _) <| J.e 2
 refine J.j 1 5 .bool ?_ ?_ fun y5 => ?_
 ·exact J.e 6
 ·exact J.k 1 1 rfl Ty3 (Zcd _) <| J.k 1 0 rfl Ty3 (Zcd _) <| J.e 2
 refine J.j 1 5 .bool ?_ ?_ fun y6 => ?_
 ·exact J.e 6
 ·exact J.k 1 1 rfl Ty3 (Zfu _) <| J.k 1 0 rfl Ty3 (Zfu _) <| J.e 2
 refine J.j 1 5 .bool ?_ ?_ fun y7 => ?_
 ·exact J.e 6
 ·exact J.k 1 1 rfl Ty3 (Ze9 _) <| J.k 1 0 rfl Ty3 (Ze9 _) <| J.e 2
 refine J.z 0 <| J.f ?_ ?_
 ·exact SJ.sr 1 <| J.z 1 <| J.r
 refine SJ.skip <| SJ.seq <| SJ.sr 26 <| J.k 1 1 rfl Ty3 (ZcB _) <| J.k 1 0 rfl Ty3 (ZcB _) <| J.j 2 5 .bool ?_ ?_ fun y8 => ?_
 ·exact J.e 6
 ·exact J.k 1 1 rfl Ty3 (Zcj _) <| J.k 1 0 rfl Ty3 (Zcj _) <| J.e 2
 refine J.j 1 5 .bool ?_ ?_ fun y9 => ?_
 ·exact J.e 6
 ·exact J.k 1 1 rfl Ty3 (ZdZ _) <| J.k 1 0 rfl Ty3 (ZdZ _) <| J.e 2
 refine J.j 1 5 .bool ?_ ?_ fun y10 => ?_
 ·exact J.e 6
 ·exact J.k 1 1 rfl Ty4 (Zfa _) <| J.k 1 0 rfl Ty4 (Zfa _) <| J.e 2
 refine J.z 0 <| J.f ?_ ?_
 ·exact SJ.sr 1 <| J.z 1 <| J.r
 refine SJ.skip <| SJ.sr 13 <| J.k 1 1 rfl Ty26 (ZdD _) <| J.k 1 0 rfl Ty26 (ZdD _) <| J.C 0 F20 (Zfv _ _) fun r11 => J.j 1 5 .bool ?_ ?_ fun y13 => ?_
 ·exact J.k 1 1 rfl Ty26 (ZdO _) <| J.k 1 0 rfl Ty26 (ZdO _) <| J.C 0 F20 (Zfv _ _) fun r12 => J.e 1
 ·exact J.e 6
 exact J.z 1 <| J.r

/-! ### weir/weirlaw16.lists: function 21 -/
noncomputable def Zbk.B : Code := bod Tryz.f21
noncomputable def Zbk.cx : Fx := ⟨Tryz.prog, 21, Tryz.f21, none⟩
noncomputable def Zbk.out (r_ : Zaw) : Value := Zbe.val r_
noncomputable def Zbk.F1 (a0 : Sl) (b1 : Nat) (b2 : Nat) : LF (Int × Zaw) Zaw := ⟨[.inBlock 0, .code (c2 (c2 (c2 Zbk.B)))], c1 (c2 (c1 (c2 (c2 Zbk.B)))), fun s_ => [(0, Sl.v a0), (2, .pointer (some (pt b1 0))), (3, .pointer (some (pt b2 0))), (4, .int .i64 s_.1)], fun s_ => [(b2, Zbe.enc s_.2), (b1, Zbe.enc Zes)], (rt Zbk.out)⟩
noncomputable def Zbk.L1 (a0 : Sl) (s3 : Int) (s4 : Zaw) : M (LS (Int × Zaw) Zaw) :=
 if s3 < (a0.len : Int) then
  draw >>= fun _ =>
  idx a0.a a0.len s3 16 >>= fun p18 =>
  ld cL (Addr.add (Addr.add p18 6) 1) >>= fun x19 =>
  idx a0.a a0.len s3 16 >>= fun p20 =>
  ld cL (Addr.add (Addr.add p20 9) 1) >>= fun x21 =>
  slot 23 >>= fun b22 =>
  appl cL 23 24 Sl.nil s4.nets [x19, x21] >>= fun r23 =>
  draw >>= fun _ =>
  idx a0.a a0.len s3 16 >>= fun p24 =>
  ld cL (Addr.add (Addr.add p24 6) 2) >>= fun x25 =>
  idx a0.a a0.len s3 16 >>= fun p26 =>
  ld cL (Addr.add (Addr.add p26 9) 2) >>= fun x27 =>
  slot 24 >>= fun b28 =>
  appl cL 24 24 Sl.nil s4.ports [x25, x27] >>= fun r29 =>
  pure (LS.next (IntKind.wrap .i64 (s3 + 1), (⟨r23, r29⟩ : Zaw)))
 else
  pure (LS.done s4)
theorem Zbk.L1_ok (a0 : Sl) (b1 : Nat) (b2 : Nat) : LJ Zbk.cx (Zbk.F1 a0 b1 b2) (fun s_ => Zbk.L1 a0 s_.1 s_.2) := by
 rintro ⟨s3, s4⟩
 show SJ _ _ _ _ (Zbk.L1 a0 s3 s4) _
 unfold Zbk.L1
 refine SJ.seq <| SJ.sr 4 <| J.z 4 <| J.f ?_ ?_
 ·exact SJ.skip <| SJ.seq <| SJ.block (id := 1) <| SJ.seq <| J.R 18 Zdz <| J.k 1 0 rfl Ty60 (ZbF _) <| J.i 2 fun p18 => J.l 2 Ty23 fun x19 => J.i 2 fun p20 => J.l 2 Ty23 fun x21 => OJ.rowSlot (d := 25) (t := 60) (parts := [(0, .tmp 18), (1, .tmp 24)]) (ps := [(0, cL.val x19), (1, cL.val x21)]) (cd := cL) (⟨[x19, x21], rfl⟩ : Vec Sl 2) (owed := [⟨1, 60, (pt b2 0), cL.val s4.nets⟩]) Ty23 (Zcf.cons (cd := cL) (q := x19) (o := 0) rfl (Upd.arr (i := 0) (by decide) (by decide)) (Zcf.cons (cd := cL) (q := x21) (o := 1) rfl (Upd.arr (i := 1) (by decide) (by decide)) Zcf.nil)) fun b22 => OW.known (j := 1) (q := s4.nets) Ty60 rfl (ZbF s4) <| OW.nil <| J.p 0 0 rfl Ty23 fun r23 => J.s 1 1 rfl Ty60 (Zg4 _ r23) <| J.z 0 <| J.R 18 Zdz <| J.k 1 1 rfl Ty61 (Zb4 _) <| J.i 2 fun p24 => J.l 2 Ty24 fun x25 => J.i 2 fun p26 => J.l 2 Ty24 fun x27 => OJ.rowSlot (d := 42) (t := 61) (parts := [(0, .tmp 35), (1, .tmp 41)]) (ps := [(0, cL.val x25), (1, cL.val x27)]) (cd := cL) (⟨[x25, x27], rfl⟩ : Vec Sl 2) (owed := [⟨1, 61, (pt b2 1), cL.val s4.ports⟩]) Ty24 (Zcf.cons (cd := cL) (q := x25) (o := 0) rfl (Upd.arr (i := 0) (by decide) (by decide)) (Zcf.cons (cd := cL) (q := x27) (o := 1) rfl (Upd.arr (i := 1) (by decide) (by decide)) Zcf.nil)) fun b28 => OW.known (j := 2) (q := s4.ports) Ty61 rfl (Zb4 (⟨r23, s4.ports⟩ : Zaw)) <| OW.nil <| J.p 0 0 rfl Ty24 fun r29 => J.s 1 2 rfl Ty61 (ZgH _ r29) <| J.z 0 <| SJ.inBlock <| SJ.rg 3 <| J.z 3 <| SJ.forget (List.Sublist.cons _ (List.Sublist.cons _ (List.Sublist.cons_cons _ (List.Sublist.cons_cons _ List.Sublist.slnil)))) <| J.o rfl
 exact SJ.exit (id := 0) (by rfl) <| SJ.sr 2 <| J.k 0 0 rfl Ty63 (At.whole _) <| J.s 0 1 rfl Ty63 (Upd.w s4) <| J.z 0 <| J.rc (.c 1 rfl Ty63 .n)
noncomputable def Zbk (a0 : Sl) : M Zaw :=
 slot 63 >>= fun b1 =>
 slot 63 >>= fun b2 =>
 Zci (fun s_ : (Int × Zaw) => Zbk.L1 a0 s_.1 s_.2) (0, Zes)
theorem ZiG (a0 : Sl) : Ref Tryz.prog 21 [Sl.v a0] (Zbk a0) Zbk.out := by
 refine J.Fn Tryz.func21 ?_
 unfold Zbk
 exact SJ.sr 1 <| J.a 0 Ty63 fun b1 => J.z 0 <| SJ.sr 1 <| J.a 0 Ty63 fun b2 => J.z 0 <| SJ.seq <| SJ.sr 1 <| J.z 1 <| SJ.block (id := 0) <| J.L (Zbk.L1_ok a0 b1 b2)

/-! ### weir/weirlaw16.heldNets: function 22 -/
noncomputable def Za5.B : Code := bod Tryz.f22
noncomputable def Za5.cx : Fx := ⟨Tryz.prog, 22, Tryz.f22, none⟩
noncomputable def Za5.out (r_ : Bool) : Value := .bool r_
noncomputable def Za5.F1 (a0 : Sl) (a1 : Int) (a2 : Int) (a3 : Int) : LF Int Bool := ⟨[.inBlock 0, .code (c2 (c2 Za5.B))], c1 (c2 (c1 (c2 Za5.B))), fun s_ => [(0, Sl.v a0), (1, .int .i64 a1), (2, .int .i64 a2), (3, .int .i64 a3), (9, .int .i64 s_)], fun s_ => [], (rt Za5.out)⟩
noncomputable def Za5.L1 (a0 : Sl) (a1 : Int) (a2 : Int) (a3 : Int) (s1 : Int) : M (LS Int Bool) :=
 if s1 < (a0.len : Int) then
  (if s1 < a1 then
    idx a0.a a0.len s1 18 >>= fun p11 =>
    ld (cI .i64) (Addr.add p11 17) >>= fun x12 =>
    pure (x12 != a2)
   else
    pure false) >>= fun y13 =>
  (if y13 = true then
    pure true
   else
    (if s1 ≥ a1 then
      idx a0.a a0.len s1 18 >>= fun p14 =>
      ld (cI .i64) (Addr.add p14 17) >>= fun x15 =>
      pure (x15 != a3)
     else
      pure false) >>= fun y16 =>
    pure y16) >>= fun y17 =>
  if y17 = true then
   pure (LS.done false)
  else
   pure (LS.next (IntKind.wrap .i64 (s1 + 1)))
 else
  pure (LS.done true)
theorem Za5.L1_ok (a0 : Sl) (a1 : Int) (a2 : Int) (a3 : Int) : LJ Za5.cx (Za5.F1 a0 a1 a2 a3) (fun s_ => Za5.L1 a0 a1 a2 a3 s_) := by
 rintro s1
 show SJ _ _ _ _ (Za5.L1 a0 a1 a2 a3 s1) _
 unfold Za5.L1
 refine SJ.seq <| SJ.sr 4 <| J.z 4 <| J.f ?_ ?_
 ·refine SJ.skip <| SJ.seq <| SJ.block (id := 1) <| SJ.sr 26 <| J.j 4 7 .bool ?_ ?_ fun y13 => ?_
  ·exact J.i 2 fun p11 => J.l 1 Ty3 fun x12 => J.e 3
  ·exact J.e 8
  refine J.g 1 <| OJ.join (b := y13) [13, 14, 15, 16, 17, 18, 19, 20, 21, 22, 23, 24, 25] [] [0, 1, 2, 3, 9, 41] (fun y17 => [(0, Sl.v a0), (1, .int .i64 a1), (2, .int .i64 a2), (3, .int .i64 a3), (9, .int .i64 s1), (41, .bool y17)]) [] [] (t := 28) Iff.rfl (fun hp_ => ?_) (fun hp_ => ?_) (fun _ _ _ _ _ _ h_ => h_) fun y17 => ?_
  ·exact J.g 13 <| OJ.nil ⟨(Cov.mem Cov.nil), rfl, _, rfl, by kernel_rfl⟩
  ·refine J.g 4 <| OJ.join (b := decide (s1 ≥ a1)) [17, 18, 19, 20, 21, 22, 23, 24] [25] [0, 1, 2, 3, 9, 28, 40] (fun y16 => [(0, Sl.v a0), (1, .int .i64 a1), (2, .int .i64 a2), (3, .int .i64 a3), (9, .int .i64 s1), (28, .bool false), (40, .bool y16)]) [] [] (t := 32) decide_eq_true_iff (fun hp_ => ?_) (fun hp_ => ?_) (fun _ _ _ _ _ hq_ h_ => ⟨fun e_ he_ => (hq_ e_ he_).elim (fun h => h_.1 e_ h) (fun h => nomatch h), h_.2⟩) fun y16 => ?_
   ·exact J.i 2 fun p14 => J.l 1 Ty3 fun x15 => J.g 3 <| OJ.nil ⟨(Cov.mem Cov.nil), rfl, _, rfl, by kernel_rfl⟩
   ·exact J.g 8 <| OJ.nil ⟨(Cov.mem Cov.nil), rfl, _, rfl, by kernel_rfl⟩
   exact J.g 1 <| OJ.nil ⟨(Cov.mem Cov.nil), rfl, _, rfl, by kernel_rfl⟩
  refine J.z 0 <| J.f ?_ ?_
  ·exact SJ.sr 1 <| J.z 1 <| J.r
  exact SJ.skip <| SJ.inBlock <| SJ.rg 3 <| J.z 3 <| J.o rfl
 exact SJ.exit (id := 0) (by rfl) <| SJ.sr 1 <| J.z 1 <| J.r
noncomputable def Za5 (a0 : Sl) (a1 : Int) (a2 : Int) (a3 : Int) : M Bool :=
 Zci (fun s_ : Int => Za5.L1 a0 a1 a2 a3 s_) 0
theorem Zfw (a0 : Sl) (a1 : Int) (a2 : Int) (a3 : Int) : Ref Tryz.prog 22 [Sl.v a0, .int .i64 a1, .int .i64 a2, .int .i64 a3] (Za5 a0 a1 a2 a3) Za5.out := by
 refine J.Fn Tryz.func22 ?_
 unfold Za5
 exact SJ.sr 1 <| J.z 1 <| SJ.seq <| SJ.sr 1 <| J.z 1 <| SJ.block (id := 0) <| J.L (Za5.L1_ok a0 a1 a2 a3)

/-! ### weir/weirlaw16.heldPorts: function 23 -/
noncomputable def Za0.B : Code := bod Tryz.f23
noncomputable def Za0.cx : Fx := ⟨Tryz.prog, 23, Tryz.f23, none⟩
noncomputable def Za0.out (r_ : Bool) : Value := .bool r_
noncomputable def Za0.F1 (a0 : Sl) (a1 : Int) (a2 : Int) (a3 : Int) : LF Int Bool := ⟨[.inBlock 0, .code (c2 (c2 Za0.B))], c1 (c2 (c1 (c2 Za0.B))), fun s_ => [(0, Sl.v a0), (1, .int .i64 a1), (2, .int .i64 a2), (3, .int .i64 a3), (9, .int .i64 s_)], fun s_ => [], (rt Za0.out)⟩
noncomputable def Za0.L1 (a0 : Sl) (a1 : Int) (a2 : Int) (a3 : Int) (s1 : Int) : M (LS Int Bool) :=
 if s1 < (a0.len : Int) then
  (if s1 < a1 then
    idx a0.a a0.len s1 2 >>= fun p11 =>
    ld (cI .i64) p11 >>= fun x12 =>
    pure (x12 != a2)
   else
    pure false) >>= fun y13 =>
  (if y13 = true then
    pure true
   else
    (if s1 ≥ a1 then
      idx a0.a a0.len s1 2 >>= fun p14 =>
      ld (cI .i64) p14 >>= fun x15 =>
      pure (x15 != a3)
     else
      pure false) >>= fun y16 =>
    pure y16) >>= fun y17 =>
  if y17 = true then
   pure (LS.done false)
  else
   pure (LS.next (IntKind.wrap .i64 (s1 + 1)))
 else
  pure (LS.done true)
theorem Za0.L1_ok (a0 : Sl) (a1 : Int) (a2 : Int) (a3 : Int) : LJ Za0.cx (Za0.F1 a0 a1 a2 a3) (fun s_ => Za0.L1 a0 a1 a2 a3 s_) := by
 rintro s1
 show SJ _ _ _ _ (Za0.L1 a0 a1 a2 a3 s1) _
 unfold Za0.L1
 refine SJ.seq <| SJ.sr 4 <| J.z 4 <| J.f ?_ ?_
 ·refine SJ.skip <| SJ.seq <| SJ.block (id := 1) <| SJ.sr 26 <| J.j 4 7 .bool ?_ ?_ fun y13 => ?_
  ·exact J.i 2 fun p11 => J.l 1 Ty3 fun x12 => J.e 3
  ·exact J.e 8
  refine J.g 1 <| OJ.join (b := y13) [13, 14, 15, 16, 17, 18, 19, 20, 21, 22, 23, 24, 25] [] [0, 1, 2, 3, 9, 41] (fun y17 => [(0, Sl.v a0), (1, .int .i64 a1), (2, .int .i64 a2), (3, .int .i64 a3), (9, .int .i64 s1), (41, .bool y17)]) [] [] (t := 28) Iff.rfl (fun hp_ => ?_) (fun hp_ => ?_) (fun _ _ _ _ _ _ h_ => h_) fun y17 => ?_
  ·exact J.g 13 <| OJ.nil ⟨(Cov.mem Cov.nil), rfl, _, rfl, by kernel_rfl⟩
  ·refine J.g 4 <| OJ.join (b := decide (s1 ≥ a1)) [17, 18, 19, 20, 21, 22, 23, 24] [25] [0, 1, 2, 3, 9, 28, 40] (fun y16 => [(0, Sl.v a0), (1, .int .i64 a1), (2, .int .i64 a2), (3, .int .i64 a3), (9, .int .i64 s1), (28, .bool false), (40, .bool y16)]) [] [] (t := 32) decide_eq_true_iff (fun hp_ => ?_) (fun hp_ => ?_) (fun _ _ _ _ _ hq_ h_ => ⟨fun e_ he_ => (hq_ e_ he_).elim (fun h => h_.1 e_ h) (fun h => nomatch h), h_.2⟩) fun y16 => ?_
   ·exact J.i 2 fun p14 => J.l 1 Ty3 fun x15 => J.g 3 <| OJ.nil ⟨(Cov.mem Cov.nil), rfl, _, rfl, by kernel_rfl⟩
   ·exact J.g 8 <| OJ.nil ⟨(Cov.mem Cov.nil), rfl, _, rfl, by kernel_rfl⟩
   exact J.g 1 <| OJ.nil ⟨(Cov.mem Cov.nil), rfl, _, rfl, by kernel_rfl⟩
  refine J.z 0 <| J.f ?_ ?_
  ·exact SJ.sr 1 <| J.z 1 <| J.r
  exact SJ.skip <| SJ.inBlock <| SJ.rg 3 <| J.z 3 <| J.o rfl
 exact SJ.exit (id := 0) (by rfl) <| SJ.sr 1 <| J.z 1 <| J.r
noncomputable def Za0 (a0 : Sl) (a1 : Int) (a2 : Int) (a3 : Int) : M Bool :=
 Zci (fun s_ : Int => Za0.L1 a0 a1 a2 a3 s_) 0
theorem Zfc (a0 : Sl) (a1 : Int) (a2 : Int) (a3 : Int) : Ref Tryz.prog 23 [Sl.v a0, .int .i64 a1, .int .i64 a2, .int .i64 a3] (Za0 a0 a1 a2 a3) Za0.out := by
 refine J.Fn Tryz.func23 ?_
 unfold Za0
 exact SJ.sr 1 <| J.z 1 <| SJ.seq <| SJ.sr 1 <| J.z 1 <| SJ.block (id := 0) <| J.L (Za0.L1_ok a0 a1 a2 a3)

/-! ### weir/weirlaw16.marked: function 8 -/
noncomputable def Zaa.B : Code := bod Tryz.f8
noncomputable def Zaa.cx : Fx := ⟨Tryz.prog, 8, Tryz.f8, none⟩
noncomputable def Zaa.out (r_ : Bool) : Value := .bool r_
noncomputable def Zaa.F1 (r1 : Zaw) (b2 : Nat) (s31 : Sl) (s32 : Sl) : LF Int Bool := ⟨[.inBlock 12, .code (c2 (c2 (c2 (c2 (c2 (c2 (c2 (c2 Zaa.B))))))))], c1 (c2 (c1 (c2 (c2 (c2 (c2 (c2 (c2 (c2 Zaa.B))))))))), fun s_ => [(3, .pointer (some (pt b2 0))), (7, Sl.v s31), (8, Sl.v s32), (14, .int .i64 s_)], fun s_ => [(b2, Zbe.enc r1)], (rt Zaa.out)⟩
noncomputable def Zaa.L1 (r1 : Zaw) (s31 : Sl) (s32 : Sl) (s59 : Int) : M (LS Int Bool) :=
 if s59 < (r1.nets.len : Int) then
  draw >>= fun _ =>
  idx r1.nets.a r1.nets.len s59 1 >>= fun p85 =>
  ld cL p85 >>= fun x86 =>
  idx r1.nets.a r1.nets.len s59 1 >>= fun p87 =>
  ld cL p87 >>= fun x88 =>
  Za5 x86 (x88.len : Int) (IntKind.wrap .i64 ((-1000) - s59)) 0 >>= fun r89 =>
  (if ¬ (r89 = true) then
    pure true
   else
    idx s31.a s31.len s59 1 >>= fun p90 =>
    ld cL p90 >>= fun x91 =>
    idx r1.nets.a r1.nets.len s59 1 >>= fun p92 =>
    ld cL p92 >>= fun x93 =>
    Za5 x91 (x93.len : Int) (IntKind.wrap .i64 ((-1000) - s59)) (IntKind.wrap .i64 ((-5000) - s59)) >>= fun r94 =>
    pure (!r94)) >>= fun y95 =>
  if y95 = true then
   pure (LS.done false)
  else
   draw >>= fun _ =>
   idx r1.ports.a r1.ports.len s59 1 >>= fun p96 =>
   ld cL p96 >>= fun x97 =>
   idx r1.ports.a r1.ports.len s59 1 >>= fun p98 =>
   ld cL p98 >>= fun x99 =>
   Za0 x97 (x99.len : Int) (IntKind.wrap .i64 ((-1000) - s59)) 0 >>= fun r100 =>
   (if ¬ (r100 = true) then
     pure true
    else
     idx s32.a s32.len s59 1 >>= fun p101 =>
     ld cL p101 >>= fun x102 =>
     idx r1.ports.a r1.ports.len s59 1 >>= fun p103 =>
     ld cL p103 >>= fun x104 =>
     Za0 x102 (x104.len : Int) (IntKind.wrap .i64 ((-1000) - s59)) (IntKind.wrap .i64 ((-5000) - s59)) >>= fun r105 =>
     pure (!r105)) >>= fun y106 =>
   if y106 = true then
    pure (LS.done false)
   else
    pure (LS.next (IntKind.wrap .i64 (s59 + 1)))
 else
  pure (LS.done true)
theorem Zaa.L1_ok (r1 : Zaw) (b2 : Nat) (s31 : Sl) (s32 : Sl) : LJ Zaa.cx (Zaa.F1 r1 b2 s31 s32) (fun s_ => Zaa.L1 r1 s31 s32 s_) := by
 rintro s59
 show SJ _ _ _ _ (Zaa.L1 r1 s31 s32 s59) _
 unfold Zaa.L1
 refine SJ.seq <| SJ.sr 5 <| J.k 2 0 rfl Ty60 (ZbF _) <| J.z 2 <| J.f ?_ ?_
 ·refine SJ.skip <| SJ.seq <| SJ.block (id := 13) <| SJ.seq <| SJ.seq <| J.R 33 Zdz <| J.k 1 0 rfl Ty60 (ZbF _) <| J.i 1 fun p85 => J.l 0 Ty23 fun x86 => J.k 1 0 rfl Ty60 (ZbF _) <| J.i 1 fun p87 => J.l 0 Ty23 fun x88 => J.C 3 F22 (Zfw _ _ _ _) fun r89 => J.j 2 16 .bool ?_ ?_ fun y95 => ?_
  ·exact J.e 17
  ·exact J.i 2 fun p90 => J.l 0 Ty23 fun x91 => J.k 1 0 rfl Ty60 (ZbF _) <| J.i 1 fun p92 => J.l 0 Ty23 fun x93 => J.C 5 F22 (Zfw _ _ _ _) fun r94 => J.e 2
  refine J.z 0 <| J.f ?_ ?_
  ·exact SJ.sr 1 <| J.z 1 <| J.r
  refine SJ.skip <| SJ.seq <| J.R 33 Zdz <| J.k 1 0 rfl Ty61 (Zb4 _) <| J.i 1 fun p96 => J.l 0 Ty24 fun x97 => J.k 1 0 rfl Ty61 (Zb4 _) <| J.i 1 fun p98 => J.l 0 Ty24 fun x99 => J.C 3 F23 (Zfc _ _ _ _) fun r100 => J.j 2 16 .bool ?_ ?_ fun y106 => ?_
  ·exact J.e 17
  ·exact J.i 2 fun p101 => J.l 0 Ty24 fun x102 => J.k 1 0 rfl Ty61 (Zb4 _) <| J.i 1 fun p103 => J.l 0 Ty24 fun x104 => J.C 5 F23 (Zfc _ _ _ _) fun r105 => J.e 2
  refine J.z 0 <| J.f ?_ ?_
  ·exact SJ.sr 1 <| J.z 1 <| J.r
  exact SJ.skip <| SJ.inBlock <| SJ.rg 3 <| J.z 3 <| J.o rfl
 exact SJ.exit (id := 12) (by rfl) <| SJ.sr 1 <| J.z 1 <| J.r
noncomputable def Zaa.K1 (r1 : Zaw) (s31 : Sl) (s32 : Sl) : M Bool :=
 Zci (fun s_ : Int => Zaa.L1 r1 s31 s32 s_) 0
theorem Zaa.K1_ok (r1 : Zaw) (b2 : Nat) (s31 : Sl) (s32 : Sl) :
  SJ Zaa.cx [.code (c2 (c2 (c2 (c2 (c2 (c2 (c2 Zaa.B)))))))] [(3, .pointer (some (pt b2 0))), (7, Sl.v s31), (8, Sl.v s32)] [(b2, Zbe.enc r1)] (Zaa.K1 r1 s31 s32) (rt Zaa.out) := by
 unfold Zaa.K1
 exact SJ.seq <| SJ.sr 1 <| J.z 1 <| SJ.block (id := 12) <| J.L (Zaa.L1_ok r1 b2 s31 s32)
noncomputable def Zaa.F2 (a0 : Sl) (r1 : Zaw) (b2 : Nat) (s31 : Sl) (s32 : Sl) : LF Int Bool := ⟨[.inBlock 10, .code (c2 (c2 (c2 (c2 (c2 (c2 (c2 Zaa.B)))))))], c1 (c2 (c1 (c2 (c2 (c2 (c2 (c2 (c2 Zaa.B)))))))), fun s_ => [(0, Sl.v a0), (3, .pointer (some (pt b2 0))), (7, Sl.v s31), (8, Sl.v s32), (13, .int .i64 s_)], fun s_ => [(b2, Zbe.enc r1)], (rt Zaa.out)⟩
noncomputable def Zaa.L2 (a0 : Sl) (r1 : Zaw) (s31 : Sl) (s32 : Sl) (s56 : Int) : M (LS Int Bool) :=
 if s56 < (a0.len : Int) then
  idx a0.a a0.len s56 16 >>= fun p110 =>
  st Zaj p110 (⟨(-1), Zax.Class, Zax.Kind, Zax.Proto, Zax.In, Zax.Vid, Zax.From, Zax.To, Zax.Set, Zax.Clear, Zax.Type_, Zax.Pieces⟩ : Zaz) >>= fun _ =>
  pure (LS.next (IntKind.wrap .i64 (s56 + 1)))
 else
  (Zaa.K1 r1 s31 s32) >>= fun b => pure (LS.done b)
theorem Zaa.L2_ok (a0 : Sl) (r1 : Zaw) (b2 : Nat) (s31 : Sl) (s32 : Sl) : LJ Zaa.cx (Zaa.F2 a0 r1 b2 s31 s32) (fun s_ => Zaa.L2 a0 r1 s31 s32 s_) := by
 rintro s56
 show SJ _ _ _ _ (Zaa.L2 a0 r1 s31 s32 s56) _
 unfold Zaa.L2
 refine SJ.seq <| SJ.sr 4 <| J.z 4 <| J.f ?_ ?_
 ·exact SJ.skip <| SJ.seq <| SJ.block (id := 11) <| SJ.rg 5 <| J.u 2 Ty28 (.f 0 (Zdu _ (-1)) .nil) <| J.i 0 fun p110 => J.w 0 Ty28 <| J.z 0 <| SJ.inBlock <| SJ.rg 3 <| J.z 3 <| J.o rfl
 exact SJ.exit (id := 10) (by rfl) <| J.q <| SJ.done <| Zaa.K1_ok r1 b2 s31 s32
noncomputable def Zaa.K2 (a0 : Sl) (r1 : Zaw) (s31 : Sl) (s32 : Sl) : M Bool :=
 Zci (fun s_ : Int => Zaa.L2 a0 r1 s31 s32 s_) 0
theorem Zaa.K2_ok (a0 : Sl) (r1 : Zaw) (b2 : Nat) (s31 : Sl) (s32 : Sl) :
  SJ Zaa.cx [.code (c2 (c2 (c2 (c2 (c2 (c2 Zaa.B))))))] [(0, Sl.v a0), (3, .pointer (some (pt b2 0))), (7, Sl.v s31), (8, Sl.v s32)] [(b2, Zbe.enc r1)] (Zaa.K2 a0 r1 s31 s32) (rt Zaa.out) := by
 unfold Zaa.K2
 exact SJ.seq <| SJ.sr 1 <| J.z 1 <| SJ.block (id := 10) <| J.L (Zaa.L2_ok a0 r1 b2 s31 s32)
noncomputable def Zaa.F3 (a0 : Sl) (r1 : Zaw) (b2 : Nat) : LF (Sl × Sl × Int) Bool := ⟨[.inBlock 6, .code (c2 (c2 (c2 (c2 (c2 (c2 Zaa.B))))))], c1 (c2 (c1 (c2 (c2 (c2 (c2 (c2 Zaa.B))))))), fun s_ => [(0, Sl.v a0), (3, .pointer (some (pt b2 0))), (7, Sl.v s_.1), (8, Sl.v s_.2.1), (9, .int .i64 s_.2.2)], fun s_ => [(b2, Zbe.enc r1)], (rt Zaa.out)⟩
noncomputable def Zaa.K3 (s31 : Sl) (s32 : Sl) (s33 : Int) (s116 : Sl) (s117 : Sl) : M (LS (Sl × Sl × Int) Bool) :=
 slot 23 >>= fun b124 =>
 appl cL 23 24 Sl.nil s31 [s116] >>= fun r125 =>
 slot 24 >>= fun b126 =>
 appl cL 24 24 Sl.nil s32 [s117] >>= fun r127 =>
 pure (LS.next (r125, r127, IntKind.wrap .i64 (s33 + 1)))
theorem Zaa.K3_ok (a0 : Sl) (r1 : Zaw) (b2 : Nat) (s31 : Sl) (s32 : Sl) (s33 : Int) (s116 : Sl) (s117 : Sl) :
  SJ Zaa.cx [.code (c2 (c2 (c2 (c1 (c1 (c2 (c1 (c1 (c2 (c1 (c2 (c2 (c2 (c2 (c2 Zaa.B))))))))))))))), .inBlock 7, .code (c2 (c2 (c1 (c1 (c2 (c1 (c2 (c2 (c2 (c2 (c2 Zaa.B))))))))))), .inLoop (c1 (c1 (c2 (c1 (c2 (c2 (c2 (c2 (c2 Zaa.B))))))))), .inBlock 6, .code (c2 (c2 (c2 (c2 (c2 (c2 Zaa.B))))))] [(0, Sl.v a0), (3, .pointer (some (pt b2 0))), (7, Sl.v s31), (8, Sl.v s32), (9, .int .i64 s33), (10, Sl.v s116), (11, Sl.v s117)] [(b2, Zbe.enc r1)] (Zaa.K3 s31 s32 s33 s116 s117) (Zaa.F3 a0 r1 b2).f := by
 unfold Zaa.K3
 exact SJ.sr 5 <| J.S 2 [s116] Ty23 fun b124 => J.p 0 0 rfl Ty23 fun r125 => J.z 1 <| SJ.rg 5 <| J.S 2 [s117] Ty24 fun b126 => J.p 0 0 rfl Ty24 fun r127 => J.z 1 <| SJ.inBlock <| SJ.rg 3 <| J.z 3 <| SJ.forget (List.Sublist.cons _ (List.Sublist.cons _ (List.Sublist.cons_cons _ List.Sublist.slnil))) <| J.o rfl
noncomputable def Zaa.F4 (a0 : Sl) (r1 : Zaw) (b2 : Nat) (s31 : Sl) (s32 : Sl) (s33 : Int) : LF (Sl × Sl × Int) (LS (Sl × Sl × Int) Bool) := ⟨[.inBlock 8, .code (c2 (c2 (c2 (c1 (c1 (c2 (c1 (c1 (c2 (c1 (c2 (c2 (c2 (c2 (c2 Zaa.B))))))))))))))), .inBlock 7, .code (c2 (c2 (c1 (c1 (c2 (c1 (c2 (c2 (c2 (c2 (c2 Zaa.B))))))))))), .inLoop (c1 (c1 (c2 (c1 (c2 (c2 (c2 (c2 (c2 Zaa.B))))))))), .inBlock 6, .code (c2 (c2 (c2 (c2 (c2 (c2 Zaa.B))))))], c1 (c2 (c1 (c2 (c2 (c1 (c1 (c2 (c1 (c1 (c2 (c1 (c2 (c2 (c2 (c2 (c2 Zaa.B)))))))))))))))), fun s_ => [(0, Sl.v a0), (3, .pointer (some (pt b2 0))), (7, Sl.v s31), (8, Sl.v s32), (9, .int .i64 s33), (10, Sl.v s_.1), (11, Sl.v s_.2.1), (12, .int .i64 s_.2.2)], fun s_ => [(b2, Zbe.enc r1)], (Zaa.F3 a0 r1 b2).f⟩
noncomputable def Zaa.L4 (s31 : Sl) (s32 : Sl) (s33 : Int) (s116 : Sl) (s117 : Sl) (s118 : Int) : M (LS (Sl × Sl × Int) (LS (Sl × Sl × Int) Bool)) :=
 if s118 < 70 then
  slot 69 >>= fun b128 =>
  appl ZaI 69 32 ZaU s116 [(⟨ZaU.IP, IntKind.wrap .i64 ((-5000) - s33)⟩ : Zac)] >>= fun r129 =>
  slot 71 >>= fun b130 =>
  appl Zbi 71 16 Zcv s117 [(⟨IntKind.wrap .i64 ((-5000) - s33), Zcv.Hi⟩ : ZaD)] >>= fun r131 =>
  pure (LS.next (r129, r131, IntKind.wrap .i64 (s118 + 1)))
 else
  (Zaa.K3 s31 s32 s33 s116 s117) >>= fun b => pure (LS.done b)
theorem Zaa.L4_ok (a0 : Sl) (r1 : Zaw) (b2 : Nat) (s31 : Sl) (s32 : Sl) (s33 : Int) : LJ Zaa.cx (Zaa.F4 a0 r1 b2 s31 s32 s33) (fun s_ => Zaa.L4 s31 s32 s33 s_.1 s_.2.1 s_.2.2) := by
 rintro ⟨s116, s117, s118⟩
 show SJ _ _ _ _ (Zaa.L4 s31 s32 s33 s116 s117 s118) _
 unfold Zaa.L4
 refine SJ.seq <| SJ.sr 2 <| J.z 2 <| J.f ?_ ?_
 ·exact SJ.skip <| SJ.seq <| SJ.block (id := 9) <| SJ.sr 7 <| J.u 3 Ty69 (.f 1 (Zcq _ (IntKind.wrap .i64 ((-5000) - s33))) .nil) <| J.S 0 [(⟨ZaU.IP, IntKind.wrap .i64 ((-5000) - s33)⟩ : Zac)] Ty69 fun b128 => J.p 0 0 rfl Ty69 fun r129 => J.z 1 <| SJ.rg 7 <| J.u 3 Ty71 (.f 0 (Zdv _ (IntKind.wrap .i64 ((-5000) - s33))) .nil) <| J.S 0 [(⟨IntKind.wrap .i64 ((-5000) - s33), Zcv.Hi⟩ : ZaD)] Ty71 fun b130 => J.p 0 0 rfl Ty71 fun r131 => J.z 1 <| SJ.inBlock <| SJ.rg 3 <| J.z 3 <| SJ.forget (List.Sublist.cons _ (List.Sublist.cons _ (List.Sublist.cons_cons _ List.Sublist.slnil))) <| J.o rfl
 exact SJ.exit (id := 8) (by rfl) <| J.q <| SJ.done <| Zaa.K3_ok a0 r1 b2 s31 s32 s33 s116 s117
noncomputable def Zaa.L3 (a0 : Sl) (r1 : Zaw) (s31 : Sl) (s32 : Sl) (s33 : Int) : M (LS (Sl × Sl × Int) Bool) :=
 if s33 < (r1.nets.len : Int) then
  idx r1.nets.a r1.nets.len s33 1 >>= fun p112 =>
  ld cL p112 >>= fun x113 =>
  idx r1.ports.a r1.ports.len s33 1 >>= fun p114 =>
  ld cL p114 >>= fun x115 =>
  Zci (fun s_ : (Sl × Sl × Int) => Zaa.L4 s31 s32 s33 s_.1 s_.2.1 s_.2.2) (x113, x115, 0)
 else
  (Zaa.K2 a0 r1 s31 s32) >>= fun b => pure (LS.done b)
theorem Zaa.L3_ok (a0 : Sl) (r1 : Zaw) (b2 : Nat) : LJ Zaa.cx (Zaa.F3 a0 r1 b2) (fun s_ => Zaa.L3 a0 r1 s_.1 s_.2.1 s_.2.2) := by
 rintro ⟨s31, s32, s33⟩
 show SJ _ _ _ _ (Zaa.L3 a0 r1 s31 s32 s33) _
 unfold Zaa.L3
 refine SJ.seq <| SJ.sr 5 <| J.k 2 0 rfl Ty60 (ZbF _) <| J.z 2 <| J.f ?_ ?_
 ·exact SJ.skip <| SJ.seq <| SJ.block (id := 7) <| SJ.sr 6 <| J.k 1 0 rfl Ty60 (ZbF _) <| J.i 1 fun p112 => J.l 0 Ty23 fun x113 => J.z 1 <| SJ.sr 6 <| J.k 1 0 rfl Ty61 (Zb4 _) <| J.i 1 fun p114 => J.l 0 Ty24 fun x115 => J.z 1 <| SJ.seq <| SJ.sr 1 <| J.z 1 <| SJ.block (id := 8) <| J.L (Zaa.L4_ok a0 r1 b2 s31 s32 s33)
 exact SJ.exit (id := 6) (by rfl) <| J.q <| SJ.done <| Zaa.K2_ok a0 r1 b2 s31 s32
noncomputable def Zaa.K4 (a0 : Sl) (r1 : Zaw) : M Bool :=
 Zci (fun s_ : (Sl × Sl × Int) => Zaa.L3 a0 r1 s_.1 s_.2.1 s_.2.2) (Sl.nil, Sl.nil, 0)
theorem Zaa.K4_ok (a0 : Sl) (r1 : Zaw) (b2 : Nat) :
  SJ Zaa.cx [.code (c2 (c2 (c2 Zaa.B)))] [(0, Sl.v a0), (3, .pointer (some (pt b2 0)))] [(b2, Zbe.enc r1)] (Zaa.K4 a0 r1) (rt Zaa.out) := by
 unfold Zaa.K4
 exact SJ.sr 1 <| J.z 1 <| SJ.sr 1 <| J.z 1 <| SJ.seq <| SJ.sr 1 <| J.z 1 <| SJ.block (id := 6) <| J.L (Zaa.L3_ok a0 r1 b2)
noncomputable def Zaa.F5 (a0 : Sl) (r1 : Zaw) (b2 : Nat) : LF Int Bool := ⟨[.inBlock 0, .code (c2 (c2 (c2 Zaa.B)))], c1 (c2 (c1 (c2 (c2 Zaa.B)))), fun s_ => [(0, Sl.v a0), (3, .pointer (some (pt b2 0))), (4, .int .i64 s_)], fun s_ => [(b2, Zbe.enc r1)], (rt Zaa.out)⟩
noncomputable def Zaa.F6 (a0 : Sl) (r1 : Zaw) (b2 : Nat) (s3 : Int) : LF Int (LS Int Bool) := ⟨[.inBlock 4, .inBlock 1, .code (c2 (c2 (c1 (c1 (c2 (c1 (c2 (c2 Zaa.B)))))))), .inLoop (c1 (c1 (c2 (c1 (c2 (c2 Zaa.B)))))), .inBlock 0, .code (c2 (c2 (c2 Zaa.B)))], c1 (c2 (c2 (c1 (c1 (c2 (c1 (c1 (c2 (c1 (c2 (c2 Zaa.B))))))))))), fun s_ => [(0, Sl.v a0), (3, .pointer (some (pt b2 0))), (4, .int .i64 s3), (6, .int .i64 s_)], fun s_ => [(b2, Zbe.enc r1)], (Zaa.F5 a0 r1 b2).f⟩
noncomputable def Zaa.L6 (r1 : Zaw) (s3 : Int) (s141 : Int) : M (LS Int (LS Int Bool)) :=
 idx r1.ports.a r1.ports.len s3 1 >>= fun p148 =>
 ld cL p148 >>= fun x149 =>
 if s141 < (x149.len : Int) then
  idx r1.ports.a r1.ports.len s3 1 >>= fun p150 =>
  ld cL p150 >>= fun x151 =>
  idx x151.a x151.len s141 2 >>= fun p152 =>
  st Zbi p152 (⟨IntKind.wrap .i64 ((-1000) - s3), Zcv.Hi⟩ : ZaD) >>= fun _ =>
  pure (LS.next (IntKind.wrap .i64 (s141 + 1)))
 else
  pure (LS.done (LS.next (IntKind.wrap .i64 (s3 + 1))))
theorem Zaa.L6_ok (a0 : Sl) (r1 : Zaw) (b2 : Nat) (s3 : Int) : LJ Zaa.cx (Zaa.F6 a0 r1 b2 s3) (fun s_ => Zaa.L6 r1 s3 s_) := by
 rintro s141
 show SJ _ _ _ _ (Zaa.L6 r1 s3 s141) _
 unfold Zaa.L6
 refine SJ.seq <| SJ.sr 8 <| J.k 2 0 rfl Ty61 (Zb4 _) <| J.i 1 fun p148 => J.l 0 Ty24 fun x149 => J.z 2 <| J.f ?_ ?_
 ·exact SJ.skip <| SJ.seq <| SJ.block (id := 5) <| SJ.rg 11 <| J.k 1 0 rfl Ty61 (Zb4 _) <| J.i 1 fun p150 => J.l 0 Ty24 fun x151 => J.u 3 Ty71 (.f 0 (Zdv _ (IntKind.wrap .i64 ((-1000) - s3))) .nil) <| J.i 0 fun p152 => J.w 0 Ty71 <| J.z 0 <| SJ.inBlock <| SJ.rg 3 <| J.z 3 <| J.o rfl
 exact SJ.exit (id := 4) (by rfl) <| SJ.inBlock <| SJ.rg 3 <| J.z 3 <| J.o rfl
noncomputable def Zaa.K5 (r1 : Zaw) (s3 : Int) : M (LS Int Bool) :=
 Zci (fun s_ : Int => Zaa.L6 r1 s3 s_) 0
theorem Zaa.K5_ok (a0 : Sl) (r1 : Zaw) (b2 : Nat) (s3 : Int) :
  SJ Zaa.cx [.code (c2 (c1 (c1 (c2 (c1 (c1 (c2 (c1 (c2 (c2 Zaa.B)))))))))), .inBlock 1, .code (c2 (c2 (c1 (c1 (c2 (c1 (c2 (c2 Zaa.B)))))))), .inLoop (c1 (c1 (c2 (c1 (c2 (c2 Zaa.B)))))), .inBlock 0, .code (c2 (c2 (c2 Zaa.B)))] [(0, Sl.v a0), (3, .pointer (some (pt b2 0))), (4, .int .i64 s3)] [(b2, Zbe.enc r1)] (Zaa.K5 r1 s3) (Zaa.F5 a0 r1 b2).f := by
 unfold Zaa.K5
 exact SJ.sr 1 <| J.z 1 <| SJ.block (id := 4) <| J.L (Zaa.L6_ok a0 r1 b2 s3)
noncomputable def Zaa.F7 (a0 : Sl) (r1 : Zaw) (b2 : Nat) (s3 : Int) : LF Int (LS Int Bool) := ⟨[.inBlock 2, .code (c2 (c1 (c1 (c2 (c1 (c1 (c2 (c1 (c2 (c2 Zaa.B)))))))))), .inBlock 1, .code (c2 (c2 (c1 (c1 (c2 (c1 (c2 (c2 Zaa.B)))))))), .inLoop (c1 (c1 (c2 (c1 (c2 (c2 Zaa.B)))))), .inBlock 0, .code (c2 (c2 (c2 Zaa.B)))], c1 (c2 (c1 (c1 (c1 (c2 (c1 (c1 (c2 (c1 (c2 (c2 Zaa.B))))))))))), fun s_ => [(0, Sl.v a0), (3, .pointer (some (pt b2 0))), (4, .int .i64 s3), (5, .int .i64 s_)], fun s_ => [(b2, Zbe.enc r1)], (Zaa.F5 a0 r1 b2).f⟩
noncomputable def Zaa.L7 (r1 : Zaw) (s3 : Int) (s134 : Int) : M (LS Int (LS Int Bool)) :=
 idx r1.nets.a r1.nets.len s3 1 >>= fun p154 =>
 ld cL p154 >>= fun x155 =>
 if s134 < (x155.len : Int) then
  idx r1.nets.a r1.nets.len s3 1 >>= fun p156 =>
  ld cL p156 >>= fun x157 =>
  idx x157.a x157.len s134 18 >>= fun p158 =>
  st ZaI p158 (⟨ZaU.IP, IntKind.wrap .i64 ((-1000) - s3)⟩ : Zac) >>= fun _ =>
  pure (LS.next (IntKind.wrap .i64 (s134 + 1)))
 else
  (Zaa.K5 r1 s3) >>= fun b => pure (LS.done b)
theorem Zaa.L7_ok (a0 : Sl) (r1 : Zaw) (b2 : Nat) (s3 : Int) : LJ Zaa.cx (Zaa.F7 a0 r1 b2 s3) (fun s_ => Zaa.L7 r1 s3 s_) := by
 rintro s134
 show SJ _ _ _ _ (Zaa.L7 r1 s3 s134) _
 unfold Zaa.L7
 refine SJ.seq <| SJ.sr 8 <| J.k 2 0 rfl Ty60 (ZbF _) <| J.i 1 fun p154 => J.l 0 Ty23 fun x155 => J.z 2 <| J.f ?_ ?_
 ·exact SJ.skip <| SJ.seq <| SJ.block (id := 3) <| SJ.rg 11 <| J.k 1 0 rfl Ty60 (ZbF _) <| J.i 1 fun p156 => J.l 0 Ty23 fun x157 => J.u 3 Ty69 (.f 1 (Zcq _ (IntKind.wrap .i64 ((-1000) - s3))) .nil) <| J.i 0 fun p158 => J.w 0 Ty69 <| J.z 0 <| SJ.inBlock <| SJ.rg 3 <| J.z 3 <| J.o rfl
 exact SJ.exit (id := 2) (by rfl) <| J.q <| SJ.done <| Zaa.K5_ok a0 r1 b2 s3
noncomputable def Zaa.L5 (a0 : Sl) (r1 : Zaw) (s3 : Int) : M (LS Int Bool) :=
 if s3 < (r1.nets.len : Int) then
  Zci (fun s_ : Int => Zaa.L7 r1 s3 s_) 0
 else
  (Zaa.K4 a0 r1) >>= fun b => pure (LS.done b)
theorem Zaa.L5_ok (a0 : Sl) (r1 : Zaw) (b2 : Nat) : LJ Zaa.cx (Zaa.F5 a0 r1 b2) (fun s_ => Zaa.L5 a0 r1 s_) := by
 rintro s3
 show SJ _ _ _ _ (Zaa.L5 a0 r1 s3) _
 unfold Zaa.L5
 refine SJ.seq <| SJ.sr 5 <| J.k 2 0 rfl Ty60 (ZbF _) <| J.z 2 <| J.f ?_ ?_
 ·exact SJ.skip <| SJ.seq <| SJ.block (id := 1) <| SJ.seq <| SJ.sr 1 <| J.z 1 <| SJ.block (id := 2) <| J.L (Zaa.L7_ok a0 r1 b2 s3)
 exact SJ.exit (id := 0) (by rfl) <| J.q <| SJ.done <| Zaa.K4_ok a0 r1 b2
noncomputable def Zaa (a0 : Sl) : M Bool :=
 Zbk a0 >>= fun r1 =>
 slot 63 >>= fun b2 =>
 Zci (fun s_ : Int => Zaa.L5 a0 r1 s_) 0
theorem Zif (a0 : Sl) : Ref Tryz.prog 8 [Sl.v a0] (Zaa a0) Zaa.out := by
 refine J.Fn Tryz.func8 ?_
 unfold Zaa
 exact SJ.sr 1 <| J.z 1 <| SJ.sr 4 <| J.C 1 F21 (ZiG _) fun r1 => J.a 0 Ty63 fun b2 => J.s 0 0 rfl Ty63 (Upd.w r1) <| J.z 0 <| SJ.seq <| SJ.sr 1 <| J.z 1 <| SJ.block (id := 0) <| J.L (Zaa.L5_ok a0 r1 b2)

/-! ### weir/weirlaw16.line: function 24 -/
noncomputable def Zc5.B : Code := bod Tryz.f24
noncomputable def Zc5.out (r_ : (ByteArray × Zaz)) : Value := .tuple #[.string r_.1, Zaj.val r_.2]
noncomputable def Zc5  : M (ByteArray × Zaz) :=
 slot 28 >>= fun b1 =>
 slot 69 >>= fun b2 =>
 draws 24 2 (Ze0 (c1 (c2 (c2 Zc5.B)))) >>= fun o3 =>
 if bfr o3 1 4 = true then
  newv 69 (ZaI.arr 1) (⟨[(⟨(⟨4, (⟨[10, 0, 0, 0, 0, 0, 0, 0, 0, 0, 0, 0, 0, 0, 0, 0], rfl⟩ : (Vec Int 16))⟩ : Zbs), 8⟩ : Zac)], rfl⟩ : Vec Zac 1) >>= fun b10 =>
  newv 71 (Zbi.arr 1) (⟨[(⟨80, 80⟩ : ZaD)], rfl⟩ : Vec ZaD 1) >>= fun b11 =>
  pure (ZsT, (⟨1, Zax.Class, Zax.Kind, 6, Zax.In, Zax.Vid, (⟨ZaQ.Not, (⟨some (pt b10 0), 1, 1⟩ : Sl), ZaQ.Ports⟩ : Zap), (⟨ZaQ.Not, ZaQ.Nets, (⟨some (pt b11 0), 1, 1⟩ : Sl)⟩ : Zap), Zax.Set, Zax.Clear, Zax.Type_, Zax.Pieces⟩ : Zaz))
 else
  newv 71 (Zbi.arr 1) (⟨[(⟨80, 80⟩ : ZaD)], rfl⟩ : Vec ZaD 1) >>= fun b12 =>
  newv 69 (ZaI.arr 1) (⟨[(⟨(⟨4, (⟨[10, 0, 0, 0, 0, 0, 0, 0, 0, 0, 0, 0, 0, 0, 0, 0], rfl⟩ : (Vec Int 16))⟩ : Zbs), 8⟩ : Zac)], rfl⟩ : Vec Zac 1) >>= fun b13 =>
  pure (ZsT, (⟨1, Zax.Class, Zax.Kind, 6, Zax.In, Zax.Vid, (⟨ZaQ.Not, (⟨some (pt b13 0), 1, 1⟩ : Sl), ZaQ.Ports⟩ : Zap), (⟨ZaQ.Not, ZaQ.Nets, (⟨some (pt b12 0), 1, 1⟩ : Sl)⟩ : Zap), Zax.Set, Zax.Clear, Zax.Type_, Zax.Pieces⟩ : Zaz))
theorem Zjf  : Ref Tryz.prog 24 [] (Zc5) Zc5.out := by
 refine J.Fn Tryz.func24 ?_
 unfold Zc5
 refine SJ.sr 2 <| J.a 1 Ty28 fun b1 => J.z 0 <| SJ.sr 5 <| OJ.build (d := 3) (T := 65) (parts := [(0, .const (.int .u8 10))]) (ps := [(0, (cI .u8).val 10)]) (cd := ((cI .u8).arr 16)) (z0 := (Vec.rep 16 0)) (⟨[10, 0, 0, 0, 0, 0, 0, 0, 0, 0, 0, 0, 0, 0, 0, 0], rfl⟩ : (Vec Int 16)) Ty65 rfl (Zcf.cons (cd := (cI .u8)) (q := 10) (o := 0) (by kernel_rfl) (Upd.arr (i := 0) (by decide) (by decide)) Zcf.nil) <| J.u 0 Ty67 (.f 0 (Zf0 _ 4) (.f 1 (Zf1 _ (⟨[10, 0, 0, 0, 0, 0, 0, 0, 0, 0, 0, 0, 0, 0, 0, 0], rfl⟩ : (Vec Int 16))) .nil)) <| J.u 0 Ty69 (.f 0 (ZdC _ (⟨4, (⟨[10, 0, 0, 0, 0, 0, 0, 0, 0, 0, 0, 0, 0, 0, 0, 0], rfl⟩ : (Vec Int 16))⟩ : Zbs)) (.f 1 (Zcq _ 8) .nil)) <| J.a 0 Ty69 fun b2 => J.s 0 0 rfl Ty69 (Upd.w (⟨(⟨4, (⟨[10, 0, 0, 0, 0, 0, 0, 0, 0, 0, 0, 0, 0, 0, 0, 0], rfl⟩ : (Vec Int 16))⟩ : Zbs), 8⟩ : Zac)) <| J.z 0 <| SJ.seq <| SJ.draws (id := 2) (kd := [1, 2, 0, 0, 2, 0, 0, 0, 2]) (bef := [0, 1, 3, 0, 8, 24, 63, 0, 255]) (ord := [0, 1, 2, 3, 4, 5, 6, 7, 8]) (E := [(1, 4)]) Zdz fun o3 hg_ => SJ.bfr hg_ (by decide) (fun ho9 => ?_) fun ho9 => ?_
 ·exact SJ.leaf hg_ (kd := [1, 2, 0, 0, 2, 0, 0, 0, 2]) (bef := [0, 1, 3, 0, 8, 24, 63, 0, 255]) (ord := [0, 1, 2, 3, 4, 5, 6, 7, 8]) (E := [(1, 4)]) (allB.cons ho9 allB.nil) <| J.k 0 0 rfl Ty69 (At.whole _) <| J.N 0 Ty69 fun b10 => J.u 0 Ty26 (.f 1 (ZeG _ (⟨some (pt b10 0), 1, 1⟩ : Sl)) .nil) <| J.u 0 Ty71 (.f 0 (Zdv _ 80) (.f 1 (Zeq _ 80) .nil)) <| OJ.rowNew (d := 10) (t := 24) (parts := [(0, .tmp 9)]) (ps := [(0, Zbi.val (⟨80, 80⟩ : ZaD))]) (cd := Zbi) (owed := [⟨0, 69, (pt b2 0), ZaI.val (⟨(⟨4, (⟨[10, 0, 0, 0, 0, 0, 0, 0, 0, 0, 0, 0, 0, 0, 0, 0], rfl⟩ : (Vec Int 16))⟩ : Zbs), 8⟩ : Zac)⟩]) Ty71 (Zcf.cons (cd := Zbi) (q := (⟨80, 80⟩ : ZaD)) (o := 0) rfl (Upd.arr (i := 0) (by decide) (by decide)) Zcf.nil) fun b11 => OW.known (j := 0) (q := (⟨(⟨4, (⟨[10, 0, 0, 0, 0, 0, 0, 0, 0, 0, 0, 0, 0, 0, 0, 0], rfl⟩ : (Vec Int 16))⟩ : Zbs), 8⟩ : Zac)) Ty69 rfl (At.whole _) <| OW.nil <| J.u 0 Ty26 (.f 2 (Zew _ (⟨some (pt b11 0), 1, 1⟩ : Sl)) .nil) <| J.u 0 Ty28 (.f 0 (Zdu _ 1) (.f 3 (Zdp _ 6) (.f 6 (ZdB _ (⟨ZaQ.Not, (⟨some (pt b10 0), 1, 1⟩ : Sl), ZaQ.Ports⟩ : Zap)) (.f 7 (Zeg _ (⟨ZaQ.Not, ZaQ.Nets, (⟨some (pt b11 0), 1, 1⟩ : Sl)⟩ : Zap)) .nil)))) <| J.s 1 1 rfl Ty28 (Upd.w (⟨1, Zax.Class, Zax.Kind, 6, Zax.In, Zax.Vid, (⟨ZaQ.Not, (⟨some (pt b10 0), 1, 1⟩ : Sl), ZaQ.Ports⟩ : Zap), (⟨ZaQ.Not, ZaQ.Nets, (⟨some (pt b11 0), 1, 1⟩ : Sl)⟩ : Zap), Zax.Set, Zax.Clear, Zax.Type_, Zax.Pieces⟩ : Zaz)) <| J.z 0 <| J.rc (.c 1 rfl Ty28 .n)
 exact SJ.leaf hg_ (kd := [1, 2, 0, 0, 2, 0, 0, 0, 2]) (bef := [0, 1, 3, 0, 8, 24, 63, 0, 255]) (ord := [0, 3, 4, 1, 2, 5, 6, 7, 8]) (E := [(4, 1)]) (allB.cons ho9 allB.nil) <| J.k 0 0 rfl Ty69 (At.whole _) <| J.u 0 Ty71 (.f 0 (Zdv _ 80) (.f 1 (Zeq _ 80) .nil)) <| OJ.rowNew (d := 10) (t := 24) (parts := [(0, .tmp 9)]) (ps := [(0, Zbi.val (⟨80, 80⟩ : ZaD))]) (cd := Zbi) (owed := [⟨0, 69, (pt b2 0), ZaI.val (⟨(⟨4, (⟨[10, 0, 0, 0, 0, 0, 0, 0, 0, 0, 0, 0, 0, 0, 0, 0], rfl⟩ : (Vec Int 16))⟩ : Zbs), 8⟩ : Zac)⟩]) Ty71 (Zcf.cons (cd := Zbi) (q := (⟨80, 80⟩ : ZaD)) (o := 0) rfl (Upd.arr (i := 0) (by decide) (by decide)) Zcf.nil) fun b12 => OW.known (j := 0) (q := (⟨(⟨4, (⟨[10, 0, 0, 0, 0, 0, 0, 0, 0, 0, 0, 0, 0, 0, 0, 0], rfl⟩ : (Vec Int 16))⟩ : Zbs), 8⟩ : Zac)) Ty69 rfl (At.whole _) <| OW.nil <| J.N 0 Ty69 fun b13 => J.u 0 Ty26 (.f 1 (ZeG _ (⟨some (pt b13 0), 1, 1⟩ : Sl)) .nil) <| J.u 0 Ty26 (.f 2 (Zew _ (⟨some (pt b12 0), 1, 1⟩ : Sl)) .nil) <| J.u 0 Ty28 (.f 0 (Zdu _ 1) (.f 3 (Zdp _ 6) (.f 6 (ZdB _ (⟨ZaQ.Not, (⟨some (pt b13 0), 1, 1⟩ : Sl), ZaQ.Ports⟩ : Zap)) (.f 7 (Zeg _ (⟨ZaQ.Not, ZaQ.Nets, (⟨some (pt b12 0), 1, 1⟩ : Sl)⟩ : Zap)) .nil)))) <| J.s 1 1 rfl Ty28 (Upd.w (⟨1, Zax.Class, Zax.Kind, 6, Zax.In, Zax.Vid, (⟨ZaQ.Not, (⟨some (pt b13 0), 1, 1⟩ : Sl), ZaQ.Ports⟩ : Zap), (⟨ZaQ.Not, ZaQ.Nets, (⟨some (pt b12 0), 1, 1⟩ : Sl)⟩ : Zap), Zax.Set, Zax.Clear, Zax.Type_, Zax.Pieces⟩ : Zaz)) <| J.z 0 <| J.rc (.c 1 rfl Ty28 .n)

/-! ### weir/rules.checkSide: function 49 -/
noncomputable def Zal.B : Code := bod Tryz.f49
noncomputable def Zal.cx : Fx := ⟨Tryz.prog, 49, Tryz.f49, none⟩
noncomputable def Zal.out (r_ : Int) : Value := .int .i64 r_
noncomputable def Zal.K1 (a0 : Zap) (a2 : Int) : M Int :=
 (if (a0.Ports.len : Int) > 0 then
   Zd3 a2 >>= fun r19 =>
   pure (!r19)
  else
   pure false) >>= fun y20 =>
 if y20 = true then
  pure 165
 else
  pure 0
theorem Zal.K1_ok (a0 : Zap) (a2 : Int) (b1 : Nat) :
  SJ Zal.cx [.code (c2 (c2 (c2 (c2 (c2 Zal.B)))))] [(2, .int .i64 a2), (3, .pointer (some (pt b1 0)))] [(b1, ZaR.enc a0)] (Zal.K1 a0 a2) (rt Zal.out) := by
 unfold Zal.K1
 refine SJ.seq <| SJ.sr 9 <| J.k 1 0 rfl Ty24 (ZbG _) <| J.j 3 3 .bool ?_ ?_ fun y20 => ?_
 ·exact J.C 1 F55 (Zho _) fun r19 => J.e 2
 ·exact J.e 4
 refine J.z 0 <| J.f ?_ ?_
 ·exact SJ.sr 1 <| J.z 1 <| J.r
 exact SJ.skip <| SJ.sr 1 <| J.z 1 <| J.r
noncomputable def Zal.F1 (a0 : Zap) (a2 : Int) (b1 : Nat) : LF Int Int := ⟨[.inBlock 2, .code (c2 (c2 (c2 (c2 (c2 Zal.B)))))], c1 (c2 (c1 (c2 (c2 (c2 (c2 Zal.B)))))), fun s_ => [(2, .int .i64 a2), (3, .pointer (some (pt b1 0))), (42, Sl.v a0.Ports), (43, .int .i64 (a0.Ports.len : Int)), (44, .int .i64 s_)], fun s_ => [(b1, ZaR.enc a0)], (rt Zal.out)⟩
noncomputable def Zal.L1 (a0 : Zap) (a2 : Int) (s11 : Int) : M (LS Int Int) :=
 if s11 < (a0.Ports.len : Int) then
  idx a0.Ports.a a0.Ports.len s11 2 >>= fun p22 =>
  ld Zbi p22 >>= fun x23 =>
  slot 71 >>= fun b24 =>
  (if x23.Lo < 0 then
    pure true
   else
    pure (decide (x23.Hi > 65535))) >>= fun y25 =>
  (if y25 = true then
    pure true
   else
    pure (decide (x23.Lo > x23.Hi))) >>= fun y26 =>
  if y26 = true then
   pure (LS.done 164)
  else
   pure (LS.next (IntKind.wrap .i64 (s11 + 1)))
 else
  (Zal.K1 a0 a2) >>= fun b => pure (LS.done b)
theorem Zal.L1_ok (a0 : Zap) (a2 : Int) (b1 : Nat) : LJ Zal.cx (Zal.F1 a0 a2 b1) (fun s_ => Zal.L1 a0 a2 s_) := by
 rintro s11
 show SJ _ _ _ _ (Zal.L1 a0 a2 s11) _
 unfold Zal.L1
 refine SJ.sr 1 <| J.z 1 <| SJ.seq <| J.f ?_ ?_
 ·refine SJ.skip <| SJ.seq <| SJ.block (id := 3) <| SJ.sr 4 <| J.i 0 fun p22 => J.l 0 Ty71 fun x23 => J.a 0 Ty71 fun b24 => J.s 0 0 rfl Ty71 (Upd.w x23) <| J.z 0 <| SJ.sr 15 <| J.k 1 0 rfl Ty3 (Zda _) <| J.j 2 3 .bool ?_ ?_ fun y25 => ?_
  ·exact J.e 4
  ·exact J.k 1 0 rfl Ty3 (Zer _) <| J.e 2
  refine J.j 1 5 .bool ?_ ?_ fun y26 => ?_
  ·exact J.e 6
  ·exact J.k 1 0 rfl Ty3 (Zda _) <| J.k 1 0 rfl Ty3 (Zer _) <| J.e 2
  refine J.z 0 <| J.f ?_ ?_
  ·exact SJ.sr 1 <| J.z 1 <| J.r
  exact SJ.skip <| SJ.inBlock <| SJ.rg 2 <| J.z 2 <| SJ.forget (List.Sublist.cons _ (List.Sublist.cons_cons _ List.Sublist.slnil)) <| J.o rfl
 exact SJ.exit (id := 2) (by rfl) <| J.q <| SJ.done <| Zal.K1_ok a0 a2 b1
noncomputable def Zal.K2 (a0 : Zap) (a2 : Int) : M Int :=
 if (a0.Ports.len : Int) > 16 then
  pure 164
 else
  Zci (fun s_ : Int => Zal.L1 a0 a2 s_) 0
theorem Zal.K2_ok (a0 : Zap) (a2 : Int) (b1 : Nat) :
  SJ Zal.cx [.code (c2 (c2 (c2 Zal.B)))] [(2, .int .i64 a2), (3, .pointer (some (pt b1 0)))] [(b1, ZaR.enc a0)] (Zal.K2 a0 a2) (rt Zal.out) := by
 unfold Zal.K2
 refine SJ.seq <| SJ.sr 4 <| J.k 1 0 rfl Ty24 (ZbG _) <| J.z 2 <| J.f ?_ ?_
 ·exact SJ.sr 1 <| J.z 1 <| J.r
 exact SJ.skip <| SJ.seq <| SJ.sr 4 <| J.k 1 0 rfl Ty24 (ZbG _) <| J.z 2 <| SJ.block (id := 2) <| J.L (Zal.L1_ok a0 a2 b1)
noncomputable def Zal.F2 (a0 : Zap) (a1 : Int) (a2 : Int) (b1 : Nat) : LF Int Int := ⟨[.inBlock 0, .code (c2 (c2 (c2 Zal.B)))], c1 (c2 (c1 (c2 (c2 Zal.B)))), fun s_ => [(1, .int .i64 a1), (2, .int .i64 a2), (3, .pointer (some (pt b1 0))), (26, Sl.v a0.Nets), (27, .int .i64 (a0.Nets.len : Int)), (28, .int .i64 s_)], fun s_ => [(b1, ZaR.enc a0)], (rt Zal.out)⟩
noncomputable def Zal.L2 (a0 : Zap) (a1 : Int) (a2 : Int) (s4 : Int) : M (LS Int Int) :=
 if s4 < (a0.Nets.len : Int) then
  idx a0.Nets.a a0.Nets.len s4 18 >>= fun p30 =>
  ld ZaI p30 >>= fun x31 =>
  slot 69 >>= fun b32 =>
  ZdG x31 a1 >>= fun r33 =>
  if ¬ (r33 = true) then
   pure (LS.done 163)
  else
   pure (LS.next (IntKind.wrap .i64 (s4 + 1)))
 else
  (Zal.K2 a0 a2) >>= fun b => pure (LS.done b)
theorem Zal.L2_ok (a0 : Zap) (a1 : Int) (a2 : Int) (b1 : Nat) : LJ Zal.cx (Zal.F2 a0 a1 a2 b1) (fun s_ => Zal.L2 a0 a1 a2 s_) := by
 rintro s4
 show SJ _ _ _ _ (Zal.L2 a0 a1 a2 s4) _
 unfold Zal.L2
 refine SJ.sr 1 <| J.z 1 <| SJ.seq <| J.f ?_ ?_
 ·refine SJ.skip <| SJ.seq <| SJ.block (id := 1) <| SJ.sr 4 <| J.i 0 fun p30 => J.l 0 Ty69 fun x31 => J.a 0 Ty69 fun b32 => J.s 0 0 rfl Ty69 (Upd.w x31) <| J.z 0 <| SJ.sr 4 <| J.k 0 0 rfl Ty69 (At.whole _) <| J.C 1 F67 (Zg9 _ _) fun r33 => J.z 1 <| J.f ?_ ?_
  ·exact SJ.sr 1 <| J.z 1 <| J.r
  exact SJ.skip <| SJ.inBlock <| SJ.rg 2 <| J.z 2 <| SJ.forget (List.Sublist.cons _ (List.Sublist.cons_cons _ List.Sublist.slnil)) <| J.o rfl
 exact SJ.exit (id := 0) (by rfl) <| J.q <| SJ.done <| Zal.K2_ok a0 a2 b1
noncomputable def Zal (a0 : Zap) (a1 : Int) (a2 : Int) : M Int :=
 slot 26 >>= fun b1 =>
 (if (a0.Nets.len : Int) > 16 then
   pure true
  else
   (if a0.Not = true then
     pure ((a0.Nets.len : Int) == 0)
    else
     pure false) >>= fun y2 =>
   pure y2) >>= fun y3 =>
 if y3 = true then
  pure 163
 else
  Zci (fun s_ : Int => Zal.L2 a0 a1 a2 s_) 0
theorem Zga (a0 : Zap) (a1 : Int) (a2 : Int) : Ref Tryz.prog 49 [ZaR.val a0, .int .i64 a1, .int .i64 a2] (Zal a0 a1 a2) Zal.out := by
 refine J.Fn Tryz.func49 ?_
 unfold Zal
 refine SJ.sr 2 <| J.b 0 ZaR a0 fun b1 => J.z 1 <| SJ.seq <| SJ.sr 14 <| J.k 1 0 rfl Ty23 (ZbL _) <| J.g 3 <| OJ.join (b := decide ((a0.Nets.len : Int) > 16)) [5, 6, 7, 8, 9, 10, 11, 12, 13] [] [1, 2, 3, 24] (fun y3 => [(1, .int .i64 a1), (2, .int .i64 a2), (3, .pointer (some (pt b1 0))), (24, .bool y3)]) [] [] (t := 15) decide_eq_true_iff (fun hp_ => ?_) (fun hp_ => ?_) (fun _ _ _ _ _ _ h_ => h_) fun y3 => ?_
 ·exact J.g 9 <| OJ.nil ⟨(Cov.mem Cov.nil), rfl, _, rfl, by kernel_rfl⟩
 ·refine J.k 1 0 rfl Ty4 (Ze8 _) <| J.g 1 <| OJ.join (b := a0.Not) [8, 9, 10, 11, 12] [13] [1, 2, 3, 15, 23] (fun y2 => [(1, .int .i64 a1), (2, .int .i64 a2), (3, .pointer (some (pt b1 0))), (15, .bool false), (23, .bool y2)]) [] [] (t := 18) Iff.rfl (fun hp_ => ?_) (fun hp_ => ?_) (fun _ _ _ _ _ hq_ h_ => ⟨fun e_ he_ => (hq_ e_ he_).elim (fun h => h_.1 e_ h) (fun h => nomatch h), h_.2⟩) fun y2 => ?_
  ·exact J.k 1 0 rfl Ty23 (ZbL _) <| J.g 3 <| OJ.nil ⟨(Cov.mem Cov.nil), rfl, _, rfl, by kernel_rfl⟩
  ·exact J.g 5 <| OJ.nil ⟨(Cov.mem Cov.nil), rfl, _, rfl, by kernel_rfl⟩
  exact J.g 1 <| OJ.nil ⟨(Cov.mem Cov.nil), rfl, _, rfl, by kernel_rfl⟩
 refine J.z 0 <| J.f ?_ ?_
 ·exact SJ.sr 1 <| J.z 1 <| J.r
 exact SJ.skip <| SJ.seq <| SJ.sr 4 <| J.k 1 0 rfl Ty23 (ZbL _) <| J.z 2 <| SJ.block (id := 0) <| J.L (Zal.L2_ok a0 a1 a2 b1)

/-! ### weir/rules.Check: function 26 -/
noncomputable def Zbf.B : Code := bod Tryz.f26
noncomputable def Zbf.cx : Fx := ⟨Tryz.prog, 26, Tryz.f26, none⟩
noncomputable def Zbf.out (r_ : Int) : Value := .int .i64 r_
noncomputable def Zbf.K1 (a0 : Zaz) (j56 : Bool) : M Int :=
 if j56 = true then
  pure 165
 else
  Zal a0.From a0.Kind a0.Proto >>= fun r57 =>
  if r57 ≠ 0 then
   pure r57
  else
   Zal a0.To a0.Kind a0.Proto >>= fun r58 =>
   pure r58
theorem Zbf.K1_ok (a0 : Zaz) (b1 : Nat) (j56 : Bool) :
  SJ Zbf.cx [.code (c2 (c2 (c2 (c2 (c2 (c1 (c1 (c2 (c2 (c2 Zbf.B)))))))))), .inBlock 0, .code (c2 (c2 (c2 (c2 Zbf.B))))] [(1, .pointer (some (pt b1 0))), (77, .bool j56)] [(b1, Zaj.enc a0)] (Zbf.K1 a0 j56) (rt Zbf.out) := by
 unfold Zbf.K1
 refine J.f ?_ ?_
 ·exact SJ.sr 1 <| J.z 1 <| J.r
 refine SJ.skip <| SJ.inBlock <| SJ.seq <| SJ.sr 8 <| J.k 1 0 rfl Ty26 (ZdD _) <| J.k 1 0 rfl Ty3 (ZcD _) <| J.k 1 0 rfl Ty3 (Zcd _) <| J.C 0 F49 (Zga _ _ _) fun r57 => J.z 1 <| SJ.sr 2 <| J.z 2 <| J.f ?_ ?_
 ·exact SJ.sr 2 <| J.z 2 <| J.r
 exact SJ.skip <| SJ.sr 8 <| J.k 1 0 rfl Ty26 (ZdO _) <| J.k 1 0 rfl Ty3 (ZcD _) <| J.k 1 0 rfl Ty3 (Zcd _) <| J.C 0 F49 (Zga _ _ _) fun r58 => J.z 1 <| J.r
noncomputable def Zbf.K2 (a0 : Zaz) (j44 : Bool) : M Int :=
 if j44 = true then
  pure 165
 else
  (if (bor .i64 a0.Set a0.Clear) ≠ 0 then
    pure (a0.Proto != 6)
   else
    pure false) >>= fun y53 =>
  if y53 = true then
   Zbf.K1 a0 y53
  else
   (if a0.Type_ ≠ 0 then
     Zd8 a0.Proto >>= fun r61 =>
     pure (!r61)
    else
     pure false) >>= fun y62 =>
   Zbf.K1 a0 y62
theorem Zbf.K2_ok (a0 : Zaz) (b1 : Nat) (j44 : Bool) :
  SJ Zbf.cx [.code (c2 (c2 (c2 (c1 (c1 (c2 (c2 (c2 Zbf.B)))))))), .inBlock 0, .code (c2 (c2 (c2 (c2 Zbf.B))))] [(1, .pointer (some (pt b1 0))), (60, .bool j44)] [(b1, Zaj.enc a0)] (Zbf.K2 a0 j44) (rt Zbf.out) := by
 unfold Zbf.K2
 refine J.f ?_ ?_
 ·exact SJ.sr 1 <| J.z 1 <| J.r
 refine SJ.seq <| SJ.sr 12 <| J.k 1 0 rfl Ty3 (ZcB _) <| J.k 1 0 rfl Ty3 (Zcj _) <| J.j 3 3 .bool ?_ ?_ fun y53 => ?_
 ·exact J.k 1 0 rfl Ty3 (Zcd _) <| J.e 2
 ·exact J.e 4
 refine J.z 1 <| J.f ?_ ?_
 ·exact SJ.skip <| J.q <| Zbf.K1_ok a0 b1 y53
 refine SJ.rg 10 <| J.k 1 0 rfl Ty3 (ZdZ _) <| J.j 2 4 .bool ?_ ?_ fun y62 => ?_
 ·exact J.k 1 0 rfl Ty3 (Zcd _) <| J.C 0 F13 (Zh7 _) fun r61 => J.e 2
 ·exact J.e 5
 exact J.z 1 <| J.q <| Zbf.K1_ok a0 b1 y62
noncomputable def Zbf (a0 : Zaz) : M Int :=
 slot 28 >>= fun b1 =>
 Zca a0.Act 1 3 >>= fun r2 =>
 (if r2 = true then
   Zca a0.Class 0 7 >>= fun r3 =>
   pure r3
  else
   pure false) >>= fun y4 =>
 (if y4 = true then
   Zca a0.Kind 0 3 >>= fun r5 =>
   pure r5
  else
   pure false) >>= fun y6 =>
 (if y6 = true then
   Zca a0.Proto 0 255 >>= fun r7 =>
   pure r7
  else
   pure false) >>= fun y8 =>
 (if y8 = true then
   Zca a0.In 0 8 >>= fun r9 =>
   pure r9
  else
   pure false) >>= fun y10 =>
 (if y10 = true then
   Zca a0.Vid 0 4094 >>= fun r11 =>
   pure r11
  else
   pure false) >>= fun y12 =>
 (if y12 = true then
   Zca a0.Set 0 255 >>= fun r13 =>
   pure r13
  else
   pure false) >>= fun y14 =>
 (if y14 = true then
   Zca a0.Clear 0 255 >>= fun r15 =>
   pure r15
  else
   pure false) >>= fun y16 =>
 (if y16 = true then
   Zca a0.Type_ 0 256 >>= fun r17 =>
   pure r17
  else
   pure false) >>= fun y18 =>
 (if y18 = true then
   pure ((band .i64 a0.Set a0.Clear) == 0)
  else
   pure false) >>= fun y19 =>
 if ¬ (y19 = true) then
  pure 166
 else
  (if a0.Class ≠ 0 then
    pure (a0.Act != 1)
   else
    pure false) >>= fun y42 =>
  if y42 = true then
   Zbf.K2 a0 y42
  else
   (if a0.Proto ≠ 0 then
     pure (a0.Kind == 1)
    else
     pure false) >>= fun y65 =>
   Zbf.K2 a0 y65
theorem Zh8 (a0 : Zaz) : Ref Tryz.prog 26 [Zaj.val a0] (Zbf a0) Zbf.out := by
 refine J.Fn Tryz.func26 ?_
 unfold Zbf
 refine SJ.sr 2 <| J.b 0 Zaj a0 fun b1 => J.z 1 <| SJ.sr 24 <| J.k 1 0 rfl Ty3 (ZcQ _) <| J.C 0 F48 (ZcA _ _ _) fun r2 => J.j 1 3 .bool ?_ ?_ fun y4 => ?_
 ·exact J.k 1 0 rfl Ty3 (Zd0 _) <| J.C 0 F48 (ZcA _ _ _) fun r3 => J.e 1
 ·exact J.e 4
 refine J.j 1 3 .bool ?_ ?_ fun y6 => ?_
 ·exact J.k 1 0 rfl Ty3 (ZcD _) <| J.C 0 F48 (ZcA _ _ _) fun r5 => J.e 1
 ·exact J.e 4
 refine J.j 1 3 .bool ?_ ?_ fun y8 => ?_
 ·exact J.k 1 0 rfl Ty3 (Zcd _) <| J.C 0 F48 (ZcA _ _ _) fun r7 => J.e 1
 ·exact J.e 4
 refine J.j 1 3 .bool ?_ ?_ fun y10 => ?_
 ·exact J.k 1 0 rfl Ty3 (Zfu _) <| J.C 0 F48 (ZcA _ _ _) fun r9 => J.e 1
 ·exact J.e 4
 refine J.z 1 <| SJ.sr 30 <| J.j 2 3 .bool ?_ ?_ fun y12 => ?_
 ·exact J.k 1 0 rfl Ty3 (Ze9 _) <| J.C 0 F48 (ZcA _ _ _) fun r11 => J.e 1
 ·exact J.e 4
 refine J.j 1 3 .bool ?_ ?_ fun y14 => ?_
 ·exact J.k 1 0 rfl Ty3 (ZcB _) <| J.C 0 F48 (ZcA _ _ _) fun r13 => J.e 1
 ·exact J.e 4
 refine J.j 1 3 .bool ?_ ?_ fun y16 => ?_
 ·exact J.k 1 0 rfl Ty3 (Zcj _) <| J.C 0 F48 (ZcA _ _ _) fun r15 => J.e 1
 ·exact J.e 4
 refine J.j 1 3 .bool ?_ ?_ fun y18 => ?_
 ·exact J.k 1 0 rfl Ty3 (ZdZ _) <| J.C 0 F48 (ZcA _ _ _) fun r17 => J.e 1
 ·exact J.e 4
 refine J.j 1 6 .bool ?_ ?_ fun y19 => ?_
 ·exact J.k 1 0 rfl Ty3 (ZcB _) <| J.k 1 0 rfl Ty3 (Zcj _) <| J.e 3
 ·exact J.e 7
 refine J.z 1 <| SJ.seq <| SJ.block (id := 0) <| SJ.sr 3 <| J.z 3 <| J.f ?_ ?_
 ·exact SJ.sr 1 <| J.z 1 <| J.r
 refine SJ.seq <| SJ.sr 9 <| J.k 1 0 rfl Ty3 (Zd0 _) <| J.j 2 3 .bool ?_ ?_ fun y42 => ?_
 ·exact J.k 1 0 rfl Ty3 (ZcQ _) <| J.e 2
 ·exact J.e 4
 refine J.z 1 <| J.f ?_ ?_
 ·exact SJ.skip <| J.q <| Zbf.K2_ok a0 b1 y42
 refine SJ.rg 9 <| J.k 1 0 rfl Ty3 (Zcd _) <| J.j 2 3 .bool ?_ ?_ fun y65 => ?_
 ·exact J.k 1 0 rfl Ty3 (ZcD _) <| J.e 2
 ·exact J.e 4
 exact J.z 1 <| J.q <| Zbf.K2_ok a0 b1 y65

/-! ### internal/strconv.small: function 117 -/
noncomputable def Zd7.out (r_ : ByteArray) : Value := .string r_
noncomputable def Zd7 (a0 : Int) : M ByteArray :=
 if a0 < 10 then
  chk (0 ≤ (a0 : Int) ∧ (a0 : Int) ≤ (IntKind.wrap .i64 (a0 + 1)) ∧ (IntKind.wrap .i64 (a0 + 1)) ≤ (Zry.size : Int)) >>= fun _ =>
  pure (ByteArray.extract Zry (Int.toNat a0) (Int.toNat (IntKind.wrap .i64 (a0 + 1))))
 else
  chk (0 ≤ ((IntKind.wrap .i64 (a0 * 2)) : Int) ∧ ((IntKind.wrap .i64 (a0 * 2)) : Int) ≤ (IntKind.wrap .i64 ((IntKind.wrap .i64 (a0 * 2)) + 2)) ∧ (IntKind.wrap .i64 ((IntKind.wrap .i64 (a0 * 2)) + 2)) ≤ (Zrx.size : Int)) >>= fun _ =>
  pure (ByteArray.extract Zrx (Int.toNat (IntKind.wrap .i64 (a0 * 2))) (Int.toNat (IntKind.wrap .i64 ((IntKind.wrap .i64 (a0 * 2)) + 2))))
theorem ZjY (a0 : Int) : Ref Tryz.prog 117 [.int .i64 a0] (Zd7 a0) Zd7.out := by
 refine J.Fn Tryz.func117 ?_
 unfold Zd7
 refine SJ.sr 1 <| J.z 1 <| SJ.seq <| SJ.sr 2 <| J.z 2 <| J.f ?_ ?_
 ·exact SJ.sr 5 <| J.ct 3 <| J.z 1 <| J.r
 exact SJ.skip <| SJ.sr 7 <| J.ct 5 <| J.z 1 <| J.r

/-! ### internal/strconv.FormatInt: function 93 -/
noncomputable def Zdo.out (r_ : ByteArray) : Value := .string r_
noncomputable def Zdo (a0 : Int) (a1 : Int) : M ByteArray :=
 if a1 = 10 then
  (if 0 ≤ a0 then
    pure (decide (a0 < 100))
   else
    pure false) >>= fun y5 =>
  if y5 = true then
   Zd7 a0 >>= fun r7 =>
   pure r7
  else
   fail
 else
  fail
theorem ZhZ (a0 : Int) (a1 : Int) : Ref Tryz.prog 93 [.int .i64 a0, .int .i64 a1] (Zdo a0 a1) Zdo.out := by
 refine J.Fn Tryz.func93 ?_
 unfold Zdo
 refine SJ.sr 1 <| J.z 1 <| SJ.seq <| SJ.sr 2 <| J.z 2 <| J.f ?_ ?_
 ·refine SJ.seq <| SJ.sr 6 <| J.j 3 2 .bool ?_ ?_ fun y5 => ?_
  ·exact J.e 3
  ·exact J.e 3
  refine J.z 0 <| J.f ?_ ?_
  ·exact SJ.sr 3 <| J.C 1 F117 (ZjY _) fun r7 => J.z 1 <| J.r
  exact SJ.fail
 exact SJ.fail

/-! ### internal/strconv.Itoa: function 76 -/
noncomputable def ZeM.out (r_ : ByteArray) : Value := .string r_
noncomputable def ZeM (a0 : Int) : M ByteArray :=
 Zdo a0 10 >>= fun r1 =>
 pure r1
theorem Zku (a0 : Int) : Ref Tryz.prog 76 [.int .i64 a0] (ZeM a0) ZeM.out := by
 refine J.Fn Tryz.func76 ?_
 unfold ZeM
 exact SJ.sr 1 <| J.z 1 <| SJ.sr 3 <| J.C 1 F93 (ZhZ _ _) fun r1 => J.z 1 <| J.r

/-! ### strconv.Itoa: function 63 -/
noncomputable def Zdk.out (r_ : ByteArray) : Value := .string r_
noncomputable def Zdk (a0 : Int) : M ByteArray :=
 ZeM a0 >>= fun r1 =>
 pure r1
theorem ZfC (a0 : Int) : Ref Tryz.prog 63 [.int .i64 a0] (Zdk a0) Zdk.out := by
 refine J.Fn Tryz.func63 ?_
 unfold Zdk
 exact SJ.sr 1 <| J.z 1 <| SJ.sr 3 <| J.C 1 F76 (Zku _) fun r1 => J.z 1 <| J.r

/-! ### weir/rules.protoName: function 77 -/
noncomputable def ZdV.out (r_ : ByteArray) : Value := .string r_
noncomputable def ZdV (a0 : Int) : M ByteArray :=
 if a0 = 6 then
  pure str1
 else
  if a0 = 17 then
   pure str2
  else
   if a0 = 1 then
    pure str3
   else
    if a0 = 58 then
     pure str4
    else
     pure ByteArray.empty
theorem ZiL (a0 : Int) : Ref Tryz.prog 77 [.int .i64 a0] (ZdV a0) ZdV.out := by
 refine J.Fn Tryz.func77 ?_
 unfold ZdV
 refine SJ.sr 1 <| J.z 1 <| SJ.seq <| SJ.sr 1 <| J.z 1 <| SJ.block (id := 0) <| SJ.sr 2 <| J.z 2 <| J.f ?_ ?_
 ·exact SJ.sr 1 <| J.z 1 <| J.r
 refine SJ.sr 2 <| J.z 2 <| J.f ?_ ?_
 ·exact SJ.sr 1 <| J.z 1 <| J.r
 refine SJ.sr 2 <| J.z 2 <| J.f ?_ ?_
 ·exact SJ.sr 1 <| J.z 1 <| J.r
 refine SJ.sr 2 <| J.z 2 <| J.f ?_ ?_
 ·exact SJ.sr 1 <| J.z 1 <| J.r
 exact SJ.skip <| SJ.inBlock <| SJ.sr 1 <| J.z 1 <| J.r

/-! ### weir/rules.what: function 64 -/
noncomputable def Zfj.out (r_ : ByteArray) : Value := .string r_
noncomputable def Zfj (a0 : Zaz) : M ByteArray :=
 slot 28 >>= fun b1 =>
 if a0.Kind > 0 then
  fail
 else
  ZdV a0.Proto >>= fun r2 =>
  if ¬ (r2.toList = ByteArray.empty.toList) then
   chk (((ZgS.size + r2.size : Nat) : Int) ≤ 9223372036854775807) >>= fun _ =>
   chk (((ByteArray.empty.size + (ZgS ++ r2).size : Nat) : Int) ≤ 9223372036854775807) >>= fun _ =>
   pure (ByteArray.empty ++ (ZgS ++ r2))
  else
   fail
theorem Zma (a0 : Zaz) : Ref Tryz.prog 64 [Zaj.val a0] (Zfj a0) Zfj.out := by
 refine J.Fn Tryz.func64 ?_
 unfold Zfj
 refine SJ.sr 2 <| J.b 0 Zaj a0 fun b1 => J.z 1 <| SJ.sr 1 <| J.z 1 <| SJ.seq <| SJ.sr 3 <| J.k 1 0 rfl Ty3 (ZcD _) <| J.z 1 <| J.f ?_ ?_
 ·exact SJ.fail
 refine SJ.skip <| SJ.sr 4 <| J.k 1 0 rfl Ty3 (Zcd _) <| J.C 0 F77 (ZiL _) fun r2 => J.z 1 <| SJ.seq <| SJ.block (id := 0) <| SJ.sr 3 <| J.z 3 <| J.f ?_ ?_
 ·exact SJ.rg 5 <| J.T 2 <| J.T 0 <| J.z 1 <| SJ.inBlock <| SJ.sr 2 <| J.z 2 <| J.r
 exact SJ.fail

/-! ### weir/addr.Valid: function 94 -/
noncomputable def Zfm.out (r_ : Bool) : Value := .bool r_
noncomputable def Zfm (a0 : Zbs) : M Bool :=
 slot 67 >>= fun b1 =>
 Ze3 a0 >>= fun r2 =>
 pure (decide (r2 > 0))
theorem Zmw (a0 : Zbs) : Ref Tryz.prog 94 [ZbW.val a0] (Zfm a0) Zfm.out := by
 refine J.Fn Tryz.func94 ?_
 unfold Zfm
 exact SJ.sr 2 <| J.b 0 ZbW a0 fun b1 => J.z 1 <| SJ.sr 4 <| J.k 0 0 rfl Ty67 (At.whole _) <| J.C 0 F88 (ZhF _) fun r2 => J.z 2 <| J.r

/-! ### (*strings.Builder).copyCheck: function 98 -/
noncomputable def ZbZ.out (r_ : Unit) : Value := .tuple #[]
noncomputable def ZbZ (a0 : (Option Addr)) : M Unit :=
 nilck a0 >>= fun p1 =>
 ld cP p1 >>= fun x2 =>
 if x2 = none then
  upOf a0 >>= fun r11 =>
  noesc r11 >>= fun r12 =>
  ptOf 126 2 r12 >>= fun r13 =>
  nilck a0 >>= fun p14 =>
  st cP p14 r13 >>= fun _ =>
  pure ()
 else
  nilck a0 >>= fun p15 =>
  ld cP p15 >>= fun x16 =>
  ptrEq x16 a0 >>= fun y17 =>
  if ¬ (y17 = true) then
   fail
  else
   pure ()
theorem Zej (a0 : (Option Addr)) : Ref Tryz.prog 98 [.pointer a0] (ZbZ a0) ZbZ.out := by
 refine J.Fn Tryz.func98 ?_
 unfold ZbZ
 refine SJ.sr 5 <| J.n 1 fun p1 => J.l 1 Ztt fun x2 => J.z 1 <| J.f ?_ ?_
 ·exact SJ.rg 8 <| J.g 2 <| OJ.upOf (d := 9) (t := 123) (u := 184) (E := 126) (x := .tmp 8) (p := a0) (owed := []) fun r11 => OW.nil <| OJ.ext (d := 10) (g := 122) (ats := #[184]) (args := [.tmp 9]) (out := fun r => .pointer r) (owed := []) Tryz.func122 Zqj fun r12 => OW.nil <| OJ.ptOf (d := 11) (t := 123) (u := 184) (E := 126) (T := 126) (n := 2) (x := .tmp 10) (p := r12) (owed := []) (by kernel_rfl) fun r13 => OW.nil <| J.n 0 fun p14 => J.w 1 Ztt <| J.z 0 <| SJ.end_ rfl (Res.run (ys := []) .nil rfl)
 refine SJ.sr 6 <| J.n 1 fun p15 => J.l 1 Ztt fun x16 => J.g 1 <| OJ.pneq (d := 19) (T := 123) (E := 126) (yT := 123) (y := .tmp 17) (z := .tmp 18) (p := x16) (q := a0) fun y17 => J.z 0 <| J.f ?_ ?_
 ·exact SJ.fail
 exact SJ.skip <| SJ.end_ rfl (Res.run (ys := []) .nil rfl)

/-! ### (*strings.Builder).grow: function 99 -/
noncomputable def ZcS.out (r_ : Unit) : Value := .tuple #[]
noncomputable def ZcS (a0 : (Option Addr)) (a1 : Int) : M Unit :=
 draw >>= fun _ =>
 nilck a0 >>= fun p1 =>
 ld cL (Addr.add p1 1) >>= fun x2 =>
 nilck a0 >>= fun p3 =>
 ld cL (Addr.add p3 1) >>= fun x4 =>
 mkNZ 5 (IntKind.wrap .i64 ((IntKind.wrap .i64 (2 * (x2.cap : Int))) + a1)) >>= fun r5 =>
 same cL (Addr.add p3 1) x4 >>= fun _ =>
 cut 1 r5 none (some (x4.len : Int)) none >>= fun r6 =>
 nilck a0 >>= fun p7 =>
 ld cL (Addr.add p7 1) >>= fun x8 =>
 cpyS (cI .u8) r6 x8 >>= fun r9 =>
 nilck a0 >>= fun p10 =>
 st cL (Addr.add p10 1) r6 >>= fun _ =>
 pure ()
theorem ZgQ (a0 : (Option Addr)) (a1 : Int) : Ref Tryz.prog 99 [.pointer a0, .int .i64 a1] (ZcS a0 a1) ZcS.out := by
 refine J.Fn Tryz.func99 ?_
 unfold ZcS
 exact SJ.seq <| J.D [0, 1, 2, 3, 4, 5, 6, 7, 9, 10, 11, 12, 8, 13, 14, 15] Zdz <| J.n 1 fun p1 => J.l 1 Zj6 fun x2 => OJ.capS (d := 9) (so := .tmp 8) (t := 124) (E := 5) (s := x2) <| J.n 4 fun p3 => J.l 1 Zj6 fun x4 => OJ.ext (d := 13) (g := 123) (ats := #[3]) (args := [.tmp 12]) (out := Sl.v) (owed := [⟨12, 124, (Addr.add p3 1), cL.val x4⟩]) Tryz.func123 (ZrR (t := 124) (E := 5) (ps := #[3]) (by kernel_rfl)) fun r5 => OW.same Zj6 <| OW.nil <| J.cs 1 fun r6 => J.z 1 <| SJ.sr 6 <| J.n 2 fun p7 => J.l 1 Zj6 fun x8 => OJ.cpy1 (n := 25) (t := 124) (u := 124) (so := .tmp 20) (xo := .tmp 24) (owed := []) Ty5 fun r9 => OW.nil <| J.z 0 <| SJ.rg 5 <| J.n 2 fun p10 => J.w 1 Zj6 <| J.z 0 <| SJ.end_ rfl (Res.run (ys := []) .nil rfl)

/-! ### (*strings.Builder).Grow: function 80 -/
noncomputable def Zcy.out (r_ : Unit) : Value := .tuple #[]
noncomputable def Zcy (a0 : (Option Addr)) (a1 : Int) : M Unit :=
 ZbZ a0 >>= fun r1 =>
 if a1 < 0 then
  fail
 else
  draw >>= fun _ =>
  nilck a0 >>= fun p2 =>
  ld cL (Addr.add p2 1) >>= fun x3 =>
  nilck a0 >>= fun p4 =>
  ld cL (Addr.add p4 1) >>= fun x5 =>
  if (IntKind.wrap .i64 ((x3.cap : Int) - (x5.len : Int))) < a1 then
   ZcS a0 a1 >>= fun r7 =>
   pure ()
  else
   pure ()
theorem ZgR (a0 : (Option Addr)) (a1 : Int) : Ref Tryz.prog 80 [.pointer a0, .int .i64 a1] (Zcy a0 a1) Zcy.out := by
 refine J.Fn Tryz.func80 ?_
 unfold Zcy
 refine SJ.sr 2 <| J.C 1 F98 (Zej _) fun r1 => J.z 0 <| SJ.seq <| SJ.sr 2 <| J.z 2 <| J.f ?_ ?_
 ·exact SJ.rg 2 <| J.g 1 <| OJ.fail
 refine SJ.skip <| SJ.seq <| J.R 13 Zdz <| J.n 1 fun p2 => J.l 1 Zj6 fun x3 => OJ.capS (d := 13) (so := .tmp 12) (t := 124) (E := 5) (s := x3) <| J.n 1 fun p4 => J.l 1 Zj6 fun x5 => J.z 4 <| J.f ?_ ?_
 ·exact SJ.rg 3 <| J.C 2 F99 (ZgQ _ _) fun r7 => J.z 0 <| SJ.end_ rfl (Res.run (ys := []) .nil rfl)
 exact SJ.skip <| SJ.end_ rfl (Res.run (ys := []) .nil rfl)

/-! ### (*strings.Builder).WriteString: function 81 -/
noncomputable def ZbD.out (r_ : (Int × Any)) : Value := .tuple #[.int .i64 r_.1, r_.2.v]
noncomputable def ZbD (a0 : (Option Addr)) (a1 : ByteArray) : M (Int × Any) :=
 ZbZ a0 >>= fun r1 =>
 nilck a0 >>= fun p2 =>
 ld cL (Addr.add p2 1) >>= fun x3 =>
 appl (cI .u8) 5 1 0 x3 (strI a1) >>= fun r4 =>
 nilck a0 >>= fun p5 =>
 st cL (Addr.add p5 1) r4 >>= fun _ =>
 pure ((a1.size : Int), (⟨.nilIface, rfl⟩ : Any))
theorem Zc7 (a0 : (Option Addr)) (a1 : ByteArray) : Ref Tryz.prog 81 [.pointer a0, .string a1] (ZbD a0 a1) ZbD.out := by
 refine J.Fn Tryz.func81 ?_
 unfold ZbD
 exact SJ.sr 2 <| J.z 2 <| SJ.sr 2 <| J.C 1 F98 (Zej _) fun r1 => J.z 0 <| SJ.sr 10 <| J.n 2 fun p2 => J.l 1 Zj6 fun x3 => J.g 1 <| OJ.appT (d := 14) (t := 124) (u := 9) (so := .tmp 12) (xo := .tmp 13) (y := a1) (owed := []) Ty5 fun r4 => OW.nil <| J.n 0 fun p5 => J.w 1 Zj6 <| J.z 0 <| SJ.sr 4 <| J.z 4 <| J.r

/-! ### (*strings.Builder).String: function 82 -/
noncomputable def Zck.out (r_ : ByteArray) : Value := .string r_
noncomputable def Zck (a0 : (Option Addr)) : M ByteArray :=
 draw >>= fun _ =>
 nilck a0 >>= fun p1 =>
 ld cL (Addr.add p1 1) >>= fun x2 =>
 nilck a0 >>= fun p3 =>
 ld cL (Addr.add p3 1) >>= fun x4 =>
 sdata x2 >>= fun r5 =>
 same cL (Addr.add p3 1) x4 >>= fun _ =>
 ustr 5 r5 (x4.len : Int) >>= fun r6 =>
 pure r6
theorem Zgl (a0 : (Option Addr)) : Ref Tryz.prog 82 [.pointer a0] (Zck a0) Zck.out := by
 refine J.Fn Tryz.func82 ?_
 unfold Zck
 exact SJ.sr 1 <| J.z 1 <| SJ.seq <| J.D [0, 1, 2, 3, 5, 6, 7, 8, 4, 9, 10, 11] Zdz <| J.n 1 fun p1 => J.l 1 Zj6 fun x2 => J.n 1 fun p3 => J.l 1 Zj6 fun x4 => OJ.sdata (d := 7) (t := 124) (x := .tmp 6) (s := x2) (owed := [⟨8, 124, (Addr.add p3 1), cL.val x4⟩]) fun r5 => OW.same Zj6 <| OW.nil <| J.g 1 <| OJ.ustr (d := 13) (t := 158) (t2 := 3) (E := 5) (x := .tmp 7) (y := .tmp 12) (p := r5) (n := (x4.len : Int)) (owed := []) fun r6 => OW.nil <| J.z 1 <| J.r

/-! ### strings.Join: function 66 -/
noncomputable def ZaA.B : Code := bod Tryz.f66
noncomputable def ZaA.cx : Fx := ⟨Tryz.prog, 66, Tryz.f66, none⟩
noncomputable def ZaA.out (r_ : ByteArray) : Value := .string r_
noncomputable def ZaA.F1 (a1 : ByteArray) (b19 : Nat) (r24 : Sl) : LF Int ByteArray := ⟨[.inBlock 3, .code (c2 (c2 (c2 (c2 (c2 (c2 (c2 (c2 (c2 ZaA.B)))))))))], c1 (c2 (c1 (c2 (c2 (c2 (c2 (c2 (c2 (c2 (c2 ZaA.B)))))))))), fun s_ => [(1, .string a1), (8, .pointer (some (pt b19 0))), (63, Sl.v r24), (64, .int .i64 (r24.len : Int)), (65, .int .i64 s_)], fun s_ => [], (rt ZaA.out)⟩
noncomputable def ZaA.L1 (a1 : ByteArray) (b19 : Nat) (r24 : Sl) (s25 : Int) : M (LS Int ByteArray) :=
 if s25 < (r24.len : Int) then
  idx r24.a r24.len s25 1 >>= fun p32 =>
  ld cS p32 >>= fun x33 =>
  ZbD (some (pt b19 0)) a1 >>= fun r34 =>
  ZbD (some (pt b19 0)) x33 >>= fun r35 =>
  pure (LS.next (IntKind.wrap .i64 (s25 + 1)))
 else
  Zck (some (pt b19 0)) >>= fun r36 =>
  pure (LS.done r36)
theorem ZaA.L1_ok (a1 : ByteArray) (b19 : Nat) (r24 : Sl) : LJ ZaA.cx (ZaA.F1 a1 b19 r24) (fun s_ => ZaA.L1 a1 b19 r24 s_) := by
 rintro s25
 show SJ _ _ _ _ (ZaA.L1 a1 b19 r24 s25) _
 unfold ZaA.L1
 refine SJ.sr 1 <| J.z 1 <| SJ.seq <| J.f ?_ ?_
 ·exact SJ.skip <| SJ.seq <| SJ.block (id := 4) <| SJ.sr 3 <| J.i 0 fun p32 => J.l 0 Ty9 fun x33 => J.z 1 <| SJ.sr 2 <| J.C 1 F81 (Zc7 _ _) fun r34 => J.z 0 <| SJ.rg 2 <| J.C 1 F81 (Zc7 _ _) fun r35 => J.z 0 <| SJ.inBlock <| SJ.rg 2 <| J.z 2 <| J.o rfl
 exact SJ.exit (id := 3) (by rfl) <| SJ.sr 2 <| J.C 0 F82 (Zgl _) fun r36 => J.z 1 <| J.r
noncomputable def ZaA.K1 (a0 : Sl) (a1 : ByteArray) (s13 : Int) : M ByteArray :=
 newv 126 Zcp Zet >>= fun b19 =>
 Zcy (some (pt b19 0)) s13 >>= fun r20 =>
 idx a0.a a0.len 0 1 >>= fun p21 =>
 ld cS p21 >>= fun x22 =>
 ZbD (some (pt b19 0)) x22 >>= fun r23 =>
 cut 1 a0 (some 1) none none >>= fun r24 =>
 Zci (fun s_ : Int => ZaA.L1 a1 b19 r24 s_) 0
theorem ZaA.K1_ok (a0 : Sl) (a1 : ByteArray) (s13 : Int) :
  SJ ZaA.cx [.code (c2 (c2 (c2 (c2 (c2 ZaA.B)))))] [(0, Sl.v a0), (1, .string a1), (5, .int .i64 s13)] [] (ZaA.K1 a0 a1 s13) (rt ZaA.out) := by
 unfold ZaA.K1
 exact SJ.sr 1 <| J.A 0 ZuS fun b19 => J.z 0 <| SJ.sr 2 <| J.C 1 F80 (ZgR _ _) fun r20 => J.z 0 <| SJ.sr 4 <| J.i 1 fun p21 => J.l 0 Ty9 fun x22 => J.C 0 F81 (Zc7 _ _) fun r23 => J.z 0 <| SJ.seq <| SJ.sr 4 <| J.cs 1 fun r24 => J.z 2 <| SJ.block (id := 3) <| J.L (ZaA.L1_ok a1 b19 r24)
noncomputable def ZaA.F2 (a0 : Sl) (a1 : ByteArray) : LF (Int × Int) ByteArray := ⟨[.inBlock 1, .code (c2 (c2 (c2 (c2 (c2 ZaA.B)))))], c1 (c2 (c1 (c2 (c2 (c2 (c2 ZaA.B)))))), fun s_ => [(0, Sl.v a0), (1, .string a1), (5, .int .i64 s_.1), (39, Sl.v a0), (40, .int .i64 (a0.len : Int)), (41, .int .i64 s_.2)], fun s_ => [], (rt ZaA.out)⟩
noncomputable def ZaA.L2 (a0 : Sl) (a1 : ByteArray) (s13 : Int) (s14 : Int) : M (LS (Int × Int) ByteArray) :=
 if s14 < (a0.len : Int) then
  idx a0.a a0.len s14 1 >>= fun p38 =>
  ld cS p38 >>= fun x39 =>
  if (x39.size : Int) > (IntKind.wrap .i64 (9223372036854775807 - s13)) then
   fail
  else
   pure (LS.next (IntKind.wrap .i64 (s13 + (x39.size : Int)), IntKind.wrap .i64 (s14 + 1)))
 else
  (ZaA.K1 a0 a1 s13) >>= fun b => pure (LS.done b)
theorem ZaA.L2_ok (a0 : Sl) (a1 : ByteArray) : LJ ZaA.cx (ZaA.F2 a0 a1) (fun s_ => ZaA.L2 a0 a1 s_.1 s_.2) := by
 rintro ⟨s13, s14⟩
 show SJ _ _ _ _ (ZaA.L2 a0 a1 s13 s14) _
 unfold ZaA.L2
 refine SJ.sr 1 <| J.z 1 <| SJ.seq <| J.f ?_ ?_
 ·refine SJ.skip <| SJ.seq <| SJ.block (id := 2) <| SJ.sr 3 <| J.i 0 fun p38 => J.l 0 Ty9 fun x39 => J.z 1 <| SJ.seq <| SJ.sr 5 <| J.z 5 <| J.f ?_ ?_
  ·exact SJ.rg 2 <| J.g 1 <| OJ.fail
  exact SJ.skip <| SJ.rg 5 <| J.z 5 <| SJ.inBlock <| SJ.rg 2 <| J.z 2 <| J.o rfl
 exact SJ.exit (id := 1) (by rfl) <| J.q <| SJ.done <| ZaA.K1_ok a0 a1 s13
noncomputable def ZaA.K2 (a0 : Sl) (a1 : ByteArray) (j12 : Int) : M ByteArray :=
 Zci (fun s_ : (Int × Int) => ZaA.L2 a0 a1 s_.1 s_.2) (j12, 0)
theorem ZaA.K2_ok (a0 : Sl) (a1 : ByteArray) (j12 : Int) :
  SJ ZaA.cx [.code (c2 (c2 (c2 (c2 ZaA.B))))] [(0, Sl.v a0), (1, .string a1), (5, .int .i64 j12)] [] (ZaA.K2 a0 a1 j12) (rt ZaA.out) := by
 unfold ZaA.K2
 exact SJ.seq <| SJ.sr 3 <| J.z 3 <| SJ.block (id := 1) <| J.L (ZaA.L2_ok a0 a1)
noncomputable def ZaA (a0 : Sl) (a1 : ByteArray) : M ByteArray :=
 if (a0.len : Int) = 0 then
  pure ByteArray.empty
 else
  if (a0.len : Int) = 1 then
   idx a0.a a0.len 0 1 >>= fun p8 =>
   ld cS p8 >>= fun x9 =>
   pure x9
  else
   if (a1.size : Int) > 0 then
    chk ((IntKind.wrap .i64 ((a0.len : Int) - 1)) ≠ 0) >>= fun _ =>
    if (a1.size : Int) ≥ (IntKind.wrap .i64 (Int.tdiv 9223372036854775807 (IntKind.wrap .i64 ((a0.len : Int) - 1)))) then
     fail
    else
     ZaA.K2 a0 a1 (IntKind.wrap .i64 (0 + (IntKind.wrap .i64 ((a1.size : Int) * (IntKind.wrap .i64 ((a0.len : Int) - 1))))))
   else
    ZaA.K2 a0 a1 0
theorem ZfT (a0 : Sl) (a1 : ByteArray) : Ref Tryz.prog 66 [Sl.v a0, .string a1] (ZaA a0 a1) ZaA.out := by
 refine J.Fn Tryz.func66 ?_
 unfold ZaA
 refine SJ.sr 1 <| J.z 1 <| SJ.seq <| SJ.sr 2 <| J.z 2 <| SJ.block (id := 0) <| SJ.sr 2 <| J.z 2 <| J.f ?_ ?_
 ·exact SJ.sr 1 <| J.z 1 <| J.r
 refine SJ.sr 2 <| J.z 2 <| J.f ?_ ?_
 ·exact SJ.sr 4 <| J.i 1 fun p8 => J.l 0 Ty9 fun x9 => J.z 1 <| J.r
 refine SJ.skip <| SJ.inBlock <| SJ.sr 1 <| J.z 1 <| SJ.seq <| SJ.sr 3 <| J.z 3 <| J.f ?_ ?_
 ·refine SJ.seq <| SJ.sr 7 <| J.g 5 <| OJ.quo (d := 28) (T := 3) (yT := 3) (y := .const (.int .i64 9223372036854775807)) (z := .tmp 27) (p := 9223372036854775807) (q := (IntKind.wrap .i64 ((a0.len : Int) - 1))) (k := .i64) fun hq43 => J.z 1 <| J.f ?_ ?_
  ·exact SJ.rg 2 <| J.g 1 <| OJ.fail
  exact SJ.skip <| SJ.rg 9 <| J.z 9 <| J.q <| ZaA.K2_ok a0 a1 (IntKind.wrap .i64 (0 + (IntKind.wrap .i64 ((a1.size : Int) * (IntKind.wrap .i64 ((a0.len : Int) - 1))))))
 exact SJ.skip <| J.q <| ZaA.K2_ok a0 a1 0

/-! ### weir/addr.dotted: function 95 -/
noncomputable def ZbY.B : Code := bod Tryz.f95
noncomputable def ZbY.cx : Fx := ⟨Tryz.prog, 95, Tryz.f95, none⟩
noncomputable def ZbY.out (r_ : ByteArray) : Value := .string r_
noncomputable def ZbY.F1 (a0 : Sl) : LF (Sl × Int) ByteArray := ⟨[.inBlock 0, .code (c2 (c2 (c2 ZbY.B)))], c1 (c2 (c1 (c2 (c2 ZbY.B)))), fun s_ => [(3, Sl.v s_.1), (6, Sl.v a0), (7, .int .i64 (a0.len : Int)), (8, .int .i64 s_.2)], fun s_ => [], (rt ZbY.out)⟩
noncomputable def ZbY.L1 (a0 : Sl) (s1 : Sl) (s2 : Int) : M (LS (Sl × Int) ByteArray) :=
 if s2 < (a0.len : Int) then
  idx a0.a a0.len s2 1 >>= fun p10 =>
  ld (cI .u8) p10 >>= fun x11 =>
  Zdk (IntKind.wrap .i64 x11) >>= fun r12 =>
  slot 9 >>= fun b13 =>
  appl cS 9 16 ByteArray.empty s1 [r12] >>= fun r14 =>
  pure (LS.next (r14, IntKind.wrap .i64 (s2 + 1)))
 else
  ZaA s1 ZtG >>= fun r15 =>
  pure (LS.done r15)
theorem ZbY.L1_ok (a0 : Sl) : LJ ZbY.cx (ZbY.F1 a0) (fun s_ => ZbY.L1 a0 s_.1 s_.2) := by
 rintro ⟨s1, s2⟩
 show SJ _ _ _ _ (ZbY.L1 a0 s1 s2) _
 unfold ZbY.L1
 refine SJ.sr 1 <| J.z 1 <| SJ.seq <| J.f ?_ ?_
 ·exact SJ.skip <| SJ.seq <| SJ.block (id := 1) <| SJ.sr 3 <| J.i 0 fun p10 => J.l 0 Ty5 fun x11 => J.z 1 <| SJ.rg 7 <| J.C 3 F63 (ZfC _) fun r12 => J.S 0 [r12] Ty9 fun b13 => J.p 0 0 rfl Ty9 fun r14 => J.z 1 <| SJ.inBlock <| SJ.rg 2 <| J.z 2 <| SJ.forget (List.Sublist.cons _ List.Sublist.slnil) <| J.o rfl
 exact SJ.exit (id := 0) (by rfl) <| SJ.sr 3 <| J.C 1 F66 (ZfT _ _) fun r15 => J.z 1 <| J.r
noncomputable def ZbY (a0 : Sl) : M ByteArray :=
 Zci (fun s_ : (Sl × Int) => ZbY.L1 a0 s_.1 s_.2) (Sl.nil, 0)
theorem Zlk (a0 : Sl) : Ref Tryz.prog 95 [Sl.v a0] (ZbY a0) ZbY.out := by
 refine J.Fn Tryz.func95 ?_
 unfold ZbY
 exact SJ.sr 1 <| J.z 1 <| SJ.sr 1 <| J.z 1 <| SJ.seq <| SJ.sr 3 <| J.z 3 <| SJ.block (id := 0) <| J.L (ZbY.L1_ok a0)

/-! ### weir/addr.PrintIP: function 79 -/
noncomputable def Zen.out (r_ : (ByteArray × Int)) : Value := .tuple #[.string r_.1, .int .i64 r_.2]
noncomputable def Zen (a0 : Zbs) : M (ByteArray × Int) :=
 newv 67 ZbW a0 >>= fun b1 =>
 ld ZbW (pt b1 0) >>= fun x2 =>
 Zfm x2 >>= fun r3 =>
 if ¬ (r3 = true) then
  fail
 else
  ld (cI .i64) (pt b1 0) >>= fun x10 =>
  if x10 = 4 then
   cut 1 ⟨some (Addr.add (pt b1 0) 1), 16, 16⟩ none (some 4) none >>= fun r13 =>
   ZbY r13 >>= fun r14 =>
   pure (r14, 0)
  else
   fail
theorem Zk6 (a0 : Zbs) : Ref Tryz.prog 79 [ZbW.val a0] (Zen a0) Zen.out := by
 refine J.Fn Tryz.func79 ?_
 unfold Zen
 refine SJ.sr 3 <| J.B 0 fun b1 => J.z 2 <| SJ.seq <| SJ.block (id := 0) <| SJ.sr 4 <| J.l 0 Ty67 fun x2 => J.C 0 F94 (Zmw _) fun r3 => J.z 2 <| J.f ?_ ?_
 ·exact SJ.fail
 refine SJ.sr 4 <| J.l 1 Ty3 fun x10 => J.z 2 <| J.f ?_ ?_
 ·exact SJ.sr 5 <| J.ca 1 fun r13 => J.C 0 F95 (Zlk _) fun r14 => J.z 2 <| J.r
 exact SJ.fail

/-! ### weir/addr.PrintPrefix: function 78 -/
noncomputable def Zdg.out (r_ : (ByteArray × Int)) : Value := .tuple #[.string r_.1, .int .i64 r_.2]
noncomputable def Zdg (a0 : Zac) : M (ByteArray × Int) :=
 slot 69 >>= fun b1 =>
 ZcC a0 >>= fun r2 =>
 if r2 ≠ 0 then
  fail
 else
  Zen a0.IP >>= fun r3 =>
  chk (((r3.1.size + Zpe.size : Nat) : Int) ≤ 9223372036854775807) >>= fun _ =>
  Zdk a0.Len >>= fun r4 =>
  chk ((((r3.1 ++ Zpe).size + r4.size : Nat) : Int) ≤ 9223372036854775807) >>= fun _ =>
  pure (((r3.1 ++ Zpe) ++ r4), 0)
theorem Zis (a0 : Zac) : Ref Tryz.prog 78 [ZaI.val a0] (Zdg a0) Zdg.out := by
 refine J.Fn Tryz.func78 ?_
 unfold Zdg
 refine SJ.sr 3 <| J.b 0 ZaI a0 fun b1 => J.z 2 <| SJ.seq <| SJ.sr 3 <| J.k 0 0 rfl Ty69 (At.whole _) <| J.C 0 F84 (ZeH _) fun r2 => J.z 1 <| SJ.sr 2 <| J.z 2 <| J.f ?_ ?_
 ·exact SJ.fail
 exact SJ.skip <| SJ.sr 8 <| J.k 1 0 rfl Ty67 (Zb6 _) <| J.C 0 F79 (Zk6 _) fun r3 => J.z 5 <| SJ.sr 8 <| J.T 1 <| J.k 1 0 rfl Ty3 (Zb2 _) <| J.C 0 F63 (ZfC _) fun r4 => J.T 0 <| J.z 2 <| J.r

/-! ### weir/rules.side: function 65 -/
noncomputable def ZaF.B : Code := bod Tryz.f65
noncomputable def ZaF.cx : Fx := ⟨Tryz.prog, 65, Tryz.f65, none⟩
noncomputable def ZaF.out (r_ : ByteArray) : Value := .string r_
noncomputable def ZaF.K1 (s14 : Sl) (j27 : ByteArray) : M ByteArray :=
 if (s14.len : Int) > 0 then
  ZaA s14 str0 >>= fun r29 =>
  chk (((Zrw.size + r29.size : Nat) : Int) ≤ 9223372036854775807) >>= fun _ =>
  chk (((j27.size + (Zrw ++ r29).size : Nat) : Int) ≤ 9223372036854775807) >>= fun _ =>
  pure (j27 ++ (Zrw ++ r29))
 else
  pure j27
theorem ZaF.K1_ok (s14 : Sl) (j27 : ByteArray) :
  SJ ZaF.cx [.inBlock 4, .code (c2 (c2 (c2 (c2 (c2 (c2 (c2 ZaF.B)))))))] [(6, Sl.v s14), (14, .string j27)] [] (ZaF.K1 s14 j27) (rt ZaF.out) := by
 unfold ZaF.K1
 refine SJ.inBlock <| SJ.seq <| SJ.sr 3 <| J.z 3 <| J.f ?_ ?_
 ·exact SJ.rg 6 <| J.C 2 F66 (ZfT _ _) fun r29 => J.T 0 <| J.T 0 <| J.z 1 <| SJ.sr 2 <| J.z 2 <| J.r
 exact SJ.skip <| SJ.sr 2 <| J.z 2 <| J.r
noncomputable def ZaF.K2 (a0 : ByteArray) (a1 : Zap) (s2 : Sl) (s14 : Sl) : M ByteArray :=
 chk (((ZgS.size + a0.size : Nat) : Int) ≤ 9223372036854775807) >>= fun _ =>
 chk ((((ZgS ++ a0).size + ZgS.size : Nat) : Int) ≤ 9223372036854775807) >>= fun _ =>
 if (s2.len : Int) = 0 then
  chk (((((ZgS ++ a0) ++ ZgS).size + str7.size : Nat) : Int) ≤ 9223372036854775807) >>= fun _ =>
  ZaF.K1 s14 (((ZgS ++ a0) ++ ZgS) ++ str7)
 else
  if a1.Not = true then
   fail
  else
   ZaA s2 str0 >>= fun r32 =>
   chk (((((ZgS ++ a0) ++ ZgS).size + r32.size : Nat) : Int) ≤ 9223372036854775807) >>= fun _ =>
   ZaF.K1 s14 (((ZgS ++ a0) ++ ZgS) ++ r32)
theorem ZaF.K2_ok (a0 : ByteArray) (a1 : Zap) (b1 : Nat) (s2 : Sl) (s14 : Sl) :
  SJ ZaF.cx [.code (c2 (c2 (c2 (c2 (c2 ZaF.B)))))] [(0, .string a0), (3, .pointer (some (pt b1 0))), (5, Sl.v s2), (6, Sl.v s14)] [(b1, ZaR.enc a1)] (ZaF.K2 a0 a1 s2 s14) (rt ZaF.out) := by
 unfold ZaF.K2
 refine SJ.sr 4 <| J.T 1 <| J.T 0 <| J.z 1 <| SJ.seq <| SJ.block (id := 4) <| SJ.sr 4 <| J.z 4 <| J.f ?_ ?_
 ·exact SJ.rg 3 <| J.T 1 <| J.z 1 <| SJ.forget (List.Sublist.cons _ List.Sublist.slnil) <| J.q <| ZaF.K1_ok s14 (((ZgS ++ a0) ++ ZgS) ++ str7)
 refine SJ.sr 3 <| J.k 1 0 rfl Ty4 (Ze8 _) <| J.z 1 <| J.f ?_ ?_
 ·exact SJ.fail
 exact SJ.rg 5 <| J.C 2 F66 (ZfT _ _) fun r32 => J.T 0 <| J.z 1 <| SJ.forget (List.Sublist.cons _ List.Sublist.slnil) <| J.q <| ZaF.K1_ok s14 (((ZgS ++ a0) ++ ZgS) ++ r32)
noncomputable def ZaF.F1 (a0 : ByteArray) (a1 : Zap) (b1 : Nat) (s2 : Sl) : LF (Sl × Int) ByteArray := ⟨[.inBlock 2, .code (c2 (c2 (c2 (c2 (c2 ZaF.B)))))], c1 (c2 (c1 (c2 (c2 (c2 (c2 ZaF.B)))))), fun s_ => [(0, .string a0), (3, .pointer (some (pt b1 0))), (5, Sl.v s2), (6, Sl.v s_.1), (61, Sl.v a1.Ports), (62, .int .i64 (a1.Ports.len : Int)), (63, .int .i64 s_.2)], fun s_ => [(b1, ZaR.enc a1)], (rt ZaF.out)⟩
noncomputable def ZaF.L1 (a0 : ByteArray) (a1 : Zap) (s2 : Sl) (s14 : Sl) (s15 : Int) : M (LS (Sl × Int) ByteArray) :=
 if s15 < (a1.Ports.len : Int) then
  idx a1.Ports.a a1.Ports.len s15 2 >>= fun p35 =>
  ld Zbi p35 >>= fun x36 =>
  slot 71 >>= fun b37 =>
  Zdk x36.Lo >>= fun r38 =>
  if x36.Hi ≠ x36.Lo then
   fail
  else
   slot 9 >>= fun b39 =>
   appl cS 9 16 ByteArray.empty s14 [r38] >>= fun r40 =>
   pure (LS.next (r40, IntKind.wrap .i64 (s15 + 1)))
 else
  (ZaF.K2 a0 a1 s2 s14) >>= fun b => pure (LS.done b)
theorem ZaF.L1_ok (a0 : ByteArray) (a1 : Zap) (b1 : Nat) (s2 : Sl) : LJ ZaF.cx (ZaF.F1 a0 a1 b1 s2) (fun s_ => ZaF.L1 a0 a1 s2 s_.1 s_.2) := by
 rintro ⟨s14, s15⟩
 show SJ _ _ _ _ (ZaF.L1 a0 a1 s2 s14 s15) _
 unfold ZaF.L1
 refine SJ.sr 1 <| J.z 1 <| SJ.seq <| J.f ?_ ?_
 ·refine SJ.skip <| SJ.seq <| SJ.block (id := 3) <| SJ.sr 4 <| J.i 0 fun p35 => J.l 0 Ty71 fun x36 => J.a 0 Ty71 fun b37 => J.s 0 0 rfl Ty71 (Upd.w x36) <| J.z 0 <| SJ.sr 4 <| J.k 1 0 rfl Ty3 (Zda _) <| J.C 0 F63 (ZfC _) fun r38 => J.z 1 <| SJ.seq <| SJ.sr 5 <| J.k 1 0 rfl Ty3 (Zer _) <| J.k 1 0 rfl Ty3 (Zda _) <| J.z 1 <| J.f ?_ ?_
  ·exact SJ.fail
  exact SJ.skip <| SJ.rg 5 <| J.S 2 [r38] Ty9 fun b39 => J.p 0 0 rfl Ty9 fun r40 => J.z 1 <| SJ.inBlock <| SJ.rg 2 <| J.z 2 <| SJ.forget (List.Sublist.cons _ (List.Sublist.cons _ (List.Sublist.cons_cons _ List.Sublist.slnil))) <| J.o rfl
 exact SJ.exit (id := 2) (by rfl) <| J.q <| SJ.done <| ZaF.K2_ok a0 a1 b1 s2 s14
noncomputable def ZaF.K3 (a0 : ByteArray) (a1 : Zap) (s2 : Sl) : M ByteArray :=
 Zci (fun s_ : (Sl × Int) => ZaF.L1 a0 a1 s2 s_.1 s_.2) (Sl.nil, 0)
theorem ZaF.K3_ok (a0 : ByteArray) (a1 : Zap) (b1 : Nat) (s2 : Sl) :
  SJ ZaF.cx [.code (c2 (c2 (c2 (c2 ZaF.B))))] [(0, .string a0), (3, .pointer (some (pt b1 0))), (5, Sl.v s2), (6, Sl.v Sl.nil)] [(b1, ZaR.enc a1)] (ZaF.K3 a0 a1 s2) (rt ZaF.out) := by
 unfold ZaF.K3
 exact SJ.seq <| SJ.sr 4 <| J.k 1 0 rfl Ty24 (ZbG _) <| J.z 2 <| SJ.block (id := 2) <| J.L (ZaF.L1_ok a0 a1 b1 s2)
noncomputable def ZaF.F2 (a0 : ByteArray) (a1 : Zap) (b1 : Nat) : LF (Sl × Int) ByteArray := ⟨[.inBlock 0, .code (c2 (c2 (c2 (c2 ZaF.B))))], c1 (c2 (c1 (c2 (c2 (c2 ZaF.B))))), fun s_ => [(0, .string a0), (3, .pointer (some (pt b1 0))), (5, Sl.v s_.1), (6, Sl.v Sl.nil), (24, Sl.v a1.Nets), (25, .int .i64 (a1.Nets.len : Int)), (26, .int .i64 s_.2)], fun s_ => [(b1, ZaR.enc a1)], (rt ZaF.out)⟩
noncomputable def ZaF.L2 (a0 : ByteArray) (a1 : Zap) (s2 : Sl) (s3 : Int) : M (LS (Sl × Int) ByteArray) :=
 if s3 < (a1.Nets.len : Int) then
  idx a1.Nets.a a1.Nets.len s3 18 >>= fun p43 =>
  ld ZaI p43 >>= fun x44 =>
  slot 69 >>= fun b45 =>
  Zdg x44 >>= fun r46 =>
  (if x44.Len = 32 then
    pure (x44.IP.V == 4)
   else
    pure false) >>= fun y47 =>
  (if y47 = true then
    pure true
   else
    pure (x44.Len == 128)) >>= fun y48 =>
  if y48 = true then
   fail
  else
   slot 9 >>= fun b49 =>
   appl cS 9 16 ByteArray.empty s2 [r46.1] >>= fun r50 =>
   pure (LS.next (r50, IntKind.wrap .i64 (s3 + 1)))
 else
  (ZaF.K3 a0 a1 s2) >>= fun b => pure (LS.done b)
theorem ZaF.L2_ok (a0 : ByteArray) (a1 : Zap) (b1 : Nat) : LJ ZaF.cx (ZaF.F2 a0 a1 b1) (fun s_ => ZaF.L2 a0 a1 s_.1 s_.2) := by
 rintro ⟨s2, s3⟩
 show SJ _ _ _ _ (ZaF.L2 a0 a1 s2 s3) _
 unfold ZaF.L2
 refine SJ.sr 1 <| J.z 1 <| SJ.seq <| J.f ?_ ?_
 ·refine SJ.skip <| SJ.seq <| SJ.block (id := 1) <| SJ.sr 4 <| J.i 0 fun p43 => J.l 0 Ty69 fun x44 => J.a 0 Ty69 fun b45 => J.s 0 0 rfl Ty69 (Upd.w x44) <| J.z 0 <| SJ.sr 7 <| J.k 0 0 rfl Ty69 (At.whole _) <| J.C 0 F78 (Zis _) fun r46 => J.z 5 <| SJ.seq <| SJ.sr 14 <| J.k 1 0 rfl Ty3 (Zb2 _) <| J.j 2 4 .bool ?_ ?_ fun y47 => ?_
  ·exact J.k 2 0 rfl Ty3 (At.trans (Zb6 _) (ZcZ _)) <| J.e 2
  ·exact J.e 5
  refine J.j 1 3 .bool ?_ ?_ fun y48 => ?_
  ·exact J.e 4
  ·exact J.k 1 0 rfl Ty3 (Zb2 _) <| J.e 2
  refine J.z 0 <| J.f ?_ ?_
  ·exact SJ.fail
  exact SJ.skip <| SJ.rg 5 <| J.S 2 [r46.1] Ty9 fun b49 => J.p 0 0 rfl Ty9 fun r50 => J.z 1 <| SJ.inBlock <| SJ.rg 2 <| J.z 2 <| SJ.forget (List.Sublist.cons _ (List.Sublist.cons _ (List.Sublist.cons_cons _ List.Sublist.slnil))) <| J.o rfl
 exact SJ.exit (id := 0) (by rfl) <| J.q <| SJ.done <| ZaF.K3_ok a0 a1 b1 s2
noncomputable def ZaF (a0 : ByteArray) (a1 : Zap) : M ByteArray :=
 slot 26 >>= fun b1 =>
 if (IntKind.wrap .i64 ((a1.Nets.len : Int) + (a1.Ports.len : Int))) = 0 then
  fail
 else
  Zci (fun s_ : (Sl × Int) => ZaF.L2 a0 a1 s_.1 s_.2) (Sl.nil, 0)
theorem ZiK (a0 : ByteArray) (a1 : Zap) : Ref Tryz.prog 65 [.string a0, ZaR.val a1] (ZaF a0 a1) ZaF.out := by
 refine J.Fn Tryz.func65 ?_
 unfold ZaF
 refine SJ.sr 2 <| J.b 0 ZaR a1 fun b1 => J.z 1 <| SJ.seq <| SJ.sr 8 <| J.k 1 0 rfl Ty23 (ZbL _) <| J.k 2 0 rfl Ty24 (ZbG _) <| J.z 3 <| J.f ?_ ?_
 ·exact SJ.fail
 exact SJ.skip <| SJ.sr 2 <| J.z 2 <| SJ.seq <| SJ.sr 4 <| J.k 1 0 rfl Ty23 (ZbL _) <| J.z 2 <| SJ.block (id := 0) <| J.L (ZaF.L2_ok a0 a1 b1)

/-! ### weir/rules.write: function 47 -/
noncomputable def Zbn.B : Code := bod Tryz.f47
noncomputable def Zbn.cx : Fx := ⟨Tryz.prog, 47, Tryz.f47, none⟩
noncomputable def Zbn.out (r_ : ByteArray) : Value := .string r_
noncomputable def Zbn.K1 (a0 : Zaz) (x4 : ByteArray) (r5 : ByteArray) (r6 : ByteArray) (r7 : ByteArray) (s9 : Sl) : M ByteArray :=
 if (s9.len : Int) > 0 then
  fail
 else
  if a0.Type_ > 0 then
   fail
  else
   if a0.Pieces = true then
    fail
   else
    pure ((x4 ++ r5) ++ (r6 ++ r7))
theorem Zbn.K1_ok (a0 : Zaz) (b1 : Nat) (x4 : ByteArray) (r5 : ByteArray) (r6 : ByteArray) (r7 : ByteArray) (s9 : Sl) :
  SJ Zbn.cx [.code (c2 (c2 (c2 (c2 (c2 (c2 (c2 (c2 (c2 Zbn.B)))))))))] [(1, .pointer (some (pt b1 0))), (3, .string ((x4 ++ r5) ++ (r6 ++ r7))), (4, Sl.v s9)] [(b1, Zaj.enc a0)] (Zbn.K1 a0 x4 r5 r6 r7 s9) (rt Zbn.out) := by
 unfold Zbn.K1
 refine SJ.seq <| SJ.sr 3 <| J.z 3 <| J.f ?_ ?_
 ·exact SJ.fail
 refine SJ.skip <| SJ.seq <| SJ.sr 3 <| J.k 1 0 rfl Ty3 (ZdZ _) <| J.z 1 <| J.f ?_ ?_
 ·exact SJ.fail
 refine SJ.skip <| SJ.seq <| SJ.sr 2 <| J.k 1 0 rfl Ty4 (Zfa _) <| J.z 0 <| J.f ?_ ?_
 ·exact SJ.fail
 exact SJ.skip <| SJ.sr 2 <| J.z 2 <| J.r
noncomputable def Zbn.F1 (a0 : Zaz) (b1 : Nat) (x4 : ByteArray) (r5 : ByteArray) (r6 : ByteArray) (r7 : ByteArray) (x8 : Sl) : LF (Sl × Int) ByteArray := ⟨[.inBlock 0, .code (c2 (c2 (c2 (c2 (c2 (c2 (c2 (c2 (c2 Zbn.B)))))))))], c1 (c2 (c1 (c2 (c2 (c2 (c2 (c2 (c2 (c2 (c2 Zbn.B)))))))))), fun s_ => [(1, .pointer (some (pt b1 0))), (3, .string ((x4 ++ r5) ++ (r6 ++ r7))), (4, Sl.v s_.1), (54, Sl.v x8), (55, .int .i64 (x8.len : Int)), (56, .int .i64 s_.2)], fun s_ => [(b1, Zaj.enc a0)], (rt Zbn.out)⟩
noncomputable def Zbn.L1 (a0 : Zaz) (x4 : ByteArray) (r5 : ByteArray) (r6 : ByteArray) (r7 : ByteArray) (x8 : Sl) (s9 : Sl) (s10 : Int) : M (LS (Sl × Int) ByteArray) :=
 if s10 < (x8.len : Int) then
  idx x8.a x8.len s10 1 >>= fun p21 =>
  ld cS p21 >>= fun x22 =>
  chk (0 ≤ (IntKind.wrap .u64 s10)) >>= fun _ =>
  if (band .i64 (Int.fdiv a0.Set (2 ^ min (Int.toNat (IntKind.wrap .u64 s10)) 64)) 1) = 1 then
   fail
  else
   chk (0 ≤ (IntKind.wrap .u64 s10)) >>= fun _ =>
   if (band .i64 (Int.fdiv a0.Clear (2 ^ min (Int.toNat (IntKind.wrap .u64 s10)) 64)) 1) = 1 then
    fail
   else
    pure (LS.next (s9, IntKind.wrap .i64 (s10 + 1)))
 else
  (Zbn.K1 a0 x4 r5 r6 r7 s9) >>= fun b => pure (LS.done b)
theorem Zbn.L1_ok (a0 : Zaz) (b1 : Nat) (x4 : ByteArray) (r5 : ByteArray) (r6 : ByteArray) (r7 : ByteArray) (x8 : Sl) : LJ Zbn.cx (Zbn.F1 a0 b1 x4 r5 r6 r7 x8) (fun s_ => Zbn.L1 a0 x4 r5 r6 r7 x8 s_.1 s_.2) := by
 rintro ⟨s9, s10⟩
 show SJ _ _ _ _ (Zbn.L1 a0 x4 r5 r6 r7 x8 s9 s10) _
 unfold Zbn.L1
 refine SJ.sr 1 <| J.z 1 <| SJ.seq <| J.f ?_ ?_
 ·refine SJ.skip <| SJ.seq <| SJ.block (id := 1) <| SJ.sr 5 <| J.i 1 fun p21 => J.l 0 Ty9 fun x22 => J.z 2 <| SJ.seq <| SJ.sr 7 <| J.k 1 0 rfl Ty3 (ZcB _) <| J.g 2 <| OJ.shr (d := 65) (T := 3) (yT := 100) (y := .tmp 62) (z := .tmp 64) (k := .i64) (yk := .u64) (p := a0.Set) (q := (IntKind.wrap .u64 s10)) fun hq26 => J.z 2 <| J.f ?_ ?_
  ·exact SJ.fail
  refine SJ.skip <| SJ.sr 7 <| J.k 1 0 rfl Ty3 (Zcj _) <| J.g 2 <| OJ.shr (d := 76) (T := 3) (yT := 100) (y := .tmp 73) (z := .tmp 75) (k := .i64) (yk := .u64) (p := a0.Clear) (q := (IntKind.wrap .u64 s10)) fun hq24 => J.z 2 <| J.f ?_ ?_
  ·exact SJ.fail
  exact SJ.skip <| SJ.inBlock <| SJ.rg 2 <| J.z 2 <| J.o rfl
 exact SJ.exit (id := 0) (by rfl) <| J.q <| SJ.done <| Zbn.K1_ok a0 b1 x4 r5 r6 r7 s9
noncomputable def Zbn (a0 : Zaz) : M ByteArray :=
 slot 28 >>= fun b1 =>
 ld cL ⟨0, 0, none⟩ >>= fun x2 =>
 idx x2.a x2.len (IntKind.wrap .i64 (a0.Act - 1)) 1 >>= fun p3 =>
 ld cS p3 >>= fun x4 =>
 if a0.Class > 0 then
  fail
 else
  Zfj a0 >>= fun r5 =>
  chk (((x4.size + r5.size : Nat) : Int) ≤ 9223372036854775807) >>= fun _ =>
  if a0.In > 0 then
   fail
  else
   if a0.Vid > 0 then
    fail
   else
    draw >>= fun _ =>
    ZaF Zkw a0.From >>= fun r6 =>
    ZaF Zl5 a0.To >>= fun r7 =>
    chk (((r6.size + r7.size : Nat) : Int) ≤ 9223372036854775807) >>= fun _ =>
    chk ((((x4 ++ r5).size + (r6 ++ r7).size : Nat) : Int) ≤ 9223372036854775807) >>= fun _ =>
    ld cL ⟨2, 0, none⟩ >>= fun x8 =>
    Zci (fun s_ : (Sl × Int) => Zbn.L1 a0 x4 r5 r6 r7 x8 s_.1 s_.2) (Sl.nil, 0)
theorem Zld (a0 : Zaz) : Ref Tryz.prog 47 [Zaj.val a0] (Zbn a0) Zbn.out := by
 refine J.Fn Tryz.func47 ?_
 unfold Zbn
 refine SJ.sr 2 <| J.b 0 Zaj a0 fun b1 => J.z 1 <| SJ.sr 7 <| J.l 0 Ty22 fun x2 => J.k 1 0 rfl Ty3 (ZcQ _) <| J.i 1 fun p3 => J.l 0 Ty9 fun x4 => J.z 1 <| SJ.seq <| SJ.sr 3 <| J.k 1 0 rfl Ty3 (Zd0 _) <| J.z 1 <| J.f ?_ ?_
 ·exact SJ.fail
 refine SJ.skip <| SJ.sr 5 <| J.k 1 0 rfl Ty28 (At.whole _) <| J.C 0 F64 (Zma _) fun r5 => J.T 0 <| J.z 1 <| SJ.seq <| SJ.sr 3 <| J.k 1 0 rfl Ty3 (Zfu _) <| J.z 1 <| J.f ?_ ?_
 ·exact SJ.fail
 refine SJ.skip <| SJ.seq <| SJ.sr 3 <| J.k 1 0 rfl Ty3 (Ze9 _) <| J.z 1 <| J.f ?_ ?_
 ·exact SJ.fail
 exact SJ.skip <| SJ.seq <| J.D [0, 1, 2, 4, 5, 3, 6, 7, 8, 9] Zdz <| J.k 2 0 rfl Ty26 (ZdD _) <| J.k 1 0 rfl Ty26 (ZdO _) <| OJ.call (d := 48) (g := 65) (ats := #[9, 26]) (args := [.const (.string Zkw), .tmp 47]) (owed := [⟨5, 26, (pt b1 9), ZaR.val a0.To⟩]) F65 (ZiK Zkw a0.From) fun r6 => OW.known (j := 0) (q := a0.To) Ty26 rfl (ZdO a0) <| OW.nil <| J.C 0 F65 (ZiK _ _) fun r7 => J.T 0 <| J.T 0 <| J.z 1 <| SJ.sr 1 <| J.z 1 <| SJ.seq <| SJ.sr 3 <| J.l 0 Ty22 fun x8 => J.z 2 <| SJ.block (id := 0) <| J.L (Zbn.L1_ok a0 b1 x4 r5 r6 r7 x8)

/-! ### weir/rules.PrintRule: function 25 -/
noncomputable def Zc8.out (r_ : (ByteArray × Int)) : Value := .tuple #[.string r_.1, .int .i64 r_.2]
noncomputable def Zc8 (a0 : Zaz) : M (ByteArray × Int) :=
 slot 28 >>= fun b1 =>
 Zbf a0 >>= fun r2 =>
 if r2 ≠ 0 then
  fail
 else
  Zbn a0 >>= fun r3 =>
  pure (r3, 0)
theorem ZiM (a0 : Zaz) : Ref Tryz.prog 25 [Zaj.val a0] (Zc8 a0) Zc8.out := by
 refine J.Fn Tryz.func25 ?_
 unfold Zc8
 refine SJ.sr 3 <| J.b 0 Zaj a0 fun b1 => J.z 2 <| SJ.seq <| SJ.sr 3 <| J.k 0 0 rfl Ty28 (At.whole _) <| J.C 0 F26 (Zh8 _) fun r2 => J.z 1 <| SJ.sr 2 <| J.z 2 <| J.f ?_ ?_
 ·exact SJ.fail
 exact SJ.skip <| SJ.sr 4 <| J.k 0 0 rfl Ty28 (At.whole _) <| J.C 0 F47 (Zld _) fun r3 => J.z 2 <| J.r

/-! ### weir/weirlaw16.started: function 9 -/
noncomputable def ZcV.out (r_ : Bool) : Value := .bool r_
noncomputable def ZcV  : M Bool :=
 Zc5 >>= fun r1 =>
 slot 28 >>= fun b2 =>
 Zai r1.1 >>= fun r3 =>
 slot 28 >>= fun b4 =>
 Zc8 r1.2 >>= fun r5 =>
 Zc4 r3.2.1 >>= fun r6 =>
 (if r6 = 0 then
   pure (r3.2.2 == 0)
  else
   pure false) >>= fun y7 =>
 (if y7 = true then
   Zc3 r3.1 r1.2 >>= fun r8 =>
   pure r8
  else
   pure false) >>= fun y9 =>
 (if y9 = true then
   Zc4 r5.2 >>= fun r10 =>
   pure (r10 == 0)
  else
   pure false) >>= fun y11 =>
 (if y11 = true then
   pure (r5.1.toList == r1.1.toList)
  else
   pure false) >>= fun y12 =>
 (if y12 = true then
   Zbf r1.2 >>= fun r13 =>
   Zc4 r13 >>= fun r14 =>
   pure (r14 == 0)
  else
   pure false) >>= fun y15 =>
 pure y15
theorem ZhX  : Ref Tryz.prog 9 [] (ZcV) ZcV.out := by
 refine J.Fn Tryz.func9 ?_
 unfold ZcV
 refine SJ.sr 1 <| J.z 1 <| SJ.sr 7 <| J.C 0 F24 Zjf fun r1 => J.a 3 Ty28 fun b2 => J.s 1 0 rfl Ty28 (Upd.w r1.2) <| J.z 0 <| SJ.sr 10 <| J.C 1 F4 (ZeX _) fun r3 => J.a 4 Ty28 fun b4 => J.s 0 0 rfl Ty28 (Upd.w r3.1) <| J.z 2 <| SJ.sr 7 <| J.k 0 1 rfl Ty28 (At.whole _) <| J.C 0 F25 (ZiM _) fun r5 => J.z 5 <| SJ.sr 29 <| J.C 1 F6 (Zec _) fun r6 => J.j 2 2 .bool ?_ ?_ fun y7 => ?_
 ·exact J.e 3
 ·exact J.e 3
 refine J.j 1 3 .bool ?_ ?_ fun y9 => ?_
 ·exact J.k 0 0 rfl Ty28 (At.whole _) <| J.k 0 1 rfl Ty28 (At.whole _) <| J.C 0 F7 (Zfi _ _) fun r8 => J.e 1
 ·exact J.e 4
 refine J.j 1 3 .bool ?_ ?_ fun y11 => ?_
 ·exact J.C 1 F6 (Zec _) fun r10 => J.e 2
 ·exact J.e 4
 refine J.j 1 3 .bool ?_ ?_ fun y12 => ?_
 ·exact J.e 4
 ·exact J.e 4
 refine J.j 1 4 .bool ?_ ?_ fun y15 => ?_
 ·exact J.k 0 1 rfl Ty28 (At.whole _) <| J.C 0 F26 (Zh8 _) fun r13 => J.C 0 F6 (Zec _) fun r14 => J.e 2
 ·exact J.e 5
 exact J.z 1 <| J.r

/-! ### weir/weirlaw16.RulesLines: function 3 -/
noncomputable def ZaY.B : Code := bod Tryz.f3
noncomputable def ZaY.cx : Fx := ⟨Tryz.prog, 3, Tryz.f3, none⟩
noncomputable def ZaY.out (r_ : Bool) : Value := .bool r_
noncomputable def ZaY.F1 (a0 : Sl) : LF Int Bool := ⟨[.inBlock 0, .code (c2 (c2 ZaY.B))], c1 (c2 (c1 (c2 ZaY.B))), fun s_ => [(0, Sl.v a0), (3, .int .i64 s_)], fun s_ => [], (rt ZaY.out)⟩
noncomputable def ZaY.L1 (a0 : Sl) (s1 : Int) : M (LS Int Bool) :=
 if s1 < (a0.len : Int) then
  idx a0.a a0.len s1 1 >>= fun p29 =>
  ld cS p29 >>= fun x30 =>
  Zai x30 >>= fun r31 =>
  slot 28 >>= fun b32 =>
  idx a0.a a0.len s1 1 >>= fun p33 =>
  ld cS p33 >>= fun x34 =>
  Zaf x34 >>= fun r35 =>
  slot 28 >>= fun b36 =>
  Zc4 r31.2.1 >>= fun r37 =>
  (if r37 ≠ r35.2.1 then
    pure true
   else
    pure (r31.2.2 != r35.2.2)) >>= fun y38 =>
  (if y38 = true then
    pure true
   else
    Zc3 r31.1 r35.1 >>= fun r39 =>
    pure (!r39)) >>= fun y40 =>
  if y40 = true then
   pure (LS.done false)
  else
   newv 28 (Zaj.arr 1) (⟨[r31.1], rfl⟩ : Vec Zaz 1) >>= fun b41 =>
   Zaa (⟨some (pt b41 0), 1, 1⟩ : Sl) >>= fun r42 =>
   if ¬ (r42 = true) then
    pure (LS.done false)
   else
    idx a0.a a0.len s1 1 >>= fun p43 =>
    ld cS p43 >>= fun x44 =>
    Zai x44 >>= fun r45 =>
    slot 28 >>= fun b46 =>
    Zc4 r45.2.1 >>= fun r47 =>
    (if r47 ≠ r35.2.1 then
      pure true
     else
      pure (r45.2.2 != r35.2.2)) >>= fun y48 =>
    (if y48 = true then
      pure true
     else
      Zc3 r45.1 r35.1 >>= fun r49 =>
      pure (!r49)) >>= fun y50 =>
    if y50 = true then
     pure (LS.done false)
    else
     pure (LS.next (IntKind.wrap .i64 (s1 + 1)))
 else
  ZcV >>= fun r54 =>
  pure (LS.done r54)
theorem ZaY.L1_ok (a0 : Sl) : LJ ZaY.cx (ZaY.F1 a0) (fun s_ => ZaY.L1 a0 s_) := by
 rintro s1
 show SJ _ _ _ _ (ZaY.L1 a0 s1) _
 unfold ZaY.L1
 refine SJ.seq <| SJ.sr 4 <| J.z 4 <| J.f ?_ ?_
 ·refine SJ.skip <| SJ.seq <| SJ.block (id := 1) <| SJ.sr 13 <| J.i 2 fun p29 => J.l 0 Ty9 fun x30 => J.C 0 F4 (ZeX _) fun r31 => J.a 4 Ty28 fun b32 => J.s 0 0 rfl Ty28 (Upd.w r31.1) <| J.z 2 <| SJ.sr 13 <| J.i 2 fun p33 => J.l 0 Ty9 fun x34 => J.C 0 F5 (Zhc _) fun r35 => J.a 4 Ty28 fun b36 => J.s 0 0 rfl Ty28 (Upd.w r35.1) <| J.z 2 <| SJ.seq <| SJ.sr 15 <| J.C 1 F6 (Zec _) fun r37 => J.j 3 3 .bool ?_ ?_ fun y38 => ?_
  ·exact J.e 4
  ·exact J.e 4
  refine J.j 1 4 .bool ?_ ?_ fun y40 => ?_
  ·exact J.e 5
  ·exact J.k 0 1 rfl Ty28 (At.whole _) <| J.k 0 0 rfl Ty28 (At.whole _) <| J.C 0 F7 (Zfi _ _) fun r39 => J.e 2
  refine J.z 0 <| J.f ?_ ?_
  ·exact SJ.sr 1 <| J.z 1 <| J.r
  refine SJ.skip <| SJ.sr 4 <| J.k 0 1 rfl Ty28 (At.whole _) <| J.N 0 Ty28 fun b41 => J.C 0 F8 (Zif _) fun r42 => J.z 1 <| SJ.seq <| SJ.sr 2 <| J.z 2 <| J.f ?_ ?_
  ·exact SJ.sr 1 <| J.z 1 <| J.r
  refine SJ.skip <| SJ.sr 13 <| J.i 2 fun p43 => J.l 0 Ty9 fun x44 => J.C 0 F4 (ZeX _) fun r45 => J.a 4 Ty28 fun b46 => J.s 0 0 rfl Ty28 (Upd.w r45.1) <| J.z 2 <| SJ.sr 15 <| J.C 1 F6 (Zec _) fun r47 => J.j 3 3 .bool ?_ ?_ fun y48 => ?_
  ·exact J.e 4
  ·exact J.e 4
  refine J.j 1 4 .bool ?_ ?_ fun y50 => ?_
  ·exact J.e 5
  ·exact J.k 0 0 rfl Ty28 (At.whole _) <| J.k 0 1 rfl Ty28 (At.whole _) <| J.C 0 F7 (Zfi _ _) fun r49 => J.e 2
  refine J.z 0 <| J.f ?_ ?_
  ·exact SJ.sr 1 <| J.z 1 <| J.r
  exact SJ.skip <| SJ.inBlock <| SJ.rg 3 <| J.z 3 <| SJ.forget (List.Sublist.cons _ (List.Sublist.cons _ (List.Sublist.cons _ List.Sublist.slnil))) <| J.o rfl
 exact SJ.exit (id := 0) (by rfl) <| SJ.sr 2 <| J.C 0 F9 ZhX fun r54 => J.z 1 <| J.r
noncomputable def ZaY (a0 : Sl) : M Bool :=
 Zci (fun s_ : Int => ZaY.L1 a0 s_) 0
theorem ZgP (a0 : Sl) : Ref Tryz.prog 3 [Sl.v a0] (ZaY a0) ZaY.out := by
 refine J.Fn Tryz.func3 ?_
 unfold ZaY
 exact SJ.sr 1 <| J.z 1 <| SJ.seq <| SJ.sr 1 <| J.z 1 <| SJ.block (id := 0) <| J.L (ZaY.L1_ok a0)
end Go.Proofs.YtmgbjiaognomhaaGreatDoor.Lx
