/- Programs of the M-world for Go functions, each with the proof that the Go text does what it says. Printed by lxgen.py. -/
import Derived.Test.YtjceipelgkdoaaaGreatDoorLxT
import Derived.Test.YtjceipelgkdoaaaGreatDoorLxP0
import Derived.Test.YtjceipelgkdoaaaGreatDoorLxP1
set_option linter.unusedVariables false
set_option linter.unusedSimpArgs false
set_option linter.unusedSectionVars false
namespace Go.Proofs.YtjceipelgkdoaaaGreatDoor.Lx
open Go Go.Proofs
variable [Zdg]
/-! ### weir/weirlaw16.started: function 9 -/
noncomputable def ZbK.out (r_ : Bool) : Value := .bool r_
noncomputable def ZbK  : M Bool :=
 Zct >>= fun r1 =>
 slot 63 >>= fun b2 =>
 Zag r1.1 >>= fun r3 =>
 slot 63 >>= fun b4 =>
 Zcy r1.2 >>= fun r5 =>
 ZbX r3.2.1 >>= fun r6 =>
 (if r6 = 0 then
   pure (r3.2.2 == 0)
  else
   pure false) >>= fun y7 =>
 (if y7 = true then
   Zdb r3.1 r1.2 >>= fun r8 =>
   pure r8
  else
   pure false) >>= fun y9 =>
 (if y9 = true then
   ZbX r5.2 >>= fun r10 =>
   pure (r10 == 0)
  else
   pure false) >>= fun y11 =>
 (if y11 = true then
   pure (r5.1.toList == r1.1.toList)
  else
   pure false) >>= fun y12 =>
 (if y12 = true then
   ZaS r1.2 >>= fun r13 =>
   ZbX r13 >>= fun r14 =>
   pure (r14 == 0)
  else
   pure false) >>= fun y15 =>
 pure y15
theorem Zd7  : Ref Tryz.prog 9 [] (ZbK) ZbK.out := by
 refine J.Fn Tryz.func9 ?_
 unfold ZbK
 refine SJ.sr 1 <| J.z 1 <| SJ.sr 7 <| J.C 0 F14 Ziw fun r1 => J.a 3 Ty63 fun b2 => J.s 1 0 rfl Ty63 (Upd.w r1.2) <| J.z 0 <| SJ.sr 10 <| J.C 1 F15 (Zh5 _) fun r3 => J.a 4 Ty63 fun b4 => J.s 0 0 rfl Ty63 (Upd.w r3.1) <| J.z 2 <| SJ.sr 7 <| J.k 0 1 rfl Ty63 (At.whole _) <| J.C 0 F16 (Zh4 _) fun r5 => J.z 5 <| SJ.sr 29 <| J.C 1 F7 (ZcB _) fun r6 => J.j 2 2 .bool ?_ ?_ fun y7 => ?_
 ·exact J.e 3
 ·exact J.e 3
 refine J.j 1 3 .bool ?_ ?_ fun y9 => ?_
 ·exact J.k 0 0 rfl Ty63 (At.whole _) <| J.k 0 1 rfl Ty63 (At.whole _) <| J.C 0 F17 (Ziv _ _) fun r8 => J.e 1
 ·exact J.e 4
 refine J.j 1 3 .bool ?_ ?_ fun y11 => ?_
 ·exact J.C 1 F7 (ZcB _) fun r10 => J.e 2
 ·exact J.e 4
 refine J.j 1 3 .bool ?_ ?_ fun y12 => ?_
 ·exact J.e 4
 ·exact J.e 4
 refine J.j 1 4 .bool ?_ ?_ fun y15 => ?_
 ·exact J.k 0 1 rfl Ty63 (At.whole _) <| J.C 0 F10 (ZfF _) fun r13 => J.C 0 F7 (ZcB _) fun r14 => J.e 2
 ·exact J.e 5
 exact J.z 1 <| J.r

/-! ### weir/weirlaw16.RulesFirst: function 3 -/
noncomputable def ZaL.B : Code := bod Tryz.f3
noncomputable def ZaL.cx : Fx := ⟨Tryz.prog, 3, Tryz.f3, none⟩
noncomputable def ZaL.out (r_ : Bool) : Value := .bool r_
noncomputable def ZaL.K1 (r21 : ZaO) (r25 : ZaO) (j33 : ZaO) : M Bool :=
 ZbK >>= fun r34 =>
 (if r34 = true then
   pure (eqv r25 j33)
  else
   pure false) >>= fun y35 =>
 (if y35 = true then
   pure (eqv r21 (⟨2, ZcJ.Class, (-1)⟩ : ZaO))
  else
   pure false) >>= fun y36 =>
 pure y36
theorem ZaL.K1_ok (r21 : ZaO) (b22 : Nat) (b24 : Nat) (r25 : ZaO) (b26 : Nat) (j33 : ZaO) :
  SJ ZaL.cx [.code (c2 (c2 (c2 (c2 (c2 (c2 (c2 (c2 (c2 (c2 (c2 (c2 (c2 (c2 (c2 (c2 ZaL.B))))))))))))))))] [(22, .pointer (some (pt b22 0))), (23, .pointer (some (pt b24 0))), (24, .pointer (some (pt b26 0)))] [(b26, Zbh.enc r25), (b24, Zbh.enc j33), (b22, Zbh.enc r21)] (ZaL.K1 r21 r25 j33) (rt ZaL.out) := by
 unfold ZaL.K1
 refine SJ.sr 12 <| J.C 0 F9 Zd7 fun r34 => J.j 1 3 .bool ?_ ?_ fun y35 => ?_
 ·exact J.k 0 0 rfl Ty54 (At.whole _) <| J.k 0 1 rfl Ty54 (At.whole _) <| OJ.eql (d := 134) (T := 54) (yT := 54) (y := .tmp 132) (z := .tmp 133) (cd := Zbh) (p := r25) (q := j33) rfl Eq54 <| J.e 1
 ·exact J.e 4
 refine J.j 1 3 .bool ?_ ?_ fun y36 => ?_
 ·exact J.k 0 2 rfl Ty54 (At.whole _) <| J.u 0 Ty54 (.f 0 (ZdO _ 2) (.f 2 (ZcW _ (-1)) .nil)) <| OJ.eql (d := 139) (T := 54) (yT := 54) (y := .tmp 137) (z := .tmp 138) (cd := Zbh) (p := r21) (q := (⟨2, ZcJ.Class, (-1)⟩ : ZaO)) rfl Eq54 <| J.e 1
 ·exact J.e 4
 exact J.z 1 <| J.r
noncomputable def ZaL (a0 : Sl) (a1 : Sl) (a2 : Int) (a3 : Zau) : M Bool :=
 slot 47 >>= fun b1 =>
 ZbC Sl.nil >>= fun r2 =>
 (if r2.1 = none then
   pure true
  else
   ZbX r2.2.1 >>= fun r3 =>
   pure (r3 != 0)) >>= fun y4 =>
 (if y4 = true then
   pure true
  else
   ZaR r2.1 a2 a3 >>= fun r5 =>
   pure (!eqv r5 (⟨2, ZcJ.Class, (-1)⟩ : ZaO))) >>= fun y6 =>
 if y6 = true then
  pure false
 else
  ZbC a0 >>= fun r7 =>
  ZbC a1 >>= fun r8 =>
  appS Zak 63 192 ZaD Sl.nil a0 >>= fun r9 =>
  appS Zak 63 192 ZaD r9 a1 >>= fun r10 =>
  ZbC r10 >>= fun r11 =>
  ZbX r7.2.1 >>= fun r12 =>
  (if r12 ≠ 0 then
    pure true
   else
    ZbX r8.2.1 >>= fun r13 =>
    pure (r13 != 0)) >>= fun y14 =>
  (if y14 = true then
    pure true
   else
    ZbX r11.2.1 >>= fun r15 =>
    pure (r15 != 0)) >>= fun y16 =>
  if y16 = true then
   ZbK >>= fun r18 =>
   pure r18
  else
   (if r7.1 = none then
     pure true
    else
     pure (Option.isNone r8.1)) >>= fun y19 =>
   (if y19 = true then
     pure true
    else
     pure (Option.isNone r11.1)) >>= fun y20 =>
   if y20 = true then
    pure false
   else
    ZaR r7.1 a2 a3 >>= fun r21 =>
    slot 54 >>= fun b22 =>
    ZaR r8.1 a2 a3 >>= fun r23 =>
    slot 54 >>= fun b24 =>
    ZaR r11.1 a2 a3 >>= fun r25 =>
    slot 54 >>= fun b26 =>
    if r21.Rule ≥ 0 then
     ZbK >>= fun r30 =>
     (if r30 = true then
       pure (eqv r25 r21)
      else
       pure false) >>= fun y31 =>
     (if y31 = true then
       pure (decide (r21.Rule < (a0.len : Int)))
      else
       pure false) >>= fun y32 =>
     pure y32
    else
     if r23.Rule ≥ 0 then
      ZaL.K1 r21 r25 (⟨r23.Act, r23.Class, IntKind.wrap .i64 (r23.Rule + (a0.len : Int))⟩ : ZaO)
     else
      ZaL.K1 r21 r25 r23
theorem Zf1 (a0 : Sl) (a1 : Sl) (a2 : Int) (a3 : Zau) : Ref Tryz.prog 3 [Sl.v a0, Sl.v a1, .int .i64 a2, ZaB.val a3] (ZaL a0 a1 a2 a3) ZaL.out := by
 refine J.Fn Tryz.func3 ?_
 unfold ZaL
 refine SJ.sr 2 <| J.b 0 ZaB a3 fun b1 => J.z 1 <| SJ.sr 8 <| J.C 0 F6 (Zfs _) fun r2 => J.z 7 <| SJ.seq <| SJ.sr 15 <| J.j 3 3 .bool ?_ ?_ fun y4 => ?_
 ·exact J.e 4
 ·exact J.C 1 F7 (ZcB _) fun r3 => J.e 2
 refine J.j 1 6 .bool ?_ ?_ fun y6 => ?_
 ·exact J.e 7
 ·exact J.k 2 0 rfl Ty47 (At.whole _) <| J.C 0 F8 (ZdN _ _ _) fun r5 => J.u 0 Ty54 (.f 0 (ZdO _ 2) (.f 2 (ZcW _ (-1)) .nil)) <| OJ.neq (d := 43) (T := 54) (yT := 54) (y := .tmp 41) (z := .tmp 42) (cd := Zbh) (p := r5) (q := (⟨2, ZcJ.Class, (-1)⟩ : ZaO)) rfl Eq54 <| J.e 1
 refine J.z 0 <| J.f ?_ ?_
 ·exact SJ.sr 1 <| J.z 1 <| J.r
 refine SJ.skip <| SJ.sr 9 <| J.C 1 F6 (Zfs _) fun r7 => J.z 7 <| SJ.sr 9 <| J.C 1 F6 (Zfs _) fun r8 => J.z 7 <| SJ.sr 1 <| J.z 1 <| SJ.sr 4 <| J.g 2 <| OJ.appS (d := 59) (t := 22) (u := 22) (so := .tmp 57) (xo := .tmp 58) (owed := []) Ty63 fun r9 => OW.nil <| J.z 1 <| SJ.sr 4 <| J.g 2 <| OJ.appS (d := 62) (t := 22) (u := 22) (so := .tmp 60) (xo := .tmp 61) (owed := []) Ty63 fun r10 => OW.nil <| J.z 1 <| SJ.sr 9 <| J.C 1 F6 (Zfs _) fun r11 => J.z 7 <| SJ.seq <| SJ.sr 13 <| J.C 1 F7 (ZcB _) fun r12 => J.j 2 3 .bool ?_ ?_ fun y14 => ?_
 ·exact J.e 4
 ·exact J.C 1 F7 (ZcB _) fun r13 => J.e 2
 refine J.j 1 3 .bool ?_ ?_ fun y16 => ?_
 ·exact J.e 4
 ·exact J.C 1 F7 (ZcB _) fun r15 => J.e 2
 refine J.z 0 <| J.f ?_ ?_
 ·exact SJ.sr 2 <| J.C 0 F9 Zd7 fun r18 => J.z 1 <| J.r
 refine SJ.skip <| SJ.seq <| SJ.sr 10 <| J.j 3 2 .bool ?_ ?_ fun y19 => ?_
 ·exact J.e 3
 ·exact J.e 3
 refine J.j 1 2 .bool ?_ ?_ fun y20 => ?_
 ·exact J.e 3
 ·exact J.e 3
 refine J.z 0 <| J.f ?_ ?_
 ·exact SJ.sr 1 <| J.z 1 <| J.r
 refine SJ.skip <| SJ.sr 6 <| J.k 2 0 rfl Ty47 (At.whole _) <| J.C 0 F8 (ZdN _ _ _) fun r21 => J.a 0 Ty54 fun b22 => J.s 0 0 rfl Ty54 (Upd.w r21) <| J.z 0 <| SJ.sr 6 <| J.k 2 1 rfl Ty47 (At.whole _) <| J.C 0 F8 (ZdN _ _ _) fun r23 => J.a 0 Ty54 fun b24 => J.s 0 0 rfl Ty54 (Upd.w r23) <| J.z 0 <| SJ.sr 6 <| J.k 2 2 rfl Ty47 (At.whole _) <| J.C 0 F8 (ZdN _ _ _) fun r25 => J.a 0 Ty54 fun b26 => J.s 0 0 rfl Ty54 (Upd.w r25) <| J.z 0 <| SJ.seq <| SJ.sr 3 <| J.k 1 2 rfl Ty3 (Zcr _) <| J.z 1 <| J.f ?_ ?_
 ·refine SJ.sr 14 <| J.C 0 F9 Zd7 fun r30 => J.j 1 3 .bool ?_ ?_ fun y31 => ?_
  ·exact J.k 0 0 rfl Ty54 (At.whole _) <| J.k 0 2 rfl Ty54 (At.whole _) <| OJ.eql (d := 112) (T := 54) (yT := 54) (y := .tmp 110) (z := .tmp 111) (cd := Zbh) (p := r25) (q := r21) rfl Eq54 <| J.e 1
  ·exact J.e 4
  refine J.j 1 5 .bool ?_ ?_ fun y32 => ?_
  ·exact J.k 1 2 rfl Ty3 (Zcr _) <| J.e 4
  ·exact J.e 6
  exact J.z 1 <| J.r
 refine SJ.skip <| SJ.seq <| SJ.sr 3 <| J.k 1 1 rfl Ty3 (Zcr _) <| J.z 1 <| J.f ?_ ?_
 ·exact SJ.rg 7 <| J.k 1 1 rfl Ty3 (Zcr _) <| J.s 4 1 rfl Ty3 (ZcW _ (IntKind.wrap .i64 (r23.Rule + (a0.len : Int)))) <| J.z 0 <| SJ.forget (List.Sublist.cons_cons _ (List.Sublist.cons_cons _ (List.Sublist.cons_cons _ (List.Sublist.cons _ List.Sublist.slnil)))) <| J.q <| ZaL.K1_ok r21 b22 b24 r25 b26 (⟨r23.Act, r23.Class, IntKind.wrap .i64 (r23.Rule + (a0.len : Int))⟩ : ZaO)
 exact SJ.skip <| SJ.forget (List.Sublist.cons_cons _ (List.Sublist.cons_cons _ (List.Sublist.cons_cons _ (List.Sublist.cons _ List.Sublist.slnil)))) <| J.q <| ZaL.K1_ok r21 b22 b24 r25 b26 r23
end Go.Proofs.YtjceipelgkdoaaaGreatDoor.Lx
