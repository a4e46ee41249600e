/- Programs of the M-world for Go functions, each with the proof that the Go text does what it says. Printed by lxgen.py. -/
import Derived.Test.YtpmhinidiplhiaaGreatDoorLxT
import Derived.Test.YtpmhinidiplhiaaGreatDoorLxP0
set_option linter.unusedVariables false
set_option linter.unusedSimpArgs false
set_option linter.unusedSectionVars false
namespace Go.Proofs.YtpmhinidiplhiaaGreatDoor.Lx
open Go Go.Proofs
variable [Zdr]
/-! ### weir/weirref16.side: function 70 -/
noncomputable def Zar.B : Code := bod Tryz.f70
noncomputable def Zar.cx : Fx := ⟨Tryz.prog, 70, Tryz.f70, none⟩
noncomputable def Zar.out (r_ : Int) : Value := .int .i64 r_
noncomputable def Zar.K1 (a0 : Zag) (a1 : Zae) : M Int :=
 (if (a1.Ports.len : Int) > 0 then
   pure (a0.Proto != 6)
  else
   pure false) >>= fun y24 =>
 (if y24 = true then
   pure (a0.Proto != 17)
  else
   pure false) >>= fun y25 =>
 if y25 = true then
  pure 165
 else
  pure 0
theorem Zar.K1_ok (a0 : Zag) (a1 : Zae) (b1 : Nat) (b2 : Nat) :
  SJ Zar.cx [.code (c2 (c2 (c2 (c2 (c2 Zar.B)))))] [(2, .pointer (some (pt b1 0))), (3, .pointer (some (pt b2 0)))] [(b2, Zaw.enc a1), (b1, Zak.enc a0)] (Zar.K1 a0 a1) (rt Zar.out) := by
 unfold Zar.K1
 refine SJ.seq <| SJ.sr 14 <| J.k 1 0 rfl Ty24 (ZaH _) <| J.j 3 3 .bool ?_ ?_ fun y24 => ?_
 ·exact J.k 1 1 rfl Ty3 (Za1 _) <| J.e 2
 ·exact J.e 4
 refine J.j 1 3 .bool ?_ ?_ fun y25 => ?_
 ·exact J.k 1 1 rfl Ty3 (Za1 _) <| J.e 2
 ·exact J.e 4
 refine J.z 0 <| J.f ?_ ?_
 ·exact SJ.sr 1 <| J.z 1 <| J.r
 exact SJ.skip <| SJ.sr 1 <| J.z 1 <| J.r
noncomputable def Zar.F1 (a0 : Zag) (a1 : Zae) (b1 : Nat) (b2 : Nat) : LF Int Int := ⟨[.inBlock 2, .code (c2 (c2 (c2 (c2 (c2 Zar.B)))))], c1 (c2 (c1 (c2 (c2 (c2 (c2 Zar.B)))))), fun s_ => [(2, .pointer (some (pt b1 0))), (3, .pointer (some (pt b2 0))), (7, .int .i64 s_)], fun s_ => [(b2, Zaw.enc a1), (b1, Zak.enc a0)], (rt Zar.out)⟩
noncomputable def Zar.L1 (a0 : Zag) (a1 : Zae) (s11 : Int) : M (LS Int Int) :=
 if s11 < (a1.Ports.len : Int) then
  draw >>= fun _ =>
  idx a1.Ports.a a1.Ports.len s11 2 >>= fun p27 =>
  ld (cI .i64) p27 >>= fun x28 =>
  (if x28 < 0 then
    pure true
   else
    idx a1.Ports.a a1.Ports.len s11 2 >>= fun p29 =>
    ld (cI .i64) (Addr.add p29 1) >>= fun x30 =>
    pure (decide (x30 > 65535))) >>= fun y31 =>
  (if y31 = true then
    pure true
   else
    idx a1.Ports.a a1.Ports.len s11 2 >>= fun p32 =>
    ld (cI .i64) p32 >>= fun x33 =>
    idx a1.Ports.a a1.Ports.len s11 2 >>= fun p34 =>
    ld (cI .i64) (Addr.add p34 1) >>= fun x35 =>
    pure (decide (x33 > x35))) >>= fun y36 =>
  if y36 = true then
   pure (LS.done 164)
  else
   pure (LS.next (IntKind.wrap .i64 (s11 + 1)))
 else
  (Zar.K1 a0 a1) >>= fun b => pure (LS.done b)
theorem Zar.L1_ok (a0 : Zag) (a1 : Zae) (b1 : Nat) (b2 : Nat) : LJ Zar.cx (Zar.F1 a0 a1 b1 b2) (fun s_ => Zar.L1 a0 a1 s_) := by
 rintro s11
 show SJ _ _ _ _ (Zar.L1 a0 a1 s11) _
 unfold Zar.L1
 refine SJ.seq <| SJ.sr 5 <| J.k 2 0 rfl Ty24 (ZaH _) <| J.z 2 <| J.f ?_ ?_
 ·refine SJ.skip <| SJ.seq <| SJ.block (id := 3) <| SJ.seq <| J.R 31 ZcR <| J.k 1 0 rfl Ty24 (ZaH _) <| J.i 1 fun p27 => J.l 1 Ty3 fun x28 => J.j 2 7 .bool ?_ ?_ fun y31 => ?_
  ·exact J.e 8
  ·exact J.k 1 0 rfl Ty24 (ZaH _) <| J.i 1 fun p29 => J.l 1 Ty3 fun x30 => J.e 2
  refine J.j 1 13 .bool ?_ ?_ fun y36 => ?_
  ·exact J.e 14
  ·exact J.k 1 0 rfl Ty24 (ZaH _) <| J.i 1 fun p32 => J.l 1 Ty3 fun x33 => J.k 1 0 rfl Ty24 (ZaH _) <| J.i 1 fun p34 => J.l 1 Ty3 fun x35 => J.e 2
  refine J.z 0 <| J.f ?_ ?_
  ·exact SJ.sr 1 <| J.z 1 <| J.r
  exact SJ.skip <| SJ.inBlock <| SJ.rg 3 <| J.z 3 <| J.o rfl
 exact SJ.exit (id := 2) (by rfl) <| J.q <| SJ.done <| Zar.K1_ok a0 a1 b1 b2
noncomputable def Zar.K2 (a0 : Zag) (a1 : Zae) : M Int :=
 if (a1.Ports.len : Int) > 16 then
  pure 164
 else
  Zb9 (fun s_ : Int => Zar.L1 a0 a1 s_) 0
theorem Zar.K2_ok (a0 : Zag) (a1 : Zae) (b1 : Nat) (b2 : Nat) :
  SJ Zar.cx [.code (c2 (c2 (c2 Zar.B)))] [(2, .pointer (some (pt b1 0))), (3, .pointer (some (pt b2 0)))] [(b2, Zaw.enc a1), (b1, Zak.enc a0)] (Zar.K2 a0 a1) (rt Zar.out) := by
 unfold Zar.K2
 refine SJ.seq <| SJ.sr 4 <| J.k 1 0 rfl Ty24 (ZaH _) <| J.z 2 <| J.f ?_ ?_
 ·exact SJ.sr 1 <| J.z 1 <| J.r
 exact SJ.skip <| SJ.seq <| SJ.sr 1 <| J.z 1 <| SJ.block (id := 2) <| J.L (Zar.L1_ok a0 a1 b1 b2)
noncomputable def Zar.F2 (a0 : Zag) (a1 : Zae) (b1 : Nat) (b2 : Nat) : LF Int Int := ⟨[.inBlock 0, .code (c2 (c2 (c2 Zar.B)))], c1 (c2 (c1 (c2 (c2 Zar.B)))), fun s_ => [(2, .pointer (some (pt b1 0))), (3, .pointer (some (pt b2 0))), (5, .int .i64 s_)], fun s_ => [(b2, Zaw.enc a1), (b1, Zak.enc a0)], (rt Zar.out)⟩
noncomputable def Zar.L2 (a0 : Zag) (a1 : Zae) (s5 : Int) : M (LS Int Int) :=
 if s5 < (a1.Nets.len : Int) then
  draw >>= fun _ =>
  idx a1.Nets.a a1.Nets.len s5 18 >>= fun p40 =>
  ld ZaF p40 >>= fun x41 =>
  ZdD a0.Kind x41 >>= fun r42 =>
  if ¬ (r42 = true) then
   pure (LS.done 163)
  else
   pure (LS.next (IntKind.wrap .i64 (s5 + 1)))
 else
  (Zar.K2 a0 a1) >>= fun b => pure (LS.done b)
theorem Zar.L2_ok (a0 : Zag) (a1 : Zae) (b1 : Nat) (b2 : Nat) : LJ Zar.cx (Zar.F2 a0 a1 b1 b2) (fun s_ => Zar.L2 a0 a1 s_) := by
 rintro s5
 show SJ _ _ _ _ (Zar.L2 a0 a1 s5) _
 unfold Zar.L2
 refine SJ.seq <| SJ.sr 5 <| J.k 2 0 rfl Ty23 (ZaY _) <| J.z 2 <| J.f ?_ ?_
 ·refine SJ.skip <| SJ.seq <| SJ.block (id := 1) <| SJ.seq <| J.R 9 ZcR <| J.k 1 1 rfl Ty3 (Zbk _) <| J.k 1 0 rfl Ty23 (ZaY _) <| J.i 1 fun p40 => J.l 0 Zcb fun x41 => J.C 0 F120 (Zi9 _ _) fun r42 => J.z 1 <| SJ.sr 2 <| J.z 2 <| J.f ?_ ?_
  ·exact SJ.sr 1 <| J.z 1 <| J.r
  exact SJ.skip <| SJ.inBlock <| SJ.rg 3 <| J.z 3 <| J.o rfl
 exact SJ.exit (id := 0) (by rfl) <| J.q <| SJ.done <| Zar.K2_ok a0 a1 b1 b2
noncomputable def Zar (a0 : Zag) (a1 : Zae) : M Int :=
 slot 28 >>= fun b1 =>
 slot 26 >>= fun b2 =>
 (if (a1.Nets.len : Int) > 16 then
   pure true
  else
   (if a1.Not = true then
     pure ((a1.Nets.len : Int) == 0)
    else
     pure false) >>= fun y3 =>
   pure y3) >>= fun y4 =>
 if y4 = true then
  pure 163
 else
  Zb9 (fun s_ : Int => Zar.L2 a0 a1 s_) 0
theorem ZfK (a0 : Zag) (a1 : Zae) : Ref Tryz.prog 70 [Zak.val a0, Zaw.val a1] (Zar a0 a1) Zar.out := by
 refine J.Fn Tryz.func70 ?_
 unfold Zar
 refine SJ.sr 3 <| J.b 0 Zak a0 fun b1 => J.b 0 Zaw a1 fun b2 => J.z 1 <| SJ.seq <| SJ.sr 14 <| J.k 1 0 rfl Ty23 (ZaY _) <| J.g 3 <| OJ.join (b := decide ((a1.Nets.len : Int) > 16)) [5, 6, 7, 8, 9, 10, 11, 12, 13] [] [2, 3, 21] (fun y4 => [(2, .pointer (some (pt b1 0))), (3, .pointer (some (pt b2 0))), (21, .bool y4)]) [] [] (t := 12) decide_eq_true_iff (fun hp_ => ?_) (fun hp_ => ?_) (fun _ _ _ _ _ _ h_ => h_) fun y4 => ?_
 ·exact J.g 9 <| OJ.nil ⟨(Cov.mem Cov.nil), rfl, _, rfl, by kernel_rfl⟩
 ·refine J.k 1 0 rfl Ty4 (Zc5 _) <| J.g 1 <| OJ.join (b := a1.Not) [8, 9, 10, 11, 12] [13] [2, 3, 12, 20] (fun y3 => [(2, .pointer (some (pt b1 0))), (3, .pointer (some (pt b2 0))), (12, .bool false), (20, .bool y3)]) [] [] (t := 15) Iff.rfl (fun hp_ => ?_) (fun hp_ => ?_) (fun _ _ _ _ _ hq_ h_ => ⟨fun e_ he_ => (hq_ e_ he_).elim (fun h => h_.1 e_ h) (fun h => nomatch h), h_.2⟩) fun y3 => ?_
  ·exact J.k 1 0 rfl Ty23 (ZaY _) <| J.g 3 <| OJ.nil ⟨(Cov.mem Cov.nil), rfl, _, rfl, by kernel_rfl⟩
  ·exact J.g 5 <| OJ.nil ⟨(Cov.mem Cov.nil), rfl, _, rfl, by kernel_rfl⟩
  exact J.g 1 <| OJ.nil ⟨(Cov.mem Cov.nil), rfl, _, rfl, by kernel_rfl⟩
 refine J.z 0 <| J.f ?_ ?_
 ·exact SJ.sr 1 <| J.z 1 <| J.r
 exact SJ.skip <| SJ.seq <| SJ.sr 1 <| J.z 1 <| SJ.block (id := 0) <| J.L (Zar.L2_ok a0 a1 b1 b2)

/-! ### weir/weirref16.Check: function 24 -/
noncomputable def ZcG.out (r_ : Int) : Value := .int .i64 r_
noncomputable def ZcG (a0 : Zag) : M Int :=
 slot 28 >>= fun b1 =>
 ZbM a0.Act 1 3 >>= fun r2 =>
 (if r2 = true then
   pure true
  else
   ZbM a0.Class 0 7 >>= fun r3 =>
   pure r3) >>= fun y4 =>
 (if y4 = true then
   pure true
  else
   ZbM a0.Kind 0 3 >>= fun r5 =>
   pure r5) >>= fun y6 =>
 (if y6 = true then
   pure true
  else
   ZbM a0.Proto 0 255 >>= fun r7 =>
   pure r7) >>= fun y8 =>
 (if y8 = true then
   pure true
  else
   ZbM a0.In 0 8 >>= fun r9 =>
   pure r9) >>= fun y10 =>
 (if y10 = true then
   pure true
  else
   ZbM a0.Vid 0 4094 >>= fun r11 =>
   pure r11) >>= fun y12 =>
 if y12 = true then
  pure 166
 else
  ZbM a0.Set 0 255 >>= fun r13 =>
  (if r13 = true then
    pure true
   else
    ZbM a0.Clear 0 255 >>= fun r14 =>
    pure r14) >>= fun y15 =>
  (if y15 = true then
    pure true
   else
    ZbM a0.Type_ 0 256 >>= fun r16 =>
    pure r16) >>= fun y17 =>
  (if y17 = true then
    pure true
   else
    Za5 a0.Set a0.Clear >>= fun r18 =>
    pure r18) >>= fun y19 =>
  if y19 = true then
   pure 166
  else
   (if a0.Class ≠ 0 then
     pure (a0.Act != 1)
    else
     pure false) >>= fun y20 =>
   (if y20 = true then
     pure true
    else
     (if a0.Kind = 1 then
       pure (a0.Proto != 0)
      else
       pure false) >>= fun y21 =>
     pure y21) >>= fun y22 =>
   (if y22 = true then
     pure true
    else
     (if (IntKind.wrap .i64 (a0.Set + a0.Clear)) ≠ 0 then
       pure (a0.Proto != 6)
      else
       pure false) >>= fun y23 =>
     pure y23) >>= fun y24 =>
   (if y24 = true then
     pure true
    else
     (if a0.Type_ ≠ 0 then
       pure (a0.Proto != 1)
      else
       pure false) >>= fun y25 =>
     (if y25 = true then
       pure (a0.Proto != 58)
      else
       pure false) >>= fun y26 =>
     pure y26) >>= fun y27 =>
   if y27 = true then
    pure 165
   else
    Zar a0 a0.From >>= fun r28 =>
    if r28 ≠ 0 then
     pure r28
    else
     Zar a0 a0.To >>= fun r29 =>
     pure r29
theorem Zfl (a0 : Zag) : Ref Tryz.prog 24 [Zak.val a0] (ZcG a0) ZcG.out := by
 refine J.Fn Tryz.func24 ?_
 unfold ZcG
 refine SJ.sr 2 <| J.b 0 Zak a0 fun b1 => J.z 1 <| SJ.seq <| SJ.sr 28 <| J.k 1 0 rfl Ty3 (ZbS _) <| J.C 0 F68 (Zce _ _ _) fun r2 => J.j 1 3 .bool ?_ ?_ fun y4 => ?_
 ·exact J.e 4
 ·exact J.k 1 0 rfl Ty3 (ZbU _) <| J.C 0 F68 (Zce _ _ _) fun r3 => J.e 1
 refine J.j 1 3 .bool ?_ ?_ fun y6 => ?_
 ·exact J.e 4
 ·exact J.k 1 0 rfl Ty3 (Zbk _) <| J.C 0 F68 (Zce _ _ _) fun r5 => J.e 1
 refine J.j 1 3 .bool ?_ ?_ fun y8 => ?_
 ·exact J.e 4
 ·exact J.k 1 0 rfl Ty3 (Za1 _) <| J.C 0 F68 (Zce _ _ _) fun r7 => J.e 1
 refine J.j 1 3 .bool ?_ ?_ fun y10 => ?_
 ·exact J.e 4
 ·exact J.k 1 0 rfl Ty3 (ZcY _) <| J.C 0 F68 (Zce _ _ _) fun r9 => J.e 1
 refine J.j 1 3 .bool ?_ ?_ fun y12 => ?_
 ·exact J.e 4
 ·exact J.k 1 0 rfl Ty3 (ZcJ _) <| J.C 0 F68 (Zce _ _ _) fun r11 => J.e 1
 refine J.z 0 <| J.f ?_ ?_
 ·exact SJ.sr 1 <| J.z 1 <| J.r
 refine SJ.skip <| SJ.seq <| SJ.sr 20 <| J.k 1 0 rfl Ty3 (ZbR _) <| J.C 0 F68 (Zce _ _ _) fun r13 => J.j 1 3 .bool ?_ ?_ fun y15 => ?_
 ·exact J.e 4
 ·exact J.k 1 0 rfl Ty3 (ZbG _) <| J.C 0 F68 (Zce _ _ _) fun r14 => J.e 1
 refine J.j 1 3 .bool ?_ ?_ fun y17 => ?_
 ·exact J.e 4
 ·exact J.k 1 0 rfl Ty3 (ZbT _) <| J.C 0 F68 (Zce _ _ _) fun r16 => J.e 1
 refine J.j 1 5 .bool ?_ ?_ fun y19 => ?_
 ·exact J.e 6
 ·exact J.k 1 0 rfl Ty3 (ZbR _) <| J.k 1 0 rfl Ty3 (ZbG _) <| J.C 0 F69 (ZhQ _ _) fun r18 => J.e 1
 refine J.z 0 <| J.f ?_ ?_
 ·exact SJ.sr 1 <| J.z 1 <| J.r
 refine SJ.skip <| SJ.seq <| SJ.sr 46 <| J.k 1 0 rfl Ty3 (ZbU _) <| J.j 2 3 .bool ?_ ?_ fun y20 => ?_
 ·exact J.k 1 0 rfl Ty3 (ZbS _) <| J.e 2
 ·exact J.e 4
 refine J.g 1 <| OJ.join (b := y20) [9, 10, 11, 12, 13, 14, 15, 16, 17] [18, 19, 20, 21, 22, 23, 24, 25, 26, 27, 28, 29, 30, 31, 32, 33, 34, 35, 36, 37, 38, 39, 40, 41, 42, 43, 44, 45] [1, 69] (fun y22 => [(1, .pointer (some (pt b1 0))), (69, .bool y22)]) [] [] (t := 60) Iff.rfl (fun hp_ => ?_) (fun hp_ => ?_) (fun _ _ _ _ _ _ h_ => h_) fun y22 => ?_
 ·exact J.g 9 <| OJ.nil ⟨(Cov.mem Cov.nil), rfl, _, rfl, by kernel_rfl⟩
 ·refine J.k 1 0 rfl Ty3 (Zbk _) <| J.g 2 <| OJ.join (b := (a0.Kind == 1)) [13, 14, 15, 16] [17] [1, 60, 68] (fun y21 => [(1, .pointer (some (pt b1 0))), (60, .bool false), (68, .bool y21)]) [] [] (t := 64) beq_iff_eq (fun hp_ => ?_) (fun hp_ => ?_) (fun _ _ _ _ _ hq_ h_ => ⟨fun e_ he_ => (hq_ e_ he_).elim (fun h => h_.1 e_ h) (fun h => nomatch h), h_.2⟩) fun y21 => ?_
  ·exact J.k 1 0 rfl Ty3 (Za1 _) <| J.g 2 <| OJ.nil ⟨(Cov.mem Cov.nil), rfl, _, rfl, by kernel_rfl⟩
  ·exact J.g 4 <| OJ.nil ⟨(Cov.mem Cov.nil), rfl, _, rfl, by kernel_rfl⟩
  exact J.g 1 <| OJ.nil ⟨(Cov.mem Cov.nil), rfl, _, rfl, by kernel_rfl⟩
 refine J.g 1 <| OJ.join (b := y22) [19, 20, 21, 22, 23, 24, 25, 26, 27, 28, 29, 30] [31, 32, 33, 34, 35, 36, 37, 38, 39, 40, 41, 42, 43, 44, 45] [1, 82] (fun y24 => [(1, .pointer (some (pt b1 0))), (82, .bool y24)]) [] [] (t := 70) Iff.rfl (fun hp_ => ?_) (fun hp_ => ?_) (fun _ _ _ _ _ _ h_ => h_) fun y24 => ?_
 ·exact J.g 12 <| OJ.nil ⟨(Cov.mem Cov.nil), rfl, _, rfl, by kernel_rfl⟩
 ·refine J.k 1 0 rfl Ty3 (ZbR _) <| J.k 1 0 rfl Ty3 (ZbG _) <| J.g 3 <| OJ.join (b := ((IntKind.wrap .i64 (a0.Set + a0.Clear)) != 0)) [26, 27, 28, 29] [30] [1, 70, 81] (fun y23 => [(1, .pointer (some (pt b1 0))), (70, .bool false), (81, .bool y23)]) [] [] (t := 77) bne_iff_ne (fun hp_ => ?_) (fun hp_ => ?_) (fun _ _ _ _ _ hq_ h_ => ⟨fun e_ he_ => (hq_ e_ he_).elim (fun h => h_.1 e_ h) (fun h => nomatch h), h_.2⟩) fun y23 => ?_
  ·exact J.k 1 0 rfl Ty3 (Za1 _) <| J.g 2 <| OJ.nil ⟨(Cov.mem Cov.nil), rfl, _, rfl, by kernel_rfl⟩
  ·exact J.g 4 <| OJ.nil ⟨(Cov.mem Cov.nil), rfl, _, rfl, by kernel_rfl⟩
  exact J.g 1 <| OJ.nil ⟨(Cov.mem Cov.nil), rfl, _, rfl, by kernel_rfl⟩
 refine J.g 1 <| OJ.join (b := y24) [32, 33, 34, 35, 36, 37, 38, 39, 40, 41, 42, 43, 44, 45] [] [1, 97] (fun y27 => [(1, .pointer (some (pt b1 0))), (97, .bool y27)]) [] [] (t := 83) Iff.rfl (fun hp_ => ?_) (fun hp_ => ?_) (fun _ _ _ _ _ _ h_ => h_) fun y27 => ?_
 ·exact J.g 14 <| OJ.nil ⟨(Cov.mem Cov.nil), rfl, _, rfl, by kernel_rfl⟩
 ·refine J.k 1 0 rfl Ty3 (ZbT _) <| J.g 2 <| OJ.join (b := (a0.Type_ != 0)) [36, 37, 38, 39] [40, 41, 42, 43, 44, 45] [1, 83, 91] (fun y25 => [(1, .pointer (some (pt b1 0))), (83, .bool false), (91, .bool y25)]) [] [] (t := 87) bne_iff_ne (fun hp_ => ?_) (fun hp_ => ?_) (fun _ _ _ _ _ hq_ h_ => ⟨fun e_ he_ => (hq_ e_ he_).elim (fun h => h_.1 e_ h) (fun h => nomatch h), h_.2⟩) fun y25 => ?_
  ·exact J.k 1 0 rfl Ty3 (Za1 _) <| J.g 2 <| OJ.nil ⟨(Cov.mem Cov.nil), rfl, _, rfl, by kernel_rfl⟩
  ·exact J.g 4 <| OJ.nil ⟨(Cov.mem Cov.nil), rfl, _, rfl, by kernel_rfl⟩
  refine J.g 1 <| OJ.join (b := y25) [41, 42, 43, 44] [45] [1, 83, 96] (fun y26 => [(1, .pointer (some (pt b1 0))), (83, .bool false), (96, .bool y26)]) [] [] (t := 92) Iff.rfl (fun hp_ => ?_) (fun hp_ => ?_) (fun _ _ _ _ _ hq_ h_ => ⟨fun e_ he_ => (hq_ e_ he_).elim (fun h => h_.1 e_ h) (fun h => nomatch h), h_.2⟩) fun y26 => ?_
  ·exact J.k 1 0 rfl Ty3 (Za1 _) <| J.g 2 <| OJ.nil ⟨(Cov.mem Cov.nil), rfl, _, rfl, by kernel_rfl⟩
  ·exact J.g 4 <| OJ.nil ⟨(Cov.mem Cov.nil), rfl, _, rfl, by kernel_rfl⟩
  exact J.g 1 <| OJ.nil ⟨(Cov.mem Cov.nil), rfl, _, rfl, by kernel_rfl⟩
 refine J.z 0 <| J.f ?_ ?_
 ·exact SJ.sr 1 <| J.z 1 <| J.r
 refine SJ.skip <| SJ.sr 5 <| J.k 0 0 rfl Ty28 (At.whole _) <| J.k 1 0 rfl Ty26 (Zcu _) <| J.C 0 F70 (ZfK _ _) fun r28 => J.z 1 <| SJ.seq <| SJ.sr 2 <| J.z 2 <| J.f ?_ ?_
 ·exact SJ.sr 2 <| J.z 2 <| J.r
 exact SJ.skip <| SJ.sr 5 <| J.k 0 0 rfl Ty28 (At.whole _) <| J.k 1 0 rfl Ty26 (Zcl _) <| J.C 0 F70 (ZfK _ _) fun r29 => J.z 1 <| J.r

/-! ### weir/weirref16.decimal: function 64 -/
noncomputable def Zaz.B : Code := bod Tryz.f64
noncomputable def Zaz.out (r_ : ByteArray) : Value := .string r_
noncomputable def Zaz.body (rec_ : Int → M ByteArray) (a0 : Int) : M ByteArray :=
 if a0 < 10 then
  newv 5 ((cI .u8).arr 1) (⟨[IntKind.wrap .u8 (IntKind.wrap .i64 (48 + a0))], rfl⟩ : Vec Int 1) >>= fun b3 =>
  toStr (⟨some (pt b3 0), 1, 1⟩ : Sl) >>= fun r4 =>
  pure r4
 else
  draws 64 3 (Zd8 (c1 (c2 (c2 Zaz.B)))) >>= fun o5 =>
  if bfr o5 2 7 = true then
   rec_ (IntKind.wrap .i64 (Int.tdiv a0 10)) >>= fun r18 =>
   newv 5 ((cI .u8).arr 1) (⟨[IntKind.wrap .u8 (IntKind.wrap .i64 (48 + (Int.tmod a0 10)))], rfl⟩ : Vec Int 1) >>= fun b19 =>
   toStr (⟨some (pt b19 0), 1, 1⟩ : Sl) >>= fun r20 =>
   chk (((r18.size + r20.size : Nat) : Int) ≤ 9223372036854775807) >>= fun _ =>
   pure (r18 ++ r20)
  else
   if bfr o5 2 8 = true then
    newv 5 ((cI .u8).arr 1) (⟨[IntKind.wrap .u8 (IntKind.wrap .i64 (48 + (Int.tmod a0 10)))], rfl⟩ : Vec Int 1) >>= fun b22 =>
    rec_ (IntKind.wrap .i64 (Int.tdiv a0 10)) >>= fun r23 =>
    toStr (⟨some (pt b22 0), 1, 1⟩ : Sl) >>= fun r24 =>
    chk (((r23.size + r24.size : Nat) : Int) ≤ 9223372036854775807) >>= fun _ =>
    pure (r23 ++ r24)
   else
    newv 5 ((cI .u8).arr 1) (⟨[IntKind.wrap .u8 (IntKind.wrap .i64 (48 + (Int.tmod a0 10)))], rfl⟩ : Vec Int 1) >>= fun b25 =>
    toStr (⟨some (pt b25 0), 1, 1⟩ : Sl) >>= fun r26 =>
    rec_ (IntKind.wrap .i64 (Int.tdiv a0 10)) >>= fun r27 =>
    chk (((r27.size + r26.size : Nat) : Int) ≤ 9223372036854775807) >>= fun _ =>
    pure (r27 ++ r26)
theorem Zaz.body_ok  (rec_ : Int → M ByteArray) (h_rec_ : ∀ (x0_ : Int), Ref Tryz.prog 64 [.int .i64 x0_] (rec_ x0_) Zaz.out) (a0 : Int) : Ref Tryz.prog 64 [.int .i64 a0] (Zaz.body rec_ a0) Zaz.out := by
 refine J.Fn Tryz.func64 ?_
 unfold Zaz.body
 refine SJ.sr 1 <| J.z 1 <| SJ.seq <| SJ.sr 2 <| J.z 2 <| J.f ?_ ?_
 ·exact SJ.sr 6 <| J.N 3 Ty5 fun b3 => OJ.toStr (d := 9) (t := 70) (u := 9) (E := 5) (x := .tmp 8) (owed := []) fun r4 => OW.nil <| J.z 1 <| J.r
 refine SJ.skip <| SJ.seq <| SJ.draws (id := 3) (kd := [0, 0, 2, 0, 0, 0, 0, 2, 2, 0, 0]) (bef := [0, 1, 3, 0, 8, 24, 56, 120, 248, 511, 1023]) (ord := [0, 1, 2, 3, 4, 5, 6, 7, 8, 9, 10]) (E := [(2, 7), (2, 8)]) ZcR fun o5 hg_ => SJ.bfr hg_ (by decide) (fun ho17 => ?_) fun ho17 => ?_
 ·exact SJ.leaf hg_ (kd := [0, 0, 2, 0, 0, 0, 0, 2, 2, 0, 0]) (bef := [0, 1, 3, 0, 8, 24, 56, 120, 248, 511, 1023]) (ord := [0, 1, 2, 3, 4, 5, 6, 7, 8, 9, 10]) (E := [(2, 7), (2, 8)]) (allB.cons ho17 (allB.cons (Zih ho17 (hg_.dep' _ (x := 7) (y := 8) (by kernel_rfl))) allB.nil)) <| J.C 2 F64 (h_rec_ (IntKind.wrap .i64 (Int.tdiv a0 10))) fun r18 => J.N 4 Ty5 fun b19 => OJ.toStr (d := 18) (t := 70) (u := 9) (E := 5) (x := .tmp 17) (owed := []) fun r20 => OW.nil <| J.T 0 <| J.z 1 <| J.r
 refine SJ.bfr hg_ (by decide) (fun ho21 => ?_) fun ho21 => ?_
 ·exact SJ.leaf hg_ (kd := [0, 0, 2, 0, 0, 0, 0, 2, 2, 0, 0]) (bef := [0, 1, 3, 0, 8, 24, 56, 120, 248, 511, 1023]) (ord := [0, 1, 3, 4, 5, 6, 7, 2, 8, 9, 10]) (E := [(7, 2), (2, 8)]) (allB.cons ho17 (allB.cons ho21 allB.nil)) <| J.N 6 Ty5 fun b22 => J.C 0 F64 (h_rec_ (IntKind.wrap .i64 (Int.tdiv a0 10))) fun r23 => OJ.toStr (d := 18) (t := 70) (u := 9) (E := 5) (x := .tmp 17) (owed := []) fun r24 => OW.nil <| J.T 0 <| J.z 1 <| J.r
 exact SJ.leaf hg_ (kd := [0, 0, 2, 0, 0, 0, 0, 2, 2, 0, 0]) (bef := [0, 1, 3, 0, 8, 24, 56, 120, 248, 511, 1023]) (ord := [0, 1, 3, 4, 5, 6, 7, 8, 2, 9, 10]) (E := [(7, 2), (8, 2)]) (allB.cons ho17 (allB.cons ho21 allB.nil)) <| J.N 6 Ty5 fun b25 => OJ.toStr (d := 18) (t := 70) (u := 9) (E := 5) (x := .tmp 17) (owed := []) fun r26 => OW.nil <| J.C 0 F64 (h_rec_ (IntKind.wrap .i64 (Int.tdiv a0 10))) fun r27 => J.T 0 <| J.z 1 <| J.r
noncomputable def Zaz.go  : Nat → Int → M ByteArray
 | 0 => fun a0 => fun _ => none
 | n + 1 => fun a0 => Zaz.body (Zaz.go  n) a0
theorem Zaz.go_ok  : ∀ (n : Nat) (a0 : Int), Ref Tryz.prog 64 [.int .i64 a0] (Zaz.go  n a0) Zaz.out
 | 0, a0 => fun v r v' e => by cases e
 | n + 1, a0 => Zaz.body_ok  (Zaz.go  n) (Zaz.go_ok  n) a0
noncomputable def Zaz (a0 : Int) : M ByteArray := Zaz.go  1000000000000 a0
theorem Zb6 (a0 : Int) : Ref Tryz.prog 64 [.int .i64 a0] (Zaz a0) Zaz.out := Zaz.go_ok  1000000000000 a0

/-! ### weir/weirref16.proto: function 116 -/
noncomputable def ZcF.out (r_ : ByteArray) : Value := .string r_
noncomputable def ZcF (a0 : Int) : M ByteArray :=
 if a0 = 6 then
  pure str4
 else
  if a0 = 17 then
   pure str5
  else
   if a0 = 1 then
    pure str6
   else
    if a0 = 58 then
     pure str7
    else
     Zaz a0 >>= fun r12 =>
     chk (((ZsF.size + r12.size : Nat) : Int) ≤ 9223372036854775807) >>= fun _ =>
     pure (ZsF ++ r12)
theorem Zfk (a0 : Int) : Ref Tryz.prog 116 [.int .i64 a0] (ZcF a0) ZcF.out := by
 refine J.Fn Tryz.func116 ?_
 unfold ZcF
 refine SJ.sr 1 <| J.z 1 <| SJ.seq <| SJ.sr 1 <| J.z 1 <| SJ.block (id := 0) <| SJ.sr 2 <| J.z 2 <| J.f ?_ ?_
 ·exact SJ.sr 1 <| J.z 1 <| J.r
 refine SJ.sr 2 <| J.z 2 <| J.f ?_ ?_
 ·exact SJ.sr 1 <| J.z 1 <| J.r
 refine SJ.sr 2 <| J.z 2 <| J.f ?_ ?_
 ·exact SJ.sr 1 <| J.z 1 <| J.r
 refine SJ.sr 2 <| J.z 2 <| J.f ?_ ?_
 ·exact SJ.sr 1 <| J.z 1 <| J.r
 exact SJ.skip <| SJ.inBlock <| SJ.sr 4 <| J.C 1 F64 (Zb6 _) fun r12 => J.T 0 <| J.z 1 <| J.r

/-! ### weir/weirref16.what: function 65 -/
noncomputable def Zdm.out (r_ : ByteArray) : Value := .string r_
noncomputable def Zdm (a0 : Zag) : M ByteArray :=
 slot 28 >>= fun b1 =>
 newv 9 (cS.arr 4) (⟨[ByteArray.empty, ZtA, Ztz, Zty], rfl⟩ : Vec ByteArray 4) >>= fun b2 =>
 (if a0.Kind = 0 then
   pure (a0.Proto == 0)
  else
   pure false) >>= fun y3 =>
 if y3 = true then
  pure Zlt
 else
  if a0.Proto = 0 then
   idx (⟨some (pt b2 0), 4, 4⟩ : Sl).a (⟨some (pt b2 0), 4, 4⟩ : Sl).len a0.Kind 1 >>= fun p20 =>
   ld cS p20 >>= fun x21 =>
   pure x21
  else
   if a0.Kind = 0 then
    ZcF a0.Proto >>= fun r23 =>
    pure r23
   else
    draw >>= fun _ =>
    idx (⟨some (pt b2 0), 4, 4⟩ : Sl).a (⟨some (pt b2 0), 4, 4⟩ : Sl).len a0.Kind 1 >>= fun p24 =>
    ld cS p24 >>= fun x25 =>
    chk (((x25.size + str8.size : Nat) : Int) ≤ 9223372036854775807) >>= fun _ =>
    ZcF a0.Proto >>= fun r26 =>
    same cS p24 x25 >>= fun _ =>
    chk ((((x25 ++ str8).size + r26.size : Nat) : Int) ≤ 9223372036854775807) >>= fun _ =>
    pure ((x25 ++ str8) ++ r26)
theorem Zip (a0 : Zag) : Ref Tryz.prog 65 [Zak.val a0] (Zdm a0) Zdm.out := by
 refine J.Fn Tryz.func65 ?_
 unfold Zdm
 refine SJ.sr 2 <| J.b 0 Zak a0 fun b1 => J.z 1 <| SJ.sr 2 <| J.N 0 Ty9 fun b2 => J.z 1 <| SJ.seq <| SJ.block (id := 0) <| SJ.sr 9 <| J.k 1 0 rfl Ty3 (Zbk _) <| J.j 2 3 .bool ?_ ?_ fun y3 => ?_
 ·exact J.k 1 0 rfl Ty3 (Za1 _) <| J.e 2
 ·exact J.e 4
 refine J.z 1 <| J.f ?_ ?_
 ·exact SJ.sr 1 <| J.z 1 <| J.r
 refine SJ.sr 4 <| J.k 1 0 rfl Ty3 (Za1 _) <| J.z 2 <| J.f ?_ ?_
 ·exact SJ.sr 6 <| J.k 2 0 rfl Ty3 (Zbk _) <| J.i 0 fun p20 => J.l 0 Ty9 fun x21 => J.z 1 <| J.r
 refine SJ.sr 4 <| J.k 1 0 rfl Ty3 (Zbk _) <| J.z 2 <| J.f ?_ ?_
 ·exact SJ.sr 4 <| J.k 1 0 rfl Ty3 (Za1 _) <| J.C 0 F116 (Zfk _) fun r23 => J.z 1 <| J.r
 exact SJ.skip <| SJ.inBlock <| SJ.seq <| J.R 11 ZcR <| J.k 2 0 rfl Ty3 (Zbk _) <| J.i 0 fun p24 => J.l 0 Ty9 fun x25 => J.T 0 <| J.k 1 0 rfl Ty3 (Za1 _) <| OJ.call (d := 38) (g := 116) (ats := #[3]) (args := [.tmp 37]) (owed := [⟨4, 9, p24, cS.val x25⟩, ⟨2, 3, (pt b1 2), (cI .i64).val a0.Kind⟩]) F116 (Zfk a0.Proto) fun r26 => OW.same Ty9 <| OW.known (j := 0) (q := a0.Kind) Ty3 rfl (Zbk a0) <| OW.nil <| J.T 0 <| J.z 1 <| J.r

/-! ### weir/weirref4.number: function 190 -/
noncomputable def ZaJ.B : Code := bod Tryz.f190
noncomputable def ZaJ.out (r_ : ByteArray) : Value := .string r_
noncomputable def ZaJ.body (rec_ : Int → M ByteArray) (a0 : Int) : M ByteArray :=
 if a0 < 10 then
  newv 5 ((cI .u8).arr 1) (⟨[IntKind.wrap .u8 (IntKind.wrap .i64 (48 + a0))], rfl⟩ : Vec Int 1) >>= fun b3 =>
  toStr (⟨some (pt b3 0), 1, 1⟩ : Sl) >>= fun r4 =>
  pure r4
 else
  draws 190 3 (Zd8 (c1 (c2 (c2 ZaJ.B)))) >>= fun o5 =>
  if bfr o5 2 7 = true then
   rec_ (IntKind.wrap .i64 (Int.tdiv a0 10)) >>= fun r18 =>
   newv 5 ((cI .u8).arr 1) (⟨[IntKind.wrap .u8 (IntKind.wrap .i64 (48 + (Int.tmod a0 10)))], rfl⟩ : Vec Int 1) >>= fun b19 =>
   toStr (⟨some (pt b19 0), 1, 1⟩ : Sl) >>= fun r20 =>
   chk (((r18.size + r20.size : Nat) : Int) ≤ 9223372036854775807) >>= fun _ =>
   pure (r18 ++ r20)
  else
   if bfr o5 2 8 = true then
    newv 5 ((cI .u8).arr 1) (⟨[IntKind.wrap .u8 (IntKind.wrap .i64 (48 + (Int.tmod a0 10)))], rfl⟩ : Vec Int 1) >>= fun b22 =>
    rec_ (IntKind.wrap .i64 (Int.tdiv a0 10)) >>= fun r23 =>
    toStr (⟨some (pt b22 0), 1, 1⟩ : Sl) >>= fun r24 =>
    chk (((r23.size + r24.size : Nat) : Int) ≤ 9223372036854775807) >>= fun _ =>
    pure (r23 ++ r24)
   else
    newv 5 ((cI .u8).arr 1) (⟨[IntKind.wrap .u8 (IntKind.wrap .i64 (48 + (Int.tmod a0 10)))], rfl⟩ : Vec Int 1) >>= fun b25 =>
    toStr (⟨some (pt b25 0), 1, 1⟩ : Sl) >>= fun r26 =>
    rec_ (IntKind.wrap .i64 (Int.tdiv a0 10)) >>= fun r27 =>
    chk (((r27.size + r26.size : Nat) : Int) ≤ 9223372036854775807) >>= fun _ =>
    pure (r27 ++ r26)
theorem ZaJ.body_ok  (rec_ : Int → M ByteArray) (h_rec_ : ∀ (x0_ : Int), Ref Tryz.prog 190 [.int .i64 x0_] (rec_ x0_) ZaJ.out) (a0 : Int) : Ref Tryz.prog 190 [.int .i64 a0] (ZaJ.body rec_ a0) ZaJ.out := by
 refine J.Fn Tryz.func190 ?_
 unfold ZaJ.body
 refine SJ.sr 1 <| J.z 1 <| SJ.seq <| SJ.sr 2 <| J.z 2 <| J.f ?_ ?_
 ·exact SJ.sr 6 <| J.N 3 Ty5 fun b3 => OJ.toStr (d := 9) (t := 70) (u := 9) (E := 5) (x := .tmp 8) (owed := []) fun r4 => OW.nil <| J.z 1 <| J.r
 refine SJ.skip <| SJ.seq <| SJ.draws (id := 3) (kd := [0, 0, 2, 0, 0, 0, 0, 2, 2, 0, 0]) (bef := [0, 1, 3, 0, 8, 24, 56, 120, 248, 511, 1023]) (ord := [0, 1, 2, 3, 4, 5, 6, 7, 8, 9, 10]) (E := [(2, 7), (2, 8)]) ZcR fun o5 hg_ => SJ.bfr hg_ (by decide) (fun ho17 => ?_) fun ho17 => ?_
 ·exact SJ.leaf hg_ (kd := [0, 0, 2, 0, 0, 0, 0, 2, 2, 0, 0]) (bef := [0, 1, 3, 0, 8, 24, 56, 120, 248, 511, 1023]) (ord := [0, 1, 2, 3, 4, 5, 6, 7, 8, 9, 10]) (E := [(2, 7), (2, 8)]) (allB.cons ho17 (allB.cons (Zih ho17 (hg_.dep' _ (x := 7) (y := 8) (by kernel_rfl))) allB.nil)) <| J.C 2 F190 (h_rec_ (IntKind.wrap .i64 (Int.tdiv a0 10))) fun r18 => J.N 4 Ty5 fun b19 => OJ.toStr (d := 18) (t := 70) (u := 9) (E := 5) (x := .tmp 17) (owed := []) fun r20 => OW.nil <| J.T 0 <| J.z 1 <| J.r
 refine SJ.bfr hg_ (by decide) (fun ho21 => ?_) fun ho21 => ?_
 ·exact SJ.leaf hg_ (kd := [0, 0, 2, 0, 0, 0, 0, 2, 2, 0, 0]) (bef := [0, 1, 3, 0, 8, 24, 56, 120, 248, 511, 1023]) (ord := [0, 1, 3, 4, 5, 6, 7, 2, 8, 9, 10]) (E := [(7, 2), (2, 8)]) (allB.cons ho17 (allB.cons ho21 allB.nil)) <| J.N 6 Ty5 fun b22 => J.C 0 F190 (h_rec_ (IntKind.wrap .i64 (Int.tdiv a0 10))) fun r23 => OJ.toStr (d := 18) (t := 70) (u := 9) (E := 5) (x := .tmp 17) (owed := []) fun r24 => OW.nil <| J.T 0 <| J.z 1 <| J.r
 exact SJ.leaf hg_ (kd := [0, 0, 2, 0, 0, 0, 0, 2, 2, 0, 0]) (bef := [0, 1, 3, 0, 8, 24, 56, 120, 248, 511, 1023]) (ord := [0, 1, 3, 4, 5, 6, 7, 8, 2, 9, 10]) (E := [(7, 2), (8, 2)]) (allB.cons ho17 (allB.cons ho21 allB.nil)) <| J.N 6 Ty5 fun b25 => OJ.toStr (d := 18) (t := 70) (u := 9) (E := 5) (x := .tmp 17) (owed := []) fun r26 => OW.nil <| J.C 0 F190 (h_rec_ (IntKind.wrap .i64 (Int.tdiv a0 10))) fun r27 => J.T 0 <| J.z 1 <| J.r
noncomputable def ZaJ.go  : Nat → Int → M ByteArray
 | 0 => fun a0 => fun _ => none
 | n + 1 => fun a0 => ZaJ.body (ZaJ.go  n) a0
theorem ZaJ.go_ok  : ∀ (n : Nat) (a0 : Int), Ref Tryz.prog 190 [.int .i64 a0] (ZaJ.go  n a0) ZaJ.out
 | 0, a0 => fun v r v' e => by cases e
 | n + 1, a0 => ZaJ.body_ok  (ZaJ.go  n) (ZaJ.go_ok  n) a0
noncomputable def ZaJ (a0 : Int) : M ByteArray := ZaJ.go  1000000000000 a0
theorem Zda (a0 : Int) : Ref Tryz.prog 190 [.int .i64 a0] (ZaJ a0) ZaJ.out := ZaJ.go_ok  1000000000000 a0

/-! ### weir/weirref4.dots: function 192 -/
noncomputable def Zdb.out (r_ : ByteArray) : Value := .string r_
noncomputable def Zdb (a0 : (Vec Int 16)) (a1 : Int) : M ByteArray :=
 slot 64 >>= fun b1 =>
 draw >>= fun _ =>
 chk ((0 : Int) ≤ a1 ∧ a1 < (16 : Nat)) >>= fun _ =>
 chk ((0 : Int) ≤ (IntKind.wrap .i64 (a1 + 1)) ∧ (IntKind.wrap .i64 (a1 + 1)) < (16 : Nat)) >>= fun _ =>
 chk ((0 : Int) ≤ (IntKind.wrap .i64 (a1 + 2)) ∧ (IntKind.wrap .i64 (a1 + 2)) < (16 : Nat)) >>= fun _ =>
 chk ((0 : Int) ≤ (IntKind.wrap .i64 (a1 + 3)) ∧ (IntKind.wrap .i64 (a1 + 3)) < (16 : Nat)) >>= fun _ =>
 ZaJ (IntKind.wrap .i64 (Vec.g a0 a1 0)) >>= fun r10 =>
 chk (((r10.size + Zgl.size : Nat) : Int) ≤ 9223372036854775807) >>= fun _ =>
 ZaJ (IntKind.wrap .i64 (Vec.g a0 (IntKind.wrap .i64 (a1 + 1)) 0)) >>= fun r11 =>
 chk ((((r10 ++ Zgl).size + r11.size : Nat) : Int) ≤ 9223372036854775807) >>= fun _ =>
 chk (((((r10 ++ Zgl) ++ r11).size + Zgl.size : Nat) : Int) ≤ 9223372036854775807) >>= fun _ =>
 ZaJ (IntKind.wrap .i64 (Vec.g a0 (IntKind.wrap .i64 (a1 + 2)) 0)) >>= fun r12 =>
 chk ((((((r10 ++ Zgl) ++ r11) ++ Zgl).size + r12.size : Nat) : Int) ≤ 9223372036854775807) >>= fun _ =>
 chk (((((((r10 ++ Zgl) ++ r11) ++ Zgl) ++ r12).size + Zgl.size : Nat) : Int) ≤ 9223372036854775807) >>= fun _ =>
 ZaJ (IntKind.wrap .i64 (Vec.g a0 (IntKind.wrap .i64 (a1 + 3)) 0)) >>= fun r13 =>
 chk ((((((((r10 ++ Zgl) ++ r11) ++ Zgl) ++ r12) ++ Zgl).size + r13.size : Nat) : Int) ≤ 9223372036854775807) >>= fun _ =>
 pure ((((((r10 ++ Zgl) ++ r11) ++ Zgl) ++ r12) ++ Zgl) ++ r13)
theorem Zgb (a0 : (Vec Int 16)) (a1 : Int) : Ref Tryz.prog 192 [((cI .u8).arr 16).val a0, .int .i64 a1] (Zdb a0 a1) Zdb.out := by
 refine J.Fn Tryz.func192 ?_
 unfold Zdb
 exact SJ.sr 2 <| J.b 0 ((cI .u8).arr 16) a0 fun b1 => J.z 1 <| SJ.seq <| J.D [0, 1, 2, 3, 6, 7, 8, 9, 14, 15, 16, 17, 22, 23, 24, 25, 4, 5, 10, 11, 12, 13, 18, 19, 20, 21, 26, 27, 28, 29] ZcR <| J.y 1 fun hb2 hb3 => J.k 0 0 rfl Ty5 (At.zero (At.arr (z := 0) hb2 hb3)) <| J.y 3 fun hb4 hb5 => J.k 0 0 rfl Ty5 (At.zero (At.arr (z := 0) hb4 hb5)) <| J.y 2 fun hb6 hb7 => J.k 0 0 rfl Ty5 (At.zero (At.arr (z := 0) hb6 hb7)) <| J.y 2 fun hb8 hb9 => J.k 0 0 rfl Ty5 (At.zero (At.arr (z := 0) hb8 hb9)) <| OJ.call (d := 9) (g := 190) (ats := #[3]) (args := [.tmp 8]) (owed := [⟨25, 5, (pt b1 (0 + (IntKind.wrap .i64 (a1 + 3)).toNat * 1)), (cI .u8).val (Vec.g a0 (IntKind.wrap .i64 (a1 + 3)) 0)⟩, ⟨17, 5, (pt b1 (0 + (IntKind.wrap .i64 (a1 + 2)).toNat * 1)), (cI .u8).val (Vec.g a0 (IntKind.wrap .i64 (a1 + 2)) 0)⟩, ⟨9, 5, (pt b1 (0 + (IntKind.wrap .i64 (a1 + 1)).toNat * 1)), (cI .u8).val (Vec.g a0 (IntKind.wrap .i64 (a1 + 1)) 0)⟩]) F190 (Zda (IntKind.wrap .i64 (Vec.g a0 a1 0))) fun r10 => OW.known (j := 0) (q := (Vec.g a0 (IntKind.wrap .i64 (a1 + 3)) 0)) Ty5 rfl (At.zero (At.arr (z := 0) hb8 hb9)) <| OW.known (j := 0) (q := (Vec.g a0 (IntKind.wrap .i64 (a1 + 2)) 0)) Ty5 rfl (At.zero (At.arr (z := 0) hb6 hb7)) <| OW.known (j := 0) (q := (Vec.g a0 (IntKind.wrap .i64 (a1 + 1)) 0)) Ty5 rfl (At.zero (At.arr (z := 0) hb4 hb5)) <| OW.nil <| J.T 0 <| J.g 1 <| OJ.call (d := 16) (g := 190) (ats := #[3]) (args := [.tmp 15]) (owed := [⟨25, 5, (pt b1 (0 + (IntKind.wrap .i64 (a1 + 3)).toNat * 1)), (cI .u8).val (Vec.g a0 (IntKind.wrap .i64 (a1 + 3)) 0)⟩, ⟨17, 5, (pt b1 (0 + (IntKind.wrap .i64 (a1 + 2)).toNat * 1)), (cI .u8).val (Vec.g a0 (IntKind.wrap .i64 (a1 + 2)) 0)⟩]) F190 (Zda (IntKind.wrap .i64 (Vec.g a0 (IntKind.wrap .i64 (a1 + 1)) 0))) fun r11 => OW.known (j := 0) (q := (Vec.g a0 (IntKind.wrap .i64 (a1 + 3)) 0)) Ty5 rfl (At.zero (At.arr (z := 0) hb8 hb9)) <| OW.known (j := 0) (q := (Vec.g a0 (IntKind.wrap .i64 (a1 + 2)) 0)) Ty5 rfl (At.zero (At.arr (z := 0) hb6 hb7)) <| OW.nil <| J.T 0 <| J.T 0 <| J.g 1 <| OJ.call (d := 24) (g := 190) (ats := #[3]) (args := [.tmp 23]) (owed := [⟨25, 5, (pt b1 (0 + (IntKind.wrap .i64 (a1 + 3)).toNat * 1)), (cI .u8).val (Vec.g a0 (IntKind.wrap .i64 (a1 + 3)) 0)⟩]) F190 (Zda (IntKind.wrap .i64 (Vec.g a0 (IntKind.wrap .i64 (a1 + 2)) 0))) fun r12 => OW.known (j := 0) (q := (Vec.g a0 (IntKind.wrap .i64 (a1 + 3)) 0)) Ty5 rfl (At.zero (At.arr (z := 0) hb8 hb9)) <| OW.nil <| J.T 0 <| J.T 0 <| J.C 1 F190 (Zda _) fun r13 => J.T 0 <| J.z 1 <| J.r

/-! ### weir/weirref4.zeros: function 194 -/
noncomputable def Za7.B : Code := bod Tryz.f194
noncomputable def Za7.cx : Fx := ⟨Tryz.prog, 194, Tryz.f194, none⟩
noncomputable def Za7.out (r_ : Int) : Value := .int .i64 r_
noncomputable def Za7.F1 (a0 : (Vec Int 16)) (a1 : Int) (b1 : Nat) : LF Int Int := ⟨[.inBlock 0, .code (c2 (c2 (c2 Za7.B)))], c1 (c1 (c2 (c2 Za7.B))), fun s_ => [(1, .int .i64 a1), (2, .pointer (some (pt b1 0))), (5, .int .i64 s_)], fun s_ => [(b1, ((cI .u8).arr 16).enc a0)], (rt Za7.out)⟩
noncomputable def Za7.L1 (a0 : (Vec Int 16)) (a1 : Int) (s2 : Int) : M (LS Int Int) :=
 (if (IntKind.wrap .i64 (a1 + s2)) < 8 then
   chk ((0 : Int) ≤ (IntKind.wrap .i64 (2 * (IntKind.wrap .i64 (a1 + s2)))) ∧ (IntKind.wrap .i64 (2 * (IntKind.wrap .i64 (a1 + s2)))) < (16 : Nat)) >>= fun _ =>
   pure ((Vec.g a0 (IntKind.wrap .i64 (2 * (IntKind.wrap .i64 (a1 + s2)))) 0) == 0)
  else
   pure false) >>= fun y12 =>
 (if y12 = true then
   chk ((0 : Int) ≤ (IntKind.wrap .i64 ((IntKind.wrap .i64 (2 * (IntKind.wrap .i64 (a1 + s2)))) + 1)) ∧ (IntKind.wrap .i64 ((IntKind.wrap .i64 (2 * (IntKind.wrap .i64 (a1 + s2)))) + 1)) < (16 : Nat)) >>= fun _ =>
   pure ((Vec.g a0 (IntKind.wrap .i64 ((IntKind.wrap .i64 (2 * (IntKind.wrap .i64 (a1 + s2)))) + 1)) 0) == 0)
  else
   pure false) >>= fun y15 =>
 if y15 = true then
  pure (LS.next (IntKind.wrap .i64 (s2 + 1)))
 else
  pure (LS.done s2)
theorem Za7.L1_ok (a0 : (Vec Int 16)) (a1 : Int) (b1 : Nat) : LJ Za7.cx (Za7.F1 a0 a1 b1) (fun s_ => Za7.L1 a0 a1 s_) := by
 rintro s2
 show SJ _ _ _ _ (Za7.L1 a0 a1 s2) _
 unfold Za7.L1
 refine SJ.seq <| SJ.sr 23 <| J.j 5 7 .bool ?_ ?_ fun y12 => ?_
 ·exact J.y 4 fun hb10 hb11 => J.k 0 0 rfl Ty5 (At.zero (At.arr (z := 0) hb10 hb11)) <| J.e 2
 ·exact J.e 8
 refine J.j 1 8 .bool ?_ ?_ fun y15 => ?_
 ·exact J.y 5 fun hb13 hb14 => J.k 0 0 rfl Ty5 (At.zero (At.arr (z := 0) hb13 hb14)) <| J.e 2
 ·exact J.e 9
 refine J.z 0 <| J.f ?_ ?_
 ·exact SJ.skip <| SJ.block (id := 1) <| SJ.rg 3 <| J.z 3 <| SJ.inBlock <| J.o rfl
 exact SJ.exit (id := 0) (by rfl) <| SJ.sr 2 <| J.z 2 <| J.r
noncomputable def Za7 (a0 : (Vec Int 16)) (a1 : Int) : M Int :=
 slot 64 >>= fun b1 =>
 Zb9 (fun s_ : Int => Za7.L1 a0 a1 s_) 0
theorem ZfI (a0 : (Vec Int 16)) (a1 : Int) : Ref Tryz.prog 194 [((cI .u8).arr 16).val a0, .int .i64 a1] (Za7 a0 a1) Za7.out := by
 refine J.Fn Tryz.func194 ?_
 unfold Za7
 exact SJ.sr 2 <| J.b 0 ((cI .u8).arr 16) a0 fun b1 => J.z 1 <| SJ.sr 1 <| J.z 1 <| SJ.seq <| SJ.block (id := 0) <| J.L (Za7.L1_ok a0 a1 b1)

/-! ### weir/weirref4.mapped: function 193 -/
noncomputable def Zc0.out (r_ : Bool) : Value := .bool r_
noncomputable def Zc0 (a0 : (Vec Int 16)) : M Bool :=
 slot 64 >>= fun b1 =>
 Za7 a0 0 >>= fun r2 =>
 (if r2 = 5 then
   pure ((Vec.g a0 10 0) == 255)
  else
   pure false) >>= fun y3 =>
 (if y3 = true then
   pure ((Vec.g a0 11 0) == 255)
  else
   pure false) >>= fun y4 =>
 pure y4
theorem ZhP (a0 : (Vec Int 16)) : Ref Tryz.prog 193 [((cI .u8).arr 16).val a0] (Zc0 a0) Zc0.out := by
 refine J.Fn Tryz.func193 ?_
 unfold Zc0
 refine SJ.sr 2 <| J.b 0 ((cI .u8).arr 16) a0 fun b1 => J.z 1 <| SJ.sr 14 <| J.k 0 0 rfl Ty64 (At.whole _) <| J.C 0 F194 (ZfI _ _) fun r2 => J.j 2 3 .bool ?_ ?_ fun y3 => ?_
 ·exact J.k 1 0 rfl Ty5 (At.zero (At.arr (z := 0) (i := 10) (n := 16) (by decide) (by decide))) <| J.e 2
 ·exact J.e 4
 refine J.j 1 3 .bool ?_ ?_ fun y4 => ?_
 ·exact J.k 1 0 rfl Ty5 (At.zero (At.arr (z := 0) (i := 11) (n := 16) (by decide) (by decide))) <| J.e 2
 ·exact J.e 4
 exact J.z 1 <| J.r

/-! ### weir/weirref4.hex: function 195 -/
noncomputable def Za6.B : Code := bod Tryz.f195
noncomputable def Za6.out (r_ : ByteArray) : Value := .string r_
noncomputable def Za6.body (rec_ : Int → M ByteArray) (a0 : Int) : M ByteArray :=
 if a0 < 16 then
  chk ((0 : Int) ≤ a0 ∧ a0 < (Ziu.size : Int)) >>= fun _ =>
  newv 5 ((cI .u8).arr 1) (⟨[(sb Ziu a0)], rfl⟩ : Vec Int 1) >>= fun b7 =>
  toStr (⟨some (pt b7 0), 1, 1⟩ : Sl) >>= fun r8 =>
  pure r8
 else
  draws 195 3 (Zd8 (c1 (c2 (c2 Za6.B)))) >>= fun o9 =>
  if bfr o9 2 6 = true then
   rec_ (IntKind.wrap .i64 (Int.tdiv a0 16)) >>= fun r28 =>
   chk ((0 : Int) ≤ (Int.tmod a0 16) ∧ (Int.tmod a0 16) < (Ziu.size : Int)) >>= fun _ =>
   newv 5 ((cI .u8).arr 1) (⟨[(sb Ziu (Int.tmod a0 16))], rfl⟩ : Vec Int 1) >>= fun b31 =>
   toStr (⟨some (pt b31 0), 1, 1⟩ : Sl) >>= fun r32 =>
   chk (((r28.size + r32.size : Nat) : Int) ≤ 9223372036854775807) >>= fun _ =>
   pure (r28 ++ r32)
  else
   if bfr o9 2 7 = true then
    chk ((0 : Int) ≤ (Int.tmod a0 16) ∧ (Int.tmod a0 16) < (Ziu.size : Int)) >>= fun _ =>
    newv 5 ((cI .u8).arr 1) (⟨[(sb Ziu (Int.tmod a0 16))], rfl⟩ : Vec Int 1) >>= fun b36 =>
    rec_ (IntKind.wrap .i64 (Int.tdiv a0 16)) >>= fun r37 =>
    toStr (⟨some (pt b36 0), 1, 1⟩ : Sl) >>= fun r38 =>
    chk (((r37.size + r38.size : Nat) : Int) ≤ 9223372036854775807) >>= fun _ =>
    pure (r37 ++ r38)
   else
    chk ((0 : Int) ≤ (Int.tmod a0 16) ∧ (Int.tmod a0 16) < (Ziu.size : Int)) >>= fun _ =>
    newv 5 ((cI .u8).arr 1) (⟨[(sb Ziu (Int.tmod a0 16))], rfl⟩ : Vec Int 1) >>= fun b41 =>
    toStr (⟨some (pt b41 0), 1, 1⟩ : Sl) >>= fun r42 =>
    rec_ (IntKind.wrap .i64 (Int.tdiv a0 16)) >>= fun r43 =>
    chk (((r43.size + r42.size : Nat) : Int) ≤ 9223372036854775807) >>= fun _ =>
    pure (r43 ++ r42)
theorem Za6.body_ok  (rec_ : Int → M ByteArray) (h_rec_ : ∀ (x0_ : Int), Ref Tryz.prog 195 [.int .i64 x0_] (rec_ x0_) Za6.out) (a0 : Int) : Ref Tryz.prog 195 [.int .i64 a0] (Za6.body rec_ a0) Za6.out := by
 refine J.Fn Tryz.func195 ?_
 unfold Za6.body
 refine SJ.sr 1 <| J.z 1 <| SJ.seq <| SJ.sr 2 <| J.z 2 <| J.f ?_ ?_
 ·exact SJ.sr 5 <| J.t 1 fun hb5 hb6 => J.N 0 Ty5 fun b7 => OJ.toStr (d := 8) (t := 70) (u := 9) (E := 5) (x := .tmp 7) (owed := []) fun r8 => OW.nil <| J.z 1 <| J.r
 refine SJ.skip <| SJ.seq <| SJ.draws (id := 3) (kd := [0, 0, 2, 0, 0, 0, 2, 2, 0, 0]) (bef := [0, 1, 3, 0, 8, 24, 56, 120, 255, 511]) (ord := [0, 1, 2, 3, 4, 5, 6, 7, 8, 9]) (E := [(2, 6), (2, 7)]) ZcR fun o9 hg_ => SJ.bfr hg_ (by decide) (fun ho27 => ?_) fun ho27 => ?_
 ·exact SJ.leaf hg_ (kd := [0, 0, 2, 0, 0, 0, 2, 2, 0, 0]) (bef := [0, 1, 3, 0, 8, 24, 56, 120, 255, 511]) (ord := [0, 1, 2, 3, 4, 5, 6, 7, 8, 9]) (E := [(2, 6), (2, 7)]) (allB.cons ho27 (allB.cons (Zih ho27 (hg_.dep' _ (x := 6) (y := 7) (by kernel_rfl))) allB.nil)) <| J.C 2 F195 (h_rec_ (IntKind.wrap .i64 (Int.tdiv a0 16))) fun r28 => J.t 2 fun hb29 hb30 => J.N 0 Ty5 fun b31 => OJ.toStr (d := 16) (t := 70) (u := 9) (E := 5) (x := .tmp 15) (owed := []) fun r32 => OW.nil <| J.T 0 <| J.z 1 <| J.r
 refine SJ.bfr hg_ (by decide) (fun ho33 => ?_) fun ho33 => ?_
 ·exact SJ.leaf hg_ (kd := [0, 0, 2, 0, 0, 0, 2, 2, 0, 0]) (bef := [0, 1, 3, 0, 8, 24, 56, 120, 255, 511]) (ord := [0, 1, 3, 4, 5, 6, 2, 7, 8, 9]) (E := [(6, 2), (2, 7)]) (allB.cons ho27 (allB.cons ho33 allB.nil)) <| J.t 4 fun hb34 hb35 => J.N 0 Ty5 fun b36 => J.C 0 F195 (h_rec_ (IntKind.wrap .i64 (Int.tdiv a0 16))) fun r37 => OJ.toStr (d := 16) (t := 70) (u := 9) (E := 5) (x := .tmp 15) (owed := []) fun r38 => OW.nil <| J.T 0 <| J.z 1 <| J.r
 exact SJ.leaf hg_ (kd := [0, 0, 2, 0, 0, 0, 2, 2, 0, 0]) (bef := [0, 1, 3, 0, 8, 24, 56, 120, 255, 511]) (ord := [0, 1, 3, 4, 5, 6, 7, 2, 8, 9]) (E := [(6, 2), (7, 2)]) (allB.cons ho27 (allB.cons ho33 allB.nil)) <| J.t 4 fun hb39 hb40 => J.N 0 Ty5 fun b41 => OJ.toStr (d := 16) (t := 70) (u := 9) (E := 5) (x := .tmp 15) (owed := []) fun r42 => OW.nil <| J.C 0 F195 (h_rec_ (IntKind.wrap .i64 (Int.tdiv a0 16))) fun r43 => J.T 0 <| J.z 1 <| J.r
noncomputable def Za6.go  : Nat → Int → M ByteArray
 | 0 => fun a0 => fun _ => none
 | n + 1 => fun a0 => Za6.body (Za6.go  n) a0
theorem Za6.go_ok  : ∀ (n : Nat) (a0 : Int), Ref Tryz.prog 195 [.int .i64 a0] (Za6.go  n a0) Za6.out
 | 0, a0 => fun v r v' e => by cases e
 | n + 1, a0 => Za6.body_ok  (Za6.go  n) (Za6.go_ok  n) a0
noncomputable def Za6 (a0 : Int) : M ByteArray := Za6.go  1000000000000 a0
theorem Zjw (a0 : Int) : Ref Tryz.prog 195 [.int .i64 a0] (Za6 a0) Za6.out := Za6.go_ok  1000000000000 a0

/-! ### weir/weirref4.PrintIP: function 161 -/
noncomputable def Zaf.B : Code := bod Tryz.f161
noncomputable def Zaf.cx : Fx := ⟨Tryz.prog, 161, Tryz.f161, none⟩
noncomputable def Zaf.out (r_ : (ByteArray × Int)) : Value := .tuple #[.string r_.1, .int .i64 r_.2]
noncomputable def Zaf.F1 (a0 : Zbe) (b1 : Nat) (s8 : Int) (s9 : Int) : LF (ByteArray × Int) (ByteArray × Int) := ⟨[.inBlock 2, .code (c2 (c2 (c2 (c2 (c2 (c2 (c2 (c2 (c2 (c2 Zaf.B))))))))))], c1 (c2 (c1 (c2 (c2 (c2 (c2 (c2 (c2 (c2 (c2 (c2 Zaf.B))))))))))), fun s_ => [(1, .pointer (some (pt b1 0))), (5, .int .i64 s8), (6, .int .i64 s9), (9, .string s_.1), (10, .int .i64 s_.2)], fun s_ => [(b1, Zbo.enc a0)], (rt Zaf.out)⟩
noncomputable def Zaf.K1 (a0 : Zbe) (s15 : Int) (j102 : ByteArray) : M (LS (ByteArray × Int) (ByteArray × Int)) :=
 draw >>= fun _ =>
 chk ((0 : Int) ≤ (IntKind.wrap .i64 (2 * s15)) ∧ (IntKind.wrap .i64 (2 * s15)) < (16 : Nat)) >>= fun _ =>
 chk ((0 : Int) ≤ (IntKind.wrap .i64 ((IntKind.wrap .i64 (2 * s15)) + 1)) ∧ (IntKind.wrap .i64 ((IntKind.wrap .i64 (2 * s15)) + 1)) < (16 : Nat)) >>= fun _ =>
 Za6 (IntKind.wrap .i64 ((IntKind.wrap .i64 (256 * (IntKind.wrap .i64 (Vec.g a0.A (IntKind.wrap .i64 (2 * s15)) 0)))) + (IntKind.wrap .i64 (Vec.g a0.A (IntKind.wrap .i64 ((IntKind.wrap .i64 (2 * s15)) + 1)) 0)))) >>= fun r107 =>
 chk (((j102.size + r107.size : Nat) : Int) ≤ 9223372036854775807) >>= fun _ =>
 pure (LS.next ((j102 ++ r107), IntKind.wrap .i64 (s15 + 1)))
theorem Zaf.K1_ok (a0 : Zbe) (b1 : Nat) (s8 : Int) (s9 : Int) (s15 : Int) (j102 : ByteArray) :
  SJ Zaf.cx [.code (c2 (c2 (c2 (c2 (c2 (c1 (c1 (c1 (c2 (c1 (c1 (c2 (c1 (c2 (c2 (c2 (c2 (c2 (c2 (c2 (c2 (c2 Zaf.B)))))))))))))))))))))), .inBlock 4, .inBlock 3, .code (c2 (c2 (c1 (c1 (c2 (c1 (c2 (c2 (c2 (c2 (c2 (c2 (c2 (c2 (c2 Zaf.B))))))))))))))), .inLoop (c1 (c1 (c2 (c1 (c2 (c2 (c2 (c2 (c2 (c2 (c2 (c2 (c2 Zaf.B))))))))))))), .inBlock 2, .code (c2 (c2 (c2 (c2 (c2 (c2 (c2 (c2 (c2 (c2 Zaf.B))))))))))] [(1, .pointer (some (pt b1 0))), (5, .int .i64 s8), (6, .int .i64 s9), (9, .string j102), (10, .int .i64 s15)] [(b1, Zbo.enc a0)] (Zaf.K1 a0 s15 j102) (Zaf.F1 a0 b1 s8 s9).f := by
 unfold Zaf.K1
 exact J.R 19 ZcR <| J.y 4 fun hb103 hb104 => J.k 0 0 rfl Ty5 (At.trans (ZbZ _) (At.arr (z := 0) hb103 hb104)) <| J.y 6 fun hb105 hb106 => J.k 0 0 rfl Ty5 (At.trans (ZbZ _) (At.arr (z := 0) hb105 hb106)) <| J.C 2 F195 (Zjw _) fun r107 => J.T 0 <| J.z 1 <| SJ.inBlock <| SJ.inBlock <| SJ.rg 3 <| J.z 3 <| J.o rfl
noncomputable def Zaf.L1 (a0 : Zbe) (s8 : Int) (s9 : Int) (s14 : ByteArray) (s15 : Int) : M (LS (ByteArray × Int) (ByteArray × Int)) :=
 if s15 < 8 then
  if s15 = s8 then
   chk (((s14.size + Ziv.size : Nat) : Int) ≤ 9223372036854775807) >>= fun _ =>
   pure (LS.next ((s14 ++ Ziv), IntKind.wrap .i64 (s15 + 1)))
  else
   (if s8 ≥ 0 then
     pure (decide (s15 > s8))
    else
     pure false) >>= fun y87 =>
   (if y87 = true then
     pure (decide (s15 < (IntKind.wrap .i64 (s8 + s9))))
    else
     pure false) >>= fun y88 =>
   if y88 = true then
    pure (LS.next (s14, IntKind.wrap .i64 (s15 + 1)))
   else
    (if s15 > 0 then
      pure (s15 != (IntKind.wrap .i64 (s8 + s9)))
     else
      pure false) >>= fun y99 =>
    (if y99 = true then
      pure true
     else
      (if s15 > 0 then
        pure (decide (s8 < 0))
       else
        pure false) >>= fun y100 =>
      pure y100) >>= fun y101 =>
    if y101 = true then
     chk (((s14.size + Znm.size : Nat) : Int) ≤ 9223372036854775807) >>= fun _ =>
     Zaf.K1 a0 s15 (s14 ++ Znm)
    else
     Zaf.K1 a0 s15 s14
 else
  pure (LS.done (s14, 0))
theorem Zaf.L1_ok (a0 : Zbe) (b1 : Nat) (s8 : Int) (s9 : Int) : LJ Zaf.cx (Zaf.F1 a0 b1 s8 s9) (fun s_ => Zaf.L1 a0 s8 s9 s_.1 s_.2) := by
 rintro ⟨s14, s15⟩
 show SJ _ _ _ _ (Zaf.L1 a0 s8 s9 s14 s15) _
 unfold Zaf.L1
 refine SJ.seq <| SJ.sr 2 <| J.z 2 <| J.f ?_ ?_
 ·refine SJ.skip <| SJ.seq <| SJ.block (id := 3) <| SJ.block (id := 4) <| SJ.sr 4 <| J.z 4 <| J.f ?_ ?_
  ·exact SJ.rg 3 <| J.T 1 <| J.z 1 <| SJ.inBlock <| SJ.inBlock <| SJ.rg 3 <| J.z 3 <| J.o rfl
  refine SJ.sr 15 <| J.j 3 3 .bool ?_ ?_ fun y87 => ?_
  ·exact J.e 4
  ·exact J.e 4
  refine J.j 1 5 .bool ?_ ?_ fun y88 => ?_
  ·exact J.e 6
  ·exact J.e 6
  refine J.z 1 <| J.f ?_ ?_
  ·exact SJ.skip <| SJ.inBlock <| SJ.inBlock <| SJ.rg 3 <| J.z 3 <| J.o rfl
  refine SJ.seq <| SJ.sr 17 <| J.j 3 5 .bool ?_ ?_ fun y99 => ?_
  ·exact J.e 6
  ·exact J.e 6
  refine J.g 1 <| OJ.join (b := y99) [10, 11, 12, 13, 14, 15, 16] [] [1, 5, 6, 9, 10, 61] (fun y101 => [(1, .pointer (some (pt b1 0))), (5, .int .i64 s8), (6, .int .i64 s9), (9, .string s14), (10, .int .i64 s15), (61, .bool y101)]) [] [] (t := 54) Iff.rfl (fun hp_ => ?_) (fun hp_ => ?_) (fun _ _ _ _ _ _ h_ => h_) fun y101 => ?_
  ·exact J.g 7 <| OJ.nil ⟨(Cov.mem Cov.nil), rfl, _, rfl, by kernel_rfl⟩
  ·refine J.g 3 <| OJ.join (b := decide (s15 > 0)) [13, 14, 15] [16] [1, 5, 6, 9, 10, 54, 60] (fun y100 => [(1, .pointer (some (pt b1 0))), (5, .int .i64 s8), (6, .int .i64 s9), (9, .string s14), (10, .int .i64 s15), (54, .bool false), (60, .bool y100)]) [] [] (t := 57) decide_eq_true_iff (fun hp_ => ?_) (fun hp_ => ?_) (fun _ _ _ _ _ hq_ h_ => ⟨fun e_ he_ => (hq_ e_ he_).elim (fun h => h_.1 e_ h) (fun h => nomatch h), h_.2⟩) fun y100 => ?_
   ·exact J.g 3 <| OJ.nil ⟨(Cov.mem Cov.nil), rfl, _, rfl, by kernel_rfl⟩
   ·exact J.g 3 <| OJ.nil ⟨(Cov.mem Cov.nil), rfl, _, rfl, by kernel_rfl⟩
   exact J.g 1 <| OJ.nil ⟨(Cov.mem Cov.nil), rfl, _, rfl, by kernel_rfl⟩
  refine J.z 0 <| J.f ?_ ?_
  ·exact SJ.rg 3 <| J.T 1 <| J.z 1 <| J.q <| Zaf.K1_ok a0 b1 s8 s9 s15 (s14 ++ Znm)
  exact SJ.skip <| J.q <| Zaf.K1_ok a0 b1 s8 s9 s15 s14
 exact SJ.exit (id := 2) (by rfl) <| SJ.sr 3 <| J.z 3 <| J.r
noncomputable def Zaf.K2 (a0 : Zbe) (s8 : Int) (s9 : Int) : M (ByteArray × Int) :=
 Zb9 (fun s_ : (ByteArray × Int) => Zaf.L1 a0 s8 s9 s_.1 s_.2) (ByteArray.empty, 0)
theorem Zaf.K2_ok (a0 : Zbe) (b1 : Nat) (s8 : Int) (s9 : Int) :
  SJ Zaf.cx [.code (c2 (c2 (c2 (c2 (c2 (c2 (c2 (c2 Zaf.B))))))))] [(1, .pointer (some (pt b1 0))), (5, .int .i64 s8), (6, .int .i64 s9)] [(b1, Zbo.enc a0)] (Zaf.K2 a0 s8 s9) (rt Zaf.out) := by
 unfold Zaf.K2
 exact SJ.sr 1 <| J.z 1 <| SJ.seq <| SJ.sr 1 <| J.z 1 <| SJ.block (id := 2) <| J.L (Zaf.L1_ok a0 b1 s8 s9)
noncomputable def Zaf.F2 (a0 : Zbe) (b1 : Nat) : LF (Int × Int × Int) (ByteArray × Int) := ⟨[.inBlock 0, .code (c2 (c2 (c2 (c2 (c2 (c2 (c2 (c2 Zaf.B))))))))], c1 (c2 (c1 (c2 (c2 (c2 (c2 (c2 (c2 (c2 Zaf.B))))))))), fun s_ => [(1, .pointer (some (pt b1 0))), (5, .int .i64 s_.1), (6, .int .i64 s_.2.1), (7, .int .i64 s_.2.2)], fun s_ => [(b1, Zbo.enc a0)], (rt Zaf.out)⟩
noncomputable def Zaf.L2 (a0 : Zbe) (s8 : Int) (s9 : Int) (s10 : Int) : M (LS (Int × Int × Int) (ByteArray × Int)) :=
 if s10 < 8 then
  Za7 a0.A s10 >>= fun r112 =>
  if r112 > s9 then
   pure (LS.next (s10, r112, IntKind.wrap .i64 (s10 + 1)))
  else
   pure (LS.next (s8, s9, IntKind.wrap .i64 (s10 + 1)))
 else
  (Zaf.K2 a0 s8 s9) >>= fun b => pure (LS.done b)
theorem Zaf.L2_ok (a0 : Zbe) (b1 : Nat) : LJ Zaf.cx (Zaf.F2 a0 b1) (fun s_ => Zaf.L2 a0 s_.1 s_.2.1 s_.2.2) := by
 rintro ⟨s8, s9, s10⟩
 show SJ _ _ _ _ (Zaf.L2 a0 s8 s9 s10) _
 unfold Zaf.L2
 refine SJ.seq <| SJ.sr 2 <| J.z 2 <| J.f ?_ ?_
 ·refine SJ.skip <| SJ.seq <| SJ.block (id := 1) <| SJ.sr 5 <| J.k 1 0 rfl Ty64 (ZbZ _) <| J.C 1 F194 (ZfI _ _) fun r112 => J.z 1 <| SJ.sr 3 <| J.z 3 <| J.f ?_ ?_
  ·exact SJ.sr 2 <| J.z 2 <| SJ.rg 2 <| J.z 2 <| SJ.inBlock <| SJ.rg 3 <| J.z 3 <| J.o rfl
  exact SJ.skip <| SJ.inBlock <| SJ.rg 3 <| J.z 3 <| J.o rfl
 exact SJ.exit (id := 0) (by rfl) <| J.q <| SJ.done <| Zaf.K2_ok a0 b1 s8 s9
noncomputable def Zaf (a0 : Zbe) : M (ByteArray × Int) :=
 slot 66 >>= fun b1 =>
 Za8 a0 >>= fun r2 =>
 if ¬ (r2 = true) then
  pure (ByteArray.empty, 40)
 else
  if a0.V = 4 then
   Zdb a0.A 0 >>= fun r4 =>
   pure (r4, 0)
  else
   Zc0 a0.A >>= fun r5 =>
   if r5 = true then
    Zdb a0.A 12 >>= fun r7 =>
    chk (((Znl.size + r7.size : Nat) : Int) ≤ 9223372036854775807) >>= fun _ =>
    pure ((Znl ++ r7), 0)
   else
    Zb9 (fun s_ : (Int × Int × Int) => Zaf.L2 a0 s_.1 s_.2.1 s_.2.2) ((-1), 1, 0)
theorem Ze4 (a0 : Zbe) : Ref Tryz.prog 161 [Zbo.val a0] (Zaf a0) Zaf.out := by
 refine J.Fn Tryz.func161 ?_
 unfold Zaf
 refine SJ.sr 3 <| J.b 0 Zbo a0 fun b1 => J.z 2 <| SJ.sr 3 <| J.k 0 0 rfl Ty66 (At.whole _) <| J.C 0 F191 (ZfJ _) fun r2 => J.z 1 <| SJ.seq <| SJ.sr 2 <| J.z 2 <| J.f ?_ ?_
 ·exact SJ.sr 2 <| J.z 2 <| J.r
 refine SJ.skip <| SJ.seq <| SJ.sr 3 <| J.k 1 0 rfl Ty3 (Zcp _) <| J.z 1 <| J.f ?_ ?_
 ·exact SJ.sr 5 <| J.k 1 0 rfl Ty64 (ZbZ _) <| J.C 0 F192 (Zgb _ _) fun r4 => J.z 2 <| J.r
 refine SJ.skip <| SJ.seq <| SJ.sr 3 <| J.k 1 0 rfl Ty64 (ZbZ _) <| J.C 0 F193 (ZhP _) fun r5 => J.z 0 <| J.f ?_ ?_
 ·exact SJ.sr 6 <| J.k 1 0 rfl Ty64 (ZbZ _) <| J.C 0 F192 (Zgb _ _) fun r7 => J.T 0 <| J.z 2 <| J.r
 exact SJ.skip <| SJ.sr 1 <| J.z 1 <| SJ.sr 1 <| J.z 1 <| SJ.seq <| SJ.sr 1 <| J.z 1 <| SJ.block (id := 0) <| J.L (Zaf.L2_ok a0 b1)

/-! ### weir/weirref4.PrintPrefix: function 160 -/
noncomputable def Zb5.out (r_ : (ByteArray × Int)) : Value := .tuple #[.string r_.1, .int .i64 r_.2]
noncomputable def Zb5 (a0 : Zap) : M (ByteArray × Int) :=
 slot 117 >>= fun b1 =>
 ZaM a0 >>= fun r2 =>
 if r2 ≠ 0 then
  pure (ByteArray.empty, r2)
 else
  Zaf a0.IP >>= fun r3 =>
  chk (((r3.1.size + Zkt.size : Nat) : Int) ≤ 9223372036854775807) >>= fun _ =>
  ZaJ a0.Len >>= fun r4 =>
  chk ((((r3.1 ++ Zkt).size + r4.size : Nat) : Int) ≤ 9223372036854775807) >>= fun _ =>
  pure (((r3.1 ++ Zkt) ++ r4), 0)
theorem ZfW (a0 : Zap) : Ref Tryz.prog 160 [ZaF.val a0] (Zb5 a0) Zb5.out := by
 refine J.Fn Tryz.func160 ?_
 unfold Zb5
 refine SJ.sr 3 <| J.b 0 ZaF a0 fun b1 => J.z 2 <| SJ.sr 3 <| J.k 0 0 rfl Zcb (At.whole _) <| J.C 0 F162 (Zeo _) fun r2 => J.z 1 <| SJ.seq <| SJ.sr 2 <| J.z 2 <| J.f ?_ ?_
 ·exact SJ.sr 3 <| J.z 3 <| J.r
 exact SJ.skip <| SJ.sr 8 <| J.k 1 0 rfl Ty66 (Zbq _) <| J.C 0 F161 (Ze4 _) fun r3 => J.z 5 <| SJ.sr 8 <| J.T 1 <| J.k 1 0 rfl Ty3 (Zby _) <| J.C 0 F190 (Zda _) fun r4 => J.T 0 <| J.z 2 <| J.r

/-! ### weir/weirref16.nets: function 117 -/
noncomputable def ZaQ.B : Code := bod Tryz.f117
noncomputable def ZaQ.cx : Fx := ⟨Tryz.prog, 117, Tryz.f117, none⟩
noncomputable def ZaQ.out (r_ : ByteArray) : Value := .string r_
noncomputable def ZaQ.F1 (a0 : Zae) (b1 : Nat) : LF (ByteArray × Int) ByteArray := ⟨[.inBlock 0, .code (c2 (c2 (c2 (c2 (c2 ZaQ.B)))))], c1 (c2 (c1 (c2 (c2 (c2 (c2 ZaQ.B)))))), fun s_ => [(1, .pointer (some (pt b1 0))), (3, .string s_.1), (4, .int .i64 s_.2)], fun s_ => [(b1, Zaw.enc a0)], (rt ZaQ.out)⟩
noncomputable def ZaQ.L1 (a0 : Zae) (s3 : ByteArray) (s4 : Int) : M (LS (ByteArray × Int) ByteArray) :=
 if s4 < (a0.Nets.len : Int) then
  idx a0.Nets.a a0.Nets.len s4 18 >>= fun p17 =>
  ld ZaF p17 >>= fun x18 =>
  slot 117 >>= fun b19 =>
  Zb5 x18 >>= fun r20 =>
  (if x18.IP.V = 4 then
    pure (x18.Len == 32)
   else
    pure false) >>= fun y21 =>
  (if y21 = true then
    pure true
   else
    pure (x18.Len == 128)) >>= fun y22 =>
  if y22 = true then
   Zaf x18.IP >>= fun r24 =>
   if s4 > 0 then
    chk (((s3.size + ZeE.size : Nat) : Int) ≤ 9223372036854775807) >>= fun _ =>
    chk ((((s3 ++ ZeE).size + r24.1.size : Nat) : Int) ≤ 9223372036854775807) >>= fun _ =>
    pure (LS.next (((s3 ++ ZeE) ++ r24.1), IntKind.wrap .i64 (s4 + 1)))
   else
    chk (((s3.size + r24.1.size : Nat) : Int) ≤ 9223372036854775807) >>= fun _ =>
    pure (LS.next ((s3 ++ r24.1), IntKind.wrap .i64 (s4 + 1)))
  else
   if s4 > 0 then
    chk (((s3.size + ZeE.size : Nat) : Int) ≤ 9223372036854775807) >>= fun _ =>
    chk ((((s3 ++ ZeE).size + r20.1.size : Nat) : Int) ≤ 9223372036854775807) >>= fun _ =>
    pure (LS.next (((s3 ++ ZeE) ++ r20.1), IntKind.wrap .i64 (s4 + 1)))
   else
    chk (((s3.size + r20.1.size : Nat) : Int) ≤ 9223372036854775807) >>= fun _ =>
    pure (LS.next ((s3 ++ r20.1), IntKind.wrap .i64 (s4 + 1)))
 else
  pure (LS.done s3)
theorem ZaQ.L1_ok (a0 : Zae) (b1 : Nat) : LJ ZaQ.cx (ZaQ.F1 a0 b1) (fun s_ => ZaQ.L1 a0 s_.1 s_.2) := by
 rintro ⟨s3, s4⟩
 show SJ _ _ _ _ (ZaQ.L1 a0 s3 s4) _
 unfold ZaQ.L1
 refine SJ.seq <| SJ.sr 5 <| J.k 2 0 rfl Ty23 (ZaY _) <| J.z 2 <| J.f ?_ ?_
 ·refine SJ.skip <| SJ.seq <| SJ.block (id := 1) <| SJ.sr 7 <| J.k 1 0 rfl Ty23 (ZaY _) <| J.i 1 fun p17 => J.l 0 Zcb fun x18 => J.a 0 Zcb fun b19 => J.s 0 0 rfl Zcb (Upd.w x18) <| J.z 0 <| SJ.sr 7 <| J.k 0 0 rfl Zcb (At.whole _) <| J.C 0 F160 (ZfW _) fun r20 => J.z 5 <| SJ.seq <| SJ.sr 14 <| J.k 2 0 rfl Ty3 (At.trans (Zbq _) (Zcp _)) <| J.j 2 3 .bool ?_ ?_ fun y21 => ?_
  ·exact J.k 1 0 rfl Ty3 (Zby _) <| J.e 2
  ·exact J.e 4
  refine J.j 1 3 .bool ?_ ?_ fun y22 => ?_
  ·exact J.e 4
  ·exact J.k 1 0 rfl Ty3 (Zby _) <| J.e 2
  refine J.z 0 <| J.f ?_ ?_
  ·refine SJ.rg 7 <| J.k 1 0 rfl Ty66 (Zbq _) <| J.C 0 F161 (Ze4 _) fun r24 => J.z 4 <| SJ.seq <| SJ.sr 2 <| J.z 2 <| J.f ?_ ?_
   ·exact SJ.rg 3 <| J.T 1 <| J.z 1 <| SJ.rg 4 <| J.T 2 <| J.z 1 <| SJ.inBlock <| SJ.rg 3 <| J.z 3 <| SJ.forget (List.Sublist.cons _ (List.Sublist.cons_cons _ List.Sublist.slnil)) <| J.o rfl
   exact SJ.skip <| SJ.rg 4 <| J.T 2 <| J.z 1 <| SJ.inBlock <| SJ.rg 3 <| J.z 3 <| SJ.forget (List.Sublist.cons _ (List.Sublist.cons_cons _ List.Sublist.slnil)) <| J.o rfl
  refine SJ.skip <| SJ.seq <| SJ.sr 2 <| J.z 2 <| J.f ?_ ?_
  ·exact SJ.rg 3 <| J.T 1 <| J.z 1 <| SJ.rg 4 <| J.T 2 <| J.z 1 <| SJ.inBlock <| SJ.rg 3 <| J.z 3 <| SJ.forget (List.Sublist.cons _ (List.Sublist.cons_cons _ List.Sublist.slnil)) <| J.o rfl
  exact SJ.skip <| SJ.rg 4 <| J.T 2 <| J.z 1 <| SJ.inBlock <| SJ.rg 3 <| J.z 3 <| SJ.forget (List.Sublist.cons _ (List.Sublist.cons_cons _ List.Sublist.slnil)) <| J.o rfl
 exact SJ.exit (id := 0) (by rfl) <| SJ.sr 2 <| J.z 2 <| J.r
noncomputable def ZaQ.K1 (a0 : Zae) (j2 : ByteArray) : M ByteArray :=
 Zb9 (fun s_ : (ByteArray × Int) => ZaQ.L1 a0 s_.1 s_.2) (j2, 0)
theorem ZaQ.K1_ok (a0 : Zae) (b1 : Nat) (j2 : ByteArray) :
  SJ ZaQ.cx [.code (c2 (c2 (c2 (c2 ZaQ.B))))] [(1, .pointer (some (pt b1 0))), (3, .string j2)] [(b1, Zaw.enc a0)] (ZaQ.K1 a0 j2) (rt ZaQ.out) := by
 unfold ZaQ.K1
 exact SJ.seq <| SJ.sr 1 <| J.z 1 <| SJ.block (id := 0) <| J.L (ZaQ.L1_ok a0 b1)
noncomputable def ZaQ (a0 : Zae) : M ByteArray :=
 slot 26 >>= fun b1 =>
 if (a0.Nets.len : Int) = 0 then
  pure Zlt
 else
  if a0.Not = true then
   ZaQ.K1 a0 Znk
  else
   ZaQ.K1 a0 ByteArray.empty
theorem Ziq (a0 : Zae) : Ref Tryz.prog 117 [Zaw.val a0] (ZaQ a0) ZaQ.out := by
 refine J.Fn Tryz.func117 ?_
 unfold ZaQ
 refine SJ.sr 2 <| J.b 0 Zaw a0 fun b1 => J.z 1 <| SJ.seq <| SJ.sr 4 <| J.k 1 0 rfl Ty23 (ZaY _) <| J.z 2 <| J.f ?_ ?_
 ·exact SJ.sr 1 <| J.z 1 <| J.r
 refine SJ.skip <| SJ.sr 1 <| J.z 1 <| SJ.seq <| SJ.sr 2 <| J.k 1 0 rfl Ty4 (Zc5 _) <| J.z 0 <| J.f ?_ ?_
 ·exact SJ.rg 1 <| J.z 1 <| J.q <| ZaQ.K1_ok a0 b1 Znk
 exact SJ.skip <| J.q <| ZaQ.K1_ok a0 b1 ByteArray.empty

/-! ### weir/weirref16.sided: function 66 -/
noncomputable def ZaE.B : Code := bod Tryz.f66
noncomputable def ZaE.cx : Fx := ⟨Tryz.prog, 66, Tryz.f66, none⟩
noncomputable def ZaE.out (r_ : ByteArray) : Value := .string r_
noncomputable def ZaE.F1 (a1 : Zae) (b1 : Nat) : LF (ByteArray × Int) ByteArray := ⟨[.inBlock 0, .code (c2 (c2 (c2 (c2 ZaE.B))))], c1 (c2 (c1 (c2 (c2 (c2 ZaE.B))))), fun s_ => [(3, .pointer (some (pt b1 0))), (5, .string s_.1), (6, .int .i64 s_.2)], fun s_ => [(b1, Zaw.enc a1)], (rt ZaE.out)⟩
noncomputable def ZaE.K1 (a1 : Zae) (s5 : Int) (j23 : ByteArray) : M (LS (ByteArray × Int) ByteArray) :=
 idx a1.Ports.a a1.Ports.len s5 2 >>= fun p24 =>
 ld (cI .i64) p24 >>= fun x25 =>
 Zaz x25 >>= fun r26 =>
 chk (((j23.size + r26.size : Nat) : Int) ≤ 9223372036854775807) >>= fun _ =>
 draw >>= fun _ =>
 idx a1.Ports.a a1.Ports.len s5 2 >>= fun p27 =>
 ld (cI .i64) (Addr.add p27 1) >>= fun x28 =>
 idx a1.Ports.a a1.Ports.len s5 2 >>= fun p29 =>
 ld (cI .i64) p29 >>= fun x30 =>
 if x28 ≠ x30 then
  chk ((((j23 ++ r26).size + ZjF.size : Nat) : Int) ≤ 9223372036854775807) >>= fun _ =>
  idx a1.Ports.a a1.Ports.len s5 2 >>= fun p34 =>
  ld (cI .i64) (Addr.add p34 1) >>= fun x35 =>
  Zaz x35 >>= fun r36 =>
  chk (((((j23 ++ r26) ++ ZjF).size + r36.size : Nat) : Int) ≤ 9223372036854775807) >>= fun _ =>
  pure (LS.next ((((j23 ++ r26) ++ ZjF) ++ r36), IntKind.wrap .i64 (s5 + 1)))
 else
  pure (LS.next ((j23 ++ r26), IntKind.wrap .i64 (s5 + 1)))
theorem ZaE.K1_ok (a1 : Zae) (b1 : Nat) (s5 : Int) (j23 : ByteArray) :
  SJ ZaE.cx [.code (c2 (c1 (c1 (c2 (c1 (c1 (c2 (c1 (c2 (c2 (c2 ZaE.B))))))))))), .inBlock 1, .code (c2 (c2 (c1 (c1 (c2 (c1 (c2 (c2 (c2 ZaE.B))))))))), .inLoop (c1 (c1 (c2 (c1 (c2 (c2 (c2 ZaE.B))))))), .inBlock 0, .code (c2 (c2 (c2 (c2 ZaE.B))))] [(3, .pointer (some (pt b1 0))), (5, .string j23), (6, .int .i64 s5)] [(b1, Zaw.enc a1)] (ZaE.K1 a1 s5 j23) (ZaE.F1 a1 b1).f := by
 unfold ZaE.K1
 refine SJ.sr 10 <| J.k 2 0 rfl Ty24 (ZaH _) <| J.i 1 fun p24 => J.l 1 Ty3 fun x25 => J.C 0 F64 (Zb6 _) fun r26 => J.T 0 <| J.z 1 <| SJ.seq <| J.R 13 ZcR <| J.k 1 0 rfl Ty24 (ZaH _) <| J.i 1 fun p27 => J.l 1 Ty3 fun x28 => J.k 1 0 rfl Ty24 (ZaH _) <| J.i 1 fun p29 => J.l 1 Ty3 fun x30 => J.z 1 <| J.f ?_ ?_
 ·exact SJ.rg 11 <| J.T 1 <| J.k 1 0 rfl Ty24 (ZaH _) <| J.i 1 fun p34 => J.l 1 Ty3 fun x35 => J.C 0 F64 (Zb6 _) fun r36 => J.T 0 <| J.z 1 <| SJ.inBlock <| SJ.rg 3 <| J.z 3 <| J.o rfl
 exact SJ.skip <| SJ.inBlock <| SJ.rg 3 <| J.z 3 <| J.o rfl
noncomputable def ZaE.L1 (a1 : Zae) (s4 : ByteArray) (s5 : Int) : M (LS (ByteArray × Int) ByteArray) :=
 if s5 < (a1.Ports.len : Int) then
  if s5 = 0 then
   chk (((s4.size + Znj.size : Nat) : Int) ≤ 9223372036854775807) >>= fun _ =>
   ZaE.K1 a1 s5 (s4 ++ Znj)
  else
   chk (((s4.size + ZeE.size : Nat) : Int) ≤ 9223372036854775807) >>= fun _ =>
   ZaE.K1 a1 s5 (s4 ++ ZeE)
 else
  pure (LS.done s4)
theorem ZaE.L1_ok (a1 : Zae) (b1 : Nat) : LJ ZaE.cx (ZaE.F1 a1 b1) (fun s_ => ZaE.L1 a1 s_.1 s_.2) := by
 rintro ⟨s4, s5⟩
 show SJ _ _ _ _ (ZaE.L1 a1 s4 s5) _
 unfold ZaE.L1
 refine SJ.seq <| SJ.sr 5 <| J.k 2 0 rfl Ty24 (ZaH _) <| J.z 2 <| J.f ?_ ?_
 ·refine SJ.skip <| SJ.seq <| SJ.block (id := 1) <| SJ.seq <| SJ.sr 2 <| J.z 2 <| J.f ?_ ?_
  ·exact SJ.rg 3 <| J.T 1 <| J.z 1 <| J.q <| ZaE.K1_ok a1 b1 s5 (s4 ++ Znj)
  exact SJ.rg 3 <| J.T 1 <| J.z 1 <| J.q <| ZaE.K1_ok a1 b1 s5 (s4 ++ ZeE)
 exact SJ.exit (id := 0) (by rfl) <| SJ.sr 2 <| J.z 2 <| J.r
noncomputable def ZaE (a0 : ByteArray) (a1 : Zae) : M ByteArray :=
 slot 26 >>= fun b1 =>
 (if (a1.Nets.len : Int) = 0 then
   pure ((a1.Ports.len : Int) == 0)
  else
   pure false) >>= fun y2 =>
 if y2 = true then
  pure ByteArray.empty
 else
  chk (((str8.size + a0.size : Nat) : Int) ≤ 9223372036854775807) >>= fun _ =>
  chk ((((str8 ++ a0).size + str8.size : Nat) : Int) ≤ 9223372036854775807) >>= fun _ =>
  ZaQ a1 >>= fun r3 =>
  chk (((((str8 ++ a0) ++ str8).size + r3.size : Nat) : Int) ≤ 9223372036854775807) >>= fun _ =>
  Zb9 (fun s_ : (ByteArray × Int) => ZaE.L1 a1 s_.1 s_.2) ((((str8 ++ a0) ++ str8) ++ r3), 0)
theorem Zfj (a0 : ByteArray) (a1 : Zae) : Ref Tryz.prog 66 [.string a0, Zaw.val a1] (ZaE a0 a1) ZaE.out := by
 refine J.Fn Tryz.func66 ?_
 unfold ZaE
 refine SJ.sr 2 <| J.b 0 Zaw a1 fun b1 => J.z 1 <| SJ.seq <| SJ.sr 10 <| J.k 1 0 rfl Ty23 (ZaY _) <| J.j 3 4 .bool ?_ ?_ fun y2 => ?_
 ·exact J.k 1 0 rfl Ty24 (ZaH _) <| J.e 3
 ·exact J.e 5
 refine J.z 0 <| J.f ?_ ?_
 ·exact SJ.sr 1 <| J.z 1 <| J.r
 exact SJ.skip <| SJ.sr 7 <| J.T 1 <| J.T 0 <| J.k 0 0 rfl Ty26 (At.whole _) <| J.C 0 F117 (Ziq _) fun r3 => J.T 0 <| J.z 1 <| SJ.seq <| SJ.sr 1 <| J.z 1 <| SJ.block (id := 0) <| J.L (ZaE.L1_ok a1 b1)

/-! ### weir/weirref16.words: function 119 -/
noncomputable def ZcE.out (r_ : Sl) : Value := Sl.v r_
noncomputable def ZcE  : M Sl :=
 newv 9 (cS.arr 8) (⟨[ZsE, ZsD, ZsC, ZsB, ZsA, Zsz, Zsy, Zsx], rfl⟩ : Vec ByteArray 8) >>= fun b1 =>
 pure (⟨some (pt b1 0), 8, 8⟩ : Sl)
theorem Zfi  : Ref Tryz.prog 119 [] (ZcE) ZcE.out := by
 refine J.Fn Tryz.func119 ?_
 unfold ZcE
 exact SJ.sr 1 <| J.z 1 <| SJ.sr 2 <| J.N 0 Ty9 fun b1 => J.z 1 <| J.r

/-! ### weir/weirref16.flagged: function 67 -/
noncomputable def Zax.B : Code := bod Tryz.f67
noncomputable def Zax.cx : Fx := ⟨Tryz.prog, 67, Tryz.f67, none⟩
noncomputable def Zax.out (r_ : ByteArray) : Value := .string r_
noncomputable def Zax.F1 (a0 : Zag) (b1 : Nat) : LF (ByteArray × ByteArray × Int) ByteArray := ⟨[.inBlock 0, .code (c2 (c2 (c2 (c2 Zax.B))))], c1 (c2 (c1 (c2 (c2 (c2 Zax.B))))), fun s_ => [(1, .pointer (some (pt b1 0))), (3, .string s_.1), (4, .string s_.2.1), (5, .int .i64 s_.2.2)], fun s_ => [(b1, Zak.enc a0)], (rt Zax.out)⟩
noncomputable def Zax.K1 (a0 : Zag) (s4 : Int) (j28 : ByteArray) (j29 : ByteArray) : M (LS (ByteArray × ByteArray × Int) ByteArray) :=
 Zba a0.Clear s4 >>= fun r30 =>
 if r30 = true then
  chk (((j28.size + j29.size : Nat) : Int) ≤ 9223372036854775807) >>= fun _ =>
  chk ((((j28 ++ j29).size + Zlp.size : Nat) : Int) ≤ 9223372036854775807) >>= fun _ =>
  ZcE >>= fun r34 =>
  idx r34.a r34.len s4 1 >>= fun p35 =>
  ld cS p35 >>= fun x36 =>
  chk (((((j28 ++ j29) ++ Zlp).size + x36.size : Nat) : Int) ≤ 9223372036854775807) >>= fun _ =>
  pure (LS.next ((((j28 ++ j29) ++ Zlp) ++ x36), ZeE, IntKind.wrap .i64 (s4 + 1)))
 else
  pure (LS.next (j28, j29, IntKind.wrap .i64 (s4 + 1)))
theorem Zax.K1_ok (a0 : Zag) (b1 : Nat) (s4 : Int) (j28 : ByteArray) (j29 : ByteArray) :
  SJ Zax.cx [.code (c2 (c1 (c1 (c2 (c1 (c1 (c2 (c1 (c2 (c2 (c2 Zax.B))))))))))), .inBlock 1, .code (c2 (c2 (c1 (c1 (c2 (c1 (c2 (c2 (c2 Zax.B))))))))), .inLoop (c1 (c1 (c2 (c1 (c2 (c2 (c2 Zax.B))))))), .inBlock 0, .code (c2 (c2 (c2 (c2 Zax.B))))] [(1, .pointer (some (pt b1 0))), (3, .string j28), (5, .int .i64 s4), (4, .string j29)] [(b1, Zak.enc a0)] (Zax.K1 a0 s4 j28 j29) (Zax.F1 a0 b1).f := by
 unfold Zax.K1
 refine SJ.sr 4 <| J.k 1 0 rfl Ty3 (ZbG _) <| J.C 1 F118 (Zed _ _) fun r30 => J.z 0 <| J.f ?_ ?_
 ·exact SJ.sr 10 <| J.T 2 <| J.T 0 <| J.C 0 F119 Zfi fun r34 => J.i 1 fun p35 => J.l 0 Ty9 fun x36 => J.T 0 <| J.z 1 <| SJ.rg 1 <| J.z 1 <| SJ.inBlock <| SJ.rg 3 <| J.z 3 <| J.o rfl
 exact SJ.skip <| SJ.inBlock <| SJ.rg 3 <| J.z 3 <| J.o rfl
noncomputable def Zax.L1 (a0 : Zag) (s2 : ByteArray) (s3 : ByteArray) (s4 : Int) : M (LS (ByteArray × ByteArray × Int) ByteArray) :=
 if s4 < 8 then
  Zba a0.Set s4 >>= fun r24 =>
  if r24 = true then
   chk (((s2.size + s3.size : Nat) : Int) ≤ 9223372036854775807) >>= fun _ =>
   ZcE >>= fun r38 =>
   idx r38.a r38.len s4 1 >>= fun p39 =>
   ld cS p39 >>= fun x40 =>
   chk ((((s2 ++ s3).size + x40.size : Nat) : Int) ≤ 9223372036854775807) >>= fun _ =>
   Zax.K1 a0 s4 ((s2 ++ s3) ++ x40) ZeE
  else
   Zax.K1 a0 s4 s2 s3
 else
  pure (LS.done s2)
theorem Zax.L1_ok (a0 : Zag) (b1 : Nat) : LJ Zax.cx (Zax.F1 a0 b1) (fun s_ => Zax.L1 a0 s_.1 s_.2.1 s_.2.2) := by
 rintro ⟨s2, s3, s4⟩
 show SJ _ _ _ _ (Zax.L1 a0 s2 s3 s4) _
 unfold Zax.L1
 refine SJ.seq <| SJ.sr 2 <| J.z 2 <| J.f ?_ ?_
 ·refine SJ.skip <| SJ.seq <| SJ.block (id := 1) <| SJ.seq <| SJ.sr 4 <| J.k 1 0 rfl Ty3 (ZbR _) <| J.C 1 F118 (Zed _ _) fun r24 => J.z 0 <| J.f ?_ ?_
  ·exact SJ.sr 9 <| J.T 2 <| J.C 0 F119 Zfi fun r38 => J.i 1 fun p39 => J.l 0 Ty9 fun x40 => J.T 0 <| J.z 1 <| SJ.rg 1 <| J.z 1 <| J.q <| Zax.K1_ok a0 b1 s4 ((s2 ++ s3) ++ x40) ZeE
  exact SJ.skip <| J.q <| Zax.K1_ok a0 b1 s4 s2 s3
 exact SJ.exit (id := 0) (by rfl) <| SJ.sr 2 <| J.z 2 <| J.r
noncomputable def Zax (a0 : Zag) : M ByteArray :=
 slot 28 >>= fun b1 =>
 Zb9 (fun s_ : (ByteArray × ByteArray × Int) => Zax.L1 a0 s_.1 s_.2.1 s_.2.2) (ByteArray.empty, Zni, 0)
theorem Zhb (a0 : Zag) : Ref Tryz.prog 67 [Zak.val a0] (Zax a0) Zax.out := by
 refine J.Fn Tryz.func67 ?_
 unfold Zax
 exact SJ.sr 2 <| J.b 0 Zak a0 fun b1 => J.z 1 <| SJ.sr 1 <| J.z 1 <| SJ.sr 1 <| J.z 1 <| SJ.seq <| SJ.sr 1 <| J.z 1 <| SJ.block (id := 0) <| J.L (Zax.L1_ok a0 b1)

/-! ### weir/weirref16.PrintRule: function 23 -/
noncomputable def Zal.B : Code := bod Tryz.f23
noncomputable def Zal.cx : Fx := ⟨Tryz.prog, 23, Tryz.f23, none⟩
noncomputable def Zal.out (r_ : (ByteArray × Int)) : Value := .tuple #[.string r_.1, .int .i64 r_.2]
noncomputable def Zal.K1 (a0 : Zag) (j12 : ByteArray) : M (ByteArray × Int) :=
 draw >>= fun _ =>
 ZaE Zks a0.From >>= fun r13 =>
 chk (((j12.size + r13.size : Nat) : Int) ≤ 9223372036854775807) >>= fun _ =>
 ZaE Zmd a0.To >>= fun r14 =>
 chk ((((j12 ++ r13).size + r14.size : Nat) : Int) ≤ 9223372036854775807) >>= fun _ =>
 Zax a0 >>= fun r15 =>
 chk (((((j12 ++ r13) ++ r14).size + r15.size : Nat) : Int) ≤ 9223372036854775807) >>= fun _ =>
 if a0.Type_ > 0 then
  chk ((((((j12 ++ r13) ++ r14) ++ r15).size + ZjE.size : Nat) : Int) ≤ 9223372036854775807) >>= fun _ =>
  Zaz (IntKind.wrap .i64 (a0.Type_ - 1)) >>= fun r17 =>
  chk (((((((j12 ++ r13) ++ r14) ++ r15) ++ ZjE).size + r17.size : Nat) : Int) ≤ 9223372036854775807) >>= fun _ =>
  if a0.Pieces = true then
   chk ((((((((j12 ++ r13) ++ r14) ++ r15) ++ ZjE) ++ r17).size + Zlo.size : Nat) : Int) ≤ 9223372036854775807) >>= fun _ =>
   pure (((((((j12 ++ r13) ++ r14) ++ r15) ++ ZjE) ++ r17) ++ Zlo), 0)
  else
   pure ((((((j12 ++ r13) ++ r14) ++ r15) ++ ZjE) ++ r17), 0)
 else
  if a0.Pieces = true then
   chk ((((((j12 ++ r13) ++ r14) ++ r15).size + Zlo.size : Nat) : Int) ≤ 9223372036854775807) >>= fun _ =>
   pure (((((j12 ++ r13) ++ r14) ++ r15) ++ Zlo), 0)
  else
   pure ((((j12 ++ r13) ++ r14) ++ r15), 0)
theorem Zal.K1_ok (a0 : Zag) (b1 : Nat) (j12 : ByteArray) :
  SJ Zal.cx [.code (c2 (c2 (c2 (c2 (c2 (c2 (c2 (c2 Zal.B))))))))] [(1, .pointer (some (pt b1 0))), (5, .string j12)] [(b1, Zak.enc a0)] (Zal.K1 a0 j12) (rt Zal.out) := by
 unfold Zal.K1
 refine SJ.seq <| J.D [0, 1, 2, 5, 6, 9, 3, 4, 7, 8, 10, 11, 12] ZcR <| J.k 2 0 rfl Ty26 (Zcu _) <| J.k 1 0 rfl Ty26 (Zcl _) <| J.k 0 0 rfl Ty28 (At.whole _) <| OJ.call (d := 52) (g := 66) (ats := #[9, 26]) (args := [.const (.string Zks), .tmp 51]) (owed := [⟨9, 28, (pt b1 0), Zak.val a0⟩, ⟨6, 26, (pt b1 9), Zaw.val a0.To⟩]) F66 (Zfj Zks a0.From) fun r13 => OW.known (j := 0) (q := a0) Ty28 rfl (At.whole _) <| OW.known (j := 0) (q := a0.To) Ty26 rfl (Zcl a0) <| OW.nil <| J.T 0 <| OJ.call (d := 56) (g := 66) (ats := #[9, 26]) (args := [.const (.string Zmd), .tmp 55]) (owed := [⟨9, 28, (pt b1 0), Zak.val a0⟩]) F66 (Zfj Zmd a0.To) fun r14 => OW.known (j := 0) (q := a0) Ty28 rfl (At.whole _) <| OW.nil <| J.T 0 <| J.C 0 F67 (Zhb _) fun r15 => J.T 0 <| J.z 1 <| SJ.seq <| SJ.sr 3 <| J.k 1 0 rfl Ty3 (ZbT _) <| J.z 1 <| J.f ?_ ?_
 ·refine SJ.rg 8 <| J.T 1 <| J.k 1 0 rfl Ty3 (ZbT _) <| J.C 1 F64 (Zb6 _) fun r17 => J.T 0 <| J.z 1 <| SJ.seq <| SJ.sr 2 <| J.k 1 0 rfl Ty4 (ZcL _) <| J.z 0 <| J.f ?_ ?_
  ·exact SJ.rg 3 <| J.T 1 <| J.z 1 <| SJ.sr 3 <| J.z 3 <| J.r
  exact SJ.skip <| SJ.sr 3 <| J.z 3 <| J.r
 refine SJ.skip <| SJ.seq <| SJ.sr 2 <| J.k 1 0 rfl Ty4 (ZcL _) <| J.z 0 <| J.f ?_ ?_
 ·exact SJ.rg 3 <| J.T 1 <| J.z 1 <| SJ.sr 3 <| J.z 3 <| J.r
 exact SJ.skip <| SJ.sr 3 <| J.z 3 <| J.r
noncomputable def Zal.K2 (a0 : Zag) (j10 : ByteArray) : M (ByteArray × Int) :=
 if a0.Vid > 0 then
  chk (((j10.size + Zlq.size : Nat) : Int) ≤ 9223372036854775807) >>= fun _ =>
  Zaz a0.Vid >>= fun r21 =>
  chk ((((j10 ++ Zlq).size + r21.size : Nat) : Int) ≤ 9223372036854775807) >>= fun _ =>
  Zal.K1 a0 ((j10 ++ Zlq) ++ r21)
 else
  Zal.K1 a0 j10
theorem Zal.K2_ok (a0 : Zag) (b1 : Nat) (j10 : ByteArray) :
  SJ Zal.cx [.code (c2 (c2 (c2 (c2 (c2 (c2 (c2 Zal.B)))))))] [(1, .pointer (some (pt b1 0))), (5, .string j10)] [(b1, Zak.enc a0)] (Zal.K2 a0 j10) (rt Zal.out) := by
 unfold Zal.K2
 refine SJ.seq <| SJ.sr 3 <| J.k 1 0 rfl Ty3 (ZcJ _) <| J.z 1 <| J.f ?_ ?_
 ·exact SJ.rg 7 <| J.T 1 <| J.k 1 0 rfl Ty3 (ZcJ _) <| J.C 0 F64 (Zb6 _) fun r21 => J.T 0 <| J.z 1 <| J.q <| Zal.K1_ok a0 b1 ((j10 ++ Zlq) ++ r21)
 exact SJ.skip <| J.q <| Zal.K1_ok a0 b1 j10
noncomputable def Zal.K3 (a0 : Zag) (j7 : ByteArray) : M (ByteArray × Int) :=
 chk (((j7.size + str8.size : Nat) : Int) ≤ 9223372036854775807) >>= fun _ =>
 Zdm a0 >>= fun r8 =>
 chk ((((j7 ++ str8).size + r8.size : Nat) : Int) ≤ 9223372036854775807) >>= fun _ =>
 if a0.In > 0 then
  chk (((((j7 ++ str8) ++ r8).size + Zlr.size : Nat) : Int) ≤ 9223372036854775807) >>= fun _ =>
  Zaz (IntKind.wrap .i64 (a0.In - 1)) >>= fun r23 =>
  chk ((((((j7 ++ str8) ++ r8) ++ Zlr).size + r23.size : Nat) : Int) ≤ 9223372036854775807) >>= fun _ =>
  Zal.K2 a0 ((((j7 ++ str8) ++ r8) ++ Zlr) ++ r23)
 else
  Zal.K2 a0 ((j7 ++ str8) ++ r8)
theorem Zal.K3_ok (a0 : Zag) (b1 : Nat) (j7 : ByteArray) :
  SJ Zal.cx [.code (c2 (c2 (c2 (c2 (c2 Zal.B)))))] [(1, .pointer (some (pt b1 0))), (5, .string j7)] [(b1, Zak.enc a0)] (Zal.K3 a0 j7) (rt Zal.out) := by
 unfold Zal.K3
 refine SJ.sr 6 <| J.T 1 <| J.k 0 0 rfl Ty28 (At.whole _) <| J.C 0 F65 (Zip _) fun r8 => J.T 0 <| J.z 1 <| SJ.seq <| SJ.sr 3 <| J.k 1 0 rfl Ty3 (ZcY _) <| J.z 1 <| J.f ?_ ?_
 ·exact SJ.rg 8 <| J.T 1 <| J.k 1 0 rfl Ty3 (ZcY _) <| J.C 1 F64 (Zb6 _) fun r23 => J.T 0 <| J.z 1 <| J.q <| Zal.K2_ok a0 b1 ((((j7 ++ str8) ++ r8) ++ Zlr) ++ r23)
 exact SJ.skip <| J.q <| Zal.K2_ok a0 b1 ((j7 ++ str8) ++ r8)
noncomputable def Zal (a0 : Zag) : M (ByteArray × Int) :=
 slot 28 >>= fun b1 =>
 ZcG a0 >>= fun r2 =>
 if r2 ≠ 0 then
  pure (ByteArray.empty, r2)
 else
  newv 9 (cS.arr 4) (⟨[ByteArray.empty, Ztx, Ztw, Ztv], rfl⟩ : Vec ByteArray 4) >>= fun b3 =>
  idx (⟨some (pt b3 0), 4, 4⟩ : Sl).a (⟨some (pt b3 0), 4, 4⟩ : Sl).len a0.Act 1 >>= fun p4 =>
  ld cS p4 >>= fun x5 =>
  if a0.Class > 0 then
   chk (((x5.size + Zls.size : Nat) : Int) ≤ 9223372036854775807) >>= fun _ =>
   Zaz a0.Class >>= fun r25 =>
   chk ((((x5 ++ Zls).size + r25.size : Nat) : Int) ≤ 9223372036854775807) >>= fun _ =>
   Zal.K3 a0 ((x5 ++ Zls) ++ r25)
  else
   Zal.K3 a0 x5
theorem Zgj (a0 : Zag) : Ref Tryz.prog 23 [Zak.val a0] (Zal a0) Zal.out := by
 refine J.Fn Tryz.func23 ?_
 unfold Zal
 refine SJ.sr 3 <| J.b 0 Zak a0 fun b1 => J.z 2 <| SJ.sr 3 <| J.k 0 0 rfl Ty28 (At.whole _) <| J.C 0 F24 (Zfl _) fun r2 => J.z 1 <| SJ.seq <| SJ.sr 2 <| J.z 2 <| J.f ?_ ?_
 ·exact SJ.sr 3 <| J.z 3 <| J.r
 refine SJ.skip <| SJ.sr 6 <| J.N 0 Ty9 fun b3 => J.k 1 0 rfl Ty3 (ZbS _) <| J.i 0 fun p4 => J.l 0 Ty9 fun x5 => J.z 1 <| SJ.seq <| SJ.sr 3 <| J.k 1 0 rfl Ty3 (ZbU _) <| J.z 1 <| J.f ?_ ?_
 ·exact SJ.rg 7 <| J.T 1 <| J.k 1 0 rfl Ty3 (ZbU _) <| J.C 0 F64 (Zb6 _) fun r25 => J.T 0 <| J.z 1 <| J.q <| Zal.K3_ok a0 b1 ((x5 ++ Zls) ++ r25)
 exact SJ.skip <| J.q <| Zal.K3_ok a0 b1 x5

/-! ### weir/weirlaw16.num: function 16 -/
noncomputable def ZcB.out (r_ : Int) : Value := .int .i64 r_
noncomputable def ZcB (a0 : Int) : M Int :=
 pure a0
theorem ZdK (a0 : Int) : Ref Tryz.prog 16 [.int .i64 a0] (ZcB a0) ZcB.out := by
 refine J.Fn Tryz.func16 ?_
 unfold ZcB
 exact SJ.sr 1 <| J.z 1 <| SJ.sr 2 <| J.z 2 <| J.r

/-! ### weir/weirref16.SameSide: function 55 -/
noncomputable def Zam.B : Code := bod Tryz.f55
noncomputable def Zam.cx : Fx := ⟨Tryz.prog, 55, Tryz.f55, none⟩
noncomputable def Zam.out (r_ : Bool) : Value := .bool r_
noncomputable def Zam.F1 (a0 : Zae) (a1 : Zae) (b1 : Nat) (b2 : Nat) : LF Int Bool := ⟨[.inBlock 2, .code (c2 (c2 (c2 (c2 Zam.B))))], c1 (c2 (c1 (c2 (c2 (c2 Zam.B))))), fun s_ => [(2, .pointer (some (pt b1 0))), (3, .pointer (some (pt b2 0))), (6, .int .i64 s_)], fun s_ => [(b2, Zaw.enc a1), (b1, Zaw.enc a0)], (rt Zam.out)⟩
noncomputable def Zam.L1 (a0 : Zae) (a1 : Zae) (s12 : Int) : M (LS Int Bool) :=
 if s12 < (a0.Ports.len : Int) then
  draw >>= fun _ =>
  idx a0.Ports.a a0.Ports.len s12 2 >>= fun p19 =>
  ld Zbb p19 >>= fun x20 =>
  idx a1.Ports.a a1.Ports.len s12 2 >>= fun p21 =>
  ld Zbb p21 >>= fun x22 =>
  if ¬ (x20 = x22) then
   pure (LS.done false)
  else
   pure (LS.next (IntKind.wrap .i64 (s12 + 1)))
 else
  pure (LS.done true)
theorem Zam.L1_ok (a0 : Zae) (a1 : Zae) (b1 : Nat) (b2 : Nat) : LJ Zam.cx (Zam.F1 a0 a1 b1 b2) (fun s_ => Zam.L1 a0 a1 s_) := by
 rintro s12
 show SJ _ _ _ _ (Zam.L1 a0 a1 s12) _
 unfold Zam.L1
 refine SJ.seq <| SJ.sr 5 <| J.k 2 1 rfl Ty24 (ZaH _) <| J.z 2 <| J.f ?_ ?_
 ·refine SJ.skip <| SJ.seq <| SJ.block (id := 3) <| SJ.seq <| J.R 11 ZcR <| J.k 1 1 rfl Ty24 (ZaH _) <| J.i 1 fun p19 => J.l 0 ZeJ fun x20 => J.k 1 0 rfl Ty24 (ZaH _) <| J.i 1 fun p21 => J.l 0 ZeJ fun x22 => OJ.neq (d := 65) (T := 147) (yT := 147) (y := .tmp 59) (z := .tmp 64) (cd := Zbb) (p := x20) (q := x22) rfl Zue <| J.z 0 <| J.f ?_ ?_
  ·exact SJ.sr 1 <| J.z 1 <| J.r
  exact SJ.skip <| SJ.inBlock <| SJ.rg 3 <| J.z 3 <| J.o rfl
 exact SJ.exit (id := 2) (by rfl) <| SJ.sr 1 <| J.z 1 <| J.r
noncomputable def Zam.K1 (a0 : Zae) (a1 : Zae) : M Bool :=
 Zb9 (fun s_ : Int => Zam.L1 a0 a1 s_) 0
theorem Zam.K1_ok (a0 : Zae) (a1 : Zae) (b1 : Nat) (b2 : Nat) :
  SJ Zam.cx [.code (c2 (c2 (c2 Zam.B)))] [(2, .pointer (some (pt b1 0))), (3, .pointer (some (pt b2 0)))] [(b2, Zaw.enc a1), (b1, Zaw.enc a0)] (Zam.K1 a0 a1) (rt Zam.out) := by
 unfold Zam.K1
 exact SJ.seq <| SJ.sr 1 <| J.z 1 <| SJ.block (id := 2) <| J.L (Zam.L1_ok a0 a1 b1 b2)
noncomputable def Zam.F2 (a0 : Zae) (a1 : Zae) (b1 : Nat) (b2 : Nat) : LF Int Bool := ⟨[.inBlock 0, .code (c2 (c2 (c2 Zam.B)))], c1 (c2 (c1 (c2 (c2 Zam.B)))), fun s_ => [(2, .pointer (some (pt b1 0))), (3, .pointer (some (pt b2 0))), (5, .int .i64 s_)], fun s_ => [(b2, Zaw.enc a1), (b1, Zaw.enc a0)], (rt Zam.out)⟩
noncomputable def Zam.L2 (a0 : Zae) (a1 : Zae) (s5 : Int) : M (LS Int Bool) :=
 if s5 < (a0.Nets.len : Int) then
  draw >>= fun _ =>
  idx a0.Nets.a a0.Nets.len s5 18 >>= fun p25 =>
  ld ZaF p25 >>= fun x26 =>
  idx a1.Nets.a a1.Nets.len s5 18 >>= fun p27 =>
  ld ZaF p27 >>= fun x28 =>
  if ¬ (x26 = x28) then
   pure (LS.done false)
  else
   pure (LS.next (IntKind.wrap .i64 (s5 + 1)))
 else
  (Zam.K1 a0 a1) >>= fun b => pure (LS.done b)
theorem Zam.L2_ok (a0 : Zae) (a1 : Zae) (b1 : Nat) (b2 : Nat) : LJ Zam.cx (Zam.F2 a0 a1 b1 b2) (fun s_ => Zam.L2 a0 a1 s_) := by
 rintro s5
 show SJ _ _ _ _ (Zam.L2 a0 a1 s5) _
 unfold Zam.L2
 refine SJ.seq <| SJ.sr 5 <| J.k 2 1 rfl Ty23 (ZaY _) <| J.z 2 <| J.f ?_ ?_
 ·refine SJ.skip <| SJ.seq <| SJ.block (id := 1) <| SJ.seq <| J.R 11 ZcR <| J.k 1 1 rfl Ty23 (ZaY _) <| J.i 1 fun p25 => J.l 0 Zcb fun x26 => J.k 1 0 rfl Ty23 (ZaY _) <| J.i 1 fun p27 => J.l 0 Zcb fun x28 => OJ.neq (d := 47) (T := 117) (yT := 117) (y := .tmp 41) (z := .tmp 46) (cd := ZaF) (p := x26) (q := x28) rfl Zuf <| J.z 0 <| J.f ?_ ?_
  ·exact SJ.sr 1 <| J.z 1 <| J.r
  exact SJ.skip <| SJ.inBlock <| SJ.rg 3 <| J.z 3 <| J.o rfl
 exact SJ.exit (id := 0) (by rfl) <| J.q <| SJ.done <| Zam.K1_ok a0 a1 b1 b2
noncomputable def Zam (a0 : Zae) (a1 : Zae) : M Bool :=
 slot 26 >>= fun b1 =>
 slot 26 >>= fun b2 =>
 (if ¬ (a0.Not = a1.Not) then
   pure true
  else
   pure ((a0.Nets.len : Int) != (a1.Nets.len : Int))) >>= fun y3 =>
 (if y3 = true then
   pure true
  else
   pure ((a0.Ports.len : Int) != (a1.Ports.len : Int))) >>= fun y4 =>
 if y4 = true then
  pure false
 else
  Zb9 (fun s_ : Int => Zam.L2 a0 a1 s_) 0
theorem ZeO (a0 : Zae) (a1 : Zae) : Ref Tryz.prog 55 [Zaw.val a0, Zaw.val a1] (Zam a0 a1) Zam.out := by
 refine J.Fn Tryz.func55 ?_
 unfold Zam
 refine SJ.sr 3 <| J.b 0 Zaw a0 fun b1 => J.b 0 Zaw a1 fun b2 => J.z 1 <| SJ.seq <| SJ.sr 23 <| J.k 1 1 rfl Ty4 (Zc5 _) <| J.k 1 0 rfl Ty4 (Zc5 _) <| J.j 2 7 .bool ?_ ?_ fun y3 => ?_
 ·exact J.e 8
 ·exact J.k 1 1 rfl Ty23 (ZaY _) <| J.k 2 0 rfl Ty23 (ZaY _) <| J.e 3
 refine J.j 1 7 .bool ?_ ?_ fun y4 => ?_
 ·exact J.e 8
 ·exact J.k 1 1 rfl Ty24 (ZaH _) <| J.k 2 0 rfl Ty24 (ZaH _) <| J.e 3
 refine J.z 0 <| J.f ?_ ?_
 ·exact SJ.sr 1 <| J.z 1 <| J.r
 exact SJ.skip <| SJ.seq <| SJ.sr 1 <| J.z 1 <| SJ.block (id := 0) <| J.L (Zam.L2_ok a0 a1 b1 b2)

/-! ### weir/weirref16.Same: function 17 -/
noncomputable def ZcU.out (r_ : Bool) : Value := .bool r_
noncomputable def ZcU (a0 : Zag) (a1 : Zag) : M Bool :=
 slot 28 >>= fun b1 =>
 slot 28 >>= fun b2 =>
 (if a0.Act ≠ a1.Act then
   pure true
  else
   pure (a0.Class != a1.Class)) >>= fun y3 =>
 (if y3 = true then
   pure true
  else
   pure (a0.Kind != a1.Kind)) >>= fun y4 =>
 (if y4 = true then
   pure true
  else
   pure (a0.Proto != a1.Proto)) >>= fun y5 =>
 (if y5 = true then
   pure true
  else
   pure (a0.In != a1.In)) >>= fun y6 =>
 (if y6 = true then
   pure true
  else
   pure (a0.Vid != a1.Vid)) >>= fun y7 =>
 if y7 = true then
  pure false
 else
  (if a0.Set ≠ a1.Set then
    pure true
   else
    pure (a0.Clear != a1.Clear)) >>= fun y8 =>
  (if y8 = true then
    pure true
   else
    pure (a0.Type_ != a1.Type_)) >>= fun y9 =>
  (if y9 = true then
    pure true
   else
    pure (!(a0.Pieces == a1.Pieces))) >>= fun y10 =>
  if y10 = true then
   pure false
  else
   Zam a0.From a1.From >>= fun r11 =>
   (if r11 = true then
     Zam a0.To a1.To >>= fun r12 =>
     pure r12
    else
     pure false) >>= fun y13 =>
   pure y13
theorem ZfL (a0 : Zag) (a1 : Zag) : Ref Tryz.prog 17 [Zak.val a0, Zak.val a1] (ZcU a0 a1) ZcU.out := by
 refine J.Fn Tryz.func17 ?_
 unfold ZcU
 refine SJ.sr 3 <| J.b 0 Zak a0 fun b1 => J.b 0 Zak a1 fun b2 => J.z 1 <| SJ.seq <| SJ.sr 40 <| J.k 1 1 rfl Ty3 (ZbS _) <| J.k 1 0 rfl Ty3 (ZbS _) <| J.j 2 5 .bool ?_ ?_ fun y3 => ?_
 ·exact J.e 6
 ·exact J.k 1 1 rfl Ty3 (ZbU _) <| J.k 1 0 rfl Ty3 (ZbU _) <| J.e 2
 refine J.j 1 5 .bool ?_ ?_ fun y4 => ?_
 ·exact J.e 6
 ·exact J.k 1 1 rfl Ty3 (Zbk _) <| J.k 1 0 rfl Ty3 (Zbk _) <| J.e 2
 refine J.j 1 5 .bool ?_ ?_ fun y5 => ?_
 ·exact J.e 6
 ·exact J.k 1 1 rfl Ty3 (Za1 _) <| J.k 1 0 rfl Ty3 (Za1 _) <| J.e 2
 refine J.j 1 5 .bool ?_ ?_ fun y6 => ?_
 ·exact J.e 6
 ·exact J.k 1 1 rfl Ty3 (ZcY _) <| J.k 1 0 rfl Ty3 (ZcY _) <| J.e 2
 refine J.j 1 5 .bool ?_ ?_ fun y7 => ?_
 ·exact J.e 6
 ·exact J.k 1 1 rfl Ty3 (ZcJ _) <| J.k 1 0 rfl Ty3 (ZcJ _) <| J.e 2
 refine J.z 0 <| J.f ?_ ?_
 ·exact SJ.sr 1 <| J.z 1 <| J.r
 refine SJ.skip <| SJ.seq <| SJ.sr 26 <| J.k 1 1 rfl Ty3 (ZbR _) <| J.k 1 0 rfl Ty3 (ZbR _) <| J.j 2 5 .bool ?_ ?_ fun y8 => ?_
 ·exact J.e 6
 ·exact J.k 1 1 rfl Ty3 (ZbG _) <| J.k 1 0 rfl Ty3 (ZbG _) <| J.e 2
 refine J.j 1 5 .bool ?_ ?_ fun y9 => ?_
 ·exact J.e 6
 ·exact J.k 1 1 rfl Ty3 (ZbT _) <| J.k 1 0 rfl Ty3 (ZbT _) <| J.e 2
 refine J.j 1 5 .bool ?_ ?_ fun y10 => ?_
 ·exact J.e 6
 ·exact J.k 1 1 rfl Ty4 (ZcL _) <| J.k 1 0 rfl Ty4 (ZcL _) <| J.e 2
 refine J.z 0 <| J.f ?_ ?_
 ·exact SJ.sr 1 <| J.z 1 <| J.r
 refine SJ.skip <| SJ.sr 13 <| J.k 1 1 rfl Ty26 (Zcu _) <| J.k 1 0 rfl Ty26 (Zcu _) <| J.C 0 F55 (ZeO _ _) fun r11 => J.j 1 5 .bool ?_ ?_ fun y13 => ?_
 ·exact J.k 1 1 rfl Ty26 (Zcl _) <| J.k 1 0 rfl Ty26 (Zcl _) <| J.C 0 F55 (ZeO _ _) fun r12 => J.e 1
 ·exact J.e 6
 exact J.z 1 <| J.r

/-! ### weir/weirlaw16.wholeSide: function 71 -/
noncomputable def ZaR.B : Code := bod Tryz.f71
noncomputable def ZaR.cx : Fx := ⟨Tryz.prog, 71, Tryz.f71, none⟩
noncomputable def ZaR.out (r_ : Bool) : Value := .bool r_
noncomputable def ZaR.F1 (a0 : Zae) (b1 : Nat) (r2 : Sl) (r3 : Sl) : LF Int Bool := ⟨[.inBlock 0, .code (c2 (c2 (c2 (c2 ZaR.B))))], c1 (c2 (c1 (c2 (c2 (c2 ZaR.B))))), fun s_ => [(1, .pointer (some (pt b1 0))), (3, Sl.v r2), (4, Sl.v r3), (5, .int .i64 s_)], fun s_ => [(b1, Zaw.enc a0)], (rt ZaR.out)⟩
noncomputable def ZaR.L1 (a0 : Zae) (r2 : Sl) (r3 : Sl) (s4 : Int) : M (LS Int Bool) :=
 if s4 < 20 then
  idx r2.a r2.len (IntKind.wrap .i64 ((a0.Nets.len : Int) + s4)) 18 >>= fun p12 =>
  ld ZaF p12 >>= fun x13 =>
  (if ¬ (x13 = (⟨Zbl.IP, (-201)⟩ : Zap)) then
    pure true
   else
    idx r3.a r3.len (IntKind.wrap .i64 ((a0.Ports.len : Int) + s4)) 2 >>= fun p14 =>
    ld Zbb p14 >>= fun x15 =>
    pure (!eqv x15 (⟨(-202), (-203)⟩ : ZaZ))) >>= fun y16 =>
  if y16 = true then
   pure (LS.done false)
  else
   pure (LS.next (IntKind.wrap .i64 (s4 + 1)))
 else
  pure (LS.done true)
theorem ZaR.L1_ok (a0 : Zae) (b1 : Nat) (r2 : Sl) (r3 : Sl) : LJ ZaR.cx (ZaR.F1 a0 b1 r2 r3) (fun s_ => ZaR.L1 a0 r2 r3 s_) := by
 rintro s4
 show SJ _ _ _ _ (ZaR.L1 a0 r2 r3 s4) _
 unfold ZaR.L1
 refine SJ.seq <| SJ.sr 2 <| J.z 2 <| J.f ?_ ?_
 ·refine SJ.skip <| SJ.seq <| SJ.block (id := 1) <| SJ.sr 22 <| J.k 2 0 rfl Ty23 (ZaY _) <| J.i 3 fun p12 => J.l 0 Zcb fun x13 => J.u 0 Zcb (.f 1 (ZcZ _ (-201)) .nil) <| OJ.neq (d := 33) (T := 117) (yT := 117) (y := .tmp 31) (z := .tmp 32) (cd := ZaF) (p := x13) (q := (⟨Zbl.IP, (-201)⟩ : Zap)) rfl Zuf <| J.j 1 10 .bool ?_ ?_ fun y16 => ?_
  ·exact J.e 11
  ·exact J.k 2 0 rfl Ty24 (ZaH _) <| J.i 3 fun p14 => J.l 0 ZeJ fun x15 => J.u 0 ZeJ (.f 0 (Zdw _ (-202)) (.f 1 (Zdx _ (-203)) .nil)) <| OJ.neq (d := 44) (T := 147) (yT := 147) (y := .tmp 42) (z := .tmp 43) (cd := Zbb) (p := x15) (q := (⟨(-202), (-203)⟩ : ZaZ)) rfl Zue <| J.e 1
  refine J.z 0 <| J.f ?_ ?_
  ·exact SJ.sr 1 <| J.z 1 <| J.r
  exact SJ.skip <| SJ.inBlock <| SJ.rg 3 <| J.z 3 <| J.o rfl
 exact SJ.exit (id := 0) (by rfl) <| SJ.sr 1 <| J.z 1 <| J.r
noncomputable def ZaR (a0 : Zae) : M Bool :=
 slot 26 >>= fun b1 =>
 cut 18 a0.Nets none (some (IntKind.wrap .i64 ((a0.Nets.len : Int) + 20))) none >>= fun r2 =>
 cut 2 a0.Ports none (some (IntKind.wrap .i64 ((a0.Ports.len : Int) + 20))) none >>= fun r3 =>
 Zb9 (fun s_ : Int => ZaR.L1 a0 r2 r3 s_) 0
theorem ZeB (a0 : Zae) : Ref Tryz.prog 71 [Zaw.val a0] (ZaR a0) ZaR.out := by
 refine J.Fn Tryz.func71 ?_
 unfold ZaR
 exact SJ.sr 2 <| J.b 0 Zaw a0 fun b1 => J.z 1 <| SJ.sr 8 <| J.k 1 0 rfl Ty23 (ZaY _) <| J.k 1 0 rfl Ty23 (ZaY _) <| J.cs 2 fun r2 => J.z 1 <| SJ.sr 8 <| J.k 1 0 rfl Ty24 (ZaH _) <| J.k 1 0 rfl Ty24 (ZaH _) <| J.cs 2 fun r3 => J.z 1 <| SJ.seq <| SJ.sr 1 <| J.z 1 <| SJ.block (id := 0) <| J.L (ZaR.L1_ok a0 b1 r2 r3)

/-! ### weir/weirlaw16.whole: function 25 -/
noncomputable def Zc1.out (r_ : Bool) : Value := .bool r_
noncomputable def Zc1 (a0 : Zag) (a1 : Zag) : M Bool :=
 slot 28 >>= fun b1 =>
 slot 28 >>= fun b2 =>
 ZcU a0 a1 >>= fun r3 =>
 (if r3 = true then
   ZaR a0.From >>= fun r4 =>
   pure r4
  else
   pure false) >>= fun y5 =>
 (if y5 = true then
   ZaR a0.To >>= fun r6 =>
   pure r6
  else
   pure false) >>= fun y7 =>
 pure y7
theorem ZhR (a0 : Zag) (a1 : Zag) : Ref Tryz.prog 25 [Zak.val a0, Zak.val a1] (Zc1 a0 a1) Zc1.out := by
 refine J.Fn Tryz.func25 ?_
 unfold Zc1
 refine SJ.sr 3 <| J.b 0 Zak a0 fun b1 => J.b 0 Zak a1 fun b2 => J.z 1 <| SJ.sr 14 <| J.k 0 1 rfl Ty28 (At.whole _) <| J.k 0 0 rfl Ty28 (At.whole _) <| J.C 0 F17 (ZfL _ _) fun r3 => J.j 1 3 .bool ?_ ?_ fun y5 => ?_
 ·exact J.k 1 1 rfl Ty26 (Zcu _) <| J.C 0 F71 (ZeB _) fun r4 => J.e 1
 ·exact J.e 4
 refine J.j 1 3 .bool ?_ ?_ fun y7 => ?_
 ·exact J.k 1 1 rfl Ty26 (Zcl _) <| J.C 0 F71 (ZeB _) fun r6 => J.e 1
 ·exact J.e 4
 exact J.z 1 <| J.r

/-! ### weir/weirlaw16.line: function 59 -/
noncomputable def ZcC.B : Code := bod Tryz.f59
noncomputable def ZcC.out (r_ : (ByteArray × Zag)) : Value := .tuple #[.string r_.1, Zak.val r_.2]
noncomputable def ZcC  : M (ByteArray × Zag) :=
 slot 28 >>= fun b1 =>
 slot 117 >>= fun b2 =>
 draws 59 2 (Zd8 (c1 (c2 (c2 ZcC.B)))) >>= fun o3 =>
 if bfr o3 1 4 = true then
  newv 117 (ZaF.arr 1) (⟨[(⟨(⟨4, (⟨[10, 0, 0, 0, 0, 0, 0, 0, 0, 0, 0, 0, 0, 0, 0, 0], rfl⟩ : (Vec Int 16))⟩ : Zbe), 8⟩ : Zap)], rfl⟩ : Vec Zap 1) >>= fun b10 =>
  newv 147 (Zbb.arr 1) (⟨[(⟨80, 80⟩ : ZaZ)], rfl⟩ : Vec ZaZ 1) >>= fun b11 =>
  pure (Zsw, (⟨1, ZaP.Class, ZaP.Kind, 6, ZaP.In, ZaP.Vid, (⟨Za0.Not, (⟨some (pt b10 0), 1, 1⟩ : Sl), Za0.Ports⟩ : Zae), (⟨Za0.Not, Za0.Nets, (⟨some (pt b11 0), 1, 1⟩ : Sl)⟩ : Zae), ZaP.Set, ZaP.Clear, ZaP.Type_, ZaP.Pieces⟩ : Zag))
 else
  newv 147 (Zbb.arr 1) (⟨[(⟨80, 80⟩ : ZaZ)], rfl⟩ : Vec ZaZ 1) >>= fun b12 =>
  newv 117 (ZaF.arr 1) (⟨[(⟨(⟨4, (⟨[10, 0, 0, 0, 0, 0, 0, 0, 0, 0, 0, 0, 0, 0, 0, 0], rfl⟩ : (Vec Int 16))⟩ : Zbe), 8⟩ : Zap)], rfl⟩ : Vec Zap 1) >>= fun b13 =>
  pure (Zsw, (⟨1, ZaP.Class, ZaP.Kind, 6, ZaP.In, ZaP.Vid, (⟨Za0.Not, (⟨some (pt b13 0), 1, 1⟩ : Sl), Za0.Ports⟩ : Zae), (⟨Za0.Not, Za0.Nets, (⟨some (pt b12 0), 1, 1⟩ : Sl)⟩ : Zae), ZaP.Set, ZaP.Clear, ZaP.Type_, ZaP.Pieces⟩ : Zag))
theorem Zir  : Ref Tryz.prog 59 [] (ZcC) ZcC.out := by
 refine J.Fn Tryz.func59 ?_
 unfold ZcC
 refine SJ.sr 2 <| J.a 1 Ty28 fun b1 => J.z 0 <| SJ.sr 5 <| OJ.build (d := 3) (T := 64) (parts := [(0, .const (.int .u8 10))]) (ps := [(0, (cI .u8).val 10)]) (cd := ((cI .u8).arr 16)) (z0 := (Vec.rep 16 0)) (⟨[10, 0, 0, 0, 0, 0, 0, 0, 0, 0, 0, 0, 0, 0, 0, 0], rfl⟩ : (Vec Int 16)) Ty64 rfl (Zb4.cons (cd := (cI .u8)) (q := 10) (o := 0) (by kernel_rfl) (Upd.arr (i := 0) (by decide) (by decide)) Zb4.nil) <| J.u 0 Ty66 (.f 0 (ZhM _ 4) (.f 1 (ZhN _ (⟨[10, 0, 0, 0, 0, 0, 0, 0, 0, 0, 0, 0, 0, 0, 0, 0], rfl⟩ : (Vec Int 16))) .nil)) <| J.u 0 Zcb (.f 0 (ZeU _ (⟨4, (⟨[10, 0, 0, 0, 0, 0, 0, 0, 0, 0, 0, 0, 0, 0, 0, 0], rfl⟩ : (Vec Int 16))⟩ : Zbe)) (.f 1 (ZcZ _ 8) .nil)) <| J.a 0 Zcb fun b2 => J.s 0 0 rfl Zcb (Upd.w (⟨(⟨4, (⟨[10, 0, 0, 0, 0, 0, 0, 0, 0, 0, 0, 0, 0, 0, 0, 0], rfl⟩ : (Vec Int 16))⟩ : Zbe), 8⟩ : Zap)) <| J.z 0 <| SJ.seq <| SJ.draws (id := 2) (kd := [1, 2, 0, 0, 2, 0, 0, 0, 2]) (bef := [0, 1, 3, 0, 8, 24, 63, 0, 255]) (ord := [0, 1, 2, 3, 4, 5, 6, 7, 8]) (E := [(1, 4)]) ZcR fun o3 hg_ => SJ.bfr hg_ (by decide) (fun ho9 => ?_) fun ho9 => ?_
 ·exact SJ.leaf hg_ (kd := [1, 2, 0, 0, 2, 0, 0, 0, 2]) (bef := [0, 1, 3, 0, 8, 24, 63, 0, 255]) (ord := [0, 1, 2, 3, 4, 5, 6, 7, 8]) (E := [(1, 4)]) (allB.cons ho9 allB.nil) <| J.k 0 0 rfl Zcb (At.whole _) <| J.N 0 Zcb fun b10 => J.u 0 Ty26 (.f 1 (ZdM _ (⟨some (pt b10 0), 1, 1⟩ : Sl)) .nil) <| J.u 0 ZeJ (.f 0 (Zdw _ 80) (.f 1 (Zdx _ 80) .nil)) <| OJ.rowNew (d := 10) (t := 24) (parts := [(0, .tmp 9)]) (ps := [(0, Zbb.val (⟨80, 80⟩ : ZaZ))]) (cd := Zbb) (owed := [⟨0, 117, (pt b2 0), ZaF.val (⟨(⟨4, (⟨[10, 0, 0, 0, 0, 0, 0, 0, 0, 0, 0, 0, 0, 0, 0, 0], rfl⟩ : (Vec Int 16))⟩ : Zbe), 8⟩ : Zap)⟩]) ZeJ (Zb4.cons (cd := Zbb) (q := (⟨80, 80⟩ : ZaZ)) (o := 0) rfl (Upd.arr (i := 0) (by decide) (by decide)) Zb4.nil) fun b11 => OW.known (j := 0) (q := (⟨(⟨4, (⟨[10, 0, 0, 0, 0, 0, 0, 0, 0, 0, 0, 0, 0, 0, 0, 0], rfl⟩ : (Vec Int 16))⟩ : Zbe), 8⟩ : Zap)) Zcb rfl (At.whole _) <| OW.nil <| J.u 0 Ty26 (.f 2 (Zdv _ (⟨some (pt b11 0), 1, 1⟩ : Sl)) .nil) <| J.u 0 Ty28 (.f 0 (ZdZ _ 1) (.f 3 (Zd3 _ 6) (.f 6 (ZdN _ (⟨Za0.Not, (⟨some (pt b10 0), 1, 1⟩ : Sl), Za0.Ports⟩ : Zae)) (.f 7 (Zeb _ (⟨Za0.Not, Za0.Nets, (⟨some (pt b11 0), 1, 1⟩ : Sl)⟩ : Zae)) .nil)))) <| J.s 1 1 rfl Ty28 (Upd.w (⟨1, ZaP.Class, ZaP.Kind, 6, ZaP.In, ZaP.Vid, (⟨Za0.Not, (⟨some (pt b10 0), 1, 1⟩ : Sl), Za0.Ports⟩ : Zae), (⟨Za0.Not, Za0.Nets, (⟨some (pt b11 0), 1, 1⟩ : Sl)⟩ : Zae), ZaP.Set, ZaP.Clear, ZaP.Type_, ZaP.Pieces⟩ : Zag)) <| J.z 0 <| J.rc (.c 1 rfl Ty28 .n)
 exact SJ.leaf hg_ (kd := [1, 2, 0, 0, 2, 0, 0, 0, 2]) (bef := [0, 1, 3, 0, 8, 24, 63, 0, 255]) (ord := [0, 3, 4, 1, 2, 5, 6, 7, 8]) (E := [(4, 1)]) (allB.cons ho9 allB.nil) <| J.k 0 0 rfl Zcb (At.whole _) <| J.u 0 ZeJ (.f 0 (Zdw _ 80) (.f 1 (Zdx _ 80) .nil)) <| OJ.rowNew (d := 10) (t := 24) (parts := [(0, .tmp 9)]) (ps := [(0, Zbb.val (⟨80, 80⟩ : ZaZ))]) (cd := Zbb) (owed := [⟨0, 117, (pt b2 0), ZaF.val (⟨(⟨4, (⟨[10, 0, 0, 0, 0, 0, 0, 0, 0, 0, 0, 0, 0, 0, 0, 0], rfl⟩ : (Vec Int 16))⟩ : Zbe), 8⟩ : Zap)⟩]) ZeJ (Zb4.cons (cd := Zbb) (q := (⟨80, 80⟩ : ZaZ)) (o := 0) rfl (Upd.arr (i := 0) (by decide) (by decide)) Zb4.nil) fun b12 => OW.known (j := 0) (q := (⟨(⟨4, (⟨[10, 0, 0, 0, 0, 0, 0, 0, 0, 0, 0, 0, 0, 0, 0, 0], rfl⟩ : (Vec Int 16))⟩ : Zbe), 8⟩ : Zap)) Zcb rfl (At.whole _) <| OW.nil <| J.N 0 Zcb fun b13 => J.u 0 Ty26 (.f 1 (ZdM _ (⟨some (pt b13 0), 1, 1⟩ : Sl)) .nil) <| J.u 0 Ty26 (.f 2 (Zdv _ (⟨some (pt b12 0), 1, 1⟩ : Sl)) .nil) <| J.u 0 Ty28 (.f 0 (ZdZ _ 1) (.f 3 (Zd3 _ 6) (.f 6 (ZdN _ (⟨Za0.Not, (⟨some (pt b13 0), 1, 1⟩ : Sl), Za0.Ports⟩ : Zae)) (.f 7 (Zeb _ (⟨Za0.Not, Za0.Nets, (⟨some (pt b12 0), 1, 1⟩ : Sl)⟩ : Zae)) .nil)))) <| J.s 1 1 rfl Ty28 (Upd.w (⟨1, ZaP.Class, ZaP.Kind, 6, ZaP.In, ZaP.Vid, (⟨Za0.Not, (⟨some (pt b13 0), 1, 1⟩ : Sl), Za0.Ports⟩ : Zae), (⟨Za0.Not, Za0.Nets, (⟨some (pt b12 0), 1, 1⟩ : Sl)⟩ : Zae), ZaP.Set, ZaP.Clear, ZaP.Type_, ZaP.Pieces⟩ : Zag)) <| J.z 0 <| J.rc (.c 1 rfl Ty28 .n)

/-! ### weir/rules.words: function 45 -/
noncomputable def ZaO.B : Code := bod Tryz.f45
noncomputable def ZaO.cx : Fx := ⟨Tryz.prog, 45, Tryz.f45, none⟩
noncomputable def ZaO.out (r_ : (Sl × Int)) : Value := .tuple #[Sl.v r_.1, .int .i64 r_.2]
noncomputable def ZaO.F1 (a0 : ByteArray) : LF (Sl × Int) (Sl × Int) := ⟨[.inBlock 0, .code (c2 (c2 (c2 ZaO.B)))], c1 (c2 (c1 (c2 (c2 ZaO.B)))), fun s_ => [(0, .string a0), (4, Sl.v s_.1), (5, .int .i64 s_.2)], fun s_ => [], (rt ZaO.out)⟩
noncomputable def ZaO.K1 (a0 : ByteArray) (s1 : Sl) (s2 : Int) (s42 : Int) : M (LS (Sl × Int) (Sl × Int)) :=
 chk ((0 : Int) ≤ s2 ∧ s2 < (a0.size : Int)) >>= fun _ =>
 if s42 > s2 then
  chk (0 ≤ (s2 : Int) ∧ (s2 : Int) ≤ s42 ∧ s42 ≤ (a0.size : Int)) >>= fun _ =>
  slot 129 >>= fun b60 =>
  appl Zbm 129 24 ZcD s1 [(⟨(ByteArray.extract a0 (Int.toNat s2) (Int.toNat s42)), s2⟩ : ZaI)] >>= fun r61 =>
  pure (LS.next (r61, s42))
 else
  if (sb a0 s2) = 44 then
   chk (0 ≤ (s2 : Int) ∧ (s2 : Int) ≤ (IntKind.wrap .i64 (s42 + 1)) ∧ (IntKind.wrap .i64 (s42 + 1)) ≤ (a0.size : Int)) >>= fun _ =>
   slot 129 >>= fun b64 =>
   appl Zbm 129 24 ZcD s1 [(⟨(ByteArray.extract a0 (Int.toNat s2) (Int.toNat (IntKind.wrap .i64 (s42 + 1)))), s2⟩ : ZaI)] >>= fun r65 =>
   pure (LS.next (r65, IntKind.wrap .i64 (s42 + 1)))
  else
   (if (sb a0 s2) = 32 then
     pure true
    else
     pure ((sb a0 s2) == 9)) >>= fun y66 =>
   if y66 = true then
    pure (LS.next (s1, IntKind.wrap .i64 (s2 + 1)))
   else
    pure (LS.done (Sl.nil, s2))
theorem ZaO.K1_ok (a0 : ByteArray) (s1 : Sl) (s2 : Int) (s42 : Int) :
  SJ ZaO.cx [.code (c2 (c2 (c1 (c2 (c1 (c1 (c2 (c1 (c2 (c2 ZaO.B)))))))))), .inBlock 1, .inLoop (c1 (c1 (c2 (c1 (c2 (c2 ZaO.B)))))), .inBlock 0, .code (c2 (c2 (c2 ZaO.B)))] [(0, .string a0), (4, Sl.v s1), (5, .int .i64 s2), (6, .int .i64 s42)] [] (ZaO.K1 a0 s1 s2 s42) (ZaO.F1 a0).f := by
 unfold ZaO.K1
 refine SJ.seq <| SJ.sr 4 <| J.t 2 fun hb53 hb54 => J.z 1 <| SJ.block (id := 4) <| SJ.sr 4 <| J.z 4 <| J.f ?_ ?_
 ·exact SJ.skip <| SJ.inBlock <| SJ.sr 10 <| J.ct 4 <| J.u 1 Zdz (.f 0 (ZgU _ (ByteArray.extract a0 (Int.toNat s2) (Int.toNat s42))) (.f 1 (ZfT _ s2) .nil)) <| J.S 0 [(⟨(ByteArray.extract a0 (Int.toNat s2) (Int.toNat s42)), s2⟩ : ZaI)] Zdz fun b60 => J.p 0 0 rfl Zdz fun r61 => J.z 1 <| SJ.rg 2 <| J.z 2 <| SJ.inBlock <| SJ.forget (List.Sublist.cons _ List.Sublist.slnil) <| J.o rfl
 refine SJ.sr 3 <| J.z 3 <| J.f ?_ ?_
 ·exact SJ.rg 3 <| J.z 3 <| SJ.inBlock <| SJ.sr 10 <| J.ct 4 <| J.u 1 Zdz (.f 0 (ZgU _ (ByteArray.extract a0 (Int.toNat s2) (Int.toNat (IntKind.wrap .i64 (s42 + 1))))) (.f 1 (ZfT _ s2) .nil)) <| J.S 0 [(⟨(ByteArray.extract a0 (Int.toNat s2) (Int.toNat (IntKind.wrap .i64 (s42 + 1)))), s2⟩ : ZaI)] Zdz fun b64 => J.p 0 0 rfl Zdz fun r65 => J.z 1 <| SJ.rg 2 <| J.z 2 <| SJ.inBlock <| SJ.forget (List.Sublist.cons _ List.Sublist.slnil) <| J.o rfl
 refine SJ.sr 7 <| J.j 3 2 .bool ?_ ?_ fun y66 => ?_
 ·exact J.e 3
 ·exact J.e 3
 refine J.z 1 <| J.f ?_ ?_
 ·exact SJ.sr 3 <| J.z 3 <| SJ.exit (id := 1) (by rfl) <| J.o rfl
 exact SJ.sr 3 <| J.z 3 <| J.r
noncomputable def ZaO.F2 (a0 : ByteArray) (s1 : Sl) (s2 : Int) : LF Int (LS (Sl × Int) (Sl × Int)) := ⟨[.inBlock 2, .code (c2 (c2 (c1 (c2 (c1 (c1 (c2 (c1 (c2 (c2 ZaO.B)))))))))), .inBlock 1, .inLoop (c1 (c1 (c2 (c1 (c2 (c2 ZaO.B)))))), .inBlock 0, .code (c2 (c2 (c2 ZaO.B)))], c1 (c1 (c2 (c1 (c2 (c1 (c1 (c2 (c1 (c2 (c2 ZaO.B)))))))))), fun s_ => [(0, .string a0), (4, Sl.v s1), (5, .int .i64 s2), (6, .int .i64 s_)], fun s_ => [], (ZaO.F1 a0).f⟩
noncomputable def ZaO.L2 (a0 : ByteArray) (s1 : Sl) (s2 : Int) (s42 : Int) : M (LS Int (LS (Sl × Int) (Sl × Int))) :=
 (if s42 < (a0.size : Int) then
   chk ((0 : Int) ≤ s42 ∧ s42 < (a0.size : Int)) >>= fun _ =>
   pure (decide ((sb a0 s42) > 32))
  else
   pure false) >>= fun y72 =>
 (if y72 = true then
   chk ((0 : Int) ≤ s42 ∧ s42 < (a0.size : Int)) >>= fun _ =>
   pure (decide ((sb a0 s42) < 127))
  else
   pure false) >>= fun y75 =>
 (if y75 = true then
   chk ((0 : Int) ≤ s42 ∧ s42 < (a0.size : Int)) >>= fun _ =>
   pure ((sb a0 s42) != 44)
  else
   pure false) >>= fun y78 =>
 if y78 = true then
  pure (LS.next (IntKind.wrap .i64 (s42 + 1)))
 else
  (ZaO.K1 a0 s1 s2 s42) >>= fun b => pure (LS.done b)
theorem ZaO.L2_ok (a0 : ByteArray) (s1 : Sl) (s2 : Int) : LJ ZaO.cx (ZaO.F2 a0 s1 s2) (fun s_ => ZaO.L2 a0 s1 s2 s_) := by
 rintro s42
 show SJ _ _ _ _ (ZaO.L2 a0 s1 s2 s42) _
 unfold ZaO.L2
 refine SJ.seq <| SJ.sr 22 <| J.j 5 4 .bool ?_ ?_ fun y72 => ?_
 ·exact J.t 2 fun hb70 hb71 => J.e 2
 ·exact J.e 5
 refine J.j 1 4 .bool ?_ ?_ fun y75 => ?_
 ·exact J.t 2 fun hb73 hb74 => J.e 2
 ·exact J.e 5
 refine J.j 1 4 .bool ?_ ?_ fun y78 => ?_
 ·exact J.t 2 fun hb76 hb77 => J.e 2
 ·exact J.e 5
 refine J.z 0 <| J.f ?_ ?_
 ·exact SJ.skip <| SJ.block (id := 3) <| SJ.rg 3 <| J.z 3 <| SJ.inBlock <| J.o rfl
 exact SJ.exit (id := 2) (by rfl) <| J.q <| SJ.done <| ZaO.K1_ok a0 s1 s2 s42
noncomputable def ZaO.L1 (a0 : ByteArray) (s1 : Sl) (s2 : Int) : M (LS (Sl × Int) (Sl × Int)) :=
 if s2 < (a0.size : Int) then
  Zb9 (fun s_ : Int => ZaO.L2 a0 s1 s2 s_) s2
 else
  pure (LS.done (s1, (-1)))
theorem ZaO.L1_ok (a0 : ByteArray) : LJ ZaO.cx (ZaO.F1 a0) (fun s_ => ZaO.L1 a0 s_.1 s_.2) := by
 rintro ⟨s1, s2⟩
 show SJ _ _ _ _ (ZaO.L1 a0 s1 s2) _
 unfold ZaO.L1
 refine SJ.seq <| SJ.sr 4 <| J.z 4 <| J.f ?_ ?_
 ·exact SJ.skip <| SJ.block (id := 1) <| SJ.sr 2 <| J.z 2 <| SJ.seq <| SJ.block (id := 2) <| J.L (ZaO.L2_ok a0 s1 s2)
 exact SJ.exit (id := 0) (by rfl) <| SJ.sr 3 <| J.z 3 <| J.r
noncomputable def ZaO (a0 : ByteArray) : M (Sl × Int) :=
 Zb9 (fun s_ : (Sl × Int) => ZaO.L1 a0 s_.1 s_.2) (Sl.nil, 0)
theorem Zkv (a0 : ByteArray) : Ref Tryz.prog 45 [.string a0] (ZaO a0) ZaO.out := by
 refine J.Fn Tryz.func45 ?_
 unfold ZaO
 exact SJ.sr 2 <| J.z 2 <| SJ.sr 1 <| J.z 1 <| SJ.seq <| SJ.sr 1 <| J.z 1 <| SJ.block (id := 0) <| J.L (ZaO.L1_ok a0)

/-! ### (*weir/rules.reader).fail: function 49 -/
noncomputable def ZaX.out (r_ : Unit) : Value := .tuple #[]
noncomputable def ZaX (a0 : (Option Addr)) (a1 : Int) (a2 : Int) : M Unit :=
 nilck a0 >>= fun p1 =>
 ld (cI .i64) (Addr.add p1 19) >>= fun x2 =>
 if x2 = 0 then
  nilck a0 >>= fun p5 =>
  st (cI .i64) (Addr.add p5 19) a1 >>= fun _ =>
  nilck a0 >>= fun p6 =>
  st (cI .i64) (Addr.add p6 20) a2 >>= fun _ =>
  pure ()
 else
  pure ()
theorem Zbf (a0 : (Option Addr)) (a1 : Int) (a2 : Int) : Ref Tryz.prog 49 [.pointer a0, .int .i64 a1, .int .i64 a2] (ZaX a0 a1 a2) ZaX.out := by
 refine J.Fn Tryz.func49 ?_
 unfold ZaX
 refine SJ.sr 5 <| J.n 1 fun p1 => J.l 1 Ty29 fun x2 => J.z 1 <| J.f ?_ ?_
 ·exact SJ.rg 10 <| J.n 4 fun p5 => J.w 1 Ty29 <| J.n 0 fun p6 => J.w 1 Ty3 <| J.z 0 <| SJ.end_ rfl (Res.run (ys := []) .nil rfl)
 exact SJ.skip <| SJ.end_ rfl (Res.run (ys := []) .nil rfl)

/-! ### (*weir/rules.reader).next: function 47 -/
noncomputable def ZaN.B : Code := bod Tryz.f47
noncomputable def ZaN.cx : Fx := ⟨Tryz.prog, 47, Tryz.f47, none⟩
noncomputable def ZaN.out (r_ : ZaI) : Value := Zbm.val r_
noncomputable def ZaN.K1 (a0 : (Option Addr)) : M ZaI :=
 nilck a0 >>= fun p12 =>
 ld (cI .i64) (Addr.add p12 19) >>= fun x13 =>
 if x13 ≠ 0 then
  pure ZcD
 else
  nilck a0 >>= fun p14 =>
  ld (cI .i64) (Addr.add p14 1) >>= fun x15 =>
  nilck a0 >>= fun p16 =>
  st (cI .i64) (Addr.add p16 1) (IntKind.wrap .i64 (x15 + 1)) >>= fun _ =>
  draw >>= fun _ =>
  nilck a0 >>= fun p17 =>
  ld cL p17 >>= fun x18 =>
  nilck a0 >>= fun p19 =>
  ld (cI .i64) (Addr.add p19 1) >>= fun x20 =>
  idx x18.a x18.len (IntKind.wrap .i64 (x20 - 1)) 2 >>= fun p21 =>
  ld Zbm p21 >>= fun x22 =>
  pure x22
theorem ZaN.K1_ok (a0 : (Option Addr)) (b1 : Nat) :
  SJ ZaN.cx [.code (c2 (c2 ZaN.B))] [(0, .pointer a0), (2, .pointer (some (pt b1 0)))] [(b1, Zbm.enc ZcD)] (ZaN.K1 a0) (rt ZaN.out) := by
 unfold ZaN.K1
 refine SJ.seq <| SJ.sr 5 <| J.n 1 fun p12 => J.l 1 Ty29 fun x13 => J.z 1 <| J.f ?_ ?_
 ·exact SJ.sr 2 <| J.u 0 Zdz .nil <| J.s 0 0 rfl Zdz (Upd.w ZcD) <| J.z 0 <| J.rc (.c 0 rfl Zdz .n)
 exact SJ.skip <| SJ.sr 8 <| J.n 1 fun p14 => J.l 1 Ty3 fun x15 => J.n 1 fun p16 => J.w 1 Ty3 <| J.z 0 <| SJ.seq <| J.R 12 ZcR <| J.n 1 fun p17 => J.l 1 ZnU fun x18 => J.n 1 fun p19 => J.l 1 Ty3 fun x20 => J.i 1 fun p21 => J.l 0 Zdz fun x22 => J.s 0 0 rfl Zdz (Upd.w x22) <| J.z 0 <| J.rc (.c 0 rfl Zdz .n)
noncomputable def ZaN (a0 : (Option Addr)) : M ZaI :=
 slot 129 >>= fun b1 =>
 draw >>= fun _ =>
 nilck a0 >>= fun p2 =>
 ld (cI .i64) (Addr.add p2 19) >>= fun x3 =>
 (if x3 = 0 then
   nilck a0 >>= fun p4 =>
   ld (cI .i64) (Addr.add p4 1) >>= fun x5 =>
   nilck a0 >>= fun p6 =>
   ld cL p6 >>= fun x7 =>
   pure (x5 == (x7.len : Int))
  else
   pure false) >>= fun y8 =>
 if y8 = true then
  nilck a0 >>= fun p24 =>
  ld (cI .i64) (Addr.add p24 2) >>= fun x25 =>
  ZaX a0 161 x25 >>= fun r26 =>
  ZaN.K1 a0
 else
  ZaN.K1 a0
theorem ZcP (a0 : (Option Addr)) : Ref Tryz.prog 47 [.pointer a0] (ZaN a0) ZaN.out := by
 refine J.Fn Tryz.func47 ?_
 unfold ZaN
 refine SJ.sr 1 <| J.a 0 Zdz fun b1 => J.z 0 <| SJ.seq <| SJ.seq <| J.R 17 ZcR <| J.n 1 fun p2 => J.l 1 Ty29 fun x3 => J.j 2 10 .bool ?_ ?_ fun y8 => ?_
 ·exact J.n 1 fun p4 => J.l 1 Ty3 fun x5 => J.n 1 fun p6 => J.l 1 ZnU fun x7 => J.e 3
 ·exact J.e 11
 refine J.z 0 <| J.f ?_ ?_
 ·exact SJ.rg 6 <| J.n 2 fun p24 => J.l 1 Ty3 fun x25 => J.C 0 F49 (Zbf _ _ _) fun r26 => J.z 0 <| J.q <| ZaN.K1_ok a0 b1
 exact SJ.skip <| J.q <| ZaN.K1_ok a0 b1

/-! ### slices.Index[[]string,string]: function 89 -/
noncomputable def Zat.B : Code := bod Tryz.f89
noncomputable def Zat.cx : Fx := ⟨Tryz.prog, 89, Tryz.f89, none⟩
noncomputable def Zat.out (r_ : Int) : Value := .int .i64 r_
noncomputable def Zat.F1 (a0 : Sl) (a1 : ByteArray) : LF Int Int := ⟨[.inBlock 0, .code (c2 (c2 Zat.B))], c1 (c2 (c1 (c2 Zat.B))), fun s_ => [(0, Sl.v a0), (1, .string a1), (7, .int .i64 (a0.len : Int)), (8, .int .i64 s_)], fun s_ => [], (rt Zat.out)⟩
noncomputable def Zat.L1 (a0 : Sl) (a1 : ByteArray) (s1 : Int) : M (LS Int Int) :=
 if s1 < (a0.len : Int) then
  idx a0.a a0.len s1 1 >>= fun p6 =>
  ld cS p6 >>= fun x7 =>
  if a1.toList = x7.toList then
   pure (LS.done s1)
  else
   pure (LS.next (IntKind.wrap .i64 (s1 + 1)))
 else
  pure (LS.done (-1))
theorem Zat.L1_ok (a0 : Sl) (a1 : ByteArray) : LJ Zat.cx (Zat.F1 a0 a1) (fun s_ => Zat.L1 a0 a1 s_) := by
 rintro s1
 show SJ _ _ _ _ (Zat.L1 a0 a1 s1) _
 unfold Zat.L1
 refine SJ.sr 1 <| J.z 1 <| SJ.seq <| J.f ?_ ?_
 ·refine SJ.skip <| SJ.seq <| SJ.block (id := 1) <| SJ.sr 2 <| J.z 2 <| SJ.sr 6 <| J.i 3 fun p6 => J.l 0 Ty9 fun x7 => J.z 1 <| J.f ?_ ?_
  ·exact SJ.sr 2 <| J.z 2 <| J.r
  exact SJ.skip <| SJ.inBlock <| SJ.rg 2 <| J.z 2 <| J.o rfl
 exact SJ.exit (id := 0) (by rfl) <| SJ.sr 1 <| J.z 1 <| J.r
noncomputable def Zat (a0 : Sl) (a1 : ByteArray) : M Int :=
 Zb9 (fun s_ : Int => Zat.L1 a0 a1 s_) 0
theorem ZcN (a0 : Sl) (a1 : ByteArray) : Ref Tryz.prog 89 [Sl.v a0, .string a1] (Zat a0 a1) Zat.out := by
 refine J.Fn Tryz.func89 ?_
 unfold Zat
 exact SJ.sr 1 <| J.z 1 <| SJ.seq <| SJ.sr 3 <| J.z 3 <| SJ.block (id := 0) <| J.L (Zat.L1_ok a0 a1)

/-! ### (*weir/rules.reader).take: function 90 -/
noncomputable def Zbh.out (r_ : Bool) : Value := .bool r_
noncomputable def Zbh (a0 : (Option Addr)) (a1 : ByteArray) : M Bool :=
 draw >>= fun _ =>
 nilck a0 >>= fun p1 =>
 ld (cI .i64) (Addr.add p1 19) >>= fun x2 =>
 (if x2 ≠ 0 then
   pure true
  else
   nilck a0 >>= fun p3 =>
   ld (cI .i64) (Addr.add p3 1) >>= fun x4 =>
   nilck a0 >>= fun p5 =>
   ld cL p5 >>= fun x6 =>
   pure (x4 == (x6.len : Int))) >>= fun y7 =>
 (if y7 = true then
   pure true
  else
   nilck a0 >>= fun p8 =>
   ld cL p8 >>= fun x9 =>
   nilck a0 >>= fun p10 =>
   ld (cI .i64) (Addr.add p10 1) >>= fun x11 =>
   idx x9.a x9.len x11 2 >>= fun p12 =>
   ld cS p12 >>= fun x13 =>
   pure (!(x13.toList == a1.toList))) >>= fun y14 =>
 if y14 = true then
  pure false
 else
  nilck a0 >>= fun p15 =>
  ld (cI .i64) (Addr.add p15 1) >>= fun x16 =>
  nilck a0 >>= fun p17 =>
  st (cI .i64) (Addr.add p17 1) (IntKind.wrap .i64 (x16 + 1)) >>= fun _ =>
  pure true
theorem Zb8 (a0 : (Option Addr)) (a1 : ByteArray) : Ref Tryz.prog 90 [.pointer a0, .string a1] (Zbh a0 a1) Zbh.out := by
 refine J.Fn Tryz.func90 ?_
 unfold Zbh
 refine SJ.sr 1 <| J.z 1 <| SJ.seq <| SJ.seq <| J.R 32 ZcR <| J.n 1 fun p1 => J.l 1 Ty29 fun x2 => J.j 2 10 .bool ?_ ?_ fun y7 => ?_
 ·exact J.e 11
 ·exact J.n 1 fun p3 => J.l 1 Ty3 fun x4 => J.n 1 fun p5 => J.l 1 ZnU fun x6 => J.e 3
 refine J.j 1 13 .bool ?_ ?_ fun y14 => ?_
 ·exact J.e 14
 ·exact J.n 1 fun p8 => J.l 1 ZnU fun x9 => J.n 1 fun p10 => J.l 1 Ty3 fun x11 => J.i 0 fun p12 => J.l 1 Ty9 fun x13 => J.e 3
 refine J.z 0 <| J.f ?_ ?_
 ·exact SJ.sr 1 <| J.z 1 <| J.r
 exact SJ.skip <| SJ.sr 8 <| J.n 1 fun p15 => J.l 1 Ty3 fun x16 => J.n 1 fun p17 => J.w 1 Ty3 <| J.z 0 <| SJ.sr 1 <| J.z 1 <| J.r

/-! ### (*weir/rules.reader).item: function 140 -/
noncomputable def ZbO.out (r_ : ZaI) : Value := Zbm.val r_
noncomputable def ZbO (a0 : (Option Addr)) : M ZaI :=
 slot 129 >>= fun b1 =>
 ZaN a0 >>= fun r2 =>
 slot 129 >>= fun b3 =>
 if r2.s.toList = ZeE.toList then
  ZaX a0 160 r2.at_ >>= fun r5 =>
  pure r2
 else
  pure r2
theorem ZcQ (a0 : (Option Addr)) : Ref Tryz.prog 140 [.pointer a0] (ZbO a0) ZbO.out := by
 refine J.Fn Tryz.func140 ?_
 unfold ZbO
 refine SJ.sr 1 <| J.a 0 Zdz fun b1 => J.z 0 <| SJ.sr 4 <| J.C 1 F47 (ZcP _) fun r2 => J.a 0 Zdz fun b3 => J.s 0 0 rfl Zdz (Upd.w r2) <| J.z 0 <| SJ.seq <| SJ.sr 3 <| J.k 1 0 rfl Ty9 (Zbj _) <| J.z 1 <| J.f ?_ ?_
 ·exact SJ.rg 4 <| J.k 2 0 rfl Ty3 (ZbF _) <| J.C 0 F49 (Zbf _ _ _) fun r5 => J.z 0 <| SJ.sr 2 <| J.k 0 0 rfl Zdz (At.whole _) <| J.s 0 1 rfl Zdz (Upd.w r2) <| J.z 0 <| J.rc (.c 1 rfl Zdz .n)
 exact SJ.skip <| SJ.sr 2 <| J.k 0 0 rfl Zdz (At.whole _) <| J.s 0 1 rfl Zdz (Upd.w r2) <| J.z 0 <| J.rc (.c 1 rfl Zdz .n)

/-! ### weir/rules.number: function 141 -/
noncomputable def Zbc.B : Code := bod Tryz.f141
noncomputable def Zbc.cx : Fx := ⟨Tryz.prog, 141, Tryz.f141, none⟩
noncomputable def Zbc.out (r_ : (Int × Bool)) : Value := .tuple #[.int .i64 r_.1, .bool r_.2]
noncomputable def Zbc.F1 (a0 : ByteArray) (a1 : Int) (a2 : Int) : LF (Int × Int) (Int × Bool) := ⟨[.inBlock 0, .code (c2 (c2 (c2 (c2 Zbc.B))))], c1 (c2 (c1 (c2 (c2 (c2 Zbc.B))))), fun s_ => [(0, .string a0), (1, .int .i64 a1), (2, .int .i64 a2), (8, .int .i64 s_.1), (28, .int .i64 (a0.size : Int)), (29, .int .i64 s_.2)], fun s_ => [], (rt Zbc.out)⟩
noncomputable def Zbc.L1 (a0 : ByteArray) (a1 : Int) (a2 : Int) (s6 : Int) (s7 : Int) : M (LS (Int × Int) (Int × Bool)) :=
 if s7 < (a0.size : Int) then
  chk ((0 : Int) ≤ s7 ∧ s7 < (a0.size : Int)) >>= fun _ =>
  (if (sb a0 s7) < 48 then
    pure true
   else
    chk ((0 : Int) ≤ s7 ∧ s7 < (a0.size : Int)) >>= fun _ =>
    pure (decide ((sb a0 s7) > 57))) >>= fun y22 =>
  if y22 = true then
   pure (LS.done (0, false))
  else
   chk ((0 : Int) ≤ s7 ∧ s7 < (a0.size : Int)) >>= fun _ =>
   pure (LS.next (IntKind.wrap .i64 ((IntKind.wrap .i64 (10 * s6)) + (IntKind.wrap .i64 (IntKind.wrap .u8 ((sb a0 s7) - 48)))), IntKind.wrap .i64 (s7 + 1)))
 else
  ZbL s6 a1 a2 >>= fun r26 =>
  pure (LS.done (s6, r26))
theorem Zbc.L1_ok (a0 : ByteArray) (a1 : Int) (a2 : Int) : LJ Zbc.cx (Zbc.F1 a0 a1 a2) (fun s_ => Zbc.L1 a0 a1 a2 s_.1 s_.2) := by
 rintro ⟨s6, s7⟩
 show SJ _ _ _ _ (Zbc.L1 a0 a1 a2 s6 s7) _
 unfold Zbc.L1
 refine SJ.sr 1 <| J.z 1 <| SJ.seq <| J.f ?_ ?_
 ·refine SJ.skip <| SJ.seq <| SJ.block (id := 1) <| SJ.sr 2 <| J.z 2 <| SJ.seq <| SJ.sr 10 <| J.t 2 fun hb18 hb19 => J.j 2 4 .bool ?_ ?_ fun y22 => ?_
  ·exact J.e 5
  ·exact J.t 2 fun hb20 hb21 => J.e 2
  refine J.z 0 <| J.f ?_ ?_
  ·exact SJ.sr 2 <| J.z 2 <| J.r
  exact SJ.skip <| SJ.rg 9 <| J.t 4 fun hb23 hb24 => J.z 4 <| SJ.inBlock <| SJ.rg 2 <| J.z 2 <| J.o rfl
 exact SJ.exit (id := 0) (by rfl) <| SJ.sr 7 <| J.C 4 F61 (Zca _ _ _) fun r26 => J.z 2 <| J.r
noncomputable def Zbc (a0 : ByteArray) (a1 : Int) (a2 : Int) : M (Int × Bool) :=
 (if a0.toList = ByteArray.empty.toList then
   pure true
  else
   pure (decide ((a0.size : Int) > 9))) >>= fun y1 =>
 (if y1 = true then
   pure true
  else
   chk ((0 : Int) ≤ 0 ∧ 0 < (a0.size : Int)) >>= fun _ =>
   (if (sb a0 0) = 48 then
     pure (decide ((a0.size : Int) > 1))
    else
     pure false) >>= fun y4 =>
   pure y4) >>= fun y5 =>
 if y5 = true then
  pure (0, false)
 else
  Zb9 (fun s_ : (Int × Int) => Zbc.L1 a0 a1 a2 s_.1 s_.2) (0, 0)
theorem Zes (a0 : ByteArray) (a1 : Int) (a2 : Int) : Ref Tryz.prog 141 [.string a0, .int .i64 a1, .int .i64 a2] (Zbc a0 a1 a2) Zbc.out := by
 refine J.Fn Tryz.func141 ?_
 unfold Zbc
 refine SJ.sr 2 <| J.z 2 <| SJ.seq <| SJ.sr 17 <| J.j 3 3 .bool ?_ ?_ fun y1 => ?_
 ·exact J.e 4
 ·exact J.e 4
 refine J.g 1 <| OJ.join (b := y1) [8, 9, 10, 11, 12, 13, 14, 15, 16] [] [0, 1, 2, 26] (fun y5 => [(0, .string a0), (1, .int .i64 a1), (2, .int .i64 a2), (26, .bool y5)]) [] [] (t := 17) Iff.rfl (fun hp_ => ?_) (fun hp_ => ?_) (fun _ _ _ _ _ _ h_ => h_) fun y5 => ?_
 ·exact J.g 9 <| OJ.nil ⟨(Cov.mem Cov.nil), rfl, _, rfl, by kernel_rfl⟩
 ·refine J.t 1 fun hb2 hb3 => J.g 2 <| OJ.join (b := ((sb a0 0) == 48)) [12, 13, 14, 15] [16] [0, 1, 2, 17, 25] (fun y4 => [(0, .string a0), (1, .int .i64 a1), (2, .int .i64 a2), (17, .bool false), (25, .bool y4)]) [] [] (t := 21) beq_iff_eq (fun hp_ => ?_) (fun hp_ => ?_) (fun _ _ _ _ _ hq_ h_ => ⟨fun e_ he_ => (hq_ e_ he_).elim (fun h => h_.1 e_ h) (fun h => nomatch h), h_.2⟩) fun y4 => ?_
  ·exact J.g 4 <| OJ.nil ⟨(Cov.mem Cov.nil), rfl, _, rfl, by kernel_rfl⟩
  ·exact J.g 4 <| OJ.nil ⟨(Cov.mem Cov.nil), rfl, _, rfl, by kernel_rfl⟩
  exact J.g 1 <| OJ.nil ⟨(Cov.mem Cov.nil), rfl, _, rfl, by kernel_rfl⟩
 refine J.z 0 <| J.f ?_ ?_
 ·exact SJ.sr 2 <| J.z 2 <| J.r
 exact SJ.skip <| SJ.sr 1 <| J.z 1 <| SJ.seq <| SJ.sr 3 <| J.z 3 <| SJ.block (id := 0) <| J.L (Zbc.L1_ok a0 a1 a2)

/-! ### (*weir/rules.reader).number: function 91 -/
noncomputable def ZbI.out (r_ : Int) : Value := .int .i64 r_
noncomputable def ZbI (a0 : (Option Addr)) (a1 : Int) (a2 : Int) : M Int :=
 ZbO a0 >>= fun r1 =>
 slot 129 >>= fun b2 =>
 Zbc r1.s a1 a2 >>= fun r3 =>
 nilck a0 >>= fun p4 =>
 ld (cI .i64) (Addr.add p4 19) >>= fun x5 =>
 (if x5 = 0 then
   pure (!r3.2)
  else
   pure false) >>= fun y6 =>
 if y6 = true then
  ZaX a0 162 r1.at_ >>= fun r8 =>
  pure r3.1
 else
  pure r3.1
theorem Zc7 (a0 : (Option Addr)) (a1 : Int) (a2 : Int) : Ref Tryz.prog 91 [.pointer a0, .int .i64 a1, .int .i64 a2] (ZbI a0 a1 a2) ZbI.out := by
 refine J.Fn Tryz.func91 ?_
 unfold ZbI
 refine SJ.sr 1 <| J.z 1 <| SJ.sr 4 <| J.C 1 F140 (ZcQ _) fun r1 => J.a 0 Zdz fun b2 => J.s 0 0 rfl Zdz (Upd.w r1) <| J.z 0 <| SJ.sr 10 <| J.k 1 0 rfl Ty9 (Zbj _) <| J.C 2 F141 (Zes _ _ _) fun r3 => J.z 5 <| SJ.seq <| SJ.sr 9 <| J.n 1 fun p4 => J.l 1 Ty29 fun x5 => J.j 2 2 .bool ?_ ?_ fun y6 => ?_
 ·exact J.e 3
 ·exact J.e 3
 refine J.z 0 <| J.f ?_ ?_
 ·exact SJ.rg 4 <| J.k 2 0 rfl Ty3 (ZbF _) <| J.C 0 F49 (Zbf _ _ _) fun r8 => J.z 0 <| SJ.sr 2 <| J.z 2 <| J.r
 exact SJ.skip <| SJ.sr 2 <| J.z 2 <| J.r

/-! ### weir/rules.protoOf: function 142 -/
noncomputable def Zdd.out (r_ : (Int × Bool)) : Value := .tuple #[.int .i64 r_.1, .bool r_.2]
noncomputable def Zdd (a0 : ByteArray) : M (Int × Bool) :=
 if a0.toList = str4.toList then
  pure (6, true)
 else
  if a0.toList = str5.toList then
   pure (17, true)
  else
   if a0.toList = str6.toList then
    pure (1, true)
   else
    if a0.toList = str7.toList then
     pure (58, true)
    else
     pure (0, false)
theorem Zgd (a0 : ByteArray) : Ref Tryz.prog 142 [.string a0] (Zdd a0) Zdd.out := by
 refine J.Fn Tryz.func142 ?_
 unfold Zdd
 refine SJ.sr 2 <| J.z 2 <| SJ.seq <| SJ.sr 1 <| J.z 1 <| SJ.block (id := 0) <| SJ.sr 2 <| J.z 2 <| J.f ?_ ?_
 ·exact SJ.sr 2 <| J.z 2 <| J.r
 refine SJ.sr 2 <| J.z 2 <| J.f ?_ ?_
 ·exact SJ.sr 2 <| J.z 2 <| J.r
 refine SJ.sr 2 <| J.z 2 <| J.f ?_ ?_
 ·exact SJ.sr 2 <| J.z 2 <| J.r
 refine SJ.sr 2 <| J.z 2 <| J.f ?_ ?_
 ·exact SJ.sr 2 <| J.z 2 <| J.r
 exact SJ.skip <| SJ.inBlock <| SJ.sr 2 <| J.z 2 <| J.r

/-! ### weir/rules.begins: function 92 -/
noncomputable def Zdf.out (r_ : Bool) : Value := .bool r_
noncomputable def Zdf (a0 : ZaI) : M Bool :=
 slot 129 >>= fun b1 =>
 Zdd a0.s >>= fun r2 =>
 (if r2.2 = true then
   pure true
  else
   pure (a0.s.toList == Ztu.toList)) >>= fun y3 =>
 pure y3
theorem Zgz (a0 : ZaI) : Ref Tryz.prog 92 [Zbm.val a0] (Zdf a0) Zdf.out := by
 refine J.Fn Tryz.func92 ?_
 unfold Zdf
 refine SJ.sr 2 <| J.b 0 Zbm a0 fun b1 => J.z 1 <| SJ.sr 8 <| J.k 1 0 rfl Ty9 (Zbj _) <| J.C 0 F142 (Zgd _) fun r2 => J.z 5 <| SJ.sr 7 <| J.j 2 3 .bool ?_ ?_ fun y3 => ?_
 ·exact J.e 4
 ·exact J.k 1 0 rfl Ty9 (Zbj _) <| J.e 2
 exact J.z 1 <| J.r

/-! ### (*weir/rules.reader).proto: function 93 -/
noncomputable def ZbW.out (r_ : Unit) : Value := .tuple #[]
noncomputable def ZbW (a0 : (Option Addr)) (a1 : ZaI) : M Unit :=
 slot 129 >>= fun b1 =>
 nilck a0 >>= fun p2 =>
 ld (cI .i64) (Addr.add (Addr.add p2 3) 2) >>= fun x3 =>
 if x3 = 1 then
  ZaX a0 165 a1.at_ >>= fun r5 =>
  pure ()
 else
  Zdd a1.s >>= fun r6 =>
  if ¬ (r6.2 = true) then
   ZbI a0 1 255 >>= fun r8 =>
   nilck a0 >>= fun p9 =>
   st (cI .i64) (Addr.add (Addr.add p9 3) 3) r8 >>= fun _ =>
   pure ()
  else
   nilck a0 >>= fun p10 =>
   st (cI .i64) (Addr.add (Addr.add p10 3) 3) r6.1 >>= fun _ =>
   pure ()
theorem ZeQ (a0 : (Option Addr)) (a1 : ZaI) : Ref Tryz.prog 93 [.pointer a0, Zbm.val a1] (ZbW a0 a1) ZbW.out := by
 refine J.Fn Tryz.func93 ?_
 unfold ZbW
 refine SJ.sr 1 <| J.b 0 Zbm a1 fun b1 => J.z 0 <| SJ.seq <| SJ.sr 6 <| J.n 1 fun p2 => J.l 2 Ty3 fun x3 => J.z 1 <| J.f ?_ ?_
 ·exact SJ.sr 4 <| J.k 2 0 rfl Ty3 (ZbF _) <| J.C 0 F49 (Zbf _ _ _) fun r5 => J.z 0 <| J.r
 refine SJ.skip <| SJ.sr 8 <| J.k 1 0 rfl Ty9 (Zbj _) <| J.C 0 F142 (Zgd _) fun r6 => J.z 5 <| SJ.seq <| SJ.sr 2 <| J.z 2 <| J.f ?_ ?_
 ·exact SJ.rg 3 <| J.C 1 F91 (Zc7 _ _ _) fun r8 => J.z 1 <| SJ.rg 6 <| J.n 2 fun p9 => J.w 2 Ty3 <| J.z 0 <| SJ.end_ rfl (Res.run (ys := []) .nil rfl)
 exact SJ.skip <| SJ.rg 6 <| J.n 2 fun p10 => J.w 2 Ty3 <| J.z 0 <| SJ.end_ rfl (Res.run (ys := []) .nil rfl)

/-! ### (*weir/rules.reader).head: function 46 -/
noncomputable def Zay.B : Code := bod Tryz.f46
noncomputable def Zay.cx : Fx := ⟨Tryz.prog, 46, Tryz.f46, none⟩
noncomputable def Zay.out (r_ : Unit) : Value := .tuple #[]
noncomputable def Zay.K1 (a0 : (Option Addr)) : M Unit :=
 ZaN a0 >>= fun r18 =>
 nilck a0 >>= fun p19 =>
 ld (cI .i64) (Addr.add p19 19) >>= fun x20 =>
 (if x20 ≠ 0 then
   pure true
  else
   pure (r18.s.toList == Zlt.toList)) >>= fun y21 =>
 if y21 = true then
  pure ()
 else
  ld cL ⟨1, 0, none⟩ >>= fun x22 =>
  Zat x22 r18.s >>= fun r23 =>
  nilck a0 >>= fun p24 =>
  st (cI .i64) (Addr.add (Addr.add p24 3) 2) (IntKind.wrap .i64 (r23 + 1)) >>= fun _ =>
  nilck a0 >>= fun p25 =>
  ld (cI .i64) (Addr.add (Addr.add p25 3) 2) >>= fun x26 =>
  (if x26 = 0 then
    Zdf r18 >>= fun r27 =>
    pure r27
   else
    pure false) >>= fun y28 =>
  if y28 = true then
   ZbW a0 r18 >>= fun r75 =>
   pure ()
  else
   nilck a0 >>= fun p76 =>
   ld (cI .i64) (Addr.add (Addr.add p76 3) 2) >>= fun x77 =>
   if x77 = 0 then
    ZaX a0 160 r18.at_ >>= fun r99 =>
    pure ()
   else
    draw >>= fun _ =>
    nilck a0 >>= fun p100 =>
    ld (cI .i64) (Addr.add (Addr.add p100 3) 2) >>= fun x101 =>
    (if x101 > 0 then
      nilck a0 >>= fun p102 =>
      ld (cI .i64) (Addr.add p102 1) >>= fun x103 =>
      nilck a0 >>= fun p104 =>
      ld cL p104 >>= fun x105 =>
      pure (decide (x103 < (x105.len : Int)))
     else
      pure false) >>= fun y106 =>
    (if y106 = true then
      nilck a0 >>= fun p107 =>
      ld cL p107 >>= fun x108 =>
      nilck a0 >>= fun p109 =>
      ld (cI .i64) (Addr.add p109 1) >>= fun x110 =>
      idx x108.a x108.len x110 2 >>= fun p111 =>
      ld Zbm p111 >>= fun x112 =>
      Zdf x112 >>= fun r113 =>
      pure r113
     else
      pure false) >>= fun y114 =>
    if y114 = true then
     ZaN a0 >>= fun r117 =>
     ZbW a0 r117 >>= fun r118 =>
     pure ()
    else
     pure ()
theorem Zay.K1_ok (a0 : (Option Addr)) (r1 : ZaI) (b2 : Nat) :
  SJ Zay.cx [.code (c2 (c2 (c2 (c2 Zay.B))))] [(0, .pointer a0), (2, .pointer (some (pt b2 0)))] [(b2, Zbm.enc r1)] (Zay.K1 a0) (rt Zay.out) := by
 unfold Zay.K1
 refine SJ.sr 3 <| J.C 1 F47 (ZcP _) fun r18 => J.s 0 0 rfl Zdz (Upd.w r18) <| J.z 0 <| SJ.seq <| SJ.sr 10 <| J.n 1 fun p19 => J.l 1 Ty29 fun x20 => J.j 2 3 .bool ?_ ?_ fun y21 => ?_
 ·exact J.e 4
 ·exact J.k 1 0 rfl Ty9 (Zbj _) <| J.e 2
 refine J.z 0 <| J.f ?_ ?_
 ·exact J.r
 refine SJ.skip <| SJ.sr 10 <| J.l 1 Ty22 fun x22 => J.k 1 0 rfl Ty9 (Zbj _) <| J.C 0 F89 (ZcN _ _) fun r23 => J.n 1 fun p24 => J.w 2 Ty3 <| J.z 0 <| SJ.block (id := 0) <| SJ.sr 11 <| J.n 1 fun p25 => J.l 2 Ty3 fun x26 => J.j 2 2 .bool ?_ ?_ fun y28 => ?_
 ·exact J.k 0 0 rfl Zdz (At.whole _) <| J.C 0 F92 (Zgz _) fun r27 => J.e 1
 ·exact J.e 3
 refine J.z 1 <| J.f ?_ ?_
 ·exact SJ.rg 3 <| J.k 1 0 rfl Zdz (At.whole _) <| J.C 0 F93 (ZeQ _ _) fun r75 => J.z 0 <| SJ.inBlock <| SJ.end_ rfl (Res.run (ys := []) .nil rfl)
 refine SJ.sr 7 <| J.n 1 fun p76 => J.l 2 Ty3 fun x77 => J.z 2 <| J.f ?_ ?_
 ·exact SJ.rg 4 <| J.k 2 0 rfl Ty3 (ZbF _) <| J.C 0 F49 (Zbf _ _ _) fun r99 => J.z 0 <| SJ.inBlock <| SJ.end_ rfl (Res.run (ys := []) .nil rfl)
 refine SJ.seq <| J.R 32 ZcR <| J.n 1 fun p100 => J.l 2 Ty3 fun x101 => J.j 2 10 .bool ?_ ?_ fun y106 => ?_
 ·exact J.n 1 fun p102 => J.l 1 Ty3 fun x103 => J.n 1 fun p104 => J.l 1 ZnU fun x105 => J.e 3
 ·exact J.e 11
 refine J.j 1 11 .bool ?_ ?_ fun y114 => ?_
 ·exact J.n 1 fun p107 => J.l 1 ZnU fun x108 => J.n 1 fun p109 => J.l 1 Ty3 fun x110 => J.i 0 fun p111 => J.l 0 Zdz fun x112 => J.C 0 F92 (Zgz _) fun r113 => J.e 1
 ·exact J.e 12
 refine J.z 1 <| J.f ?_ ?_
 ·exact SJ.rg 4 <| J.C 2 F47 (ZcP _) fun r117 => J.C 0 F93 (ZeQ _ _) fun r118 => J.z 0 <| SJ.inBlock <| SJ.end_ rfl (Res.run (ys := []) .nil rfl)
 exact SJ.skip <| SJ.inBlock <| SJ.end_ rfl (Res.run (ys := []) .nil rfl)
noncomputable def Zay.K2 (a0 : (Option Addr)) : M Unit :=
 nilck a0 >>= fun p12 =>
 ld (cI .i64) (Addr.add p12 3) >>= fun x13 =>
 (if x13 = 1 then
   Zbh a0 Ztt >>= fun r14 =>
   pure r14
  else
   pure false) >>= fun y15 =>
 if y15 = true then
  ZbI a0 0 7 >>= fun r123 =>
  nilck a0 >>= fun p124 =>
  st (cI .i64) (Addr.add (Addr.add p124 3) 1) r123 >>= fun _ =>
  Zay.K1 a0
 else
  Zay.K1 a0
theorem Zay.K2_ok (a0 : (Option Addr)) (r1 : ZaI) (b2 : Nat) :
  SJ Zay.cx [.code (c2 (c2 (c2 Zay.B)))] [(0, .pointer a0), (2, .pointer (some (pt b2 0)))] [(b2, Zbm.enc r1)] (Zay.K2 a0) (rt Zay.out) := by
 unfold Zay.K2
 refine SJ.seq <| SJ.sr 10 <| J.n 1 fun p12 => J.l 2 Ty3 fun x13 => J.j 2 2 .bool ?_ ?_ fun y15 => ?_
 ·exact J.C 1 F90 (Zb8 _ _) fun r14 => J.e 1
 ·exact J.e 3
 refine J.z 0 <| J.f ?_ ?_
 ·exact SJ.rg 7 <| J.C 2 F91 (Zc7 _ _ _) fun r123 => J.n 0 fun p124 => J.w 2 Ty3 <| J.z 0 <| J.q <| Zay.K1_ok a0 r1 b2
 exact SJ.skip <| J.q <| Zay.K1_ok a0 r1 b2
noncomputable def Zay (a0 : (Option Addr)) : M Unit :=
 ZaN a0 >>= fun r1 =>
 slot 129 >>= fun b2 =>
 ld cL ⟨0, 0, none⟩ >>= fun x3 =>
 Zat x3 r1.s >>= fun r4 =>
 nilck a0 >>= fun p5 =>
 st (cI .i64) (Addr.add p5 3) (IntKind.wrap .i64 (r4 + 1)) >>= fun _ =>
 nilck a0 >>= fun p6 =>
 ld (cI .i64) (Addr.add p6 19) >>= fun x7 =>
 (if x7 = 0 then
   nilck a0 >>= fun p8 =>
   ld (cI .i64) (Addr.add p8 3) >>= fun x9 =>
   pure (x9 == 0)
  else
   pure false) >>= fun y10 =>
 if y10 = true then
  ZaX a0 160 r1.at_ >>= fun r126 =>
  Zay.K2 a0
 else
  Zay.K2 a0
theorem Zhi (a0 : (Option Addr)) : Ref Tryz.prog 46 [.pointer a0] (Zay a0) Zay.out := by
 refine J.Fn Tryz.func46 ?_
 unfold Zay
 refine SJ.sr 4 <| J.C 1 F47 (ZcP _) fun r1 => J.a 0 Zdz fun b2 => J.s 0 0 rfl Zdz (Upd.w r1) <| J.z 0 <| SJ.sr 10 <| J.l 1 Ty22 fun x3 => J.k 1 0 rfl Ty9 (Zbj _) <| J.C 0 F89 (ZcN _ _) fun r4 => J.n 1 fun p5 => J.w 2 Ty3 <| J.z 0 <| SJ.seq <| SJ.sr 13 <| J.n 1 fun p6 => J.l 1 Ty29 fun x7 => J.j 2 6 .bool ?_ ?_ fun y10 => ?_
 ·exact J.n 1 fun p8 => J.l 2 Ty3 fun x9 => J.e 2
 ·exact J.e 7
 refine J.z 0 <| J.f ?_ ?_
 ·exact SJ.rg 4 <| J.k 2 0 rfl Ty3 (ZbF _) <| J.C 0 F49 (Zbf _ _ _) fun r126 => J.z 0 <| J.q <| Zay.K2_ok a0 r1 b2
 exact SJ.skip <| J.q <| Zay.K2_ok a0 r1 b2

/-! ### internal/stringslite.HasPrefix: function 209 -/
noncomputable def ZbP.out (r_ : Bool) : Value := .bool r_
noncomputable def ZbP (a0 : ByteArray) (a1 : ByteArray) : M Bool :=
 (if (a0.size : Int) ≥ (a1.size : Int) then
   chk (0 ≤ (0 : Int) ∧ (0 : Int) ≤ (a1.size : Int) ∧ (a1.size : Int) ≤ (a0.size : Int)) >>= fun _ =>
   pure ((ByteArray.extract a0 (Int.toNat 0) (Int.toNat (a1.size : Int))).toList == a1.toList)
  else
   pure false) >>= fun y1 =>
 pure y1
theorem Zek (a0 : ByteArray) (a1 : ByteArray) : Ref Tryz.prog 209 [.string a0, .string a1] (ZbP a0 a1) ZbP.out := by
 refine J.Fn Tryz.func209 ?_
 unfold ZbP
 refine SJ.sr 1 <| J.z 1 <| SJ.sr 14 <| J.j 6 6 .bool ?_ ?_ fun y1 => ?_
 ·exact J.ct 3 <| J.e 3
 ·exact J.e 7
 exact J.z 1 <| J.r

/-! ### internal/stringslite.CutPrefix: function 175 -/
noncomputable def Zcj.out (r_ : (ByteArray × Bool)) : Value := .tuple #[.string r_.1, .bool r_.2]
noncomputable def Zcj (a0 : ByteArray) (a1 : ByteArray) : M (ByteArray × Bool) :=
 ZbP a0 a1 >>= fun r1 =>
 if ¬ (r1 = true) then
  pure (a0, false)
 else
  chk (0 ≤ ((a1.size : Int) : Int) ∧ ((a1.size : Int) : Int) ≤ (a0.size : Int) ∧ (a0.size : Int) ≤ (a0.size : Int)) >>= fun _ =>
  pure ((ByteArray.extract a0 (Int.toNat (a1.size : Int)) (Int.toNat (a0.size : Int))), true)
theorem ZfN (a0 : ByteArray) (a1 : ByteArray) : Ref Tryz.prog 175 [.string a0, .string a1] (Zcj a0 a1) Zcj.out := by
 refine J.Fn Tryz.func175 ?_
 unfold Zcj
 refine SJ.sr 2 <| J.z 2 <| SJ.seq <| SJ.sr 4 <| J.C 2 F209 (Zek _ _) fun r1 => J.z 1 <| J.f ?_ ?_
 ·exact SJ.sr 3 <| J.z 3 <| J.r
 exact SJ.skip <| SJ.sr 6 <| J.ct 3 <| J.z 2 <| J.r

/-! ### strings.CutPrefix: function 143 -/
noncomputable def Zb0.out (r_ : (ByteArray × Bool)) : Value := .tuple #[.string r_.1, .bool r_.2]
noncomputable def Zb0 (a0 : ByteArray) (a1 : ByteArray) : M (ByteArray × Bool) :=
 Zcj a0 a1 >>= fun r1 =>
 pure (r1.1, r1.2)
theorem ZeW (a0 : ByteArray) (a1 : ByteArray) : Ref Tryz.prog 143 [.string a0, .string a1] (Zb0 a0 a1) Zb0.out := by
 refine J.Fn Tryz.func143 ?_
 unfold Zb0
 exact SJ.sr 2 <| J.z 2 <| SJ.sr 7 <| J.C 2 F175 (ZfN _ _) fun r1 => J.z 4 <| J.r

/-! ### (*weir/rules.reader).port: function 94 -/
noncomputable def Zcz.out (r_ : Int) : Value := .int .i64 r_
noncomputable def Zcz (a0 : (Option Addr)) : M Int :=
 ZbO a0 >>= fun r1 =>
 slot 129 >>= fun b2 =>
 Zb0 r1.s Zsv >>= fun r3 =>
 Zbc r3.1 0 7 >>= fun r4 =>
 nilck a0 >>= fun p5 =>
 ld (cI .i64) (Addr.add p5 19) >>= fun x6 =>
 (if x6 = 0 then
   (if ¬ (r3.2 = true) then
     pure true
    else
     pure (!r4.2)) >>= fun y7 =>
   pure y7
  else
   pure false) >>= fun y8 =>
 if y8 = true then
  ZaX a0 162 r1.at_ >>= fun r10 =>
  pure r4.1
 else
  pure r4.1
theorem Zhh (a0 : (Option Addr)) : Ref Tryz.prog 94 [.pointer a0] (Zcz a0) Zcz.out := by
 refine J.Fn Tryz.func94 ?_
 unfold Zcz
 refine SJ.sr 1 <| J.z 1 <| SJ.sr 4 <| J.C 1 F140 (ZcQ _) fun r1 => J.a 0 Zdz fun b2 => J.s 0 0 rfl Zdz (Upd.w r1) <| J.z 0 <| SJ.sr 8 <| J.k 1 0 rfl Ty9 (Zbj _) <| J.C 0 F143 (ZeW _ _) fun r3 => J.z 5 <| SJ.sr 7 <| J.C 1 F141 (Zes _ _ _) fun r4 => J.z 5 <| SJ.seq <| SJ.sr 13 <| J.n 1 fun p5 => J.l 1 Ty29 fun x6 => J.g 2 <| OJ.join (b := (x6 == 0)) [6, 7, 8, 9, 10, 11, 12] [] [0, 3, 6, 33] (fun y8 => [(0, .pointer a0), (3, .pointer (some (pt b2 0))), (6, .int .i64 r4.1), (33, .bool y8)]) [] [] (t := 26) beq_iff_eq (fun hp_ => ?_) (fun hp_ => ?_) (fun _ _ _ _ _ _ h_ => h_) fun y8 => ?_
 ·refine J.g 3 <| OJ.join (b := (!r3.2)) [9, 10, 11] [12] [0, 3, 6, 26, 32] (fun y7 => [(0, .pointer a0), (3, .pointer (some (pt b2 0))), (6, .int .i64 r4.1), (26, .bool true), (32, .bool y7)]) [] [] (t := 29) (ZlW Iff.rfl) (fun hp_ => ?_) (fun hp_ => ?_) (fun _ _ _ _ _ hq_ h_ => ⟨fun e_ he_ => (hq_ e_ he_).elim (fun h => h_.1 e_ h) (fun h => nomatch h), h_.2⟩) fun y7 => ?_
  ·exact J.g 3 <| OJ.nil ⟨(Cov.mem Cov.nil), rfl, _, rfl, by kernel_rfl⟩
  ·exact J.g 3 <| OJ.nil ⟨(Cov.mem Cov.nil), rfl, _, rfl, by kernel_rfl⟩
  exact J.g 1 <| OJ.nil ⟨(Cov.mem Cov.nil), rfl, _, rfl, by kernel_rfl⟩
 ·exact J.g 7 <| OJ.nil ⟨(Cov.mem Cov.nil), rfl, _, rfl, by kernel_rfl⟩
 refine J.z 0 <| J.f ?_ ?_
 ·exact SJ.rg 4 <| J.k 2 0 rfl Ty3 (ZbF _) <| J.C 0 F49 (Zbf _ _ _) fun r10 => J.z 0 <| SJ.sr 2 <| J.z 2 <| J.r
 exact SJ.skip <| SJ.sr 2 <| J.z 2 <| J.r

/-! ### internal/stringslite.IndexByte: function 246 -/
noncomputable def ZbY.out (r_ : Int) : Value := .int .i64 r_
noncomputable def ZbY (a0 : ByteArray) (a1 : Int) : M Int :=
 idxB a0 a1 >>= fun r1 =>
 pure r1
theorem Zej (a0 : ByteArray) (a1 : Int) : Ref Tryz.prog 246 [.string a0, .int .u8 a1] (ZbY a0 a1) ZbY.out := by
 refine J.Fn Tryz.func246 ?_
 unfold ZbY
 exact SJ.sr 1 <| J.z 1 <| SJ.sr 4 <| J.g 2 <| OJ.ext (d := 7) (g := 257) (ats := #[9, 5]) (args := [.tmp 5, .tmp 6]) (out := fun r => .int .i64 r) (owed := []) Tryz.func257 ZrG fun r1 => OW.nil <| J.z 1 <| J.r

/-! ### internal/bytealg.Cutover: function 226 -/
noncomputable def ZdY.out (r_ : Int) : Value := .int .i64 r_
noncomputable def ZdY (a0 : Int) : M Int :=
 pure (IntKind.wrap .i64 (Int.tdiv (IntKind.wrap .i64 (a0 + 16)) 8))
theorem Zif (a0 : Int) : Ref Tryz.prog 226 [.int .i64 a0] (ZdY a0) ZdY.out := by
 refine J.Fn Tryz.func226 ?_
 unfold ZdY
 exact SJ.sr 1 <| J.z 1 <| SJ.sr 4 <| J.z 4 <| J.r

/-! ### internal/bytealg.hashStr[string]: function 261 -/
noncomputable def Zaj.B : Code := bod Tryz.f261
noncomputable def Zaj.cx : Fx := ⟨Tryz.prog, 261, Tryz.f261, none⟩
noncomputable def Zaj.out (r_ : (Int × Int)) : Value := .tuple #[.int .u32 r_.1, .int .u32 r_.2]
noncomputable def Zaj.F1 (s1 : Int) : LF (Int × Int × Int) (Int × Int) := ⟨[.inBlock 2, .code (c2 (c2 (c2 (c2 (c2 Zaj.B)))))], c1 (c2 (c1 (c2 (c2 (c2 (c2 Zaj.B)))))), fun s_ => [(4, .int .u32 s1), (6, .int .u32 s_.1), (7, .int .u32 s_.2.1), (8, .int .i64 s_.2.2)], fun s_ => [], (rt Zaj.out)⟩
noncomputable def Zaj.L1 (s1 : Int) (s6 : Int) (s7 : Int) (s8 : Int) : M (LS (Int × Int × Int) (Int × Int)) :=
 if s8 > 0 then
  if (band .i64 s8 1) ≠ 0 then
   pure (LS.next (IntKind.wrap .u32 (s6 * s7), IntKind.wrap .u32 (s7 * s7), Int.fdiv s8 (2 ^ 1)))
  else
   pure (LS.next (s6, IntKind.wrap .u32 (s7 * s7), Int.fdiv s8 (2 ^ 1)))
 else
  pure (LS.done (s1, s6))
theorem Zaj.L1_ok (s1 : Int) : LJ Zaj.cx (Zaj.F1 s1) (fun s_ => Zaj.L1 s1 s_.1 s_.2.1 s_.2.2) := by
 rintro ⟨s6, s7, s8⟩
 show SJ _ _ _ _ (Zaj.L1 s1 s6 s7 s8) _
 unfold Zaj.L1
 refine SJ.seq <| SJ.sr 2 <| J.z 2 <| J.f ?_ ?_
 ·refine SJ.skip <| SJ.seq <| SJ.block (id := 3) <| SJ.seq <| SJ.sr 3 <| J.z 3 <| J.f ?_ ?_
  ·exact SJ.rg 4 <| J.z 4 <| SJ.rg 4 <| J.z 4 <| SJ.inBlock <| SJ.rg 3 <| J.z 3 <| J.o rfl
  exact SJ.skip <| SJ.rg 4 <| J.z 4 <| SJ.inBlock <| SJ.rg 3 <| J.z 3 <| J.o rfl
 exact SJ.exit (id := 2) (by rfl) <| SJ.sr 4 <| J.z 4 <| J.r
noncomputable def Zaj.K1 (a0 : ByteArray) (s1 : Int) : M (Int × Int) :=
 Zb9 (fun s_ : (Int × Int × Int) => Zaj.L1 s1 s_.1 s_.2.1 s_.2.2) (1, 16777619, (a0.size : Int))
theorem Zaj.K1_ok (a0 : ByteArray) (s1 : Int) :
  SJ Zaj.cx [.code (c2 (c2 (c2 Zaj.B)))] [(0, .string a0), (4, .int .u32 s1)] [] (Zaj.K1 a0 s1) (rt Zaj.out) := by
 unfold Zaj.K1
 exact SJ.sr 2 <| J.z 2 <| SJ.seq <| SJ.sr 3 <| J.z 3 <| SJ.block (id := 2) <| J.L (Zaj.L1_ok s1)
noncomputable def Zaj.F2 (a0 : ByteArray) : LF (Int × Int) (Int × Int) := ⟨[.inBlock 0, .code (c2 (c2 (c2 Zaj.B)))], c1 (c2 (c1 (c2 (c2 Zaj.B)))), fun s_ => [(0, .string a0), (4, .int .u32 s_.1), (5, .int .i64 s_.2)], fun s_ => [], (rt Zaj.out)⟩
noncomputable def Zaj.L2 (a0 : ByteArray) (s1 : Int) (s2 : Int) : M (LS (Int × Int) (Int × Int)) :=
 if s2 < (a0.size : Int) then
  chk ((0 : Int) ≤ s2 ∧ s2 < (a0.size : Int)) >>= fun _ =>
  pure (LS.next (IntKind.wrap .u32 ((IntKind.wrap .u32 (s1 * 16777619)) + (IntKind.wrap .u32 (sb a0 s2))), IntKind.wrap .i64 (s2 + 1)))
 else
  (Zaj.K1 a0 s1) >>= fun b => pure (LS.done b)
theorem Zaj.L2_ok (a0 : ByteArray) : LJ Zaj.cx (Zaj.F2 a0) (fun s_ => Zaj.L2 a0 s_.1 s_.2) := by
 rintro ⟨s1, s2⟩
 show SJ _ _ _ _ (Zaj.L2 a0 s1 s2) _
 unfold Zaj.L2
 refine SJ.seq <| SJ.sr 4 <| J.z 4 <| J.f ?_ ?_
 ·exact SJ.skip <| SJ.seq <| SJ.block (id := 1) <| SJ.rg 8 <| J.t 4 fun hb13 hb14 => J.z 3 <| SJ.inBlock <| SJ.rg 3 <| J.z 3 <| J.o rfl
 exact SJ.exit (id := 0) (by rfl) <| J.q <| SJ.done <| Zaj.K1_ok a0 s1
noncomputable def Zaj (a0 : ByteArray) : M (Int × Int) :=
 Zb9 (fun s_ : (Int × Int) => Zaj.L2 a0 s_.1 s_.2) (0, 0)
theorem ZfD (a0 : ByteArray) : Ref Tryz.prog 261 [.string a0] (Zaj a0) Zaj.out := by
 refine J.Fn Tryz.func261 ?_
 unfold Zaj
 exact SJ.sr 2 <| J.z 2 <| SJ.sr 1 <| J.z 1 <| SJ.seq <| SJ.sr 1 <| J.z 1 <| SJ.block (id := 0) <| J.L (Zaj.L2_ok a0)

/-! ### internal/bytealg.IndexRabinKarp[string]: function 250 -/
noncomputable def Zad.B : Code := bod Tryz.f250
noncomputable def Zad.cx : Fx := ⟨Tryz.prog, 250, Tryz.f250, none⟩
noncomputable def Zad.out (r_ : Int) : Value := .int .i64 r_
noncomputable def Zad.F1 (a0 : ByteArray) (a1 : ByteArray) (r1 : (Int × Int)) : LF (Int × Int) Int := ⟨[.inBlock 2, .code (c2 (c2 (c2 (c2 (c2 (c2 (c2 Zad.B)))))))], c1 (c2 (c1 (c2 (c2 (c2 (c2 (c2 (c2 Zad.B)))))))), fun s_ => [(0, .string a0), (1, .string a1), (5, .int .u32 r1.1), (6, .int .u32 r1.2), (7, .int .i64 (a1.size : Int)), (8, .int .u32 s_.1), (10, .int .i64 s_.2)], fun s_ => [], (rt Zad.out)⟩
noncomputable def Zad.L1 (a0 : ByteArray) (a1 : ByteArray) (r1 : (Int × Int)) (s8 : Int) (s9 : Int) : M (LS (Int × Int) Int) :=
 if s9 < (a0.size : Int) then
  chk ((0 : Int) ≤ s9 ∧ s9 < (a0.size : Int)) >>= fun _ =>
  chk ((0 : Int) ≤ (IntKind.wrap .i64 (s9 - (a1.size : Int))) ∧ (IntKind.wrap .i64 (s9 - (a1.size : Int))) < (a0.size : Int)) >>= fun _ =>
  (if (IntKind.wrap .u32 ((IntKind.wrap .u32 ((IntKind.wrap .u32 (s8 * 16777619)) + (IntKind.wrap .u32 (sb a0 s9)))) - (IntKind.wrap .u32 (r1.2 * (IntKind.wrap .u32 (sb a0 (IntKind.wrap .i64 (s9 - (a1.size : Int))))))))) = r1.1 then
    chk (0 ≤ ((IntKind.wrap .i64 ((IntKind.wrap .i64 (s9 + 1)) - (a1.size : Int))) : Int) ∧ ((IntKind.wrap .i64 ((IntKind.wrap .i64 (s9 + 1)) - (a1.size : Int))) : Int) ≤ (IntKind.wrap .i64 (s9 + 1)) ∧ (IntKind.wrap .i64 (s9 + 1)) ≤ (a0.size : Int)) >>= fun _ =>
    pure ((ByteArray.extract a0 (Int.toNat (IntKind.wrap .i64 ((IntKind.wrap .i64 (s9 + 1)) - (a1.size : Int)))) (Int.toNat (IntKind.wrap .i64 (s9 + 1)))).toList == a1.toList)
   else
    pure false) >>= fun y21 =>
  if y21 = true then
   pure (LS.done (IntKind.wrap .i64 ((IntKind.wrap .i64 (s9 + 1)) - (a1.size : Int))))
  else
   pure (LS.next (IntKind.wrap .u32 ((IntKind.wrap .u32 ((IntKind.wrap .u32 (s8 * 16777619)) + (IntKind.wrap .u32 (sb a0 s9)))) - (IntKind.wrap .u32 (r1.2 * (IntKind.wrap .u32 (sb a0 (IntKind.wrap .i64 (s9 - (a1.size : Int)))))))), IntKind.wrap .i64 (s9 + 1)))
 else
  pure (LS.done (-1))
theorem Zad.L1_ok (a0 : ByteArray) (a1 : ByteArray) (r1 : (Int × Int)) : LJ Zad.cx (Zad.F1 a0 a1 r1) (fun s_ => Zad.L1 a0 a1 r1 s_.1 s_.2) := by
 rintro ⟨s8, s9⟩
 show SJ _ _ _ _ (Zad.L1 a0 a1 r1 s8 s9) _
 unfold Zad.L1
 refine SJ.seq <| SJ.sr 4 <| J.z 4 <| J.f ?_ ?_
 ·refine SJ.skip <| SJ.block (id := 3) <| SJ.sr 3 <| J.z 3 <| SJ.sr 7 <| J.t 3 fun hb17 hb18 => J.z 3 <| SJ.sr 11 <| J.t 6 fun hb19 hb20 => J.z 4 <| SJ.sr 3 <| J.z 3 <| SJ.sr 13 <| J.j 4 8 .bool ?_ ?_ fun y21 => ?_
  ·exact J.ct 5 <| J.e 3
  ·exact J.e 9
  refine J.z 0 <| J.f ?_ ?_
  ·exact SJ.sr 4 <| J.z 4 <| J.r
  exact SJ.skip <| SJ.inBlock <| J.o rfl
 exact SJ.exit (id := 2) (by rfl) <| SJ.sr 1 <| J.z 1 <| J.r
noncomputable def Zad.K1 (a0 : ByteArray) (a1 : ByteArray) (r1 : (Int × Int)) (s2 : Int) : M Int :=
 (if s2 = r1.1 then
   chk (0 ≤ (0 : Int) ∧ (0 : Int) ≤ (a1.size : Int) ∧ (a1.size : Int) ≤ (a0.size : Int)) >>= fun _ =>
   pure ((ByteArray.extract a0 (Int.toNat 0) (Int.toNat (a1.size : Int))).toList == a1.toList)
  else
   pure false) >>= fun y7 =>
 if y7 = true then
  pure 0
 else
  Zb9 (fun s_ : (Int × Int) => Zad.L1 a0 a1 r1 s_.1 s_.2) (s2, (a1.size : Int))
theorem Zad.K1_ok (a0 : ByteArray) (a1 : ByteArray) (r1 : (Int × Int)) (s2 : Int) :
  SJ Zad.cx [.code (c2 (c2 (c2 (c2 (c2 Zad.B)))))] [(0, .string a0), (1, .string a1), (5, .int .u32 r1.1), (6, .int .u32 r1.2), (7, .int .i64 (a1.size : Int)), (8, .int .u32 s2)] [] (Zad.K1 a0 a1 r1 s2) (rt Zad.out) := by
 unfold Zad.K1
 refine SJ.seq <| SJ.sr 10 <| J.j 4 5 .bool ?_ ?_ fun y7 => ?_
 ·exact J.ct 2 <| J.e 3
 ·exact J.e 6
 refine J.z 0 <| J.f ?_ ?_
 ·exact SJ.sr 1 <| J.z 1 <| J.r
 exact SJ.skip <| SJ.seq <| SJ.sr 2 <| J.z 2 <| SJ.block (id := 2) <| J.L (Zad.L1_ok a0 a1 r1)
noncomputable def Zad.F2 (a0 : ByteArray) (a1 : ByteArray) (r1 : (Int × Int)) : LF (Int × Int) Int := ⟨[.inBlock 0, .code (c2 (c2 (c2 (c2 (c2 Zad.B)))))], c1 (c2 (c1 (c2 (c2 (c2 (c2 Zad.B)))))), fun s_ => [(0, .string a0), (1, .string a1), (5, .int .u32 r1.1), (6, .int .u32 r1.2), (7, .int .i64 (a1.size : Int)), (8, .int .u32 s_.1), (9, .int .i64 s_.2)], fun s_ => [], (rt Zad.out)⟩
noncomputable def Zad.L2 (a0 : ByteArray) (a1 : ByteArray) (r1 : (Int × Int)) (s2 : Int) (s3 : Int) : M (LS (Int × Int) Int) :=
 if s3 < (a1.size : Int) then
  chk ((0 : Int) ≤ s3 ∧ s3 < (a0.size : Int)) >>= fun _ =>
  pure (LS.next (IntKind.wrap .u32 ((IntKind.wrap .u32 (s2 * 16777619)) + (IntKind.wrap .u32 (sb a0 s3))), IntKind.wrap .i64 (s3 + 1)))
 else
  (Zad.K1 a0 a1 r1 s2) >>= fun b => pure (LS.done b)
theorem Zad.L2_ok (a0 : ByteArray) (a1 : ByteArray) (r1 : (Int × Int)) : LJ Zad.cx (Zad.F2 a0 a1 r1) (fun s_ => Zad.L2 a0 a1 r1 s_.1 s_.2) := by
 rintro ⟨s2, s3⟩
 show SJ _ _ _ _ (Zad.L2 a0 a1 r1 s2 s3) _
 unfold Zad.L2
 refine SJ.seq <| SJ.sr 3 <| J.z 3 <| J.f ?_ ?_
 ·exact SJ.skip <| SJ.seq <| SJ.block (id := 1) <| SJ.rg 8 <| J.t 4 fun hb25 hb26 => J.z 3 <| SJ.inBlock <| SJ.rg 3 <| J.z 3 <| J.o rfl
 exact SJ.exit (id := 0) (by rfl) <| J.q <| SJ.done <| Zad.K1_ok a0 a1 r1 s2
noncomputable def Zad (a0 : ByteArray) (a1 : ByteArray) : M Int :=
 Zaj a1 >>= fun r1 =>
 Zb9 (fun s_ : (Int × Int) => Zad.L2 a0 a1 r1 s_.1 s_.2) (0, 0)
theorem ZeA (a0 : ByteArray) (a1 : ByteArray) : Ref Tryz.prog 250 [.string a0, .string a1] (Zad a0 a1) Zad.out := by
 refine J.Fn Tryz.func250 ?_
 unfold Zad
 exact SJ.sr 1 <| J.z 1 <| SJ.sr 7 <| J.C 1 F261 (ZfD _) fun r1 => J.z 5 <| SJ.sr 3 <| J.z 3 <| SJ.sr 1 <| J.z 1 <| SJ.seq <| SJ.sr 1 <| J.z 1 <| SJ.block (id := 0) <| J.L (Zad.L2_ok a0 a1 r1)
end Go.Proofs.YtpmhinidiplhiaaGreatDoor.Lx
