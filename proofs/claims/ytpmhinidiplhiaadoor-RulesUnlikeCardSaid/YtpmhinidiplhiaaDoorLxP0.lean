/- Programs of the M-world for Go functions, each with the proof that the Go text does what it says. Printed by lxgen.py. -/
import Derived.Test.YtpmhinidiplhiaaDoorLxT
set_option linter.unusedVariables false
set_option linter.unusedSimpArgs false
set_option linter.unusedSectionVars false
namespace Go.Proofs.YtpmhinidiplhiaaDoor.Lx
open Go Go.Proofs
variable [ZcG]
/-! ### weir/rules.within: function 12 -/
noncomputable def Zbp.out (r_ : Bool) : Value := .bool r_
noncomputable def Zbp (a0 : Int) (a1 : Int) (a2 : Int) : M Bool :=
 (if a0 ≥ a1 then
   pure (decide (a0 ≤ a2))
  else
   pure false) >>= fun y1 =>
 pure y1
theorem ZbI (a0 : Int) (a1 : Int) (a2 : Int) : Ref Tryd.prog 12 [.int .i64 a0, .int .i64 a1, .int .i64 a2] (Zbp a0 a1 a2) Zbp.out := by
 refine J.Fn Tryd.func12 ?_
 unfold Zbp
 refine SJ.sr 1 <| J.z 1 <| SJ.sr 9 <| J.j 4 3 .bool ?_ ?_ fun y1 => ?_
 ·exact J.e 4
 ·exact J.e 4
 ·exact J.z 1 <| J.r

/-! ### weir/rules.typed: function 13 -/
noncomputable def ZcX.out (r_ : Bool) : Value := .bool r_
noncomputable def ZcX (a0 : Int) : M Bool :=
 (if a0 = 1 then
   pure true
  else
   pure (a0 == 58)) >>= fun y1 =>
 pure y1
theorem ZgE (a0 : Int) : Ref Tryd.prog 13 [.int .i64 a0] (ZcX a0) ZcX.out := by
 refine J.Fn Tryd.func13 ?_
 unfold ZcX
 refine SJ.sr 1 <| J.z 1 <| SJ.sr 7 <| J.j 3 2 .bool ?_ ?_ fun y1 => ?_
 ·exact J.e 3
 ·exact J.e 3
 ·exact J.z 1 <| J.r

/-! ### weir/rules.version: function 37 -/
noncomputable def Zdl.out (r_ : Int) : Value := .int .i64 r_
noncomputable def Zdl (a0 : Int) : M Int :=
 if a0 = 1 then
  if a0 = 1 then
   pure 4
  else
   if a0 = 3 then
    pure 6
   else
    pure 0
 else
  if a0 = 2 then
   pure 4
  else
   if a0 = 3 then
    pure 6
   else
    pure 0
theorem Zit (a0 : Int) : Ref Tryd.prog 37 [.int .i64 a0] (Zdl a0) Zdl.out := by
 refine J.Fn Tryd.func37 ?_
 unfold Zdl
 refine SJ.sr 1 <| J.z 1 <| SJ.seq <| SJ.sr 1 <| J.z 1 <| SJ.block (id := 0) <| SJ.seq <| SJ.sr 2 <| J.z 2 <| J.f ?_ ?_
 ·refine SJ.skip <| J.f ?_ ?_
  ·exact SJ.sr 1 <| J.z 1 <| J.r
  ·refine SJ.sr 2 <| J.z 2 <| J.f ?_ ?_
   ·exact SJ.sr 1 <| J.z 1 <| J.r
   ·exact SJ.skip <| SJ.inBlock <| SJ.sr 1 <| J.z 1 <| J.r
 ·refine SJ.rg 2 <| J.z 2 <| J.f ?_ ?_
  ·exact SJ.sr 1 <| J.z 1 <| J.r
  ·refine SJ.sr 2 <| J.z 2 <| J.f ?_ ?_
   ·exact SJ.sr 1 <| J.z 1 <| J.r
   ·exact SJ.skip <| SJ.inBlock <| SJ.sr 1 <| J.z 1 <| J.r

/-! ### weir/addr.size: function 52 -/
noncomputable def ZdW.out (r_ : Int) : Value := .int .i64 r_
noncomputable def ZdW (a0 : Za1) : M Int :=
 newv 59 Za0 a0 >>= fun b1 =>
 ld (cI .i64) (pt b1 0) >>= fun x2 =>
 if x2 = 6 then
  pure 128
 else
  ld (cI .i64) (pt b1 0) >>= fun x3 =>
  (if x3 ≠ 4 then
    pure true
   else
    cut 1 ⟨some (Addr.add (pt b1 0) 1), 16, 16⟩ (some 4) none none >>= fun r4 =>
    (chk (12 ≤ r4.len) >>= fun _ => nilck r4.a) >>= fun p5 =>
    ld ((cI .u8).arr 12) p5 >>= fun x6 =>
    pure (!eqv x6 (⟨[0, 0, 0, 0, 0, 0, 0, 0, 0, 0, 0, 0], rfl⟩ : (Vec Int 12)))) >>= fun y7 =>
  if y7 = true then
   pure 0
  else
   pure 32
theorem Zgf (a0 : Za1) : Ref Tryd.prog 52 [Za0.val a0] (ZdW a0) ZdW.out := by
 refine J.Fn Tryd.func52 ?_
 unfold ZdW
 refine SJ.sr 2 <| J.B 0 fun b1 => J.z 1 <| SJ.seq <| SJ.sr 3 <| J.l 1 Ty3 fun x2 => J.z 1 <| J.f ?_ ?_
 ·exact SJ.sr 1 <| J.z 1 <| J.r
 ·refine SJ.skip <| SJ.seq <| SJ.sr 11 <| J.l 1 Ty3 fun x3 => J.j 2 6 .bool ?_ ?_ fun y7 => ?_
  ·exact J.e 7
  ·exact J.g 1 <| OJ.cutA (d := 11) (t := 57) (E := 5) (y := .tmp 10) (lo := (some (.const (.int .i64 4)))) (hi := none) (mx := none) (lo' := some (.i64, 4)) (hi' := none) (mx' := none) (fun h => by cases h) fun r4 => OJ.toArr (d := 12) (t := 102) (E := 5) (y := .tmp 11) (s := r4) fun p5 => J.l 0 Zrz fun x6 => J.u 0 Zrz .nil <| OJ.neq (d := 15) (T := 102) (yT := 102) (y := .tmp 13) (z := .tmp 14) (cd := ((cI .u8).arr 12)) (p := x6) (q := (⟨[0, 0, 0, 0, 0, 0, 0, 0, 0, 0, 0, 0], rfl⟩ : (Vec Int 12))) rfl Ztv <| J.e 1
  ·refine J.z 0 <| J.f ?_ ?_
   ·exact SJ.sr 1 <| J.z 1 <| J.r
   ·exact SJ.skip <| SJ.sr 1 <| J.z 1 <| J.r

/-! ### weir/addr.masked: function 53 -/
noncomputable def Zbf.B : Code := bod Tryd.f53
noncomputable def Zbf.cx : Fx := ⟨Tryd.prog, 53, Tryd.f53, none⟩
noncomputable def Zbf.out (r_ : (Vec Int 16)) : Value := ((cI .u8).arr 16).val r_
noncomputable def Zbf.F1 (a0 : (Vec Int 16)) (a1 : Int) (b1 : Nat) (b2 : Nat) (b3 : Nat) : LF (Int × (Vec Int 16)) (Vec Int 16) := ⟨[.inBlock 0, .code (c2 (c2 (c2 Zbf.B)))], c1 (c2 (c1 (c2 (c2 Zbf.B)))), fun s_ => [(1, .int .i64 a1), (2, .pointer (some (pt b1 0))), (4, .pointer (some (pt b2 0))), (5, .pointer (some (pt b3 0))), (8, .int .i64 s_.1)], fun s_ => [(b3, ((cI .u8).arr 16).enc s_.2), (b2, ((cI .u8).arr 16).enc (Vec.rep 16 0)), (b1, ((cI .u8).arr 16).enc a0)], (rt Zbf.out)⟩
noncomputable def Zbf.L1 (a0 : (Vec Int 16)) (a1 : Int) (s4 : Int) (s5 : (Vec Int 16)) : M (LS (Int × (Vec Int 16)) (Vec Int 16)) :=
 if s4 < 16 then
  chk ((0 : Int) ≤ s4 ∧ s4 < (16 : Nat)) >>= fun _ =>
  chk (0 ≤ (IntKind.wrap .u64 (if (if 0 < (IntKind.wrap .i64 (a1 - (IntKind.wrap .i64 (8 * s4)))) then (IntKind.wrap .i64 (a1 - (IntKind.wrap .i64 (8 * s4)))) else 0) < 8 then (if 0 < (IntKind.wrap .i64 (a1 - (IntKind.wrap .i64 (8 * s4)))) then (IntKind.wrap .i64 (a1 - (IntKind.wrap .i64 (8 * s4)))) else 0) else 8))) >>= fun _ =>
  chk ((0 : Int) ≤ s4 ∧ s4 < (16 : Nat)) >>= fun _ =>
  pure (LS.next (IntKind.wrap .i64 (s4 + 1), (Vec.s s5 s4 (band .u8 (Vec.g a0 s4 0) (IntKind.wrap .u8 (Int.fdiv 65280 (2 ^ min (Int.toNat (IntKind.wrap .u64 (if (if 0 < (IntKind.wrap .i64 (a1 - (IntKind.wrap .i64 (8 * s4)))) then (IntKind.wrap .i64 (a1 - (IntKind.wrap .i64 (8 * s4)))) else 0) < 8 then (if 0 < (IntKind.wrap .i64 (a1 - (IntKind.wrap .i64 (8 * s4)))) then (IntKind.wrap .i64 (a1 - (IntKind.wrap .i64 (8 * s4)))) else 0) else 8))) 64)))))))
 else
  pure (LS.done s5)
theorem Zbf.L1_ok (a0 : (Vec Int 16)) (a1 : Int) (b1 : Nat) (b2 : Nat) (b3 : Nat) : LJ Zbf.cx (Zbf.F1 a0 a1 b1 b2 b3) (fun s_ => Zbf.L1 a0 a1 s_.1 s_.2) := by
 rintro ⟨s4, s5⟩
 show SJ _ _ _ _ (Zbf.L1 a0 a1 s4 s5) _
 unfold Zbf.L1
 refine SJ.sr 1 <| J.z 1 <| SJ.seq <| J.f ?_ ?_
 ·exact SJ.skip <| SJ.seq <| SJ.block (id := 1) <| SJ.sr 2 <| J.z 2 <| SJ.sr 7 <| J.g 4 <| OJ.max (d := 15) (t := 3) (u := 3) (so := .const (.int .i64 0)) (xo := .tmp 14) (k := .i64) (p := 0) (q := (IntKind.wrap .i64 (a1 - (IntKind.wrap .i64 (8 * s4))))) <| OJ.min (d := 16) (t := 3) (u := 3) (so := .const (.int .i64 8)) (xo := .tmp 15) (k := .i64) (p := 8) (q := (if 0 < (IntKind.wrap .i64 (a1 - (IntKind.wrap .i64 (8 * s4)))) then (IntKind.wrap .i64 (a1 - (IntKind.wrap .i64 (8 * s4)))) else 0)) <| J.z 1 <| SJ.rg 11 <| J.y 2 fun hb12 hb13 => J.k 0 2 rfl Ty5 (At.zero (At.arr (z := 0) hb12 hb13)) <| J.g 2 <| OJ.shr (d := 23) (T := 3) (yT := 68) (y := .const (.int .i64 65280)) (z := .tmp 22) (k := .i64) (yk := .u64) (p := 65280) (q := (IntKind.wrap .u64 (if (if 0 < (IntKind.wrap .i64 (a1 - (IntKind.wrap .i64 (8 * s4)))) then (IntKind.wrap .i64 (a1 - (IntKind.wrap .i64 (8 * s4)))) else 0) < 8 then (if 0 < (IntKind.wrap .i64 (a1 - (IntKind.wrap .i64 (8 * s4)))) then (IntKind.wrap .i64 (a1 - (IntKind.wrap .i64 (8 * s4)))) else 0) else 8))) fun hq16 => J.y 2 fun hb14 hb15 => J.s (u := (band .u8 (Vec.g a0 s4 0) (IntKind.wrap .u8 (Int.fdiv 65280 (2 ^ min (Int.toNat (IntKind.wrap .u64 (if (if 0 < (IntKind.wrap .i64 (a1 - (IntKind.wrap .i64 (8 * s4)))) then (IntKind.wrap .i64 (a1 - (IntKind.wrap .i64 (8 * s4)))) else 0) < 8 then (if 0 < (IntKind.wrap .i64 (a1 - (IntKind.wrap .i64 (8 * s4)))) then (IntKind.wrap .i64 (a1 - (IntKind.wrap .i64 (8 * s4)))) else 0) else 8))) 64))))) 0 0 rfl Ty5 (Upd.zero (Upd.arr hb14 hb15)) <| J.z 0 <| SJ.inBlock <| SJ.rg 2 <| J.z 2 <| J.o rfl
 ·exact SJ.exit (id := 0) (by rfl) <| SJ.sr 2 <| J.k 0 0 rfl Ty57 (At.whole _) <| J.s 0 1 rfl Ty57 (Upd.w s5) <| J.z 0 <| SJ.ret rfl (Res.run (ys := [((cI .u8).arr 16).val s5]) (.cell (j := 1) (b := b2) (cd := ((cI .u8).arr 16)) (q := s5) (by kernel_rfl) rfl Ty57 (At.whole _) .nil) rfl)
noncomputable def Zbf (a0 : (Vec Int 16)) (a1 : Int) : M (Vec Int 16) :=
 slot 57 >>= fun b1 =>
 slot 57 >>= fun b2 =>
 slot 57 >>= fun b3 =>
 Zci (fun s_ : (Int × (Vec Int 16)) => Zbf.L1 a0 a1 s_.1 s_.2) (0, (Vec.rep 16 0))
theorem ZjU (a0 : (Vec Int 16)) (a1 : Int) : Ref Tryd.prog 53 [((cI .u8).arr 16).val a0, .int .i64 a1] (Zbf a0 a1) Zbf.out := by
 refine J.Fn Tryd.func53 ?_
 unfold Zbf
 exact SJ.sr 2 <| J.b 0 ((cI .u8).arr 16) a0 fun b1 => J.a 0 Ty57 fun b2 => J.z 0 <| SJ.sr 1 <| J.a 0 Ty57 fun b3 => J.z 0 <| SJ.seq <| SJ.sr 1 <| J.z 1 <| SJ.block (id := 0) <| J.L (Zbf.L1_ok a0 a1 b1 b2 b3)

/-! ### weir/addr.ValidPrefix: function 38 -/
noncomputable def ZbK.out (r_ : Int) : Value := .int .i64 r_
noncomputable def ZbK (a0 : Zak) : M Int :=
 slot 61 >>= fun b1 =>
 ZdW a0.IP >>= fun r2 =>
 if r2 = 0 then
  pure 40
 else
  (if a0.Len < 0 then
    pure true
   else
    pure (decide (a0.Len > r2))) >>= fun y9 =>
  if y9 = true then
   pure 45
  else
   draw >>= fun _ =>
   Zbf a0.IP.A a0.Len >>= fun r12 =>
   if ¬ (r12 = a0.IP.A) then
    pure 46
   else
    pure 0
theorem ZdB (a0 : Zak) : Ref Tryd.prog 38 [Zau.val a0] (ZbK a0) ZbK.out := by
 refine J.Fn Tryd.func38 ?_
 unfold ZbK
 refine SJ.sr 2 <| J.b 0 Zau a0 fun b1 => J.z 1 <| SJ.seq <| SJ.sr 4 <| J.k 1 0 rfl Ty59 (ZbB _) <| J.C 0 F52 (Zgf _) fun r2 => J.z 1 <| SJ.block (id := 0) <| SJ.sr 3 <| J.z 3 <| J.f ?_ ?_
 ·exact SJ.sr 1 <| J.z 1 <| J.r
 ·refine SJ.sr 10 <| J.k 1 0 rfl Ty3 (ZbS _) <| J.j 2 4 .bool ?_ ?_ fun y9 => ?_
  ·exact J.e 5
  ·exact J.k 1 0 rfl Ty3 (ZbS _) <| J.e 3
  ·refine J.z 1 <| J.f ?_ ?_
   ·exact SJ.sr 1 <| J.z 1 <| J.r
   ·refine SJ.seq <| J.D [0, 1, 2, 3, 4, 6, 7, 8, 5, 9, 10] Zc3 <| J.k 2 0 rfl Ty57 (At.trans (ZbB _) (Zc1 _)) <| J.k 1 0 rfl Ty3 (ZbS _) <| J.k 2 0 rfl Ty57 (At.trans (ZbB _) (Zc1 _)) <| OJ.call (d := 26) (g := 53) (ats := #[57, 3]) (args := [.tmp 23, .tmp 25]) (owed := [⟨8, 57, (pt b1 1), ((cI .u8).arr 16).val a0.IP.A⟩]) F53 (ZjU a0.IP.A a0.Len) fun r12 => OW.known (j := 0) (q := a0.IP.A) Ty57 rfl (At.trans (ZbB a0) (Zc1 a0.IP)) <| OW.nil <| OJ.neq (d := 30) (T := 57) (yT := 57) (y := .tmp 26) (z := .tmp 29) (cd := ((cI .u8).arr 16)) (p := r12) (q := a0.IP.A) rfl Eq57 <| J.z 1 <| J.f ?_ ?_
    ·exact SJ.sr 1 <| J.z 1 <| J.r
    ·exact SJ.skip <| SJ.inBlock <| SJ.sr 1 <| J.z 1 <| J.r

/-! ### weir/rules.netFits: function 23 -/
noncomputable def Zcy.out (r_ : Bool) : Value := .bool r_
noncomputable def Zcy (a0 : Zak) (a1 : Int) : M Bool :=
 slot 61 >>= fun b1 =>
 Zdl a1 >>= fun r2 =>
 ZbK a0 >>= fun r3 =>
 (if r3 = 0 then
   (if r2 = 0 then
     pure true
    else
     pure (a0.IP.V == r2)) >>= fun y4 =>
   pure y4
  else
   pure false) >>= fun y5 =>
 pure y5
theorem ZfO (a0 : Zak) (a1 : Int) : Ref Tryd.prog 23 [Zau.val a0, .int .i64 a1] (Zcy a0 a1) Zcy.out := by
 refine J.Fn Tryd.func23 ?_
 unfold Zcy
 refine SJ.sr 2 <| J.b 0 Zau a0 fun b1 => J.z 1 <| SJ.sr 3 <| J.C 1 F37 (Zit _) fun r2 => J.z 1 <| SJ.sr 15 <| J.k 0 0 rfl Ty61 (At.whole _) <| J.C 0 F38 (ZdB _) fun r3 => J.g 2 <| OJ.join (b := (r3 == 0)) [4, 5, 6, 7, 8, 9, 10, 11, 12, 13] [14] [21] (fun y5 => [(21, .bool y5)]) [] [] (t := 11) beq_iff_eq (fun hp_ => ?_) (fun hp_ => ?_) (fun _ _ _ _ _ _ h_ => h_) fun y5 => ?_
 ·refine J.g 3 <| OJ.join (b := (r2 == 0)) [7, 8, 9, 10, 11, 12] [13] [11, 20] (fun y4 => [(11, .bool true), (20, .bool y4)]) [] [] (t := 14) beq_iff_eq (fun hp_ => ?_) (fun hp_ => ?_) (fun _ _ _ _ _ hq_ h_ => ⟨fun e_ he_ => (hq_ e_ he_).elim (fun h => h_.1 e_ h) (fun h => nomatch h), h_.2⟩) fun y4 => ?_
  ·exact J.g 6 <| OJ.nil ⟨(Cov.mem Cov.nil), rfl, _, rfl, by kernel_rfl⟩
  ·exact J.k 2 0 rfl Ty3 (At.trans (ZbB _) (Zdi _)) <| J.g 3 <| OJ.nil ⟨(Cov.mem Cov.nil), rfl, _, rfl, by kernel_rfl⟩
  ·exact J.g 1 <| OJ.nil ⟨(Cov.mem Cov.nil), rfl, _, rfl, by kernel_rfl⟩
 ·exact J.g 10 <| OJ.nil ⟨(Cov.mem Cov.nil), rfl, _, rfl, by kernel_rfl⟩
 ·exact J.z 1 <| J.r

/-! ### weir/rules.ported: function 24 -/
noncomputable def ZcT.out (r_ : Bool) : Value := .bool r_
noncomputable def ZcT (a0 : Int) : M Bool :=
 (if a0 = 6 then
   pure true
  else
   pure (a0 == 17)) >>= fun y1 =>
 pure y1
theorem Zf1 (a0 : Int) : Ref Tryd.prog 24 [.int .i64 a0] (ZcT a0) ZcT.out := by
 refine J.Fn Tryd.func24 ?_
 unfold ZcT
 refine SJ.sr 1 <| J.z 1 <| SJ.sr 7 <| J.j 3 2 .bool ?_ ?_ fun y1 => ?_
 ·exact J.e 3
 ·exact J.e 3
 ·exact J.z 1 <| J.r

/-! ### weir/rules.checkSide: function 14 -/
noncomputable def Zah.B : Code := bod Tryd.f14
noncomputable def Zah.cx : Fx := ⟨Tryd.prog, 14, Tryd.f14, none⟩
noncomputable def Zah.out (r_ : Int) : Value := .int .i64 r_
noncomputable def Zah.K1 (a0 : Zan) (a2 : Int) : M Int :=
 (if (a0.Ports.len : Int) > 0 then
   ZcT a2 >>= fun r19 =>
   pure (!r19)
  else
   pure false) >>= fun y20 =>
 if y20 = true then
  pure 165
 else
  pure 0
theorem Zah.K1_ok (a0 : Zan) (a2 : Int) (b1 : Nat) :
  SJ Zah.cx [.code (c2 (c2 (c2 (c2 (c2 Zah.B)))))] [(2, .int .i64 a2), (3, .pointer (some (pt b1 0)))] [(b1, ZaF.enc a0)] (Zah.K1 a0 a2) (rt Zah.out) := by
 unfold Zah.K1
 refine SJ.seq <| SJ.sr 9 <| J.k 1 0 rfl Ty23 (Zbb _) <| J.j 3 3 .bool ?_ ?_ fun y20 => ?_
 ·exact J.C 1 F24 (Zf1 _) fun r19 => J.e 2
 ·exact J.e 4
 ·refine J.z 0 <| J.f ?_ ?_
  ·exact SJ.sr 1 <| J.z 1 <| J.r
  ·exact SJ.skip <| SJ.sr 1 <| J.z 1 <| J.r
noncomputable def Zah.F1 (a0 : Zan) (a2 : Int) (b1 : Nat) : LF Int Int := ⟨[.inBlock 2, .code (c2 (c2 (c2 (c2 (c2 Zah.B)))))], c1 (c2 (c1 (c2 (c2 (c2 (c2 Zah.B)))))), fun s_ => [(2, .int .i64 a2), (3, .pointer (some (pt b1 0))), (42, Sl.v a0.Ports), (43, .int .i64 (a0.Ports.len : Int)), (44, .int .i64 s_)], fun s_ => [(b1, ZaF.enc a0)], (rt Zah.out)⟩
noncomputable def Zah.L1 (a0 : Zan) (a2 : Int) (s11 : Int) : M (LS Int Int) :=
 if s11 < (a0.Ports.len : Int) then
  idx a0.Ports.a a0.Ports.len s11 2 >>= fun p22 =>
  ld ZaS p22 >>= fun x23 =>
  slot 64 >>= fun b24 =>
  (if x23.Lo < 0 then
    pure true
   else
    pure (decide (x23.Hi > 65535))) >>= fun y25 =>
  (if y25 = true then
    pure true
   else
    pure (decide (x23.Lo > x23.Hi))) >>= fun y26 =>
  if y26 = true then
   pure (LS.done 164)
  else
   pure (LS.next (IntKind.wrap .i64 (s11 + 1)))
 else
  (Zah.K1 a0 a2) >>= fun b => pure (LS.done b)
theorem Zah.L1_ok (a0 : Zan) (a2 : Int) (b1 : Nat) : LJ Zah.cx (Zah.F1 a0 a2 b1) (fun s_ => Zah.L1 a0 a2 s_) := by
 rintro s11
 show SJ _ _ _ _ (Zah.L1 a0 a2 s11) _
 unfold Zah.L1
 refine SJ.sr 1 <| J.z 1 <| SJ.seq <| J.f ?_ ?_
 ·refine SJ.skip <| SJ.seq <| SJ.block (id := 3) <| SJ.sr 4 <| J.i 0 fun p22 => J.l 0 Ty64 fun x23 => J.a 0 Ty64 fun b24 => J.s 0 0 rfl Ty64 (Upd.w x23) <| J.z 0 <| SJ.sr 15 <| J.k 1 0 rfl Ty3 (ZcQ _) <| J.j 2 3 .bool ?_ ?_ fun y25 => ?_
  ·exact J.e 4
  ·exact J.k 1 0 rfl Ty3 (ZcR _) <| J.e 2
  ·refine J.j 1 5 .bool ?_ ?_ fun y26 => ?_
   ·exact J.e 6
   ·exact J.k 1 0 rfl Ty3 (ZcQ _) <| J.k 1 0 rfl Ty3 (ZcR _) <| J.e 2
   ·refine J.z 0 <| J.f ?_ ?_
    ·exact SJ.sr 1 <| J.z 1 <| J.r
    ·exact SJ.skip <| SJ.inBlock <| SJ.rg 2 <| J.z 2 <| SJ.forget (List.Sublist.cons _ (List.Sublist.cons_cons _ List.Sublist.slnil)) <| J.o rfl
 ·exact SJ.exit (id := 2) (by rfl) <| J.q <| SJ.done <| Zah.K1_ok a0 a2 b1
noncomputable def Zah.K2 (a0 : Zan) (a2 : Int) : M Int :=
 if (a0.Ports.len : Int) > 16 then
  pure 164
 else
  Zci (fun s_ : Int => Zah.L1 a0 a2 s_) 0
theorem Zah.K2_ok (a0 : Zan) (a2 : Int) (b1 : Nat) :
  SJ Zah.cx [.code (c2 (c2 (c2 Zah.B)))] [(2, .int .i64 a2), (3, .pointer (some (pt b1 0)))] [(b1, ZaF.enc a0)] (Zah.K2 a0 a2) (rt Zah.out) := by
 unfold Zah.K2
 refine SJ.seq <| SJ.sr 4 <| J.k 1 0 rfl Ty23 (Zbb _) <| J.z 2 <| J.f ?_ ?_
 ·exact SJ.sr 1 <| J.z 1 <| J.r
 ·exact SJ.skip <| SJ.seq <| SJ.sr 4 <| J.k 1 0 rfl Ty23 (Zbb _) <| J.z 2 <| SJ.block (id := 2) <| J.L (Zah.L1_ok a0 a2 b1)
noncomputable def Zah.F2 (a0 : Zan) (a1 : Int) (a2 : Int) (b1 : Nat) : LF Int Int := ⟨[.inBlock 0, .code (c2 (c2 (c2 Zah.B)))], c1 (c2 (c1 (c2 (c2 Zah.B)))), fun s_ => [(1, .int .i64 a1), (2, .int .i64 a2), (3, .pointer (some (pt b1 0))), (26, Sl.v a0.Nets), (27, .int .i64 (a0.Nets.len : Int)), (28, .int .i64 s_)], fun s_ => [(b1, ZaF.enc a0)], (rt Zah.out)⟩
noncomputable def Zah.L2 (a0 : Zan) (a1 : Int) (a2 : Int) (s4 : Int) : M (LS Int Int) :=
 if s4 < (a0.Nets.len : Int) then
  idx a0.Nets.a a0.Nets.len s4 18 >>= fun p30 =>
  ld Zau p30 >>= fun x31 =>
  slot 61 >>= fun b32 =>
  Zcy x31 a1 >>= fun r33 =>
  if ¬ (r33 = true) then
   pure (LS.done 163)
  else
   pure (LS.next (IntKind.wrap .i64 (s4 + 1)))
 else
  (Zah.K2 a0 a2) >>= fun b => pure (LS.done b)
theorem Zah.L2_ok (a0 : Zan) (a1 : Int) (a2 : Int) (b1 : Nat) : LJ Zah.cx (Zah.F2 a0 a1 a2 b1) (fun s_ => Zah.L2 a0 a1 a2 s_) := by
 rintro s4
 show SJ _ _ _ _ (Zah.L2 a0 a1 a2 s4) _
 unfold Zah.L2
 refine SJ.sr 1 <| J.z 1 <| SJ.seq <| J.f ?_ ?_
 ·refine SJ.skip <| SJ.seq <| SJ.block (id := 1) <| SJ.sr 4 <| J.i 0 fun p30 => J.l 0 Ty61 fun x31 => J.a 0 Ty61 fun b32 => J.s 0 0 rfl Ty61 (Upd.w x31) <| J.z 0 <| SJ.sr 4 <| J.k 0 0 rfl Ty61 (At.whole _) <| J.C 1 F23 (ZfO _ _) fun r33 => J.z 1 <| J.f ?_ ?_
  ·exact SJ.sr 1 <| J.z 1 <| J.r
  ·exact SJ.skip <| SJ.inBlock <| SJ.rg 2 <| J.z 2 <| SJ.forget (List.Sublist.cons _ (List.Sublist.cons_cons _ List.Sublist.slnil)) <| J.o rfl
 ·exact SJ.exit (id := 0) (by rfl) <| J.q <| SJ.done <| Zah.K2_ok a0 a2 b1
noncomputable def Zah (a0 : Zan) (a1 : Int) (a2 : Int) : M Int :=
 slot 25 >>= fun b1 =>
 (if (a0.Nets.len : Int) > 16 then
   pure true
  else
   (if a0.Not = true then
     pure ((a0.Nets.len : Int) == 0)
    else
     pure false) >>= fun y2 =>
   pure y2) >>= fun y3 =>
 if y3 = true then
  pure 163
 else
  Zci (fun s_ : Int => Zah.L2 a0 a1 a2 s_) 0
theorem ZeP (a0 : Zan) (a1 : Int) (a2 : Int) : Ref Tryd.prog 14 [ZaF.val a0, .int .i64 a1, .int .i64 a2] (Zah a0 a1 a2) Zah.out := by
 refine J.Fn Tryd.func14 ?_
 unfold Zah
 refine SJ.sr 2 <| J.b 0 ZaF a0 fun b1 => J.z 1 <| SJ.seq <| SJ.sr 14 <| J.k 1 0 rfl Ty22 (Zbi _) <| J.g 3 <| OJ.join (b := decide ((a0.Nets.len : Int) > 16)) [5, 6, 7, 8, 9, 10, 11, 12, 13] [] [1, 2, 3, 24] (fun y3 => [(1, .int .i64 a1), (2, .int .i64 a2), (3, .pointer (some (pt b1 0))), (24, .bool y3)]) [] [] (t := 15) decide_eq_true_iff (fun hp_ => ?_) (fun hp_ => ?_) (fun _ _ _ _ _ _ h_ => h_) fun y3 => ?_
 ·exact J.g 9 <| OJ.nil ⟨(Cov.mem Cov.nil), rfl, _, rfl, by kernel_rfl⟩
 ·refine J.k 1 0 rfl Ty4 (Zd2 _) <| J.g 1 <| OJ.join (b := a0.Not) [8, 9, 10, 11, 12] [13] [1, 2, 3, 15, 23] (fun y2 => [(1, .int .i64 a1), (2, .int .i64 a2), (3, .pointer (some (pt b1 0))), (15, .bool false), (23, .bool y2)]) [] [] (t := 18) Iff.rfl (fun hp_ => ?_) (fun hp_ => ?_) (fun _ _ _ _ _ hq_ h_ => ⟨fun e_ he_ => (hq_ e_ he_).elim (fun h => h_.1 e_ h) (fun h => nomatch h), h_.2⟩) fun y2 => ?_
  ·exact J.k 1 0 rfl Ty22 (Zbi _) <| J.g 3 <| OJ.nil ⟨(Cov.mem Cov.nil), rfl, _, rfl, by kernel_rfl⟩
  ·exact J.g 5 <| OJ.nil ⟨(Cov.mem Cov.nil), rfl, _, rfl, by kernel_rfl⟩
  ·exact J.g 1 <| OJ.nil ⟨(Cov.mem Cov.nil), rfl, _, rfl, by kernel_rfl⟩
 ·refine J.z 0 <| J.f ?_ ?_
  ·exact SJ.sr 1 <| J.z 1 <| J.r
  ·exact SJ.skip <| SJ.seq <| SJ.sr 4 <| J.k 1 0 rfl Ty22 (Zbi _) <| J.z 2 <| SJ.block (id := 0) <| J.L (Zah.L2_ok a0 a1 a2 b1)

/-! ### weir/rules.Check: function 6 -/
noncomputable def ZaQ.B : Code := bod Tryd.f6
noncomputable def ZaQ.cx : Fx := ⟨Tryd.prog, 6, Tryd.f6, none⟩
noncomputable def ZaQ.out (r_ : Int) : Value := .int .i64 r_
noncomputable def ZaQ.K1 (a0 : Zap) (j56 : Bool) : M Int :=
 if j56 = true then
  pure 165
 else
  Zah a0.From a0.Kind a0.Proto >>= fun r57 =>
  if r57 ≠ 0 then
   pure r57
  else
   Zah a0.To a0.Kind a0.Proto >>= fun r58 =>
   pure r58
theorem ZaQ.K1_ok (a0 : Zap) (b1 : Nat) (j56 : Bool) :
  SJ ZaQ.cx [.code (c2 (c2 (c2 (c2 (c2 (c1 (c1 (c2 (c2 (c2 ZaQ.B)))))))))), .inBlock 0, .code (c2 (c2 (c2 (c2 ZaQ.B))))] [(1, .pointer (some (pt b1 0))), (77, .bool j56)] [(b1, Zao.enc a0)] (ZaQ.K1 a0 j56) (rt ZaQ.out) := by
 unfold ZaQ.K1
 refine J.f ?_ ?_
 ·exact SJ.sr 1 <| J.z 1 <| J.r
 ·refine SJ.skip <| SJ.inBlock <| SJ.seq <| SJ.sr 8 <| J.k 1 0 rfl Ty25 (Zdy _) <| J.k 1 0 rfl Ty3 (ZbA _) <| J.k 1 0 rfl Ty3 (Zbk _) <| J.C 0 F14 (ZeP _ _ _) fun r57 => J.z 1 <| SJ.sr 2 <| J.z 2 <| J.f ?_ ?_
  ·exact SJ.sr 2 <| J.z 2 <| J.r
  ·exact SJ.skip <| SJ.sr 8 <| J.k 1 0 rfl Ty25 (Zdt _) <| J.k 1 0 rfl Ty3 (ZbA _) <| J.k 1 0 rfl Ty3 (Zbk _) <| J.C 0 F14 (ZeP _ _ _) fun r58 => J.z 1 <| J.r
noncomputable def ZaQ.K2 (a0 : Zap) (j44 : Bool) : M Int :=
 if j44 = true then
  pure 165
 else
  (if (bor .i64 a0.Set a0.Clear) ≠ 0 then
    pure (a0.Proto != 6)
   else
    pure false) >>= fun y53 =>
  if y53 = true then
   ZaQ.K1 a0 y53
  else
   (if a0.Type_ ≠ 0 then
     ZcX a0.Proto >>= fun r61 =>
     pure (!r61)
    else
     pure false) >>= fun y62 =>
   ZaQ.K1 a0 y62
theorem ZaQ.K2_ok (a0 : Zap) (b1 : Nat) (j44 : Bool) :
  SJ ZaQ.cx [.code (c2 (c2 (c2 (c1 (c1 (c2 (c2 (c2 ZaQ.B)))))))), .inBlock 0, .code (c2 (c2 (c2 (c2 ZaQ.B))))] [(1, .pointer (some (pt b1 0))), (60, .bool j44)] [(b1, Zao.enc a0)] (ZaQ.K2 a0 j44) (rt ZaQ.out) := by
 unfold ZaQ.K2
 refine J.f ?_ ?_
 ·exact SJ.sr 1 <| J.z 1 <| J.r
 ·refine SJ.seq <| SJ.sr 12 <| J.k 1 0 rfl Ty3 (Zca _) <| J.k 1 0 rfl Ty3 (ZbR _) <| J.j 3 3 .bool ?_ ?_ fun y53 => ?_
  ·exact J.k 1 0 rfl Ty3 (Zbk _) <| J.e 2
  ·exact J.e 4
  ·refine J.z 1 <| J.f ?_ ?_
   ·exact SJ.skip <| J.q <| ZaQ.K1_ok a0 b1 y53
   ·refine SJ.rg 10 <| J.k 1 0 rfl Ty3 (Zcm _) <| J.j 2 4 .bool ?_ ?_ fun y62 => ?_
    ·exact J.k 1 0 rfl Ty3 (Zbk _) <| J.C 0 F13 (ZgE _) fun r61 => J.e 2
    ·exact J.e 5
    ·exact J.z 1 <| J.q <| ZaQ.K1_ok a0 b1 y62
noncomputable def ZaQ (a0 : Zap) : M Int :=
 slot 27 >>= fun b1 =>
 Zbp a0.Act 1 3 >>= fun r2 =>
 (if r2 = true then
   Zbp a0.Class 0 7 >>= fun r3 =>
   pure r3
  else
   pure false) >>= fun y4 =>
 (if y4 = true then
   Zbp a0.Kind 0 3 >>= fun r5 =>
   pure r5
  else
   pure false) >>= fun y6 =>
 (if y6 = true then
   Zbp a0.Proto 0 255 >>= fun r7 =>
   pure r7
  else
   pure false) >>= fun y8 =>
 (if y8 = true then
   Zbp a0.In 0 8 >>= fun r9 =>
   pure r9
  else
   pure false) >>= fun y10 =>
 (if y10 = true then
   Zbp a0.Vid 0 4094 >>= fun r11 =>
   pure r11
  else
   pure false) >>= fun y12 =>
 (if y12 = true then
   Zbp a0.Set 0 255 >>= fun r13 =>
   pure r13
  else
   pure false) >>= fun y14 =>
 (if y14 = true then
   Zbp a0.Clear 0 255 >>= fun r15 =>
   pure r15
  else
   pure false) >>= fun y16 =>
 (if y16 = true then
   Zbp a0.Type_ 0 256 >>= fun r17 =>
   pure r17
  else
   pure false) >>= fun y18 =>
 (if y18 = true then
   pure ((band .i64 a0.Set a0.Clear) == 0)
  else
   pure false) >>= fun y19 =>
 if ¬ (y19 = true) then
  pure 166
 else
  (if a0.Class ≠ 0 then
    pure (a0.Act != 1)
   else
    pure false) >>= fun y42 =>
  if y42 = true then
   ZaQ.K2 a0 y42
  else
   (if a0.Proto ≠ 0 then
     pure (a0.Kind == 1)
    else
     pure false) >>= fun y65 =>
   ZaQ.K2 a0 y65
theorem ZgF (a0 : Zap) : Ref Tryd.prog 6 [Zao.val a0] (ZaQ a0) ZaQ.out := by
 refine J.Fn Tryd.func6 ?_
 unfold ZaQ
 refine SJ.sr 2 <| J.b 0 Zao a0 fun b1 => J.z 1 <| SJ.sr 24 <| J.k 1 0 rfl Ty3 (ZbV _) <| J.C 0 F12 (ZbI _ _ _) fun r2 => J.j 1 3 .bool ?_ ?_ fun y4 => ?_
 ·exact J.k 1 0 rfl Ty3 (Zcn _) <| J.C 0 F12 (ZbI _ _ _) fun r3 => J.e 1
 ·exact J.e 4
 ·refine J.j 1 3 .bool ?_ ?_ fun y6 => ?_
  ·exact J.k 1 0 rfl Ty3 (ZbA _) <| J.C 0 F12 (ZbI _ _ _) fun r5 => J.e 1
  ·exact J.e 4
  ·refine J.j 1 3 .bool ?_ ?_ fun y8 => ?_
   ·exact J.k 1 0 rfl Ty3 (Zbk _) <| J.C 0 F12 (ZbI _ _ _) fun r7 => J.e 1
   ·exact J.e 4
   ·refine J.j 1 3 .bool ?_ ?_ fun y10 => ?_
    ·exact J.k 1 0 rfl Ty3 (Zdu _) <| J.C 0 F12 (ZbI _ _ _) fun r9 => J.e 1
    ·exact J.e 4
    ·refine J.z 1 <| SJ.sr 30 <| J.j 2 3 .bool ?_ ?_ fun y12 => ?_
     ·exact J.k 1 0 rfl Ty3 (Zdh _) <| J.C 0 F12 (ZbI _ _ _) fun r11 => J.e 1
     ·exact J.e 4
     ·refine J.j 1 3 .bool ?_ ?_ fun y14 => ?_
      ·exact J.k 1 0 rfl Ty3 (Zca _) <| J.C 0 F12 (ZbI _ _ _) fun r13 => J.e 1
      ·exact J.e 4
      ·refine J.j 1 3 .bool ?_ ?_ fun y16 => ?_
       ·exact J.k 1 0 rfl Ty3 (ZbR _) <| J.C 0 F12 (ZbI _ _ _) fun r15 => J.e 1
       ·exact J.e 4
       ·refine J.j 1 3 .bool ?_ ?_ fun y18 => ?_
        ·exact J.k 1 0 rfl Ty3 (Zcm _) <| J.C 0 F12 (ZbI _ _ _) fun r17 => J.e 1
        ·exact J.e 4
        ·refine J.j 1 6 .bool ?_ ?_ fun y19 => ?_
         ·exact J.k 1 0 rfl Ty3 (Zca _) <| J.k 1 0 rfl Ty3 (ZbR _) <| J.e 3
         ·exact J.e 7
         ·refine J.z 1 <| SJ.seq <| SJ.block (id := 0) <| SJ.sr 3 <| J.z 3 <| J.f ?_ ?_
          ·exact SJ.sr 1 <| J.z 1 <| J.r
          ·refine SJ.seq <| SJ.sr 9 <| J.k 1 0 rfl Ty3 (Zcn _) <| J.j 2 3 .bool ?_ ?_ fun y42 => ?_
           ·exact J.k 1 0 rfl Ty3 (ZbV _) <| J.e 2
           ·exact J.e 4
           ·refine J.z 1 <| J.f ?_ ?_
            ·exact SJ.skip <| J.q <| ZaQ.K2_ok a0 b1 y42
            ·refine SJ.rg 9 <| J.k 1 0 rfl Ty3 (Zbk _) <| J.j 2 3 .bool ?_ ?_ fun y65 => ?_
             ·exact J.k 1 0 rfl Ty3 (ZbA _) <| J.e 2
             ·exact J.e 4
             ·exact J.z 1 <| J.q <| ZaQ.K2_ok a0 b1 y65

/-! ### internal/strconv.small: function 65 -/
noncomputable def ZcW.out (r_ : ByteArray) : Value := .string r_
noncomputable def ZcW (a0 : Int) : M ByteArray :=
 if a0 < 10 then
  chk (0 ≤ (a0 : Int) ∧ (a0 : Int) ≤ (IntKind.wrap .i64 (a0 + 1)) ∧ (IntKind.wrap .i64 (a0 + 1)) ≤ (str0.size : Int)) >>= fun _ =>
  pure (ByteArray.extract str0 (Int.toNat a0) (Int.toNat (IntKind.wrap .i64 (a0 + 1))))
 else
  chk (0 ≤ ((IntKind.wrap .i64 (a0 * 2)) : Int) ∧ ((IntKind.wrap .i64 (a0 * 2)) : Int) ≤ (IntKind.wrap .i64 ((IntKind.wrap .i64 (a0 * 2)) + 2)) ∧ (IntKind.wrap .i64 ((IntKind.wrap .i64 (a0 * 2)) + 2)) ≤ (str1.size : Int)) >>= fun _ =>
  pure (ByteArray.extract str1 (Int.toNat (IntKind.wrap .i64 (a0 * 2))) (Int.toNat (IntKind.wrap .i64 ((IntKind.wrap .i64 (a0 * 2)) + 2))))
theorem Zir (a0 : Int) : Ref Tryd.prog 65 [.int .i64 a0] (ZcW a0) ZcW.out := by
 refine J.Fn Tryd.func65 ?_
 unfold ZcW
 refine SJ.sr 1 <| J.z 1 <| SJ.seq <| SJ.sr 2 <| J.z 2 <| J.f ?_ ?_
 ·exact SJ.sr 5 <| J.g 3 <| OJ.cutT (d := 8) (t := 9) (y := .const (.string str0)) (lo := (some (.tmp 5))) (hi := (some (.tmp 7))) (lo' := some (.i64, a0)) (hi' := some (.i64, IntKind.wrap .i64 (a0 + 1))) <| J.z 1 <| J.r
 ·exact SJ.skip <| SJ.sr 7 <| J.g 5 <| OJ.cutT (d := 14) (t := 9) (y := .const (.string str1)) (lo := (some (.tmp 10))) (hi := (some (.tmp 13))) (lo' := some (.i64, IntKind.wrap .i64 (a0 * 2))) (hi' := some (.i64, IntKind.wrap .i64 ((IntKind.wrap .i64 (a0 * 2)) + 2))) <| J.z 1 <| J.r

/-! ### math/bits.Len64: function 77 -/
noncomputable def ZaU.B : Code := bod Tryd.f77
noncomputable def ZaU.cx : Fx := ⟨Tryd.prog, 77, Tryd.f77, none⟩
noncomputable def ZaU.out (r_ : Int) : Value := .int .i64 r_
noncomputable def ZaU.K1 (j3 : Int) (j4 : Int) : M Int :=
 if j3 ≥ 256 then
  chk ((0 : Int) ≤ (IntKind.wrap .u8 (Int.fdiv j3 (2 ^ 8))) ∧ (IntKind.wrap .u8 (Int.fdiv j3 (2 ^ 8))) < (str2.size : Int)) >>= fun _ =>
  pure (IntKind.wrap .i64 ((IntKind.wrap .i64 (j4 + 8)) + (IntKind.wrap .i64 (sb str2 (IntKind.wrap .u8 (Int.fdiv j3 (2 ^ 8)))))))
 else
  chk ((0 : Int) ≤ (IntKind.wrap .u8 j3) ∧ (IntKind.wrap .u8 j3) < (str2.size : Int)) >>= fun _ =>
  pure (IntKind.wrap .i64 (j4 + (IntKind.wrap .i64 (sb str2 (IntKind.wrap .u8 j3)))))
theorem ZaU.K1_ok (j3 : Int) (j4 : Int) :
  SJ ZaU.cx [.code (c2 (c2 (c2 ZaU.B)))] [(0, .int .u64 j3), (2, .int .i64 j4)] [] (ZaU.K1 j3 j4) (rt ZaU.out) := by
 unfold ZaU.K1
 refine SJ.seq <| SJ.sr 2 <| J.z 2 <| J.f ?_ ?_
 ·exact SJ.sr 3 <| J.z 3 <| SJ.rg 3 <| J.z 3 <| SJ.sr 7 <| J.t 3 fun hb5 hb6 => J.z 3 <| J.r
 ·exact SJ.skip <| SJ.sr 7 <| J.t 3 fun hb7 hb8 => J.z 3 <| J.r
noncomputable def ZaU.K2 (j1 : Int) (j2 : Int) : M Int :=
 if j1 ≥ 65536 then
  ZaU.K1 (Int.fdiv j1 (2 ^ 16)) (IntKind.wrap .i64 (j2 + 16))
 else
  ZaU.K1 j1 j2
theorem ZaU.K2_ok (j1 : Int) (j2 : Int) :
  SJ ZaU.cx [.code (c2 (c2 ZaU.B))] [(0, .int .u64 j1), (2, .int .i64 j2)] [] (ZaU.K2 j1 j2) (rt ZaU.out) := by
 unfold ZaU.K2
 refine SJ.seq <| SJ.sr 2 <| J.z 2 <| J.f ?_ ?_
 ·exact SJ.sr 3 <| J.z 3 <| SJ.rg 3 <| J.z 3 <| J.q <| ZaU.K1_ok (Int.fdiv j1 (2 ^ 16)) (IntKind.wrap .i64 (j2 + 16))
 ·exact SJ.skip <| J.q <| ZaU.K1_ok j1 j2
noncomputable def ZaU (a0 : Int) : M Int :=
 if a0 ≥ 4294967296 then
  ZaU.K2 (Int.fdiv a0 (2 ^ 32)) 32
 else
  ZaU.K2 a0 0
theorem Zln (a0 : Int) : Ref Tryd.prog 77 [.int .u64 a0] (ZaU a0) ZaU.out := by
 refine J.Fn Tryd.func77 ?_
 unfold ZaU
 refine SJ.sr 1 <| J.z 1 <| SJ.seq <| SJ.sr 2 <| J.z 2 <| J.f ?_ ?_
 ·exact SJ.sr 3 <| J.z 3 <| SJ.rg 1 <| J.z 1 <| J.q <| ZaU.K2_ok (Int.fdiv a0 (2 ^ 32)) 32
 ·exact SJ.skip <| J.q <| ZaU.K2_ok a0 0

/-! ### internal/strconv.log10Pow2: function 76 -/
noncomputable def Zb2.out (r_ : Int) : Value := .int .i64 r_
noncomputable def Zb2 (a0 : Int) : M Int :=
 pure (Int.fdiv (IntKind.wrap .i64 (a0 * 78913)) (2 ^ 18))
theorem Zgv (a0 : Int) : Ref Tryd.prog 76 [.int .i64 a0] (Zb2 a0) Zb2.out := by
 refine J.Fn Tryd.func76 ?_
 unfold Zb2
 exact SJ.sr 1 <| J.z 1 <| SJ.sr 4 <| J.z 4 <| J.r

/-! ### internal/strconv.bool2[int]: function 78 -/
noncomputable def Zb3.out (r_ : Int) : Value := .int .i64 r_
noncomputable def Zb3 (a0 : Bool) : M Int :=
 if a0 = true then
  pure 1
 else
  pure 0
theorem Zgw (a0 : Bool) : Ref Tryd.prog 78 [.bool a0] (Zb3 a0) Zb3.out := by
 refine J.Fn Tryd.func78 ?_
 unfold Zb3
 refine SJ.sr 1 <| J.z 1 <| SJ.seq <| SJ.sr 1 <| J.z 1 <| J.f ?_ ?_
 ·exact SJ.sr 1 <| J.z 1 <| J.r
 ·exact SJ.skip <| SJ.sr 1 <| J.z 1 <| J.r

/-! ### internal/strconv.numDigits: function 66 -/
noncomputable def ZbD.out (r_ : Int) : Value := .int .i64 r_
noncomputable def ZbD (a0 : Int) : M Int :=
 ZaU a0 >>= fun r1 =>
 Zb2 r1 >>= fun r2 =>
 idx (some ⟨3, 0, none⟩) 20 r2 1 >>= fun p3 =>
 ld (cI .u64) p3 >>= fun x4 =>
 Zb3 (decide (a0 ≥ x4)) >>= fun r5 =>
 pure (IntKind.wrap .i64 (r2 + r5))
theorem Zgu (a0 : Int) : Ref Tryd.prog 66 [.int .u64 a0] (ZbD a0) ZbD.out := by
 refine J.Fn Tryd.func66 ?_
 unfold ZbD
 exact SJ.sr 1 <| J.z 1 <| SJ.sr 4 <| J.C 1 F77 (Zln _) fun r1 => J.C 0 F76 (Zgv _) fun r2 => J.z 1 <| SJ.sr 9 <| J.g 3 <| OJ.idxA (d := 10) (T := 133) (y := .global 3) (j := .tmp 9) (E := 116) (k := .i64) fun p3 => J.l 0 ZtR fun x4 => J.C 1 F78 (Zgw _) fun r5 => J.z 2 <| J.r

/-! ### internal/strconv.formatBase10: function 67 -/
noncomputable def Zab.B : Code := bod Tryd.f67
noncomputable def Zab.cx : Fx := ⟨Tryd.prog, 67, Tryd.f67, none⟩
noncomputable def Zab.out (r_ : Unit) : Value := .tuple #[]
noncomputable def Zab.K1 (a0 : Sl) (j48 : Int) (j49 : Int) : M Unit :=
 if j48 > 0 then
  idx a0.a a0.len 0 1 >>= fun p51 =>
  st (cI .u8) p51 (IntKind.wrap .u8 (IntKind.wrap .u32 (48 + j49))) >>= fun _ =>
  pure ()
 else
  pure ()
theorem Zab.K1_ok (a0 : Sl) (j48 : Int) (j49 : Int) :
  SJ Zab.cx [.code (c2 (c2 (c2 (c2 (c2 Zab.B)))))] [(0, Sl.v a0), (4, .int .i64 j48), (12, .int .u32 j49)] [] (Zab.K1 a0 j48 j49) (rt Zab.out) := by
 unfold Zab.K1
 refine SJ.sr 2 <| J.z 2 <| J.f ?_ ?_
 ·exact SJ.rg 6 <| J.i 4 fun p51 => J.w 0 Ty5 <| J.z 0 <| SJ.end_ rfl (Res.run (ys := []) .nil rfl)
 ·exact SJ.skip <| SJ.end_ rfl (Res.run (ys := []) .nil rfl)
noncomputable def Zab.K2 (a0 : Sl) (j40 : Int) (j41 : Int) : M Unit :=
 if j40 ≥ 2 then
  draw >>= fun _ =>
  chk ((0 : Int) ≤ (IntKind.wrap .u32 ((IntKind.wrap .u32 ((Int.tmod j41 100) * 2)) + 1)) ∧ (IntKind.wrap .u32 ((IntKind.wrap .u32 ((Int.tmod j41 100) * 2)) + 1)) < (str1.size : Int)) >>= fun _ =>
  chk ((0 : Int) ≤ (IntKind.wrap .u32 ((Int.tmod j41 100) * 2)) ∧ (IntKind.wrap .u32 ((Int.tmod j41 100) * 2)) < (str1.size : Int)) >>= fun _ =>
  idx a0.a a0.len (IntKind.wrap .i64 (j40 - 1)) 1 >>= fun p57 =>
  st (cI .u8) p57 (sb str1 (IntKind.wrap .u32 ((IntKind.wrap .u32 ((Int.tmod j41 100) * 2)) + 1))) >>= fun _ =>
  idx a0.a a0.len (IntKind.wrap .i64 (j40 - 2)) 1 >>= fun p58 =>
  st (cI .u8) p58 (sb str1 (IntKind.wrap .u32 ((Int.tmod j41 100) * 2))) >>= fun _ =>
  Zab.K1 a0 (IntKind.wrap .i64 (j40 - 2)) (IntKind.wrap .u32 (Int.tdiv j41 100))
 else
  Zab.K1 a0 j40 j41
theorem Zab.K2_ok (a0 : Sl) (j40 : Int) (j41 : Int) :
  SJ Zab.cx [.code (c2 (c2 (c2 (c2 Zab.B))))] [(0, Sl.v a0), (4, .int .i64 j40), (12, .int .u32 j41)] [] (Zab.K2 a0 j40 j41) (rt Zab.out) := by
 unfold Zab.K2
 refine SJ.seq <| SJ.sr 2 <| J.z 2 <| J.f ?_ ?_
 ·exact SJ.sr 4 <| J.z 4 <| SJ.sr 3 <| J.z 3 <| SJ.seq <| J.R 15 Zc3 <| J.t 8 fun hb53 hb54 => J.t 1 fun hb55 hb56 => J.i 0 fun p57 => J.w 0 Ty5 <| J.i 0 fun p58 => J.w 0 Ty5 <| J.z 0 <| SJ.rg 3 <| J.z 3 <| J.q <| Zab.K1_ok a0 (IntKind.wrap .i64 (j40 - 2)) (IntKind.wrap .u32 (Int.tdiv j41 100))
 ·exact SJ.skip <| J.q <| Zab.K1_ok a0 j40 j41
noncomputable def Zab.K3 (a0 : Sl) (s1 : Int) (s2 : Int) : M Unit :=
 if s2 ≥ 4 then
  draw >>= fun _ =>
  chk ((0 : Int) ≤ (IntKind.wrap .u32 ((IntKind.wrap .u32 ((Int.tmod (Int.tmod (IntKind.wrap .u32 s1) 10000) 100) * 2)) + 1)) ∧ (IntKind.wrap .u32 ((IntKind.wrap .u32 ((Int.tmod (Int.tmod (IntKind.wrap .u32 s1) 10000) 100) * 2)) + 1)) < (str1.size : Int)) >>= fun _ =>
  chk ((0 : Int) ≤ (IntKind.wrap .u32 ((Int.tmod (Int.tmod (IntKind.wrap .u32 s1) 10000) 100) * 2)) ∧ (IntKind.wrap .u32 ((Int.tmod (Int.tmod (IntKind.wrap .u32 s1) 10000) 100) * 2)) < (str1.size : Int)) >>= fun _ =>
  idx a0.a a0.len (IntKind.wrap .i64 (s2 - 1)) 1 >>= fun p64 =>
  st (cI .u8) p64 (sb str1 (IntKind.wrap .u32 ((IntKind.wrap .u32 ((Int.tmod (Int.tmod (IntKind.wrap .u32 s1) 10000) 100) * 2)) + 1))) >>= fun _ =>
  idx a0.a a0.len (IntKind.wrap .i64 (s2 - 2)) 1 >>= fun p65 =>
  st (cI .u8) p65 (sb str1 (IntKind.wrap .u32 ((Int.tmod (Int.tmod (IntKind.wrap .u32 s1) 10000) 100) * 2))) >>= fun _ =>
  draw >>= fun _ =>
  chk ((0 : Int) ≤ (IntKind.wrap .u32 ((IntKind.wrap .u32 ((IntKind.wrap .u32 (Int.tdiv (Int.tmod (IntKind.wrap .u32 s1) 10000) 100)) * 2)) + 1)) ∧ (IntKind.wrap .u32 ((IntKind.wrap .u32 ((IntKind.wrap .u32 (Int.tdiv (Int.tmod (IntKind.wrap .u32 s1) 10000) 100)) * 2)) + 1)) < (str1.size : Int)) >>= fun _ =>
  chk ((0 : Int) ≤ (IntKind.wrap .u32 ((IntKind.wrap .u32 (Int.tdiv (Int.tmod (IntKind.wrap .u32 s1) 10000) 100)) * 2)) ∧ (IntKind.wrap .u32 ((IntKind.wrap .u32 (Int.tdiv (Int.tmod (IntKind.wrap .u32 s1) 10000) 100)) * 2)) < (str1.size : Int)) >>= fun _ =>
  idx a0.a a0.len (IntKind.wrap .i64 (s2 - 3)) 1 >>= fun p70 =>
  st (cI .u8) p70 (sb str1 (IntKind.wrap .u32 ((IntKind.wrap .u32 ((IntKind.wrap .u32 (Int.tdiv (Int.tmod (IntKind.wrap .u32 s1) 10000) 100)) * 2)) + 1))) >>= fun _ =>
  idx a0.a a0.len (IntKind.wrap .i64 (s2 - 4)) 1 >>= fun p71 =>
  st (cI .u8) p71 (sb str1 (IntKind.wrap .u32 ((IntKind.wrap .u32 (Int.tdiv (Int.tmod (IntKind.wrap .u32 s1) 10000) 100)) * 2))) >>= fun _ =>
  Zab.K2 a0 (IntKind.wrap .i64 (s2 - 4)) (IntKind.wrap .u32 (Int.tdiv (IntKind.wrap .u32 s1) 10000))
 else
  Zab.K2 a0 s2 (IntKind.wrap .u32 s1)
theorem Zab.K3_ok (a0 : Sl) (s1 : Int) (s2 : Int) :
  SJ Zab.cx [.code (c2 (c2 Zab.B))] [(0, Sl.v a0), (1, .int .u64 s1), (4, .int .i64 s2)] [] (Zab.K3 a0 s1 s2) (rt Zab.out) := by
 unfold Zab.K3
 refine SJ.sr 3 <| J.z 3 <| SJ.seq <| SJ.sr 2 <| J.z 2 <| J.f ?_ ?_
 ·exact SJ.sr 3 <| J.z 3 <| SJ.sr 3 <| J.z 3 <| SJ.sr 8 <| J.z 8 <| SJ.seq <| J.R 15 Zc3 <| J.t 8 fun hb60 hb61 => J.t 1 fun hb62 hb63 => J.i 0 fun p64 => J.w 0 Ty5 <| J.i 0 fun p65 => J.w 0 Ty5 <| J.z 0 <| SJ.seq <| J.R 15 Zc3 <| J.t 8 fun hb66 hb67 => J.t 1 fun hb68 hb69 => J.i 0 fun p70 => J.w 0 Ty5 <| J.i 0 fun p71 => J.w 0 Ty5 <| J.z 0 <| SJ.rg 3 <| J.z 3 <| J.q <| Zab.K2_ok a0 (IntKind.wrap .i64 (s2 - 4)) (IntKind.wrap .u32 (Int.tdiv (IntKind.wrap .u32 s1) 10000))
 ·exact SJ.skip <| J.q <| Zab.K2_ok a0 s2 (IntKind.wrap .u32 s1)
noncomputable def Zab.F1 (a0 : Sl) : LF (Int × Int) Unit := ⟨[.inBlock 0, .code (c2 (c2 Zab.B))], c1 (c1 (c2 Zab.B)), fun s_ => [(0, Sl.v a0), (1, .int .u64 s_.1), (4, .int .i64 s_.2)], fun s_ => [], (rt Zab.out)⟩
noncomputable def Zab.L1 (a0 : Sl) (s1 : Int) (s2 : Int) : M (LS (Int × Int) Unit) :=
 if s2 ≥ 8 then
  draw >>= fun _ =>
  chk ((0 : Int) ≤ (IntKind.wrap .u32 ((IntKind.wrap .u32 ((Int.tmod (Int.tmod (IntKind.wrap .u32 (Int.tmod s1 100000000)) 10000) 100) * 2)) + 1)) ∧ (IntKind.wrap .u32 ((IntKind.wrap .u32 ((Int.tmod (Int.tmod (IntKind.wrap .u32 (Int.tmod s1 100000000)) 10000) 100) * 2)) + 1)) < (str1.size : Int)) >>= fun _ =>
  chk ((0 : Int) ≤ (IntKind.wrap .u32 ((Int.tmod (Int.tmod (IntKind.wrap .u32 (Int.tmod s1 100000000)) 10000) 100) * 2)) ∧ (IntKind.wrap .u32 ((Int.tmod (Int.tmod (IntKind.wrap .u32 (Int.tmod s1 100000000)) 10000) 100) * 2)) < (str1.size : Int)) >>= fun _ =>
  idx a0.a a0.len (IntKind.wrap .i64 (s2 - 1)) 1 >>= fun p77 =>
  st (cI .u8) p77 (sb str1 (IntKind.wrap .u32 ((IntKind.wrap .u32 ((Int.tmod (Int.tmod (IntKind.wrap .u32 (Int.tmod s1 100000000)) 10000) 100) * 2)) + 1))) >>= fun _ =>
  idx a0.a a0.len (IntKind.wrap .i64 (s2 - 2)) 1 >>= fun p78 =>
  st (cI .u8) p78 (sb str1 (IntKind.wrap .u32 ((Int.tmod (Int.tmod (IntKind.wrap .u32 (Int.tmod s1 100000000)) 10000) 100) * 2))) >>= fun _ =>
  draw >>= fun _ =>
  chk ((0 : Int) ≤ (IntKind.wrap .u32 ((IntKind.wrap .u32 ((IntKind.wrap .u32 (Int.tdiv (Int.tmod (IntKind.wrap .u32 (Int.tmod s1 100000000)) 10000) 100)) * 2)) + 1)) ∧ (IntKind.wrap .u32 ((IntKind.wrap .u32 ((IntKind.wrap .u32 (Int.tdiv (Int.tmod (IntKind.wrap .u32 (Int.tmod s1 100000000)) 10000) 100)) * 2)) + 1)) < (str1.size : Int)) >>= fun _ =>
  chk ((0 : Int) ≤ (IntKind.wrap .u32 ((IntKind.wrap .u32 (Int.tdiv (Int.tmod (IntKind.wrap .u32 (Int.tmod s1 100000000)) 10000) 100)) * 2)) ∧ (IntKind.wrap .u32 ((IntKind.wrap .u32 (Int.tdiv (Int.tmod (IntKind.wrap .u32 (Int.tmod s1 100000000)) 10000) 100)) * 2)) < (str1.size : Int)) >>= fun _ =>
  idx a0.a a0.len (IntKind.wrap .i64 (s2 - 3)) 1 >>= fun p83 =>
  st (cI .u8) p83 (sb str1 (IntKind.wrap .u32 ((IntKind.wrap .u32 ((IntKind.wrap .u32 (Int.tdiv (Int.tmod (IntKind.wrap .u32 (Int.tmod s1 100000000)) 10000) 100)) * 2)) + 1))) >>= fun _ =>
  idx a0.a a0.len (IntKind.wrap .i64 (s2 - 4)) 1 >>= fun p84 =>
  st (cI .u8) p84 (sb str1 (IntKind.wrap .u32 ((IntKind.wrap .u32 (Int.tdiv (Int.tmod (IntKind.wrap .u32 (Int.tmod s1 100000000)) 10000) 100)) * 2))) >>= fun _ =>
  draw >>= fun _ =>
  chk ((0 : Int) ≤ (IntKind.wrap .u32 ((IntKind.wrap .u32 ((Int.tmod (IntKind.wrap .u32 (Int.tdiv (IntKind.wrap .u32 (Int.tmod s1 100000000)) 10000)) 100) * 2)) + 1)) ∧ (IntKind.wrap .u32 ((IntKind.wrap .u32 ((Int.tmod (IntKind.wrap .u32 (Int.tdiv (IntKind.wrap .u32 (Int.tmod s1 100000000)) 10000)) 100) * 2)) + 1)) < (str1.size : Int)) >>= fun _ =>
  chk ((0 : Int) ≤ (IntKind.wrap .u32 ((Int.tmod (IntKind.wrap .u32 (Int.tdiv (IntKind.wrap .u32 (Int.tmod s1 100000000)) 10000)) 100) * 2)) ∧ (IntKind.wrap .u32 ((Int.tmod (IntKind.wrap .u32 (Int.tdiv (IntKind.wrap .u32 (Int.tmod s1 100000000)) 10000)) 100) * 2)) < (str1.size : Int)) >>= fun _ =>
  idx a0.a a0.len (IntKind.wrap .i64 (s2 - 5)) 1 >>= fun p89 =>
  st (cI .u8) p89 (sb str1 (IntKind.wrap .u32 ((IntKind.wrap .u32 ((Int.tmod (IntKind.wrap .u32 (Int.tdiv (IntKind.wrap .u32 (Int.tmod s1 100000000)) 10000)) 100) * 2)) + 1))) >>= fun _ =>
  idx a0.a a0.len (IntKind.wrap .i64 (s2 - 6)) 1 >>= fun p90 =>
  st (cI .u8) p90 (sb str1 (IntKind.wrap .u32 ((Int.tmod (IntKind.wrap .u32 (Int.tdiv (IntKind.wrap .u32 (Int.tmod s1 100000000)) 10000)) 100) * 2))) >>= fun _ =>
  draw >>= fun _ =>
  chk ((0 : Int) ≤ (IntKind.wrap .u32 ((IntKind.wrap .u32 ((IntKind.wrap .u32 (Int.tdiv (IntKind.wrap .u32 (Int.tdiv (IntKind.wrap .u32 (Int.tmod s1 100000000)) 10000)) 100)) * 2)) + 1)) ∧ (IntKind.wrap .u32 ((IntKind.wrap .u32 ((IntKind.wrap .u32 (Int.tdiv (IntKind.wrap .u32 (Int.tdiv (IntKind.wrap .u32 (Int.tmod s1 100000000)) 10000)) 100)) * 2)) + 1)) < (str1.size : Int)) >>= fun _ =>
  chk ((0 : Int) ≤ (IntKind.wrap .u32 ((IntKind.wrap .u32 (Int.tdiv (IntKind.wrap .u32 (Int.tdiv (IntKind.wrap .u32 (Int.tmod s1 100000000)) 10000)) 100)) * 2)) ∧ (IntKind.wrap .u32 ((IntKind.wrap .u32 (Int.tdiv (IntKind.wrap .u32 (Int.tdiv (IntKind.wrap .u32 (Int.tmod s1 100000000)) 10000)) 100)) * 2)) < (str1.size : Int)) >>= fun _ =>
  idx a0.a a0.len (IntKind.wrap .i64 (s2 - 7)) 1 >>= fun p95 =>
  st (cI .u8) p95 (sb str1 (IntKind.wrap .u32 ((IntKind.wrap .u32 ((IntKind.wrap .u32 (Int.tdiv (IntKind.wrap .u32 (Int.tdiv (IntKind.wrap .u32 (Int.tmod s1 100000000)) 10000)) 100)) * 2)) + 1))) >>= fun _ =>
  idx a0.a a0.len (IntKind.wrap .i64 (s2 - 8)) 1 >>= fun p96 =>
  st (cI .u8) p96 (sb str1 (IntKind.wrap .u32 ((IntKind.wrap .u32 (Int.tdiv (IntKind.wrap .u32 (Int.tdiv (IntKind.wrap .u32 (Int.tmod s1 100000000)) 10000)) 100)) * 2))) >>= fun _ =>
  pure (LS.next (IntKind.wrap .u64 (Int.tdiv s1 100000000), IntKind.wrap .i64 (s2 - 8)))
 else
  (Zab.K3 a0 s1 s2) >>= fun b => pure (LS.done b)
theorem Zab.L1_ok (a0 : Sl) : LJ Zab.cx (Zab.F1 a0) (fun s_ => Zab.L1 a0 s_.1 s_.2) := by
 rintro ⟨s1, s2⟩
 show SJ _ _ _ _ (Zab.L1 a0 s1 s2) _
 unfold Zab.L1
 refine SJ.seq <| SJ.sr 2 <| J.z 2 <| J.f ?_ ?_
 ·exact SJ.skip <| SJ.block (id := 1) <| SJ.sr 4 <| J.z 4 <| SJ.sr 3 <| J.z 3 <| SJ.sr 6 <| J.z 6 <| SJ.sr 8 <| J.z 8 <| SJ.sr 8 <| J.z 8 <| SJ.seq <| J.R 15 Zc3 <| J.t 8 fun hb73 hb74 => J.t 1 fun hb75 hb76 => J.i 0 fun p77 => J.w 0 Ty5 <| J.i 0 fun p78 => J.w 0 Ty5 <| J.z 0 <| SJ.seq <| J.R 15 Zc3 <| J.t 8 fun hb79 hb80 => J.t 1 fun hb81 hb82 => J.i 0 fun p83 => J.w 0 Ty5 <| J.i 0 fun p84 => J.w 0 Ty5 <| J.z 0 <| SJ.seq <| J.R 15 Zc3 <| J.t 8 fun hb85 hb86 => J.t 1 fun hb87 hb88 => J.i 0 fun p89 => J.w 0 Ty5 <| J.i 0 fun p90 => J.w 0 Ty5 <| J.z 0 <| SJ.seq <| J.R 15 Zc3 <| J.t 8 fun hb91 hb92 => J.t 1 fun hb93 hb94 => J.i 0 fun p95 => J.w 0 Ty5 <| J.i 0 fun p96 => J.w 0 Ty5 <| J.z 0 <| SJ.rg 3 <| J.z 3 <| SJ.inBlock <| J.o rfl
 ·exact SJ.exit (id := 0) (by rfl) <| J.q <| SJ.done <| Zab.K3_ok a0 s1 s2
noncomputable def Zab (a0 : Sl) (a1 : Int) : M Unit :=
 Zci (fun s_ : (Int × Int) => Zab.L1 a0 s_.1 s_.2) (a1, (a0.len : Int))
theorem Zfw (a0 : Sl) (a1 : Int) : Ref Tryd.prog 67 [Sl.v a0, .int .u64 a1] (Zab a0 a1) Zab.out := by
 refine J.Fn Tryd.func67 ?_
 unfold Zab
 exact SJ.sr 3 <| J.z 3 <| SJ.seq <| SJ.block (id := 0) <| J.L (Zab.L1_ok a0)

/-! ### internal/strconv.isPowerOfTwo: function 79 -/
noncomputable def ZbY.out (r_ : Bool) : Value := .bool r_
noncomputable def ZbY (a0 : Int) : M Bool :=
 pure ((band .i64 a0 (IntKind.wrap .i64 (a0 - 1))) == 0)
theorem Zfv (a0 : Int) : Ref Tryd.prog 79 [.int .i64 a0] (ZbY a0) ZbY.out := by
 refine J.Fn Tryd.func79 ?_
 unfold ZbY
 exact SJ.sr 1 <| J.z 1 <| SJ.sr 6 <| J.z 6 <| J.r

/-! ### math/bits.TrailingZeros64: function 89 -/
noncomputable def ZbZ.out (r_ : Int) : Value := .int .i64 r_
noncomputable def ZbZ (a0 : Int) : M Int :=
 if a0 = 0 then
  pure 64
 else
  idx (some ⟨6, 0, none⟩) 64 (Int.fdiv (IntKind.wrap .u64 ((band .u64 a0 (IntKind.wrap .u64 (0 - a0))) * 285870213051353865)) (2 ^ 58)) 1 >>= fun p1 =>
  ld (cI .u8) p1 >>= fun x2 =>
  pure (IntKind.wrap .i64 x2)
theorem ZfI (a0 : Int) : Ref Tryd.prog 89 [.int .u64 a0] (ZbZ a0) ZbZ.out := by
 refine J.Fn Tryd.func89 ?_
 unfold ZbZ
 refine SJ.sr 1 <| J.z 1 <| SJ.seq <| SJ.sr 2 <| J.z 2 <| J.f ?_ ?_
 ·exact SJ.sr 1 <| J.z 1 <| J.r
 ·exact SJ.skip <| SJ.sr 10 <| J.g 6 <| OJ.idxA (d := 11) (T := 153) (y := .global 6) (j := .tmp 10) (E := 5) (k := .u64) fun p1 => J.l 0 Ty5 fun x2 => J.z 2 <| J.r

/-! ### math/bits.TrailingZeros: function 80 -/
noncomputable def Zcb.out (r_ : Int) : Value := .int .i64 r_
noncomputable def Zcb (a0 : Int) : M Int :=
 ZbZ a0 >>= fun r1 =>
 pure r1
theorem Zgd (a0 : Int) : Ref Tryd.prog 80 [.int .u64 a0] (Zcb a0) Zcb.out := by
 refine J.Fn Tryd.func80 ?_
 unfold Zcb
 exact SJ.sr 1 <| J.z 1 <| SJ.seq <| SJ.cond0 (t := (.const (.bool false))) <| SJ.skip <| SJ.sr 3 <| J.C 1 F89 (ZfI _) fun r1 => J.z 1 <| J.r

/-! ### internal/strconv.formatBits: function 68 -/
noncomputable def Zaa.B : Code := bod Tryd.f68
noncomputable def Zaa.cx : Fx := ⟨Tryd.prog, 68, Tryd.f68, none⟩
noncomputable def Zaa.out (r_ : (Sl × ByteArray)) : Value := .tuple #[Sl.v r_.1, .string r_.2]
noncomputable def Zaa.K1 (a0 : Sl) (a3 : Bool) (a4 : Bool) (b3 : Nat) (j37 : Int) : M (Sl × ByteArray) :=
 if a3 = true then
  idx (some (pt b3 0)) 65 (IntKind.wrap .i64 (j37 - 1)) 1 >>= fun p39 =>
  st (cI .u8) p39 45 >>= fun _ =>
  if a4 = true then
   cut 1 ⟨some (pt b3 0), 65, 65⟩ (some (IntKind.wrap .i64 (j37 - 1))) none none >>= fun r42 =>
   appS (cI .u8) 5 1 0 a0 r42 >>= fun r43 =>
   pure (r43, ByteArray.empty)
  else
   cut 1 ⟨some (pt b3 0), 65, 65⟩ (some (IntKind.wrap .i64 (j37 - 1))) none none >>= fun r44 =>
   toStr r44 >>= fun r45 =>
   pure (Sl.nil, r45)
 else
  if a4 = true then
   cut 1 ⟨some (pt b3 0), 65, 65⟩ (some j37) none none >>= fun r49 =>
   appS (cI .u8) 5 1 0 a0 r49 >>= fun r50 =>
   pure (r50, ByteArray.empty)
  else
   cut 1 ⟨some (pt b3 0), 65, 65⟩ (some j37) none none >>= fun r51 =>
   toStr r51 >>= fun r52 =>
   pure (Sl.nil, r52)
theorem Zaa.K1_ok (a0 : Sl) (a3 : Bool) (a4 : Bool) (b3 : Nat) (j37 : Int) :
  SJ Zaa.cx [.code (c2 (c2 (c2 (c2 (c2 (c2 Zaa.B))))))] [(0, Sl.v a0), (3, .bool a3), (4, .bool a4), (10, Sl.v Sl.nil), (11, .string ByteArray.empty), (12, .pointer (some (pt b3 0))), (13, .int .i64 j37)] [] (Zaa.K1 a0 a3 a4 b3 j37) (rt Zaa.out) := by
 unfold Zaa.K1
 refine SJ.seq <| SJ.sr 1 <| J.z 1 <| J.f ?_ ?_
 ·refine SJ.sr 3 <| J.z 3 <| SJ.rg 3 <| J.g 1 <| OJ.idxA (d := 93) (T := 135) (y := .tmp 12) (j := .tmp 92) (E := 5) (k := .i64) fun p39 => J.w 0 Ty5 <| J.z 0 <| SJ.seq <| SJ.sr 1 <| J.z 1 <| J.f ?_ ?_
  ·exact SJ.sr 5 <| J.g 2 <| OJ.cutA (d := 97) (t := 135) (E := 5) (y := .tmp 12) (lo := (some (.tmp 96))) (hi := none) (mx := none) (lo' := some (.i64, IntKind.wrap .i64 (j37 - 1))) (hi' := none) (mx' := none) (fun h => by cases h) fun r42 => OJ.appS (d := 98) (t := 81) (u := 81) (so := .tmp 95) (xo := .tmp 97) (owed := []) Ty5 fun r43 => OW.nil <| J.z 1 <| J.r
  ·exact SJ.skip <| SJ.sr 4 <| J.g 1 <| OJ.cutA (d := 100) (t := 135) (E := 5) (y := .tmp 12) (lo := (some (.tmp 99))) (hi := none) (mx := none) (lo' := some (.i64, IntKind.wrap .i64 (j37 - 1))) (hi' := none) (mx' := none) (fun h => by cases h) fun r44 => OJ.toStr (d := 101) (t := 81) (u := 9) (E := 5) (x := .tmp 100) (owed := []) fun r45 => OW.nil <| J.z 1 <| J.r
 ·refine SJ.skip <| SJ.seq <| SJ.sr 1 <| J.z 1 <| J.f ?_ ?_
  ·exact SJ.sr 5 <| J.g 2 <| OJ.cutA (d := 97) (t := 135) (E := 5) (y := .tmp 12) (lo := (some (.tmp 96))) (hi := none) (mx := none) (lo' := some (.i64, j37)) (hi' := none) (mx' := none) (fun h => by cases h) fun r49 => OJ.appS (d := 98) (t := 81) (u := 81) (so := .tmp 95) (xo := .tmp 97) (owed := []) Ty5 fun r50 => OW.nil <| J.z 1 <| J.r
  ·exact SJ.skip <| SJ.sr 4 <| J.g 1 <| OJ.cutA (d := 100) (t := 135) (E := 5) (y := .tmp 12) (lo := (some (.tmp 99))) (hi := none) (mx := none) (lo' := some (.i64, j37)) (hi' := none) (mx' := none) (fun h => by cases h) fun r51 => OJ.toStr (d := 101) (t := 81) (u := 9) (E := 5) (x := .tmp 100) (owed := []) fun r52 => OW.nil <| J.z 1 <| J.r
noncomputable def Zaa.K2 (a0 : Sl) (a3 : Bool) (a4 : Bool) (b3 : Nat) (s56 : Int) (s57 : Int) : M (Sl × ByteArray) :=
 chk ((0 : Int) ≤ s56 ∧ s56 < (str0.size : Int)) >>= fun _ =>
 idx (some (pt b3 0)) 65 (IntKind.wrap .i64 (s57 - 1)) 1 >>= fun p65 =>
 st (cI .u8) p65 (sb str0 s56) >>= fun _ =>
 Zaa.K1 a0 a3 a4 b3 (IntKind.wrap .i64 (s57 - 1))
theorem Zaa.K2_ok (a0 : Sl) (a3 : Bool) (a4 : Bool) (b3 : Nat) (s56 : Int) (s57 : Int) :
  SJ Zaa.cx [.code (c2 (c2 (c2 (c2 (c1 (c2 (c1 (c2 (c2 (c2 (c2 (c2 Zaa.B)))))))))))), .code (c2 (c2 (c2 (c2 (c2 (c2 Zaa.B))))))] [(0, Sl.v a0), (1, .int .u64 s56), (3, .bool a3), (4, .bool a4), (10, Sl.v Sl.nil), (11, .string ByteArray.empty), (12, .pointer (some (pt b3 0))), (13, .int .i64 s57)] [] (Zaa.K2 a0 a3 a4 b3 s56 s57) (rt Zaa.out) := by
 unfold Zaa.K2
 exact SJ.sr 3 <| J.z 3 <| SJ.rg 5 <| J.t 2 fun hb63 hb64 => OJ.idxA (d := 63) (T := 135) (y := .tmp 12) (j := .tmp 60) (E := 5) (k := .i64) fun p65 => J.w 0 Ty5 <| J.z 0 <| J.q <| Zaa.K1_ok a0 a3 a4 b3 (IntKind.wrap .i64 (s57 - 1))
noncomputable def Zaa.F1 (a0 : Sl) (a2 : Int) (a3 : Bool) (a4 : Bool) (b3 : Nat) (r55 : Int) : LF (Int × Int) (Sl × ByteArray) := ⟨[.inBlock 0, .code (c2 (c2 (c2 (c2 (c1 (c2 (c1 (c2 (c2 (c2 (c2 (c2 Zaa.B)))))))))))), .code (c2 (c2 (c2 (c2 (c2 (c2 Zaa.B))))))], c1 (c1 (c2 (c2 (c2 (c1 (c2 (c1 (c2 (c2 (c2 (c2 (c2 Zaa.B)))))))))))), fun s_ => [(0, Sl.v a0), (1, .int .u64 s_.1), (3, .bool a3), (4, .bool a4), (10, Sl.v Sl.nil), (11, .string ByteArray.empty), (12, .pointer (some (pt b3 0))), (13, .int .i64 s_.2), (14, .int .u64 (IntKind.wrap .u64 r55)), (15, .int .u64 (IntKind.wrap .u64 a2)), (16, .int .u64 (IntKind.wrap .u64 ((IntKind.wrap .u64 a2) - 1)))], fun s_ => [], (rt Zaa.out)⟩
noncomputable def Zaa.L1 (a0 : Sl) (a2 : Int) (a3 : Bool) (a4 : Bool) (b3 : Nat) (r55 : Int) (s56 : Int) (s57 : Int) : M (LS (Int × Int) (Sl × ByteArray)) :=
 if s56 ≥ (IntKind.wrap .u64 a2) then
  chk ((0 : Int) ≤ (band .u64 s56 (IntKind.wrap .u64 ((IntKind.wrap .u64 a2) - 1))) ∧ (band .u64 s56 (IntKind.wrap .u64 ((IntKind.wrap .u64 a2) - 1))) < (str0.size : Int)) >>= fun _ =>
  idx (some (pt b3 0)) 65 (IntKind.wrap .i64 (s57 - 1)) 1 >>= fun p68 =>
  st (cI .u8) p68 (sb str0 (band .u64 s56 (IntKind.wrap .u64 ((IntKind.wrap .u64 a2) - 1)))) >>= fun _ =>
  chk (0 ≤ (IntKind.wrap .u64 r55)) >>= fun _ =>
  pure (LS.next (Int.fdiv s56 (2 ^ min (Int.toNat (IntKind.wrap .u64 r55)) 64), IntKind.wrap .i64 (s57 - 1)))
 else
  (Zaa.K2 a0 a3 a4 b3 s56 s57) >>= fun b => pure (LS.done b)
theorem Zaa.L1_ok (a0 : Sl) (a2 : Int) (a3 : Bool) (a4 : Bool) (b3 : Nat) (r55 : Int) : LJ Zaa.cx (Zaa.F1 a0 a2 a3 a4 b3 r55) (fun s_ => Zaa.L1 a0 a2 a3 a4 b3 r55 s_.1 s_.2) := by
 rintro ⟨s56, s57⟩
 show SJ _ _ _ _ (Zaa.L1 a0 a2 a3 a4 b3 r55 s56 s57) _
 unfold Zaa.L1
 refine SJ.seq <| SJ.sr 3 <| J.z 3 <| J.f ?_ ?_
 ·exact SJ.skip <| SJ.block (id := 1) <| SJ.sr 3 <| J.z 3 <| SJ.sr 7 <| J.t 4 fun hb66 hb67 => OJ.idxA (d := 54) (T := 135) (y := .tmp 12) (j := .tmp 49) (E := 5) (k := .i64) fun p68 => J.w 0 Ty5 <| J.z 0 <| SJ.rg 4 <| J.g 2 <| OJ.shr (d := 57) (T := 116) (yT := 68) (y := .tmp 55) (z := .tmp 56) (k := .u64) (yk := .u64) (p := s56) (q := (IntKind.wrap .u64 r55)) fun hq69 => J.z 1 <| SJ.inBlock <| J.o rfl
 ·exact SJ.exit (id := 0) (by rfl) <| J.q <| SJ.done <| Zaa.K2_ok a0 a3 a4 b3 s56 s57
noncomputable def Zaa.K3 (a0 : Sl) (a3 : Bool) (a4 : Bool) (b3 : Nat) (s71 : Int) (s72 : Int) : M (Sl × ByteArray) :=
 chk ((0 : Int) ≤ s71 ∧ s71 < (str0.size : Int)) >>= fun _ =>
 idx (some (pt b3 0)) 65 (IntKind.wrap .i64 (s72 - 1)) 1 >>= fun p80 =>
 st (cI .u8) p80 (sb str0 s71) >>= fun _ =>
 Zaa.K1 a0 a3 a4 b3 (IntKind.wrap .i64 (s72 - 1))
theorem Zaa.K3_ok (a0 : Sl) (a3 : Bool) (a4 : Bool) (b3 : Nat) (s71 : Int) (s72 : Int) :
  SJ Zaa.cx [.code (c2 (c2 (c2 (c2 (c1 (c2 (c2 (c2 (c2 (c2 Zaa.B)))))))))), .code (c2 (c2 (c2 (c2 (c2 (c2 Zaa.B))))))] [(0, Sl.v a0), (1, .int .u64 s71), (3, .bool a3), (4, .bool a4), (10, Sl.v Sl.nil), (11, .string ByteArray.empty), (12, .pointer (some (pt b3 0))), (13, .int .i64 s72)] [] (Zaa.K3 a0 a3 a4 b3 s71 s72) (rt Zaa.out) := by
 unfold Zaa.K3
 exact SJ.sr 3 <| J.z 3 <| SJ.rg 5 <| J.t 2 fun hb78 hb79 => OJ.idxA (d := 88) (T := 135) (y := .tmp 12) (j := .tmp 85) (E := 5) (k := .i64) fun p80 => J.w 0 Ty5 <| J.z 0 <| J.q <| Zaa.K1_ok a0 a3 a4 b3 (IntKind.wrap .i64 (s72 - 1))
noncomputable def Zaa.F2 (a0 : Sl) (a2 : Int) (a3 : Bool) (a4 : Bool) (b3 : Nat) : LF (Int × Int) (Sl × ByteArray) := ⟨[.inBlock 2, .code (c2 (c2 (c2 (c2 (c1 (c2 (c2 (c2 (c2 (c2 Zaa.B)))))))))), .code (c2 (c2 (c2 (c2 (c2 (c2 Zaa.B))))))], c1 (c1 (c2 (c2 (c2 (c1 (c2 (c2 (c2 (c2 (c2 Zaa.B)))))))))), fun s_ => [(0, Sl.v a0), (1, .int .u64 s_.1), (3, .bool a3), (4, .bool a4), (10, Sl.v Sl.nil), (11, .string ByteArray.empty), (12, .pointer (some (pt b3 0))), (13, .int .i64 s_.2), (17, .int .u64 (IntKind.wrap .u64 a2))], fun s_ => [], (rt Zaa.out)⟩
noncomputable def Zaa.L2 (a0 : Sl) (a2 : Int) (a3 : Bool) (a4 : Bool) (b3 : Nat) (s71 : Int) (s72 : Int) : M (LS (Int × Int) (Sl × ByteArray)) :=
 if s71 ≥ (IntKind.wrap .u64 a2) then
  chk ((IntKind.wrap .u64 a2) ≠ 0) >>= fun _ =>
  chk ((0 : Int) ≤ (IntKind.wrap .u64 (s71 - (IntKind.wrap .u64 ((IntKind.wrap .u64 (Int.tdiv s71 (IntKind.wrap .u64 a2))) * (IntKind.wrap .u64 a2))))) ∧ (IntKind.wrap .u64 (s71 - (IntKind.wrap .u64 ((IntKind.wrap .u64 (Int.tdiv s71 (IntKind.wrap .u64 a2))) * (IntKind.wrap .u64 a2))))) < (str0.size : Int)) >>= fun _ =>
  idx (some (pt b3 0)) 65 (IntKind.wrap .i64 (s72 - 1)) 1 >>= fun p83 =>
  st (cI .u8) p83 (sb str0 (IntKind.wrap .u64 (s71 - (IntKind.wrap .u64 ((IntKind.wrap .u64 (Int.tdiv s71 (IntKind.wrap .u64 a2))) * (IntKind.wrap .u64 a2)))))) >>= fun _ =>
  pure (LS.next (IntKind.wrap .u64 (Int.tdiv s71 (IntKind.wrap .u64 a2)), IntKind.wrap .i64 (s72 - 1)))
 else
  (Zaa.K3 a0 a3 a4 b3 s71 s72) >>= fun b => pure (LS.done b)
theorem Zaa.L2_ok (a0 : Sl) (a2 : Int) (a3 : Bool) (a4 : Bool) (b3 : Nat) : LJ Zaa.cx (Zaa.F2 a0 a2 a3 a4 b3) (fun s_ => Zaa.L2 a0 a2 a3 a4 b3 s_.1 s_.2) := by
 rintro ⟨s71, s72⟩
 show SJ _ _ _ _ (Zaa.L2 a0 a2 a3 a4 b3 s71 s72) _
 unfold Zaa.L2
 refine SJ.seq <| SJ.sr 3 <| J.z 3 <| J.f ?_ ?_
 ·exact SJ.skip <| SJ.block (id := 3) <| SJ.sr 3 <| J.z 3 <| SJ.sr 4 <| J.g 2 <| OJ.quo (d := 73) (T := 116) (yT := 116) (y := .tmp 71) (z := .tmp 72) (p := s71) (q := (IntKind.wrap .u64 a2)) (k := .u64) fun hq84 => J.z 1 <| SJ.sr 9 <| J.t 6 fun hb81 hb82 => OJ.idxA (d := 81) (T := 135) (y := .tmp 12) (j := .tmp 74) (E := 5) (k := .i64) fun p83 => J.w 0 Ty5 <| J.z 0 <| SJ.rg 2 <| J.z 2 <| SJ.inBlock <| J.o rfl
 ·exact SJ.exit (id := 2) (by rfl) <| J.q <| SJ.done <| Zaa.K3_ok a0 a3 a4 b3 s71 s72
noncomputable def Zaa.K4 (a0 : Sl) (a2 : Int) (a3 : Bool) (a4 : Bool) (b3 : Nat) (j4 : Int) : M (Sl × ByteArray) :=
 ZbY a2 >>= fun r5 =>
 if r5 = true then
  Zcb (IntKind.wrap .u64 a2) >>= fun r55 =>
  Zci (fun s_ : (Int × Int) => Zaa.L1 a0 a2 a3 a4 b3 r55 s_.1 s_.2) (j4, 65)
 else
  Zci (fun s_ : (Int × Int) => Zaa.L2 a0 a2 a3 a4 b3 s_.1 s_.2) (j4, 65)
theorem Zaa.K4_ok (a0 : Sl) (a2 : Int) (a3 : Bool) (a4 : Bool) (b3 : Nat) (j4 : Int) :
  SJ Zaa.cx [.code (c2 (c2 (c2 (c2 (c2 Zaa.B)))))] [(0, Sl.v a0), (1, .int .u64 j4), (2, .int .i64 a2), (3, .bool a3), (4, .bool a4), (10, Sl.v Sl.nil), (11, .string ByteArray.empty), (12, .pointer (some (pt b3 0))), (13, .int .i64 65)] [] (Zaa.K4 a0 a2 a3 a4 b3 j4) (rt Zaa.out) := by
 unfold Zaa.K4
 refine SJ.seq <| SJ.sr 2 <| J.C 1 F79 (Zfv _) fun r5 => J.z 0 <| J.f ?_ ?_
 ·exact SJ.sr 5 <| J.C 2 F80 (Zgd _) fun r55 => J.z 2 <| SJ.sr 3 <| J.z 3 <| SJ.sr 4 <| J.z 4 <| SJ.seq <| SJ.block (id := 0) <| J.L (Zaa.L1_ok a0 a2 a3 a4 b3 r55)
 ·exact SJ.sr 3 <| J.z 3 <| SJ.seq <| SJ.block (id := 2) <| J.L (Zaa.L2_ok a0 a2 a3 a4 b3)
noncomputable def Zaa (a0 : Sl) (a1 : Int) (a2 : Int) (a3 : Bool) (a4 : Bool) : M (Sl × ByteArray) :=
 (if a2 < 2 then
   pure true
  else
   pure (a2 == 10)) >>= fun y1 =>
 (if y1 = true then
   pure true
  else
   pure (decide (a2 > 36))) >>= fun y2 =>
 if y2 = true then
  fail
 else
  newv 135 ((cI .u8).arr 65) (Vec.rep 65 0) >>= fun b3 =>
  if a3 = true then
   Zaa.K4 a0 a2 a3 a4 b3 (IntKind.wrap .u64 (0 - a1))
  else
   Zaa.K4 a0 a2 a3 a4 b3 a1
theorem ZfW (a0 : Sl) (a1 : Int) (a2 : Int) (a3 : Bool) (a4 : Bool) : Ref Tryd.prog 68 [Sl.v a0, .int .u64 a1, .int .i64 a2, .bool a3, .bool a4] (Zaa a0 a1 a2 a3 a4) Zaa.out := by
 refine J.Fn Tryd.func68 ?_
 unfold Zaa
 refine SJ.sr 2 <| J.z 2 <| SJ.seq <| SJ.sr 10 <| J.j 3 2 .bool ?_ ?_ fun y1 => ?_
 ·exact J.e 3
 ·exact J.e 3
 ·refine J.j 1 2 .bool ?_ ?_ fun y2 => ?_
  ·exact J.e 3
  ·exact J.e 3
  ·refine J.z 0 <| J.f ?_ ?_
   ·exact SJ.rg 2 <| J.g 1 <| OJ.fail
   ·refine SJ.skip <| SJ.sr 1 <| J.A 0 ZtQ fun b3 => J.z 0 <| SJ.sr 1 <| J.z 1 <| SJ.seq <| SJ.sr 1 <| J.z 1 <| J.f ?_ ?_
    ·exact SJ.rg 3 <| J.z 3 <| J.q <| Zaa.K4_ok a0 a2 a3 a4 b3 (IntKind.wrap .u64 (0 - a1))
    ·exact SJ.skip <| J.q <| Zaa.K4_ok a0 a2 a3 a4 b3 a1

/-! ### internal/strconv.FormatInt: function 54 -/
noncomputable def ZaI.B : Code := bod Tryd.f54
noncomputable def ZaI.cx : Fx := ⟨Tryd.prog, 54, Tryd.f54, none⟩
noncomputable def ZaI.out (r_ : ByteArray) : Value := .string r_
noncomputable def ZaI.K1 (a0 : Int) (b21 : Nat) (j22 : Int) : M ByteArray :=
 ZbD j22 >>= fun r23 =>
 cut 1 ⟨some (pt b21 0), 24, 24⟩ (some 1) (some (IntKind.wrap .i64 (1 + r23))) none >>= fun r24 =>
 Zab r24 j22 >>= fun r25 =>
 if a0 < 0 then
  st (cI .u8) (pt b21 0) 45 >>= fun _ =>
  cut 1 ⟨some (pt b21 0), 24, 24⟩ none (some (IntKind.wrap .i64 (1 + r23))) none >>= fun r28 =>
  toStr r28 >>= fun r29 =>
  pure r29
 else
  cut 1 ⟨some (pt b21 0), 24, 24⟩ (some 1) (some (IntKind.wrap .i64 (1 + r23))) none >>= fun r30 =>
  toStr r30 >>= fun r31 =>
  pure r31
theorem ZaI.K1_ok (a0 : Int) (b21 : Nat) (j22 : Int) :
  SJ ZaI.cx [.code (c2 (c2 (c2 (c2 (c1 (c2 (c1 (c2 ZaI.B)))))))), .code (c2 (c2 ZaI.B))] [(0, .int .i64 a0), (5, .pointer (some (pt b21 0))), (6, .int .u64 j22)] [] (ZaI.K1 a0 b21 j22) (rt ZaI.out) := by
 unfold ZaI.K1
 refine SJ.sr 3 <| J.C 1 F66 (Zgu _) fun r23 => J.z 1 <| SJ.sr 5 <| J.g 2 <| OJ.cutA (d := 30) (t := 115) (E := 5) (y := .tmp 5) (lo := (some (.const (.int .i64 1)))) (hi := (some (.tmp 29))) (mx := none) (lo' := some (.i64, 1)) (hi' := some (.i64, IntKind.wrap .i64 (1 + r23))) (mx' := none) (fun h => by cases h) fun r24 => J.C 1 F67 (Zfw _ _) fun r25 => J.z 0 <| SJ.seq <| SJ.sr 2 <| J.z 2 <| J.f ?_ ?_
 ·exact SJ.sr 2 <| J.w 1 Ty5 <| J.z 0 <| SJ.sr 5 <| J.g 2 <| OJ.cutA (d := 38) (t := 115) (E := 5) (y := .tmp 5) (lo := none) (hi := (some (.tmp 37))) (mx := none) (lo' := none) (hi' := some (.i64, IntKind.wrap .i64 (1 + r23))) (mx' := none) (fun h => by cases h) fun r28 => OJ.toStr (d := 39) (t := 81) (u := 9) (E := 5) (x := .tmp 38) (owed := []) fun r29 => OW.nil <| J.z 1 <| J.r
 ·exact SJ.skip <| SJ.sr 5 <| J.g 2 <| OJ.cutA (d := 42) (t := 115) (E := 5) (y := .tmp 5) (lo := (some (.const (.int .i64 1)))) (hi := (some (.tmp 41))) (mx := none) (lo' := some (.i64, 1)) (hi' := some (.i64, IntKind.wrap .i64 (1 + r23))) (mx' := none) (fun h => by cases h) fun r30 => OJ.toStr (d := 43) (t := 81) (u := 9) (E := 5) (x := .tmp 42) (owed := []) fun r31 => OW.nil <| J.z 1 <| J.r
noncomputable def ZaI (a0 : Int) (a1 : Int) : M ByteArray :=
 if a1 = 10 then
  (if 0 ≤ a0 then
    pure (decide (a0 < 100))
   else
    pure false) >>= fun y18 =>
  if y18 = true then
   ZcW a0 >>= fun r20 =>
   pure r20
  else
   newv 115 ((cI .u8).arr 24) (Vec.rep 24 0) >>= fun b21 =>
   if a0 < 0 then
    ZaI.K1 a0 b21 (IntKind.wrap .u64 (0 - (IntKind.wrap .u64 a0)))
   else
    ZaI.K1 a0 b21 (IntKind.wrap .u64 a0)
 else
  Zaa Sl.nil (IntKind.wrap .u64 a0) a1 (decide (a0 < 0)) false >>= fun r35 =>
  pure r35.2
theorem Zer (a0 : Int) (a1 : Int) : Ref Tryd.prog 54 [.int .i64 a0, .int .i64 a1] (ZaI a0 a1) ZaI.out := by
 refine J.Fn Tryd.func54 ?_
 unfold ZaI
 refine SJ.sr 1 <| J.z 1 <| SJ.seq <| SJ.sr 2 <| J.z 2 <| J.f ?_ ?_
 ·refine SJ.seq <| SJ.sr 6 <| J.j 3 2 .bool ?_ ?_ fun y18 => ?_
  ·exact J.e 3
  ·exact J.e 3
  ·refine J.z 0 <| J.f ?_ ?_
   ·exact SJ.sr 3 <| J.C 1 F65 (Zir _) fun r20 => J.z 1 <| J.r
   ·refine SJ.skip <| SJ.sr 1 <| J.A 0 ZtS fun b21 => J.z 0 <| SJ.sr 3 <| J.z 3 <| SJ.seq <| SJ.sr 2 <| J.z 2 <| J.f ?_ ?_
    ·exact SJ.rg 3 <| J.z 3 <| J.q <| ZaI.K1_ok a0 b21 (IntKind.wrap .u64 (0 - (IntKind.wrap .u64 a0)))
    ·exact SJ.skip <| J.q <| ZaI.K1_ok a0 b21 (IntKind.wrap .u64 a0)
 ·exact SJ.skip <| SJ.sr 11 <| J.C 5 F68 (ZfW _ _ _ _ _) fun r35 => J.z 5 <| SJ.sr 2 <| J.z 2 <| J.r

/-! ### internal/strconv.Itoa: function 39 -/
noncomputable def Zdd.out (r_ : ByteArray) : Value := .string r_
noncomputable def Zdd (a0 : Int) : M ByteArray :=
 ZaI a0 10 >>= fun r1 =>
 pure r1
theorem ZiU (a0 : Int) : Ref Tryd.prog 39 [.int .i64 a0] (Zdd a0) Zdd.out := by
 refine J.Fn Tryd.func39 ?_
 unfold Zdd
 exact SJ.sr 1 <| J.z 1 <| SJ.sr 3 <| J.C 1 F54 (Zer _ _) fun r1 => J.z 1 <| J.r

/-! ### strconv.Itoa: function 25 -/
noncomputable def Zbl.out (r_ : ByteArray) : Value := .string r_
noncomputable def Zbl (a0 : Int) : M ByteArray :=
 Zdd a0 >>= fun r1 =>
 pure r1
theorem ZbJ (a0 : Int) : Ref Tryd.prog 25 [.int .i64 a0] (Zbl a0) Zbl.out := by
 refine J.Fn Tryd.func25 ?_
 unfold Zbl
 exact SJ.sr 1 <| J.z 1 <| SJ.sr 3 <| J.C 1 F39 (ZiU _) fun r1 => J.z 1 <| J.r

/-! ### weir/rules.protoName: function 40 -/
noncomputable def Zcq.out (r_ : ByteArray) : Value := .string r_
noncomputable def Zcq (a0 : Int) : M ByteArray :=
 if a0 = 6 then
  pure str4
 else
  if a0 = 17 then
   pure str5
  else
   if a0 = 1 then
    pure str6
   else
    if a0 = 58 then
     pure str7
    else
     pure ByteArray.empty
theorem Zhd (a0 : Int) : Ref Tryd.prog 40 [.int .i64 a0] (Zcq a0) Zcq.out := by
 refine J.Fn Tryd.func40 ?_
 unfold Zcq
 refine SJ.sr 1 <| J.z 1 <| SJ.seq <| SJ.sr 1 <| J.z 1 <| SJ.block (id := 0) <| SJ.sr 2 <| J.z 2 <| J.f ?_ ?_
 ·exact SJ.sr 1 <| J.z 1 <| J.r
 ·refine SJ.sr 2 <| J.z 2 <| J.f ?_ ?_
  ·exact SJ.sr 1 <| J.z 1 <| J.r
  ·refine SJ.sr 2 <| J.z 2 <| J.f ?_ ?_
   ·exact SJ.sr 1 <| J.z 1 <| J.r
   ·refine SJ.sr 2 <| J.z 2 <| J.f ?_ ?_
    ·exact SJ.sr 1 <| J.z 1 <| J.r
    ·exact SJ.skip <| SJ.inBlock <| SJ.sr 1 <| J.z 1 <| J.r

/-! ### weir/rules.what: function 26 -/
noncomputable def Zbt.B : Code := bod Tryd.f26
noncomputable def Zbt.cx : Fx := ⟨Tryd.prog, 26, Tryd.f26, none⟩
noncomputable def Zbt.out (r_ : ByteArray) : Value := .string r_
noncomputable def Zbt.K1 (a0 : Zap) (j5 : ByteArray) : M ByteArray :=
 Zcq a0.Proto >>= fun r6 =>
 if ¬ (r6.toList = ByteArray.empty.toList) then
  chk (((str8.size + r6.size : Nat) : Int) ≤ 9223372036854775807) >>= fun _ =>
  chk (((j5.size + (str8 ++ r6).size : Nat) : Int) ≤ 9223372036854775807) >>= fun _ =>
  pure (j5 ++ (str8 ++ r6))
 else
  if a0.Proto > 0 then
   Zbl a0.Proto >>= fun r14 =>
   chk (((str9.size + r14.size : Nat) : Int) ≤ 9223372036854775807) >>= fun _ =>
   chk (((j5.size + (str9 ++ r14).size : Nat) : Int) ≤ 9223372036854775807) >>= fun _ =>
   pure (j5 ++ (str9 ++ r14))
  else
   if a0.Kind = 0 then
    pure ZsT
   else
    pure j5
theorem Zbt.K1_ok (a0 : Zap) (b1 : Nat) (j5 : ByteArray) :
  SJ Zbt.cx [.code (c2 (c2 (c2 Zbt.B)))] [(1, .pointer (some (pt b1 0))), (3, .string j5)] [(b1, Zao.enc a0)] (Zbt.K1 a0 j5) (rt Zbt.out) := by
 unfold Zbt.K1
 refine SJ.sr 4 <| J.k 1 0 rfl Ty3 (Zbk _) <| J.C 0 F40 (Zhd _) fun r6 => J.z 1 <| SJ.seq <| SJ.block (id := 0) <| SJ.sr 3 <| J.z 3 <| J.f ?_ ?_
 ·exact SJ.rg 5 <| J.g 2 <| OJ.cat (d := 23) (T := 9) (yT := 9) (y := .const (.string str8)) (z := .tmp 22) (p := str8) (q := r6) <| OJ.cat (d := 24) (T := 9) (yT := 9) (y := .tmp 21) (z := .tmp 23) (p := j5) (q := (str8 ++ r6)) <| J.z 1 <| SJ.inBlock <| SJ.sr 2 <| J.z 2 <| J.r
 ·refine SJ.sr 4 <| J.k 1 0 rfl Ty3 (Zbk _) <| J.z 2 <| J.f ?_ ?_
  ·exact SJ.rg 7 <| J.k 2 0 rfl Ty3 (Zbk _) <| J.C 0 F25 (ZbJ _) fun r14 => OJ.cat (d := 33) (T := 9) (yT := 9) (y := .const (.string str9)) (z := .tmp 32) (p := str9) (q := r14) <| OJ.cat (d := 34) (T := 9) (yT := 9) (y := .tmp 29) (z := .tmp 33) (p := j5) (q := (str9 ++ r14)) <| J.z 1 <| SJ.inBlock <| SJ.sr 2 <| J.z 2 <| J.r
  ·refine SJ.sr 4 <| J.k 1 0 rfl Ty3 (ZbA _) <| J.z 2 <| J.f ?_ ?_
   ·exact SJ.rg 1 <| J.z 1 <| SJ.inBlock <| SJ.sr 2 <| J.z 2 <| J.r
   ·exact SJ.skip <| SJ.inBlock <| SJ.sr 2 <| J.z 2 <| J.r
noncomputable def Zbt (a0 : Zap) : M ByteArray :=
 slot 27 >>= fun b1 =>
 if a0.Kind > 0 then
  ld cL ⟨2, 0, none⟩ >>= fun x18 =>
  idx x18.a x18.len (IntKind.wrap .i64 (a0.Kind - 1)) 1 >>= fun p19 =>
  ld cS p19 >>= fun x20 =>
  chk (((str8.size + x20.size : Nat) : Int) ≤ 9223372036854775807) >>= fun _ =>
  Zbt.K1 a0 (str8 ++ x20)
 else
  Zbt.K1 a0 ByteArray.empty
theorem ZkT (a0 : Zap) : Ref Tryd.prog 26 [Zao.val a0] (Zbt a0) Zbt.out := by
 refine J.Fn Tryd.func26 ?_
 unfold Zbt
 refine SJ.sr 2 <| J.b 0 Zao a0 fun b1 => J.z 1 <| SJ.sr 1 <| J.z 1 <| SJ.seq <| SJ.sr 3 <| J.k 1 0 rfl Ty3 (ZbA _) <| J.z 1 <| J.f ?_ ?_
 ·exact SJ.rg 8 <| J.l 0 Ty65 fun x18 => J.k 1 0 rfl Ty3 (ZbA _) <| J.i 1 fun p19 => J.l 0 Ty9 fun x20 => OJ.cat (d := 14) (T := 9) (yT := 9) (y := .const (.string str8)) (z := .tmp 13) (p := str8) (q := x20) <| J.z 1 <| J.q <| Zbt.K1_ok a0 b1 (str8 ++ x20)
 ·exact SJ.skip <| J.q <| Zbt.K1_ok a0 b1 ByteArray.empty

/-! ### weir/addr.Valid: function 55 -/
noncomputable def Zd8.out (r_ : Bool) : Value := .bool r_
noncomputable def Zd8 (a0 : Za1) : M Bool :=
 slot 59 >>= fun b1 =>
 ZdW a0 >>= fun r2 =>
 pure (decide (r2 > 0))
theorem Zlp (a0 : Za1) : Ref Tryd.prog 55 [Za0.val a0] (Zd8 a0) Zd8.out := by
 refine J.Fn Tryd.func55 ?_
 unfold Zd8
 exact SJ.sr 2 <| J.b 0 Za0 a0 fun b1 => J.z 1 <| SJ.sr 4 <| J.k 0 0 rfl Ty59 (At.whole _) <| J.C 0 F52 (Zgf _) fun r2 => J.z 2 <| J.r

/-! ### (*strings.Builder).copyCheck: function 59 -/
noncomputable def Zbg.out (r_ : Unit) : Value := .tuple #[]
noncomputable def Zbg (a0 : (Option Addr)) : M Unit :=
 nilck a0 >>= fun p1 =>
 ld cP p1 >>= fun x2 =>
 if x2 = none then
  upOf a0 >>= fun r11 =>
  noesc r11 >>= fun r12 =>
  ptOf 83 2 r12 >>= fun r13 =>
  nilck a0 >>= fun p14 =>
  st cP p14 r13 >>= fun _ =>
  pure ()
 else
  nilck a0 >>= fun p15 =>
  ld cP p15 >>= fun x16 =>
  ptrEq x16 a0 >>= fun y17 =>
  if ¬ (y17 = true) then
   fail
  else
   pure ()
theorem Zc7 (a0 : (Option Addr)) : Ref Tryd.prog 59 [.pointer a0] (Zbg a0) Zbg.out := by
 refine J.Fn Tryd.func59 ?_
 unfold Zbg
 refine SJ.sr 5 <| J.n 1 fun p1 => J.l 1 Ty80 fun x2 => J.z 1 <| J.f ?_ ?_
 ·exact SJ.rg 8 <| J.g 2 <| OJ.upOf (d := 9) (t := 80) (u := 121) (E := 83) (x := .tmp 8) (p := a0) (owed := []) fun r11 => OW.nil <| OJ.ext (d := 10) (g := 70) (ats := #[121]) (args := [.tmp 9]) (out := fun r => .pointer r) (owed := []) Tryd.func70 ZpG fun r12 => OW.nil <| OJ.ptOf (d := 11) (t := 80) (u := 121) (E := 83) (T := 83) (n := 2) (x := .tmp 10) (p := r12) (owed := []) (by kernel_rfl) fun r13 => OW.nil <| J.n 0 fun p14 => J.w 1 Ty80 <| J.z 0 <| SJ.end_ rfl (Res.run (ys := []) .nil rfl)
 ·refine SJ.sr 6 <| J.n 1 fun p15 => J.l 1 Ty80 fun x16 => J.g 1 <| OJ.pneq (d := 19) (T := 80) (E := 83) (yT := 80) (y := .tmp 17) (z := .tmp 18) (p := x16) (q := a0) fun y17 => J.z 0 <| J.f ?_ ?_
  ·exact SJ.fail
  ·exact SJ.skip <| SJ.end_ rfl (Res.run (ys := []) .nil rfl)

/-! ### (*strings.Builder).grow: function 60 -/
noncomputable def ZbX.out (r_ : Unit) : Value := .tuple #[]
noncomputable def ZbX (a0 : (Option Addr)) (a1 : Int) : M Unit :=
 draw >>= fun _ =>
 nilck a0 >>= fun p1 =>
 ld cL (Addr.add p1 1) >>= fun x2 =>
 nilck a0 >>= fun p3 =>
 ld cL (Addr.add p3 1) >>= fun x4 =>
 mkNZ 5 (IntKind.wrap .i64 ((IntKind.wrap .i64 (2 * (x2.cap : Int))) + a1)) >>= fun r5 =>
 same cL (Addr.add p3 1) x4 >>= fun _ =>
 cut 1 r5 none (some (x4.len : Int)) none >>= fun r6 =>
 nilck a0 >>= fun p7 =>
 ld cL (Addr.add p7 1) >>= fun x8 =>
 cpyS (cI .u8) r6 x8 >>= fun r9 =>
 nilck a0 >>= fun p10 =>
 st cL (Addr.add p10 1) r6 >>= fun _ =>
 pure ()
theorem Zft (a0 : (Option Addr)) (a1 : Int) : Ref Tryd.prog 60 [.pointer a0, .int .i64 a1] (ZbX a0 a1) ZbX.out := by
 refine J.Fn Tryd.func60 ?_
 unfold ZbX
 exact SJ.seq <| J.D [0, 1, 2, 3, 4, 5, 6, 7, 9, 10, 11, 12, 8, 13, 14, 15] Zc3 <| J.n 1 fun p1 => J.l 1 Ty81 fun x2 => OJ.capS (d := 9) (so := .tmp 8) (t := 81) (E := 5) (s := x2) <| J.n 4 fun p3 => J.l 1 Ty81 fun x4 => OJ.ext (d := 13) (g := 71) (ats := #[3]) (args := [.tmp 12]) (out := Sl.v) (owed := [⟨12, 81, (Addr.add p3 1), cL.val x4⟩]) Tryd.func71 (Zq5 (t := 81) (E := 5) (ps := #[3]) (by kernel_rfl)) fun r5 => OW.same Ty81 <| OW.nil <| J.g 1 <| OJ.cut (d := 19) (t := 81) (E := 5) (y := .tmp 13) (lo := none) (hi := (some (.tmp 18))) (mx := none) (lo' := none) (hi' := some (.i64, (x4.len : Int))) (mx' := none) (fun h => by cases h) fun r6 => J.z 1 <| SJ.sr 6 <| J.n 2 fun p7 => J.l 1 Ty81 fun x8 => OJ.cpy1 (n := 25) (t := 81) (u := 81) (so := .tmp 20) (xo := .tmp 24) (owed := []) Ty5 fun r9 => OW.nil <| J.z 0 <| SJ.rg 5 <| J.n 2 fun p10 => J.w 1 Ty81 <| J.z 0 <| SJ.end_ rfl (Res.run (ys := []) .nil rfl)

/-! ### (*strings.Builder).Grow: function 43 -/
noncomputable def ZbG.out (r_ : Unit) : Value := .tuple #[]
noncomputable def ZbG (a0 : (Option Addr)) (a1 : Int) : M Unit :=
 Zbg a0 >>= fun r1 =>
 if a1 < 0 then
  fail
 else
  draw >>= fun _ =>
  nilck a0 >>= fun p2 =>
  ld cL (Addr.add p2 1) >>= fun x3 =>
  nilck a0 >>= fun p4 =>
  ld cL (Addr.add p4 1) >>= fun x5 =>
  if (IntKind.wrap .i64 ((x3.cap : Int) - (x5.len : Int))) < a1 then
   ZbX a0 a1 >>= fun r7 =>
   pure ()
  else
   pure ()
theorem Zfu (a0 : (Option Addr)) (a1 : Int) : Ref Tryd.prog 43 [.pointer a0, .int .i64 a1] (ZbG a0 a1) ZbG.out := by
 refine J.Fn Tryd.func43 ?_
 unfold ZbG
 refine SJ.sr 2 <| J.C 1 F59 (Zc7 _) fun r1 => J.z 0 <| SJ.seq <| SJ.sr 2 <| J.z 2 <| J.f ?_ ?_
 ·exact SJ.rg 2 <| J.g 1 <| OJ.fail
 ·refine SJ.skip <| SJ.seq <| J.R 13 Zc3 <| J.n 1 fun p2 => J.l 1 Ty81 fun x3 => OJ.capS (d := 13) (so := .tmp 12) (t := 81) (E := 5) (s := x3) <| J.n 1 fun p4 => J.l 1 Ty81 fun x5 => J.z 4 <| J.f ?_ ?_
  ·exact SJ.rg 3 <| J.C 2 F60 (Zft _ _) fun r7 => J.z 0 <| SJ.end_ rfl (Res.run (ys := []) .nil rfl)
  ·exact SJ.skip <| SJ.end_ rfl (Res.run (ys := []) .nil rfl)

/-! ### (*strings.Builder).WriteString: function 44 -/
noncomputable def Za2.out (r_ : (Int × Any)) : Value := .tuple #[.int .i64 r_.1, r_.2.v]
noncomputable def Za2 (a0 : (Option Addr)) (a1 : ByteArray) : M (Int × Any) :=
 Zbg a0 >>= fun r1 =>
 nilck a0 >>= fun p2 =>
 ld cL (Addr.add p2 1) >>= fun x3 =>
 appl (cI .u8) 5 1 0 x3 (strI a1) >>= fun r4 =>
 nilck a0 >>= fun p5 =>
 st cL (Addr.add p5 1) r4 >>= fun _ =>
 pure ((a1.size : Int), (⟨.nilIface, rfl⟩ : Any))
theorem Zb8 (a0 : (Option Addr)) (a1 : ByteArray) : Ref Tryd.prog 44 [.pointer a0, .string a1] (Za2 a0 a1) Za2.out := by
 refine J.Fn Tryd.func44 ?_
 unfold Za2
 exact SJ.sr 2 <| J.z 2 <| SJ.sr 2 <| J.C 1 F59 (Zc7 _) fun r1 => J.z 0 <| SJ.sr 10 <| J.n 2 fun p2 => J.l 1 Ty81 fun x3 => J.g 1 <| OJ.appT (d := 14) (t := 81) (u := 9) (so := .tmp 12) (xo := .tmp 13) (y := a1) (owed := []) Ty5 fun r4 => OW.nil <| J.n 0 fun p5 => J.w 1 Ty81 <| J.z 0 <| SJ.sr 4 <| J.z 4 <| J.r

/-! ### (*strings.Builder).String: function 45 -/
noncomputable def Zbu.out (r_ : ByteArray) : Value := .string r_
noncomputable def Zbu (a0 : (Option Addr)) : M ByteArray :=
 draw >>= fun _ =>
 nilck a0 >>= fun p1 =>
 ld cL (Addr.add p1 1) >>= fun x2 =>
 nilck a0 >>= fun p3 =>
 ld cL (Addr.add p3 1) >>= fun x4 =>
 sdata x2 >>= fun r5 =>
 same cL (Addr.add p3 1) x4 >>= fun _ =>
 ustr 5 r5 (x4.len : Int) >>= fun r6 =>
 pure r6
theorem Ze2 (a0 : (Option Addr)) : Ref Tryd.prog 45 [.pointer a0] (Zbu a0) Zbu.out := by
 refine J.Fn Tryd.func45 ?_
 unfold Zbu
 exact SJ.sr 1 <| J.z 1 <| SJ.seq <| J.D [0, 1, 2, 3, 5, 6, 7, 8, 4, 9, 10, 11] Zc3 <| J.n 1 fun p1 => J.l 1 Ty81 fun x2 => J.n 1 fun p3 => J.l 1 Ty81 fun x4 => OJ.sdata (d := 7) (t := 81) (x := .tmp 6) (s := x2) (owed := [⟨8, 81, (Addr.add p3 1), cL.val x4⟩]) fun r5 => OW.same Ty81 <| OW.nil <| J.g 1 <| OJ.ustr (d := 13) (t := 108) (t2 := 3) (E := 5) (x := .tmp 7) (y := .tmp 12) (p := r5) (n := (x4.len : Int)) (owed := []) fun r6 => OW.nil <| J.z 1 <| J.r

/-! ### strings.Join: function 28 -/
noncomputable def Zas.B : Code := bod Tryd.f28
noncomputable def Zas.cx : Fx := ⟨Tryd.prog, 28, Tryd.f28, none⟩
noncomputable def Zas.out (r_ : ByteArray) : Value := .string r_
noncomputable def Zas.F1 (a1 : ByteArray) (b19 : Nat) (r24 : Sl) : LF Int ByteArray := ⟨[.inBlock 3, .code (c2 (c2 (c2 (c2 (c2 (c2 (c2 (c2 (c2 Zas.B)))))))))], c1 (c2 (c1 (c2 (c2 (c2 (c2 (c2 (c2 (c2 (c2 Zas.B)))))))))), fun s_ => [(1, .string a1), (8, .pointer (some (pt b19 0))), (63, Sl.v r24), (64, .int .i64 (r24.len : Int)), (65, .int .i64 s_)], fun s_ => [], (rt Zas.out)⟩
noncomputable def Zas.L1 (a1 : ByteArray) (b19 : Nat) (r24 : Sl) (s25 : Int) : M (LS Int ByteArray) :=
 if s25 < (r24.len : Int) then
  idx r24.a r24.len s25 1 >>= fun p32 =>
  ld cS p32 >>= fun x33 =>
  Za2 (some (pt b19 0)) a1 >>= fun r34 =>
  Za2 (some (pt b19 0)) x33 >>= fun r35 =>
  pure (LS.next (IntKind.wrap .i64 (s25 + 1)))
 else
  Zbu (some (pt b19 0)) >>= fun r36 =>
  pure (LS.done r36)
theorem Zas.L1_ok (a1 : ByteArray) (b19 : Nat) (r24 : Sl) : LJ Zas.cx (Zas.F1 a1 b19 r24) (fun s_ => Zas.L1 a1 b19 r24 s_) := by
 rintro s25
 show SJ _ _ _ _ (Zas.L1 a1 b19 r24 s25) _
 unfold Zas.L1
 refine SJ.sr 1 <| J.z 1 <| SJ.seq <| J.f ?_ ?_
 ·exact SJ.skip <| SJ.seq <| SJ.block (id := 4) <| SJ.sr 3 <| J.i 0 fun p32 => J.l 0 Ty9 fun x33 => J.z 1 <| SJ.sr 2 <| J.C 1 F44 (Zb8 _ _) fun r34 => J.z 0 <| SJ.rg 2 <| J.C 1 F44 (Zb8 _ _) fun r35 => J.z 0 <| SJ.inBlock <| SJ.rg 2 <| J.z 2 <| J.o rfl
 ·exact SJ.exit (id := 3) (by rfl) <| SJ.sr 2 <| J.C 0 F45 (Ze2 _) fun r36 => J.z 1 <| J.r
noncomputable def Zas.K1 (a0 : Sl) (a1 : ByteArray) (s13 : Int) : M ByteArray :=
 newv 83 ZbE Zdj >>= fun b19 =>
 ZbG (some (pt b19 0)) s13 >>= fun r20 =>
 idx a0.a a0.len 0 1 >>= fun p21 =>
 ld cS p21 >>= fun x22 =>
 Za2 (some (pt b19 0)) x22 >>= fun r23 =>
 cut 1 a0 (some 1) none none >>= fun r24 =>
 Zci (fun s_ : Int => Zas.L1 a1 b19 r24 s_) 0
theorem Zas.K1_ok (a0 : Sl) (a1 : ByteArray) (s13 : Int) :
  SJ Zas.cx [.code (c2 (c2 (c2 (c2 (c2 Zas.B)))))] [(0, Sl.v a0), (1, .string a1), (5, .int .i64 s13)] [] (Zas.K1 a0 a1 s13) (rt Zas.out) := by
 unfold Zas.K1
 exact SJ.sr 1 <| J.A 0 Ty83 fun b19 => J.z 0 <| SJ.sr 2 <| J.C 1 F43 (Zfu _ _) fun r20 => J.z 0 <| SJ.sr 4 <| J.i 1 fun p21 => J.l 0 Ty9 fun x22 => J.C 0 F44 (Zb8 _ _) fun r23 => J.z 0 <| SJ.seq <| SJ.sr 4 <| J.g 1 <| OJ.cut (d := 63) (t := 65) (E := 9) (y := .tmp 62) (lo := (some (.const (.int .i64 1)))) (hi := none) (mx := none) (lo' := some (.i64, 1)) (hi' := none) (mx' := none) (fun h => by cases h) fun r24 => J.z 2 <| SJ.block (id := 3) <| J.L (Zas.L1_ok a1 b19 r24)
noncomputable def Zas.F2 (a0 : Sl) (a1 : ByteArray) : LF (Int × Int) ByteArray := ⟨[.inBlock 1, .code (c2 (c2 (c2 (c2 (c2 Zas.B)))))], c1 (c2 (c1 (c2 (c2 (c2 (c2 Zas.B)))))), fun s_ => [(0, Sl.v a0), (1, .string a1), (5, .int .i64 s_.1), (39, Sl.v a0), (40, .int .i64 (a0.len : Int)), (41, .int .i64 s_.2)], fun s_ => [], (rt Zas.out)⟩
noncomputable def Zas.L2 (a0 : Sl) (a1 : ByteArray) (s13 : Int) (s14 : Int) : M (LS (Int × Int) ByteArray) :=
 if s14 < (a0.len : Int) then
  idx a0.a a0.len s14 1 >>= fun p38 =>
  ld cS p38 >>= fun x39 =>
  if (x39.size : Int) > (IntKind.wrap .i64 (9223372036854775807 - s13)) then
   fail
  else
   pure (LS.next (IntKind.wrap .i64 (s13 + (x39.size : Int)), IntKind.wrap .i64 (s14 + 1)))
 else
  (Zas.K1 a0 a1 s13) >>= fun b => pure (LS.done b)
theorem Zas.L2_ok (a0 : Sl) (a1 : ByteArray) : LJ Zas.cx (Zas.F2 a0 a1) (fun s_ => Zas.L2 a0 a1 s_.1 s_.2) := by
 rintro ⟨s13, s14⟩
 show SJ _ _ _ _ (Zas.L2 a0 a1 s13 s14) _
 unfold Zas.L2
 refine SJ.sr 1 <| J.z 1 <| SJ.seq <| J.f ?_ ?_
 ·refine SJ.skip <| SJ.seq <| SJ.block (id := 2) <| SJ.sr 3 <| J.i 0 fun p38 => J.l 0 Ty9 fun x39 => J.z 1 <| SJ.seq <| SJ.sr 5 <| J.z 5 <| J.f ?_ ?_
  ·exact SJ.rg 2 <| J.g 1 <| OJ.fail
  ·exact SJ.skip <| SJ.rg 5 <| J.z 5 <| SJ.inBlock <| SJ.rg 2 <| J.z 2 <| J.o rfl
 ·exact SJ.exit (id := 1) (by rfl) <| J.q <| SJ.done <| Zas.K1_ok a0 a1 s13
noncomputable def Zas.K2 (a0 : Sl) (a1 : ByteArray) (j12 : Int) : M ByteArray :=
 Zci (fun s_ : (Int × Int) => Zas.L2 a0 a1 s_.1 s_.2) (j12, 0)
theorem Zas.K2_ok (a0 : Sl) (a1 : ByteArray) (j12 : Int) :
  SJ Zas.cx [.code (c2 (c2 (c2 (c2 Zas.B))))] [(0, Sl.v a0), (1, .string a1), (5, .int .i64 j12)] [] (Zas.K2 a0 a1 j12) (rt Zas.out) := by
 unfold Zas.K2
 exact SJ.seq <| SJ.sr 3 <| J.z 3 <| SJ.block (id := 1) <| J.L (Zas.L2_ok a0 a1)
noncomputable def Zas (a0 : Sl) (a1 : ByteArray) : M ByteArray :=
 if (a0.len : Int) = 0 then
  pure ByteArray.empty
 else
  if (a0.len : Int) = 1 then
   idx a0.a a0.len 0 1 >>= fun p8 =>
   ld cS p8 >>= fun x9 =>
   pure x9
  else
   if (a1.size : Int) > 0 then
    chk ((IntKind.wrap .i64 ((a0.len : Int) - 1)) ≠ 0) >>= fun _ =>
    if (a1.size : Int) ≥ (IntKind.wrap .i64 (Int.tdiv 9223372036854775807 (IntKind.wrap .i64 ((a0.len : Int) - 1)))) then
     fail
    else
     Zas.K2 a0 a1 (IntKind.wrap .i64 (0 + (IntKind.wrap .i64 ((a1.size : Int) * (IntKind.wrap .i64 ((a0.len : Int) - 1))))))
   else
    Zas.K2 a0 a1 0
theorem ZcL (a0 : Sl) (a1 : ByteArray) : Ref Tryd.prog 28 [Sl.v a0, .string a1] (Zas a0 a1) Zas.out := by
 refine J.Fn Tryd.func28 ?_
 unfold Zas
 refine SJ.sr 1 <| J.z 1 <| SJ.seq <| SJ.sr 2 <| J.z 2 <| SJ.block (id := 0) <| SJ.sr 2 <| J.z 2 <| J.f ?_ ?_
 ·exact SJ.sr 1 <| J.z 1 <| J.r
 ·refine SJ.sr 2 <| J.z 2 <| J.f ?_ ?_
  ·exact SJ.sr 4 <| J.i 1 fun p8 => J.l 0 Ty9 fun x9 => J.z 1 <| J.r
  ·refine SJ.skip <| SJ.inBlock <| SJ.sr 1 <| J.z 1 <| SJ.seq <| SJ.sr 3 <| J.z 3 <| J.f ?_ ?_
   ·refine SJ.seq <| SJ.sr 7 <| J.g 5 <| OJ.quo (d := 28) (T := 3) (yT := 3) (y := .const (.int .i64 9223372036854775807)) (z := .tmp 27) (p := 9223372036854775807) (q := (IntKind.wrap .i64 ((a0.len : Int) - 1))) (k := .i64) fun hq43 => J.z 1 <| J.f ?_ ?_
    ·exact SJ.rg 2 <| J.g 1 <| OJ.fail
    ·exact SJ.skip <| SJ.rg 9 <| J.z 9 <| J.q <| Zas.K2_ok a0 a1 (IntKind.wrap .i64 (0 + (IntKind.wrap .i64 ((a1.size : Int) * (IntKind.wrap .i64 ((a0.len : Int) - 1))))))
   ·exact SJ.skip <| J.q <| Zas.K2_ok a0 a1 0

/-! ### weir/addr.dotted: function 56 -/
noncomputable def Zbe.B : Code := bod Tryd.f56
noncomputable def Zbe.cx : Fx := ⟨Tryd.prog, 56, Tryd.f56, none⟩
noncomputable def Zbe.out (r_ : ByteArray) : Value := .string r_
noncomputable def Zbe.F1 (a0 : Sl) : LF (Sl × Int) ByteArray := ⟨[.inBlock 0, .code (c2 (c2 (c2 Zbe.B)))], c1 (c2 (c1 (c2 (c2 Zbe.B)))), fun s_ => [(3, Sl.v s_.1), (6, Sl.v a0), (7, .int .i64 (a0.len : Int)), (8, .int .i64 s_.2)], fun s_ => [], (rt Zbe.out)⟩
noncomputable def Zbe.L1 (a0 : Sl) (s1 : Sl) (s2 : Int) : M (LS (Sl × Int) ByteArray) :=
 if s2 < (a0.len : Int) then
  idx a0.a a0.len s2 1 >>= fun p10 =>
  ld (cI .u8) p10 >>= fun x11 =>
  Zbl (IntKind.wrap .i64 x11) >>= fun r12 =>
  slot 9 >>= fun b13 =>
  appl cS 9 16 ByteArray.empty s1 [r12] >>= fun r14 =>
  pure (LS.next (r14, IntKind.wrap .i64 (s2 + 1)))
 else
  Zas s1 ZsS >>= fun r15 =>
  pure (LS.done r15)
theorem Zbe.L1_ok (a0 : Sl) : LJ Zbe.cx (Zbe.F1 a0) (fun s_ => Zbe.L1 a0 s_.1 s_.2) := by
 rintro ⟨s1, s2⟩
 show SJ _ _ _ _ (Zbe.L1 a0 s1 s2) _
 unfold Zbe.L1
 refine SJ.sr 1 <| J.z 1 <| SJ.seq <| J.f ?_ ?_
 ·exact SJ.skip <| SJ.seq <| SJ.block (id := 1) <| SJ.sr 3 <| J.i 0 fun p10 => J.l 0 Ty5 fun x11 => J.z 1 <| SJ.rg 7 <| J.C 3 F25 (ZbJ _) fun r12 => OJ.rowSlot (d := 16) (t := 65) (parts := [(0, .tmp 15)]) (ps := [(0, cS.val r12)]) (cd := cS) (⟨[r12], rfl⟩ : Vec ByteArray 1) (owed := []) Ty9 (Zbj.cons (cd := cS) (q := r12) (o := 0) rfl (Upd.arr (i := 0) (by decide) (by decide)) Zbj.nil) fun b13 => OW.nil <| OJ.appl (d := 17) (t := 65) (u := 65) (so := .tmp 12) (xo := .tmp 16) (j := 0) (b := b13) (l := (cS.arr 1).enc (⟨[r12], rfl⟩ : Vec ByteArray 1)) (n := 1) (k := 1) [r12] (owed := []) Ty9 (by rfl) (Cod.arr_enc _ _ _) (by rfl) fun r14 => OW.nil <| J.z 1 <| SJ.inBlock <| SJ.rg 2 <| J.z 2 <| SJ.forget (List.Sublist.cons _ List.Sublist.slnil) <| J.o rfl
 ·exact SJ.exit (id := 0) (by rfl) <| SJ.sr 3 <| J.C 1 F28 (ZcL _ _) fun r15 => J.z 1 <| J.r
noncomputable def Zbe (a0 : Sl) : M ByteArray :=
 Zci (fun s_ : (Sl × Int) => Zbe.L1 a0 s_.1 s_.2) (Sl.nil, 0)
theorem ZgJ (a0 : Sl) : Ref Tryd.prog 56 [Sl.v a0] (Zbe a0) Zbe.out := by
 refine J.Fn Tryd.func56 ?_
 unfold Zbe
 exact SJ.sr 1 <| J.z 1 <| SJ.sr 1 <| J.z 1 <| SJ.seq <| SJ.sr 3 <| J.z 3 <| SJ.block (id := 0) <| J.L (Zbe.L1_ok a0)

/-! ### weir/addr.longest: function 57 -/
noncomputable def ZaK.B : Code := bod Tryd.f57
noncomputable def ZaK.cx : Fx := ⟨Tryd.prog, 57, Tryd.f57, none⟩
noncomputable def ZaK.out (r_ : (Int × Int)) : Value := .tuple #[.int .i64 r_.1, .int .i64 r_.2]
noncomputable def ZaK.F1 (a0 : (Vec Int 8)) (b1 : Nat) : LF (Int × Int × Int) (Int × Int) := ⟨[.inBlock 0, .code (c2 (c2 (c2 ZaK.B)))], c1 (c2 (c1 (c2 (c2 ZaK.B)))), fun s_ => [(1, .pointer (some (pt b1 0))), (4, .int .i64 s_.1), (5, .int .i64 s_.2.1), (8, .int .i64 s_.2.2)], fun s_ => [(b1, ((cI .i64).arr 8).enc a0)], (rt ZaK.out)⟩
noncomputable def ZaK.F2 (a0 : (Vec Int 8)) (b1 : Nat) (s2 : Int) (s3 : Int) (s4 : Int) : LF Int (LS (Int × Int × Int) (Int × Int)) := ⟨[.inBlock 2, .code (c2 (c2 (c2 (c1 (c1 (c2 (c2 (c1 (c1 (c2 (c1 (c2 (c2 ZaK.B))))))))))))), .inBlock 1, .code (c2 (c2 (c2 (c1 (c1 (c2 (c1 (c2 (c2 ZaK.B))))))))), .inLoop (c1 (c1 (c2 (c1 (c2 (c2 ZaK.B)))))), .inBlock 0, .code (c2 (c2 (c2 ZaK.B)))], c1 (c1 (c2 (c2 (c1 (c1 (c2 (c2 (c1 (c1 (c2 (c1 (c2 (c2 ZaK.B))))))))))))), fun s_ => [(1, .pointer (some (pt b1 0))), (4, .int .i64 s2), (5, .int .i64 s3), (8, .int .i64 s4), (6, .int .i64 s4), (7, .int .i64 s_)], fun s_ => [(b1, ((cI .i64).arr 8).enc a0)], (ZaK.F1 a0 b1).f⟩
noncomputable def ZaK.L2 (a0 : (Vec Int 8)) (s2 : Int) (s3 : Int) (s4 : Int) (s17 : Int) : M (LS Int (LS (Int × Int × Int) (Int × Int))) :=
 (if (IntKind.wrap .i64 (s4 + s17)) < 8 then
   chk ((0 : Int) ≤ (IntKind.wrap .i64 (s4 + s17)) ∧ (IntKind.wrap .i64 (s4 + s17)) < (8 : Nat)) >>= fun _ =>
   pure ((Vec.g a0 (IntKind.wrap .i64 (s4 + s17)) 0) == 0)
  else
   pure false) >>= fun y24 =>
 if y24 = true then
  pure (LS.next (IntKind.wrap .i64 (s17 + 1)))
 else
  if s17 > s3 then
   pure (LS.done (LS.next (s4, s17, IntKind.wrap .i64 (s4 + 1))))
  else
   pure (LS.done (LS.next (s2, s3, IntKind.wrap .i64 (s4 + 1))))
theorem ZaK.L2_ok (a0 : (Vec Int 8)) (b1 : Nat) (s2 : Int) (s3 : Int) (s4 : Int) : LJ ZaK.cx (ZaK.F2 a0 b1 s2 s3 s4) (fun s_ => ZaK.L2 a0 s2 s3 s4 s_) := by
 rintro s17
 show SJ _ _ _ _ (ZaK.L2 a0 s2 s3 s4 s17) _
 unfold ZaK.L2
 refine SJ.seq <| SJ.sr 12 <| J.j 5 6 .bool ?_ ?_ fun y24 => ?_
 ·exact J.y 3 fun hb22 hb23 => J.k 0 0 rfl Ty3 (At.zero (At.arr (z := 0) hb22 hb23)) <| J.e 2
 ·exact J.e 7
 ·refine J.z 0 <| J.f ?_ ?_
  ·exact SJ.skip <| SJ.block (id := 3) <| SJ.rg 3 <| J.z 3 <| SJ.inBlock <| J.o rfl
  ·refine SJ.exit (id := 2) (by rfl) <| SJ.sr 3 <| J.z 3 <| J.f ?_ ?_
   ·exact SJ.rg 4 <| J.z 4 <| SJ.inBlock <| SJ.rg 2 <| J.z 2 <| J.o rfl
   ·exact SJ.skip <| SJ.inBlock <| SJ.rg 2 <| J.z 2 <| J.o rfl
noncomputable def ZaK.L1 (a0 : (Vec Int 8)) (s2 : Int) (s3 : Int) (s4 : Int) : M (LS (Int × Int × Int) (Int × Int)) :=
 if s4 < 8 then
  Zci (fun s_ : Int => ZaK.L2 a0 s2 s3 s4 s_) 0
 else
  pure (LS.done (s2, s3))
theorem ZaK.L1_ok (a0 : (Vec Int 8)) (b1 : Nat) : LJ ZaK.cx (ZaK.F1 a0 b1) (fun s_ => ZaK.L1 a0 s_.1 s_.2.1 s_.2.2) := by
 rintro ⟨s2, s3, s4⟩
 show SJ _ _ _ _ (ZaK.L1 a0 s2 s3 s4) _
 unfold ZaK.L1
 refine SJ.sr 1 <| J.z 1 <| SJ.seq <| J.f ?_ ?_
 ·exact SJ.skip <| SJ.seq <| SJ.block (id := 1) <| SJ.sr 2 <| J.z 2 <| SJ.sr 1 <| J.z 1 <| SJ.seq <| SJ.block (id := 2) <| J.L (ZaK.L2_ok a0 b1 s2 s3 s4)
 ·exact SJ.exit (id := 0) (by rfl) <| SJ.sr 4 <| J.z 4 <| J.r
noncomputable def ZaK (a0 : (Vec Int 8)) : M (Int × Int) :=
 slot 103 >>= fun b1 =>
 Zci (fun s_ : (Int × Int × Int) => ZaK.L1 a0 s_.1 s_.2.1 s_.2.2) ((-1), 1, 0)
theorem ZjD (a0 : (Vec Int 8)) : Ref Tryd.prog 57 [((cI .i64).arr 8).val a0] (ZaK a0) ZaK.out := by
 refine J.Fn Tryd.func57 ?_
 unfold ZaK
 exact SJ.sr 3 <| J.b 0 ((cI .i64).arr 8) a0 fun b1 => J.z 2 <| SJ.sr 2 <| J.z 2 <| SJ.seq <| SJ.sr 1 <| J.z 1 <| SJ.block (id := 0) <| J.L (ZaK.L1_ok a0 b1)

/-! ### strconv.FormatInt: function 69 -/
noncomputable def ZbU.out (r_ : ByteArray) : Value := .string r_
noncomputable def ZbU (a0 : Int) (a1 : Int) : M ByteArray :=
 ZaI a0 a1 >>= fun r1 =>
 pure r1
theorem ZfX (a0 : Int) (a1 : Int) : Ref Tryd.prog 69 [.int .i64 a0, .int .i64 a1] (ZbU a0 a1) ZbU.out := by
 refine J.Fn Tryd.func69 ?_
 unfold ZbU
 exact SJ.sr 1 <| J.z 1 <| SJ.sr 4 <| J.C 2 F54 (Zer _ _) fun r1 => J.z 1 <| J.r

/-! ### weir/addr.colons: function 58 -/
noncomputable def Za7.B : Code := bod Tryd.f58
noncomputable def Za7.cx : Fx := ⟨Tryd.prog, 58, Tryd.f58, none⟩
noncomputable def Za7.out (r_ : ByteArray) : Value := .string r_
noncomputable def Za7.F1 (a0 : Sl) : LF (Sl × Int) ByteArray := ⟨[.inBlock 0, .code (c2 (c2 (c2 Za7.B)))], c1 (c2 (c1 (c2 (c2 Za7.B)))), fun s_ => [(3, Sl.v s_.1), (6, Sl.v a0), (7, .int .i64 (a0.len : Int)), (8, .int .i64 s_.2)], fun s_ => [], (rt Za7.out)⟩
noncomputable def Za7.L1 (a0 : Sl) (s1 : Sl) (s2 : Int) : M (LS (Sl × Int) ByteArray) :=
 if s2 < (a0.len : Int) then
  idx a0.a a0.len s2 1 >>= fun p10 =>
  ld (cI .i64) p10 >>= fun x11 =>
  ZbU x11 16 >>= fun r12 =>
  slot 9 >>= fun b13 =>
  appl cS 9 16 ByteArray.empty s1 [r12] >>= fun r14 =>
  pure (LS.next (r14, IntKind.wrap .i64 (s2 + 1)))
 else
  Zas s1 Zr2 >>= fun r15 =>
  pure (LS.done r15)
theorem Za7.L1_ok (a0 : Sl) : LJ Za7.cx (Za7.F1 a0) (fun s_ => Za7.L1 a0 s_.1 s_.2) := by
 rintro ⟨s1, s2⟩
 show SJ _ _ _ _ (Za7.L1 a0 s1 s2) _
 unfold Za7.L1
 refine SJ.sr 1 <| J.z 1 <| SJ.seq <| J.f ?_ ?_
 ·exact SJ.skip <| SJ.seq <| SJ.block (id := 1) <| SJ.sr 3 <| J.i 0 fun p10 => J.l 0 Ty3 fun x11 => J.z 1 <| SJ.rg 6 <| J.C 2 F69 (ZfX _ _) fun r12 => OJ.rowSlot (d := 15) (t := 65) (parts := [(0, .tmp 14)]) (ps := [(0, cS.val r12)]) (cd := cS) (⟨[r12], rfl⟩ : Vec ByteArray 1) (owed := []) Ty9 (Zbj.cons (cd := cS) (q := r12) (o := 0) rfl (Upd.arr (i := 0) (by decide) (by decide)) Zbj.nil) fun b13 => OW.nil <| OJ.appl (d := 16) (t := 65) (u := 65) (so := .tmp 12) (xo := .tmp 15) (j := 0) (b := b13) (l := (cS.arr 1).enc (⟨[r12], rfl⟩ : Vec ByteArray 1)) (n := 1) (k := 1) [r12] (owed := []) Ty9 (by rfl) (Cod.arr_enc _ _ _) (by rfl) fun r14 => OW.nil <| J.z 1 <| SJ.inBlock <| SJ.rg 2 <| J.z 2 <| SJ.forget (List.Sublist.cons _ List.Sublist.slnil) <| J.o rfl
 ·exact SJ.exit (id := 0) (by rfl) <| SJ.sr 3 <| J.C 1 F28 (ZcL _ _) fun r15 => J.z 1 <| J.r
noncomputable def Za7 (a0 : Sl) : M ByteArray :=
 Zci (fun s_ : (Sl × Int) => Za7.L1 a0 s_.1 s_.2) (Sl.nil, 0)
theorem Ze9 (a0 : Sl) : Ref Tryd.prog 58 [Sl.v a0] (Za7 a0) Za7.out := by
 refine J.Fn Tryd.func58 ?_
 unfold Za7
 exact SJ.sr 1 <| J.z 1 <| SJ.sr 1 <| J.z 1 <| SJ.seq <| SJ.sr 3 <| J.z 3 <| SJ.block (id := 0) <| J.L (Za7.L1_ok a0)

/-! ### weir/addr.PrintIP: function 42 -/
noncomputable def ZaP.B : Code := bod Tryd.f42
noncomputable def ZaP.cx : Fx := ⟨Tryd.prog, 42, Tryd.f42, none⟩
noncomputable def ZaP.out (r_ : (ByteArray × Int)) : Value := .tuple #[.string r_.1, .int .i64 r_.2]
noncomputable def ZaP.K1 (b46 : Nat) : M (ByteArray × Int) :=
 ld ((cI .i64).arr 8) (pt b46 0) >>= fun x54 =>
 ZaK x54 >>= fun r55 =>
 if r55.1 < 0 then
  cut 1 ⟨some (pt b46 0), 8, 8⟩ none none none >>= fun r58 =>
  Za7 r58 >>= fun r59 =>
  pure (r59, 0)
 else
  draw >>= fun _ =>
  cut 1 ⟨some (pt b46 0), 8, 8⟩ none (some r55.1) none >>= fun r60 =>
  Za7 r60 >>= fun r61 =>
  chk (((r61.size + ZhK.size : Nat) : Int) ≤ 9223372036854775807) >>= fun _ =>
  cut 1 ⟨some (pt b46 0), 8, 8⟩ (some (IntKind.wrap .i64 (r55.1 + r55.2))) none none >>= fun r62 =>
  Za7 r62 >>= fun r63 =>
  chk ((((r61 ++ ZhK).size + r63.size : Nat) : Int) ≤ 9223372036854775807) >>= fun _ =>
  pure (((r61 ++ ZhK) ++ r63), 0)
theorem ZaP.K1_ok (b46 : Nat) :
  SJ ZaP.cx [.code (c2 (c2 (c2 (c2 ZaP.B))))] [(4, .pointer (some (pt b46 0)))] [] (ZaP.K1 b46) (rt ZaP.out) := by
 unfold ZaP.K1
 refine SJ.sr 7 <| J.l 0 Ztr fun x54 => J.C 0 F57 (ZjD _) fun r55 => J.z 5 <| SJ.seq <| SJ.sr 2 <| J.z 2 <| J.f ?_ ?_
 ·exact SJ.sr 4 <| OJ.cutA (d := 58) (t := 103) (E := 3) (y := .tmp 4) (lo := none) (hi := none) (mx := none) (lo' := none) (hi' := none) (mx' := none) (fun h => by cases h) fun r58 => J.C 0 F58 (Ze9 _) fun r59 => J.z 2 <| J.r
 ·exact SJ.skip <| SJ.seq <| J.R 12 Zc3 <| J.g 1 <| OJ.cutA (d := 61) (t := 103) (E := 3) (y := .tmp 4) (lo := none) (hi := (some (.tmp 60))) (mx := none) (lo' := none) (hi' := some (.i64, r55.1)) (mx' := none) (fun h => by cases h) fun r60 => J.C 0 F58 (Ze9 _) fun r61 => OJ.cat (d := 63) (T := 9) (yT := 9) (y := .tmp 62) (z := .const (.string ZhK)) (p := r61) (q := ZhK) <| J.g 3 <| OJ.cutA (d := 67) (t := 103) (E := 3) (y := .tmp 4) (lo := (some (.tmp 66))) (hi := none) (mx := none) (lo' := some (.i64, IntKind.wrap .i64 (r55.1 + r55.2))) (hi' := none) (mx' := none) (fun h => by cases h) fun r62 => J.C 0 F58 (Ze9 _) fun r63 => OJ.cat (d := 69) (T := 9) (yT := 9) (y := .tmp 63) (z := .tmp 68) (p := (r61 ++ ZhK)) (q := r63) <| J.z 2 <| J.r
noncomputable def ZaP.F1 (b1 : Nat) (b46 : Nat) : LF Int (ByteArray × Int) := ⟨[.inBlock 1, .code (c2 (c2 (c2 (c2 ZaP.B))))], c1 (c2 (c1 (c2 (c2 (c2 ZaP.B))))), fun s_ => [(1, .pointer (some (pt b1 0))), (4, .pointer (some (pt b46 0))), (30, .int .i64 s_)], fun s_ => [], (rt ZaP.out)⟩
noncomputable def ZaP.L1 (b1 : Nat) (b46 : Nat) (s47 : Int) : M (LS Int (ByteArray × Int)) :=
 if s47 < 8 then
  draw >>= fun _ =>
  idx (some (Addr.add (pt b1 0) 1)) 16 (IntKind.wrap .i64 (2 * s47)) 1 >>= fun p65 =>
  ld (cI .u8) p65 >>= fun x66 =>
  idx (some (Addr.add (pt b1 0) 1)) 16 (IntKind.wrap .i64 ((IntKind.wrap .i64 (2 * s47)) + 1)) 1 >>= fun p67 =>
  ld (cI .u8) p67 >>= fun x68 =>
  idx (some (pt b46 0)) 8 s47 1 >>= fun p69 =>
  st (cI .i64) p69 (bor .i64 (IntKind.wrap .i64 ((IntKind.wrap .i64 x66) * 2 ^ 8)) (IntKind.wrap .i64 x68)) >>= fun _ =>
  pure (LS.next (IntKind.wrap .i64 (s47 + 1)))
 else
  (ZaP.K1 b46) >>= fun b => pure (LS.done b)
theorem ZaP.L1_ok (b1 : Nat) (b46 : Nat) : LJ ZaP.cx (ZaP.F1 b1 b46) (fun s_ => ZaP.L1 b1 b46 s_) := by
 rintro s47
 show SJ _ _ _ _ (ZaP.L1 b1 b46 s47) _
 unfold ZaP.L1
 refine SJ.sr 1 <| J.z 1 <| SJ.seq <| J.f ?_ ?_
 ·exact SJ.skip <| SJ.seq <| SJ.block (id := 2) <| SJ.sr 2 <| J.z 2 <| J.R 18 Zc3 <| J.g 4 <| OJ.idxA (d := 37) (T := 57) (y := .tmp 36) (j := .tmp 35) (E := 5) (k := .i64) fun p65 => J.l 0 Ty5 fun x66 => J.g 6 <| OJ.idxA (d := 45) (T := 57) (y := .tmp 44) (j := .tmp 43) (E := 5) (k := .i64) fun p67 => J.l 0 Ty5 fun x68 => J.g 2 <| OJ.idxA (d := 49) (T := 103) (y := .tmp 4) (j := .tmp 33) (E := 3) (k := .i64) fun p69 => J.w 0 Ty3 <| J.z 0 <| SJ.inBlock <| SJ.rg 2 <| J.z 2 <| J.o rfl
 ·exact SJ.exit (id := 1) (by rfl) <| J.q <| SJ.done <| ZaP.K1_ok b46
noncomputable def ZaP (a0 : Za1) : M (ByteArray × Int) :=
 newv 59 Za0 a0 >>= fun b1 =>
 ld Za0 (pt b1 0) >>= fun x2 =>
 Zd8 x2 >>= fun r3 =>
 if ¬ (r3 = true) then
  pure (ByteArray.empty, 40)
 else
  ld (cI .i64) (pt b1 0) >>= fun x26 =>
  if x26 = 4 then
   cut 1 ⟨some (Addr.add (pt b1 0) 1), 16, 16⟩ none (some 4) none >>= fun r37 =>
   Zbe r37 >>= fun r38 =>
   pure (r38, 0)
  else
   cut 1 ⟨some (Addr.add (pt b1 0) 1), 16, 16⟩ none (some 12) none >>= fun r39 =>
   (chk (12 ≤ r39.len) >>= fun _ => nilck r39.a) >>= fun p40 =>
   ld ((cI .u8).arr 12) p40 >>= fun x41 =>
   if x41 = (⟨[0, 0, 0, 0, 0, 0, 0, 0, 0, 0, 255, 255], rfl⟩ : (Vec Int 12)) then
    cut 1 ⟨some (Addr.add (pt b1 0) 1), 16, 16⟩ (some 12) none none >>= fun r44 =>
    Zbe r44 >>= fun r45 =>
    chk (((Zol.size + r45.size : Nat) : Int) ≤ 9223372036854775807) >>= fun _ =>
    pure ((Zol ++ r45), 0)
   else
    newv 103 ((cI .i64).arr 8) (Vec.rep 8 0) >>= fun b46 =>
    Zci (fun s_ : Int => ZaP.L1 b1 b46 s_) 0
theorem Zgg (a0 : Za1) : Ref Tryd.prog 42 [Za0.val a0] (ZaP a0) ZaP.out := by
 refine J.Fn Tryd.func42 ?_
 unfold ZaP
 refine SJ.sr 3 <| J.B 0 fun b1 => J.z 2 <| SJ.seq <| SJ.block (id := 0) <| SJ.sr 4 <| J.l 0 Ty59 fun x2 => J.C 0 F55 (Zlp _) fun r3 => J.z 2 <| J.f ?_ ?_
 ·exact SJ.sr 2 <| J.z 2 <| J.r
 ·refine SJ.sr 4 <| J.l 1 Ty3 fun x26 => J.z 2 <| J.f ?_ ?_
  ·exact SJ.sr 5 <| J.g 1 <| OJ.cutA (d := 17) (t := 57) (E := 5) (y := .tmp 16) (lo := none) (hi := (some (.const (.int .i64 4)))) (mx := none) (lo' := none) (hi' := some (.i64, 4)) (mx' := none) (fun h => by cases h) fun r37 => J.C 0 F56 (ZgJ _) fun r38 => J.z 2 <| J.r
  ·refine SJ.sr 7 <| J.g 1 <| OJ.cutA (d := 21) (t := 57) (E := 5) (y := .tmp 20) (lo := none) (hi := (some (.const (.int .i64 12)))) (mx := none) (lo' := none) (hi' := some (.i64, 12)) (mx' := none) (fun h => by cases h) fun r39 => OJ.toArr (d := 22) (t := 102) (E := 5) (y := .tmp 21) (s := r39) fun p40 => J.l 0 Zrz fun x41 => OJ.build (d := 24) (T := 102) (parts := [(10, .const (.int .u8 255)), (11, .const (.int .u8 255))]) (ps := [(10, (cI .u8).val 255), (11, (cI .u8).val 255)]) (cd := ((cI .u8).arr 12)) (z0 := (Vec.rep 12 0)) (⟨[0, 0, 0, 0, 0, 0, 0, 0, 0, 0, 255, 255], rfl⟩ : (Vec Int 12)) Zrz rfl (Zbj.cons (cd := (cI .u8)) (q := 255) (o := 10) (by kernel_rfl) (Upd.arr (i := 10) (by decide) (by decide)) (Zbj.cons (cd := (cI .u8)) (q := 255) (o := 11) (by kernel_rfl) (Upd.arr (i := 11) (by decide) (by decide)) Zbj.nil)) <| OJ.eql (d := 25) (T := 102) (yT := 102) (y := .tmp 23) (z := .tmp 24) (cd := ((cI .u8).arr 12)) (p := x41) (q := (⟨[0, 0, 0, 0, 0, 0, 0, 0, 0, 0, 255, 255], rfl⟩ : (Vec Int 12))) rfl Ztv <| J.z 1 <| J.f ?_ ?_
   ·exact SJ.sr 6 <| J.g 1 <| OJ.cutA (d := 27) (t := 57) (E := 5) (y := .tmp 26) (lo := (some (.const (.int .i64 12)))) (hi := none) (mx := none) (lo' := some (.i64, 12)) (hi' := none) (mx' := none) (fun h => by cases h) fun r44 => J.C 0 F56 (ZgJ _) fun r45 => OJ.cat (d := 29) (T := 9) (yT := 9) (y := .const (.string Zol)) (z := .tmp 28) (p := Zol) (q := r45) <| J.z 2 <| J.r
   ·exact SJ.skip <| SJ.inBlock <| SJ.sr 1 <| J.A 0 Ztr fun b46 => J.z 0 <| SJ.seq <| SJ.sr 1 <| J.z 1 <| SJ.block (id := 1) <| J.L (ZaP.L1_ok b1 b46)

/-! ### weir/addr.PrintPrefix: function 41 -/
noncomputable def Zcf.out (r_ : (ByteArray × Int)) : Value := .tuple #[.string r_.1, .int .i64 r_.2]
noncomputable def Zcf (a0 : Zak) : M (ByteArray × Int) :=
 slot 61 >>= fun b1 =>
 ZbK a0 >>= fun r2 =>
 if r2 ≠ 0 then
  pure (ByteArray.empty, r2)
 else
  ZaP a0.IP >>= fun r3 =>
  chk (((r3.1.size + ZkN.size : Nat) : Int) ≤ 9223372036854775807) >>= fun _ =>
  Zbl a0.Len >>= fun r4 =>
  chk ((((r3.1 ++ ZkN).size + r4.size : Nat) : Int) ≤ 9223372036854775807) >>= fun _ =>
  pure (((r3.1 ++ ZkN) ++ r4), 0)
theorem Zg2 (a0 : Zak) : Ref Tryd.prog 41 [Zau.val a0] (Zcf a0) Zcf.out := by
 refine J.Fn Tryd.func41 ?_
 unfold Zcf
 refine SJ.sr 3 <| J.b 0 Zau a0 fun b1 => J.z 2 <| SJ.seq <| SJ.sr 3 <| J.k 0 0 rfl Ty61 (At.whole _) <| J.C 0 F38 (ZdB _) fun r2 => J.z 1 <| SJ.sr 2 <| J.z 2 <| J.f ?_ ?_
 ·exact SJ.sr 3 <| J.z 3 <| J.r
 ·exact SJ.skip <| SJ.sr 8 <| J.k 1 0 rfl Ty59 (ZbB _) <| J.C 0 F42 (Zgg _) fun r3 => J.z 5 <| SJ.sr 8 <| J.g 1 <| OJ.cat (d := 19) (T := 9) (yT := 9) (y := .tmp 18) (z := .const (.string ZkN)) (p := r3.1) (q := ZkN) <| J.k 1 0 rfl Ty3 (ZbS _) <| J.C 0 F25 (ZbJ _) fun r4 => OJ.cat (d := 23) (T := 9) (yT := 9) (y := .tmp 19) (z := .tmp 22) (p := (r3.1 ++ ZkN)) (q := r4) <| J.z 2 <| J.r

/-! ### weir/rules.side: function 27 -/
noncomputable def Zar.B : Code := bod Tryd.f27
noncomputable def Zar.cx : Fx := ⟨Tryd.prog, 27, Tryd.f27, none⟩
noncomputable def Zar.out (r_ : ByteArray) : Value := .string r_
noncomputable def Zar.K1 (s18 : Sl) (j38 : ByteArray) : M ByteArray :=
 if (s18.len : Int) > 0 then
  Zas s18 ZiV >>= fun r40 =>
  chk (((ZmO.size + r40.size : Nat) : Int) ≤ 9223372036854775807) >>= fun _ =>
  chk (((j38.size + (ZmO ++ r40).size : Nat) : Int) ≤ 9223372036854775807) >>= fun _ =>
  pure (j38 ++ (ZmO ++ r40))
 else
  pure j38
theorem Zar.K1_ok (s18 : Sl) (j38 : ByteArray) :
  SJ Zar.cx [.inBlock 4, .code (c2 (c2 (c2 (c2 (c2 (c2 (c2 Zar.B)))))))] [(6, Sl.v s18), (14, .string j38)] [] (Zar.K1 s18 j38) (rt Zar.out) := by
 unfold Zar.K1
 refine SJ.inBlock <| SJ.seq <| SJ.sr 3 <| J.z 3 <| J.f ?_ ?_
 ·exact SJ.rg 6 <| J.C 2 F28 (ZcL _ _) fun r40 => OJ.cat (d := 113) (T := 9) (yT := 9) (y := .const (.string ZmO)) (z := .tmp 112) (p := ZmO) (q := r40) <| OJ.cat (d := 114) (T := 9) (yT := 9) (y := .tmp 110) (z := .tmp 113) (p := j38) (q := (ZmO ++ r40)) <| J.z 1 <| SJ.sr 2 <| J.z 2 <| J.r
 ·exact SJ.skip <| SJ.sr 2 <| J.z 2 <| J.r
noncomputable def Zar.K2 (s18 : Sl) (j44 : ByteArray) : M ByteArray :=
 Zar.K1 s18 j44
theorem Zar.K2_ok (s18 : Sl) (j44 : ByteArray) :
  SJ Zar.cx [.inBlock 4, .code (c2 (c2 (c2 (c2 (c2 (c2 (c2 Zar.B)))))))] [(6, Sl.v s18), (14, .string j44)] [] (Zar.K2 s18 j44) (rt Zar.out) := by
 unfold Zar.K2
 exact J.q <| Zar.K1_ok s18 j44
noncomputable def Zar.K3 (a0 : ByteArray) (a1 : Zan) (s2 : Sl) (s18 : Sl) : M ByteArray :=
 chk (((str8.size + a0.size : Nat) : Int) ≤ 9223372036854775807) >>= fun _ =>
 chk ((((str8 ++ a0).size + str8.size : Nat) : Int) ≤ 9223372036854775807) >>= fun _ =>
 if (s2.len : Int) = 0 then
  chk (((((str8 ++ a0) ++ str8).size + ZkM.size : Nat) : Int) ≤ 9223372036854775807) >>= fun _ =>
  Zar.K1 s18 (((str8 ++ a0) ++ str8) ++ ZkM)
 else
  if a1.Not = true then
   Zas s2 ZiV >>= fun r45 =>
   chk (((ZlH.size + r45.size : Nat) : Int) ≤ 9223372036854775807) >>= fun _ =>
   chk (((((str8 ++ a0) ++ str8).size + (ZlH ++ r45).size : Nat) : Int) ≤ 9223372036854775807) >>= fun _ =>
   Zar.K2 s18 (((str8 ++ a0) ++ str8) ++ (ZlH ++ r45))
  else
   Zas s2 ZiV >>= fun r46 =>
   chk (((((str8 ++ a0) ++ str8).size + r46.size : Nat) : Int) ≤ 9223372036854775807) >>= fun _ =>
   Zar.K2 s18 (((str8 ++ a0) ++ str8) ++ r46)
theorem Zar.K3_ok (a0 : ByteArray) (a1 : Zan) (b1 : Nat) (s2 : Sl) (s18 : Sl) :
  SJ Zar.cx [.code (c2 (c2 (c2 (c2 (c2 Zar.B)))))] [(0, .string a0), (3, .pointer (some (pt b1 0))), (5, Sl.v s2), (6, Sl.v s18)] [(b1, ZaF.enc a1)] (Zar.K3 a0 a1 s2 s18) (rt Zar.out) := by
 unfold Zar.K3
 refine SJ.sr 4 <| J.g 1 <| OJ.cat (d := 87) (T := 9) (yT := 9) (y := .const (.string str8)) (z := .tmp 86) (p := str8) (q := a0) <| OJ.cat (d := 88) (T := 9) (yT := 9) (y := .tmp 87) (z := .const (.string str8)) (p := (str8 ++ a0)) (q := str8) <| J.z 1 <| SJ.seq <| SJ.block (id := 4) <| SJ.sr 4 <| J.z 4 <| J.f ?_ ?_
 ·exact SJ.rg 3 <| J.g 1 <| OJ.cat (d := 98) (T := 9) (yT := 9) (y := .tmp 97) (z := .const (.string ZkM)) (p := ((str8 ++ a0) ++ str8)) (q := ZkM) <| J.z 1 <| SJ.forget (List.Sublist.cons _ List.Sublist.slnil) <| J.q <| Zar.K1_ok s18 (((str8 ++ a0) ++ str8) ++ ZkM)
 ·refine SJ.sr 3 <| J.k 1 0 rfl Ty4 (Zd2 _) <| J.z 1 <| J.f ?_ ?_
  ·exact SJ.rg 6 <| J.C 2 F28 (ZcL _ _) fun r45 => OJ.cat (d := 105) (T := 9) (yT := 9) (y := .const (.string ZlH)) (z := .tmp 104) (p := ZlH) (q := r45) <| OJ.cat (d := 106) (T := 9) (yT := 9) (y := .tmp 102) (z := .tmp 105) (p := ((str8 ++ a0) ++ str8)) (q := (ZlH ++ r45)) <| J.z 1 <| SJ.forget (List.Sublist.cons _ List.Sublist.slnil) <| J.q <| Zar.K2_ok s18 (((str8 ++ a0) ++ str8) ++ (ZlH ++ r45))
  ·exact SJ.rg 5 <| J.C 2 F28 (ZcL _ _) fun r46 => OJ.cat (d := 92) (T := 9) (yT := 9) (y := .tmp 89) (z := .tmp 91) (p := ((str8 ++ a0) ++ str8)) (q := r46) <| J.z 1 <| SJ.forget (List.Sublist.cons _ List.Sublist.slnil) <| J.q <| Zar.K2_ok s18 (((str8 ++ a0) ++ str8) ++ r46)
noncomputable def Zar.F1 (a0 : ByteArray) (a1 : Zan) (b1 : Nat) (s2 : Sl) : LF (Sl × Int) ByteArray := ⟨[.inBlock 2, .code (c2 (c2 (c2 (c2 (c2 Zar.B)))))], c1 (c2 (c1 (c2 (c2 (c2 (c2 Zar.B)))))), fun s_ => [(0, .string a0), (3, .pointer (some (pt b1 0))), (5, Sl.v s2), (6, Sl.v s_.1), (61, Sl.v a1.Ports), (62, .int .i64 (a1.Ports.len : Int)), (63, .int .i64 s_.2)], fun s_ => [(b1, ZaF.enc a1)], (rt Zar.out)⟩
noncomputable def Zar.L1 (a0 : ByteArray) (a1 : Zan) (s2 : Sl) (s18 : Sl) (s19 : Int) : M (LS (Sl × Int) ByteArray) :=
 if s19 < (a1.Ports.len : Int) then
  idx a1.Ports.a a1.Ports.len s19 2 >>= fun p49 =>
  ld ZaS p49 >>= fun x50 =>
  slot 64 >>= fun b51 =>
  Zbl x50.Lo >>= fun r52 =>
  if x50.Hi ≠ x50.Lo then
   Zbl x50.Hi >>= fun r54 =>
   chk (((ZgO.size + r54.size : Nat) : Int) ≤ 9223372036854775807) >>= fun _ =>
   chk (((r52.size + (ZgO ++ r54).size : Nat) : Int) ≤ 9223372036854775807) >>= fun _ =>
   slot 9 >>= fun b55 =>
   appl cS 9 16 ByteArray.empty s18 [(r52 ++ (ZgO ++ r54))] >>= fun r56 =>
   pure (LS.next (r56, IntKind.wrap .i64 (s19 + 1)))
  else
   slot 9 >>= fun b57 =>
   appl cS 9 16 ByteArray.empty s18 [r52] >>= fun r58 =>
   pure (LS.next (r58, IntKind.wrap .i64 (s19 + 1)))
 else
  (Zar.K3 a0 a1 s2 s18) >>= fun b => pure (LS.done b)
theorem Zar.L1_ok (a0 : ByteArray) (a1 : Zan) (b1 : Nat) (s2 : Sl) : LJ Zar.cx (Zar.F1 a0 a1 b1 s2) (fun s_ => Zar.L1 a0 a1 s2 s_.1 s_.2) := by
 rintro ⟨s18, s19⟩
 show SJ _ _ _ _ (Zar.L1 a0 a1 s2 s18 s19) _
 unfold Zar.L1
 refine SJ.sr 1 <| J.z 1 <| SJ.seq <| J.f ?_ ?_
 ·refine SJ.skip <| SJ.seq <| SJ.block (id := 3) <| SJ.sr 4 <| J.i 0 fun p49 => J.l 0 Ty64 fun x50 => J.a 0 Ty64 fun b51 => J.s 0 0 rfl Ty64 (Upd.w x50) <| J.z 0 <| SJ.sr 4 <| J.k 1 0 rfl Ty3 (ZcQ _) <| J.C 0 F25 (ZbJ _) fun r52 => J.z 1 <| SJ.seq <| SJ.sr 5 <| J.k 1 0 rfl Ty3 (ZcR _) <| J.k 1 0 rfl Ty3 (ZcQ _) <| J.z 1 <| J.f ?_ ?_
  ·exact SJ.rg 7 <| J.k 2 0 rfl Ty3 (ZcR _) <| J.C 0 F25 (ZbJ _) fun r54 => OJ.cat (d := 79) (T := 9) (yT := 9) (y := .const (.string ZgO)) (z := .tmp 78) (p := ZgO) (q := r54) <| OJ.cat (d := 80) (T := 9) (yT := 9) (y := .tmp 75) (z := .tmp 79) (p := r52) (q := (ZgO ++ r54)) <| J.z 1 <| SJ.rg 5 <| J.g 2 <| OJ.rowSlot (d := 83) (t := 65) (parts := [(0, .tmp 82)]) (ps := [(0, cS.val (r52 ++ (ZgO ++ r54)))]) (cd := cS) (⟨[(r52 ++ (ZgO ++ r54))], rfl⟩ : Vec ByteArray 1) (owed := []) Ty9 (Zbj.cons (cd := cS) (q := (r52 ++ (ZgO ++ r54))) (o := 0) rfl (Upd.arr (i := 0) (by decide) (by decide)) Zbj.nil) fun b55 => OW.nil <| OJ.appl (d := 84) (t := 65) (u := 65) (so := .tmp 81) (xo := .tmp 83) (j := 0) (b := b55) (l := (cS.arr 1).enc (⟨[(r52 ++ (ZgO ++ r54))], rfl⟩ : Vec ByteArray 1)) (n := 1) (k := 1) [(r52 ++ (ZgO ++ r54))] (owed := []) Ty9 (by rfl) (Cod.arr_enc _ _ _) (by rfl) fun r56 => OW.nil <| J.z 1 <| SJ.inBlock <| SJ.rg 2 <| J.z 2 <| SJ.forget (List.Sublist.cons _ (List.Sublist.cons _ (List.Sublist.cons_cons _ List.Sublist.slnil))) <| J.o rfl
  ·exact SJ.skip <| SJ.rg 5 <| J.g 2 <| OJ.rowSlot (d := 83) (t := 65) (parts := [(0, .tmp 82)]) (ps := [(0, cS.val r52)]) (cd := cS) (⟨[r52], rfl⟩ : Vec ByteArray 1) (owed := []) Ty9 (Zbj.cons (cd := cS) (q := r52) (o := 0) rfl (Upd.arr (i := 0) (by decide) (by decide)) Zbj.nil) fun b57 => OW.nil <| OJ.appl (d := 84) (t := 65) (u := 65) (so := .tmp 81) (xo := .tmp 83) (j := 0) (b := b57) (l := (cS.arr 1).enc (⟨[r52], rfl⟩ : Vec ByteArray 1)) (n := 1) (k := 1) [r52] (owed := []) Ty9 (by rfl) (Cod.arr_enc _ _ _) (by rfl) fun r58 => OW.nil <| J.z 1 <| SJ.inBlock <| SJ.rg 2 <| J.z 2 <| SJ.forget (List.Sublist.cons _ (List.Sublist.cons _ (List.Sublist.cons_cons _ List.Sublist.slnil))) <| J.o rfl
 ·exact SJ.exit (id := 2) (by rfl) <| J.q <| SJ.done <| Zar.K3_ok a0 a1 b1 s2 s18
noncomputable def Zar.K4 (a0 : ByteArray) (a1 : Zan) (s2 : Sl) : M ByteArray :=
 Zci (fun s_ : (Sl × Int) => Zar.L1 a0 a1 s2 s_.1 s_.2) (Sl.nil, 0)
theorem Zar.K4_ok (a0 : ByteArray) (a1 : Zan) (b1 : Nat) (s2 : Sl) :
  SJ Zar.cx [.code (c2 (c2 (c2 (c2 Zar.B))))] [(0, .string a0), (3, .pointer (some (pt b1 0))), (5, Sl.v s2), (6, Sl.v Sl.nil)] [(b1, ZaF.enc a1)] (Zar.K4 a0 a1 s2) (rt Zar.out) := by
 unfold Zar.K4
 exact SJ.seq <| SJ.sr 4 <| J.k 1 0 rfl Ty23 (Zbb _) <| J.z 2 <| SJ.block (id := 2) <| J.L (Zar.L1_ok a0 a1 b1 s2)
noncomputable def Zar.F2 (a0 : ByteArray) (a1 : Zan) (b1 : Nat) : LF (Sl × Int) ByteArray := ⟨[.inBlock 0, .code (c2 (c2 (c2 (c2 Zar.B))))], c1 (c2 (c1 (c2 (c2 (c2 Zar.B))))), fun s_ => [(0, .string a0), (3, .pointer (some (pt b1 0))), (5, Sl.v s_.1), (6, Sl.v Sl.nil), (24, Sl.v a1.Nets), (25, .int .i64 (a1.Nets.len : Int)), (26, .int .i64 s_.2)], fun s_ => [(b1, ZaF.enc a1)], (rt Zar.out)⟩
noncomputable def Zar.L2 (a0 : ByteArray) (a1 : Zan) (s2 : Sl) (s3 : Int) : M (LS (Sl × Int) ByteArray) :=
 if s3 < (a1.Nets.len : Int) then
  idx a1.Nets.a a1.Nets.len s3 18 >>= fun p61 =>
  ld Zau p61 >>= fun x62 =>
  slot 61 >>= fun b63 =>
  Zcf x62 >>= fun r64 =>
  (if x62.Len = 32 then
    pure (x62.IP.V == 4)
   else
    pure false) >>= fun y65 =>
  (if y65 = true then
    pure true
   else
    pure (x62.Len == 128)) >>= fun y66 =>
  if y66 = true then
   ZaP x62.IP >>= fun r68 =>
   slot 9 >>= fun b69 =>
   appl cS 9 16 ByteArray.empty s2 [r68.1] >>= fun r70 =>
   pure (LS.next (r70, IntKind.wrap .i64 (s3 + 1)))
  else
   slot 9 >>= fun b71 =>
   appl cS 9 16 ByteArray.empty s2 [r64.1] >>= fun r72 =>
   pure (LS.next (r72, IntKind.wrap .i64 (s3 + 1)))
 else
  (Zar.K4 a0 a1 s2) >>= fun b => pure (LS.done b)
theorem Zar.L2_ok (a0 : ByteArray) (a1 : Zan) (b1 : Nat) : LJ Zar.cx (Zar.F2 a0 a1 b1) (fun s_ => Zar.L2 a0 a1 s_.1 s_.2) := by
 rintro ⟨s2, s3⟩
 show SJ _ _ _ _ (Zar.L2 a0 a1 s2 s3) _
 unfold Zar.L2
 refine SJ.sr 1 <| J.z 1 <| SJ.seq <| J.f ?_ ?_
 ·refine SJ.skip <| SJ.seq <| SJ.block (id := 1) <| SJ.sr 4 <| J.i 0 fun p61 => J.l 0 Ty61 fun x62 => J.a 0 Ty61 fun b63 => J.s 0 0 rfl Ty61 (Upd.w x62) <| J.z 0 <| SJ.sr 7 <| J.k 0 0 rfl Ty61 (At.whole _) <| J.C 0 F41 (Zg2 _) fun r64 => J.z 5 <| SJ.seq <| SJ.sr 14 <| J.k 1 0 rfl Ty3 (ZbS _) <| J.j 2 4 .bool ?_ ?_ fun y65 => ?_
  ·exact J.k 2 0 rfl Ty3 (At.trans (ZbB _) (Zdi _)) <| J.e 2
  ·exact J.e 5
  ·refine J.j 1 3 .bool ?_ ?_ fun y66 => ?_
   ·exact J.e 4
   ·exact J.k 1 0 rfl Ty3 (ZbS _) <| J.e 2
   ·refine J.z 0 <| J.f ?_ ?_
    ·exact SJ.rg 7 <| J.k 1 0 rfl Ty59 (ZbB _) <| J.C 0 F42 (Zgg _) fun r68 => J.z 4 <| SJ.rg 5 <| J.g 2 <| OJ.rowSlot (d := 57) (t := 65) (parts := [(0, .tmp 56)]) (ps := [(0, cS.val r68.1)]) (cd := cS) (⟨[r68.1], rfl⟩ : Vec ByteArray 1) (owed := []) Ty9 (Zbj.cons (cd := cS) (q := r68.1) (o := 0) rfl (Upd.arr (i := 0) (by decide) (by decide)) Zbj.nil) fun b69 => OW.nil <| OJ.appl (d := 58) (t := 65) (u := 65) (so := .tmp 55) (xo := .tmp 57) (j := 0) (b := b69) (l := (cS.arr 1).enc (⟨[r68.1], rfl⟩ : Vec ByteArray 1)) (n := 1) (k := 1) [r68.1] (owed := []) Ty9 (by rfl) (Cod.arr_enc _ _ _) (by rfl) fun r70 => OW.nil <| J.z 1 <| SJ.inBlock <| SJ.rg 2 <| J.z 2 <| SJ.forget (List.Sublist.cons _ (List.Sublist.cons _ (List.Sublist.cons_cons _ List.Sublist.slnil))) <| J.o rfl
    ·exact SJ.skip <| SJ.rg 5 <| J.g 2 <| OJ.rowSlot (d := 57) (t := 65) (parts := [(0, .tmp 56)]) (ps := [(0, cS.val r64.1)]) (cd := cS) (⟨[r64.1], rfl⟩ : Vec ByteArray 1) (owed := []) Ty9 (Zbj.cons (cd := cS) (q := r64.1) (o := 0) rfl (Upd.arr (i := 0) (by decide) (by decide)) Zbj.nil) fun b71 => OW.nil <| OJ.appl (d := 58) (t := 65) (u := 65) (so := .tmp 55) (xo := .tmp 57) (j := 0) (b := b71) (l := (cS.arr 1).enc (⟨[r64.1], rfl⟩ : Vec ByteArray 1)) (n := 1) (k := 1) [r64.1] (owed := []) Ty9 (by rfl) (Cod.arr_enc _ _ _) (by rfl) fun r72 => OW.nil <| J.z 1 <| SJ.inBlock <| SJ.rg 2 <| J.z 2 <| SJ.forget (List.Sublist.cons _ (List.Sublist.cons _ (List.Sublist.cons_cons _ List.Sublist.slnil))) <| J.o rfl
 ·exact SJ.exit (id := 0) (by rfl) <| J.q <| SJ.done <| Zar.K4_ok a0 a1 b1 s2
noncomputable def Zar (a0 : ByteArray) (a1 : Zan) : M ByteArray :=
 slot 25 >>= fun b1 =>
 if (IntKind.wrap .i64 ((a1.Nets.len : Int) + (a1.Ports.len : Int))) = 0 then
  pure ByteArray.empty
 else
  Zci (fun s_ : (Sl × Int) => Zar.L2 a0 a1 s_.1 s_.2) (Sl.nil, 0)
theorem Zhc (a0 : ByteArray) (a1 : Zan) : Ref Tryd.prog 27 [.string a0, ZaF.val a1] (Zar a0 a1) Zar.out := by
 refine J.Fn Tryd.func27 ?_
 unfold Zar
 refine SJ.sr 2 <| J.b 0 ZaF a1 fun b1 => J.z 1 <| SJ.seq <| SJ.sr 8 <| J.k 1 0 rfl Ty22 (Zbi _) <| J.k 2 0 rfl Ty23 (Zbb _) <| J.z 3 <| J.f ?_ ?_
 ·exact SJ.sr 1 <| J.z 1 <| J.r
 ·exact SJ.skip <| SJ.sr 2 <| J.z 2 <| SJ.seq <| SJ.sr 4 <| J.k 1 0 rfl Ty22 (Zbi _) <| J.z 2 <| SJ.block (id := 0) <| J.L (Zar.L2_ok a0 a1 b1)

/-! ### weir/rules.write: function 15 -/
noncomputable def Zae.B : Code := bod Tryd.f15
noncomputable def Zae.cx : Fx := ⟨Tryd.prog, 15, Tryd.f15, none⟩
noncomputable def Zae.out (r_ : ByteArray) : Value := .string r_
noncomputable def Zae.K1 (a0 : Zap) (j34 : ByteArray) : M ByteArray :=
 if a0.Type_ > 0 then
  Zbl (IntKind.wrap .i64 (a0.Type_ - 1)) >>= fun r36 =>
  chk (((ZjL.size + r36.size : Nat) : Int) ≤ 9223372036854775807) >>= fun _ =>
  chk (((j34.size + (ZjL ++ r36).size : Nat) : Int) ≤ 9223372036854775807) >>= fun _ =>
  if a0.Pieces = true then
   chk ((((j34 ++ (ZjL ++ r36)).size + ZkL.size : Nat) : Int) ≤ 9223372036854775807) >>= fun _ =>
   pure ((j34 ++ (ZjL ++ r36)) ++ ZkL)
  else
   pure (j34 ++ (ZjL ++ r36))
 else
  if a0.Pieces = true then
   chk (((j34.size + ZkL.size : Nat) : Int) ≤ 9223372036854775807) >>= fun _ =>
   pure (j34 ++ ZkL)
  else
   pure j34
theorem Zae.K1_ok (a0 : Zap) (b1 : Nat) (j34 : ByteArray) :
  SJ Zae.cx [.code (c2 (c2 (c2 (c2 (c2 (c2 (c2 (c2 (c2 (c2 Zae.B))))))))))] [(1, .pointer (some (pt b1 0))), (3, .string j34)] [(b1, Zao.enc a0)] (Zae.K1 a0 j34) (rt Zae.out) := by
 unfold Zae.K1
 refine SJ.seq <| SJ.sr 3 <| J.k 1 0 rfl Ty3 (Zcm _) <| J.z 1 <| J.f ?_ ?_
 ·refine SJ.rg 8 <| J.k 2 0 rfl Ty3 (Zcm _) <| J.C 1 F25 (ZbJ _) fun r36 => OJ.cat (d := 101) (T := 9) (yT := 9) (y := .const (.string ZjL)) (z := .tmp 100) (p := ZjL) (q := r36) <| OJ.cat (d := 102) (T := 9) (yT := 9) (y := .tmp 96) (z := .tmp 101) (p := j34) (q := (ZjL ++ r36)) <| J.z 1 <| SJ.seq <| SJ.sr 2 <| J.k 1 0 rfl Ty4 (Zc8 _) <| J.z 0 <| J.f ?_ ?_
  ·exact SJ.rg 3 <| J.g 1 <| OJ.cat (d := 106) (T := 9) (yT := 9) (y := .tmp 105) (z := .const (.string ZkL)) (p := (j34 ++ (ZjL ++ r36))) (q := ZkL) <| J.z 1 <| SJ.sr 2 <| J.z 2 <| J.r
  ·exact SJ.skip <| SJ.sr 2 <| J.z 2 <| J.r
 ·refine SJ.skip <| SJ.seq <| SJ.sr 2 <| J.k 1 0 rfl Ty4 (Zc8 _) <| J.z 0 <| J.f ?_ ?_
  ·exact SJ.rg 3 <| J.g 1 <| OJ.cat (d := 106) (T := 9) (yT := 9) (y := .tmp 105) (z := .const (.string ZkL)) (p := j34) (q := ZkL) <| J.z 1 <| SJ.sr 2 <| J.z 2 <| J.r
  ·exact SJ.skip <| SJ.sr 2 <| J.z 2 <| J.r
noncomputable def Zae.K2 (a0 : Zap) (j11 : ByteArray) (r12 : ByteArray) (r13 : ByteArray) (s15 : Sl) : M ByteArray :=
 if (s15.len : Int) > 0 then
  Zas s15 ZiV >>= fun r40 =>
  chk (((ZlD.size + r40.size : Nat) : Int) ≤ 9223372036854775807) >>= fun _ =>
  chk ((((j11 ++ (r12 ++ r13)).size + (ZlD ++ r40).size : Nat) : Int) ≤ 9223372036854775807) >>= fun _ =>
  Zae.K1 a0 ((j11 ++ (r12 ++ r13)) ++ (ZlD ++ r40))
 else
  Zae.K1 a0 (j11 ++ (r12 ++ r13))
theorem Zae.K2_ok (a0 : Zap) (b1 : Nat) (j11 : ByteArray) (r12 : ByteArray) (r13 : ByteArray) (s15 : Sl) :
  SJ Zae.cx [.code (c2 (c2 (c2 (c2 (c2 (c2 (c2 (c2 (c2 Zae.B)))))))))] [(1, .pointer (some (pt b1 0))), (3, .string (j11 ++ (r12 ++ r13))), (4, Sl.v s15)] [(b1, Zao.enc a0)] (Zae.K2 a0 j11 r12 r13 s15) (rt Zae.out) := by
 unfold Zae.K2
 refine SJ.seq <| SJ.sr 3 <| J.z 3 <| J.f ?_ ?_
 ·exact SJ.rg 6 <| J.C 2 F28 (ZcL _ _) fun r40 => OJ.cat (d := 91) (T := 9) (yT := 9) (y := .const (.string ZlD)) (z := .tmp 90) (p := ZlD) (q := r40) <| OJ.cat (d := 92) (T := 9) (yT := 9) (y := .tmp 88) (z := .tmp 91) (p := (j11 ++ (r12 ++ r13))) (q := (ZlD ++ r40)) <| J.z 1 <| J.q <| Zae.K1_ok a0 b1 ((j11 ++ (r12 ++ r13)) ++ (ZlD ++ r40))
 ·exact SJ.skip <| J.q <| Zae.K1_ok a0 b1 (j11 ++ (r12 ++ r13))
noncomputable def Zae.F1 (a0 : Zap) (b1 : Nat) (j11 : ByteArray) (r12 : ByteArray) (r13 : ByteArray) (x14 : Sl) : LF (Sl × Int) ByteArray := ⟨[.inBlock 0, .code (c2 (c2 (c2 (c2 (c2 (c2 (c2 (c2 (c2 Zae.B)))))))))], c1 (c2 (c1 (c2 (c2 (c2 (c2 (c2 (c2 (c2 (c2 Zae.B)))))))))), fun s_ => [(1, .pointer (some (pt b1 0))), (3, .string (j11 ++ (r12 ++ r13))), (4, Sl.v s_.1), (54, Sl.v x14), (55, .int .i64 (x14.len : Int)), (56, .int .i64 s_.2)], fun s_ => [(b1, Zao.enc a0)], (rt Zae.out)⟩
noncomputable def Zae.K3 (a0 : Zap) (s16 : Int) (x43 : ByteArray) (j46 : Sl) : M (LS (Sl × Int) ByteArray) :=
 chk (0 ≤ (IntKind.wrap .u64 s16)) >>= fun _ =>
 if (band .i64 (Int.fdiv a0.Clear (2 ^ min (Int.toNat (IntKind.wrap .u64 s16)) 64)) 1) = 1 then
  chk (((Zis.size + x43.size : Nat) : Int) ≤ 9223372036854775807) >>= fun _ =>
  slot 9 >>= fun b49 =>
  appl cS 9 16 ByteArray.empty j46 [(Zis ++ x43)] >>= fun r50 =>
  pure (LS.next (r50, IntKind.wrap .i64 (s16 + 1)))
 else
  pure (LS.next (j46, IntKind.wrap .i64 (s16 + 1)))
theorem Zae.K3_ok (a0 : Zap) (b1 : Nat) (j11 : ByteArray) (r12 : ByteArray) (r13 : ByteArray) (x14 : Sl) (s16 : Int) (x43 : ByteArray) (j46 : Sl) :
  SJ Zae.cx [.code (c2 (c2 (c1 (c1 (c2 (c2 (c1 (c1 (c2 (c1 (c2 (c2 (c2 (c2 (c2 (c2 (c2 (c2 Zae.B)))))))))))))))))), .inBlock 1, .code (c2 (c2 (c2 (c1 (c1 (c2 (c1 (c2 (c2 (c2 (c2 (c2 (c2 (c2 (c2 Zae.B))))))))))))))), .inLoop (c1 (c1 (c2 (c1 (c2 (c2 (c2 (c2 (c2 (c2 (c2 (c2 Zae.B)))))))))))), .inBlock 0, .code (c2 (c2 (c2 (c2 (c2 (c2 (c2 (c2 (c2 Zae.B)))))))))] [(1, .pointer (some (pt b1 0))), (3, .string (j11 ++ (r12 ++ r13))), (4, Sl.v j46), (54, Sl.v x14), (55, .int .i64 (x14.len : Int)), (56, .int .i64 s16), (5, .int .i64 s16), (6, .string x43)] [(b1, Zao.enc a0)] (Zae.K3 a0 s16 x43 j46) (Zae.F1 a0 b1 j11 r12 r13 x14).f := by
 unfold Zae.K3
 refine SJ.sr 7 <| J.k 1 0 rfl Ty3 (ZbR _) <| J.g 2 <| OJ.shr (d := 76) (T := 3) (yT := 68) (y := .tmp 73) (z := .tmp 75) (k := .i64) (yk := .u64) (p := a0.Clear) (q := (IntKind.wrap .u64 s16)) fun hq52 => J.z 2 <| J.f ?_ ?_
 ·exact SJ.rg 6 <| J.g 2 <| OJ.cat (d := 81) (T := 9) (yT := 9) (y := .const (.string Zis)) (z := .tmp 80) (p := Zis) (q := x43) <| OJ.rowSlot (d := 82) (t := 65) (parts := [(0, .tmp 81)]) (ps := [(0, cS.val (Zis ++ x43))]) (cd := cS) (⟨[(Zis ++ x43)], rfl⟩ : Vec ByteArray 1) (owed := []) Ty9 (Zbj.cons (cd := cS) (q := (Zis ++ x43)) (o := 0) rfl (Upd.arr (i := 0) (by decide) (by decide)) Zbj.nil) fun b49 => OW.nil <| OJ.appl (d := 83) (t := 65) (u := 65) (so := .tmp 79) (xo := .tmp 82) (j := 0) (b := b49) (l := (cS.arr 1).enc (⟨[(Zis ++ x43)], rfl⟩ : Vec ByteArray 1)) (n := 1) (k := 1) [(Zis ++ x43)] (owed := []) Ty9 (by rfl) (Cod.arr_enc _ _ _) (by rfl) fun r50 => OW.nil <| J.z 1 <| SJ.inBlock <| SJ.rg 2 <| J.z 2 <| SJ.forget (List.Sublist.cons _ (List.Sublist.cons_cons _ List.Sublist.slnil)) <| J.o rfl
 ·exact SJ.skip <| SJ.inBlock <| SJ.rg 2 <| J.z 2 <| J.o rfl
noncomputable def Zae.L1 (a0 : Zap) (j11 : ByteArray) (r12 : ByteArray) (r13 : ByteArray) (x14 : Sl) (s15 : Sl) (s16 : Int) : M (LS (Sl × Int) ByteArray) :=
 if s16 < (x14.len : Int) then
  idx x14.a x14.len s16 1 >>= fun p42 =>
  ld cS p42 >>= fun x43 =>
  chk (0 ≤ (IntKind.wrap .u64 s16)) >>= fun _ =>
  if (band .i64 (Int.fdiv a0.Set (2 ^ min (Int.toNat (IntKind.wrap .u64 s16)) 64)) 1) = 1 then
   slot 9 >>= fun b53 =>
   appl cS 9 16 ByteArray.empty s15 [x43] >>= fun r54 =>
   Zae.K3 a0 s16 x43 r54
  else
   Zae.K3 a0 s16 x43 s15
 else
  (Zae.K2 a0 j11 r12 r13 s15) >>= fun b => pure (LS.done b)
theorem Zae.L1_ok (a0 : Zap) (b1 : Nat) (j11 : ByteArray) (r12 : ByteArray) (r13 : ByteArray) (x14 : Sl) : LJ Zae.cx (Zae.F1 a0 b1 j11 r12 r13 x14) (fun s_ => Zae.L1 a0 j11 r12 r13 x14 s_.1 s_.2) := by
 rintro ⟨s15, s16⟩
 show SJ _ _ _ _ (Zae.L1 a0 j11 r12 r13 x14 s15 s16) _
 unfold Zae.L1
 refine SJ.sr 1 <| J.z 1 <| SJ.seq <| J.f ?_ ?_
 ·refine SJ.skip <| SJ.seq <| SJ.block (id := 1) <| SJ.sr 5 <| J.i 1 fun p42 => J.l 0 Ty9 fun x43 => J.z 2 <| SJ.seq <| SJ.sr 7 <| J.k 1 0 rfl Ty3 (Zca _) <| J.g 2 <| OJ.shr (d := 65) (T := 3) (yT := 68) (y := .tmp 62) (z := .tmp 64) (k := .i64) (yk := .u64) (p := a0.Set) (q := (IntKind.wrap .u64 s16)) fun hq56 => J.z 2 <| J.f ?_ ?_
  ·exact SJ.rg 5 <| J.g 2 <| OJ.rowSlot (d := 70) (t := 65) (parts := [(0, .tmp 69)]) (ps := [(0, cS.val x43)]) (cd := cS) (⟨[x43], rfl⟩ : Vec ByteArray 1) (owed := []) Ty9 (Zbj.cons (cd := cS) (q := x43) (o := 0) rfl (Upd.arr (i := 0) (by decide) (by decide)) Zbj.nil) fun b53 => OW.nil <| OJ.appl (d := 71) (t := 65) (u := 65) (so := .tmp 68) (xo := .tmp 70) (j := 0) (b := b53) (l := (cS.arr 1).enc (⟨[x43], rfl⟩ : Vec ByteArray 1)) (n := 1) (k := 1) [x43] (owed := []) Ty9 (by rfl) (Cod.arr_enc _ _ _) (by rfl) fun r54 => OW.nil <| J.z 1 <| SJ.forget (List.Sublist.cons _ (List.Sublist.cons_cons _ List.Sublist.slnil)) <| J.q <| Zae.K3_ok a0 b1 j11 r12 r13 x14 s16 x43 r54
  ·exact SJ.skip <| J.q <| Zae.K3_ok a0 b1 j11 r12 r13 x14 s16 x43 s15
 ·exact SJ.exit (id := 0) (by rfl) <| J.q <| SJ.done <| Zae.K2_ok a0 b1 j11 r12 r13 s15
noncomputable def Zae.K4 (a0 : Zap) (j11 : ByteArray) : M ByteArray :=
 draw >>= fun _ =>
 Zar ZmN a0.From >>= fun r12 =>
 Zar Zpe a0.To >>= fun r13 =>
 chk (((r12.size + r13.size : Nat) : Int) ≤ 9223372036854775807) >>= fun _ =>
 chk (((j11.size + (r12 ++ r13).size : Nat) : Int) ≤ 9223372036854775807) >>= fun _ =>
 ld cL ⟨1, 0, none⟩ >>= fun x14 =>
 Zci (fun s_ : (Sl × Int) => Zae.L1 a0 j11 r12 r13 x14 s_.1 s_.2) (Sl.nil, 0)
theorem Zae.K4_ok (a0 : Zap) (b1 : Nat) (j11 : ByteArray) :
  SJ Zae.cx [.code (c2 (c2 (c2 (c2 (c2 (c2 Zae.B))))))] [(1, .pointer (some (pt b1 0))), (3, .string j11)] [(b1, Zao.enc a0)] (Zae.K4 a0 j11) (rt Zae.out) := by
 unfold Zae.K4
 exact SJ.seq <| J.D [0, 1, 2, 4, 5, 3, 6, 7, 8, 9] Zc3 <| J.k 2 0 rfl Ty25 (Zdy _) <| J.k 1 0 rfl Ty25 (Zdt _) <| OJ.call (d := 48) (g := 27) (ats := #[9, 25]) (args := [.const (.string ZmN), .tmp 47]) (owed := [⟨5, 25, (pt b1 9), ZaF.val a0.To⟩]) F27 (Zhc ZmN a0.From) fun r12 => OW.known (j := 0) (q := a0.To) Ty25 rfl (Zdt a0) <| OW.nil <| J.C 0 F27 (Zhc _ _) fun r13 => OJ.cat (d := 52) (T := 9) (yT := 9) (y := .tmp 48) (z := .tmp 51) (p := r12) (q := r13) <| OJ.cat (d := 53) (T := 9) (yT := 9) (y := .tmp 45) (z := .tmp 52) (p := j11) (q := (r12 ++ r13)) <| J.z 1 <| SJ.sr 1 <| J.z 1 <| SJ.seq <| SJ.sr 3 <| J.l 0 Ty65 fun x14 => J.z 2 <| SJ.block (id := 0) <| J.L (Zae.L1_ok a0 b1 j11 r12 r13 x14)
noncomputable def Zae.K5 (a0 : Zap) (j9 : ByteArray) : M ByteArray :=
 if a0.Vid > 0 then
  Zbl a0.Vid >>= fun r58 =>
  chk (((ZlE.size + r58.size : Nat) : Int) ≤ 9223372036854775807) >>= fun _ =>
  chk (((j9.size + (ZlE ++ r58).size : Nat) : Int) ≤ 9223372036854775807) >>= fun _ =>
  Zae.K4 a0 (j9 ++ (ZlE ++ r58))
 else
  Zae.K4 a0 j9
theorem Zae.K5_ok (a0 : Zap) (b1 : Nat) (j9 : ByteArray) :
  SJ Zae.cx [.code (c2 (c2 (c2 (c2 (c2 Zae.B)))))] [(1, .pointer (some (pt b1 0))), (3, .string j9)] [(b1, Zao.enc a0)] (Zae.K5 a0 j9) (rt Zae.out) := by
 unfold Zae.K5
 refine SJ.seq <| SJ.sr 3 <| J.k 1 0 rfl Ty3 (Zdh _) <| J.z 1 <| J.f ?_ ?_
 ·exact SJ.rg 7 <| J.k 2 0 rfl Ty3 (Zdh _) <| J.C 0 F25 (ZbJ _) fun r58 => OJ.cat (d := 43) (T := 9) (yT := 9) (y := .const (.string ZlE)) (z := .tmp 42) (p := ZlE) (q := r58) <| OJ.cat (d := 44) (T := 9) (yT := 9) (y := .tmp 39) (z := .tmp 43) (p := j9) (q := (ZlE ++ r58)) <| J.z 1 <| J.q <| Zae.K4_ok a0 b1 (j9 ++ (ZlE ++ r58))
 ·exact SJ.skip <| J.q <| Zae.K4_ok a0 b1 j9
noncomputable def Zae.K6 (a0 : Zap) (j6 : ByteArray) : M ByteArray :=
 Zbt a0 >>= fun r7 =>
 chk (((j6.size + r7.size : Nat) : Int) ≤ 9223372036854775807) >>= fun _ =>
 if a0.In > 0 then
  Zbl (IntKind.wrap .i64 (a0.In - 1)) >>= fun r60 =>
  chk (((ZlF.size + r60.size : Nat) : Int) ≤ 9223372036854775807) >>= fun _ =>
  chk ((((j6 ++ r7).size + (ZlF ++ r60).size : Nat) : Int) ≤ 9223372036854775807) >>= fun _ =>
  Zae.K5 a0 ((j6 ++ r7) ++ (ZlF ++ r60))
 else
  Zae.K5 a0 (j6 ++ r7)
theorem Zae.K6_ok (a0 : Zap) (b1 : Nat) (j6 : ByteArray) :
  SJ Zae.cx [.code (c2 (c2 (c2 Zae.B)))] [(1, .pointer (some (pt b1 0))), (3, .string j6)] [(b1, Zao.enc a0)] (Zae.K6 a0 j6) (rt Zae.out) := by
 unfold Zae.K6
 refine SJ.sr 5 <| J.k 1 0 rfl Ty27 (At.whole _) <| J.C 0 F26 (ZkT _) fun r7 => OJ.cat (d := 25) (T := 9) (yT := 9) (y := .tmp 22) (z := .tmp 24) (p := j6) (q := r7) <| J.z 1 <| SJ.seq <| SJ.sr 3 <| J.k 1 0 rfl Ty3 (Zdu _) <| J.z 1 <| J.f ?_ ?_
 ·exact SJ.rg 8 <| J.k 2 0 rfl Ty3 (Zdu _) <| J.C 1 F25 (ZbJ _) fun r60 => OJ.cat (d := 34) (T := 9) (yT := 9) (y := .const (.string ZlF)) (z := .tmp 33) (p := ZlF) (q := r60) <| OJ.cat (d := 35) (T := 9) (yT := 9) (y := .tmp 29) (z := .tmp 34) (p := (j6 ++ r7)) (q := (ZlF ++ r60)) <| J.z 1 <| J.q <| Zae.K5_ok a0 b1 ((j6 ++ r7) ++ (ZlF ++ r60))
 ·exact SJ.skip <| J.q <| Zae.K5_ok a0 b1 (j6 ++ r7)
noncomputable def Zae (a0 : Zap) : M ByteArray :=
 slot 27 >>= fun b1 =>
 ld cL ⟨0, 0, none⟩ >>= fun x2 =>
 idx x2.a x2.len (IntKind.wrap .i64 (a0.Act - 1)) 1 >>= fun p3 =>
 ld cS p3 >>= fun x4 =>
 if a0.Class > 0 then
  Zbl a0.Class >>= fun r62 =>
  chk (((ZlG.size + r62.size : Nat) : Int) ≤ 9223372036854775807) >>= fun _ =>
  chk (((x4.size + (ZlG ++ r62).size : Nat) : Int) ≤ 9223372036854775807) >>= fun _ =>
  Zae.K6 a0 (x4 ++ (ZlG ++ r62))
 else
  Zae.K6 a0 x4
theorem ZjN (a0 : Zap) : Ref Tryd.prog 15 [Zao.val a0] (Zae a0) Zae.out := by
 refine J.Fn Tryd.func15 ?_
 unfold Zae
 refine SJ.sr 2 <| J.b 0 Zao a0 fun b1 => J.z 1 <| SJ.sr 7 <| J.l 0 Ty65 fun x2 => J.k 1 0 rfl Ty3 (ZbV _) <| J.i 1 fun p3 => J.l 0 Ty9 fun x4 => J.z 1 <| SJ.seq <| SJ.sr 3 <| J.k 1 0 rfl Ty3 (Zcn _) <| J.z 1 <| J.f ?_ ?_
 ·exact SJ.rg 7 <| J.k 2 0 rfl Ty3 (Zcn _) <| J.C 0 F25 (ZbJ _) fun r62 => OJ.cat (d := 20) (T := 9) (yT := 9) (y := .const (.string ZlG)) (z := .tmp 19) (p := ZlG) (q := r62) <| OJ.cat (d := 21) (T := 9) (yT := 9) (y := .tmp 16) (z := .tmp 20) (p := x4) (q := (ZlG ++ r62)) <| J.z 1 <| J.q <| Zae.K6_ok a0 b1 (x4 ++ (ZlG ++ r62))
 ·exact SJ.skip <| J.q <| Zae.K6_ok a0 b1 x4

/-! ### weir/rules.PrintRule: function 7 -/
noncomputable def Zbz.out (r_ : (ByteArray × Int)) : Value := .tuple #[.string r_.1, .int .i64 r_.2]
noncomputable def Zbz (a0 : Zap) : M (ByteArray × Int) :=
 slot 27 >>= fun b1 =>
 ZaQ a0 >>= fun r2 =>
 if r2 ≠ 0 then
  pure (ByteArray.empty, r2)
 else
  Zae a0 >>= fun r3 =>
  pure (r3, 0)
theorem ZdP (a0 : Zap) : Ref Tryd.prog 7 [Zao.val a0] (Zbz a0) Zbz.out := by
 refine J.Fn Tryd.func7 ?_
 unfold Zbz
 refine SJ.sr 3 <| J.b 0 Zao a0 fun b1 => J.z 2 <| SJ.seq <| SJ.sr 3 <| J.k 0 0 rfl Ty27 (At.whole _) <| J.C 0 F6 (ZgF _) fun r2 => J.z 1 <| SJ.sr 2 <| J.z 2 <| J.f ?_ ?_
 ·exact SJ.sr 3 <| J.z 3 <| J.r
 ·exact SJ.skip <| SJ.sr 4 <| J.k 0 0 rfl Ty27 (At.whole _) <| J.C 0 F15 (ZjN _) fun r3 => J.z 2 <| J.r

/-! ### weir/weirlaw16.num: function 8 -/
noncomputable def Zb6.out (r_ : Int) : Value := .int .i64 r_
noncomputable def Zb6 (a0 : Int) : M Int :=
 pure a0
theorem Zc2 (a0 : Int) : Ref Tryd.prog 8 [.int .i64 a0] (Zb6 a0) Zb6.out := by
 refine J.Fn Tryd.func8 ?_
 unfold Zb6
 exact SJ.sr 1 <| J.z 1 <| SJ.sr 2 <| J.z 2 <| J.r

/-! ### weir/weirlaw16.line: function 16 -/
noncomputable def Zb7.B : Code := bod Tryd.f16
noncomputable def Zb7.out (r_ : (ByteArray × Zap)) : Value := .tuple #[.string r_.1, Zao.val r_.2]
noncomputable def Zb7  : M (ByteArray × Zap) :=
 slot 27 >>= fun b1 =>
 slot 61 >>= fun b2 =>
 draws 16 2 (ZdS (c1 (c2 (c2 Zb7.B)))) >>= fun o3 =>
 if bfr o3 1 4 = true then
  newv 61 (Zau.arr 1) (⟨[(⟨(⟨4, (⟨[10, 0, 0, 0, 0, 0, 0, 0, 0, 0, 0, 0, 0, 0, 0, 0], rfl⟩ : (Vec Int 16))⟩ : Za1), 8⟩ : Zak)], rfl⟩ : Vec Zak 1) >>= fun b10 =>
  newv 64 (ZaS.arr 1) (⟨[(⟨80, 80⟩ : ZaM)], rfl⟩ : Vec ZaM 1) >>= fun b11 =>
  pure (Zpd, (⟨1, Zal.Class, Zal.Kind, 6, Zal.In, Zal.Vid, (⟨ZaC.Not, (⟨some (pt b10 0), 1, 1⟩ : Sl), ZaC.Ports⟩ : Zan), (⟨ZaC.Not, ZaC.Nets, (⟨some (pt b11 0), 1, 1⟩ : Sl)⟩ : Zan), Zal.Set, Zal.Clear, Zal.Type_, Zal.Pieces⟩ : Zap))
 else
  newv 64 (ZaS.arr 1) (⟨[(⟨80, 80⟩ : ZaM)], rfl⟩ : Vec ZaM 1) >>= fun b12 =>
  newv 61 (Zau.arr 1) (⟨[(⟨(⟨4, (⟨[10, 0, 0, 0, 0, 0, 0, 0, 0, 0, 0, 0, 0, 0, 0, 0], rfl⟩ : (Vec Int 16))⟩ : Za1), 8⟩ : Zak)], rfl⟩ : Vec Zak 1) >>= fun b13 =>
  pure (Zpd, (⟨1, Zal.Class, Zal.Kind, 6, Zal.In, Zal.Vid, (⟨ZaC.Not, (⟨some (pt b13 0), 1, 1⟩ : Sl), ZaC.Ports⟩ : Zan), (⟨ZaC.Not, ZaC.Nets, (⟨some (pt b12 0), 1, 1⟩ : Sl)⟩ : Zan), Zal.Set, Zal.Clear, Zal.Type_, Zal.Pieces⟩ : Zap))
theorem ZhG  : Ref Tryd.prog 16 [] (Zb7) Zb7.out := by
 refine J.Fn Tryd.func16 ?_
 unfold Zb7
 refine SJ.sr 2 <| J.a 1 Ty27 fun b1 => J.z 0 <| SJ.sr 5 <| OJ.build (d := 3) (T := 57) (parts := [(0, .const (.int .u8 10))]) (ps := [(0, (cI .u8).val 10)]) (cd := ((cI .u8).arr 16)) (z0 := (Vec.rep 16 0)) (⟨[10, 0, 0, 0, 0, 0, 0, 0, 0, 0, 0, 0, 0, 0, 0, 0], rfl⟩ : (Vec Int 16)) Ty57 rfl (Zbj.cons (cd := (cI .u8)) (q := 10) (o := 0) (by kernel_rfl) (Upd.arr (i := 0) (by decide) (by decide)) Zbj.nil) <| J.u 0 Ty59 (.f 0 (Zg6 _ 4) (.f 1 (Zg7 _ (⟨[10, 0, 0, 0, 0, 0, 0, 0, 0, 0, 0, 0, 0, 0, 0, 0], rfl⟩ : (Vec Int 16))) .nil)) <| J.u 0 Ty61 (.f 0 (Zem _ (⟨4, (⟨[10, 0, 0, 0, 0, 0, 0, 0, 0, 0, 0, 0, 0, 0, 0, 0], rfl⟩ : (Vec Int 16))⟩ : Za1)) (.f 1 (Zdn _ 8) .nil)) <| J.a 0 Ty61 fun b2 => J.s 0 0 rfl Ty61 (Upd.w (⟨(⟨4, (⟨[10, 0, 0, 0, 0, 0, 0, 0, 0, 0, 0, 0, 0, 0, 0, 0], rfl⟩ : (Vec Int 16))⟩ : Za1), 8⟩ : Zak)) <| J.z 0 <| SJ.seq <| SJ.draws (id := 2) (kd := [1, 2, 0, 0, 2, 0, 0, 0, 2]) (bef := [0, 1, 3, 0, 8, 24, 63, 0, 255]) (ord := [0, 1, 2, 3, 4, 5, 6, 7, 8]) (E := [(1, 4)]) Zc3 fun o3 hg_ => SJ.bfr hg_ (by decide) (fun ho9 => ?_) fun ho9 => ?_
 ·exact SJ.leaf hg_ (kd := [1, 2, 0, 0, 2, 0, 0, 0, 2]) (bef := [0, 1, 3, 0, 8, 24, 63, 0, 255]) (ord := [0, 1, 2, 3, 4, 5, 6, 7, 8]) (E := [(1, 4)]) (allB.cons ho9 allB.nil) <| J.k 0 0 rfl Ty61 (At.whole _) <| OJ.rowNew (d := 7) (t := 22) (parts := [(0, .tmp 6)]) (ps := [(0, Zau.val (⟨(⟨4, (⟨[10, 0, 0, 0, 0, 0, 0, 0, 0, 0, 0, 0, 0, 0, 0, 0], rfl⟩ : (Vec Int 16))⟩ : Za1), 8⟩ : Zak))]) (cd := Zau) (owed := []) Ty61 (Zbj.cons (cd := Zau) (q := (⟨(⟨4, (⟨[10, 0, 0, 0, 0, 0, 0, 0, 0, 0, 0, 0, 0, 0, 0, 0], rfl⟩ : (Vec Int 16))⟩ : Za1), 8⟩ : Zak)) (o := 0) rfl (Upd.arr (i := 0) (by decide) (by decide)) Zbj.nil) fun b10 => OW.nil <| J.u 0 Ty25 (.f 1 (Zel _ (⟨some (pt b10 0), 1, 1⟩ : Sl)) .nil) <| J.u 0 Ty64 (.f 0 (ZdX _ 80) (.f 1 (ZdY _ 80) .nil)) <| OJ.rowNew (d := 10) (t := 23) (parts := [(0, .tmp 9)]) (ps := [(0, ZaS.val (⟨80, 80⟩ : ZaM))]) (cd := ZaS) (owed := [⟨0, 61, (pt b2 0), Zau.val (⟨(⟨4, (⟨[10, 0, 0, 0, 0, 0, 0, 0, 0, 0, 0, 0, 0, 0, 0, 0], rfl⟩ : (Vec Int 16))⟩ : Za1), 8⟩ : Zak)⟩]) Ty64 (Zbj.cons (cd := ZaS) (q := (⟨80, 80⟩ : ZaM)) (o := 0) rfl (Upd.arr (i := 0) (by decide) (by decide)) Zbj.nil) fun b11 => OW.known (j := 0) (q := (⟨(⟨4, (⟨[10, 0, 0, 0, 0, 0, 0, 0, 0, 0, 0, 0, 0, 0, 0, 0], rfl⟩ : (Vec Int 16))⟩ : Za1), 8⟩ : Zak)) Ty61 rfl (At.whole _) <| OW.nil <| J.u 0 Ty25 (.f 2 (Zea _ (⟨some (pt b11 0), 1, 1⟩ : Sl)) .nil) <| J.u 0 Ty27 (.f 0 (Zdg _ 1) (.f 3 (Zdm _ 6) (.f 6 (Zdx _ (⟨ZaC.Not, (⟨some (pt b10 0), 1, 1⟩ : Sl), ZaC.Ports⟩ : Zan)) (.f 7 (Zef _ (⟨ZaC.Not, ZaC.Nets, (⟨some (pt b11 0), 1, 1⟩ : Sl)⟩ : Zan)) .nil)))) <| J.s 1 1 rfl Ty27 (Upd.w (⟨1, Zal.Class, Zal.Kind, 6, Zal.In, Zal.Vid, (⟨ZaC.Not, (⟨some (pt b10 0), 1, 1⟩ : Sl), ZaC.Ports⟩ : Zan), (⟨ZaC.Not, ZaC.Nets, (⟨some (pt b11 0), 1, 1⟩ : Sl)⟩ : Zan), Zal.Set, Zal.Clear, Zal.Type_, Zal.Pieces⟩ : Zap)) <| J.z 0 <| SJ.ret rfl (Res.run (ys := [.string Zpd, Zao.val (⟨1, Zal.Class, Zal.Kind, 6, Zal.In, Zal.Vid, (⟨ZaC.Not, (⟨some (pt b10 0), 1, 1⟩ : Sl), ZaC.Ports⟩ : Zan), (⟨ZaC.Not, ZaC.Nets, (⟨some (pt b11 0), 1, 1⟩ : Sl)⟩ : Zan), Zal.Set, Zal.Clear, Zal.Type_, Zal.Pieces⟩ : Zap)]) (.tmp (by kernel_rfl) (.cell (j := 1) (b := b1) (cd := Zao) (q := (⟨1, Zal.Class, Zal.Kind, 6, Zal.In, Zal.Vid, (⟨ZaC.Not, (⟨some (pt b10 0), 1, 1⟩ : Sl), ZaC.Ports⟩ : Zan), (⟨ZaC.Not, ZaC.Nets, (⟨some (pt b11 0), 1, 1⟩ : Sl)⟩ : Zan), Zal.Set, Zal.Clear, Zal.Type_, Zal.Pieces⟩ : Zap)) (by kernel_rfl) rfl Ty27 (At.whole _) .nil)) rfl)
 ·exact SJ.leaf hg_ (kd := [1, 2, 0, 0, 2, 0, 0, 0, 2]) (bef := [0, 1, 3, 0, 8, 24, 63, 0, 255]) (ord := [0, 3, 4, 1, 2, 5, 6, 7, 8]) (E := [(4, 1)]) (allB.cons ho9 allB.nil) <| J.k 0 0 rfl Ty61 (At.whole _) <| J.u 0 Ty64 (.f 0 (ZdX _ 80) (.f 1 (ZdY _ 80) .nil)) <| OJ.rowNew (d := 10) (t := 23) (parts := [(0, .tmp 9)]) (ps := [(0, ZaS.val (⟨80, 80⟩ : ZaM))]) (cd := ZaS) (owed := [⟨0, 61, (pt b2 0), Zau.val (⟨(⟨4, (⟨[10, 0, 0, 0, 0, 0, 0, 0, 0, 0, 0, 0, 0, 0, 0, 0], rfl⟩ : (Vec Int 16))⟩ : Za1), 8⟩ : Zak)⟩]) Ty64 (Zbj.cons (cd := ZaS) (q := (⟨80, 80⟩ : ZaM)) (o := 0) rfl (Upd.arr (i := 0) (by decide) (by decide)) Zbj.nil) fun b12 => OW.known (j := 0) (q := (⟨(⟨4, (⟨[10, 0, 0, 0, 0, 0, 0, 0, 0, 0, 0, 0, 0, 0, 0, 0], rfl⟩ : (Vec Int 16))⟩ : Za1), 8⟩ : Zak)) Ty61 rfl (At.whole _) <| OW.nil <| OJ.rowNew (d := 7) (t := 22) (parts := [(0, .tmp 6)]) (ps := [(0, Zau.val (⟨(⟨4, (⟨[10, 0, 0, 0, 0, 0, 0, 0, 0, 0, 0, 0, 0, 0, 0, 0], rfl⟩ : (Vec Int 16))⟩ : Za1), 8⟩ : Zak))]) (cd := Zau) (owed := []) Ty61 (Zbj.cons (cd := Zau) (q := (⟨(⟨4, (⟨[10, 0, 0, 0, 0, 0, 0, 0, 0, 0, 0, 0, 0, 0, 0, 0], rfl⟩ : (Vec Int 16))⟩ : Za1), 8⟩ : Zak)) (o := 0) rfl (Upd.arr (i := 0) (by decide) (by decide)) Zbj.nil) fun b13 => OW.nil <| J.u 0 Ty25 (.f 1 (Zel _ (⟨some (pt b13 0), 1, 1⟩ : Sl)) .nil) <| J.u 0 Ty25 (.f 2 (Zea _ (⟨some (pt b12 0), 1, 1⟩ : Sl)) .nil) <| J.u 0 Ty27 (.f 0 (Zdg _ 1) (.f 3 (Zdm _ 6) (.f 6 (Zdx _ (⟨ZaC.Not, (⟨some (pt b13 0), 1, 1⟩ : Sl), ZaC.Ports⟩ : Zan)) (.f 7 (Zef _ (⟨ZaC.Not, ZaC.Nets, (⟨some (pt b12 0), 1, 1⟩ : Sl)⟩ : Zan)) .nil)))) <| J.s 1 1 rfl Ty27 (Upd.w (⟨1, Zal.Class, Zal.Kind, 6, Zal.In, Zal.Vid, (⟨ZaC.Not, (⟨some (pt b13 0), 1, 1⟩ : Sl), ZaC.Ports⟩ : Zan), (⟨ZaC.Not, ZaC.Nets, (⟨some (pt b12 0), 1, 1⟩ : Sl)⟩ : Zan), Zal.Set, Zal.Clear, Zal.Type_, Zal.Pieces⟩ : Zap)) <| J.z 0 <| SJ.ret rfl (Res.run (ys := [.string Zpd, Zao.val (⟨1, Zal.Class, Zal.Kind, 6, Zal.In, Zal.Vid, (⟨ZaC.Not, (⟨some (pt b13 0), 1, 1⟩ : Sl), ZaC.Ports⟩ : Zan), (⟨ZaC.Not, ZaC.Nets, (⟨some (pt b12 0), 1, 1⟩ : Sl)⟩ : Zan), Zal.Set, Zal.Clear, Zal.Type_, Zal.Pieces⟩ : Zap)]) (.tmp (by kernel_rfl) (.cell (j := 1) (b := b1) (cd := Zao) (q := (⟨1, Zal.Class, Zal.Kind, 6, Zal.In, Zal.Vid, (⟨ZaC.Not, (⟨some (pt b13 0), 1, 1⟩ : Sl), ZaC.Ports⟩ : Zan), (⟨ZaC.Not, ZaC.Nets, (⟨some (pt b12 0), 1, 1⟩ : Sl)⟩ : Zan), Zal.Set, Zal.Clear, Zal.Type_, Zal.Pieces⟩ : Zap)) (by kernel_rfl) rfl Ty27 (At.whole _) .nil)) rfl)
end Go.Proofs.YtpmhinidiplhiaaDoor.Lx
