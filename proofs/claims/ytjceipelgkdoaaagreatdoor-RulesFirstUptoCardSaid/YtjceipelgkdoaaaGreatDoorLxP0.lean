/- Programs of the M-world for Go functions, each with the proof that the Go text does what it says. Printed by lxgen.py. -/
import Derived.Test.YtjceipelgkdoaaaGreatDoorLxT
set_option linter.unusedVariables false
set_option linter.unusedSimpArgs false
set_option linter.unusedSectionVars false
namespace Go.Proofs.YtjceipelgkdoaaaGreatDoor.Lx
open Go Go.Proofs
variable [Zdg]
/-! ### weir/rules.within: function 18 -/
noncomputable def Zbx.out (r_ : Bool) : Value := .bool r_
noncomputable def Zbx (a0 : Int) (a1 : Int) (a2 : Int) : M Bool :=
 (if a0 ≥ a1 then
   pure (decide (a0 ≤ a2))
  else
   pure false) >>= fun y1 =>
 pure y1
theorem ZbR (a0 : Int) (a1 : Int) (a2 : Int) : Ref Tryz.prog 18 [.int .i64 a0, .int .i64 a1, .int .i64 a2] (Zbx a0 a1 a2) Zbx.out := by
 refine J.Fn Tryz.func18 ?_
 unfold Zbx
 refine SJ.sr 1 <| J.z 1 <| SJ.sr 9 <| J.j 4 3 .bool ?_ ?_ fun y1 => ?_
 ·exact J.e 4
 ·exact J.e 4
 exact J.z 1 <| J.r

/-! ### weir/rules.typed: function 19 -/
noncomputable def Zdv.out (r_ : Bool) : Value := .bool r_
noncomputable def Zdv (a0 : Int) : M Bool :=
 (if a0 = 1 then
   pure true
  else
   pure (a0 == 58)) >>= fun y1 =>
 pure y1
theorem Zhr (a0 : Int) : Ref Tryz.prog 19 [.int .i64 a0] (Zdv a0) Zdv.out := by
 refine J.Fn Tryz.func19 ?_
 unfold Zdv
 refine SJ.sr 1 <| J.z 1 <| SJ.sr 7 <| J.j 3 2 .bool ?_ ?_ fun y1 => ?_
 ·exact J.e 3
 ·exact J.e 3
 exact J.z 1 <| J.r

/-! ### weir/rules.version: function 49 -/
noncomputable def Zd0.out (r_ : Int) : Value := .int .i64 r_
noncomputable def Zd0 (a0 : Int) : M Int :=
 if a0 = 1 then
  if a0 = 1 then
   pure 4
  else
   if a0 = 3 then
    pure 6
   else
    pure 0
 else
  if a0 = 2 then
   pure 4
  else
   if a0 = 3 then
    pure 6
   else
    pure 0
theorem Zjj (a0 : Int) : Ref Tryz.prog 49 [.int .i64 a0] (Zd0 a0) Zd0.out := by
 refine J.Fn Tryz.func49 ?_
 unfold Zd0
 refine SJ.sr 1 <| J.z 1 <| SJ.seq <| SJ.sr 1 <| J.z 1 <| SJ.block (id := 0) <| SJ.seq <| SJ.sr 2 <| J.z 2 <| J.f ?_ ?_
 ·refine SJ.skip <| J.f ?_ ?_
  ·exact SJ.sr 1 <| J.z 1 <| J.r
  refine SJ.sr 2 <| J.z 2 <| J.f ?_ ?_
  ·exact SJ.sr 1 <| J.z 1 <| J.r
  exact SJ.skip <| SJ.inBlock <| SJ.sr 1 <| J.z 1 <| J.r
 refine SJ.rg 2 <| J.z 2 <| J.f ?_ ?_
 ·exact SJ.sr 1 <| J.z 1 <| J.r
 refine SJ.sr 2 <| J.z 2 <| J.f ?_ ?_
 ·exact SJ.sr 1 <| J.z 1 <| J.r
 exact SJ.skip <| SJ.inBlock <| SJ.sr 1 <| J.z 1 <| J.r

/-! ### weir/addr.size: function 77 -/
noncomputable def Zew.out (r_ : Int) : Value := .int .i64 r_
noncomputable def Zew (a0 : Zbo) : M Int :=
 newv 28 ZaX a0 >>= fun b1 =>
 ld (cI .i64) (pt b1 0) >>= fun x2 =>
 if x2 = 6 then
  pure 128
 else
  ld (cI .i64) (pt b1 0) >>= fun x3 =>
  (if x3 ≠ 4 then
    pure true
   else
    cut 1 ⟨some (Addr.add (pt b1 0) 1), 16, 16⟩ (some 4) none none >>= fun r4 =>
    (chk (12 ≤ r4.len) >>= fun _ => nilck r4.a) >>= fun p5 =>
    ld ((cI .u8).arr 12) p5 >>= fun x6 =>
    pure (!eqv x6 (⟨[0, 0, 0, 0, 0, 0, 0, 0, 0, 0, 0, 0], rfl⟩ : (Vec Int 12)))) >>= fun y7 =>
  if y7 = true then
   pure 0
  else
   pure 32
theorem ZgY (a0 : Zbo) : Ref Tryz.prog 77 [ZaX.val a0] (Zew a0) Zew.out := by
 refine J.Fn Tryz.func77 ?_
 unfold Zew
 refine SJ.sr 2 <| J.B 0 fun b1 => J.z 1 <| SJ.seq <| SJ.sr 3 <| J.l 1 Ty3 fun x2 => J.z 1 <| J.f ?_ ?_
 ·exact SJ.sr 1 <| J.z 1 <| J.r
 refine SJ.skip <| SJ.seq <| SJ.sr 11 <| J.l 1 Ty3 fun x3 => J.j 2 6 .bool ?_ ?_ fun y7 => ?_
 ·exact J.e 7
 ·exact J.ca 1 fun r4 => OJ.toArr (d := 12) (t := 177) (E := 5) (y := .tmp 11) (s := r4) fun p5 => J.l 0 ZsW fun x6 => J.u 0 ZsW .nil <| OJ.neq (d := 15) (T := 177) (yT := 177) (y := .tmp 13) (z := .tmp 14) (cd := ((cI .u8).arr 12)) (p := x6) (q := (⟨[0, 0, 0, 0, 0, 0, 0, 0, 0, 0, 0, 0], rfl⟩ : (Vec Int 12))) rfl Ztn <| J.e 1
 refine J.z 0 <| J.f ?_ ?_
 ·exact SJ.sr 1 <| J.z 1 <| J.r
 exact SJ.skip <| SJ.sr 1 <| J.z 1 <| J.r

/-! ### weir/addr.masked: function 78 -/
noncomputable def Zbn.B : Code := bod Tryz.f78
noncomputable def Zbn.cx : Fx := ⟨Tryz.prog, 78, Tryz.f78, none⟩
noncomputable def Zbn.out (r_ : (Vec Int 16)) : Value := ((cI .u8).arr 16).val r_
noncomputable def Zbn.F1 (a0 : (Vec Int 16)) (a1 : Int) (b1 : Nat) (b2 : Nat) (b3 : Nat) : LF (Int × (Vec Int 16)) (Vec Int 16) := ⟨[.inBlock 0, .code (c2 (c2 (c2 Zbn.B)))], c1 (c2 (c1 (c2 (c2 Zbn.B)))), fun s_ => [(1, .int .i64 a1), (2, .pointer (some (pt b1 0))), (4, .pointer (some (pt b2 0))), (5, .pointer (some (pt b3 0))), (8, .int .i64 s_.1)], fun s_ => [(b3, ((cI .u8).arr 16).enc s_.2), (b2, ((cI .u8).arr 16).enc (Vec.rep 16 0)), (b1, ((cI .u8).arr 16).enc a0)], (rt Zbn.out)⟩
noncomputable def Zbn.L1 (a0 : (Vec Int 16)) (a1 : Int) (s4 : Int) (s5 : (Vec Int 16)) : M (LS (Int × (Vec Int 16)) (Vec Int 16)) :=
 if s4 < 16 then
  chk ((0 : Int) ≤ s4 ∧ s4 < (16 : Nat)) >>= fun _ =>
  chk (0 ≤ (IntKind.wrap .u64 (if (if 0 < (IntKind.wrap .i64 (a1 - (IntKind.wrap .i64 (8 * s4)))) then (IntKind.wrap .i64 (a1 - (IntKind.wrap .i64 (8 * s4)))) else 0) < 8 then (if 0 < (IntKind.wrap .i64 (a1 - (IntKind.wrap .i64 (8 * s4)))) then (IntKind.wrap .i64 (a1 - (IntKind.wrap .i64 (8 * s4)))) else 0) else 8))) >>= fun _ =>
  chk ((0 : Int) ≤ s4 ∧ s4 < (16 : Nat)) >>= fun _ =>
  pure (LS.next (IntKind.wrap .i64 (s4 + 1), (Vec.s s5 s4 (band .u8 (Vec.g a0 s4 0) (IntKind.wrap .u8 (Int.fdiv 65280 (2 ^ min (Int.toNat (IntKind.wrap .u64 (if (if 0 < (IntKind.wrap .i64 (a1 - (IntKind.wrap .i64 (8 * s4)))) then (IntKind.wrap .i64 (a1 - (IntKind.wrap .i64 (8 * s4)))) else 0) < 8 then (if 0 < (IntKind.wrap .i64 (a1 - (IntKind.wrap .i64 (8 * s4)))) then (IntKind.wrap .i64 (a1 - (IntKind.wrap .i64 (8 * s4)))) else 0) else 8))) 64)))))))
 else
  pure (LS.done s5)
theorem Zbn.L1_ok (a0 : (Vec Int 16)) (a1 : Int) (b1 : Nat) (b2 : Nat) (b3 : Nat) : LJ Zbn.cx (Zbn.F1 a0 a1 b1 b2 b3) (fun s_ => Zbn.L1 a0 a1 s_.1 s_.2) := by
 rintro ⟨s4, s5⟩
 show SJ _ _ _ _ (Zbn.L1 a0 a1 s4 s5) _
 unfold Zbn.L1
 refine SJ.sr 1 <| J.z 1 <| SJ.seq <| J.f ?_ ?_
 ·exact SJ.skip <| SJ.seq <| SJ.block (id := 1) <| SJ.sr 2 <| J.z 2 <| SJ.sr 7 <| J.g 4 <| OJ.max (d := 15) (t := 3) (u := 3) (so := .const (.int .i64 0)) (xo := .tmp 14) (k := .i64) (p := 0) (q := (IntKind.wrap .i64 (a1 - (IntKind.wrap .i64 (8 * s4))))) <| OJ.min (d := 16) (t := 3) (u := 3) (so := .const (.int .i64 8)) (xo := .tmp 15) (k := .i64) (p := 8) (q := (if 0 < (IntKind.wrap .i64 (a1 - (IntKind.wrap .i64 (8 * s4)))) then (IntKind.wrap .i64 (a1 - (IntKind.wrap .i64 (8 * s4)))) else 0)) <| J.z 1 <| SJ.rg 11 <| J.y 2 fun hb12 hb13 => J.k 0 2 rfl Ty5 (At.zero (At.arr (z := 0) hb12 hb13)) <| J.g 2 <| OJ.shr (d := 23) (T := 3) (yT := 132) (y := .const (.int .i64 65280)) (z := .tmp 22) (k := .i64) (yk := .u64) (p := 65280) (q := (IntKind.wrap .u64 (if (if 0 < (IntKind.wrap .i64 (a1 - (IntKind.wrap .i64 (8 * s4)))) then (IntKind.wrap .i64 (a1 - (IntKind.wrap .i64 (8 * s4)))) else 0) < 8 then (if 0 < (IntKind.wrap .i64 (a1 - (IntKind.wrap .i64 (8 * s4)))) then (IntKind.wrap .i64 (a1 - (IntKind.wrap .i64 (8 * s4)))) else 0) else 8))) fun hq16 => J.y 2 fun hb14 hb15 => J.s (u := (band .u8 (Vec.g a0 s4 0) (IntKind.wrap .u8 (Int.fdiv 65280 (2 ^ min (Int.toNat (IntKind.wrap .u64 (if (if 0 < (IntKind.wrap .i64 (a1 - (IntKind.wrap .i64 (8 * s4)))) then (IntKind.wrap .i64 (a1 - (IntKind.wrap .i64 (8 * s4)))) else 0) < 8 then (if 0 < (IntKind.wrap .i64 (a1 - (IntKind.wrap .i64 (8 * s4)))) then (IntKind.wrap .i64 (a1 - (IntKind.wrap .i64 (8 * s4)))) else 0) else 8))) 64))))) 0 0 rfl Ty5 (Upd.zero (Upd.arr hb14 hb15)) <| J.z 0 <| SJ.inBlock <| SJ.rg 2 <| J.z 2 <| J.o rfl
 exact SJ.exit (id := 0) (by rfl) <| SJ.sr 2 <| J.k 0 0 rfl Ty26 (At.whole _) <| J.s 0 1 rfl Ty26 (Upd.w s5) <| J.z 0 <| J.rc (.c 1 rfl Ty26 .n)
noncomputable def Zbn (a0 : (Vec Int 16)) (a1 : Int) : M (Vec Int 16) :=
 slot 26 >>= fun b1 =>
 slot 26 >>= fun b2 =>
 slot 26 >>= fun b3 =>
 Zc7 (fun s_ : (Int × (Vec Int 16)) => Zbn.L1 a0 a1 s_.1 s_.2) (0, (Vec.rep 16 0))
theorem Zhu (a0 : (Vec Int 16)) (a1 : Int) : Ref Tryz.prog 78 [((cI .u8).arr 16).val a0, .int .i64 a1] (Zbn a0 a1) Zbn.out := by
 refine J.Fn Tryz.func78 ?_
 unfold Zbn
 exact SJ.sr 2 <| J.b 0 ((cI .u8).arr 16) a0 fun b1 => J.a 0 Ty26 fun b2 => J.z 0 <| SJ.sr 1 <| J.a 0 Ty26 fun b3 => J.z 0 <| SJ.seq <| SJ.sr 1 <| J.z 1 <| SJ.block (id := 0) <| J.L (Zbn.L1_ok a0 a1 b1 b2 b3)

/-! ### weir/addr.ValidPrefix: function 50 -/
noncomputable def ZbU.out (r_ : Int) : Value := .int .i64 r_
noncomputable def ZbU (a0 : Zab) : M Int :=
 slot 91 >>= fun b1 =>
 Zew a0.IP >>= fun r2 =>
 if r2 = 0 then
  pure 40
 else
  (if a0.Len < 0 then
    pure true
   else
    pure (decide (a0.Len > r2))) >>= fun y9 =>
  if y9 = true then
   pure 45
  else
   draw >>= fun _ =>
   Zbn a0.IP.A a0.Len >>= fun r12 =>
   if ¬ (r12 = a0.IP.A) then
    pure 46
   else
    pure 0
theorem ZdB (a0 : Zab) : Ref Tryz.prog 50 [Zaw.val a0] (ZbU a0) ZbU.out := by
 refine J.Fn Tryz.func50 ?_
 unfold ZbU
 refine SJ.sr 2 <| J.b 0 Zaw a0 fun b1 => J.z 1 <| SJ.seq <| SJ.sr 4 <| J.k 1 0 rfl Ty28 (ZbE _) <| J.C 0 F77 (ZgY _) fun r2 => J.z 1 <| SJ.block (id := 0) <| SJ.sr 3 <| J.z 3 <| J.f ?_ ?_
 ·exact SJ.sr 1 <| J.z 1 <| J.r
 refine SJ.sr 10 <| J.k 1 0 rfl Ty3 (Zb2 _) <| J.j 2 4 .bool ?_ ?_ fun y9 => ?_
 ·exact J.e 5
 ·exact J.k 1 0 rfl Ty3 (Zb2 _) <| J.e 3
 refine J.z 1 <| J.f ?_ ?_
 ·exact SJ.sr 1 <| J.z 1 <| J.r
 refine SJ.seq <| J.D [0, 1, 2, 3, 4, 6, 7, 8, 5, 9, 10] Zc0 <| J.k 2 0 rfl Ty26 (At.trans (ZbE _) (Zdf _)) <| J.k 1 0 rfl Ty3 (Zb2 _) <| J.k 2 0 rfl Ty26 (At.trans (ZbE _) (Zdf _)) <| OJ.call (d := 26) (g := 78) (ats := #[26, 3]) (args := [.tmp 23, .tmp 25]) (owed := [⟨8, 26, (pt b1 1), ((cI .u8).arr 16).val a0.IP.A⟩]) F78 (Zhu a0.IP.A a0.Len) fun r12 => OW.known (j := 0) (q := a0.IP.A) Ty26 rfl (At.trans (ZbE a0) (Zdf a0.IP)) <| OW.nil <| OJ.neq (d := 30) (T := 26) (yT := 26) (y := .tmp 26) (z := .tmp 29) (cd := ((cI .u8).arr 16)) (p := r12) (q := a0.IP.A) rfl Eq26 <| J.z 1 <| J.f ?_ ?_
 ·exact SJ.sr 1 <| J.z 1 <| J.r
 exact SJ.skip <| SJ.inBlock <| SJ.sr 1 <| J.z 1 <| J.r

/-! ### weir/rules.netFits: function 31 -/
noncomputable def Zc4.out (r_ : Bool) : Value := .bool r_
noncomputable def Zc4 (a0 : Zab) (a1 : Int) : M Bool :=
 slot 91 >>= fun b1 =>
 Zd0 a1 >>= fun r2 =>
 ZbU a0 >>= fun r3 =>
 (if r3 = 0 then
   (if r2 = 0 then
     pure true
    else
     pure (a0.IP.V == r2)) >>= fun y4 =>
   pure y4
  else
   pure false) >>= fun y5 =>
 pure y5
theorem Zgn (a0 : Zab) (a1 : Int) : Ref Tryz.prog 31 [Zaw.val a0, .int .i64 a1] (Zc4 a0 a1) Zc4.out := by
 refine J.Fn Tryz.func31 ?_
 unfold Zc4
 refine SJ.sr 2 <| J.b 0 Zaw a0 fun b1 => J.z 1 <| SJ.sr 3 <| J.C 1 F49 (Zjj _) fun r2 => J.z 1 <| SJ.sr 15 <| J.k 0 0 rfl Ty91 (At.whole _) <| J.C 0 F50 (ZdB _) fun r3 => J.g 2 <| OJ.join (b := (r3 == 0)) [4, 5, 6, 7, 8, 9, 10, 11, 12, 13] [14] [21] (fun y5 => [(21, .bool y5)]) [] [] (t := 11) beq_iff_eq (fun hp_ => ?_) (fun hp_ => ?_) (fun _ _ _ _ _ _ h_ => h_) fun y5 => ?_
 ·refine J.g 3 <| OJ.join (b := (r2 == 0)) [7, 8, 9, 10, 11, 12] [13] [11, 20] (fun y4 => [(11, .bool true), (20, .bool y4)]) [] [] (t := 14) beq_iff_eq (fun hp_ => ?_) (fun hp_ => ?_) (fun _ _ _ _ _ hq_ h_ => ⟨fun e_ he_ => (hq_ e_ he_).elim (fun h => h_.1 e_ h) (fun h => nomatch h), h_.2⟩) fun y4 => ?_
  ·exact J.g 6 <| OJ.nil ⟨(Cov.mem Cov.nil), rfl, _, rfl, by kernel_rfl⟩
  ·exact J.k 2 0 rfl Ty3 (At.trans (ZbE _) (Zde _)) <| J.g 3 <| OJ.nil ⟨(Cov.mem Cov.nil), rfl, _, rfl, by kernel_rfl⟩
  exact J.g 1 <| OJ.nil ⟨(Cov.mem Cov.nil), rfl, _, rfl, by kernel_rfl⟩
 ·exact J.g 10 <| OJ.nil ⟨(Cov.mem Cov.nil), rfl, _, rfl, by kernel_rfl⟩
 exact J.z 1 <| J.r

/-! ### weir/rules.ported: function 32 -/
noncomputable def Zds.out (r_ : Bool) : Value := .bool r_
noncomputable def Zds (a0 : Int) : M Bool :=
 (if a0 = 6 then
   pure true
  else
   pure (a0 == 17)) >>= fun y1 =>
 pure y1
theorem ZgD (a0 : Int) : Ref Tryz.prog 32 [.int .i64 a0] (Zds a0) Zds.out := by
 refine J.Fn Tryz.func32 ?_
 unfold Zds
 refine SJ.sr 1 <| J.z 1 <| SJ.sr 7 <| J.j 3 2 .bool ?_ ?_ fun y1 => ?_
 ·exact J.e 3
 ·exact J.e 3
 exact J.z 1 <| J.r

/-! ### weir/rules.checkSide: function 20 -/
noncomputable def Zaf.B : Code := bod Tryz.f20
noncomputable def Zaf.cx : Fx := ⟨Tryz.prog, 20, Tryz.f20, none⟩
noncomputable def Zaf.out (r_ : Int) : Value := .int .i64 r_
noncomputable def Zaf.K1 (a0 : Zaj) (a2 : Int) : M Int :=
 (if (a0.Ports.len : Int) > 0 then
   Zds a2 >>= fun r19 =>
   pure (!r19)
  else
   pure false) >>= fun y20 =>
 if y20 = true then
  pure 165
 else
  pure 0
theorem Zaf.K1_ok (a0 : Zaj) (a2 : Int) (b1 : Nat) :
  SJ Zaf.cx [.code (c2 (c2 (c2 (c2 (c2 Zaf.B)))))] [(2, .int .i64 a2), (3, .pointer (some (pt b1 0)))] [(b1, ZaC.enc a0)] (Zaf.K1 a0 a2) (rt Zaf.out) := by
 unfold Zaf.K1
 refine SJ.seq <| SJ.sr 9 <| J.k 1 0 rfl Ty59 (ZaU _) <| J.j 3 3 .bool ?_ ?_ fun y20 => ?_
 ·exact J.C 1 F32 (ZgD _) fun r19 => J.e 2
 ·exact J.e 4
 refine J.z 0 <| J.f ?_ ?_
 ·exact SJ.sr 1 <| J.z 1 <| J.r
 exact SJ.skip <| SJ.sr 1 <| J.z 1 <| J.r
noncomputable def Zaf.F1 (a0 : Zaj) (a2 : Int) (b1 : Nat) : LF Int Int := ⟨[.inBlock 2, .code (c2 (c2 (c2 (c2 (c2 Zaf.B)))))], c1 (c2 (c1 (c2 (c2 (c2 (c2 Zaf.B)))))), fun s_ => [(2, .int .i64 a2), (3, .pointer (some (pt b1 0))), (42, Sl.v a0.Ports), (43, .int .i64 (a0.Ports.len : Int)), (44, .int .i64 s_)], fun s_ => [(b1, ZaC.enc a0)], (rt Zaf.out)⟩
noncomputable def Zaf.L1 (a0 : Zaj) (a2 : Int) (s11 : Int) : M (LS Int Int) :=
 if s11 < (a0.Ports.len : Int) then
  idx a0.Ports.a a0.Ports.len s11 2 >>= fun p22 =>
  ld ZaV p22 >>= fun x23 =>
  slot 93 >>= fun b24 =>
  (if x23.Lo < 0 then
    pure true
   else
    pure (decide (x23.Hi > 65535))) >>= fun y25 =>
  (if y25 = true then
    pure true
   else
    pure (decide (x23.Lo > x23.Hi))) >>= fun y26 =>
  if y26 = true then
   pure (LS.done 164)
  else
   pure (LS.next (IntKind.wrap .i64 (s11 + 1)))
 else
  (Zaf.K1 a0 a2) >>= fun b => pure (LS.done b)
theorem Zaf.L1_ok (a0 : Zaj) (a2 : Int) (b1 : Nat) : LJ Zaf.cx (Zaf.F1 a0 a2 b1) (fun s_ => Zaf.L1 a0 a2 s_) := by
 rintro s11
 show SJ _ _ _ _ (Zaf.L1 a0 a2 s11) _
 unfold Zaf.L1
 refine SJ.sr 1 <| J.z 1 <| SJ.seq <| J.f ?_ ?_
 ·refine SJ.skip <| SJ.seq <| SJ.block (id := 3) <| SJ.sr 4 <| J.i 0 fun p22 => J.l 0 Ty93 fun x23 => J.a 0 Ty93 fun b24 => J.s 0 0 rfl Ty93 (Upd.w x23) <| J.z 0 <| SJ.sr 15 <| J.k 1 0 rfl Ty3 (ZcX _) <| J.j 2 3 .bool ?_ ?_ fun y25 => ?_
  ·exact J.e 4
  ·exact J.k 1 0 rfl Ty3 (Zdn _) <| J.e 2
  refine J.j 1 5 .bool ?_ ?_ fun y26 => ?_
  ·exact J.e 6
  ·exact J.k 1 0 rfl Ty3 (ZcX _) <| J.k 1 0 rfl Ty3 (Zdn _) <| J.e 2
  refine J.z 0 <| J.f ?_ ?_
  ·exact SJ.sr 1 <| J.z 1 <| J.r
  exact SJ.skip <| SJ.inBlock <| SJ.rg 2 <| J.z 2 <| SJ.forget (List.Sublist.cons _ (List.Sublist.cons_cons _ List.Sublist.slnil)) <| J.o rfl
 exact SJ.exit (id := 2) (by rfl) <| J.q <| SJ.done <| Zaf.K1_ok a0 a2 b1
noncomputable def Zaf.K2 (a0 : Zaj) (a2 : Int) : M Int :=
 if (a0.Ports.len : Int) > 16 then
  pure 164
 else
  Zc7 (fun s_ : Int => Zaf.L1 a0 a2 s_) 0
theorem Zaf.K2_ok (a0 : Zaj) (a2 : Int) (b1 : Nat) :
  SJ Zaf.cx [.code (c2 (c2 (c2 Zaf.B)))] [(2, .int .i64 a2), (3, .pointer (some (pt b1 0)))] [(b1, ZaC.enc a0)] (Zaf.K2 a0 a2) (rt Zaf.out) := by
 unfold Zaf.K2
 refine SJ.seq <| SJ.sr 4 <| J.k 1 0 rfl Ty59 (ZaU _) <| J.z 2 <| J.f ?_ ?_
 ·exact SJ.sr 1 <| J.z 1 <| J.r
 exact SJ.skip <| SJ.seq <| SJ.sr 4 <| J.k 1 0 rfl Ty59 (ZaU _) <| J.z 2 <| SJ.block (id := 2) <| J.L (Zaf.L1_ok a0 a2 b1)
noncomputable def Zaf.F2 (a0 : Zaj) (a1 : Int) (a2 : Int) (b1 : Nat) : LF Int Int := ⟨[.inBlock 0, .code (c2 (c2 (c2 Zaf.B)))], c1 (c2 (c1 (c2 (c2 Zaf.B)))), fun s_ => [(1, .int .i64 a1), (2, .int .i64 a2), (3, .pointer (some (pt b1 0))), (26, Sl.v a0.Nets), (27, .int .i64 (a0.Nets.len : Int)), (28, .int .i64 s_)], fun s_ => [(b1, ZaC.enc a0)], (rt Zaf.out)⟩
noncomputable def Zaf.L2 (a0 : Zaj) (a1 : Int) (a2 : Int) (s4 : Int) : M (LS Int Int) :=
 if s4 < (a0.Nets.len : Int) then
  idx a0.Nets.a a0.Nets.len s4 18 >>= fun p30 =>
  ld Zaw p30 >>= fun x31 =>
  slot 91 >>= fun b32 =>
  Zc4 x31 a1 >>= fun r33 =>
  if ¬ (r33 = true) then
   pure (LS.done 163)
  else
   pure (LS.next (IntKind.wrap .i64 (s4 + 1)))
 else
  (Zaf.K2 a0 a2) >>= fun b => pure (LS.done b)
theorem Zaf.L2_ok (a0 : Zaj) (a1 : Int) (a2 : Int) (b1 : Nat) : LJ Zaf.cx (Zaf.F2 a0 a1 a2 b1) (fun s_ => Zaf.L2 a0 a1 a2 s_) := by
 rintro s4
 show SJ _ _ _ _ (Zaf.L2 a0 a1 a2 s4) _
 unfold Zaf.L2
 refine SJ.sr 1 <| J.z 1 <| SJ.seq <| J.f ?_ ?_
 ·refine SJ.skip <| SJ.seq <| SJ.block (id := 1) <| SJ.sr 4 <| J.i 0 fun p30 => J.l 0 Ty91 fun x31 => J.a 0 Ty91 fun b32 => J.s 0 0 rfl Ty91 (Upd.w x31) <| J.z 0 <| SJ.sr 4 <| J.k 0 0 rfl Ty91 (At.whole _) <| J.C 1 F31 (Zgn _ _) fun r33 => J.z 1 <| J.f ?_ ?_
  ·exact SJ.sr 1 <| J.z 1 <| J.r
  exact SJ.skip <| SJ.inBlock <| SJ.rg 2 <| J.z 2 <| SJ.forget (List.Sublist.cons _ (List.Sublist.cons_cons _ List.Sublist.slnil)) <| J.o rfl
 exact SJ.exit (id := 0) (by rfl) <| J.q <| SJ.done <| Zaf.K2_ok a0 a2 b1
noncomputable def Zaf (a0 : Zaj) (a1 : Int) (a2 : Int) : M Int :=
 slot 61 >>= fun b1 =>
 (if (a0.Nets.len : Int) > 16 then
   pure true
  else
   (if a0.Not = true then
     pure ((a0.Nets.len : Int) == 0)
    else
     pure false) >>= fun y2 =>
   pure y2) >>= fun y3 =>
 if y3 = true then
  pure 163
 else
  Zc7 (fun s_ : Int => Zaf.L2 a0 a1 a2 s_) 0
theorem Zfr (a0 : Zaj) (a1 : Int) (a2 : Int) : Ref Tryz.prog 20 [ZaC.val a0, .int .i64 a1, .int .i64 a2] (Zaf a0 a1 a2) Zaf.out := by
 refine J.Fn Tryz.func20 ?_
 unfold Zaf
 refine SJ.sr 2 <| J.b 0 ZaC a0 fun b1 => J.z 1 <| SJ.seq <| SJ.sr 14 <| J.k 1 0 rfl Ty58 (Zav _) <| J.g 3 <| OJ.join (b := decide ((a0.Nets.len : Int) > 16)) [5, 6, 7, 8, 9, 10, 11, 12, 13] [] [1, 2, 3, 24] (fun y3 => [(1, .int .i64 a1), (2, .int .i64 a2), (3, .pointer (some (pt b1 0))), (24, .bool y3)]) [] [] (t := 15) decide_eq_true_iff (fun hp_ => ?_) (fun hp_ => ?_) (fun _ _ _ _ _ _ h_ => h_) fun y3 => ?_
 ·exact J.g 9 <| OJ.nil ⟨(Cov.mem Cov.nil), rfl, _, rfl, by kernel_rfl⟩
 ·refine J.k 1 0 rfl Ty4 (ZaI _) <| J.g 1 <| OJ.join (b := a0.Not) [8, 9, 10, 11, 12] [13] [1, 2, 3, 15, 23] (fun y2 => [(1, .int .i64 a1), (2, .int .i64 a2), (3, .pointer (some (pt b1 0))), (15, .bool false), (23, .bool y2)]) [] [] (t := 18) Iff.rfl (fun hp_ => ?_) (fun hp_ => ?_) (fun _ _ _ _ _ hq_ h_ => ⟨fun e_ he_ => (hq_ e_ he_).elim (fun h => h_.1 e_ h) (fun h => nomatch h), h_.2⟩) fun y2 => ?_
  ·exact J.k 1 0 rfl Ty58 (Zav _) <| J.g 3 <| OJ.nil ⟨(Cov.mem Cov.nil), rfl, _, rfl, by kernel_rfl⟩
  ·exact J.g 5 <| OJ.nil ⟨(Cov.mem Cov.nil), rfl, _, rfl, by kernel_rfl⟩
  exact J.g 1 <| OJ.nil ⟨(Cov.mem Cov.nil), rfl, _, rfl, by kernel_rfl⟩
 refine J.z 0 <| J.f ?_ ?_
 ·exact SJ.sr 1 <| J.z 1 <| J.r
 exact SJ.skip <| SJ.seq <| SJ.sr 4 <| J.k 1 0 rfl Ty58 (Zav _) <| J.z 2 <| SJ.block (id := 0) <| J.L (Zaf.L2_ok a0 a1 a2 b1)

/-! ### weir/rules.Check: function 10 -/
noncomputable def ZaS.B : Code := bod Tryz.f10
noncomputable def ZaS.cx : Fx := ⟨Tryz.prog, 10, Tryz.f10, none⟩
noncomputable def ZaS.out (r_ : Int) : Value := .int .i64 r_
noncomputable def ZaS.K1 (a0 : Zal) (j56 : Bool) : M Int :=
 if j56 = true then
  pure 165
 else
  Zaf a0.From a0.Kind a0.Proto >>= fun r57 =>
  if r57 ≠ 0 then
   pure r57
  else
   Zaf a0.To a0.Kind a0.Proto >>= fun r58 =>
   pure r58
theorem ZaS.K1_ok (a0 : Zal) (b1 : Nat) (j56 : Bool) :
  SJ ZaS.cx [.code (c2 (c2 (c2 (c2 (c2 (c1 (c1 (c2 (c2 (c2 ZaS.B)))))))))), .inBlock 0, .code (c2 (c2 (c2 (c2 ZaS.B))))] [(1, .pointer (some (pt b1 0))), (77, .bool j56)] [(b1, Zak.enc a0)] (ZaS.K1 a0 j56) (rt ZaS.out) := by
 unfold ZaS.K1
 refine J.f ?_ ?_
 ·exact SJ.sr 1 <| J.z 1 <| J.r
 refine SJ.skip <| SJ.inBlock <| SJ.seq <| SJ.sr 8 <| J.k 1 0 rfl Ty61 (ZbJ _) <| J.k 1 0 rfl Ty3 (ZbV _) <| J.k 1 0 rfl Ty3 (Zbv _) <| J.C 0 F20 (Zfr _ _ _) fun r57 => J.z 1 <| SJ.sr 2 <| J.z 2 <| J.f ?_ ?_
 ·exact SJ.sr 2 <| J.z 2 <| J.r
 exact SJ.skip <| SJ.sr 8 <| J.k 1 0 rfl Ty61 (ZbM _) <| J.k 1 0 rfl Ty3 (ZbV _) <| J.k 1 0 rfl Ty3 (Zbv _) <| J.C 0 F20 (Zfr _ _ _) fun r58 => J.z 1 <| J.r
noncomputable def ZaS.K2 (a0 : Zal) (j44 : Bool) : M Int :=
 if j44 = true then
  pure 165
 else
  (if (bor .i64 a0.Set a0.Clear) ≠ 0 then
    pure (a0.Proto != 6)
   else
    pure false) >>= fun y53 =>
  if y53 = true then
   ZaS.K1 a0 y53
  else
   (if a0.Type_ ≠ 0 then
     Zdv a0.Proto >>= fun r61 =>
     pure (!r61)
    else
     pure false) >>= fun y62 =>
   ZaS.K1 a0 y62
theorem ZaS.K2_ok (a0 : Zal) (b1 : Nat) (j44 : Bool) :
  SJ ZaS.cx [.code (c2 (c2 (c2 (c1 (c1 (c2 (c2 (c2 ZaS.B)))))))), .inBlock 0, .code (c2 (c2 (c2 (c2 ZaS.B))))] [(1, .pointer (some (pt b1 0))), (60, .bool j44)] [(b1, Zak.enc a0)] (ZaS.K2 a0 j44) (rt ZaS.out) := by
 unfold ZaS.K2
 refine J.f ?_ ?_
 ·exact SJ.sr 1 <| J.z 1 <| J.r
 refine SJ.seq <| SJ.sr 12 <| J.k 1 0 rfl Ty3 (Zb8 _) <| J.k 1 0 rfl Ty3 (ZbN _) <| J.j 3 3 .bool ?_ ?_ fun y53 => ?_
 ·exact J.k 1 0 rfl Ty3 (Zbv _) <| J.e 2
 ·exact J.e 4
 refine J.z 1 <| J.f ?_ ?_
 ·exact SJ.skip <| J.q <| ZaS.K1_ok a0 b1 y53
 refine SJ.rg 10 <| J.k 1 0 rfl Ty3 (Zcs _) <| J.j 2 4 .bool ?_ ?_ fun y62 => ?_
 ·exact J.k 1 0 rfl Ty3 (Zbv _) <| J.C 0 F19 (Zhr _) fun r61 => J.e 2
 ·exact J.e 5
 exact J.z 1 <| J.q <| ZaS.K1_ok a0 b1 y62
noncomputable def ZaS (a0 : Zal) : M Int :=
 slot 63 >>= fun b1 =>
 Zbx a0.Act 1 3 >>= fun r2 =>
 (if r2 = true then
   Zbx a0.Class 0 7 >>= fun r3 =>
   pure r3
  else
   pure false) >>= fun y4 =>
 (if y4 = true then
   Zbx a0.Kind 0 3 >>= fun r5 =>
   pure r5
  else
   pure false) >>= fun y6 =>
 (if y6 = true then
   Zbx a0.Proto 0 255 >>= fun r7 =>
   pure r7
  else
   pure false) >>= fun y8 =>
 (if y8 = true then
   Zbx a0.In 0 8 >>= fun r9 =>
   pure r9
  else
   pure false) >>= fun y10 =>
 (if y10 = true then
   Zbx a0.Vid 0 4094 >>= fun r11 =>
   pure r11
  else
   pure false) >>= fun y12 =>
 (if y12 = true then
   Zbx a0.Set 0 255 >>= fun r13 =>
   pure r13
  else
   pure false) >>= fun y14 =>
 (if y14 = true then
   Zbx a0.Clear 0 255 >>= fun r15 =>
   pure r15
  else
   pure false) >>= fun y16 =>
 (if y16 = true then
   Zbx a0.Type_ 0 256 >>= fun r17 =>
   pure r17
  else
   pure false) >>= fun y18 =>
 (if y18 = true then
   pure ((band .i64 a0.Set a0.Clear) == 0)
  else
   pure false) >>= fun y19 =>
 if ¬ (y19 = true) then
  pure 166
 else
  (if a0.Class ≠ 0 then
    pure (a0.Act != 1)
   else
    pure false) >>= fun y42 =>
  if y42 = true then
   ZaS.K2 a0 y42
  else
   (if a0.Proto ≠ 0 then
     pure (a0.Kind == 1)
    else
     pure false) >>= fun y65 =>
   ZaS.K2 a0 y65
theorem ZfF (a0 : Zal) : Ref Tryz.prog 10 [Zak.val a0] (ZaS a0) ZaS.out := by
 refine J.Fn Tryz.func10 ?_
 unfold ZaS
 refine SJ.sr 2 <| J.b 0 Zak a0 fun b1 => J.z 1 <| SJ.sr 24 <| J.k 1 0 rfl Ty3 (Zb9 _) <| J.C 0 F18 (ZbR _ _ _) fun r2 => J.j 1 3 .bool ?_ ?_ fun y4 => ?_
 ·exact J.k 1 0 rfl Ty3 (ZcQ _) <| J.C 0 F18 (ZbR _ _ _) fun r3 => J.e 1
 ·exact J.e 4
 refine J.j 1 3 .bool ?_ ?_ fun y6 => ?_
 ·exact J.k 1 0 rfl Ty3 (ZbV _) <| J.C 0 F18 (ZbR _ _ _) fun r5 => J.e 1
 ·exact J.e 4
 refine J.j 1 3 .bool ?_ ?_ fun y8 => ?_
 ·exact J.k 1 0 rfl Ty3 (Zbv _) <| J.C 0 F18 (ZbR _ _ _) fun r7 => J.e 1
 ·exact J.e 4
 refine J.j 1 3 .bool ?_ ?_ fun y10 => ?_
 ·exact J.k 1 0 rfl Ty3 (ZdJ _) <| J.C 0 F18 (ZbR _ _ _) fun r9 => J.e 1
 ·exact J.e 4
 refine J.z 1 <| SJ.sr 30 <| J.j 2 3 .bool ?_ ?_ fun y12 => ?_
 ·exact J.k 1 0 rfl Ty3 (Zdm _) <| J.C 0 F18 (ZbR _ _ _) fun r11 => J.e 1
 ·exact J.e 4
 refine J.j 1 3 .bool ?_ ?_ fun y14 => ?_
 ·exact J.k 1 0 rfl Ty3 (Zb8 _) <| J.C 0 F18 (ZbR _ _ _) fun r13 => J.e 1
 ·exact J.e 4
 refine J.j 1 3 .bool ?_ ?_ fun y16 => ?_
 ·exact J.k 1 0 rfl Ty3 (ZbN _) <| J.C 0 F18 (ZbR _ _ _) fun r15 => J.e 1
 ·exact J.e 4
 refine J.j 1 3 .bool ?_ ?_ fun y18 => ?_
 ·exact J.k 1 0 rfl Ty3 (Zcs _) <| J.C 0 F18 (ZbR _ _ _) fun r17 => J.e 1
 ·exact J.e 4
 refine J.j 1 6 .bool ?_ ?_ fun y19 => ?_
 ·exact J.k 1 0 rfl Ty3 (Zb8 _) <| J.k 1 0 rfl Ty3 (ZbN _) <| J.e 3
 ·exact J.e 7
 refine J.z 1 <| SJ.seq <| SJ.block (id := 0) <| SJ.sr 3 <| J.z 3 <| J.f ?_ ?_
 ·exact SJ.sr 1 <| J.z 1 <| J.r
 refine SJ.seq <| SJ.sr 9 <| J.k 1 0 rfl Ty3 (ZcQ _) <| J.j 2 3 .bool ?_ ?_ fun y42 => ?_
 ·exact J.k 1 0 rfl Ty3 (Zb9 _) <| J.e 2
 ·exact J.e 4
 refine J.z 1 <| J.f ?_ ?_
 ·exact SJ.skip <| J.q <| ZaS.K2_ok a0 b1 y42
 refine SJ.rg 9 <| J.k 1 0 rfl Ty3 (Zbv _) <| J.j 2 3 .bool ?_ ?_ fun y65 => ?_
 ·exact J.k 1 0 rfl Ty3 (ZbV _) <| J.e 2
 ·exact J.e 4
 exact J.z 1 <| J.q <| ZaS.K2_ok a0 b1 y65

/-! ### slices.Clone[[]weir/api.Prefix,weir/api.Prefix]: function 52 -/
noncomputable def ZaF.out (r_ : Sl) : Value := Sl.v r_
noncomputable def ZaF (a0 : Sl) : M Sl :=
 if a0.a = none then
  pure Sl.nil
 else
  newv 91 (Zaw.arr 0) (⟨[], rfl⟩ : Vec Zab 0) >>= fun b1 =>
  appS Zaw 91 32 Zbq (⟨some (pt b1 0), 0, 0⟩ : Sl) a0 >>= fun r2 =>
  pure r2
theorem Za0 (a0 : Sl) : Ref Tryz.prog 52 [Sl.v a0] (ZaF a0) ZaF.out := by
 refine J.Fn Tryz.func52 ?_
 unfold ZaF
 refine SJ.sr 1 <| J.z 1 <| SJ.seq <| SJ.sr 2 <| J.z 2 <| J.f ?_ ?_
 ·exact SJ.sr 1 <| J.z 1 <| J.r
 exact SJ.skip <| SJ.sr 4 <| J.N 0 Ty91 fun b1 => J.g 1 <| OJ.appS (d := 7) (t := 58) (u := 58) (so := .tmp 5) (xo := .tmp 6) (owed := []) Ty91 fun r2 => OW.nil <| J.z 1 <| J.r

/-! ### slices.Clip[[]weir/api.Prefix,weir/api.Prefix]: function 51 -/
noncomputable def Zbw.out (r_ : Sl) : Value := Sl.v r_
noncomputable def Zbw (a0 : Sl) : M Sl :=
 cut 18 a0 none (some (a0.len : Int)) (some (a0.len : Int)) >>= fun r1 =>
 pure r1
theorem Zd9 (a0 : Sl) : Ref Tryz.prog 51 [Sl.v a0] (Zbw a0) Zbw.out := by
 refine J.Fn Tryz.func51 ?_
 unfold Zbw
 exact SJ.sr 1 <| J.z 1 <| SJ.sr 7 <| J.cs 5 fun r1 => J.z 1 <| J.r

/-! ### slices.Clone[[]weir/api.Range,weir/api.Range]: function 54 -/
noncomputable def Za5.out (r_ : Sl) : Value := Sl.v r_
noncomputable def Za5 (a0 : Sl) : M Sl :=
 if a0.a = none then
  pure Sl.nil
 else
  newv 93 (ZaV.arr 0) (⟨[], rfl⟩ : Vec Zaz 0) >>= fun b1 =>
  appS ZaV 93 16 Zfc (⟨some (pt b1 0), 0, 0⟩ : Sl) a0 >>= fun r2 =>
  pure r2
theorem ZcU (a0 : Sl) : Ref Tryz.prog 54 [Sl.v a0] (Za5 a0) Za5.out := by
 refine J.Fn Tryz.func54 ?_
 unfold Za5
 refine SJ.sr 1 <| J.z 1 <| SJ.seq <| SJ.sr 2 <| J.z 2 <| J.f ?_ ?_
 ·exact SJ.sr 1 <| J.z 1 <| J.r
 exact SJ.skip <| SJ.sr 4 <| J.N 0 Ty93 fun b1 => J.g 1 <| OJ.appS (d := 7) (t := 59) (u := 59) (so := .tmp 5) (xo := .tmp 6) (owed := []) Ty93 fun r2 => OW.nil <| J.z 1 <| J.r

/-! ### slices.Clip[[]weir/api.Range,weir/api.Range]: function 53 -/
noncomputable def ZbF.out (r_ : Sl) : Value := Sl.v r_
noncomputable def ZbF (a0 : Sl) : M Sl :=
 cut 2 a0 none (some (a0.len : Int)) (some (a0.len : Int)) >>= fun r1 =>
 pure r1
theorem Zem (a0 : Sl) : Ref Tryz.prog 53 [Sl.v a0] (ZbF a0) ZbF.out := by
 refine J.Fn Tryz.func53 ?_
 unfold ZbF
 exact SJ.sr 1 <| J.z 1 <| SJ.sr 7 <| J.cs 5 fun r1 => J.z 1 <| J.r

/-! ### weir/rules.cloneSide: function 33 -/
noncomputable def Zcx.out (r_ : Zaj) : Value := ZaC.val r_
noncomputable def Zcx (a0 : Zaj) : M Zaj :=
 slot 61 >>= fun b1 =>
 slot 61 >>= fun b2 =>
 draw >>= fun _ =>
 ZaF a0.Nets >>= fun r3 =>
 Zbw r3 >>= fun r4 =>
 Za5 a0.Ports >>= fun r5 =>
 ZbF r5 >>= fun r6 =>
 pure (⟨a0.Not, r4, r6⟩ : Zaj)
theorem Zfq (a0 : Zaj) : Ref Tryz.prog 33 [ZaC.val a0] (Zcx a0) Zcx.out := by
 refine J.Fn Tryz.func33 ?_
 unfold Zcx
 exact SJ.sr 2 <| J.b 0 ZaC a0 fun b1 => J.a 0 Ty61 fun b2 => J.z 0 <| SJ.seq <| J.D [0, 1, 4, 5, 2, 3, 6, 7, 8, 9, 10, 11] Zc0 <| J.k 1 1 rfl Ty58 (Zav _) <| J.k 1 1 rfl Ty59 (ZaU _) <| OJ.call (d := 5) (g := 52) (ats := #[58]) (args := [.tmp 4]) (owed := [⟨5, 59, (pt b1 2), cL.val a0.Ports⟩]) F52 (Za0 a0.Nets) fun r3 => OW.known (j := 1) (q := a0.Ports) Ty59 rfl (ZaU a0) <| OW.nil <| OJ.call (d := 6) (g := 51) (ats := #[58]) (args := [.tmp 5]) (owed := [⟨5, 59, (pt b1 2), cL.val a0.Ports⟩]) F51 (Zd9 r3) fun r4 => OW.known (j := 1) (q := a0.Ports) Ty59 rfl (ZaU a0) <| OW.nil <| J.C 0 F54 (ZcU _) fun r5 => J.C 0 F53 (Zem _) fun r6 => J.s 1 1 rfl Ty58 (Zec _ r4) <| J.s 1 1 rfl Ty59 (Zd1 _ r6) <| J.z 0 <| SJ.sr 2 <| J.k 0 1 rfl Ty61 (At.whole _) <| J.s 0 0 rfl Ty61 (Upd.w (⟨a0.Not, r4, r6⟩ : Zaj)) <| J.z 0 <| J.rc (.c 0 rfl Ty61 .n)

/-! ### weir/rules.clone: function 21 -/
noncomputable def Zee.out (r_ : Zal) : Value := Zak.val r_
noncomputable def Zee (a0 : Zal) : M Zal :=
 slot 63 >>= fun b1 =>
 slot 63 >>= fun b2 =>
 draw >>= fun _ =>
 Zcx a0.From >>= fun r3 =>
 Zcx a0.To >>= fun r4 =>
 pure (⟨a0.Act, a0.Class, a0.Kind, a0.Proto, a0.In, a0.Vid, r3, r4, a0.Set, a0.Clear, a0.Type_, a0.Pieces⟩ : Zal)
theorem ZkB (a0 : Zal) : Ref Tryz.prog 21 [Zak.val a0] (Zee a0) Zee.out := by
 refine J.Fn Tryz.func21 ?_
 unfold Zee
 exact SJ.sr 2 <| J.b 0 Zak a0 fun b1 => J.a 0 Ty63 fun b2 => J.z 0 <| SJ.seq <| J.D [0, 1, 3, 4, 2, 5, 6, 7, 8, 9] Zc0 <| J.k 1 1 rfl Ty61 (ZbJ _) <| J.k 1 1 rfl Ty61 (ZbM _) <| OJ.call (d := 5) (g := 33) (ats := #[61]) (args := [.tmp 4]) (owed := [⟨4, 61, (pt b1 9), ZaC.val a0.To⟩]) F33 (Zfq a0.From) fun r3 => OW.known (j := 1) (q := a0.To) Ty61 rfl (ZbM a0) <| OW.nil <| J.C 0 F33 (Zfq _) fun r4 => J.s 1 1 rfl Ty61 (ZdH _ r3) <| J.s 1 1 rfl Ty61 (Zea _ r4) <| J.z 0 <| SJ.sr 2 <| J.k 0 1 rfl Ty63 (At.whole _) <| J.s 0 0 rfl Ty63 (Upd.w (⟨a0.Act, a0.Class, a0.Kind, a0.Proto, a0.In, a0.Vid, r3, r4, a0.Set, a0.Clear, a0.Type_, a0.Pieces⟩ : Zal)) <| J.z 0 <| J.rc (.c 0 rfl Ty63 .n)

/-! ### weir/rules.tests$1: function 34 -/
noncomputable def Zbu.out (r_ : Unit) : Value := .tuple #[]
noncomputable def Zbu (a0 : Bool) (a1 : Any) (a2 : Addr) : M Unit :=
 if a0 = true then
  ld cL a2 >>= fun x4 =>
  slot 74 >>= fun b5 =>
  appl cV 74 16 ⟨.nilIface, rfl⟩ x4 [a1] >>= fun r6 =>
  st cL a2 r6 >>= fun _ =>
  pure ()
 else
  pure ()
theorem ZbI (a0 : Bool) (a1 : Any) (a2 : Addr) : Ref Tryz.prog 34 [.bool a0, a1.v, .pointer (some a2)] (Zbu a0 a1 a2) Zbu.out := by
 refine J.Fn Tryz.func34 ?_
 unfold Zbu
 refine SJ.sr 1 <| J.z 1 <| J.f ?_ ?_
 ·exact SJ.rg 5 <| J.l 0 Ty71 fun x4 => J.S 1 [a1] Ty74 fun b5 => J.p 0 0 rfl Ty74 fun r6 => J.w 0 Ty71 <| J.z 0 <| SJ.end_ rfl (Res.run (ys := []) .nil rfl)
 exact SJ.skip <| SJ.end_ rfl (Res.run (ys := []) .nil rfl)

/-! ### weir/rules.address: function 56 -/
noncomputable def Zdw.out (r_ : (Zbo × Bool)) : Value := .tuple #[ZaX.val r_.1, .bool r_.2]
noncomputable def Zdw (a0 : Zau) (a1 : Bool) : M (Zbo × Bool) :=
 slot 47 >>= fun b1 =>
 slot 28 >>= fun b2 =>
 slot 28 >>= fun b3 =>
 slot 28 >>= fun b4 =>
 if a0.Kind = 1 then
  draw >>= fun _ =>
  if a1 = true then
   pure (a0.Arp.TIP, true)
  else
   pure (a0.Arp.SIP, true)
 else
  if a0.Kind = 2 then
   draw >>= fun _ =>
   if a1 = true then
    pure (a0.Ip4.Dst, true)
   else
    pure (a0.Ip4.Src, true)
  else
   if a0.Kind = 3 then
    draw >>= fun _ =>
    if a1 = true then
     pure (a0.Ip6.Dst, true)
    else
     pure (a0.Ip6.Src, true)
   else
    pure (Zca, false)
theorem Zjk (a0 : Zau) (a1 : Bool) : Ref Tryz.prog 56 [ZaB.val a0, .bool a1] (Zdw a0 a1) Zdw.out := by
 refine J.Fn Tryz.func56 ?_
 unfold Zdw
 refine SJ.sr 3 <| J.b 0 ZaB a0 fun b1 => J.a 0 Ty28 fun b2 => J.z 1 <| SJ.sr 2 <| J.a 0 Ty28 fun b3 => J.a 0 Ty28 fun b4 => J.z 0 <| SJ.seq <| SJ.sr 2 <| J.k 1 3 rfl Ty3 (ZcA _) <| J.z 0 <| SJ.block (id := 0) <| SJ.sr 2 <| J.z 2 <| J.f ?_ ?_
 ·refine J.R 8 Zc0 <| J.k 2 3 rfl Ty28 (At.trans (ZeG _) (ZkN _)) <| J.k 2 3 rfl Ty28 (At.trans (ZeG _) (Zhz _)) <| OJ.kst (y := .tmp 6) (z := .tmp 15) (cd := ZaX) (u := a0.Arp.SIP) (j := 1) (b := b3) (o := 0) (ZaX.enc a0.Arp.SIP) (owed := [⟨5, 28, (pt b1 44), ZaX.val a0.Arp.TIP⟩]) Ty28 rfl (Upd.whole ((Cod.len _ _).trans (Cod.len _ _).symm)) rfl <| OW.known (j := 3) (q := a0.Arp.TIP) Ty28 rfl (At.trans (ZeG a0) (Zhz a0.Arp)) <| OW.nil <| J.s 0 0 rfl Ty28 (Upd.w a0.Arp.TIP) <| J.z 0 <| SJ.inBlock <| SJ.seq <| SJ.sr 1 <| J.z 1 <| J.f ?_ ?_
  ·exact SJ.sr 3 <| J.k 0 0 rfl Ty28 (At.whole _) <| J.s 0 2 rfl Ty28 (Upd.w a0.Arp.TIP) <| J.z 1 <| J.rc (.c 2 rfl Ty28 .n)
  exact SJ.skip <| SJ.sr 3 <| J.k 0 1 rfl Ty28 (At.whole _) <| J.s 0 2 rfl Ty28 (Upd.w a0.Arp.SIP) <| J.z 1 <| J.rc (.c 2 rfl Ty28 .n)
 refine SJ.sr 2 <| J.z 2 <| J.f ?_ ?_
 ·refine J.R 8 Zc0 <| J.k 2 3 rfl Ty28 (At.trans (ZcR _) (ZkL _)) <| J.k 2 3 rfl Ty28 (At.trans (ZcR _) (Zhy _)) <| OJ.kst (y := .tmp 6) (z := .tmp 23) (cd := ZaX) (u := a0.Ip4.Src) (j := 1) (b := b3) (o := 0) (ZaX.enc a0.Ip4.Src) (owed := [⟨5, 28, (pt b1 85), ZaX.val a0.Ip4.Dst⟩]) Ty28 rfl (Upd.whole ((Cod.len _ _).trans (Cod.len _ _).symm)) rfl <| OW.known (j := 3) (q := a0.Ip4.Dst) Ty28 rfl (At.trans (ZcR a0) (Zhy a0.Ip4)) <| OW.nil <| J.s 0 0 rfl Ty28 (Upd.w a0.Ip4.Dst) <| J.z 0 <| SJ.inBlock <| SJ.seq <| SJ.sr 1 <| J.z 1 <| J.f ?_ ?_
  ·exact SJ.sr 3 <| J.k 0 0 rfl Ty28 (At.whole _) <| J.s 0 2 rfl Ty28 (Upd.w a0.Ip4.Dst) <| J.z 1 <| J.rc (.c 2 rfl Ty28 .n)
  exact SJ.skip <| SJ.sr 3 <| J.k 0 1 rfl Ty28 (At.whole _) <| J.s 0 2 rfl Ty28 (Upd.w a0.Ip4.Src) <| J.z 1 <| J.rc (.c 2 rfl Ty28 .n)
 refine SJ.sr 2 <| J.z 2 <| J.f ?_ ?_
 ·refine J.R 8 Zc0 <| J.k 2 3 rfl Ty28 (At.trans (Zdo _) (ZkK _)) <| J.k 2 3 rfl Ty28 (At.trans (Zdo _) (Zhx _)) <| OJ.kst (y := .tmp 6) (z := .tmp 31) (cd := ZaX) (u := a0.Ip6.Src) (j := 1) (b := b3) (o := 0) (ZaX.enc a0.Ip6.Src) (owed := [⟨5, 28, (pt b1 124), ZaX.val a0.Ip6.Dst⟩]) Ty28 rfl (Upd.whole ((Cod.len _ _).trans (Cod.len _ _).symm)) rfl <| OW.known (j := 3) (q := a0.Ip6.Dst) Ty28 rfl (At.trans (Zdo a0) (Zhx a0.Ip6)) <| OW.nil <| J.s 0 0 rfl Ty28 (Upd.w a0.Ip6.Dst) <| J.z 0 <| SJ.inBlock <| SJ.seq <| SJ.sr 1 <| J.z 1 <| J.f ?_ ?_
  ·exact SJ.sr 3 <| J.k 0 0 rfl Ty28 (At.whole _) <| J.s 0 2 rfl Ty28 (Upd.w a0.Ip6.Dst) <| J.z 1 <| J.rc (.c 2 rfl Ty28 .n)
  exact SJ.skip <| SJ.sr 3 <| J.k 0 1 rfl Ty28 (At.whole _) <| J.s 0 2 rfl Ty28 (Upd.w a0.Ip6.Src) <| J.z 1 <| J.rc (.c 2 rfl Ty28 .n)
 exact SJ.sr 3 <| J.u 0 Ty28 .nil <| J.s 0 2 rfl Ty28 (Upd.w Zca) <| J.z 1 <| J.rc (.c 2 rfl Ty28 .n)

/-! ### weir/addr.Valid: function 80 -/
noncomputable def Zel.out (r_ : Bool) : Value := .bool r_
noncomputable def Zel (a0 : Zbo) : M Bool :=
 slot 28 >>= fun b1 =>
 Zew a0 >>= fun r2 =>
 pure (decide (r2 > 0))
theorem Zio (a0 : Zbo) : Ref Tryz.prog 80 [ZaX.val a0] (Zel a0) Zel.out := by
 refine J.Fn Tryz.func80 ?_
 unfold Zel
 exact SJ.sr 2 <| J.b 0 ZaX a0 fun b1 => J.z 1 <| SJ.sr 4 <| J.k 0 0 rfl Ty28 (At.whole _) <| J.C 0 F77 (ZgY _) fun r2 => J.z 2 <| J.r

/-! ### weir/addr.Contains: function 59 -/
noncomputable def ZdC.out (r_ : Bool) : Value := .bool r_
noncomputable def ZdC (a0 : Zab) (a1 : Zbo) : M Bool :=
 slot 91 >>= fun b1 =>
 slot 28 >>= fun b2 =>
 ZbU a0 >>= fun r3 =>
 (if r3 ≠ 0 then
   pure true
  else
   Zel a1 >>= fun r4 =>
   pure (!r4)) >>= fun y5 =>
 (if y5 = true then
   pure true
  else
   pure (a0.IP.V != a1.V)) >>= fun y6 =>
 if y6 = true then
  pure false
 else
  draw >>= fun _ =>
  Zbn a1.A a0.Len >>= fun r7 =>
  pure (eqv r7 a0.IP.A)
theorem Zjo (a0 : Zab) (a1 : Zbo) : Ref Tryz.prog 59 [Zaw.val a0, ZaX.val a1] (ZdC a0 a1) ZdC.out := by
 refine J.Fn Tryz.func59 ?_
 unfold ZdC
 refine SJ.sr 3 <| J.b 0 Zaw a0 fun b1 => J.b 0 ZaX a1 fun b2 => J.z 1 <| SJ.seq <| SJ.sr 16 <| J.k 0 1 rfl Ty91 (At.whole _) <| J.C 0 F50 (ZdB _) fun r3 => J.j 2 3 .bool ?_ ?_ fun y5 => ?_
 ·exact J.e 4
 ·exact J.k 0 0 rfl Ty28 (At.whole _) <| J.C 0 F80 (Zio _) fun r4 => J.e 2
 refine J.j 1 6 .bool ?_ ?_ fun y6 => ?_
 ·exact J.e 7
 ·exact J.k 2 1 rfl Ty3 (At.trans (ZbE _) (Zde _)) <| J.k 1 0 rfl Ty3 (Zde _) <| J.e 2
 refine J.z 0 <| J.f ?_ ?_
 ·exact SJ.sr 1 <| J.z 1 <| J.r
 exact SJ.skip <| SJ.seq <| J.D [0, 1, 2, 3, 5, 6, 7, 4, 8, 9] Zc0 <| J.k 1 0 rfl Ty26 (Zdf _) <| J.k 1 1 rfl Ty3 (Zb2 _) <| J.k 2 1 rfl Ty26 (At.trans (ZbE _) (Zdf _)) <| OJ.call (d := 25) (g := 78) (ats := #[26, 3]) (args := [.tmp 22, .tmp 24]) (owed := [⟨7, 26, (pt b1 1), ((cI .u8).arr 16).val a0.IP.A⟩]) F78 (Zhu a1.A a0.Len) fun r7 => OW.known (j := 1) (q := a0.IP.A) Ty26 rfl (At.trans (ZbE a0) (Zdf a0.IP)) <| OW.nil <| OJ.eql (d := 29) (T := 26) (yT := 26) (y := .tmp 25) (z := .tmp 28) (cd := ((cI .u8).arr 16)) (p := r7) (q := a0.IP.A) rfl Eq26 <| J.z 1 <| J.r

/-! ### weir/rules.netsTest$1$1: function 58 -/
noncomputable def Zcj.out (r_ : Bool) : Value := .bool r_
noncomputable def Zcj (a0 : Zab) (a1 : Addr) : M Bool :=
 slot 91 >>= fun b1 =>
 ld ZaX a1 >>= fun x2 =>
 ZdC a0 x2 >>= fun r3 =>
 pure r3
theorem ZgE (a0 : Zab) (a1 : Addr) : Ref Tryz.prog 58 [Zaw.val a0, .pointer (some a1)] (Zcj a0 a1) Zcj.out := by
 refine J.Fn Tryz.func58 ?_
 unfold Zcj
 exact SJ.sr 2 <| J.b 0 Zaw a0 fun b1 => J.z 1 <| SJ.sr 4 <| J.k 0 0 rfl Ty91 (At.whole _) <| J.l 0 Ty28 fun x2 => J.C 0 F59 (Zjo _ _) fun r3 => J.z 1 <| J.r

/-! ### slices.IndexFunc[[]weir/api.Prefix,weir/api.Prefix]: function 79 -/
noncomputable def Zae.B : Code := bod Tryz.f79
noncomputable def Zae.cx : Fx := ⟨Tryz.prog, 79, Tryz.f79, none⟩
noncomputable def Zae.out (r_ : Int) : Value := .int .i64 r_
noncomputable def Zae.F1 (a0 : Sl) (a1v : Any) : LF Int Int := ⟨[.inBlock 0, .code (c2 (c2 Zae.B))], c1 (c2 (c1 (c2 Zae.B))), fun s_ => [(0, Sl.v a0), (1, a1v.v), (7, .int .i64 (a0.len : Int)), (8, .int .i64 s_)], fun s_ => [], (rt Zae.out)⟩
noncomputable def Zae.L1 (a0 : Sl) (a1 : Zab → M Bool) (s1 : Int) : M (LS Int Int) :=
 if s1 < (a0.len : Int) then
  idx a0.a a0.len s1 18 >>= fun p7 =>
  ld Zaw p7 >>= fun x8 =>
  a1 x8 >>= fun r9 =>
  if r9 = true then
   pure (LS.done s1)
  else
   pure (LS.next (IntKind.wrap .i64 (s1 + 1)))
 else
  pure (LS.done (-1))
theorem Zae.L1_ok (a0 : Sl) (a1v : Any) (a1 : Zab → M Bool) (h_a1 : ∀ (x0_ : Zab), RefV Tryz.prog a1v.v [Zaw.val x0_] (a1 x0_) (fun r_ : Bool => .bool r_)) : LJ Zae.cx (Zae.F1 a0 a1v) (fun s_ => Zae.L1 a0 a1 s_) := by
 rintro s1
 show SJ _ _ _ _ (Zae.L1 a0 a1 s1) _
 unfold Zae.L1
 refine SJ.sr 1 <| J.z 1 <| SJ.seq <| J.f ?_ ?_
 ·refine SJ.skip <| SJ.seq <| SJ.block (id := 1) <| SJ.sr 2 <| J.z 2 <| SJ.sr 6 <| J.i 3 fun p7 => J.l 0 Ty91 fun x8 => J.v 0 (h_a1 x8) fun r9 => J.z 0 <| J.f ?_ ?_
  ·exact SJ.sr 2 <| J.z 2 <| J.r
  exact SJ.skip <| SJ.inBlock <| SJ.rg 2 <| J.z 2 <| J.o rfl
 exact SJ.exit (id := 0) (by rfl) <| SJ.sr 1 <| J.z 1 <| J.r
noncomputable def Zae (a0 : Sl) (a1 : Zab → M Bool) : M Int :=
 Zc7 (fun s_ : Int => Zae.L1 a0 a1 s_) 0
theorem ZdL (a0 : Sl) (a1v : Any) (a1 : Zab → M Bool) (h_a1 : ∀ (x0_ : Zab), RefV Tryz.prog a1v.v [Zaw.val x0_] (a1 x0_) (fun r_ : Bool => .bool r_)) : Ref Tryz.prog 79 [Sl.v a0, a1v.v] (Zae a0 a1) Zae.out := by
 refine J.Fn Tryz.func79 ?_
 unfold Zae
 exact SJ.sr 1 <| J.z 1 <| SJ.seq <| SJ.sr 3 <| J.z 3 <| SJ.block (id := 0) <| J.L (Zae.L1_ok a0 a1v a1 h_a1)

/-! ### slices.ContainsFunc[[]weir/api.Prefix,weir/api.Prefix]: function 57 -/
noncomputable def Za4.out (r_ : Bool) : Value := .bool r_
noncomputable def Za4 (a0 : Sl) (a1 : Zab → M Bool) : M Bool :=
 Zae a0 a1 >>= fun r1 =>
 pure (decide (r1 ≥ 0))
theorem Zdq (a0 : Sl) (a1v : Any) (a1 : Zab → M Bool) (h_a1 : ∀ (x0_ : Zab), RefV Tryz.prog a1v.v [Zaw.val x0_] (a1 x0_) (fun r_ : Bool => .bool r_)) : Ref Tryz.prog 57 [Sl.v a0, a1v.v] (Za4 a0 a1) Za4.out := by
 refine J.Fn Tryz.func57 ?_
 unfold Za4
 exact SJ.sr 1 <| J.z 1 <| SJ.sr 5 <| J.C 2 F79 (ZdL a0 a1v a1 h_a1) fun r1 => J.z 2 <| J.r

/-! ### weir/rules.netsTest$1: function 55 -/
noncomputable def Zcn.out (r_ : Bool) : Value := .bool r_
noncomputable def Zcn (a0 : Zau) (a1 : Addr) (a2 : Addr) (a3 : Addr) : M Bool :=
 slot 47 >>= fun b1 =>
 ld cB a1 >>= fun x2 =>
 Zdw a0 x2 >>= fun r3 =>
 newv 28 ZaX Zca >>= fun b4 =>
 st ZaX (pt b4 0) r3.1 >>= fun _ =>
 ld cL a2 >>= fun x5 =>
 Za4 x5 (fun (q6 : Zab) => Zcj q6 (pt b4 0)) >>= fun r7 =>
 (if r3.2 = true then
   ld cB a3 >>= fun x8 =>
   pure (!(r7 == x8))
  else
   pure false) >>= fun y9 =>
 pure y9
theorem ZhF (a0 : Zau) (a1 : Addr) (a2 : Addr) (a3 : Addr) : Ref Tryz.prog 55 [ZaB.val a0, .pointer (some a1), .pointer (some a2), .pointer (some a3)] (Zcn a0 a1 a2 a3) Zcn.out := by
 refine J.Fn Tryz.func55 ?_
 unfold Zcn
 refine SJ.sr 2 <| J.b 0 ZaB a0 fun b1 => J.z 1 <| SJ.sr 9 <| J.k 0 0 rfl Ty47 (At.whole _) <| J.l 0 Ty4 fun x2 => J.C 0 F56 (Zjk _ _) fun r3 => J.A 3 Ty28 fun b4 => J.w 0 Ty28 <| J.z 1 <| SJ.sr 4 <| J.l 0 Ty58 fun x5 => J.C 1 F57 (Zdq x5 ⟨.func (.func 58) #[] #[.pointer (some (pt b4 0))], rfl⟩ (fun (q6 : Zab) => Zcj q6 (pt b4 0)) (fun q6 => RefV.of (first := []) (cap := [.pointer (some (pt b4 0))]) F58 (ZgE q6 (pt b4 0)))) fun r7 => J.z 1 <| SJ.sr 7 <| J.j 2 3 .bool ?_ ?_ fun y9 => ?_
 ·exact J.l 1 Ty4 fun x8 => J.e 2
 ·exact J.e 4
 exact J.z 1 <| J.r

/-! ### weir/rules.netsTest: function 35 -/
noncomputable def ZaQ.B : Code := bod Tryz.f35
noncomputable def ZaQ.cx : Fx := ⟨Tryz.prog, 35, Tryz.f35, none⟩
noncomputable def ZaQ.out (r_ : Any) : Value := r_.v
noncomputable def ZaQ.K1 (b2 : Nat) (j27 : Addr) (j28 : Addr) : M Any :=
 pure (⟨.func (.func 55) #[] #[.pointer (some (pt b2 0)), .pointer (some j27), .pointer (some j28)], rfl⟩ : Any)
theorem ZaQ.K1_ok (b2 : Nat) (j27 : Addr) (j28 : Addr) :
  SJ ZaQ.cx [.code (c2 (c2 ZaQ.B))] [(3, .pointer (some (pt b2 0))), (5, .pointer (some j27)), (6, .pointer (some j28))] [] (ZaQ.K1 b2 j27 j28) (rt ZaQ.out) := by
 unfold ZaQ.K1
 exact SJ.sr 2 <| J.z 2 <| J.r
noncomputable def ZaQ (a0 : Zaj) (a1 : Bool) : M Any :=
 slot 61 >>= fun b1 =>
 newv 4 cB a1 >>= fun b2 =>
 draws 35 1 (Zen (c1 (c2 ZaQ.B))) >>= fun o3 =>
 if bfr o3 2 5 = true then
  if bfr o3 2 6 = true then
   if bfr o3 5 6 = true then
    ZaF a0.Nets >>= fun r32 =>
    newv 58 cL Sl.nil >>= fun b33 =>
    newv 4 cB false >>= fun b34 =>
    st cL (pt b33 0) r32 >>= fun _ =>
    st cB (pt b34 0) a0.Not >>= fun _ =>
    ZaQ.K1 b2 (pt b33 0) (pt b34 0)
   else
    ZaF a0.Nets >>= fun r35 =>
    newv 4 cB false >>= fun b36 =>
    newv 58 cL Sl.nil >>= fun b37 =>
    st cL (pt b37 0) r35 >>= fun _ =>
    st cB (pt b36 0) a0.Not >>= fun _ =>
    ZaQ.K1 b2 (pt b37 0) (pt b36 0)
  else
   newv 4 cB false >>= fun b38 =>
   ZaF a0.Nets >>= fun r39 =>
   newv 58 cL Sl.nil >>= fun b40 =>
   st cL (pt b40 0) r39 >>= fun _ =>
   st cB (pt b38 0) a0.Not >>= fun _ =>
   ZaQ.K1 b2 (pt b40 0) (pt b38 0)
 else
  if bfr o3 5 6 = true then
   if bfr o3 2 6 = true then
    newv 58 cL Sl.nil >>= fun b43 =>
    ZaF a0.Nets >>= fun r44 =>
    newv 4 cB false >>= fun b45 =>
    st cL (pt b43 0) r44 >>= fun _ =>
    st cB (pt b45 0) a0.Not >>= fun _ =>
    ZaQ.K1 b2 (pt b43 0) (pt b45 0)
   else
    newv 58 cL Sl.nil >>= fun b46 =>
    newv 4 cB false >>= fun b47 =>
    ZaF a0.Nets >>= fun r48 =>
    st cL (pt b46 0) r48 >>= fun _ =>
    st cB (pt b47 0) a0.Not >>= fun _ =>
    ZaQ.K1 b2 (pt b46 0) (pt b47 0)
  else
   newv 4 cB false >>= fun b49 =>
   newv 58 cL Sl.nil >>= fun b50 =>
   ZaF a0.Nets >>= fun r51 =>
   st cL (pt b50 0) r51 >>= fun _ =>
   st cB (pt b49 0) a0.Not >>= fun _ =>
   ZaQ.K1 b2 (pt b50 0) (pt b49 0)
theorem ZfP (a0 : Zaj) (a1 : Bool) : Ref Tryz.prog 35 [ZaC.val a0, .bool a1] (ZaQ a0 a1) ZaQ.out := by
 refine J.Fn Tryz.func35 ?_
 unfold ZaQ
 refine SJ.sr 3 <| J.b 0 ZaC a0 fun b1 => J.B 0 fun b2 => J.z 1 <| SJ.seq <| SJ.draws (id := 1) (kd := [0, 1, 2, 0, 1, 2, 2, 2, 2]) (bef := [0, 1, 3, 0, 8, 0, 0, 103, 255]) (ord := [0, 1, 3, 4, 2, 5, 6, 7, 8]) (E := [(2, 5), (2, 6), (5, 6)]) Zc0 fun o3 hg_ => SJ.bfr hg_ (by decide) (fun ho29 => ?_) fun ho29 => ?_
 ·refine SJ.bfr hg_ (by decide) (fun ho30 => ?_) fun ho30 => ?_
  ·refine SJ.bfr hg_ (by decide) (fun ho31 => ?_) fun ho31 => ?_
   ·exact SJ.leaf hg_ (kd := [0, 1, 2, 0, 1, 2, 2, 2, 2]) (bef := [0, 1, 3, 0, 8, 0, 0, 103, 255]) (ord := [0, 1, 3, 4, 2, 5, 6, 7, 8]) (E := [(2, 5), (2, 6), (5, 6)]) (allB.cons ho29 (allB.cons ho30 (allB.cons ho31 allB.nil))) <| J.k 1 0 rfl Ty58 (Zav _) <| J.k 1 0 rfl Ty4 (ZaI _) <| OJ.call (d := 9) (g := 52) (ats := #[58]) (args := [.tmp 8]) (owed := [⟨4, 4, (pt b1 0), cB.val a0.Not⟩]) F52 (Za0 a0.Nets) fun r32 => OW.known (j := 0) (q := a0.Not) Ty4 rfl (ZaI a0) <| OW.nil <| OJ.newOf (d := 5) (op := (.alloc 58)) (cd := cL) (u := Sl.nil) (owed := [⟨4, 4, (pt b1 0), cB.val a0.Not⟩, ⟨1, 58, (pt b1 1), cL.val a0.Nets⟩]) (Zc8 Ty58) fun b33 => OW.known (j := 0) (q := a0.Not) Ty4 rfl (ZaI a0) <| OW.known (j := 0) (q := a0.Nets) Ty58 rfl (Zav a0) <| OW.nil <| OJ.newOf (d := 6) (op := (.alloc 4)) (cd := cB) (u := false) (owed := [⟨4, 4, (pt b1 0), cB.val a0.Not⟩, ⟨1, 58, (pt b1 1), cL.val a0.Nets⟩]) (Zc8 Ty4) fun b34 => OW.known (j := 0) (q := a0.Not) Ty4 rfl (ZaI a0) <| OW.known (j := 0) (q := a0.Nets) Ty58 rfl (Zav a0) <| OW.nil <| OJ.st (y := .tmp 5) (z := .tmp 9) (owed := [⟨4, 4, (pt b1 0), cB.val a0.Not⟩]) Ty58 <| OW.known (j := 0) (q := a0.Not) Ty4 rfl (ZaI a0) <| OW.nil <| J.w 0 Ty4 <| J.z 0 <| SJ.forget (List.Sublist.cons _ List.Sublist.slnil) <| J.q <| ZaQ.K1_ok b2 (pt b33 0) (pt b34 0)
   exact SJ.leaf hg_ (kd := [0, 1, 2, 0, 1, 2, 2, 2, 2]) (bef := [0, 1, 3, 0, 8, 0, 0, 103, 255]) (ord := [0, 1, 3, 4, 2, 6, 5, 7, 8]) (E := [(2, 6), (2, 5), (6, 5)]) (allB.cons ho30 (allB.cons ho29 (allB.cons ho31 allB.nil))) <| J.k 1 0 rfl Ty58 (Zav _) <| J.k 1 0 rfl Ty4 (ZaI _) <| OJ.call (d := 9) (g := 52) (ats := #[58]) (args := [.tmp 8]) (owed := [⟨4, 4, (pt b1 0), cB.val a0.Not⟩]) F52 (Za0 a0.Nets) fun r35 => OW.known (j := 0) (q := a0.Not) Ty4 rfl (ZaI a0) <| OW.nil <| OJ.newOf (d := 6) (op := (.alloc 4)) (cd := cB) (u := false) (owed := [⟨4, 4, (pt b1 0), cB.val a0.Not⟩, ⟨1, 58, (pt b1 1), cL.val a0.Nets⟩]) (Zc8 Ty4) fun b36 => OW.known (j := 0) (q := a0.Not) Ty4 rfl (ZaI a0) <| OW.known (j := 0) (q := a0.Nets) Ty58 rfl (Zav a0) <| OW.nil <| OJ.newOf (d := 5) (op := (.alloc 58)) (cd := cL) (u := Sl.nil) (owed := [⟨4, 4, (pt b1 0), cB.val a0.Not⟩, ⟨1, 58, (pt b1 1), cL.val a0.Nets⟩]) (Zc8 Ty58) fun b37 => OW.known (j := 0) (q := a0.Not) Ty4 rfl (ZaI a0) <| OW.known (j := 0) (q := a0.Nets) Ty58 rfl (Zav a0) <| OW.nil <| OJ.st (y := .tmp 5) (z := .tmp 9) (owed := [⟨4, 4, (pt b1 0), cB.val a0.Not⟩]) Ty58 <| OW.known (j := 0) (q := a0.Not) Ty4 rfl (ZaI a0) <| OW.nil <| J.w 0 Ty4 <| J.z 0 <| SJ.forget (List.Sublist.cons _ List.Sublist.slnil) <| J.q <| ZaQ.K1_ok b2 (pt b37 0) (pt b36 0)
  exact SJ.leaf hg_ (kd := [0, 1, 2, 0, 1, 2, 2, 2, 2]) (bef := [0, 1, 3, 0, 8, 0, 0, 103, 255]) (ord := [0, 1, 3, 4, 6, 2, 5, 7, 8]) (E := [(6, 2), (6, 5), (2, 5)]) (allB.cons ho30 (allB.cons (Zkm ho30 ho29) (allB.cons ho29 allB.nil))) <| J.k 1 0 rfl Ty58 (Zav _) <| J.k 1 0 rfl Ty4 (ZaI _) <| OJ.newOf (d := 6) (op := (.alloc 4)) (cd := cB) (u := false) (owed := [⟨4, 4, (pt b1 0), cB.val a0.Not⟩, ⟨1, 58, (pt b1 1), cL.val a0.Nets⟩]) (Zc8 Ty4) fun b38 => OW.known (j := 0) (q := a0.Not) Ty4 rfl (ZaI a0) <| OW.known (j := 0) (q := a0.Nets) Ty58 rfl (Zav a0) <| OW.nil <| OJ.call (d := 9) (g := 52) (ats := #[58]) (args := [.tmp 8]) (owed := [⟨4, 4, (pt b1 0), cB.val a0.Not⟩]) F52 (Za0 a0.Nets) fun r39 => OW.known (j := 0) (q := a0.Not) Ty4 rfl (ZaI a0) <| OW.nil <| OJ.newOf (d := 5) (op := (.alloc 58)) (cd := cL) (u := Sl.nil) (owed := [⟨4, 4, (pt b1 0), cB.val a0.Not⟩, ⟨1, 58, (pt b1 1), cL.val a0.Nets⟩]) (Zc8 Ty58) fun b40 => OW.known (j := 0) (q := a0.Not) Ty4 rfl (ZaI a0) <| OW.known (j := 0) (q := a0.Nets) Ty58 rfl (Zav a0) <| OW.nil <| OJ.st (y := .tmp 5) (z := .tmp 9) (owed := [⟨4, 4, (pt b1 0), cB.val a0.Not⟩]) Ty58 <| OW.known (j := 0) (q := a0.Not) Ty4 rfl (ZaI a0) <| OW.nil <| J.w 0 Ty4 <| J.z 0 <| SJ.forget (List.Sublist.cons _ List.Sublist.slnil) <| J.q <| ZaQ.K1_ok b2 (pt b40 0) (pt b38 0)
 refine SJ.bfr hg_ (by decide) (fun ho41 => ?_) fun ho41 => ?_
 ·refine SJ.bfr hg_ (by decide) (fun ho42 => ?_) fun ho42 => ?_
  ·exact SJ.leaf hg_ (kd := [0, 1, 2, 0, 1, 2, 2, 2, 2]) (bef := [0, 1, 3, 0, 8, 0, 0, 103, 255]) (ord := [0, 1, 3, 4, 5, 2, 6, 7, 8]) (E := [(5, 2), (5, 6), (2, 6)]) (allB.cons ho29 (allB.cons ho41 (allB.cons ho42 allB.nil))) <| J.k 1 0 rfl Ty58 (Zav _) <| J.k 1 0 rfl Ty4 (ZaI _) <| OJ.newOf (d := 5) (op := (.alloc 58)) (cd := cL) (u := Sl.nil) (owed := [⟨4, 4, (pt b1 0), cB.val a0.Not⟩, ⟨1, 58, (pt b1 1), cL.val a0.Nets⟩]) (Zc8 Ty58) fun b43 => OW.known (j := 0) (q := a0.Not) Ty4 rfl (ZaI a0) <| OW.known (j := 0) (q := a0.Nets) Ty58 rfl (Zav a0) <| OW.nil <| OJ.call (d := 9) (g := 52) (ats := #[58]) (args := [.tmp 8]) (owed := [⟨4, 4, (pt b1 0), cB.val a0.Not⟩]) F52 (Za0 a0.Nets) fun r44 => OW.known (j := 0) (q := a0.Not) Ty4 rfl (ZaI a0) <| OW.nil <| OJ.newOf (d := 6) (op := (.alloc 4)) (cd := cB) (u := false) (owed := [⟨4, 4, (pt b1 0), cB.val a0.Not⟩, ⟨1, 58, (pt b1 1), cL.val a0.Nets⟩]) (Zc8 Ty4) fun b45 => OW.known (j := 0) (q := a0.Not) Ty4 rfl (ZaI a0) <| OW.known (j := 0) (q := a0.Nets) Ty58 rfl (Zav a0) <| OW.nil <| OJ.st (y := .tmp 5) (z := .tmp 9) (owed := [⟨4, 4, (pt b1 0), cB.val a0.Not⟩]) Ty58 <| OW.known (j := 0) (q := a0.Not) Ty4 rfl (ZaI a0) <| OW.nil <| J.w 0 Ty4 <| J.z 0 <| SJ.forget (List.Sublist.cons _ List.Sublist.slnil) <| J.q <| ZaQ.K1_ok b2 (pt b43 0) (pt b45 0)
  exact SJ.leaf hg_ (kd := [0, 1, 2, 0, 1, 2, 2, 2, 2]) (bef := [0, 1, 3, 0, 8, 0, 0, 103, 255]) (ord := [0, 1, 3, 4, 5, 6, 2, 7, 8]) (E := [(5, 6), (5, 2), (6, 2)]) (allB.cons ho41 (allB.cons ho29 (allB.cons ho42 allB.nil))) <| J.k 1 0 rfl Ty58 (Zav _) <| J.k 1 0 rfl Ty4 (ZaI _) <| OJ.newOf (d := 5) (op := (.alloc 58)) (cd := cL) (u := Sl.nil) (owed := [⟨4, 4, (pt b1 0), cB.val a0.Not⟩, ⟨1, 58, (pt b1 1), cL.val a0.Nets⟩]) (Zc8 Ty58) fun b46 => OW.known (j := 0) (q := a0.Not) Ty4 rfl (ZaI a0) <| OW.known (j := 0) (q := a0.Nets) Ty58 rfl (Zav a0) <| OW.nil <| OJ.newOf (d := 6) (op := (.alloc 4)) (cd := cB) (u := false) (owed := [⟨4, 4, (pt b1 0), cB.val a0.Not⟩, ⟨1, 58, (pt b1 1), cL.val a0.Nets⟩]) (Zc8 Ty4) fun b47 => OW.known (j := 0) (q := a0.Not) Ty4 rfl (ZaI a0) <| OW.known (j := 0) (q := a0.Nets) Ty58 rfl (Zav a0) <| OW.nil <| OJ.call (d := 9) (g := 52) (ats := #[58]) (args := [.tmp 8]) (owed := [⟨4, 4, (pt b1 0), cB.val a0.Not⟩]) F52 (Za0 a0.Nets) fun r48 => OW.known (j := 0) (q := a0.Not) Ty4 rfl (ZaI a0) <| OW.nil <| OJ.st (y := .tmp 5) (z := .tmp 9) (owed := [⟨4, 4, (pt b1 0), cB.val a0.Not⟩]) Ty58 <| OW.known (j := 0) (q := a0.Not) Ty4 rfl (ZaI a0) <| OW.nil <| J.w 0 Ty4 <| J.z 0 <| SJ.forget (List.Sublist.cons _ List.Sublist.slnil) <| J.q <| ZaQ.K1_ok b2 (pt b46 0) (pt b47 0)
 exact SJ.leaf hg_ (kd := [0, 1, 2, 0, 1, 2, 2, 2, 2]) (bef := [0, 1, 3, 0, 8, 0, 0, 103, 255]) (ord := [0, 1, 3, 4, 6, 5, 2, 7, 8]) (E := [(6, 5), (6, 2), (5, 2)]) (allB.cons ho41 (allB.cons (Zkm ho41 ho29) (allB.cons ho29 allB.nil))) <| J.k 1 0 rfl Ty58 (Zav _) <| J.k 1 0 rfl Ty4 (ZaI _) <| OJ.newOf (d := 6) (op := (.alloc 4)) (cd := cB) (u := false) (owed := [⟨4, 4, (pt b1 0), cB.val a0.Not⟩, ⟨1, 58, (pt b1 1), cL.val a0.Nets⟩]) (Zc8 Ty4) fun b49 => OW.known (j := 0) (q := a0.Not) Ty4 rfl (ZaI a0) <| OW.known (j := 0) (q := a0.Nets) Ty58 rfl (Zav a0) <| OW.nil <| OJ.newOf (d := 5) (op := (.alloc 58)) (cd := cL) (u := Sl.nil) (owed := [⟨4, 4, (pt b1 0), cB.val a0.Not⟩, ⟨1, 58, (pt b1 1), cL.val a0.Nets⟩]) (Zc8 Ty58) fun b50 => OW.known (j := 0) (q := a0.Not) Ty4 rfl (ZaI a0) <| OW.known (j := 0) (q := a0.Nets) Ty58 rfl (Zav a0) <| OW.nil <| OJ.call (d := 9) (g := 52) (ats := #[58]) (args := [.tmp 8]) (owed := [⟨4, 4, (pt b1 0), cB.val a0.Not⟩]) F52 (Za0 a0.Nets) fun r51 => OW.known (j := 0) (q := a0.Not) Ty4 rfl (ZaI a0) <| OW.nil <| OJ.st (y := .tmp 5) (z := .tmp 9) (owed := [⟨4, 4, (pt b1 0), cB.val a0.Not⟩]) Ty58 <| OW.known (j := 0) (q := a0.Not) Ty4 rfl (ZaI a0) <| OW.nil <| J.w 0 Ty4 <| J.z 0 <| SJ.forget (List.Sublist.cons _ List.Sublist.slnil) <| J.q <| ZaQ.K1_ok b2 (pt b50 0) (pt b49 0)

/-! ### weir/rules.portOf: function 61 -/
noncomputable def ZdT.out (r_ : (Int × Bool)) : Value := .tuple #[.int .i64 r_.1, .bool r_.2]
noncomputable def ZdT (a0 : Zau) (a1 : Bool) : M (Int × Bool) :=
 slot 47 >>= fun b1 =>
 if a0.L4 = 2 then
  draw >>= fun _ =>
  if a1 = true then
   pure (a0.Udp.Dport, true)
  else
   pure (a0.Udp.Sport, true)
 else
  if a0.L4 = 3 then
   draw >>= fun _ =>
   if a1 = true then
    pure (a0.Tcp.Dport, true)
   else
    pure (a0.Tcp.Sport, true)
  else
   pure (0, false)
theorem ZjS (a0 : Zau) (a1 : Bool) : Ref Tryz.prog 61 [ZaB.val a0, .bool a1] (ZdT a0 a1) ZdT.out := by
 refine J.Fn Tryz.func61 ?_
 unfold ZdT
 refine SJ.sr 3 <| J.b 0 ZaB a0 fun b1 => J.z 2 <| SJ.sr 2 <| J.z 2 <| SJ.seq <| SJ.sr 2 <| J.k 1 0 rfl Ty3 (ZeZ _) <| J.z 0 <| SJ.block (id := 0) <| SJ.sr 2 <| J.z 2 <| J.f ?_ ?_
 ·refine J.R 8 Zc0 <| J.k 2 0 rfl Ty3 (At.trans (Zf0 _) (Zjq _)) <| J.k 2 0 rfl Ty3 (At.trans (Zf0 _) (Zjr _)) <| J.z 2 <| SJ.inBlock <| SJ.seq <| SJ.sr 1 <| J.z 1 <| J.f ?_ ?_
  ·exact SJ.sr 3 <| J.z 3 <| J.r
  exact SJ.skip <| SJ.sr 3 <| J.z 3 <| J.r
 refine SJ.sr 2 <| J.z 2 <| J.f ?_ ?_
 ·refine J.R 8 Zc0 <| J.k 2 0 rfl Ty3 (At.trans (Zd4 _) (Zjs _)) <| J.k 2 0 rfl Ty3 (At.trans (Zd4 _) (Zjt _)) <| J.z 2 <| SJ.inBlock <| SJ.seq <| SJ.sr 1 <| J.z 1 <| J.f ?_ ?_
  ·exact SJ.sr 3 <| J.z 3 <| J.r
  exact SJ.skip <| SJ.sr 3 <| J.z 3 <| J.r
 exact SJ.sr 2 <| J.z 2 <| J.r

/-! ### weir/rules.portsTest$1$1: function 63 -/
noncomputable def Zcd.out (r_ : Bool) : Value := .bool r_
noncomputable def Zcd (a0 : Zaz) (a1 : Addr) : M Bool :=
 slot 93 >>= fun b1 =>
 ld (cI .i64) a1 >>= fun x2 =>
 Zbx x2 a0.Lo a0.Hi >>= fun r3 =>
 pure r3
theorem Zgw (a0 : Zaz) (a1 : Addr) : Ref Tryz.prog 63 [ZaV.val a0, .pointer (some a1)] (Zcd a0 a1) Zcd.out := by
 refine J.Fn Tryz.func63 ?_
 unfold Zcd
 exact SJ.sr 2 <| J.b 0 ZaV a0 fun b1 => J.z 1 <| SJ.sr 7 <| J.l 0 Ty3 fun x2 => J.k 1 0 rfl Ty3 (ZcX _) <| J.k 1 0 rfl Ty3 (Zdn _) <| J.C 0 F18 (ZbR _ _ _) fun r3 => J.z 1 <| J.r

/-! ### slices.IndexFunc[[]weir/api.Range,weir/api.Range]: function 81 -/
noncomputable def Zai.B : Code := bod Tryz.f81
noncomputable def Zai.cx : Fx := ⟨Tryz.prog, 81, Tryz.f81, none⟩
noncomputable def Zai.out (r_ : Int) : Value := .int .i64 r_
noncomputable def Zai.F1 (a0 : Sl) (a1v : Any) : LF Int Int := ⟨[.inBlock 0, .code (c2 (c2 Zai.B))], c1 (c2 (c1 (c2 Zai.B))), fun s_ => [(0, Sl.v a0), (1, a1v.v), (7, .int .i64 (a0.len : Int)), (8, .int .i64 s_)], fun s_ => [], (rt Zai.out)⟩
noncomputable def Zai.L1 (a0 : Sl) (a1 : Zaz → M Bool) (s1 : Int) : M (LS Int Int) :=
 if s1 < (a0.len : Int) then
  idx a0.a a0.len s1 2 >>= fun p7 =>
  ld ZaV p7 >>= fun x8 =>
  a1 x8 >>= fun r9 =>
  if r9 = true then
   pure (LS.done s1)
  else
   pure (LS.next (IntKind.wrap .i64 (s1 + 1)))
 else
  pure (LS.done (-1))
theorem Zai.L1_ok (a0 : Sl) (a1v : Any) (a1 : Zaz → M Bool) (h_a1 : ∀ (x0_ : Zaz), RefV Tryz.prog a1v.v [ZaV.val x0_] (a1 x0_) (fun r_ : Bool => .bool r_)) : LJ Zai.cx (Zai.F1 a0 a1v) (fun s_ => Zai.L1 a0 a1 s_) := by
 rintro s1
 show SJ _ _ _ _ (Zai.L1 a0 a1 s1) _
 unfold Zai.L1
 refine SJ.sr 1 <| J.z 1 <| SJ.seq <| J.f ?_ ?_
 ·refine SJ.skip <| SJ.seq <| SJ.block (id := 1) <| SJ.sr 2 <| J.z 2 <| SJ.sr 6 <| J.i 3 fun p7 => J.l 0 Ty93 fun x8 => J.v 0 (h_a1 x8) fun r9 => J.z 0 <| J.f ?_ ?_
  ·exact SJ.sr 2 <| J.z 2 <| J.r
  exact SJ.skip <| SJ.inBlock <| SJ.rg 2 <| J.z 2 <| J.o rfl
 exact SJ.exit (id := 0) (by rfl) <| SJ.sr 1 <| J.z 1 <| J.r
noncomputable def Zai (a0 : Sl) (a1 : Zaz → M Bool) : M Int :=
 Zc7 (fun s_ : Int => Zai.L1 a0 a1 s_) 0
theorem ZdS (a0 : Sl) (a1v : Any) (a1 : Zaz → M Bool) (h_a1 : ∀ (x0_ : Zaz), RefV Tryz.prog a1v.v [ZaV.val x0_] (a1 x0_) (fun r_ : Bool => .bool r_)) : Ref Tryz.prog 81 [Sl.v a0, a1v.v] (Zai a0 a1) Zai.out := by
 refine J.Fn Tryz.func81 ?_
 unfold Zai
 exact SJ.sr 1 <| J.z 1 <| SJ.seq <| SJ.sr 3 <| J.z 3 <| SJ.block (id := 0) <| J.L (Zai.L1_ok a0 a1v a1 h_a1)

/-! ### slices.ContainsFunc[[]weir/api.Range,weir/api.Range]: function 62 -/
noncomputable def Za8.out (r_ : Bool) : Value := .bool r_
noncomputable def Za8 (a0 : Sl) (a1 : Zaz → M Bool) : M Bool :=
 Zai a0 a1 >>= fun r1 =>
 pure (decide (r1 ≥ 0))
theorem ZdE (a0 : Sl) (a1v : Any) (a1 : Zaz → M Bool) (h_a1 : ∀ (x0_ : Zaz), RefV Tryz.prog a1v.v [ZaV.val x0_] (a1 x0_) (fun r_ : Bool => .bool r_)) : Ref Tryz.prog 62 [Sl.v a0, a1v.v] (Za8 a0 a1) Za8.out := by
 refine J.Fn Tryz.func62 ?_
 unfold Za8
 exact SJ.sr 1 <| J.z 1 <| SJ.sr 5 <| J.C 2 F81 (ZdS a0 a1v a1 h_a1) fun r1 => J.z 2 <| J.r

/-! ### weir/rules.portsTest$1: function 60 -/
noncomputable def Zch.out (r_ : Bool) : Value := .bool r_
noncomputable def Zch (a0 : Zau) (a1 : Addr) (a2 : Addr) : M Bool :=
 slot 47 >>= fun b1 =>
 ld cB a1 >>= fun x2 =>
 ZdT a0 x2 >>= fun r3 =>
 newv 3 (cI .i64) 0 >>= fun b4 =>
 st (cI .i64) (pt b4 0) r3.1 >>= fun _ =>
 (if r3.2 = true then
   ld cL a2 >>= fun x5 =>
   Za8 x5 (fun (q6 : Zaz) => Zcd q6 (pt b4 0)) >>= fun r7 =>
   pure r7
  else
   pure false) >>= fun y8 =>
 pure y8
theorem Zhj (a0 : Zau) (a1 : Addr) (a2 : Addr) : Ref Tryz.prog 60 [ZaB.val a0, .pointer (some a1), .pointer (some a2)] (Zch a0 a1 a2) Zch.out := by
 refine J.Fn Tryz.func60 ?_
 unfold Zch
 refine SJ.sr 2 <| J.b 0 ZaB a0 fun b1 => J.z 1 <| SJ.sr 9 <| J.k 0 0 rfl Ty47 (At.whole _) <| J.l 0 Ty4 fun x2 => J.C 0 F61 (ZjS _ _) fun r3 => J.A 3 Ty3 fun b4 => J.w 0 Ty3 <| J.z 1 <| SJ.sr 7 <| J.j 2 3 .bool ?_ ?_ fun y8 => ?_
 ·exact J.l 0 Ty59 fun x5 => J.C 1 F62 (ZdE x5 ⟨.func (.func 63) #[] #[.pointer (some (pt b4 0))], rfl⟩ (fun (q6 : Zaz) => Zcd q6 (pt b4 0)) (fun q6 => RefV.of (first := []) (cap := [.pointer (some (pt b4 0))]) F63 (Zgw q6 (pt b4 0)))) fun r7 => J.e 1
 ·exact J.e 4
 exact J.z 1 <| J.r

/-! ### weir/rules.portsTest: function 36 -/
noncomputable def Zcw.out (r_ : Any) : Value := r_.v
noncomputable def Zcw (a0 : Zaj) (a1 : Bool) : M Any :=
 slot 61 >>= fun b1 =>
 newv 4 cB a1 >>= fun b2 =>
 Za5 a0.Ports >>= fun r3 =>
 newv 59 cL Sl.nil >>= fun b4 =>
 st cL (pt b4 0) r3 >>= fun _ =>
 pure (⟨.func (.func 60) #[] #[.pointer (some (pt b2 0)), .pointer (some (pt b4 0))], rfl⟩ : Any)
theorem Zfp (a0 : Zaj) (a1 : Bool) : Ref Tryz.prog 36 [ZaC.val a0, .bool a1] (Zcw a0 a1) Zcw.out := by
 refine J.Fn Tryz.func36 ?_
 unfold Zcw
 exact SJ.sr 3 <| J.b 0 ZaC a0 fun b1 => J.B 0 fun b2 => J.z 1 <| SJ.sr 5 <| J.k 1 0 rfl Ty59 (ZaU _) <| J.C 0 F54 (ZcU _) fun r3 => J.A 0 Ty59 fun b4 => J.w 0 Ty59 <| J.z 0 <| SJ.sr 2 <| J.z 2 <| J.r

/-! ### weir/rules.tests: function 22 -/
noncomputable def Zed.out (r_ : Sl) : Value := Sl.v r_
noncomputable def Zed (a0 : Zal) : M Sl :=
 slot 63 >>= fun b1 =>
 newv 71 cL Sl.nil >>= fun b2 =>
 Zbu (a0.In != 0) (⟨.iface 111 (.int .i64 a0.In), rfl⟩ : Any) (pt b2 0) >>= fun r3 =>
 Zbu (a0.Vid != 0) (⟨.iface 112 (.int .i64 a0.Vid), rfl⟩ : Any) (pt b2 0) >>= fun r4 =>
 Zbu (a0.Kind != 0) (⟨.iface 113 (.int .i64 a0.Kind), rfl⟩ : Any) (pt b2 0) >>= fun r5 =>
 Zbu (a0.Proto != 0) (⟨.iface 114 (.int .i64 a0.Proto), rfl⟩ : Any) (pt b2 0) >>= fun r6 =>
 draw >>= fun _ =>
 ZaQ a0.From false >>= fun r7 =>
 Zbu (decide ((a0.From.Nets.len : Int) > 0)) (⟨.iface 116 (r7.v), rfl⟩ : Any) (pt b2 0) >>= fun r8 =>
 draw >>= fun _ =>
 Zcw a0.From false >>= fun r9 =>
 Zbu (decide ((a0.From.Ports.len : Int) > 0)) (⟨.iface 116 (r9.v), rfl⟩ : Any) (pt b2 0) >>= fun r10 =>
 draw >>= fun _ =>
 ZaQ a0.To true >>= fun r11 =>
 Zbu (decide ((a0.To.Nets.len : Int) > 0)) (⟨.iface 116 (r11.v), rfl⟩ : Any) (pt b2 0) >>= fun r12 =>
 draw >>= fun _ =>
 Zcw a0.To true >>= fun r13 =>
 Zbu (decide ((a0.To.Ports.len : Int) > 0)) (⟨.iface 116 (r13.v), rfl⟩ : Any) (pt b2 0) >>= fun r14 =>
 Zbu ((bor .i64 a0.Set a0.Clear) != 0) (⟨.iface 119 (Zbf.val (⟨a0.Set, a0.Clear⟩ : Zbz)), rfl⟩ : Any) (pt b2 0) >>= fun r15 =>
 Zbu (a0.Type_ != 0) (⟨.iface 120 (.int .i64 a0.Type_), rfl⟩ : Any) (pt b2 0) >>= fun r16 =>
 Zbu a0.Pieces (⟨.iface 122 (ZbL.val ZcO), rfl⟩ : Any) (pt b2 0) >>= fun r17 =>
 ld cL (pt b2 0) >>= fun x18 =>
 pure x18
theorem ZkA (a0 : Zal) : Ref Tryz.prog 22 [Zak.val a0] (Zed a0) Zed.out := by
 refine J.Fn Tryz.func22 ?_
 unfold Zed
 exact SJ.sr 2 <| J.b 0 Zak a0 fun b1 => J.z 1 <| SJ.sr 1 <| J.A 0 Ty71 fun b2 => J.z 0 <| SJ.sr 2 <| J.z 2 <| SJ.sr 8 <| J.k 2 0 rfl Ty3 (ZdJ _) <| J.k 2 0 rfl Ty3 (ZdJ _) <| J.v 1 (RefV.of (first := []) (cap := [.pointer (some (pt b2 0))]) (vals := [.bool (a0.In != 0), .iface 111 (.int .i64 a0.In)]) F34 (ZbI (a0.In != 0) (⟨.iface 111 (.int .i64 a0.In), rfl⟩ : Any) (pt b2 0))) fun r3 => J.z 0 <| SJ.sr 8 <| J.k 2 0 rfl Ty3 (Zdm _) <| J.k 2 0 rfl Ty3 (Zdm _) <| J.v 1 (RefV.of (first := []) (cap := [.pointer (some (pt b2 0))]) (vals := [.bool (a0.Vid != 0), .iface 112 (.int .i64 a0.Vid)]) F34 (ZbI (a0.Vid != 0) (⟨.iface 112 (.int .i64 a0.Vid), rfl⟩ : Any) (pt b2 0))) fun r4 => J.z 0 <| SJ.sr 8 <| J.k 2 0 rfl Ty3 (ZbV _) <| J.k 2 0 rfl Ty3 (ZbV _) <| J.v 1 (RefV.of (first := []) (cap := [.pointer (some (pt b2 0))]) (vals := [.bool (a0.Kind != 0), .iface 113 (.int .i64 a0.Kind)]) F34 (ZbI (a0.Kind != 0) (⟨.iface 113 (.int .i64 a0.Kind), rfl⟩ : Any) (pt b2 0))) fun r5 => J.z 0 <| SJ.sr 8 <| J.k 2 0 rfl Ty3 (Zbv _) <| J.k 2 0 rfl Ty3 (Zbv _) <| J.v 1 (RefV.of (first := []) (cap := [.pointer (some (pt b2 0))]) (vals := [.bool (a0.Proto != 0), .iface 114 (.int .i64 a0.Proto)]) F34 (ZbI (a0.Proto != 0) (⟨.iface 114 (.int .i64 a0.Proto), rfl⟩ : Any) (pt b2 0))) fun r6 => J.z 0 <| SJ.seq <| J.R 11 Zc0 <| J.k 3 0 rfl Ty58 (At.trans (ZbJ _) (Zav _)) <| J.k 3 0 rfl Ty61 (ZbJ _) <| OJ.call (d := 46) (g := 35) (ats := #[61, 4]) (args := [.tmp 45, .const (.bool false)]) (owed := [⟨3, 58, (pt b1 7), cL.val a0.From.Nets⟩]) F35 (ZfP a0.From false) fun r7 => OW.known (j := 0) (q := a0.From.Nets) Ty58 rfl (At.trans (ZbJ a0) (Zav a0.From)) <| OW.nil <| J.v 1 (RefV.of (first := []) (cap := [.pointer (some (pt b2 0))]) (vals := [.bool (decide ((a0.From.Nets.len : Int) > 0)), .iface 116 (r7.v)]) F34 (ZbI (decide ((a0.From.Nets.len : Int) > 0)) (⟨.iface 116 (r7.v), rfl⟩ : Any) (pt b2 0))) fun r8 => J.z 0 <| SJ.seq <| J.R 11 Zc0 <| J.k 3 0 rfl Ty59 (At.trans (ZbJ _) (ZaU _)) <| J.k 3 0 rfl Ty61 (ZbJ _) <| OJ.call (d := 57) (g := 36) (ats := #[61, 4]) (args := [.tmp 56, .const (.bool false)]) (owed := [⟨3, 59, (pt b1 8), cL.val a0.From.Ports⟩]) F36 (Zfp a0.From false) fun r9 => OW.known (j := 0) (q := a0.From.Ports) Ty59 rfl (At.trans (ZbJ a0) (ZaU a0.From)) <| OW.nil <| J.v 1 (RefV.of (first := []) (cap := [.pointer (some (pt b2 0))]) (vals := [.bool (decide ((a0.From.Ports.len : Int) > 0)), .iface 116 (r9.v)]) F34 (ZbI (decide ((a0.From.Ports.len : Int) > 0)) (⟨.iface 116 (r9.v), rfl⟩ : Any) (pt b2 0))) fun r10 => J.z 0 <| SJ.seq <| J.R 11 Zc0 <| J.k 3 0 rfl Ty58 (At.trans (ZbM _) (Zav _)) <| J.k 3 0 rfl Ty61 (ZbM _) <| OJ.call (d := 68) (g := 35) (ats := #[61, 4]) (args := [.tmp 67, .const (.bool true)]) (owed := [⟨3, 58, (pt b1 10), cL.val a0.To.Nets⟩]) F35 (ZfP a0.To true) fun r11 => OW.known (j := 0) (q := a0.To.Nets) Ty58 rfl (At.trans (ZbM a0) (Zav a0.To)) <| OW.nil <| J.v 1 (RefV.of (first := []) (cap := [.pointer (some (pt b2 0))]) (vals := [.bool (decide ((a0.To.Nets.len : Int) > 0)), .iface 116 (r11.v)]) F34 (ZbI (decide ((a0.To.Nets.len : Int) > 0)) (⟨.iface 116 (r11.v), rfl⟩ : Any) (pt b2 0))) fun r12 => J.z 0 <| SJ.seq <| J.R 11 Zc0 <| J.k 3 0 rfl Ty59 (At.trans (ZbM _) (ZaU _)) <| J.k 3 0 rfl Ty61 (ZbM _) <| OJ.call (d := 79) (g := 36) (ats := #[61, 4]) (args := [.tmp 78, .const (.bool true)]) (owed := [⟨3, 59, (pt b1 11), cL.val a0.To.Ports⟩]) F36 (Zfp a0.To true) fun r13 => OW.known (j := 0) (q := a0.To.Ports) Ty59 rfl (At.trans (ZbM a0) (ZaU a0.To)) <| OW.nil <| J.v 1 (RefV.of (first := []) (cap := [.pointer (some (pt b2 0))]) (vals := [.bool (decide ((a0.To.Ports.len : Int) > 0)), .iface 116 (r13.v)]) F34 (ZbI (decide ((a0.To.Ports.len : Int) > 0)) (⟨.iface 116 (r13.v), rfl⟩ : Any) (pt b2 0))) fun r14 => J.z 0 <| SJ.sr 14 <| J.k 2 0 rfl Ty3 (Zb8 _) <| J.k 1 0 rfl Ty3 (ZbN _) <| J.k 3 0 rfl Ty3 (Zb8 _) <| J.k 1 0 rfl Ty3 (ZbN _) <| J.u 0 Zti (.f 0 (Zg0 _ a0.Set) (.f 1 (Zgg _ a0.Clear) .nil)) <| J.v 1 (RefV.of (first := []) (cap := [.pointer (some (pt b2 0))]) (vals := [.bool ((bor .i64 a0.Set a0.Clear) != 0), .iface 119 (Zbf.val (⟨a0.Set, a0.Clear⟩ : Zbz))]) F34 (ZbI ((bor .i64 a0.Set a0.Clear) != 0) (⟨.iface 119 (Zbf.val (⟨a0.Set, a0.Clear⟩ : Zbz)), rfl⟩ : Any) (pt b2 0))) fun r15 => J.z 0 <| SJ.sr 8 <| J.k 2 0 rfl Ty3 (Zcs _) <| J.k 2 0 rfl Ty3 (Zcs _) <| J.v 1 (RefV.of (first := []) (cap := [.pointer (some (pt b2 0))]) (vals := [.bool (a0.Type_ != 0), .iface 120 (.int .i64 a0.Type_)]) F34 (ZbI (a0.Type_ != 0) (⟨.iface 120 (.int .i64 a0.Type_), rfl⟩ : Any) (pt b2 0))) fun r16 => J.z 0 <| SJ.sr 6 <| J.k 2 0 rfl Ty4 (ZdR _) <| J.u 0 Zth .nil <| J.v 1 (RefV.of (first := []) (cap := [.pointer (some (pt b2 0))]) (vals := [.bool a0.Pieces, .iface 122 (ZbL.val ZcO)]) F34 (ZbI a0.Pieces (⟨.iface 122 (ZbL.val ZcO), rfl⟩ : Any) (pt b2 0))) fun r17 => J.z 0 <| SJ.sr 2 <| J.l 0 Ty71 fun x18 => J.z 1 <| J.r

/-! ### (*weir/rules.Set).add: function 11 -/
noncomputable def Zdx.out (r_ : Unit) : Value := .tuple #[]
noncomputable def Zdx (a0 : (Option Addr)) (a1 : Zal) : M Unit :=
 slot 63 >>= fun b1 =>
 draw >>= fun _ =>
 nilck a0 >>= fun p2 =>
 ld cL p2 >>= fun x3 =>
 Zee a1 >>= fun r4 =>
 same cL p2 x3 >>= fun _ =>
 slot 63 >>= fun b5 =>
 same cL p2 x3 >>= fun _ =>
 appl Zak 63 192 ZaD x3 [r4] >>= fun r6 =>
 nilck a0 >>= fun p7 =>
 st cL p7 r6 >>= fun _ =>
 draw >>= fun _ =>
 nilck a0 >>= fun p8 =>
 ld cL (Addr.add p8 1) >>= fun x9 =>
 Zed a1 >>= fun r10 =>
 same cL (Addr.add p8 1) x9 >>= fun _ =>
 slot 71 >>= fun b11 =>
 same cL (Addr.add p8 1) x9 >>= fun _ =>
 appl cL 71 24 Sl.nil x9 [r10] >>= fun r12 =>
 nilck a0 >>= fun p13 =>
 st cL (Addr.add p13 1) r12 >>= fun _ =>
 pure ()
theorem Zjl (a0 : (Option Addr)) (a1 : Zal) : Ref Tryz.prog 11 [.pointer a0, Zak.val a1] (Zdx a0 a1) Zdx.out := by
 refine J.Fn Tryz.func11 ?_
 unfold Zdx
 exact SJ.sr 1 <| J.b 0 Zak a1 fun b1 => J.z 0 <| SJ.seq <| J.R 12 Zc0 <| J.n 2 fun p2 => J.l 1 Ty22 fun x3 => J.k 0 0 rfl Ty63 (At.whole _) <| OJ.call (d := 10) (g := 21) (ats := #[63]) (args := [.tmp 9]) (owed := [⟨4, 22, p2, cL.val x3⟩]) F21 (ZkB a1) fun r4 => OW.same Ty22 <| OW.nil <| OJ.rowSlot (d := 11) (t := 22) (parts := [(0, .tmp 10)]) (ps := [(0, Zak.val r4)]) (cd := Zak) (⟨[r4], rfl⟩ : Vec Zal 1) (owed := [⟨4, 22, p2, cL.val x3⟩]) Ty63 (ZbW.cons (cd := Zak) (q := r4) (o := 0) rfl (Upd.arr (i := 0) (by decide) (by decide)) ZbW.nil) fun b5 => OW.same Ty22 <| OW.nil <| J.p 0 0 rfl Ty63 fun r6 => J.n 0 fun p7 => J.w 1 Ty22 <| J.z 0 <| J.R 12 Zc0 <| J.n 2 fun p8 => J.l 1 Ty66 fun x9 => J.k 0 1 rfl Ty63 (At.whole _) <| OJ.call (d := 21) (g := 22) (ats := #[63]) (args := [.tmp 20]) (owed := [⟨4, 66, (Addr.add p8 1), cL.val x9⟩]) F22 (ZkA a1) fun r10 => OW.same Ty66 <| OW.nil <| OJ.rowSlot (d := 22) (t := 66) (parts := [(0, .tmp 21)]) (ps := [(0, cL.val r10)]) (cd := cL) (⟨[r10], rfl⟩ : Vec Sl 1) (owed := [⟨4, 66, (Addr.add p8 1), cL.val x9⟩]) Ty71 (ZbW.cons (cd := cL) (q := r10) (o := 0) rfl (Upd.arr (i := 0) (by decide) (by decide)) ZbW.nil) fun b11 => OW.same Ty66 <| OW.nil <| J.p 0 0 rfl Ty71 fun r12 => J.n 0 fun p13 => J.w 1 Ty66 <| J.z 0 <| SJ.end_ rfl (Res.run (ys := []) .nil rfl)

/-! ### weir/rules.New: function 6 -/
noncomputable def ZbC.B : Code := bod Tryz.f6
noncomputable def ZbC.cx : Fx := ⟨Tryz.prog, 6, Tryz.f6, none⟩
noncomputable def ZbC.out (r_ : ((Option Addr) × Int × Int)) : Value := .tuple #[.pointer r_.1, .int .i64 r_.2.1, .int .i64 r_.2.2]
noncomputable def ZbC.F1 (a0 : Sl) (b1 : Nat) : LF Int ((Option Addr) × Int × Int) := ⟨[.inBlock 0, .code (c2 (c2 (c2 (c2 ZbC.B))))], c1 (c2 (c1 (c2 (c2 (c2 ZbC.B))))), fun s_ => [(5, .pointer (some (pt b1 0))), (14, Sl.v a0), (15, .int .i64 (a0.len : Int)), (16, .int .i64 s_)], fun s_ => [], (rt ZbC.out)⟩
noncomputable def ZbC.L1 (a0 : Sl) (b1 : Nat) (s2 : Int) : M (LS Int ((Option Addr) × Int × Int)) :=
 if s2 < (a0.len : Int) then
  idx a0.a a0.len s2 16 >>= fun p10 =>
  ld Zak p10 >>= fun x11 =>
  slot 63 >>= fun b12 =>
  ZaS x11 >>= fun r13 =>
  if r13 ≠ 0 then
   pure (LS.done (none, r13, s2))
  else
   Zdx (some (pt b1 0)) x11 >>= fun r14 =>
   pure (LS.next (IntKind.wrap .i64 (s2 + 1)))
 else
  pure (LS.done ((some (pt b1 0)), 0, 0))
theorem ZbC.L1_ok (a0 : Sl) (b1 : Nat) : LJ ZbC.cx (ZbC.F1 a0 b1) (fun s_ => ZbC.L1 a0 b1 s_) := by
 rintro s2
 show SJ _ _ _ _ (ZbC.L1 a0 b1 s2) _
 unfold ZbC.L1
 refine SJ.sr 1 <| J.z 1 <| SJ.seq <| J.f ?_ ?_
 ·refine SJ.skip <| SJ.seq <| SJ.block (id := 1) <| SJ.sr 6 <| J.i 1 fun p10 => J.l 0 Ty63 fun x11 => J.a 0 Ty63 fun b12 => J.s 1 0 rfl Ty63 (Upd.w x11) <| J.z 0 <| SJ.seq <| SJ.sr 3 <| J.k 0 0 rfl Ty63 (At.whole _) <| J.C 0 F10 (ZfF _) fun r13 => J.z 1 <| SJ.sr 2 <| J.z 2 <| J.f ?_ ?_
  ·exact SJ.sr 5 <| J.z 5 <| J.r
  exact SJ.skip <| SJ.rg 3 <| J.k 1 0 rfl Ty63 (At.whole _) <| J.C 0 F11 (Zjl _ _) fun r14 => J.z 0 <| SJ.inBlock <| SJ.rg 2 <| J.z 2 <| SJ.forget (List.Sublist.cons _ List.Sublist.slnil) <| J.o rfl
 exact SJ.exit (id := 0) (by rfl) <| SJ.sr 4 <| J.z 4 <| J.r
noncomputable def ZbC (a0 : Sl) : M ((Option Addr) × Int × Int) :=
 if (a0.len : Int) > 256 then
  pure (none, 167, 256)
 else
  newv 68 ZcF ZhA >>= fun b1 =>
  Zc7 (fun s_ : Int => ZbC.L1 a0 b1 s_) 0
theorem Zfs (a0 : Sl) : Ref Tryz.prog 6 [Sl.v a0] (ZbC a0) ZbC.out := by
 refine J.Fn Tryz.func6 ?_
 unfold ZbC
 refine SJ.sr 3 <| J.z 3 <| SJ.seq <| SJ.sr 3 <| J.z 3 <| J.f ?_ ?_
 ·exact SJ.sr 3 <| J.z 3 <| J.r
 exact SJ.skip <| SJ.sr 3 <| J.u 0 Ty68 .nil <| J.B 0 fun b1 => J.z 1 <| SJ.seq <| SJ.sr 3 <| J.z 3 <| SJ.block (id := 0) <| J.L (ZbC.L1_ok a0 b1)

/-! ### weir/weirlaw16.num: function 7 -/
noncomputable def ZbX.out (r_ : Int) : Value := .int .i64 r_
noncomputable def ZbX (a0 : Int) : M Int :=
 pure a0
theorem ZcB (a0 : Int) : Ref Tryz.prog 7 [.int .i64 a0] (ZbX a0) ZbX.out := by
 refine J.Fn Tryz.func7 ?_
 unfold ZbX
 exact SJ.sr 1 <| J.z 1 <| SJ.sr 2 <| J.z 2 <| J.r

/-! ### (weir/rules.inTest).holds: function 146 -/
noncomputable def Zck.out (r_ : Bool) : Value := .bool r_
noncomputable def Zck (a0 : Int) (a1 : Int) (a2 : Zau) : M Bool :=
 slot 47 >>= fun b1 =>
 pure ((IntKind.wrap .i64 (a0 - 1)) == a1)
theorem ZgF (a0 : Int) (a1 : Int) (a2 : Zau) : Ref Tryz.prog 146 [.int .i64 a0, .int .i64 a1, ZaB.val a2] (Zck a0 a1 a2) Zck.out := by
 refine J.Fn Tryz.func146 ?_
 unfold Zck
 exact SJ.sr 2 <| J.b 0 ZaB a2 fun b1 => J.z 1 <| SJ.sr 5 <| J.z 5 <| J.r

/-! ### (weir/rules.vidTest).holds: function 147 -/
noncomputable def Zcc.out (r_ : Bool) : Value := .bool r_
noncomputable def Zcc (a0 : Int) (a1 : Int) (a2 : Zau) : M Bool :=
 slot 47 >>= fun b1 =>
 (if (a2.Tags.len : Int) > 0 then
   idx a2.Tags.a a2.Tags.len 0 4 >>= fun p2 =>
   ld (cI .i64) (Addr.add p2 3) >>= fun x3 =>
   pure (x3 == a0)
  else
   pure false) >>= fun y4 =>
 pure y4
theorem Zgu (a0 : Int) (a1 : Int) (a2 : Zau) : Ref Tryz.prog 147 [.int .i64 a0, .int .i64 a1, ZaB.val a2] (Zcc a0 a1 a2) Zcc.out := by
 refine J.Fn Tryz.func147 ?_
 unfold Zcc
 refine SJ.sr 2 <| J.b 0 ZaB a2 fun b1 => J.z 1 <| SJ.sr 14 <| J.k 1 0 rfl Ty25 (ZfC _) <| J.j 3 7 .bool ?_ ?_ fun y4 => ?_
 ·exact J.k 1 0 rfl Ty25 (ZfC _) <| J.i 0 fun p2 => J.l 1 Ty3 fun x3 => J.e 3
 ·exact J.e 8
 exact J.z 1 <| J.r

/-! ### (weir/rules.kindTest).holds: function 148 -/
noncomputable def Zb6.out (r_ : Bool) : Value := .bool r_
noncomputable def Zb6 (a0 : Int) (a1 : Int) (a2 : Zau) : M Bool :=
 slot 47 >>= fun b1 =>
 pure (a2.Kind == a0)
theorem Zf7 (a0 : Int) (a1 : Int) (a2 : Zau) : Ref Tryz.prog 148 [.int .i64 a0, .int .i64 a1, ZaB.val a2] (Zb6 a0 a1 a2) Zb6.out := by
 refine J.Fn Tryz.func148 ?_
 unfold Zb6
 exact SJ.sr 2 <| J.b 0 ZaB a2 fun b1 => J.z 1 <| SJ.sr 5 <| J.k 1 0 rfl Ty3 (ZcA _) <| J.z 3 <| J.r

/-! ### (weir/rules.protoTest).holds: function 149 -/
noncomputable def ZbS.out (r_ : Bool) : Value := .bool r_
noncomputable def ZbS (a0 : Int) (a1 : Int) (a2 : Zau) : M Bool :=
 slot 47 >>= fun b1 =>
 (if a2.Kind = 2 then
   pure (a2.Ip4.Proto == a0)
  else
   pure false) >>= fun y2 =>
 (if y2 = true then
   pure true
  else
   (if a2.Kind = 3 then
     pure (a2.Ip6.Next == a0)
    else
     pure false) >>= fun y3 =>
   pure y3) >>= fun y4 =>
 pure y4
theorem ZfN (a0 : Int) (a1 : Int) (a2 : Zau) : Ref Tryz.prog 149 [.int .i64 a0, .int .i64 a1, ZaB.val a2] (ZbS a0 a1 a2) ZbS.out := by
 refine J.Fn Tryz.func149 ?_
 unfold ZbS
 refine SJ.sr 2 <| J.b 0 ZaB a2 fun b1 => J.z 1 <| SJ.sr 23 <| J.k 1 0 rfl Ty3 (ZcA _) <| J.j 2 5 .bool ?_ ?_ fun y2 => ?_
 ·exact J.k 2 0 rfl Ty3 (At.trans (ZcR _) (Zju _)) <| J.e 3
 ·exact J.e 6
 refine J.g 1 <| OJ.join (b := y2) [11, 12, 13, 14, 15, 16, 17, 18, 19, 20, 21] [22] [28] (fun y4 => [(28, .bool y4)]) [] [] (t := 17) Iff.rfl (fun hp_ => ?_) (fun hp_ => ?_) (fun _ _ _ _ _ _ h_ => h_) fun y4 => ?_
 ·exact J.g 11 <| OJ.nil ⟨(Cov.mem Cov.nil), rfl, _, rfl, by kernel_rfl⟩
 ·refine J.k 1 0 rfl Ty3 (ZcA _) <| J.g 2 <| OJ.join (b := (a2.Kind == 3)) [15, 16, 17, 18, 19, 20] [21] [17, 27] (fun y3 => [(17, .bool false), (27, .bool y3)]) [] [] (t := 21) beq_iff_eq (fun hp_ => ?_) (fun hp_ => ?_) (fun _ _ _ _ _ hq_ h_ => ⟨fun e_ he_ => (hq_ e_ he_).elim (fun h => h_.1 e_ h) (fun h => nomatch h), h_.2⟩) fun y3 => ?_
  ·exact J.k 2 0 rfl Ty3 (At.trans (Zdo _) (Zkv _)) <| J.g 3 <| OJ.nil ⟨(Cov.mem Cov.nil), rfl, _, rfl, by kernel_rfl⟩
  ·exact J.g 6 <| OJ.nil ⟨(Cov.mem Cov.nil), rfl, _, rfl, by kernel_rfl⟩
  exact J.g 1 <| OJ.nil ⟨(Cov.mem Cov.nil), rfl, _, rfl, by kernel_rfl⟩
 exact J.z 1 <| J.r

/-! ### (weir/rules.sideTest).holds: function 150 -/
noncomputable def ZbO.out (r_ : Bool) : Value := .bool r_
noncomputable def ZbO (a0 : Zau → M Bool) (a1 : Int) (a2 : Zau) : M Bool :=
 slot 47 >>= fun b1 =>
 a0 a2 >>= fun r2 =>
 pure r2
theorem Zf6 (a0v : Any) (a0 : Zau → M Bool) (h_a0 : ∀ (x0_ : Zau), RefV Tryz.prog a0v.v [ZaB.val x0_] (a0 x0_) (fun r_ : Bool => .bool r_)) (a1 : Int) (a2 : Zau) : Ref Tryz.prog 150 [a0v.v, .int .i64 a1, ZaB.val a2] (ZbO a0 a1 a2) ZbO.out := by
 refine J.Fn Tryz.func150 ?_
 unfold ZbO
 exact SJ.sr 2 <| J.b 0 ZaB a2 fun b1 => J.z 1 <| SJ.sr 4 <| J.k 1 0 rfl Ty47 (At.whole _) <| J.v 0 (h_a0 a2) fun r2 => J.z 1 <| J.r

/-! ### (weir/rules.flagTest).holds: function 151 -/
noncomputable def Zb7.out (r_ : Bool) : Value := .bool r_
noncomputable def Zb7 (a0 : Zbz) (a1 : Int) (a2 : Zau) : M Bool :=
 slot 119 >>= fun b1 =>
 slot 47 >>= fun b2 =>
 (if a2.L4 = 3 then
   pure ((band .i64 a2.Tcp.Flags a0.set) == a0.set)
  else
   pure false) >>= fun y3 =>
 (if y3 = true then
   pure ((band .i64 a2.Tcp.Flags a0.clear) == 0)
  else
   pure false) >>= fun y4 =>
 pure y4
theorem Zf8 (a0 : Zbz) (a1 : Int) (a2 : Zau) : Ref Tryz.prog 151 [Zbf.val a0, .int .i64 a1, ZaB.val a2] (Zb7 a0 a1 a2) Zb7.out := by
 refine J.Fn Tryz.func151 ?_
 unfold Zb7
 refine SJ.sr 3 <| J.b 0 Zbf a0 fun b1 => J.b 0 ZaB a2 fun b2 => J.z 1 <| SJ.sr 24 <| J.k 1 0 rfl Ty3 (ZeZ _) <| J.j 2 9 .bool ?_ ?_ fun y3 => ?_
 ·exact J.k 2 0 rfl Ty3 (At.trans (Zd4 _) (Zgt _)) <| J.k 1 1 rfl Ty3 (ZeT _) <| J.k 2 1 rfl Ty3 (ZeT _) <| J.e 2
 ·exact J.e 10
 refine J.j 1 7 .bool ?_ ?_ fun y4 => ?_
 ·exact J.k 2 0 rfl Ty3 (At.trans (Zd4 _) (Zgt _)) <| J.k 1 1 rfl Ty3 (Zgi _) <| J.e 3
 ·exact J.e 8
 exact J.z 1 <| J.r

/-! ### (weir/rules.typeTest).holds: function 152 -/
noncomputable def Zb4.out (r_ : Bool) : Value := .bool r_
noncomputable def Zb4 (a0 : Int) (a1 : Int) (a2 : Zau) : M Bool :=
 slot 47 >>= fun b1 =>
 (if a2.L4 = 1 then
   pure (a2.Icmp.Type_ == (IntKind.wrap .i64 (a0 - 1)))
  else
   pure false) >>= fun y2 =>
 pure y2
theorem Zf5 (a0 : Int) (a1 : Int) (a2 : Zau) : Ref Tryz.prog 152 [.int .i64 a0, .int .i64 a1, ZaB.val a2] (Zb4 a0 a1 a2) Zb4.out := by
 refine J.Fn Tryz.func152 ?_
 unfold Zb4
 refine SJ.sr 2 <| J.b 0 ZaB a2 fun b1 => J.z 1 <| SJ.sr 12 <| J.k 1 0 rfl Ty3 (ZeZ _) <| J.j 2 6 .bool ?_ ?_ fun y2 => ?_
 ·exact J.k 2 0 rfl Ty3 (At.trans (Zit _) (ZiQ _)) <| J.e 4
 ·exact J.e 7
 exact J.z 1 <| J.r

/-! ### (weir/rules.pieceTest).holds: function 153 -/
noncomputable def ZbT.out (r_ : Bool) : Value := .bool r_
noncomputable def ZbT (a0 : Zdk) (a1 : Int) (a2 : Zau) : M Bool :=
 slot 122 >>= fun b1 =>
 slot 47 >>= fun b2 =>
 (if a2.Kind = 2 then
   (if a2.Ip4.MF = true then
     pure true
    else
     pure (decide (a2.Ip4.Off > 0))) >>= fun y3 =>
   pure y3
  else
   pure false) >>= fun y4 =>
 (if y4 = true then
   pure true
  else
   (if a2.Kind = 3 then
     pure a2.Ip6.Frag.Has
    else
     pure false) >>= fun y5 =>
   pure y5) >>= fun y6 =>
 pure y6
theorem ZfO (a0 : Zdk) (a1 : Int) (a2 : Zau) : Ref Tryz.prog 153 [ZbL.val a0, .int .i64 a1, ZaB.val a2] (ZbT a0 a1 a2) ZbT.out := by
 refine J.Fn Tryz.func153 ?_
 unfold ZbT
 refine SJ.sr 3 <| J.b 0 ZbL a0 fun b1 => J.b 0 ZaB a2 fun b2 => J.z 1 <| SJ.sr 26 <| J.k 1 0 rfl Ty3 (ZcA _) <| J.g 2 <| OJ.join (b := (a2.Kind == 2)) [4, 5, 6, 7, 8, 9, 10, 11, 12, 13] [14, 15, 16, 17, 18, 19, 20, 21, 22, 23, 24, 25] [5, 20] (fun y4 => [(5, .pointer (some (pt b2 0))), (20, .bool y4)]) [] [] (t := 10) beq_iff_eq (fun hp_ => ?_) (fun hp_ => ?_) (fun _ _ _ _ _ _ h_ => h_) fun y4 => ?_
 ·refine J.k 2 0 rfl Ty4 (At.trans (ZcR _) (ZlV _)) <| J.g 1 <| OJ.join (b := a2.Ip4.MF) [8, 9, 10, 11, 12] [13] [5, 10, 19] (fun y3 => [(5, .pointer (some (pt b2 0))), (10, .bool true), (19, .bool y3)]) [] [] (t := 14) Iff.rfl (fun hp_ => ?_) (fun hp_ => ?_) (fun _ _ _ _ _ hq_ h_ => ⟨fun e_ he_ => (hq_ e_ he_).elim (fun h => h_.1 e_ h) (fun h => nomatch h), h_.2⟩) fun y3 => ?_
  ·exact J.g 5 <| OJ.nil ⟨(Cov.mem Cov.nil), rfl, _, rfl, by kernel_rfl⟩
  ·exact J.k 2 0 rfl Ty3 (At.trans (ZcR _) (ZkM _)) <| J.g 2 <| OJ.nil ⟨(Cov.mem Cov.nil), rfl, _, rfl, by kernel_rfl⟩
  exact J.g 1 <| OJ.nil ⟨(Cov.mem Cov.nil), rfl, _, rfl, by kernel_rfl⟩
 ·exact J.g 10 <| OJ.nil ⟨(Cov.mem Cov.nil), rfl, _, rfl, by kernel_rfl⟩
 refine J.g 1 <| OJ.join (b := y4) [15, 16, 17, 18, 19, 20, 21, 22, 23, 24] [25] [31] (fun y6 => [(31, .bool y6)]) [] [] (t := 21) Iff.rfl (fun hp_ => ?_) (fun hp_ => ?_) (fun _ _ _ _ _ _ h_ => h_) fun y6 => ?_
 ·exact J.g 10 <| OJ.nil ⟨(Cov.mem Cov.nil), rfl, _, rfl, by kernel_rfl⟩
 ·refine J.k 1 0 rfl Ty3 (ZcA _) <| J.g 2 <| OJ.join (b := (a2.Kind == 3)) [19, 20, 21, 22, 23] [24] [21, 30] (fun y5 => [(21, .bool false), (30, .bool y5)]) [] [] (t := 25) beq_iff_eq (fun hp_ => ?_) (fun hp_ => ?_) (fun _ _ _ _ _ hq_ h_ => ⟨fun e_ he_ => (hq_ e_ he_).elim (fun h => h_.1 e_ h) (fun h => nomatch h), h_.2⟩) fun y5 => ?_
  ·exact J.k 3 0 rfl Ty4 (At.trans (At.trans (Zdo _) (Zkw _)) (Zkx _)) <| J.g 1 <| OJ.nil ⟨(Cov.mem Cov.nil), rfl, _, rfl, by kernel_rfl⟩
  ·exact J.g 5 <| OJ.nil ⟨(Cov.mem Cov.nil), rfl, _, rfl, by kernel_rfl⟩
  exact J.g 1 <| OJ.nil ⟨(Cov.mem Cov.nil), rfl, _, rfl, by kernel_rfl⟩
 exact J.z 1 <| J.r

/-! ### (*weir/rules.Set).Judge$1: function 13 -/
noncomputable def Zao.out (r_ : Bool) : Value := .bool r_
noncomputable def Zao.fv (f_ : Any) (y0_ : Zau) : M Bool :=
 (ZhP f_.v).elim fail (fun q_ => if q_.1 = 55 then (match q_.2 with | [p0_, p1_, p2_] => Zcn y0_ p0_ p1_ p2_ | _ => fail) else if q_.1 = 60 then (match q_.2 with | [p0_, p1_] => Zch y0_ p0_ p1_ | _ => fail) else fail)
theorem Zao.fv_ok (f_ : Any) (y0_ : Zau) : RefV Tryz.prog f_.v [ZaB.val y0_] (Zao.fv f_ y0_) (fun r_ : Bool => .bool r_) := by
  intro v r v' e
  unfold Zao.fv at e
  cases hf_ : ZhP f_.v with
  | none => rw [hf_] at e; cases e
  | some q_ =>
    obtain ⟨g_, l_⟩ := q_
    rw [hf_] at e
    dsimp only [Option.elim] at e
    by_cases hg_ : g_ = 55
    · subst hg_
      rw [if_pos rfl] at e
      split at e
      · rename_i p0_ p1_ p2_
        have h_ := RefV.of (first := []) (cap := [.pointer (some p0_), .pointer (some p1_), .pointer (some p2_)]) (vals := [ZaB.val y0_]) F55 (ZhF y0_ p0_ p1_ p2_) v r v' e
        rw [Zli hf_]
        exact h_
      · cases e
    rw [if_neg hg_] at e
    by_cases hg_ : g_ = 60
    · subst hg_
      rw [if_pos rfl] at e
      split at e
      · rename_i p0_ p1_
        have h_ := RefV.of (first := []) (cap := [.pointer (some p0_), .pointer (some p1_)]) (vals := [ZaB.val y0_]) F60 (Zhj y0_ p0_ p1_) v r v' e
        rw [Zli hf_]
        exact h_
      · cases e
    rw [if_neg hg_] at e
    cases e
noncomputable def Zao.iv (f_ : Any) (x0_ : Int) (x1_ : Zau) : M Bool :=
 (ifc f_.v).elim fail (fun q_ => if q_.1 = 111 then ((cI .i64).un q_.2).elim fail (fun y_ => Zck y_ x0_ x1_) else if q_.1 = 112 then ((cI .i64).un q_.2).elim fail (fun y_ => Zcc y_ x0_ x1_) else if q_.1 = 113 then ((cI .i64).un q_.2).elim fail (fun y_ => Zb6 y_ x0_ x1_) else if q_.1 = 114 then ((cI .i64).un q_.2).elim fail (fun y_ => ZbS y_ x0_ x1_) else if q_.1 = 116 then (cV.un q_.2).elim fail (fun y_ => ZbO (Zao.fv y_) x0_ x1_) else if q_.1 = 119 then (Zbf.un q_.2).elim fail (fun y_ => Zb7 y_ x0_ x1_) else if q_.1 = 120 then ((cI .i64).un q_.2).elim fail (fun y_ => Zb4 y_ x0_ x1_) else if q_.1 = 122 then (ZbL.un q_.2).elim fail (fun y_ => ZbT y_ x0_ x1_) else fail)
theorem Zao.iv_ok (f_ : Any) (x0_ : Int) (x1_ : Zau) : RefN Tryz.prog f_.v "weir/rules.holds" [.int .i64 x0_, ZaB.val x1_] (Zao.iv f_ x0_ x1_) (fun r_ : Bool => .bool r_) := by
  intro v r v' e
  unfold Zao.iv at e
  cases hf_ : ifc f_.v with
  | none => rw [hf_] at e; cases e
  | some q_ =>
    obtain ⟨t_, z_⟩ := q_
    rw [hf_] at e
    dsimp only [Option.elim] at e
    by_cases ht_ : t_ = 111
    · subst ht_
      rw [if_pos rfl] at e
      cases hy_ : (cI .i64).un z_ with
      | none => rw [hy_] at e; cases e
      | some y_ =>
        rw [hy_] at e
        dsimp only [Option.elim] at e
        rw [Zi8 hf_, Cod.un_eq hy_]
        exact RefN.of (by kernel_rfl) F146 (ZgF y_ x0_ x1_) v r v' e
    rw [if_neg ht_] at e
    by_cases ht_ : t_ = 112
    · subst ht_
      rw [if_pos rfl] at e
      cases hy_ : (cI .i64).un z_ with
      | none => rw [hy_] at e; cases e
      | some y_ =>
        rw [hy_] at e
        dsimp only [Option.elim] at e
        rw [Zi8 hf_, Cod.un_eq hy_]
        exact RefN.of (by kernel_rfl) F147 (Zgu y_ x0_ x1_) v r v' e
    rw [if_neg ht_] at e
    by_cases ht_ : t_ = 113
    · subst ht_
      rw [if_pos rfl] at e
      cases hy_ : (cI .i64).un z_ with
      | none => rw [hy_] at e; cases e
      | some y_ =>
        rw [hy_] at e
        dsimp only [Option.elim] at e
        rw [Zi8 hf_, Cod.un_eq hy_]
        exact RefN.of (by kernel_rfl) F148 (Zf7 y_ x0_ x1_) v r v' e
    rw [if_neg ht_] at e
    by_cases ht_ : t_ = 114
    · subst ht_
      rw [if_pos rfl] at e
      cases hy_ : (cI .i64).un z_ with
      | none => rw [hy_] at e; cases e
      | some y_ =>
        rw [hy_] at e
        dsimp only [Option.elim] at e
        rw [Zi8 hf_, Cod.un_eq hy_]
        exact RefN.of (by kernel_rfl) F149 (ZfN y_ x0_ x1_) v r v' e
    rw [if_neg ht_] at e
    by_cases ht_ : t_ = 116
    · subst ht_
      rw [if_pos rfl] at e
      cases hy_ : cV.un z_ with
      | none => rw [hy_] at e; cases e
      | some y_ =>
        rw [hy_] at e
        dsimp only [Option.elim] at e
        rw [Zi8 hf_, Cod.un_eq hy_]
        exact RefN.of (by kernel_rfl) F150 (Zf6 y_ (Zao.fv y_) (fun y0_ => Zao.fv_ok y_ y0_) x0_ x1_) v r v' e
    rw [if_neg ht_] at e
    by_cases ht_ : t_ = 119
    · subst ht_
      rw [if_pos rfl] at e
      cases hy_ : Zbf.un z_ with
      | none => rw [hy_] at e; cases e
      | some y_ =>
        rw [hy_] at e
        dsimp only [Option.elim] at e
        rw [Zi8 hf_, Cod.un_eq hy_]
        exact RefN.of (by kernel_rfl) F151 (Zf8 y_ x0_ x1_) v r v' e
    rw [if_neg ht_] at e
    by_cases ht_ : t_ = 120
    · subst ht_
      rw [if_pos rfl] at e
      cases hy_ : (cI .i64).un z_ with
      | none => rw [hy_] at e; cases e
      | some y_ =>
        rw [hy_] at e
        dsimp only [Option.elim] at e
        rw [Zi8 hf_, Cod.un_eq hy_]
        exact RefN.of (by kernel_rfl) F152 (Zf5 y_ x0_ x1_) v r v' e
    rw [if_neg ht_] at e
    by_cases ht_ : t_ = 122
    · subst ht_
      rw [if_pos rfl] at e
      cases hy_ : ZbL.un z_ with
      | none => rw [hy_] at e; cases e
      | some y_ =>
        rw [hy_] at e
        dsimp only [Option.elim] at e
        rw [Zi8 hf_, Cod.un_eq hy_]
        exact RefN.of (by kernel_rfl) F153 (ZfO y_ x0_ x1_) v r v' e
    rw [if_neg ht_] at e
    cases e
noncomputable def Zao (a0 : Any) (a1 : Addr) (a2 : Addr) : M Bool :=
 ld (cI .i64) a1 >>= fun x1 =>
 ld ZaB a2 >>= fun x2 =>
 Zao.iv a0 x1 x2 >>= fun r3 =>
 pure (!r3)
theorem Zhk (a0 : Any) (a1 : Addr) (a2 : Addr) : Ref Tryz.prog 13 [a0.v, .pointer (some a1), .pointer (some a2)] (Zao a0 a1 a2) Zao.out := by
 refine J.Fn Tryz.func13 ?_
 unfold Zao
 exact SJ.sr 1 <| J.z 1 <| SJ.sr 6 <| J.l 1 Ty3 fun x1 => J.l 0 Ty47 fun x2 => OJ.inv (d := 8) (ats := #[3, 47]) (args := [.tmp 6, .tmp 7]) (ro := .tmp 5) (name := "weir/rules.holds") (fv := a0.v) (vals := [.int .i64 x1, ZaB.val x2]) (owed := []) (by kernel_rfl) (by kernel_rfl) (by kernel_rfl) (Zao.iv_ok a0 x1 x2) (by kernel_rfl) (by kernel_rfl) (by kernel_rfl) fun r3 => OW.nil <| J.z 2 <| J.r

/-! ### slices.IndexFunc[[]weir/rules.test,weir/rules.test]: function 23 -/
noncomputable def Zad.B : Code := bod Tryz.f23
noncomputable def Zad.cx : Fx := ⟨Tryz.prog, 23, Tryz.f23, none⟩
noncomputable def Zad.out (r_ : Int) : Value := .int .i64 r_
noncomputable def Zad.F1 (a0 : Sl) (a1v : Any) : LF Int Int := ⟨[.inBlock 0, .code (c2 (c2 Zad.B))], c1 (c2 (c1 (c2 Zad.B))), fun s_ => [(0, Sl.v a0), (1, a1v.v), (7, .int .i64 (a0.len : Int)), (8, .int .i64 s_)], fun s_ => [], (rt Zad.out)⟩
noncomputable def Zad.L1 (a0 : Sl) (a1 : Any → M Bool) (s1 : Int) : M (LS Int Int) :=
 if s1 < (a0.len : Int) then
  idx a0.a a0.len s1 1 >>= fun p7 =>
  ld cV p7 >>= fun x8 =>
  a1 x8 >>= fun r9 =>
  if r9 = true then
   pure (LS.done s1)
  else
   pure (LS.next (IntKind.wrap .i64 (s1 + 1)))
 else
  pure (LS.done (-1))
theorem Zad.L1_ok (a0 : Sl) (a1v : Any) (a1 : Any → M Bool) (h_a1 : ∀ (x0_ : Any), RefV Tryz.prog a1v.v [x0_.v] (a1 x0_) (fun r_ : Bool => .bool r_)) : LJ Zad.cx (Zad.F1 a0 a1v) (fun s_ => Zad.L1 a0 a1 s_) := by
 rintro s1
 show SJ _ _ _ _ (Zad.L1 a0 a1 s1) _
 unfold Zad.L1
 refine SJ.sr 1 <| J.z 1 <| SJ.seq <| J.f ?_ ?_
 ·refine SJ.skip <| SJ.seq <| SJ.block (id := 1) <| SJ.sr 2 <| J.z 2 <| SJ.sr 6 <| J.i 3 fun p7 => J.l 0 Ty74 fun x8 => J.v 0 (h_a1 x8) fun r9 => J.z 0 <| J.f ?_ ?_
  ·exact SJ.sr 2 <| J.z 2 <| J.r
  exact SJ.skip <| SJ.inBlock <| SJ.rg 2 <| J.z 2 <| J.o rfl
 exact SJ.exit (id := 0) (by rfl) <| SJ.sr 1 <| J.z 1 <| J.r
noncomputable def Zad (a0 : Sl) (a1 : Any → M Bool) : M Int :=
 Zc7 (fun s_ : Int => Zad.L1 a0 a1 s_) 0
theorem ZdK (a0 : Sl) (a1v : Any) (a1 : Any → M Bool) (h_a1 : ∀ (x0_ : Any), RefV Tryz.prog a1v.v [x0_.v] (a1 x0_) (fun r_ : Bool => .bool r_)) : Ref Tryz.prog 23 [Sl.v a0, a1v.v] (Zad a0 a1) Zad.out := by
 refine J.Fn Tryz.func23 ?_
 unfold Zad
 exact SJ.sr 1 <| J.z 1 <| SJ.seq <| SJ.sr 3 <| J.z 3 <| SJ.block (id := 0) <| J.L (Zad.L1_ok a0 a1v a1 h_a1)

/-! ### slices.ContainsFunc[[]weir/rules.test,weir/rules.test]: function 12 -/
noncomputable def Za3.out (r_ : Bool) : Value := .bool r_
noncomputable def Za3 (a0 : Sl) (a1 : Any → M Bool) : M Bool :=
 Zad a0 a1 >>= fun r1 =>
 pure (decide (r1 ≥ 0))
theorem Zdp (a0 : Sl) (a1v : Any) (a1 : Any → M Bool) (h_a1 : ∀ (x0_ : Any), RefV Tryz.prog a1v.v [x0_.v] (a1 x0_) (fun r_ : Bool => .bool r_)) : Ref Tryz.prog 12 [Sl.v a0, a1v.v] (Za3 a0 a1) Za3.out := by
 refine J.Fn Tryz.func12 ?_
 unfold Za3
 exact SJ.sr 1 <| J.z 1 <| SJ.sr 5 <| J.C 2 F23 (ZdK a0 a1v a1 h_a1) fun r1 => J.z 2 <| J.r

/-! ### (*weir/rules.Set).Judge: function 8 -/
noncomputable def ZaR.B : Code := bod Tryz.f8
noncomputable def ZaR.cx : Fx := ⟨Tryz.prog, 8, Tryz.f8, none⟩
noncomputable def ZaR.out (r_ : ZaO) : Value := Zbh.val r_
noncomputable def ZaR.F1 (a0 : (Option Addr)) (b1 : Nat) (b2 : Nat) (b3 : Nat) (x5 : Sl) : LF (Int × ZaO) ZaO := ⟨[.inBlock 0, .code (c2 (c2 ZaR.B))], c1 (c2 (c1 (c2 ZaR.B))), fun s_ => [(0, .pointer a0), (4, .pointer (some (pt b1 0))), (5, .pointer (some (pt b2 0))), (6, .pointer (some (pt b3 0))), (12, Sl.v x5), (13, .int .i64 (x5.len : Int)), (14, .int .i64 s_.1)], fun s_ => [(b3, Zbh.enc s_.2)], (rt ZaR.out)⟩
noncomputable def ZaR.L1 (a0 : (Option Addr)) (b1 : Nat) (b2 : Nat) (x5 : Sl) (s6 : Int) (s7 : ZaO) : M (LS (Int × ZaO) ZaO) :=
 if s6 < (x5.len : Int) then
  idx x5.a x5.len s6 1 >>= fun p30 =>
  ld cL p30 >>= fun x31 =>
  Za3 x31 (fun (q32 : Any) => Zao q32 (pt b1 0) (pt b2 0)) >>= fun r33 =>
  if ¬ (r33 = true) then
   draw >>= fun _ =>
   nilck a0 >>= fun p42 =>
   ld cL p42 >>= fun x43 =>
   idx x43.a x43.len s6 16 >>= fun p44 =>
   ld (cI .i64) p44 >>= fun x45 =>
   nilck a0 >>= fun p46 =>
   ld cL p46 >>= fun x47 =>
   idx x47.a x47.len s6 16 >>= fun p48 =>
   ld (cI .i64) (Addr.add p48 1) >>= fun x49 =>
   pure (LS.done (⟨x45, x49, s6⟩ : ZaO))
  else
   pure (LS.next (IntKind.wrap .i64 (s6 + 1), s7))
 else
  pure (LS.done (⟨2, ZcJ.Class, (-1)⟩ : ZaO))
theorem ZaR.L1_ok (a0 : (Option Addr)) (b1 : Nat) (b2 : Nat) (b3 : Nat) (x5 : Sl) : LJ ZaR.cx (ZaR.F1 a0 b1 b2 b3 x5) (fun s_ => ZaR.L1 a0 b1 b2 x5 s_.1 s_.2) := by
 rintro ⟨s6, s7⟩
 show SJ _ _ _ _ (ZaR.L1 a0 b1 b2 x5 s6 s7) _
 unfold ZaR.L1
 refine SJ.sr 1 <| J.z 1 <| SJ.seq <| J.f ?_ ?_
 ·refine SJ.skip <| SJ.seq <| SJ.block (id := 1) <| SJ.sr 5 <| J.i 1 fun p30 => J.l 0 Ty71 fun x31 => J.z 2 <| SJ.sr 4 <| J.C 2 F12 (Zdp x31 ⟨.func (.func 13) #[] #[.pointer (some (pt b1 0)), .pointer (some (pt b2 0))], rfl⟩ (fun (q32 : Any) => Zao q32 (pt b1 0) (pt b2 0)) (fun q32 => RefV.of (first := []) (cap := [.pointer (some (pt b1 0)), .pointer (some (pt b2 0))]) F13 (Zhk q32 (pt b1 0) (pt b2 0)))) fun r33 => J.z 1 <| J.f ?_ ?_
  ·exact SJ.seq <| J.R 19 Zc0 <| J.n 1 fun p42 => J.l 1 Ty22 fun x43 => J.i 1 fun p44 => J.l 1 Ty3 fun x45 => J.n 1 fun p46 => J.l 1 Ty22 fun x47 => J.i 1 fun p48 => J.l 1 Ty3 fun x49 => J.u 1 Ty54 (.f 0 (ZdO _ x45) (.f 1 (Zho _ x49) (.f 2 (ZcW _ s6) .nil))) <| J.s 0 0 rfl Ty54 (Upd.w (⟨x45, x49, s6⟩ : ZaO)) <| J.z 0 <| J.rc (.c 0 rfl Ty54 .n)
  exact SJ.skip <| SJ.inBlock <| SJ.rg 2 <| J.z 2 <| J.o rfl
 exact SJ.exit (id := 0) (by rfl) <| SJ.sr 2 <| J.u 0 Ty54 (.f 0 (ZdO _ 2) (.f 2 (ZcW _ (-1)) .nil)) <| J.s 0 0 rfl Ty54 (Upd.w (⟨2, ZcJ.Class, (-1)⟩ : ZaO)) <| J.z 0 <| J.rc (.c 0 rfl Ty54 .n)
noncomputable def ZaR (a0 : (Option Addr)) (a1 : Int) (a2 : Zau) : M ZaO :=
 newv 3 (cI .i64) a1 >>= fun b1 =>
 newv 47 ZaB a2 >>= fun b2 =>
 slot 54 >>= fun b3 =>
 nilck a0 >>= fun p4 =>
 ld cL (Addr.add p4 1) >>= fun x5 =>
 Zc7 (fun s_ : (Int × ZaO) => ZaR.L1 a0 b1 b2 x5 s_.1 s_.2) (0, ZcJ)
theorem ZdN (a0 : (Option Addr)) (a1 : Int) (a2 : Zau) : Ref Tryz.prog 8 [.pointer a0, .int .i64 a1, ZaB.val a2] (ZaR a0 a1 a2) ZaR.out := by
 refine J.Fn Tryz.func8 ?_
 unfold ZaR
 exact SJ.sr 3 <| J.B 0 fun b1 => J.B 0 fun b2 => J.a 0 Ty54 fun b3 => J.z 0 <| SJ.seq <| SJ.sr 6 <| J.n 1 fun p4 => J.l 1 Ty66 fun x5 => J.z 2 <| SJ.block (id := 0) <| J.L (ZaR.L1_ok a0 b1 b2 b3 x5)

/-! ### weir/weirlaw16.line: function 14 -/
noncomputable def Zct.B : Code := bod Tryz.f14
noncomputable def Zct.out (r_ : (ByteArray × Zal)) : Value := .tuple #[.string r_.1, Zak.val r_.2]
noncomputable def Zct  : M (ByteArray × Zal) :=
 slot 63 >>= fun b1 =>
 slot 91 >>= fun b2 =>
 draws 14 2 (Zen (c1 (c2 (c2 Zct.B)))) >>= fun o3 =>
 if bfr o3 1 4 = true then
  newv 91 (Zaw.arr 1) (⟨[(⟨(⟨4, (⟨[10, 0, 0, 0, 0, 0, 0, 0, 0, 0, 0, 0, 0, 0, 0, 0], rfl⟩ : (Vec Int 16))⟩ : Zbo), 8⟩ : Zab)], rfl⟩ : Vec Zab 1) >>= fun b10 =>
  newv 93 (ZaV.arr 1) (⟨[(⟨80, 80⟩ : Zaz)], rfl⟩ : Vec Zaz 1) >>= fun b11 =>
  pure (str0, (⟨1, ZaD.Class, ZaD.Kind, 6, ZaD.In, ZaD.Vid, (⟨ZaT.Not, (⟨some (pt b10 0), 1, 1⟩ : Sl), ZaT.Ports⟩ : Zaj), (⟨ZaT.Not, ZaT.Nets, (⟨some (pt b11 0), 1, 1⟩ : Sl)⟩ : Zaj), ZaD.Set, ZaD.Clear, ZaD.Type_, ZaD.Pieces⟩ : Zal))
 else
  newv 93 (ZaV.arr 1) (⟨[(⟨80, 80⟩ : Zaz)], rfl⟩ : Vec Zaz 1) >>= fun b12 =>
  newv 91 (Zaw.arr 1) (⟨[(⟨(⟨4, (⟨[10, 0, 0, 0, 0, 0, 0, 0, 0, 0, 0, 0, 0, 0, 0, 0], rfl⟩ : (Vec Int 16))⟩ : Zbo), 8⟩ : Zab)], rfl⟩ : Vec Zab 1) >>= fun b13 =>
  pure (str0, (⟨1, ZaD.Class, ZaD.Kind, 6, ZaD.In, ZaD.Vid, (⟨ZaT.Not, (⟨some (pt b13 0), 1, 1⟩ : Sl), ZaT.Ports⟩ : Zaj), (⟨ZaT.Not, ZaT.Nets, (⟨some (pt b12 0), 1, 1⟩ : Sl)⟩ : Zaj), ZaD.Set, ZaD.Clear, ZaD.Type_, ZaD.Pieces⟩ : Zal))
theorem Ziw  : Ref Tryz.prog 14 [] (Zct) Zct.out := by
 refine J.Fn Tryz.func14 ?_
 unfold Zct
 refine SJ.sr 2 <| J.a 1 Ty63 fun b1 => J.z 0 <| SJ.sr 5 <| OJ.build (d := 3) (T := 26) (parts := [(0, .const (.int .u8 10))]) (ps := [(0, (cI .u8).val 10)]) (cd := ((cI .u8).arr 16)) (z0 := (Vec.rep 16 0)) (⟨[10, 0, 0, 0, 0, 0, 0, 0, 0, 0, 0, 0, 0, 0, 0, 0], rfl⟩ : (Vec Int 16)) Ty26 rfl (ZbW.cons (cd := (cI .u8)) (q := 10) (o := 0) (by kernel_rfl) (Upd.arr (i := 0) (by decide) (by decide)) ZbW.nil) <| J.u 0 Ty28 (.f 0 (ZhX _ 4) (.f 1 (ZhY _ (⟨[10, 0, 0, 0, 0, 0, 0, 0, 0, 0, 0, 0, 0, 0, 0, 0], rfl⟩ : (Vec Int 16))) .nil)) <| J.u 0 Ty91 (.f 0 (ZeY _ (⟨4, (⟨[10, 0, 0, 0, 0, 0, 0, 0, 0, 0, 0, 0, 0, 0, 0, 0], rfl⟩ : (Vec Int 16))⟩ : Zbo)) (.f 1 (Zd3 _ 8) .nil)) <| J.a 0 Ty91 fun b2 => J.s 0 0 rfl Ty91 (Upd.w (⟨(⟨4, (⟨[10, 0, 0, 0, 0, 0, 0, 0, 0, 0, 0, 0, 0, 0, 0, 0], rfl⟩ : (Vec Int 16))⟩ : Zbo), 8⟩ : Zab)) <| J.z 0 <| SJ.seq <| SJ.draws (id := 2) (kd := [1, 2, 0, 0, 2, 0, 0, 0, 2]) (bef := [0, 1, 3, 0, 8, 24, 63, 0, 255]) (ord := [0, 1, 2, 3, 4, 5, 6, 7, 8]) (E := [(1, 4)]) Zc0 fun o3 hg_ => SJ.bfr hg_ (by decide) (fun ho9 => ?_) fun ho9 => ?_
 ·exact SJ.leaf hg_ (kd := [1, 2, 0, 0, 2, 0, 0, 0, 2]) (bef := [0, 1, 3, 0, 8, 24, 63, 0, 255]) (ord := [0, 1, 2, 3, 4, 5, 6, 7, 8]) (E := [(1, 4)]) (allB.cons ho9 allB.nil) <| J.k 0 0 rfl Ty91 (At.whole _) <| J.N 0 Ty91 fun b10 => J.u 0 Ty61 (.f 1 (Zec _ (⟨some (pt b10 0), 1, 1⟩ : Sl)) .nil) <| J.u 0 Ty93 (.f 0 (Zex _ 80) (.f 1 (Zey _ 80) .nil)) <| OJ.rowNew (d := 10) (t := 59) (parts := [(0, .tmp 9)]) (ps := [(0, ZaV.val (⟨80, 80⟩ : Zaz))]) (cd := ZaV) (owed := [⟨0, 91, (pt b2 0), Zaw.val (⟨(⟨4, (⟨[10, 0, 0, 0, 0, 0, 0, 0, 0, 0, 0, 0, 0, 0, 0, 0], rfl⟩ : (Vec Int 16))⟩ : Zbo), 8⟩ : Zab)⟩]) Ty93 (ZbW.cons (cd := ZaV) (q := (⟨80, 80⟩ : Zaz)) (o := 0) rfl (Upd.arr (i := 0) (by decide) (by decide)) ZbW.nil) fun b11 => OW.known (j := 0) (q := (⟨(⟨4, (⟨[10, 0, 0, 0, 0, 0, 0, 0, 0, 0, 0, 0, 0, 0, 0, 0], rfl⟩ : (Vec Int 16))⟩ : Zbo), 8⟩ : Zab)) Ty91 rfl (At.whole _) <| OW.nil <| J.u 0 Ty61 (.f 2 (Zd1 _ (⟨some (pt b11 0), 1, 1⟩ : Sl)) .nil) <| J.u 0 Ty63 (.f 0 (ZdW _ 1) (.f 3 (Zd2 _ 6) (.f 6 (ZdH _ (⟨ZaT.Not, (⟨some (pt b10 0), 1, 1⟩ : Sl), ZaT.Ports⟩ : Zaj)) (.f 7 (Zea _ (⟨ZaT.Not, ZaT.Nets, (⟨some (pt b11 0), 1, 1⟩ : Sl)⟩ : Zaj)) .nil)))) <| J.s 1 1 rfl Ty63 (Upd.w (⟨1, ZaD.Class, ZaD.Kind, 6, ZaD.In, ZaD.Vid, (⟨ZaT.Not, (⟨some (pt b10 0), 1, 1⟩ : Sl), ZaT.Ports⟩ : Zaj), (⟨ZaT.Not, ZaT.Nets, (⟨some (pt b11 0), 1, 1⟩ : Sl)⟩ : Zaj), ZaD.Set, ZaD.Clear, ZaD.Type_, ZaD.Pieces⟩ : Zal)) <| J.z 0 <| J.rc (.c 1 rfl Ty63 .n)
 exact SJ.leaf hg_ (kd := [1, 2, 0, 0, 2, 0, 0, 0, 2]) (bef := [0, 1, 3, 0, 8, 24, 63, 0, 255]) (ord := [0, 3, 4, 1, 2, 5, 6, 7, 8]) (E := [(4, 1)]) (allB.cons ho9 allB.nil) <| J.k 0 0 rfl Ty91 (At.whole _) <| J.u 0 Ty93 (.f 0 (Zex _ 80) (.f 1 (Zey _ 80) .nil)) <| OJ.rowNew (d := 10) (t := 59) (parts := [(0, .tmp 9)]) (ps := [(0, ZaV.val (⟨80, 80⟩ : Zaz))]) (cd := ZaV) (owed := [⟨0, 91, (pt b2 0), Zaw.val (⟨(⟨4, (⟨[10, 0, 0, 0, 0, 0, 0, 0, 0, 0, 0, 0, 0, 0, 0, 0], rfl⟩ : (Vec Int 16))⟩ : Zbo), 8⟩ : Zab)⟩]) Ty93 (ZbW.cons (cd := ZaV) (q := (⟨80, 80⟩ : Zaz)) (o := 0) rfl (Upd.arr (i := 0) (by decide) (by decide)) ZbW.nil) fun b12 => OW.known (j := 0) (q := (⟨(⟨4, (⟨[10, 0, 0, 0, 0, 0, 0, 0, 0, 0, 0, 0, 0, 0, 0, 0], rfl⟩ : (Vec Int 16))⟩ : Zbo), 8⟩ : Zab)) Ty91 rfl (At.whole _) <| OW.nil <| J.N 0 Ty91 fun b13 => J.u 0 Ty61 (.f 1 (Zec _ (⟨some (pt b13 0), 1, 1⟩ : Sl)) .nil) <| J.u 0 Ty61 (.f 2 (Zd1 _ (⟨some (pt b12 0), 1, 1⟩ : Sl)) .nil) <| J.u 0 Ty63 (.f 0 (ZdW _ 1) (.f 3 (Zd2 _ 6) (.f 6 (ZdH _ (⟨ZaT.Not, (⟨some (pt b13 0), 1, 1⟩ : Sl), ZaT.Ports⟩ : Zaj)) (.f 7 (Zea _ (⟨ZaT.Not, ZaT.Nets, (⟨some (pt b12 0), 1, 1⟩ : Sl)⟩ : Zaj)) .nil)))) <| J.s 1 1 rfl Ty63 (Upd.w (⟨1, ZaD.Class, ZaD.Kind, 6, ZaD.In, ZaD.Vid, (⟨ZaT.Not, (⟨some (pt b13 0), 1, 1⟩ : Sl), ZaT.Ports⟩ : Zaj), (⟨ZaT.Not, ZaT.Nets, (⟨some (pt b12 0), 1, 1⟩ : Sl)⟩ : Zaj), ZaD.Set, ZaD.Clear, ZaD.Type_, ZaD.Pieces⟩ : Zal)) <| J.z 0 <| J.rc (.c 1 rfl Ty63 .n)

/-! ### weir/rules.words: function 24 -/
noncomputable def ZaH.B : Code := bod Tryz.f24
noncomputable def ZaH.cx : Fx := ⟨Tryz.prog, 24, Tryz.f24, none⟩
noncomputable def ZaH.out (r_ : (Sl × Int)) : Value := .tuple #[Sl.v r_.1, .int .i64 r_.2]
noncomputable def ZaH.F1 (a0 : ByteArray) : LF (Sl × Int) (Sl × Int) := ⟨[.inBlock 0, .code (c2 (c2 (c2 ZaH.B)))], c1 (c2 (c1 (c2 (c2 ZaH.B)))), fun s_ => [(0, .string a0), (4, Sl.v s_.1), (5, .int .i64 s_.2)], fun s_ => [], (rt ZaH.out)⟩
noncomputable def ZaH.K1 (a0 : ByteArray) (s1 : Sl) (s2 : Int) (s42 : Int) : M (LS (Sl × Int) (Sl × Int)) :=
 chk ((0 : Int) ≤ s2 ∧ s2 < (a0.size : Int)) >>= fun _ =>
 if s42 > s2 then
  chk (0 ≤ (s2 : Int) ∧ (s2 : Int) ≤ s42 ∧ s42 ≤ (a0.size : Int)) >>= fun _ =>
  slot 102 >>= fun b60 =>
  appl Zbc 102 24 Zcu s1 [(⟨(ByteArray.extract a0 (Int.toNat s2) (Int.toNat s42)), s2⟩ : Zay)] >>= fun r61 =>
  pure (LS.next (r61, s42))
 else
  if (sb a0 s2) = 44 then
   chk (0 ≤ (s2 : Int) ∧ (s2 : Int) ≤ (IntKind.wrap .i64 (s42 + 1)) ∧ (IntKind.wrap .i64 (s42 + 1)) ≤ (a0.size : Int)) >>= fun _ =>
   slot 102 >>= fun b64 =>
   appl Zbc 102 24 Zcu s1 [(⟨(ByteArray.extract a0 (Int.toNat s2) (Int.toNat (IntKind.wrap .i64 (s42 + 1)))), s2⟩ : Zay)] >>= fun r65 =>
   pure (LS.next (r65, IntKind.wrap .i64 (s42 + 1)))
  else
   (if (sb a0 s2) = 32 then
     pure true
    else
     pure ((sb a0 s2) == 9)) >>= fun y66 =>
   if y66 = true then
    pure (LS.next (s1, IntKind.wrap .i64 (s2 + 1)))
   else
    pure (LS.done (Sl.nil, s2))
theorem ZaH.K1_ok (a0 : ByteArray) (s1 : Sl) (s2 : Int) (s42 : Int) :
  SJ ZaH.cx [.code (c2 (c2 (c1 (c2 (c1 (c1 (c2 (c1 (c2 (c2 ZaH.B)))))))))), .inBlock 1, .inLoop (c1 (c1 (c2 (c1 (c2 (c2 ZaH.B)))))), .inBlock 0, .code (c2 (c2 (c2 ZaH.B)))] [(0, .string a0), (4, Sl.v s1), (5, .int .i64 s2), (6, .int .i64 s42)] [] (ZaH.K1 a0 s1 s2 s42) (ZaH.F1 a0).f := by
 unfold ZaH.K1
 refine SJ.seq <| SJ.sr 4 <| J.t 2 fun hb53 hb54 => J.z 1 <| SJ.block (id := 4) <| SJ.sr 4 <| J.z 4 <| J.f ?_ ?_
 ·exact SJ.skip <| SJ.inBlock <| SJ.sr 10 <| J.ct 4 <| J.u 1 Zdr (.f 0 (ZgZ _ (ByteArray.extract a0 (Int.toNat s2) (Int.toNat s42))) (.f 1 (ZfX _ s2) .nil)) <| J.S 0 [(⟨(ByteArray.extract a0 (Int.toNat s2) (Int.toNat s42)), s2⟩ : Zay)] Zdr fun b60 => J.p 0 0 rfl Zdr fun r61 => J.z 1 <| SJ.rg 2 <| J.z 2 <| SJ.inBlock <| SJ.forget (List.Sublist.cons _ List.Sublist.slnil) <| J.o rfl
 refine SJ.sr 3 <| J.z 3 <| J.f ?_ ?_
 ·exact SJ.rg 3 <| J.z 3 <| SJ.inBlock <| SJ.sr 10 <| J.ct 4 <| J.u 1 Zdr (.f 0 (ZgZ _ (ByteArray.extract a0 (Int.toNat s2) (Int.toNat (IntKind.wrap .i64 (s42 + 1))))) (.f 1 (ZfX _ s2) .nil)) <| J.S 0 [(⟨(ByteArray.extract a0 (Int.toNat s2) (Int.toNat (IntKind.wrap .i64 (s42 + 1)))), s2⟩ : Zay)] Zdr fun b64 => J.p 0 0 rfl Zdr fun r65 => J.z 1 <| SJ.rg 2 <| J.z 2 <| SJ.inBlock <| SJ.forget (List.Sublist.cons _ List.Sublist.slnil) <| J.o rfl
 refine SJ.sr 7 <| J.j 3 2 .bool ?_ ?_ fun y66 => ?_
 ·exact J.e 3
 ·exact J.e 3
 refine J.z 1 <| J.f ?_ ?_
 ·exact SJ.sr 3 <| J.z 3 <| SJ.exit (id := 1) (by rfl) <| J.o rfl
 exact SJ.sr 3 <| J.z 3 <| J.r
noncomputable def ZaH.F2 (a0 : ByteArray) (s1 : Sl) (s2 : Int) : LF Int (LS (Sl × Int) (Sl × Int)) := ⟨[.inBlock 2, .code (c2 (c2 (c1 (c2 (c1 (c1 (c2 (c1 (c2 (c2 ZaH.B)))))))))), .inBlock 1, .inLoop (c1 (c1 (c2 (c1 (c2 (c2 ZaH.B)))))), .inBlock 0, .code (c2 (c2 (c2 ZaH.B)))], c1 (c1 (c2 (c1 (c2 (c1 (c1 (c2 (c1 (c2 (c2 ZaH.B)))))))))), fun s_ => [(0, .string a0), (4, Sl.v s1), (5, .int .i64 s2), (6, .int .i64 s_)], fun s_ => [], (ZaH.F1 a0).f⟩
noncomputable def ZaH.L2 (a0 : ByteArray) (s1 : Sl) (s2 : Int) (s42 : Int) : M (LS Int (LS (Sl × Int) (Sl × Int))) :=
 (if s42 < (a0.size : Int) then
   chk ((0 : Int) ≤ s42 ∧ s42 < (a0.size : Int)) >>= fun _ =>
   pure (decide ((sb a0 s42) > 32))
  else
   pure false) >>= fun y72 =>
 (if y72 = true then
   chk ((0 : Int) ≤ s42 ∧ s42 < (a0.size : Int)) >>= fun _ =>
   pure (decide ((sb a0 s42) < 127))
  else
   pure false) >>= fun y75 =>
 (if y75 = true then
   chk ((0 : Int) ≤ s42 ∧ s42 < (a0.size : Int)) >>= fun _ =>
   pure ((sb a0 s42) != 44)
  else
   pure false) >>= fun y78 =>
 if y78 = true then
  pure (LS.next (IntKind.wrap .i64 (s42 + 1)))
 else
  (ZaH.K1 a0 s1 s2 s42) >>= fun b => pure (LS.done b)
theorem ZaH.L2_ok (a0 : ByteArray) (s1 : Sl) (s2 : Int) : LJ ZaH.cx (ZaH.F2 a0 s1 s2) (fun s_ => ZaH.L2 a0 s1 s2 s_) := by
 rintro s42
 show SJ _ _ _ _ (ZaH.L2 a0 s1 s2 s42) _
 unfold ZaH.L2
 refine SJ.seq <| SJ.sr 22 <| J.j 5 4 .bool ?_ ?_ fun y72 => ?_
 ·exact J.t 2 fun hb70 hb71 => J.e 2
 ·exact J.e 5
 refine J.j 1 4 .bool ?_ ?_ fun y75 => ?_
 ·exact J.t 2 fun hb73 hb74 => J.e 2
 ·exact J.e 5
 refine J.j 1 4 .bool ?_ ?_ fun y78 => ?_
 ·exact J.t 2 fun hb76 hb77 => J.e 2
 ·exact J.e 5
 refine J.z 0 <| J.f ?_ ?_
 ·exact SJ.skip <| SJ.block (id := 3) <| SJ.rg 3 <| J.z 3 <| SJ.inBlock <| J.o rfl
 exact SJ.exit (id := 2) (by rfl) <| J.q <| SJ.done <| ZaH.K1_ok a0 s1 s2 s42
noncomputable def ZaH.L1 (a0 : ByteArray) (s1 : Sl) (s2 : Int) : M (LS (Sl × Int) (Sl × Int)) :=
 if s2 < (a0.size : Int) then
  Zc7 (fun s_ : Int => ZaH.L2 a0 s1 s2 s_) s2
 else
  pure (LS.done (s1, (-1)))
theorem ZaH.L1_ok (a0 : ByteArray) : LJ ZaH.cx (ZaH.F1 a0) (fun s_ => ZaH.L1 a0 s_.1 s_.2) := by
 rintro ⟨s1, s2⟩
 show SJ _ _ _ _ (ZaH.L1 a0 s1 s2) _
 unfold ZaH.L1
 refine SJ.seq <| SJ.sr 4 <| J.z 4 <| J.f ?_ ?_
 ·exact SJ.skip <| SJ.block (id := 1) <| SJ.sr 2 <| J.z 2 <| SJ.seq <| SJ.block (id := 2) <| J.L (ZaH.L2_ok a0 s1 s2)
 exact SJ.exit (id := 0) (by rfl) <| SJ.sr 3 <| J.z 3 <| J.r
noncomputable def ZaH (a0 : ByteArray) : M (Sl × Int) :=
 Zc7 (fun s_ : (Sl × Int) => ZaH.L1 a0 s_.1 s_.2) (Sl.nil, 0)
theorem Zkz (a0 : ByteArray) : Ref Tryz.prog 24 [.string a0] (ZaH a0) ZaH.out := by
 refine J.Fn Tryz.func24 ?_
 unfold ZaH
 exact SJ.sr 2 <| J.z 2 <| SJ.sr 1 <| J.z 1 <| SJ.seq <| SJ.sr 1 <| J.z 1 <| SJ.block (id := 0) <| J.L (ZaH.L1_ok a0)

/-! ### (*weir/rules.reader).fail: function 27 -/
noncomputable def ZaN.out (r_ : Unit) : Value := .tuple #[]
noncomputable def ZaN (a0 : (Option Addr)) (a1 : Int) (a2 : Int) : M Unit :=
 nilck a0 >>= fun p1 =>
 ld (cI .i64) (Addr.add p1 19) >>= fun x2 =>
 if x2 = 0 then
  nilck a0 >>= fun p5 =>
  st (cI .i64) (Addr.add p5 19) a1 >>= fun _ =>
  nilck a0 >>= fun p6 =>
  st (cI .i64) (Addr.add p6 20) a2 >>= fun _ =>
  pure ()
 else
  pure ()
theorem Za6 (a0 : (Option Addr)) (a1 : Int) (a2 : Int) : Ref Tryz.prog 27 [.pointer a0, .int .i64 a1, .int .i64 a2] (ZaN a0 a1 a2) ZaN.out := by
 refine J.Fn Tryz.func27 ?_
 unfold ZaN
 refine SJ.sr 5 <| J.n 1 fun p1 => J.l 1 Ty49 fun x2 => J.z 1 <| J.f ?_ ?_
 ·exact SJ.rg 10 <| J.n 4 fun p5 => J.w 1 Ty49 <| J.n 0 fun p6 => J.w 1 Ty3 <| J.z 0 <| SJ.end_ rfl (Res.run (ys := []) .nil rfl)
 exact SJ.skip <| SJ.end_ rfl (Res.run (ys := []) .nil rfl)

/-! ### (*weir/rules.reader).next: function 26 -/
noncomputable def ZaG.B : Code := bod Tryz.f26
noncomputable def ZaG.cx : Fx := ⟨Tryz.prog, 26, Tryz.f26, none⟩
noncomputable def ZaG.out (r_ : Zay) : Value := Zbc.val r_
noncomputable def ZaG.K1 (a0 : (Option Addr)) : M Zay :=
 nilck a0 >>= fun p12 =>
 ld (cI .i64) (Addr.add p12 19) >>= fun x13 =>
 if x13 ≠ 0 then
  pure Zcu
 else
  nilck a0 >>= fun p14 =>
  ld (cI .i64) (Addr.add p14 1) >>= fun x15 =>
  nilck a0 >>= fun p16 =>
  st (cI .i64) (Addr.add p16 1) (IntKind.wrap .i64 (x15 + 1)) >>= fun _ =>
  draw >>= fun _ =>
  nilck a0 >>= fun p17 =>
  ld cL p17 >>= fun x18 =>
  nilck a0 >>= fun p19 =>
  ld (cI .i64) (Addr.add p19 1) >>= fun x20 =>
  idx x18.a x18.len (IntKind.wrap .i64 (x20 - 1)) 2 >>= fun p21 =>
  ld Zbc p21 >>= fun x22 =>
  pure x22
theorem ZaG.K1_ok (a0 : (Option Addr)) (b1 : Nat) :
  SJ ZaG.cx [.code (c2 (c2 ZaG.B))] [(0, .pointer a0), (2, .pointer (some (pt b1 0)))] [(b1, Zbc.enc Zcu)] (ZaG.K1 a0) (rt ZaG.out) := by
 unfold ZaG.K1
 refine SJ.seq <| SJ.sr 5 <| J.n 1 fun p12 => J.l 1 Ty49 fun x13 => J.z 1 <| J.f ?_ ?_
 ·exact SJ.sr 2 <| J.u 0 Zdr .nil <| J.s 0 0 rfl Zdr (Upd.w Zcu) <| J.z 0 <| J.rc (.c 0 rfl Zdr .n)
 exact SJ.skip <| SJ.sr 8 <| J.n 1 fun p14 => J.l 1 Ty3 fun x15 => J.n 1 fun p16 => J.w 1 Ty3 <| J.z 0 <| SJ.seq <| J.R 12 Zc0 <| J.n 1 fun p17 => J.l 1 Ty94 fun x18 => J.n 1 fun p19 => J.l 1 Ty3 fun x20 => J.i 1 fun p21 => J.l 0 Zdr fun x22 => J.s 0 0 rfl Zdr (Upd.w x22) <| J.z 0 <| J.rc (.c 0 rfl Zdr .n)
noncomputable def ZaG (a0 : (Option Addr)) : M Zay :=
 slot 102 >>= fun b1 =>
 draw >>= fun _ =>
 nilck a0 >>= fun p2 =>
 ld (cI .i64) (Addr.add p2 19) >>= fun x3 =>
 (if x3 = 0 then
   nilck a0 >>= fun p4 =>
   ld (cI .i64) (Addr.add p4 1) >>= fun x5 =>
   nilck a0 >>= fun p6 =>
   ld cL p6 >>= fun x7 =>
   pure (x5 == (x7.len : Int))
  else
   pure false) >>= fun y8 =>
 if y8 = true then
  nilck a0 >>= fun p24 =>
  ld (cI .i64) (Addr.add p24 2) >>= fun x25 =>
  ZaN a0 161 x25 >>= fun r26 =>
  ZaG.K1 a0
 else
  ZaG.K1 a0
theorem ZcH (a0 : (Option Addr)) : Ref Tryz.prog 26 [.pointer a0] (ZaG a0) ZaG.out := by
 refine J.Fn Tryz.func26 ?_
 unfold ZaG
 refine SJ.sr 1 <| J.a 0 Zdr fun b1 => J.z 0 <| SJ.seq <| SJ.seq <| J.R 17 Zc0 <| J.n 1 fun p2 => J.l 1 Ty49 fun x3 => J.j 2 10 .bool ?_ ?_ fun y8 => ?_
 ·exact J.n 1 fun p4 => J.l 1 Ty3 fun x5 => J.n 1 fun p6 => J.l 1 Ty94 fun x7 => J.e 3
 ·exact J.e 11
 refine J.z 0 <| J.f ?_ ?_
 ·exact SJ.rg 6 <| J.n 2 fun p24 => J.l 1 Ty3 fun x25 => J.C 0 F27 (Za6 _ _ _) fun r26 => J.z 0 <| J.q <| ZaG.K1_ok a0 b1
 exact SJ.skip <| J.q <| ZaG.K1_ok a0 b1

/-! ### slices.Index[[]string,string]: function 37 -/
noncomputable def Zan.B : Code := bod Tryz.f37
noncomputable def Zan.cx : Fx := ⟨Tryz.prog, 37, Tryz.f37, none⟩
noncomputable def Zan.out (r_ : Int) : Value := .int .i64 r_
noncomputable def Zan.F1 (a0 : Sl) (a1 : ByteArray) : LF Int Int := ⟨[.inBlock 0, .code (c2 (c2 Zan.B))], c1 (c2 (c1 (c2 Zan.B))), fun s_ => [(0, Sl.v a0), (1, .string a1), (7, .int .i64 (a0.len : Int)), (8, .int .i64 s_)], fun s_ => [], (rt Zan.out)⟩
noncomputable def Zan.L1 (a0 : Sl) (a1 : ByteArray) (s1 : Int) : M (LS Int Int) :=
 if s1 < (a0.len : Int) then
  idx a0.a a0.len s1 1 >>= fun p6 =>
  ld cS p6 >>= fun x7 =>
  if a1.toList = x7.toList then
   pure (LS.done s1)
  else
   pure (LS.next (IntKind.wrap .i64 (s1 + 1)))
 else
  pure (LS.done (-1))
theorem Zan.L1_ok (a0 : Sl) (a1 : ByteArray) : LJ Zan.cx (Zan.F1 a0 a1) (fun s_ => Zan.L1 a0 a1 s_) := by
 rintro s1
 show SJ _ _ _ _ (Zan.L1 a0 a1 s1) _
 unfold Zan.L1
 refine SJ.sr 1 <| J.z 1 <| SJ.seq <| J.f ?_ ?_
 ·refine SJ.skip <| SJ.seq <| SJ.block (id := 1) <| SJ.sr 2 <| J.z 2 <| SJ.sr 6 <| J.i 3 fun p6 => J.l 0 Ty9 fun x7 => J.z 1 <| J.f ?_ ?_
  ·exact SJ.sr 2 <| J.z 2 <| J.r
  exact SJ.skip <| SJ.inBlock <| SJ.rg 2 <| J.z 2 <| J.o rfl
 exact SJ.exit (id := 0) (by rfl) <| SJ.sr 1 <| J.z 1 <| J.r
noncomputable def Zan (a0 : Sl) (a1 : ByteArray) : M Int :=
 Zc7 (fun s_ : Int => Zan.L1 a0 a1 s_) 0
theorem ZcE (a0 : Sl) (a1 : ByteArray) : Ref Tryz.prog 37 [Sl.v a0, .string a1] (Zan a0 a1) Zan.out := by
 refine J.Fn Tryz.func37 ?_
 unfold Zan
 exact SJ.sr 1 <| J.z 1 <| SJ.seq <| SJ.sr 3 <| J.z 3 <| SJ.block (id := 0) <| J.L (Zan.L1_ok a0 a1)

/-! ### (*weir/rules.reader).take: function 38 -/
noncomputable def Za9.out (r_ : Bool) : Value := .bool r_
noncomputable def Za9 (a0 : (Option Addr)) (a1 : ByteArray) : M Bool :=
 draw >>= fun _ =>
 nilck a0 >>= fun p1 =>
 ld (cI .i64) (Addr.add p1 19) >>= fun x2 =>
 (if x2 ≠ 0 then
   pure true
  else
   nilck a0 >>= fun p3 =>
   ld (cI .i64) (Addr.add p3 1) >>= fun x4 =>
   nilck a0 >>= fun p5 =>
   ld cL p5 >>= fun x6 =>
   pure (x4 == (x6.len : Int))) >>= fun y7 =>
 (if y7 = true then
   pure true
  else
   nilck a0 >>= fun p8 =>
   ld cL p8 >>= fun x9 =>
   nilck a0 >>= fun p10 =>
   ld (cI .i64) (Addr.add p10 1) >>= fun x11 =>
   idx x9.a x9.len x11 2 >>= fun p12 =>
   ld cS p12 >>= fun x13 =>
   pure (!(x13.toList == a1.toList))) >>= fun y14 =>
 if y14 = true then
  pure false
 else
  nilck a0 >>= fun p15 =>
  ld (cI .i64) (Addr.add p15 1) >>= fun x16 =>
  nilck a0 >>= fun p17 =>
  st (cI .i64) (Addr.add p17 1) (IntKind.wrap .i64 (x16 + 1)) >>= fun _ =>
  pure true
theorem Zb5 (a0 : (Option Addr)) (a1 : ByteArray) : Ref Tryz.prog 38 [.pointer a0, .string a1] (Za9 a0 a1) Za9.out := by
 refine J.Fn Tryz.func38 ?_
 unfold Za9
 refine SJ.sr 1 <| J.z 1 <| SJ.seq <| SJ.seq <| J.R 32 Zc0 <| J.n 1 fun p1 => J.l 1 Ty49 fun x2 => J.j 2 10 .bool ?_ ?_ fun y7 => ?_
 ·exact J.e 11
 ·exact J.n 1 fun p3 => J.l 1 Ty3 fun x4 => J.n 1 fun p5 => J.l 1 Ty94 fun x6 => J.e 3
 refine J.j 1 13 .bool ?_ ?_ fun y14 => ?_
 ·exact J.e 14
 ·exact J.n 1 fun p8 => J.l 1 Ty94 fun x9 => J.n 1 fun p10 => J.l 1 Ty3 fun x11 => J.i 0 fun p12 => J.l 1 Ty9 fun x13 => J.e 3
 refine J.z 0 <| J.f ?_ ?_
 ·exact SJ.sr 1 <| J.z 1 <| J.r
 exact SJ.skip <| SJ.sr 8 <| J.n 1 fun p15 => J.l 1 Ty3 fun x16 => J.n 1 fun p17 => J.w 1 Ty3 <| J.z 0 <| SJ.sr 1 <| J.z 1 <| J.r

/-! ### (*weir/rules.reader).item: function 64 -/
noncomputable def ZbG.out (r_ : Zay) : Value := Zbc.val r_
noncomputable def ZbG (a0 : (Option Addr)) : M Zay :=
 slot 102 >>= fun b1 =>
 ZaG a0 >>= fun r2 =>
 slot 102 >>= fun b3 =>
 if r2.s.toList = str1.toList then
  ZaN a0 160 r2.at_ >>= fun r5 =>
  pure r2
 else
  pure r2
theorem ZcI (a0 : (Option Addr)) : Ref Tryz.prog 64 [.pointer a0] (ZbG a0) ZbG.out := by
 refine J.Fn Tryz.func64 ?_
 unfold ZbG
 refine SJ.sr 1 <| J.a 0 Zdr fun b1 => J.z 0 <| SJ.sr 4 <| J.C 1 F26 (ZcH _) fun r2 => J.a 0 Zdr fun b3 => J.s 0 0 rfl Zdr (Upd.w r2) <| J.z 0 <| SJ.seq <| SJ.sr 3 <| J.k 1 0 rfl Ty9 (Zbb _) <| J.z 1 <| J.f ?_ ?_
 ·exact SJ.rg 4 <| J.k 2 0 rfl Ty3 (Zbt _) <| J.C 0 F27 (Za6 _ _ _) fun r5 => J.z 0 <| SJ.sr 2 <| J.k 0 0 rfl Zdr (At.whole _) <| J.s 0 1 rfl Zdr (Upd.w r2) <| J.z 0 <| J.rc (.c 1 rfl Zdr .n)
 exact SJ.skip <| SJ.sr 2 <| J.k 0 0 rfl Zdr (At.whole _) <| J.s 0 1 rfl Zdr (Upd.w r2) <| J.z 0 <| J.rc (.c 1 rfl Zdr .n)

/-! ### weir/rules.number: function 65 -/
noncomputable def Za1.B : Code := bod Tryz.f65
noncomputable def Za1.cx : Fx := ⟨Tryz.prog, 65, Tryz.f65, none⟩
noncomputable def Za1.out (r_ : (Int × Bool)) : Value := .tuple #[.int .i64 r_.1, .bool r_.2]
noncomputable def Za1.F1 (a0 : ByteArray) (a1 : Int) (a2 : Int) : LF (Int × Int) (Int × Bool) := ⟨[.inBlock 0, .code (c2 (c2 (c2 (c2 Za1.B))))], c1 (c2 (c1 (c2 (c2 (c2 Za1.B))))), fun s_ => [(0, .string a0), (1, .int .i64 a1), (2, .int .i64 a2), (8, .int .i64 s_.1), (28, .int .i64 (a0.size : Int)), (29, .int .i64 s_.2)], fun s_ => [], (rt Za1.out)⟩
noncomputable def Za1.L1 (a0 : ByteArray) (a1 : Int) (a2 : Int) (s6 : Int) (s7 : Int) : M (LS (Int × Int) (Int × Bool)) :=
 if s7 < (a0.size : Int) then
  chk ((0 : Int) ≤ s7 ∧ s7 < (a0.size : Int)) >>= fun _ =>
  (if (sb a0 s7) < 48 then
    pure true
   else
    chk ((0 : Int) ≤ s7 ∧ s7 < (a0.size : Int)) >>= fun _ =>
    pure (decide ((sb a0 s7) > 57))) >>= fun y22 =>
  if y22 = true then
   pure (LS.done (0, false))
  else
   chk ((0 : Int) ≤ s7 ∧ s7 < (a0.size : Int)) >>= fun _ =>
   pure (LS.next (IntKind.wrap .i64 ((IntKind.wrap .i64 (10 * s6)) + (IntKind.wrap .i64 (IntKind.wrap .u8 ((sb a0 s7) - 48)))), IntKind.wrap .i64 (s7 + 1)))
 else
  Zbx s6 a1 a2 >>= fun r26 =>
  pure (LS.done (s6, r26))
theorem Za1.L1_ok (a0 : ByteArray) (a1 : Int) (a2 : Int) : LJ Za1.cx (Za1.F1 a0 a1 a2) (fun s_ => Za1.L1 a0 a1 a2 s_.1 s_.2) := by
 rintro ⟨s6, s7⟩
 show SJ _ _ _ _ (Za1.L1 a0 a1 a2 s6 s7) _
 unfold Za1.L1
 refine SJ.sr 1 <| J.z 1 <| SJ.seq <| J.f ?_ ?_
 ·refine SJ.skip <| SJ.seq <| SJ.block (id := 1) <| SJ.sr 2 <| J.z 2 <| SJ.seq <| SJ.sr 10 <| J.t 2 fun hb18 hb19 => J.j 2 4 .bool ?_ ?_ fun y22 => ?_
  ·exact J.e 5
  ·exact J.t 2 fun hb20 hb21 => J.e 2
  refine J.z 0 <| J.f ?_ ?_
  ·exact SJ.sr 2 <| J.z 2 <| J.r
  exact SJ.skip <| SJ.rg 9 <| J.t 4 fun hb23 hb24 => J.z 4 <| SJ.inBlock <| SJ.rg 2 <| J.z 2 <| J.o rfl
 exact SJ.exit (id := 0) (by rfl) <| SJ.sr 7 <| J.C 4 F18 (ZbR _ _ _) fun r26 => J.z 2 <| J.r
noncomputable def Za1 (a0 : ByteArray) (a1 : Int) (a2 : Int) : M (Int × Bool) :=
 (if a0.toList = ByteArray.empty.toList then
   pure true
  else
   pure (decide ((a0.size : Int) > 9))) >>= fun y1 =>
 (if y1 = true then
   pure true
  else
   chk ((0 : Int) ≤ 0 ∧ 0 < (a0.size : Int)) >>= fun _ =>
   (if (sb a0 0) = 48 then
     pure (decide ((a0.size : Int) > 1))
    else
     pure false) >>= fun y4 =>
   pure y4) >>= fun y5 =>
 if y5 = true then
  pure (0, false)
 else
  Zc7 (fun s_ : (Int × Int) => Za1.L1 a0 a1 a2 s_.1 s_.2) (0, 0)
theorem Zer (a0 : ByteArray) (a1 : Int) (a2 : Int) : Ref Tryz.prog 65 [.string a0, .int .i64 a1, .int .i64 a2] (Za1 a0 a1 a2) Za1.out := by
 refine J.Fn Tryz.func65 ?_
 unfold Za1
 refine SJ.sr 2 <| J.z 2 <| SJ.seq <| SJ.sr 17 <| J.j 3 3 .bool ?_ ?_ fun y1 => ?_
 ·exact J.e 4
 ·exact J.e 4
 refine J.g 1 <| OJ.join (b := y1) [8, 9, 10, 11, 12, 13, 14, 15, 16] [] [0, 1, 2, 26] (fun y5 => [(0, .string a0), (1, .int .i64 a1), (2, .int .i64 a2), (26, .bool y5)]) [] [] (t := 17) Iff.rfl (fun hp_ => ?_) (fun hp_ => ?_) (fun _ _ _ _ _ _ h_ => h_) fun y5 => ?_
 ·exact J.g 9 <| OJ.nil ⟨(Cov.mem Cov.nil), rfl, _, rfl, by kernel_rfl⟩
 ·refine J.t 1 fun hb2 hb3 => J.g 2 <| OJ.join (b := ((sb a0 0) == 48)) [12, 13, 14, 15] [16] [0, 1, 2, 17, 25] (fun y4 => [(0, .string a0), (1, .int .i64 a1), (2, .int .i64 a2), (17, .bool false), (25, .bool y4)]) [] [] (t := 21) beq_iff_eq (fun hp_ => ?_) (fun hp_ => ?_) (fun _ _ _ _ _ hq_ h_ => ⟨fun e_ he_ => (hq_ e_ he_).elim (fun h => h_.1 e_ h) (fun h => nomatch h), h_.2⟩) fun y4 => ?_
  ·exact J.g 4 <| OJ.nil ⟨(Cov.mem Cov.nil), rfl, _, rfl, by kernel_rfl⟩
  ·exact J.g 4 <| OJ.nil ⟨(Cov.mem Cov.nil), rfl, _, rfl, by kernel_rfl⟩
  exact J.g 1 <| OJ.nil ⟨(Cov.mem Cov.nil), rfl, _, rfl, by kernel_rfl⟩
 refine J.z 0 <| J.f ?_ ?_
 ·exact SJ.sr 2 <| J.z 2 <| J.r
 exact SJ.skip <| SJ.sr 1 <| J.z 1 <| SJ.seq <| SJ.sr 3 <| J.z 3 <| SJ.block (id := 0) <| J.L (Za1.L1_ok a0 a1 a2)

/-! ### (*weir/rules.reader).number: function 39 -/
noncomputable def Zby.out (r_ : Int) : Value := .int .i64 r_
noncomputable def Zby (a0 : (Option Addr)) (a1 : Int) (a2 : Int) : M Int :=
 ZbG a0 >>= fun r1 =>
 slot 102 >>= fun b2 =>
 Za1 r1.s a1 a2 >>= fun r3 =>
 nilck a0 >>= fun p4 =>
 ld (cI .i64) (Addr.add p4 19) >>= fun x5 =>
 (if x5 = 0 then
   pure (!r3.2)
  else
   pure false) >>= fun y6 =>
 if y6 = true then
  ZaN a0 162 r1.at_ >>= fun r8 =>
  pure r3.1
 else
  pure r3.1
theorem ZcZ (a0 : (Option Addr)) (a1 : Int) (a2 : Int) : Ref Tryz.prog 39 [.pointer a0, .int .i64 a1, .int .i64 a2] (Zby a0 a1 a2) Zby.out := by
 refine J.Fn Tryz.func39 ?_
 unfold Zby
 refine SJ.sr 1 <| J.z 1 <| SJ.sr 4 <| J.C 1 F64 (ZcI _) fun r1 => J.a 0 Zdr fun b2 => J.s 0 0 rfl Zdr (Upd.w r1) <| J.z 0 <| SJ.sr 10 <| J.k 1 0 rfl Ty9 (Zbb _) <| J.C 2 F65 (Zer _ _ _) fun r3 => J.z 5 <| SJ.seq <| SJ.sr 9 <| J.n 1 fun p4 => J.l 1 Ty49 fun x5 => J.j 2 2 .bool ?_ ?_ fun y6 => ?_
 ·exact J.e 3
 ·exact J.e 3
 refine J.z 0 <| J.f ?_ ?_
 ·exact SJ.rg 4 <| J.k 2 0 rfl Ty3 (Zbt _) <| J.C 0 F27 (Za6 _ _ _) fun r8 => J.z 0 <| SJ.sr 2 <| J.z 2 <| J.r
 exact SJ.skip <| SJ.sr 2 <| J.z 2 <| J.r

/-! ### weir/rules.protoOf: function 66 -/
noncomputable def Zc3.out (r_ : (Int × Bool)) : Value := .tuple #[.int .i64 r_.1, .bool r_.2]
noncomputable def Zc3 (a0 : ByteArray) : M (Int × Bool) :=
 if a0.toList = str2.toList then
  pure (6, true)
 else
  if a0.toList = str3.toList then
   pure (17, true)
  else
   if a0.toList = str4.toList then
    pure (1, true)
   else
    if a0.toList = str5.toList then
     pure (58, true)
    else
     pure (0, false)
theorem Zgm (a0 : ByteArray) : Ref Tryz.prog 66 [.string a0] (Zc3 a0) Zc3.out := by
 refine J.Fn Tryz.func66 ?_
 unfold Zc3
 refine SJ.sr 2 <| J.z 2 <| SJ.seq <| SJ.sr 1 <| J.z 1 <| SJ.block (id := 0) <| SJ.sr 2 <| J.z 2 <| J.f ?_ ?_
 ·exact SJ.sr 2 <| J.z 2 <| J.r
 refine SJ.sr 2 <| J.z 2 <| J.f ?_ ?_
 ·exact SJ.sr 2 <| J.z 2 <| J.r
 refine SJ.sr 2 <| J.z 2 <| J.f ?_ ?_
 ·exact SJ.sr 2 <| J.z 2 <| J.r
 refine SJ.sr 2 <| J.z 2 <| J.f ?_ ?_
 ·exact SJ.sr 2 <| J.z 2 <| J.r
 exact SJ.skip <| SJ.inBlock <| SJ.sr 2 <| J.z 2 <| J.r

/-! ### weir/rules.begins: function 40 -/
noncomputable def Zc5.out (r_ : Bool) : Value := .bool r_
noncomputable def Zc5 (a0 : Zay) : M Bool :=
 slot 102 >>= fun b1 =>
 Zc3 a0.s >>= fun r2 =>
 (if r2.2 = true then
   pure true
  else
   pure (a0.s.toList == str6.toList)) >>= fun y3 =>
 pure y3
theorem ZgG (a0 : Zay) : Ref Tryz.prog 40 [Zbc.val a0] (Zc5 a0) Zc5.out := by
 refine J.Fn Tryz.func40 ?_
 unfold Zc5
 refine SJ.sr 2 <| J.b 0 Zbc a0 fun b1 => J.z 1 <| SJ.sr 8 <| J.k 1 0 rfl Ty9 (Zbb _) <| J.C 0 F66 (Zgm _) fun r2 => J.z 5 <| SJ.sr 7 <| J.j 2 3 .bool ?_ ?_ fun y3 => ?_
 ·exact J.e 4
 ·exact J.k 1 0 rfl Ty9 (Zbb _) <| J.e 2
 exact J.z 1 <| J.r

/-! ### (*weir/rules.reader).proto: function 41 -/
noncomputable def ZbQ.out (r_ : Unit) : Value := .tuple #[]
noncomputable def ZbQ (a0 : (Option Addr)) (a1 : Zay) : M Unit :=
 slot 102 >>= fun b1 =>
 nilck a0 >>= fun p2 =>
 ld (cI .i64) (Addr.add (Addr.add p2 3) 2) >>= fun x3 =>
 if x3 = 1 then
  ZaN a0 165 a1.at_ >>= fun r5 =>
  pure ()
 else
  Zc3 a1.s >>= fun r6 =>
  if ¬ (r6.2 = true) then
   Zby a0 1 255 >>= fun r8 =>
   nilck a0 >>= fun p9 =>
   st (cI .i64) (Addr.add (Addr.add p9 3) 3) r8 >>= fun _ =>
   pure ()
  else
   nilck a0 >>= fun p10 =>
   st (cI .i64) (Addr.add (Addr.add p10 3) 3) r6.1 >>= fun _ =>
   pure ()
theorem ZeO (a0 : (Option Addr)) (a1 : Zay) : Ref Tryz.prog 41 [.pointer a0, Zbc.val a1] (ZbQ a0 a1) ZbQ.out := by
 refine J.Fn Tryz.func41 ?_
 unfold ZbQ
 refine SJ.sr 1 <| J.b 0 Zbc a1 fun b1 => J.z 0 <| SJ.seq <| SJ.sr 6 <| J.n 1 fun p2 => J.l 2 Ty3 fun x3 => J.z 1 <| J.f ?_ ?_
 ·exact SJ.sr 4 <| J.k 2 0 rfl Ty3 (Zbt _) <| J.C 0 F27 (Za6 _ _ _) fun r5 => J.z 0 <| J.r
 refine SJ.skip <| SJ.sr 8 <| J.k 1 0 rfl Ty9 (Zbb _) <| J.C 0 F66 (Zgm _) fun r6 => J.z 5 <| SJ.seq <| SJ.sr 2 <| J.z 2 <| J.f ?_ ?_
 ·exact SJ.rg 3 <| J.C 1 F39 (ZcZ _ _ _) fun r8 => J.z 1 <| SJ.rg 6 <| J.n 2 fun p9 => J.w 2 Ty3 <| J.z 0 <| SJ.end_ rfl (Res.run (ys := []) .nil rfl)
 exact SJ.skip <| SJ.rg 6 <| J.n 2 fun p10 => J.w 2 Ty3 <| J.z 0 <| SJ.end_ rfl (Res.run (ys := []) .nil rfl)

/-! ### (*weir/rules.reader).head: function 25 -/
noncomputable def Zaq.B : Code := bod Tryz.f25
noncomputable def Zaq.cx : Fx := ⟨Tryz.prog, 25, Tryz.f25, none⟩
noncomputable def Zaq.out (r_ : Unit) : Value := .tuple #[]
noncomputable def Zaq.K1 (a0 : (Option Addr)) : M Unit :=
 ZaG a0 >>= fun r18 =>
 nilck a0 >>= fun p19 =>
 ld (cI .i64) (Addr.add p19 19) >>= fun x20 =>
 (if x20 ≠ 0 then
   pure true
  else
   pure (r18.s.toList == str8.toList)) >>= fun y21 =>
 if y21 = true then
  pure ()
 else
  ld cL ⟨1, 0, none⟩ >>= fun x22 =>
  Zan x22 r18.s >>= fun r23 =>
  nilck a0 >>= fun p24 =>
  st (cI .i64) (Addr.add (Addr.add p24 3) 2) (IntKind.wrap .i64 (r23 + 1)) >>= fun _ =>
  nilck a0 >>= fun p25 =>
  ld (cI .i64) (Addr.add (Addr.add p25 3) 2) >>= fun x26 =>
  (if x26 = 0 then
    Zc5 r18 >>= fun r27 =>
    pure r27
   else
    pure false) >>= fun y28 =>
  if y28 = true then
   ZbQ a0 r18 >>= fun r75 =>
   pure ()
  else
   nilck a0 >>= fun p76 =>
   ld (cI .i64) (Addr.add (Addr.add p76 3) 2) >>= fun x77 =>
   if x77 = 0 then
    ZaN a0 160 r18.at_ >>= fun r99 =>
    pure ()
   else
    draw >>= fun _ =>
    nilck a0 >>= fun p100 =>
    ld (cI .i64) (Addr.add (Addr.add p100 3) 2) >>= fun x101 =>
    (if x101 > 0 then
      nilck a0 >>= fun p102 =>
      ld (cI .i64) (Addr.add p102 1) >>= fun x103 =>
      nilck a0 >>= fun p104 =>
      ld cL p104 >>= fun x105 =>
      pure (decide (x103 < (x105.len : Int)))
     else
      pure false) >>= fun y106 =>
    (if y106 = true then
      nilck a0 >>= fun p107 =>
      ld cL p107 >>= fun x108 =>
      nilck a0 >>= fun p109 =>
      ld (cI .i64) (Addr.add p109 1) >>= fun x110 =>
      idx x108.a x108.len x110 2 >>= fun p111 =>
      ld Zbc p111 >>= fun x112 =>
      Zc5 x112 >>= fun r113 =>
      pure r113
     else
      pure false) >>= fun y114 =>
    if y114 = true then
     ZaG a0 >>= fun r117 =>
     ZbQ a0 r117 >>= fun r118 =>
     pure ()
    else
     pure ()
theorem Zaq.K1_ok (a0 : (Option Addr)) (r1 : Zay) (b2 : Nat) :
  SJ Zaq.cx [.code (c2 (c2 (c2 (c2 Zaq.B))))] [(0, .pointer a0), (2, .pointer (some (pt b2 0)))] [(b2, Zbc.enc r1)] (Zaq.K1 a0) (rt Zaq.out) := by
 unfold Zaq.K1
 refine SJ.sr 3 <| J.C 1 F26 (ZcH _) fun r18 => J.s 0 0 rfl Zdr (Upd.w r18) <| J.z 0 <| SJ.seq <| SJ.sr 10 <| J.n 1 fun p19 => J.l 1 Ty49 fun x20 => J.j 2 3 .bool ?_ ?_ fun y21 => ?_
 ·exact J.e 4
 ·exact J.k 1 0 rfl Ty9 (Zbb _) <| J.e 2
 refine J.z 0 <| J.f ?_ ?_
 ·exact J.r
 refine SJ.skip <| SJ.sr 10 <| J.l 1 Zql fun x22 => J.k 1 0 rfl Ty9 (Zbb _) <| J.C 0 F37 (ZcE _ _) fun r23 => J.n 1 fun p24 => J.w 2 Ty3 <| J.z 0 <| SJ.block (id := 0) <| SJ.sr 11 <| J.n 1 fun p25 => J.l 2 Ty3 fun x26 => J.j 2 2 .bool ?_ ?_ fun y28 => ?_
 ·exact J.k 0 0 rfl Zdr (At.whole _) <| J.C 0 F40 (ZgG _) fun r27 => J.e 1
 ·exact J.e 3
 refine J.z 1 <| J.f ?_ ?_
 ·exact SJ.rg 3 <| J.k 1 0 rfl Zdr (At.whole _) <| J.C 0 F41 (ZeO _ _) fun r75 => J.z 0 <| SJ.inBlock <| SJ.end_ rfl (Res.run (ys := []) .nil rfl)
 refine SJ.sr 7 <| J.n 1 fun p76 => J.l 2 Ty3 fun x77 => J.z 2 <| J.f ?_ ?_
 ·exact SJ.rg 4 <| J.k 2 0 rfl Ty3 (Zbt _) <| J.C 0 F27 (Za6 _ _ _) fun r99 => J.z 0 <| SJ.inBlock <| SJ.end_ rfl (Res.run (ys := []) .nil rfl)
 refine SJ.seq <| J.R 32 Zc0 <| J.n 1 fun p100 => J.l 2 Ty3 fun x101 => J.j 2 10 .bool ?_ ?_ fun y106 => ?_
 ·exact J.n 1 fun p102 => J.l 1 Ty3 fun x103 => J.n 1 fun p104 => J.l 1 Ty94 fun x105 => J.e 3
 ·exact J.e 11
 refine J.j 1 11 .bool ?_ ?_ fun y114 => ?_
 ·exact J.n 1 fun p107 => J.l 1 Ty94 fun x108 => J.n 1 fun p109 => J.l 1 Ty3 fun x110 => J.i 0 fun p111 => J.l 0 Zdr fun x112 => J.C 0 F40 (ZgG _) fun r113 => J.e 1
 ·exact J.e 12
 refine J.z 1 <| J.f ?_ ?_
 ·exact SJ.rg 4 <| J.C 2 F26 (ZcH _) fun r117 => J.C 0 F41 (ZeO _ _) fun r118 => J.z 0 <| SJ.inBlock <| SJ.end_ rfl (Res.run (ys := []) .nil rfl)
 exact SJ.skip <| SJ.inBlock <| SJ.end_ rfl (Res.run (ys := []) .nil rfl)
noncomputable def Zaq.K2 (a0 : (Option Addr)) : M Unit :=
 nilck a0 >>= fun p12 =>
 ld (cI .i64) (Addr.add p12 3) >>= fun x13 =>
 (if x13 = 1 then
   Za9 a0 str7 >>= fun r14 =>
   pure r14
  else
   pure false) >>= fun y15 =>
 if y15 = true then
  Zby a0 0 7 >>= fun r123 =>
  nilck a0 >>= fun p124 =>
  st (cI .i64) (Addr.add (Addr.add p124 3) 1) r123 >>= fun _ =>
  Zaq.K1 a0
 else
  Zaq.K1 a0
theorem Zaq.K2_ok (a0 : (Option Addr)) (r1 : Zay) (b2 : Nat) :
  SJ Zaq.cx [.code (c2 (c2 (c2 Zaq.B)))] [(0, .pointer a0), (2, .pointer (some (pt b2 0)))] [(b2, Zbc.enc r1)] (Zaq.K2 a0) (rt Zaq.out) := by
 unfold Zaq.K2
 refine SJ.seq <| SJ.sr 10 <| J.n 1 fun p12 => J.l 2 Ty3 fun x13 => J.j 2 2 .bool ?_ ?_ fun y15 => ?_
 ·exact J.C 1 F38 (Zb5 _ _) fun r14 => J.e 1
 ·exact J.e 3
 refine J.z 0 <| J.f ?_ ?_
 ·exact SJ.rg 7 <| J.C 2 F39 (ZcZ _ _ _) fun r123 => J.n 0 fun p124 => J.w 2 Ty3 <| J.z 0 <| J.q <| Zaq.K1_ok a0 r1 b2
 exact SJ.skip <| J.q <| Zaq.K1_ok a0 r1 b2
noncomputable def Zaq (a0 : (Option Addr)) : M Unit :=
 ZaG a0 >>= fun r1 =>
 slot 102 >>= fun b2 =>
 ld cL ⟨0, 0, none⟩ >>= fun x3 =>
 Zan x3 r1.s >>= fun r4 =>
 nilck a0 >>= fun p5 =>
 st (cI .i64) (Addr.add p5 3) (IntKind.wrap .i64 (r4 + 1)) >>= fun _ =>
 nilck a0 >>= fun p6 =>
 ld (cI .i64) (Addr.add p6 19) >>= fun x7 =>
 (if x7 = 0 then
   nilck a0 >>= fun p8 =>
   ld (cI .i64) (Addr.add p8 3) >>= fun x9 =>
   pure (x9 == 0)
  else
   pure false) >>= fun y10 =>
 if y10 = true then
  ZaN a0 160 r1.at_ >>= fun r126 =>
  Zaq.K2 a0
 else
  Zaq.K2 a0
theorem Zhi (a0 : (Option Addr)) : Ref Tryz.prog 25 [.pointer a0] (Zaq a0) Zaq.out := by
 refine J.Fn Tryz.func25 ?_
 unfold Zaq
 refine SJ.sr 4 <| J.C 1 F26 (ZcH _) fun r1 => J.a 0 Zdr fun b2 => J.s 0 0 rfl Zdr (Upd.w r1) <| J.z 0 <| SJ.sr 10 <| J.l 1 Zql fun x3 => J.k 1 0 rfl Ty9 (Zbb _) <| J.C 0 F37 (ZcE _ _) fun r4 => J.n 1 fun p5 => J.w 2 Ty3 <| J.z 0 <| SJ.seq <| SJ.sr 13 <| J.n 1 fun p6 => J.l 1 Ty49 fun x7 => J.j 2 6 .bool ?_ ?_ fun y10 => ?_
 ·exact J.n 1 fun p8 => J.l 2 Ty3 fun x9 => J.e 2
 ·exact J.e 7
 refine J.z 0 <| J.f ?_ ?_
 ·exact SJ.rg 4 <| J.k 2 0 rfl Ty3 (Zbt _) <| J.C 0 F27 (Za6 _ _ _) fun r126 => J.z 0 <| J.q <| Zaq.K2_ok a0 r1 b2
 exact SJ.skip <| J.q <| Zaq.K2_ok a0 r1 b2

/-! ### internal/stringslite.HasPrefix: function 92 -/
noncomputable def ZbH.out (r_ : Bool) : Value := .bool r_
noncomputable def ZbH (a0 : ByteArray) (a1 : ByteArray) : M Bool :=
 (if (a0.size : Int) ≥ (a1.size : Int) then
   chk (0 ≤ (0 : Int) ∧ (0 : Int) ≤ (a1.size : Int) ∧ (a1.size : Int) ≤ (a0.size : Int)) >>= fun _ =>
   pure ((ByteArray.extract a0 (Int.toNat 0) (Int.toNat (a1.size : Int))).toList == a1.toList)
  else
   pure false) >>= fun y1 =>
 pure y1
theorem Zeh (a0 : ByteArray) (a1 : ByteArray) : Ref Tryz.prog 92 [.string a0, .string a1] (ZbH a0 a1) ZbH.out := by
 refine J.Fn Tryz.func92 ?_
 unfold ZbH
 refine SJ.sr 1 <| J.z 1 <| SJ.sr 14 <| J.j 6 6 .bool ?_ ?_ fun y1 => ?_
 ·exact J.ct 3 <| J.e 3
 ·exact J.e 7
 exact J.z 1 <| J.r

/-! ### internal/stringslite.CutPrefix: function 82 -/
noncomputable def Zcg.out (r_ : (ByteArray × Bool)) : Value := .tuple #[.string r_.1, .bool r_.2]
noncomputable def Zcg (a0 : ByteArray) (a1 : ByteArray) : M (ByteArray × Bool) :=
 ZbH a0 a1 >>= fun r1 =>
 if ¬ (r1 = true) then
  pure (a0, false)
 else
  chk (0 ≤ ((a1.size : Int) : Int) ∧ ((a1.size : Int) : Int) ≤ (a0.size : Int) ∧ (a0.size : Int) ≤ (a0.size : Int)) >>= fun _ =>
  pure ((ByteArray.extract a0 (Int.toNat (a1.size : Int)) (Int.toNat (a0.size : Int))), true)
theorem ZfM (a0 : ByteArray) (a1 : ByteArray) : Ref Tryz.prog 82 [.string a0, .string a1] (Zcg a0 a1) Zcg.out := by
 refine J.Fn Tryz.func82 ?_
 unfold Zcg
 refine SJ.sr 2 <| J.z 2 <| SJ.seq <| SJ.sr 4 <| J.C 2 F92 (Zeh _ _) fun r1 => J.z 1 <| J.f ?_ ?_
 ·exact SJ.sr 3 <| J.z 3 <| J.r
 exact SJ.skip <| SJ.sr 6 <| J.ct 3 <| J.z 2 <| J.r

/-! ### strings.CutPrefix: function 67 -/
noncomputable def ZbY.out (r_ : (ByteArray × Bool)) : Value := .tuple #[.string r_.1, .bool r_.2]
noncomputable def ZbY (a0 : ByteArray) (a1 : ByteArray) : M (ByteArray × Bool) :=
 Zcg a0 a1 >>= fun r1 =>
 pure (r1.1, r1.2)
theorem Ze2 (a0 : ByteArray) (a1 : ByteArray) : Ref Tryz.prog 67 [.string a0, .string a1] (ZbY a0 a1) ZbY.out := by
 refine J.Fn Tryz.func67 ?_
 unfold ZbY
 exact SJ.sr 2 <| J.z 2 <| SJ.sr 7 <| J.C 2 F82 (ZfM _ _) fun r1 => J.z 4 <| J.r

/-! ### (*weir/rules.reader).port: function 42 -/
noncomputable def Zcp.out (r_ : Int) : Value := .int .i64 r_
noncomputable def Zcp (a0 : (Option Addr)) : M Int :=
 ZbG a0 >>= fun r1 =>
 slot 102 >>= fun b2 =>
 ZbY r1.s str9 >>= fun r3 =>
 Za1 r3.1 0 7 >>= fun r4 =>
 nilck a0 >>= fun p5 =>
 ld (cI .i64) (Addr.add p5 19) >>= fun x6 =>
 (if x6 = 0 then
   (if ¬ (r3.2 = true) then
     pure true
    else
     pure (!r4.2)) >>= fun y7 =>
   pure y7
  else
   pure false) >>= fun y8 =>
 if y8 = true then
  ZaN a0 162 r1.at_ >>= fun r10 =>
  pure r4.1
 else
  pure r4.1
theorem Zhh (a0 : (Option Addr)) : Ref Tryz.prog 42 [.pointer a0] (Zcp a0) Zcp.out := by
 refine J.Fn Tryz.func42 ?_
 unfold Zcp
 refine SJ.sr 1 <| J.z 1 <| SJ.sr 4 <| J.C 1 F64 (ZcI _) fun r1 => J.a 0 Zdr fun b2 => J.s 0 0 rfl Zdr (Upd.w r1) <| J.z 0 <| SJ.sr 8 <| J.k 1 0 rfl Ty9 (Zbb _) <| J.C 0 F67 (Ze2 _ _) fun r3 => J.z 5 <| SJ.sr 7 <| J.C 1 F65 (Zer _ _ _) fun r4 => J.z 5 <| SJ.seq <| SJ.sr 13 <| J.n 1 fun p5 => J.l 1 Ty49 fun x6 => J.g 2 <| OJ.join (b := (x6 == 0)) [6, 7, 8, 9, 10, 11, 12] [] [0, 3, 6, 33] (fun y8 => [(0, .pointer a0), (3, .pointer (some (pt b2 0))), (6, .int .i64 r4.1), (33, .bool y8)]) [] [] (t := 26) beq_iff_eq (fun hp_ => ?_) (fun hp_ => ?_) (fun _ _ _ _ _ _ h_ => h_) fun y8 => ?_
 ·refine J.g 3 <| OJ.join (b := (!r3.2)) [9, 10, 11] [12] [0, 3, 6, 26, 32] (fun y7 => [(0, .pointer a0), (3, .pointer (some (pt b2 0))), (6, .int .i64 r4.1), (26, .bool true), (32, .bool y7)]) [] [] (t := 29) (ZlM Iff.rfl) (fun hp_ => ?_) (fun hp_ => ?_) (fun _ _ _ _ _ hq_ h_ => ⟨fun e_ he_ => (hq_ e_ he_).elim (fun h => h_.1 e_ h) (fun h => nomatch h), h_.2⟩) fun y7 => ?_
  ·exact J.g 3 <| OJ.nil ⟨(Cov.mem Cov.nil), rfl, _, rfl, by kernel_rfl⟩
  ·exact J.g 3 <| OJ.nil ⟨(Cov.mem Cov.nil), rfl, _, rfl, by kernel_rfl⟩
  exact J.g 1 <| OJ.nil ⟨(Cov.mem Cov.nil), rfl, _, rfl, by kernel_rfl⟩
 ·exact J.g 7 <| OJ.nil ⟨(Cov.mem Cov.nil), rfl, _, rfl, by kernel_rfl⟩
 refine J.z 0 <| J.f ?_ ?_
 ·exact SJ.rg 4 <| J.k 2 0 rfl Ty3 (Zbt _) <| J.C 0 F27 (Za6 _ _ _) fun r10 => J.z 0 <| SJ.sr 2 <| J.z 2 <| J.r
 exact SJ.skip <| SJ.sr 2 <| J.z 2 <| J.r
end Go.Proofs.YtjceipelgkdoaaaGreatDoor.Lx
