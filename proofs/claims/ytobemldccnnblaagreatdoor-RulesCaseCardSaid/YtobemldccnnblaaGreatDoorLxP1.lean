/- Programs of the M-world for Go functions, each with the proof that the Go text does what it says. Printed by lxgen.py. -/
import Derived.Test.YtobemldccnnblaaGreatDoorLxT
import Derived.Test.YtobemldccnnblaaGreatDoorLxP0
set_option linter.unusedVariables false
set_option linter.unusedSimpArgs false
set_option linter.unusedSectionVars false
namespace Go.Proofs.YtobemldccnnblaaGreatDoor.Lx
open Go Go.Proofs
variable [Zej]
/-! ### (*weir/addr.six).double: function 150 -/
noncomputable def Zds.out (r_ : (Bool × (Option Addr))) : Value := .tuple #[.bool r_.1, .pointer r_.2]
noncomputable def Zds (a0 : (Option Addr)) : M (Bool × (Option Addr)) :=
 draw >>= fun _ =>
 nilck a0 >>= fun p1 =>
 ld cS p1 >>= fun x2 =>
 nilck a0 >>= fun p3 =>
 ld (cI .i64) (Addr.add p3 1) >>= fun x4 =>
 chk (0 ≤ (x4 : Int) ∧ (x4 : Int) ≤ (x2.size : Int) ∧ (x2.size : Int) ≤ (x2.size : Int)) >>= fun _ =>
 Zdg (ByteArray.extract x2 (Int.toNat x4) (Int.toNat (x2.size : Int))) Zsb >>= fun r5 =>
 if ¬ (r5 = true) then
  pure (false, none)
 else
  nilck a0 >>= fun p6 =>
  ld (cI .i64) (Addr.add p6 3) >>= fun x7 =>
  (if x7 ≥ 0 then
    pure true
   else
    nilck a0 >>= fun p8 =>
    ld cL (Addr.add p8 2) >>= fun x9 =>
    pure ((x9.len : Int) == 8)) >>= fun y10 =>
  if y10 = true then
   draw >>= fun _ =>
   nilck a0 >>= fun p14 =>
   ld (cI .i64) (Addr.add p14 1) >>= fun x15 =>
   newv 225 ZbG (⟨44, x15⟩ : Zb5) >>= fun b16 =>
   pure (false, (some (pt b16 0)))
  else
   nilck a0 >>= fun p17 =>
   ld cL (Addr.add p17 2) >>= fun x18 =>
   nilck a0 >>= fun p19 =>
   st (cI .i64) (Addr.add p19 3) (x18.len : Int) >>= fun _ =>
   nilck a0 >>= fun p20 =>
   ld (cI .i64) (Addr.add p20 1) >>= fun x21 =>
   nilck a0 >>= fun p22 =>
   st (cI .i64) (Addr.add p22 1) (IntKind.wrap .i64 (x21 + 2)) >>= fun _ =>
   pure (true, none)
theorem Zhl (a0 : (Option Addr)) : Ref Tryz.prog 150 [.pointer a0] (Zds a0) Zds.out := by
 refine J.Fn Tryz.func150 ?_
 unfold Zds
 refine SJ.sr 2 <| J.z 2 <| SJ.seq <| SJ.seq <| J.R 11 Zcs <| J.n 1 fun p1 => J.l 1 Ty9 fun x2 => J.n 1 fun p3 => J.l 1 Ty3 fun x4 => J.ct 0 <| J.C 0 F158 (Zjn _ _) fun r5 => J.z 1 <| J.f ?_ ?_
 ·exact SJ.sr 2 <| J.z 2 <| J.r
 refine SJ.skip <| SJ.seq <| SJ.sr 13 <| J.n 1 fun p6 => J.l 1 Ty3 fun x7 => J.j 2 6 .bool ?_ ?_ fun y10 => ?_
 ·exact J.e 7
 ·exact J.n 1 fun p8 => J.l 1 Ty48 fun x9 => J.e 3
 refine J.z 0 <| J.f ?_ ?_
 ·exact SJ.seq <| J.R 8 Zcs <| J.n 1 fun p14 => J.l 1 Ty3 fun x15 => J.u 0 ZkM (.f 0 (ZbH _ 44) (.f 1 (ZbI _ x15) .nil)) <| J.B 0 fun b16 => J.z 2 <| J.r
 exact SJ.skip <| SJ.sr 9 <| J.n 2 fun p17 => J.l 1 Ty48 fun x18 => J.n 1 fun p19 => J.w 1 Ty3 <| J.z 0 <| SJ.sr 8 <| J.n 1 fun p20 => J.l 1 Ty3 fun x21 => J.n 1 fun p22 => J.w 1 Ty3 <| J.z 0 <| SJ.sr 2 <| J.z 2 <| J.r

/-! ### weir/addr.hexa: function 159 -/
noncomputable def Zgu.out (r_ : Int) : Value := .int .i64 r_
noncomputable def Zgu (a0 : Int) : M Int :=
 ZfN a0 >>= fun r1 =>
 if r1 = true then
  pure (IntKind.wrap .i64 (IntKind.wrap .u8 (a0 - 48)))
 else
  (if a0 ≥ 97 then
    pure (decide (a0 ≤ 102))
   else
    pure false) >>= fun y8 =>
  if y8 = true then
   pure (IntKind.wrap .i64 ((IntKind.wrap .i64 (IntKind.wrap .u8 (a0 - 97))) + 10))
  else
   (if a0 ≥ 65 then
     pure (decide (a0 ≤ 70))
    else
     pure false) >>= fun y11 =>
   if y11 = true then
    pure (IntKind.wrap .i64 ((IntKind.wrap .i64 (IntKind.wrap .u8 (a0 - 65))) + 10))
   else
    pure (-1)
theorem ZlI (a0 : Int) : Ref Tryz.prog 159 [.int .u8 a0] (Zgu a0) Zgu.out := by
 refine J.Fn Tryz.func159 ?_
 unfold Zgu
 refine SJ.sr 1 <| J.z 1 <| SJ.seq <| SJ.block (id := 0) <| SJ.sr 3 <| J.C 1 F141 (ZkF _) fun r1 => J.z 1 <| J.f ?_ ?_
 ·exact SJ.sr 4 <| J.z 4 <| J.r
 refine SJ.sr 7 <| J.j 3 2 .bool ?_ ?_ fun y8 => ?_
 ·exact J.e 3
 ·exact J.e 3
 refine J.z 1 <| J.f ?_ ?_
 ·exact SJ.sr 5 <| J.z 5 <| J.r
 refine SJ.sr 7 <| J.j 3 2 .bool ?_ ?_ fun y11 => ?_
 ·exact J.e 3
 ·exact J.e 3
 refine J.z 1 <| J.f ?_ ?_
 ·exact SJ.sr 5 <| J.z 5 <| J.r
 exact SJ.skip <| SJ.inBlock <| SJ.sr 1 <| J.z 1 <| J.r

/-! ### (*weir/addr.six).room: function 160 -/
noncomputable def Zeb.out (r_ : Int) : Value := .int .i64 r_
noncomputable def Zeb (a0 : (Option Addr)) : M Int :=
 nilck a0 >>= fun p1 =>
 ld (cI .i64) (Addr.add p1 3) >>= fun x2 =>
 if x2 ≥ 0 then
  nilck a0 >>= fun p5 =>
  ld cL (Addr.add p5 2) >>= fun x6 =>
  pure (IntKind.wrap .i64 (7 - (x6.len : Int)))
 else
  nilck a0 >>= fun p7 =>
  ld cL (Addr.add p7 2) >>= fun x8 =>
  pure (IntKind.wrap .i64 (8 - (x8.len : Int)))
theorem Zig (a0 : (Option Addr)) : Ref Tryz.prog 160 [.pointer a0] (Zeb a0) Zeb.out := by
 refine J.Fn Tryz.func160 ?_
 unfold Zeb
 refine SJ.sr 1 <| J.z 1 <| SJ.seq <| SJ.sr 5 <| J.n 1 fun p1 => J.l 1 Ty3 fun x2 => J.z 1 <| J.f ?_ ?_
 ·exact SJ.sr 7 <| J.n 1 fun p5 => J.l 1 Ty48 fun x6 => J.z 3 <| J.r
 exact SJ.skip <| SJ.sr 7 <| J.n 1 fun p7 => J.l 1 Ty48 fun x8 => J.z 3 <| J.r

/-! ### (*weir/addr.six).group: function 151 -/
noncomputable def ZaR.B : Code := bod Tryz.f151
noncomputable def ZaR.cx : Fx := ⟨Tryz.prog, 151, Tryz.f151, none⟩
noncomputable def ZaR.out (r_ : (Bool × (Option Addr))) : Value := .tuple #[.bool r_.1, .pointer r_.2]
noncomputable def ZaR.K1 (a0 : (Option Addr)) (x2 : Int) (s3 : Int) (s4 : Int) : M (Bool × (Option Addr)) :=
 if s4 = x2 then
  nilck a0 >>= fun p22 =>
  ld cS p22 >>= fun x23 =>
  Zec x23 x2 >>= fun r24 =>
  pure (false, r24)
 else
  nilck a0 >>= fun p25 =>
  ld cS p25 >>= fun x26 =>
  (if s4 < (x26.size : Int) then
    nilck a0 >>= fun p27 =>
    ld cS p27 >>= fun x28 =>
    chk ((0 : Int) ≤ s4 ∧ s4 < (x28.size : Int)) >>= fun _ =>
    pure ((sb x28 s4) == 46)
   else
    pure false) >>= fun y31 =>
  (if y31 = true then
    nilck a0 >>= fun p32 =>
    ld cL (Addr.add p32 2) >>= fun x33 =>
    (if (x33.len : Int) > 0 then
      pure true
     else
      nilck a0 >>= fun p34 =>
      ld (cI .i64) (Addr.add p34 3) >>= fun x35 =>
      pure (decide (x35 ≥ 0))) >>= fun y36 =>
    pure y36
   else
    pure false) >>= fun y37 =>
  if y37 = true then
   Zeb a0 >>= fun r51 =>
   if r51 < 2 then
    newv 225 ZbG (⟨44, x2⟩ : Zb5) >>= fun b53 =>
    pure (false, (some (pt b53 0)))
   else
    nilck a0 >>= fun p54 =>
    ld cS p54 >>= fun x55 =>
    Za6 x55 x2 >>= fun r56 =>
    slot 235 >>= fun b57 =>
    draw >>= fun _ =>
    nilck a0 >>= fun p58 =>
    ld cL (Addr.add p58 2) >>= fun x59 =>
    slot 3 >>= fun b60 =>
    same cL (Addr.add p58 2) x59 >>= fun _ =>
    appl (cI .i64) 3 8 0 x59 [bor .i64 (IntKind.wrap .i64 ((IntKind.wrap .i64 (Vec.g r56.1 0 0)) * 2 ^ 8)) (IntKind.wrap .i64 (Vec.g r56.1 1 0)), bor .i64 (IntKind.wrap .i64 ((IntKind.wrap .i64 (Vec.g r56.1 2 0)) * 2 ^ 8)) (IntKind.wrap .i64 (Vec.g r56.1 3 0))] >>= fun r61 =>
    nilck a0 >>= fun p62 =>
    st cL (Addr.add p62 2) r61 >>= fun _ =>
    pure (true, r56.2)
  else
   Zeb a0 >>= fun r64 =>
   if r64 < 1 then
    newv 225 ZbG (⟨44, x2⟩ : Zb5) >>= fun b66 =>
    pure (false, (some (pt b66 0)))
   else
    if (IntKind.wrap .i64 (s4 - x2)) > 4 then
     newv 225 ZbG (⟨43, x2⟩ : Zb5) >>= fun b68 =>
     pure (false, (some (pt b68 0)))
    else
     nilck a0 >>= fun p69 =>
     ld cL (Addr.add p69 2) >>= fun x70 =>
     slot 3 >>= fun b71 =>
     appl (cI .i64) 3 8 0 x70 [s3] >>= fun r72 =>
     nilck a0 >>= fun p73 =>
     st cL (Addr.add p73 2) r72 >>= fun _ =>
     nilck a0 >>= fun p74 =>
     st (cI .i64) (Addr.add p74 1) s4 >>= fun _ =>
     pure (false, none)
theorem ZaR.K1_ok (a0 : (Option Addr)) (x2 : Int) (s3 : Int) (s4 : Int) :
  SJ ZaR.cx [.code (c2 (c2 (c2 (c2 ZaR.B))))] [(0, .pointer a0), (4, .int .i64 x2), (5, .int .i64 s3), (6, .int .i64 s4)] [] (ZaR.K1 a0 x2 s3 s4) (rt ZaR.out) := by
 unfold ZaR.K1
 refine SJ.seq <| SJ.sr 3 <| J.z 3 <| J.f ?_ ?_
 ·exact SJ.sr 8 <| J.n 1 fun p22 => J.l 1 Ty9 fun x23 => J.C 1 F142 (Zg1 _ _) fun r24 => J.z 2 <| J.r
 refine SJ.skip <| SJ.seq <| SJ.sr 31 <| J.n 2 fun p25 => J.l 1 Ty9 fun x26 => J.j 3 7 .bool ?_ ?_ fun y31 => ?_
 ·exact J.n 1 fun p27 => J.l 1 Ty9 fun x28 => J.t 1 fun hb29 hb30 => J.e 2
 ·exact J.e 8
 refine J.g 1 <| OJ.join (b := y31) [17, 18, 19, 20, 21, 22, 23, 24, 25, 26, 27, 28, 29, 30] [] [0, 4, 5, 6, 83] (fun y37 => [(0, .pointer a0), (4, .int .i64 x2), (5, .int .i64 s3), (6, .int .i64 s4), (83, .bool y37)]) [] [] (t := 69) Iff.rfl (fun hp_ => ?_) (fun hp_ => ?_) (fun _ _ _ _ _ _ h_ => h_) fun y37 => ?_
 ·refine J.n 1 fun p32 => J.l 1 Ty48 fun x33 => J.g 3 <| OJ.join (b := decide ((x33.len : Int) > 0)) [24, 25, 26, 27, 28, 29] [30] [0, 4, 5, 6, 69, 82] (fun y36 => [(0, .pointer a0), (4, .int .i64 x2), (5, .int .i64 s3), (6, .int .i64 s4), (69, .bool true), (82, .bool y36)]) [] [] (t := 76) decide_eq_true_iff (fun hp_ => ?_) (fun hp_ => ?_) (fun _ _ _ _ _ hq_ h_ => ⟨fun e_ he_ => (hq_ e_ he_).elim (fun h => h_.1 e_ h) (fun h => nomatch h), h_.2⟩) fun y36 => ?_
  ·exact J.g 6 <| OJ.nil ⟨(Cov.mem Cov.nil), rfl, _, rfl, by kernel_rfl⟩
  ·exact J.n 1 fun p34 => J.l 1 Ty3 fun x35 => J.g 2 <| OJ.nil ⟨(Cov.mem Cov.nil), rfl, _, rfl, by kernel_rfl⟩
  exact J.g 1 <| OJ.nil ⟨(Cov.mem Cov.nil), rfl, _, rfl, by kernel_rfl⟩
 ·exact J.g 14 <| OJ.nil ⟨(Cov.mem Cov.nil), rfl, _, rfl, by kernel_rfl⟩
 refine J.z 0 <| J.f ?_ ?_
 ·refine SJ.seq <| SJ.sr 3 <| J.C 1 F160 (Zig _) fun r51 => J.z 1 <| J.f ?_ ?_
  ·exact SJ.sr 5 <| J.u 1 ZkM (.f 0 (ZbH _ 44) (.f 1 (ZbI _ x2) .nil)) <| J.B 0 fun b53 => J.z 2 <| J.r
  exact SJ.skip <| SJ.sr 12 <| J.n 1 fun p54 => J.l 1 Ty9 fun x55 => J.C 1 F138 (ZlJ _ _) fun r56 => J.a 3 Zh9 fun b57 => J.s 0 0 rfl Zh9 (Upd.w r56.1) <| J.z 1 <| SJ.seq <| J.R 26 Zcs <| J.n 2 fun p58 => J.l 1 Ty48 fun x59 => J.k 1 0 rfl Ty5 (At.zero (At.arr (z := 0) (i := 0) (n := 4) (by decide) (by decide))) <| J.k 3 0 rfl Ty5 (At.zero (At.arr (z := 0) (i := 1) (n := 4) (by decide) (by decide))) <| J.k 3 0 rfl Ty5 (At.zero (At.arr (z := 0) (i := 2) (n := 4) (by decide) (by decide))) <| J.k 3 0 rfl Ty5 (At.zero (At.arr (z := 0) (i := 3) (n := 4) (by decide) (by decide))) <| J.g 2 <| OJ.rowSlot (d := 120) (t := 48) (parts := [(0, .tmp 111), (1, .tmp 119)]) (ps := [(0, (cI .i64).val (bor .i64 (IntKind.wrap .i64 ((IntKind.wrap .i64 (Vec.g r56.1 0 0)) * 2 ^ 8)) (IntKind.wrap .i64 (Vec.g r56.1 1 0)))), (1, (cI .i64).val (bor .i64 (IntKind.wrap .i64 ((IntKind.wrap .i64 (Vec.g r56.1 2 0)) * 2 ^ 8)) (IntKind.wrap .i64 (Vec.g r56.1 3 0))))]) (cd := (cI .i64)) (⟨[bor .i64 (IntKind.wrap .i64 ((IntKind.wrap .i64 (Vec.g r56.1 0 0)) * 2 ^ 8)) (IntKind.wrap .i64 (Vec.g r56.1 1 0)), bor .i64 (IntKind.wrap .i64 ((IntKind.wrap .i64 (Vec.g r56.1 2 0)) * 2 ^ 8)) (IntKind.wrap .i64 (Vec.g r56.1 3 0))], rfl⟩ : Vec Int 2) (owed := [⟨4, 48, (Addr.add p58 2), cL.val x59⟩]) Ty3 (Zct.cons (cd := (cI .i64)) (q := (bor .i64 (IntKind.wrap .i64 ((IntKind.wrap .i64 (Vec.g r56.1 0 0)) * 2 ^ 8)) (IntKind.wrap .i64 (Vec.g r56.1 1 0)))) (o := 0) rfl (Upd.arr (i := 0) (by decide) (by decide)) (Zct.cons (cd := (cI .i64)) (q := (bor .i64 (IntKind.wrap .i64 ((IntKind.wrap .i64 (Vec.g r56.1 2 0)) * 2 ^ 8)) (IntKind.wrap .i64 (Vec.g r56.1 3 0)))) (o := 1) rfl (Upd.arr (i := 1) (by decide) (by decide)) Zct.nil)) fun b60 => OW.same Ty48 <| OW.nil <| J.p 0 0 rfl Ty3 fun r61 => J.n 0 fun p62 => J.w 1 Ty48 <| J.z 0 <| SJ.sr 3 <| J.z 3 <| J.r
 refine SJ.skip <| SJ.seq <| SJ.sr 3 <| J.C 1 F160 (Zig _) fun r64 => J.z 1 <| J.f ?_ ?_
 ·exact SJ.sr 5 <| J.u 1 ZkM (.f 0 (ZbH _ 44) (.f 1 (ZbI _ x2) .nil)) <| J.B 0 fun b66 => J.z 2 <| J.r
 refine SJ.skip <| SJ.seq <| SJ.sr 4 <| J.z 4 <| J.f ?_ ?_
 ·exact SJ.sr 5 <| J.u 1 ZkM (.f 0 (ZbH _ 43) (.f 1 (ZbI _ x2) .nil)) <| J.B 0 fun b68 => J.z 2 <| J.r
 exact SJ.skip <| SJ.sr 11 <| J.n 2 fun p69 => J.l 1 Ty48 fun x70 => J.S 1 [s3] Ty3 fun b71 => J.p 0 0 rfl Ty3 fun r72 => J.n 0 fun p73 => J.w 1 Ty48 <| J.z 0 <| SJ.sr 5 <| J.n 2 fun p74 => J.w 1 Ty3 <| J.z 0 <| SJ.sr 2 <| J.z 2 <| J.r
noncomputable def ZaR.F1 (a0 : (Option Addr)) (x2 : Int) : LF (Int × Int) (Bool × (Option Addr)) := ⟨[.inBlock 0, .code (c2 (c2 (c2 (c2 ZaR.B))))], c1 (c1 (c2 (c2 (c2 ZaR.B)))), fun s_ => [(0, .pointer a0), (4, .int .i64 x2), (5, .int .i64 s_.1), (6, .int .i64 s_.2)], fun s_ => [], (rt ZaR.out)⟩
noncomputable def ZaR.L1 (a0 : (Option Addr)) (x2 : Int) (s3 : Int) (s4 : Int) : M (LS (Int × Int) (Bool × (Option Addr))) :=
 nilck a0 >>= fun p79 =>
 ld cS p79 >>= fun x80 =>
 (if s4 < (x80.size : Int) then
   nilck a0 >>= fun p81 =>
   ld cS p81 >>= fun x82 =>
   chk ((0 : Int) ≤ s4 ∧ s4 < (x82.size : Int)) >>= fun _ =>
   Zgu (sb x82 s4) >>= fun r85 =>
   pure (decide (r85 ≥ 0))
  else
   pure false) >>= fun y86 =>
 if y86 = true then
  nilck a0 >>= fun p87 =>
  ld cS p87 >>= fun x88 =>
  chk ((0 : Int) ≤ s4 ∧ s4 < (x88.size : Int)) >>= fun _ =>
  Zgu (sb x88 s4) >>= fun r91 =>
  pure (LS.next (bor .i64 (band .i64 (IntKind.wrap .i64 (s3 * 2 ^ 4)) 1048575) r91, IntKind.wrap .i64 (s4 + 1)))
 else
  (ZaR.K1 a0 x2 s3 s4) >>= fun b => pure (LS.done b)
theorem ZaR.L1_ok (a0 : (Option Addr)) (x2 : Int) : LJ ZaR.cx (ZaR.F1 a0 x2) (fun s_ => ZaR.L1 a0 x2 s_.1 s_.2) := by
 rintro ⟨s3, s4⟩
 show SJ _ _ _ _ (ZaR.L1 a0 x2 s3 s4) _
 unfold ZaR.L1
 refine SJ.seq <| SJ.sr 17 <| J.n 2 fun p79 => J.l 1 Ty9 fun x80 => J.j 3 8 .bool ?_ ?_ fun y86 => ?_
 ·exact J.n 1 fun p81 => J.l 1 Ty9 fun x82 => J.t 1 fun hb83 hb84 => J.C 0 F159 (ZlI _) fun r85 => J.e 2
 ·exact J.e 9
 refine J.z 0 <| J.f ?_ ?_
 ·exact SJ.skip <| SJ.block (id := 1) <| SJ.sr 12 <| J.n 4 fun p87 => J.l 1 Ty9 fun x88 => J.t 1 fun hb89 hb90 => J.C 0 F159 (ZlI _) fun r91 => J.z 2 <| SJ.rg 3 <| J.z 3 <| SJ.inBlock <| J.o rfl
 exact SJ.exit (id := 0) (by rfl) <| J.q <| SJ.done <| ZaR.K1_ok a0 x2 s3 s4
noncomputable def ZaR (a0 : (Option Addr)) : M (Bool × (Option Addr)) :=
 nilck a0 >>= fun p1 =>
 ld (cI .i64) (Addr.add p1 1) >>= fun x2 =>
 ZcI (fun s_ : (Int × Int) => ZaR.L1 a0 x2 s_.1 s_.2) (0, x2)
theorem Zle (a0 : (Option Addr)) : Ref Tryz.prog 151 [.pointer a0] (ZaR a0) ZaR.out := by
 refine J.Fn Tryz.func151 ?_
 unfold ZaR
 exact SJ.sr 2 <| J.z 2 <| SJ.sr 6 <| J.n 1 fun p1 => J.l 1 Ty3 fun x2 => J.z 2 <| SJ.sr 2 <| J.z 2 <| SJ.seq <| SJ.block (id := 0) <| J.L (ZaR.L1_ok a0 x2)

/-! ### (*weir/addr.six).read: function 139 -/
noncomputable def Zby.B : Code := bod Tryz.f139
noncomputable def Zby.cx : Fx := ⟨Tryz.prog, 139, Tryz.f139, none⟩
noncomputable def Zby.out (r_ : (Option Addr)) : Value := .pointer r_
noncomputable def Zby.F1 (a0 : (Option Addr)) : LF Bool (Option Addr) := ⟨[.inBlock 0], c1 (c2 (c2 (c2 Zby.B))), fun s_ => [(0, .pointer a0), (5, .bool s_)], fun s_ => [], (rt Zby.out)⟩
noncomputable def Zby.L1 (a0 : (Option Addr)) (s4 : Bool) : M (LS Bool (Option Addr)) :=
 draw >>= fun _ =>
 nilck a0 >>= fun p5 =>
 ld (cI .i64) (Addr.add p5 1) >>= fun x6 =>
 nilck a0 >>= fun p7 =>
 ld cS p7 >>= fun x8 =>
 (if x6 = (x8.size : Int) then
   pure s4
  else
   pure false) >>= fun y9 =>
 if y9 = true then
  pure (LS.done none)
 else
  ZaR a0 >>= fun r10 =>
  if ¬ (r10.2 = none) then
   pure (LS.done r10.2)
  else
   draw >>= fun _ =>
   (if r10.1 = true then
     pure true
    else
     nilck a0 >>= fun p11 =>
     ld (cI .i64) (Addr.add p11 1) >>= fun x12 =>
     nilck a0 >>= fun p13 =>
     ld cS p13 >>= fun x14 =>
     pure (x12 == (x14.size : Int))) >>= fun y15 =>
   if y15 = true then
    nilck a0 >>= fun p28 =>
    ld (cI .i64) (Addr.add p28 3) >>= fun x29 =>
    (if x29 < 0 then
      nilck a0 >>= fun p30 =>
      ld cL (Addr.add p30 2) >>= fun x31 =>
      pure ((x31.len : Int) != 8)
     else
      pure false) >>= fun y32 =>
    if y32 = true then
     nilck a0 >>= fun p36 =>
     ld cS p36 >>= fun x37 =>
     newv 225 ZbG (⟨42, (x37.size : Int)⟩ : Zb5) >>= fun b38 =>
     pure (LS.done (some (pt b38 0)))
    else
     pure (LS.done none)
   else
    Zds a0 >>= fun r40 =>
    if ¬ (r40.2 = none) then
     pure (LS.done r40.2)
    else
     if ¬ (r40.1 = true) then
      draw >>= fun _ =>
      nilck a0 >>= fun p57 =>
      ld cS p57 >>= fun x58 =>
      nilck a0 >>= fun p59 =>
      ld (cI .i64) (Addr.add p59 1) >>= fun x60 =>
      chk ((0 : Int) ≤ x60 ∧ x60 < (x58.size : Int)) >>= fun _ =>
      if (sb x58 x60) ≠ 58 then
       nilck a0 >>= fun p66 =>
       ld (cI .i64) (Addr.add p66 1) >>= fun x67 =>
       newv 225 ZbG (⟨41, x67⟩ : Zb5) >>= fun b68 =>
       pure (LS.done (some (pt b68 0)))
      else
       nilck a0 >>= fun p69 =>
       ld (cI .i64) (Addr.add p69 1) >>= fun x70 =>
       nilck a0 >>= fun p71 =>
       st (cI .i64) (Addr.add p71 1) (IntKind.wrap .i64 (x70 + 1)) >>= fun _ =>
       pure (LS.next r40.1)
     else
      pure (LS.next r40.1)
theorem Zby.L1_ok (a0 : (Option Addr)) : LJ Zby.cx (Zby.F1 a0) (fun s_ => Zby.L1 a0 s_) := by
 rintro s4
 show SJ _ _ _ _ (Zby.L1 a0 s4) _
 unfold Zby.L1
 refine SJ.block (id := 1) <| SJ.seq <| SJ.seq <| J.R 13 Zcs <| J.n 1 fun p5 => J.l 1 Ty3 fun x6 => J.n 1 fun p7 => J.l 1 Ty9 fun x8 => J.j 3 1 .bool ?_ ?_ fun y9 => ?_
 ·exact J.e 2
 ·exact J.e 2
 refine J.z 0 <| J.f ?_ ?_
 ·exact SJ.sr 1 <| J.z 1 <| J.r
 refine SJ.skip <| SJ.sr 7 <| J.C 1 F151 (Zle _) fun r10 => J.z 5 <| SJ.seq <| SJ.sr 2 <| J.z 2 <| J.f ?_ ?_
 ·exact SJ.sr 2 <| J.z 2 <| J.r
 refine SJ.skip <| SJ.seq <| SJ.seq <| J.R 13 Zcs <| J.j 2 10 .bool ?_ ?_ fun y15 => ?_
 ·exact J.e 11
 ·exact J.n 1 fun p11 => J.l 1 Ty3 fun x12 => J.n 1 fun p13 => J.l 1 Ty9 fun x14 => J.e 3
 refine J.z 0 <| J.f ?_ ?_
 ·refine SJ.seq <| SJ.sr 13 <| J.n 1 fun p28 => J.l 1 Ty3 fun x29 => J.j 2 6 .bool ?_ ?_ fun y32 => ?_
  ·exact J.n 1 fun p30 => J.l 1 Ty48 fun x31 => J.e 3
  ·exact J.e 7
  refine J.z 0 <| J.f ?_ ?_
  ·exact SJ.sr 8 <| J.n 1 fun p36 => J.l 1 Ty9 fun x37 => J.u 1 ZkM (.f 0 (ZbH _ 42) (.f 1 (ZbI _ (x37.size : Int)) .nil)) <| J.B 0 fun b38 => J.z 1 <| J.r
  exact SJ.skip <| SJ.sr 1 <| J.z 1 <| J.r
 refine SJ.skip <| SJ.sr 7 <| J.C 1 F150 (Zhl _) fun r40 => J.z 5 <| SJ.seq <| SJ.sr 2 <| J.z 2 <| J.f ?_ ?_
 ·exact SJ.sr 2 <| J.z 2 <| J.r
 refine SJ.skip <| SJ.sr 2 <| J.z 2 <| J.f ?_ ?_
 ·refine SJ.seq <| SJ.seq <| J.R 10 Zcs <| J.n 1 fun p57 => J.l 1 Ty9 fun x58 => J.n 1 fun p59 => J.l 1 Ty3 fun x60 => J.t 0 fun hb61 hb62 => J.z 1 <| J.f ?_ ?_
  ·exact SJ.sr 7 <| J.n 1 fun p66 => J.l 1 Ty3 fun x67 => J.u 0 ZkM (.f 0 (ZbH _ 41) (.f 1 (ZbI _ x67) .nil)) <| J.B 0 fun b68 => J.z 1 <| J.r
  exact SJ.skip <| SJ.rg 8 <| J.n 1 fun p69 => J.l 1 Ty3 fun x70 => J.n 1 fun p71 => J.w 1 Ty3 <| J.z 0 <| SJ.inBlock <| J.o rfl
 exact SJ.skip <| SJ.inBlock <| J.o rfl
noncomputable def Zby (a0 : (Option Addr)) : M (Option Addr) :=
 Zds a0 >>= fun r1 =>
 if ¬ (r1.2 = none) then
  pure r1.2
 else
  nilck a0 >>= fun p2 =>
  ld (cI .i64) (Addr.add p2 3) >>= fun x3 =>
  ZcI (fun s_ : Bool => Zby.L1 a0 s_) (decide (x3 ≥ 0))
theorem ZlV (a0 : (Option Addr)) : Ref Tryz.prog 139 [.pointer a0] (Zby a0) Zby.out := by
 refine J.Fn Tryz.func139 ?_
 unfold Zby
 refine SJ.sr 1 <| J.z 1 <| SJ.seq <| SJ.sr 7 <| J.C 1 F150 (Zhl _) fun r1 => J.z 5 <| SJ.sr 2 <| J.z 2 <| J.f ?_ ?_
 ·exact SJ.sr 2 <| J.z 2 <| J.r
 exact SJ.skip <| SJ.sr 6 <| J.n 1 fun p2 => J.l 1 Ty3 fun x3 => J.z 2 <| SJ.block (id := 0) <| J.L (Zby.L1_ok a0)

/-! ### (*weir/addr.six).bytes: function 140 -/
noncomputable def ZaF.B : Code := bod Tryz.f140
noncomputable def ZaF.cx : Fx := ⟨Tryz.prog, 140, Tryz.f140, none⟩
noncomputable def ZaF.out (r_ : (Vec Int 16)) : Value := ((cI .u8).arr 16).val r_
noncomputable def ZaF.F1 (a0 : (Option Addr)) (b1 : Nat) (b2 : Nat) (x4 : Sl) : LF (Int × (Vec Int 16)) (Vec Int 16) := ⟨[.inBlock 0, .code (c2 (c2 (c2 ZaF.B)))], c1 (c2 (c1 (c2 (c2 ZaF.B)))), fun s_ => [(0, .pointer a0), (2, .pointer (some (pt b1 0))), (3, .pointer (some (pt b2 0))), (9, Sl.v x4), (10, .int .i64 (x4.len : Int)), (11, .int .i64 s_.1)], fun s_ => [(b2, ((cI .u8).arr 16).enc s_.2), (b1, ((cI .u8).arr 16).enc (Vec.rep 16 0))], (rt ZaF.out)⟩
noncomputable def ZaF.K1 (s5 : Int) (s6 : (Vec Int 16)) (x26 : Int) (j34 : Int) : M (LS (Int × (Vec Int 16)) (Vec Int 16)) :=
 chk ((0 : Int) ≤ (IntKind.wrap .i64 (2 * j34)) ∧ (IntKind.wrap .i64 (2 * j34)) < (16 : Nat)) >>= fun _ =>
 chk ((0 : Int) ≤ (IntKind.wrap .i64 ((IntKind.wrap .i64 (2 * j34)) + 1)) ∧ (IntKind.wrap .i64 ((IntKind.wrap .i64 (2 * j34)) + 1)) < (16 : Nat)) >>= fun _ =>
 pure (LS.next (IntKind.wrap .i64 (s5 + 1), (Vec.s (Vec.s s6 (IntKind.wrap .i64 (2 * j34)) (IntKind.wrap .u8 (Int.fdiv x26 (2 ^ 8)))) (IntKind.wrap .i64 ((IntKind.wrap .i64 (2 * j34)) + 1)) (IntKind.wrap .u8 x26))))
theorem ZaF.K1_ok (a0 : (Option Addr)) (b1 : Nat) (b2 : Nat) (x4 : Sl) (s5 : Int) (s6 : (Vec Int 16)) (x26 : Int) (j34 : Int) :
  SJ ZaF.cx [.code (c2 (c2 (c1 (c1 (c2 (c2 (c1 (c1 (c2 (c1 (c2 (c2 ZaF.B)))))))))))), .inBlock 1, .code (c2 (c2 (c2 (c1 (c1 (c2 (c1 (c2 (c2 ZaF.B))))))))), .inLoop (c1 (c1 (c2 (c1 (c2 (c2 ZaF.B)))))), .inBlock 0, .code (c2 (c2 (c2 ZaF.B)))] [(0, .pointer a0), (2, .pointer (some (pt b1 0))), (3, .pointer (some (pt b2 0))), (9, Sl.v x4), (10, .int .i64 (x4.len : Int)), (11, .int .i64 s5), (4, .int .i64 j34), (5, .int .i64 x26)] [(b2, ((cI .u8).arr 16).enc s6), (b1, ((cI .u8).arr 16).enc (Vec.rep 16 0))] (ZaF.K1 s5 s6 x26 j34) (ZaF.F1 a0 b1 b2 x4).f := by
 unfold ZaF.K1
 exact SJ.rg 14 <| J.y 10 fun hb35 hb36 => J.s (u := (IntKind.wrap .u8 (Int.fdiv x26 (2 ^ 8)))) 0 0 rfl Ty5 (Upd.zero (Upd.arr hb35 hb36)) <| J.y 0 fun hb37 hb38 => J.s (u := (IntKind.wrap .u8 x26)) 0 0 rfl Ty5 (Upd.zero (Upd.arr hb37 hb38)) <| J.z 0 <| SJ.inBlock <| SJ.rg 2 <| J.z 2 <| J.o rfl
noncomputable def ZaF.L1 (a0 : (Option Addr)) (x4 : Sl) (s5 : Int) (s6 : (Vec Int 16)) : M (LS (Int × (Vec Int 16)) (Vec Int 16)) :=
 if s5 < (x4.len : Int) then
  idx x4.a x4.len s5 1 >>= fun p25 =>
  ld (cI .i64) p25 >>= fun x26 =>
  nilck a0 >>= fun p27 =>
  ld (cI .i64) (Addr.add p27 3) >>= fun x28 =>
  (if x28 ≥ 0 then
    nilck a0 >>= fun p29 =>
    ld (cI .i64) (Addr.add p29 3) >>= fun x30 =>
    pure (decide (s5 ≥ x30))
   else
    pure false) >>= fun y31 =>
  if y31 = true then
   nilck a0 >>= fun p39 =>
   ld cL (Addr.add p39 2) >>= fun x40 =>
   ZaF.K1 s5 s6 x26 (IntKind.wrap .i64 (s5 + (IntKind.wrap .i64 (8 - (x40.len : Int)))))
  else
   ZaF.K1 s5 s6 x26 s5
 else
  pure (LS.done s6)
theorem ZaF.L1_ok (a0 : (Option Addr)) (b1 : Nat) (b2 : Nat) (x4 : Sl) : LJ ZaF.cx (ZaF.F1 a0 b1 b2 x4) (fun s_ => ZaF.L1 a0 x4 s_.1 s_.2) := by
 rintro ⟨s5, s6⟩
 show SJ _ _ _ _ (ZaF.L1 a0 x4 s5 s6) _
 unfold ZaF.L1
 refine SJ.sr 1 <| J.z 1 <| SJ.seq <| J.f ?_ ?_
 ·refine SJ.skip <| SJ.seq <| SJ.block (id := 1) <| SJ.sr 5 <| J.i 1 fun p25 => J.l 0 Ty3 fun x26 => J.z 2 <| SJ.seq <| SJ.sr 13 <| J.n 1 fun p27 => J.l 1 Ty3 fun x28 => J.j 2 6 .bool ?_ ?_ fun y31 => ?_
  ·exact J.n 2 fun p29 => J.l 1 Ty3 fun x30 => J.e 2
  ·exact J.e 7
  refine J.z 0 <| J.f ?_ ?_
  ·exact SJ.rg 9 <| J.n 2 fun p39 => J.l 1 Ty48 fun x40 => J.z 4 <| J.q <| ZaF.K1_ok a0 b1 b2 x4 s5 s6 x26 (IntKind.wrap .i64 (s5 + (IntKind.wrap .i64 (8 - (x40.len : Int)))))
  exact SJ.skip <| J.q <| ZaF.K1_ok a0 b1 b2 x4 s5 s6 x26 s5
 exact SJ.exit (id := 0) (by rfl) <| SJ.sr 2 <| J.k 0 0 rfl Ty26 (At.whole _) <| J.s 0 1 rfl Ty26 (Upd.w s6) <| J.z 0 <| J.rc (.c 1 rfl Ty26 .n)
noncomputable def ZaF (a0 : (Option Addr)) : M (Vec Int 16) :=
 slot 26 >>= fun b1 =>
 slot 26 >>= fun b2 =>
 nilck a0 >>= fun p3 =>
 ld cL (Addr.add p3 2) >>= fun x4 =>
 ZcI (fun s_ : (Int × (Vec Int 16)) => ZaF.L1 a0 x4 s_.1 s_.2) (0, (Vec.rep 16 0))
theorem Zlf (a0 : (Option Addr)) : Ref Tryz.prog 140 [.pointer a0] (ZaF a0) ZaF.out := by
 refine J.Fn Tryz.func140 ?_
 unfold ZaF
 exact SJ.sr 1 <| J.a 0 Ty26 fun b1 => J.z 0 <| SJ.sr 1 <| J.a 0 Ty26 fun b2 => J.z 0 <| SJ.seq <| SJ.sr 6 <| J.n 1 fun p3 => J.l 1 Ty48 fun x4 => J.z 2 <| SJ.block (id := 0) <| J.L (ZaF.L1_ok a0 b1 b2 x4)

/-! ### weir/addr.parse: function 127 -/
noncomputable def ZfM.out (r_ : (Zba × (Option Addr))) : Value := .tuple #[ZaG.val r_.1, .pointer r_.2]
noncomputable def ZfM (a0 : ByteArray) : M (Zba × (Option Addr)) :=
 slot 28 >>= fun b1 =>
 if (a0.size : Int) > 45 then
  newv 225 ZbG (⟨2, 45⟩ : Zb5) >>= fun b3 =>
  pure (Zci, (some (pt b3 0)))
 else
  Zdy a0 ZwQ >>= fun r4 =>
  if ¬ (r4 = true) then
   Za6 a0 0 >>= fun r8 =>
   slot 235 >>= fun b9 =>
   if ¬ (r8.2 = none) then
    pure (Zci, r8.2)
   else
    pure ((⟨4, (⟨[(Vec.g r8.1 0 0), (Vec.g r8.1 1 0), (Vec.g r8.1 2 0), (Vec.g r8.1 3 0), 0, 0, 0, 0, 0, 0, 0, 0, 0, 0, 0, 0], rfl⟩ : (Vec Int 16))⟩ : Zba), none)
  else
   newv 240 Zdi (⟨a0, Zi9.at_, Zi9.groups, (-1)⟩ : Zem) >>= fun b11 =>
   Zby (some (pt b11 0)) >>= fun r12 =>
   if ¬ (r12 = none) then
    pure (Zci, r12)
   else
    ZaF (some (pt b11 0)) >>= fun r13 =>
    pure ((⟨6, r13⟩ : Zba), none)
theorem ZkE (a0 : ByteArray) : Ref Tryz.prog 127 [.string a0] (ZfM a0) ZfM.out := by
 refine J.Fn Tryz.func127 ?_
 unfold ZfM
 refine SJ.sr 2 <| J.a 0 Ty28 fun b1 => J.z 1 <| SJ.seq <| SJ.sr 3 <| J.z 3 <| J.f ?_ ?_
 ·exact SJ.sr 5 <| J.u 0 Ty28 .nil <| J.u 0 ZkM (.f 0 (ZbH _ 2) (.f 1 (ZbI _ 45) .nil)) <| J.B 0 fun b3 => J.s 0 0 rfl Ty28 (Upd.w Zci) <| J.z 1 <| J.rc (.c 0 rfl Ty28 .n)
 refine SJ.skip <| SJ.seq <| SJ.sr 3 <| J.C 1 F137 (ZjS _ _) fun r4 => J.z 1 <| J.f ?_ ?_
 ·refine SJ.sr 8 <| J.C 1 F138 (ZlJ _ _) fun r8 => J.a 3 Zh9 fun b9 => J.s 0 0 rfl Zh9 (Upd.w r8.1) <| J.z 1 <| SJ.seq <| SJ.sr 2 <| J.z 2 <| J.f ?_ ?_
  ·exact SJ.sr 4 <| J.u 0 Ty28 .nil <| J.s 1 1 rfl Ty28 (Upd.w Zci) <| J.z 1 <| J.rc (.c 1 rfl Ty28 .n)
  exact SJ.skip <| SJ.sr 12 <| J.k 1 0 rfl Ty5 (At.zero (At.arr (z := 0) (i := 0) (n := 4) (by decide) (by decide))) <| J.k 1 0 rfl Ty5 (At.zero (At.arr (z := 0) (i := 1) (n := 4) (by decide) (by decide))) <| J.k 1 0 rfl Ty5 (At.zero (At.arr (z := 0) (i := 2) (n := 4) (by decide) (by decide))) <| J.k 1 0 rfl Ty5 (At.zero (At.arr (z := 0) (i := 3) (n := 4) (by decide) (by decide))) <| OJ.build (d := 34) (T := 26) (parts := [(0, .tmp 27), (1, .tmp 29), (2, .tmp 31), (3, .tmp 33)]) (ps := [(0, (cI .u8).val (Vec.g r8.1 0 0)), (1, (cI .u8).val (Vec.g r8.1 1 0)), (2, (cI .u8).val (Vec.g r8.1 2 0)), (3, (cI .u8).val (Vec.g r8.1 3 0))]) (cd := ((cI .u8).arr 16)) (z0 := (Vec.rep 16 0)) (⟨[(Vec.g r8.1 0 0), (Vec.g r8.1 1 0), (Vec.g r8.1 2 0), (Vec.g r8.1 3 0), 0, 0, 0, 0, 0, 0, 0, 0, 0, 0, 0, 0], rfl⟩ : (Vec Int 16)) Ty26 rfl (Zct.cons (cd := (cI .u8)) (q := (Vec.g r8.1 0 0)) (o := 0) (by kernel_rfl) (Upd.arr (i := 0) (by decide) (by decide)) (Zct.cons (cd := (cI .u8)) (q := (Vec.g r8.1 1 0)) (o := 1) (by kernel_rfl) (Upd.arr (i := 1) (by decide) (by decide)) (Zct.cons (cd := (cI .u8)) (q := (Vec.g r8.1 2 0)) (o := 2) (by kernel_rfl) (Upd.arr (i := 2) (by decide) (by decide)) (Zct.cons (cd := (cI .u8)) (q := (Vec.g r8.1 3 0)) (o := 3) (by kernel_rfl) (Upd.arr (i := 3) (by decide) (by decide)) Zct.nil)))) <| J.u 0 Ty28 (.f 0 (Zj9 _ 4) (.f 1 (Zka _ (⟨[(Vec.g r8.1 0 0), (Vec.g r8.1 1 0), (Vec.g r8.1 2 0), (Vec.g r8.1 3 0), 0, 0, 0, 0, 0, 0, 0, 0, 0, 0, 0, 0], rfl⟩ : (Vec Int 16))) .nil)) <| J.s 0 1 rfl Ty28 (Upd.w (⟨4, (⟨[(Vec.g r8.1 0 0), (Vec.g r8.1 1 0), (Vec.g r8.1 2 0), (Vec.g r8.1 3 0), 0, 0, 0, 0, 0, 0, 0, 0, 0, 0, 0, 0], rfl⟩ : (Vec Int 16))⟩ : Zba)) <| J.z 1 <| J.rc (.c 1 rfl Ty28 .n)
 refine SJ.skip <| SJ.sr 4 <| J.u 1 ZwY (.f 0 (ZoB _ a0) (.f 3 (Zi3 _ (-1)) .nil)) <| J.B 0 fun b11 => J.z 1 <| SJ.seq <| SJ.sr 3 <| J.C 1 F139 (ZlV _) fun r12 => J.z 1 <| SJ.sr 2 <| J.z 2 <| J.f ?_ ?_
 ·exact SJ.sr 4 <| J.u 0 Ty28 .nil <| J.s 1 0 rfl Ty28 (Upd.w Zci) <| J.z 1 <| J.rc (.c 0 rfl Ty28 .n)
 exact SJ.skip <| SJ.sr 5 <| J.C 1 F140 (Zlf _) fun r13 => J.u 0 Ty28 (.f 0 (Zj9 _ 6) (.f 1 (Zka _ r13) .nil)) <| J.s 0 0 rfl Ty28 (Upd.w (⟨6, r13⟩ : Zba)) <| J.z 1 <| J.rc (.c 0 rfl Ty28 .n)

/-! ### weir/addr.ParsePrefix: function 116 -/
noncomputable def Zap.B : Code := bod Tryz.f116
noncomputable def Zap.cx : Fx := ⟨Tryz.prog, 116, Tryz.f116, none⟩
noncomputable def Zap.out (r_ : (Zad × Int × Int)) : Value := .tuple #[Zav.val r_.1, .int .i64 r_.2.1, .int .i64 r_.2.2]
noncomputable def Zap.K1 (r3 : (Zba × (Option Addr))) (j8 : Int) (j17 : (Option Addr)) : M (Zad × Int × Int) :=
 if ¬ (j17 = none) then
  draw >>= fun _ =>
  nilck j17 >>= fun p22 =>
  ld (cI .i64) p22 >>= fun x23 =>
  nilck j17 >>= fun p24 =>
  ld (cI .i64) (Addr.add p24 1) >>= fun x25 =>
  same (cI .i64) (Addr.add p24 1) x25 >>= fun _ =>
  same (cI .i64) p22 x23 >>= fun _ =>
  pure (ZbN, x23, x25)
 else
  pure ((⟨r3.1, j8⟩ : Zad), 0, 0)
theorem Zap.K1_ok (b1 : Nat) (r3 : (Zba × (Option Addr))) (j8 : Int) (b13 : Nat) (j17 : (Option Addr)) :
  SJ Zap.cx [.code (c2 (c2 (c2 (c2 (c2 (c2 (c2 (c2 (c2 (c2 Zap.B))))))))))] [(2, .pointer (some (pt b1 0))), (9, .pointer j17), (12, .pointer (some (pt b13 0)))] [(b13, Zav.enc (⟨r3.1, j8⟩ : Zad)), (b1, Zav.enc ZbN)] (Zap.K1 r3 j8 j17) (rt Zap.out) := by
 unfold Zap.K1
 refine SJ.seq <| SJ.sr 2 <| J.z 2 <| J.f ?_ ?_
 ·exact SJ.seq <| J.R 12 Zcs <| J.u 0 ZcY .nil <| J.n 1 fun p22 => J.l 1 Ty50 fun x23 => J.n 1 fun p24 => J.l 1 Ty3 fun x25 => OJ.kst (y := .tmp 2) (z := .tmp 71) (cd := Zav) (u := ZbN) (j := 1) (b := b1) (o := 0) (Zav.enc ZbN) (owed := [⟨8, 3, (Addr.add p24 1), (cI .i64).val x25⟩, ⟨4, 50, p22, (cI .i64).val x23⟩]) ZcY rfl (Upd.whole ((Cod.len _ _).trans (Cod.len _ _).symm)) rfl <| OW.same Ty3 <| OW.same Ty50 <| OW.nil <| J.z 2 <| J.rc (.c 1 rfl ZcY .n)
 exact SJ.skip <| SJ.sr 4 <| J.k 0 0 rfl ZcY (At.whole _) <| J.s 0 1 rfl ZcY (Upd.w (⟨r3.1, j8⟩ : Zad)) <| J.z 2 <| J.rc (.c 1 rfl ZcY .n)
noncomputable def Zap.K2 (r3 : (Zba × (Option Addr))) (j8 : Int) (j12 : (Option Addr)) : M (Zad × Int × Int) :=
 slot 111 >>= fun b13 =>
 (if j12 = none then
   Zcr (⟨r3.1, j8⟩ : Zad) >>= fun r14 =>
   pure (r14 != 0)
  else
   pure false) >>= fun y15 =>
 if y15 = true then
  newv 225 ZbG (⟨46, 0⟩ : Zb5) >>= fun b27 =>
  Zap.K1 r3 j8 (some (pt b27 0))
 else
  Zap.K1 r3 j8 j12
theorem Zap.K2_ok (b1 : Nat) (r3 : (Zba × (Option Addr))) (b4 : Nat) (j8 : Int) (j12 : (Option Addr)) :
  SJ Zap.cx [.code (c2 (c2 (c2 (c2 (c2 (c2 (c2 (c2 Zap.B))))))))] [(2, .pointer (some (pt b1 0))), (8, .pointer (some (pt b4 0))), (9, .pointer j12), (10, .int .i64 j8)] [(b4, ZaG.enc r3.1), (b1, Zav.enc ZbN)] (Zap.K2 r3 j8 j12) (rt Zap.out) := by
 unfold Zap.K2
 refine SJ.sr 5 <| J.k 0 0 rfl Ty28 (At.whole _) <| J.u 1 ZcY (.f 0 (Zgz _ r3.1) (.f 1 (Zfq _ j8) .nil)) <| J.a 0 ZcY fun b13 => J.s 0 0 rfl ZcY (Upd.w (⟨r3.1, j8⟩ : Zad)) <| J.z 0 <| SJ.seq <| SJ.sr 7 <| J.j 3 3 .bool ?_ ?_ fun y15 => ?_
 ·exact J.k 0 0 rfl ZcY (At.whole _) <| J.C 0 F80 (ZeL _) fun r14 => J.e 2
 ·exact J.e 4
 refine J.z 0 <| J.f ?_ ?_
 ·exact SJ.rg 3 <| J.u 0 ZkM (.f 0 (ZbH _ 46) (.f 1 (ZbI _ 0) .nil)) <| J.B 0 fun b27 => J.z 1 <| SJ.forget (List.Sublist.cons_cons _ (List.Sublist.cons _ (List.Sublist.cons_cons _ List.Sublist.slnil))) <| J.q <| Zap.K1_ok b1 r3 j8 b13 (some (pt b27 0))
 exact SJ.skip <| SJ.forget (List.Sublist.cons_cons _ (List.Sublist.cons _ (List.Sublist.cons_cons _ List.Sublist.slnil))) <| J.q <| Zap.K1_ok b1 r3 j8 b13 j12
noncomputable def Zap.K3 (a0 : ByteArray) (r3 : (Zba × (Option Addr))) (j7 : (Option Addr)) (j8 : Int) (j9 : Int) : M (Zad × Int × Int) :=
 (if j7 = none then
   pure (decide (j9 < (a0.size : Int)))
  else
   pure false) >>= fun y10 =>
 if y10 = true then
  newv 225 ZbG (⟨41, j9⟩ : Zb5) >>= fun b29 =>
  Zap.K2 r3 j8 (some (pt b29 0))
 else
  Zap.K2 r3 j8 j7
theorem Zap.K3_ok (a0 : ByteArray) (b1 : Nat) (r3 : (Zba × (Option Addr))) (b4 : Nat) (j7 : (Option Addr)) (j8 : Int) (j9 : Int) :
  SJ Zap.cx [.code (c2 (c2 (c2 (c2 (c2 (c2 (c2 Zap.B)))))))] [(0, .string a0), (2, .pointer (some (pt b1 0))), (8, .pointer (some (pt b4 0))), (9, .pointer j7), (10, .int .i64 j8), (11, .int .i64 j9)] [(b4, ZaG.enc r3.1), (b1, Zav.enc ZbN)] (Zap.K3 a0 r3 j7 j8 j9) (rt Zap.out) := by
 unfold Zap.K3
 refine SJ.seq <| SJ.sr 8 <| J.j 3 4 .bool ?_ ?_ fun y10 => ?_
 ·exact J.e 5
 ·exact J.e 5
 refine J.z 0 <| J.f ?_ ?_
 ·exact SJ.rg 4 <| J.u 1 ZkM (.f 0 (ZbH _ 41) (.f 1 (ZbI _ j9) .nil)) <| J.B 0 fun b29 => J.z 1 <| J.q <| Zap.K2_ok b1 r3 b4 j8 (some (pt b29 0))
 exact SJ.skip <| J.q <| Zap.K2_ok b1 r3 b4 j8 j7
noncomputable def Zap (a0 : ByteArray) : M (Zad × Int × Int) :=
 slot 111 >>= fun b1 =>
 if (a0.size : Int) > 49 then
  pure (ZbN, 2, 49)
 else
  ZdS a0 Zrk >>= fun r2 =>
  if ¬ (r2.2.2 = true) then
   pure (ZbN, 42, (a0.size : Int))
  else
   ZfM r2.1 >>= fun r3 =>
   slot 28 >>= fun b4 =>
   if r3.2 = none then
    Zf0 r3.1 >>= fun r31 =>
    ZaN a0 (IntKind.wrap .i64 ((r2.1.size : Int) + 1)) r31 45 >>= fun r32 =>
    Zap.K3 a0 r3 r32.2.2 r32.1 r32.2.1
   else
    Zap.K3 a0 r3 r3.2 0 0
theorem Zj6 (a0 : ByteArray) : Ref Tryz.prog 116 [.string a0] (Zap a0) Zap.out := by
 refine J.Fn Tryz.func116 ?_
 unfold Zap
 refine SJ.sr 3 <| J.a 0 ZcY fun b1 => J.z 2 <| SJ.seq <| SJ.sr 3 <| J.z 3 <| J.f ?_ ?_
 ·exact SJ.sr 4 <| J.u 0 ZcY .nil <| J.s 0 0 rfl ZcY (Upd.w ZbN) <| J.z 2 <| J.rc (.c 0 rfl ZcY .n)
 refine SJ.skip <| SJ.sr 9 <| J.C 1 F118 (Zjy _ _) fun r2 => J.z 7 <| SJ.seq <| SJ.sr 2 <| J.z 2 <| J.f ?_ ?_
 ·exact SJ.sr 6 <| J.u 0 ZcY .nil <| J.s 2 0 rfl ZcY (Upd.w ZbN) <| J.z 2 <| J.rc (.c 0 rfl ZcY .n)
 refine SJ.skip <| SJ.sr 8 <| J.C 1 F127 (ZkE _) fun r3 => J.a 3 Ty28 fun b4 => J.s 0 0 rfl Ty28 (Upd.w r3.1) <| J.z 1 <| SJ.sr 2 <| J.z 2 <| SJ.seq <| SJ.sr 2 <| J.z 2 <| J.f ?_ ?_
 ·exact SJ.rg 14 <| J.k 4 0 rfl Ty28 (At.whole _) <| J.C 0 F110 (ZiY _) fun r31 => J.C 0 F128 (ZjB _ _ _ _) fun r32 => J.z 7 <| J.q <| Zap.K3_ok a0 b1 r3 b4 r32.2.2 r32.1 r32.2.1
 exact SJ.skip <| J.q <| Zap.K3_ok a0 b1 r3 b4 r3.2 0 0

/-! ### weir/addr.ParseIP: function 117 -/
noncomputable def ZeB.out (r_ : (Zba × Int × Int)) : Value := .tuple #[ZaG.val r_.1, .int .i64 r_.2.1, .int .i64 r_.2.2]
noncomputable def ZeB (a0 : ByteArray) : M (Zba × Int × Int) :=
 slot 28 >>= fun b1 =>
 ZfM a0 >>= fun r2 =>
 slot 28 >>= fun b3 =>
 if ¬ (r2.2 = none) then
  draw >>= fun _ =>
  nilck r2.2 >>= fun p8 =>
  ld (cI .i64) p8 >>= fun x9 =>
  nilck r2.2 >>= fun p10 =>
  ld (cI .i64) (Addr.add p10 1) >>= fun x11 =>
  same (cI .i64) (Addr.add p10 1) x11 >>= fun _ =>
  same (cI .i64) p8 x9 >>= fun _ =>
  pure (Zci, x9, x11)
 else
  pure (r2.1, 0, 0)
theorem Zm5 (a0 : ByteArray) : Ref Tryz.prog 117 [.string a0] (ZeB a0) ZeB.out := by
 refine J.Fn Tryz.func117 ?_
 unfold ZeB
 refine SJ.sr 3 <| J.a 0 Ty28 fun b1 => J.z 2 <| SJ.sr 8 <| J.C 1 F127 (ZkE _) fun r2 => J.a 3 Ty28 fun b3 => J.s 0 0 rfl Ty28 (Upd.w r2.1) <| J.z 1 <| SJ.seq <| SJ.sr 2 <| J.z 2 <| J.f ?_ ?_
 ·exact SJ.seq <| J.R 12 Zcs <| J.u 0 Ty28 .nil <| J.n 1 fun p8 => J.l 1 Ty50 fun x9 => J.n 1 fun p10 => J.l 1 Ty3 fun x11 => OJ.kst (y := .tmp 2) (z := .tmp 14) (cd := ZaG) (u := Zci) (j := 1) (b := b1) (o := 0) (ZaG.enc Zci) (owed := [⟨8, 3, (Addr.add p10 1), (cI .i64).val x11⟩, ⟨4, 50, p8, (cI .i64).val x9⟩]) Ty28 rfl (Upd.whole ((Cod.len _ _).trans (Cod.len _ _).symm)) rfl <| OW.same Ty3 <| OW.same Ty50 <| OW.nil <| J.z 2 <| J.rc (.c 1 rfl Ty28 .n)
 exact SJ.skip <| SJ.sr 4 <| J.k 0 0 rfl Ty28 (At.whole _) <| J.s 0 1 rfl Ty28 (Upd.w r2.1) <| J.z 2 <| J.rc (.c 1 rfl Ty28 .n)

/-! ### (*weir/rules.reader).net: function 98 -/
noncomputable def Zaz.B : Code := bod Tryz.f98
noncomputable def Zaz.cx : Fx := ⟨Tryz.prog, 98, Tryz.f98, none⟩
noncomputable def Zaz.out (r_ : Zad) : Value := Zav.val r_
noncomputable def Zaz.K1 (a0 : (Option Addr)) (a1 : Int) (r2 : ZaD) (j10 : Int) (j11 : Zad) : M Zad :=
 draw >>= fun _ =>
 nilck a0 >>= fun p12 =>
 ld (cI .i64) (Addr.add p12 19) >>= fun x13 =>
 (if x13 = 0 then
   (if j10 ≠ 0 then
     pure true
    else
     pure (a1 == 16)) >>= fun y14 =>
   (if y14 = true then
     pure true
    else
     nilck a0 >>= fun p15 =>
     ld (cI .i64) (Addr.add (Addr.add p15 3) 2) >>= fun x16 =>
     Zd7 j11 x16 >>= fun r17 =>
     pure (!r17)) >>= fun y18 =>
   pure y18
  else
   pure false) >>= fun y19 =>
 if y19 = true then
  ZaS a0 163 r2.at_ >>= fun r21 =>
  pure j11
 else
  pure j11
theorem Zaz.K1_ok (a0 : (Option Addr)) (a1 : Int) (b1 : Nat) (r2 : ZaD) (b3 : Nat) (b5 : Nat) (j10 : Int) (j11 : Zad) :
  SJ Zaz.cx [.code (c2 (c2 (c2 (c2 Zaz.B))))] [(0, .pointer a0), (1, .int .i64 a1), (4, .pointer (some (pt b1 0))), (5, .pointer (some (pt b3 0))), (6, .pointer (some (pt b5 0))), (7, .int .i64 j10)] [(b5, Zav.enc j11), (b3, Zbw.enc r2), (b1, Zav.enc ZbN)] (Zaz.K1 a0 a1 r2 j10 j11) (rt Zaz.out) := by
 unfold Zaz.K1
 refine SJ.seq <| SJ.seq <| J.R 23 Zcs <| J.n 1 fun p12 => J.l 1 Ty50 fun x13 => J.g 2 <| OJ.join (b := (x13 == 0)) [6, 7, 8, 9, 10, 11, 12, 13, 14, 15, 16, 17, 18, 19, 20, 21, 22] [] [0, 4, 5, 6, 59] (fun y19 => [(0, .pointer a0), (4, .pointer (some (pt b1 0))), (5, .pointer (some (pt b3 0))), (6, .pointer (some (pt b5 0))), (59, .bool y19)]) [⟨3, 50, (Addr.add p12 19), (cI .i64).val x13⟩] [13, 18] (t := 42) beq_iff_eq (fun hp_ => ?_) (fun hp_ => ?_) (fun _ _ _ _ _ _ h_ => h_) fun y19 => ?_
 ·refine J.g 3 <| OJ.join (b := (j10 != 0)) [9, 10, 11] [12, 13, 14, 15, 16, 17, 18, 19, 20, 21, 22] [0, 4, 5, 6, 42, 48] (fun y14 => [(0, .pointer a0), (4, .pointer (some (pt b1 0))), (5, .pointer (some (pt b3 0))), (6, .pointer (some (pt b5 0))), (42, .bool true), (48, .bool y14)]) [⟨3, 50, (Addr.add p12 19), (cI .i64).val x13⟩] [] (t := 45) bne_iff_ne (fun hp_ => ?_) (fun hp_ => ?_) (fun _ _ _ _ _ hq_ h_ => ⟨fun e_ he_ => (hq_ e_ he_).elim (fun h => h_.1 e_ h) (fun h => nomatch h), h_.2⟩) fun y14 => ?_
  ·exact J.g 3 <| OJ.nil ⟨(Cov.mem (Cov.keep (List.mem_of_getElem? (i := 0) rfl) Cov.nil)), rfl, _, rfl, by kernel_rfl⟩
  ·exact J.g 3 <| OJ.nil ⟨(Cov.mem (Cov.keep (List.mem_of_getElem? (i := 0) rfl) Cov.nil)), rfl, _, rfl, by kernel_rfl⟩
  refine J.g 1 <| OJ.join (b := y14) [13, 14, 15, 16, 17, 18, 19, 20, 21] [22] [0, 4, 5, 6, 42, 58] (fun y18 => [(0, .pointer a0), (4, .pointer (some (pt b1 0))), (5, .pointer (some (pt b3 0))), (6, .pointer (some (pt b5 0))), (42, .bool true), (58, .bool y18)]) [⟨3, 50, (Addr.add p12 19), (cI .i64).val x13⟩] [13, 18] (t := 49) Iff.rfl (fun hp_ => ?_) (fun hp_ => ?_) (fun _ _ _ _ _ hq_ h_ => ⟨fun e_ he_ => by rcases hq_ e_ he_ with h | h; exact h_.1 e_ h; exact .inr ((by decide : ∀ i ∈ [13, 18], i ∈ [13, 18]) _ h), h_.2⟩) fun y18 => ?_
  ·exact J.g 9 <| OJ.nil ⟨(Cov.mem (Cov.keep (List.mem_of_getElem? (i := 0) rfl) Cov.nil)), rfl, _, rfl, by kernel_rfl⟩
  ·exact J.k 0 0 rfl ZcY (At.whole _) <| J.n 1 fun p15 => J.l 2 Ty3 fun x16 => J.C 0 F58 (Zif _ _) fun r17 => J.g 2 <| OJ.nil ⟨(Cov.mem (Cov.drop (List.mem_of_getElem? (i := 1) rfl) (Cov.drop (List.mem_of_getElem? (i := 0) rfl) (Cov.keep (List.mem_of_getElem? (i := 0) rfl) Cov.nil)))), rfl, _, rfl, by kernel_rfl⟩
  exact J.g 1 <| OJ.nil ⟨(Cov.mem (Cov.keep (List.mem_of_getElem? (i := 0) rfl) Cov.nil)), rfl, _, rfl, by kernel_rfl⟩
 ·exact J.g 17 <| OJ.nil ⟨(Cov.mem (Cov.keep (List.mem_of_getElem? (i := 0) rfl) Cov.nil)), rfl, _, rfl, by kernel_rfl⟩
 refine J.z 0 <| J.f ?_ ?_
 ·exact SJ.rg 4 <| J.k 2 1 rfl Ty3 (ZbR _) <| J.C 0 F41 (Zbo _ _ _) fun r21 => J.z 0 <| SJ.sr 2 <| J.k 0 0 rfl ZcY (At.whole _) <| J.s 0 2 rfl ZcY (Upd.w j11) <| J.z 0 <| J.rc (.c 2 rfl ZcY .n)
 exact SJ.skip <| SJ.sr 2 <| J.k 0 0 rfl ZcY (At.whole _) <| J.s 0 2 rfl ZcY (Upd.w j11) <| J.z 0 <| J.rc (.c 2 rfl ZcY .n)
noncomputable def Zaz.K2 (a0 : (Option Addr)) (a1 : Int) (r2 : ZaD) (r23 : (Zba × Int × Int)) (j25 : Zad) : M Zad :=
 Zaz.K1 a0 a1 r2 r23.2.1 j25
theorem Zaz.K2_ok (a0 : (Option Addr)) (a1 : Int) (b1 : Nat) (r2 : ZaD) (b3 : Nat) (b5 : Nat) (r23 : (Zba × Int × Int)) (j25 : Zad) :
  SJ Zaz.cx [.code (c2 (c2 (c2 (c2 Zaz.B))))] [(0, .pointer a0), (1, .int .i64 a1), (4, .pointer (some (pt b1 0))), (5, .pointer (some (pt b3 0))), (6, .pointer (some (pt b5 0))), (7, .int .i64 r23.2.1)] [(b5, Zav.enc j25), (b3, Zbw.enc r2), (b1, Zav.enc ZbN)] (Zaz.K2 a0 a1 r2 r23 j25) (rt Zaz.out) := by
 unfold Zaz.K2
 exact J.q <| Zaz.K1_ok a0 a1 b1 r2 b3 b5 r23.2.1 j25
noncomputable def Zaz (a0 : (Option Addr)) (a1 : Int) : M Zad :=
 slot 111 >>= fun b1 =>
 Zb9 a0 >>= fun r2 =>
 slot 122 >>= fun b3 =>
 Zap r2.s >>= fun r4 =>
 slot 111 >>= fun b5 =>
 if r4.2.1 ≠ 0 then
  ZeB r2.s >>= fun r23 =>
  slot 28 >>= fun b24 =>
  if r23.1.V = 6 then
   Zaz.K2 a0 a1 r2 r23 (⟨r23.1, 128⟩ : Zad)
  else
   Zaz.K2 a0 a1 r2 r23 (⟨r23.1, 32⟩ : Zad)
 else
  Zaz.K1 a0 a1 r2 r4.2.1 r4.1
theorem ZjV (a0 : (Option Addr)) (a1 : Int) : Ref Tryz.prog 98 [.pointer a0, .int .i64 a1] (Zaz a0 a1) Zaz.out := by
 refine J.Fn Tryz.func98 ?_
 unfold Zaz
 refine SJ.sr 1 <| J.a 0 ZcY fun b1 => J.z 0 <| SJ.sr 4 <| J.C 1 F94 (ZdG _) fun r2 => J.a 0 Zey fun b3 => J.s 0 0 rfl Zey (Upd.w r2) <| J.z 0 <| SJ.sr 11 <| J.k 1 0 rfl Ty9 (Zbt _) <| J.C 0 F116 (Zj6 _) fun r4 => J.a 4 ZcY fun b5 => J.s 0 0 rfl ZcY (Upd.w r4.1) <| J.z 2 <| SJ.seq <| SJ.sr 2 <| J.z 2 <| J.f ?_ ?_
 ·refine SJ.sr 11 <| J.k 1 1 rfl Ty9 (Zbt _) <| J.C 0 F117 (Zm5 _) fun r23 => J.a 4 Ty28 fun b24 => J.s 0 0 rfl Ty28 (Upd.w r23.1) <| J.z 2 <| SJ.sr 5 <| J.k 0 0 rfl Ty28 (At.whole _) <| J.u 0 ZcY (.f 0 (Zgz _ r23.1) (.f 1 (Zfq _ 32) .nil)) <| J.s 1 1 rfl ZcY (Upd.w (⟨r23.1, 32⟩ : Zad)) <| J.z 1 <| SJ.sr 3 <| J.k 1 0 rfl Ty3 (ZcP _) <| J.z 1 <| J.f ?_ ?_
  ·exact SJ.rg 2 <| J.s 1 1 rfl Ty3 (Zfq _ 128) <| J.z 0 <| SJ.forget (List.Sublist.cons _ (List.Sublist.cons_cons _ (List.Sublist.cons_cons _ (List.Sublist.cons_cons _ List.Sublist.slnil)))) <| J.q <| Zaz.K2_ok a0 a1 b1 r2 b3 b5 r23 (⟨r23.1, 128⟩ : Zad)
  exact SJ.skip <| SJ.forget (List.Sublist.cons _ (List.Sublist.cons_cons _ (List.Sublist.cons_cons _ (List.Sublist.cons_cons _ List.Sublist.slnil)))) <| J.q <| Zaz.K2_ok a0 a1 b1 r2 b3 b5 r23 (⟨r23.1, 32⟩ : Zad)
 exact SJ.skip <| J.q <| Zaz.K1_ok a0 a1 b1 r2 b3 b5 r4.2.1 r4.1

/-! ### (*weir/rules.reader).ports: function 99 -/
noncomputable def ZaP.B : Code := bod Tryz.f99
noncomputable def ZaP.cx : Fx := ⟨Tryz.prog, 99, Tryz.f99, none⟩
noncomputable def ZaP.out (r_ : ZaE) : Value := Za5.val r_
noncomputable def ZaP.K1 (a0 : (Option Addr)) (a1 : Int) (r2 : ZaD) (r4 : (ByteArray × ByteArray × Bool)) (j5 : ByteArray) : M ZaE :=
 Zbj r4.1 0 65535 >>= fun r6 =>
 Zbj j5 0 65535 >>= fun r7 =>
 nilck a0 >>= fun p8 =>
 ld (cI .i64) (Addr.add p8 19) >>= fun x9 =>
 (if x9 = 0 then
   (if ¬ (r6.2 = true) then
     pure true
    else
     pure (!r7.2)) >>= fun y10 =>
   (if y10 = true then
     pure true
    else
     pure (decide (r6.1 > r7.1))) >>= fun y11 =>
   (if y11 = true then
     pure true
    else
     pure (a1 == 16)) >>= fun y12 =>
   pure y12
  else
   pure false) >>= fun y13 =>
 if y13 = true then
  ZaS a0 164 r2.at_ >>= fun r15 =>
  pure (⟨r6.1, r7.1⟩ : ZaE)
 else
  pure (⟨r6.1, r7.1⟩ : ZaE)
theorem ZaP.K1_ok (a0 : (Option Addr)) (a1 : Int) (b1 : Nat) (r2 : ZaD) (b3 : Nat) (r4 : (ByteArray × ByteArray × Bool)) (j5 : ByteArray) :
  SJ ZaP.cx [.code (c2 (c2 (c2 (c2 ZaP.B))))] [(0, .pointer a0), (1, .int .i64 a1), (4, .pointer (some (pt b1 0))), (5, .pointer (some (pt b3 0))), (6, .string r4.1), (7, .string j5)] [(b3, Zbw.enc r2), (b1, Za5.enc Zgd)] (ZaP.K1 a0 a1 r2 r4 j5) (rt ZaP.out) := by
 unfold ZaP.K1
 refine SJ.sr 7 <| J.C 1 F95 (ZfV _ _ _) fun r6 => J.z 5 <| SJ.sr 7 <| J.C 1 F95 (ZfV _ _ _) fun r7 => J.z 5 <| SJ.seq <| SJ.sr 22 <| J.n 1 fun p8 => J.l 1 Ty50 fun x9 => J.g 2 <| OJ.join (b := (x9 == 0)) [6, 7, 8, 9, 10, 11, 12, 13, 14, 15, 16, 17, 18, 19, 20, 21] [] [0, 4, 5, 9, 11, 56] (fun y13 => [(0, .pointer a0), (4, .pointer (some (pt b1 0))), (5, .pointer (some (pt b3 0))), (9, .int .i64 r6.1), (11, .int .i64 r7.1), (56, .bool y13)]) [] [] (t := 40) beq_iff_eq (fun hp_ => ?_) (fun hp_ => ?_) (fun _ _ _ _ _ _ h_ => h_) fun y13 => ?_
 ·refine J.g 3 <| OJ.join (b := (!r6.2)) [9, 10, 11] [12, 13, 14, 15, 16, 17, 18, 19, 20, 21] [0, 1, 4, 5, 9, 11, 40, 46] (fun y10 => [(0, .pointer a0), (1, .int .i64 a1), (4, .pointer (some (pt b1 0))), (5, .pointer (some (pt b3 0))), (9, .int .i64 r6.1), (11, .int .i64 r7.1), (40, .bool true), (46, .bool y10)]) [] [] (t := 43) (Zoy Iff.rfl) (fun hp_ => ?_) (fun hp_ => ?_) (fun _ _ _ _ _ hq_ h_ => ⟨fun e_ he_ => (hq_ e_ he_).elim (fun h => h_.1 e_ h) (fun h => nomatch h), h_.2⟩) fun y10 => ?_
  ·exact J.g 3 <| OJ.nil ⟨(Cov.mem Cov.nil), rfl, _, rfl, by kernel_rfl⟩
  ·exact J.g 3 <| OJ.nil ⟨(Cov.mem Cov.nil), rfl, _, rfl, by kernel_rfl⟩
  refine J.g 1 <| OJ.join (b := y10) [13, 14, 15, 16] [17, 18, 19, 20, 21] [0, 1, 4, 5, 9, 11, 40, 51] (fun y11 => [(0, .pointer a0), (1, .int .i64 a1), (4, .pointer (some (pt b1 0))), (5, .pointer (some (pt b3 0))), (9, .int .i64 r6.1), (11, .int .i64 r7.1), (40, .bool true), (51, .bool y11)]) [] [] (t := 47) Iff.rfl (fun hp_ => ?_) (fun hp_ => ?_) (fun _ _ _ _ _ hq_ h_ => ⟨fun e_ he_ => (hq_ e_ he_).elim (fun h => h_.1 e_ h) (fun h => nomatch h), h_.2⟩) fun y11 => ?_
  ·exact J.g 4 <| OJ.nil ⟨(Cov.mem Cov.nil), rfl, _, rfl, by kernel_rfl⟩
  ·exact J.g 4 <| OJ.nil ⟨(Cov.mem Cov.nil), rfl, _, rfl, by kernel_rfl⟩
  refine J.g 1 <| OJ.join (b := y11) [18, 19, 20] [21] [0, 4, 5, 9, 11, 40, 55] (fun y12 => [(0, .pointer a0), (4, .pointer (some (pt b1 0))), (5, .pointer (some (pt b3 0))), (9, .int .i64 r6.1), (11, .int .i64 r7.1), (40, .bool true), (55, .bool y12)]) [] [] (t := 52) Iff.rfl (fun hp_ => ?_) (fun hp_ => ?_) (fun _ _ _ _ _ hq_ h_ => ⟨fun e_ he_ => (hq_ e_ he_).elim (fun h => h_.1 e_ h) (fun h => nomatch h), h_.2⟩) fun y12 => ?_
  ·exact J.g 3 <| OJ.nil ⟨(Cov.mem Cov.nil), rfl, _, rfl, by kernel_rfl⟩
  ·exact J.g 3 <| OJ.nil ⟨(Cov.mem Cov.nil), rfl, _, rfl, by kernel_rfl⟩
  exact J.g 1 <| OJ.nil ⟨(Cov.mem Cov.nil), rfl, _, rfl, by kernel_rfl⟩
 ·exact J.g 16 <| OJ.nil ⟨(Cov.mem Cov.nil), rfl, _, rfl, by kernel_rfl⟩
 refine J.z 0 <| J.f ?_ ?_
 ·exact SJ.rg 4 <| J.k 2 0 rfl Ty3 (ZbR _) <| J.C 0 F41 (Zbo _ _ _) fun r15 => J.z 0 <| SJ.sr 4 <| J.u 2 ZgA (.f 0 (Zf2 _ r6.1) (.f 1 (Zf3 _ r7.1) .nil)) <| J.s 0 1 rfl ZgA (Upd.w (⟨r6.1, r7.1⟩ : ZaE)) <| J.z 0 <| J.rc (.c 1 rfl ZgA .n)
 exact SJ.skip <| SJ.sr 4 <| J.u 2 ZgA (.f 0 (Zf2 _ r6.1) (.f 1 (Zf3 _ r7.1) .nil)) <| J.s 0 1 rfl ZgA (Upd.w (⟨r6.1, r7.1⟩ : ZaE)) <| J.z 0 <| J.rc (.c 1 rfl ZgA .n)
noncomputable def ZaP (a0 : (Option Addr)) (a1 : Int) : M ZaE :=
 slot 113 >>= fun b1 =>
 Zb9 a0 >>= fun r2 =>
 slot 122 >>= fun b3 =>
 ZdS r2.s Zvf >>= fun r4 =>
 if ¬ (r4.2.2 = true) then
  ZaP.K1 a0 a1 r2 r4 r4.1
 else
  ZaP.K1 a0 a1 r2 r4 r4.2.1
theorem ZiD (a0 : (Option Addr)) (a1 : Int) : Ref Tryz.prog 99 [.pointer a0, .int .i64 a1] (ZaP a0 a1) ZaP.out := by
 refine J.Fn Tryz.func99 ?_
 unfold ZaP
 refine SJ.sr 1 <| J.a 0 ZgA fun b1 => J.z 0 <| SJ.sr 4 <| J.C 1 F94 (ZdG _) fun r2 => J.a 0 Zey fun b3 => J.s 0 0 rfl Zey (Upd.w r2) <| J.z 0 <| SJ.sr 10 <| J.k 1 0 rfl Ty9 (Zbt _) <| J.C 0 F118 (Zjy _ _) fun r4 => J.z 7 <| SJ.seq <| SJ.sr 2 <| J.z 2 <| J.f ?_ ?_
 ·exact SJ.rg 2 <| J.z 2 <| J.q <| ZaP.K1_ok a0 a1 b1 r2 b3 r4 r4.1
 exact SJ.skip <| J.q <| ZaP.K1_ok a0 a1 b1 r2 b3 r4 r4.2.1

/-! ### (*weir/rules.reader).side: function 70 -/
noncomputable def Zab.B : Code := bod Tryz.f70
noncomputable def Zab.cx : Fx := ⟨Tryz.prog, 70, Tryz.f70, none⟩
noncomputable def Zab.out (r_ : Zaf) : Value := ZaA.val r_
noncomputable def Zab.F1 (a0 : (Option Addr)) (b1 : Nat) (b2 : Nat) : LF (Bool × Zaf) Zaf := ⟨[.inBlock 2, .code (c2 (c2 (c2 (c2 (c2 (c2 Zab.B))))))], c1 (c2 (c1 (c2 (c2 (c2 (c2 (c2 Zab.B))))))), fun s_ => [(0, .pointer a0), (2, .pointer (some (pt b1 0))), (3, .pointer (some (pt b2 0))), (5, .bool s_.1)], fun s_ => [(b2, ZaA.enc s_.2), (b1, ZaA.enc Za3)], (rt Zab.out)⟩
noncomputable def Zab.L1 (a0 : (Option Addr)) (s35 : Bool) (s36 : Zaf) : M (LS (Bool × Zaf) Zaf) :=
 (if s35 = true then
   nilck a0 >>= fun p45 =>
   ld (cI .i64) (Addr.add p45 19) >>= fun x46 =>
   pure (x46 == 0)
  else
   pure false) >>= fun y47 =>
 if y47 = true then
  draw >>= fun _ =>
  ZaP a0 (s36.Ports.len : Int) >>= fun r48 =>
  slot 113 >>= fun b49 =>
  appl Za5 113 16 Zgd s36.Ports [r48] >>= fun r50 =>
  Zbr a0 str1 >>= fun r51 =>
  pure (LS.next (r51, (⟨s36.Not, s36.Nets, r50⟩ : Zaf)))
 else
  pure (LS.done s36)
theorem Zab.L1_ok (a0 : (Option Addr)) (b1 : Nat) (b2 : Nat) : LJ Zab.cx (Zab.F1 a0 b1 b2) (fun s_ => Zab.L1 a0 s_.1 s_.2) := by
 rintro ⟨s35, s36⟩
 show SJ _ _ _ _ (Zab.L1 a0 s35 s36) _
 unfold Zab.L1
 refine SJ.seq <| SJ.sr 8 <| J.j 2 5 .bool ?_ ?_ fun y47 => ?_
 ·exact J.n 1 fun p45 => J.l 1 Ty50 fun x46 => J.e 2
 ·exact J.e 6
 refine J.z 0 <| J.f ?_ ?_
 ·exact SJ.skip <| SJ.seq <| SJ.block (id := 3) <| J.R 11 Zcs <| J.k 1 0 rfl Ty72 (ZaQ _) <| J.k 2 0 rfl Ty72 (ZaQ _) <| J.g 1 <| OJ.call (d := 73) (g := 99) (ats := #[117, 3]) (args := [.tmp 69, .tmp 72]) (owed := [⟨1, 72, (pt b2 2), cL.val s36.Ports⟩]) F99 (ZiD a0 (s36.Ports.len : Int)) fun r48 => OW.known (j := 0) (q := s36.Ports) Ty72 rfl (ZaQ s36) <| OW.nil <| OJ.rowSlot (d := 74) (t := 72) (parts := [(0, .tmp 73)]) (ps := [(0, Za5.val r48)]) (cd := Za5) (⟨[r48], rfl⟩ : Vec ZaE 1) (owed := [⟨1, 72, (pt b2 2), cL.val s36.Ports⟩]) ZgA (Zct.cons (cd := Za5) (q := r48) (o := 0) rfl (Upd.arr (i := 0) (by decide) (by decide)) Zct.nil) fun b49 => OW.known (j := 1) (q := s36.Ports) Ty72 rfl (ZaQ s36) <| OW.nil <| J.p 0 0 rfl ZgA fun r50 => J.s 1 1 rfl Ty72 (Zes _ r50) <| J.z 0 <| SJ.inBlock <| SJ.rg 3 <| J.C 1 F65 (ZcF _ _) fun r51 => J.z 1 <| SJ.forget (List.Sublist.cons _ (List.Sublist.cons_cons _ (List.Sublist.cons_cons _ List.Sublist.slnil))) <| J.o rfl
 exact SJ.exit (id := 2) (by rfl) <| SJ.sr 2 <| J.k 0 0 rfl Ty74 (At.whole _) <| J.s 0 1 rfl Ty74 (Upd.w s36) <| J.z 0 <| J.rc (.c 1 rfl Ty74 .n)
noncomputable def Zab.K1 (a0 : (Option Addr)) (j23 : Zaf) : M Zaf :=
 ZcI (fun s_ : (Bool × Zaf) => Zab.L1 a0 s_.1 s_.2) (true, j23)
theorem Zab.K1_ok (a0 : (Option Addr)) (b1 : Nat) (b2 : Nat) (j23 : Zaf) :
  SJ Zab.cx [.code (c2 (c2 (c2 (c2 (c2 Zab.B)))))] [(0, .pointer a0), (2, .pointer (some (pt b1 0))), (3, .pointer (some (pt b2 0)))] [(b2, ZaA.enc j23), (b1, ZaA.enc Za3)] (Zab.K1 a0 j23) (rt Zab.out) := by
 unfold Zab.K1
 exact SJ.seq <| SJ.sr 1 <| J.z 1 <| SJ.block (id := 2) <| J.L (Zab.L1_ok a0 b1 b2)
noncomputable def Zab.K2 (a0 : (Option Addr)) (j23 : Zaf) : M Zaf :=
 Zbr a0 Zv9 >>= fun r24 =>
 if ¬ (r24 = true) then
  pure j23
 else
  nilck a0 >>= fun p25 =>
  ld (cI .i64) (Addr.add (Addr.add p25 3) 3) >>= fun x26 =>
  ZeA x26 >>= fun r27 =>
  if ¬ (r27 = true) then
   draw >>= fun _ =>
   nilck a0 >>= fun p53 =>
   ld cL p53 >>= fun x54 =>
   nilck a0 >>= fun p55 =>
   ld (cI .i64) (Addr.add p55 1) >>= fun x56 =>
   idx x54.a x54.len (IntKind.wrap .i64 (x56 - 1)) 2 >>= fun p57 =>
   ld (cI .i64) (Addr.add p57 1) >>= fun x58 =>
   ZaS a0 165 x58 >>= fun r59 =>
   Zab.K1 a0 j23
  else
   Zab.K1 a0 j23
theorem Zab.K2_ok (a0 : (Option Addr)) (b1 : Nat) (b2 : Nat) (j23 : Zaf) :
  SJ Zab.cx [.code (c2 (c2 (c2 Zab.B)))] [(0, .pointer a0), (2, .pointer (some (pt b1 0))), (3, .pointer (some (pt b2 0)))] [(b2, ZaA.enc j23), (b1, ZaA.enc Za3)] (Zab.K2 a0 j23) (rt Zab.out) := by
 unfold Zab.K2
 refine SJ.seq <| SJ.sr 3 <| J.C 1 F65 (ZcF _ _) fun r24 => J.z 1 <| J.f ?_ ?_
 ·exact SJ.sr 2 <| J.k 0 0 rfl Ty74 (At.whole _) <| J.s 0 1 rfl Ty74 (Upd.w j23) <| J.z 0 <| J.rc (.c 1 rfl Ty74 .n)
 refine SJ.skip <| SJ.seq <| SJ.sr 7 <| J.n 1 fun p25 => J.l 2 Ty3 fun x26 => J.C 0 F59 (ZiF _) fun r27 => J.z 1 <| J.f ?_ ?_
 ·exact J.R 14 Zcs <| J.n 2 fun p53 => J.l 1 Zqp fun x54 => J.n 1 fun p55 => J.l 1 Ty3 fun x56 => J.i 1 fun p57 => J.l 1 Ty3 fun x58 => J.C 0 F41 (Zbo _ _ _) fun r59 => J.z 0 <| J.q <| Zab.K1_ok a0 b1 b2 j23
 exact SJ.skip <| J.q <| Zab.K1_ok a0 b1 b2 j23
noncomputable def Zab.K3 (a0 : (Option Addr)) (s64 : Zaf) : M Zaf :=
 Zab.K2 a0 s64
theorem Zab.K3_ok (a0 : (Option Addr)) (b1 : Nat) (b2 : Nat) (s64 : Zaf) :
  SJ Zab.cx [.code (c2 (c2 (c2 Zab.B)))] [(0, .pointer a0), (2, .pointer (some (pt b1 0))), (3, .pointer (some (pt b2 0)))] [(b2, ZaA.enc s64), (b1, ZaA.enc Za3)] (Zab.K3 a0 s64) (rt Zab.out) := by
 unfold Zab.K3
 exact J.q <| Zab.K2_ok a0 b1 b2 s64
noncomputable def Zab.F2 (a0 : (Option Addr)) (b1 : Nat) (b2 : Nat) : LF (Bool × Zaf) Zaf := ⟨[.inBlock 0, .code (c2 (c2 (c2 Zab.B)))], c1 (c2 (c2 (c1 (c2 (c1 (c2 (c2 Zab.B))))))), fun s_ => [(0, .pointer a0), (2, .pointer (some (pt b1 0))), (3, .pointer (some (pt b2 0))), (4, .bool s_.1)], fun s_ => [(b2, ZaA.enc s_.2), (b1, ZaA.enc Za3)], (rt Zab.out)⟩
noncomputable def Zab.L2 (a0 : (Option Addr)) (s63 : Bool) (s64 : Zaf) : M (LS (Bool × Zaf) Zaf) :=
 (if s63 = true then
   nilck a0 >>= fun p73 =>
   ld (cI .i64) (Addr.add p73 19) >>= fun x74 =>
   pure (x74 == 0)
  else
   pure false) >>= fun y75 =>
 if y75 = true then
  draw >>= fun _ =>
  Zaz a0 (s64.Nets.len : Int) >>= fun r76 =>
  slot 111 >>= fun b77 =>
  appl Zav 111 32 ZbN s64.Nets [r76] >>= fun r78 =>
  Zbr a0 str1 >>= fun r79 =>
  pure (LS.next (r79, (⟨s64.Not, r78, s64.Ports⟩ : Zaf)))
 else
  (Zab.K3 a0 s64) >>= fun b => pure (LS.done b)
theorem Zab.L2_ok (a0 : (Option Addr)) (b1 : Nat) (b2 : Nat) : LJ Zab.cx (Zab.F2 a0 b1 b2) (fun s_ => Zab.L2 a0 s_.1 s_.2) := by
 rintro ⟨s63, s64⟩
 show SJ _ _ _ _ (Zab.L2 a0 s63 s64) _
 unfold Zab.L2
 refine SJ.seq <| SJ.sr 8 <| J.j 2 5 .bool ?_ ?_ fun y75 => ?_
 ·exact J.n 1 fun p73 => J.l 1 Ty50 fun x74 => J.e 2
 ·exact J.e 6
 refine J.z 0 <| J.f ?_ ?_
 ·exact SJ.skip <| SJ.seq <| SJ.block (id := 1) <| J.R 11 Zcs <| J.k 1 0 rfl Ty71 (Zaw _) <| J.k 2 0 rfl Ty71 (Zaw _) <| J.g 1 <| OJ.call (d := 28) (g := 98) (ats := #[117, 3]) (args := [.tmp 24, .tmp 27]) (owed := [⟨1, 71, (pt b2 1), cL.val s64.Nets⟩]) F98 (ZjV a0 (s64.Nets.len : Int)) fun r76 => OW.known (j := 0) (q := s64.Nets) Ty71 rfl (Zaw s64) <| OW.nil <| OJ.rowSlot (d := 29) (t := 71) (parts := [(0, .tmp 28)]) (ps := [(0, Zav.val r76)]) (cd := Zav) (⟨[r76], rfl⟩ : Vec Zad 1) (owed := [⟨1, 71, (pt b2 1), cL.val s64.Nets⟩]) ZcY (Zct.cons (cd := Zav) (q := r76) (o := 0) rfl (Upd.arr (i := 0) (by decide) (by decide)) Zct.nil) fun b77 => OW.known (j := 1) (q := s64.Nets) Ty71 rfl (Zaw s64) <| OW.nil <| J.p 0 0 rfl ZcY fun r78 => J.s 1 1 rfl Ty71 (ZeS _ r78) <| J.z 0 <| SJ.inBlock <| SJ.rg 3 <| J.C 1 F65 (ZcF _ _) fun r79 => J.z 1 <| SJ.forget (List.Sublist.cons _ (List.Sublist.cons_cons _ (List.Sublist.cons_cons _ List.Sublist.slnil))) <| J.o rfl
 exact SJ.exit (id := 0) (by rfl) <| J.q <| SJ.done <| Zab.K3_ok a0 b1 b2 s64
noncomputable def Zab (a0 : (Option Addr)) : M Zaf :=
 slot 74 >>= fun b1 =>
 slot 74 >>= fun b2 =>
 Zbr a0 str8 >>= fun r3 =>
 if ¬ (r3 = true) then
  Zbr a0 Zwa >>= fun r62 =>
  ZcI (fun s_ : (Bool × Zaf) => Zab.L2 a0 s_.1 s_.2) (true, (⟨r62, Za3.Nets, Za3.Ports⟩ : Zaf))
 else
  Zab.K2 a0 Za3
theorem ZgG (a0 : (Option Addr)) : Ref Tryz.prog 70 [.pointer a0] (Zab a0) Zab.out := by
 refine J.Fn Tryz.func70 ?_
 unfold Zab
 refine SJ.sr 1 <| J.a 0 Ty74 fun b1 => J.z 0 <| SJ.sr 1 <| J.a 0 Ty74 fun b2 => J.z 0 <| SJ.seq <| SJ.sr 3 <| J.C 1 F65 (ZcF _ _) fun r3 => J.z 1 <| J.f ?_ ?_
 ·exact SJ.sr 4 <| J.C 1 F65 (ZcF _ _) fun r62 => J.s 1 0 rfl Ty4 (Zm9 _ r62) <| J.z 0 <| SJ.sr 1 <| J.z 1 <| SJ.block (id := 0) <| J.L (Zab.L2_ok a0 b1 b2)
 exact SJ.skip <| J.q <| Zab.K2_ok a0 b1 b2 Za3

/-! ### (*weir/rules.reader).flags: function 71 -/
noncomputable def Zan.B : Code := bod Tryz.f71
noncomputable def Zan.cx : Fx := ⟨Tryz.prog, 71, Tryz.f71, none⟩
noncomputable def Zan.out (r_ : Unit) : Value := .tuple #[]
noncomputable def Zan.F1 (a0 : (Option Addr)) : LF Bool Unit := ⟨[.inBlock 0], c1 (c2 Zan.B), fun s_ => [(0, .pointer a0), (2, .bool s_)], fun s_ => [], (rt Zan.out)⟩
noncomputable def Zan.K1 (a0 : (Option Addr)) : M (LS Bool Unit) :=
 Zbr a0 str1 >>= fun r99 =>
 pure (LS.next r99)
theorem Zan.K1_ok (a0 : (Option Addr)) :
  SJ Zan.cx [.inBlock 2, .inBlock 1, .code (c2 (c2 (c1 (c1 (c2 Zan.B))))), .inLoop (c1 (c1 (c2 Zan.B))), .inBlock 0] [(0, .pointer a0)] [] (Zan.K1 a0) (Zan.F1 a0).f := by
 unfold Zan.K1
 exact SJ.inBlock <| SJ.inBlock <| SJ.rg 3 <| J.C 1 F65 (ZcF _ _) fun r99 => J.z 1 <| J.o rfl
noncomputable def Zan.L1 (a0 : (Option Addr)) (s1 : Bool) : M (LS Bool Unit) :=
 (if s1 = true then
   nilck a0 >>= fun p2 =>
   ld (cI .i64) (Addr.add p2 19) >>= fun x3 =>
   pure (x3 == 0)
  else
   pure false) >>= fun y4 =>
 if y4 = true then
  Zb9 a0 >>= fun r5 =>
  slot 122 >>= fun b6 =>
  Zcv r5.s Zv8 >>= fun r7 =>
  ld cL ⟨2, 0, none⟩ >>= fun x8 =>
  Zaq x8 r7.1 >>= fun r9 =>
  nilck a0 >>= fun p10 =>
  ld (cI .i64) (Addr.add p10 19) >>= fun x11 =>
  if x11 ≠ 0 then
   Zan.K1 a0
  else
   if r9 < 0 then
    ZaS a0 160 r5.at_ >>= fun r143 =>
    Zan.K1 a0
   else
    draw >>= fun _ =>
    nilck a0 >>= fun p144 =>
    ld (cI .i64) (Addr.add (Addr.add p144 3) 12) >>= fun x145 =>
    nilck a0 >>= fun p146 =>
    ld (cI .i64) (Addr.add (Addr.add p146 3) 13) >>= fun x147 =>
    chk (0 ≤ (IntKind.wrap .u64 r9)) >>= fun _ =>
    if (band .i64 (Int.fdiv (bor .i64 x145 x147) (2 ^ min (Int.toNat (IntKind.wrap .u64 r9)) 64)) 1) = 1 then
     ZaS a0 165 r5.at_ >>= fun r166 =>
     Zan.K1 a0
    else
     if r7.2 = true then
      nilck a0 >>= fun p175 =>
      ld (cI .i64) (Addr.add (Addr.add p175 3) 13) >>= fun x176 =>
      chk (0 ≤ (IntKind.wrap .u64 r9)) >>= fun _ =>
      nilck a0 >>= fun p177 =>
      st (cI .i64) (Addr.add (Addr.add p177 3) 13) (bor .i64 x176 (IntKind.wrap .i64 (1 * 2 ^ min (Int.toNat (IntKind.wrap .u64 r9)) 64))) >>= fun _ =>
      Zan.K1 a0
     else
      nilck a0 >>= fun p179 =>
      ld (cI .i64) (Addr.add (Addr.add p179 3) 12) >>= fun x180 =>
      chk (0 ≤ (IntKind.wrap .u64 r9)) >>= fun _ =>
      nilck a0 >>= fun p181 =>
      st (cI .i64) (Addr.add (Addr.add p181 3) 12) (bor .i64 x180 (IntKind.wrap .i64 (1 * 2 ^ min (Int.toNat (IntKind.wrap .u64 r9)) 64))) >>= fun _ =>
      Zan.K1 a0
 else
  pure (LS.done ())
theorem Zan.L1_ok (a0 : (Option Addr)) : LJ Zan.cx (Zan.F1 a0) (fun s_ => Zan.L1 a0 s_) := by
 rintro s1
 show SJ _ _ _ _ (Zan.L1 a0 s1) _
 unfold Zan.L1
 refine SJ.seq <| SJ.sr 8 <| J.j 2 5 .bool ?_ ?_ fun y4 => ?_
 ·exact J.n 1 fun p2 => J.l 1 Ty50 fun x3 => J.e 2
 ·exact J.e 6
 refine J.z 0 <| J.f ?_ ?_
 ·refine SJ.skip <| SJ.seq <| SJ.block (id := 1) <| SJ.sr 4 <| J.C 1 F94 (ZdG _) fun r5 => J.a 0 Zey fun b6 => J.s 0 0 rfl Zey (Upd.w r5) <| J.z 0 <| SJ.sr 8 <| J.k 1 0 rfl Ty9 (Zbt _) <| J.C 0 F97 (ZgF _ _) fun r7 => J.z 5 <| SJ.sr 4 <| J.l 0 Ztx fun x8 => J.C 1 F64 (Zdz _ _) fun r9 => J.z 1 <| SJ.block (id := 2) <| SJ.sr 6 <| J.n 1 fun p10 => J.l 1 Ty50 fun x11 => J.z 2 <| J.f ?_ ?_
  ·exact SJ.skip <| SJ.forget (List.Sublist.cons _ List.Sublist.slnil) <| J.q <| Zan.K1_ok a0
  refine SJ.sr 3 <| J.z 3 <| J.f ?_ ?_
  ·exact SJ.rg 4 <| J.k 2 0 rfl Ty3 (ZbR _) <| J.C 0 F41 (Zbo _ _ _) fun r143 => J.z 0 <| SJ.forget (List.Sublist.cons _ List.Sublist.slnil) <| J.q <| Zan.K1_ok a0
  refine SJ.seq <| J.R 17 Zcs <| J.n 1 fun p144 => J.l 2 Ty3 fun x145 => J.n 1 fun p146 => J.l 2 Ty3 fun x147 => J.g 3 <| OJ.shr (d := 67) (T := 3) (yT := 164) (y := .tmp 64) (z := .tmp 66) (k := .i64) (yk := .u64) (p := (bor .i64 x145 x147)) (q := (IntKind.wrap .u64 r9)) fun hq185 => J.z 3 <| J.f ?_ ?_
  ·exact SJ.rg 4 <| J.k 2 0 rfl Ty3 (ZbR _) <| J.C 0 F41 (Zbo _ _ _) fun r166 => J.z 0 <| SJ.forget (List.Sublist.cons _ List.Sublist.slnil) <| J.q <| Zan.K1_ok a0
  refine SJ.sr 2 <| J.z 2 <| J.f ?_ ?_
  ·exact SJ.rg 13 <| J.n 1 fun p175 => J.l 2 Ty3 fun x176 => J.g 2 <| OJ.shl (d := 83) (T := 3) (yT := 164) (y := .const (.int .i64 1)) (z := .tmp 82) (k := .i64) (yk := .u64) (p := 1) (q := (IntKind.wrap .u64 r9)) fun hq178 => J.n 1 fun p177 => J.w 2 Ty3 <| J.z 0 <| SJ.forget (List.Sublist.cons _ List.Sublist.slnil) <| J.q <| Zan.K1_ok a0
  exact SJ.rg 13 <| J.n 1 fun p179 => J.l 2 Ty3 fun x180 => J.g 2 <| OJ.shl (d := 35) (T := 3) (yT := 164) (y := .const (.int .i64 1)) (z := .tmp 34) (k := .i64) (yk := .u64) (p := 1) (q := (IntKind.wrap .u64 r9)) fun hq182 => J.n 1 fun p181 => J.w 2 Ty3 <| J.z 0 <| SJ.forget (List.Sublist.cons _ List.Sublist.slnil) <| J.q <| Zan.K1_ok a0
 exact SJ.exit (id := 0) (by rfl) <| SJ.end_ rfl (Res.run (ys := []) .nil rfl)
noncomputable def Zan (a0 : (Option Addr)) : M Unit :=
 ZcI (fun s_ : Bool => Zan.L1 a0 s_) true
theorem ZiE (a0 : (Option Addr)) : Ref Tryz.prog 71 [.pointer a0] (Zan a0) Zan.out := by
 refine J.Fn Tryz.func71 ?_
 unfold Zan
 exact SJ.sr 1 <| J.z 1 <| SJ.block (id := 0) <| J.L (Zan.L1_ok a0)

/-! ### (*weir/rules.reader).clause: function 42 -/
noncomputable def Zay.B : Code := bod Tryz.f42
noncomputable def Zay.cx : Fx := ⟨Tryz.prog, 42, Tryz.f42, none⟩
noncomputable def Zay.out (r_ : Bool) : Value := .bool r_
noncomputable def Zay.K1  : M Bool :=
 pure true
theorem Zay.K1_ok  :
  SJ Zay.cx [.inBlock 0, .code (c2 (c2 Zay.B))] [] [] (Zay.K1) (rt Zay.out) := by
 unfold Zay.K1
 exact SJ.inBlock <| SJ.sr 1 <| J.z 1 <| J.r
noncomputable def Zay (a0 : (Option Addr)) (a1 : ByteArray) : M Bool :=
 if a1.toList = Zve.toList then
  Zdh a0 >>= fun r238 =>
  nilck a0 >>= fun p239 =>
  st (cI .i64) (Addr.add (Addr.add p239 3) 4) (IntKind.wrap .i64 (r238 + 1)) >>= fun _ =>
  pure true
 else
  if a1.toList = Zvd.toList then
   Zb2 a0 1 4094 >>= fun r357 =>
   nilck a0 >>= fun p358 =>
   st (cI .i64) (Addr.add (Addr.add p358 3) 5) r357 >>= fun _ =>
   pure true
  else
   if a1.toList = ZpO.toList then
    Zab a0 >>= fun r416 =>
    nilck a0 >>= fun p417 =>
    st ZaA (Addr.add (Addr.add p417 3) 6) r416 >>= fun _ =>
    Zay.K1
   else
    if a1.toList = Zsa.toList then
     Zab a0 >>= fun r445 =>
     nilck a0 >>= fun p446 =>
     st ZaA (Addr.add (Addr.add p446 3) 9) r445 >>= fun _ =>
     Zay.K1
    else
     if a1.toList = ZpN.toList then
      Zan a0 >>= fun r459 =>
      Zay.K1
     else
      if a1.toList = ZpM.toList then
       Zb2 a0 0 255 >>= fun r465 =>
       nilck a0 >>= fun p466 =>
       st (cI .i64) (Addr.add (Addr.add p466 3) 14) (IntKind.wrap .i64 (r465 + 1)) >>= fun _ =>
       Zay.K1
      else
       if a1.toList = Zvc.toList then
        nilck a0 >>= fun p468 =>
        st cB (Addr.add (Addr.add p468 3) 15) true >>= fun _ =>
        Zay.K1
       else
        pure false
theorem Ziu (a0 : (Option Addr)) (a1 : ByteArray) : Ref Tryz.prog 42 [.pointer a0, .string a1] (Zay a0 a1) Zay.out := by
 refine J.Fn Tryz.func42 ?_
 unfold Zay
 refine SJ.sr 1 <| J.z 1 <| SJ.seq <| SJ.sr 1 <| J.z 1 <| SJ.block (id := 0) <| SJ.sr 2 <| J.z 2 <| J.f ?_ ?_
 ·exact SJ.rg 8 <| J.C 2 F69 (Zjp _) fun r238 => J.n 1 fun p239 => J.w 2 Ty3 <| J.z 0 <| SJ.inBlock <| SJ.sr 1 <| J.z 1 <| J.r
 refine SJ.sr 2 <| J.z 2 <| J.f ?_ ?_
 ·exact SJ.rg 7 <| J.C 2 F66 (Zd0 _ _ _) fun r357 => J.n 0 fun p358 => J.w 2 Ty3 <| J.z 0 <| SJ.inBlock <| SJ.sr 1 <| J.z 1 <| J.r
 refine SJ.sr 2 <| J.z 2 <| J.f ?_ ?_
 ·exact SJ.rg 7 <| J.C 2 F70 (ZgG _) fun r416 => J.n 0 fun p417 => J.w 2 Ty74 <| J.z 0 <| J.q <| Zay.K1_ok 
 refine SJ.sr 2 <| J.z 2 <| J.f ?_ ?_
 ·exact SJ.rg 7 <| J.C 2 F70 (ZgG _) fun r445 => J.n 0 fun p446 => J.w 2 Ty74 <| J.z 0 <| J.q <| Zay.K1_ok 
 refine SJ.sr 2 <| J.z 2 <| J.f ?_ ?_
 ·exact SJ.rg 2 <| J.C 1 F71 (ZiE _) fun r459 => J.z 0 <| J.q <| Zay.K1_ok 
 refine SJ.sr 2 <| J.z 2 <| J.f ?_ ?_
 ·exact SJ.rg 8 <| J.C 2 F66 (Zd0 _ _ _) fun r465 => J.n 1 fun p466 => J.w 2 Ty3 <| J.z 0 <| J.q <| Zay.K1_ok 
 refine SJ.sr 2 <| J.z 2 <| J.f ?_ ?_
 ·exact SJ.rg 5 <| J.n 1 fun p468 => J.w 2 Ty4 <| J.z 0 <| J.q <| Zay.K1_ok 
 exact SJ.sr 1 <| J.z 1 <| J.r

/-! ### weir/rules.ParseRule: function 17 -/
noncomputable def Zam.B : Code := bod Tryz.f17
noncomputable def Zam.cx : Fx := ⟨Tryz.prog, 17, Tryz.f17, none⟩
noncomputable def Zam.out (r_ : (Zae × Int × Int)) : Value := .tuple #[Zak.val r_.1, .int .i64 r_.2.1, .int .i64 r_.2.2]
noncomputable def Zam.K1 (b3 : Nat) : M (Zae × Int × Int) :=
 ld (cI .i64) (Addr.add (pt b3 0) 19) >>= fun x28 =>
 if x28 ≠ 0 then
  draw >>= fun _ =>
  ld (cI .i64) (Addr.add (pt b3 0) 19) >>= fun x31 =>
  ld (cI .i64) (Addr.add (pt b3 0) 20) >>= fun x32 =>
  same (cI .i64) (Addr.add (pt b3 0) 20) x32 >>= fun _ =>
  same (cI .i64) (Addr.add (pt b3 0) 19) x31 >>= fun _ =>
  pure (ZaH, x31, x32)
 else
  ld Zak (Addr.add (pt b3 0) 3) >>= fun x33 =>
  pure (x33, 0, 0)
theorem Zam.K1_ok (b1 : Nat) (b3 : Nat) :
  SJ Zam.cx [.code (c2 (c2 (c2 (c2 (c2 (c2 (c2 (c2 Zam.B))))))))] [(2, .pointer (some (pt b1 0))), (7, .pointer (some (pt b3 0)))] [(b1, Zak.enc ZaH)] (Zam.K1 b3) (rt Zam.out) := by
 unfold Zam.K1
 refine SJ.seq <| SJ.sr 5 <| J.l 3 Ty50 fun x28 => J.z 1 <| J.f ?_ ?_
 ·exact SJ.seq <| J.R 12 Zcs <| J.u 0 Ty76 .nil <| J.l 3 Ty50 fun x31 => J.l 3 Ty3 fun x32 => OJ.kst (y := .tmp 2) (z := .tmp 104) (cd := Zak) (u := ZaH) (j := 0) (b := b1) (o := 0) (Zak.enc ZaH) (owed := [⟨8, 3, (Addr.add (pt b3 0) 20), (cI .i64).val x32⟩, ⟨4, 50, (Addr.add (pt b3 0) 19), (cI .i64).val x31⟩]) Ty76 rfl (Upd.whole ((Cod.len _ _).trans (Cod.len _ _).symm)) rfl <| OW.same Ty3 <| OW.same Ty50 <| OW.nil <| J.z 2 <| J.rc (.c 0 rfl Ty76 .n)
 exact SJ.skip <| SJ.sr 7 <| J.l 3 Ty76 fun x33 => J.s 0 0 rfl Ty76 (Upd.w x33) <| J.z 2 <| J.rc (.c 0 rfl Ty76 .n)
noncomputable def Zam.F1 (b1 : Nat) (r2 : (Sl × Int)) (b3 : Nat) (b5 : Nat) : LF Unit (Zae × Int × Int) := ⟨[.inBlock 0, .code (c2 (c2 (c2 (c2 (c2 (c2 (c2 (c2 Zam.B))))))))], c1 (c1 (c2 (c2 (c2 (c2 (c2 (c2 (c2 Zam.B)))))))), fun s_ => [(2, .pointer (some (pt b1 0))), (5, Sl.v r2.1), (7, .pointer (some (pt b3 0))), (8, .map (some b5))], fun s_ => [(b1, Zak.enc ZaH)], (rt Zam.out)⟩
noncomputable def Zam.K2 (b3 : Nat) (b5 : Nat) (r38 : ZaD) : M (LS Unit (Zae × Int × Int)) :=
 draw >>= fun _ =>
 ld (cI .i64) (Addr.add (pt b3 0) 1) >>= fun x52 =>
 mset cS (cI .i64) (some b5) r38.s x52 >>= fun _ =>
 pure (LS.next ())
theorem Zam.K2_ok (b1 : Nat) (r2 : (Sl × Int)) (b3 : Nat) (b5 : Nat) (r38 : ZaD) (b39 : Nat) :
  SJ Zam.cx [.code (c2 (c2 (c2 (c1 (c2 (c1 (c1 (c1 (c2 (c2 (c2 (c2 (c2 (c2 (c2 Zam.B))))))))))))))), .inBlock 1, .inLoop (c1 (c1 (c1 (c2 (c2 (c2 (c2 (c2 (c2 (c2 Zam.B)))))))))), .inBlock 0, .code (c2 (c2 (c2 (c2 (c2 (c2 (c2 (c2 Zam.B))))))))] [(2, .pointer (some (pt b1 0))), (5, Sl.v r2.1), (7, .pointer (some (pt b3 0))), (8, .map (some b5)), (9, .pointer (some (pt b39 0)))] [(b39, Zbw.enc r38), (b1, Zak.enc ZaH)] (Zam.K2 b3 b5 r38) (Zam.F1 b1 r2 b3 b5).f := by
 unfold Zam.K2
 exact J.R 8 Zcs <| J.k 2 0 rfl Ty9 (Zbt _) <| J.l 3 Ty3 fun x52 => OJ.mset (x := .tmp 92) (y := .tmp 94) (q := .tmp 98) (owed := []) ZwK <| OW.nil <| J.z 0 <| SJ.inBlock <| SJ.forget (List.Sublist.cons _ (List.Sublist.cons_cons _ List.Sublist.slnil)) <| J.o rfl
noncomputable def Zam.L1 (r2 : (Sl × Int)) (b3 : Nat) (b5 : Nat) : M (LS Unit (Zae × Int × Int)) :=
 ld (cI .i64) (Addr.add (pt b3 0) 19) >>= fun x35 =>
 (if x35 = 0 then
   ld (cI .i64) (Addr.add (pt b3 0) 1) >>= fun x36 =>
   pure (decide (x36 < (r2.1.len : Int)))
  else
   pure false) >>= fun y37 =>
 if y37 = true then
  ZaJ (some (pt b3 0)) >>= fun r38 =>
  slot 122 >>= fun b39 =>
  mget cS (cI .i64) 0 (some b5) r38.s >>= fun r40 =>
  (if r40.1 > 0 then
    pure true
   else
    (if r38.s.toList = ZpN.toList then
      ld (cI .i64) (Addr.add (Addr.add (pt b3 0) 3) 3) >>= fun x41 =>
      pure (x41 != 6)
     else
      pure false) >>= fun y42 =>
    pure y42) >>= fun y43 =>
  (if y43 = true then
    pure true
   else
    (if r38.s.toList = ZpM.toList then
      ld (cI .i64) (Addr.add (Addr.add (pt b3 0) 3) 3) >>= fun x44 =>
      ZeG x44 >>= fun r45 =>
      pure (!r45)
     else
      pure false) >>= fun y46 =>
    pure y46) >>= fun y47 =>
  if y47 = true then
   ZaS (some (pt b3 0)) 165 r38.at_ >>= fun r49 =>
   (Zam.K1 b3) >>= fun b => pure (LS.done b)
  else
   Zay (some (pt b3 0)) r38.s >>= fun r50 =>
   if ¬ (r50 = true) then
    ZaS (some (pt b3 0)) 160 r38.at_ >>= fun r53 =>
    Zam.K2 b3 b5 r38
   else
    Zam.K2 b3 b5 r38
 else
  (Zam.K1 b3) >>= fun b => pure (LS.done b)
theorem Zam.L1_ok (b1 : Nat) (r2 : (Sl × Int)) (b3 : Nat) (b5 : Nat) : LJ Zam.cx (Zam.F1 b1 r2 b3 b5) (fun s_ => Zam.L1 r2 b3 b5) := by
 rintro _
 show SJ _ _ _ _ (Zam.L1 r2 b3 b5) _
 unfold Zam.L1
 refine SJ.seq <| SJ.sr 14 <| J.l 3 Ty50 fun x35 => J.j 2 7 .bool ?_ ?_ fun y37 => ?_
 ·exact J.l 3 Ty3 fun x36 => J.e 4
 ·exact J.e 8
 refine J.z 0 <| J.f ?_ ?_
 ·refine SJ.skip <| SJ.block (id := 1) <| SJ.sr 4 <| J.C 1 F40 (ZdF _) fun r38 => J.a 0 Zey fun b39 => J.s 0 0 rfl Zey (Upd.w r38) <| J.z 0 <| SJ.seq <| SJ.sr 32 <| J.k 2 0 rfl Ty9 (Zbt _) <| OJ.get0 (d := 50) (x := .tmp 47) (y := .tmp 49) (owed := []) ZwK fun r40 => OW.nil <| J.g 2 <| OJ.join (b := decide (r40.1 > 0)) [6, 7, 8, 9, 10, 11, 12, 13, 14, 15, 16, 17] [18, 19, 20, 21, 22, 23, 24, 25, 26, 27, 28, 29, 30, 31] [2, 5, 7, 8, 9, 64] (fun y43 => [(2, .pointer (some (pt b1 0))), (5, Sl.v r2.1), (7, .pointer (some (pt b3 0))), (8, .map (some b5)), (9, .pointer (some (pt b39 0))), (64, .bool y43)]) [] [] (t := 52) decide_eq_true_iff (fun hp_ => ?_) (fun hp_ => ?_) (fun _ _ _ _ _ _ h_ => h_) fun y43 => ?_
  ·exact J.g 12 <| OJ.nil ⟨(Cov.mem Cov.nil), rfl, _, rfl, by kernel_rfl⟩
  ·refine J.k 1 0 rfl Ty9 (Zbt _) <| J.g 2 <| OJ.join (b := (r38.s.toList == ZpN.toList)) [10, 11, 12, 13, 14, 15, 16] [17] [2, 5, 7, 8, 9, 52, 63] (fun y42 => [(2, .pointer (some (pt b1 0))), (5, Sl.v r2.1), (7, .pointer (some (pt b3 0))), (8, .map (some b5)), (9, .pointer (some (pt b39 0))), (52, .bool false), (63, .bool y42)]) [] [] (t := 56) beq_iff_eq (fun hp_ => ?_) (fun hp_ => ?_) (fun _ _ _ _ _ hq_ h_ => ⟨fun e_ he_ => (hq_ e_ he_).elim (fun h => h_.1 e_ h) (fun h => nomatch h), h_.2⟩) fun y42 => ?_
   ·exact J.l 4 Ty3 fun x41 => J.g 2 <| OJ.nil ⟨(Cov.mem Cov.nil), rfl, _, rfl, by kernel_rfl⟩
   ·exact J.g 7 <| OJ.nil ⟨(Cov.mem Cov.nil), rfl, _, rfl, by kernel_rfl⟩
   exact J.g 1 <| OJ.nil ⟨(Cov.mem Cov.nil), rfl, _, rfl, by kernel_rfl⟩
  refine J.g 1 <| OJ.join (b := y43) [19, 20, 21, 22, 23, 24, 25, 26, 27, 28, 29, 30, 31] [] [2, 5, 7, 8, 9, 78] (fun y47 => [(2, .pointer (some (pt b1 0))), (5, Sl.v r2.1), (7, .pointer (some (pt b3 0))), (8, .map (some b5)), (9, .pointer (some (pt b39 0))), (78, .bool y47)]) [] [] (t := 65) Iff.rfl (fun hp_ => ?_) (fun hp_ => ?_) (fun _ _ _ _ _ _ h_ => h_) fun y47 => ?_
  ·exact J.g 13 <| OJ.nil ⟨(Cov.mem Cov.nil), rfl, _, rfl, by kernel_rfl⟩
  ·refine J.k 1 0 rfl Ty9 (Zbt _) <| J.g 2 <| OJ.join (b := (r38.s.toList == ZpM.toList)) [23, 24, 25, 26, 27, 28, 29, 30] [31] [2, 5, 7, 8, 9, 65, 77] (fun y46 => [(2, .pointer (some (pt b1 0))), (5, Sl.v r2.1), (7, .pointer (some (pt b3 0))), (8, .map (some b5)), (9, .pointer (some (pt b39 0))), (65, .bool false), (77, .bool y46)]) [] [] (t := 69) beq_iff_eq (fun hp_ => ?_) (fun hp_ => ?_) (fun _ _ _ _ _ hq_ h_ => ⟨fun e_ he_ => (hq_ e_ he_).elim (fun h => h_.1 e_ h) (fun h => nomatch h), h_.2⟩) fun y46 => ?_
   ·exact J.l 4 Ty3 fun x44 => J.C 0 F33 (Zjz _) fun r45 => J.g 2 <| OJ.nil ⟨(Cov.mem Cov.nil), rfl, _, rfl, by kernel_rfl⟩
   ·exact J.g 8 <| OJ.nil ⟨(Cov.mem Cov.nil), rfl, _, rfl, by kernel_rfl⟩
   exact J.g 1 <| OJ.nil ⟨(Cov.mem Cov.nil), rfl, _, rfl, by kernel_rfl⟩
  refine J.z 0 <| J.f ?_ ?_
  ·exact SJ.sr 4 <| J.k 2 0 rfl Ty3 (ZbR _) <| J.C 0 F41 (Zbo _ _ _) fun r49 => J.z 0 <| SJ.exit (id := 0) (by rfl) <| SJ.forget (List.Sublist.cons _ (List.Sublist.cons_cons _ List.Sublist.slnil)) <| J.q <| SJ.done <| Zam.K1_ok b1 b3
  refine SJ.skip <| SJ.seq <| SJ.sr 5 <| J.k 2 0 rfl Ty9 (Zbt _) <| J.C 0 F42 (Ziu _ _) fun r50 => J.z 1 <| J.f ?_ ?_
  ·exact SJ.rg 4 <| J.k 2 0 rfl Ty3 (ZbR _) <| J.C 0 F41 (Zbo _ _ _) fun r53 => J.z 0 <| J.q <| Zam.K2_ok b1 r2 b3 b5 r38 b39
  exact SJ.skip <| J.q <| Zam.K2_ok b1 r2 b3 b5 r38 b39
 exact SJ.exit (id := 0) (by rfl) <| J.q <| SJ.done <| Zam.K1_ok b1 b3
noncomputable def Zam (a0 : ByteArray) : M (Zae × Int × Int) :=
 slot 76 >>= fun b1 =>
 if (a0.size : Int) > 1024 then
  pure (ZaH, 2, 1024)
 else
  ZaK a0 >>= fun r2 =>
  if r2.2 ≥ 0 then
   pure (ZaH, 160, r2.2)
  else
   newv 119 Zbp (⟨r2.1, ZeV.i, (a0.size : Int), ZeV.rule, ZeV.err, ZeV.at_⟩ : Zbs) >>= fun b3 =>
   Zat (some (pt b3 0)) >>= fun r4 =>
   mkMap >>= fun b5 =>
   ZcI (fun s_ : Unit => Zam.L1 r2 b3 b5) ()
theorem Zko (a0 : ByteArray) : Ref Tryz.prog 17 [.string a0] (Zam a0) Zam.out := by
 refine J.Fn Tryz.func17 ?_
 unfold Zam
 refine SJ.sr 3 <| J.a 0 Ty76 fun b1 => J.z 2 <| SJ.seq <| SJ.sr 3 <| J.z 3 <| J.f ?_ ?_
 ·exact SJ.sr 4 <| J.u 0 Ty76 .nil <| J.s 0 0 rfl Ty76 (Upd.w ZaH) <| J.z 2 <| J.rc (.c 0 rfl Ty76 .n)
 refine SJ.skip <| SJ.sr 7 <| J.C 1 F38 (Zno _) fun r2 => J.z 5 <| SJ.seq <| SJ.sr 2 <| J.z 2 <| J.f ?_ ?_
 ·exact SJ.sr 5 <| J.u 0 Ty76 .nil <| J.s 1 0 rfl Ty76 (Upd.w ZaH) <| J.z 2 <| J.rc (.c 0 rfl Ty76 .n)
 exact SJ.skip <| SJ.sr 6 <| J.u 3 Zw2 (.f 0 (Zlg _ r2.1) (.f 2 (Zjw _ (a0.size : Int)) .nil)) <| J.B 0 fun b3 => J.z 1 <| SJ.sr 2 <| J.C 1 F39 (Zjq _) fun r4 => J.z 0 <| SJ.sr 2 <| OJ.mkMap (d := 30) (t := 120) (owed := []) fun b5 => OW.nil <| J.z 1 <| SJ.seq <| SJ.block (id := 0) <| J.L (Zam.L1_ok b1 r2 b3 b5)

/-! ### internal/strconv.small: function 130 -/
noncomputable def ZeF.out (r_ : ByteArray) : Value := .string r_
noncomputable def ZeF (a0 : Int) : M ByteArray :=
 if a0 < 10 then
  chk (0 ≤ (a0 : Int) ∧ (a0 : Int) ≤ (IntKind.wrap .i64 (a0 + 1)) ∧ (IntKind.wrap .i64 (a0 + 1)) ≤ (ZtT.size : Int)) >>= fun _ =>
  pure (ByteArray.extract ZtT (Int.toNat a0) (Int.toNat (IntKind.wrap .i64 (a0 + 1))))
 else
  chk (0 ≤ ((IntKind.wrap .i64 (a0 * 2)) : Int) ∧ ((IntKind.wrap .i64 (a0 * 2)) : Int) ≤ (IntKind.wrap .i64 ((IntKind.wrap .i64 (a0 * 2)) + 2)) ∧ (IntKind.wrap .i64 ((IntKind.wrap .i64 (a0 * 2)) + 2)) ≤ (ZtS.size : Int)) >>= fun _ =>
  pure (ByteArray.extract ZtS (Int.toNat (IntKind.wrap .i64 (a0 * 2))) (Int.toNat (IntKind.wrap .i64 ((IntKind.wrap .i64 (a0 * 2)) + 2))))
theorem ZlQ (a0 : Int) : Ref Tryz.prog 130 [.int .i64 a0] (ZeF a0) ZeF.out := by
 refine J.Fn Tryz.func130 ?_
 unfold ZeF
 refine SJ.sr 1 <| J.z 1 <| SJ.seq <| SJ.sr 2 <| J.z 2 <| J.f ?_ ?_
 ·exact SJ.sr 5 <| J.ct 3 <| J.z 1 <| J.r
 exact SJ.skip <| SJ.sr 7 <| J.ct 5 <| J.z 1 <| J.r

/-! ### internal/strconv.FormatInt: function 119 -/
noncomputable def ZdO.out (r_ : ByteArray) : Value := .string r_
noncomputable def ZdO (a0 : Int) (a1 : Int) : M ByteArray :=
 if a1 = 10 then
  (if 0 ≤ a0 then
    pure (decide (a0 < 100))
   else
    pure false) >>= fun y5 =>
  if y5 = true then
   ZeF a0 >>= fun r7 =>
   pure r7
  else
   fail
 else
  fail
theorem Zjo (a0 : Int) (a1 : Int) : Ref Tryz.prog 119 [.int .i64 a0, .int .i64 a1] (ZdO a0 a1) ZdO.out := by
 refine J.Fn Tryz.func119 ?_
 unfold ZdO
 refine SJ.sr 1 <| J.z 1 <| SJ.seq <| SJ.sr 2 <| J.z 2 <| J.f ?_ ?_
 ·refine SJ.seq <| SJ.sr 6 <| J.j 3 2 .bool ?_ ?_ fun y5 => ?_
  ·exact J.e 3
  ·exact J.e 3
  refine J.z 0 <| J.f ?_ ?_
  ·exact SJ.sr 3 <| J.C 1 F130 (ZlQ _) fun r7 => J.z 1 <| J.r
  exact SJ.fail
 exact SJ.fail

/-! ### internal/strconv.Itoa: function 100 -/
noncomputable def ZfL.out (r_ : ByteArray) : Value := .string r_
noncomputable def ZfL (a0 : Int) : M ByteArray :=
 ZdO a0 10 >>= fun r1 =>
 pure r1
theorem Zmn (a0 : Int) : Ref Tryz.prog 100 [.int .i64 a0] (ZfL a0) ZfL.out := by
 refine J.Fn Tryz.func100 ?_
 unfold ZfL
 exact SJ.sr 1 <| J.z 1 <| SJ.sr 3 <| J.C 1 F119 (Zjo _ _) fun r1 => J.z 1 <| J.r

/-! ### strconv.Itoa: function 72 -/
noncomputable def ZdH.out (r_ : ByteArray) : Value := .string r_
noncomputable def ZdH (a0 : Int) : M ByteArray :=
 ZfL a0 >>= fun r1 =>
 pure r1
theorem Zgw (a0 : Int) : Ref Tryz.prog 72 [.int .i64 a0] (ZdH a0) ZdH.out := by
 refine J.Fn Tryz.func72 ?_
 unfold ZdH
 exact SJ.sr 1 <| J.z 1 <| SJ.sr 3 <| J.C 1 F100 (Zmn _) fun r1 => J.z 1 <| J.r

/-! ### weir/rules.protoName: function 101 -/
noncomputable def Zeo.out (r_ : ByteArray) : Value := .string r_
noncomputable def Zeo (a0 : Int) : M ByteArray :=
 if a0 = 6 then
  pure str2
 else
  if a0 = 17 then
   pure str3
  else
   if a0 = 1 then
    pure str4
   else
    if a0 = 58 then
     pure str5
    else
     pure ByteArray.empty
theorem Zkl (a0 : Int) : Ref Tryz.prog 101 [.int .i64 a0] (Zeo a0) Zeo.out := by
 refine J.Fn Tryz.func101 ?_
 unfold Zeo
 refine SJ.sr 1 <| J.z 1 <| SJ.seq <| SJ.sr 1 <| J.z 1 <| SJ.block (id := 0) <| SJ.sr 2 <| J.z 2 <| J.f ?_ ?_
 ·exact SJ.sr 1 <| J.z 1 <| J.r
 refine SJ.sr 2 <| J.z 2 <| J.f ?_ ?_
 ·exact SJ.sr 1 <| J.z 1 <| J.r
 refine SJ.sr 2 <| J.z 2 <| J.f ?_ ?_
 ·exact SJ.sr 1 <| J.z 1 <| J.r
 refine SJ.sr 2 <| J.z 2 <| J.f ?_ ?_
 ·exact SJ.sr 1 <| J.z 1 <| J.r
 exact SJ.skip <| SJ.inBlock <| SJ.sr 1 <| J.z 1 <| J.r

/-! ### weir/rules.what: function 73 -/
noncomputable def Zgg.out (r_ : ByteArray) : Value := .string r_
noncomputable def Zgg (a0 : Zae) : M ByteArray :=
 slot 76 >>= fun b1 =>
 if a0.Kind > 0 then
  fail
 else
  Zeo a0.Proto >>= fun r2 =>
  if ¬ (r2.toList = ByteArray.empty.toList) then
   chk (((ZhX.size + r2.size : Nat) : Int) ≤ 9223372036854775807) >>= fun _ =>
   chk (((ByteArray.empty.size + (ZhX ++ r2).size : Nat) : Int) ≤ 9223372036854775807) >>= fun _ =>
   pure (ByteArray.empty ++ (ZhX ++ r2))
  else
   fail
theorem Zog (a0 : Zae) : Ref Tryz.prog 73 [Zak.val a0] (Zgg a0) Zgg.out := by
 refine J.Fn Tryz.func73 ?_
 unfold Zgg
 refine SJ.sr 2 <| J.b 0 Zak a0 fun b1 => J.z 1 <| SJ.sr 1 <| J.z 1 <| SJ.seq <| SJ.sr 3 <| J.k 1 0 rfl Ty3 (Zb7 _) <| J.z 1 <| J.f ?_ ?_
 ·exact SJ.fail
 refine SJ.skip <| SJ.sr 4 <| J.k 1 0 rfl Ty3 (ZbE _) <| J.C 0 F101 (Zkl _) fun r2 => J.z 1 <| SJ.seq <| SJ.block (id := 0) <| SJ.sr 3 <| J.z 3 <| J.f ?_ ?_
 ·exact SJ.rg 5 <| J.T 2 <| J.T 0 <| J.z 1 <| SJ.inBlock <| SJ.sr 2 <| J.z 2 <| J.r
 exact SJ.fail

/-! ### (*strings.Builder).copyCheck: function 123 -/
noncomputable def ZbP.out (r_ : Unit) : Value := .tuple #[]
noncomputable def ZbP (a0 : (Option Addr)) : M Unit :=
 nilck a0 >>= fun p1 =>
 ld cP p1 >>= fun x2 =>
 if x2 = none then
  upOf a0 >>= fun r11 =>
  noesc r11 >>= fun r12 =>
  ptOf 190 2 r12 >>= fun r13 =>
  nilck a0 >>= fun p14 =>
  st cP p14 r13 >>= fun _ =>
  pure ()
 else
  nilck a0 >>= fun p15 =>
  ld cP p15 >>= fun x16 =>
  ptrEq x16 a0 >>= fun y17 =>
  if ¬ (y17 = true) then
   fail
  else
   pure ()
theorem Ze4 (a0 : (Option Addr)) : Ref Tryz.prog 123 [.pointer a0] (ZbP a0) ZbP.out := by
 refine J.Fn Tryz.func123 ?_
 unfold ZbP
 refine SJ.sr 5 <| J.n 1 fun p1 => J.l 1 ZvT fun x2 => J.z 1 <| J.f ?_ ?_
 ·exact SJ.rg 8 <| J.g 2 <| OJ.upOf (d := 9) (t := 188) (u := 232) (E := 190) (x := .tmp 8) (p := a0) (owed := []) fun r11 => OW.nil <| OJ.ext (d := 10) (g := 135) (ats := #[232]) (args := [.tmp 9]) (out := fun r => .pointer r) (owed := []) Tryz.func135 ZsE fun r12 => OW.nil <| OJ.ptOf (d := 11) (t := 188) (u := 232) (E := 190) (T := 190) (n := 2) (x := .tmp 10) (p := r12) (owed := []) (by kernel_rfl) fun r13 => OW.nil <| J.n 0 fun p14 => J.w 1 ZvT <| J.z 0 <| SJ.end_ rfl (Res.run (ys := []) .nil rfl)
 refine SJ.sr 6 <| J.n 1 fun p15 => J.l 1 ZvT fun x16 => J.g 1 <| OJ.pneq (d := 19) (T := 188) (E := 190) (yT := 188) (y := .tmp 17) (z := .tmp 18) (p := x16) (q := a0) fun y17 => J.z 0 <| J.f ?_ ?_
 ·exact SJ.fail
 exact SJ.skip <| SJ.end_ rfl (Res.run (ys := []) .nil rfl)

/-! ### (*strings.Builder).grow: function 124 -/
noncomputable def Zc8.out (r_ : Unit) : Value := .tuple #[]
noncomputable def Zc8 (a0 : (Option Addr)) (a1 : Int) : M Unit :=
 draw >>= fun _ =>
 nilck a0 >>= fun p1 =>
 ld cL (Addr.add p1 1) >>= fun x2 =>
 nilck a0 >>= fun p3 =>
 ld cL (Addr.add p3 1) >>= fun x4 =>
 mkNZ 5 (IntKind.wrap .i64 ((IntKind.wrap .i64 (2 * (x2.cap : Int))) + a1)) >>= fun r5 =>
 same cL (Addr.add p3 1) x4 >>= fun _ =>
 cut 1 r5 none (some (x4.len : Int)) none >>= fun r6 =>
 nilck a0 >>= fun p7 =>
 ld cL (Addr.add p7 1) >>= fun x8 =>
 cpyS (cI .u8) r6 x8 >>= fun r9 =>
 nilck a0 >>= fun p10 =>
 st cL (Addr.add p10 1) r6 >>= fun _ =>
 pure ()
theorem ZhV (a0 : (Option Addr)) (a1 : Int) : Ref Tryz.prog 124 [.pointer a0, .int .i64 a1] (Zc8 a0 a1) Zc8.out := by
 refine J.Fn Tryz.func124 ?_
 unfold Zc8
 exact SJ.seq <| J.D [0, 1, 2, 3, 4, 5, 6, 7, 9, 10, 11, 12, 8, 13, 14, 15] Zcs <| J.n 1 fun p1 => J.l 1 Ty32 fun x2 => OJ.capS (d := 9) (so := .tmp 8) (t := 32) (E := 5) (s := x2) <| J.n 4 fun p3 => J.l 1 Ty32 fun x4 => OJ.ext (d := 13) (g := 136) (ats := #[3]) (args := [.tmp 12]) (out := Sl.v) (owed := [⟨12, 32, (Addr.add p3 1), cL.val x4⟩]) Tryz.func136 (Zug (t := 32) (E := 5) (ps := #[3]) (by kernel_rfl)) fun r5 => OW.same Ty32 <| OW.nil <| J.cs 1 fun r6 => J.z 1 <| SJ.sr 6 <| J.n 2 fun p7 => J.l 1 Ty32 fun x8 => OJ.cpy1 (n := 25) (t := 32) (u := 32) (so := .tmp 20) (xo := .tmp 24) (owed := []) Ty5 fun r9 => OW.nil <| J.z 0 <| SJ.rg 5 <| J.n 2 fun p10 => J.w 1 Ty32 <| J.z 0 <| SJ.end_ rfl (Res.run (ys := []) .nil rfl)

/-! ### (*strings.Builder).Grow: function 104 -/
noncomputable def ZcD.out (r_ : Unit) : Value := .tuple #[]
noncomputable def ZcD (a0 : (Option Addr)) (a1 : Int) : M Unit :=
 ZbP a0 >>= fun r1 =>
 if a1 < 0 then
  fail
 else
  draw >>= fun _ =>
  nilck a0 >>= fun p2 =>
  ld cL (Addr.add p2 1) >>= fun x3 =>
  nilck a0 >>= fun p4 =>
  ld cL (Addr.add p4 1) >>= fun x5 =>
  if (IntKind.wrap .i64 ((x3.cap : Int) - (x5.len : Int))) < a1 then
   Zc8 a0 a1 >>= fun r7 =>
   pure ()
  else
   pure ()
theorem ZhW (a0 : (Option Addr)) (a1 : Int) : Ref Tryz.prog 104 [.pointer a0, .int .i64 a1] (ZcD a0 a1) ZcD.out := by
 refine J.Fn Tryz.func104 ?_
 unfold ZcD
 refine SJ.sr 2 <| J.C 1 F123 (Ze4 _) fun r1 => J.z 0 <| SJ.seq <| SJ.sr 2 <| J.z 2 <| J.f ?_ ?_
 ·exact SJ.rg 2 <| J.g 1 <| OJ.fail
 refine SJ.skip <| SJ.seq <| J.R 13 Zcs <| J.n 1 fun p2 => J.l 1 Ty32 fun x3 => OJ.capS (d := 13) (so := .tmp 12) (t := 32) (E := 5) (s := x3) <| J.n 1 fun p4 => J.l 1 Ty32 fun x5 => J.z 4 <| J.f ?_ ?_
 ·exact SJ.rg 3 <| J.C 2 F124 (ZhV _ _) fun r7 => J.z 0 <| SJ.end_ rfl (Res.run (ys := []) .nil rfl)
 exact SJ.skip <| SJ.end_ rfl (Res.run (ys := []) .nil rfl)

/-! ### (*strings.Builder).WriteString: function 105 -/
noncomputable def Zbx.out (r_ : (Int × Any)) : Value := .tuple #[.int .i64 r_.1, r_.2.v]
noncomputable def Zbx (a0 : (Option Addr)) (a1 : ByteArray) : M (Int × Any) :=
 ZbP a0 >>= fun r1 =>
 nilck a0 >>= fun p2 =>
 ld cL (Addr.add p2 1) >>= fun x3 =>
 appl (cI .u8) 5 1 0 x3 (strI a1) >>= fun r4 =>
 nilck a0 >>= fun p5 =>
 st cL (Addr.add p5 1) r4 >>= fun _ =>
 pure ((a1.size : Int), (⟨.nilIface, rfl⟩ : Any))
theorem Zdo (a0 : (Option Addr)) (a1 : ByteArray) : Ref Tryz.prog 105 [.pointer a0, .string a1] (Zbx a0 a1) Zbx.out := by
 refine J.Fn Tryz.func105 ?_
 unfold Zbx
 exact SJ.sr 2 <| J.z 2 <| SJ.sr 2 <| J.C 1 F123 (Ze4 _) fun r1 => J.z 0 <| SJ.sr 10 <| J.n 2 fun p2 => J.l 1 Ty32 fun x3 => J.g 1 <| OJ.appT (d := 14) (t := 32) (u := 9) (so := .tmp 12) (xo := .tmp 13) (y := a1) (owed := []) Ty5 fun r4 => OW.nil <| J.n 0 fun p5 => J.w 1 Ty32 <| J.z 0 <| SJ.sr 4 <| J.z 4 <| J.r

/-! ### (*strings.Builder).String: function 106 -/
noncomputable def Zch.out (r_ : ByteArray) : Value := .string r_
noncomputable def Zch (a0 : (Option Addr)) : M ByteArray :=
 draw >>= fun _ =>
 nilck a0 >>= fun p1 =>
 ld cL (Addr.add p1 1) >>= fun x2 =>
 nilck a0 >>= fun p3 =>
 ld cL (Addr.add p3 1) >>= fun x4 =>
 sdata x2 >>= fun r5 =>
 same cL (Addr.add p3 1) x4 >>= fun _ =>
 ustr 5 r5 (x4.len : Int) >>= fun r6 =>
 pure r6
theorem Zhp (a0 : (Option Addr)) : Ref Tryz.prog 106 [.pointer a0] (Zch a0) Zch.out := by
 refine J.Fn Tryz.func106 ?_
 unfold Zch
 exact SJ.sr 1 <| J.z 1 <| SJ.seq <| J.D [0, 1, 2, 3, 5, 6, 7, 8, 4, 9, 10, 11] Zcs <| J.n 1 fun p1 => J.l 1 Ty32 fun x2 => J.n 1 fun p3 => J.l 1 Ty32 fun x4 => OJ.sdata (d := 7) (t := 32) (x := .tmp 6) (s := x2) (owed := [⟨8, 32, (Addr.add p3 1), cL.val x4⟩]) fun r5 => OW.same Ty32 <| OW.nil <| J.g 1 <| OJ.ustr (d := 13) (t := 217) (t2 := 3) (E := 5) (x := .tmp 7) (y := .tmp 12) (p := r5) (n := (x4.len : Int)) (owed := []) fun r6 => OW.nil <| J.z 1 <| J.r

/-! ### strings.Join: function 75 -/
noncomputable def Zas.B : Code := bod Tryz.f75
noncomputable def Zas.cx : Fx := ⟨Tryz.prog, 75, Tryz.f75, none⟩
noncomputable def Zas.out (r_ : ByteArray) : Value := .string r_
noncomputable def Zas.F1 (a1 : ByteArray) (b19 : Nat) (r24 : Sl) : LF Int ByteArray := ⟨[.inBlock 3, .code (c2 (c2 (c2 (c2 (c2 (c2 (c2 (c2 (c2 Zas.B)))))))))], c1 (c2 (c1 (c2 (c2 (c2 (c2 (c2 (c2 (c2 (c2 Zas.B)))))))))), fun s_ => [(1, .string a1), (8, .pointer (some (pt b19 0))), (63, Sl.v r24), (64, .int .i64 (r24.len : Int)), (65, .int .i64 s_)], fun s_ => [], (rt Zas.out)⟩
noncomputable def Zas.L1 (a1 : ByteArray) (b19 : Nat) (r24 : Sl) (s25 : Int) : M (LS Int ByteArray) :=
 if s25 < (r24.len : Int) then
  idx r24.a r24.len s25 1 >>= fun p32 =>
  ld cS p32 >>= fun x33 =>
  Zbx (some (pt b19 0)) a1 >>= fun r34 =>
  Zbx (some (pt b19 0)) x33 >>= fun r35 =>
  pure (LS.next (IntKind.wrap .i64 (s25 + 1)))
 else
  Zch (some (pt b19 0)) >>= fun r36 =>
  pure (LS.done r36)
theorem Zas.L1_ok (a1 : ByteArray) (b19 : Nat) (r24 : Sl) : LJ Zas.cx (Zas.F1 a1 b19 r24) (fun s_ => Zas.L1 a1 b19 r24 s_) := by
 rintro s25
 show SJ _ _ _ _ (Zas.L1 a1 b19 r24 s25) _
 unfold Zas.L1
 refine SJ.sr 1 <| J.z 1 <| SJ.seq <| J.f ?_ ?_
 ·exact SJ.skip <| SJ.seq <| SJ.block (id := 4) <| SJ.sr 3 <| J.i 0 fun p32 => J.l 0 Ty9 fun x33 => J.z 1 <| SJ.sr 2 <| J.C 1 F105 (Zdo _ _) fun r34 => J.z 0 <| SJ.rg 2 <| J.C 1 F105 (Zdo _ _) fun r35 => J.z 0 <| SJ.inBlock <| SJ.rg 2 <| J.z 2 <| J.o rfl
 exact SJ.exit (id := 3) (by rfl) <| SJ.sr 2 <| J.C 0 F106 (Zhp _) fun r36 => J.z 1 <| J.r
noncomputable def Zas.K1 (a0 : Sl) (a1 : ByteArray) (s13 : Int) : M ByteArray :=
 newv 190 Zcx Zfl >>= fun b19 =>
 ZcD (some (pt b19 0)) s13 >>= fun r20 =>
 idx a0.a a0.len 0 1 >>= fun p21 =>
 ld cS p21 >>= fun x22 =>
 Zbx (some (pt b19 0)) x22 >>= fun r23 =>
 cut 1 a0 (some 1) none none >>= fun r24 =>
 ZcI (fun s_ : Int => Zas.L1 a1 b19 r24 s_) 0
theorem Zas.K1_ok (a0 : Sl) (a1 : ByteArray) (s13 : Int) :
  SJ Zas.cx [.code (c2 (c2 (c2 (c2 (c2 Zas.B)))))] [(0, Sl.v a0), (1, .string a1), (5, .int .i64 s13)] [] (Zas.K1 a0 a1 s13) (rt Zas.out) := by
 unfold Zas.K1
 exact SJ.sr 1 <| J.A 0 ZwZ fun b19 => J.z 0 <| SJ.sr 2 <| J.C 1 F104 (ZhW _ _) fun r20 => J.z 0 <| SJ.sr 4 <| J.i 1 fun p21 => J.l 0 Ty9 fun x22 => J.C 0 F105 (Zdo _ _) fun r23 => J.z 0 <| SJ.seq <| SJ.sr 4 <| J.cs 1 fun r24 => J.z 2 <| SJ.block (id := 3) <| J.L (Zas.L1_ok a1 b19 r24)
noncomputable def Zas.F2 (a0 : Sl) (a1 : ByteArray) : LF (Int × Int) ByteArray := ⟨[.inBlock 1, .code (c2 (c2 (c2 (c2 (c2 Zas.B)))))], c1 (c2 (c1 (c2 (c2 (c2 (c2 Zas.B)))))), fun s_ => [(0, Sl.v a0), (1, .string a1), (5, .int .i64 s_.1), (39, Sl.v a0), (40, .int .i64 (a0.len : Int)), (41, .int .i64 s_.2)], fun s_ => [], (rt Zas.out)⟩
noncomputable def Zas.L2 (a0 : Sl) (a1 : ByteArray) (s13 : Int) (s14 : Int) : M (LS (Int × Int) ByteArray) :=
 if s14 < (a0.len : Int) then
  idx a0.a a0.len s14 1 >>= fun p38 =>
  ld cS p38 >>= fun x39 =>
  if (x39.size : Int) > (IntKind.wrap .i64 (9223372036854775807 - s13)) then
   fail
  else
   pure (LS.next (IntKind.wrap .i64 (s13 + (x39.size : Int)), IntKind.wrap .i64 (s14 + 1)))
 else
  (Zas.K1 a0 a1 s13) >>= fun b => pure (LS.done b)
theorem Zas.L2_ok (a0 : Sl) (a1 : ByteArray) : LJ Zas.cx (Zas.F2 a0 a1) (fun s_ => Zas.L2 a0 a1 s_.1 s_.2) := by
 rintro ⟨s13, s14⟩
 show SJ _ _ _ _ (Zas.L2 a0 a1 s13 s14) _
 unfold Zas.L2
 refine SJ.sr 1 <| J.z 1 <| SJ.seq <| J.f ?_ ?_
 ·refine SJ.skip <| SJ.seq <| SJ.block (id := 2) <| SJ.sr 3 <| J.i 0 fun p38 => J.l 0 Ty9 fun x39 => J.z 1 <| SJ.seq <| SJ.sr 5 <| J.z 5 <| J.f ?_ ?_
  ·exact SJ.rg 2 <| J.g 1 <| OJ.fail
  exact SJ.skip <| SJ.rg 5 <| J.z 5 <| SJ.inBlock <| SJ.rg 2 <| J.z 2 <| J.o rfl
 exact SJ.exit (id := 1) (by rfl) <| J.q <| SJ.done <| Zas.K1_ok a0 a1 s13
noncomputable def Zas.K2 (a0 : Sl) (a1 : ByteArray) (j12 : Int) : M ByteArray :=
 ZcI (fun s_ : (Int × Int) => Zas.L2 a0 a1 s_.1 s_.2) (j12, 0)
theorem Zas.K2_ok (a0 : Sl) (a1 : ByteArray) (j12 : Int) :
  SJ Zas.cx [.code (c2 (c2 (c2 (c2 Zas.B))))] [(0, Sl.v a0), (1, .string a1), (5, .int .i64 j12)] [] (Zas.K2 a0 a1 j12) (rt Zas.out) := by
 unfold Zas.K2
 exact SJ.seq <| SJ.sr 3 <| J.z 3 <| SJ.block (id := 1) <| J.L (Zas.L2_ok a0 a1)
noncomputable def Zas (a0 : Sl) (a1 : ByteArray) : M ByteArray :=
 if (a0.len : Int) = 0 then
  pure ByteArray.empty
 else
  if (a0.len : Int) = 1 then
   idx a0.a a0.len 0 1 >>= fun p8 =>
   ld cS p8 >>= fun x9 =>
   pure x9
  else
   if (a1.size : Int) > 0 then
    chk ((IntKind.wrap .i64 ((a0.len : Int) - 1)) ≠ 0) >>= fun _ =>
    if (a1.size : Int) ≥ (IntKind.wrap .i64 (Int.tdiv 9223372036854775807 (IntKind.wrap .i64 ((a0.len : Int) - 1)))) then
     fail
    else
     Zas.K2 a0 a1 (IntKind.wrap .i64 (0 + (IntKind.wrap .i64 ((a1.size : Int) * (IntKind.wrap .i64 ((a0.len : Int) - 1))))))
   else
    Zas.K2 a0 a1 0
theorem ZgT (a0 : Sl) (a1 : ByteArray) : Ref Tryz.prog 75 [Sl.v a0, .string a1] (Zas a0 a1) Zas.out := by
 refine J.Fn Tryz.func75 ?_
 unfold Zas
 refine SJ.sr 1 <| J.z 1 <| SJ.seq <| SJ.sr 2 <| J.z 2 <| SJ.block (id := 0) <| SJ.sr 2 <| J.z 2 <| J.f ?_ ?_
 ·exact SJ.sr 1 <| J.z 1 <| J.r
 refine SJ.sr 2 <| J.z 2 <| J.f ?_ ?_
 ·exact SJ.sr 4 <| J.i 1 fun p8 => J.l 0 Ty9 fun x9 => J.z 1 <| J.r
 refine SJ.skip <| SJ.inBlock <| SJ.sr 1 <| J.z 1 <| SJ.seq <| SJ.sr 3 <| J.z 3 <| J.f ?_ ?_
 ·refine SJ.seq <| SJ.sr 7 <| J.g 5 <| OJ.quo (d := 28) (T := 3) (yT := 3) (y := .const (.int .i64 9223372036854775807)) (z := .tmp 27) (p := 9223372036854775807) (q := (IntKind.wrap .i64 ((a0.len : Int) - 1))) (k := .i64) fun hq43 => J.z 1 <| J.f ?_ ?_
  ·exact SJ.rg 2 <| J.g 1 <| OJ.fail
  exact SJ.skip <| SJ.rg 9 <| J.z 9 <| J.q <| Zas.K2_ok a0 a1 (IntKind.wrap .i64 (0 + (IntKind.wrap .i64 ((a1.size : Int) * (IntKind.wrap .i64 ((a0.len : Int) - 1))))))
 exact SJ.skip <| J.q <| Zas.K2_ok a0 a1 0

/-! ### weir/addr.dotted: function 120 -/
noncomputable def ZbO.B : Code := bod Tryz.f120
noncomputable def ZbO.cx : Fx := ⟨Tryz.prog, 120, Tryz.f120, none⟩
noncomputable def ZbO.out (r_ : ByteArray) : Value := .string r_
noncomputable def ZbO.F1 (a0 : Sl) : LF (Sl × Int) ByteArray := ⟨[.inBlock 0, .code (c2 (c2 (c2 ZbO.B)))], c1 (c2 (c1 (c2 (c2 ZbO.B)))), fun s_ => [(3, Sl.v s_.1), (6, Sl.v a0), (7, .int .i64 (a0.len : Int)), (8, .int .i64 s_.2)], fun s_ => [], (rt ZbO.out)⟩
noncomputable def ZbO.L1 (a0 : Sl) (s1 : Sl) (s2 : Int) : M (LS (Sl × Int) ByteArray) :=
 if s2 < (a0.len : Int) then
  idx a0.a a0.len s2 1 >>= fun p10 =>
  ld (cI .u8) p10 >>= fun x11 =>
  ZdH (IntKind.wrap .i64 x11) >>= fun r12 =>
  slot 9 >>= fun b13 =>
  appl cS 9 16 ByteArray.empty s1 [r12] >>= fun r14 =>
  pure (LS.next (r14, IntKind.wrap .i64 (s2 + 1)))
 else
  Zas s1 Zv7 >>= fun r15 =>
  pure (LS.done r15)
theorem ZbO.L1_ok (a0 : Sl) : LJ ZbO.cx (ZbO.F1 a0) (fun s_ => ZbO.L1 a0 s_.1 s_.2) := by
 rintro ⟨s1, s2⟩
 show SJ _ _ _ _ (ZbO.L1 a0 s1 s2) _
 unfold ZbO.L1
 refine SJ.sr 1 <| J.z 1 <| SJ.seq <| J.f ?_ ?_
 ·exact SJ.skip <| SJ.seq <| SJ.block (id := 1) <| SJ.sr 3 <| J.i 0 fun p10 => J.l 0 Ty5 fun x11 => J.z 1 <| SJ.rg 7 <| J.C 3 F72 (Zgw _) fun r12 => J.S 0 [r12] Ty9 fun b13 => J.p 0 0 rfl Ty9 fun r14 => J.z 1 <| SJ.inBlock <| SJ.rg 2 <| J.z 2 <| SJ.forget (List.Sublist.cons _ List.Sublist.slnil) <| J.o rfl
 exact SJ.exit (id := 0) (by rfl) <| SJ.sr 3 <| J.C 1 F75 (ZgT _ _) fun r15 => J.z 1 <| J.r
noncomputable def ZbO (a0 : Sl) : M ByteArray :=
 ZcI (fun s_ : (Sl × Int) => ZbO.L1 a0 s_.1 s_.2) (Sl.nil, 0)
theorem Znv (a0 : Sl) : Ref Tryz.prog 120 [Sl.v a0] (ZbO a0) ZbO.out := by
 refine J.Fn Tryz.func120 ?_
 unfold ZbO
 exact SJ.sr 1 <| J.z 1 <| SJ.sr 1 <| J.z 1 <| SJ.seq <| SJ.sr 3 <| J.z 3 <| SJ.block (id := 0) <| J.L (ZbO.L1_ok a0)

/-! ### weir/addr.PrintIP: function 103 -/
noncomputable def Zfg.out (r_ : (ByteArray × Int)) : Value := .tuple #[.string r_.1, .int .i64 r_.2]
noncomputable def Zfg (a0 : Zba) : M (ByteArray × Int) :=
 newv 28 ZaG a0 >>= fun b1 =>
 ld ZaG (pt b1 0) >>= fun x2 =>
 ZfO x2 >>= fun r3 =>
 if ¬ (r3 = true) then
  fail
 else
  ld (cI .i64) (pt b1 0) >>= fun x10 =>
  if x10 = 4 then
   cut 1 ⟨some (Addr.add (pt b1 0) 1), 16, 16⟩ none (some 4) none >>= fun r13 =>
   ZbO r13 >>= fun r14 =>
   pure (r14, 0)
  else
   fail
theorem Zm4 (a0 : Zba) : Ref Tryz.prog 103 [ZaG.val a0] (Zfg a0) Zfg.out := by
 refine J.Fn Tryz.func103 ?_
 unfold Zfg
 refine SJ.sr 3 <| J.B 0 fun b1 => J.z 2 <| SJ.seq <| SJ.block (id := 0) <| SJ.sr 4 <| J.l 0 Ty28 fun x2 => J.C 0 F113 (ZkG _) fun r3 => J.z 2 <| J.f ?_ ?_
 ·exact SJ.fail
 refine SJ.sr 4 <| J.l 1 Ty3 fun x10 => J.z 2 <| J.f ?_ ?_
 ·exact SJ.sr 5 <| J.ca 1 fun r13 => J.C 0 F120 (Znv _) fun r14 => J.z 2 <| J.r
 exact SJ.fail

/-! ### weir/addr.PrintPrefix: function 102 -/
noncomputable def ZdD.out (r_ : (ByteArray × Int)) : Value := .tuple #[.string r_.1, .int .i64 r_.2]
noncomputable def ZdD (a0 : Zad) : M (ByteArray × Int) :=
 slot 111 >>= fun b1 =>
 Zcr a0 >>= fun r2 =>
 if r2 ≠ 0 then
  fail
 else
  Zfg a0.IP >>= fun r3 =>
  chk (((r3.1.size + Zrk.size : Nat) : Int) ≤ 9223372036854775807) >>= fun _ =>
  ZdH a0.Len >>= fun r4 =>
  chk ((((r3.1 ++ Zrk).size + r4.size : Nat) : Int) ≤ 9223372036854775807) >>= fun _ =>
  pure (((r3.1 ++ Zrk) ++ r4), 0)
theorem Zj5 (a0 : Zad) : Ref Tryz.prog 102 [Zav.val a0] (ZdD a0) ZdD.out := by
 refine J.Fn Tryz.func102 ?_
 unfold ZdD
 refine SJ.sr 3 <| J.b 0 Zav a0 fun b1 => J.z 2 <| SJ.seq <| SJ.sr 3 <| J.k 0 0 rfl ZcY (At.whole _) <| J.C 0 F80 (ZeL _) fun r2 => J.z 1 <| SJ.sr 2 <| J.z 2 <| J.f ?_ ?_
 ·exact SJ.fail
 exact SJ.skip <| SJ.sr 8 <| J.k 1 0 rfl Ty28 (Zbz _) <| J.C 0 F103 (Zm4 _) fun r3 => J.z 5 <| SJ.sr 8 <| J.T 1 <| J.k 1 0 rfl Ty3 (ZbS _) <| J.C 0 F72 (Zgw _) fun r4 => J.T 0 <| J.z 2 <| J.r

/-! ### weir/rules.side: function 74 -/
noncomputable def Zax.B : Code := bod Tryz.f74
noncomputable def Zax.cx : Fx := ⟨Tryz.prog, 74, Tryz.f74, none⟩
noncomputable def Zax.out (r_ : ByteArray) : Value := .string r_
noncomputable def Zax.K1 (s14 : Sl) (j27 : ByteArray) : M ByteArray :=
 if (s14.len : Int) > 0 then
  Zas s14 str1 >>= fun r29 =>
  chk (((ZtR.size + r29.size : Nat) : Int) ≤ 9223372036854775807) >>= fun _ =>
  chk (((j27.size + (ZtR ++ r29).size : Nat) : Int) ≤ 9223372036854775807) >>= fun _ =>
  pure (j27 ++ (ZtR ++ r29))
 else
  pure j27
theorem Zax.K1_ok (s14 : Sl) (j27 : ByteArray) :
  SJ Zax.cx [.inBlock 4, .code (c2 (c2 (c2 (c2 (c2 (c2 (c2 Zax.B)))))))] [(6, Sl.v s14), (14, .string j27)] [] (Zax.K1 s14 j27) (rt Zax.out) := by
 unfold Zax.K1
 refine SJ.inBlock <| SJ.seq <| SJ.sr 3 <| J.z 3 <| J.f ?_ ?_
 ·exact SJ.rg 6 <| J.C 2 F75 (ZgT _ _) fun r29 => J.T 0 <| J.T 0 <| J.z 1 <| SJ.sr 2 <| J.z 2 <| J.r
 exact SJ.skip <| SJ.sr 2 <| J.z 2 <| J.r
noncomputable def Zax.K2 (a0 : ByteArray) (a1 : Zaf) (s2 : Sl) (s14 : Sl) : M ByteArray :=
 chk (((ZhX.size + a0.size : Nat) : Int) ≤ 9223372036854775807) >>= fun _ =>
 chk ((((ZhX ++ a0).size + ZhX.size : Nat) : Int) ≤ 9223372036854775807) >>= fun _ =>
 if (s2.len : Int) = 0 then
  chk (((((ZhX ++ a0) ++ ZhX).size + str8.size : Nat) : Int) ≤ 9223372036854775807) >>= fun _ =>
  Zax.K1 s14 (((ZhX ++ a0) ++ ZhX) ++ str8)
 else
  if a1.Not = true then
   fail
  else
   Zas s2 str1 >>= fun r32 =>
   chk (((((ZhX ++ a0) ++ ZhX).size + r32.size : Nat) : Int) ≤ 9223372036854775807) >>= fun _ =>
   Zax.K1 s14 (((ZhX ++ a0) ++ ZhX) ++ r32)
theorem Zax.K2_ok (a0 : ByteArray) (a1 : Zaf) (b1 : Nat) (s2 : Sl) (s14 : Sl) :
  SJ Zax.cx [.code (c2 (c2 (c2 (c2 (c2 Zax.B)))))] [(0, .string a0), (3, .pointer (some (pt b1 0))), (5, Sl.v s2), (6, Sl.v s14)] [(b1, ZaA.enc a1)] (Zax.K2 a0 a1 s2 s14) (rt Zax.out) := by
 unfold Zax.K2
 refine SJ.sr 4 <| J.T 1 <| J.T 0 <| J.z 1 <| SJ.seq <| SJ.block (id := 4) <| SJ.sr 4 <| J.z 4 <| J.f ?_ ?_
 ·exact SJ.rg 3 <| J.T 1 <| J.z 1 <| SJ.forget (List.Sublist.cons _ List.Sublist.slnil) <| J.q <| Zax.K1_ok s14 (((ZhX ++ a0) ++ ZhX) ++ str8)
 refine SJ.sr 3 <| J.k 1 0 rfl Ty4 (ZaL _) <| J.z 1 <| J.f ?_ ?_
 ·exact SJ.fail
 exact SJ.rg 5 <| J.C 2 F75 (ZgT _ _) fun r32 => J.T 0 <| J.z 1 <| SJ.forget (List.Sublist.cons _ List.Sublist.slnil) <| J.q <| Zax.K1_ok s14 (((ZhX ++ a0) ++ ZhX) ++ r32)
noncomputable def Zax.F1 (a0 : ByteArray) (a1 : Zaf) (b1 : Nat) (s2 : Sl) : LF (Sl × Int) ByteArray := ⟨[.inBlock 2, .code (c2 (c2 (c2 (c2 (c2 Zax.B)))))], c1 (c2 (c1 (c2 (c2 (c2 (c2 Zax.B)))))), fun s_ => [(0, .string a0), (3, .pointer (some (pt b1 0))), (5, Sl.v s2), (6, Sl.v s_.1), (61, Sl.v a1.Ports), (62, .int .i64 (a1.Ports.len : Int)), (63, .int .i64 s_.2)], fun s_ => [(b1, ZaA.enc a1)], (rt Zax.out)⟩
noncomputable def Zax.L1 (a0 : ByteArray) (a1 : Zaf) (s2 : Sl) (s14 : Sl) (s15 : Int) : M (LS (Sl × Int) ByteArray) :=
 if s15 < (a1.Ports.len : Int) then
  idx a1.Ports.a a1.Ports.len s15 2 >>= fun p35 =>
  ld Za5 p35 >>= fun x36 =>
  slot 113 >>= fun b37 =>
  ZdH x36.Lo >>= fun r38 =>
  if x36.Hi ≠ x36.Lo then
   fail
  else
   slot 9 >>= fun b39 =>
   appl cS 9 16 ByteArray.empty s14 [r38] >>= fun r40 =>
   pure (LS.next (r40, IntKind.wrap .i64 (s15 + 1)))
 else
  (Zax.K2 a0 a1 s2 s14) >>= fun b => pure (LS.done b)
theorem Zax.L1_ok (a0 : ByteArray) (a1 : Zaf) (b1 : Nat) (s2 : Sl) : LJ Zax.cx (Zax.F1 a0 a1 b1 s2) (fun s_ => Zax.L1 a0 a1 s2 s_.1 s_.2) := by
 rintro ⟨s14, s15⟩
 show SJ _ _ _ _ (Zax.L1 a0 a1 s2 s14 s15) _
 unfold Zax.L1
 refine SJ.sr 1 <| J.z 1 <| SJ.seq <| J.f ?_ ?_
 ·refine SJ.skip <| SJ.seq <| SJ.block (id := 3) <| SJ.sr 4 <| J.i 0 fun p35 => J.l 0 ZgA fun x36 => J.a 0 ZgA fun b37 => J.s 0 0 rfl ZgA (Upd.w x36) <| J.z 0 <| SJ.sr 4 <| J.k 1 0 rfl Ty3 (Zdu _) <| J.C 0 F72 (Zgw _) fun r38 => J.z 1 <| SJ.seq <| SJ.sr 5 <| J.k 1 0 rfl Ty3 (ZdW _) <| J.k 1 0 rfl Ty3 (Zdu _) <| J.z 1 <| J.f ?_ ?_
  ·exact SJ.fail
  exact SJ.skip <| SJ.rg 5 <| J.S 2 [r38] Ty9 fun b39 => J.p 0 0 rfl Ty9 fun r40 => J.z 1 <| SJ.inBlock <| SJ.rg 2 <| J.z 2 <| SJ.forget (List.Sublist.cons _ (List.Sublist.cons _ (List.Sublist.cons_cons _ List.Sublist.slnil))) <| J.o rfl
 exact SJ.exit (id := 2) (by rfl) <| J.q <| SJ.done <| Zax.K2_ok a0 a1 b1 s2 s14
noncomputable def Zax.K3 (a0 : ByteArray) (a1 : Zaf) (s2 : Sl) : M ByteArray :=
 ZcI (fun s_ : (Sl × Int) => Zax.L1 a0 a1 s2 s_.1 s_.2) (Sl.nil, 0)
theorem Zax.K3_ok (a0 : ByteArray) (a1 : Zaf) (b1 : Nat) (s2 : Sl) :
  SJ Zax.cx [.code (c2 (c2 (c2 (c2 Zax.B))))] [(0, .string a0), (3, .pointer (some (pt b1 0))), (5, Sl.v s2), (6, Sl.v Sl.nil)] [(b1, ZaA.enc a1)] (Zax.K3 a0 a1 s2) (rt Zax.out) := by
 unfold Zax.K3
 exact SJ.seq <| SJ.sr 4 <| J.k 1 0 rfl Ty72 (ZaQ _) <| J.z 2 <| SJ.block (id := 2) <| J.L (Zax.L1_ok a0 a1 b1 s2)
noncomputable def Zax.F2 (a0 : ByteArray) (a1 : Zaf) (b1 : Nat) : LF (Sl × Int) ByteArray := ⟨[.inBlock 0, .code (c2 (c2 (c2 (c2 Zax.B))))], c1 (c2 (c1 (c2 (c2 (c2 Zax.B))))), fun s_ => [(0, .string a0), (3, .pointer (some (pt b1 0))), (5, Sl.v s_.1), (6, Sl.v Sl.nil), (24, Sl.v a1.Nets), (25, .int .i64 (a1.Nets.len : Int)), (26, .int .i64 s_.2)], fun s_ => [(b1, ZaA.enc a1)], (rt Zax.out)⟩
noncomputable def Zax.L2 (a0 : ByteArray) (a1 : Zaf) (s2 : Sl) (s3 : Int) : M (LS (Sl × Int) ByteArray) :=
 if s3 < (a1.Nets.len : Int) then
  idx a1.Nets.a a1.Nets.len s3 18 >>= fun p43 =>
  ld Zav p43 >>= fun x44 =>
  slot 111 >>= fun b45 =>
  ZdD x44 >>= fun r46 =>
  (if x44.Len = 32 then
    pure (x44.IP.V == 4)
   else
    pure false) >>= fun y47 =>
  (if y47 = true then
    pure true
   else
    pure (x44.Len == 128)) >>= fun y48 =>
  if y48 = true then
   fail
  else
   slot 9 >>= fun b49 =>
   appl cS 9 16 ByteArray.empty s2 [r46.1] >>= fun r50 =>
   pure (LS.next (r50, IntKind.wrap .i64 (s3 + 1)))
 else
  (Zax.K3 a0 a1 s2) >>= fun b => pure (LS.done b)
theorem Zax.L2_ok (a0 : ByteArray) (a1 : Zaf) (b1 : Nat) : LJ Zax.cx (Zax.F2 a0 a1 b1) (fun s_ => Zax.L2 a0 a1 s_.1 s_.2) := by
 rintro ⟨s2, s3⟩
 show SJ _ _ _ _ (Zax.L2 a0 a1 s2 s3) _
 unfold Zax.L2
 refine SJ.sr 1 <| J.z 1 <| SJ.seq <| J.f ?_ ?_
 ·refine SJ.skip <| SJ.seq <| SJ.block (id := 1) <| SJ.sr 4 <| J.i 0 fun p43 => J.l 0 ZcY fun x44 => J.a 0 ZcY fun b45 => J.s 0 0 rfl ZcY (Upd.w x44) <| J.z 0 <| SJ.sr 7 <| J.k 0 0 rfl ZcY (At.whole _) <| J.C 0 F102 (Zj5 _) fun r46 => J.z 5 <| SJ.seq <| SJ.sr 14 <| J.k 1 0 rfl Ty3 (ZbS _) <| J.j 2 4 .bool ?_ ?_ fun y47 => ?_
  ·exact J.k 2 0 rfl Ty3 (At.trans (Zbz _) (ZcP _)) <| J.e 2
  ·exact J.e 5
  refine J.j 1 3 .bool ?_ ?_ fun y48 => ?_
  ·exact J.e 4
  ·exact J.k 1 0 rfl Ty3 (ZbS _) <| J.e 2
  refine J.z 0 <| J.f ?_ ?_
  ·exact SJ.fail
  exact SJ.skip <| SJ.rg 5 <| J.S 2 [r46.1] Ty9 fun b49 => J.p 0 0 rfl Ty9 fun r50 => J.z 1 <| SJ.inBlock <| SJ.rg 2 <| J.z 2 <| SJ.forget (List.Sublist.cons _ (List.Sublist.cons _ (List.Sublist.cons_cons _ List.Sublist.slnil))) <| J.o rfl
 exact SJ.exit (id := 0) (by rfl) <| J.q <| SJ.done <| Zax.K3_ok a0 a1 b1 s2
noncomputable def Zax (a0 : ByteArray) (a1 : Zaf) : M ByteArray :=
 slot 74 >>= fun b1 =>
 if (IntKind.wrap .i64 ((a1.Nets.len : Int) + (a1.Ports.len : Int))) = 0 then
  fail
 else
  ZcI (fun s_ : (Sl × Int) => Zax.L2 a0 a1 s_.1 s_.2) (Sl.nil, 0)
theorem Zkk (a0 : ByteArray) (a1 : Zaf) : Ref Tryz.prog 74 [.string a0, ZaA.val a1] (Zax a0 a1) Zax.out := by
 refine J.Fn Tryz.func74 ?_
 unfold Zax
 refine SJ.sr 2 <| J.b 0 ZaA a1 fun b1 => J.z 1 <| SJ.seq <| SJ.sr 8 <| J.k 1 0 rfl Ty71 (Zaw _) <| J.k 2 0 rfl Ty72 (ZaQ _) <| J.z 3 <| J.f ?_ ?_
 ·exact SJ.fail
 exact SJ.skip <| SJ.sr 2 <| J.z 2 <| SJ.seq <| SJ.sr 4 <| J.k 1 0 rfl Ty71 (Zaw _) <| J.z 2 <| SJ.block (id := 0) <| J.L (Zax.L2_ok a0 a1 b1)

/-! ### weir/rules.write: function 43 -/
noncomputable def Zbg.B : Code := bod Tryz.f43
noncomputable def Zbg.cx : Fx := ⟨Tryz.prog, 43, Tryz.f43, none⟩
noncomputable def Zbg.out (r_ : ByteArray) : Value := .string r_
noncomputable def Zbg.K1 (a0 : Zae) (x4 : ByteArray) (r5 : ByteArray) (r6 : ByteArray) (r7 : ByteArray) (s9 : Sl) : M ByteArray :=
 if (s9.len : Int) > 0 then
  fail
 else
  if a0.Type_ > 0 then
   fail
  else
   if a0.Pieces = true then
    fail
   else
    pure ((x4 ++ r5) ++ (r6 ++ r7))
theorem Zbg.K1_ok (a0 : Zae) (b1 : Nat) (x4 : ByteArray) (r5 : ByteArray) (r6 : ByteArray) (r7 : ByteArray) (s9 : Sl) :
  SJ Zbg.cx [.code (c2 (c2 (c2 (c2 (c2 (c2 (c2 (c2 (c2 Zbg.B)))))))))] [(1, .pointer (some (pt b1 0))), (3, .string ((x4 ++ r5) ++ (r6 ++ r7))), (4, Sl.v s9)] [(b1, Zak.enc a0)] (Zbg.K1 a0 x4 r5 r6 r7 s9) (rt Zbg.out) := by
 unfold Zbg.K1
 refine SJ.seq <| SJ.sr 3 <| J.z 3 <| J.f ?_ ?_
 ·exact SJ.fail
 refine SJ.skip <| SJ.seq <| SJ.sr 3 <| J.k 1 0 rfl Ty3 (ZcA _) <| J.z 1 <| J.f ?_ ?_
 ·exact SJ.fail
 refine SJ.skip <| SJ.seq <| SJ.sr 2 <| J.k 1 0 rfl Ty4 (Zed _) <| J.z 0 <| J.f ?_ ?_
 ·exact SJ.fail
 exact SJ.skip <| SJ.sr 2 <| J.z 2 <| J.r
noncomputable def Zbg.F1 (a0 : Zae) (b1 : Nat) (x4 : ByteArray) (r5 : ByteArray) (r6 : ByteArray) (r7 : ByteArray) (x8 : Sl) : LF (Sl × Int) ByteArray := ⟨[.inBlock 0, .code (c2 (c2 (c2 (c2 (c2 (c2 (c2 (c2 (c2 Zbg.B)))))))))], c1 (c2 (c1 (c2 (c2 (c2 (c2 (c2 (c2 (c2 (c2 Zbg.B)))))))))), fun s_ => [(1, .pointer (some (pt b1 0))), (3, .string ((x4 ++ r5) ++ (r6 ++ r7))), (4, Sl.v s_.1), (54, Sl.v x8), (55, .int .i64 (x8.len : Int)), (56, .int .i64 s_.2)], fun s_ => [(b1, Zak.enc a0)], (rt Zbg.out)⟩
noncomputable def Zbg.L1 (a0 : Zae) (x4 : ByteArray) (r5 : ByteArray) (r6 : ByteArray) (r7 : ByteArray) (x8 : Sl) (s9 : Sl) (s10 : Int) : M (LS (Sl × Int) ByteArray) :=
 if s10 < (x8.len : Int) then
  idx x8.a x8.len s10 1 >>= fun p21 =>
  ld cS p21 >>= fun x22 =>
  chk (0 ≤ (IntKind.wrap .u64 s10)) >>= fun _ =>
  if (band .i64 (Int.fdiv a0.Set (2 ^ min (Int.toNat (IntKind.wrap .u64 s10)) 64)) 1) = 1 then
   fail
  else
   chk (0 ≤ (IntKind.wrap .u64 s10)) >>= fun _ =>
   if (band .i64 (Int.fdiv a0.Clear (2 ^ min (Int.toNat (IntKind.wrap .u64 s10)) 64)) 1) = 1 then
    fail
   else
    pure (LS.next (s9, IntKind.wrap .i64 (s10 + 1)))
 else
  (Zbg.K1 a0 x4 r5 r6 r7 s9) >>= fun b => pure (LS.done b)
theorem Zbg.L1_ok (a0 : Zae) (b1 : Nat) (x4 : ByteArray) (r5 : ByteArray) (r6 : ByteArray) (r7 : ByteArray) (x8 : Sl) : LJ Zbg.cx (Zbg.F1 a0 b1 x4 r5 r6 r7 x8) (fun s_ => Zbg.L1 a0 x4 r5 r6 r7 x8 s_.1 s_.2) := by
 rintro ⟨s9, s10⟩
 show SJ _ _ _ _ (Zbg.L1 a0 x4 r5 r6 r7 x8 s9 s10) _
 unfold Zbg.L1
 refine SJ.sr 1 <| J.z 1 <| SJ.seq <| J.f ?_ ?_
 ·refine SJ.skip <| SJ.seq <| SJ.block (id := 1) <| SJ.sr 5 <| J.i 1 fun p21 => J.l 0 Ty9 fun x22 => J.z 2 <| SJ.seq <| SJ.sr 7 <| J.k 1 0 rfl Ty3 (Zce _) <| J.g 2 <| OJ.shr (d := 65) (T := 3) (yT := 164) (y := .tmp 62) (z := .tmp 64) (k := .i64) (yk := .u64) (p := a0.Set) (q := (IntKind.wrap .u64 s10)) fun hq26 => J.z 2 <| J.f ?_ ?_
  ·exact SJ.fail
  refine SJ.skip <| SJ.sr 7 <| J.k 1 0 rfl Ty3 (ZbY _) <| J.g 2 <| OJ.shr (d := 76) (T := 3) (yT := 164) (y := .tmp 73) (z := .tmp 75) (k := .i64) (yk := .u64) (p := a0.Clear) (q := (IntKind.wrap .u64 s10)) fun hq24 => J.z 2 <| J.f ?_ ?_
  ·exact SJ.fail
  exact SJ.skip <| SJ.inBlock <| SJ.rg 2 <| J.z 2 <| J.o rfl
 exact SJ.exit (id := 0) (by rfl) <| J.q <| SJ.done <| Zbg.K1_ok a0 b1 x4 r5 r6 r7 s9
noncomputable def Zbg (a0 : Zae) : M ByteArray :=
 slot 76 >>= fun b1 =>
 ld cL ⟨0, 0, none⟩ >>= fun x2 =>
 idx x2.a x2.len (IntKind.wrap .i64 (a0.Act - 1)) 1 >>= fun p3 =>
 ld cS p3 >>= fun x4 =>
 if a0.Class > 0 then
  fail
 else
  Zgg a0 >>= fun r5 =>
  chk (((x4.size + r5.size : Nat) : Int) ≤ 9223372036854775807) >>= fun _ =>
  if a0.In > 0 then
   fail
  else
   if a0.Vid > 0 then
    fail
   else
    draw >>= fun _ =>
    Zax ZpO a0.From >>= fun r6 =>
    Zax Zsa a0.To >>= fun r7 =>
    chk (((r6.size + r7.size : Nat) : Int) ≤ 9223372036854775807) >>= fun _ =>
    chk ((((x4 ++ r5).size + (r6 ++ r7).size : Nat) : Int) ≤ 9223372036854775807) >>= fun _ =>
    ld cL ⟨2, 0, none⟩ >>= fun x8 =>
    ZcI (fun s_ : (Sl × Int) => Zbg.L1 a0 x4 r5 r6 r7 x8 s_.1 s_.2) (Sl.nil, 0)
theorem Znn (a0 : Zae) : Ref Tryz.prog 43 [Zak.val a0] (Zbg a0) Zbg.out := by
 refine J.Fn Tryz.func43 ?_
 unfold Zbg
 refine SJ.sr 2 <| J.b 0 Zak a0 fun b1 => J.z 1 <| SJ.sr 7 <| J.l 0 Ztx fun x2 => J.k 1 0 rfl Ty3 (Zcq _) <| J.i 1 fun p3 => J.l 0 Ty9 fun x4 => J.z 1 <| SJ.seq <| SJ.sr 3 <| J.k 1 0 rfl Ty3 (Zdj _) <| J.z 1 <| J.f ?_ ?_
 ·exact SJ.fail
 refine SJ.skip <| SJ.sr 5 <| J.k 1 0 rfl Ty76 (At.whole _) <| J.C 0 F73 (Zog _) fun r5 => J.T 0 <| J.z 1 <| SJ.seq <| SJ.sr 3 <| J.k 1 0 rfl Ty3 (ZdM _) <| J.z 1 <| J.f ?_ ?_
 ·exact SJ.fail
 refine SJ.skip <| SJ.seq <| SJ.sr 3 <| J.k 1 0 rfl Ty3 (Zdt _) <| J.z 1 <| J.f ?_ ?_
 ·exact SJ.fail
 exact SJ.skip <| SJ.seq <| J.D [0, 1, 2, 4, 5, 3, 6, 7, 8, 9] Zcs <| J.k 2 0 rfl Ty74 (ZbU _) <| J.k 1 0 rfl Ty74 (ZbW _) <| OJ.call (d := 48) (g := 74) (ats := #[9, 74]) (args := [.const (.string ZpO), .tmp 47]) (owed := [⟨5, 74, (pt b1 9), ZaA.val a0.To⟩]) F74 (Zkk ZpO a0.From) fun r6 => OW.known (j := 0) (q := a0.To) Ty74 rfl (ZbW a0) <| OW.nil <| J.C 0 F74 (Zkk _ _) fun r7 => J.T 0 <| J.T 0 <| J.z 1 <| SJ.sr 1 <| J.z 1 <| SJ.seq <| SJ.sr 3 <| J.l 0 Ztx fun x8 => J.z 2 <| SJ.block (id := 0) <| J.L (Zbg.L1_ok a0 b1 x4 r5 r6 r7 x8)

/-! ### weir/rules.PrintRule: function 18 -/
noncomputable def Zdr.out (r_ : (ByteArray × Int)) : Value := .tuple #[.string r_.1, .int .i64 r_.2]
noncomputable def Zdr (a0 : Zae) : M (ByteArray × Int) :=
 slot 76 >>= fun b1 =>
 Za1 a0 >>= fun r2 =>
 if r2 ≠ 0 then
  fail
 else
  Zbg a0 >>= fun r3 =>
  pure (r3, 0)
theorem Zkn (a0 : Zae) : Ref Tryz.prog 18 [Zak.val a0] (Zdr a0) Zdr.out := by
 refine J.Fn Tryz.func18 ?_
 unfold Zdr
 refine SJ.sr 3 <| J.b 0 Zak a0 fun b1 => J.z 2 <| SJ.seq <| SJ.sr 3 <| J.k 0 0 rfl Ty76 (At.whole _) <| J.C 0 F13 (Zhq _) fun r2 => J.z 1 <| SJ.sr 2 <| J.z 2 <| J.f ?_ ?_
 ·exact SJ.fail
 exact SJ.skip <| SJ.sr 4 <| J.k 0 0 rfl Ty76 (At.whole _) <| J.C 0 F43 (Znn _) fun r3 => J.z 2 <| J.r

/-! ### weir/weirref16.SameSide: function 44 -/
noncomputable def Zah.B : Code := bod Tryz.f44
noncomputable def Zah.cx : Fx := ⟨Tryz.prog, 44, Tryz.f44, none⟩
noncomputable def Zah.out (r_ : Bool) : Value := .bool r_
noncomputable def Zah.F1 (a0 : Zaf) (a1 : Zaf) (b1 : Nat) (b2 : Nat) : LF Int Bool := ⟨[.inBlock 2, .code (c2 (c2 (c2 (c2 Zah.B))))], c1 (c2 (c1 (c2 (c2 (c2 Zah.B))))), fun s_ => [(2, .pointer (some (pt b1 0))), (3, .pointer (some (pt b2 0))), (6, .int .i64 s_)], fun s_ => [(b2, ZaA.enc a1), (b1, ZaA.enc a0)], (rt Zah.out)⟩
noncomputable def Zah.L1 (a0 : Zaf) (a1 : Zaf) (s12 : Int) : M (LS Int Bool) :=
 if s12 < (a0.Ports.len : Int) then
  draw >>= fun _ =>
  idx a0.Ports.a a0.Ports.len s12 2 >>= fun p19 =>
  ld Za5 p19 >>= fun x20 =>
  idx a1.Ports.a a1.Ports.len s12 2 >>= fun p21 =>
  ld Za5 p21 >>= fun x22 =>
  if ¬ (x20 = x22) then
   pure (LS.done false)
  else
   pure (LS.next (IntKind.wrap .i64 (s12 + 1)))
 else
  pure (LS.done true)
theorem Zah.L1_ok (a0 : Zaf) (a1 : Zaf) (b1 : Nat) (b2 : Nat) : LJ Zah.cx (Zah.F1 a0 a1 b1 b2) (fun s_ => Zah.L1 a0 a1 s_) := by
 rintro s12
 show SJ _ _ _ _ (Zah.L1 a0 a1 s12) _
 unfold Zah.L1
 refine SJ.seq <| SJ.sr 5 <| J.k 2 1 rfl Ty72 (ZaQ _) <| J.z 2 <| J.f ?_ ?_
 ·refine SJ.skip <| SJ.seq <| SJ.block (id := 3) <| SJ.seq <| J.R 11 Zcs <| J.k 1 1 rfl Ty72 (ZaQ _) <| J.i 1 fun p19 => J.l 0 ZgA fun x20 => J.k 1 0 rfl Ty72 (ZaQ _) <| J.i 1 fun p21 => J.l 0 ZgA fun x22 => OJ.neq (d := 65) (T := 113) (yT := 113) (y := .tmp 59) (z := .tmp 64) (cd := Za5) (p := x20) (q := x22) rfl Zw8 <| J.z 0 <| J.f ?_ ?_
  ·exact SJ.sr 1 <| J.z 1 <| J.r
  exact SJ.skip <| SJ.inBlock <| SJ.rg 3 <| J.z 3 <| J.o rfl
 exact SJ.exit (id := 2) (by rfl) <| SJ.sr 1 <| J.z 1 <| J.r
noncomputable def Zah.K1 (a0 : Zaf) (a1 : Zaf) : M Bool :=
 ZcI (fun s_ : Int => Zah.L1 a0 a1 s_) 0
theorem Zah.K1_ok (a0 : Zaf) (a1 : Zaf) (b1 : Nat) (b2 : Nat) :
  SJ Zah.cx [.code (c2 (c2 (c2 Zah.B)))] [(2, .pointer (some (pt b1 0))), (3, .pointer (some (pt b2 0)))] [(b2, ZaA.enc a1), (b1, ZaA.enc a0)] (Zah.K1 a0 a1) (rt Zah.out) := by
 unfold Zah.K1
 exact SJ.seq <| SJ.sr 1 <| J.z 1 <| SJ.block (id := 2) <| J.L (Zah.L1_ok a0 a1 b1 b2)
noncomputable def Zah.F2 (a0 : Zaf) (a1 : Zaf) (b1 : Nat) (b2 : Nat) : LF Int Bool := ⟨[.inBlock 0, .code (c2 (c2 (c2 Zah.B)))], c1 (c2 (c1 (c2 (c2 Zah.B)))), fun s_ => [(2, .pointer (some (pt b1 0))), (3, .pointer (some (pt b2 0))), (5, .int .i64 s_)], fun s_ => [(b2, ZaA.enc a1), (b1, ZaA.enc a0)], (rt Zah.out)⟩
noncomputable def Zah.L2 (a0 : Zaf) (a1 : Zaf) (s5 : Int) : M (LS Int Bool) :=
 if s5 < (a0.Nets.len : Int) then
  draw >>= fun _ =>
  idx a0.Nets.a a0.Nets.len s5 18 >>= fun p25 =>
  ld Zav p25 >>= fun x26 =>
  idx a1.Nets.a a1.Nets.len s5 18 >>= fun p27 =>
  ld Zav p27 >>= fun x28 =>
  if ¬ (x26 = x28) then
   pure (LS.done false)
  else
   pure (LS.next (IntKind.wrap .i64 (s5 + 1)))
 else
  (Zah.K1 a0 a1) >>= fun b => pure (LS.done b)
theorem Zah.L2_ok (a0 : Zaf) (a1 : Zaf) (b1 : Nat) (b2 : Nat) : LJ Zah.cx (Zah.F2 a0 a1 b1 b2) (fun s_ => Zah.L2 a0 a1 s_) := by
 rintro s5
 show SJ _ _ _ _ (Zah.L2 a0 a1 s5) _
 unfold Zah.L2
 refine SJ.seq <| SJ.sr 5 <| J.k 2 1 rfl Ty71 (Zaw _) <| J.z 2 <| J.f ?_ ?_
 ·refine SJ.skip <| SJ.seq <| SJ.block (id := 1) <| SJ.seq <| J.R 11 Zcs <| J.k 1 1 rfl Ty71 (Zaw _) <| J.i 1 fun p25 => J.l 0 ZcY fun x26 => J.k 1 0 rfl Ty71 (Zaw _) <| J.i 1 fun p27 => J.l 0 ZcY fun x28 => OJ.neq (d := 47) (T := 111) (yT := 111) (y := .tmp 41) (z := .tmp 46) (cd := Zav) (p := x26) (q := x28) rfl Zw9 <| J.z 0 <| J.f ?_ ?_
  ·exact SJ.sr 1 <| J.z 1 <| J.r
  exact SJ.skip <| SJ.inBlock <| SJ.rg 3 <| J.z 3 <| J.o rfl
 exact SJ.exit (id := 0) (by rfl) <| J.q <| SJ.done <| Zah.K1_ok a0 a1 b1 b2
noncomputable def Zah (a0 : Zaf) (a1 : Zaf) : M Bool :=
 slot 74 >>= fun b1 =>
 slot 74 >>= fun b2 =>
 (if ¬ (a0.Not = a1.Not) then
   pure true
  else
   pure ((a0.Nets.len : Int) != (a1.Nets.len : Int))) >>= fun y3 =>
 (if y3 = true then
   pure true
  else
   pure ((a0.Ports.len : Int) != (a1.Ports.len : Int))) >>= fun y4 =>
 if y4 = true then
  pure false
 else
  ZcI (fun s_ : Int => Zah.L2 a0 a1 s_) 0
theorem Zgr (a0 : Zaf) (a1 : Zaf) : Ref Tryz.prog 44 [ZaA.val a0, ZaA.val a1] (Zah a0 a1) Zah.out := by
 refine J.Fn Tryz.func44 ?_
 unfold Zah
 refine SJ.sr 3 <| J.b 0 ZaA a0 fun b1 => J.b 0 ZaA a1 fun b2 => J.z 1 <| SJ.seq <| SJ.sr 23 <| J.k 1 1 rfl Ty4 (ZaL _) <| J.k 1 0 rfl Ty4 (ZaL _) <| J.j 2 7 .bool ?_ ?_ fun y3 => ?_
 ·exact J.e 8
 ·exact J.k 1 1 rfl Ty71 (Zaw _) <| J.k 2 0 rfl Ty71 (Zaw _) <| J.e 3
 refine J.j 1 7 .bool ?_ ?_ fun y4 => ?_
 ·exact J.e 8
 ·exact J.k 1 1 rfl Ty72 (ZaQ _) <| J.k 2 0 rfl Ty72 (ZaQ _) <| J.e 3
 refine J.z 0 <| J.f ?_ ?_
 ·exact SJ.sr 1 <| J.z 1 <| J.r
 exact SJ.skip <| SJ.seq <| SJ.sr 1 <| J.z 1 <| SJ.block (id := 0) <| J.L (Zah.L2_ok a0 a1 b1 b2)

/-! ### weir/weirref16.Same: function 19 -/
noncomputable def Zeg.out (r_ : Bool) : Value := .bool r_
noncomputable def Zeg (a0 : Zae) (a1 : Zae) : M Bool :=
 slot 76 >>= fun b1 =>
 slot 76 >>= fun b2 =>
 (if a0.Act ≠ a1.Act then
   pure true
  else
   pure (a0.Class != a1.Class)) >>= fun y3 =>
 (if y3 = true then
   pure true
  else
   pure (a0.Kind != a1.Kind)) >>= fun y4 =>
 (if y4 = true then
   pure true
  else
   pure (a0.Proto != a1.Proto)) >>= fun y5 =>
 (if y5 = true then
   pure true
  else
   pure (a0.In != a1.In)) >>= fun y6 =>
 (if y6 = true then
   pure true
  else
   pure (a0.Vid != a1.Vid)) >>= fun y7 =>
 if y7 = true then
  pure false
 else
  (if a0.Set ≠ a1.Set then
    pure true
   else
    pure (a0.Clear != a1.Clear)) >>= fun y8 =>
  (if y8 = true then
    pure true
   else
    pure (a0.Type_ != a1.Type_)) >>= fun y9 =>
  (if y9 = true then
    pure true
   else
    pure (!(a0.Pieces == a1.Pieces))) >>= fun y10 =>
  if y10 = true then
   pure false
  else
   Zah a0.From a1.From >>= fun r11 =>
   (if r11 = true then
     Zah a0.To a1.To >>= fun r12 =>
     pure r12
    else
     pure false) >>= fun y13 =>
   pure y13
theorem ZkX (a0 : Zae) (a1 : Zae) : Ref Tryz.prog 19 [Zak.val a0, Zak.val a1] (Zeg a0 a1) Zeg.out := by
 refine J.Fn Tryz.func19 ?_
 unfold Zeg
 refine SJ.sr 3 <| J.b 0 Zak a0 fun b1 => J.b 0 Zak a1 fun b2 => J.z 1 <| SJ.seq <| SJ.sr 40 <| J.k 1 1 rfl Ty3 (Zcq _) <| J.k 1 0 rfl Ty3 (Zcq _) <| J.j 2 5 .bool ?_ ?_ fun y3 => ?_
 ·exact J.e 6
 ·exact J.k 1 1 rfl Ty3 (Zdj _) <| J.k 1 0 rfl Ty3 (Zdj _) <| J.e 2
 refine J.j 1 5 .bool ?_ ?_ fun y4 => ?_
 ·exact J.e 6
 ·exact J.k 1 1 rfl Ty3 (Zb7 _) <| J.k 1 0 rfl Ty3 (Zb7 _) <| J.e 2
 refine J.j 1 5 .bool ?_ ?_ fun y5 => ?_
 ·exact J.e 6
 ·exact J.k 1 1 rfl Ty3 (ZbE _) <| J.k 1 0 rfl Ty3 (ZbE _) <| J.e 2
 refine J.j 1 5 .bool ?_ ?_ fun y6 => ?_
 ·exact J.e 6
 ·exact J.k 1 1 rfl Ty3 (ZdM _) <| J.k 1 0 rfl Ty3 (ZdM _) <| J.e 2
 refine J.j 1 5 .bool ?_ ?_ fun y7 => ?_
 ·exact J.e 6
 ·exact J.k 1 1 rfl Ty3 (Zdt _) <| J.k 1 0 rfl Ty3 (Zdt _) <| J.e 2
 refine J.z 0 <| J.f ?_ ?_
 ·exact SJ.sr 1 <| J.z 1 <| J.r
 refine SJ.skip <| SJ.seq <| SJ.sr 26 <| J.k 1 1 rfl Ty3 (Zce _) <| J.k 1 0 rfl Ty3 (Zce _) <| J.j 2 5 .bool ?_ ?_ fun y8 => ?_
 ·exact J.e 6
 ·exact J.k 1 1 rfl Ty3 (ZbY _) <| J.k 1 0 rfl Ty3 (ZbY _) <| J.e 2
 refine J.j 1 5 .bool ?_ ?_ fun y9 => ?_
 ·exact J.e 6
 ·exact J.k 1 1 rfl Ty3 (ZcA _) <| J.k 1 0 rfl Ty3 (ZcA _) <| J.e 2
 refine J.j 1 5 .bool ?_ ?_ fun y10 => ?_
 ·exact J.e 6
 ·exact J.k 1 1 rfl Ty4 (Zed _) <| J.k 1 0 rfl Ty4 (Zed _) <| J.e 2
 refine J.z 0 <| J.f ?_ ?_
 ·exact SJ.sr 1 <| J.z 1 <| J.r
 refine SJ.skip <| SJ.sr 13 <| J.k 1 1 rfl Ty74 (ZbU _) <| J.k 1 0 rfl Ty74 (ZbU _) <| J.C 0 F44 (Zgr _ _) fun r11 => J.j 1 5 .bool ?_ ?_ fun y13 => ?_
 ·exact J.k 1 1 rfl Ty74 (ZbW _) <| J.k 1 0 rfl Ty74 (ZbW _) <| J.C 0 F44 (Zgr _ _) fun r12 => J.e 1
 ·exact J.e 6
 exact J.z 1 <| J.r

/-! ### weir/weirlaw16.started: function 7 -/
noncomputable def Zcu.out (r_ : Bool) : Value := .bool r_
noncomputable def Zcu  : M Bool :=
 Zdl >>= fun r1 =>
 slot 76 >>= fun b2 =>
 Zam r1.1 >>= fun r3 =>
 slot 76 >>= fun b4 =>
 Zdr r1.2 >>= fun r5 =>
 Zdk r3.2.1 >>= fun r6 =>
 (if r6 = 0 then
   pure (r3.2.2 == 0)
  else
   pure false) >>= fun y7 =>
 (if y7 = true then
   Zeg r3.1 r1.2 >>= fun r8 =>
   pure r8
  else
   pure false) >>= fun y9 =>
 (if y9 = true then
   Zdk r5.2 >>= fun r10 =>
   pure (r10 == 0)
  else
   pure false) >>= fun y11 =>
 (if y11 = true then
   pure (r5.1.toList == r1.1.toList)
  else
   pure false) >>= fun y12 =>
 (if y12 = true then
   Za1 r1.2 >>= fun r13 =>
   Zdk r13 >>= fun r14 =>
   pure (r14 == 0)
  else
   pure false) >>= fun y15 =>
 pure y15
theorem ZgC  : Ref Tryz.prog 7 [] (Zcu) Zcu.out := by
 refine J.Fn Tryz.func7 ?_
 unfold Zcu
 refine SJ.sr 1 <| J.z 1 <| SJ.sr 7 <| J.C 0 F16 ZkZ fun r1 => J.a 3 Ty76 fun b2 => J.s 1 0 rfl Ty76 (Upd.w r1.2) <| J.z 0 <| SJ.sr 10 <| J.C 1 F17 (Zko _) fun r3 => J.a 4 Ty76 fun b4 => J.s 0 0 rfl Ty76 (Upd.w r3.1) <| J.z 2 <| SJ.sr 7 <| J.k 0 1 rfl Ty76 (At.whole _) <| J.C 0 F18 (Zkn _) fun r5 => J.z 5 <| SJ.sr 29 <| J.C 1 F6 (ZfA _) fun r6 => J.j 2 2 .bool ?_ ?_ fun y7 => ?_
 ·exact J.e 3
 ·exact J.e 3
 refine J.j 1 3 .bool ?_ ?_ fun y9 => ?_
 ·exact J.k 0 0 rfl Ty76 (At.whole _) <| J.k 0 1 rfl Ty76 (At.whole _) <| J.C 0 F19 (ZkX _ _) fun r8 => J.e 1
 ·exact J.e 4
 refine J.j 1 3 .bool ?_ ?_ fun y11 => ?_
 ·exact J.C 1 F6 (ZfA _) fun r10 => J.e 2
 ·exact J.e 4
 refine J.j 1 3 .bool ?_ ?_ fun y12 => ?_
 ·exact J.e 4
 ·exact J.e 4
 refine J.j 1 4 .bool ?_ ?_ fun y15 => ?_
 ·exact J.k 0 1 rfl Ty76 (At.whole _) <| J.C 0 F13 (Zhq _) fun r13 => J.C 0 F6 (ZfA _) fun r14 => J.e 2
 ·exact J.e 5
 exact J.z 1 <| J.r

/-! ### weir/weirref7.copied: function 45 -/
noncomputable def Zc1.out (r_ : Sl) : Value := Sl.v r_
noncomputable def Zc1 (a0 : Sl) : M Sl :=
 appS (cI .u8) 5 1 0 Sl.nil a0 >>= fun r1 =>
 pure r1
theorem ZfR (a0 : Sl) : Ref Tryz.prog 45 [Sl.v a0] (Zc1 a0) Zc1.out := by
 refine J.Fn Tryz.func45 ?_
 unfold Zc1
 exact SJ.sr 1 <| J.z 1 <| SJ.sr 1 <| J.z 1 <| SJ.sr 4 <| J.g 2 <| OJ.appS (d := 6) (t := 32) (u := 32) (so := .tmp 4) (xo := .tmp 5) (owed := []) Ty5 fun r1 => OW.nil <| J.z 1 <| J.r

/-! ### weir/weirref7.CloneOpts: function 20 -/
noncomputable def ZaO.B : Code := bod Tryz.f20
noncomputable def ZaO.cx : Fx := ⟨Tryz.prog, 20, Tryz.f20, none⟩
noncomputable def ZaO.out (r_ : Sl) : Value := Sl.v r_
noncomputable def ZaO.F1 (a0 : Sl) : LF (Sl × Int) Sl := ⟨[.inBlock 0, .code (c2 (c2 (c2 ZaO.B)))], c1 (c2 (c1 (c2 (c2 ZaO.B)))), fun s_ => [(0, Sl.v a0), (3, Sl.v s_.1), (4, .int .i64 s_.2)], fun s_ => [], (rt ZaO.out)⟩
noncomputable def ZaO.L1 (a0 : Sl) (s1 : Sl) (s2 : Int) : M (LS (Sl × Int) Sl) :=
 if s2 < (a0.len : Int) then
  draw >>= fun _ =>
  idx a0.a a0.len s2 2 >>= fun p11 =>
  ld (cI .i64) p11 >>= fun x12 =>
  idx a0.a a0.len s2 2 >>= fun p13 =>
  ld cL (Addr.add p13 1) >>= fun x14 =>
  Zc1 x14 >>= fun r15 =>
  same (cI .i64) p11 x12 >>= fun _ =>
  slot 129 >>= fun b16 =>
  appl ZbB 129 32 Zmb s1 [(⟨x12, r15⟩ : ZdC)] >>= fun r17 =>
  pure (LS.next (r17, IntKind.wrap .i64 (s2 + 1)))
 else
  pure (LS.done s1)
theorem ZaO.L1_ok (a0 : Sl) : LJ ZaO.cx (ZaO.F1 a0) (fun s_ => ZaO.L1 a0 s_.1 s_.2) := by
 rintro ⟨s1, s2⟩
 show SJ _ _ _ _ (ZaO.L1 a0 s1 s2) _
 unfold ZaO.L1
 refine SJ.seq <| SJ.sr 4 <| J.z 4 <| J.f ?_ ?_
 ·exact SJ.skip <| SJ.seq <| SJ.block (id := 1) <| J.R 16 Zcs <| J.i 3 fun p11 => J.l 1 Ty3 fun x12 => J.i 2 fun p13 => J.l 1 Ty32 fun x14 => OJ.call (d := 22) (g := 45) (ats := #[32]) (args := [.tmp 21]) (owed := [⟨5, 3, p11, (cI .i64).val x12⟩]) F45 (ZfR x14) fun r15 => OW.same Ty3 <| OW.nil <| J.u 0 ZvU (.f 0 (Znb _ x12) (.f 1 (Znc _ r15) .nil)) <| J.S 0 [(⟨x12, r15⟩ : ZdC)] ZvU fun b16 => J.p 0 0 rfl ZvU fun r17 => J.z 1 <| SJ.inBlock <| SJ.rg 3 <| J.z 3 <| SJ.forget (List.Sublist.cons _ List.Sublist.slnil) <| J.o rfl
 exact SJ.exit (id := 0) (by rfl) <| SJ.sr 2 <| J.z 2 <| J.r
noncomputable def ZaO (a0 : Sl) : M Sl :=
 ZcI (fun s_ : (Sl × Int) => ZaO.L1 a0 s_.1 s_.2) (Sl.nil, 0)
theorem Zfa (a0 : Sl) : Ref Tryz.prog 20 [Sl.v a0] (ZaO a0) ZaO.out := by
 refine J.Fn Tryz.func20 ?_
 unfold ZaO
 exact SJ.sr 1 <| J.z 1 <| SJ.sr 1 <| J.z 1 <| SJ.seq <| SJ.sr 1 <| J.z 1 <| SJ.block (id := 0) <| J.L (ZaO.L1_ok a0)

/-! ### weir/weirref10.copied: function 21 -/
noncomputable def ZcL.out (r_ : Sl) : Value := Sl.v r_
noncomputable def ZcL (a0 : Sl) : M Sl :=
 appS (cI .u8) 5 1 0 Sl.nil a0 >>= fun r1 =>
 pure r1
theorem ZeE (a0 : Sl) : Ref Tryz.prog 21 [Sl.v a0] (ZcL a0) ZcL.out := by
 refine J.Fn Tryz.func21 ?_
 unfold ZcL
 exact SJ.sr 1 <| J.z 1 <| SJ.sr 1 <| J.z 1 <| SJ.sr 4 <| J.g 2 <| OJ.appS (d := 6) (t := 32) (u := 32) (so := .tmp 4) (xo := .tmp 5) (owed := []) Ty5 fun r1 => OW.nil <| J.z 1 <| J.r

/-! ### weir/weirref7.CloneExts: function 46 -/
noncomputable def ZaT.B : Code := bod Tryz.f46
noncomputable def ZaT.cx : Fx := ⟨Tryz.prog, 46, Tryz.f46, none⟩
noncomputable def ZaT.out (r_ : Sl) : Value := Sl.v r_
noncomputable def ZaT.F1 (a0 : Sl) : LF (Sl × Int) Sl := ⟨[.inBlock 0, .code (c2 (c2 (c2 ZaT.B)))], c1 (c2 (c1 (c2 (c2 ZaT.B)))), fun s_ => [(0, Sl.v a0), (3, Sl.v s_.1), (4, .int .i64 s_.2)], fun s_ => [], (rt ZaT.out)⟩
noncomputable def ZaT.L1 (a0 : Sl) (s1 : Sl) (s2 : Int) : M (LS (Sl × Int) Sl) :=
 if s2 < (a0.len : Int) then
  draw >>= fun _ =>
  idx a0.a a0.len s2 3 >>= fun p14 =>
  ld (cI .i64) p14 >>= fun x15 =>
  idx a0.a a0.len s2 3 >>= fun p16 =>
  ld cL (Addr.add p16 1) >>= fun x17 =>
  idx a0.a a0.len s2 3 >>= fun p18 =>
  ld cL (Addr.add p18 2) >>= fun x19 =>
  ZaO x17 >>= fun r20 =>
  same cL (Addr.add p18 2) x19 >>= fun _ =>
  same (cI .i64) p14 x15 >>= fun _ =>
  Zc1 x19 >>= fun r21 =>
  same (cI .i64) p14 x15 >>= fun _ =>
  slot 66 >>= fun b22 =>
  appl ZcC 66 56 Zme s1 [(⟨x15, r20, r21⟩ : ZcK)] >>= fun r23 =>
  pure (LS.next (r23, IntKind.wrap .i64 (s2 + 1)))
 else
  pure (LS.done s1)
theorem ZaT.L1_ok (a0 : Sl) : LJ ZaT.cx (ZaT.F1 a0) (fun s_ => ZaT.L1 a0 s_.1 s_.2) := by
 rintro ⟨s1, s2⟩
 show SJ _ _ _ _ (ZaT.L1 a0 s1 s2) _
 unfold ZaT.L1
 refine SJ.seq <| SJ.sr 4 <| J.z 4 <| J.f ?_ ?_
 ·exact SJ.skip <| SJ.seq <| SJ.block (id := 1) <| J.D [0, 1, 2, 3, 4, 5, 6, 7, 8, 9, 10, 12, 13, 14, 15, 16, 11, 17, 18, 19, 20, 21] Zcs <| J.i 3 fun p14 => J.l 1 Ty3 fun x15 => J.i 2 fun p16 => J.l 1 Ty31 fun x17 => J.i 2 fun p18 => J.l 1 Ty32 fun x19 => OJ.call (d := 22) (g := 20) (ats := #[31]) (args := [.tmp 21]) (owed := [⟨16, 32, (Addr.add p18 2), cL.val x19⟩, ⟨5, 3, p14, (cI .i64).val x15⟩]) F20 (Zfa x17) fun r20 => OW.same Ty32 <| OW.same Ty3 <| OW.nil <| OJ.call (d := 28) (g := 45) (ats := #[32]) (args := [.tmp 27]) (owed := [⟨5, 3, p14, (cI .i64).val x15⟩]) F45 (ZfR x19) fun r21 => OW.same Ty3 <| OW.nil <| J.u 0 Ty66 (.f 0 (Zi2 _ x15) (.f 1 (Znh _ r20) (.f 2 (Zni _ r21) .nil))) <| J.S 0 [(⟨x15, r20, r21⟩ : ZcK)] Ty66 fun b22 => J.p 0 0 rfl Ty66 fun r23 => J.z 1 <| SJ.inBlock <| SJ.rg 3 <| J.z 3 <| SJ.forget (List.Sublist.cons _ List.Sublist.slnil) <| J.o rfl
 exact SJ.exit (id := 0) (by rfl) <| SJ.sr 2 <| J.z 2 <| J.r
noncomputable def ZaT (a0 : Sl) : M Sl :=
 ZcI (fun s_ : (Sl × Int) => ZaT.L1 a0 s_.1 s_.2) (Sl.nil, 0)
theorem Ziz (a0 : Sl) : Ref Tryz.prog 46 [Sl.v a0] (ZaT a0) ZaT.out := by
 refine J.Fn Tryz.func46 ?_
 unfold ZaT
 exact SJ.sr 1 <| J.z 1 <| SJ.sr 1 <| J.z 1 <| SJ.seq <| SJ.sr 1 <| J.z 1 <| SJ.block (id := 0) <| J.L (ZaT.L1_ok a0)

/-! ### weir/weirref7.Clone: function 22 -/
noncomputable def ZeW.out (r_ : ZcW) : Value := Zcd.val r_
noncomputable def ZeW (a0 : ZcW) : M ZcW :=
 slot 39 >>= fun b1 =>
 slot 39 >>= fun b2 =>
 ZaT a0.Exts >>= fun r3 =>
 Zc1 a0.Data >>= fun r4 =>
 pure (⟨a0.Class, a0.Flow, a0.Hop, a0.Src, a0.Dst, r3, a0.Frag, a0.Next, r4⟩ : ZcW)
theorem ZkU (a0 : ZcW) : Ref Tryz.prog 22 [Zcd.val a0] (ZeW a0) ZeW.out := by
 refine J.Fn Tryz.func22 ?_
 unfold ZeW
 exact SJ.sr 2 <| J.b 0 Zcd a0 fun b1 => J.a 0 Ty39 fun b2 => J.z 0 <| SJ.sr 5 <| J.k 1 1 rfl Ty35 (Zfj _) <| J.C 0 F46 (Ziz _) fun r3 => J.s 1 1 rfl Ty35 (Znd _ r3) <| J.z 0 <| SJ.sr 5 <| J.k 1 1 rfl Ty32 (ZdX _) <| J.C 0 F45 (ZfR _) fun r4 => J.s 1 1 rfl Ty32 (Zne _ r4) <| J.z 0 <| SJ.sr 2 <| J.k 0 1 rfl Ty39 (At.whole _) <| J.s 0 0 rfl Ty39 (Upd.w (⟨a0.Class, a0.Flow, a0.Hop, a0.Src, a0.Dst, r3, a0.Frag, a0.Next, r4⟩ : ZcW)) <| J.z 0 <| J.rc (.c 0 rfl Ty39 .n)

/-! ### weir/weirref10.Clone: function 8 -/
noncomputable def Zdn.out (r_ : Zac) : Value := Zag.val r_
noncomputable def Zdn (a0 : Zac) : M Zac :=
 slot 47 >>= fun b1 =>
 slot 47 >>= fun b2 =>
 appS Zde 63 32 Zma Sl.nil a0.Tags >>= fun r3 =>
 ZaO a0.Ip4.Opts >>= fun r4 =>
 ZcL a0.Ip4.Data >>= fun r5 =>
 ZeW a0.Ip6 >>= fun r6 =>
 ZcL a0.Icmp.Data >>= fun r7 =>
 ZcL a0.Udp.Data >>= fun r8 =>
 ZaO a0.Tcp.Opts >>= fun r9 =>
 ZcL a0.Tcp.Data >>= fun r10 =>
 pure (⟨a0.Dst, a0.Src, r3, a0.Kind, a0.Arp, (⟨a0.Ip4.Tos, a0.Ip4.ID, a0.Ip4.DF, a0.Ip4.MF, a0.Ip4.Off, a0.Ip4.TTL, a0.Ip4.Proto, a0.Ip4.Src, a0.Ip4.Dst, r4, r5⟩ : ZcX), r6, a0.L4, (⟨a0.Icmp.V, a0.Icmp.Type_, a0.Icmp.Code, a0.Icmp.Rest, r7⟩ : Zcy), (⟨a0.Udp.Sport, a0.Udp.Dport, a0.Udp.NoSum, r8⟩ : Zer), (⟨a0.Tcp.Sport, a0.Tcp.Dport, a0.Tcp.Seq, a0.Tcp.Ack, a0.Tcp.Flags, a0.Tcp.Win, a0.Tcp.Urg, r9, r10⟩ : Zdd)⟩ : Zac)
theorem Zhb (a0 : Zac) : Ref Tryz.prog 8 [Zag.val a0] (Zdn a0) Zdn.out := by
 refine J.Fn Tryz.func8 ?_
 unfold Zdn
 exact SJ.sr 2 <| J.b 0 Zag a0 fun b1 => J.a 0 Ty47 fun b2 => J.z 0 <| SJ.sr 1 <| J.z 1 <| SJ.sr 6 <| J.k 2 1 rfl Ty25 (Zcl _) <| OJ.appS (d := 7) (t := 25) (u := 25) (so := .tmp 4) (xo := .tmp 6) (owed := []) Ty63 fun r3 => OW.nil <| J.s 1 1 rfl Ty25 (ZkK _ r3) <| J.z 0 <| SJ.sr 7 <| J.k 2 1 rfl Ty31 (At.trans (Za4 _) (Zg8 _)) <| J.C 0 F20 (Zfa _) fun r4 => J.s 2 1 rfl Ty31 (Upd.trans (Za4 _) (Znf _ r4) (ZhQ _ (⟨a0.Ip4.Tos, a0.Ip4.ID, a0.Ip4.DF, a0.Ip4.MF, a0.Ip4.Off, a0.Ip4.TTL, a0.Ip4.Proto, a0.Ip4.Src, a0.Ip4.Dst, r4, a0.Ip4.Data⟩ : ZcX))) <| J.z 0 <| SJ.sr 7 <| J.k 2 1 rfl Ty32 (At.trans (Za4 _) (ZdY _)) <| J.C 0 F21 (ZeE _) fun r5 => J.s 2 1 rfl Ty32 (Upd.trans (Za4 _) (Zng _ r5) (ZhQ _ (⟨a0.Ip4.Tos, a0.Ip4.ID, a0.Ip4.DF, a0.Ip4.MF, a0.Ip4.Off, a0.Ip4.TTL, a0.Ip4.Proto, a0.Ip4.Src, a0.Ip4.Dst, r4, r5⟩ : ZcX))) <| J.z 0 <| SJ.sr 5 <| J.k 1 1 rfl Ty39 (Zbh _) <| J.C 0 F22 (ZkU _) fun r6 => J.s 1 1 rfl Ty39 (Zlj _ r6) <| J.z 0 <| SJ.sr 7 <| J.k 2 1 rfl Ty32 (At.trans (Zdv _) (Zd2 _)) <| J.C 0 F21 (ZeE _) fun r7 => J.s 2 1 rfl Ty32 (Upd.trans (Zdv _) (ZlX _ r7) (ZkL _ (⟨a0.Icmp.V, a0.Icmp.Type_, a0.Icmp.Code, a0.Icmp.Rest, r7⟩ : Zcy))) <| J.z 0 <| SJ.sr 7 <| J.k 2 1 rfl Ty32 (At.trans (ZcU _) (Zg5 _)) <| J.C 0 F21 (ZeE _) fun r8 => J.s 2 1 rfl Ty32 (Upd.trans (ZcU _) (Zm6 _ r8) (Zli _ (⟨a0.Udp.Sport, a0.Udp.Dport, a0.Udp.NoSum, r8⟩ : Zer))) <| J.z 0 <| SJ.sr 7 <| J.k 2 1 rfl Ty31 (At.trans (ZbT _) (Zg6 _)) <| J.C 0 F20 (Zfa _) fun r9 => J.s 2 1 rfl Ty31 (Upd.trans (ZbT _) (Zm7 _ r9) (ZhP _ (⟨a0.Tcp.Sport, a0.Tcp.Dport, a0.Tcp.Seq, a0.Tcp.Ack, a0.Tcp.Flags, a0.Tcp.Win, a0.Tcp.Urg, r9, a0.Tcp.Data⟩ : Zdd))) <| J.z 0 <| SJ.sr 7 <| J.k 2 1 rfl Ty32 (At.trans (ZbT _) (Zg7 _)) <| J.C 0 F21 (ZeE _) fun r10 => J.s 2 1 rfl Ty32 (Upd.trans (ZbT _) (Zm8 _ r10) (ZhP _ (⟨a0.Tcp.Sport, a0.Tcp.Dport, a0.Tcp.Seq, a0.Tcp.Ack, a0.Tcp.Flags, a0.Tcp.Win, a0.Tcp.Urg, r9, r10⟩ : Zdd))) <| J.z 0 <| SJ.sr 2 <| J.k 0 1 rfl Ty47 (At.whole _) <| J.s 0 0 rfl Ty47 (Upd.w (⟨a0.Dst, a0.Src, r3, a0.Kind, a0.Arp, (⟨a0.Ip4.Tos, a0.Ip4.ID, a0.Ip4.DF, a0.Ip4.MF, a0.Ip4.Off, a0.Ip4.TTL, a0.Ip4.Proto, a0.Ip4.Src, a0.Ip4.Dst, r4, r5⟩ : ZcX), r6, a0.L4, (⟨a0.Icmp.V, a0.Icmp.Type_, a0.Icmp.Code, a0.Icmp.Rest, r7⟩ : Zcy), (⟨a0.Udp.Sport, a0.Udp.Dport, a0.Udp.NoSum, r8⟩ : Zer), (⟨a0.Tcp.Sport, a0.Tcp.Dport, a0.Tcp.Seq, a0.Tcp.Ack, a0.Tcp.Flags, a0.Tcp.Win, a0.Tcp.Urg, r9, r10⟩ : Zdd)⟩ : Zac)) <| J.z 0 <| J.rc (.c 0 rfl Ty47 .n)

/-! ### (weir/rules.inTest).holds: function 180 -/
noncomputable def Zc6.out (r_ : Bool) : Value := .bool r_
noncomputable def Zc6 (a0 : Int) (a1 : Int) (a2 : Zac) : M Bool :=
 slot 47 >>= fun b1 =>
 pure ((IntKind.wrap .i64 (a0 - 1)) == a1)
theorem ZiH (a0 : Int) (a1 : Int) (a2 : Zac) : Ref Tryz.prog 180 [.int .i64 a0, .int .i64 a1, Zag.val a2] (Zc6 a0 a1 a2) Zc6.out := by
 refine J.Fn Tryz.func180 ?_
 unfold Zc6
 exact SJ.sr 2 <| J.b 0 Zag a2 fun b1 => J.z 1 <| SJ.sr 5 <| J.z 5 <| J.r

/-! ### (weir/rules.vidTest).holds: function 181 -/
noncomputable def ZcN.out (r_ : Bool) : Value := .bool r_
noncomputable def ZcN (a0 : Int) (a1 : Int) (a2 : Zac) : M Bool :=
 slot 47 >>= fun b1 =>
 (if (a2.Tags.len : Int) > 0 then
   idx a2.Tags.a a2.Tags.len 0 4 >>= fun p2 =>
   ld (cI .i64) (Addr.add p2 3) >>= fun x3 =>
   pure (x3 == a0)
  else
   pure false) >>= fun y4 =>
 pure y4
theorem Zit (a0 : Int) (a1 : Int) (a2 : Zac) : Ref Tryz.prog 181 [.int .i64 a0, .int .i64 a1, Zag.val a2] (ZcN a0 a1 a2) ZcN.out := by
 refine J.Fn Tryz.func181 ?_
 unfold ZcN
 refine SJ.sr 2 <| J.b 0 Zag a2 fun b1 => J.z 1 <| SJ.sr 14 <| J.k 1 0 rfl Ty25 (Zcl _) <| J.j 3 7 .bool ?_ ?_ fun y4 => ?_
 ·exact J.k 1 0 rfl Ty25 (Zcl _) <| J.i 0 fun p2 => J.l 1 Ty3 fun x3 => J.e 3
 ·exact J.e 8
 exact J.z 1 <| J.r

/-! ### (weir/rules.kindTest).holds: function 182 -/
noncomputable def ZcG.out (r_ : Bool) : Value := .bool r_
noncomputable def ZcG (a0 : Int) (a1 : Int) (a2 : Zac) : M Bool :=
 slot 47 >>= fun b1 =>
 pure (a2.Kind == a0)
theorem Zh0 (a0 : Int) (a1 : Int) (a2 : Zac) : Ref Tryz.prog 182 [.int .i64 a0, .int .i64 a1, Zag.val a2] (ZcG a0 a1 a2) ZcG.out := by
 refine J.Fn Tryz.func182 ?_
 unfold ZcG
 exact SJ.sr 2 <| J.b 0 Zag a2 fun b1 => J.z 1 <| SJ.sr 5 <| J.k 1 0 rfl Ty3 (ZbC _) <| J.z 3 <| J.r

/-! ### (weir/rules.protoTest).holds: function 183 -/
noncomputable def Zco.out (r_ : Bool) : Value := .bool r_
noncomputable def Zco (a0 : Int) (a1 : Int) (a2 : Zac) : M Bool :=
 slot 47 >>= fun b1 =>
 (if a2.Kind = 2 then
   pure (a2.Ip4.Proto == a0)
  else
   pure false) >>= fun y2 =>
 (if y2 = true then
   pure true
  else
   (if a2.Kind = 3 then
     pure (a2.Ip6.Next == a0)
    else
     pure false) >>= fun y3 =>
   pure y3) >>= fun y4 =>
 pure y4
theorem ZhD (a0 : Int) (a1 : Int) (a2 : Zac) : Ref Tryz.prog 183 [.int .i64 a0, .int .i64 a1, Zag.val a2] (Zco a0 a1 a2) Zco.out := by
 refine J.Fn Tryz.func183 ?_
 unfold Zco
 refine SJ.sr 2 <| J.b 0 Zag a2 fun b1 => J.z 1 <| SJ.sr 23 <| J.k 1 0 rfl Ty3 (ZbC _) <| J.j 2 5 .bool ?_ ?_ fun y2 => ?_
 ·exact J.k 2 0 rfl Ty3 (At.trans (Za4 _) (ZfG _)) <| J.e 3
 ·exact J.e 6
 refine J.g 1 <| OJ.join (b := y2) [11, 12, 13, 14, 15, 16, 17, 18, 19, 20, 21] [22] [28] (fun y4 => [(28, .bool y4)]) [] [] (t := 17) Iff.rfl (fun hp_ => ?_) (fun hp_ => ?_) (fun _ _ _ _ _ _ h_ => h_) fun y4 => ?_
 ·exact J.g 11 <| OJ.nil ⟨(Cov.mem Cov.nil), rfl, _, rfl, by kernel_rfl⟩
 ·refine J.k 1 0 rfl Ty3 (ZbC _) <| J.g 2 <| OJ.join (b := (a2.Kind == 3)) [15, 16, 17, 18, 19, 20] [21] [17, 27] (fun y3 => [(17, .bool false), (27, .bool y3)]) [] [] (t := 21) beq_iff_eq (fun hp_ => ?_) (fun hp_ => ?_) (fun _ _ _ _ _ hq_ h_ => ⟨fun e_ he_ => (hq_ e_ he_).elim (fun h => h_.1 e_ h) (fun h => nomatch h), h_.2⟩) fun y3 => ?_
  ·exact J.k 2 0 rfl Ty3 (At.trans (Zbh _) (Zf6 _)) <| J.g 3 <| OJ.nil ⟨(Cov.mem Cov.nil), rfl, _, rfl, by kernel_rfl⟩
  ·exact J.g 6 <| OJ.nil ⟨(Cov.mem Cov.nil), rfl, _, rfl, by kernel_rfl⟩
  exact J.g 1 <| OJ.nil ⟨(Cov.mem Cov.nil), rfl, _, rfl, by kernel_rfl⟩
 exact J.z 1 <| J.r

/-! ### (weir/rules.sideTest).holds: function 184 -/
noncomputable def Zcg.out (r_ : Bool) : Value := .bool r_
noncomputable def Zcg (a0 : Zac → M Bool) (a1 : Int) (a2 : Zac) : M Bool :=
 slot 47 >>= fun b1 =>
 a0 a2 >>= fun r2 =>
 pure r2
theorem ZhZ (a0v : Any) (a0 : Zac → M Bool) (h_a0 : ∀ (x0_ : Zac), RefV Tryz.prog a0v.v [Zag.val x0_] (a0 x0_) (fun r_ : Bool => .bool r_)) (a1 : Int) (a2 : Zac) : Ref Tryz.prog 184 [a0v.v, .int .i64 a1, Zag.val a2] (Zcg a0 a1 a2) Zcg.out := by
 refine J.Fn Tryz.func184 ?_
 unfold Zcg
 exact SJ.sr 2 <| J.b 0 Zag a2 fun b1 => J.z 1 <| SJ.sr 4 <| J.k 1 0 rfl Ty47 (At.whole _) <| J.v 0 (h_a0 a2) fun r2 => J.z 1 <| J.r

/-! ### (weir/rules.flagTest).holds: function 185 -/
noncomputable def ZcH.out (r_ : Bool) : Value := .bool r_
noncomputable def ZcH (a0 : Zb3) (a1 : Int) (a2 : Zac) : M Bool :=
 slot 152 >>= fun b1 =>
 slot 47 >>= fun b2 =>
 (if a2.L4 = 3 then
   pure ((band .i64 a2.Tcp.Flags a0.set) == a0.set)
  else
   pure false) >>= fun y3 =>
 (if y3 = true then
   pure ((band .i64 a2.Tcp.Flags a0.clear) == 0)
  else
   pure false) >>= fun y4 =>
 pure y4
theorem Zh1 (a0 : Zb3) (a1 : Int) (a2 : Zac) : Ref Tryz.prog 185 [ZbF.val a0, .int .i64 a1, Zag.val a2] (ZcH a0 a1 a2) ZcH.out := by
 refine J.Fn Tryz.func185 ?_
 unfold ZcH
 refine SJ.sr 3 <| J.b 0 ZbF a0 fun b1 => J.b 0 Zag a2 fun b2 => J.z 1 <| SJ.sr 24 <| J.k 1 0 rfl Ty3 (Zdb _) <| J.j 2 9 .bool ?_ ?_ fun y3 => ?_
 ·exact J.k 2 0 rfl Ty3 (At.trans (ZbT _) (ZeU _)) <| J.k 1 1 rfl Ty3 (Zgv _) <| J.k 2 1 rfl Ty3 (Zgv _) <| J.e 2
 ·exact J.e 10
 refine J.j 1 7 .bool ?_ ?_ fun y4 => ?_
 ·exact J.k 2 0 rfl Ty3 (At.trans (ZbT _) (ZeU _)) <| J.k 1 1 rfl Ty3 (Zia _) <| J.e 3
 ·exact J.e 8
 exact J.z 1 <| J.r
end Go.Proofs.YtobemldccnnblaaGreatDoor.Lx
