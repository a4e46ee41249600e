/- Programs of the M-world for Go functions, each with the proof that the Go text does what it says. Printed by lxgen.py. -/
import Derived.Test.YtfgcobigollfjaaDoorLxT
import Derived.Test.YtfgcobigollfjaaDoorLxP0
set_option linter.unusedVariables false
set_option linter.unusedSimpArgs false
set_option linter.unusedSectionVars false
namespace Go.Proofs.YtfgcobigollfjaaDoor.Lx
open Go Go.Proofs
variable [ZbS]
/-! ### (*weir/route.Table).Add: function 10 -/
noncomputable def ZaM.B : Code := bod Tryd.f10
noncomputable def ZaM.cx : Fx := ⟨Tryd.prog, 10, Tryd.f10, none⟩
noncomputable def ZaM.out (r_ : Int) : Value := .int .i64 r_
noncomputable def ZaM.K1 (a0 : (Option Addr)) (a1 : Zab) (j20 : Bool) : M Int :=
 if j20 = true then
  pure 143
 else
  nilck a0 >>= fun p21 =>
  ld cM p21 >>= fun x22 =>
  mlen x22 >>= fun r23 =>
  if r23 = 256 then
   pure 144
  else
   draw >>= fun _ =>
   nilck a0 >>= fun p24 =>
   ld cM p24 >>= fun x25 =>
   mset ZaA Zac x25 a1.Prefix a1 >>= fun _ =>
   pure 0
theorem ZaM.K1_ok (a0 : (Option Addr)) (a1 : Zab) (b1 : Nat) (j20 : Bool) :
  SJ ZaM.cx [.code (c2 (c1 (c2 (c2 (c2 (c2 ZaM.B)))))), .code (c2 (c2 (c2 (c2 (c2 ZaM.B)))))] [(0, .pointer a0), (3, .pointer (some (pt b1 0))), (7, .bool j20)] [(b1, Zac.enc a1)] (ZaM.K1 a0 a1 j20) (rt ZaM.out) := by
 unfold ZaM.K1
 refine SJ.sr 1 <| J.z 1 <| J.f ?_ ?_
 ·exact SJ.sr 1 <| J.z 1 <| J.r
 refine SJ.skip <| SJ.seq <| SJ.sr 6 <| J.n 1 fun p21 => J.l 1 Ty79 fun x22 => OJ.mlen (d := 64) (T := 79) (kT := 30) (vT := 32) (x := .tmp 63) (owed := []) fun r23 => OW.nil <| J.z 1 <| J.f ?_ ?_
 ·exact SJ.sr 1 <| J.z 1 <| J.r
 exact SJ.skip <| SJ.seq <| J.R 8 ZbO <| J.n 1 fun p24 => J.l 1 Ty79 fun x25 => J.k 1 0 rfl Ty30 (ZaT _) <| J.k 0 0 rfl Ty32 (At.whole _) <| OJ.mset (x := .tmp 69) (y := .tmp 71) (q := .tmp 72) (owed := []) Kt79 <| OW.nil <| J.z 0 <| SJ.sr 1 <| J.z 1 <| J.r
noncomputable def ZaM.K2 (a0 : (Option Addr)) (a1 : Zab) : M Int :=
 draws 10 9 (Zc6 (c1 (c1 (c2 (c2 (c2 (c2 ZaM.B))))))) >>= fun o10 =>
 if bfr o10 6 10 = true then
  nilck a0 >>= fun p29 =>
  ld cM p29 >>= fun x30 =>
  mget ZaA Zac Zaa x30 a1.Prefix >>= fun r31 =>
  slot 32 >>= fun b32 =>
  same cM p29 x30 >>= fun _ =>
  ZaM.K1 a0 a1 r31.2
 else
  nilck a0 >>= fun p33 =>
  ld cM p33 >>= fun x34 =>
  slot 32 >>= fun b35 =>
  same cM p33 x34 >>= fun _ =>
  mget ZaA Zac Zaa x34 a1.Prefix >>= fun r36 =>
  ZaM.K1 a0 a1 r36.2
theorem ZaM.K2_ok (a0 : (Option Addr)) (a1 : Zab) (b1 : Nat) :
  SJ ZaM.cx [.code (c2 (c2 (c2 (c2 ZaM.B))))] [(0, .pointer a0), (3, .pointer (some (pt b1 0)))] [(b1, Zac.enc a1)] (ZaM.K2 a0 a1) (rt ZaM.out) := by
 unfold ZaM.K2
 refine SJ.seq <| SJ.seq <| SJ.draws (id := 9) (kd := [0, 0, 0, 1, 0, 1, 2, 0, 0, 0, 2, 2, 0]) (bef := [0, 1, 3, 7, 0, 16, 63, 127, 255, 255, 0, 1535, 4095]) (ord := [0, 1, 2, 3, 4, 5, 6, 7, 8, 9, 10, 11, 12]) (E := [(6, 10)]) ZbO fun o10 hg_ => SJ.bfr hg_ (by decide) (fun ho28 => ?_) fun ho28 => ?_
 ·exact SJ.leaf hg_ (kd := [0, 0, 0, 1, 0, 1, 2, 0, 0, 0, 2, 2, 0]) (bef := [0, 1, 3, 7, 0, 16, 63, 127, 255, 255, 0, 1535, 4095]) (ord := [0, 1, 2, 3, 4, 5, 6, 7, 8, 9, 10, 11, 12]) (E := [(6, 10)]) (allB.cons ho28 allB.nil) <| J.n 1 fun p29 => J.l 1 Ty79 fun x30 => J.k 1 0 rfl Ty30 (ZaT _) <| OJ.get1 (d := 56) (x := .tmp 53) (y := .tmp 55) (owed := []) Kt79 fun r31 => OW.nil <| J.g 3 <| OJ.slotOf (d := 6) (op := (.alloc 32)) (cd := Zac) (u := Zaa) (owed := [⟨5, 30, (pt b1 0), ZaA.val a1.Prefix⟩, ⟨3, 79, p29, cM.val x30⟩]) (Zc9 Ty32) fun b32 => OW.known (j := 1) (q := a1.Prefix) Ty30 rfl (ZaT a1) <| OW.same Ty79 <| OW.nil <| J.s 0 0 rfl Ty32 (Upd.w r31.1) <| J.z 1 <| SJ.forget (List.Sublist.cons _ (List.Sublist.cons_cons _ List.Sublist.slnil)) <| J.q <| ZaM.K1_ok a0 a1 b1 r31.2
 exact SJ.leaf hg_ (kd := [0, 0, 0, 1, 0, 1, 2, 0, 0, 0, 2, 2, 0]) (bef := [0, 1, 3, 7, 0, 16, 63, 127, 255, 255, 0, 1535, 4095]) (ord := [0, 1, 2, 3, 4, 5, 10, 6, 7, 8, 9, 11, 12]) (E := [(10, 6)]) (allB.cons ho28 allB.nil) <| J.n 1 fun p33 => J.l 1 Ty79 fun x34 => J.k 1 0 rfl Ty30 (ZaT _) <| OJ.slotOf (d := 6) (op := (.alloc 32)) (cd := Zac) (u := Zaa) (owed := [⟨5, 30, (pt b1 0), ZaA.val a1.Prefix⟩, ⟨3, 79, p33, cM.val x34⟩]) (Zc9 Ty32) fun b35 => OW.known (j := 1) (q := a1.Prefix) Ty30 rfl (ZaT a1) <| OW.same Ty79 <| OW.nil <| OJ.get1 (d := 56) (x := .tmp 53) (y := .tmp 55) (owed := []) Kt79 fun r36 => OW.nil <| J.s 3 0 rfl Ty32 (Upd.w r36.1) <| J.z 1 <| SJ.forget (List.Sublist.cons _ (List.Sublist.cons_cons _ List.Sublist.slnil)) <| J.q <| ZaM.K1_ok a0 a1 b1 r36.2
noncomputable def ZaM (a0 : (Option Addr)) (a1 : Zab) : M Int :=
 slot 32 >>= fun b1 =>
 Zcx a1.Prefix >>= fun r2 =>
 if ¬ (r2 = true) then
  pure 140
 else
  (if a1.Port < 0 then
    pure true
   else
    pure (decide (a1.Port ≥ 8))) >>= fun y3 =>
  if y3 = true then
   pure 141
  else
   if ¬ (a1.Via = Zby) then
    Zbv a1.Via >>= fun r37 =>
    ZcQ a1.Via >>= fun r38 =>
    (if ¬ (r38 = true) then
      pure true
     else
      pure (a1.Via.V != a1.Prefix.IP.V)) >>= fun y39 =>
    (if y39 = true then
      pure true
     else
      (if r37 ≠ 7 then
        pure (r37 != 4)
       else
        pure false) >>= fun y40 =>
      pure y40) >>= fun y41 =>
    if y41 = true then
     pure 142
    else
     ZaM.K2 a0 a1
   else
    ZaM.K2 a0 a1
theorem ZfE (a0 : (Option Addr)) (a1 : Zab) : Ref Tryd.prog 10 [.pointer a0, Zac.val a1] (ZaM a0 a1) ZaM.out := by
 refine J.Fn Tryd.func10 ?_
 unfold ZaM
 refine SJ.sr 2 <| J.b 0 Zac a1 fun b1 => J.z 1 <| SJ.seq <| SJ.sr 4 <| J.k 1 0 rfl Ty30 (ZaT _) <| J.C 0 F30 (Zf1 _) fun r2 => J.z 1 <| J.f ?_ ?_
 ·exact SJ.sr 1 <| J.z 1 <| J.r
 refine SJ.skip <| SJ.seq <| SJ.sr 8 <| J.k 1 0 rfl Ty3 (Zcg _) <| J.j 2 3 .bool ?_ ?_ fun y3 => ?_
 ·exact J.e 4
 ·exact J.k 1 0 rfl Ty3 (Zcg _) <| J.e 2
 refine J.z 0 <| J.f ?_ ?_
 ·exact SJ.sr 1 <| J.z 1 <| J.r
 refine SJ.skip <| SJ.seq <| SJ.sr 4 <| J.k 1 0 rfl Ty28 (ZbQ _) <| J.u 0 Ty28 .nil <| OJ.neq (d := 23) (T := 28) (yT := 28) (y := .tmp 21) (z := .tmp 22) (cd := ZaI) (p := a1.Via) (q := Zby) rfl Eq28 <| J.z 0 <| J.f ?_ ?_
 ·refine SJ.sr 4 <| J.k 1 0 rfl Ty28 (ZbQ _) <| J.C 0 F31 (Zh5 _) fun r37 => J.z 1 <| SJ.sr 22 <| J.k 1 0 rfl Ty28 (ZbQ _) <| J.C 0 F32 (ZdH _) fun r38 => J.j 2 8 .bool ?_ ?_ fun y39 => ?_
  ·exact J.e 9
  ·exact J.k 2 0 rfl Ty3 (At.trans (ZbQ _) (Zbp _)) <| J.k 3 0 rfl Ty3 (At.trans (At.trans (ZaT _) (Za6 _)) (Zbp _)) <| J.e 2
  refine J.g 1 <| OJ.join (b := y39) [15, 16, 17, 18, 19, 20, 21] [] [0, 3, 48] (fun y41 => [(0, .pointer a0), (3, .pointer (some (pt b1 0))), (48, .bool y41)]) [] [] (t := 41) Iff.rfl (fun hp_ => ?_) (fun hp_ => ?_) (fun _ _ _ _ _ _ h_ => h_) fun y41 => ?_
  ·exact J.g 7 <| OJ.nil ⟨(Cov.mem Cov.nil), rfl, _, rfl, by kernel_rfl⟩
  ·refine J.g 3 <| OJ.join (b := (r37 != 7)) [18, 19, 20] [21] [0, 3, 41, 47] (fun y40 => [(0, .pointer a0), (3, .pointer (some (pt b1 0))), (41, .bool false), (47, .bool y40)]) [] [] (t := 44) bne_iff_ne (fun hp_ => ?_) (fun hp_ => ?_) (fun _ _ _ _ _ hq_ h_ => ⟨fun e_ he_ => (hq_ e_ he_).elim (fun h => h_.1 e_ h) (fun h => nomatch h), h_.2⟩) fun y40 => ?_
   ·exact J.g 3 <| OJ.nil ⟨(Cov.mem Cov.nil), rfl, _, rfl, by kernel_rfl⟩
   ·exact J.g 3 <| OJ.nil ⟨(Cov.mem Cov.nil), rfl, _, rfl, by kernel_rfl⟩
   exact J.g 1 <| OJ.nil ⟨(Cov.mem Cov.nil), rfl, _, rfl, by kernel_rfl⟩
  refine J.z 0 <| J.f ?_ ?_
  ·exact SJ.sr 1 <| J.z 1 <| J.r
  exact SJ.skip <| J.q <| ZaM.K2_ok a0 a1 b1
 exact SJ.skip <| J.q <| ZaM.K2_ok a0 a1 b1

/-! ### weir/weirref4.Valid: function 52 -/
noncomputable def Za3.B : Code := bod Tryd.f52
noncomputable def Za3.cx : Fx := ⟨Tryd.prog, 52, Tryd.f52, none⟩
noncomputable def Za3.out (r_ : Bool) : Value := .bool r_
noncomputable def Za3.F1 (a0 : ZaH) (b1 : Nat) : LF Int Bool := ⟨[.inBlock 0, .code (c2 (c2 (c2 Za3.B)))], c1 (c2 (c1 (c2 (c2 Za3.B)))), fun s_ => [(1, .pointer (some (pt b1 0))), (3, .int .i64 s_)], fun s_ => [(b1, ZaI.enc a0)], (rt Za3.out)⟩
noncomputable def Za3.L1 (a0 : ZaH) (s2 : Int) : M (LS Int Bool) :=
 if s2 < 16 then
  chk ((0 : Int) ≤ s2 ∧ s2 < (16 : Nat)) >>= fun _ =>
  if (Vec.g a0.A s2 0) ≠ 0 then
   pure (LS.done false)
  else
   pure (LS.next (IntKind.wrap .i64 (s2 + 1)))
 else
  pure (LS.done true)
theorem Za3.L1_ok (a0 : ZaH) (b1 : Nat) : LJ Za3.cx (Za3.F1 a0 b1) (fun s_ => Za3.L1 a0 s_) := by
 rintro s2
 show SJ _ _ _ _ (Za3.L1 a0 s2) _
 unfold Za3.L1
 refine SJ.seq <| SJ.sr 2 <| J.z 2 <| J.f ?_ ?_
 ·refine SJ.skip <| SJ.seq <| SJ.block (id := 1) <| SJ.sr 5 <| J.y 2 fun hb7 hb8 => J.k 0 0 rfl Ty5 (At.trans (ZbW _) (At.arr (z := 0) hb7 hb8)) <| J.z 1 <| J.f ?_ ?_
  ·exact SJ.sr 1 <| J.z 1 <| J.r
  exact SJ.skip <| SJ.inBlock <| SJ.rg 3 <| J.z 3 <| J.o rfl
 exact SJ.exit (id := 0) (by rfl) <| SJ.sr 1 <| J.z 1 <| J.r
noncomputable def Za3 (a0 : ZaH) : M Bool :=
 slot 28 >>= fun b1 =>
 if a0.V ≠ 4 then
  pure (a0.V == 6)
 else
  ZbR (fun s_ : Int => Za3.L1 a0 s_) 4
theorem Zdt (a0 : ZaH) : Ref Tryd.prog 52 [ZaI.val a0] (Za3 a0) Za3.out := by
 refine J.Fn Tryd.func52 ?_
 unfold Za3
 refine SJ.sr 2 <| J.b 0 ZaI a0 fun b1 => J.z 1 <| SJ.seq <| SJ.sr 3 <| J.k 1 0 rfl Ty3 (Zbp _) <| J.z 1 <| J.f ?_ ?_
 ·exact SJ.sr 4 <| J.k 1 0 rfl Ty3 (Zbp _) <| J.z 2 <| J.r
 exact SJ.skip <| SJ.seq <| SJ.sr 1 <| J.z 1 <| SJ.block (id := 0) <| J.L (Za3.L1_ok a0 b1)

/-! ### weir/weirref4.width: function 53 -/
noncomputable def Zcc.out (r_ : Int) : Value := .int .i64 r_
noncomputable def Zcc (a0 : ZaH) : M Int :=
 slot 28 >>= fun b1 =>
 if a0.V = 4 then
  pure 32
 else
  pure 128
theorem Zek (a0 : ZaH) : Ref Tryd.prog 53 [ZaI.val a0] (Zcc a0) Zcc.out := by
 refine J.Fn Tryd.func53 ?_
 unfold Zcc
 refine SJ.sr 2 <| J.b 0 ZaI a0 fun b1 => J.z 1 <| SJ.seq <| SJ.sr 3 <| J.k 1 0 rfl Ty3 (Zbp _) <| J.z 1 <| J.f ?_ ?_
 ·exact SJ.sr 1 <| J.z 1 <| J.r
 exact SJ.skip <| SJ.sr 1 <| J.z 1 <| J.r

/-! ### weir/weirref4.bit: function 54 -/
noncomputable def Zbe.B : Code := bod Tryd.f54
noncomputable def Zbe.cx : Fx := ⟨Tryd.prog, 54, Tryd.f54, none⟩
noncomputable def Zbe.out (r_ : Int) : Value := .int .i64 r_
noncomputable def Zbe.F1  : LF (Int × Int) Int := ⟨[.inBlock 0, .code (c2 (c2 (c2 Zbe.B)))], c1 (c2 (c1 (c2 (c2 Zbe.B)))), fun s_ => [(5, .int .i64 s_.1), (6, .int .i64 s_.2)], fun s_ => [], (rt Zbe.out)⟩
noncomputable def Zbe.L1 (s4 : Int) (s5 : Int) : M (LS (Int × Int) Int) :=
 if s5 < 7 then
  pure (LS.next (IntKind.wrap .i64 (Int.tdiv s4 2), IntKind.wrap .i64 (s5 + 1)))
 else
  pure (LS.done (Int.tmod s4 2))
theorem Zbe.L1_ok  : LJ Zbe.cx (Zbe.F1) (fun s_ => Zbe.L1 s_.1 s_.2) := by
 rintro ⟨s4, s5⟩
 show SJ _ _ _ _ (Zbe.L1 s4 s5) _
 unfold Zbe.L1
 refine SJ.seq <| SJ.sr 2 <| J.z 2 <| J.f ?_ ?_
 ·exact SJ.skip <| SJ.seq <| SJ.block (id := 1) <| SJ.rg 3 <| J.z 3 <| SJ.inBlock <| SJ.rg 3 <| J.z 3 <| J.o rfl
 exact SJ.exit (id := 0) (by rfl) <| SJ.sr 3 <| J.z 3 <| J.r
noncomputable def Zbe (a0 : ZaH) (a1 : Int) : M Int :=
 slot 28 >>= fun b1 =>
 chk ((0 : Int) ≤ (IntKind.wrap .i64 (Int.tdiv a1 8)) ∧ (IntKind.wrap .i64 (Int.tdiv a1 8)) < (16 : Nat)) >>= fun _ =>
 ZbR (fun s_ : (Int × Int) => Zbe.L1 s_.1 s_.2) (IntKind.wrap .i64 (Vec.g a0.A (IntKind.wrap .i64 (Int.tdiv a1 8)) 0), Int.tmod a1 8)
theorem ZdM (a0 : ZaH) (a1 : Int) : Ref Tryd.prog 54 [ZaI.val a0, .int .i64 a1] (Zbe a0 a1) Zbe.out := by
 refine J.Fn Tryd.func54 ?_
 unfold Zbe
 exact SJ.sr 2 <| J.b 0 ZaI a0 fun b1 => J.z 1 <| SJ.sr 7 <| J.y 3 fun hb2 hb3 => J.k 0 0 rfl Ty5 (At.trans (ZbW _) (At.arr (z := 0) hb2 hb3)) <| J.z 2 <| SJ.seq <| SJ.sr 3 <| J.z 3 <| SJ.block (id := 0) <| SJ.forget (List.Sublist.cons _ List.Sublist.slnil) <| J.L (Zbe.L1_ok)

/-! ### weir/weirref4.ValidPrefix: function 34 -/
noncomputable def ZaL.B : Code := bod Tryd.f34
noncomputable def ZaL.cx : Fx := ⟨Tryd.prog, 34, Tryd.f34, none⟩
noncomputable def ZaL.out (r_ : Int) : Value := .int .i64 r_
noncomputable def ZaL.F1 (a0 : Zar) (b1 : Nat) (r3 : Int) : LF Int Int := ⟨[.inBlock 0, .code (c2 (c2 (c2 (c2 (c2 (c2 ZaL.B))))))], c1 (c2 (c1 (c2 (c2 (c2 (c2 (c2 ZaL.B))))))), fun s_ => [(1, .pointer (some (pt b1 0))), (4, .int .i64 r3), (5, .int .i64 s_)], fun s_ => [(b1, ZaA.enc a0)], (rt ZaL.out)⟩
noncomputable def ZaL.L1 (a0 : Zar) (r3 : Int) (s5 : Int) : M (LS Int Int) :=
 if s5 < r3 then
  Zbe a0.IP s5 >>= fun r9 =>
  if r9 = 1 then
   pure (LS.done 46)
  else
   pure (LS.next (IntKind.wrap .i64 (s5 + 1)))
 else
  pure (LS.done 0)
theorem ZaL.L1_ok (a0 : Zar) (b1 : Nat) (r3 : Int) : LJ ZaL.cx (ZaL.F1 a0 b1 r3) (fun s_ => ZaL.L1 a0 r3 s_) := by
 rintro s5
 show SJ _ _ _ _ (ZaL.L1 a0 r3 s5) _
 unfold ZaL.L1
 refine SJ.seq <| SJ.sr 3 <| J.z 3 <| J.f ?_ ?_
 ·refine SJ.skip <| SJ.seq <| SJ.block (id := 1) <| SJ.sr 5 <| J.k 1 0 rfl Ty28 (Za6 _) <| J.C 1 F54 (ZdM _ _) fun r9 => J.z 1 <| J.f ?_ ?_
  ·exact SJ.sr 1 <| J.z 1 <| J.r
  exact SJ.skip <| SJ.inBlock <| SJ.rg 3 <| J.z 3 <| J.o rfl
 exact SJ.exit (id := 0) (by rfl) <| SJ.sr 1 <| J.z 1 <| J.r
noncomputable def ZaL (a0 : Zar) : M Int :=
 slot 30 >>= fun b1 =>
 Za3 a0.IP >>= fun r2 =>
 if ¬ (r2 = true) then
  pure 40
 else
  Zcc a0.IP >>= fun r3 =>
  (if a0.Len < 0 then
    pure true
   else
    pure (decide (a0.Len > r3))) >>= fun y4 =>
  if y4 = true then
   pure 45
  else
   ZbR (fun s_ : Int => ZaL.L1 a0 r3 s_) a0.Len
theorem ZcE (a0 : Zar) : Ref Tryd.prog 34 [ZaA.val a0] (ZaL a0) ZaL.out := by
 refine J.Fn Tryd.func34 ?_
 unfold ZaL
 refine SJ.sr 2 <| J.b 0 ZaA a0 fun b1 => J.z 1 <| SJ.sr 4 <| J.k 1 0 rfl Ty28 (Za6 _) <| J.C 0 F52 (Zdt _) fun r2 => J.z 1 <| SJ.seq <| SJ.sr 2 <| J.z 2 <| J.f ?_ ?_
 ·exact SJ.sr 1 <| J.z 1 <| J.r
 refine SJ.skip <| SJ.sr 4 <| J.k 1 0 rfl Ty28 (Za6 _) <| J.C 0 F53 (Zek _) fun r3 => J.z 1 <| SJ.seq <| SJ.sr 9 <| J.k 1 0 rfl Ty3 (Zbl _) <| J.j 2 4 .bool ?_ ?_ fun y4 => ?_
 ·exact J.e 5
 ·exact J.k 1 0 rfl Ty3 (Zbl _) <| J.e 3
 refine J.z 0 <| J.f ?_ ?_
 ·exact SJ.sr 1 <| J.z 1 <| J.r
 exact SJ.skip <| SJ.seq <| SJ.sr 3 <| J.k 1 0 rfl Ty3 (Zbl _) <| J.z 1 <| SJ.block (id := 0) <| J.L (ZaL.L1_ok a0 b1 r3)

/-! ### weir/weirref4.has: function 90 -/
noncomputable def Zbj.B : Code := bod Tryd.f90
noncomputable def Zbj.cx : Fx := ⟨Tryd.prog, 90, Tryd.f90, none⟩
noncomputable def Zbj.out (r_ : Bool) : Value := .bool r_
noncomputable def Zbj.F1 (a0 : ByteArray) (a1 : Int) : LF Int Bool := ⟨[.inBlock 0, .code (c2 (c2 Zbj.B))], c1 (c2 (c1 (c2 Zbj.B))), fun s_ => [(0, .string a0), (1, .int .u8 a1), (5, .int .i64 s_)], fun s_ => [], (rt Zbj.out)⟩
noncomputable def Zbj.L1 (a0 : ByteArray) (a1 : Int) (s1 : Int) : M (LS Int Bool) :=
 if s1 < (a0.size : Int) then
  chk ((0 : Int) ≤ s1 ∧ s1 < (a0.size : Int)) >>= fun _ =>
  if (sb a0 s1) = a1 then
   pure (LS.done true)
  else
   pure (LS.next (IntKind.wrap .i64 (s1 + 1)))
 else
  pure (LS.done false)
theorem Zbj.L1_ok (a0 : ByteArray) (a1 : Int) : LJ Zbj.cx (Zbj.F1 a0 a1) (fun s_ => Zbj.L1 a0 a1 s_) := by
 rintro s1
 show SJ _ _ _ _ (Zbj.L1 a0 a1 s1) _
 unfold Zbj.L1
 refine SJ.seq <| SJ.sr 4 <| J.z 4 <| J.f ?_ ?_
 ·refine SJ.skip <| SJ.seq <| SJ.block (id := 1) <| SJ.sr 5 <| J.t 2 fun hb6 hb7 => J.z 2 <| J.f ?_ ?_
  ·exact SJ.sr 1 <| J.z 1 <| J.r
  exact SJ.skip <| SJ.inBlock <| SJ.rg 3 <| J.z 3 <| J.o rfl
 exact SJ.exit (id := 0) (by rfl) <| SJ.sr 1 <| J.z 1 <| J.r
noncomputable def Zbj (a0 : ByteArray) (a1 : Int) : M Bool :=
 ZbR (fun s_ : Int => Zbj.L1 a0 a1 s_) 0
theorem ZgA (a0 : ByteArray) (a1 : Int) : Ref Tryd.prog 90 [.string a0, .int .u8 a1] (Zbj a0 a1) Zbj.out := by
 refine J.Fn Tryd.func90 ?_
 unfold Zbj
 exact SJ.sr 1 <| J.z 1 <| SJ.seq <| SJ.sr 1 <| J.z 1 <| SJ.block (id := 0) <| J.L (Zbj.L1_ok a0 a1)

/-! ### weir/weirref4.two: function 94 -/
noncomputable def ZcD.out (r_ : Bool) : Value := .bool r_
noncomputable def ZcD (a0 : ByteArray) (a1 : Int) : M Bool :=
 (if (IntKind.wrap .i64 (a1 + 1)) < (a0.size : Int) then
   chk ((0 : Int) ≤ a1 ∧ a1 < (a0.size : Int)) >>= fun _ =>
   pure ((sb a0 a1) == 58)
  else
   pure false) >>= fun y3 =>
 (if y3 = true then
   chk ((0 : Int) ≤ (IntKind.wrap .i64 (a1 + 1)) ∧ (IntKind.wrap .i64 (a1 + 1)) < (a0.size : Int)) >>= fun _ =>
   pure ((sb a0 (IntKind.wrap .i64 (a1 + 1))) == 58)
  else
   pure false) >>= fun y6 =>
 pure y6
theorem ZeI (a0 : ByteArray) (a1 : Int) : Ref Tryd.prog 94 [.string a0, .int .i64 a1] (ZcD a0 a1) ZcD.out := by
 refine J.Fn Tryd.func94 ?_
 unfold ZcD
 refine SJ.sr 1 <| J.z 1 <| SJ.sr 19 <| J.j 6 4 .bool ?_ ?_ fun y3 => ?_
 ·exact J.t 2 fun hb1 hb2 => J.e 2
 ·exact J.e 5
 refine J.j 1 5 .bool ?_ ?_ fun y6 => ?_
 ·exact J.t 3 fun hb4 hb5 => J.e 2
 ·exact J.e 6
 exact J.z 1 <| J.r

/-! ### weir/weirref4.digit: function 82 -/
noncomputable def Zb1.out (r_ : Bool) : Value := .bool r_
noncomputable def Zb1 (a0 : Int) : M Bool :=
 (if a0 ≥ 48 then
   pure (decide (a0 ≤ 57))
  else
   pure false) >>= fun y1 =>
 pure y1
theorem Zds (a0 : Int) : Ref Tryd.prog 82 [.int .u8 a0] (Zb1 a0) Zb1.out := by
 refine J.Fn Tryd.func82 ?_
 unfold Zb1
 refine SJ.sr 1 <| J.z 1 <| SJ.sr 7 <| J.j 3 2 .bool ?_ ?_ fun y1 => ?_
 ·exact J.e 3
 ·exact J.e 3
 exact J.z 1 <| J.r

/-! ### weir/weirref4.worth: function 98 -/
noncomputable def Zcb.out (r_ : Int) : Value := .int .i64 r_
noncomputable def Zcb (a0 : Int) : M Int :=
 Zb1 a0 >>= fun r1 =>
 if r1 = true then
  pure (IntKind.wrap .i64 (IntKind.wrap .u8 (a0 - 48)))
 else
  (if a0 ≥ 97 then
    pure (decide (a0 ≤ 102))
   else
    pure false) >>= fun y2 =>
  if y2 = true then
   pure (IntKind.wrap .i64 ((IntKind.wrap .i64 (IntKind.wrap .u8 (a0 - 97))) + 10))
  else
   (if a0 ≥ 65 then
     pure (decide (a0 ≤ 70))
    else
     pure false) >>= fun y3 =>
   if y3 = true then
    pure (IntKind.wrap .i64 ((IntKind.wrap .i64 (IntKind.wrap .u8 (a0 - 65))) + 10))
   else
    pure (-1)
theorem Zej (a0 : Int) : Ref Tryd.prog 98 [.int .u8 a0] (Zcb a0) Zcb.out := by
 refine J.Fn Tryd.func98 ?_
 unfold Zcb
 refine SJ.sr 1 <| J.z 1 <| SJ.seq <| SJ.sr 2 <| J.C 1 F82 (Zds _) fun r1 => J.z 0 <| J.f ?_ ?_
 ·exact SJ.sr 4 <| J.z 4 <| J.r
 refine SJ.skip <| SJ.seq <| SJ.sr 6 <| J.j 3 2 .bool ?_ ?_ fun y2 => ?_
 ·exact J.e 3
 ·exact J.e 3
 refine J.z 0 <| J.f ?_ ?_
 ·exact SJ.sr 5 <| J.z 5 <| J.r
 refine SJ.skip <| SJ.seq <| SJ.sr 6 <| J.j 3 2 .bool ?_ ?_ fun y3 => ?_
 ·exact J.e 3
 ·exact J.e 3
 refine J.z 0 <| J.f ?_ ?_
 ·exact SJ.sr 5 <| J.z 5 <| J.r
 exact SJ.skip <| SJ.sr 1 <| J.z 1 <| J.r

/-! ### weir/weirref4.here: function 83 -/
noncomputable def Zb0.out (r_ : (Int × Int)) : Value := .tuple #[.int .i64 r_.1, .int .i64 r_.2]
noncomputable def Zb0 (a0 : ByteArray) (a1 : Int) : M (Int × Int) :=
 if a1 ≥ (a0.size : Int) then
  pure (42, (a0.size : Int))
 else
  pure (41, a1)
theorem Zda (a0 : ByteArray) (a1 : Int) : Ref Tryd.prog 83 [.string a0, .int .i64 a1] (Zb0 a0 a1) Zb0.out := by
 refine J.Fn Tryd.func83 ?_
 unfold Zb0
 refine SJ.sr 2 <| J.z 2 <| SJ.seq <| SJ.sr 4 <| J.z 4 <| J.f ?_ ?_
 ·exact SJ.sr 4 <| J.z 4 <| J.r
 exact SJ.skip <| SJ.sr 3 <| J.z 3 <| J.r

/-! ### (*weir/weirref4.six).fail: function 97 -/
noncomputable def Zbq.out (r_ : Unit) : Value := .tuple #[]
noncomputable def Zbq (a0 : (Option Addr)) (a1 : Int) (a2 : Int) : M Unit :=
 nilck a0 >>= fun p1 =>
 ld (cI .i64) (Addr.add p1 4) >>= fun x2 =>
 if x2 = 0 then
  nilck a0 >>= fun p5 =>
  st (cI .i64) (Addr.add p5 4) a1 >>= fun _ =>
  nilck a0 >>= fun p6 =>
  st (cI .i64) (Addr.add p6 5) a2 >>= fun _ =>
  pure ()
 else
  pure ()
theorem ZbL (a0 : (Option Addr)) (a1 : Int) (a2 : Int) : Ref Tryd.prog 97 [.pointer a0, .int .i64 a1, .int .i64 a2] (Zbq a0 a1 a2) Zbq.out := by
 refine J.Fn Tryd.func97 ?_
 unfold Zbq
 refine SJ.sr 5 <| J.n 1 fun p1 => J.l 1 Ty3 fun x2 => J.z 1 <| J.f ?_ ?_
 ·exact SJ.sr 5 <| J.n 2 fun p5 => J.w 1 Ty3 <| J.z 0 <| SJ.rg 5 <| J.n 2 fun p6 => J.w 1 Ty3 <| J.z 0 <| SJ.end_ rfl (Res.run (ys := []) .nil rfl)
 exact SJ.skip <| SJ.end_ rfl (Res.run (ys := []) .nil rfl)

/-! ### (*weir/weirref4.six).room: function 99 -/
noncomputable def ZbY.out (r_ : Int) : Value := .int .i64 r_
noncomputable def ZbY (a0 : (Option Addr)) : M Int :=
 nilck a0 >>= fun p1 =>
 ld (cI .i64) (Addr.add p1 2) >>= fun x2 =>
 if x2 ≥ 0 then
  pure 7
 else
  pure 8
theorem Ze6 (a0 : (Option Addr)) : Ref Tryd.prog 99 [.pointer a0] (ZbY a0) ZbY.out := by
 refine J.Fn Tryd.func99 ?_
 unfold ZbY
 refine SJ.sr 1 <| J.z 1 <| SJ.seq <| SJ.sr 5 <| J.n 1 fun p1 => J.l 1 Ty3 fun x2 => J.z 1 <| J.f ?_ ?_
 ·exact SJ.sr 1 <| J.z 1 <| J.r
 exact SJ.skip <| SJ.sr 1 <| J.z 1 <| J.r

/-! ### weir/weirref4.decimal: function 84 -/
noncomputable def ZaX.B : Code := bod Tryd.f84
noncomputable def ZaX.cx : Fx := ⟨Tryd.prog, 84, Tryd.f84, none⟩
noncomputable def ZaX.out (r_ : Int) : Value := .int .i64 r_
noncomputable def ZaX.F1 (a0 : ByteArray) (a2 : Int) (a3 : Int) : LF (Int × Int) Int := ⟨[.inBlock 0, .code (c2 (c2 (c2 (c2 ZaX.B))))], c1 (c2 (c1 (c2 (c2 (c2 ZaX.B))))), fun s_ => [(0, .string a0), (2, .int .i64 a2), (3, .int .i64 a3), (9, .int .i64 s_.1), (10, .int .i64 s_.2)], fun s_ => [], (rt ZaX.out)⟩
noncomputable def ZaX.L1 (a0 : ByteArray) (a2 : Int) (a3 : Int) (s5 : Int) (s6 : Int) : M (LS (Int × Int) Int) :=
 if s6 < a2 then
  chk ((0 : Int) ≤ s6 ∧ s6 < (a0.size : Int)) >>= fun _ =>
  pure (LS.next (IntKind.wrap .i64 ((IntKind.wrap .i64 (10 * s5)) + (IntKind.wrap .i64 (IntKind.wrap .u8 ((sb a0 s6) - 48)))), IntKind.wrap .i64 (s6 + 1)))
 else
  if s5 > a3 then
   pure (LS.done (-1))
  else
   pure (LS.done s5)
theorem ZaX.L1_ok (a0 : ByteArray) (a2 : Int) (a3 : Int) : LJ ZaX.cx (ZaX.F1 a0 a2 a3) (fun s_ => ZaX.L1 a0 a2 a3 s_.1 s_.2) := by
 rintro ⟨s5, s6⟩
 show SJ _ _ _ _ (ZaX.L1 a0 a2 a3 s5 s6) _
 unfold ZaX.L1
 refine SJ.seq <| SJ.sr 3 <| J.z 3 <| J.f ?_ ?_
 ·exact SJ.skip <| SJ.seq <| SJ.block (id := 1) <| SJ.rg 9 <| J.t 4 fun hb11 hb12 => J.z 4 <| SJ.inBlock <| SJ.rg 3 <| J.z 3 <| J.o rfl
 refine SJ.exit (id := 0) (by rfl) <| SJ.seq <| SJ.sr 3 <| J.z 3 <| J.f ?_ ?_
 ·exact SJ.sr 1 <| J.z 1 <| J.r
 exact SJ.skip <| SJ.sr 2 <| J.z 2 <| J.r
noncomputable def ZaX (a0 : ByteArray) (a1 : Int) (a2 : Int) (a3 : Int) : M Int :=
 (if (IntKind.wrap .i64 (a2 - a1)) > 3 then
   pure true
  else
   (if (IntKind.wrap .i64 (a2 - a1)) > 1 then
     chk ((0 : Int) ≤ a1 ∧ a1 < (a0.size : Int)) >>= fun _ =>
     pure ((sb a0 a1) == 48)
    else
     pure false) >>= fun y3 =>
   pure y3) >>= fun y4 =>
 if y4 = true then
  pure (-1)
 else
  ZbR (fun s_ : (Int × Int) => ZaX.L1 a0 a2 a3 s_.1 s_.2) (0, a1)
theorem ZdL (a0 : ByteArray) (a1 : Int) (a2 : Int) (a3 : Int) : Ref Tryd.prog 84 [.string a0, .int .i64 a1, .int .i64 a2, .int .i64 a3] (ZaX a0 a1 a2 a3) ZaX.out := by
 refine J.Fn Tryd.func84 ?_
 unfold ZaX
 refine SJ.sr 1 <| J.z 1 <| SJ.seq <| SJ.sr 16 <| J.g 5 <| OJ.join (b := decide ((IntKind.wrap .i64 (a2 - a1)) > 3)) [5, 6, 7, 8, 9, 10, 11, 12, 13, 14, 15] [] [0, 1, 2, 3, 26] (fun y4 => [(0, .string a0), (1, .int .i64 a1), (2, .int .i64 a2), (3, .int .i64 a3), (26, .bool y4)]) [] [] (t := 15) decide_eq_true_iff (fun hp_ => ?_) (fun hp_ => ?_) (fun _ _ _ _ _ _ h_ => h_) fun y4 => ?_
 ·exact J.g 11 <| OJ.nil ⟨(Cov.mem Cov.nil), rfl, _, rfl, by kernel_rfl⟩
 ·refine J.g 5 <| OJ.join (b := decide ((IntKind.wrap .i64 (a2 - a1)) > 1)) [10, 11, 12, 13, 14] [15] [0, 1, 2, 3, 15, 25] (fun y3 => [(0, .string a0), (1, .int .i64 a1), (2, .int .i64 a2), (3, .int .i64 a3), (15, .bool false), (25, .bool y3)]) [] [] (t := 20) decide_eq_true_iff (fun hp_ => ?_) (fun hp_ => ?_) (fun _ _ _ _ _ hq_ h_ => ⟨fun e_ he_ => (hq_ e_ he_).elim (fun h => h_.1 e_ h) (fun h => nomatch h), h_.2⟩) fun y3 => ?_
  ·exact J.t 2 fun hb1 hb2 => J.g 2 <| OJ.nil ⟨(Cov.mem Cov.nil), rfl, _, rfl, by kernel_rfl⟩
  ·exact J.g 5 <| OJ.nil ⟨(Cov.mem Cov.nil), rfl, _, rfl, by kernel_rfl⟩
  exact J.g 1 <| OJ.nil ⟨(Cov.mem Cov.nil), rfl, _, rfl, by kernel_rfl⟩
 refine J.z 0 <| J.f ?_ ?_
 ·exact SJ.sr 1 <| J.z 1 <| J.r
 exact SJ.skip <| SJ.sr 1 <| J.z 1 <| SJ.seq <| SJ.sr 2 <| J.z 2 <| SJ.block (id := 0) <| J.L (ZaX.L1_ok a0 a2 a3)

/-! ### weir/weirref4.dotted: function 92 -/
noncomputable def Zay.B : Code := bod Tryd.f92
noncomputable def Zay.cx : Fx := ⟨Tryd.prog, 92, Tryd.f92, none⟩
noncomputable def Zay.out (r_ : (Sl × Int × Int)) : Value := .tuple #[Sl.v r_.1, .int .i64 r_.2.1, .int .i64 r_.2.2]
noncomputable def Zay.F1 (a0 : ByteArray) : LF (Int × Sl) (Sl × Int × Int) := ⟨[.inBlock 0, .code (c2 (c2 (c2 Zay.B)))], c1 (c1 (c2 (c2 Zay.B))), fun s_ => [(0, .string a0), (1, .int .i64 s_.1), (7, Sl.v s_.2)], fun s_ => [], (rt Zay.out)⟩
noncomputable def Zay.K1 (a0 : ByteArray) (s1 : Int) (s2 : Sl) (s36 : Int) : M (LS (Int × Sl) (Sl × Int × Int)) :=
 if s36 = s1 then
  Zb0 a0 s1 >>= fun r43 =>
  pure (LS.done (Sl.nil, r43.1, r43.2))
 else
  ZaX a0 s1 s36 255 >>= fun r44 =>
  if r44 < 0 then
   pure (LS.done (Sl.nil, 43, s1))
  else
   slot 5 >>= fun b45 =>
   appl (cI .u8) 5 1 0 s2 [IntKind.wrap .u8 r44] >>= fun r46 =>
   if (r46.len : Int) < 4 then
    (if s36 ≥ (a0.size : Int) then
      pure true
     else
      chk ((0 : Int) ≤ s36 ∧ s36 < (a0.size : Int)) >>= fun _ =>
      pure ((sb a0 s36) != 46)) >>= fun y55 =>
    if y55 = true then
     Zb0 a0 s36 >>= fun r57 =>
     pure (LS.done (Sl.nil, r57.1, r57.2))
    else
     pure (LS.next (IntKind.wrap .i64 (s36 + 1), r46))
   else
    pure (LS.next (s36, r46))
theorem Zay.K1_ok (a0 : ByteArray) (s1 : Int) (s2 : Sl) (s36 : Int) :
  SJ Zay.cx [.code (c2 (c2 (c1 (c2 (c1 (c1 (c1 (c2 (c2 Zay.B))))))))), .inBlock 1, .inLoop (c1 (c1 (c1 (c2 (c2 Zay.B))))), .inBlock 0, .code (c2 (c2 (c2 Zay.B)))] [(0, .string a0), (1, .int .i64 s1), (7, Sl.v s2), (8, .int .i64 s36)] [] (Zay.K1 a0 s1 s2 s36) (Zay.F1 a0).f := by
 unfold Zay.K1
 refine SJ.seq <| SJ.sr 3 <| J.z 3 <| J.f ?_ ?_
 ·exact SJ.sr 8 <| J.C 2 F83 (Zda _ _) fun r43 => J.z 5 <| SJ.sr 5 <| J.z 5 <| J.r
 refine SJ.skip <| SJ.sr 5 <| J.C 3 F84 (ZdL _ _ _ _) fun r44 => J.z 1 <| SJ.seq <| SJ.sr 2 <| J.z 2 <| J.f ?_ ?_
 ·exact SJ.sr 4 <| J.z 4 <| J.r
 refine SJ.skip <| SJ.sr 6 <| J.S 3 [IntKind.wrap .u8 r44] Ty5 fun b45 => J.p 0 0 rfl Ty5 fun r46 => J.z 1 <| SJ.sr 2 <| J.z 2 <| SJ.sr 3 <| J.z 3 <| J.f ?_ ?_
 ·refine SJ.seq <| SJ.sr 10 <| J.j 5 4 .bool ?_ ?_ fun y55 => ?_
  ·exact J.e 5
  ·exact J.t 2 fun hb53 hb54 => J.e 2
  refine J.z 0 <| J.f ?_ ?_
  ·exact SJ.sr 8 <| J.C 2 F83 (Zda _ _) fun r57 => J.z 5 <| SJ.sr 5 <| J.z 5 <| J.r
  exact SJ.skip <| SJ.rg 3 <| J.z 3 <| SJ.inBlock <| SJ.forget (List.Sublist.cons _ List.Sublist.slnil) <| J.o rfl
 exact SJ.skip <| SJ.inBlock <| SJ.forget (List.Sublist.cons _ List.Sublist.slnil) <| J.o rfl
noncomputable def Zay.F2 (a0 : ByteArray) (s1 : Int) (s2 : Sl) : LF Int (LS (Int × Sl) (Sl × Int × Int)) := ⟨[.inBlock 2, .code (c2 (c2 (c1 (c2 (c1 (c1 (c1 (c2 (c2 Zay.B))))))))), .inBlock 1, .inLoop (c1 (c1 (c1 (c2 (c2 Zay.B))))), .inBlock 0, .code (c2 (c2 (c2 Zay.B)))], c1 (c1 (c2 (c1 (c2 (c1 (c1 (c1 (c2 (c2 Zay.B))))))))), fun s_ => [(0, .string a0), (1, .int .i64 s1), (7, Sl.v s2), (8, .int .i64 s_)], fun s_ => [], (Zay.F1 a0).f⟩
noncomputable def Zay.L2 (a0 : ByteArray) (s1 : Int) (s2 : Sl) (s36 : Int) : M (LS Int (LS (Int × Sl) (Sl × Int × Int))) :=
 (if s36 < (a0.size : Int) then
   chk ((0 : Int) ≤ s36 ∧ s36 < (a0.size : Int)) >>= fun _ =>
   Zb1 (sb a0 s36) >>= fun r64 =>
   pure r64
  else
   pure false) >>= fun y65 =>
 if y65 = true then
  pure (LS.next (IntKind.wrap .i64 (s36 + 1)))
 else
  (Zay.K1 a0 s1 s2 s36) >>= fun b => pure (LS.done b)
theorem Zay.L2_ok (a0 : ByteArray) (s1 : Int) (s2 : Sl) : LJ Zay.cx (Zay.F2 a0 s1 s2) (fun s_ => Zay.L2 a0 s1 s2 s_) := by
 rintro s36
 show SJ _ _ _ _ (Zay.L2 a0 s1 s2 s36) _
 unfold Zay.L2
 refine SJ.seq <| SJ.sr 10 <| J.j 5 4 .bool ?_ ?_ fun y65 => ?_
 ·exact J.t 2 fun hb62 hb63 => J.C 0 F82 (Zds _) fun r64 => J.e 1
 ·exact J.e 5
 refine J.z 0 <| J.f ?_ ?_
 ·exact SJ.skip <| SJ.block (id := 3) <| SJ.rg 3 <| J.z 3 <| SJ.inBlock <| J.o rfl
 exact SJ.exit (id := 2) (by rfl) <| J.q <| SJ.done <| Zay.K1_ok a0 s1 s2 s36
noncomputable def Zay.L1 (a0 : ByteArray) (s1 : Int) (s2 : Sl) : M (LS (Int × Sl) (Sl × Int × Int)) :=
 if (s2.len : Int) < 4 then
  ZbR (fun s_ : Int => Zay.L2 a0 s1 s2 s_) s1
 else
  if s1 < (a0.size : Int) then
   pure (LS.done (Sl.nil, 41, s1))
  else
   pure (LS.done (s2, 0, 0))
theorem Zay.L1_ok (a0 : ByteArray) : LJ Zay.cx (Zay.F1 a0) (fun s_ => Zay.L1 a0 s_.1 s_.2) := by
 rintro ⟨s1, s2⟩
 show SJ _ _ _ _ (Zay.L1 a0 s1 s2) _
 unfold Zay.L1
 refine SJ.seq <| SJ.sr 3 <| J.z 3 <| J.f ?_ ?_
 ·exact SJ.skip <| SJ.block (id := 1) <| SJ.sr 2 <| J.z 2 <| SJ.seq <| SJ.block (id := 2) <| J.L (Zay.L2_ok a0 s1 s2)
 refine SJ.exit (id := 0) (by rfl) <| SJ.seq <| SJ.sr 4 <| J.z 4 <| J.f ?_ ?_
 ·exact SJ.sr 4 <| J.z 4 <| J.r
 exact SJ.skip <| SJ.sr 4 <| J.z 4 <| J.r
noncomputable def Zay (a0 : ByteArray) (a1 : Int) : M (Sl × Int × Int) :=
 ZbR (fun s_ : (Int × Sl) => Zay.L1 a0 s_.1 s_.2) (a1, Sl.nil)
theorem Zd1 (a0 : ByteArray) (a1 : Int) : Ref Tryd.prog 92 [.string a0, .int .i64 a1] (Zay a0 a1) Zay.out := by
 refine J.Fn Tryd.func92 ?_
 unfold Zay
 exact SJ.sr 3 <| J.z 3 <| SJ.sr 1 <| J.z 1 <| SJ.seq <| SJ.block (id := 0) <| J.L (Zay.L1_ok a0)

/-! ### (*weir/weirref4.six).group: function 95 -/
noncomputable def Zaw.B : Code := bod Tryd.f95
noncomputable def Zaw.cx : Fx := ⟨Tryd.prog, 95, Tryd.f95, none⟩
noncomputable def Zaw.out (r_ : Bool) : Value := .bool r_
noncomputable def Zaw.K1 (a0 : (Option Addr)) (s3 : Int) (s4 : Int) (y50 : Bool) (j51 : Int) : M Bool :=
 draw >>= fun _ =>
 nilck a0 >>= fun p52 =>
 ld cL (Addr.add p52 1) >>= fun x53 =>
 ZbY a0 >>= fun r54 =>
 same cL (Addr.add p52 1) x53 >>= fun _ =>
 if (IntKind.wrap .i64 ((x53.len : Int) + j51)) > r54 then
  nilck a0 >>= fun p58 =>
  ld (cI .i64) (Addr.add p58 3) >>= fun x59 =>
  Zbq a0 44 x59 >>= fun r60 =>
  pure true
 else
  if y50 = true then
   draw >>= fun _ =>
   nilck a0 >>= fun p85 =>
   ld cS p85 >>= fun x86 =>
   nilck a0 >>= fun p87 =>
   ld (cI .i64) (Addr.add p87 3) >>= fun x88 =>
   Zay x86 x88 >>= fun r89 =>
   if r89.2.1 ≠ 0 then
    Zbq a0 r89.2.1 r89.2.2 >>= fun r91 =>
    pure true
   else
    draw >>= fun _ =>
    nilck a0 >>= fun p92 =>
    ld cL (Addr.add p92 1) >>= fun x93 =>
    idx r89.1.a r89.1.len 0 1 >>= fun p94 =>
    ld (cI .u8) p94 >>= fun x95 =>
    idx r89.1.a r89.1.len 1 1 >>= fun p96 =>
    ld (cI .u8) p96 >>= fun x97 =>
    idx r89.1.a r89.1.len 2 1 >>= fun p98 =>
    ld (cI .u8) p98 >>= fun x99 =>
    idx r89.1.a r89.1.len 3 1 >>= fun p100 =>
    ld (cI .u8) p100 >>= fun x101 =>
    slot 3 >>= fun b102 =>
    same cL (Addr.add p92 1) x93 >>= fun _ =>
    appl (cI .i64) 3 8 0 x93 [IntKind.wrap .i64 ((IntKind.wrap .i64 (256 * (IntKind.wrap .i64 x95))) + (IntKind.wrap .i64 x97)), IntKind.wrap .i64 ((IntKind.wrap .i64 (256 * (IntKind.wrap .i64 x99))) + (IntKind.wrap .i64 x101))] >>= fun r103 =>
    nilck a0 >>= fun p104 =>
    st cL (Addr.add p104 1) r103 >>= fun _ =>
    nilck a0 >>= fun p105 =>
    ld cS p105 >>= fun x106 =>
    nilck a0 >>= fun p107 =>
    st (cI .i64) (Addr.add p107 3) (x106.size : Int) >>= fun _ =>
    pure true
  else
   nilck a0 >>= fun p109 =>
   ld (cI .i64) (Addr.add p109 3) >>= fun x110 =>
   if (IntKind.wrap .i64 (s3 - x110)) > 4 then
    nilck a0 >>= fun p114 =>
    ld (cI .i64) (Addr.add p114 3) >>= fun x115 =>
    Zbq a0 43 x115 >>= fun r116 =>
    pure true
   else
    nilck a0 >>= fun p117 =>
    ld cL (Addr.add p117 1) >>= fun x118 =>
    slot 3 >>= fun b119 =>
    appl (cI .i64) 3 8 0 x118 [s4] >>= fun r120 =>
    nilck a0 >>= fun p121 =>
    st cL (Addr.add p121 1) r120 >>= fun _ =>
    nilck a0 >>= fun p122 =>
    st (cI .i64) (Addr.add p122 3) s3 >>= fun _ =>
    nilck a0 >>= fun p123 =>
    ld cS p123 >>= fun x124 =>
    pure (s3 == (x124.size : Int))
theorem Zaw.K1_ok (a0 : (Option Addr)) (s3 : Int) (s4 : Int) (y50 : Bool) (j51 : Int) :
  SJ Zaw.cx [.code (c2 (c2 (c2 (c2 (c2 (c2 (c2 (c2 Zaw.B))))))))] [(0, .pointer a0), (3, .int .i64 s3), (4, .int .i64 s4), (7, .bool y50), (8, .int .i64 j51)] [] (Zaw.K1 a0 s3 s4 y50 j51) (rt Zaw.out) := by
 unfold Zaw.K1
 refine SJ.seq <| SJ.seq <| J.R 10 ZbO <| J.n 1 fun p52 => J.l 1 Ty73 fun x53 => J.g 4 <| OJ.call (d := 106) (g := 99) (ats := #[154]) (args := [.tmp 105]) (owed := [⟨3, 73, (Addr.add p52 1), cL.val x53⟩]) F99 (Ze6 a0) fun r54 => OW.same Ty73 <| OW.nil <| J.z 1 <| J.f ?_ ?_
 ·exact SJ.sr 6 <| J.n 2 fun p58 => J.l 1 Ty3 fun x59 => J.C 0 F97 (ZbL _ _ _) fun r60 => J.z 0 <| SJ.sr 1 <| J.z 1 <| J.r
 refine SJ.skip <| SJ.seq <| SJ.sr 1 <| J.z 1 <| J.f ?_ ?_
 ·refine SJ.seq <| J.R 16 ZbO <| J.n 1 fun p85 => J.l 1 Ty9 fun x86 => J.n 1 fun p87 => J.l 1 Ty3 fun x88 => J.C 0 F92 (Zd1 _ _) fun r89 => J.z 7 <| SJ.seq <| SJ.sr 2 <| J.z 2 <| J.f ?_ ?_
  ·exact SJ.sr 4 <| J.C 3 F97 (ZbL _ _ _) fun r91 => J.z 0 <| SJ.sr 1 <| J.z 1 <| J.r
  exact SJ.skip <| SJ.seq <| J.R 30 ZbO <| J.n 2 fun p92 => J.l 1 Ty73 fun x93 => J.i 1 fun p94 => J.l 0 Ty5 fun x95 => J.i 3 fun p96 => J.l 0 Ty5 fun x97 => J.i 3 fun p98 => J.l 0 Ty5 fun x99 => J.i 3 fun p100 => J.l 0 Ty5 fun x101 => J.g 2 <| OJ.rowSlot (d := 159) (t := 73) (parts := [(0, .tmp 148), (1, .tmp 158)]) (ps := [(0, (cI .i64).val (IntKind.wrap .i64 ((IntKind.wrap .i64 (256 * (IntKind.wrap .i64 x95))) + (IntKind.wrap .i64 x97)))), (1, (cI .i64).val (IntKind.wrap .i64 ((IntKind.wrap .i64 (256 * (IntKind.wrap .i64 x99))) + (IntKind.wrap .i64 x101))))]) (cd := (cI .i64)) (⟨[IntKind.wrap .i64 ((IntKind.wrap .i64 (256 * (IntKind.wrap .i64 x95))) + (IntKind.wrap .i64 x97)), IntKind.wrap .i64 ((IntKind.wrap .i64 (256 * (IntKind.wrap .i64 x99))) + (IntKind.wrap .i64 x101))], rfl⟩ : Vec Int 2) (owed := [⟨4, 73, (Addr.add p92 1), cL.val x93⟩]) Ty3 (Zav.cons (cd := (cI .i64)) (q := (IntKind.wrap .i64 ((IntKind.wrap .i64 (256 * (IntKind.wrap .i64 x95))) + (IntKind.wrap .i64 x97)))) (o := 0) rfl (Upd.arr (i := 0) (by decide) (by decide)) (Zav.cons (cd := (cI .i64)) (q := (IntKind.wrap .i64 ((IntKind.wrap .i64 (256 * (IntKind.wrap .i64 x99))) + (IntKind.wrap .i64 x101)))) (o := 1) rfl (Upd.arr (i := 1) (by decide) (by decide)) Zav.nil)) fun b102 => OW.same Ty73 <| OW.nil <| J.p 0 0 rfl Ty3 fun r103 => J.n 0 fun p104 => J.w 1 Ty73 <| J.z 0 <| SJ.sr 9 <| J.n 2 fun p105 => J.l 1 Ty9 fun x106 => J.n 1 fun p107 => J.w 1 Ty3 <| J.z 0 <| SJ.sr 1 <| J.z 1 <| J.r
 refine SJ.skip <| SJ.seq <| SJ.sr 7 <| J.n 2 fun p109 => J.l 1 Ty3 fun x110 => J.z 2 <| J.f ?_ ?_
 ·exact SJ.sr 6 <| J.n 2 fun p114 => J.l 1 Ty3 fun x115 => J.C 0 F97 (ZbL _ _ _) fun r116 => J.z 0 <| SJ.sr 1 <| J.z 1 <| J.r
 exact SJ.skip <| SJ.sr 11 <| J.n 2 fun p117 => J.l 1 Ty73 fun x118 => J.S 1 [s4] Ty3 fun b119 => J.p 0 0 rfl Ty3 fun r120 => J.n 0 fun p121 => J.w 1 Ty73 <| J.z 0 <| SJ.sr 5 <| J.n 2 fun p122 => J.w 1 Ty3 <| J.z 0 <| SJ.sr 8 <| J.n 2 fun p123 => J.l 1 Ty9 fun x124 => J.z 3 <| J.r
noncomputable def Zaw.K2 (a0 : (Option Addr)) (s3 : Int) (s4 : Int) : M Bool :=
 nilck a0 >>= fun p27 =>
 ld (cI .i64) (Addr.add p27 3) >>= fun x28 =>
 if s3 = x28 then
  draw >>= fun _ =>
  nilck a0 >>= fun p35 =>
  ld cS p35 >>= fun x36 =>
  nilck a0 >>= fun p37 =>
  ld (cI .i64) (Addr.add p37 3) >>= fun x38 =>
  Zb0 x36 x38 >>= fun r39 =>
  Zbq a0 r39.1 r39.2 >>= fun r40 =>
  pure true
 else
  nilck a0 >>= fun p41 =>
  ld cS p41 >>= fun x42 =>
  (if s3 < (x42.size : Int) then
    nilck a0 >>= fun p43 =>
    ld cS p43 >>= fun x44 =>
    chk ((0 : Int) ≤ s3 ∧ s3 < (x44.size : Int)) >>= fun _ =>
    pure ((sb x44 s3) == 46)
   else
    pure false) >>= fun y47 =>
  (if y47 = true then
    nilck a0 >>= fun p48 =>
    ld (cI .i64) (Addr.add p48 3) >>= fun x49 =>
    pure (decide (x49 > 0))
   else
    pure false) >>= fun y50 =>
  if y50 = true then
   Zaw.K1 a0 s3 s4 y50 2
  else
   Zaw.K1 a0 s3 s4 y50 1
theorem Zaw.K2_ok (a0 : (Option Addr)) (s3 : Int) (s4 : Int) :
  SJ Zaw.cx [.code (c2 (c2 (c2 (c2 Zaw.B))))] [(0, .pointer a0), (3, .int .i64 s3), (4, .int .i64 s4)] [] (Zaw.K2 a0 s3 s4) (rt Zaw.out) := by
 unfold Zaw.K2
 refine SJ.seq <| SJ.sr 6 <| J.n 2 fun p27 => J.l 1 Ty3 fun x28 => J.z 1 <| J.f ?_ ?_
 ·exact SJ.seq <| J.R 14 ZbO <| J.n 1 fun p35 => J.l 1 Ty9 fun x36 => J.n 1 fun p37 => J.l 1 Ty3 fun x38 => J.C 0 F83 (Zda _ _) fun r39 => J.z 5 <| SJ.sr 4 <| J.C 3 F97 (ZbL _ _ _) fun r40 => J.z 0 <| SJ.sr 1 <| J.z 1 <| J.r
 refine SJ.skip <| SJ.sr 24 <| J.n 2 fun p41 => J.l 1 Ty9 fun x42 => J.j 3 7 .bool ?_ ?_ fun y47 => ?_
 ·exact J.n 1 fun p43 => J.l 1 Ty9 fun x44 => J.t 1 fun hb45 hb46 => J.e 2
 ·exact J.e 8
 refine J.j 1 5 .bool ?_ ?_ fun y50 => ?_
 ·exact J.n 1 fun p48 => J.l 1 Ty3 fun x49 => J.e 2
 ·exact J.e 6
 refine J.z 1 <| SJ.sr 1 <| J.z 1 <| SJ.seq <| SJ.sr 1 <| J.z 1 <| J.f ?_ ?_
 ·exact SJ.rg 1 <| J.z 1 <| J.q <| Zaw.K1_ok a0 s3 s4 y50 2
 exact SJ.skip <| J.q <| Zaw.K1_ok a0 s3 s4 y50 1
noncomputable def Zaw.F1 (a0 : (Option Addr)) : LF (Int × Int) Bool := ⟨[.inBlock 0, .code (c2 (c2 (c2 (c2 Zaw.B))))], c1 (c1 (c2 (c2 (c2 Zaw.B)))), fun s_ => [(0, .pointer a0), (3, .int .i64 s_.1), (4, .int .i64 s_.2)], fun s_ => [], (rt Zaw.out)⟩
noncomputable def Zaw.L1 (a0 : (Option Addr)) (s3 : Int) (s4 : Int) : M (LS (Int × Int) Bool) :=
 nilck a0 >>= fun p130 =>
 ld cS p130 >>= fun x131 =>
 (if s3 < (x131.size : Int) then
   nilck a0 >>= fun p132 =>
   ld cS p132 >>= fun x133 =>
   chk ((0 : Int) ≤ s3 ∧ s3 < (x133.size : Int)) >>= fun _ =>
   Zcb (sb x133 s3) >>= fun r136 =>
   pure (decide (r136 ≥ 0))
  else
   pure false) >>= fun y137 =>
 if y137 = true then
  nilck a0 >>= fun p138 =>
  ld (cI .i64) (Addr.add p138 3) >>= fun x139 =>
  if (IntKind.wrap .i64 (s3 - x139)) < 4 then
   nilck a0 >>= fun p145 =>
   ld cS p145 >>= fun x146 =>
   chk ((0 : Int) ≤ s3 ∧ s3 < (x146.size : Int)) >>= fun _ =>
   Zcb (sb x146 s3) >>= fun r149 =>
   pure (LS.next (IntKind.wrap .i64 (s3 + 1), IntKind.wrap .i64 ((IntKind.wrap .i64 (16 * s4)) + r149)))
  else
   pure (LS.next (IntKind.wrap .i64 (s3 + 1), s4))
 else
  (Zaw.K2 a0 s3 s4) >>= fun b => pure (LS.done b)
theorem Zaw.L1_ok (a0 : (Option Addr)) : LJ Zaw.cx (Zaw.F1 a0) (fun s_ => Zaw.L1 a0 s_.1 s_.2) := by
 rintro ⟨s3, s4⟩
 show SJ _ _ _ _ (Zaw.L1 a0 s3 s4) _
 unfold Zaw.L1
 refine SJ.seq <| SJ.sr 17 <| J.n 2 fun p130 => J.l 1 Ty9 fun x131 => J.j 3 8 .bool ?_ ?_ fun y137 => ?_
 ·exact J.n 1 fun p132 => J.l 1 Ty9 fun x133 => J.t 1 fun hb134 hb135 => J.C 0 F98 (Zej _) fun r136 => J.e 2
 ·exact J.e 9
 refine J.z 0 <| J.f ?_ ?_
 ·refine SJ.skip <| SJ.block (id := 1) <| SJ.seq <| SJ.sr 7 <| J.n 2 fun p138 => J.l 1 Ty3 fun x139 => J.z 2 <| J.f ?_ ?_
  ·exact SJ.rg 11 <| J.n 3 fun p145 => J.l 1 Ty9 fun x146 => J.t 1 fun hb147 hb148 => J.C 0 F98 (Zej _) fun r149 => J.z 2 <| SJ.rg 3 <| J.z 3 <| SJ.inBlock <| J.o rfl
  exact SJ.skip <| SJ.rg 3 <| J.z 3 <| SJ.inBlock <| J.o rfl
 exact SJ.exit (id := 0) (by rfl) <| J.q <| SJ.done <| Zaw.K2_ok a0 s3 s4
noncomputable def Zaw (a0 : (Option Addr)) : M Bool :=
 nilck a0 >>= fun p1 =>
 ld (cI .i64) (Addr.add p1 3) >>= fun x2 =>
 ZbR (fun s_ : (Int × Int) => Zaw.L1 a0 s_.1 s_.2) (x2, 0)
theorem ZeJ (a0 : (Option Addr)) : Ref Tryd.prog 95 [.pointer a0] (Zaw a0) Zaw.out := by
 refine J.Fn Tryd.func95 ?_
 unfold Zaw
 exact SJ.sr 1 <| J.z 1 <| SJ.sr 5 <| J.n 1 fun p1 => J.l 1 Ty3 fun x2 => J.z 1 <| SJ.sr 1 <| J.z 1 <| SJ.seq <| SJ.block (id := 0) <| J.L (Zaw.L1_ok a0)

/-! ### (*weir/weirref4.six).between: function 96 -/
noncomputable def ZbM.out (r_ : Bool) : Value := .bool r_
noncomputable def ZbM (a0 : (Option Addr)) : M Bool :=
 draw >>= fun _ =>
 nilck a0 >>= fun p1 =>
 ld cS p1 >>= fun x2 =>
 nilck a0 >>= fun p3 =>
 ld (cI .i64) (Addr.add p3 3) >>= fun x4 =>
 ZcD x2 x4 >>= fun r5 =>
 (if r5 = true then
   nilck a0 >>= fun p6 =>
   ld (cI .i64) (Addr.add p6 2) >>= fun x7 =>
   (if x7 ≥ 0 then
     pure true
    else
     nilck a0 >>= fun p8 =>
     ld cL (Addr.add p8 1) >>= fun x9 =>
     pure ((x9.len : Int) == 8)) >>= fun y10 =>
   pure y10
  else
   pure false) >>= fun y11 =>
 if y11 = true then
  nilck a0 >>= fun p74 =>
  ld (cI .i64) (Addr.add p74 3) >>= fun x75 =>
  Zbq a0 44 x75 >>= fun r76 =>
  pure false
 else
  if r5 = true then
   nilck a0 >>= fun p106 =>
   ld cL (Addr.add p106 1) >>= fun x107 =>
   nilck a0 >>= fun p108 =>
   st (cI .i64) (Addr.add p108 2) (x107.len : Int) >>= fun _ =>
   nilck a0 >>= fun p109 =>
   ld (cI .i64) (Addr.add p109 3) >>= fun x110 =>
   nilck a0 >>= fun p111 =>
   st (cI .i64) (Addr.add p111 3) (IntKind.wrap .i64 (x110 + 2)) >>= fun _ =>
   draw >>= fun _ =>
   nilck a0 >>= fun p112 =>
   ld (cI .i64) (Addr.add p112 3) >>= fun x113 =>
   nilck a0 >>= fun p114 =>
   ld cS p114 >>= fun x115 =>
   pure (x113 == (x115.size : Int))
  else
   draw >>= fun _ =>
   nilck a0 >>= fun p116 =>
   ld cS p116 >>= fun x117 =>
   nilck a0 >>= fun p118 =>
   ld (cI .i64) (Addr.add p118 3) >>= fun x119 =>
   chk ((0 : Int) ≤ x119 ∧ x119 < (x117.size : Int)) >>= fun _ =>
   if (sb x117 x119) = 58 then
    nilck a0 >>= fun p128 =>
    ld (cI .i64) (Addr.add p128 3) >>= fun x129 =>
    nilck a0 >>= fun p130 =>
    st (cI .i64) (Addr.add p130 3) (IntKind.wrap .i64 (x129 + 1)) >>= fun _ =>
    pure false
   else
    nilck a0 >>= fun p131 =>
    ld (cI .i64) (Addr.add p131 3) >>= fun x132 =>
    Zbq a0 41 x132 >>= fun r133 =>
    pure false
theorem Zet (a0 : (Option Addr)) : Ref Tryd.prog 96 [.pointer a0] (ZbM a0) ZbM.out := by
 refine J.Fn Tryd.func96 ?_
 unfold ZbM
 refine SJ.sr 1 <| J.z 1 <| SJ.seq <| J.R 10 ZbO <| J.n 1 fun p1 => J.l 1 Ty9 fun x2 => J.n 1 fun p3 => J.l 1 Ty3 fun x4 => J.C 0 F94 (ZeI _ _) fun r5 => J.z 1 <| SJ.seq <| SJ.block (id := 0) <| SJ.sr 17 <| J.g 2 <| OJ.join (b := r5) [2, 3, 4, 5, 6, 7, 8, 9, 10, 11, 12, 13, 14, 15] [16] [0, 3, 35] (fun y11 => [(0, .pointer a0), (3, .bool r5), (35, .bool y11)]) [] [] (t := 21) Iff.rfl (fun hp_ => ?_) (fun hp_ => ?_) (fun _ _ _ _ _ _ h_ => h_) fun y11 => ?_
 ·refine J.n 1 fun p6 => J.l 1 Ty3 fun x7 => J.g 2 <| OJ.join (b := decide (x7 ≥ 0)) [8, 9, 10, 11, 12, 13, 14] [15] [0, 3, 21, 34] (fun y10 => [(0, .pointer a0), (3, .bool r5), (21, .bool true), (34, .bool y10)]) [] [] (t := 27) decide_eq_true_iff (fun hp_ => ?_) (fun hp_ => ?_) (fun _ _ _ _ _ hq_ h_ => ⟨fun e_ he_ => (hq_ e_ he_).elim (fun h => h_.1 e_ h) (fun h => nomatch h), h_.2⟩) fun y10 => ?_
  ·exact J.g 7 <| OJ.nil ⟨(Cov.mem Cov.nil), rfl, _, rfl, by kernel_rfl⟩
  ·exact J.n 1 fun p8 => J.l 1 Ty73 fun x9 => J.g 3 <| OJ.nil ⟨(Cov.mem Cov.nil), rfl, _, rfl, by kernel_rfl⟩
  exact J.g 1 <| OJ.nil ⟨(Cov.mem Cov.nil), rfl, _, rfl, by kernel_rfl⟩
 ·exact J.g 14 <| OJ.nil ⟨(Cov.mem Cov.nil), rfl, _, rfl, by kernel_rfl⟩
 refine J.z 1 <| J.f ?_ ?_
 ·exact SJ.rg 6 <| J.n 2 fun p74 => J.l 1 Ty3 fun x75 => J.C 0 F97 (ZbL _ _ _) fun r76 => J.z 0 <| SJ.inBlock <| SJ.sr 1 <| J.z 1 <| J.r
 refine SJ.sr 2 <| J.z 2 <| J.f ?_ ?_
 ·exact SJ.sr 9 <| J.n 2 fun p106 => J.l 1 Ty73 fun x107 => J.n 1 fun p108 => J.w 1 Ty3 <| J.z 0 <| SJ.sr 9 <| J.n 2 fun p109 => J.l 1 Ty3 fun x110 => J.n 1 fun p111 => J.w 1 Ty3 <| J.z 0 <| SJ.seq <| J.R 11 ZbO <| J.n 1 fun p112 => J.l 1 Ty3 fun x113 => J.n 1 fun p114 => J.l 1 Ty9 fun x115 => J.z 3 <| J.r
 refine SJ.seq <| J.R 11 ZbO <| J.n 1 fun p116 => J.l 1 Ty9 fun x117 => J.n 1 fun p118 => J.l 1 Ty3 fun x119 => J.t 0 fun hb120 hb121 => J.z 2 <| J.f ?_ ?_
 ·exact SJ.rg 8 <| J.n 1 fun p128 => J.l 1 Ty3 fun x129 => J.n 1 fun p130 => J.w 1 Ty3 <| J.z 0 <| SJ.inBlock <| SJ.sr 1 <| J.z 1 <| J.r
 exact SJ.rg 6 <| J.n 2 fun p131 => J.l 1 Ty3 fun x132 => J.C 0 F97 (ZbL _ _ _) fun r133 => J.z 0 <| SJ.inBlock <| SJ.sr 1 <| J.z 1 <| J.r

/-! ### weir/weirref4.sixes: function 91 -/
noncomputable def Zao.B : Code := bod Tryd.f91
noncomputable def Zao.cx : Fx := ⟨Tryd.prog, 91, Tryd.f91, none⟩
noncomputable def Zao.out (r_ : ((Vec Int 16) × Int × Int)) : Value := .tuple #[((cI .u8).arr 16).val r_.1, .int .i64 r_.2.1, .int .i64 r_.2.2]
noncomputable def Zao.F1 (b1 : Nat) (b2 : Nat) (b3 : Nat) : LF (Int × (Vec Int 16)) ((Vec Int 16) × Int × Int) := ⟨[.inBlock 2, .code (c2 (c2 (c2 (c2 (c2 (c2 (c2 (c2 (c2 (c2 Zao.B))))))))))], c1 (c2 (c1 (c2 (c2 (c2 (c2 (c2 (c2 (c2 (c2 (c2 Zao.B))))))))))), fun s_ => [(2, .pointer (some (pt b1 0))), (5, .pointer (some (pt b2 0))), (6, .pointer (some (pt b3 0))), (9, .int .i64 s_.1)], fun s_ => [(b2, ((cI .u8).arr 16).enc s_.2), (b1, ((cI .u8).arr 16).enc (Vec.rep 16 0))], (rt Zao.out)⟩
noncomputable def Zao.K1 (b3 : Nat) (s27 : Int) (s28 : (Vec Int 16)) (j53 : Int) : M (LS (Int × (Vec Int 16)) ((Vec Int 16) × Int × Int)) :=
 ld cL (Addr.add (pt b3 0) 1) >>= fun x54 =>
 idx x54.a x54.len s27 1 >>= fun p55 =>
 ld (cI .i64) p55 >>= fun x56 =>
 chk ((0 : Int) ≤ (IntKind.wrap .i64 (2 * j53)) ∧ (IntKind.wrap .i64 (2 * j53)) < (16 : Nat)) >>= fun _ =>
 ld cL (Addr.add (pt b3 0) 1) >>= fun x59 =>
 idx x59.a x59.len s27 1 >>= fun p60 =>
 ld (cI .i64) p60 >>= fun x61 =>
 chk ((0 : Int) ≤ (IntKind.wrap .i64 ((IntKind.wrap .i64 (2 * j53)) + 1)) ∧ (IntKind.wrap .i64 ((IntKind.wrap .i64 (2 * j53)) + 1)) < (16 : Nat)) >>= fun _ =>
 pure (LS.next (IntKind.wrap .i64 (s27 + 1), (Vec.s (Vec.s s28 (IntKind.wrap .i64 (2 * j53)) (IntKind.wrap .u8 (IntKind.wrap .i64 (Int.tdiv x56 256)))) (IntKind.wrap .i64 ((IntKind.wrap .i64 (2 * j53)) + 1)) (IntKind.wrap .u8 (Int.tmod x61 256)))))
theorem Zao.K1_ok (b1 : Nat) (b2 : Nat) (b3 : Nat) (s27 : Int) (s28 : (Vec Int 16)) (j53 : Int) :
  SJ Zao.cx [.code (c2 (c2 (c1 (c1 (c2 (c1 (c1 (c2 (c1 (c2 (c2 (c2 (c2 (c2 (c2 (c2 (c2 (c2 Zao.B)))))))))))))))))), .inBlock 3, .code (c2 (c2 (c1 (c1 (c2 (c1 (c2 (c2 (c2 (c2 (c2 (c2 (c2 (c2 (c2 Zao.B))))))))))))))), .inLoop (c1 (c1 (c2 (c1 (c2 (c2 (c2 (c2 (c2 (c2 (c2 (c2 (c2 Zao.B))))))))))))), .inBlock 2, .code (c2 (c2 (c2 (c2 (c2 (c2 (c2 (c2 (c2 (c2 Zao.B))))))))))] [(2, .pointer (some (pt b1 0))), (5, .pointer (some (pt b2 0))), (6, .pointer (some (pt b3 0))), (9, .int .i64 s27), (10, .int .i64 j53)] [(b2, ((cI .u8).arr 16).enc s28), (b1, ((cI .u8).arr 16).enc (Vec.rep 16 0))] (Zao.K1 b3 s27 s28 j53) (Zao.F1 b1 b2 b3).f := by
 unfold Zao.K1
 exact SJ.sr 13 <| J.l 5 Ty73 fun x54 => J.i 1 fun p55 => J.l 0 Ty3 fun x56 => J.y 2 fun hb57 hb58 => J.s (u := (IntKind.wrap .u8 (IntKind.wrap .i64 (Int.tdiv x56 256)))) 0 0 rfl Ty5 (Upd.zero (Upd.arr hb57 hb58)) <| J.z 0 <| SJ.rg 14 <| J.l 6 Ty73 fun x59 => J.i 1 fun p60 => J.l 0 Ty3 fun x61 => J.y 2 fun hb62 hb63 => J.s (u := (IntKind.wrap .u8 (Int.tmod x61 256))) 0 0 rfl Ty5 (Upd.zero (Upd.arr hb62 hb63)) <| J.z 0 <| SJ.inBlock <| SJ.rg 3 <| J.z 3 <| J.o rfl
noncomputable def Zao.L1 (b3 : Nat) (s27 : Int) (s28 : (Vec Int 16)) : M (LS (Int × (Vec Int 16)) ((Vec Int 16) × Int × Int)) :=
 ld cL (Addr.add (pt b3 0) 1) >>= fun x48 =>
 if s27 < (x48.len : Int) then
  ld (cI .i64) (Addr.add (pt b3 0) 2) >>= fun x49 =>
  (if x49 ≥ 0 then
    ld (cI .i64) (Addr.add (pt b3 0) 2) >>= fun x50 =>
    pure (decide (s27 ≥ x50))
   else
    pure false) >>= fun y51 =>
  if y51 = true then
   ld cL (Addr.add (pt b3 0) 1) >>= fun x64 =>
   Zao.K1 b3 s27 s28 (IntKind.wrap .i64 ((IntKind.wrap .i64 (8 - (x64.len : Int))) + s27))
  else
   Zao.K1 b3 s27 s28 s27
 else
  pure (LS.done (s28, 0, 0))
theorem Zao.L1_ok (b1 : Nat) (b2 : Nat) (b3 : Nat) : LJ Zao.cx (Zao.F1 b1 b2 b3) (fun s_ => Zao.L1 b3 s_.1 s_.2) := by
 rintro ⟨s27, s28⟩
 show SJ _ _ _ _ (Zao.L1 b3 s27 s28) _
 unfold Zao.L1
 refine SJ.seq <| SJ.sr 7 <| J.l 4 Ty73 fun x48 => J.z 2 <| J.f ?_ ?_
 ·refine SJ.skip <| SJ.seq <| SJ.block (id := 3) <| SJ.sr 2 <| J.z 2 <| SJ.seq <| SJ.sr 13 <| J.l 3 Ty3 fun x49 => J.j 2 6 .bool ?_ ?_ fun y51 => ?_
  ·exact J.l 4 Ty3 fun x50 => J.e 2
  ·exact J.e 7
  refine J.z 0 <| J.f ?_ ?_
  ·exact SJ.rg 9 <| J.l 3 Ty73 fun x64 => J.z 5 <| J.q <| Zao.K1_ok b1 b2 b3 s27 s28 (IntKind.wrap .i64 ((IntKind.wrap .i64 (8 - (x64.len : Int))) + s27))
  exact SJ.skip <| J.q <| Zao.K1_ok b1 b2 b3 s27 s28 s27
 exact SJ.exit (id := 2) (by rfl) <| SJ.sr 4 <| J.k 0 0 rfl Ty26 (At.whole _) <| J.s 0 1 rfl Ty26 (Upd.w s28) <| J.z 2 <| J.rc (.c 1 rfl Ty26 .n)
noncomputable def Zao.K2 (b3 : Nat) : M ((Vec Int 16) × Int × Int) :=
 ld (cI .i64) (Addr.add (pt b3 0) 4) >>= fun x22 =>
 if x22 ≠ 0 then
  draw >>= fun _ =>
  ld (cI .i64) (Addr.add (pt b3 0) 4) >>= fun x25 =>
  ld (cI .i64) (Addr.add (pt b3 0) 5) >>= fun x26 =>
  same (cI .i64) (Addr.add (pt b3 0) 5) x26 >>= fun _ =>
  same (cI .i64) (Addr.add (pt b3 0) 4) x25 >>= fun _ =>
  pure ((Vec.rep 16 0), x25, x26)
 else
  ZbR (fun s_ : (Int × (Vec Int 16)) => Zao.L1 b3 s_.1 s_.2) (0, (Vec.rep 16 0))
theorem Zao.K2_ok (b1 : Nat) (b2 : Nat) (b3 : Nat) :
  SJ Zao.cx [.code (c2 (c2 (c2 (c2 (c2 (c2 (c2 (c2 Zao.B))))))))] [(2, .pointer (some (pt b1 0))), (5, .pointer (some (pt b2 0))), (6, .pointer (some (pt b3 0)))] [(b2, ((cI .u8).arr 16).enc (Vec.rep 16 0)), (b1, ((cI .u8).arr 16).enc (Vec.rep 16 0))] (Zao.K2 b3) (rt Zao.out) := by
 unfold Zao.K2
 refine SJ.seq <| SJ.sr 5 <| J.l 3 Ty3 fun x22 => J.z 1 <| J.f ?_ ?_
 ·exact SJ.seq <| J.R 12 ZbO <| J.k 0 0 rfl Ty26 (At.whole _) <| J.l 3 Ty3 fun x25 => J.l 3 Ty3 fun x26 => OJ.kst (y := .tmp 2) (z := .tmp 77) (cd := ((cI .u8).arr 16)) (u := (Vec.rep 16 0)) (j := 1) (b := b1) (o := 0) (((cI .u8).arr 16).enc (Vec.rep 16 0)) (owed := [⟨8, 3, (Addr.add (pt b3 0) 5), (cI .i64).val x26⟩, ⟨4, 3, (Addr.add (pt b3 0) 4), (cI .i64).val x25⟩]) Ty26 rfl (Upd.whole ((Cod.len _ _).trans (Cod.len _ _).symm)) rfl <| OW.same Ty3 <| OW.same Ty3 <| OW.nil <| J.z 2 <| J.rc (.c 1 rfl Ty26 .n)
 exact SJ.skip <| SJ.seq <| SJ.sr 1 <| J.z 1 <| SJ.block (id := 2) <| J.L (Zao.L1_ok b1 b2 b3)
noncomputable def Zao.K3 (a0 : ByteArray) (b3 : Nat) : M ((Vec Int 16) × Int × Int) :=
 ld (cI .i64) (Addr.add (pt b3 0) 4) >>= fun x16 =>
 (if x16 = 0 then
   ld (cI .i64) (Addr.add (pt b3 0) 2) >>= fun x17 =>
   pure (decide (x17 < 0))
  else
   pure false) >>= fun y18 =>
 (if y18 = true then
   ld cL (Addr.add (pt b3 0) 1) >>= fun x19 =>
   pure (decide ((x19.len : Int) < 8))
  else
   pure false) >>= fun y20 =>
 if y20 = true then
  Zbq (some (pt b3 0)) 42 (a0.size : Int) >>= fun r68 =>
  Zao.K2 b3
 else
  Zao.K2 b3
theorem Zao.K3_ok (a0 : ByteArray) (b1 : Nat) (b2 : Nat) (b3 : Nat) :
  SJ Zao.cx [.code (c2 (c2 (c2 (c2 (c2 (c2 (c2 Zao.B)))))))] [(0, .string a0), (2, .pointer (some (pt b1 0))), (5, .pointer (some (pt b2 0))), (6, .pointer (some (pt b3 0)))] [(b2, ((cI .u8).arr 16).enc (Vec.rep 16 0)), (b1, ((cI .u8).arr 16).enc (Vec.rep 16 0))] (Zao.K3 a0 b3) (rt Zao.out) := by
 unfold Zao.K3
 refine SJ.seq <| SJ.sr 20 <| J.l 3 Ty3 fun x16 => J.j 2 5 .bool ?_ ?_ fun y18 => ?_
 ·exact J.l 3 Ty3 fun x17 => J.e 2
 ·exact J.e 6
 refine J.j 1 6 .bool ?_ ?_ fun y20 => ?_
 ·exact J.l 3 Ty73 fun x19 => J.e 3
 ·exact J.e 7
 refine J.z 0 <| J.f ?_ ?_
 ·exact SJ.rg 4 <| J.C 3 F97 (ZbL _ _ _) fun r68 => J.z 0 <| J.q <| Zao.K2_ok b1 b2 b3
 exact SJ.skip <| J.q <| Zao.K2_ok b1 b2 b3
noncomputable def Zao.F2 (a0 : ByteArray) (b1 : Nat) (b2 : Nat) (b3 : Nat) : LF Bool ((Vec Int 16) × Int × Int) := ⟨[.inBlock 0, .code (c2 (c2 (c2 (c2 (c2 (c2 (c2 Zao.B)))))))], c1 (c1 (c2 (c2 (c2 (c2 (c2 (c2 Zao.B))))))), fun s_ => [(0, .string a0), (2, .pointer (some (pt b1 0))), (5, .pointer (some (pt b2 0))), (6, .pointer (some (pt b3 0))), (7, .bool s_)], fun s_ => [(b2, ((cI .u8).arr 16).enc (Vec.rep 16 0)), (b1, ((cI .u8).arr 16).enc (Vec.rep 16 0))], (rt Zao.out)⟩
noncomputable def Zao.L2 (a0 : ByteArray) (b3 : Nat) (s6 : Bool) : M (LS Bool ((Vec Int 16) × Int × Int)) :=
 (if ¬ (s6 = true) then
   ld (cI .i64) (Addr.add (pt b3 0) 4) >>= fun x70 =>
   pure (x70 == 0)
  else
   pure false) >>= fun y71 =>
 if y71 = true then
  Zaw (some (pt b3 0)) >>= fun r72 =>
  (if ¬ (r72 = true) then
    ld (cI .i64) (Addr.add (pt b3 0) 4) >>= fun x73 =>
    pure (x73 == 0)
   else
    pure false) >>= fun y74 =>
  if y74 = true then
   ZbM (some (pt b3 0)) >>= fun r76 =>
   pure (LS.next r76)
  else
   pure (LS.next r72)
 else
  (Zao.K3 a0 b3) >>= fun b => pure (LS.done b)
theorem Zao.L2_ok (a0 : ByteArray) (b1 : Nat) (b2 : Nat) (b3 : Nat) : LJ Zao.cx (Zao.F2 a0 b1 b2 b3) (fun s_ => Zao.L2 a0 b3 s_) := by
 rintro s6
 show SJ _ _ _ _ (Zao.L2 a0 b3 s6) _
 unfold Zao.L2
 refine SJ.seq <| SJ.sr 9 <| J.j 3 5 .bool ?_ ?_ fun y71 => ?_
 ·exact J.l 3 Ty3 fun x70 => J.e 2
 ·exact J.e 6
 refine J.z 0 <| J.f ?_ ?_
 ·refine SJ.skip <| SJ.block (id := 1) <| SJ.sr 3 <| J.C 1 F95 (ZeJ _) fun r72 => J.z 1 <| SJ.sr 9 <| J.j 3 5 .bool ?_ ?_ fun y74 => ?_
  ·exact J.l 3 Ty3 fun x73 => J.e 2
  ·exact J.e 6
  refine J.z 0 <| J.f ?_ ?_
  ·exact SJ.rg 3 <| J.C 1 F96 (Zet _) fun r76 => J.z 1 <| SJ.inBlock <| J.o rfl
  exact SJ.skip <| SJ.inBlock <| J.o rfl
 exact SJ.exit (id := 0) (by rfl) <| J.q <| SJ.done <| Zao.K3_ok a0 b1 b2 b3
noncomputable def Zao.K4 (a0 : ByteArray) (b3 : Nat) (j5 : Bool) : M ((Vec Int 16) × Int × Int) :=
 ZbR (fun s_ : Bool => Zao.L2 a0 b3 s_) j5
theorem Zao.K4_ok (a0 : ByteArray) (b1 : Nat) (b2 : Nat) (b3 : Nat) (j5 : Bool) :
  SJ Zao.cx [.code (c2 (c2 (c2 (c2 (c2 (c2 Zao.B))))))] [(0, .string a0), (2, .pointer (some (pt b1 0))), (5, .pointer (some (pt b2 0))), (6, .pointer (some (pt b3 0))), (7, .bool j5)] [(b2, ((cI .u8).arr 16).enc (Vec.rep 16 0)), (b1, ((cI .u8).arr 16).enc (Vec.rep 16 0))] (Zao.K4 a0 b3 j5) (rt Zao.out) := by
 unfold Zao.K4
 exact SJ.seq <| SJ.block (id := 0) <| J.L (Zao.L2_ok a0 b1 b2 b3)
noncomputable def Zao (a0 : ByteArray) : M ((Vec Int 16) × Int × Int) :=
 slot 26 >>= fun b1 =>
 slot 26 >>= fun b2 =>
 newv 156 Zbf (⟨a0, ZcP.groups, (-1), ZcP.p, ZcP.err, ZcP.at_⟩ : Zbn) >>= fun b3 =>
 ZcD a0 0 >>= fun r4 =>
 if r4 = true then
  st (cI .i64) (Addr.add (pt b3 0) 2) 0 >>= fun _ =>
  st (cI .i64) (Addr.add (pt b3 0) 3) 2 >>= fun _ =>
  Zao.K4 a0 b3 ((a0.size : Int) == 2)
 else
  Zao.K4 a0 b3 false
theorem ZfU (a0 : ByteArray) : Ref Tryd.prog 91 [.string a0] (Zao a0) Zao.out := by
 refine J.Fn Tryd.func91 ?_
 unfold Zao
 refine SJ.sr 3 <| J.a 0 Ty26 fun b1 => J.z 2 <| SJ.sr 1 <| J.a 0 Ty26 fun b2 => J.z 0 <| SJ.sr 4 <| J.u 1 ZnU (.f 0 (Zf9 _ a0) (.f 2 (Zdh _ (-1)) .nil)) <| J.B 0 fun b3 => J.z 1 <| SJ.sr 1 <| J.z 1 <| SJ.sr 3 <| J.C 1 F94 (ZeI _ _) fun r4 => J.z 1 <| SJ.seq <| SJ.sr 1 <| J.z 1 <| J.f ?_ ?_
 ·exact SJ.sr 4 <| J.w 3 Ty3 <| J.z 0 <| SJ.sr 4 <| J.w 3 Ty3 <| J.z 0 <| SJ.rg 4 <| J.z 4 <| J.q <| Zao.K4_ok a0 b1 b2 b3 ((a0.size : Int) == 2)
 exact SJ.skip <| J.q <| Zao.K4_ok a0 b1 b2 b3 false

/-! ### weir/weirref4.ParseIP: function 81 -/
noncomputable def ZaY.B : Code := bod Tryd.f81
noncomputable def ZaY.cx : Fx := ⟨Tryd.prog, 81, Tryd.f81, none⟩
noncomputable def ZaY.out (r_ : (ZaH × Int × Int)) : Value := .tuple #[ZaI.val r_.1, .int .i64 r_.2.1, .int .i64 r_.2.2]
noncomputable def ZaY.F1 (b1 : Nat) (r9 : (Sl × Int × Int)) (b10 : Nat) : LF (Int × ZaH) (ZaH × Int × Int) := ⟨[.inBlock 0, .code (c2 (c2 (c2 (c2 (c2 (c2 (c2 ZaY.B)))))))], c1 (c2 (c1 (c2 (c2 (c2 (c2 (c2 (c2 ZaY.B)))))))), fun s_ => [(2, .pointer (some (pt b1 0))), (8, Sl.v r9.1), (11, .pointer (some (pt b10 0))), (12, .int .i64 s_.1)], fun s_ => [(b10, ZaI.enc s_.2), (b1, ZaI.enc Zby)], (rt ZaY.out)⟩
noncomputable def ZaY.L1 (r9 : (Sl × Int × Int)) (s11 : Int) (s12 : ZaH) : M (LS (Int × ZaH) (ZaH × Int × Int)) :=
 if s11 < 4 then
  idx r9.1.a r9.1.len s11 1 >>= fun p18 =>
  ld (cI .u8) p18 >>= fun x19 =>
  chk ((0 : Int) ≤ s11 ∧ s11 < (16 : Nat)) >>= fun _ =>
  pure (LS.next (IntKind.wrap .i64 (s11 + 1), (⟨s12.V, (Vec.s s12.A s11 x19)⟩ : ZaH)))
 else
  pure (LS.done (s12, 0, 0))
theorem ZaY.L1_ok (b1 : Nat) (r9 : (Sl × Int × Int)) (b10 : Nat) : LJ ZaY.cx (ZaY.F1 b1 r9 b10) (fun s_ => ZaY.L1 r9 s_.1 s_.2) := by
 rintro ⟨s11, s12⟩
 show SJ _ _ _ _ (ZaY.L1 r9 s11 s12) _
 unfold ZaY.L1
 refine SJ.seq <| SJ.sr 2 <| J.z 2 <| J.f ?_ ?_
 ·exact SJ.skip <| SJ.seq <| SJ.block (id := 1) <| SJ.rg 8 <| J.i 3 fun p18 => J.l 0 Ty5 fun x19 => J.y 1 fun hb20 hb21 => J.s 0 0 rfl Ty5 (Upd.trans (ZbW _) (Upd.arr hb20 hb21) (ZdX _ (Vec.s s12.A s11 x19))) <| J.z 0 <| SJ.inBlock <| SJ.rg 3 <| J.z 3 <| J.o rfl
 exact SJ.exit (id := 0) (by rfl) <| SJ.sr 4 <| J.k 0 0 rfl Ty28 (At.whole _) <| J.s 0 1 rfl Ty28 (Upd.w s12) <| J.z 2 <| J.rc (.c 1 rfl Ty28 .n)
noncomputable def ZaY (a0 : ByteArray) : M (ZaH × Int × Int) :=
 slot 28 >>= fun b1 =>
 if (a0.size : Int) > 45 then
  pure (Zby, 2, 45)
 else
  Zbj a0 58 >>= fun r2 =>
  if r2 = true then
   Zao a0 >>= fun r6 =>
   slot 26 >>= fun b7 =>
   if r6.2.1 ≠ 0 then
    pure (Zby, r6.2.1, r6.2.2)
   else
    pure ((⟨6, r6.1⟩ : ZaH), 0, 0)
  else
   Zay a0 0 >>= fun r9 =>
   if r9.2.1 ≠ 0 then
    pure (Zby, r9.2.1, r9.2.2)
   else
    slot 28 >>= fun b10 =>
    ZbR (fun s_ : (Int × ZaH) => ZaY.L1 r9 s_.1 s_.2) (0, (⟨4, Zby.A⟩ : ZaH))
theorem Zfh (a0 : ByteArray) : Ref Tryd.prog 81 [.string a0] (ZaY a0) ZaY.out := by
 refine J.Fn Tryd.func81 ?_
 unfold ZaY
 refine SJ.sr 3 <| J.a 0 Ty28 fun b1 => J.z 2 <| SJ.seq <| SJ.sr 3 <| J.z 3 <| J.f ?_ ?_
 ·exact SJ.sr 4 <| J.u 0 Ty28 .nil <| J.s 0 0 rfl Ty28 (Upd.w Zby) <| J.z 2 <| J.rc (.c 0 rfl Ty28 .n)
 refine SJ.skip <| SJ.seq <| SJ.sr 2 <| J.C 1 F90 (ZgA _ _) fun r2 => J.z 0 <| J.f ?_ ?_
 ·refine SJ.sr 10 <| J.C 1 F91 (ZfU _) fun r6 => J.a 4 Ty26 fun b7 => J.s 0 0 rfl Ty26 (Upd.w r6.1) <| J.z 2 <| SJ.seq <| SJ.sr 2 <| J.z 2 <| J.f ?_ ?_
  ·exact SJ.sr 6 <| J.u 0 Ty28 .nil <| J.s 2 1 rfl Ty28 (Upd.w Zby) <| J.z 2 <| J.rc (.c 1 rfl Ty28 .n)
  exact SJ.skip <| SJ.sr 5 <| J.k 0 0 rfl Ty26 (At.whole _) <| J.u 0 Ty28 (.f 0 (Zdv _ 6) (.f 1 (ZdX _ r6.1) .nil)) <| J.s 0 1 rfl Ty28 (Upd.w (⟨6, r6.1⟩ : ZaH)) <| J.z 2 <| J.rc (.c 1 rfl Ty28 .n)
 refine SJ.skip <| SJ.sr 9 <| J.C 1 F92 (Zd1 _ _) fun r9 => J.z 7 <| SJ.seq <| SJ.sr 2 <| J.z 2 <| J.f ?_ ?_
 ·exact SJ.sr 6 <| J.u 0 Ty28 .nil <| J.s 2 0 rfl Ty28 (Upd.w Zby) <| J.z 2 <| J.rc (.c 0 rfl Ty28 .n)
 exact SJ.skip <| SJ.sr 3 <| J.u 0 Ty28 (.f 0 (Zdv _ 4) .nil) <| J.a 0 Ty28 fun b10 => J.s 0 0 rfl Ty28 (Upd.w (⟨4, Zby.A⟩ : ZaH)) <| J.z 0 <| SJ.seq <| SJ.sr 1 <| J.z 1 <| SJ.block (id := 0) <| J.L (ZaY.L1_ok b1 r9 b10)

/-! ### weir/weirref4.ParsePrefix: function 69 -/
noncomputable def Zaq.B : Code := bod Tryd.f69
noncomputable def Zaq.cx : Fx := ⟨Tryd.prog, 69, Tryd.f69, none⟩
noncomputable def Zaq.out (r_ : (Zar × Int × Int)) : Value := .tuple #[ZaA.val r_.1, .int .i64 r_.2.1, .int .i64 r_.2.2]
noncomputable def Zaq.K1 (a0 : ByteArray) (s2 : Int) (r7 : (ZaH × Int × Int)) (s9 : Int) : M (Zar × Int × Int) :=
 if s9 = (IntKind.wrap .i64 (s2 + 1)) then
  Zb0 a0 s9 >>= fun r16 =>
  pure (Zbg, r16.1, r16.2)
 else
  Zcc r7.1 >>= fun r17 =>
  ZaX a0 (IntKind.wrap .i64 (s2 + 1)) s9 r17 >>= fun r18 =>
  if r18 < 0 then
   pure (Zbg, 45, IntKind.wrap .i64 (s2 + 1))
  else
   if s9 < (a0.size : Int) then
    pure (Zbg, 41, s9)
   else
    slot 30 >>= fun b19 =>
    ZaL (⟨r7.1, r18⟩ : Zar) >>= fun r20 =>
    if r20 ≠ 0 then
     pure (Zbg, 46, 0)
    else
     pure ((⟨r7.1, r18⟩ : Zar), 0, 0)
theorem Zaq.K1_ok (a0 : ByteArray) (b1 : Nat) (s2 : Int) (r7 : (ZaH × Int × Int)) (b8 : Nat) (s9 : Int) :
  SJ Zaq.cx [.code (c2 (c2 (c2 (c2 (c2 (c2 (c2 (c2 (c2 Zaq.B)))))))))] [(0, .string a0), (2, .pointer (some (pt b1 0))), (5, .int .i64 s2), (6, .pointer (some (pt b8 0))), (9, .int .i64 s9)] [(b8, ZaI.enc r7.1), (b1, ZaA.enc Zbg)] (Zaq.K1 a0 s2 r7 s9) (rt Zaq.out) := by
 unfold Zaq.K1
 refine SJ.seq <| SJ.sr 4 <| J.z 4 <| J.f ?_ ?_
 ·exact SJ.sr 8 <| J.C 2 F83 (Zda _ _) fun r16 => J.z 5 <| SJ.sr 6 <| J.u 0 Ty30 .nil <| J.s 2 1 rfl Ty30 (Upd.w Zbg) <| J.z 2 <| J.rc (.c 1 rfl Ty30 .n)
 refine SJ.skip <| SJ.sr 8 <| J.k 4 0 rfl Ty28 (At.whole _) <| J.C 0 F53 (Zek _) fun r17 => J.C 0 F84 (ZdL _ _ _ _) fun r18 => J.z 1 <| SJ.seq <| SJ.sr 2 <| J.z 2 <| J.f ?_ ?_
 ·exact SJ.sr 6 <| J.u 0 Ty30 .nil <| J.s 2 1 rfl Ty30 (Upd.w Zbg) <| J.z 2 <| J.rc (.c 1 rfl Ty30 .n)
 refine SJ.skip <| SJ.seq <| SJ.sr 4 <| J.z 4 <| J.f ?_ ?_
 ·exact SJ.sr 5 <| J.u 0 Ty30 .nil <| J.s 1 1 rfl Ty30 (Upd.w Zbg) <| J.z 2 <| J.rc (.c 1 rfl Ty30 .n)
 refine SJ.skip <| SJ.sr 5 <| J.k 0 0 rfl Ty28 (At.whole _) <| J.u 1 Ty30 (.f 0 (Zdc _ r7.1) (.f 1 (Zdu _ r18) .nil)) <| J.a 0 Ty30 fun b19 => J.s 0 0 rfl Ty30 (Upd.w (⟨r7.1, r18⟩ : Zar)) <| J.z 0 <| SJ.seq <| SJ.sr 3 <| J.k 0 0 rfl Ty30 (At.whole _) <| J.C 0 F34 (ZcE _) fun r20 => J.z 1 <| J.f ?_ ?_
 ·exact SJ.sr 4 <| J.u 0 Ty30 .nil <| J.s 0 2 rfl Ty30 (Upd.w Zbg) <| J.z 2 <| J.rc (.c 2 rfl Ty30 .n)
 exact SJ.skip <| SJ.sr 4 <| J.k 0 0 rfl Ty30 (At.whole _) <| J.s 0 2 rfl Ty30 (Upd.w (⟨r7.1, r18⟩ : Zar)) <| J.z 2 <| J.rc (.c 2 rfl Ty30 .n)
noncomputable def Zaq.F1 (a0 : ByteArray) (b1 : Nat) (s2 : Int) (r7 : (ZaH × Int × Int)) (b8 : Nat) : LF Int (Zar × Int × Int) := ⟨[.inBlock 2, .code (c2 (c2 (c2 (c2 (c2 (c2 (c2 (c2 (c2 Zaq.B)))))))))], c1 (c1 (c2 (c2 (c2 (c2 (c2 (c2 (c2 (c2 Zaq.B))))))))), fun s_ => [(0, .string a0), (2, .pointer (some (pt b1 0))), (5, .int .i64 s2), (6, .pointer (some (pt b8 0))), (9, .int .i64 s_)], fun s_ => [(b8, ZaI.enc r7.1), (b1, ZaA.enc Zbg)], (rt Zaq.out)⟩
noncomputable def Zaq.L1 (a0 : ByteArray) (s2 : Int) (r7 : (ZaH × Int × Int)) (s9 : Int) : M (LS Int (Zar × Int × Int)) :=
 (if s9 < (a0.size : Int) then
   chk ((0 : Int) ≤ s9 ∧ s9 < (a0.size : Int)) >>= fun _ =>
   Zb1 (sb a0 s9) >>= fun r27 =>
   pure r27
  else
   pure false) >>= fun y28 =>
 if y28 = true then
  pure (LS.next (IntKind.wrap .i64 (s9 + 1)))
 else
  (Zaq.K1 a0 s2 r7 s9) >>= fun b => pure (LS.done b)
theorem Zaq.L1_ok (a0 : ByteArray) (b1 : Nat) (s2 : Int) (r7 : (ZaH × Int × Int)) (b8 : Nat) : LJ Zaq.cx (Zaq.F1 a0 b1 s2 r7 b8) (fun s_ => Zaq.L1 a0 s2 r7 s_) := by
 rintro s9
 show SJ _ _ _ _ (Zaq.L1 a0 s2 r7 s9) _
 unfold Zaq.L1
 refine SJ.seq <| SJ.sr 10 <| J.j 5 4 .bool ?_ ?_ fun y28 => ?_
 ·exact J.t 2 fun hb25 hb26 => J.C 0 F82 (Zds _) fun r27 => J.e 1
 ·exact J.e 5
 refine J.z 0 <| J.f ?_ ?_
 ·exact SJ.skip <| SJ.block (id := 3) <| SJ.rg 3 <| J.z 3 <| SJ.inBlock <| J.o rfl
 exact SJ.exit (id := 2) (by rfl) <| J.q <| SJ.done <| Zaq.K1_ok a0 b1 s2 r7 b8 s9
noncomputable def Zaq.K2 (a0 : ByteArray) (s2 : Int) : M (Zar × Int × Int) :=
 if s2 = (a0.size : Int) then
  pure (Zbg, 42, (a0.size : Int))
 else
  chk (0 ≤ (0 : Int) ∧ (0 : Int) ≤ s2 ∧ s2 ≤ (a0.size : Int)) >>= fun _ =>
  ZaY (ByteArray.extract a0 (Int.toNat 0) (Int.toNat s2)) >>= fun r7 =>
  slot 28 >>= fun b8 =>
  if r7.2.1 ≠ 0 then
   pure (Zbg, r7.2.1, r7.2.2)
  else
   ZbR (fun s_ : Int => Zaq.L1 a0 s2 r7 s_) (IntKind.wrap .i64 (s2 + 1))
theorem Zaq.K2_ok (a0 : ByteArray) (b1 : Nat) (s2 : Int) :
  SJ Zaq.cx [.code (c2 (c2 (c2 (c2 Zaq.B))))] [(0, .string a0), (2, .pointer (some (pt b1 0))), (5, .int .i64 s2)] [(b1, ZaA.enc Zbg)] (Zaq.K2 a0 s2) (rt Zaq.out) := by
 unfold Zaq.K2
 refine SJ.seq <| SJ.sr 4 <| J.z 4 <| J.f ?_ ?_
 ·exact SJ.sr 6 <| J.u 0 Ty30 .nil <| J.s 2 0 rfl Ty30 (Upd.w Zbg) <| J.z 2 <| J.rc (.c 0 rfl Ty30 .n)
 refine SJ.skip <| SJ.sr 12 <| J.ct 2 <| J.C 0 F81 (Zfh _) fun r7 => J.a 4 Ty28 fun b8 => J.s 0 0 rfl Ty28 (Upd.w r7.1) <| J.z 2 <| SJ.seq <| SJ.sr 2 <| J.z 2 <| J.f ?_ ?_
 ·exact SJ.sr 6 <| J.u 0 Ty30 .nil <| J.s 2 1 rfl Ty30 (Upd.w Zbg) <| J.z 2 <| J.rc (.c 1 rfl Ty30 .n)
 exact SJ.skip <| SJ.sr 3 <| J.z 3 <| SJ.seq <| SJ.block (id := 2) <| J.L (Zaq.L1_ok a0 b1 s2 r7 b8)
noncomputable def Zaq.F2 (a0 : ByteArray) (b1 : Nat) : LF Int (Zar × Int × Int) := ⟨[.inBlock 0, .code (c2 (c2 (c2 (c2 Zaq.B))))], c1 (c1 (c2 (c2 (c2 Zaq.B)))), fun s_ => [(0, .string a0), (2, .pointer (some (pt b1 0))), (5, .int .i64 s_)], fun s_ => [(b1, ZaA.enc Zbg)], (rt Zaq.out)⟩
noncomputable def Zaq.L2 (a0 : ByteArray) (s2 : Int) : M (LS Int (Zar × Int × Int)) :=
 (if s2 < (a0.size : Int) then
   chk ((0 : Int) ≤ s2 ∧ s2 < (a0.size : Int)) >>= fun _ =>
   pure ((sb a0 s2) != 47)
  else
   pure false) >>= fun y34 =>
 if y34 = true then
  pure (LS.next (IntKind.wrap .i64 (s2 + 1)))
 else
  (Zaq.K2 a0 s2) >>= fun b => pure (LS.done b)
theorem Zaq.L2_ok (a0 : ByteArray) (b1 : Nat) : LJ Zaq.cx (Zaq.F2 a0 b1) (fun s_ => Zaq.L2 a0 s_) := by
 rintro s2
 show SJ _ _ _ _ (Zaq.L2 a0 s2) _
 unfold Zaq.L2
 refine SJ.seq <| SJ.sr 10 <| J.j 5 4 .bool ?_ ?_ fun y34 => ?_
 ·exact J.t 2 fun hb32 hb33 => J.e 2
 ·exact J.e 5
 refine J.z 0 <| J.f ?_ ?_
 ·exact SJ.skip <| SJ.block (id := 1) <| SJ.rg 3 <| J.z 3 <| SJ.inBlock <| J.o rfl
 exact SJ.exit (id := 0) (by rfl) <| J.q <| SJ.done <| Zaq.K2_ok a0 b1 s2
noncomputable def Zaq (a0 : ByteArray) : M (Zar × Int × Int) :=
 slot 30 >>= fun b1 =>
 if (a0.size : Int) > 49 then
  pure (Zbg, 2, 49)
 else
  ZbR (fun s_ : Int => Zaq.L2 a0 s_) 0
theorem Zeu (a0 : ByteArray) : Ref Tryd.prog 69 [.string a0] (Zaq a0) Zaq.out := by
 refine J.Fn Tryd.func69 ?_
 unfold Zaq
 refine SJ.sr 3 <| J.a 0 Ty30 fun b1 => J.z 2 <| SJ.seq <| SJ.sr 3 <| J.z 3 <| J.f ?_ ?_
 ·exact SJ.sr 4 <| J.u 0 Ty30 .nil <| J.s 0 0 rfl Ty30 (Upd.w Zbg) <| J.z 2 <| J.rc (.c 0 rfl Ty30 .n)
 exact SJ.skip <| SJ.sr 1 <| J.z 1 <| SJ.seq <| SJ.block (id := 0) <| J.L (Zaq.L2_ok a0 b1)

/-! ### weir/weirref4.Contains: function 38 -/
noncomputable def ZaU.B : Code := bod Tryd.f38
noncomputable def ZaU.cx : Fx := ⟨Tryd.prog, 38, Tryd.f38, none⟩
noncomputable def ZaU.out (r_ : Bool) : Value := .bool r_
noncomputable def ZaU.F1 (a0 : Zar) (a1 : ZaH) (b1 : Nat) (b2 : Nat) : LF Int Bool := ⟨[.inBlock 0, .code (c2 (c2 (c2 (c2 (c2 ZaU.B)))))], c1 (c2 (c1 (c2 (c2 (c2 (c2 ZaU.B)))))), fun s_ => [(2, .pointer (some (pt b1 0))), (3, .pointer (some (pt b2 0))), (7, .int .i64 s_)], fun s_ => [(b2, ZaI.enc a1), (b1, ZaA.enc a0)], (rt ZaU.out)⟩
noncomputable def ZaU.L1 (a0 : Zar) (a1 : ZaH) (s7 : Int) : M (LS Int Bool) :=
 if s7 < a0.Len then
  draw >>= fun _ =>
  Zbe a0.IP s7 >>= fun r12 =>
  Zbe a1 s7 >>= fun r13 =>
  if r12 ≠ r13 then
   pure (LS.done false)
  else
   pure (LS.next (IntKind.wrap .i64 (s7 + 1)))
 else
  pure (LS.done true)
theorem ZaU.L1_ok (a0 : Zar) (a1 : ZaH) (b1 : Nat) (b2 : Nat) : LJ ZaU.cx (ZaU.F1 a0 a1 b1 b2) (fun s_ => ZaU.L1 a0 a1 s_) := by
 rintro s7
 show SJ _ _ _ _ (ZaU.L1 a0 a1 s7) _
 unfold ZaU.L1
 refine SJ.seq <| SJ.sr 4 <| J.k 2 1 rfl Ty3 (Zbl _) <| J.z 1 <| J.f ?_ ?_
 ·refine SJ.skip <| SJ.seq <| SJ.block (id := 1) <| SJ.seq <| J.D [0, 1, 2, 4, 3, 5, 6, 7] ZbO <| J.k 1 1 rfl Ty28 (Za6 _) <| J.k 1 0 rfl Ty28 (At.whole _) <| OJ.call (d := 35) (g := 54) (ats := #[28, 3]) (args := [.tmp 33, .tmp 34]) (owed := [⟨4, 28, (pt b2 0), ZaI.val a1⟩]) F54 (ZdM a0.IP s7) fun r12 => OW.known (j := 0) (q := a1) Ty28 rfl (At.whole _) <| OW.nil <| J.C 1 F54 (ZdM _ _) fun r13 => J.z 1 <| J.f ?_ ?_
  ·exact SJ.sr 1 <| J.z 1 <| J.r
  exact SJ.skip <| SJ.inBlock <| SJ.rg 3 <| J.z 3 <| J.o rfl
 exact SJ.exit (id := 0) (by rfl) <| SJ.sr 1 <| J.z 1 <| J.r
noncomputable def ZaU (a0 : Zar) (a1 : ZaH) : M Bool :=
 slot 30 >>= fun b1 =>
 slot 28 >>= fun b2 =>
 ZaL a0 >>= fun r3 =>
 Za3 a1 >>= fun r4 =>
 (if r3 ≠ 0 then
   pure true
  else
   pure (!r4)) >>= fun y5 =>
 (if y5 = true then
   pure true
  else
   pure (a0.IP.V != a1.V)) >>= fun y6 =>
 if y6 = true then
  pure false
 else
  ZbR (fun s_ : Int => ZaU.L1 a0 a1 s_) 0
theorem ZdD (a0 : Zar) (a1 : ZaH) : Ref Tryd.prog 38 [ZaA.val a0, ZaI.val a1] (ZaU a0 a1) ZaU.out := by
 refine J.Fn Tryd.func38 ?_
 unfold ZaU
 refine SJ.sr 3 <| J.b 0 ZaA a0 fun b1 => J.b 0 ZaI a1 fun b2 => J.z 1 <| SJ.sr 3 <| J.k 0 1 rfl Ty30 (At.whole _) <| J.C 0 F34 (ZcE _) fun r3 => J.z 1 <| SJ.sr 3 <| J.k 0 0 rfl Ty28 (At.whole _) <| J.C 0 F52 (Zdt _) fun r4 => J.z 1 <| SJ.seq <| SJ.sr 14 <| J.j 3 2 .bool ?_ ?_ fun y5 => ?_
 ·exact J.e 3
 ·exact J.e 3
 refine J.j 1 6 .bool ?_ ?_ fun y6 => ?_
 ·exact J.e 7
 ·exact J.k 2 1 rfl Ty3 (At.trans (Za6 _) (Zbp _)) <| J.k 1 0 rfl Ty3 (Zbp _) <| J.e 2
 refine J.z 0 <| J.f ?_ ?_
 ·exact SJ.sr 1 <| J.z 1 <| J.r
 exact SJ.skip <| SJ.seq <| SJ.sr 1 <| J.z 1 <| SJ.block (id := 0) <| J.L (ZaU.L1_ok a0 a1 b1 b2)

/-! ### weir/weirref4.of: function 63 -/
noncomputable def Zbx.out (r_ : Bool) : Value := .bool r_
noncomputable def Zbx (a0 : ByteArray) (a1 : ZaH) : M Bool :=
 slot 28 >>= fun b1 =>
 Zaq a0 >>= fun r2 =>
 slot 30 >>= fun b3 =>
 ZaU r2.1 a1 >>= fun r4 =>
 pure r4
theorem ZbI (a0 : ByteArray) (a1 : ZaH) : Ref Tryd.prog 63 [.string a0, ZaI.val a1] (Zbx a0 a1) Zbx.out := by
 refine J.Fn Tryd.func63 ?_
 unfold Zbx
 exact SJ.sr 2 <| J.b 0 ZaI a1 fun b1 => J.z 1 <| SJ.sr 10 <| J.C 1 F69 (Zeu _) fun r2 => J.a 4 Ty30 fun b3 => J.s 0 0 rfl Ty30 (Upd.w r2.1) <| J.z 2 <| SJ.sr 4 <| J.k 0 0 rfl Ty30 (At.whole _) <| J.k 0 1 rfl Ty28 (At.whole _) <| J.C 0 F38 (ZdD _ _) fun r4 => J.z 1 <| J.r

/-! ### weir/weirref4.Class: function 55 -/
noncomputable def Zct.out (r_ : Int) : Value := .int .i64 r_
noncomputable def Zct (a0 : ZaH) : M Int :=
 slot 28 >>= fun b1 =>
 Za3 a0 >>= fun r2 =>
 if ¬ (r2 = true) then
  pure 0
 else
  Zbx str1 a0 >>= fun r287 =>
  (if r287 = true then
    pure true
   else
    Zbx str2 a0 >>= fun r288 =>
    pure r288) >>= fun y289 =>
  if y289 = true then
   pure 1
  else
   Zbx str3 a0 >>= fun r430 =>
   (if r430 = true then
     pure true
    else
     Zbx str4 a0 >>= fun r431 =>
     pure r431) >>= fun y432 =>
   if y432 = true then
    pure 2
   else
    Zbx str5 a0 >>= fun r501 =>
    (if r501 = true then
      pure true
     else
      Zbx str6 a0 >>= fun r502 =>
      pure r502) >>= fun y503 =>
    if y503 = true then
     pure 3
    else
     Zbx str7 a0 >>= fun r536 =>
     (if r536 = true then
       pure true
      else
       Zbx str8 a0 >>= fun r537 =>
       pure r537) >>= fun y538 =>
     if y538 = true then
      pure 4
     else
      Zbx str9 a0 >>= fun r553 =>
      if r553 = true then
       pure 5
      else
       Zbx Znn a0 >>= fun r560 =>
       (if r560 = true then
         pure true
        else
         Zbx Znm a0 >>= fun r561 =>
         pure r561) >>= fun y562 =>
       (if y562 = true then
         pure true
        else
         Zbx Znl a0 >>= fun r563 =>
         pure r563) >>= fun y564 =>
       if y564 = true then
        pure 6
       else
        pure 7
theorem ZfV (a0 : ZaH) : Ref Tryd.prog 55 [ZaI.val a0] (Zct a0) Zct.out := by
 refine J.Fn Tryd.func55 ?_
 unfold Zct
 refine SJ.sr 2 <| J.b 0 ZaI a0 fun b1 => J.z 1 <| SJ.sr 3 <| J.k 0 0 rfl Ty28 (At.whole _) <| J.C 0 F52 (Zdt _) fun r2 => J.z 1 <| SJ.seq <| SJ.block (id := 0) <| SJ.sr 3 <| J.z 3 <| J.f ?_ ?_
 ·exact SJ.sr 1 <| J.z 1 <| J.r
 refine SJ.sr 7 <| J.k 0 0 rfl Ty28 (At.whole _) <| J.C 0 F63 (ZbI _ _) fun r287 => J.j 1 2 .bool ?_ ?_ fun y289 => ?_
 ·exact J.e 3
 ·exact J.k 0 0 rfl Ty28 (At.whole _) <| J.C 0 F63 (ZbI _ _) fun r288 => J.e 1
 refine J.z 1 <| J.f ?_ ?_
 ·exact SJ.sr 1 <| J.z 1 <| J.r
 refine SJ.sr 7 <| J.k 0 0 rfl Ty28 (At.whole _) <| J.C 0 F63 (ZbI _ _) fun r430 => J.j 1 2 .bool ?_ ?_ fun y432 => ?_
 ·exact J.e 3
 ·exact J.k 0 0 rfl Ty28 (At.whole _) <| J.C 0 F63 (ZbI _ _) fun r431 => J.e 1
 refine J.z 1 <| J.f ?_ ?_
 ·exact SJ.sr 1 <| J.z 1 <| J.r
 refine SJ.sr 7 <| J.k 0 0 rfl Ty28 (At.whole _) <| J.C 0 F63 (ZbI _ _) fun r501 => J.j 1 2 .bool ?_ ?_ fun y503 => ?_
 ·exact J.e 3
 ·exact J.k 0 0 rfl Ty28 (At.whole _) <| J.C 0 F63 (ZbI _ _) fun r502 => J.e 1
 refine J.z 1 <| J.f ?_ ?_
 ·exact SJ.sr 1 <| J.z 1 <| J.r
 refine SJ.sr 7 <| J.k 0 0 rfl Ty28 (At.whole _) <| J.C 0 F63 (ZbI _ _) fun r536 => J.j 1 2 .bool ?_ ?_ fun y538 => ?_
 ·exact J.e 3
 ·exact J.k 0 0 rfl Ty28 (At.whole _) <| J.C 0 F63 (ZbI _ _) fun r537 => J.e 1
 refine J.z 1 <| J.f ?_ ?_
 ·exact SJ.sr 1 <| J.z 1 <| J.r
 refine SJ.sr 3 <| J.k 0 0 rfl Ty28 (At.whole _) <| J.C 0 F63 (ZbI _ _) fun r553 => J.z 1 <| J.f ?_ ?_
 ·exact SJ.sr 1 <| J.z 1 <| J.r
 refine SJ.sr 11 <| J.k 0 0 rfl Ty28 (At.whole _) <| J.C 0 F63 (ZbI _ _) fun r560 => J.j 1 2 .bool ?_ ?_ fun y562 => ?_
 ·exact J.e 3
 ·exact J.k 0 0 rfl Ty28 (At.whole _) <| J.C 0 F63 (ZbI _ _) fun r561 => J.e 1
 refine J.j 1 2 .bool ?_ ?_ fun y564 => ?_
 ·exact J.e 3
 ·exact J.k 0 0 rfl Ty28 (At.whole _) <| J.C 0 F63 (ZbI _ _) fun r563 => J.e 1
 refine J.z 1 <| J.f ?_ ?_
 ·exact SJ.sr 1 <| J.z 1 <| J.r
 exact SJ.skip <| SJ.inBlock <| SJ.sr 1 <| J.z 1 <| J.r

/-! ### weir/weirref14.via: function 35 -/
noncomputable def ZcF.out (r_ : Bool) : Value := .bool r_
noncomputable def ZcF (a0 : Zab) : M Bool :=
 slot 32 >>= fun b1 =>
 if a0.Via = Zby then
  pure true
 else
  Zct a0.Via >>= fun r2 =>
  (if a0.Via.V = a0.Prefix.IP.V then
    (if r2 = 7 then
      pure true
     else
      pure (r2 == 4)) >>= fun y3 =>
    pure y3
   else
    pure false) >>= fun y4 =>
  pure y4
theorem Zgo (a0 : Zab) : Ref Tryd.prog 35 [Zac.val a0] (ZcF a0) ZcF.out := by
 refine J.Fn Tryd.func35 ?_
 unfold ZcF
 refine SJ.sr 2 <| J.b 0 Zac a0 fun b1 => J.z 1 <| SJ.seq <| SJ.sr 4 <| J.k 1 0 rfl Ty28 (ZbQ _) <| J.u 0 Ty28 .nil <| OJ.eql (d := 7) (T := 28) (yT := 28) (y := .tmp 5) (z := .tmp 6) (cd := ZaI) (p := a0.Via) (q := Zby) rfl Eq28 <| J.z 0 <| J.f ?_ ?_
 ·exact SJ.sr 1 <| J.z 1 <| J.r
 refine SJ.skip <| SJ.sr 4 <| J.k 1 0 rfl Ty28 (ZbQ _) <| J.C 0 F55 (ZfV _) fun r2 => J.z 1 <| SJ.sr 17 <| J.k 2 0 rfl Ty3 (At.trans (ZbQ _) (Zbp _)) <| J.k 3 0 rfl Ty3 (At.trans (At.trans (ZaT _) (Za6 _)) (Zbp _)) <| J.g 2 <| OJ.join (b := (a0.Via.V == a0.Prefix.IP.V)) [9, 10, 11, 12, 13, 14, 15] [16] [26] (fun y4 => [(26, .bool y4)]) [] [] (t := 19) beq_iff_eq (fun hp_ => ?_) (fun hp_ => ?_) (fun _ _ _ _ _ _ h_ => h_) fun y4 => ?_
 ·refine J.g 3 <| OJ.join (b := (r2 == 7)) [12, 13, 14] [15] [19, 25] (fun y3 => [(19, .bool true), (25, .bool y3)]) [] [] (t := 22) beq_iff_eq (fun hp_ => ?_) (fun hp_ => ?_) (fun _ _ _ _ _ hq_ h_ => ⟨fun e_ he_ => (hq_ e_ he_).elim (fun h => h_.1 e_ h) (fun h => nomatch h), h_.2⟩) fun y3 => ?_
  ·exact J.g 3 <| OJ.nil ⟨(Cov.mem Cov.nil), rfl, _, rfl, by kernel_rfl⟩
  ·exact J.g 3 <| OJ.nil ⟨(Cov.mem Cov.nil), rfl, _, rfl, by kernel_rfl⟩
  exact J.g 1 <| OJ.nil ⟨(Cov.mem Cov.nil), rfl, _, rfl, by kernel_rfl⟩
 ·exact J.g 7 <| OJ.nil ⟨(Cov.mem Cov.nil), rfl, _, rfl, by kernel_rfl⟩
 exact J.z 1 <| J.r

/-! ### weir/weirref14.at: function 36 -/
noncomputable def Zbh.B : Code := bod Tryd.f36
noncomputable def Zbh.cx : Fx := ⟨Tryd.prog, 36, Tryd.f36, none⟩
noncomputable def Zbh.out (r_ : Int) : Value := .int .i64 r_
noncomputable def Zbh.F1 (a0 : Sl) (a1 : Zar) (b1 : Nat) : LF Int Int := ⟨[.inBlock 0, .code (c2 (c2 Zbh.B))], c1 (c2 (c1 (c2 Zbh.B))), fun s_ => [(0, Sl.v a0), (3, .pointer (some (pt b1 0))), (5, .int .i64 s_)], fun s_ => [(b1, ZaA.enc a1)], (rt Zbh.out)⟩
noncomputable def Zbh.L1 (a0 : Sl) (a1 : Zar) (s2 : Int) : M (LS Int Int) :=
 if s2 < (a0.len : Int) then
  draw >>= fun _ =>
  idx a0.a a0.len s2 36 >>= fun p7 =>
  ld ZaA p7 >>= fun x8 =>
  if x8 = a1 then
   pure (LS.done s2)
  else
   pure (LS.next (IntKind.wrap .i64 (s2 + 1)))
 else
  pure (LS.done (-1))
theorem Zbh.L1_ok (a0 : Sl) (a1 : Zar) (b1 : Nat) : LJ Zbh.cx (Zbh.F1 a0 a1 b1) (fun s_ => Zbh.L1 a0 a1 s_) := by
 rintro s2
 show SJ _ _ _ _ (Zbh.L1 a0 a1 s2) _
 unfold Zbh.L1
 refine SJ.seq <| SJ.sr 4 <| J.z 4 <| J.f ?_ ?_
 ·refine SJ.skip <| SJ.seq <| SJ.block (id := 1) <| SJ.seq <| J.R 7 ZbO <| J.i 2 fun p7 => J.l 1 Ty30 fun x8 => J.k 0 0 rfl Ty30 (At.whole _) <| OJ.eql (d := 18) (T := 30) (yT := 30) (y := .tmp 16) (z := .tmp 17) (cd := ZaA) (p := x8) (q := a1) rfl Eq30 <| J.z 0 <| J.f ?_ ?_
  ·exact SJ.sr 2 <| J.z 2 <| J.r
  exact SJ.skip <| SJ.inBlock <| SJ.rg 3 <| J.z 3 <| J.o rfl
 exact SJ.exit (id := 0) (by rfl) <| SJ.sr 1 <| J.z 1 <| J.r
noncomputable def Zbh (a0 : Sl) (a1 : Zar) : M Int :=
 slot 30 >>= fun b1 =>
 ZbR (fun s_ : Int => Zbh.L1 a0 a1 s_) 0
theorem ZeK (a0 : Sl) (a1 : Zar) : Ref Tryd.prog 36 [Sl.v a0, ZaA.val a1] (Zbh a0 a1) Zbh.out := by
 refine J.Fn Tryd.func36 ?_
 unfold Zbh
 exact SJ.sr 2 <| J.b 0 ZaA a1 fun b1 => J.z 1 <| SJ.seq <| SJ.sr 1 <| J.z 1 <| SJ.block (id := 0) <| J.L (Zbh.L1_ok a0 a1 b1)

/-! ### weir/weirref4.Less: function 56 -/
noncomputable def Zbc.B : Code := bod Tryd.f56
noncomputable def Zbc.cx : Fx := ⟨Tryd.prog, 56, Tryd.f56, none⟩
noncomputable def Zbc.out (r_ : Bool) : Value := .bool r_
noncomputable def Zbc.F1 (a0 : ZaH) (a1 : ZaH) (b1 : Nat) (b2 : Nat) : LF Int Bool := ⟨[.inBlock 0, .code (c2 (c2 (c2 Zbc.B)))], c1 (c2 (c1 (c2 (c2 Zbc.B)))), fun s_ => [(2, .pointer (some (pt b1 0))), (3, .pointer (some (pt b2 0))), (5, .int .i64 s_)], fun s_ => [(b2, ZaI.enc a1), (b1, ZaI.enc a0)], (rt Zbc.out)⟩
noncomputable def Zbc.L1 (a0 : ZaH) (a1 : ZaH) (s3 : Int) : M (LS Int Bool) :=
 if s3 < 16 then
  draw >>= fun _ =>
  chk ((0 : Int) ≤ s3 ∧ s3 < (16 : Nat)) >>= fun _ =>
  chk ((0 : Int) ≤ s3 ∧ s3 < (16 : Nat)) >>= fun _ =>
  if (Vec.g a0.A s3 0) ≠ (Vec.g a1.A s3 0) then
   draw >>= fun _ =>
   chk ((0 : Int) ≤ s3 ∧ s3 < (16 : Nat)) >>= fun _ =>
   chk ((0 : Int) ≤ s3 ∧ s3 < (16 : Nat)) >>= fun _ =>
   pure (LS.done (decide ((Vec.g a0.A s3 0) < (Vec.g a1.A s3 0))))
  else
   pure (LS.next (IntKind.wrap .i64 (s3 + 1)))
 else
  pure (LS.done false)
theorem Zbc.L1_ok (a0 : ZaH) (a1 : ZaH) (b1 : Nat) (b2 : Nat) : LJ Zbc.cx (Zbc.F1 a0 a1 b1 b2) (fun s_ => Zbc.L1 a0 a1 s_) := by
 rintro s3
 show SJ _ _ _ _ (Zbc.L1 a0 a1 s3) _
 unfold Zbc.L1
 refine SJ.seq <| SJ.sr 2 <| J.z 2 <| J.f ?_ ?_
 ·refine SJ.skip <| SJ.seq <| SJ.block (id := 1) <| SJ.seq <| J.R 9 ZbO <| J.y 2 fun hb18 hb19 => J.k 0 1 rfl Ty5 (At.trans (ZbW _) (At.arr (z := 0) hb18 hb19)) <| J.y 2 fun hb20 hb21 => J.k 0 0 rfl Ty5 (At.trans (ZbW _) (At.arr (z := 0) hb20 hb21)) <| J.z 1 <| J.f ?_ ?_
  ·exact SJ.seq <| J.R 10 ZbO <| J.y 2 fun hb26 hb27 => J.k 0 1 rfl Ty5 (At.trans (ZbW _) (At.arr (z := 0) hb26 hb27)) <| J.y 2 fun hb28 hb29 => J.k 0 0 rfl Ty5 (At.trans (ZbW _) (At.arr (z := 0) hb28 hb29)) <| J.z 2 <| J.r
  exact SJ.skip <| SJ.inBlock <| SJ.rg 3 <| J.z 3 <| J.o rfl
 exact SJ.exit (id := 0) (by rfl) <| SJ.sr 1 <| J.z 1 <| J.r
noncomputable def Zbc (a0 : ZaH) (a1 : ZaH) : M Bool :=
 slot 28 >>= fun b1 =>
 slot 28 >>= fun b2 =>
 if a0.V ≠ a1.V then
  pure (decide (a0.V < a1.V))
 else
  ZbR (fun s_ : Int => Zbc.L1 a0 a1 s_) 0
theorem Zgn (a0 : ZaH) (a1 : ZaH) : Ref Tryd.prog 56 [ZaI.val a0, ZaI.val a1] (Zbc a0 a1) Zbc.out := by
 refine J.Fn Tryd.func56 ?_
 unfold Zbc
 refine SJ.sr 3 <| J.b 0 ZaI a0 fun b1 => J.b 0 ZaI a1 fun b2 => J.z 1 <| SJ.seq <| SJ.sr 5 <| J.k 1 1 rfl Ty3 (Zbp _) <| J.k 1 0 rfl Ty3 (Zbp _) <| J.z 1 <| J.f ?_ ?_
 ·exact SJ.sr 6 <| J.k 1 1 rfl Ty3 (Zbp _) <| J.k 1 0 rfl Ty3 (Zbp _) <| J.z 2 <| J.r
 exact SJ.skip <| SJ.seq <| SJ.sr 1 <| J.z 1 <| SJ.block (id := 0) <| J.L (Zbc.L1_ok a0 a1 b1 b2)

/-! ### weir/weirref14.ahead: function 37 -/
noncomputable def Zch.out (r_ : Bool) : Value := .bool r_
noncomputable def Zch (a0 : Zar) (a1 : Zar) : M Bool :=
 slot 30 >>= fun b1 =>
 slot 30 >>= fun b2 =>
 if ¬ (a0.IP = a1.IP) then
  Zbc a0.IP a1.IP >>= fun r4 =>
  pure r4
 else
  pure (decide (a0.Len < a1.Len))
theorem Zfy (a0 : Zar) (a1 : Zar) : Ref Tryd.prog 37 [ZaA.val a0, ZaA.val a1] (Zch a0 a1) Zch.out := by
 refine J.Fn Tryd.func37 ?_
 unfold Zch
 refine SJ.sr 3 <| J.b 0 ZaA a0 fun b1 => J.b 0 ZaA a1 fun b2 => J.z 1 <| SJ.seq <| SJ.sr 5 <| J.k 1 1 rfl Ty28 (Za6 _) <| J.k 1 0 rfl Ty28 (Za6 _) <| OJ.neq (d := 9) (T := 28) (yT := 28) (y := .tmp 6) (z := .tmp 8) (cd := ZaI) (p := a0.IP) (q := a1.IP) rfl Eq28 <| J.z 0 <| J.f ?_ ?_
 ·exact SJ.sr 6 <| J.k 1 1 rfl Ty28 (Za6 _) <| J.k 1 0 rfl Ty28 (Za6 _) <| J.C 0 F56 (Zgn _ _) fun r4 => J.z 1 <| J.r
 exact SJ.skip <| SJ.sr 6 <| J.k 1 1 rfl Ty3 (Zbl _) <| J.k 1 0 rfl Ty3 (Zbl _) <| J.z 2 <| J.r

/-! ### weir/weirref14.Add: function 17 -/
noncomputable def ZaV.B : Code := bod Tryd.f17
noncomputable def ZaV.cx : Fx := ⟨Tryd.prog, 17, Tryd.f17, none⟩
noncomputable def ZaV.out (r_ : (Sl × Int)) : Value := .tuple #[Sl.v r_.1, .int .i64 r_.2]
noncomputable def ZaV.K1 (a0 : Sl) (a1 : Zab) (s43 : Int) : M (Sl × Int) :=
 cut 36 a0 none (some s43) none >>= fun r49 =>
 appS Zac 32 64 Zaa Sl.nil r49 >>= fun r50 =>
 slot 32 >>= fun b51 =>
 appl Zac 32 64 Zaa r50 [a1] >>= fun r52 =>
 cut 36 a0 (some s43) none none >>= fun r53 =>
 appS Zac 32 64 Zaa r52 r53 >>= fun r54 =>
 pure (r54, 0)
theorem ZaV.K1_ok (a0 : Sl) (a1 : Zab) (b1 : Nat) (s43 : Int) :
  SJ ZaV.cx [.code (c2 (c2 (c2 (c2 (c2 (c2 ZaV.B))))))] [(0, Sl.v a0), (3, .pointer (some (pt b1 0))), (7, Sl.v Sl.nil), (8, .int .i64 s43)] [(b1, Zac.enc a1)] (ZaV.K1 a0 a1 s43) (rt ZaV.out) := by
 unfold ZaV.K1
 exact SJ.sr 6 <| J.cs 3 fun r49 => OJ.appS (d := 63) (t := 39) (u := 39) (so := .tmp 59) (xo := .tmp 62) (owed := []) Ty32 fun r50 => OW.nil <| J.z 1 <| SJ.sr 5 <| J.k 1 0 rfl Ty32 (At.whole _) <| J.S 0 [a1] Ty32 fun b51 => J.p 0 0 rfl Ty32 fun r52 => J.z 1 <| SJ.sr 7 <| J.cs 3 fun r53 => OJ.appS (d := 72) (t := 39) (u := 39) (so := .tmp 68) (xo := .tmp 71) (owed := []) Ty32 fun r54 => OW.nil <| J.z 2 <| J.r
noncomputable def ZaV.F1 (a0 : Sl) (a1 : Zab) (b1 : Nat) : LF Int (Sl × Int) := ⟨[.inBlock 1, .code (c2 (c2 (c2 (c2 (c2 (c2 ZaV.B))))))], c1 (c1 (c2 (c2 (c2 (c2 (c2 ZaV.B)))))), fun s_ => [(0, Sl.v a0), (3, .pointer (some (pt b1 0))), (7, Sl.v Sl.nil), (8, .int .i64 s_)], fun s_ => [(b1, Zac.enc a1)], (rt ZaV.out)⟩
noncomputable def ZaV.L1 (a0 : Sl) (a1 : Zab) (s43 : Int) : M (LS Int (Sl × Int)) :=
 draw >>= fun _ =>
 (if s43 < (a0.len : Int) then
   idx a0.a a0.len s43 36 >>= fun p55 =>
   ld ZaA p55 >>= fun x56 =>
   Zch x56 a1.Prefix >>= fun r57 =>
   pure r57
  else
   pure false) >>= fun y58 =>
 if y58 = true then
  pure (LS.next (IntKind.wrap .i64 (s43 + 1)))
 else
  (ZaV.K1 a0 a1 s43) >>= fun b => pure (LS.done b)
theorem ZaV.L1_ok (a0 : Sl) (a1 : Zab) (b1 : Nat) : LJ ZaV.cx (ZaV.F1 a0 a1 b1) (fun s_ => ZaV.L1 a0 a1 s_) := by
 rintro s43
 show SJ _ _ _ _ (ZaV.L1 a0 a1 s43) _
 unfold ZaV.L1
 refine SJ.seq <| SJ.seq <| J.R 14 ZbO <| J.j 5 8 .bool ?_ ?_ fun y58 => ?_
 ·exact J.i 2 fun p55 => J.l 1 Ty30 fun x56 => J.k 1 0 rfl Ty30 (ZaT _) <| J.C 0 F37 (Zfy _ _) fun r57 => J.e 1
 ·exact J.e 9
 refine J.z 0 <| J.f ?_ ?_
 ·exact SJ.skip <| SJ.block (id := 2) <| SJ.rg 3 <| J.z 3 <| SJ.inBlock <| J.o rfl
 exact SJ.exit (id := 1) (by rfl) <| J.q <| SJ.done <| ZaV.K1_ok a0 a1 b1 s43
noncomputable def ZaV (a0 : Sl) (a1 : Zab) : M (Sl × Int) :=
 slot 32 >>= fun b1 =>
 ZaL a1.Prefix >>= fun r2 =>
 if r2 ≠ 0 then
  pure (a0, 140)
 else
  (if a1.Port < 0 then
    pure true
   else
    pure (decide (a1.Port ≥ 8))) >>= fun y25 =>
  if y25 = true then
   pure (a0, 141)
  else
   ZcF a1 >>= fun r36 =>
   if ¬ (r36 = true) then
    pure (a0, 142)
   else
    Zbh a0 a1.Prefix >>= fun r41 =>
    if r41 ≥ 0 then
     pure (a0, 143)
    else
     if (a0.len : Int) ≥ 256 then
      pure (a0, 144)
     else
      ZbR (fun s_ : Int => ZaV.L1 a0 a1 s_) 0
theorem Zgp (a0 : Sl) (a1 : Zab) : Ref Tryd.prog 17 [Sl.v a0, Zac.val a1] (ZaV a0 a1) ZaV.out := by
 refine J.Fn Tryd.func17 ?_
 unfold ZaV
 refine SJ.sr 3 <| J.b 0 Zac a1 fun b1 => J.z 2 <| SJ.sr 4 <| J.k 1 0 rfl Ty30 (ZaT _) <| J.C 0 F34 (ZcE _) fun r2 => J.z 1 <| SJ.seq <| SJ.block (id := 0) <| SJ.sr 3 <| J.z 3 <| J.f ?_ ?_
 ·exact SJ.sr 3 <| J.z 3 <| J.r
 refine SJ.sr 9 <| J.k 1 0 rfl Ty3 (Zcg _) <| J.j 2 3 .bool ?_ ?_ fun y25 => ?_
 ·exact J.e 4
 ·exact J.k 1 0 rfl Ty3 (Zcg _) <| J.e 2
 refine J.z 1 <| J.f ?_ ?_
 ·exact SJ.sr 3 <| J.z 3 <| J.r
 refine SJ.sr 4 <| J.k 0 0 rfl Ty32 (At.whole _) <| J.C 0 F35 (Zgo _) fun r36 => J.z 2 <| J.f ?_ ?_
 ·exact SJ.sr 3 <| J.z 3 <| J.r
 refine SJ.sr 6 <| J.k 2 0 rfl Ty30 (ZaT _) <| J.C 0 F36 (ZeK _ _) fun r41 => J.z 2 <| J.f ?_ ?_
 ·exact SJ.sr 3 <| J.z 3 <| J.r
 refine SJ.sr 4 <| J.z 4 <| J.f ?_ ?_
 ·exact SJ.sr 3 <| J.z 3 <| J.r
 exact SJ.skip <| SJ.inBlock <| SJ.sr 1 <| J.z 1 <| SJ.sr 1 <| J.z 1 <| SJ.seq <| SJ.block (id := 1) <| J.L (ZaV.L1_ok a0 a1 b1)

/-! ### (*weir/route.Table).Drop: function 13 -/
noncomputable def Za1.B : Code := bod Tryd.f13
noncomputable def Za1.cx : Fx := ⟨Tryd.prog, 13, Tryd.f13, none⟩
noncomputable def Za1.out (r_ : Bool) : Value := .bool r_
noncomputable def Za1.K1 (a0 : (Option Addr)) (a1 : Zar) (j12 : Bool) : M Bool :=
 draw >>= fun _ =>
 nilck a0 >>= fun p13 =>
 ld cM p13 >>= fun x14 =>
 mdel ZaA Zac x14 a1 >>= fun _ =>
 pure j12
theorem Za1.K1_ok (a0 : (Option Addr)) (a1 : Zar) (b1 : Nat) (j12 : Bool) :
  SJ Za1.cx [.code (c2 (c2 Za1.B))] [(0, .pointer a0), (3, .pointer (some (pt b1 0))), (6, .bool j12)] [(b1, ZaA.enc a1)] (Za1.K1 a0 a1 j12) (rt Za1.out) := by
 unfold Za1.K1
 exact SJ.seq <| J.R 6 ZbO <| J.n 1 fun p13 => J.l 1 Ty79 fun x14 => J.k 0 0 rfl Ty30 (At.whole _) <| OJ.mdel (uT := 30) (x := .tmp 19) (y := .tmp 20) (owed := []) Kt79 <| OW.nil <| J.z 0 <| SJ.sr 2 <| J.z 2 <| J.r
noncomputable def Za1 (a0 : (Option Addr)) (a1 : Zar) : M Bool :=
 slot 30 >>= fun b1 =>
 draws 13 1 (Zc6 (c1 (c2 Za1.B))) >>= fun o2 =>
 if bfr o2 5 9 = true then
  nilck a0 >>= fun p16 =>
  ld cM p16 >>= fun x17 =>
  mget ZaA Zac Zaa x17 a1 >>= fun r18 =>
  slot 32 >>= fun b19 =>
  same cM p16 x17 >>= fun _ =>
  Za1.K1 a0 a1 r18.2
 else
  nilck a0 >>= fun p20 =>
  ld cM p20 >>= fun x21 =>
  slot 32 >>= fun b22 =>
  same cM p20 x21 >>= fun _ =>
  mget ZaA Zac Zaa x21 a1 >>= fun r23 =>
  Za1.K1 a0 a1 r23.2
theorem Zfm (a0 : (Option Addr)) (a1 : Zar) : Ref Tryd.prog 13 [.pointer a0, ZaA.val a1] (Za1 a0 a1) Za1.out := by
 refine J.Fn Tryd.func13 ?_
 unfold Za1
 refine SJ.sr 2 <| J.b 0 ZaA a1 fun b1 => J.z 1 <| SJ.seq <| SJ.draws (id := 1) (kd := [0, 0, 0, 1, 1, 2, 0, 0, 0, 2, 2, 0]) (bef := [0, 1, 3, 7, 0, 31, 63, 127, 127, 0, 767, 2047]) (ord := [0, 1, 2, 3, 4, 5, 6, 7, 8, 9, 10, 11]) (E := [(5, 9)]) ZbO fun o2 hg_ => SJ.bfr hg_ (by decide) (fun ho15 => ?_) fun ho15 => ?_
 ·exact SJ.leaf hg_ (kd := [0, 0, 0, 1, 1, 2, 0, 0, 0, 2, 2, 0]) (bef := [0, 1, 3, 7, 0, 31, 63, 127, 127, 0, 767, 2047]) (ord := [0, 1, 2, 3, 4, 5, 6, 7, 8, 9, 10, 11]) (E := [(5, 9)]) (allB.cons ho15 allB.nil) <| J.n 1 fun p16 => J.l 1 Ty79 fun x17 => J.k 0 0 rfl Ty30 (At.whole _) <| OJ.get1 (d := 13) (x := .tmp 11) (y := .tmp 12) (owed := []) Kt79 fun r18 => OW.nil <| J.g 3 <| OJ.slotOf (d := 5) (op := (.alloc 32)) (cd := Zac) (u := Zaa) (owed := [⟨4, 30, (pt b1 0), ZaA.val a1⟩, ⟨3, 79, p16, cM.val x17⟩]) (Zc9 Ty32) fun b19 => OW.known (j := 1) (q := a1) Ty30 rfl (At.whole _) <| OW.same Ty79 <| OW.nil <| J.s 0 0 rfl Ty32 (Upd.w r18.1) <| J.z 1 <| SJ.forget (List.Sublist.cons _ (List.Sublist.cons_cons _ List.Sublist.slnil)) <| J.q <| Za1.K1_ok a0 a1 b1 r18.2
 exact SJ.leaf hg_ (kd := [0, 0, 0, 1, 1, 2, 0, 0, 0, 2, 2, 0]) (bef := [0, 1, 3, 7, 0, 31, 63, 127, 127, 0, 767, 2047]) (ord := [0, 1, 2, 3, 4, 9, 5, 6, 7, 8, 10, 11]) (E := [(9, 5)]) (allB.cons ho15 allB.nil) <| J.n 1 fun p20 => J.l 1 Ty79 fun x21 => J.k 0 0 rfl Ty30 (At.whole _) <| OJ.slotOf (d := 5) (op := (.alloc 32)) (cd := Zac) (u := Zaa) (owed := [⟨4, 30, (pt b1 0), ZaA.val a1⟩, ⟨3, 79, p20, cM.val x21⟩]) (Zc9 Ty32) fun b22 => OW.known (j := 1) (q := a1) Ty30 rfl (At.whole _) <| OW.same Ty79 <| OW.nil <| OJ.get1 (d := 13) (x := .tmp 11) (y := .tmp 12) (owed := []) Kt79 fun r23 => OW.nil <| J.s 3 0 rfl Ty32 (Upd.w r23.1) <| J.z 1 <| SJ.forget (List.Sublist.cons _ (List.Sublist.cons_cons _ List.Sublist.slnil)) <| J.q <| Za1.K1_ok a0 a1 b1 r23.2

/-! ### weir/weirref14.Drop: function 41 -/
noncomputable def Zcu.out (r_ : (Sl × Bool)) : Value := .tuple #[Sl.v r_.1, .bool r_.2]
noncomputable def Zcu (a0 : Sl) (a1 : Zar) : M (Sl × Bool) :=
 slot 30 >>= fun b1 =>
 Zbh a0 a1 >>= fun r2 =>
 if r2 < 0 then
  pure (a0, false)
 else
  cut 36 a0 none (some r2) none >>= fun r3 =>
  appS Zac 32 64 Zaa Sl.nil r3 >>= fun r4 =>
  cut 36 a0 (some (IntKind.wrap .i64 (r2 + 1))) none none >>= fun r5 =>
  appS Zac 32 64 Zaa r4 r5 >>= fun r6 =>
  pure (r6, true)
theorem ZfW (a0 : Sl) (a1 : Zar) : Ref Tryd.prog 41 [Sl.v a0, ZaA.val a1] (Zcu a0 a1) Zcu.out := by
 refine J.Fn Tryd.func41 ?_
 unfold Zcu
 refine SJ.sr 3 <| J.b 0 ZaA a1 fun b1 => J.z 2 <| SJ.sr 4 <| J.k 1 0 rfl Ty30 (At.whole _) <| J.C 0 F36 (ZeK _ _) fun r2 => J.z 1 <| SJ.seq <| SJ.sr 2 <| J.z 2 <| J.f ?_ ?_
 ·exact SJ.sr 3 <| J.z 3 <| J.r
 exact SJ.skip <| SJ.sr 1 <| J.z 1 <| SJ.sr 6 <| J.cs 3 fun r3 => OJ.appS (d := 18) (t := 39) (u := 39) (so := .tmp 14) (xo := .tmp 17) (owed := []) Ty32 fun r4 => OW.nil <| J.z 1 <| SJ.sr 8 <| J.cs 4 fun r5 => OJ.appS (d := 24) (t := 39) (u := 39) (so := .tmp 19) (xo := .tmp 23) (owed := []) Ty32 fun r6 => OW.nil <| J.z 2 <| J.r

/-! ### weir/weirlaw14.turned: function 23 -/
noncomputable def ZbA.out (r_ : (Zas × Bool)) : Value := .tuple #[Zau.val r_.1, .bool r_.2]
noncomputable def ZbA (a0 : Zas) (a1 : ZaO) : M (Zas × Bool) :=
 slot 57 >>= fun b1 =>
 slot 61 >>= fun b2 =>
 slot 57 >>= fun b3 =>
 if a1.Kind = 1 then
  ZaM a0.T a1.R >>= fun r6 =>
  ZaV a0.L a1.R >>= fun r7 =>
  pure ((⟨a0.T, r7.1, a0.Kept⟩ : Zas), (r6 == r7.2))
 else
  Za1 a0.T a1.R.Prefix >>= fun r8 =>
  Zcu a0.L a1.R.Prefix >>= fun r9 =>
  pure ((⟨a0.T, r9.1, a0.Kept⟩ : Zas), (r8 == r9.2))
theorem Zci (a0 : Zas) (a1 : ZaO) : Ref Tryd.prog 23 [Zau.val a0, ZaF.val a1] (ZbA a0 a1) ZbA.out := by
 refine J.Fn Tryd.func23 ?_
 unfold ZbA
 refine SJ.sr 4 <| J.b 0 Zau a0 fun b1 => J.b 0 ZaF a1 fun b2 => J.a 0 Ty57 fun b3 => J.z 1 <| SJ.seq <| SJ.sr 3 <| J.k 1 1 rfl Ty3 (ZcS _) <| J.z 1 <| J.f ?_ ?_
 ·exact SJ.sr 6 <| J.k 1 2 rfl Ty22 (ZbH _) <| J.k 1 1 rfl Ty32 (Zco _) <| J.C 0 F10 (ZfE _ _) fun r6 => J.z 1 <| SJ.sr 10 <| J.k 1 2 rfl Ty39 (Zbk _) <| J.k 1 1 rfl Ty32 (Zco _) <| J.C 0 F17 (Zgp _ _) fun r7 => J.z 5 <| SJ.sr 3 <| J.s 2 2 rfl Ty39 (ZdV _ r7.1) <| J.z 0 <| SJ.sr 6 <| J.k 0 2 rfl Ty57 (At.whole _) <| J.s 3 0 rfl Ty57 (Upd.w (⟨a0.T, r7.1, a0.Kept⟩ : Zas)) <| J.z 1 <| J.rc (.c 0 rfl Ty57 .n)
 exact SJ.skip <| SJ.sr 7 <| J.k 1 2 rfl Ty22 (ZbH _) <| J.k 2 1 rfl Ty30 (At.trans (Zco _) (ZaT _)) <| J.C 0 F13 (Zfm _ _) fun r8 => J.z 1 <| SJ.sr 11 <| J.k 1 2 rfl Ty39 (Zbk _) <| J.k 2 1 rfl Ty30 (At.trans (Zco _) (ZaT _)) <| J.C 0 F41 (ZfW _ _) fun r9 => J.z 5 <| SJ.sr 3 <| J.s 2 2 rfl Ty39 (ZdV _ r9.1) <| J.z 0 <| SJ.sr 6 <| J.k 0 2 rfl Ty57 (At.whole _) <| J.s 3 0 rfl Ty57 (Upd.w (⟨a0.T, r9.1, a0.Kept⟩ : Zas)) <| J.z 1 <| J.rc (.c 0 rfl Ty57 .n)

/-! ### weir/route.prefixes$1: function 51 -/
noncomputable def ZaR.B : Code := bod Tryd.f51
noncomputable def ZaR.cx : Fx := ⟨Tryd.prog, 51, Tryd.f51, none⟩
noncomputable def ZaR.out (r_ : Unit) : Value := .tuple #[]
noncomputable def ZaR.F1 (a0v : Any) (a1 : Addr) : LF Int Unit := ⟨[.inBlock 0], c1 (c2 (c2 ZaR.B)), fun s_ => [(0, a0v.v), (1, .pointer (some a1)), (3, .int .i64 s_)], fun s_ => [], (rt ZaR.out)⟩
noncomputable def ZaR.L1 (a0 : Zar → M Bool) (a1 : Addr) (s5 : Int) : M (LS Int Unit) :=
 if s5 ≥ 0 then
  ld ZaI a1 >>= fun x6 =>
  ZdC x6 s5 >>= fun r7 =>
  slot 28 >>= fun b8 =>
  (if r7.2 ≠ 0 then
    pure true
   else
    a0 (⟨r7.1, s5⟩ : Zar) >>= fun r9 =>
    pure (!r9)) >>= fun y10 =>
  if y10 = true then
   pure (LS.done ())
  else
   pure (LS.next (IntKind.wrap .i64 (s5 - 1)))
 else
  pure (LS.done ())
theorem ZaR.L1_ok (a0v : Any) (a0 : Zar → M Bool) (h_a0 : ∀ (x0_ : Zar), RefV Tryd.prog a0v.v [ZaA.val x0_] (a0 x0_) (fun r_ : Bool => .bool r_)) (a1 : Addr) : LJ ZaR.cx (ZaR.F1 a0v a1) (fun s_ => ZaR.L1 a0 a1 s_) := by
 rintro s5
 show SJ _ _ _ _ (ZaR.L1 a0 a1 s5) _
 unfold ZaR.L1
 refine SJ.seq <| SJ.sr 2 <| J.z 2 <| J.f ?_ ?_
 ·refine SJ.skip <| SJ.seq <| SJ.block (id := 1) <| SJ.sr 9 <| J.l 0 Ty28 fun x6 => J.C 1 F49 (Zgm _ _) fun r7 => J.a 3 Ty28 fun b8 => J.s 0 0 rfl Ty28 (Upd.w r7.1) <| J.z 1 <| SJ.sr 10 <| J.j 3 6 .bool ?_ ?_ fun y10 => ?_
  ·exact J.e 7
  ·exact J.k 1 0 rfl Ty28 (At.whole _) <| J.u 1 Ty30 (.f 0 (Zdc _ r7.1) (.f 1 (Zdu _ s5) .nil)) <| J.v 0 (h_a0 (⟨r7.1, s5⟩ : Zar)) fun r9 => J.e 2
  refine J.z 0 <| J.f ?_ ?_
  ·exact J.r
  exact SJ.skip <| SJ.inBlock <| SJ.rg 3 <| J.z 3 <| SJ.forget (List.Sublist.cons _ List.Sublist.slnil) <| J.o rfl
 exact SJ.exit (id := 0) (by rfl) <| SJ.end_ rfl (Res.run (ys := []) .nil rfl)
noncomputable def ZaR (a0 : Zar → M Bool) (a1 : Addr) : M Unit :=
 ld ZaI a1 >>= fun x1 =>
 ZcQ x1 >>= fun r2 =>
 if ¬ (r2 = true) then
  pure ()
 else
  ld (cI .i64) a1 >>= fun x3 =>
  Zdj x3 >>= fun r4 =>
  ZbR (fun s_ : Int => ZaR.L1 a0 a1 s_) r4
theorem ZdP (a0v : Any) (a0 : Zar → M Bool) (h_a0 : ∀ (x0_ : Zar), RefV Tryd.prog a0v.v [ZaA.val x0_] (a0 x0_) (fun r_ : Bool => .bool r_)) (a1 : Addr) : Ref Tryd.prog 51 [a0v.v, .pointer (some a1)] (ZaR a0 a1) ZaR.out := by
 refine J.Fn Tryd.func51 ?_
 unfold ZaR
 refine SJ.seq <| SJ.sr 3 <| J.l 0 Ty28 fun x1 => J.C 0 F32 (ZdH _) fun r2 => J.z 1 <| J.f ?_ ?_
 ·exact J.r
 exact SJ.skip <| SJ.sr 4 <| J.l 1 Ty3 fun x3 => J.C 0 F48 (ZfC _) fun r4 => J.z 1 <| SJ.block (id := 0) <| J.L (ZaR.L1_ok a0v a0 h_a0 a1)

/-! ### weir/route.prefixes: function 33 -/
noncomputable def ZbT.out (r_ : Any) : Value := r_.v
noncomputable def ZbT (a0 : ZaH) : M Any :=
 newv 28 ZaI a0 >>= fun b1 =>
 pure ⟨.func (.func 51) #[] #[.pointer (some (pt b1 0))], rfl⟩
theorem Zeo (a0 : ZaH) : Ref Tryd.prog 33 [ZaI.val a0] (ZbT a0) ZbT.out := by
 refine J.Fn Tryd.func33 ?_
 unfold ZbT
 exact SJ.sr 2 <| J.B 0 fun b1 => J.z 1 <| SJ.sr 2 <| J.z 2 <| J.r

/-! ### (*weir/route.Table).Find: function 14 -/
noncomputable def ZaS.B : Code := bod Tryd.f14
noncomputable def ZaS.out (r_ : (Zab × Bool)) : Value := .tuple #[Zac.val r_.1, .bool r_.2]
noncomputable def ZaS.rx (l_ : Nat) : Fx := ⟨Tryd.prog, 14, Tryd.f14, some l_⟩
noncomputable def ZaS.it (f_ : Any) (y_ : Zar → M Bool) : M Unit :=
 (Zea f_.v).elim fail (fun q_ => if q_.1 = 51 then ZaR y_ q_.2 else fail)
theorem ZaS.it_ok (f_ yv_ : Any) (y_ : Zar → M Bool) (hy_ : ∀ x_, RefV Tryd.prog yv_.v [ZaA.val x_] (y_ x_) Value.bool) : RefI Tryd.prog f_.v [yv_.v] (ZaS.it f_ y_) (fun _ => .tuple #[]) := by
  intro v r v' e
  unfold ZaS.it at e
  cases hf_ : Zea f_.v with
  | none => rw [hf_] at e; cases e
  | some q_ =>
    obtain ⟨g_, p0⟩ := q_
    rw [hf_] at e
    simp only [Option.elim] at e
    by_cases hg_ : g_ = 51
    · subst hg_
      rw [if_pos rfl] at e
      have h_ := RefI.of (first := []) (vals := [yv_.v]) (cap := [.pointer (some p0)]) F51 (ZdP yv_ y_ hy_ p0) v r v' e
      rw [Zdm hf_]
      exact h_
    rw [if_neg hg_] at e
    cases e
noncomputable def ZaS.R1 (b1 : Nat) (b3 : Nat) (b4 : Nat) (l6 : Nat) (x7 : Zar) : M (Option Code) :=
 slot 30 >>= fun b36 =>
 begM l6 >>= fun _ =>
 draws 14 3 (Zc6 (c1 (c1 ((rfOf (c1 (c2 (c1 (c2 ZaS.B))))).2.2.2)))) >>= fun o37 =>
 if bfr o37 5 9 = true then
  ld cP (pt b1 0) >>= fun x50 =>
  nilck x50 >>= fun p51 =>
  ld cM p51 >>= fun x52 =>
  mget ZaA Zac Zaa x52 x7 >>= fun r53 =>
  slot 32 >>= fun b54 =>
  same cM p51 x52 >>= fun _ =>
  same cP (pt b1 0) x50 >>= fun _ =>
  if r53.2 = true then
   st Zac (pt b3 0) r53.1 >>= fun _ =>
   st cB (pt b4 0) true >>= fun _ =>
   pure (some Code.ret)
  else
   pure none
 else
  ld cP (pt b1 0) >>= fun x56 =>
  nilck x56 >>= fun p57 =>
  ld cM p57 >>= fun x58 =>
  slot 32 >>= fun b59 =>
  same cM p57 x58 >>= fun _ =>
  same cP (pt b1 0) x56 >>= fun _ =>
  mget ZaA Zac Zaa x58 x7 >>= fun r60 =>
  if r60.2 = true then
   st Zac (pt b3 0) r60.1 >>= fun _ =>
   st cB (pt b4 0) true >>= fun _ =>
   pure (some Code.ret)
  else
   pure none
theorem ZaS.R1_ok (b1 : Nat) (b3 : Nat) (b4 : Nat) (r5 : Any) (l6 : Nat) (rc_ : Loop) (ht_ : ZbS.tab l6 = some rc_) (x7 : Zar) :
  SJ (ZaS.rx l6) [.code ((rfOf (c1 (c2 (c1 (c2 ZaS.B))))).2.2.1), .beginRound, .code ((rfOf (c1 (c2 (c1 (c2 ZaS.B))))).2.2.2)] [(11, ZaA.val x7), (2, .pointer (some (pt b1 0))), (4, .pointer (some (pt b3 0))), (5, .pointer (some (pt b4 0))), (10, r5.v)] [] (ZaS.R1 b1 b3 b4 l6 x7) rdJ := by
 unfold ZaS.R1
 refine SJ.rg 2 <| J.a 0 Ty30 fun b36 => J.s 0 0 rfl Ty30 (Upd.w x7) <| J.z 0 <| SJ.begin rfl ht_ <| SJ.block (id := 1) <| SJ.seq <| SJ.draws (id := 3) (kd := [1, 0, 0, 1, 1, 2, 0, 0, 0, 2, 2, 0]) (bef := [0, 1, 3, 7, 0, 31, 63, 127, 127, 0, 767, 2047]) (ord := [0, 1, 2, 3, 4, 5, 6, 7, 8, 9, 10, 11]) (E := [(5, 9)]) ZbO fun o37 hg_ => SJ.bfr hg_ (by decide) (fun ho49 => ?_) fun ho49 => ?_
 ·refine SJ.leaf hg_ (kd := [1, 0, 0, 1, 1, 2, 0, 0, 0, 2, 2, 0]) (bef := [0, 1, 3, 7, 0, 31, 63, 127, 127, 0, 767, 2047]) (ord := [0, 1, 2, 3, 4, 5, 6, 7, 8, 9, 10, 11]) (E := [(5, 9)]) (allB.cons ho49 allB.nil) <| J.l 0 Ty22 fun x50 => J.n 0 fun p51 => J.l 1 Ty79 fun x52 => J.k 0 0 rfl Ty30 (At.whole _) <| OJ.get1 (d := 18) (x := .tmp 16) (y := .tmp 17) (owed := []) Kt79 fun r53 => OW.nil <| J.g 3 <| OJ.slotOf (d := 7) (op := (.alloc 32)) (cd := Zac) (u := Zaa) (owed := [⟨4, 30, (pt b36 0), ZaA.val x7⟩, ⟨3, 79, p51, cM.val x52⟩, ⟨0, 22, (pt b1 0), cP.val x50⟩]) (Zc9 Ty32) fun b54 => OW.known (j := 1) (q := x7) Ty30 rfl (At.whole _) <| OW.same Ty79 <| OW.same Ty22 <| OW.nil <| J.s 0 0 rfl Ty32 (Upd.w r53.1) <| J.z 1 <| SJ.sr 1 <| J.z 1 <| J.f ?_ ?_
  ·exact SJ.sr 3 <| J.k 0 0 rfl Ty32 (At.whole _) <| J.w 0 Ty32 <| J.w 0 Ty4 <| J.z 0 <| SJ.retJ rfl
  exact SJ.skip <| SJ.inBlock <| SJ.forget (List.Sublist.cons _ (List.Sublist.cons _ List.Sublist.slnil)) <| J.o rfl
 refine SJ.leaf hg_ (kd := [1, 0, 0, 1, 1, 2, 0, 0, 0, 2, 2, 0]) (bef := [0, 1, 3, 7, 0, 31, 63, 127, 127, 0, 767, 2047]) (ord := [0, 1, 2, 3, 4, 9, 5, 6, 7, 8, 10, 11]) (E := [(9, 5)]) (allB.cons ho49 allB.nil) <| J.l 0 Ty22 fun x56 => J.n 0 fun p57 => J.l 1 Ty79 fun x58 => J.k 0 0 rfl Ty30 (At.whole _) <| OJ.slotOf (d := 7) (op := (.alloc 32)) (cd := Zac) (u := Zaa) (owed := [⟨4, 30, (pt b36 0), ZaA.val x7⟩, ⟨3, 79, p57, cM.val x58⟩, ⟨0, 22, (pt b1 0), cP.val x56⟩]) (Zc9 Ty32) fun b59 => OW.known (j := 1) (q := x7) Ty30 rfl (At.whole _) <| OW.same Ty79 <| OW.same Ty22 <| OW.nil <| OJ.get1 (d := 18) (x := .tmp 16) (y := .tmp 17) (owed := []) Kt79 fun r60 => OW.nil <| J.s 3 0 rfl Ty32 (Upd.w r60.1) <| J.z 1 <| SJ.sr 1 <| J.z 1 <| J.f ?_ ?_
 ·exact SJ.sr 3 <| J.k 0 0 rfl Ty32 (At.whole _) <| J.w 0 Ty32 <| J.w 0 Ty4 <| J.z 0 <| SJ.retJ rfl
 exact SJ.skip <| SJ.inBlock <| SJ.forget (List.Sublist.cons _ (List.Sublist.cons _ List.Sublist.slnil)) <| J.o rfl
noncomputable def ZaS (a0 : (Option Addr)) (a1 : ZaH) : M (Zab × Bool) :=
 newv 22 cP a0 >>= fun b1 =>
 slot 28 >>= fun b2 =>
 newv 32 Zac Zaa >>= fun b3 =>
 newv 4 cB false >>= fun b4 =>
 ZbT a1 >>= fun r5 =>
 rangeM (ZaS.it r5) (fun l_ x_ => ZaS.R1 b1 b3 b4 l_ x_) (onJ
  (st Zac (pt b3 0) Zaa >>= fun _ =>
   st cB (pt b4 0) false >>= fun _ =>
   ld Zac (pt b3 0) >>= fun q62 =>
   ld cB (pt b4 0) >>= fun q63 =>
   pure (q62, q63))
  (ld Zac (pt b3 0) >>= fun q64 =>
   ld cB (pt b4 0) >>= fun q65 =>
   pure (q64, q65))
  [])
theorem Zfl (a0 : (Option Addr)) (a1 : ZaH) : Ref Tryd.prog 14 [.pointer a0, ZaI.val a1] (ZaS a0 a1) ZaS.out := by
 refine J.Fn Tryd.func14 ?_
 unfold ZaS
 refine SJ.sr 4 <| J.B 0 fun b1 => J.b 0 ZaI a1 fun b2 => J.A 0 Ty32 fun b3 => J.A 0 Ty4 fun b4 => J.z 0 <| SJ.seq <| SJ.sr 2 <| J.k 0 0 rfl Ty28 (At.whole _) <| J.C 0 F33 (Zeo _) fun r5 => J.z 0 <| SJ.block (id := 0) <| SJ.less [2, 4, 5, 10] (m' := [(2, .pointer (some (pt b1 0))), (4, .pointer (some (pt b3 0))), (5, .pointer (some (pt b4 0))), (10, r5.v)]) <| SJ.rangeF (fo := .tmp 10) (fv := r5.v) (ps := [11]) (fun x_ => [ZaA.val x_]) (fun _ => .tuple #[]) (fun L_ yv_ y_ hy_ => @ZaS.it_ok L_ r5 yv_ y_ hy_) (fun L_ l_ rc_ ht_ x_ => @ZaS.R1_ok L_ b1 b3 b4 r5 l_ rc_ ht_ x_) (SJ.onJ ?_ ?_ ?_)
 ·exact SJ.inBlock <| SJ.sr 3 <| J.u 0 Ty32 .nil <| J.w 0 Ty32 <| J.w 0 Ty4 <| J.z 0 <| SJ.retM (rs := [.cell 4 32, .cell 5 4]) (SR.ld (cd := Zac) (ad := (pt b3 0)) Ty32 (fun q62 => (SR.ld (cd := cB) (ad := (pt b4 0)) Ty4 (fun q63 => (SR.nil rfl)))))
 ·exact SJ.retM (rs := [.cell 4 32, .cell 5 4]) (SR.ld (cd := Zac) (ad := (pt b3 0)) Ty32 (fun q64 => (SR.ld (cd := cB) (ad := (pt b4 0)) Ty4 (fun q65 => (SR.nil rfl)))))
 exact SJ.exits0

/-! ### weir/weirref14.Matches: function 18 -/
noncomputable def ZaB.B : Code := bod Tryd.f18
noncomputable def ZaB.cx : Fx := ⟨Tryd.prog, 18, Tryd.f18, none⟩
noncomputable def ZaB.out (r_ : Sl) : Value := Sl.v r_
noncomputable def ZaB.F1 (a0 : Sl) (a1 : ZaH) (b1 : Nat) : LF (Sl × Int) Sl := ⟨[.inBlock 0, .code (c2 (c2 (c2 ZaB.B)))], c1 (c2 (c1 (c2 (c2 ZaB.B)))), fun s_ => [(0, Sl.v a0), (3, .pointer (some (pt b1 0))), (5, Sl.v s_.1), (6, .int .i64 s_.2)], fun s_ => [(b1, ZaI.enc a1)], (rt ZaB.out)⟩
noncomputable def ZaB.F2 (a0 : Sl) (a1 : ZaH) (b1 : Nat) (s3 : Int) : LF (Sl × Int) (LS (Sl × Int) Sl) := ⟨[.inBlock 2, .inBlock 1, .code (c2 (c2 (c1 (c1 (c2 (c1 (c2 (c2 ZaB.B)))))))), .inLoop (c1 (c1 (c2 (c1 (c2 (c2 ZaB.B)))))), .inBlock 0, .code (c2 (c2 (c2 ZaB.B)))], c1 (c2 (c1 (c1 (c2 (c1 (c1 (c2 (c1 (c2 (c2 ZaB.B)))))))))), fun s_ => [(0, Sl.v a0), (3, .pointer (some (pt b1 0))), (5, Sl.v s_.1), (6, .int .i64 s3), (7, .int .i64 s_.2)], fun s_ => [(b1, ZaI.enc a1)], (ZaB.F1 a0 a1 b1).f⟩
noncomputable def ZaB.L2 (a0 : Sl) (a1 : ZaH) (s3 : Int) (s39 : Sl) (s40 : Int) : M (LS (Sl × Int) (LS (Sl × Int) Sl)) :=
 if s40 < (a0.len : Int) then
  draw >>= fun _ =>
  idx a0.a a0.len s40 36 >>= fun p57 =>
  ld (cI .i64) (Addr.add p57 17) >>= fun x58 =>
  (if x58 = s3 then
    idx a0.a a0.len s40 36 >>= fun p59 =>
    ld ZaA p59 >>= fun x60 =>
    ZaU x60 a1 >>= fun r61 =>
    pure r61
   else
    pure false) >>= fun y62 =>
  if y62 = true then
   idx a0.a a0.len s40 36 >>= fun p67 =>
   ld Zac p67 >>= fun x68 =>
   slot 32 >>= fun b69 =>
   appl Zac 32 64 Zaa s39 [x68] >>= fun r70 =>
   pure (LS.next (r70, IntKind.wrap .i64 (s40 + 1)))
  else
   pure (LS.next (s39, IntKind.wrap .i64 (s40 + 1)))
 else
  pure (LS.done (LS.next (s39, IntKind.wrap .i64 (s3 - 1))))
theorem ZaB.L2_ok (a0 : Sl) (a1 : ZaH) (b1 : Nat) (s3 : Int) : LJ ZaB.cx (ZaB.F2 a0 a1 b1 s3) (fun s_ => ZaB.L2 a0 a1 s3 s_.1 s_.2) := by
 rintro ⟨s39, s40⟩
 show SJ _ _ _ _ (ZaB.L2 a0 a1 s3 s39 s40) _
 unfold ZaB.L2
 refine SJ.seq <| SJ.sr 4 <| J.z 4 <| J.f ?_ ?_
 ·refine SJ.skip <| SJ.seq <| SJ.block (id := 3) <| SJ.seq <| J.R 17 ZbO <| J.i 2 fun p57 => J.l 2 Ty3 fun x58 => J.j 3 7 .bool ?_ ?_ fun y62 => ?_
  ·exact J.i 2 fun p59 => J.l 1 Ty30 fun x60 => J.k 0 0 rfl Ty28 (At.whole _) <| J.C 0 F38 (ZdD _ _) fun r61 => J.e 1
  ·exact J.e 8
  refine J.z 0 <| J.f ?_ ?_
  ·exact SJ.rg 8 <| J.i 3 fun p67 => J.l 0 Ty32 fun x68 => J.S 0 [x68] Ty32 fun b69 => J.p 0 0 rfl Ty32 fun r70 => J.z 1 <| SJ.inBlock <| SJ.rg 3 <| J.z 3 <| SJ.forget (List.Sublist.cons _ (List.Sublist.cons_cons _ List.Sublist.slnil)) <| J.o rfl
  exact SJ.skip <| SJ.inBlock <| SJ.rg 3 <| J.z 3 <| J.o rfl
 exact SJ.exit (id := 2) (by rfl) <| SJ.inBlock <| SJ.rg 3 <| J.z 3 <| J.o rfl
noncomputable def ZaB.L1 (a0 : Sl) (a1 : ZaH) (s2 : Sl) (s3 : Int) : M (LS (Sl × Int) Sl) :=
 if s3 ≥ 0 then
  ZbR (fun s_ : (Sl × Int) => ZaB.L2 a0 a1 s3 s_.1 s_.2) (s2, 0)
 else
  pure (LS.done s2)
theorem ZaB.L1_ok (a0 : Sl) (a1 : ZaH) (b1 : Nat) : LJ ZaB.cx (ZaB.F1 a0 a1 b1) (fun s_ => ZaB.L1 a0 a1 s_.1 s_.2) := by
 rintro ⟨s2, s3⟩
 show SJ _ _ _ _ (ZaB.L1 a0 a1 s2 s3) _
 unfold ZaB.L1
 refine SJ.seq <| SJ.sr 2 <| J.z 2 <| J.f ?_ ?_
 ·exact SJ.skip <| SJ.seq <| SJ.block (id := 1) <| SJ.sr 1 <| J.z 1 <| SJ.block (id := 2) <| J.L (ZaB.L2_ok a0 a1 b1 s3)
 exact SJ.exit (id := 0) (by rfl) <| SJ.sr 2 <| J.z 2 <| J.r
noncomputable def ZaB (a0 : Sl) (a1 : ZaH) : M Sl :=
 slot 28 >>= fun b1 =>
 ZbR (fun s_ : (Sl × Int) => ZaB.L1 a0 a1 s_.1 s_.2) (Sl.nil, 128)
theorem ZdE (a0 : Sl) (a1 : ZaH) : Ref Tryd.prog 18 [Sl.v a0, ZaI.val a1] (ZaB a0 a1) ZaB.out := by
 refine J.Fn Tryd.func18 ?_
 unfold ZaB
 exact SJ.sr 2 <| J.b 0 ZaI a1 fun b1 => J.z 1 <| SJ.sr 1 <| J.z 1 <| SJ.seq <| SJ.sr 1 <| J.z 1 <| SJ.block (id := 0) <| J.L (ZaB.L1_ok a0 a1 b1)

/-! ### weir/weirref14.Find: function 21 -/
noncomputable def Zcd.out (r_ : (Zab × Bool)) : Value := .tuple #[Zac.val r_.1, .bool r_.2]
noncomputable def Zcd (a0 : Sl) (a1 : ZaH) : M (Zab × Bool) :=
 slot 28 >>= fun b1 =>
 slot 32 >>= fun b2 =>
 ZaB a0 a1 >>= fun r3 =>
 if (r3.len : Int) = 0 then
  pure (Zaa, false)
 else
  idx r3.a r3.len 0 36 >>= fun p4 =>
  ld Zac p4 >>= fun x5 =>
  pure (x5, true)
theorem Zel (a0 : Sl) (a1 : ZaH) : Ref Tryd.prog 21 [Sl.v a0, ZaI.val a1] (Zcd a0 a1) Zcd.out := by
 refine J.Fn Tryd.func21 ?_
 unfold Zcd
 refine SJ.sr 3 <| J.b 0 ZaI a1 fun b1 => J.a 0 Ty32 fun b2 => J.z 1 <| SJ.sr 4 <| J.k 1 1 rfl Ty28 (At.whole _) <| J.C 0 F18 (ZdE _ _) fun r3 => J.z 1 <| SJ.seq <| SJ.sr 3 <| J.z 3 <| J.f ?_ ?_
 ·exact SJ.sr 3 <| J.u 0 Ty32 .nil <| J.s 0 0 rfl Ty32 (Upd.w Zaa) <| J.z 1 <| J.rc (.c 0 rfl Ty32 .n)
 exact SJ.skip <| SJ.sr 5 <| J.i 1 fun p4 => J.l 0 Ty32 fun x5 => J.s 0 0 rfl Ty32 (Upd.w x5) <| J.z 1 <| J.rc (.c 0 rfl Ty32 .n)

/-! ### (*weir/route.Table).Matches: function 19 -/
noncomputable def Zaz.B : Code := bod Tryd.f19
noncomputable def Zaz.out (r_ : Sl) : Value := Sl.v r_
noncomputable def Zaz.rx (l_ : Nat) : Fx := ⟨Tryd.prog, 19, Tryd.f19, some l_⟩
noncomputable def Zaz.it (f_ : Any) (y_ : Zar → M Bool) : M Unit :=
 (Zea f_.v).elim fail (fun q_ => if q_.1 = 51 then ZaR y_ q_.2 else fail)
theorem Zaz.it_ok (f_ yv_ : Any) (y_ : Zar → M Bool) (hy_ : ∀ x_, RefV Tryd.prog yv_.v [ZaA.val x_] (y_ x_) Value.bool) : RefI Tryd.prog f_.v [yv_.v] (Zaz.it f_ y_) (fun _ => .tuple #[]) := by
  intro v r v' e
  unfold Zaz.it at e
  cases hf_ : Zea f_.v with
  | none => rw [hf_] at e; cases e
  | some q_ =>
    obtain ⟨g_, p0⟩ := q_
    rw [hf_] at e
    simp only [Option.elim] at e
    by_cases hg_ : g_ = 51
    · subst hg_
      rw [if_pos rfl] at e
      have h_ := RefI.of (first := []) (vals := [yv_.v]) (cap := [.pointer (some p0)]) F51 (ZdP yv_ y_ hy_ p0) v r v' e
      rw [Zdm hf_]
      exact h_
    rw [if_neg hg_] at e
    cases e
noncomputable def Zaz.K1 (b3 : Nat) (b54 : Nat) (j55 : Bool) (j56 : Zab) : M (Option Code) :=
 if j55 = true then
  ld cL (pt b3 0) >>= fun x60 =>
  slot 32 >>= fun b61 =>
  appl Zac 32 64 Zaa x60 [j56] >>= fun r62 =>
  st cL (pt b3 0) r62 >>= fun _ =>
  pure none
 else
  pure none
theorem Zaz.K1_ok (b3 : Nat) (l5 : Nat) (b54 : Nat) (j55 : Bool) (j56 : Zab) :
  SJ (Zaz.rx l5) [.code (c2 (c1 ((rfOf (c1 (c2 (c1 (c2 (c2 Zaz.B)))))).2.2.2))), .inBlock 1] [(4, Sl.v Sl.nil), (5, .pointer (some (pt b3 0))), (7, .pointer (some (pt b54 0))), (8, .bool j55)] [(b54, Zac.enc j56)] (Zaz.K1 b3 b54 j55 j56) rdJ := by
 unfold Zaz.K1
 refine SJ.sr 1 <| J.z 1 <| J.f ?_ ?_
 ·exact SJ.rg 5 <| J.l 0 Ty39 fun x60 => J.k 0 0 rfl Ty32 (At.whole _) <| J.S 0 [j56] Ty32 fun b61 => J.p 0 0 rfl Ty32 fun r62 => J.w 0 Ty39 <| J.z 0 <| SJ.inBlock <| SJ.forget (List.Sublist.cons _ (List.Sublist.cons _ List.Sublist.slnil)) <| J.o rfl
 exact SJ.skip <| SJ.inBlock <| SJ.forget (List.Sublist.cons _ List.Sublist.slnil) <| J.o rfl
noncomputable def Zaz.R1 (b1 : Nat) (b3 : Nat) (l5 : Nat) (x6 : Zar) : M (Option Code) :=
 slot 30 >>= fun b41 =>
 begM l5 >>= fun _ =>
 draws 19 4 (Zc6 (c1 (c1 ((rfOf (c1 (c2 (c1 (c2 (c2 Zaz.B)))))).2.2.2)))) >>= fun o42 =>
 if bfr o42 5 9 = true then
  ld cP (pt b1 0) >>= fun x65 =>
  nilck x65 >>= fun p66 =>
  ld cM p66 >>= fun x67 =>
  mget ZaA Zac Zaa x67 x6 >>= fun r68 =>
  slot 32 >>= fun b69 =>
  same cM p66 x67 >>= fun _ =>
  same cP (pt b1 0) x65 >>= fun _ =>
  Zaz.K1 b3 b69 r68.2 r68.1
 else
  ld cP (pt b1 0) >>= fun x70 =>
  nilck x70 >>= fun p71 =>
  ld cM p71 >>= fun x72 =>
  slot 32 >>= fun b73 =>
  same cM p71 x72 >>= fun _ =>
  same cP (pt b1 0) x70 >>= fun _ =>
  mget ZaA Zac Zaa x72 x6 >>= fun r74 =>
  Zaz.K1 b3 b73 r74.2 r74.1
theorem Zaz.R1_ok (b1 : Nat) (b3 : Nat) (r4 : Any) (l5 : Nat) (rc_ : Loop) (ht_ : ZbS.tab l5 = some rc_) (x6 : Zar) :
  SJ (Zaz.rx l5) [.code ((rfOf (c1 (c2 (c1 (c2 (c2 Zaz.B)))))).2.2.1), .beginRound, .code ((rfOf (c1 (c2 (c1 (c2 (c2 Zaz.B)))))).2.2.2)] [(11, ZaA.val x6), (2, .pointer (some (pt b1 0))), (4, Sl.v Sl.nil), (5, .pointer (some (pt b3 0))), (10, r4.v)] [] (Zaz.R1 b1 b3 l5 x6) rdJ := by
 unfold Zaz.R1
 refine SJ.rg 2 <| J.a 0 Ty30 fun b41 => J.s 0 0 rfl Ty30 (Upd.w x6) <| J.z 0 <| SJ.begin rfl ht_ <| SJ.block (id := 1) <| SJ.seq <| SJ.draws (id := 4) (kd := [1, 0, 0, 1, 1, 2, 0, 0, 0, 2, 2, 0]) (bef := [0, 1, 3, 7, 0, 31, 63, 127, 127, 0, 767, 2047]) (ord := [0, 1, 2, 3, 4, 5, 6, 7, 8, 9, 10, 11]) (E := [(5, 9)]) ZbO fun o42 hg_ => SJ.bfr hg_ (by decide) (fun ho64 => ?_) fun ho64 => ?_
 ·exact SJ.leaf hg_ (kd := [1, 0, 0, 1, 1, 2, 0, 0, 0, 2, 2, 0]) (bef := [0, 1, 3, 7, 0, 31, 63, 127, 127, 0, 767, 2047]) (ord := [0, 1, 2, 3, 4, 5, 6, 7, 8, 9, 10, 11]) (E := [(5, 9)]) (allB.cons ho64 allB.nil) <| J.l 0 Ty22 fun x65 => J.n 0 fun p66 => J.l 1 Ty79 fun x67 => J.k 0 0 rfl Ty30 (At.whole _) <| OJ.get1 (d := 18) (x := .tmp 16) (y := .tmp 17) (owed := []) Kt79 fun r68 => OW.nil <| J.g 3 <| OJ.slotOf (d := 7) (op := (.alloc 32)) (cd := Zac) (u := Zaa) (owed := [⟨4, 30, (pt b41 0), ZaA.val x6⟩, ⟨3, 79, p66, cM.val x67⟩, ⟨0, 22, (pt b1 0), cP.val x65⟩]) (Zc9 Ty32) fun b69 => OW.known (j := 1) (q := x6) Ty30 rfl (At.whole _) <| OW.same Ty79 <| OW.same Ty22 <| OW.nil <| J.s 0 0 rfl Ty32 (Upd.w r68.1) <| J.z 1 <| SJ.forget (List.Sublist.cons_cons _ (List.Sublist.cons _ List.Sublist.slnil)) <| J.q <| Zaz.K1_ok b3 l5 b69 r68.2 r68.1
 exact SJ.leaf hg_ (kd := [1, 0, 0, 1, 1, 2, 0, 0, 0, 2, 2, 0]) (bef := [0, 1, 3, 7, 0, 31, 63, 127, 127, 0, 767, 2047]) (ord := [0, 1, 2, 3, 4, 9, 5, 6, 7, 8, 10, 11]) (E := [(9, 5)]) (allB.cons ho64 allB.nil) <| J.l 0 Ty22 fun x70 => J.n 0 fun p71 => J.l 1 Ty79 fun x72 => J.k 0 0 rfl Ty30 (At.whole _) <| OJ.slotOf (d := 7) (op := (.alloc 32)) (cd := Zac) (u := Zaa) (owed := [⟨4, 30, (pt b41 0), ZaA.val x6⟩, ⟨3, 79, p71, cM.val x72⟩, ⟨0, 22, (pt b1 0), cP.val x70⟩]) (Zc9 Ty32) fun b73 => OW.known (j := 1) (q := x6) Ty30 rfl (At.whole _) <| OW.same Ty79 <| OW.same Ty22 <| OW.nil <| OJ.get1 (d := 18) (x := .tmp 16) (y := .tmp 17) (owed := []) Kt79 fun r74 => OW.nil <| J.s 3 0 rfl Ty32 (Upd.w r74.1) <| J.z 1 <| SJ.forget (List.Sublist.cons_cons _ (List.Sublist.cons _ List.Sublist.slnil)) <| J.q <| Zaz.K1_ok b3 l5 b73 r74.2 r74.1
noncomputable def Zaz (a0 : (Option Addr)) (a1 : ZaH) : M Sl :=
 newv 22 cP a0 >>= fun b1 =>
 slot 28 >>= fun b2 =>
 newv 39 cL Sl.nil >>= fun b3 =>
 ZbT a1 >>= fun r4 =>
 rangeM (Zaz.it r4) (fun l_ x_ => Zaz.R1 b1 b3 l_ x_) (onJ
  (ld cL (pt b3 0) >>= fun x75 =>
   pure x75)
  (fail)
  [])
theorem ZeF (a0 : (Option Addr)) (a1 : ZaH) : Ref Tryd.prog 19 [.pointer a0, ZaI.val a1] (Zaz a0 a1) Zaz.out := by
 refine J.Fn Tryd.func19 ?_
 unfold Zaz
 refine SJ.sr 3 <| J.B 0 fun b1 => J.b 0 ZaI a1 fun b2 => J.z 1 <| SJ.sr 1 <| J.A 0 Ty39 fun b3 => J.z 0 <| SJ.seq <| SJ.sr 2 <| J.k 0 0 rfl Ty28 (At.whole _) <| J.C 0 F33 (Zeo _) fun r4 => J.z 0 <| SJ.block (id := 0) <| SJ.less [2, 4, 5, 10] (m' := [(2, .pointer (some (pt b1 0))), (4, Sl.v Sl.nil), (5, .pointer (some (pt b3 0))), (10, r4.v)]) <| SJ.rangeF (fo := .tmp 10) (fv := r4.v) (ps := [11]) (fun x_ => [ZaA.val x_]) (fun _ => .tuple #[]) (fun L_ yv_ y_ hy_ => @Zaz.it_ok L_ r4 yv_ y_ hy_) (fun L_ l_ rc_ ht_ x_ => @Zaz.R1_ok L_ b1 b3 r4 l_ rc_ ht_ x_) (SJ.onJ ?_ ?_ ?_)
 ·exact SJ.inBlock <| SJ.sr 2 <| J.l 0 Ty39 fun x75 => J.z 1 <| J.r
 ·exact SJ.fail
 exact SJ.exits0

/-! ### weir/weirlaw14.same: function 20 -/
noncomputable def ZaZ.B : Code := bod Tryd.f20
noncomputable def ZaZ.cx : Fx := ⟨Tryd.prog, 20, Tryd.f20, none⟩
noncomputable def ZaZ.out (r_ : Bool) : Value := .bool r_
noncomputable def ZaZ.F1 (a0 : Sl) (a1 : Sl) : LF Int Bool := ⟨[.inBlock 0, .code (c2 (c2 (c2 ZaZ.B)))], c1 (c2 (c1 (c2 (c2 ZaZ.B)))), fun s_ => [(0, Sl.v a0), (1, Sl.v a1), (5, .int .i64 s_)], fun s_ => [], (rt ZaZ.out)⟩
noncomputable def ZaZ.L1 (a0 : Sl) (a1 : Sl) (s1 : Int) : M (LS Int Bool) :=
 if s1 < (a0.len : Int) then
  draw >>= fun _ =>
  idx a0.a a0.len s1 36 >>= fun p8 =>
  ld Zac p8 >>= fun x9 =>
  idx a1.a a1.len s1 36 >>= fun p10 =>
  ld Zac p10 >>= fun x11 =>
  if ¬ (x9 = x11) then
   pure (LS.done false)
  else
   pure (LS.next (IntKind.wrap .i64 (s1 + 1)))
 else
  pure (LS.done true)
theorem ZaZ.L1_ok (a0 : Sl) (a1 : Sl) : LJ ZaZ.cx (ZaZ.F1 a0 a1) (fun s_ => ZaZ.L1 a0 a1 s_) := by
 rintro s1
 show SJ _ _ _ _ (ZaZ.L1 a0 a1 s1) _
 unfold ZaZ.L1
 refine SJ.seq <| SJ.sr 4 <| J.z 4 <| J.f ?_ ?_
 ·refine SJ.skip <| SJ.seq <| SJ.block (id := 1) <| SJ.seq <| J.R 9 ZbO <| J.i 2 fun p8 => J.l 0 Ty32 fun x9 => J.i 2 fun p10 => J.l 0 Ty32 fun x11 => OJ.neq (d := 25) (T := 32) (yT := 32) (y := .tmp 20) (z := .tmp 24) (cd := Zac) (p := x9) (q := x11) rfl Eq32 <| J.z 0 <| J.f ?_ ?_
  ·exact SJ.sr 1 <| J.z 1 <| J.r
  exact SJ.skip <| SJ.inBlock <| SJ.rg 3 <| J.z 3 <| J.o rfl
 exact SJ.exit (id := 0) (by rfl) <| SJ.sr 1 <| J.z 1 <| J.r
noncomputable def ZaZ (a0 : Sl) (a1 : Sl) : M Bool :=
 if (a0.len : Int) ≠ (a1.len : Int) then
  pure false
 else
  ZbR (fun s_ : Int => ZaZ.L1 a0 a1 s_) 0
theorem Zc0 (a0 : Sl) (a1 : Sl) : Ref Tryd.prog 20 [Sl.v a0, Sl.v a1] (ZaZ a0 a1) ZaZ.out := by
 refine J.Fn Tryd.func20 ?_
 unfold ZaZ
 refine SJ.sr 1 <| J.z 1 <| SJ.seq <| SJ.sr 5 <| J.z 5 <| J.f ?_ ?_
 ·exact SJ.sr 1 <| J.z 1 <| J.r
 exact SJ.skip <| SJ.seq <| SJ.sr 1 <| J.z 1 <| SJ.block (id := 0) <| J.L (ZaZ.L1_ok a0 a1)
end Go.Proofs.YtfgcobigollfjaaDoor.Lx
