/- Programs of the M-world for Go functions, each with the proof that the Go text does what it says. Printed by lxgen.py. -/
import Derived.Test.YtjceipelgkdoaaaGreatDoorLxT
import Derived.Test.YtjceipelgkdoaaaGreatDoorLxP0
set_option linter.unusedVariables false
set_option linter.unusedSimpArgs false
set_option linter.unusedSectionVars false
namespace Go.Proofs.YtjceipelgkdoaaaGreatDoor.Lx
open Go Go.Proofs
variable [Zdg]
/-! ### weir/rules.ParseRule: function 15 -/
noncomputable def Zaj.B : Code := bod Tryz.f15
noncomputable def Zaj.cx : Fx := ⟨Tryz.prog, 15, Tryz.f15, none⟩
noncomputable def Zaj.out (r_ : (Zah × Int × Int)) : Value := .tuple #[Zan.val r_.1, .int .i64 r_.2.1, .int .i64 r_.2.2]
noncomputable def Zaj.K1 (b3 : Nat) : M (Zah × Int × Int) :=
 ld (cI .i64) (Addr.add (pt b3 0) 19) >>= fun x28 =>
 if x28 ≠ 0 then
  draw >>= fun _ =>
  ld (cI .i64) (Addr.add (pt b3 0) 19) >>= fun x31 =>
  ld (cI .i64) (Addr.add (pt b3 0) 20) >>= fun x32 =>
  same (cI .i64) (Addr.add (pt b3 0) 20) x32 >>= fun _ =>
  same (cI .i64) (Addr.add (pt b3 0) 19) x31 >>= fun _ =>
  pure (Zaa, x31, x32)
 else
  ld Zan (Addr.add (pt b3 0) 3) >>= fun x33 =>
  pure (x33, 0, 0)
theorem Zaj.K1_ok (b1 : Nat) (b3 : Nat) :
  SJ Zaj.cx [.code (c2 (c2 (c2 (c2 (c2 (c2 (c2 (c2 Zaj.B))))))))] [(2, .pointer (some (pt b1 0))), (7, .pointer (some (pt b3 0)))] [(b1, Zan.enc Zaa)] (Zaj.K1 b3) (rt Zaj.out) := by
 unfold Zaj.K1
 refine SJ.seq <| SJ.sr 5 <| J.l 3 Ty49 fun x28 => J.z 1 <| J.f ?_ ?_
 ·exact SJ.seq <| J.R 12 ZcZ <| J.u 0 Ty63 .nil <| J.l 3 Ty49 fun x31 => J.l 3 Ty3 fun x32 => OJ.kst (y := .tmp 2) (z := .tmp 104) (cd := Zan) (u := Zaa) (j := 0) (b := b1) (o := 0) (Zan.enc Zaa) (owed := [⟨8, 3, (Addr.add (pt b3 0) 20), (cI .i64).val x32⟩, ⟨4, 49, (Addr.add (pt b3 0) 19), (cI .i64).val x31⟩]) Ty63 rfl (Upd.whole ((Cod.len _ _).trans (Cod.len _ _).symm)) rfl <| OW.same Ty3 <| OW.same Ty49 <| OW.nil <| J.z 2 <| J.rc (.c 0 rfl Ty63 .n)
 exact SJ.skip <| SJ.sr 7 <| J.l 3 Ty63 fun x33 => J.s 0 0 rfl Ty63 (Upd.w x33) <| J.z 2 <| J.rc (.c 0 rfl Ty63 .n)
noncomputable def Zaj.F1 (b1 : Nat) (r2 : (Sl × Int)) (b3 : Nat) (b5 : Nat) : LF Unit (Zah × Int × Int) := ⟨[.inBlock 0, .code (c2 (c2 (c2 (c2 (c2 (c2 (c2 (c2 Zaj.B))))))))], c1 (c1 (c2 (c2 (c2 (c2 (c2 (c2 (c2 Zaj.B)))))))), fun s_ => [(2, .pointer (some (pt b1 0))), (5, Sl.v r2.1), (7, .pointer (some (pt b3 0))), (8, .map (some b5))], fun s_ => [(b1, Zan.enc Zaa)], (rt Zaj.out)⟩
noncomputable def Zaj.K2 (b3 : Nat) (b5 : Nat) (r38 : ZaA) : M (LS Unit (Zah × Int × Int)) :=
 draw >>= fun _ =>
 ld (cI .i64) (Addr.add (pt b3 0) 1) >>= fun x52 =>
 mset cS (cI .i64) (some b5) r38.s x52 >>= fun _ =>
 pure (LS.next ())
theorem Zaj.K2_ok (b1 : Nat) (r2 : (Sl × Int)) (b3 : Nat) (b5 : Nat) (r38 : ZaA) (b39 : Nat) :
  SJ Zaj.cx [.code (c2 (c2 (c2 (c1 (c2 (c1 (c1 (c1 (c2 (c2 (c2 (c2 (c2 (c2 (c2 Zaj.B))))))))))))))), .inBlock 1, .inLoop (c1 (c1 (c1 (c2 (c2 (c2 (c2 (c2 (c2 (c2 Zaj.B)))))))))), .inBlock 0, .code (c2 (c2 (c2 (c2 (c2 (c2 (c2 (c2 Zaj.B))))))))] [(2, .pointer (some (pt b1 0))), (5, Sl.v r2.1), (7, .pointer (some (pt b3 0))), (8, .map (some b5)), (9, .pointer (some (pt b39 0)))] [(b39, Za9.enc r38), (b1, Zan.enc Zaa)] (Zaj.K2 b3 b5 r38) (Zaj.F1 b1 r2 b3 b5).f := by
 unfold Zaj.K2
 exact J.R 8 ZcZ <| J.k 2 0 rfl Ty9 (Za8 _) <| J.l 3 Ty3 fun x52 => OJ.mset (x := .tmp 92) (y := .tmp 94) (q := .tmp 98) (owed := []) ZsS <| OW.nil <| J.z 0 <| SJ.inBlock <| SJ.forget (List.Sublist.cons _ (List.Sublist.cons_cons _ List.Sublist.slnil)) <| J.o rfl
noncomputable def Zaj.L1 (r2 : (Sl × Int)) (b3 : Nat) (b5 : Nat) : M (LS Unit (Zah × Int × Int)) :=
 ld (cI .i64) (Addr.add (pt b3 0) 19) >>= fun x35 =>
 (if x35 = 0 then
   ld (cI .i64) (Addr.add (pt b3 0) 1) >>= fun x36 =>
   pure (decide (x36 < (r2.1.len : Int)))
  else
   pure false) >>= fun y37 =>
 if y37 = true then
  ZaH (some (pt b3 0)) >>= fun r38 =>
  slot 102 >>= fun b39 =>
  mget cS (cI .i64) 0 (some b5) r38.s >>= fun r40 =>
  (if r40.1 > 0 then
    pure true
   else
    (if r38.s.toList = ZmK.toList then
      ld (cI .i64) (Addr.add (Addr.add (pt b3 0) 3) 3) >>= fun x41 =>
      pure (x41 != 6)
     else
      pure false) >>= fun y42 =>
    pure y42) >>= fun y43 =>
  (if y43 = true then
    pure true
   else
    (if r38.s.toList = ZmJ.toList then
      ld (cI .i64) (Addr.add (Addr.add (pt b3 0) 3) 3) >>= fun x44 =>
      Zdw x44 >>= fun r45 =>
      pure (!r45)
     else
      pure false) >>= fun y46 =>
    pure y46) >>= fun y47 =>
  if y47 = true then
   ZaN (some (pt b3 0)) 165 r38.at_ >>= fun r49 =>
   (Zaj.K1 b3) >>= fun b => pure (LS.done b)
  else
   Zau (some (pt b3 0)) r38.s >>= fun r50 =>
   if ¬ (r50 = true) then
    ZaN (some (pt b3 0)) 160 r38.at_ >>= fun r53 =>
    Zaj.K2 b3 b5 r38
   else
    Zaj.K2 b3 b5 r38
 else
  (Zaj.K1 b3) >>= fun b => pure (LS.done b)
theorem Zaj.L1_ok (b1 : Nat) (r2 : (Sl × Int)) (b3 : Nat) (b5 : Nat) : LJ Zaj.cx (Zaj.F1 b1 r2 b3 b5) (fun s_ => Zaj.L1 r2 b3 b5) := by
 rintro _
 show SJ _ _ _ _ (Zaj.L1 r2 b3 b5) _
 unfold Zaj.L1
 refine SJ.seq <| SJ.sr 14 <| J.l 3 Ty49 fun x35 => J.j 2 7 .bool ?_ ?_ fun y37 => ?_
 ·exact J.l 3 Ty3 fun x36 => J.e 4
 ·exact J.e 8
 refine J.z 0 <| J.f ?_ ?_
 ·refine SJ.skip <| SJ.block (id := 1) <| SJ.sr 4 <| J.C 1 F26 (ZcI _) fun r38 => J.a 0 Zds fun b39 => J.s 0 0 rfl Zds (Upd.w r38) <| J.z 0 <| SJ.seq <| SJ.sr 32 <| J.k 2 0 rfl Ty9 (Za8 _) <| OJ.get0 (d := 50) (x := .tmp 47) (y := .tmp 49) (owed := []) ZsS fun r40 => OW.nil <| J.g 2 <| OJ.join (b := decide (r40.1 > 0)) [6, 7, 8, 9, 10, 11, 12, 13, 14, 15, 16, 17] [18, 19, 20, 21, 22, 23, 24, 25, 26, 27, 28, 29, 30, 31] [2, 5, 7, 8, 9, 64] (fun y43 => [(2, .pointer (some (pt b1 0))), (5, Sl.v r2.1), (7, .pointer (some (pt b3 0))), (8, .map (some b5)), (9, .pointer (some (pt b39 0))), (64, .bool y43)]) [] [] (t := 52) decide_eq_true_iff (fun hp_ => ?_) (fun hp_ => ?_) (fun _ _ _ _ _ _ h_ => h_) fun y43 => ?_
  ·exact J.g 12 <| OJ.nil ⟨(Cov.mem Cov.nil), rfl, _, rfl, by kernel_rfl⟩
  ·refine J.k 1 0 rfl Ty9 (Za8 _) <| J.g 2 <| OJ.join (b := (r38.s.toList == ZmK.toList)) [10, 11, 12, 13, 14, 15, 16] [17] [2, 5, 7, 8, 9, 52, 63] (fun y42 => [(2, .pointer (some (pt b1 0))), (5, Sl.v r2.1), (7, .pointer (some (pt b3 0))), (8, .map (some b5)), (9, .pointer (some (pt b39 0))), (52, .bool false), (63, .bool y42)]) [] [] (t := 56) beq_iff_eq (fun hp_ => ?_) (fun hp_ => ?_) (fun _ _ _ _ _ hq_ h_ => ⟨fun e_ he_ => (hq_ e_ he_).elim (fun h => h_.1 e_ h) (fun h => nomatch h), h_.2⟩) fun y42 => ?_
   ·exact J.l 4 Ty3 fun x41 => J.g 2 <| OJ.nil ⟨(Cov.mem Cov.nil), rfl, _, rfl, by kernel_rfl⟩
   ·exact J.g 7 <| OJ.nil ⟨(Cov.mem Cov.nil), rfl, _, rfl, by kernel_rfl⟩
   exact J.g 1 <| OJ.nil ⟨(Cov.mem Cov.nil), rfl, _, rfl, by kernel_rfl⟩
  refine J.g 1 <| OJ.join (b := y43) [19, 20, 21, 22, 23, 24, 25, 26, 27, 28, 29, 30, 31] [] [2, 5, 7, 8, 9, 78] (fun y47 => [(2, .pointer (some (pt b1 0))), (5, Sl.v r2.1), (7, .pointer (some (pt b3 0))), (8, .map (some b5)), (9, .pointer (some (pt b39 0))), (78, .bool y47)]) [] [] (t := 65) Iff.rfl (fun hp_ => ?_) (fun hp_ => ?_) (fun _ _ _ _ _ _ h_ => h_) fun y47 => ?_
  ·exact J.g 13 <| OJ.nil ⟨(Cov.mem Cov.nil), rfl, _, rfl, by kernel_rfl⟩
  ·refine J.k 1 0 rfl Ty9 (Za8 _) <| J.g 2 <| OJ.join (b := (r38.s.toList == ZmJ.toList)) [23, 24, 25, 26, 27, 28, 29, 30] [31] [2, 5, 7, 8, 9, 65, 77] (fun y46 => [(2, .pointer (some (pt b1 0))), (5, Sl.v r2.1), (7, .pointer (some (pt b3 0))), (8, .map (some b5)), (9, .pointer (some (pt b39 0))), (65, .bool false), (77, .bool y46)]) [] [] (t := 69) beq_iff_eq (fun hp_ => ?_) (fun hp_ => ?_) (fun _ _ _ _ _ hq_ h_ => ⟨fun e_ he_ => (hq_ e_ he_).elim (fun h => h_.1 e_ h) (fun h => nomatch h), h_.2⟩) fun y46 => ?_
   ·exact J.l 4 Ty3 fun x44 => J.C 0 F19 (Zhq _) fun r45 => J.g 2 <| OJ.nil ⟨(Cov.mem Cov.nil), rfl, _, rfl, by kernel_rfl⟩
   ·exact J.g 8 <| OJ.nil ⟨(Cov.mem Cov.nil), rfl, _, rfl, by kernel_rfl⟩
   exact J.g 1 <| OJ.nil ⟨(Cov.mem Cov.nil), rfl, _, rfl, by kernel_rfl⟩
  refine J.z 0 <| J.f ?_ ?_
  ·exact SJ.sr 4 <| J.k 2 0 rfl Ty3 (Zbr _) <| J.C 0 F27 (Za3 _ _ _) fun r49 => J.z 0 <| SJ.exit (id := 0) (by rfl) <| SJ.forget (List.Sublist.cons _ (List.Sublist.cons_cons _ List.Sublist.slnil)) <| J.q <| SJ.done <| Zaj.K1_ok b1 b3
  refine SJ.skip <| SJ.seq <| SJ.sr 5 <| J.k 2 0 rfl Ty9 (Za8 _) <| J.C 0 F28 (Zgs _ _) fun r50 => J.z 1 <| J.f ?_ ?_
  ·exact SJ.rg 4 <| J.k 2 0 rfl Ty3 (Zbr _) <| J.C 0 F27 (Za3 _ _ _) fun r53 => J.z 0 <| J.q <| Zaj.K2_ok b1 r2 b3 b5 r38 b39
  exact SJ.skip <| J.q <| Zaj.K2_ok b1 r2 b3 b5 r38 b39
 exact SJ.exit (id := 0) (by rfl) <| J.q <| SJ.done <| Zaj.K1_ok b1 b3
noncomputable def Zaj (a0 : ByteArray) : M (Zah × Int × Int) :=
 slot 63 >>= fun b1 =>
 if (a0.size : Int) > 1024 then
  pure (Zaa, 2, 1024)
 else
  ZaI a0 >>= fun r2 =>
  if r2.2 ≥ 0 then
   pure (Zaa, 160, r2.2)
  else
   newv 99 Za4 (⟨r2.1, ZdI.i, (a0.size : Int), ZdI.rule, ZdI.err, ZdI.at_⟩ : Za7) >>= fun b3 =>
   Zar (some (pt b3 0)) >>= fun r4 =>
   mkMap >>= fun b5 =>
   Zc7 (fun s_ : Unit => Zaj.L1 r2 b3 b5) ()
theorem Zh3 (a0 : ByteArray) : Ref Tryz.prog 15 [.string a0] (Zaj a0) Zaj.out := by
 refine J.Fn Tryz.func15 ?_
 unfold Zaj
 refine SJ.sr 3 <| J.a 0 Ty63 fun b1 => J.z 2 <| SJ.seq <| SJ.sr 3 <| J.z 3 <| J.f ?_ ?_
 ·exact SJ.sr 4 <| J.u 0 Ty63 .nil <| J.s 0 0 rfl Ty63 (Upd.w Zaa) <| J.z 2 <| J.rc (.c 0 rfl Ty63 .n)
 refine SJ.skip <| SJ.sr 7 <| J.C 1 F24 (Zkr _) fun r2 => J.z 5 <| SJ.seq <| SJ.sr 2 <| J.z 2 <| J.f ?_ ?_
 ·exact SJ.sr 5 <| J.u 0 Ty63 .nil <| J.s 1 0 rfl Ty63 (Upd.w Zaa) <| J.z 2 <| J.rc (.c 0 rfl Ty63 .n)
 exact SJ.skip <| SJ.sr 6 <| J.u 3 Ty99 (.f 0 (ZiJ _ r2.1) (.f 2 (Zhm _ (a0.size : Int)) .nil)) <| J.B 0 fun b3 => J.z 1 <| SJ.sr 2 <| J.C 1 F25 (Zhg _) fun r4 => J.z 0 <| SJ.sr 2 <| OJ.mkMap (d := 30) (t := 100) (owed := []) fun b5 => OW.nil <| J.z 1 <| SJ.seq <| SJ.block (id := 0) <| J.L (Zaj.L1_ok b1 r2 b3 b5)

/-! ### weir/rules.checkSide: function 20 -/
noncomputable def Zai.B : Code := bod Tryz.f20
noncomputable def Zai.cx : Fx := ⟨Tryz.prog, 20, Tryz.f20, none⟩
noncomputable def Zai.out (r_ : Int) : Value := .int .i64 r_
noncomputable def Zai.K1 (a0 : Zae) (a2 : Int) : M Int :=
 (if (a0.Ports.len : Int) > 0 then
   Zdt a2 >>= fun r19 =>
   pure (!r19)
  else
   pure false) >>= fun y20 =>
 if y20 = true then
  pure 165
 else
  pure 0
theorem Zai.K1_ok (a0 : Zae) (a2 : Int) (b1 : Nat) :
  SJ Zai.cx [.code (c2 (c2 (c2 (c2 (c2 Zai.B)))))] [(2, .int .i64 a2), (3, .pointer (some (pt b1 0)))] [(b1, ZaE.enc a0)] (Zai.K1 a0 a2) (rt Zai.out) := by
 unfold Zai.K1
 refine SJ.seq <| SJ.sr 9 <| J.k 1 0 rfl Ty59 (ZaR _) <| J.j 3 3 .bool ?_ ?_ fun y20 => ?_
 ·exact J.C 1 F32 (ZgB _) fun r19 => J.e 2
 ·exact J.e 4
 refine J.z 0 <| J.f ?_ ?_
 ·exact SJ.sr 1 <| J.z 1 <| J.r
 exact SJ.skip <| SJ.sr 1 <| J.z 1 <| J.r
noncomputable def Zai.F1 (a0 : Zae) (a2 : Int) (b1 : Nat) : LF Int Int := ⟨[.inBlock 2, .code (c2 (c2 (c2 (c2 (c2 Zai.B)))))], c1 (c2 (c1 (c2 (c2 (c2 (c2 Zai.B)))))), fun s_ => [(2, .int .i64 a2), (3, .pointer (some (pt b1 0))), (42, Sl.v a0.Ports), (43, .int .i64 (a0.Ports.len : Int)), (44, .int .i64 s_)], fun s_ => [(b1, ZaE.enc a0)], (rt Zai.out)⟩
noncomputable def Zai.L1 (a0 : Zae) (a2 : Int) (s11 : Int) : M (LS Int Int) :=
 if s11 < (a0.Ports.len : Int) then
  idx a0.Ports.a a0.Ports.len s11 2 >>= fun p22 =>
  ld ZaU p22 >>= fun x23 =>
  slot 93 >>= fun b24 =>
  (if x23.Lo < 0 then
    pure true
   else
    pure (decide (x23.Hi > 65535))) >>= fun y25 =>
  (if y25 = true then
    pure true
   else
    pure (decide (x23.Lo > x23.Hi))) >>= fun y26 =>
  if y26 = true then
   pure (LS.done 164)
  else
   pure (LS.next (IntKind.wrap .i64 (s11 + 1)))
 else
  (Zai.K1 a0 a2) >>= fun b => pure (LS.done b)
theorem Zai.L1_ok (a0 : Zae) (a2 : Int) (b1 : Nat) : LJ Zai.cx (Zai.F1 a0 a2 b1) (fun s_ => Zai.L1 a0 a2 s_) := by
 rintro s11
 show SJ _ _ _ _ (Zai.L1 a0 a2 s11) _
 unfold Zai.L1
 refine SJ.sr 1 <| J.z 1 <| SJ.seq <| J.f ?_ ?_
 ·refine SJ.skip <| SJ.seq <| SJ.block (id := 3) <| SJ.sr 4 <| J.i 0 fun p22 => J.l 0 Ty93 fun x23 => J.a 0 Ty93 fun b24 => J.s 0 0 rfl Ty93 (Upd.w x23) <| J.z 0 <| SJ.sr 15 <| J.k 1 0 rfl Ty3 (ZcV _) <| J.j 2 3 .bool ?_ ?_ fun y25 => ?_
  ·exact J.e 4
  ·exact J.k 1 0 rfl Ty3 (Zdo _) <| J.e 2
  refine J.j 1 5 .bool ?_ ?_ fun y26 => ?_
  ·exact J.e 6
  ·exact J.k 1 0 rfl Ty3 (ZcV _) <| J.k 1 0 rfl Ty3 (Zdo _) <| J.e 2
  refine J.z 0 <| J.f ?_ ?_
  ·exact SJ.sr 1 <| J.z 1 <| J.r
  exact SJ.skip <| SJ.inBlock <| SJ.rg 2 <| J.z 2 <| SJ.forget (List.Sublist.cons _ (List.Sublist.cons_cons _ List.Sublist.slnil)) <| J.o rfl
 exact SJ.exit (id := 2) (by rfl) <| J.q <| SJ.done <| Zai.K1_ok a0 a2 b1
noncomputable def Zai.K2 (a0 : Zae) (a2 : Int) : M Int :=
 if (a0.Ports.len : Int) > 16 then
  pure 164
 else
  Zc7 (fun s_ : Int => Zai.L1 a0 a2 s_) 0
theorem Zai.K2_ok (a0 : Zae) (a2 : Int) (b1 : Nat) :
  SJ Zai.cx [.code (c2 (c2 (c2 Zai.B)))] [(2, .int .i64 a2), (3, .pointer (some (pt b1 0)))] [(b1, ZaE.enc a0)] (Zai.K2 a0 a2) (rt Zai.out) := by
 unfold Zai.K2
 refine SJ.seq <| SJ.sr 4 <| J.k 1 0 rfl Ty59 (ZaR _) <| J.z 2 <| J.f ?_ ?_
 ·exact SJ.sr 1 <| J.z 1 <| J.r
 exact SJ.skip <| SJ.seq <| SJ.sr 4 <| J.k 1 0 rfl Ty59 (ZaR _) <| J.z 2 <| SJ.block (id := 2) <| J.L (Zai.L1_ok a0 a2 b1)
noncomputable def Zai.F2 (a0 : Zae) (a1 : Int) (a2 : Int) (b1 : Nat) : LF Int Int := ⟨[.inBlock 0, .code (c2 (c2 (c2 Zai.B)))], c1 (c2 (c1 (c2 (c2 Zai.B)))), fun s_ => [(1, .int .i64 a1), (2, .int .i64 a2), (3, .pointer (some (pt b1 0))), (26, Sl.v a0.Nets), (27, .int .i64 (a0.Nets.len : Int)), (28, .int .i64 s_)], fun s_ => [(b1, ZaE.enc a0)], (rt Zai.out)⟩
noncomputable def Zai.L2 (a0 : Zae) (a1 : Int) (a2 : Int) (s4 : Int) : M (LS Int Int) :=
 if s4 < (a0.Nets.len : Int) then
  idx a0.Nets.a a0.Nets.len s4 18 >>= fun p30 =>
  ld Zay p30 >>= fun x31 =>
  slot 91 >>= fun b32 =>
  Zc4 x31 a1 >>= fun r33 =>
  if ¬ (r33 = true) then
   pure (LS.done 163)
  else
   pure (LS.next (IntKind.wrap .i64 (s4 + 1)))
 else
  (Zai.K2 a0 a2) >>= fun b => pure (LS.done b)
theorem Zai.L2_ok (a0 : Zae) (a1 : Int) (a2 : Int) (b1 : Nat) : LJ Zai.cx (Zai.F2 a0 a1 a2 b1) (fun s_ => Zai.L2 a0 a1 a2 s_) := by
 rintro s4
 show SJ _ _ _ _ (Zai.L2 a0 a1 a2 s4) _
 unfold Zai.L2
 refine SJ.sr 1 <| J.z 1 <| SJ.seq <| J.f ?_ ?_
 ·refine SJ.skip <| SJ.seq <| SJ.block (id := 1) <| SJ.sr 4 <| J.i 0 fun p30 => J.l 0 Ty91 fun x31 => J.a 0 Ty91 fun b32 => J.s 0 0 rfl Ty91 (Upd.w x31) <| J.z 0 <| SJ.sr 4 <| J.k 0 0 rfl Ty91 (At.whole _) <| J.C 1 F31 (Zgl _ _) fun r33 => J.z 1 <| J.f ?_ ?_
  ·exact SJ.sr 1 <| J.z 1 <| J.r
  exact SJ.skip <| SJ.inBlock <| SJ.rg 2 <| J.z 2 <| SJ.forget (List.Sublist.cons _ (List.Sublist.cons_cons _ List.Sublist.slnil)) <| J.o rfl
 exact SJ.exit (id := 0) (by rfl) <| J.q <| SJ.done <| Zai.K2_ok a0 a2 b1
noncomputable def Zai (a0 : Zae) (a1 : Int) (a2 : Int) : M Int :=
 slot 61 >>= fun b1 =>
 (if (a0.Nets.len : Int) > 16 then
   pure true
  else
   (if a0.Not = true then
     pure ((a0.Nets.len : Int) == 0)
    else
     pure false) >>= fun y2 =>
   pure y2) >>= fun y3 =>
 if y3 = true then
  pure 163
 else
  Zc7 (fun s_ : Int => Zai.L2 a0 a1 a2 s_) 0
theorem Zfo (a0 : Zae) (a1 : Int) (a2 : Int) : Ref Tryz.prog 20 [ZaE.val a0, .int .i64 a1, .int .i64 a2] (Zai a0 a1 a2) Zai.out := by
 refine J.Fn Tryz.func20 ?_
 unfold Zai
 refine SJ.sr 2 <| J.b 0 ZaE a0 fun b1 => J.z 1 <| SJ.seq <| SJ.sr 14 <| J.k 1 0 rfl Ty58 (Zax _) <| J.g 3 <| OJ.join (b := decide ((a0.Nets.len : Int) > 16)) [5, 6, 7, 8, 9, 10, 11, 12, 13] [] [1, 2, 3, 24] (fun y3 => [(1, .int .i64 a1), (2, .int .i64 a2), (3, .pointer (some (pt b1 0))), (24, .bool y3)]) [] [] (t := 15) decide_eq_true_iff (fun hp_ => ?_) (fun hp_ => ?_) (fun _ _ _ _ _ _ h_ => h_) fun y3 => ?_
 ·exact J.g 9 <| OJ.nil ⟨(Cov.mem Cov.nil), rfl, _, rfl, by kernel_rfl⟩
 ·refine J.k 1 0 rfl Ty4 (ZaJ _) <| J.g 1 <| OJ.join (b := a0.Not) [8, 9, 10, 11, 12] [13] [1, 2, 3, 15, 23] (fun y2 => [(1, .int .i64 a1), (2, .int .i64 a2), (3, .pointer (some (pt b1 0))), (15, .bool false), (23, .bool y2)]) [] [] (t := 18) Iff.rfl (fun hp_ => ?_) (fun hp_ => ?_) (fun _ _ _ _ _ hq_ h_ => ⟨fun e_ he_ => (hq_ e_ he_).elim (fun h => h_.1 e_ h) (fun h => nomatch h), h_.2⟩) fun y2 => ?_
  ·exact J.k 1 0 rfl Ty58 (Zax _) <| J.g 3 <| OJ.nil ⟨(Cov.mem Cov.nil), rfl, _, rfl, by kernel_rfl⟩
  ·exact J.g 5 <| OJ.nil ⟨(Cov.mem Cov.nil), rfl, _, rfl, by kernel_rfl⟩
  exact J.g 1 <| OJ.nil ⟨(Cov.mem Cov.nil), rfl, _, rfl, by kernel_rfl⟩
 refine J.z 0 <| J.f ?_ ?_
 ·exact SJ.sr 1 <| J.z 1 <| J.r
 exact SJ.skip <| SJ.seq <| SJ.sr 4 <| J.k 1 0 rfl Ty58 (Zax _) <| J.z 2 <| SJ.block (id := 0) <| J.L (Zai.L2_ok a0 a1 a2 b1)

/-! ### weir/rules.Check: function 10 -/
noncomputable def ZaQ.B : Code := bod Tryz.f10
noncomputable def ZaQ.cx : Fx := ⟨Tryz.prog, 10, Tryz.f10, none⟩
noncomputable def ZaQ.out (r_ : Int) : Value := .int .i64 r_
noncomputable def ZaQ.K1 (a0 : Zah) (j56 : Bool) : M Int :=
 if j56 = true then
  pure 165
 else
  Zai a0.From a0.Kind a0.Proto >>= fun r57 =>
  if r57 ≠ 0 then
   pure r57
  else
   Zai a0.To a0.Kind a0.Proto >>= fun r58 =>
   pure r58
theorem ZaQ.K1_ok (a0 : Zah) (b1 : Nat) (j56 : Bool) :
  SJ ZaQ.cx [.code (c2 (c2 (c2 (c2 (c2 (c1 (c1 (c2 (c2 (c2 ZaQ.B)))))))))), .inBlock 0, .code (c2 (c2 (c2 (c2 ZaQ.B))))] [(1, .pointer (some (pt b1 0))), (77, .bool j56)] [(b1, Zan.enc a0)] (ZaQ.K1 a0 j56) (rt ZaQ.out) := by
 unfold ZaQ.K1
 refine J.f ?_ ?_
 ·exact SJ.sr 1 <| J.z 1 <| J.r
 refine SJ.skip <| SJ.inBlock <| SJ.seq <| SJ.sr 8 <| J.k 1 0 rfl Ty61 (ZbJ _) <| J.k 1 0 rfl Ty3 (ZbU _) <| J.k 1 0 rfl Ty3 (Zbu _) <| J.C 0 F20 (Zfo _ _ _) fun r57 => J.z 1 <| SJ.sr 2 <| J.z 2 <| J.f ?_ ?_
 ·exact SJ.sr 2 <| J.z 2 <| J.r
 exact SJ.skip <| SJ.sr 8 <| J.k 1 0 rfl Ty61 (ZbL _) <| J.k 1 0 rfl Ty3 (ZbU _) <| J.k 1 0 rfl Ty3 (Zbu _) <| J.C 0 F20 (Zfo _ _ _) fun r58 => J.z 1 <| J.r
noncomputable def ZaQ.K2 (a0 : Zah) (j44 : Bool) : M Int :=
 if j44 = true then
  pure 165
 else
  (if (bor .i64 a0.Set a0.Clear) ≠ 0 then
    pure (a0.Proto != 6)
   else
    pure false) >>= fun y53 =>
  if y53 = true then
   ZaQ.K1 a0 y53
  else
   (if a0.Type_ ≠ 0 then
     Zdw a0.Proto >>= fun r61 =>
     pure (!r61)
    else
     pure false) >>= fun y62 =>
   ZaQ.K1 a0 y62
theorem ZaQ.K2_ok (a0 : Zah) (b1 : Nat) (j44 : Bool) :
  SJ ZaQ.cx [.code (c2 (c2 (c2 (c1 (c1 (c2 (c2 (c2 ZaQ.B)))))))), .inBlock 0, .code (c2 (c2 (c2 (c2 ZaQ.B))))] [(1, .pointer (some (pt b1 0))), (60, .bool j44)] [(b1, Zan.enc a0)] (ZaQ.K2 a0 j44) (rt ZaQ.out) := by
 unfold ZaQ.K2
 refine J.f ?_ ?_
 ·exact SJ.sr 1 <| J.z 1 <| J.r
 refine SJ.seq <| SJ.sr 12 <| J.k 1 0 rfl Ty3 (Zb7 _) <| J.k 1 0 rfl Ty3 (ZbM _) <| J.j 3 3 .bool ?_ ?_ fun y53 => ?_
 ·exact J.k 1 0 rfl Ty3 (Zbu _) <| J.e 2
 ·exact J.e 4
 refine J.z 1 <| J.f ?_ ?_
 ·exact SJ.skip <| J.q <| ZaQ.K1_ok a0 b1 y53
 refine SJ.rg 10 <| J.k 1 0 rfl Ty3 (Zcu _) <| J.j 2 4 .bool ?_ ?_ fun y62 => ?_
 ·exact J.k 1 0 rfl Ty3 (Zbu _) <| J.C 0 F19 (Zhq _) fun r61 => J.e 2
 ·exact J.e 5
 exact J.z 1 <| J.q <| ZaQ.K1_ok a0 b1 y62
noncomputable def ZaQ (a0 : Zah) : M Int :=
 slot 63 >>= fun b1 =>
 Zbw a0.Act 1 3 >>= fun r2 =>
 (if r2 = true then
   Zbw a0.Class 0 7 >>= fun r3 =>
   pure r3
  else
   pure false) >>= fun y4 =>
 (if y4 = true then
   Zbw a0.Kind 0 3 >>= fun r5 =>
   pure r5
  else
   pure false) >>= fun y6 =>
 (if y6 = true then
   Zbw a0.Proto 0 255 >>= fun r7 =>
   pure r7
  else
   pure false) >>= fun y8 =>
 (if y8 = true then
   Zbw a0.In 0 8 >>= fun r9 =>
   pure r9
  else
   pure false) >>= fun y10 =>
 (if y10 = true then
   Zbw a0.Vid 0 4094 >>= fun r11 =>
   pure r11
  else
   pure false) >>= fun y12 =>
 (if y12 = true then
   Zbw a0.Set 0 255 >>= fun r13 =>
   pure r13
  else
   pure false) >>= fun y14 =>
 (if y14 = true then
   Zbw a0.Clear 0 255 >>= fun r15 =>
   pure r15
  else
   pure false) >>= fun y16 =>
 (if y16 = true then
   Zbw a0.Type_ 0 256 >>= fun r17 =>
   pure r17
  else
   pure false) >>= fun y18 =>
 (if y18 = true then
   pure ((band .i64 a0.Set a0.Clear) == 0)
  else
   pure false) >>= fun y19 =>
 if ¬ (y19 = true) then
  pure 166
 else
  (if a0.Class ≠ 0 then
    pure (a0.Act != 1)
   else
    pure false) >>= fun y42 =>
  if y42 = true then
   ZaQ.K2 a0 y42
  else
   (if a0.Proto ≠ 0 then
     pure (a0.Kind == 1)
    else
     pure false) >>= fun y65 =>
   ZaQ.K2 a0 y65
theorem ZfC (a0 : Zah) : Ref Tryz.prog 10 [Zan.val a0] (ZaQ a0) ZaQ.out := by
 refine J.Fn Tryz.func10 ?_
 unfold ZaQ
 refine SJ.sr 2 <| J.b 0 Zan a0 fun b1 => J.z 1 <| SJ.sr 24 <| J.k 1 0 rfl Ty3 (Zb8 _) <| J.C 0 F18 (ZbQ _ _ _) fun r2 => J.j 1 3 .bool ?_ ?_ fun y4 => ?_
 ·exact J.k 1 0 rfl Ty3 (ZcP _) <| J.C 0 F18 (ZbQ _ _ _) fun r3 => J.e 1
 ·exact J.e 4
 refine J.j 1 3 .bool ?_ ?_ fun y6 => ?_
 ·exact J.k 1 0 rfl Ty3 (ZbU _) <| J.C 0 F18 (ZbQ _ _ _) fun r5 => J.e 1
 ·exact J.e 4
 refine J.j 1 3 .bool ?_ ?_ fun y8 => ?_
 ·exact J.k 1 0 rfl Ty3 (Zbu _) <| J.C 0 F18 (ZbQ _ _ _) fun r7 => J.e 1
 ·exact J.e 4
 refine J.j 1 3 .bool ?_ ?_ fun y10 => ?_
 ·exact J.k 1 0 rfl Ty3 (ZdJ _) <| J.C 0 F18 (ZbQ _ _ _) fun r9 => J.e 1
 ·exact J.e 4
 refine J.z 1 <| SJ.sr 30 <| J.j 2 3 .bool ?_ ?_ fun y12 => ?_
 ·exact J.k 1 0 rfl Ty3 (Zdn _) <| J.C 0 F18 (ZbQ _ _ _) fun r11 => J.e 1
 ·exact J.e 4
 refine J.j 1 3 .bool ?_ ?_ fun y14 => ?_
 ·exact J.k 1 0 rfl Ty3 (Zb7 _) <| J.C 0 F18 (ZbQ _ _ _) fun r13 => J.e 1
 ·exact J.e 4
 refine J.j 1 3 .bool ?_ ?_ fun y16 => ?_
 ·exact J.k 1 0 rfl Ty3 (ZbM _) <| J.C 0 F18 (ZbQ _ _ _) fun r15 => J.e 1
 ·exact J.e 4
 refine J.j 1 3 .bool ?_ ?_ fun y18 => ?_
 ·exact J.k 1 0 rfl Ty3 (Zcu _) <| J.C 0 F18 (ZbQ _ _ _) fun r17 => J.e 1
 ·exact J.e 4
 refine J.j 1 6 .bool ?_ ?_ fun y19 => ?_
 ·exact J.k 1 0 rfl Ty3 (Zb7 _) <| J.k 1 0 rfl Ty3 (ZbM _) <| J.e 3
 ·exact J.e 7
 refine J.z 1 <| SJ.seq <| SJ.block (id := 0) <| SJ.sr 3 <| J.z 3 <| J.f ?_ ?_
 ·exact SJ.sr 1 <| J.z 1 <| J.r
 refine SJ.seq <| SJ.sr 9 <| J.k 1 0 rfl Ty3 (ZcP _) <| J.j 2 3 .bool ?_ ?_ fun y42 => ?_
 ·exact J.k 1 0 rfl Ty3 (Zb8 _) <| J.e 2
 ·exact J.e 4
 refine J.z 1 <| J.f ?_ ?_
 ·exact SJ.skip <| J.q <| ZaQ.K2_ok a0 b1 y42
 refine SJ.rg 9 <| J.k 1 0 rfl Ty3 (Zbu _) <| J.j 2 3 .bool ?_ ?_ fun y65 => ?_
 ·exact J.k 1 0 rfl Ty3 (ZbU _) <| J.e 2
 ·exact J.e 4
 exact J.z 1 <| J.q <| ZaQ.K2_ok a0 b1 y65

/-! ### internal/strconv.small: function 96 -/
noncomputable def Zdv.out (r_ : ByteArray) : Value := .string r_
noncomputable def Zdv (a0 : Int) : M ByteArray :=
 if a0 < 10 then
  chk (0 ≤ (a0 : Int) ∧ (a0 : Int) ≤ (IntKind.wrap .i64 (a0 + 1)) ∧ (IntKind.wrap .i64 (a0 + 1)) ≤ (Zqw.size : Int)) >>= fun _ =>
  pure (ByteArray.extract Zqw (Int.toNat a0) (Int.toNat (IntKind.wrap .i64 (a0 + 1))))
 else
  chk (0 ≤ ((IntKind.wrap .i64 (a0 * 2)) : Int) ∧ ((IntKind.wrap .i64 (a0 * 2)) : Int) ≤ (IntKind.wrap .i64 ((IntKind.wrap .i64 (a0 * 2)) + 2)) ∧ (IntKind.wrap .i64 ((IntKind.wrap .i64 (a0 * 2)) + 2)) ≤ (Zqv.size : Int)) >>= fun _ =>
  pure (ByteArray.extract Zqv (Int.toNat (IntKind.wrap .i64 (a0 * 2))) (Int.toNat (IntKind.wrap .i64 ((IntKind.wrap .i64 (a0 * 2)) + 2))))
theorem Zje (a0 : Int) : Ref Tryz.prog 96 [.int .i64 a0] (Zdv a0) Zdv.out := by
 refine J.Fn Tryz.func96 ?_
 unfold Zdv
 refine SJ.sr 1 <| J.z 1 <| SJ.seq <| SJ.sr 2 <| J.z 2 <| J.f ?_ ?_
 ·exact SJ.sr 5 <| J.ct 3 <| J.z 1 <| J.r
 exact SJ.skip <| SJ.sr 7 <| J.ct 5 <| J.z 1 <| J.r

/-! ### internal/strconv.FormatInt: function 86 -/
noncomputable def ZcO.out (r_ : ByteArray) : Value := .string r_
noncomputable def ZcO (a0 : Int) (a1 : Int) : M ByteArray :=
 if a1 = 10 then
  (if 0 ≤ a0 then
    pure (decide (a0 < 100))
   else
    pure false) >>= fun y5 =>
  if y5 = true then
   Zdv a0 >>= fun r7 =>
   pure r7
  else
   fail
 else
  fail
theorem Zhe (a0 : Int) (a1 : Int) : Ref Tryz.prog 86 [.int .i64 a0, .int .i64 a1] (ZcO a0 a1) ZcO.out := by
 refine J.Fn Tryz.func86 ?_
 unfold ZcO
 refine SJ.sr 1 <| J.z 1 <| SJ.seq <| SJ.sr 2 <| J.z 2 <| J.f ?_ ?_
 ·refine SJ.seq <| SJ.sr 6 <| J.j 3 2 .bool ?_ ?_ fun y5 => ?_
  ·exact J.e 3
  ·exact J.e 3
  refine J.z 0 <| J.f ?_ ?_
  ·exact SJ.sr 3 <| J.C 1 F96 (Zje _) fun r7 => J.z 1 <| J.r
  exact SJ.fail
 exact SJ.fail

/-! ### internal/strconv.Itoa: function 70 -/
noncomputable def Zed.out (r_ : ByteArray) : Value := .string r_
noncomputable def Zed (a0 : Int) : M ByteArray :=
 ZcO a0 10 >>= fun r1 =>
 pure r1
theorem ZjG (a0 : Int) : Ref Tryz.prog 70 [.int .i64 a0] (Zed a0) Zed.out := by
 refine J.Fn Tryz.func70 ?_
 unfold Zed
 exact SJ.sr 1 <| J.z 1 <| SJ.sr 3 <| J.C 1 F86 (Zhe _ _) fun r1 => J.z 1 <| J.r

/-! ### strconv.Itoa: function 45 -/
noncomputable def ZcK.out (r_ : ByteArray) : Value := .string r_
noncomputable def ZcK (a0 : Int) : M ByteArray :=
 Zed a0 >>= fun r1 =>
 pure r1
theorem ZeR (a0 : Int) : Ref Tryz.prog 45 [.int .i64 a0] (ZcK a0) ZcK.out := by
 refine J.Fn Tryz.func45 ?_
 unfold ZcK
 exact SJ.sr 1 <| J.z 1 <| SJ.sr 3 <| J.C 1 F70 (ZjG _) fun r1 => J.z 1 <| J.r

/-! ### weir/rules.protoName: function 71 -/
noncomputable def Zdk.out (r_ : ByteArray) : Value := .string r_
noncomputable def Zdk (a0 : Int) : M ByteArray :=
 if a0 = 6 then
  pure str2
 else
  if a0 = 17 then
   pure str3
  else
   if a0 = 1 then
    pure str4
   else
    if a0 = 58 then
     pure str5
    else
     pure ByteArray.empty
theorem Zh1 (a0 : Int) : Ref Tryz.prog 71 [.int .i64 a0] (Zdk a0) Zdk.out := by
 refine J.Fn Tryz.func71 ?_
 unfold Zdk
 refine SJ.sr 1 <| J.z 1 <| SJ.seq <| SJ.sr 1 <| J.z 1 <| SJ.block (id := 0) <| SJ.sr 2 <| J.z 2 <| J.f ?_ ?_
 ·exact SJ.sr 1 <| J.z 1 <| J.r
 refine SJ.sr 2 <| J.z 2 <| J.f ?_ ?_
 ·exact SJ.sr 1 <| J.z 1 <| J.r
 refine SJ.sr 2 <| J.z 2 <| J.f ?_ ?_
 ·exact SJ.sr 1 <| J.z 1 <| J.r
 refine SJ.sr 2 <| J.z 2 <| J.f ?_ ?_
 ·exact SJ.sr 1 <| J.z 1 <| J.r
 exact SJ.skip <| SJ.inBlock <| SJ.sr 1 <| J.z 1 <| J.r

/-! ### weir/rules.what: function 46 -/
noncomputable def ZeC.out (r_ : ByteArray) : Value := .string r_
noncomputable def ZeC (a0 : Zah) : M ByteArray :=
 slot 63 >>= fun b1 =>
 if a0.Kind > 0 then
  fail
 else
  Zdk a0.Proto >>= fun r2 =>
  if ¬ (r2.toList = ByteArray.empty.toList) then
   chk (((Zf1.size + r2.size : Nat) : Int) ≤ 9223372036854775807) >>= fun _ =>
   chk (((ByteArray.empty.size + (Zf1 ++ r2).size : Nat) : Int) ≤ 9223372036854775807) >>= fun _ =>
   pure (ByteArray.empty ++ (Zf1 ++ r2))
  else
   fail
theorem Zln (a0 : Zah) : Ref Tryz.prog 46 [Zan.val a0] (ZeC a0) ZeC.out := by
 refine J.Fn Tryz.func46 ?_
 unfold ZeC
 refine SJ.sr 2 <| J.b 0 Zan a0 fun b1 => J.z 1 <| SJ.sr 1 <| J.z 1 <| SJ.seq <| SJ.sr 3 <| J.k 1 0 rfl Ty3 (ZbU _) <| J.z 1 <| J.f ?_ ?_
 ·exact SJ.fail
 refine SJ.skip <| SJ.sr 4 <| J.k 1 0 rfl Ty3 (Zbu _) <| J.C 0 F71 (Zh1 _) fun r2 => J.z 1 <| SJ.seq <| SJ.block (id := 0) <| SJ.sr 3 <| J.z 3 <| J.f ?_ ?_
 ·exact SJ.rg 5 <| J.T 2 <| J.T 0 <| J.z 1 <| SJ.inBlock <| SJ.sr 2 <| J.z 2 <| J.r
 exact SJ.fail

/-! ### weir/addr.Valid: function 80 -/
noncomputable def Zeg.out (r_ : Bool) : Value := .bool r_
noncomputable def Zeg (a0 : Zbn) : M Bool :=
 slot 28 >>= fun b1 =>
 Zet a0 >>= fun r2 =>
 pure (decide (r2 > 0))
theorem Zil (a0 : Zbn) : Ref Tryz.prog 80 [ZaV.val a0] (Zeg a0) Zeg.out := by
 refine J.Fn Tryz.func80 ?_
 unfold Zeg
 exact SJ.sr 2 <| J.b 0 ZaV a0 fun b1 => J.z 1 <| SJ.sr 4 <| J.k 0 0 rfl Ty28 (At.whole _) <| J.C 0 F77 (ZgW _) fun r2 => J.z 2 <| J.r

/-! ### (*strings.Builder).copyCheck: function 90 -/
noncomputable def Zbp.out (r_ : Unit) : Value := .tuple #[]
noncomputable def Zbp (a0 : (Option Addr)) : M Unit :=
 nilck a0 >>= fun p1 =>
 ld cP p1 >>= fun x2 =>
 if x2 = none then
  upOf a0 >>= fun r11 =>
  noesc r11 >>= fun r12 =>
  ptOf 157 2 r12 >>= fun r13 =>
  nilck a0 >>= fun p14 =>
  st cP p14 r13 >>= fun _ =>
  pure ()
 else
  nilck a0 >>= fun p15 =>
  ld cP p15 >>= fun x16 =>
  ptrEq x16 a0 >>= fun y17 =>
  if ¬ (y17 = true) then
   fail
  else
   pure ()
theorem ZdN (a0 : (Option Addr)) : Ref Tryz.prog 90 [.pointer a0] (Zbp a0) Zbp.out := by
 refine J.Fn Tryz.func90 ?_
 unfold Zbp
 refine SJ.sr 5 <| J.n 1 fun p1 => J.l 1 Zr6 fun x2 => J.z 1 <| J.f ?_ ?_
 ·exact SJ.rg 8 <| J.g 2 <| OJ.upOf (d := 9) (t := 155) (u := 198) (E := 157) (x := .tmp 8) (p := a0) (owed := []) fun r11 => OW.nil <| OJ.ext (d := 10) (g := 101) (ats := #[198]) (args := [.tmp 9]) (out := fun r => .pointer r) (owed := []) Tryz.func101 Zpo fun r12 => OW.nil <| OJ.ptOf (d := 11) (t := 155) (u := 198) (E := 157) (T := 157) (n := 2) (x := .tmp 10) (p := r12) (owed := []) (by kernel_rfl) fun r13 => OW.nil <| J.n 0 fun p14 => J.w 1 Zr6 <| J.z 0 <| SJ.end_ rfl (Res.run (ys := []) .nil rfl)
 refine SJ.sr 6 <| J.n 1 fun p15 => J.l 1 Zr6 fun x16 => J.g 1 <| OJ.pneq (d := 19) (T := 155) (E := 157) (yT := 155) (y := .tmp 17) (z := .tmp 18) (p := x16) (q := a0) fun y17 => J.z 0 <| J.f ?_ ?_
 ·exact SJ.fail
 exact SJ.skip <| SJ.end_ rfl (Res.run (ys := []) .nil rfl)

/-! ### (*strings.Builder).grow: function 91 -/
noncomputable def Zco.out (r_ : Unit) : Value := .tuple #[]
noncomputable def Zco (a0 : (Option Addr)) (a1 : Int) : M Unit :=
 draw >>= fun _ =>
 nilck a0 >>= fun p1 =>
 ld cL (Addr.add p1 1) >>= fun x2 =>
 nilck a0 >>= fun p3 =>
 ld cL (Addr.add p3 1) >>= fun x4 =>
 mkNZ 5 (IntKind.wrap .i64 ((IntKind.wrap .i64 (2 * (x2.cap : Int))) + a1)) >>= fun r5 =>
 same cL (Addr.add p3 1) x4 >>= fun _ =>
 cut 1 r5 none (some (x4.len : Int)) none >>= fun r6 =>
 nilck a0 >>= fun p7 =>
 ld cL (Addr.add p7 1) >>= fun x8 =>
 cpyS (cI .u8) r6 x8 >>= fun r9 =>
 nilck a0 >>= fun p10 =>
 st cL (Addr.add p10 1) r6 >>= fun _ =>
 pure ()
theorem ZfZ (a0 : (Option Addr)) (a1 : Int) : Ref Tryz.prog 91 [.pointer a0, .int .i64 a1] (Zco a0 a1) Zco.out := by
 refine J.Fn Tryz.func91 ?_
 unfold Zco
 exact SJ.seq <| J.D [0, 1, 2, 3, 4, 5, 6, 7, 9, 10, 11, 12, 8, 13, 14, 15] ZcZ <| J.n 1 fun p1 => J.l 1 Ty32 fun x2 => OJ.capS (d := 9) (so := .tmp 8) (t := 32) (E := 5) (s := x2) <| J.n 4 fun p3 => J.l 1 Ty32 fun x4 => OJ.ext (d := 13) (g := 102) (ats := #[3]) (args := [.tmp 12]) (out := Sl.v) (owed := [⟨12, 32, (Addr.add p3 1), cL.val x4⟩]) Tryz.func102 (ZqO (t := 32) (E := 5) (ps := #[3]) (by kernel_rfl)) fun r5 => OW.same Ty32 <| OW.nil <| J.cs 1 fun r6 => J.z 1 <| SJ.sr 6 <| J.n 2 fun p7 => J.l 1 Ty32 fun x8 => OJ.cpy1 (n := 25) (t := 32) (u := 32) (so := .tmp 20) (xo := .tmp 24) (owed := []) Ty5 fun r9 => OW.nil <| J.z 0 <| SJ.rg 5 <| J.n 2 fun p10 => J.w 1 Ty32 <| J.z 0 <| SJ.end_ rfl (Res.run (ys := []) .nil rfl)

/-! ### (*strings.Builder).Grow: function 74 -/
noncomputable def Zb1.out (r_ : Unit) : Value := .tuple #[]
noncomputable def Zb1 (a0 : (Option Addr)) (a1 : Int) : M Unit :=
 Zbp a0 >>= fun r1 =>
 if a1 < 0 then
  fail
 else
  draw >>= fun _ =>
  nilck a0 >>= fun p2 =>
  ld cL (Addr.add p2 1) >>= fun x3 =>
  nilck a0 >>= fun p4 =>
  ld cL (Addr.add p4 1) >>= fun x5 =>
  if (IntKind.wrap .i64 ((x3.cap : Int) - (x5.len : Int))) < a1 then
   Zco a0 a1 >>= fun r7 =>
   pure ()
  else
   pure ()
theorem Zf0 (a0 : (Option Addr)) (a1 : Int) : Ref Tryz.prog 74 [.pointer a0, .int .i64 a1] (Zb1 a0 a1) Zb1.out := by
 refine J.Fn Tryz.func74 ?_
 unfold Zb1
 refine SJ.sr 2 <| J.C 1 F90 (ZdN _) fun r1 => J.z 0 <| SJ.seq <| SJ.sr 2 <| J.z 2 <| J.f ?_ ?_
 ·exact SJ.rg 2 <| J.g 1 <| OJ.fail
 refine SJ.skip <| SJ.seq <| J.R 13 ZcZ <| J.n 1 fun p2 => J.l 1 Ty32 fun x3 => OJ.capS (d := 13) (so := .tmp 12) (t := 32) (E := 5) (s := x3) <| J.n 1 fun p4 => J.l 1 Ty32 fun x5 => J.z 4 <| J.f ?_ ?_
 ·exact SJ.rg 3 <| J.C 2 F91 (ZfZ _ _) fun r7 => J.z 0 <| SJ.end_ rfl (Res.run (ys := []) .nil rfl)
 exact SJ.skip <| SJ.end_ rfl (Res.run (ys := []) .nil rfl)

/-! ### (*strings.Builder).WriteString: function 75 -/
noncomputable def Zba.out (r_ : (Int × Any)) : Value := .tuple #[.int .i64 r_.1, r_.2.v]
noncomputable def Zba (a0 : (Option Addr)) (a1 : ByteArray) : M (Int × Any) :=
 Zbp a0 >>= fun r1 =>
 nilck a0 >>= fun p2 =>
 ld cL (Addr.add p2 1) >>= fun x3 =>
 appl (cI .u8) 5 1 0 x3 (strI a1) >>= fun r4 =>
 nilck a0 >>= fun p5 =>
 st cL (Addr.add p5 1) r4 >>= fun _ =>
 pure ((a1.size : Int), (⟨.nilIface, rfl⟩ : Any))
theorem Zcx (a0 : (Option Addr)) (a1 : ByteArray) : Ref Tryz.prog 75 [.pointer a0, .string a1] (Zba a0 a1) Zba.out := by
 refine J.Fn Tryz.func75 ?_
 unfold Zba
 exact SJ.sr 2 <| J.z 2 <| SJ.sr 2 <| J.C 1 F90 (ZdN _) fun r1 => J.z 0 <| SJ.sr 10 <| J.n 2 fun p2 => J.l 1 Ty32 fun x3 => J.g 1 <| OJ.appT (d := 14) (t := 32) (u := 9) (so := .tmp 12) (xo := .tmp 13) (y := a1) (owed := []) Ty5 fun r4 => OW.nil <| J.n 0 fun p5 => J.w 1 Ty32 <| J.z 0 <| SJ.sr 4 <| J.z 4 <| J.r

/-! ### (*strings.Builder).String: function 76 -/
noncomputable def ZbO.out (r_ : ByteArray) : Value := .string r_
noncomputable def ZbO (a0 : (Option Addr)) : M ByteArray :=
 draw >>= fun _ =>
 nilck a0 >>= fun p1 =>
 ld cL (Addr.add p1 1) >>= fun x2 =>
 nilck a0 >>= fun p3 =>
 ld cL (Addr.add p3 1) >>= fun x4 =>
 sdata x2 >>= fun r5 =>
 same cL (Addr.add p3 1) x4 >>= fun _ =>
 ustr 5 r5 (x4.len : Int) >>= fun r6 =>
 pure r6
theorem ZfB (a0 : (Option Addr)) : Ref Tryz.prog 76 [.pointer a0] (ZbO a0) ZbO.out := by
 refine J.Fn Tryz.func76 ?_
 unfold ZbO
 exact SJ.sr 1 <| J.z 1 <| SJ.seq <| J.D [0, 1, 2, 3, 5, 6, 7, 8, 4, 9, 10, 11] ZcZ <| J.n 1 fun p1 => J.l 1 Ty32 fun x2 => J.n 1 fun p3 => J.l 1 Ty32 fun x4 => OJ.sdata (d := 7) (t := 32) (x := .tmp 6) (s := x2) (owed := [⟨8, 32, (Addr.add p3 1), cL.val x4⟩]) fun r5 => OW.same Ty32 <| OW.nil <| J.g 1 <| OJ.ustr (d := 13) (t := 183) (t2 := 3) (E := 5) (x := .tmp 7) (y := .tmp 12) (p := r5) (n := (x4.len : Int)) (owed := []) fun r6 => OW.nil <| J.z 1 <| J.r

/-! ### strings.Join: function 48 -/
noncomputable def Zaq.B : Code := bod Tryz.f48
noncomputable def Zaq.cx : Fx := ⟨Tryz.prog, 48, Tryz.f48, none⟩
noncomputable def Zaq.out (r_ : ByteArray) : Value := .string r_
noncomputable def Zaq.F1 (a1 : ByteArray) (b19 : Nat) (r24 : Sl) : LF Int ByteArray := ⟨[.inBlock 3, .code (c2 (c2 (c2 (c2 (c2 (c2 (c2 (c2 (c2 Zaq.B)))))))))], c1 (c2 (c1 (c2 (c2 (c2 (c2 (c2 (c2 (c2 (c2 Zaq.B)))))))))), fun s_ => [(1, .string a1), (8, .pointer (some (pt b19 0))), (63, Sl.v r24), (64, .int .i64 (r24.len : Int)), (65, .int .i64 s_)], fun s_ => [], (rt Zaq.out)⟩
noncomputable def Zaq.L1 (a1 : ByteArray) (b19 : Nat) (r24 : Sl) (s25 : Int) : M (LS Int ByteArray) :=
 if s25 < (r24.len : Int) then
  idx r24.a r24.len s25 1 >>= fun p32 =>
  ld cS p32 >>= fun x33 =>
  Zba (some (pt b19 0)) a1 >>= fun r34 =>
  Zba (some (pt b19 0)) x33 >>= fun r35 =>
  pure (LS.next (IntKind.wrap .i64 (s25 + 1)))
 else
  ZbO (some (pt b19 0)) >>= fun r36 =>
  pure (LS.done r36)
theorem Zaq.L1_ok (a1 : ByteArray) (b19 : Nat) (r24 : Sl) : LJ Zaq.cx (Zaq.F1 a1 b19 r24) (fun s_ => Zaq.L1 a1 b19 r24 s_) := by
 rintro s25
 show SJ _ _ _ _ (Zaq.L1 a1 b19 r24 s25) _
 unfold Zaq.L1
 refine SJ.sr 1 <| J.z 1 <| SJ.seq <| J.f ?_ ?_
 ·exact SJ.skip <| SJ.seq <| SJ.block (id := 4) <| SJ.sr 3 <| J.i 0 fun p32 => J.l 0 Ty9 fun x33 => J.z 1 <| SJ.sr 2 <| J.C 1 F75 (Zcx _ _) fun r34 => J.z 0 <| SJ.rg 2 <| J.C 1 F75 (Zcx _ _) fun r35 => J.z 0 <| SJ.inBlock <| SJ.rg 2 <| J.z 2 <| J.o rfl
 exact SJ.exit (id := 3) (by rfl) <| SJ.sr 2 <| J.C 0 F76 (ZfB _) fun r36 => J.z 1 <| J.r
noncomputable def Zaq.K1 (a0 : Sl) (a1 : ByteArray) (s13 : Int) : M ByteArray :=
 newv 157 ZbY ZdV >>= fun b19 =>
 Zb1 (some (pt b19 0)) s13 >>= fun r20 =>
 idx a0.a a0.len 0 1 >>= fun p21 =>
 ld cS p21 >>= fun x22 =>
 Zba (some (pt b19 0)) x22 >>= fun r23 =>
 cut 1 a0 (some 1) none none >>= fun r24 =>
 Zc7 (fun s_ : Int => Zaq.L1 a1 b19 r24 s_) 0
theorem Zaq.K1_ok (a0 : Sl) (a1 : ByteArray) (s13 : Int) :
  SJ Zaq.cx [.code (c2 (c2 (c2 (c2 (c2 Zaq.B)))))] [(0, Sl.v a0), (1, .string a1), (5, .int .i64 s13)] [] (Zaq.K1 a0 a1 s13) (rt Zaq.out) := by
 unfold Zaq.K1
 exact SJ.sr 1 <| J.A 0 Zs7 fun b19 => J.z 0 <| SJ.sr 2 <| J.C 1 F74 (Zf0 _ _) fun r20 => J.z 0 <| SJ.sr 4 <| J.i 1 fun p21 => J.l 0 Ty9 fun x22 => J.C 0 F75 (Zcx _ _) fun r23 => J.z 0 <| SJ.seq <| SJ.sr 4 <| J.cs 1 fun r24 => J.z 2 <| SJ.block (id := 3) <| J.L (Zaq.L1_ok a1 b19 r24)
noncomputable def Zaq.F2 (a0 : Sl) (a1 : ByteArray) : LF (Int × Int) ByteArray := ⟨[.inBlock 1, .code (c2 (c2 (c2 (c2 (c2 Zaq.B)))))], c1 (c2 (c1 (c2 (c2 (c2 (c2 Zaq.B)))))), fun s_ => [(0, Sl.v a0), (1, .string a1), (5, .int .i64 s_.1), (39, Sl.v a0), (40, .int .i64 (a0.len : Int)), (41, .int .i64 s_.2)], fun s_ => [], (rt Zaq.out)⟩
noncomputable def Zaq.L2 (a0 : Sl) (a1 : ByteArray) (s13 : Int) (s14 : Int) : M (LS (Int × Int) ByteArray) :=
 if s14 < (a0.len : Int) then
  idx a0.a a0.len s14 1 >>= fun p38 =>
  ld cS p38 >>= fun x39 =>
  if (x39.size : Int) > (IntKind.wrap .i64 (9223372036854775807 - s13)) then
   fail
  else
   pure (LS.next (IntKind.wrap .i64 (s13 + (x39.size : Int)), IntKind.wrap .i64 (s14 + 1)))
 else
  (Zaq.K1 a0 a1 s13) >>= fun b => pure (LS.done b)
theorem Zaq.L2_ok (a0 : Sl) (a1 : ByteArray) : LJ Zaq.cx (Zaq.F2 a0 a1) (fun s_ => Zaq.L2 a0 a1 s_.1 s_.2) := by
 rintro ⟨s13, s14⟩
 show SJ _ _ _ _ (Zaq.L2 a0 a1 s13 s14) _
 unfold Zaq.L2
 refine SJ.sr 1 <| J.z 1 <| SJ.seq <| J.f ?_ ?_
 ·refine SJ.skip <| SJ.seq <| SJ.block (id := 2) <| SJ.sr 3 <| J.i 0 fun p38 => J.l 0 Ty9 fun x39 => J.z 1 <| SJ.seq <| SJ.sr 5 <| J.z 5 <| J.f ?_ ?_
  ·exact SJ.rg 2 <| J.g 1 <| OJ.fail
  exact SJ.skip <| SJ.rg 5 <| J.z 5 <| SJ.inBlock <| SJ.rg 2 <| J.z 2 <| J.o rfl
 exact SJ.exit (id := 1) (by rfl) <| J.q <| SJ.done <| Zaq.K1_ok a0 a1 s13
noncomputable def Zaq.K2 (a0 : Sl) (a1 : ByteArray) (j12 : Int) : M ByteArray :=
 Zc7 (fun s_ : (Int × Int) => Zaq.L2 a0 a1 s_.1 s_.2) (j12, 0)
theorem Zaq.K2_ok (a0 : Sl) (a1 : ByteArray) (j12 : Int) :
  SJ Zaq.cx [.code (c2 (c2 (c2 (c2 Zaq.B))))] [(0, Sl.v a0), (1, .string a1), (5, .int .i64 j12)] [] (Zaq.K2 a0 a1 j12) (rt Zaq.out) := by
 unfold Zaq.K2
 exact SJ.seq <| SJ.sr 3 <| J.z 3 <| SJ.block (id := 1) <| J.L (Zaq.L2_ok a0 a1)
noncomputable def Zaq (a0 : Sl) (a1 : ByteArray) : M ByteArray :=
 if (a0.len : Int) = 0 then
  pure ByteArray.empty
 else
  if (a0.len : Int) = 1 then
   idx a0.a a0.len 0 1 >>= fun p8 =>
   ld cS p8 >>= fun x9 =>
   pure x9
  else
   if (a1.size : Int) > 0 then
    chk ((IntKind.wrap .i64 ((a0.len : Int) - 1)) ≠ 0) >>= fun _ =>
    if (a1.size : Int) ≥ (IntKind.wrap .i64 (Int.tdiv 9223372036854775807 (IntKind.wrap .i64 ((a0.len : Int) - 1)))) then
     fail
    else
     Zaq.K2 a0 a1 (IntKind.wrap .i64 (0 + (IntKind.wrap .i64 ((a1.size : Int) * (IntKind.wrap .i64 ((a0.len : Int) - 1))))))
   else
    Zaq.K2 a0 a1 0
theorem Ze7 (a0 : Sl) (a1 : ByteArray) : Ref Tryz.prog 48 [Sl.v a0, .string a1] (Zaq a0 a1) Zaq.out := by
 refine J.Fn Tryz.func48 ?_
 unfold Zaq
 refine SJ.sr 1 <| J.z 1 <| SJ.seq <| SJ.sr 2 <| J.z 2 <| SJ.block (id := 0) <| SJ.sr 2 <| J.z 2 <| J.f ?_ ?_
 ·exact SJ.sr 1 <| J.z 1 <| J.r
 refine SJ.sr 2 <| J.z 2 <| J.f ?_ ?_
 ·exact SJ.sr 4 <| J.i 1 fun p8 => J.l 0 Ty9 fun x9 => J.z 1 <| J.r
 refine SJ.skip <| SJ.inBlock <| SJ.sr 1 <| J.z 1 <| SJ.seq <| SJ.sr 3 <| J.z 3 <| J.f ?_ ?_
 ·refine SJ.seq <| SJ.sr 7 <| J.g 5 <| OJ.quo (d := 28) (T := 3) (yT := 3) (y := .const (.int .i64 9223372036854775807)) (z := .tmp 27) (p := 9223372036854775807) (q := (IntKind.wrap .i64 ((a0.len : Int) - 1))) (k := .i64) fun hq43 => J.z 1 <| J.f ?_ ?_
  ·exact SJ.rg 2 <| J.g 1 <| OJ.fail
  exact SJ.skip <| SJ.rg 9 <| J.z 9 <| J.q <| Zaq.K2_ok a0 a1 (IntKind.wrap .i64 (0 + (IntKind.wrap .i64 ((a1.size : Int) * (IntKind.wrap .i64 ((a0.len : Int) - 1))))))
 exact SJ.skip <| J.q <| Zaq.K2_ok a0 a1 0

/-! ### weir/addr.dotted: function 87 -/
noncomputable def Zbo.B : Code := bod Tryz.f87
noncomputable def Zbo.cx : Fx := ⟨Tryz.prog, 87, Tryz.f87, none⟩
noncomputable def Zbo.out (r_ : ByteArray) : Value := .string r_
noncomputable def Zbo.F1 (a0 : Sl) : LF (Sl × Int) ByteArray := ⟨[.inBlock 0, .code (c2 (c2 (c2 Zbo.B)))], c1 (c2 (c1 (c2 (c2 Zbo.B)))), fun s_ => [(3, Sl.v s_.1), (6, Sl.v a0), (7, .int .i64 (a0.len : Int)), (8, .int .i64 s_.2)], fun s_ => [], (rt Zbo.out)⟩
noncomputable def Zbo.L1 (a0 : Sl) (s1 : Sl) (s2 : Int) : M (LS (Sl × Int) ByteArray) :=
 if s2 < (a0.len : Int) then
  idx a0.a a0.len s2 1 >>= fun p10 =>
  ld (cI .u8) p10 >>= fun x11 =>
  ZcK (IntKind.wrap .i64 x11) >>= fun r12 =>
  slot 9 >>= fun b13 =>
  appl cS 9 16 ByteArray.empty s1 [r12] >>= fun r14 =>
  pure (LS.next (r14, IntKind.wrap .i64 (s2 + 1)))
 else
  Zaq s1 Zsg >>= fun r15 =>
  pure (LS.done r15)
theorem Zbo.L1_ok (a0 : Sl) : LJ Zbo.cx (Zbo.F1 a0) (fun s_ => Zbo.L1 a0 s_.1 s_.2) := by
 rintro ⟨s1, s2⟩
 show SJ _ _ _ _ (Zbo.L1 a0 s1 s2) _
 unfold Zbo.L1
 refine SJ.sr 1 <| J.z 1 <| SJ.seq <| J.f ?_ ?_
 ·exact SJ.skip <| SJ.seq <| SJ.block (id := 1) <| SJ.sr 3 <| J.i 0 fun p10 => J.l 0 Ty5 fun x11 => J.z 1 <| SJ.rg 7 <| J.C 3 F45 (ZeR _) fun r12 => J.S 0 [r12] Ty9 fun b13 => J.p 0 0 rfl Ty9 fun r14 => J.z 1 <| SJ.inBlock <| SJ.rg 2 <| J.z 2 <| SJ.forget (List.Sublist.cons _ List.Sublist.slnil) <| J.o rfl
 exact SJ.exit (id := 0) (by rfl) <| SJ.sr 3 <| J.C 1 F48 (Ze7 _ _) fun r15 => J.z 1 <| J.r
noncomputable def Zbo (a0 : Sl) : M ByteArray :=
 Zc7 (fun s_ : (Sl × Int) => Zbo.L1 a0 s_.1 s_.2) (Sl.nil, 0)
theorem Zky (a0 : Sl) : Ref Tryz.prog 87 [Sl.v a0] (Zbo a0) Zbo.out := by
 refine J.Fn Tryz.func87 ?_
 unfold Zbo
 exact SJ.sr 1 <| J.z 1 <| SJ.sr 1 <| J.z 1 <| SJ.seq <| SJ.sr 3 <| J.z 3 <| SJ.block (id := 0) <| J.L (Zbo.L1_ok a0)

/-! ### weir/addr.PrintIP: function 73 -/
noncomputable def ZdU.out (r_ : (ByteArray × Int)) : Value := .tuple #[.string r_.1, .int .i64 r_.2]
noncomputable def ZdU (a0 : Zbn) : M (ByteArray × Int) :=
 newv 28 ZaV a0 >>= fun b1 =>
 ld ZaV (pt b1 0) >>= fun x2 =>
 Zeg x2 >>= fun r3 =>
 if ¬ (r3 = true) then
  fail
 else
  ld (cI .i64) (pt b1 0) >>= fun x10 =>
  if x10 = 4 then
   cut 1 ⟨some (Addr.add (pt b1 0) 1), 16, 16⟩ none (some 4) none >>= fun r13 =>
   Zbo r13 >>= fun r14 =>
   pure (r14, 0)
  else
   fail
theorem Zkh (a0 : Zbn) : Ref Tryz.prog 73 [ZaV.val a0] (ZdU a0) ZdU.out := by
 refine J.Fn Tryz.func73 ?_
 unfold ZdU
 refine SJ.sr 3 <| J.B 0 fun b1 => J.z 2 <| SJ.seq <| SJ.block (id := 0) <| SJ.sr 4 <| J.l 0 Ty28 fun x2 => J.C 0 F80 (Zil _) fun r3 => J.z 2 <| J.f ?_ ?_
 ·exact SJ.fail
 refine SJ.sr 4 <| J.l 1 Ty3 fun x10 => J.z 2 <| J.f ?_ ?_
 ·exact SJ.sr 5 <| J.ca 1 fun r13 => J.C 0 F87 (Zky _) fun r14 => J.z 2 <| J.r
 exact SJ.fail

/-! ### weir/addr.PrintPrefix: function 72 -/
noncomputable def ZcG.out (r_ : (ByteArray × Int)) : Value := .tuple #[.string r_.1, .int .i64 r_.2]
noncomputable def ZcG (a0 : Zac) : M (ByteArray × Int) :=
 slot 91 >>= fun b1 =>
 ZbT a0 >>= fun r2 =>
 if r2 ≠ 0 then
  fail
 else
  ZdU a0.IP >>= fun r3 =>
  chk (((r3.1.size + Zob.size : Nat) : Int) ≤ 9223372036854775807) >>= fun _ =>
  ZcK a0.Len >>= fun r4 =>
  chk ((((r3.1 ++ Zob).size + r4.size : Nat) : Int) ≤ 9223372036854775807) >>= fun _ =>
  pure (((r3.1 ++ Zob) ++ r4), 0)
theorem ZhR (a0 : Zac) : Ref Tryz.prog 72 [Zay.val a0] (ZcG a0) ZcG.out := by
 refine J.Fn Tryz.func72 ?_
 unfold ZcG
 refine SJ.sr 3 <| J.b 0 Zay a0 fun b1 => J.z 2 <| SJ.seq <| SJ.sr 3 <| J.k 0 0 rfl Ty91 (At.whole _) <| J.C 0 F50 (ZdC _) fun r2 => J.z 1 <| SJ.sr 2 <| J.z 2 <| J.f ?_ ?_
 ·exact SJ.fail
 exact SJ.skip <| SJ.sr 8 <| J.k 1 0 rfl Ty28 (ZbC _) <| J.C 0 F73 (Zkh _) fun r3 => J.z 5 <| SJ.sr 8 <| J.T 1 <| J.k 1 0 rfl Ty3 (Zb0 _) <| J.C 0 F45 (ZeR _) fun r4 => J.T 0 <| J.z 2 <| J.r

/-! ### weir/rules.side: function 47 -/
noncomputable def Zat.B : Code := bod Tryz.f47
noncomputable def Zat.cx : Fx := ⟨Tryz.prog, 47, Tryz.f47, none⟩
noncomputable def Zat.out (r_ : ByteArray) : Value := .string r_
noncomputable def Zat.K1 (s14 : Sl) (j27 : ByteArray) : M ByteArray :=
 if (s14.len : Int) > 0 then
  Zaq s14 str1 >>= fun r29 =>
  chk (((Zqu.size + r29.size : Nat) : Int) ≤ 9223372036854775807) >>= fun _ =>
  chk (((j27.size + (Zqu ++ r29).size : Nat) : Int) ≤ 9223372036854775807) >>= fun _ =>
  pure (j27 ++ (Zqu ++ r29))
 else
  pure j27
theorem Zat.K1_ok (s14 : Sl) (j27 : ByteArray) :
  SJ Zat.cx [.inBlock 4, .code (c2 (c2 (c2 (c2 (c2 (c2 (c2 Zat.B)))))))] [(6, Sl.v s14), (14, .string j27)] [] (Zat.K1 s14 j27) (rt Zat.out) := by
 unfold Zat.K1
 refine SJ.inBlock <| SJ.seq <| SJ.sr 3 <| J.z 3 <| J.f ?_ ?_
 ·exact SJ.rg 6 <| J.C 2 F48 (Ze7 _ _) fun r29 => J.T 0 <| J.T 0 <| J.z 1 <| SJ.sr 2 <| J.z 2 <| J.r
 exact SJ.skip <| SJ.sr 2 <| J.z 2 <| J.r
noncomputable def Zat.K2 (a0 : ByteArray) (a1 : Zae) (s2 : Sl) (s14 : Sl) : M ByteArray :=
 chk (((Zf1.size + a0.size : Nat) : Int) ≤ 9223372036854775807) >>= fun _ =>
 chk ((((Zf1 ++ a0).size + Zf1.size : Nat) : Int) ≤ 9223372036854775807) >>= fun _ =>
 if (s2.len : Int) = 0 then
  chk (((((Zf1 ++ a0) ++ Zf1).size + str8.size : Nat) : Int) ≤ 9223372036854775807) >>= fun _ =>
  Zat.K1 s14 (((Zf1 ++ a0) ++ Zf1) ++ str8)
 else
  if a1.Not = true then
   fail
  else
   Zaq s2 str1 >>= fun r32 =>
   chk (((((Zf1 ++ a0) ++ Zf1).size + r32.size : Nat) : Int) ≤ 9223372036854775807) >>= fun _ =>
   Zat.K1 s14 (((Zf1 ++ a0) ++ Zf1) ++ r32)
theorem Zat.K2_ok (a0 : ByteArray) (a1 : Zae) (b1 : Nat) (s2 : Sl) (s14 : Sl) :
  SJ Zat.cx [.code (c2 (c2 (c2 (c2 (c2 Zat.B)))))] [(0, .string a0), (3, .pointer (some (pt b1 0))), (5, Sl.v s2), (6, Sl.v s14)] [(b1, ZaE.enc a1)] (Zat.K2 a0 a1 s2 s14) (rt Zat.out) := by
 unfold Zat.K2
 refine SJ.sr 4 <| J.T 1 <| J.T 0 <| J.z 1 <| SJ.seq <| SJ.block (id := 4) <| SJ.sr 4 <| J.z 4 <| J.f ?_ ?_
 ·exact SJ.rg 3 <| J.T 1 <| J.z 1 <| SJ.forget (List.Sublist.cons _ List.Sublist.slnil) <| J.q <| Zat.K1_ok s14 (((Zf1 ++ a0) ++ Zf1) ++ str8)
 refine SJ.sr 3 <| J.k 1 0 rfl Ty4 (ZaJ _) <| J.z 1 <| J.f ?_ ?_
 ·exact SJ.fail
 exact SJ.rg 5 <| J.C 2 F48 (Ze7 _ _) fun r32 => J.T 0 <| J.z 1 <| SJ.forget (List.Sublist.cons _ List.Sublist.slnil) <| J.q <| Zat.K1_ok s14 (((Zf1 ++ a0) ++ Zf1) ++ r32)
noncomputable def Zat.F1 (a0 : ByteArray) (a1 : Zae) (b1 : Nat) (s2 : Sl) : LF (Sl × Int) ByteArray := ⟨[.inBlock 2, .code (c2 (c2 (c2 (c2 (c2 Zat.B)))))], c1 (c2 (c1 (c2 (c2 (c2 (c2 Zat.B)))))), fun s_ => [(0, .string a0), (3, .pointer (some (pt b1 0))), (5, Sl.v s2), (6, Sl.v s_.1), (61, Sl.v a1.Ports), (62, .int .i64 (a1.Ports.len : Int)), (63, .int .i64 s_.2)], fun s_ => [(b1, ZaE.enc a1)], (rt Zat.out)⟩
noncomputable def Zat.L1 (a0 : ByteArray) (a1 : Zae) (s2 : Sl) (s14 : Sl) (s15 : Int) : M (LS (Sl × Int) ByteArray) :=
 if s15 < (a1.Ports.len : Int) then
  idx a1.Ports.a a1.Ports.len s15 2 >>= fun p35 =>
  ld ZaU p35 >>= fun x36 =>
  slot 93 >>= fun b37 =>
  ZcK x36.Lo >>= fun r38 =>
  if x36.Hi ≠ x36.Lo then
   fail
  else
   slot 9 >>= fun b39 =>
   appl cS 9 16 ByteArray.empty s14 [r38] >>= fun r40 =>
   pure (LS.next (r40, IntKind.wrap .i64 (s15 + 1)))
 else
  (Zat.K2 a0 a1 s2 s14) >>= fun b => pure (LS.done b)
theorem Zat.L1_ok (a0 : ByteArray) (a1 : Zae) (b1 : Nat) (s2 : Sl) : LJ Zat.cx (Zat.F1 a0 a1 b1 s2) (fun s_ => Zat.L1 a0 a1 s2 s_.1 s_.2) := by
 rintro ⟨s14, s15⟩
 show SJ _ _ _ _ (Zat.L1 a0 a1 s2 s14 s15) _
 unfold Zat.L1
 refine SJ.sr 1 <| J.z 1 <| SJ.seq <| J.f ?_ ?_
 ·refine SJ.skip <| SJ.seq <| SJ.block (id := 3) <| SJ.sr 4 <| J.i 0 fun p35 => J.l 0 Ty93 fun x36 => J.a 0 Ty93 fun b37 => J.s 0 0 rfl Ty93 (Upd.w x36) <| J.z 0 <| SJ.sr 4 <| J.k 1 0 rfl Ty3 (ZcV _) <| J.C 0 F45 (ZeR _) fun r38 => J.z 1 <| SJ.seq <| SJ.sr 5 <| J.k 1 0 rfl Ty3 (Zdo _) <| J.k 1 0 rfl Ty3 (ZcV _) <| J.z 1 <| J.f ?_ ?_
  ·exact SJ.fail
  exact SJ.skip <| SJ.rg 5 <| J.S 2 [r38] Ty9 fun b39 => J.p 0 0 rfl Ty9 fun r40 => J.z 1 <| SJ.inBlock <| SJ.rg 2 <| J.z 2 <| SJ.forget (List.Sublist.cons _ (List.Sublist.cons _ (List.Sublist.cons_cons _ List.Sublist.slnil))) <| J.o rfl
 exact SJ.exit (id := 2) (by rfl) <| J.q <| SJ.done <| Zat.K2_ok a0 a1 b1 s2 s14
noncomputable def Zat.K3 (a0 : ByteArray) (a1 : Zae) (s2 : Sl) : M ByteArray :=
 Zc7 (fun s_ : (Sl × Int) => Zat.L1 a0 a1 s2 s_.1 s_.2) (Sl.nil, 0)
theorem Zat.K3_ok (a0 : ByteArray) (a1 : Zae) (b1 : Nat) (s2 : Sl) :
  SJ Zat.cx [.code (c2 (c2 (c2 (c2 Zat.B))))] [(0, .string a0), (3, .pointer (some (pt b1 0))), (5, Sl.v s2), (6, Sl.v Sl.nil)] [(b1, ZaE.enc a1)] (Zat.K3 a0 a1 s2) (rt Zat.out) := by
 unfold Zat.K3
 exact SJ.seq <| SJ.sr 4 <| J.k 1 0 rfl Ty59 (ZaR _) <| J.z 2 <| SJ.block (id := 2) <| J.L (Zat.L1_ok a0 a1 b1 s2)
noncomputable def Zat.F2 (a0 : ByteArray) (a1 : Zae) (b1 : Nat) : LF (Sl × Int) ByteArray := ⟨[.inBlock 0, .code (c2 (c2 (c2 (c2 Zat.B))))], c1 (c2 (c1 (c2 (c2 (c2 Zat.B))))), fun s_ => [(0, .string a0), (3, .pointer (some (pt b1 0))), (5, Sl.v s_.1), (6, Sl.v Sl.nil), (24, Sl.v a1.Nets), (25, .int .i64 (a1.Nets.len : Int)), (26, .int .i64 s_.2)], fun s_ => [(b1, ZaE.enc a1)], (rt Zat.out)⟩
noncomputable def Zat.L2 (a0 : ByteArray) (a1 : Zae) (s2 : Sl) (s3 : Int) : M (LS (Sl × Int) ByteArray) :=
 if s3 < (a1.Nets.len : Int) then
  idx a1.Nets.a a1.Nets.len s3 18 >>= fun p43 =>
  ld Zay p43 >>= fun x44 =>
  slot 91 >>= fun b45 =>
  ZcG x44 >>= fun r46 =>
  (if x44.Len = 32 then
    pure (x44.IP.V == 4)
   else
    pure false) >>= fun y47 =>
  (if y47 = true then
    pure true
   else
    pure (x44.Len == 128)) >>= fun y48 =>
  if y48 = true then
   fail
  else
   slot 9 >>= fun b49 =>
   appl cS 9 16 ByteArray.empty s2 [r46.1] >>= fun r50 =>
   pure (LS.next (r50, IntKind.wrap .i64 (s3 + 1)))
 else
  (Zat.K3 a0 a1 s2) >>= fun b => pure (LS.done b)
theorem Zat.L2_ok (a0 : ByteArray) (a1 : Zae) (b1 : Nat) : LJ Zat.cx (Zat.F2 a0 a1 b1) (fun s_ => Zat.L2 a0 a1 s_.1 s_.2) := by
 rintro ⟨s2, s3⟩
 show SJ _ _ _ _ (Zat.L2 a0 a1 s2 s3) _
 unfold Zat.L2
 refine SJ.sr 1 <| J.z 1 <| SJ.seq <| J.f ?_ ?_
 ·refine SJ.skip <| SJ.seq <| SJ.block (id := 1) <| SJ.sr 4 <| J.i 0 fun p43 => J.l 0 Ty91 fun x44 => J.a 0 Ty91 fun b45 => J.s 0 0 rfl Ty91 (Upd.w x44) <| J.z 0 <| SJ.sr 7 <| J.k 0 0 rfl Ty91 (At.whole _) <| J.C 0 F72 (ZhR _) fun r46 => J.z 5 <| SJ.seq <| SJ.sr 14 <| J.k 1 0 rfl Ty3 (Zb0 _) <| J.j 2 4 .bool ?_ ?_ fun y47 => ?_
  ·exact J.k 2 0 rfl Ty3 (At.trans (ZbC _) (Zde _)) <| J.e 2
  ·exact J.e 5
  refine J.j 1 3 .bool ?_ ?_ fun y48 => ?_
  ·exact J.e 4
  ·exact J.k 1 0 rfl Ty3 (Zb0 _) <| J.e 2
  refine J.z 0 <| J.f ?_ ?_
  ·exact SJ.fail
  exact SJ.skip <| SJ.rg 5 <| J.S 2 [r46.1] Ty9 fun b49 => J.p 0 0 rfl Ty9 fun r50 => J.z 1 <| SJ.inBlock <| SJ.rg 2 <| J.z 2 <| SJ.forget (List.Sublist.cons _ (List.Sublist.cons _ (List.Sublist.cons_cons _ List.Sublist.slnil))) <| J.o rfl
 exact SJ.exit (id := 0) (by rfl) <| J.q <| SJ.done <| Zat.K3_ok a0 a1 b1 s2
noncomputable def Zat (a0 : ByteArray) (a1 : Zae) : M ByteArray :=
 slot 61 >>= fun b1 =>
 if (IntKind.wrap .i64 ((a1.Nets.len : Int) + (a1.Ports.len : Int))) = 0 then
  fail
 else
  Zc7 (fun s_ : (Sl × Int) => Zat.L2 a0 a1 s_.1 s_.2) (Sl.nil, 0)
theorem Zh0 (a0 : ByteArray) (a1 : Zae) : Ref Tryz.prog 47 [.string a0, ZaE.val a1] (Zat a0 a1) Zat.out := by
 refine J.Fn Tryz.func47 ?_
 unfold Zat
 refine SJ.sr 2 <| J.b 0 ZaE a1 fun b1 => J.z 1 <| SJ.seq <| SJ.sr 8 <| J.k 1 0 rfl Ty58 (Zax _) <| J.k 2 0 rfl Ty59 (ZaR _) <| J.z 3 <| J.f ?_ ?_
 ·exact SJ.fail
 exact SJ.skip <| SJ.sr 2 <| J.z 2 <| SJ.seq <| SJ.sr 4 <| J.k 1 0 rfl Ty58 (Zax _) <| J.z 2 <| SJ.block (id := 0) <| J.L (Zat.L2_ok a0 a1 b1)

/-! ### weir/rules.write: function 29 -/
noncomputable def ZaX.B : Code := bod Tryz.f29
noncomputable def ZaX.cx : Fx := ⟨Tryz.prog, 29, Tryz.f29, none⟩
noncomputable def ZaX.out (r_ : ByteArray) : Value := .string r_
noncomputable def ZaX.K1 (a0 : Zah) (x4 : ByteArray) (r5 : ByteArray) (r6 : ByteArray) (r7 : ByteArray) (s9 : Sl) : M ByteArray :=
 if (s9.len : Int) > 0 then
  fail
 else
  if a0.Type_ > 0 then
   fail
  else
   if a0.Pieces = true then
    fail
   else
    pure ((x4 ++ r5) ++ (r6 ++ r7))
theorem ZaX.K1_ok (a0 : Zah) (b1 : Nat) (x4 : ByteArray) (r5 : ByteArray) (r6 : ByteArray) (r7 : ByteArray) (s9 : Sl) :
  SJ ZaX.cx [.code (c2 (c2 (c2 (c2 (c2 (c2 (c2 (c2 (c2 ZaX.B)))))))))] [(1, .pointer (some (pt b1 0))), (3, .string ((x4 ++ r5) ++ (r6 ++ r7))), (4, Sl.v s9)] [(b1, Zan.enc a0)] (ZaX.K1 a0 x4 r5 r6 r7 s9) (rt ZaX.out) := by
 unfold ZaX.K1
 refine SJ.seq <| SJ.sr 3 <| J.z 3 <| J.f ?_ ?_
 ·exact SJ.fail
 refine SJ.skip <| SJ.seq <| SJ.sr 3 <| J.k 1 0 rfl Ty3 (Zcu _) <| J.z 1 <| J.f ?_ ?_
 ·exact SJ.fail
 refine SJ.skip <| SJ.seq <| SJ.sr 2 <| J.k 1 0 rfl Ty4 (ZdQ _) <| J.z 0 <| J.f ?_ ?_
 ·exact SJ.fail
 exact SJ.skip <| SJ.sr 2 <| J.z 2 <| J.r
noncomputable def ZaX.F1 (a0 : Zah) (b1 : Nat) (x4 : ByteArray) (r5 : ByteArray) (r6 : ByteArray) (r7 : ByteArray) (x8 : Sl) : LF (Sl × Int) ByteArray := ⟨[.inBlock 0, .code (c2 (c2 (c2 (c2 (c2 (c2 (c2 (c2 (c2 ZaX.B)))))))))], c1 (c2 (c1 (c2 (c2 (c2 (c2 (c2 (c2 (c2 (c2 ZaX.B)))))))))), fun s_ => [(1, .pointer (some (pt b1 0))), (3, .string ((x4 ++ r5) ++ (r6 ++ r7))), (4, Sl.v s_.1), (54, Sl.v x8), (55, .int .i64 (x8.len : Int)), (56, .int .i64 s_.2)], fun s_ => [(b1, Zan.enc a0)], (rt ZaX.out)⟩
noncomputable def ZaX.L1 (a0 : Zah) (x4 : ByteArray) (r5 : ByteArray) (r6 : ByteArray) (r7 : ByteArray) (x8 : Sl) (s9 : Sl) (s10 : Int) : M (LS (Sl × Int) ByteArray) :=
 if s10 < (x8.len : Int) then
  idx x8.a x8.len s10 1 >>= fun p21 =>
  ld cS p21 >>= fun x22 =>
  chk (0 ≤ (IntKind.wrap .u64 s10)) >>= fun _ =>
  if (band .i64 (Int.fdiv a0.Set (2 ^ min (Int.toNat (IntKind.wrap .u64 s10)) 64)) 1) = 1 then
   fail
  else
   chk (0 ≤ (IntKind.wrap .u64 s10)) >>= fun _ =>
   if (band .i64 (Int.fdiv a0.Clear (2 ^ min (Int.toNat (IntKind.wrap .u64 s10)) 64)) 1) = 1 then
    fail
   else
    pure (LS.next (s9, IntKind.wrap .i64 (s10 + 1)))
 else
  (ZaX.K1 a0 x4 r5 r6 r7 s9) >>= fun b => pure (LS.done b)
theorem ZaX.L1_ok (a0 : Zah) (b1 : Nat) (x4 : ByteArray) (r5 : ByteArray) (r6 : ByteArray) (r7 : ByteArray) (x8 : Sl) : LJ ZaX.cx (ZaX.F1 a0 b1 x4 r5 r6 r7 x8) (fun s_ => ZaX.L1 a0 x4 r5 r6 r7 x8 s_.1 s_.2) := by
 rintro ⟨s9, s10⟩
 show SJ _ _ _ _ (ZaX.L1 a0 x4 r5 r6 r7 x8 s9 s10) _
 unfold ZaX.L1
 refine SJ.sr 1 <| J.z 1 <| SJ.seq <| J.f ?_ ?_
 ·refine SJ.skip <| SJ.seq <| SJ.block (id := 1) <| SJ.sr 5 <| J.i 1 fun p21 => J.l 0 Ty9 fun x22 => J.z 2 <| SJ.seq <| SJ.sr 7 <| J.k 1 0 rfl Ty3 (Zb7 _) <| J.g 2 <| OJ.shr (d := 65) (T := 3) (yT := 132) (y := .tmp 62) (z := .tmp 64) (k := .i64) (yk := .u64) (p := a0.Set) (q := (IntKind.wrap .u64 s10)) fun hq26 => J.z 2 <| J.f ?_ ?_
  ·exact SJ.fail
  refine SJ.skip <| SJ.sr 7 <| J.k 1 0 rfl Ty3 (ZbM _) <| J.g 2 <| OJ.shr (d := 76) (T := 3) (yT := 132) (y := .tmp 73) (z := .tmp 75) (k := .i64) (yk := .u64) (p := a0.Clear) (q := (IntKind.wrap .u64 s10)) fun hq24 => J.z 2 <| J.f ?_ ?_
  ·exact SJ.fail
  exact SJ.skip <| SJ.inBlock <| SJ.rg 2 <| J.z 2 <| J.o rfl
 exact SJ.exit (id := 0) (by rfl) <| J.q <| SJ.done <| ZaX.K1_ok a0 b1 x4 r5 r6 r7 s9
noncomputable def ZaX (a0 : Zah) : M ByteArray :=
 slot 63 >>= fun b1 =>
 ld cL ⟨0, 0, none⟩ >>= fun x2 =>
 idx x2.a x2.len (IntKind.wrap .i64 (a0.Act - 1)) 1 >>= fun p3 =>
 ld cS p3 >>= fun x4 =>
 if a0.Class > 0 then
  fail
 else
  ZeC a0 >>= fun r5 =>
  chk (((x4.size + r5.size : Nat) : Int) ≤ 9223372036854775807) >>= fun _ =>
  if a0.In > 0 then
   fail
  else
   if a0.Vid > 0 then
    fail
   else
    draw >>= fun _ =>
    Zat ZmL a0.From >>= fun r6 =>
    Zat ZoZ a0.To >>= fun r7 =>
    chk (((r6.size + r7.size : Nat) : Int) ≤ 9223372036854775807) >>= fun _ =>
    chk ((((x4 ++ r5).size + (r6 ++ r7).size : Nat) : Int) ≤ 9223372036854775807) >>= fun _ =>
    ld cL ⟨2, 0, none⟩ >>= fun x8 =>
    Zc7 (fun s_ : (Sl × Int) => ZaX.L1 a0 x4 r5 r6 r7 x8 s_.1 s_.2) (Sl.nil, 0)
theorem Zkq (a0 : Zah) : Ref Tryz.prog 29 [Zan.val a0] (ZaX a0) ZaX.out := by
 refine J.Fn Tryz.func29 ?_
 unfold ZaX
 refine SJ.sr 2 <| J.b 0 Zan a0 fun b1 => J.z 1 <| SJ.sr 7 <| J.l 0 Zqd fun x2 => J.k 1 0 rfl Ty3 (Zb8 _) <| J.i 1 fun p3 => J.l 0 Ty9 fun x4 => J.z 1 <| SJ.seq <| SJ.sr 3 <| J.k 1 0 rfl Ty3 (ZcP _) <| J.z 1 <| J.f ?_ ?_
 ·exact SJ.fail
 refine SJ.skip <| SJ.sr 5 <| J.k 1 0 rfl Ty63 (At.whole _) <| J.C 0 F46 (Zln _) fun r5 => J.T 0 <| J.z 1 <| SJ.seq <| SJ.sr 3 <| J.k 1 0 rfl Ty3 (ZdJ _) <| J.z 1 <| J.f ?_ ?_
 ·exact SJ.fail
 refine SJ.skip <| SJ.seq <| SJ.sr 3 <| J.k 1 0 rfl Ty3 (Zdn _) <| J.z 1 <| J.f ?_ ?_
 ·exact SJ.fail
 exact SJ.skip <| SJ.seq <| J.D [0, 1, 2, 4, 5, 3, 6, 7, 8, 9] ZcZ <| J.k 2 0 rfl Ty61 (ZbJ _) <| J.k 1 0 rfl Ty61 (ZbL _) <| OJ.call (d := 48) (g := 47) (ats := #[9, 61]) (args := [.const (.string ZmL), .tmp 47]) (owed := [⟨5, 61, (pt b1 9), ZaE.val a0.To⟩]) F47 (Zh0 ZmL a0.From) fun r6 => OW.known (j := 0) (q := a0.To) Ty61 rfl (ZbL a0) <| OW.nil <| J.C 0 F47 (Zh0 _ _) fun r7 => J.T 0 <| J.T 0 <| J.z 1 <| SJ.sr 1 <| J.z 1 <| SJ.seq <| SJ.sr 3 <| J.l 0 Zqd fun x8 => J.z 2 <| SJ.block (id := 0) <| J.L (ZaX.L1_ok a0 b1 x4 r5 r6 r7 x8)

/-! ### weir/rules.PrintRule: function 16 -/
noncomputable def ZcA.out (r_ : (ByteArray × Int)) : Value := .tuple #[.string r_.1, .int .i64 r_.2]
noncomputable def ZcA (a0 : Zah) : M (ByteArray × Int) :=
 slot 63 >>= fun b1 =>
 ZaQ a0 >>= fun r2 =>
 if r2 ≠ 0 then
  fail
 else
  ZaX a0 >>= fun r3 =>
  pure (r3, 0)
theorem Zh2 (a0 : Zah) : Ref Tryz.prog 16 [Zan.val a0] (ZcA a0) ZcA.out := by
 refine J.Fn Tryz.func16 ?_
 unfold ZcA
 refine SJ.sr 3 <| J.b 0 Zan a0 fun b1 => J.z 2 <| SJ.seq <| SJ.sr 3 <| J.k 0 0 rfl Ty63 (At.whole _) <| J.C 0 F10 (ZfC _) fun r2 => J.z 1 <| SJ.sr 2 <| J.z 2 <| J.f ?_ ?_
 ·exact SJ.fail
 exact SJ.skip <| SJ.sr 4 <| J.k 0 0 rfl Ty63 (At.whole _) <| J.C 0 F29 (Zkq _) fun r3 => J.z 2 <| J.r

/-! ### weir/weirlaw16.num: function 7 -/
noncomputable def Zca.out (r_ : Int) : Value := .int .i64 r_
noncomputable def Zca (a0 : Int) : M Int :=
 pure a0
theorem Zc0 (a0 : Int) : Ref Tryz.prog 7 [.int .i64 a0] (Zca a0) Zca.out := by
 refine J.Fn Tryz.func7 ?_
 unfold Zca
 exact SJ.sr 1 <| J.z 1 <| SJ.sr 2 <| J.z 2 <| J.r

/-! ### weir/weirref16.SameSide: function 30 -/
noncomputable def Zad.B : Code := bod Tryz.f30
noncomputable def Zad.cx : Fx := ⟨Tryz.prog, 30, Tryz.f30, none⟩
noncomputable def Zad.out (r_ : Bool) : Value := .bool r_
noncomputable def Zad.F1 (a0 : Zae) (a1 : Zae) (b1 : Nat) (b2 : Nat) : LF Int Bool := ⟨[.inBlock 2, .code (c2 (c2 (c2 (c2 Zad.B))))], c1 (c2 (c1 (c2 (c2 (c2 Zad.B))))), fun s_ => [(2, .pointer (some (pt b1 0))), (3, .pointer (some (pt b2 0))), (6, .int .i64 s_)], fun s_ => [(b2, ZaE.enc a1), (b1, ZaE.enc a0)], (rt Zad.out)⟩
noncomputable def Zad.L1 (a0 : Zae) (a1 : Zae) (s12 : Int) : M (LS Int Bool) :=
 if s12 < (a0.Ports.len : Int) then
  draw >>= fun _ =>
  idx a0.Ports.a a0.Ports.len s12 2 >>= fun p19 =>
  ld ZaU p19 >>= fun x20 =>
  idx a1.Ports.a a1.Ports.len s12 2 >>= fun p21 =>
  ld ZaU p21 >>= fun x22 =>
  if ¬ (x20 = x22) then
   pure (LS.done false)
  else
   pure (LS.next (IntKind.wrap .i64 (s12 + 1)))
 else
  pure (LS.done true)
theorem Zad.L1_ok (a0 : Zae) (a1 : Zae) (b1 : Nat) (b2 : Nat) : LJ Zad.cx (Zad.F1 a0 a1 b1 b2) (fun s_ => Zad.L1 a0 a1 s_) := by
 rintro s12
 show SJ _ _ _ _ (Zad.L1 a0 a1 s12) _
 unfold Zad.L1
 refine SJ.seq <| SJ.sr 5 <| J.k 2 1 rfl Ty59 (ZaR _) <| J.z 2 <| J.f ?_ ?_
 ·refine SJ.skip <| SJ.seq <| SJ.block (id := 3) <| SJ.seq <| J.R 11 ZcZ <| J.k 1 1 rfl Ty59 (ZaR _) <| J.i 1 fun p19 => J.l 0 Ty93 fun x20 => J.k 1 0 rfl Ty59 (ZaR _) <| J.i 1 fun p21 => J.l 0 Ty93 fun x22 => OJ.neq (d := 65) (T := 93) (yT := 93) (y := .tmp 59) (z := .tmp 64) (cd := ZaU) (p := x20) (q := x22) rfl Eq93 <| J.z 0 <| J.f ?_ ?_
  ·exact SJ.sr 1 <| J.z 1 <| J.r
  exact SJ.skip <| SJ.inBlock <| SJ.rg 3 <| J.z 3 <| J.o rfl
 exact SJ.exit (id := 2) (by rfl) <| SJ.sr 1 <| J.z 1 <| J.r
noncomputable def Zad.K1 (a0 : Zae) (a1 : Zae) : M Bool :=
 Zc7 (fun s_ : Int => Zad.L1 a0 a1 s_) 0
theorem Zad.K1_ok (a0 : Zae) (a1 : Zae) (b1 : Nat) (b2 : Nat) :
  SJ Zad.cx [.code (c2 (c2 (c2 Zad.B)))] [(2, .pointer (some (pt b1 0))), (3, .pointer (some (pt b2 0)))] [(b2, ZaE.enc a1), (b1, ZaE.enc a0)] (Zad.K1 a0 a1) (rt Zad.out) := by
 unfold Zad.K1
 exact SJ.seq <| SJ.sr 1 <| J.z 1 <| SJ.block (id := 2) <| J.L (Zad.L1_ok a0 a1 b1 b2)
noncomputable def Zad.F2 (a0 : Zae) (a1 : Zae) (b1 : Nat) (b2 : Nat) : LF Int Bool := ⟨[.inBlock 0, .code (c2 (c2 (c2 Zad.B)))], c1 (c2 (c1 (c2 (c2 Zad.B)))), fun s_ => [(2, .pointer (some (pt b1 0))), (3, .pointer (some (pt b2 0))), (5, .int .i64 s_)], fun s_ => [(b2, ZaE.enc a1), (b1, ZaE.enc a0)], (rt Zad.out)⟩
noncomputable def Zad.L2 (a0 : Zae) (a1 : Zae) (s5 : Int) : M (LS Int Bool) :=
 if s5 < (a0.Nets.len : Int) then
  draw >>= fun _ =>
  idx a0.Nets.a a0.Nets.len s5 18 >>= fun p25 =>
  ld Zay p25 >>= fun x26 =>
  idx a1.Nets.a a1.Nets.len s5 18 >>= fun p27 =>
  ld Zay p27 >>= fun x28 =>
  if ¬ (x26 = x28) then
   pure (LS.done false)
  else
   pure (LS.next (IntKind.wrap .i64 (s5 + 1)))
 else
  (Zad.K1 a0 a1) >>= fun b => pure (LS.done b)
theorem Zad.L2_ok (a0 : Zae) (a1 : Zae) (b1 : Nat) (b2 : Nat) : LJ Zad.cx (Zad.F2 a0 a1 b1 b2) (fun s_ => Zad.L2 a0 a1 s_) := by
 rintro s5
 show SJ _ _ _ _ (Zad.L2 a0 a1 s5) _
 unfold Zad.L2
 refine SJ.seq <| SJ.sr 5 <| J.k 2 1 rfl Ty58 (Zax _) <| J.z 2 <| J.f ?_ ?_
 ·refine SJ.skip <| SJ.seq <| SJ.block (id := 1) <| SJ.seq <| J.R 11 ZcZ <| J.k 1 1 rfl Ty58 (Zax _) <| J.i 1 fun p25 => J.l 0 Ty91 fun x26 => J.k 1 0 rfl Ty58 (Zax _) <| J.i 1 fun p27 => J.l 0 Ty91 fun x28 => OJ.neq (d := 47) (T := 91) (yT := 91) (y := .tmp 41) (z := .tmp 46) (cd := Zay) (p := x26) (q := x28) rfl Eq91 <| J.z 0 <| J.f ?_ ?_
  ·exact SJ.sr 1 <| J.z 1 <| J.r
  exact SJ.skip <| SJ.inBlock <| SJ.rg 3 <| J.z 3 <| J.o rfl
 exact SJ.exit (id := 0) (by rfl) <| J.q <| SJ.done <| Zad.K1_ok a0 a1 b1 b2
noncomputable def Zad (a0 : Zae) (a1 : Zae) : M Bool :=
 slot 61 >>= fun b1 =>
 slot 61 >>= fun b2 =>
 (if ¬ (a0.Not = a1.Not) then
   pure true
  else
   pure ((a0.Nets.len : Int) != (a1.Nets.len : Int))) >>= fun y3 =>
 (if y3 = true then
   pure true
  else
   pure ((a0.Ports.len : Int) != (a1.Ports.len : Int))) >>= fun y4 =>
 if y4 = true then
  pure false
 else
  Zc7 (fun s_ : Int => Zad.L2 a0 a1 s_) 0
theorem ZeL (a0 : Zae) (a1 : Zae) : Ref Tryz.prog 30 [ZaE.val a0, ZaE.val a1] (Zad a0 a1) Zad.out := by
 refine J.Fn Tryz.func30 ?_
 unfold Zad
 refine SJ.sr 3 <| J.b 0 ZaE a0 fun b1 => J.b 0 ZaE a1 fun b2 => J.z 1 <| SJ.seq <| SJ.sr 23 <| J.k 1 1 rfl Ty4 (ZaJ _) <| J.k 1 0 rfl Ty4 (ZaJ _) <| J.j 2 7 .bool ?_ ?_ fun y3 => ?_
 ·exact J.e 8
 ·exact J.k 1 1 rfl Ty58 (Zax _) <| J.k 2 0 rfl Ty58 (Zax _) <| J.e 3
 refine J.j 1 7 .bool ?_ ?_ fun y4 => ?_
 ·exact J.e 8
 ·exact J.k 1 1 rfl Ty59 (ZaR _) <| J.k 2 0 rfl Ty59 (ZaR _) <| J.e 3
 refine J.z 0 <| J.f ?_ ?_
 ·exact SJ.sr 1 <| J.z 1 <| J.r
 exact SJ.skip <| SJ.seq <| SJ.sr 1 <| J.z 1 <| SJ.block (id := 0) <| J.L (Zad.L2_ok a0 a1 b1 b2)

/-! ### weir/weirref16.Same: function 17 -/
noncomputable def Zdb.out (r_ : Bool) : Value := .bool r_
noncomputable def Zdb (a0 : Zah) (a1 : Zah) : M Bool :=
 slot 63 >>= fun b1 =>
 slot 63 >>= fun b2 =>
 (if a0.Act ≠ a1.Act then
   pure true
  else
   pure (a0.Class != a1.Class)) >>= fun y3 =>
 (if y3 = true then
   pure true
  else
   pure (a0.Kind != a1.Kind)) >>= fun y4 =>
 (if y4 = true then
   pure true
  else
   pure (a0.Proto != a1.Proto)) >>= fun y5 =>
 (if y5 = true then
   pure true
  else
   pure (a0.In != a1.In)) >>= fun y6 =>
 (if y6 = true then
   pure true
  else
   pure (a0.Vid != a1.Vid)) >>= fun y7 =>
 if y7 = true then
  pure false
 else
  (if a0.Set ≠ a1.Set then
    pure true
   else
    pure (a0.Clear != a1.Clear)) >>= fun y8 =>
  (if y8 = true then
    pure true
   else
    pure (a0.Type_ != a1.Type_)) >>= fun y9 =>
  (if y9 = true then
    pure true
   else
    pure (!(a0.Pieces == a1.Pieces))) >>= fun y10 =>
  if y10 = true then
   pure false
  else
   Zad a0.From a1.From >>= fun r11 =>
   (if r11 = true then
     Zad a0.To a1.To >>= fun r12 =>
     pure r12
    else
     pure false) >>= fun y13 =>
   pure y13
theorem Zis (a0 : Zah) (a1 : Zah) : Ref Tryz.prog 17 [Zan.val a0, Zan.val a1] (Zdb a0 a1) Zdb.out := by
 refine J.Fn Tryz.func17 ?_
 unfold Zdb
 refine SJ.sr 3 <| J.b 0 Zan a0 fun b1 => J.b 0 Zan a1 fun b2 => J.z 1 <| SJ.seq <| SJ.sr 40 <| J.k 1 1 rfl Ty3 (Zb8 _) <| J.k 1 0 rfl Ty3 (Zb8 _) <| J.j 2 5 .bool ?_ ?_ fun y3 => ?_
 ·exact J.e 6
 ·exact J.k 1 1 rfl Ty3 (ZcP _) <| J.k 1 0 rfl Ty3 (ZcP _) <| J.e 2
 refine J.j 1 5 .bool ?_ ?_ fun y4 => ?_
 ·exact J.e 6
 ·exact J.k 1 1 rfl Ty3 (ZbU _) <| J.k 1 0 rfl Ty3 (ZbU _) <| J.e 2
 refine J.j 1 5 .bool ?_ ?_ fun y5 => ?_
 ·exact J.e 6
 ·exact J.k 1 1 rfl Ty3 (Zbu _) <| J.k 1 0 rfl Ty3 (Zbu _) <| J.e 2
 refine J.j 1 5 .bool ?_ ?_ fun y6 => ?_
 ·exact J.e 6
 ·exact J.k 1 1 rfl Ty3 (ZdJ _) <| J.k 1 0 rfl Ty3 (ZdJ _) <| J.e 2
 refine J.j 1 5 .bool ?_ ?_ fun y7 => ?_
 ·exact J.e 6
 ·exact J.k 1 1 rfl Ty3 (Zdn _) <| J.k 1 0 rfl Ty3 (Zdn _) <| J.e 2
 refine J.z 0 <| J.f ?_ ?_
 ·exact SJ.sr 1 <| J.z 1 <| J.r
 refine SJ.skip <| SJ.seq <| SJ.sr 26 <| J.k 1 1 rfl Ty3 (Zb7 _) <| J.k 1 0 rfl Ty3 (Zb7 _) <| J.j 2 5 .bool ?_ ?_ fun y8 => ?_
 ·exact J.e 6
 ·exact J.k 1 1 rfl Ty3 (ZbM _) <| J.k 1 0 rfl Ty3 (ZbM _) <| J.e 2
 refine J.j 1 5 .bool ?_ ?_ fun y9 => ?_
 ·exact J.e 6
 ·exact J.k 1 1 rfl Ty3 (Zcu _) <| J.k 1 0 rfl Ty3 (Zcu _) <| J.e 2
 refine J.j 1 5 .bool ?_ ?_ fun y10 => ?_
 ·exact J.e 6
 ·exact J.k 1 1 rfl Ty4 (ZdQ _) <| J.k 1 0 rfl Ty4 (ZdQ _) <| J.e 2
 refine J.z 0 <| J.f ?_ ?_
 ·exact SJ.sr 1 <| J.z 1 <| J.r
 refine SJ.skip <| SJ.sr 13 <| J.k 1 1 rfl Ty61 (ZbJ _) <| J.k 1 0 rfl Ty61 (ZbJ _) <| J.C 0 F30 (ZeL _ _) fun r11 => J.j 1 5 .bool ?_ ?_ fun y13 => ?_
 ·exact J.k 1 1 rfl Ty61 (ZbL _) <| J.k 1 0 rfl Ty61 (ZbL _) <| J.C 0 F30 (ZeL _ _) fun r12 => J.e 1
 ·exact J.e 6
 exact J.z 1 <| J.r

/-! ### weir/weirlaw16.started: function 9 -/
noncomputable def ZbD.out (r_ : Bool) : Value := .bool r_
noncomputable def ZbD  : M Bool :=
 Zcv >>= fun r1 =>
 slot 63 >>= fun b2 =>
 Zaj r1.1 >>= fun r3 =>
 slot 63 >>= fun b4 =>
 ZcA r1.2 >>= fun r5 =>
 Zca r3.2.1 >>= fun r6 =>
 (if r6 = 0 then
   pure (r3.2.2 == 0)
  else
   pure false) >>= fun y7 =>
 (if y7 = true then
   Zdb r3.1 r1.2 >>= fun r8 =>
   pure r8
  else
   pure false) >>= fun y9 =>
 (if y9 = true then
   Zca r5.2 >>= fun r10 =>
   pure (r10 == 0)
  else
   pure false) >>= fun y11 =>
 (if y11 = true then
   pure (r5.1.toList == r1.1.toList)
  else
   pure false) >>= fun y12 =>
 (if y12 = true then
   ZaQ r1.2 >>= fun r13 =>
   Zca r13 >>= fun r14 =>
   pure (r14 == 0)
  else
   pure false) >>= fun y15 =>
 pure y15
theorem Zdh  : Ref Tryz.prog 9 [] (ZbD) ZbD.out := by
 refine J.Fn Tryz.func9 ?_
 unfold ZbD
 refine SJ.sr 1 <| J.z 1 <| SJ.sr 7 <| J.C 0 F14 Zit fun r1 => J.a 3 Ty63 fun b2 => J.s 1 0 rfl Ty63 (Upd.w r1.2) <| J.z 0 <| SJ.sr 10 <| J.C 1 F15 (Zh3 _) fun r3 => J.a 4 Ty63 fun b4 => J.s 0 0 rfl Ty63 (Upd.w r3.1) <| J.z 2 <| SJ.sr 7 <| J.k 0 1 rfl Ty63 (At.whole _) <| J.C 0 F16 (Zh2 _) fun r5 => J.z 5 <| SJ.sr 29 <| J.C 1 F7 (Zc0 _) fun r6 => J.j 2 2 .bool ?_ ?_ fun y7 => ?_
 ·exact J.e 3
 ·exact J.e 3
 refine J.j 1 3 .bool ?_ ?_ fun y9 => ?_
 ·exact J.k 0 0 rfl Ty63 (At.whole _) <| J.k 0 1 rfl Ty63 (At.whole _) <| J.C 0 F17 (Zis _ _) fun r8 => J.e 1
 ·exact J.e 4
 refine J.j 1 3 .bool ?_ ?_ fun y11 => ?_
 ·exact J.C 1 F7 (Zc0 _) fun r10 => J.e 2
 ·exact J.e 4
 refine J.j 1 3 .bool ?_ ?_ fun y12 => ?_
 ·exact J.e 4
 ·exact J.e 4
 refine J.j 1 4 .bool ?_ ?_ fun y15 => ?_
 ·exact J.k 0 1 rfl Ty63 (At.whole _) <| J.C 0 F10 (ZfC _) fun r13 => J.C 0 F7 (Zc0 _) fun r14 => J.e 2
 ·exact J.e 5
 exact J.z 1 <| J.r

/-! ### slices.Clone[[]weir/api.Prefix,weir/api.Prefix]: function 52 -/
noncomputable def ZaG.out (r_ : Sl) : Value := Sl.v r_
noncomputable def ZaG (a0 : Sl) : M Sl :=
 if a0.a = none then
  pure Sl.nil
 else
  newv 91 (Zay.arr 0) (⟨[], rfl⟩ : Vec Zac 0) >>= fun b1 =>
  appS Zay 91 32 Zbt (⟨some (pt b1 0), 0, 0⟩ : Sl) a0 >>= fun r2 =>
  pure r2
theorem ZaY (a0 : Sl) : Ref Tryz.prog 52 [Sl.v a0] (ZaG a0) ZaG.out := by
 refine J.Fn Tryz.func52 ?_
 unfold ZaG
 refine SJ.sr 1 <| J.z 1 <| SJ.seq <| SJ.sr 2 <| J.z 2 <| J.f ?_ ?_
 ·exact SJ.sr 1 <| J.z 1 <| J.r
 exact SJ.skip <| SJ.sr 4 <| J.N 0 Ty91 fun b1 => J.g 1 <| OJ.appS (d := 7) (t := 58) (u := 58) (so := .tmp 5) (xo := .tmp 6) (owed := []) Ty91 fun r2 => OW.nil <| J.z 1 <| J.r

/-! ### slices.Clip[[]weir/api.Prefix,weir/api.Prefix]: function 51 -/
noncomputable def Zbv.out (r_ : Sl) : Value := Sl.v r_
noncomputable def Zbv (a0 : Sl) : M Sl :=
 cut 18 a0 none (some (a0.len : Int)) (some (a0.len : Int)) >>= fun r1 =>
 pure r1
theorem Zd5 (a0 : Sl) : Ref Tryz.prog 51 [Sl.v a0] (Zbv a0) Zbv.out := by
 refine J.Fn Tryz.func51 ?_
 unfold Zbv
 exact SJ.sr 1 <| J.z 1 <| SJ.sr 7 <| J.cs 5 fun r1 => J.z 1 <| J.r

/-! ### slices.Clone[[]weir/api.Range,weir/api.Range]: function 54 -/
noncomputable def Za2.out (r_ : Sl) : Value := Sl.v r_
noncomputable def Za2 (a0 : Sl) : M Sl :=
 if a0.a = none then
  pure Sl.nil
 else
  newv 93 (ZaU.arr 0) (⟨[], rfl⟩ : Vec ZaD 0) >>= fun b1 =>
  appS ZaU 93 16 Ze6 (⟨some (pt b1 0), 0, 0⟩ : Sl) a0 >>= fun r2 =>
  pure r2
theorem ZcT (a0 : Sl) : Ref Tryz.prog 54 [Sl.v a0] (Za2 a0) Za2.out := by
 refine J.Fn Tryz.func54 ?_
 unfold Za2
 refine SJ.sr 1 <| J.z 1 <| SJ.seq <| SJ.sr 2 <| J.z 2 <| J.f ?_ ?_
 ·exact SJ.sr 1 <| J.z 1 <| J.r
 exact SJ.skip <| SJ.sr 4 <| J.N 0 Ty93 fun b1 => J.g 1 <| OJ.appS (d := 7) (t := 59) (u := 59) (so := .tmp 5) (xo := .tmp 6) (owed := []) Ty93 fun r2 => OW.nil <| J.z 1 <| J.r

/-! ### slices.Clip[[]weir/api.Range,weir/api.Range]: function 53 -/
noncomputable def ZbE.out (r_ : Sl) : Value := Sl.v r_
noncomputable def ZbE (a0 : Sl) : M Sl :=
 cut 2 a0 none (some (a0.len : Int)) (some (a0.len : Int)) >>= fun r1 =>
 pure r1
theorem Zeh (a0 : Sl) : Ref Tryz.prog 53 [Sl.v a0] (ZbE a0) ZbE.out := by
 refine J.Fn Tryz.func53 ?_
 unfold ZbE
 exact SJ.sr 1 <| J.z 1 <| SJ.sr 7 <| J.cs 5 fun r1 => J.z 1 <| J.r

/-! ### weir/rules.cloneSide: function 33 -/
noncomputable def Zcz.out (r_ : Zae) : Value := ZaE.val r_
noncomputable def Zcz (a0 : Zae) : M Zae :=
 slot 61 >>= fun b1 =>
 slot 61 >>= fun b2 =>
 draw >>= fun _ =>
 ZaG a0.Nets >>= fun r3 =>
 Zbv r3 >>= fun r4 =>
 Za2 a0.Ports >>= fun r5 =>
 ZbE r5 >>= fun r6 =>
 pure (⟨a0.Not, r4, r6⟩ : Zae)
theorem Zfn (a0 : Zae) : Ref Tryz.prog 33 [ZaE.val a0] (Zcz a0) Zcz.out := by
 refine J.Fn Tryz.func33 ?_
 unfold Zcz
 exact SJ.sr 2 <| J.b 0 ZaE a0 fun b1 => J.a 0 Ty61 fun b2 => J.z 0 <| SJ.seq <| J.D [0, 1, 4, 5, 2, 3, 6, 7, 8, 9, 10, 11] ZcZ <| J.k 1 1 rfl Ty58 (Zax _) <| J.k 1 1 rfl Ty59 (ZaR _) <| OJ.call (d := 5) (g := 52) (ats := #[58]) (args := [.tmp 4]) (owed := [⟨5, 59, (pt b1 2), cL.val a0.Ports⟩]) F52 (ZaY a0.Nets) fun r3 => OW.known (j := 1) (q := a0.Ports) Ty59 rfl (ZaR a0) <| OW.nil <| OJ.call (d := 6) (g := 51) (ats := #[58]) (args := [.tmp 5]) (owed := [⟨5, 59, (pt b1 2), cL.val a0.Ports⟩]) F51 (Zd5 r3) fun r4 => OW.known (j := 1) (q := a0.Ports) Ty59 rfl (ZaR a0) <| OW.nil <| J.C 0 F54 (ZcT _) fun r5 => J.C 0 F53 (Zeh _) fun r6 => J.s 1 1 rfl Ty58 (Zcq _ r4) <| J.s 1 1 rfl Ty59 (ZdY _ r6) <| J.z 0 <| SJ.sr 2 <| J.k 0 1 rfl Ty61 (At.whole _) <| J.s 0 0 rfl Ty61 (Upd.w (⟨a0.Not, r4, r6⟩ : Zae)) <| J.z 0 <| J.rc (.c 0 rfl Ty61 .n)

/-! ### weir/rules.clone: function 21 -/
noncomputable def Zd9.out (r_ : Zah) : Value := Zan.val r_
noncomputable def Zd9 (a0 : Zah) : M Zah :=
 slot 63 >>= fun b1 =>
 slot 63 >>= fun b2 =>
 draw >>= fun _ =>
 Zcz a0.From >>= fun r3 =>
 Zcz a0.To >>= fun r4 =>
 pure (⟨a0.Act, a0.Class, a0.Kind, a0.Proto, a0.In, a0.Vid, r3, r4, a0.Set, a0.Clear, a0.Type_, a0.Pieces⟩ : Zah)
theorem Zkt (a0 : Zah) : Ref Tryz.prog 21 [Zan.val a0] (Zd9 a0) Zd9.out := by
 refine J.Fn Tryz.func21 ?_
 unfold Zd9
 exact SJ.sr 2 <| J.b 0 Zan a0 fun b1 => J.a 0 Ty63 fun b2 => J.z 0 <| SJ.seq <| J.D [0, 1, 3, 4, 2, 5, 6, 7, 8, 9] ZcZ <| J.k 1 1 rfl Ty61 (ZbJ _) <| J.k 1 1 rfl Ty61 (ZbL _) <| OJ.call (d := 5) (g := 33) (ats := #[61]) (args := [.tmp 4]) (owed := [⟨4, 61, (pt b1 9), ZaE.val a0.To⟩]) F33 (Zfn a0.From) fun r3 => OW.known (j := 1) (q := a0.To) Ty61 rfl (ZbL a0) <| OW.nil <| J.C 0 F33 (Zfn _) fun r4 => J.s 1 1 rfl Ty61 (ZcH _ r3) <| J.s 1 1 rfl Ty61 (Zdd _ r4) <| J.z 0 <| SJ.sr 2 <| J.k 0 1 rfl Ty63 (At.whole _) <| J.s 0 0 rfl Ty63 (Upd.w (⟨a0.Act, a0.Class, a0.Kind, a0.Proto, a0.In, a0.Vid, r3, r4, a0.Set, a0.Clear, a0.Type_, a0.Pieces⟩ : Zah)) <| J.z 0 <| J.rc (.c 0 rfl Ty63 .n)

/-! ### weir/rules.tests$1: function 34 -/
noncomputable def Zbs.out (r_ : Unit) : Value := .tuple #[]
noncomputable def Zbs (a0 : Bool) (a1 : Any) (a2 : Addr) : M Unit :=
 if a0 = true then
  ld cL a2 >>= fun x4 =>
  slot 74 >>= fun b5 =>
  appl cV 74 16 ⟨.nilIface, rfl⟩ x4 [a1] >>= fun r6 =>
  st cL a2 r6 >>= fun _ =>
  pure ()
 else
  pure ()
theorem ZbI (a0 : Bool) (a1 : Any) (a2 : Addr) : Ref Tryz.prog 34 [.bool a0, a1.v, .pointer (some a2)] (Zbs a0 a1 a2) Zbs.out := by
 refine J.Fn Tryz.func34 ?_
 unfold Zbs
 refine SJ.sr 1 <| J.z 1 <| J.f ?_ ?_
 ·exact SJ.rg 5 <| J.l 0 Ty71 fun x4 => J.S 1 [a1] Ty74 fun b5 => J.p 0 0 rfl Ty74 fun r6 => J.w 0 Ty71 <| J.z 0 <| SJ.end_ rfl (Res.run (ys := []) .nil rfl)
 exact SJ.skip <| SJ.end_ rfl (Res.run (ys := []) .nil rfl)

/-! ### weir/rules.address: function 56 -/
noncomputable def Zdx.out (r_ : (Zbn × Bool)) : Value := .tuple #[ZaV.val r_.1, .bool r_.2]
noncomputable def Zdx (a0 : Zas) (a1 : Bool) : M (Zbn × Bool) :=
 slot 47 >>= fun b1 =>
 slot 28 >>= fun b2 =>
 slot 28 >>= fun b3 =>
 slot 28 >>= fun b4 =>
 if a0.Kind = 1 then
  draw >>= fun _ =>
  if a1 = true then
   pure (a0.Arp.TIP, true)
  else
   pure (a0.Arp.SIP, true)
 else
  if a0.Kind = 2 then
   draw >>= fun _ =>
   if a1 = true then
    pure (a0.Ip4.Dst, true)
   else
    pure (a0.Ip4.Src, true)
  else
   if a0.Kind = 3 then
    draw >>= fun _ =>
    if a1 = true then
     pure (a0.Ip6.Dst, true)
    else
     pure (a0.Ip6.Src, true)
   else
    pure (Zb9, false)
theorem Zjg (a0 : Zas) (a1 : Bool) : Ref Tryz.prog 56 [ZaB.val a0, .bool a1] (Zdx a0 a1) Zdx.out := by
 refine J.Fn Tryz.func56 ?_
 unfold Zdx
 refine SJ.sr 3 <| J.b 0 ZaB a0 fun b1 => J.a 0 Ty28 fun b2 => J.z 1 <| SJ.sr 2 <| J.a 0 Ty28 fun b3 => J.a 0 Ty28 fun b4 => J.z 0 <| SJ.seq <| SJ.sr 2 <| J.k 1 3 rfl Ty3 (Zb6 _) <| J.z 0 <| SJ.block (id := 0) <| SJ.sr 2 <| J.z 2 <| J.f ?_ ?_
 ·refine J.R 8 ZcZ <| J.k 2 3 rfl Ty28 (At.trans (ZeE _) (ZkF _)) <| J.k 2 3 rfl Ty28 (At.trans (ZeE _) (Zhy _)) <| OJ.kst (y := .tmp 6) (z := .tmp 15) (cd := ZaV) (u := a0.Arp.SIP) (j := 1) (b := b3) (o := 0) (ZaV.enc a0.Arp.SIP) (owed := [⟨5, 28, (pt b1 44), ZaV.val a0.Arp.TIP⟩]) Ty28 rfl (Upd.whole ((Cod.len _ _).trans (Cod.len _ _).symm)) rfl <| OW.known (j := 3) (q := a0.Arp.TIP) Ty28 rfl (At.trans (ZeE a0) (Zhy a0.Arp)) <| OW.nil <| J.s 0 0 rfl Ty28 (Upd.w a0.Arp.TIP) <| J.z 0 <| SJ.inBlock <| SJ.seq <| SJ.sr 1 <| J.z 1 <| J.f ?_ ?_
  ·exact SJ.sr 3 <| J.k 0 0 rfl Ty28 (At.whole _) <| J.s 0 2 rfl Ty28 (Upd.w a0.Arp.TIP) <| J.z 1 <| J.rc (.c 2 rfl Ty28 .n)
  exact SJ.skip <| SJ.sr 3 <| J.k 0 1 rfl Ty28 (At.whole _) <| J.s 0 2 rfl Ty28 (Upd.w a0.Arp.SIP) <| J.z 1 <| J.rc (.c 2 rfl Ty28 .n)
 refine SJ.sr 2 <| J.z 2 <| J.f ?_ ?_
 ·refine J.R 8 ZcZ <| J.k 2 3 rfl Ty28 (At.trans (ZcQ _) (ZkD _)) <| J.k 2 3 rfl Ty28 (At.trans (ZcQ _) (Zhx _)) <| OJ.kst (y := .tmp 6) (z := .tmp 23) (cd := ZaV) (u := a0.Ip4.Src) (j := 1) (b := b3) (o := 0) (ZaV.enc a0.Ip4.Src) (owed := [⟨5, 28, (pt b1 85), ZaV.val a0.Ip4.Dst⟩]) Ty28 rfl (Upd.whole ((Cod.len _ _).trans (Cod.len _ _).symm)) rfl <| OW.known (j := 3) (q := a0.Ip4.Dst) Ty28 rfl (At.trans (ZcQ a0) (Zhx a0.Ip4)) <| OW.nil <| J.s 0 0 rfl Ty28 (Upd.w a0.Ip4.Dst) <| J.z 0 <| SJ.inBlock <| SJ.seq <| SJ.sr 1 <| J.z 1 <| J.f ?_ ?_
  ·exact SJ.sr 3 <| J.k 0 0 rfl Ty28 (At.whole _) <| J.s 0 2 rfl Ty28 (Upd.w a0.Ip4.Dst) <| J.z 1 <| J.rc (.c 2 rfl Ty28 .n)
  exact SJ.skip <| SJ.sr 3 <| J.k 0 1 rfl Ty28 (At.whole _) <| J.s 0 2 rfl Ty28 (Upd.w a0.Ip4.Src) <| J.z 1 <| J.rc (.c 2 rfl Ty28 .n)
 refine SJ.sr 2 <| J.z 2 <| J.f ?_ ?_
 ·refine J.R 8 ZcZ <| J.k 2 3 rfl Ty28 (At.trans (Zdp _) (ZkC _)) <| J.k 2 3 rfl Ty28 (At.trans (Zdp _) (Zhw _)) <| OJ.kst (y := .tmp 6) (z := .tmp 31) (cd := ZaV) (u := a0.Ip6.Src) (j := 1) (b := b3) (o := 0) (ZaV.enc a0.Ip6.Src) (owed := [⟨5, 28, (pt b1 124), ZaV.val a0.Ip6.Dst⟩]) Ty28 rfl (Upd.whole ((Cod.len _ _).trans (Cod.len _ _).symm)) rfl <| OW.known (j := 3) (q := a0.Ip6.Dst) Ty28 rfl (At.trans (Zdp a0) (Zhw a0.Ip6)) <| OW.nil <| J.s 0 0 rfl Ty28 (Upd.w a0.Ip6.Dst) <| J.z 0 <| SJ.inBlock <| SJ.seq <| SJ.sr 1 <| J.z 1 <| J.f ?_ ?_
  ·exact SJ.sr 3 <| J.k 0 0 rfl Ty28 (At.whole _) <| J.s 0 2 rfl Ty28 (Upd.w a0.Ip6.Dst) <| J.z 1 <| J.rc (.c 2 rfl Ty28 .n)
  exact SJ.skip <| SJ.sr 3 <| J.k 0 1 rfl Ty28 (At.whole _) <| J.s 0 2 rfl Ty28 (Upd.w a0.Ip6.Src) <| J.z 1 <| J.rc (.c 2 rfl Ty28 .n)
 exact SJ.sr 3 <| J.u 0 Ty28 .nil <| J.s 0 2 rfl Ty28 (Upd.w Zb9) <| J.z 1 <| J.rc (.c 2 rfl Ty28 .n)

/-! ### weir/addr.Contains: function 59 -/
noncomputable def ZdD.out (r_ : Bool) : Value := .bool r_
noncomputable def ZdD (a0 : Zac) (a1 : Zbn) : M Bool :=
 slot 91 >>= fun b1 =>
 slot 28 >>= fun b2 =>
 ZbT a0 >>= fun r3 =>
 (if r3 ≠ 0 then
   pure true
  else
   Zeg a1 >>= fun r4 =>
   pure (!r4)) >>= fun y5 =>
 (if y5 = true then
   pure true
  else
   pure (a0.IP.V != a1.V)) >>= fun y6 =>
 if y6 = true then
  pure false
 else
  draw >>= fun _ =>
  Zbm a1.A a0.Len >>= fun r7 =>
  pure (eqv r7 a0.IP.A)
theorem Zjk (a0 : Zac) (a1 : Zbn) : Ref Tryz.prog 59 [Zay.val a0, ZaV.val a1] (ZdD a0 a1) ZdD.out := by
 refine J.Fn Tryz.func59 ?_
 unfold ZdD
 refine SJ.sr 3 <| J.b 0 Zay a0 fun b1 => J.b 0 ZaV a1 fun b2 => J.z 1 <| SJ.seq <| SJ.sr 16 <| J.k 0 1 rfl Ty91 (At.whole _) <| J.C 0 F50 (ZdC _) fun r3 => J.j 2 3 .bool ?_ ?_ fun y5 => ?_
 ·exact J.e 4
 ·exact J.k 0 0 rfl Ty28 (At.whole _) <| J.C 0 F80 (Zil _) fun r4 => J.e 2
 refine J.j 1 6 .bool ?_ ?_ fun y6 => ?_
 ·exact J.e 7
 ·exact J.k 2 1 rfl Ty3 (At.trans (ZbC _) (Zde _)) <| J.k 1 0 rfl Ty3 (Zde _) <| J.e 2
 refine J.z 0 <| J.f ?_ ?_
 ·exact SJ.sr 1 <| J.z 1 <| J.r
 exact SJ.skip <| SJ.seq <| J.D [0, 1, 2, 3, 5, 6, 7, 4, 8, 9] ZcZ <| J.k 1 0 rfl Ty26 (Zdf _) <| J.k 1 1 rfl Ty3 (Zb0 _) <| J.k 2 1 rfl Ty26 (At.trans (ZbC _) (Zdf _)) <| OJ.call (d := 25) (g := 78) (ats := #[26, 3]) (args := [.tmp 22, .tmp 24]) (owed := [⟨7, 26, (pt b1 1), ((cI .u8).arr 16).val a0.IP.A⟩]) F78 (Zht a1.A a0.Len) fun r7 => OW.known (j := 1) (q := a0.IP.A) Ty26 rfl (At.trans (ZbC a0) (Zdf a0.IP)) <| OW.nil <| OJ.eql (d := 29) (T := 26) (yT := 26) (y := .tmp 25) (z := .tmp 28) (cd := ((cI .u8).arr 16)) (p := r7) (q := a0.IP.A) rfl Eq26 <| J.z 1 <| J.r

/-! ### weir/rules.netsTest$1$1: function 58 -/
noncomputable def Zck.out (r_ : Bool) : Value := .bool r_
noncomputable def Zck (a0 : Zac) (a1 : Addr) : M Bool :=
 slot 91 >>= fun b1 =>
 ld ZaV a1 >>= fun x2 =>
 ZdD a0 x2 >>= fun r3 =>
 pure r3
theorem ZgC (a0 : Zac) (a1 : Addr) : Ref Tryz.prog 58 [Zay.val a0, .pointer (some a1)] (Zck a0 a1) Zck.out := by
 refine J.Fn Tryz.func58 ?_
 unfold Zck
 exact SJ.sr 2 <| J.b 0 Zay a0 fun b1 => J.z 1 <| SJ.sr 4 <| J.k 0 0 rfl Ty91 (At.whole _) <| J.l 0 Ty28 fun x2 => J.C 0 F59 (Zjk _ _) fun r3 => J.z 1 <| J.r

/-! ### slices.IndexFunc[[]weir/api.Prefix,weir/api.Prefix]: function 79 -/
noncomputable def Zag.B : Code := bod Tryz.f79
noncomputable def Zag.cx : Fx := ⟨Tryz.prog, 79, Tryz.f79, none⟩
noncomputable def Zag.out (r_ : Int) : Value := .int .i64 r_
noncomputable def Zag.F1 (a0 : Sl) (a1v : Any) : LF Int Int := ⟨[.inBlock 0, .code (c2 (c2 Zag.B))], c1 (c2 (c1 (c2 Zag.B))), fun s_ => [(0, Sl.v a0), (1, a1v.v), (7, .int .i64 (a0.len : Int)), (8, .int .i64 s_)], fun s_ => [], (rt Zag.out)⟩
noncomputable def Zag.L1 (a0 : Sl) (a1 : Zac → M Bool) (s1 : Int) : M (LS Int Int) :=
 if s1 < (a0.len : Int) then
  idx a0.a a0.len s1 18 >>= fun p7 =>
  ld Zay p7 >>= fun x8 =>
  a1 x8 >>= fun r9 =>
  if r9 = true then
   pure (LS.done s1)
  else
   pure (LS.next (IntKind.wrap .i64 (s1 + 1)))
 else
  pure (LS.done (-1))
theorem Zag.L1_ok (a0 : Sl) (a1v : Any) (a1 : Zac → M Bool) (h_a1 : ∀ (x0_ : Zac), RefV Tryz.prog a1v.v [Zay.val x0_] (a1 x0_) (fun r_ : Bool => .bool r_)) : LJ Zag.cx (Zag.F1 a0 a1v) (fun s_ => Zag.L1 a0 a1 s_) := by
 rintro s1
 show SJ _ _ _ _ (Zag.L1 a0 a1 s1) _
 unfold Zag.L1
 refine SJ.sr 1 <| J.z 1 <| SJ.seq <| J.f ?_ ?_
 ·refine SJ.skip <| SJ.seq <| SJ.block (id := 1) <| SJ.sr 2 <| J.z 2 <| SJ.sr 6 <| J.i 3 fun p7 => J.l 0 Ty91 fun x8 => J.v 0 (h_a1 x8) fun r9 => J.z 0 <| J.f ?_ ?_
  ·exact SJ.sr 2 <| J.z 2 <| J.r
  exact SJ.skip <| SJ.inBlock <| SJ.rg 2 <| J.z 2 <| J.o rfl
 exact SJ.exit (id := 0) (by rfl) <| SJ.sr 1 <| J.z 1 <| J.r
noncomputable def Zag (a0 : Sl) (a1 : Zac → M Bool) : M Int :=
 Zc7 (fun s_ : Int => Zag.L1 a0 a1 s_) 0
theorem ZdL (a0 : Sl) (a1v : Any) (a1 : Zac → M Bool) (h_a1 : ∀ (x0_ : Zac), RefV Tryz.prog a1v.v [Zay.val x0_] (a1 x0_) (fun r_ : Bool => .bool r_)) : Ref Tryz.prog 79 [Sl.v a0, a1v.v] (Zag a0 a1) Zag.out := by
 refine J.Fn Tryz.func79 ?_
 unfold Zag
 exact SJ.sr 1 <| J.z 1 <| SJ.seq <| SJ.sr 3 <| J.z 3 <| SJ.block (id := 0) <| J.L (Zag.L1_ok a0 a1v a1 h_a1)

/-! ### slices.ContainsFunc[[]weir/api.Prefix,weir/api.Prefix]: function 57 -/
noncomputable def Za1.out (r_ : Bool) : Value := .bool r_
noncomputable def Za1 (a0 : Sl) (a1 : Zac → M Bool) : M Bool :=
 Zag a0 a1 >>= fun r1 =>
 pure (decide (r1 ≥ 0))
theorem Zdr (a0 : Sl) (a1v : Any) (a1 : Zac → M Bool) (h_a1 : ∀ (x0_ : Zac), RefV Tryz.prog a1v.v [Zay.val x0_] (a1 x0_) (fun r_ : Bool => .bool r_)) : Ref Tryz.prog 57 [Sl.v a0, a1v.v] (Za1 a0 a1) Za1.out := by
 refine J.Fn Tryz.func57 ?_
 unfold Za1
 exact SJ.sr 1 <| J.z 1 <| SJ.sr 5 <| J.C 2 F79 (ZdL a0 a1v a1 h_a1) fun r1 => J.z 2 <| J.r

/-! ### weir/rules.netsTest$1: function 55 -/
noncomputable def Zcp.out (r_ : Bool) : Value := .bool r_
noncomputable def Zcp (a0 : Zas) (a1 : Addr) (a2 : Addr) (a3 : Addr) : M Bool :=
 slot 47 >>= fun b1 =>
 ld cB a1 >>= fun x2 =>
 Zdx a0 x2 >>= fun r3 =>
 newv 28 ZaV Zb9 >>= fun b4 =>
 st ZaV (pt b4 0) r3.1 >>= fun _ =>
 ld cL a2 >>= fun x5 =>
 Za1 x5 (fun (q6 : Zac) => Zck q6 (pt b4 0)) >>= fun r7 =>
 (if r3.2 = true then
   ld cB a3 >>= fun x8 =>
   pure (!(r7 == x8))
  else
   pure false) >>= fun y9 =>
 pure y9
theorem ZhE (a0 : Zas) (a1 : Addr) (a2 : Addr) (a3 : Addr) : Ref Tryz.prog 55 [ZaB.val a0, .pointer (some a1), .pointer (some a2), .pointer (some a3)] (Zcp a0 a1 a2 a3) Zcp.out := by
 refine J.Fn Tryz.func55 ?_
 unfold Zcp
 refine SJ.sr 2 <| J.b 0 ZaB a0 fun b1 => J.z 1 <| SJ.sr 9 <| J.k 0 0 rfl Ty47 (At.whole _) <| J.l 0 Ty4 fun x2 => J.C 0 F56 (Zjg _ _) fun r3 => J.A 3 Ty28 fun b4 => J.w 0 Ty28 <| J.z 1 <| SJ.sr 4 <| J.l 0 Ty58 fun x5 => J.C 1 F57 (Zdr x5 ⟨.func (.func 58) #[] #[.pointer (some (pt b4 0))], rfl⟩ (fun (q6 : Zac) => Zck q6 (pt b4 0)) (fun q6 => RefV.of (first := []) (cap := [.pointer (some (pt b4 0))]) F58 (ZgC q6 (pt b4 0)))) fun r7 => J.z 1 <| SJ.sr 7 <| J.j 2 3 .bool ?_ ?_ fun y9 => ?_
 ·exact J.l 1 Ty4 fun x8 => J.e 2
 ·exact J.e 4
 exact J.z 1 <| J.r

/-! ### weir/rules.netsTest: function 35 -/
noncomputable def ZaP.B : Code := bod Tryz.f35
noncomputable def ZaP.cx : Fx := ⟨Tryz.prog, 35, Tryz.f35, none⟩
noncomputable def ZaP.out (r_ : Any) : Value := r_.v
noncomputable def ZaP.K1 (b2 : Nat) (j27 : Addr) (j28 : Addr) : M Any :=
 pure (⟨.func (.func 55) #[] #[.pointer (some (pt b2 0)), .pointer (some j27), .pointer (some j28)], rfl⟩ : Any)
theorem ZaP.K1_ok (b2 : Nat) (j27 : Addr) (j28 : Addr) :
  SJ ZaP.cx [.code (c2 (c2 ZaP.B))] [(3, .pointer (some (pt b2 0))), (5, .pointer (some j27)), (6, .pointer (some j28))] [] (ZaP.K1 b2 j27 j28) (rt ZaP.out) := by
 unfold ZaP.K1
 exact SJ.sr 2 <| J.z 2 <| J.r
noncomputable def ZaP (a0 : Zae) (a1 : Bool) : M Any :=
 slot 61 >>= fun b1 =>
 newv 4 cB a1 >>= fun b2 =>
 draws 35 1 (Zei (c1 (c2 ZaP.B))) >>= fun o3 =>
 if bfr o3 2 5 = true then
  if bfr o3 2 6 = true then
   if bfr o3 5 6 = true then
    ZaG a0.Nets >>= fun r32 =>
    newv 58 cL Sl.nil >>= fun b33 =>
    newv 4 cB false >>= fun b34 =>
    st cL (pt b33 0) r32 >>= fun _ =>
    st cB (pt b34 0) a0.Not >>= fun _ =>
    ZaP.K1 b2 (pt b33 0) (pt b34 0)
   else
    ZaG a0.Nets >>= fun r35 =>
    newv 4 cB false >>= fun b36 =>
    newv 58 cL Sl.nil >>= fun b37 =>
    st cL (pt b37 0) r35 >>= fun _ =>
    st cB (pt b36 0) a0.Not >>= fun _ =>
    ZaP.K1 b2 (pt b37 0) (pt b36 0)
  else
   newv 4 cB false >>= fun b38 =>
   ZaG a0.Nets >>= fun r39 =>
   newv 58 cL Sl.nil >>= fun b40 =>
   st cL (pt b40 0) r39 >>= fun _ =>
   st cB (pt b38 0) a0.Not >>= fun _ =>
   ZaP.K1 b2 (pt b40 0) (pt b38 0)
 else
  if bfr o3 5 6 = true then
   if bfr o3 2 6 = true then
    newv 58 cL Sl.nil >>= fun b43 =>
    ZaG a0.Nets >>= fun r44 =>
    newv 4 cB false >>= fun b45 =>
    st cL (pt b43 0) r44 >>= fun _ =>
    st cB (pt b45 0) a0.Not >>= fun _ =>
    ZaP.K1 b2 (pt b43 0) (pt b45 0)
   else
    newv 58 cL Sl.nil >>= fun b46 =>
    newv 4 cB false >>= fun b47 =>
    ZaG a0.Nets >>= fun r48 =>
    st cL (pt b46 0) r48 >>= fun _ =>
    st cB (pt b47 0) a0.Not >>= fun _ =>
    ZaP.K1 b2 (pt b46 0) (pt b47 0)
  else
   newv 4 cB false >>= fun b49 =>
   newv 58 cL Sl.nil >>= fun b50 =>
   ZaG a0.Nets >>= fun r51 =>
   st cL (pt b50 0) r51 >>= fun _ =>
   st cB (pt b49 0) a0.Not >>= fun _ =>
   ZaP.K1 b2 (pt b50 0) (pt b49 0)
theorem ZfM (a0 : Zae) (a1 : Bool) : Ref Tryz.prog 35 [ZaE.val a0, .bool a1] (ZaP a0 a1) ZaP.out := by
 refine J.Fn Tryz.func35 ?_
 unfold ZaP
 refine SJ.sr 3 <| J.b 0 ZaE a0 fun b1 => J.B 0 fun b2 => J.z 1 <| SJ.seq <| SJ.draws (id := 1) (kd := [0, 1, 2, 0, 1, 2, 2, 2, 2]) (bef := [0, 1, 3, 0, 8, 0, 0, 103, 255]) (ord := [0, 1, 3, 4, 2, 5, 6, 7, 8]) (E := [(2, 5), (2, 6), (5, 6)]) ZcZ fun o3 hg_ => SJ.bfr hg_ (by decide) (fun ho29 => ?_) fun ho29 => ?_
 ·refine SJ.bfr hg_ (by decide) (fun ho30 => ?_) fun ho30 => ?_
  ·refine SJ.bfr hg_ (by decide) (fun ho31 => ?_) fun ho31 => ?_
   ·exact SJ.leaf hg_ (kd := [0, 1, 2, 0, 1, 2, 2, 2, 2]) (bef := [0, 1, 3, 0, 8, 0, 0, 103, 255]) (ord := [0, 1, 3, 4, 2, 5, 6, 7, 8]) (E := [(2, 5), (2, 6), (5, 6)]) (allB.cons ho29 (allB.cons ho30 (allB.cons ho31 allB.nil))) <| J.k 1 0 rfl Ty58 (Zax _) <| J.k 1 0 rfl Ty4 (ZaJ _) <| OJ.call (d := 9) (g := 52) (ats := #[58]) (args := [.tmp 8]) (owed := [⟨4, 4, (pt b1 0), cB.val a0.Not⟩]) F52 (ZaY a0.Nets) fun r32 => OW.known (j := 0) (q := a0.Not) Ty4 rfl (ZaJ a0) <| OW.nil <| OJ.newOf (d := 5) (op := (.alloc 58)) (cd := cL) (u := Sl.nil) (owed := [⟨4, 4, (pt b1 0), cB.val a0.Not⟩, ⟨1, 58, (pt b1 1), cL.val a0.Nets⟩]) (Zc8 Ty58) fun b33 => OW.known (j := 0) (q := a0.Not) Ty4 rfl (ZaJ a0) <| OW.known (j := 0) (q := a0.Nets) Ty58 rfl (Zax a0) <| OW.nil <| OJ.newOf (d := 6) (op := (.alloc 4)) (cd := cB) (u := false) (owed := [⟨4, 4, (pt b1 0), cB.val a0.Not⟩, ⟨1, 58, (pt b1 1), cL.val a0.Nets⟩]) (Zc8 Ty4) fun b34 => OW.known (j := 0) (q := a0.Not) Ty4 rfl (ZaJ a0) <| OW.known (j := 0) (q := a0.Nets) Ty58 rfl (Zax a0) <| OW.nil <| OJ.st (y := .tmp 5) (z := .tmp 9) (owed := [⟨4, 4, (pt b1 0), cB.val a0.Not⟩]) Ty58 <| OW.known (j := 0) (q := a0.Not) Ty4 rfl (ZaJ a0) <| OW.nil <| J.w 0 Ty4 <| J.z 0 <| SJ.forget (List.Sublist.cons _ List.Sublist.slnil) <| J.q <| ZaP.K1_ok b2 (pt b33 0) (pt b34 0)
   exact SJ.leaf hg_ (kd := [0, 1, 2, 0, 1, 2, 2, 2, 2]) (bef := [0, 1, 3, 0, 8, 0, 0, 103, 255]) (ord := [0, 1, 3, 4, 2, 6, 5, 7, 8]) (E := [(2, 6), (2, 5), (6, 5)]) (allB.cons ho30 (allB.cons ho29 (allB.cons ho31 allB.nil))) <| J.k 1 0 rfl Ty58 (Zax _) <| J.k 1 0 rfl Ty4 (ZaJ _) <| OJ.call (d := 9) (g := 52) (ats := #[58]) (args := [.tmp 8]) (owed := [⟨4, 4, (pt b1 0), cB.val a0.Not⟩]) F52 (ZaY a0.Nets) fun r35 => OW.known (j := 0) (q := a0.Not) Ty4 rfl (ZaJ a0) <| OW.nil <| OJ.newOf (d := 6) (op := (.alloc 4)) (cd := cB) (u := false) (owed := [⟨4, 4, (pt b1 0), cB.val a0.Not⟩, ⟨1, 58, (pt b1 1), cL.val a0.Nets⟩]) (Zc8 Ty4) fun b36 => OW.known (j := 0) (q := a0.Not) Ty4 rfl (ZaJ a0) <| OW.known (j := 0) (q := a0.Nets) Ty58 rfl (Zax a0) <| OW.nil <| OJ.newOf (d := 5) (op := (.alloc 58)) (cd := cL) (u := Sl.nil) (owed := [⟨4, 4, (pt b1 0), cB.val a0.Not⟩, ⟨1, 58, (pt b1 1), cL.val a0.Nets⟩]) (Zc8 Ty58) fun b37 => OW.known (j := 0) (q := a0.Not) Ty4 rfl (ZaJ a0) <| OW.known (j := 0) (q := a0.Nets) Ty58 rfl (Zax a0) <| OW.nil <| OJ.st (y := .tmp 5) (z := .tmp 9) (owed := [⟨4, 4, (pt b1 0), cB.val a0.Not⟩]) Ty58 <| OW.known (j := 0) (q := a0.Not) Ty4 rfl (ZaJ a0) <| OW.nil <| J.w 0 Ty4 <| J.z 0 <| SJ.forget (List.Sublist.cons _ List.Sublist.slnil) <| J.q <| ZaP.K1_ok b2 (pt b37 0) (pt b36 0)
  exact SJ.leaf hg_ (kd := [0, 1, 2, 0, 1, 2, 2, 2, 2]) (bef := [0, 1, 3, 0, 8, 0, 0, 103, 255]) (ord := [0, 1, 3, 4, 6, 2, 5, 7, 8]) (E := [(6, 2), (6, 5), (2, 5)]) (allB.cons ho30 (allB.cons (Zkg ho30 ho29) (allB.cons ho29 allB.nil))) <| J.k 1 0 rfl Ty58 (Zax _) <| J.k 1 0 rfl Ty4 (ZaJ _) <| OJ.newOf (d := 6) (op := (.alloc 4)) (cd := cB) (u := false) (owed := [⟨4, 4, (pt b1 0), cB.val a0.Not⟩, ⟨1, 58, (pt b1 1), cL.val a0.Nets⟩]) (Zc8 Ty4) fun b38 => OW.known (j := 0) (q := a0.Not) Ty4 rfl (ZaJ a0) <| OW.known (j := 0) (q := a0.Nets) Ty58 rfl (Zax a0) <| OW.nil <| OJ.call (d := 9) (g := 52) (ats := #[58]) (args := [.tmp 8]) (owed := [⟨4, 4, (pt b1 0), cB.val a0.Not⟩]) F52 (ZaY a0.Nets) fun r39 => OW.known (j := 0) (q := a0.Not) Ty4 rfl (ZaJ a0) <| OW.nil <| OJ.newOf (d := 5) (op := (.alloc 58)) (cd := cL) (u := Sl.nil) (owed := [⟨4, 4, (pt b1 0), cB.val a0.Not⟩, ⟨1, 58, (pt b1 1), cL.val a0.Nets⟩]) (Zc8 Ty58) fun b40 => OW.known (j := 0) (q := a0.Not) Ty4 rfl (ZaJ a0) <| OW.known (j := 0) (q := a0.Nets) Ty58 rfl (Zax a0) <| OW.nil <| OJ.st (y := .tmp 5) (z := .tmp 9) (owed := [⟨4, 4, (pt b1 0), cB.val a0.Not⟩]) Ty58 <| OW.known (j := 0) (q := a0.Not) Ty4 rfl (ZaJ a0) <| OW.nil <| J.w 0 Ty4 <| J.z 0 <| SJ.forget (List.Sublist.cons _ List.Sublist.slnil) <| J.q <| ZaP.K1_ok b2 (pt b40 0) (pt b38 0)
 refine SJ.bfr hg_ (by decide) (fun ho41 => ?_) fun ho41 => ?_
 ·refine SJ.bfr hg_ (by decide) (fun ho42 => ?_) fun ho42 => ?_
  ·exact SJ.leaf hg_ (kd := [0, 1, 2, 0, 1, 2, 2, 2, 2]) (bef := [0, 1, 3, 0, 8, 0, 0, 103, 255]) (ord := [0, 1, 3, 4, 5, 2, 6, 7, 8]) (E := [(5, 2), (5, 6), (2, 6)]) (allB.cons ho29 (allB.cons ho41 (allB.cons ho42 allB.nil))) <| J.k 1 0 rfl Ty58 (Zax _) <| J.k 1 0 rfl Ty4 (ZaJ _) <| OJ.newOf (d := 5) (op := (.alloc 58)) (cd := cL) (u := Sl.nil) (owed := [⟨4, 4, (pt b1 0), cB.val a0.Not⟩, ⟨1, 58, (pt b1 1), cL.val a0.Nets⟩]) (Zc8 Ty58) fun b43 => OW.known (j := 0) (q := a0.Not) Ty4 rfl (ZaJ a0) <| OW.known (j := 0) (q := a0.Nets) Ty58 rfl (Zax a0) <| OW.nil <| OJ.call (d := 9) (g := 52) (ats := #[58]) (args := [.tmp 8]) (owed := [⟨4, 4, (pt b1 0), cB.val a0.Not⟩]) F52 (ZaY a0.Nets) fun r44 => OW.known (j := 0) (q := a0.Not) Ty4 rfl (ZaJ a0) <| OW.nil <| OJ.newOf (d := 6) (op := (.alloc 4)) (cd := cB) (u := false) (owed := [⟨4, 4, (pt b1 0), cB.val a0.Not⟩, ⟨1, 58, (pt b1 1), cL.val a0.Nets⟩]) (Zc8 Ty4) fun b45 => OW.known (j := 0) (q := a0.Not) Ty4 rfl (ZaJ a0) <| OW.known (j := 0) (q := a0.Nets) Ty58 rfl (Zax a0) <| OW.nil <| OJ.st (y := .tmp 5) (z := .tmp 9) (owed := [⟨4, 4, (pt b1 0), cB.val a0.Not⟩]) Ty58 <| OW.known (j := 0) (q := a0.Not) Ty4 rfl (ZaJ a0) <| OW.nil <| J.w 0 Ty4 <| J.z 0 <| SJ.forget (List.Sublist.cons _ List.Sublist.slnil) <| J.q <| ZaP.K1_ok b2 (pt b43 0) (pt b45 0)
  exact SJ.leaf hg_ (kd := [0, 1, 2, 0, 1, 2, 2, 2, 2]) (bef := [0, 1, 3, 0, 8, 0, 0, 103, 255]) (ord := [0, 1, 3, 4, 5, 6, 2, 7, 8]) (E := [(5, 6), (5, 2), (6, 2)]) (allB.cons ho41 (allB.cons ho29 (allB.cons ho42 allB.nil))) <| J.k 1 0 rfl Ty58 (Zax _) <| J.k 1 0 rfl Ty4 (ZaJ _) <| OJ.newOf (d := 5) (op := (.alloc 58)) (cd := cL) (u := Sl.nil) (owed := [⟨4, 4, (pt b1 0), cB.val a0.Not⟩, ⟨1, 58, (pt b1 1), cL.val a0.Nets⟩]) (Zc8 Ty58) fun b46 => OW.known (j := 0) (q := a0.Not) Ty4 rfl (ZaJ a0) <| OW.known (j := 0) (q := a0.Nets) Ty58 rfl (Zax a0) <| OW.nil <| OJ.newOf (d := 6) (op := (.alloc 4)) (cd := cB) (u := false) (owed := [⟨4, 4, (pt b1 0), cB.val a0.Not⟩, ⟨1, 58, (pt b1 1), cL.val a0.Nets⟩]) (Zc8 Ty4) fun b47 => OW.known (j := 0) (q := a0.Not) Ty4 rfl (ZaJ a0) <| OW.known (j := 0) (q := a0.Nets) Ty58 rfl (Zax a0) <| OW.nil <| OJ.call (d := 9) (g := 52) (ats := #[58]) (args := [.tmp 8]) (owed := [⟨4, 4, (pt b1 0), cB.val a0.Not⟩]) F52 (ZaY a0.Nets) fun r48 => OW.known (j := 0) (q := a0.Not) Ty4 rfl (ZaJ a0) <| OW.nil <| OJ.st (y := .tmp 5) (z := .tmp 9) (owed := [⟨4, 4, (pt b1 0), cB.val a0.Not⟩]) Ty58 <| OW.known (j := 0) (q := a0.Not) Ty4 rfl (ZaJ a0) <| OW.nil <| J.w 0 Ty4 <| J.z 0 <| SJ.forget (List.Sublist.cons _ List.Sublist.slnil) <| J.q <| ZaP.K1_ok b2 (pt b46 0) (pt b47 0)
 exact SJ.leaf hg_ (kd := [0, 1, 2, 0, 1, 2, 2, 2, 2]) (bef := [0, 1, 3, 0, 8, 0, 0, 103, 255]) (ord := [0, 1, 3, 4, 6, 5, 2, 7, 8]) (E := [(6, 5), (6, 2), (5, 2)]) (allB.cons ho41 (allB.cons (Zkg ho41 ho29) (allB.cons ho29 allB.nil))) <| J.k 1 0 rfl Ty58 (Zax _) <| J.k 1 0 rfl Ty4 (ZaJ _) <| OJ.newOf (d := 6) (op := (.alloc 4)) (cd := cB) (u := false) (owed := [⟨4, 4, (pt b1 0), cB.val a0.Not⟩, ⟨1, 58, (pt b1 1), cL.val a0.Nets⟩]) (Zc8 Ty4) fun b49 => OW.known (j := 0) (q := a0.Not) Ty4 rfl (ZaJ a0) <| OW.known (j := 0) (q := a0.Nets) Ty58 rfl (Zax a0) <| OW.nil <| OJ.newOf (d := 5) (op := (.alloc 58)) (cd := cL) (u := Sl.nil) (owed := [⟨4, 4, (pt b1 0), cB.val a0.Not⟩, ⟨1, 58, (pt b1 1), cL.val a0.Nets⟩]) (Zc8 Ty58) fun b50 => OW.known (j := 0) (q := a0.Not) Ty4 rfl (ZaJ a0) <| OW.known (j := 0) (q := a0.Nets) Ty58 rfl (Zax a0) <| OW.nil <| OJ.call (d := 9) (g := 52) (ats := #[58]) (args := [.tmp 8]) (owed := [⟨4, 4, (pt b1 0), cB.val a0.Not⟩]) F52 (ZaY a0.Nets) fun r51 => OW.known (j := 0) (q := a0.Not) Ty4 rfl (ZaJ a0) <| OW.nil <| OJ.st (y := .tmp 5) (z := .tmp 9) (owed := [⟨4, 4, (pt b1 0), cB.val a0.Not⟩]) Ty58 <| OW.known (j := 0) (q := a0.Not) Ty4 rfl (ZaJ a0) <| OW.nil <| J.w 0 Ty4 <| J.z 0 <| SJ.forget (List.Sublist.cons _ List.Sublist.slnil) <| J.q <| ZaP.K1_ok b2 (pt b50 0) (pt b49 0)

/-! ### weir/rules.portOf: function 61 -/
noncomputable def ZdS.out (r_ : (Int × Bool)) : Value := .tuple #[.int .i64 r_.1, .bool r_.2]
noncomputable def ZdS (a0 : Zas) (a1 : Bool) : M (Int × Bool) :=
 slot 47 >>= fun b1 =>
 if a0.L4 = 2 then
  draw >>= fun _ =>
  if a1 = true then
   pure (a0.Udp.Dport, true)
  else
   pure (a0.Udp.Sport, true)
 else
  if a0.L4 = 3 then
   draw >>= fun _ =>
   if a1 = true then
    pure (a0.Tcp.Dport, true)
   else
    pure (a0.Tcp.Sport, true)
  else
   pure (0, false)
theorem ZjN (a0 : Zas) (a1 : Bool) : Ref Tryz.prog 61 [ZaB.val a0, .bool a1] (ZdS a0 a1) ZdS.out := by
 refine J.Fn Tryz.func61 ?_
 unfold ZdS
 refine SJ.sr 3 <| J.b 0 ZaB a0 fun b1 => J.z 2 <| SJ.sr 2 <| J.z 2 <| SJ.seq <| SJ.sr 2 <| J.k 1 0 rfl Ty3 (ZeW _) <| J.z 0 <| SJ.block (id := 0) <| SJ.sr 2 <| J.z 2 <| J.f ?_ ?_
 ·refine J.R 8 ZcZ <| J.k 2 0 rfl Ty3 (At.trans (ZfY _) (Zjm _)) <| J.k 2 0 rfl Ty3 (At.trans (ZfY _) (Zjn _)) <| J.z 2 <| SJ.inBlock <| SJ.seq <| SJ.sr 1 <| J.z 1 <| J.f ?_ ?_
  ·exact SJ.sr 3 <| J.z 3 <| J.r
  exact SJ.skip <| SJ.sr 3 <| J.z 3 <| J.r
 refine SJ.sr 2 <| J.z 2 <| J.f ?_ ?_
 ·refine J.R 8 ZcZ <| J.k 2 0 rfl Ty3 (At.trans (Zd1 _) (Zjo _)) <| J.k 2 0 rfl Ty3 (At.trans (Zd1 _) (Zjp _)) <| J.z 2 <| SJ.inBlock <| SJ.seq <| SJ.sr 1 <| J.z 1 <| J.f ?_ ?_
  ·exact SJ.sr 3 <| J.z 3 <| J.r
  exact SJ.skip <| SJ.sr 3 <| J.z 3 <| J.r
 exact SJ.sr 2 <| J.z 2 <| J.r

/-! ### weir/rules.portsTest$1$1: function 63 -/
noncomputable def Zce.out (r_ : Bool) : Value := .bool r_
noncomputable def Zce (a0 : ZaD) (a1 : Addr) : M Bool :=
 slot 93 >>= fun b1 =>
 ld (cI .i64) a1 >>= fun x2 =>
 Zbw x2 a0.Lo a0.Hi >>= fun r3 =>
 pure r3
theorem Zgt (a0 : ZaD) (a1 : Addr) : Ref Tryz.prog 63 [ZaU.val a0, .pointer (some a1)] (Zce a0 a1) Zce.out := by
 refine J.Fn Tryz.func63 ?_
 unfold Zce
 exact SJ.sr 2 <| J.b 0 ZaU a0 fun b1 => J.z 1 <| SJ.sr 7 <| J.l 0 Ty3 fun x2 => J.k 1 0 rfl Ty3 (ZcV _) <| J.k 1 0 rfl Ty3 (Zdo _) <| J.C 0 F18 (ZbQ _ _ _) fun r3 => J.z 1 <| J.r

/-! ### slices.IndexFunc[[]weir/api.Range,weir/api.Range]: function 81 -/
noncomputable def Zal.B : Code := bod Tryz.f81
noncomputable def Zal.cx : Fx := ⟨Tryz.prog, 81, Tryz.f81, none⟩
noncomputable def Zal.out (r_ : Int) : Value := .int .i64 r_
noncomputable def Zal.F1 (a0 : Sl) (a1v : Any) : LF Int Int := ⟨[.inBlock 0, .code (c2 (c2 Zal.B))], c1 (c2 (c1 (c2 Zal.B))), fun s_ => [(0, Sl.v a0), (1, a1v.v), (7, .int .i64 (a0.len : Int)), (8, .int .i64 s_)], fun s_ => [], (rt Zal.out)⟩
noncomputable def Zal.L1 (a0 : Sl) (a1 : ZaD → M Bool) (s1 : Int) : M (LS Int Int) :=
 if s1 < (a0.len : Int) then
  idx a0.a a0.len s1 2 >>= fun p7 =>
  ld ZaU p7 >>= fun x8 =>
  a1 x8 >>= fun r9 =>
  if r9 = true then
   pure (LS.done s1)
  else
   pure (LS.next (IntKind.wrap .i64 (s1 + 1)))
 else
  pure (LS.done (-1))
theorem Zal.L1_ok (a0 : Sl) (a1v : Any) (a1 : ZaD → M Bool) (h_a1 : ∀ (x0_ : ZaD), RefV Tryz.prog a1v.v [ZaU.val x0_] (a1 x0_) (fun r_ : Bool => .bool r_)) : LJ Zal.cx (Zal.F1 a0 a1v) (fun s_ => Zal.L1 a0 a1 s_) := by
 rintro s1
 show SJ _ _ _ _ (Zal.L1 a0 a1 s1) _
 unfold Zal.L1
 refine SJ.sr 1 <| J.z 1 <| SJ.seq <| J.f ?_ ?_
 ·refine SJ.skip <| SJ.seq <| SJ.block (id := 1) <| SJ.sr 2 <| J.z 2 <| SJ.sr 6 <| J.i 3 fun p7 => J.l 0 Ty93 fun x8 => J.v 0 (h_a1 x8) fun r9 => J.z 0 <| J.f ?_ ?_
  ·exact SJ.sr 2 <| J.z 2 <| J.r
  exact SJ.skip <| SJ.inBlock <| SJ.rg 2 <| J.z 2 <| J.o rfl
 exact SJ.exit (id := 0) (by rfl) <| SJ.sr 1 <| J.z 1 <| J.r
noncomputable def Zal (a0 : Sl) (a1 : ZaD → M Bool) : M Int :=
 Zc7 (fun s_ : Int => Zal.L1 a0 a1 s_) 0
theorem ZdR (a0 : Sl) (a1v : Any) (a1 : ZaD → M Bool) (h_a1 : ∀ (x0_ : ZaD), RefV Tryz.prog a1v.v [ZaU.val x0_] (a1 x0_) (fun r_ : Bool => .bool r_)) : Ref Tryz.prog 81 [Sl.v a0, a1v.v] (Zal a0 a1) Zal.out := by
 refine J.Fn Tryz.func81 ?_
 unfold Zal
 exact SJ.sr 1 <| J.z 1 <| SJ.seq <| SJ.sr 3 <| J.z 3 <| SJ.block (id := 0) <| J.L (Zal.L1_ok a0 a1v a1 h_a1)

/-! ### slices.ContainsFunc[[]weir/api.Range,weir/api.Range]: function 62 -/
noncomputable def Za5.out (r_ : Bool) : Value := .bool r_
noncomputable def Za5 (a0 : Sl) (a1 : ZaD → M Bool) : M Bool :=
 Zal a0 a1 >>= fun r1 =>
 pure (decide (r1 ≥ 0))
theorem ZdF (a0 : Sl) (a1v : Any) (a1 : ZaD → M Bool) (h_a1 : ∀ (x0_ : ZaD), RefV Tryz.prog a1v.v [ZaU.val x0_] (a1 x0_) (fun r_ : Bool => .bool r_)) : Ref Tryz.prog 62 [Sl.v a0, a1v.v] (Za5 a0 a1) Za5.out := by
 refine J.Fn Tryz.func62 ?_
 unfold Za5
 exact SJ.sr 1 <| J.z 1 <| SJ.sr 5 <| J.C 2 F81 (ZdR a0 a1v a1 h_a1) fun r1 => J.z 2 <| J.r

/-! ### weir/rules.portsTest$1: function 60 -/
noncomputable def Zci.out (r_ : Bool) : Value := .bool r_
noncomputable def Zci (a0 : Zas) (a1 : Addr) (a2 : Addr) : M Bool :=
 slot 47 >>= fun b1 =>
 ld cB a1 >>= fun x2 =>
 ZdS a0 x2 >>= fun r3 =>
 newv 3 (cI .i64) 0 >>= fun b4 =>
 st (cI .i64) (pt b4 0) r3.1 >>= fun _ =>
 (if r3.2 = true then
   ld cL a2 >>= fun x5 =>
   Za5 x5 (fun (q6 : ZaD) => Zce q6 (pt b4 0)) >>= fun r7 =>
   pure r7
  else
   pure false) >>= fun y8 =>
 pure y8
theorem Zhh (a0 : Zas) (a1 : Addr) (a2 : Addr) : Ref Tryz.prog 60 [ZaB.val a0, .pointer (some a1), .pointer (some a2)] (Zci a0 a1 a2) Zci.out := by
 refine J.Fn Tryz.func60 ?_
 unfold Zci
 refine SJ.sr 2 <| J.b 0 ZaB a0 fun b1 => J.z 1 <| SJ.sr 9 <| J.k 0 0 rfl Ty47 (At.whole _) <| J.l 0 Ty4 fun x2 => J.C 0 F61 (ZjN _ _) fun r3 => J.A 3 Ty3 fun b4 => J.w 0 Ty3 <| J.z 1 <| SJ.sr 7 <| J.j 2 3 .bool ?_ ?_ fun y8 => ?_
 ·exact J.l 0 Ty59 fun x5 => J.C 1 F62 (ZdF x5 ⟨.func (.func 63) #[] #[.pointer (some (pt b4 0))], rfl⟩ (fun (q6 : ZaD) => Zce q6 (pt b4 0)) (fun q6 => RefV.of (first := []) (cap := [.pointer (some (pt b4 0))]) F63 (Zgt q6 (pt b4 0)))) fun r7 => J.e 1
 ·exact J.e 4
 exact J.z 1 <| J.r

/-! ### weir/rules.portsTest: function 36 -/
noncomputable def Zcy.out (r_ : Any) : Value := r_.v
noncomputable def Zcy (a0 : Zae) (a1 : Bool) : M Any :=
 slot 61 >>= fun b1 =>
 newv 4 cB a1 >>= fun b2 =>
 Za2 a0.Ports >>= fun r3 =>
 newv 59 cL Sl.nil >>= fun b4 =>
 st cL (pt b4 0) r3 >>= fun _ =>
 pure (⟨.func (.func 60) #[] #[.pointer (some (pt b2 0)), .pointer (some (pt b4 0))], rfl⟩ : Any)
theorem Zfm (a0 : Zae) (a1 : Bool) : Ref Tryz.prog 36 [ZaE.val a0, .bool a1] (Zcy a0 a1) Zcy.out := by
 refine J.Fn Tryz.func36 ?_
 unfold Zcy
 exact SJ.sr 3 <| J.b 0 ZaE a0 fun b1 => J.B 0 fun b2 => J.z 1 <| SJ.sr 5 <| J.k 1 0 rfl Ty59 (ZaR _) <| J.C 0 F54 (ZcT _) fun r3 => J.A 0 Ty59 fun b4 => J.w 0 Ty59 <| J.z 0 <| SJ.sr 2 <| J.z 2 <| J.r

/-! ### weir/rules.tests: function 22 -/
noncomputable def Zd8.out (r_ : Sl) : Value := Sl.v r_
noncomputable def Zd8 (a0 : Zah) : M Sl :=
 slot 63 >>= fun b1 =>
 newv 71 cL Sl.nil >>= fun b2 =>
 Zbs (a0.In != 0) (⟨.iface 111 (.int .i64 a0.In), rfl⟩ : Any) (pt b2 0) >>= fun r3 =>
 Zbs (a0.Vid != 0) (⟨.iface 112 (.int .i64 a0.Vid), rfl⟩ : Any) (pt b2 0) >>= fun r4 =>
 Zbs (a0.Kind != 0) (⟨.iface 113 (.int .i64 a0.Kind), rfl⟩ : Any) (pt b2 0) >>= fun r5 =>
 Zbs (a0.Proto != 0) (⟨.iface 114 (.int .i64 a0.Proto), rfl⟩ : Any) (pt b2 0) >>= fun r6 =>
 draw >>= fun _ =>
 ZaP a0.From false >>= fun r7 =>
 Zbs (decide ((a0.From.Nets.len : Int) > 0)) (⟨.iface 116 (r7.v), rfl⟩ : Any) (pt b2 0) >>= fun r8 =>
 draw >>= fun _ =>
 Zcy a0.From false >>= fun r9 =>
 Zbs (decide ((a0.From.Ports.len : Int) > 0)) (⟨.iface 116 (r9.v), rfl⟩ : Any) (pt b2 0) >>= fun r10 =>
 draw >>= fun _ =>
 ZaP a0.To true >>= fun r11 =>
 Zbs (decide ((a0.To.Nets.len : Int) > 0)) (⟨.iface 116 (r11.v), rfl⟩ : Any) (pt b2 0) >>= fun r12 =>
 draw >>= fun _ =>
 Zcy a0.To true >>= fun r13 =>
 Zbs (decide ((a0.To.Ports.len : Int) > 0)) (⟨.iface 116 (r13.v), rfl⟩ : Any) (pt b2 0) >>= fun r14 =>
 Zbs ((bor .i64 a0.Set a0.Clear) != 0) (⟨.iface 119 (Zbe.val (⟨a0.Set, a0.Clear⟩ : Zby)), rfl⟩ : Any) (pt b2 0) >>= fun r15 =>
 Zbs (a0.Type_ != 0) (⟨.iface 120 (.int .i64 a0.Type_), rfl⟩ : Any) (pt b2 0) >>= fun r16 =>
 Zbs a0.Pieces (⟨.iface 122 (ZbK.val ZcN), rfl⟩ : Any) (pt b2 0) >>= fun r17 =>
 ld cL (pt b2 0) >>= fun x18 =>
 pure x18
theorem Zks (a0 : Zah) : Ref Tryz.prog 22 [Zan.val a0] (Zd8 a0) Zd8.out := by
 refine J.Fn Tryz.func22 ?_
 unfold Zd8
 exact SJ.sr 2 <| J.b 0 Zan a0 fun b1 => J.z 1 <| SJ.sr 1 <| J.A 0 Ty71 fun b2 => J.z 0 <| SJ.sr 2 <| J.z 2 <| SJ.sr 8 <| J.k 2 0 rfl Ty3 (ZdJ _) <| J.k 2 0 rfl Ty3 (ZdJ _) <| J.v 1 (RefV.of (first := []) (cap := [.pointer (some (pt b2 0))]) (vals := [.bool (a0.In != 0), .iface 111 (.int .i64 a0.In)]) F34 (ZbI (a0.In != 0) (⟨.iface 111 (.int .i64 a0.In), rfl⟩ : Any) (pt b2 0))) fun r3 => J.z 0 <| SJ.sr 8 <| J.k 2 0 rfl Ty3 (Zdn _) <| J.k 2 0 rfl Ty3 (Zdn _) <| J.v 1 (RefV.of (first := []) (cap := [.pointer (some (pt b2 0))]) (vals := [.bool (a0.Vid != 0), .iface 112 (.int .i64 a0.Vid)]) F34 (ZbI (a0.Vid != 0) (⟨.iface 112 (.int .i64 a0.Vid), rfl⟩ : Any) (pt b2 0))) fun r4 => J.z 0 <| SJ.sr 8 <| J.k 2 0 rfl Ty3 (ZbU _) <| J.k 2 0 rfl Ty3 (ZbU _) <| J.v 1 (RefV.of (first := []) (cap := [.pointer (some (pt b2 0))]) (vals := [.bool (a0.Kind != 0), .iface 113 (.int .i64 a0.Kind)]) F34 (ZbI (a0.Kind != 0) (⟨.iface 113 (.int .i64 a0.Kind), rfl⟩ : Any) (pt b2 0))) fun r5 => J.z 0 <| SJ.sr 8 <| J.k 2 0 rfl Ty3 (Zbu _) <| J.k 2 0 rfl Ty3 (Zbu _) <| J.v 1 (RefV.of (first := []) (cap := [.pointer (some (pt b2 0))]) (vals := [.bool (a0.Proto != 0), .iface 114 (.int .i64 a0.Proto)]) F34 (ZbI (a0.Proto != 0) (⟨.iface 114 (.int .i64 a0.Proto), rfl⟩ : Any) (pt b2 0))) fun r6 => J.z 0 <| SJ.seq <| J.R 11 ZcZ <| J.k 3 0 rfl Ty58 (At.trans (ZbJ _) (Zax _)) <| J.k 3 0 rfl Ty61 (ZbJ _) <| OJ.call (d := 46) (g := 35) (ats := #[61, 4]) (args := [.tmp 45, .const (.bool false)]) (owed := [⟨3, 58, (pt b1 7), cL.val a0.From.Nets⟩]) F35 (ZfM a0.From false) fun r7 => OW.known (j := 0) (q := a0.From.Nets) Ty58 rfl (At.trans (ZbJ a0) (Zax a0.From)) <| OW.nil <| J.v 1 (RefV.of (first := []) (cap := [.pointer (some (pt b2 0))]) (vals := [.bool (decide ((a0.From.Nets.len : Int) > 0)), .iface 116 (r7.v)]) F34 (ZbI (decide ((a0.From.Nets.len : Int) > 0)) (⟨.iface 116 (r7.v), rfl⟩ : Any) (pt b2 0))) fun r8 => J.z 0 <| SJ.seq <| J.R 11 ZcZ <| J.k 3 0 rfl Ty59 (At.trans (ZbJ _) (ZaR _)) <| J.k 3 0 rfl Ty61 (ZbJ _) <| OJ.call (d := 57) (g := 36) (ats := #[61, 4]) (args := [.tmp 56, .const (.bool false)]) (owed := [⟨3, 59, (pt b1 8), cL.val a0.From.Ports⟩]) F36 (Zfm a0.From false) fun r9 => OW.known (j := 0) (q := a0.From.Ports) Ty59 rfl (At.trans (ZbJ a0) (ZaR a0.From)) <| OW.nil <| J.v 1 (RefV.of (first := []) (cap := [.pointer (some (pt b2 0))]) (vals := [.bool (decide ((a0.From.Ports.len : Int) > 0)), .iface 116 (r9.v)]) F34 (ZbI (decide ((a0.From.Ports.len : Int) > 0)) (⟨.iface 116 (r9.v), rfl⟩ : Any) (pt b2 0))) fun r10 => J.z 0 <| SJ.seq <| J.R 11 ZcZ <| J.k 3 0 rfl Ty58 (At.trans (ZbL _) (Zax _)) <| J.k 3 0 rfl Ty61 (ZbL _) <| OJ.call (d := 68) (g := 35) (ats := #[61, 4]) (args := [.tmp 67, .const (.bool true)]) (owed := [⟨3, 58, (pt b1 10), cL.val a0.To.Nets⟩]) F35 (ZfM a0.To true) fun r11 => OW.known (j := 0) (q := a0.To.Nets) Ty58 rfl (At.trans (ZbL a0) (Zax a0.To)) <| OW.nil <| J.v 1 (RefV.of (first := []) (cap := [.pointer (some (pt b2 0))]) (vals := [.bool (decide ((a0.To.Nets.len : Int) > 0)), .iface 116 (r11.v)]) F34 (ZbI (decide ((a0.To.Nets.len : Int) > 0)) (⟨.iface 116 (r11.v), rfl⟩ : Any) (pt b2 0))) fun r12 => J.z 0 <| SJ.seq <| J.R 11 ZcZ <| J.k 3 0 rfl Ty59 (At.trans (ZbL _) (ZaR _)) <| J.k 3 0 rfl Ty61 (ZbL _) <| OJ.call (d := 79) (g := 36) (ats := #[61, 4]) (args := [.tmp 78, .const (.bool true)]) (owed := [⟨3, 59, (pt b1 11), cL.val a0.To.Ports⟩]) F36 (Zfm a0.To true) fun r13 => OW.known (j := 0) (q := a0.To.Ports) Ty59 rfl (At.trans (ZbL a0) (ZaR a0.To)) <| OW.nil <| J.v 1 (RefV.of (first := []) (cap := [.pointer (some (pt b2 0))]) (vals := [.bool (decide ((a0.To.Ports.len : Int) > 0)), .iface 116 (r13.v)]) F34 (ZbI (decide ((a0.To.Ports.len : Int) > 0)) (⟨.iface 116 (r13.v), rfl⟩ : Any) (pt b2 0))) fun r14 => J.z 0 <| SJ.sr 14 <| J.k 2 0 rfl Ty3 (Zb7 _) <| J.k 1 0 rfl Ty3 (ZbM _) <| J.k 3 0 rfl Ty3 (Zb7 _) <| J.k 1 0 rfl Ty3 (ZbM _) <| J.u 0 Zs9 (.f 0 (ZgY _ a0.Set) (.f 1 (Zge _ a0.Clear) .nil)) <| J.v 1 (RefV.of (first := []) (cap := [.pointer (some (pt b2 0))]) (vals := [.bool ((bor .i64 a0.Set a0.Clear) != 0), .iface 119 (Zbe.val (⟨a0.Set, a0.Clear⟩ : Zby))]) F34 (ZbI ((bor .i64 a0.Set a0.Clear) != 0) (⟨.iface 119 (Zbe.val (⟨a0.Set, a0.Clear⟩ : Zby)), rfl⟩ : Any) (pt b2 0))) fun r15 => J.z 0 <| SJ.sr 8 <| J.k 2 0 rfl Ty3 (Zcu _) <| J.k 2 0 rfl Ty3 (Zcu _) <| J.v 1 (RefV.of (first := []) (cap := [.pointer (some (pt b2 0))]) (vals := [.bool (a0.Type_ != 0), .iface 120 (.int .i64 a0.Type_)]) F34 (ZbI (a0.Type_ != 0) (⟨.iface 120 (.int .i64 a0.Type_), rfl⟩ : Any) (pt b2 0))) fun r16 => J.z 0 <| SJ.sr 6 <| J.k 2 0 rfl Ty4 (ZdQ _) <| J.u 0 Zs8 .nil <| J.v 1 (RefV.of (first := []) (cap := [.pointer (some (pt b2 0))]) (vals := [.bool a0.Pieces, .iface 122 (ZbK.val ZcN)]) F34 (ZbI a0.Pieces (⟨.iface 122 (ZbK.val ZcN), rfl⟩ : Any) (pt b2 0))) fun r17 => J.z 0 <| SJ.sr 2 <| J.l 0 Ty71 fun x18 => J.z 1 <| J.r

/-! ### (*weir/rules.Set).add: function 11 -/
noncomputable def Zdy.out (r_ : Unit) : Value := .tuple #[]
noncomputable def Zdy (a0 : (Option Addr)) (a1 : Zah) : M Unit :=
 slot 63 >>= fun b1 =>
 draw >>= fun _ =>
 nilck a0 >>= fun p2 =>
 ld cL p2 >>= fun x3 =>
 Zd9 a1 >>= fun r4 =>
 same cL p2 x3 >>= fun _ =>
 slot 63 >>= fun b5 =>
 same cL p2 x3 >>= fun _ =>
 appl Zan 63 192 Zaa x3 [r4] >>= fun r6 =>
 nilck a0 >>= fun p7 =>
 st cL p7 r6 >>= fun _ =>
 draw >>= fun _ =>
 nilck a0 >>= fun p8 =>
 ld cL (Addr.add p8 1) >>= fun x9 =>
 Zd8 a1 >>= fun r10 =>
 same cL (Addr.add p8 1) x9 >>= fun _ =>
 slot 71 >>= fun b11 =>
 same cL (Addr.add p8 1) x9 >>= fun _ =>
 appl cL 71 24 Sl.nil x9 [r10] >>= fun r12 =>
 nilck a0 >>= fun p13 =>
 st cL (Addr.add p13 1) r12 >>= fun _ =>
 pure ()
theorem Zjh (a0 : (Option Addr)) (a1 : Zah) : Ref Tryz.prog 11 [.pointer a0, Zan.val a1] (Zdy a0 a1) Zdy.out := by
 refine J.Fn Tryz.func11 ?_
 unfold Zdy
 exact SJ.sr 1 <| J.b 0 Zan a1 fun b1 => J.z 0 <| SJ.seq <| J.R 12 ZcZ <| J.n 2 fun p2 => J.l 1 Ty22 fun x3 => J.k 0 0 rfl Ty63 (At.whole _) <| OJ.call (d := 10) (g := 21) (ats := #[63]) (args := [.tmp 9]) (owed := [⟨4, 22, p2, cL.val x3⟩]) F21 (Zkt a1) fun r4 => OW.same Ty22 <| OW.nil <| OJ.rowSlot (d := 11) (t := 22) (parts := [(0, .tmp 10)]) (ps := [(0, Zan.val r4)]) (cd := Zan) (⟨[r4], rfl⟩ : Vec Zah 1) (owed := [⟨4, 22, p2, cL.val x3⟩]) Ty63 (ZbV.cons (cd := Zan) (q := r4) (o := 0) rfl (Upd.arr (i := 0) (by decide) (by decide)) ZbV.nil) fun b5 => OW.same Ty22 <| OW.nil <| J.p 0 0 rfl Ty63 fun r6 => J.n 0 fun p7 => J.w 1 Ty22 <| J.z 0 <| J.R 12 ZcZ <| J.n 2 fun p8 => J.l 1 Ty66 fun x9 => J.k 0 1 rfl Ty63 (At.whole _) <| OJ.call (d := 21) (g := 22) (ats := #[63]) (args := [.tmp 20]) (owed := [⟨4, 66, (Addr.add p8 1), cL.val x9⟩]) F22 (Zks a1) fun r10 => OW.same Ty66 <| OW.nil <| OJ.rowSlot (d := 22) (t := 66) (parts := [(0, .tmp 21)]) (ps := [(0, cL.val r10)]) (cd := cL) (⟨[r10], rfl⟩ : Vec Sl 1) (owed := [⟨4, 66, (Addr.add p8 1), cL.val x9⟩]) Ty71 (ZbV.cons (cd := cL) (q := r10) (o := 0) rfl (Upd.arr (i := 0) (by decide) (by decide)) ZbV.nil) fun b11 => OW.same Ty66 <| OW.nil <| J.p 0 0 rfl Ty71 fun r12 => J.n 0 fun p13 => J.w 1 Ty66 <| J.z 0 <| SJ.end_ rfl (Res.run (ys := []) .nil rfl)

/-! ### weir/rules.New: function 6 -/
noncomputable def ZbH.B : Code := bod Tryz.f6
noncomputable def ZbH.cx : Fx := ⟨Tryz.prog, 6, Tryz.f6, none⟩
noncomputable def ZbH.out (r_ : ((Option Addr) × Int × Int)) : Value := .tuple #[.pointer r_.1, .int .i64 r_.2.1, .int .i64 r_.2.2]
noncomputable def ZbH.F1 (a0 : Sl) (b1 : Nat) : LF Int ((Option Addr) × Int × Int) := ⟨[.inBlock 0, .code (c2 (c2 (c2 (c2 ZbH.B))))], c1 (c2 (c1 (c2 (c2 (c2 ZbH.B))))), fun s_ => [(5, .pointer (some (pt b1 0))), (14, Sl.v a0), (15, .int .i64 (a0.len : Int)), (16, .int .i64 s_)], fun s_ => [], (rt ZbH.out)⟩
noncomputable def ZbH.L1 (a0 : Sl) (b1 : Nat) (s2 : Int) : M (LS Int ((Option Addr) × Int × Int)) :=
 if s2 < (a0.len : Int) then
  idx a0.a a0.len s2 16 >>= fun p10 =>
  ld Zan p10 >>= fun x11 =>
  slot 63 >>= fun b12 =>
  ZaQ x11 >>= fun r13 =>
  if r13 ≠ 0 then
   pure (LS.done (none, r13, s2))
  else
   Zdy (some (pt b1 0)) x11 >>= fun r14 =>
   pure (LS.next (IntKind.wrap .i64 (s2 + 1)))
 else
  pure (LS.done ((some (pt b1 0)), 0, 0))
theorem ZbH.L1_ok (a0 : Sl) (b1 : Nat) : LJ ZbH.cx (ZbH.F1 a0 b1) (fun s_ => ZbH.L1 a0 b1 s_) := by
 rintro s2
 show SJ _ _ _ _ (ZbH.L1 a0 b1 s2) _
 unfold ZbH.L1
 refine SJ.sr 1 <| J.z 1 <| SJ.seq <| J.f ?_ ?_
 ·refine SJ.skip <| SJ.seq <| SJ.block (id := 1) <| SJ.sr 6 <| J.i 1 fun p10 => J.l 0 Ty63 fun x11 => J.a 0 Ty63 fun b12 => J.s 1 0 rfl Ty63 (Upd.w x11) <| J.z 0 <| SJ.seq <| SJ.sr 3 <| J.k 0 0 rfl Ty63 (At.whole _) <| J.C 0 F10 (ZfC _) fun r13 => J.z 1 <| SJ.sr 2 <| J.z 2 <| J.f ?_ ?_
  ·exact SJ.sr 5 <| J.z 5 <| J.r
  exact SJ.skip <| SJ.rg 3 <| J.k 1 0 rfl Ty63 (At.whole _) <| J.C 0 F11 (Zjh _ _) fun r14 => J.z 0 <| SJ.inBlock <| SJ.rg 2 <| J.z 2 <| SJ.forget (List.Sublist.cons _ List.Sublist.slnil) <| J.o rfl
 exact SJ.exit (id := 0) (by rfl) <| SJ.sr 4 <| J.z 4 <| J.r
noncomputable def ZbH (a0 : Sl) : M ((Option Addr) × Int × Int) :=
 if (a0.len : Int) > 256 then
  pure (none, 167, 256)
 else
  newv 68 ZcF Zhz >>= fun b1 =>
  Zc7 (fun s_ : Int => ZbH.L1 a0 b1 s_) 0
theorem ZiR (a0 : Sl) : Ref Tryz.prog 6 [Sl.v a0] (ZbH a0) ZbH.out := by
 refine J.Fn Tryz.func6 ?_
 unfold ZbH
 refine SJ.sr 3 <| J.z 3 <| SJ.seq <| SJ.sr 3 <| J.z 3 <| J.f ?_ ?_
 ·exact SJ.sr 3 <| J.z 3 <| J.r
 exact SJ.skip <| SJ.sr 3 <| J.u 0 Ty68 .nil <| J.B 0 fun b1 => J.z 1 <| SJ.seq <| SJ.sr 3 <| J.z 3 <| SJ.block (id := 0) <| J.L (ZbH.L1_ok a0 b1)

/-! ### (weir/rules.inTest).holds: function 146 -/
noncomputable def Zcl.out (r_ : Bool) : Value := .bool r_
noncomputable def Zcl (a0 : Int) (a1 : Int) (a2 : Zas) : M Bool :=
 slot 47 >>= fun b1 =>
 pure ((IntKind.wrap .i64 (a0 - 1)) == a1)
theorem ZgD (a0 : Int) (a1 : Int) (a2 : Zas) : Ref Tryz.prog 146 [.int .i64 a0, .int .i64 a1, ZaB.val a2] (Zcl a0 a1 a2) Zcl.out := by
 refine J.Fn Tryz.func146 ?_
 unfold Zcl
 exact SJ.sr 2 <| J.b 0 ZaB a2 fun b1 => J.z 1 <| SJ.sr 5 <| J.z 5 <| J.r

/-! ### (weir/rules.vidTest).holds: function 147 -/
noncomputable def Zcd.out (r_ : Bool) : Value := .bool r_
noncomputable def Zcd (a0 : Int) (a1 : Int) (a2 : Zas) : M Bool :=
 slot 47 >>= fun b1 =>
 (if (a2.Tags.len : Int) > 0 then
   idx a2.Tags.a a2.Tags.len 0 4 >>= fun p2 =>
   ld (cI .i64) (Addr.add p2 3) >>= fun x3 =>
   pure (x3 == a0)
  else
   pure false) >>= fun y4 =>
 pure y4
theorem Zgr (a0 : Int) (a1 : Int) (a2 : Zas) : Ref Tryz.prog 147 [.int .i64 a0, .int .i64 a1, ZaB.val a2] (Zcd a0 a1 a2) Zcd.out := by
 refine J.Fn Tryz.func147 ?_
 unfold Zcd
 refine SJ.sr 2 <| J.b 0 ZaB a2 fun b1 => J.z 1 <| SJ.sr 14 <| J.k 1 0 rfl Ty25 (Zfz _) <| J.j 3 7 .bool ?_ ?_ fun y4 => ?_
 ·exact J.k 1 0 rfl Ty25 (Zfz _) <| J.i 0 fun p2 => J.l 1 Ty3 fun x3 => J.e 3
 ·exact J.e 8
 exact J.z 1 <| J.r

/-! ### (weir/rules.kindTest).holds: function 148 -/
noncomputable def Zb4.out (r_ : Bool) : Value := .bool r_
noncomputable def Zb4 (a0 : Int) (a1 : Int) (a2 : Zas) : M Bool :=
 slot 47 >>= fun b1 =>
 pure (a2.Kind == a0)
theorem Zf4 (a0 : Int) (a1 : Int) (a2 : Zas) : Ref Tryz.prog 148 [.int .i64 a0, .int .i64 a1, ZaB.val a2] (Zb4 a0 a1 a2) Zb4.out := by
 refine J.Fn Tryz.func148 ?_
 unfold Zb4
 exact SJ.sr 2 <| J.b 0 ZaB a2 fun b1 => J.z 1 <| SJ.sr 5 <| J.k 1 0 rfl Ty3 (Zb6 _) <| J.z 3 <| J.r

/-! ### (weir/rules.protoTest).holds: function 149 -/
noncomputable def ZbR.out (r_ : Bool) : Value := .bool r_
noncomputable def ZbR (a0 : Int) (a1 : Int) (a2 : Zas) : M Bool :=
 slot 47 >>= fun b1 =>
 (if a2.Kind = 2 then
   pure (a2.Ip4.Proto == a0)
  else
   pure false) >>= fun y2 =>
 (if y2 = true then
   pure true
  else
   (if a2.Kind = 3 then
     pure (a2.Ip6.Next == a0)
    else
     pure false) >>= fun y3 =>
   pure y3) >>= fun y4 =>
 pure y4
theorem ZfK (a0 : Int) (a1 : Int) (a2 : Zas) : Ref Tryz.prog 149 [.int .i64 a0, .int .i64 a1, ZaB.val a2] (ZbR a0 a1 a2) ZbR.out := by
 refine J.Fn Tryz.func149 ?_
 unfold ZbR
 refine SJ.sr 2 <| J.b 0 ZaB a2 fun b1 => J.z 1 <| SJ.sr 23 <| J.k 1 0 rfl Ty3 (Zb6 _) <| J.j 2 5 .bool ?_ ?_ fun y2 => ?_
 ·exact J.k 2 0 rfl Ty3 (At.trans (ZcQ _) (Zjq _)) <| J.e 3
 ·exact J.e 6
 refine J.g 1 <| OJ.join (b := y2) [11, 12, 13, 14, 15, 16, 17, 18, 19, 20, 21] [22] [28] (fun y4 => [(28, .bool y4)]) [] [] (t := 17) Iff.rfl (fun hp_ => ?_) (fun hp_ => ?_) (fun _ _ _ _ _ _ h_ => h_) fun y4 => ?_
 ·exact J.g 11 <| OJ.nil ⟨(Cov.mem Cov.nil), rfl, _, rfl, by kernel_rfl⟩
 ·refine J.k 1 0 rfl Ty3 (Zb6 _) <| J.g 2 <| OJ.join (b := (a2.Kind == 3)) [15, 16, 17, 18, 19, 20] [21] [17, 27] (fun y3 => [(17, .bool false), (27, .bool y3)]) [] [] (t := 21) beq_iff_eq (fun hp_ => ?_) (fun hp_ => ?_) (fun _ _ _ _ _ hq_ h_ => ⟨fun e_ he_ => (hq_ e_ he_).elim (fun h => h_.1 e_ h) (fun h => nomatch h), h_.2⟩) fun y3 => ?_
  ·exact J.k 2 0 rfl Ty3 (At.trans (Zdp _) (Zkn _)) <| J.g 3 <| OJ.nil ⟨(Cov.mem Cov.nil), rfl, _, rfl, by kernel_rfl⟩
  ·exact J.g 6 <| OJ.nil ⟨(Cov.mem Cov.nil), rfl, _, rfl, by kernel_rfl⟩
  exact J.g 1 <| OJ.nil ⟨(Cov.mem Cov.nil), rfl, _, rfl, by kernel_rfl⟩
 exact J.z 1 <| J.r

/-! ### (weir/rules.sideTest).holds: function 150 -/
noncomputable def ZbN.out (r_ : Bool) : Value := .bool r_
noncomputable def ZbN (a0 : Zas → M Bool) (a1 : Int) (a2 : Zas) : M Bool :=
 slot 47 >>= fun b1 =>
 a0 a2 >>= fun r2 =>
 pure r2
theorem Zf3 (a0v : Any) (a0 : Zas → M Bool) (h_a0 : ∀ (x0_ : Zas), RefV Tryz.prog a0v.v [ZaB.val x0_] (a0 x0_) (fun r_ : Bool => .bool r_)) (a1 : Int) (a2 : Zas) : Ref Tryz.prog 150 [a0v.v, .int .i64 a1, ZaB.val a2] (ZbN a0 a1 a2) ZbN.out := by
 refine J.Fn Tryz.func150 ?_
 unfold ZbN
 exact SJ.sr 2 <| J.b 0 ZaB a2 fun b1 => J.z 1 <| SJ.sr 4 <| J.k 1 0 rfl Ty47 (At.whole _) <| J.v 0 (h_a0 a2) fun r2 => J.z 1 <| J.r

/-! ### (weir/rules.flagTest).holds: function 151 -/
noncomputable def Zb5.out (r_ : Bool) : Value := .bool r_
noncomputable def Zb5 (a0 : Zby) (a1 : Int) (a2 : Zas) : M Bool :=
 slot 119 >>= fun b1 =>
 slot 47 >>= fun b2 =>
 (if a2.L4 = 3 then
   pure ((band .i64 a2.Tcp.Flags a0.set) == a0.set)
  else
   pure false) >>= fun y3 =>
 (if y3 = true then
   pure ((band .i64 a2.Tcp.Flags a0.clear) == 0)
  else
   pure false) >>= fun y4 =>
 pure y4
theorem Zf5 (a0 : Zby) (a1 : Int) (a2 : Zas) : Ref Tryz.prog 151 [Zbe.val a0, .int .i64 a1, ZaB.val a2] (Zb5 a0 a1 a2) Zb5.out := by
 refine J.Fn Tryz.func151 ?_
 unfold Zb5
 refine SJ.sr 3 <| J.b 0 Zbe a0 fun b1 => J.b 0 ZaB a2 fun b2 => J.z 1 <| SJ.sr 24 <| J.k 1 0 rfl Ty3 (ZeW _) <| J.j 2 9 .bool ?_ ?_ fun y3 => ?_
 ·exact J.k 2 0 rfl Ty3 (At.trans (Zd1 _) (Zgq _)) <| J.k 1 1 rfl Ty3 (ZeQ _) <| J.k 2 1 rfl Ty3 (ZeQ _) <| J.e 2
 ·exact J.e 10
 refine J.j 1 7 .bool ?_ ?_ fun y4 => ?_
 ·exact J.k 2 0 rfl Ty3 (At.trans (Zd1 _) (Zgq _)) <| J.k 1 1 rfl Ty3 (Zgg _) <| J.e 3
 ·exact J.e 8
 exact J.z 1 <| J.r

/-! ### (weir/rules.typeTest).holds: function 152 -/
noncomputable def Zb2.out (r_ : Bool) : Value := .bool r_
noncomputable def Zb2 (a0 : Int) (a1 : Int) (a2 : Zas) : M Bool :=
 slot 47 >>= fun b1 =>
 (if a2.L4 = 1 then
   pure (a2.Icmp.Type_ == (IntKind.wrap .i64 (a0 - 1)))
  else
   pure false) >>= fun y2 =>
 pure y2
theorem Zf2 (a0 : Int) (a1 : Int) (a2 : Zas) : Ref Tryz.prog 152 [.int .i64 a0, .int .i64 a1, ZaB.val a2] (Zb2 a0 a1 a2) Zb2.out := by
 refine J.Fn Tryz.func152 ?_
 unfold Zb2
 refine SJ.sr 2 <| J.b 0 ZaB a2 fun b1 => J.z 1 <| SJ.sr 12 <| J.k 1 0 rfl Ty3 (ZeW _) <| J.j 2 6 .bool ?_ ?_ fun y2 => ?_
 ·exact J.k 2 0 rfl Ty3 (At.trans (Ziq _) (ZiM _)) <| J.e 4
 ·exact J.e 7
 exact J.z 1 <| J.r

/-! ### (weir/rules.pieceTest).holds: function 153 -/
noncomputable def ZbS.out (r_ : Bool) : Value := .bool r_
noncomputable def ZbS (a0 : Zdl) (a1 : Int) (a2 : Zas) : M Bool :=
 slot 122 >>= fun b1 =>
 slot 47 >>= fun b2 =>
 (if a2.Kind = 2 then
   (if a2.Ip4.MF = true then
     pure true
    else
     pure (decide (a2.Ip4.Off > 0))) >>= fun y3 =>
   pure y3
  else
   pure false) >>= fun y4 =>
 (if y4 = true then
   pure true
  else
   (if a2.Kind = 3 then
     pure a2.Ip6.Frag.Has
    else
     pure false) >>= fun y5 =>
   pure y5) >>= fun y6 =>
 pure y6
theorem ZfL (a0 : Zdl) (a1 : Int) (a2 : Zas) : Ref Tryz.prog 153 [ZbK.val a0, .int .i64 a1, ZaB.val a2] (ZbS a0 a1 a2) ZbS.out := by
 refine J.Fn Tryz.func153 ?_
 unfold ZbS
 refine SJ.sr 3 <| J.b 0 ZbK a0 fun b1 => J.b 0 ZaB a2 fun b2 => J.z 1 <| SJ.sr 26 <| J.k 1 0 rfl Ty3 (Zb6 _) <| J.g 2 <| OJ.join (b := (a2.Kind == 2)) [4, 5, 6, 7, 8, 9, 10, 11, 12, 13] [14, 15, 16, 17, 18, 19, 20, 21, 22, 23, 24, 25] [5, 20] (fun y4 => [(5, .pointer (some (pt b2 0))), (20, .bool y4)]) [] [] (t := 10) beq_iff_eq (fun hp_ => ?_) (fun hp_ => ?_) (fun _ _ _ _ _ _ h_ => h_) fun y4 => ?_
 ·refine J.k 2 0 rfl Ty4 (At.trans (ZcQ _) (ZlL _)) <| J.g 1 <| OJ.join (b := a2.Ip4.MF) [8, 9, 10, 11, 12] [13] [5, 10, 19] (fun y3 => [(5, .pointer (some (pt b2 0))), (10, .bool true), (19, .bool y3)]) [] [] (t := 14) Iff.rfl (fun hp_ => ?_) (fun hp_ => ?_) (fun _ _ _ _ _ hq_ h_ => ⟨fun e_ he_ => (hq_ e_ he_).elim (fun h => h_.1 e_ h) (fun h => nomatch h), h_.2⟩) fun y3 => ?_
  ·exact J.g 5 <| OJ.nil ⟨(Cov.mem Cov.nil), rfl, _, rfl, by kernel_rfl⟩
  ·exact J.k 2 0 rfl Ty3 (At.trans (ZcQ _) (ZkE _)) <| J.g 2 <| OJ.nil ⟨(Cov.mem Cov.nil), rfl, _, rfl, by kernel_rfl⟩
  exact J.g 1 <| OJ.nil ⟨(Cov.mem Cov.nil), rfl, _, rfl, by kernel_rfl⟩
 ·exact J.g 10 <| OJ.nil ⟨(Cov.mem Cov.nil), rfl, _, rfl, by kernel_rfl⟩
 refine J.g 1 <| OJ.join (b := y4) [15, 16, 17, 18, 19, 20, 21, 22, 23, 24] [25] [31] (fun y6 => [(31, .bool y6)]) [] [] (t := 21) Iff.rfl (fun hp_ => ?_) (fun hp_ => ?_) (fun _ _ _ _ _ _ h_ => h_) fun y6 => ?_
 ·exact J.g 10 <| OJ.nil ⟨(Cov.mem Cov.nil), rfl, _, rfl, by kernel_rfl⟩
 ·refine J.k 1 0 rfl Ty3 (Zb6 _) <| J.g 2 <| OJ.join (b := (a2.Kind == 3)) [19, 20, 21, 22, 23] [24] [21, 30] (fun y5 => [(21, .bool false), (30, .bool y5)]) [] [] (t := 25) beq_iff_eq (fun hp_ => ?_) (fun hp_ => ?_) (fun _ _ _ _ _ hq_ h_ => ⟨fun e_ he_ => (hq_ e_ he_).elim (fun h => h_.1 e_ h) (fun h => nomatch h), h_.2⟩) fun y5 => ?_
  ·exact J.k 3 0 rfl Ty4 (At.trans (At.trans (Zdp _) (Zko _)) (Zkp _)) <| J.g 1 <| OJ.nil ⟨(Cov.mem Cov.nil), rfl, _, rfl, by kernel_rfl⟩
  ·exact J.g 5 <| OJ.nil ⟨(Cov.mem Cov.nil), rfl, _, rfl, by kernel_rfl⟩
  exact J.g 1 <| OJ.nil ⟨(Cov.mem Cov.nil), rfl, _, rfl, by kernel_rfl⟩
 exact J.z 1 <| J.r

/-! ### (*weir/rules.Set).Judge$1: function 13 -/
noncomputable def Zap.out (r_ : Bool) : Value := .bool r_
noncomputable def Zap.fv (f_ : Any) (y0_ : Zas) : M Bool :=
 (ZhN f_.v).elim fail (fun q_ => if q_.1 = 55 then (match q_.2 with | [p0_, p1_, p2_] => Zcp y0_ p0_ p1_ p2_ | _ => fail) else if q_.1 = 60 then (match q_.2 with | [p0_, p1_] => Zci y0_ p0_ p1_ | _ => fail) else fail)
theorem Zap.fv_ok (f_ : Any) (y0_ : Zas) : RefV Tryz.prog f_.v [ZaB.val y0_] (Zap.fv f_ y0_) (fun r_ : Bool => .bool r_) := by
  intro v r v' e
  unfold Zap.fv at e
  cases hf_ : ZhN f_.v with
  | none => rw [hf_] at e; cases e
  | some q_ =>
    obtain ⟨g_, l_⟩ := q_
    rw [hf_] at e
    dsimp only [Option.elim] at e
    by_cases hg_ : g_ = 55
    · subst hg_
      rw [if_pos rfl] at e
      split at e
      · rename_i p0_ p1_ p2_
        have h_ := RefV.of (first := []) (cap := [.pointer (some p0_), .pointer (some p1_), .pointer (some p2_)]) (vals := [ZaB.val y0_]) F55 (ZhE y0_ p0_ p1_ p2_) v r v' e
        rw [Zlb hf_]
        exact h_
      · cases e
    rw [if_neg hg_] at e
    by_cases hg_ : g_ = 60
    · subst hg_
      rw [if_pos rfl] at e
      split at e
      · rename_i p0_ p1_
        have h_ := RefV.of (first := []) (cap := [.pointer (some p0_), .pointer (some p1_)]) (vals := [ZaB.val y0_]) F60 (Zhh y0_ p0_ p1_) v r v' e
        rw [Zlb hf_]
        exact h_
      · cases e
    rw [if_neg hg_] at e
    cases e
noncomputable def Zap.iv (f_ : Any) (x0_ : Int) (x1_ : Zas) : M Bool :=
 (ifc f_.v).elim fail (fun q_ => if q_.1 = 111 then ((cI .i64).un q_.2).elim fail (fun y_ => Zcl y_ x0_ x1_) else if q_.1 = 112 then ((cI .i64).un q_.2).elim fail (fun y_ => Zcd y_ x0_ x1_) else if q_.1 = 113 then ((cI .i64).un q_.2).elim fail (fun y_ => Zb4 y_ x0_ x1_) else if q_.1 = 114 then ((cI .i64).un q_.2).elim fail (fun y_ => ZbR y_ x0_ x1_) else if q_.1 = 116 then (cV.un q_.2).elim fail (fun y_ => ZbN (Zap.fv y_) x0_ x1_) else if q_.1 = 119 then (Zbe.un q_.2).elim fail (fun y_ => Zb5 y_ x0_ x1_) else if q_.1 = 120 then ((cI .i64).un q_.2).elim fail (fun y_ => Zb2 y_ x0_ x1_) else if q_.1 = 122 then (ZbK.un q_.2).elim fail (fun y_ => ZbS y_ x0_ x1_) else fail)
theorem Zap.iv_ok (f_ : Any) (x0_ : Int) (x1_ : Zas) : RefN Tryz.prog f_.v "weir/rules.holds" [.int .i64 x0_, ZaB.val x1_] (Zap.iv f_ x0_ x1_) (fun r_ : Bool => .bool r_) := by
  intro v r v' e
  unfold Zap.iv at e
  cases hf_ : ifc f_.v with
  | none => rw [hf_] at e; cases e
  | some q_ =>
    obtain ⟨t_, z_⟩ := q_
    rw [hf_] at e
    dsimp only [Option.elim] at e
    by_cases ht_ : t_ = 111
    · subst ht_
      rw [if_pos rfl] at e
      cases hy_ : (cI .i64).un z_ with
      | none => rw [hy_] at e; cases e
      | some y_ =>
        rw [hy_] at e
        dsimp only [Option.elim] at e
        rw [Zi4 hf_, Cod.un_eq hy_]
        exact RefN.of (by kernel_rfl) F146 (ZgD y_ x0_ x1_) v r v' e
    rw [if_neg ht_] at e
    by_cases ht_ : t_ = 112
    · subst ht_
      rw [if_pos rfl] at e
      cases hy_ : (cI .i64).un z_ with
      | none => rw [hy_] at e; cases e
      | some y_ =>
        rw [hy_] at e
        dsimp only [Option.elim] at e
        rw [Zi4 hf_, Cod.un_eq hy_]
        exact RefN.of (by kernel_rfl) F147 (Zgr y_ x0_ x1_) v r v' e
    rw [if_neg ht_] at e
    by_cases ht_ : t_ = 113
    · subst ht_
      rw [if_pos rfl] at e
      cases hy_ : (cI .i64).un z_ with
      | none => rw [hy_] at e; cases e
      | some y_ =>
        rw [hy_] at e
        dsimp only [Option.elim] at e
        rw [Zi4 hf_, Cod.un_eq hy_]
        exact RefN.of (by kernel_rfl) F148 (Zf4 y_ x0_ x1_) v r v' e
    rw [if_neg ht_] at e
    by_cases ht_ : t_ = 114
    · subst ht_
      rw [if_pos rfl] at e
      cases hy_ : (cI .i64).un z_ with
      | none => rw [hy_] at e; cases e
      | some y_ =>
        rw [hy_] at e
        dsimp only [Option.elim] at e
        rw [Zi4 hf_, Cod.un_eq hy_]
        exact RefN.of (by kernel_rfl) F149 (ZfK y_ x0_ x1_) v r v' e
    rw [if_neg ht_] at e
    by_cases ht_ : t_ = 116
    · subst ht_
      rw [if_pos rfl] at e
      cases hy_ : cV.un z_ with
      | none => rw [hy_] at e; cases e
      | some y_ =>
        rw [hy_] at e
        dsimp only [Option.elim] at e
        rw [Zi4 hf_, Cod.un_eq hy_]
        exact RefN.of (by kernel_rfl) F150 (Zf3 y_ (Zap.fv y_) (fun y0_ => Zap.fv_ok y_ y0_) x0_ x1_) v r v' e
    rw [if_neg ht_] at e
    by_cases ht_ : t_ = 119
    · subst ht_
      rw [if_pos rfl] at e
      cases hy_ : Zbe.un z_ with
      | none => rw [hy_] at e; cases e
      | some y_ =>
        rw [hy_] at e
        dsimp only [Option.elim] at e
        rw [Zi4 hf_, Cod.un_eq hy_]
        exact RefN.of (by kernel_rfl) F151 (Zf5 y_ x0_ x1_) v r v' e
    rw [if_neg ht_] at e
    by_cases ht_ : t_ = 120
    · subst ht_
      rw [if_pos rfl] at e
      cases hy_ : (cI .i64).un z_ with
      | none => rw [hy_] at e; cases e
      | some y_ =>
        rw [hy_] at e
        dsimp only [Option.elim] at e
        rw [Zi4 hf_, Cod.un_eq hy_]
        exact RefN.of (by kernel_rfl) F152 (Zf2 y_ x0_ x1_) v r v' e
    rw [if_neg ht_] at e
    by_cases ht_ : t_ = 122
    · subst ht_
      rw [if_pos rfl] at e
      cases hy_ : ZbK.un z_ with
      | none => rw [hy_] at e; cases e
      | some y_ =>
        rw [hy_] at e
        dsimp only [Option.elim] at e
        rw [Zi4 hf_, Cod.un_eq hy_]
        exact RefN.of (by kernel_rfl) F153 (ZfL y_ x0_ x1_) v r v' e
    rw [if_neg ht_] at e
    cases e
noncomputable def Zap (a0 : Any) (a1 : Addr) (a2 : Addr) : M Bool :=
 ld (cI .i64) a1 >>= fun x1 =>
 ld ZaB a2 >>= fun x2 =>
 Zap.iv a0 x1 x2 >>= fun r3 =>
 pure (!r3)
theorem Zhi (a0 : Any) (a1 : Addr) (a2 : Addr) : Ref Tryz.prog 13 [a0.v, .pointer (some a1), .pointer (some a2)] (Zap a0 a1 a2) Zap.out := by
 refine J.Fn Tryz.func13 ?_
 unfold Zap
 exact SJ.sr 1 <| J.z 1 <| SJ.sr 6 <| J.l 1 Ty3 fun x1 => J.l 0 Ty47 fun x2 => OJ.inv (d := 8) (ats := #[3, 47]) (args := [.tmp 6, .tmp 7]) (ro := .tmp 5) (name := "weir/rules.holds") (fv := a0.v) (vals := [.int .i64 x1, ZaB.val x2]) (owed := []) (by kernel_rfl) (by kernel_rfl) (by kernel_rfl) (Zap.iv_ok a0 x1 x2) (by kernel_rfl) (by kernel_rfl) (by kernel_rfl) fun r3 => OW.nil <| J.z 2 <| J.r

/-! ### slices.IndexFunc[[]weir/rules.test,weir/rules.test]: function 23 -/
noncomputable def Zaf.B : Code := bod Tryz.f23
noncomputable def Zaf.cx : Fx := ⟨Tryz.prog, 23, Tryz.f23, none⟩
noncomputable def Zaf.out (r_ : Int) : Value := .int .i64 r_
noncomputable def Zaf.F1 (a0 : Sl) (a1v : Any) : LF Int Int := ⟨[.inBlock 0, .code (c2 (c2 Zaf.B))], c1 (c2 (c1 (c2 Zaf.B))), fun s_ => [(0, Sl.v a0), (1, a1v.v), (7, .int .i64 (a0.len : Int)), (8, .int .i64 s_)], fun s_ => [], (rt Zaf.out)⟩
noncomputable def Zaf.L1 (a0 : Sl) (a1 : Any → M Bool) (s1 : Int) : M (LS Int Int) :=
 if s1 < (a0.len : Int) then
  idx a0.a a0.len s1 1 >>= fun p7 =>
  ld cV p7 >>= fun x8 =>
  a1 x8 >>= fun r9 =>
  if r9 = true then
   pure (LS.done s1)
  else
   pure (LS.next (IntKind.wrap .i64 (s1 + 1)))
 else
  pure (LS.done (-1))
theorem Zaf.L1_ok (a0 : Sl) (a1v : Any) (a1 : Any → M Bool) (h_a1 : ∀ (x0_ : Any), RefV Tryz.prog a1v.v [x0_.v] (a1 x0_) (fun r_ : Bool => .bool r_)) : LJ Zaf.cx (Zaf.F1 a0 a1v) (fun s_ => Zaf.L1 a0 a1 s_) := by
 rintro s1
 show SJ _ _ _ _ (Zaf.L1 a0 a1 s1) _
 unfold Zaf.L1
 refine SJ.sr 1 <| J.z 1 <| SJ.seq <| J.f ?_ ?_
 ·refine SJ.skip <| SJ.seq <| SJ.block (id := 1) <| SJ.sr 2 <| J.z 2 <| SJ.sr 6 <| J.i 3 fun p7 => J.l 0 Ty74 fun x8 => J.v 0 (h_a1 x8) fun r9 => J.z 0 <| J.f ?_ ?_
  ·exact SJ.sr 2 <| J.z 2 <| J.r
  exact SJ.skip <| SJ.inBlock <| SJ.rg 2 <| J.z 2 <| J.o rfl
 exact SJ.exit (id := 0) (by rfl) <| SJ.sr 1 <| J.z 1 <| J.r
noncomputable def Zaf (a0 : Sl) (a1 : Any → M Bool) : M Int :=
 Zc7 (fun s_ : Int => Zaf.L1 a0 a1 s_) 0
theorem ZdK (a0 : Sl) (a1v : Any) (a1 : Any → M Bool) (h_a1 : ∀ (x0_ : Any), RefV Tryz.prog a1v.v [x0_.v] (a1 x0_) (fun r_ : Bool => .bool r_)) : Ref Tryz.prog 23 [Sl.v a0, a1v.v] (Zaf a0 a1) Zaf.out := by
 refine J.Fn Tryz.func23 ?_
 unfold Zaf
 exact SJ.sr 1 <| J.z 1 <| SJ.seq <| SJ.sr 3 <| J.z 3 <| SJ.block (id := 0) <| J.L (Zaf.L1_ok a0 a1v a1 h_a1)

/-! ### slices.ContainsFunc[[]weir/rules.test,weir/rules.test]: function 12 -/
noncomputable def Za0.out (r_ : Bool) : Value := .bool r_
noncomputable def Za0 (a0 : Sl) (a1 : Any → M Bool) : M Bool :=
 Zaf a0 a1 >>= fun r1 =>
 pure (decide (r1 ≥ 0))
theorem Zdq (a0 : Sl) (a1v : Any) (a1 : Any → M Bool) (h_a1 : ∀ (x0_ : Any), RefV Tryz.prog a1v.v [x0_.v] (a1 x0_) (fun r_ : Bool => .bool r_)) : Ref Tryz.prog 12 [Sl.v a0, a1v.v] (Za0 a0 a1) Za0.out := by
 refine J.Fn Tryz.func12 ?_
 unfold Za0
 exact SJ.sr 1 <| J.z 1 <| SJ.sr 5 <| J.C 2 F23 (ZdK a0 a1v a1 h_a1) fun r1 => J.z 2 <| J.r
end Go.Proofs.YtjceipelgkdoaaaGreatDoor.Lx
