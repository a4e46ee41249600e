/- Programs of the M-world for Go functions, each with the proof that the Go text does what it says. Printed by lxgen.py. -/
import Derived.Test.YtmgbjiaognomhaaGreatDoorLxT
import Derived.Test.YtmgbjiaognomhaaGreatDoorLxP0
set_option linter.unusedVariables false
set_option linter.unusedSimpArgs false
set_option linter.unusedSectionVars false
namespace Go.Proofs.YtmgbjiaognomhaaGreatDoor.Lx
open Go Go.Proofs
variable [ZdY]
/-! ### weir/rules.ParseRule: function 4 -/
noncomputable def Zai.B : Code := bod Tryz.f4
noncomputable def Zai.cx : Fx := ⟨Tryz.prog, 4, Tryz.f4, none⟩
noncomputable def Zai.out (r_ : (Zaz × Int × Int)) : Value := .tuple #[Zaj.val r_.1, .int .i64 r_.2.1, .int .i64 r_.2.2]
noncomputable def Zai.K1 (b3 : Nat) : M (Zaz × Int × Int) :=
 ld (cI .i64) (Addr.add (pt b3 0) 19) >>= fun x28 =>
 if x28 ≠ 0 then
  draw >>= fun _ =>
  ld (cI .i64) (Addr.add (pt b3 0) 19) >>= fun x31 =>
  ld (cI .i64) (Addr.add (pt b3 0) 20) >>= fun x32 =>
  same (cI .i64) (Addr.add (pt b3 0) 20) x32 >>= fun _ =>
  same (cI .i64) (Addr.add (pt b3 0) 19) x31 >>= fun _ =>
  pure (Zax, x31, x32)
 else
  ld Zaj (Addr.add (pt b3 0) 3) >>= fun x33 =>
  pure (x33, 0, 0)
theorem Zai.K1_ok (b1 : Nat) (b3 : Nat) :
  SJ Zai.cx [.code (c2 (c2 (c2 (c2 (c2 (c2 (c2 (c2 Zai.B))))))))] [(2, .pointer (some (pt b1 0))), (7, .pointer (some (pt b3 0)))] [(b1, Zaj.enc Zax)] (Zai.K1 b3) (rt Zai.out) := by
 unfold Zai.K1
 refine SJ.seq <| SJ.sr 5 <| J.l 3 Ty29 fun x28 => J.z 1 <| J.f ?_ ?_
 ·exact SJ.seq <| J.R 12 Zdz <| J.u 0 Ty28 .nil <| J.l 3 Ty29 fun x31 => J.l 3 Ty3 fun x32 => OJ.kst (y := .tmp 2) (z := .tmp 104) (cd := Zaj) (u := Zax) (j := 0) (b := b1) (o := 0) (Zaj.enc Zax) (owed := [⟨8, 3, (Addr.add (pt b3 0) 20), (cI .i64).val x32⟩, ⟨4, 29, (Addr.add (pt b3 0) 19), (cI .i64).val x31⟩]) Ty28 rfl (Upd.whole ((Cod.len _ _).trans (Cod.len _ _).symm)) rfl <| OW.same Ty3 <| OW.same Ty29 <| OW.nil <| J.z 2 <| J.rc (.c 0 rfl Ty28 .n)
 exact SJ.skip <| SJ.sr 7 <| J.l 3 Ty28 fun x33 => J.s 0 0 rfl Ty28 (Upd.w x33) <| J.z 2 <| J.rc (.c 0 rfl Ty28 .n)
noncomputable def Zai.F1 (b1 : Nat) (r2 : (Sl × Int)) (b3 : Nat) (b5 : Nat) : LF Unit (Zaz × Int × Int) := ⟨[.inBlock 0, .code (c2 (c2 (c2 (c2 (c2 (c2 (c2 (c2 Zai.B))))))))], c1 (c1 (c2 (c2 (c2 (c2 (c2 (c2 (c2 Zai.B)))))))), fun s_ => [(2, .pointer (some (pt b1 0))), (5, Sl.v r2.1), (7, .pointer (some (pt b3 0))), (8, .map (some b5))], fun s_ => [(b1, Zaj.enc Zax)], (rt Zai.out)⟩
noncomputable def Zai.K2 (b3 : Nat) (b5 : Nat) (r38 : ZaK) : M (LS Unit (Zaz × Int × Int)) :=
 draw >>= fun _ =>
 ld (cI .i64) (Addr.add (pt b3 0) 1) >>= fun x52 =>
 mset cS (cI .i64) (some b5) r38.s x52 >>= fun _ =>
 pure (LS.next ())
theorem Zai.K2_ok (b1 : Nat) (r2 : (Sl × Int)) (b3 : Nat) (b5 : Nat) (r38 : ZaK) (b39 : Nat) :
  SJ Zai.cx [.code (c2 (c2 (c2 (c1 (c2 (c1 (c1 (c1 (c2 (c2 (c2 (c2 (c2 (c2 (c2 Zai.B))))))))))))))), .inBlock 1, .inLoop (c1 (c1 (c1 (c2 (c2 (c2 (c2 (c2 (c2 (c2 Zai.B)))))))))), .inBlock 0, .code (c2 (c2 (c2 (c2 (c2 (c2 (c2 (c2 Zai.B))))))))] [(2, .pointer (some (pt b1 0))), (5, Sl.v r2.1), (7, .pointer (some (pt b3 0))), (8, .map (some b5)), (9, .pointer (some (pt b39 0)))] [(b39, ZbB.enc r38), (b1, Zaj.enc Zax)] (Zai.K2 b3 b5 r38) (Zai.F1 b1 r2 b3 b5).f := by
 unfold Zai.K2
 exact J.R 8 Zdz <| J.k 2 0 rfl Ty9 (Zbz _) <| J.l 3 Ty3 fun x52 => OJ.mset (x := .tmp 92) (y := .tmp 94) (q := .tmp 98) (owed := []) Kt46 <| OW.nil <| J.z 0 <| SJ.inBlock <| SJ.forget (List.Sublist.cons _ (List.Sublist.cons_cons _ List.Sublist.slnil)) <| J.o rfl
noncomputable def Zai.L1 (r2 : (Sl × Int)) (b3 : Nat) (b5 : Nat) : M (LS Unit (Zaz × Int × Int)) :=
 ld (cI .i64) (Addr.add (pt b3 0) 19) >>= fun x35 =>
 (if x35 = 0 then
   ld (cI .i64) (Addr.add (pt b3 0) 1) >>= fun x36 =>
   pure (decide (x36 < (r2.1.len : Int)))
  else
   pure false) >>= fun y37 =>
 if y37 = true then
  ZaW (some (pt b3 0)) >>= fun r38 =>
  slot 48 >>= fun b39 =>
  mget cS (cI .i64) 0 (some b5) r38.s >>= fun r40 =>
  (if r40.1 > 0 then
    pure true
   else
    (if r38.s.toList = Zj0.toList then
      ld (cI .i64) (Addr.add (Addr.add (pt b3 0) 3) 3) >>= fun x41 =>
      pure (x41 != 6)
     else
      pure false) >>= fun y42 =>
    pure y42) >>= fun y43 =>
  (if y43 = true then
    pure true
   else
    (if r38.s.toList = ZjZ.toList then
      ld (cI .i64) (Addr.add (Addr.add (pt b3 0) 3) 3) >>= fun x44 =>
      Zd8 x44 >>= fun r45 =>
      pure (!r45)
     else
      pure false) >>= fun y46 =>
    pure y46) >>= fun y47 =>
  if y47 = true then
   Za7 (some (pt b3 0)) 165 r38.at_ >>= fun r49 =>
   (Zai.K1 b3) >>= fun b => pure (LS.done b)
  else
   ZaG (some (pt b3 0)) r38.s >>= fun r50 =>
   if ¬ (r50 = true) then
    Za7 (some (pt b3 0)) 160 r38.at_ >>= fun r53 =>
    Zai.K2 b3 b5 r38
   else
    Zai.K2 b3 b5 r38
 else
  (Zai.K1 b3) >>= fun b => pure (LS.done b)
theorem Zai.L1_ok (b1 : Nat) (r2 : (Sl × Int)) (b3 : Nat) (b5 : Nat) : LJ Zai.cx (Zai.F1 b1 r2 b3 b5) (fun s_ => Zai.L1 r2 b3 b5) := by
 rintro _
 show SJ _ _ _ _ (Zai.L1 r2 b3 b5) _
 unfold Zai.L1
 refine SJ.seq <| SJ.sr 14 <| J.l 3 Ty29 fun x35 => J.j 2 7 .bool ?_ ?_ fun y37 => ?_
 ·exact J.l 3 Ty3 fun x36 => J.e 4
 ·exact J.e 8
 refine J.z 0 <| J.f ?_ ?_
 ·refine SJ.skip <| SJ.block (id := 1) <| SJ.sr 4 <| J.C 1 F12 (Zdi _) fun r38 => J.a 0 Ty48 fun b39 => J.s 0 0 rfl Ty48 (Upd.w r38) <| J.z 0 <| SJ.seq <| SJ.sr 32 <| J.k 2 0 rfl Ty9 (Zbz _) <| OJ.get0 (d := 50) (x := .tmp 47) (y := .tmp 49) (owed := []) Kt46 fun r40 => OW.nil <| J.g 2 <| OJ.join (b := decide (r40.1 > 0)) [6, 7, 8, 9, 10, 11, 12, 13, 14, 15, 16, 17] [18, 19, 20, 21, 22, 23, 24, 25, 26, 27, 28, 29, 30, 31] [2, 5, 7, 8, 9, 64] (fun y43 => [(2, .pointer (some (pt b1 0))), (5, Sl.v r2.1), (7, .pointer (some (pt b3 0))), (8, .map (some b5)), (9, .pointer (some (pt b39 0))), (64, .bool y43)]) [] [] (t := 52) decide_eq_true_iff (fun hp_ => ?_) (fun hp_ => ?_) (fun _ _ _ _ _ _ h_ => h_) fun y43 => ?_
  ·exact J.g 12 <| OJ.nil ⟨(Cov.mem Cov.nil), rfl, _, rfl, by kernel_rfl⟩
  ·refine J.k 1 0 rfl Ty9 (Zbz _) <| J.g 2 <| OJ.join (b := (r38.s.toList == Zj0.toList)) [10, 11, 12, 13, 14, 15, 16] [17] [2, 5, 7, 8, 9, 52, 63] (fun y42 => [(2, .pointer (some (pt b1 0))), (5, Sl.v r2.1), (7, .pointer (some (pt b3 0))), (8, .map (some b5)), (9, .pointer (some (pt b39 0))), (52, .bool false), (63, .bool y42)]) [] [] (t := 56) beq_iff_eq (fun hp_ => ?_) (fun hp_ => ?_) (fun _ _ _ _ _ hq_ h_ => ⟨fun e_ he_ => (hq_ e_ he_).elim (fun h => h_.1 e_ h) (fun h => nomatch h), h_.2⟩) fun y42 => ?_
   ·exact J.l 4 Ty3 fun x41 => J.g 2 <| OJ.nil ⟨(Cov.mem Cov.nil), rfl, _, rfl, by kernel_rfl⟩
   ·exact J.g 7 <| OJ.nil ⟨(Cov.mem Cov.nil), rfl, _, rfl, by kernel_rfl⟩
   exact J.g 1 <| OJ.nil ⟨(Cov.mem Cov.nil), rfl, _, rfl, by kernel_rfl⟩
  refine J.g 1 <| OJ.join (b := y43) [19, 20, 21, 22, 23, 24, 25, 26, 27, 28, 29, 30, 31] [] [2, 5, 7, 8, 9, 78] (fun y47 => [(2, .pointer (some (pt b1 0))), (5, Sl.v r2.1), (7, .pointer (some (pt b3 0))), (8, .map (some b5)), (9, .pointer (some (pt b39 0))), (78, .bool y47)]) [] [] (t := 65) Iff.rfl (fun hp_ => ?_) (fun hp_ => ?_) (fun _ _ _ _ _ _ h_ => h_) fun y47 => ?_
  ·exact J.g 13 <| OJ.nil ⟨(Cov.mem Cov.nil), rfl, _, rfl, by kernel_rfl⟩
  ·refine J.k 1 0 rfl Ty9 (Zbz _) <| J.g 2 <| OJ.join (b := (r38.s.toList == ZjZ.toList)) [23, 24, 25, 26, 27, 28, 29, 30] [31] [2, 5, 7, 8, 9, 65, 77] (fun y46 => [(2, .pointer (some (pt b1 0))), (5, Sl.v r2.1), (7, .pointer (some (pt b3 0))), (8, .map (some b5)), (9, .pointer (some (pt b39 0))), (65, .bool false), (77, .bool y46)]) [] [] (t := 69) beq_iff_eq (fun hp_ => ?_) (fun hp_ => ?_) (fun _ _ _ _ _ hq_ h_ => ⟨fun e_ he_ => (hq_ e_ he_).elim (fun h => h_.1 e_ h) (fun h => nomatch h), h_.2⟩) fun y46 => ?_
   ·exact J.l 4 Ty3 fun x44 => J.C 0 F13 (Zh7 _) fun r45 => J.g 2 <| OJ.nil ⟨(Cov.mem Cov.nil), rfl, _, rfl, by kernel_rfl⟩
   ·exact J.g 8 <| OJ.nil ⟨(Cov.mem Cov.nil), rfl, _, rfl, by kernel_rfl⟩
   exact J.g 1 <| OJ.nil ⟨(Cov.mem Cov.nil), rfl, _, rfl, by kernel_rfl⟩
  refine J.z 0 <| J.f ?_ ?_
  ·exact SJ.sr 4 <| J.k 2 0 rfl Ty3 (Zb1 _) <| J.C 0 F14 (Zbt _ _ _) fun r49 => J.z 0 <| SJ.exit (id := 0) (by rfl) <| SJ.forget (List.Sublist.cons _ (List.Sublist.cons_cons _ List.Sublist.slnil)) <| J.q <| SJ.done <| Zai.K1_ok b1 b3
  refine SJ.skip <| SJ.seq <| SJ.sr 5 <| J.k 2 0 rfl Ty9 (Zbz _) <| J.C 0 F15 (Zhd _ _) fun r50 => J.z 1 <| J.f ?_ ?_
  ·exact SJ.rg 4 <| J.k 2 0 rfl Ty3 (Zb1 _) <| J.C 0 F14 (Zbt _ _ _) fun r53 => J.z 0 <| J.q <| Zai.K2_ok b1 r2 b3 b5 r38 b39
  exact SJ.skip <| J.q <| Zai.K2_ok b1 r2 b3 b5 r38 b39
 exact SJ.exit (id := 0) (by rfl) <| J.q <| SJ.done <| Zai.K1_ok b1 b3
noncomputable def Zai (a0 : ByteArray) : M (Zaz × Int × Int) :=
 slot 28 >>= fun b1 =>
 if (a0.size : Int) > 1024 then
  pure (Zax, 2, 1024)
 else
  ZaX a0 >>= fun r2 =>
  if r2.2 ≥ 0 then
   pure (Zax, 160, r2.2)
  else
   newv 45 Zbu (⟨r2.1, Zef.i, (a0.size : Int), Zef.rule, Zef.err, Zef.at_⟩ : Zbx) >>= fun b3 =>
   ZaC (some (pt b3 0)) >>= fun r4 =>
   mkMap >>= fun b5 =>
   Zci (fun s_ : Unit => Zai.L1 r2 b3 b5) ()
theorem ZeX (a0 : ByteArray) : Ref Tryz.prog 4 [.string a0] (Zai a0) Zai.out := by
 refine J.Fn Tryz.func4 ?_
 unfold Zai
 refine SJ.sr 3 <| J.a 0 Ty28 fun b1 => J.z 2 <| SJ.seq <| SJ.sr 3 <| J.z 3 <| J.f ?_ ?_
 ·exact SJ.sr 4 <| J.u 0 Ty28 .nil <| J.s 0 0 rfl Ty28 (Upd.w Zax) <| J.z 2 <| J.rc (.c 0 rfl Ty28 .n)
 refine SJ.skip <| SJ.sr 7 <| J.C 1 F10 (Zle _) fun r2 => J.z 5 <| SJ.seq <| SJ.sr 2 <| J.z 2 <| J.f ?_ ?_
 ·exact SJ.sr 5 <| J.u 0 Ty28 .nil <| J.s 1 0 rfl Ty28 (Upd.w Zax) <| J.z 2 <| J.rc (.c 0 rfl Ty28 .n)
 exact SJ.skip <| SJ.sr 6 <| J.u 3 Ty45 (.f 0 (Zjy _ r2.1) (.f 2 (Zh4 _ (a0.size : Int)) .nil)) <| J.B 0 fun b3 => J.z 1 <| SJ.sr 2 <| J.C 1 F11 (Zh1 _) fun r4 => J.z 0 <| SJ.sr 2 <| OJ.mkMap (d := 30) (t := 46) (owed := []) fun b5 => OW.nil <| J.z 1 <| SJ.seq <| SJ.block (id := 0) <| J.L (Zai.L1_ok b1 r2 b3 b5)

/-! ### weir/weirref16.blank: function 35 -/
noncomputable def Zdq.out (r_ : Bool) : Value := .bool r_
noncomputable def Zdq (a0 : Int) : M Bool :=
 (if a0 = 32 then
   pure true
  else
   pure (a0 == 9)) >>= fun y1 =>
 pure y1
theorem ZiE (a0 : Int) : Ref Tryz.prog 35 [.int .u8 a0] (Zdq a0) Zdq.out := by
 refine J.Fn Tryz.func35 ?_
 unfold Zdq
 refine SJ.sr 1 <| J.z 1 <| SJ.sr 7 <| J.j 3 2 .bool ?_ ?_ fun y1 => ?_
 ·exact J.e 3
 ·exact J.e 3
 exact J.z 1 <| J.r

/-! ### weir/weirref16.Words: function 16 -/
noncomputable def Zat.B : Code := bod Tryz.f16
noncomputable def Zat.cx : Fx := ⟨Tryz.prog, 16, Tryz.f16, none⟩
noncomputable def Zat.out (r_ : (Sl × Int × Int)) : Value := .tuple #[Sl.v r_.1, .int .i64 r_.2.1, .int .i64 r_.2.2]
noncomputable def Zat.F1 (a0 : ByteArray) : LF (Sl × Int) (Sl × Int × Int) := ⟨[.inBlock 0, .code (c2 (c2 (c2 (c2 Zat.B))))], c1 (c1 (c2 (c2 (c2 Zat.B)))), fun s_ => [(0, .string a0), (5, Sl.v s_.1), (6, .int .i64 s_.2)], fun s_ => [], (rt Zat.out)⟩
noncomputable def Zat.K1 (a0 : ByteArray) (s1 : Sl) (s2 : Int) (s52 : Int) : M (LS (Sl × Int) (Sl × Int × Int)) :=
 if s52 > s2 then
  chk (0 ≤ (s2 : Int) ∧ (s2 : Int) ≤ s52 ∧ s52 ≤ (a0.size : Int)) >>= fun _ =>
  slot 87 >>= fun b74 =>
  appl Zb3 87 24 ZdA s1 [(⟨(ByteArray.extract a0 (Int.toNat s2) (Int.toNat s52)), s2⟩ : Zba)] >>= fun r75 =>
  pure (LS.next (r75, s52))
 else
  chk ((0 : Int) ≤ s2 ∧ s2 < (a0.size : Int)) >>= fun _ =>
  if (sb a0 s2) = 44 then
   chk (0 ≤ (s2 : Int) ∧ (s2 : Int) ≤ (IntKind.wrap .i64 (s2 + 1)) ∧ (IntKind.wrap .i64 (s2 + 1)) ≤ (a0.size : Int)) >>= fun _ =>
   slot 87 >>= fun b82 =>
   appl Zb3 87 24 ZdA s1 [(⟨(ByteArray.extract a0 (Int.toNat s2) (Int.toNat (IntKind.wrap .i64 (s2 + 1)))), s2⟩ : Zba)] >>= fun r83 =>
   pure (LS.next (r83, IntKind.wrap .i64 (s2 + 1)))
  else
   chk ((0 : Int) ≤ s2 ∧ s2 < (a0.size : Int)) >>= fun _ =>
   Zdq (sb a0 s2) >>= fun r86 =>
   if r86 = true then
    pure (LS.next (s1, IntKind.wrap .i64 (s2 + 1)))
   else
    pure (LS.done (Sl.nil, 160, s2))
theorem Zat.K1_ok (a0 : ByteArray) (s1 : Sl) (s2 : Int) (s52 : Int) :
  SJ Zat.cx [.code (c2 (c2 (c1 (c2 (c1 (c1 (c1 (c2 (c2 (c2 Zat.B)))))))))), .inBlock 1, .inLoop (c1 (c1 (c1 (c2 (c2 (c2 Zat.B)))))), .inBlock 0, .code (c2 (c2 (c2 (c2 Zat.B))))] [(0, .string a0), (5, Sl.v s1), (6, .int .i64 s2), (7, .int .i64 s52)] [] (Zat.K1 a0 s1 s2 s52) (Zat.F1 a0).f := by
 unfold Zat.K1
 refine SJ.seq <| SJ.block (id := 4) <| SJ.sr 4 <| J.z 4 <| J.f ?_ ?_
 ·exact SJ.skip <| SJ.inBlock <| SJ.sr 10 <| J.ct 4 <| J.u 1 Ty87 (.f 0 (Zff _ (ByteArray.extract a0 (Int.toNat s2) (Int.toNat s52))) (.f 1 (ZeB _ s2) .nil)) <| J.S 0 [(⟨(ByteArray.extract a0 (Int.toNat s2) (Int.toNat s52)), s2⟩ : Zba)] Ty87 fun b74 => J.p 0 0 rfl Ty87 fun r75 => J.z 1 <| SJ.rg 2 <| J.z 2 <| SJ.inBlock <| SJ.forget (List.Sublist.cons _ List.Sublist.slnil) <| J.o rfl
 refine SJ.sr 5 <| J.t 2 fun hb76 hb77 => J.z 2 <| J.f ?_ ?_
 ·exact SJ.rg 3 <| J.z 3 <| SJ.inBlock <| SJ.sr 10 <| J.ct 4 <| J.u 1 Ty87 (.f 0 (Zff _ (ByteArray.extract a0 (Int.toNat s2) (Int.toNat (IntKind.wrap .i64 (s2 + 1))))) (.f 1 (ZeB _ s2) .nil)) <| J.S 0 [(⟨(ByteArray.extract a0 (Int.toNat s2) (Int.toNat (IntKind.wrap .i64 (s2 + 1)))), s2⟩ : Zba)] Ty87 fun b82 => J.p 0 0 rfl Ty87 fun r83 => J.z 1 <| SJ.rg 2 <| J.z 2 <| SJ.inBlock <| SJ.forget (List.Sublist.cons _ List.Sublist.slnil) <| J.o rfl
 refine SJ.sr 5 <| J.t 2 fun hb84 hb85 => J.C 0 F35 (ZiE _) fun r86 => J.z 1 <| J.f ?_ ?_
 ·exact SJ.sr 3 <| J.z 3 <| SJ.exit (id := 1) (by rfl) <| J.o rfl
 exact SJ.sr 4 <| J.z 4 <| J.r
noncomputable def Zat.F2 (a0 : ByteArray) (s1 : Sl) (s2 : Int) : LF Int (LS (Sl × Int) (Sl × Int × Int)) := ⟨[.inBlock 2, .code (c2 (c2 (c1 (c2 (c1 (c1 (c1 (c2 (c2 (c2 Zat.B)))))))))), .inBlock 1, .inLoop (c1 (c1 (c1 (c2 (c2 (c2 Zat.B)))))), .inBlock 0, .code (c2 (c2 (c2 (c2 Zat.B))))], c1 (c1 (c2 (c1 (c2 (c1 (c1 (c1 (c2 (c2 (c2 Zat.B)))))))))), fun s_ => [(0, .string a0), (5, Sl.v s1), (6, .int .i64 s2), (7, .int .i64 s_)], fun s_ => [], (Zat.F1 a0).f⟩
noncomputable def Zat.L2 (a0 : ByteArray) (s1 : Sl) (s2 : Int) (s52 : Int) : M (LS Int (LS (Sl × Int) (Sl × Int × Int))) :=
 (if s52 < (a0.size : Int) then
   chk ((0 : Int) ≤ s52 ∧ s52 < (a0.size : Int)) >>= fun _ =>
   pure (decide ((sb a0 s52) > 32))
  else
   pure false) >>= fun y92 =>
 (if y92 = true then
   chk ((0 : Int) ≤ s52 ∧ s52 < (a0.size : Int)) >>= fun _ =>
   pure (decide ((sb a0 s52) < 127))
  else
   pure false) >>= fun y95 =>
 (if y95 = true then
   chk ((0 : Int) ≤ s52 ∧ s52 < (a0.size : Int)) >>= fun _ =>
   pure ((sb a0 s52) != 44)
  else
   pure false) >>= fun y98 =>
 if y98 = true then
  pure (LS.next (IntKind.wrap .i64 (s52 + 1)))
 else
  (Zat.K1 a0 s1 s2 s52) >>= fun b => pure (LS.done b)
theorem Zat.L2_ok (a0 : ByteArray) (s1 : Sl) (s2 : Int) : LJ Zat.cx (Zat.F2 a0 s1 s2) (fun s_ => Zat.L2 a0 s1 s2 s_) := by
 rintro s52
 show SJ _ _ _ _ (Zat.L2 a0 s1 s2 s52) _
 unfold Zat.L2
 refine SJ.seq <| SJ.sr 22 <| J.j 5 4 .bool ?_ ?_ fun y92 => ?_
 ·exact J.t 2 fun hb90 hb91 => J.e 2
 ·exact J.e 5
 refine J.j 1 4 .bool ?_ ?_ fun y95 => ?_
 ·exact J.t 2 fun hb93 hb94 => J.e 2
 ·exact J.e 5
 refine J.j 1 4 .bool ?_ ?_ fun y98 => ?_
 ·exact J.t 2 fun hb96 hb97 => J.e 2
 ·exact J.e 5
 refine J.z 0 <| J.f ?_ ?_
 ·exact SJ.skip <| SJ.block (id := 3) <| SJ.rg 3 <| J.z 3 <| SJ.inBlock <| J.o rfl
 exact SJ.exit (id := 2) (by rfl) <| J.q <| SJ.done <| Zat.K1_ok a0 s1 s2 s52
noncomputable def Zat.L1 (a0 : ByteArray) (s1 : Sl) (s2 : Int) : M (LS (Sl × Int) (Sl × Int × Int)) :=
 if s2 < (a0.size : Int) then
  Zci (fun s_ : Int => Zat.L2 a0 s1 s2 s_) s2
 else
  pure (LS.done (s1, 0, 0))
theorem Zat.L1_ok (a0 : ByteArray) : LJ Zat.cx (Zat.F1 a0) (fun s_ => Zat.L1 a0 s_.1 s_.2) := by
 rintro ⟨s1, s2⟩
 show SJ _ _ _ _ (Zat.L1 a0 s1 s2) _
 unfold Zat.L1
 refine SJ.seq <| SJ.sr 4 <| J.z 4 <| J.f ?_ ?_
 ·exact SJ.skip <| SJ.block (id := 1) <| SJ.sr 2 <| J.z 2 <| SJ.seq <| SJ.block (id := 2) <| J.L (Zat.L2_ok a0 s1 s2)
 exact SJ.exit (id := 0) (by rfl) <| SJ.sr 4 <| J.z 4 <| J.r
noncomputable def Zat (a0 : ByteArray) : M (Sl × Int × Int) :=
 Zci (fun s_ : (Sl × Int) => Zat.L1 a0 s_.1 s_.2) (Sl.nil, 0)
theorem ZiF (a0 : ByteArray) : Ref Tryz.prog 16 [.string a0] (Zat a0) Zat.out := by
 refine J.Fn Tryz.func16 ?_
 unfold Zat
 exact SJ.sr 3 <| J.z 3 <| SJ.sr 1 <| J.z 1 <| SJ.sr 1 <| J.z 1 <| SJ.seq <| SJ.block (id := 0) <| J.L (Zat.L1_ok a0)

/-! ### (*weir/weirref16.reader).is: function 36 -/
noncomputable def ZaE.out (r_ : Bool) : Value := .bool r_
noncomputable def ZaE (a0 : (Option Addr)) (a1 : ByteArray) : M Bool :=
 nilck a0 >>= fun p1 =>
 ld cL p1 >>= fun x2 =>
 (if (x2.len : Int) = 0 then
   pure true
  else
   nilck a0 >>= fun p3 =>
   ld cL p3 >>= fun x4 =>
   idx x4.a x4.len 0 2 >>= fun p5 =>
   ld cS p5 >>= fun x6 =>
   pure (!(x6.toList == a1.toList))) >>= fun y7 =>
 if y7 = true then
  pure false
 else
  nilck a0 >>= fun p8 =>
  ld cL p8 >>= fun x9 =>
  cut 2 x9 (some 1) none none >>= fun r10 =>
  nilck a0 >>= fun p11 =>
  st cL p11 r10 >>= fun _ =>
  pure true
theorem ZaV (a0 : (Option Addr)) (a1 : ByteArray) : Ref Tryz.prog 36 [.pointer a0, .string a1] (ZaE a0 a1) ZaE.out := by
 refine J.Fn Tryz.func36 ?_
 unfold ZaE
 refine SJ.sr 1 <| J.z 1 <| SJ.seq <| SJ.sr 17 <| J.n 1 fun p1 => J.l 1 Ty53 fun x2 => J.j 3 9 .bool ?_ ?_ fun y7 => ?_
 ·exact J.e 10
 ·exact J.n 1 fun p3 => J.l 1 Ty53 fun x4 => J.i 0 fun p5 => J.l 1 Ty9 fun x6 => J.e 3
 refine J.z 0 <| J.f ?_ ?_
 ·exact SJ.sr 1 <| J.z 1 <| J.r
 exact SJ.skip <| SJ.sr 9 <| J.n 2 fun p8 => J.l 1 Ty53 fun x9 => J.cs 0 fun r10 => J.n 0 fun p11 => J.w 1 Ty53 <| J.z 0 <| SJ.sr 1 <| J.z 1 <| J.r

/-! ### (*weir/weirref16.reader).next: function 40 -/
noncomputable def Zbv.out (r_ : Zba) : Value := Zb3.val r_
noncomputable def Zbv (a0 : (Option Addr)) : M Zba :=
 slot 87 >>= fun b1 =>
 nilck a0 >>= fun p2 =>
 ld cL p2 >>= fun x3 =>
 if (x3.len : Int) = 0 then
  nilck a0 >>= fun p6 =>
  ld (cI .i64) (Addr.add p6 1) >>= fun x7 =>
  pure (⟨ZdA.Text, x7⟩ : Zba)
 else
  nilck a0 >>= fun p8 =>
  ld cL p8 >>= fun x9 =>
  idx x9.a x9.len 0 2 >>= fun p10 =>
  ld Zb3 p10 >>= fun x11 =>
  pure x11
theorem ZcF (a0 : (Option Addr)) : Ref Tryz.prog 40 [.pointer a0] (Zbv a0) Zbv.out := by
 refine J.Fn Tryz.func40 ?_
 unfold Zbv
 refine SJ.sr 1 <| J.a 0 Ty87 fun b1 => J.z 0 <| SJ.seq <| SJ.sr 6 <| J.n 1 fun p2 => J.l 1 Ty53 fun x3 => J.z 2 <| J.f ?_ ?_
 ·exact SJ.sr 6 <| J.n 1 fun p6 => J.l 1 Ty3 fun x7 => J.u 0 Ty87 (.f 1 (ZeB _ x7) .nil) <| J.s 0 0 rfl Ty87 (Upd.w (⟨ZdA.Text, x7⟩ : Zba)) <| J.z 0 <| J.rc (.c 0 rfl Ty87 .n)
 exact SJ.skip <| SJ.sr 7 <| J.n 1 fun p8 => J.l 1 Ty53 fun x9 => J.i 0 fun p10 => J.l 0 Ty87 fun x11 => J.s 0 0 rfl Ty87 (Upd.w x11) <| J.z 0 <| J.rc (.c 0 rfl Ty87 .n)

/-! ### (*weir/weirref16.reader).fail: function 42 -/
noncomputable def Za1.out (r_ : Unit) : Value := .tuple #[]
noncomputable def Za1 (a0 : (Option Addr)) (a1 : Int) (a2 : Int) : M Unit :=
 nilck a0 >>= fun p1 =>
 ld (cI .i64) (Addr.add p1 19) >>= fun x2 =>
 if x2 = 0 then
  nilck a0 >>= fun p6 =>
  st (cI .i64) (Addr.add p6 19) a1 >>= fun _ =>
  nilck a0 >>= fun p7 =>
  st (cI .i64) (Addr.add p7 20) a2 >>= fun _ =>
  nilck a0 >>= fun p8 =>
  st cL p8 Sl.nil >>= fun _ =>
  pure ()
 else
  pure ()
theorem Zbg (a0 : (Option Addr)) (a1 : Int) (a2 : Int) : Ref Tryz.prog 42 [.pointer a0, .int .i64 a1, .int .i64 a2] (Za1 a0 a1 a2) Za1.out := by
 refine J.Fn Tryz.func42 ?_
 unfold Za1
 refine SJ.sr 5 <| J.n 1 fun p1 => J.l 1 Ty3 fun x2 => J.z 1 <| J.f ?_ ?_
 ·exact SJ.sr 5 <| J.n 2 fun p6 => J.w 1 Ty3 <| J.z 0 <| SJ.sr 5 <| J.n 2 fun p7 => J.w 1 Ty3 <| J.z 0 <| SJ.rg 4 <| J.n 1 fun p8 => J.w 1 Ty53 <| J.z 0 <| SJ.end_ rfl (Res.run (ys := []) .nil rfl)
 exact SJ.skip <| SJ.end_ rfl (Res.run (ys := []) .nil rfl)

/-! ### (*weir/weirref16.reader).must: function 57 -/
noncomputable def ZbH.out (r_ : Zba) : Value := Zb3.val r_
noncomputable def ZbH (a0 : (Option Addr)) : M Zba :=
 slot 87 >>= fun b1 =>
 Zbv a0 >>= fun r2 =>
 slot 87 >>= fun b3 =>
 if r2.Text.toList = ByteArray.empty.toList then
  nilck a0 >>= fun p7 =>
  ld (cI .i64) (Addr.add p7 1) >>= fun x8 =>
  Za1 a0 161 x8 >>= fun r9 =>
  pure r2
 else
  if r2.Text.toList = str0.toList then
   Za1 a0 160 r2.At >>= fun r11 =>
   pure r2
  else
   nilck a0 >>= fun p12 =>
   ld cL p12 >>= fun x13 =>
   cut 2 x13 (some 1) none none >>= fun r14 =>
   nilck a0 >>= fun p15 =>
   st cL p15 r14 >>= fun _ =>
   pure r2
theorem ZcG (a0 : (Option Addr)) : Ref Tryz.prog 57 [.pointer a0] (ZbH a0) ZbH.out := by
 refine J.Fn Tryz.func57 ?_
 unfold ZbH
 refine SJ.sr 1 <| J.a 0 Ty87 fun b1 => J.z 0 <| SJ.sr 4 <| J.C 1 F40 (ZcF _) fun r2 => J.a 0 Ty87 fun b3 => J.s 0 0 rfl Ty87 (Upd.w r2) <| J.z 0 <| SJ.seq <| SJ.sr 3 <| J.k 1 0 rfl Ty9 (Za4 _) <| J.z 1 <| J.f ?_ ?_
 ·exact SJ.sr 6 <| J.n 2 fun p7 => J.l 1 Ty3 fun x8 => J.C 0 F42 (Zbg _ _ _) fun r9 => J.z 0 <| SJ.sr 2 <| J.k 0 0 rfl Ty87 (At.whole _) <| J.s 0 1 rfl Ty87 (Upd.w r2) <| J.z 0 <| J.rc (.c 1 rfl Ty87 .n)
 refine SJ.skip <| SJ.seq <| SJ.sr 3 <| J.k 1 0 rfl Ty9 (Za4 _) <| J.z 1 <| J.f ?_ ?_
 ·exact SJ.sr 4 <| J.k 2 0 rfl Ty3 (ZbK _) <| J.C 0 F42 (Zbg _ _ _) fun r11 => J.z 0 <| SJ.sr 2 <| J.k 0 0 rfl Ty87 (At.whole _) <| J.s 0 1 rfl Ty87 (Upd.w r2) <| J.z 0 <| J.rc (.c 1 rfl Ty87 .n)
 exact SJ.skip <| SJ.sr 9 <| J.n 2 fun p12 => J.l 1 Ty53 fun x13 => J.cs 0 fun r14 => J.n 0 fun p15 => J.w 1 Ty53 <| J.z 0 <| SJ.sr 2 <| J.k 0 0 rfl Ty87 (At.whole _) <| J.s 0 1 rfl Ty87 (Upd.w r2) <| J.z 0 <| J.rc (.c 1 rfl Ty87 .n)

/-! ### weir/weirref16.number: function 58 -/
noncomputable def Za8.B : Code := bod Tryz.f58
noncomputable def Za8.cx : Fx := ⟨Tryz.prog, 58, Tryz.f58, none⟩
noncomputable def Za8.out (r_ : Int) : Value := .int .i64 r_
noncomputable def Za8.F1 (a0 : ByteArray) (a1 : Int) (a2 : Int) : LF (Int × Int) Int := ⟨[.inBlock 0, .code (c2 (c2 (c2 (c2 Za8.B))))], c1 (c2 (c1 (c2 (c2 (c2 Za8.B))))), fun s_ => [(0, .string a0), (1, .int .i64 a1), (2, .int .i64 a2), (7, .int .i64 s_.1), (8, .int .i64 s_.2)], fun s_ => [], (rt Za8.out)⟩
noncomputable def Za8.L1 (a0 : ByteArray) (a1 : Int) (a2 : Int) (s6 : Int) (s7 : Int) : M (LS (Int × Int) Int) :=
 if s7 < (a0.size : Int) then
  chk ((0 : Int) ≤ s7 ∧ s7 < (a0.size : Int)) >>= fun _ =>
  (if (sb a0 s7) < 48 then
    pure true
   else
    chk ((0 : Int) ≤ s7 ∧ s7 < (a0.size : Int)) >>= fun _ =>
    pure (decide ((sb a0 s7) > 57))) >>= fun y23 =>
  if y23 = true then
   pure (LS.done (-1))
  else
   chk ((0 : Int) ≤ s7 ∧ s7 < (a0.size : Int)) >>= fun _ =>
   pure (LS.next (IntKind.wrap .i64 ((IntKind.wrap .i64 (10 * s6)) + (IntKind.wrap .i64 (IntKind.wrap .u8 ((sb a0 s7) - 48)))), IntKind.wrap .i64 (s7 + 1)))
 else
  (if s6 < a1 then
    pure true
   else
    pure (decide (s6 > a2))) >>= fun y27 =>
  if y27 = true then
   pure (LS.done (-1))
  else
   pure (LS.done s6)
theorem Za8.L1_ok (a0 : ByteArray) (a1 : Int) (a2 : Int) : LJ Za8.cx (Za8.F1 a0 a1 a2) (fun s_ => Za8.L1 a0 a1 a2 s_.1 s_.2) := by
 rintro ⟨s6, s7⟩
 show SJ _ _ _ _ (Za8.L1 a0 a1 a2 s6 s7) _
 unfold Za8.L1
 refine SJ.seq <| SJ.sr 4 <| J.z 4 <| J.f ?_ ?_
 ·refine SJ.skip <| SJ.seq <| SJ.block (id := 1) <| SJ.seq <| SJ.sr 10 <| J.t 2 fun hb19 hb20 => J.j 2 4 .bool ?_ ?_ fun y23 => ?_
  ·exact J.e 5
  ·exact J.t 2 fun hb21 hb22 => J.e 2
  refine J.z 0 <| J.f ?_ ?_
  ·exact SJ.sr 1 <| J.z 1 <| J.r
  exact SJ.skip <| SJ.rg 9 <| J.t 4 fun hb24 hb25 => J.z 4 <| SJ.inBlock <| SJ.rg 3 <| J.z 3 <| J.o rfl
 refine SJ.exit (id := 0) (by rfl) <| SJ.seq <| SJ.sr 8 <| J.j 4 3 .bool ?_ ?_ fun y27 => ?_
 ·exact J.e 4
 ·exact J.e 4
 refine J.z 0 <| J.f ?_ ?_
 ·exact SJ.sr 1 <| J.z 1 <| J.r
 exact SJ.skip <| SJ.sr 2 <| J.z 2 <| J.r
noncomputable def Za8 (a0 : ByteArray) (a1 : Int) (a2 : Int) : M Int :=
 (if a0.toList = ByteArray.empty.toList then
   pure true
  else
   pure (decide ((a0.size : Int) > 5))) >>= fun y1 =>
 (if y1 = true then
   pure true
  else
   (if (a0.size : Int) > 1 then
     chk ((0 : Int) ≤ 0 ∧ 0 < (a0.size : Int)) >>= fun _ =>
     pure ((sb a0 0) == 48)
    else
     pure false) >>= fun y4 =>
   pure y4) >>= fun y5 =>
 if y5 = true then
  pure (-1)
 else
  Zci (fun s_ : (Int × Int) => Za8.L1 a0 a1 a2 s_.1 s_.2) (0, 0)
theorem Zd5 (a0 : ByteArray) (a1 : Int) (a2 : Int) : Ref Tryz.prog 58 [.string a0, .int .i64 a1, .int .i64 a2] (Za8 a0 a1 a2) Za8.out := by
 refine J.Fn Tryz.func58 ?_
 unfold Za8
 refine SJ.sr 1 <| J.z 1 <| SJ.seq <| SJ.sr 17 <| J.j 3 3 .bool ?_ ?_ fun y1 => ?_
 ·exact J.e 4
 ·exact J.e 4
 refine J.g 1 <| OJ.join (b := y1) [8, 9, 10, 11, 12, 13, 14, 15, 16] [] [0, 1, 2, 25] (fun y5 => [(0, .string a0), (1, .int .i64 a1), (2, .int .i64 a2), (25, .bool y5)]) [] [] (t := 16) Iff.rfl (fun hp_ => ?_) (fun hp_ => ?_) (fun _ _ _ _ _ _ h_ => h_) fun y5 => ?_
 ·exact J.g 9 <| OJ.nil ⟨(Cov.mem Cov.nil), rfl, _, rfl, by kernel_rfl⟩
 ·refine J.g 4 <| OJ.join (b := decide ((a0.size : Int) > 1)) [12, 13, 14, 15] [16] [0, 1, 2, 16, 24] (fun y4 => [(0, .string a0), (1, .int .i64 a1), (2, .int .i64 a2), (16, .bool false), (24, .bool y4)]) [] [] (t := 20) decide_eq_true_iff (fun hp_ => ?_) (fun hp_ => ?_) (fun _ _ _ _ _ hq_ h_ => ⟨fun e_ he_ => (hq_ e_ he_).elim (fun h => h_.1 e_ h) (fun h => nomatch h), h_.2⟩) fun y4 => ?_
  ·exact J.t 1 fun hb2 hb3 => J.g 2 <| OJ.nil ⟨(Cov.mem Cov.nil), rfl, _, rfl, by kernel_rfl⟩
  ·exact J.g 4 <| OJ.nil ⟨(Cov.mem Cov.nil), rfl, _, rfl, by kernel_rfl⟩
  exact J.g 1 <| OJ.nil ⟨(Cov.mem Cov.nil), rfl, _, rfl, by kernel_rfl⟩
 refine J.z 0 <| J.f ?_ ?_
 ·exact SJ.sr 1 <| J.z 1 <| J.r
 exact SJ.skip <| SJ.sr 1 <| J.z 1 <| SJ.seq <| SJ.sr 1 <| J.z 1 <| SJ.block (id := 0) <| J.L (Za8.L1_ok a0 a1 a2)

/-! ### (*weir/weirref16.reader).count: function 37 -/
noncomputable def ZbT.out (r_ : Int) : Value := .int .i64 r_
noncomputable def ZbT (a0 : (Option Addr)) (a1 : Int) (a2 : Int) : M Int :=
 ZbH a0 >>= fun r1 =>
 slot 87 >>= fun b2 =>
 Za8 r1.Text a1 a2 >>= fun r3 =>
 if r3 < 0 then
  Za1 a0 162 r1.At >>= fun r5 =>
  pure r3
 else
  pure r3
theorem Zc2 (a0 : (Option Addr)) (a1 : Int) (a2 : Int) : Ref Tryz.prog 37 [.pointer a0, .int .i64 a1, .int .i64 a2] (ZbT a0 a1 a2) ZbT.out := by
 refine J.Fn Tryz.func37 ?_
 unfold ZbT
 refine SJ.sr 1 <| J.z 1 <| SJ.sr 4 <| J.C 1 F57 (ZcG _) fun r1 => J.a 0 Ty87 fun b2 => J.s 0 0 rfl Ty87 (Upd.w r1) <| J.z 0 <| SJ.sr 6 <| J.k 1 0 rfl Ty9 (Za4 _) <| J.C 2 F58 (Zd5 _ _ _) fun r3 => J.z 1 <| SJ.seq <| SJ.sr 2 <| J.z 2 <| J.f ?_ ?_
 ·exact SJ.rg 4 <| J.k 2 0 rfl Ty3 (ZbK _) <| J.C 0 F42 (Zbg _ _ _) fun r5 => J.z 0 <| SJ.sr 2 <| J.z 2 <| J.r
 exact SJ.skip <| SJ.sr 2 <| J.z 2 <| J.r

/-! ### (*weir/weirref16.reader).wrong: function 38 -/
noncomputable def Zb9.out (r_ : Unit) : Value := .tuple #[]
noncomputable def Zb9 (a0 : (Option Addr)) : M Unit :=
 Zbv a0 >>= fun r1 =>
 slot 87 >>= fun b2 =>
 if r1.Text.toList = ByteArray.empty.toList then
  nilck a0 >>= fun p6 =>
  ld (cI .i64) (Addr.add p6 1) >>= fun x7 =>
  Za1 a0 161 x7 >>= fun r8 =>
  pure ()
 else
  Za1 a0 160 r1.At >>= fun r9 =>
  pure ()
theorem ZeC (a0 : (Option Addr)) : Ref Tryz.prog 38 [.pointer a0] (Zb9 a0) Zb9.out := by
 refine J.Fn Tryz.func38 ?_
 unfold Zb9
 refine SJ.sr 4 <| J.C 1 F40 (ZcF _) fun r1 => J.a 0 Ty87 fun b2 => J.s 0 0 rfl Ty87 (Upd.w r1) <| J.z 0 <| SJ.seq <| SJ.sr 3 <| J.k 1 0 rfl Ty9 (Za4 _) <| J.z 1 <| J.f ?_ ?_
 ·exact SJ.sr 6 <| J.n 2 fun p6 => J.l 1 Ty3 fun x7 => J.C 0 F42 (Zbg _ _ _) fun r8 => J.z 0 <| J.r
 exact SJ.skip <| SJ.rg 4 <| J.k 2 0 rfl Ty3 (ZbK _) <| J.C 0 F42 (Zbg _ _ _) fun r9 => J.z 0 <| SJ.end_ rfl (Res.run (ys := []) .nil rfl)

/-! ### (*weir/weirref16.reader).act: function 17 -/
noncomputable def ZaT.cx : Fx := ⟨Tryz.prog, 17, Tryz.f17, none⟩
noncomputable def ZaT.out (r_ : Unit) : Value := .tuple #[]
noncomputable def ZaT.K1  : M Unit :=
 pure ()
theorem ZaT.K1_ok  :
  SJ ZaT.cx [.inBlock 0] [] [] (ZaT.K1) (rt ZaT.out) := by
 unfold ZaT.K1
 exact SJ.inBlock <| SJ.end_ rfl (Res.run (ys := []) .nil rfl)
noncomputable def ZaT (a0 : (Option Addr)) : M Unit :=
 ZaE a0 ZtU >>= fun r1 =>
 if r1 = true then
  nilck a0 >>= fun p25 =>
  st (cI .i64) (Addr.add p25 2) 1 >>= fun _ =>
  ZaE a0 str6 >>= fun r26 =>
  if r26 = true then
   ZbT a0 0 7 >>= fun r29 =>
   nilck a0 >>= fun p30 =>
   st (cI .i64) (Addr.add (Addr.add p30 2) 1) r29 >>= fun _ =>
   ZaT.K1
  else
   ZaT.K1
 else
  ZaE a0 ZtT >>= fun r32 =>
  if r32 = true then
   nilck a0 >>= fun p40 =>
   st (cI .i64) (Addr.add p40 2) 2 >>= fun _ =>
   ZaT.K1
  else
   ZaE a0 ZtS >>= fun r41 =>
   if r41 = true then
    nilck a0 >>= fun p44 =>
    st (cI .i64) (Addr.add p44 2) 3 >>= fun _ =>
    ZaT.K1
   else
    Zb9 a0 >>= fun r45 =>
    ZaT.K1
theorem ZgO (a0 : (Option Addr)) : Ref Tryz.prog 17 [.pointer a0] (ZaT a0) ZaT.out := by
 refine J.Fn Tryz.func17 ?_
 unfold ZaT
 refine SJ.block (id := 0) <| SJ.sr 3 <| J.C 1 F36 (ZaV _ _) fun r1 => J.z 1 <| J.f ?_ ?_
 ·refine SJ.sr 5 <| J.n 1 fun p25 => J.w 2 Ty3 <| J.z 0 <| SJ.sr 2 <| J.C 1 F36 (ZaV _ _) fun r26 => J.z 0 <| J.f ?_ ?_
  ·exact SJ.rg 7 <| J.C 2 F37 (Zc2 _ _ _) fun r29 => J.n 0 fun p30 => J.w 2 Ty3 <| J.z 0 <| J.q <| ZaT.K1_ok 
  exact SJ.skip <| J.q <| ZaT.K1_ok 
 refine SJ.sr 3 <| J.C 1 F36 (ZaV _ _) fun r32 => J.z 1 <| J.f ?_ ?_
 ·exact SJ.rg 5 <| J.n 1 fun p40 => J.w 2 Ty3 <| J.z 0 <| J.q <| ZaT.K1_ok 
 refine SJ.sr 3 <| J.C 1 F36 (ZaV _ _) fun r41 => J.z 1 <| J.f ?_ ?_
 ·exact SJ.rg 5 <| J.n 1 fun p44 => J.w 2 Ty3 <| J.z 0 <| J.q <| ZaT.K1_ok 
 exact SJ.rg 2 <| J.C 1 F38 (ZeC _) fun r45 => J.z 0 <| J.q <| ZaT.K1_ok 

/-! ### (*weir/weirref16.reader).protocol: function 39 -/
noncomputable def Zav.B : Code := bod Tryz.f39
noncomputable def Zav.cx : Fx := ⟨Tryz.prog, 39, Tryz.f39, none⟩
noncomputable def Zav.out (r_ : Bool) : Value := .bool r_
noncomputable def Zav.K1  : M Bool :=
 pure true
theorem Zav.K1_ok  :
  SJ Zav.cx [.inBlock 0, .code (c2 (c2 (c2 (c2 Zav.B))))] [] [] (Zav.K1) (rt Zav.out) := by
 unfold Zav.K1
 exact SJ.inBlock <| SJ.sr 1 <| J.z 1 <| J.r
noncomputable def Zav (a0 : (Option Addr)) : M Bool :=
 Zbv a0 >>= fun r1 =>
 slot 87 >>= fun b2 =>
 nilck a0 >>= fun p3 =>
 ld (cI .i64) (Addr.add (Addr.add p3 2) 2) >>= fun x4 =>
 (if x4 = 1 then
   (if r1.Text.toList = str1.toList then
     pure true
    else
     pure (r1.Text.toList == str2.toList)) >>= fun y5 =>
   (if y5 = true then
     pure true
    else
     pure (r1.Text.toList == str3.toList)) >>= fun y6 =>
   (if y6 = true then
     pure true
    else
     pure (r1.Text.toList == str4.toList)) >>= fun y7 =>
   (if y7 = true then
     pure true
    else
     pure (r1.Text.toList == str5.toList)) >>= fun y8 =>
   pure y8
  else
   pure false) >>= fun y9 =>
 if y9 = true then
  Za1 a0 165 r1.At >>= fun r11 =>
  pure true
 else
  ZaE a0 str1 >>= fun r12 =>
  if r12 = true then
   nilck a0 >>= fun p90 =>
   st (cI .i64) (Addr.add (Addr.add p90 2) 3) 6 >>= fun _ =>
   Zav.K1
  else
   ZaE a0 str2 >>= fun r91 =>
   if r91 = true then
    nilck a0 >>= fun p129 =>
    st (cI .i64) (Addr.add (Addr.add p129 2) 3) 17 >>= fun _ =>
    Zav.K1
   else
    ZaE a0 str3 >>= fun r130 =>
    if r130 = true then
     nilck a0 >>= fun p148 =>
     st (cI .i64) (Addr.add (Addr.add p148 2) 3) 1 >>= fun _ =>
     Zav.K1
    else
     ZaE a0 str4 >>= fun r149 =>
     if r149 = true then
      nilck a0 >>= fun p157 =>
      st (cI .i64) (Addr.add (Addr.add p157 2) 3) 58 >>= fun _ =>
      Zav.K1
     else
      ZaE a0 str5 >>= fun r158 =>
      if r158 = true then
       ZbT a0 1 255 >>= fun r161 =>
       nilck a0 >>= fun p162 =>
       st (cI .i64) (Addr.add (Addr.add p162 2) 3) r161 >>= fun _ =>
       Zav.K1
      else
       pure false
theorem ZfI (a0 : (Option Addr)) : Ref Tryz.prog 39 [.pointer a0] (Zav a0) Zav.out := by
 refine J.Fn Tryz.func39 ?_
 unfold Zav
 refine SJ.sr 1 <| J.z 1 <| SJ.sr 4 <| J.C 1 F40 (ZcF _) fun r1 => J.a 0 Ty87 fun b2 => J.s 0 0 rfl Ty87 (Upd.w r1) <| J.z 0 <| SJ.seq <| SJ.sr 31 <| J.n 1 fun p3 => J.l 2 Ty3 fun x4 => J.g 2 <| OJ.join (b := (x4 == 1)) [7, 8, 9, 10, 11, 12, 13, 14, 15, 16, 17, 18, 19, 20, 21, 22, 23, 24, 25, 26, 27, 28, 29, 30] [] [0, 3, 36] (fun y9 => [(0, .pointer a0), (3, .pointer (some (pt b2 0))), (36, .bool y9)]) [] [] (t := 12) beq_iff_eq (fun hp_ => ?_) (fun hp_ => ?_) (fun _ _ _ _ _ _ h_ => h_) fun y9 => ?_
 ·refine J.k 1 0 rfl Ty9 (Za4 _) <| J.g 2 <| OJ.join (b := (r1.Text.toList == str1.toList)) [11, 12, 13, 14] [15, 16, 17, 18, 19, 20, 21, 22, 23, 24, 25, 26, 27, 28, 29, 30] [0, 3, 12, 20] (fun y5 => [(0, .pointer a0), (3, .pointer (some (pt b2 0))), (12, .bool true), (20, .bool y5)]) [] [] (t := 16) beq_iff_eq (fun hp_ => ?_) (fun hp_ => ?_) (fun _ _ _ _ _ hq_ h_ => ⟨fun e_ he_ => (hq_ e_ he_).elim (fun h => h_.1 e_ h) (fun h => nomatch h), h_.2⟩) fun y5 => ?_
  ·exact J.g 4 <| OJ.nil ⟨(Cov.mem Cov.nil), rfl, _, rfl, by kernel_rfl⟩
  ·exact J.k 1 0 rfl Ty9 (Za4 _) <| J.g 2 <| OJ.nil ⟨(Cov.mem Cov.nil), rfl, _, rfl, by kernel_rfl⟩
  refine J.g 1 <| OJ.join (b := y5) [16, 17, 18, 19] [20, 21, 22, 23, 24, 25, 26, 27, 28, 29, 30] [0, 3, 12, 25] (fun y6 => [(0, .pointer a0), (3, .pointer (some (pt b2 0))), (12, .bool true), (25, .bool y6)]) [] [] (t := 21) Iff.rfl (fun hp_ => ?_) (fun hp_ => ?_) (fun _ _ _ _ _ hq_ h_ => ⟨fun e_ he_ => (hq_ e_ he_).elim (fun h => h_.1 e_ h) (fun h => nomatch h), h_.2⟩) fun y6 => ?_
  ·exact J.g 4 <| OJ.nil ⟨(Cov.mem Cov.nil), rfl, _, rfl, by kernel_rfl⟩
  ·exact J.k 1 0 rfl Ty9 (Za4 _) <| J.g 2 <| OJ.nil ⟨(Cov.mem Cov.nil), rfl, _, rfl, by kernel_rfl⟩
  refine J.g 1 <| OJ.join (b := y6) [21, 22, 23, 24] [25, 26, 27, 28, 29, 30] [0, 3, 12, 30] (fun y7 => [(0, .pointer a0), (3, .pointer (some (pt b2 0))), (12, .bool true), (30, .bool y7)]) [] [] (t := 26) Iff.rfl (fun hp_ => ?_) (fun hp_ => ?_) (fun _ _ _ _ _ hq_ h_ => ⟨fun e_ he_ => (hq_ e_ he_).elim (fun h => h_.1 e_ h) (fun h => nomatch h), h_.2⟩) fun y7 => ?_
  ·exact J.g 4 <| OJ.nil ⟨(Cov.mem Cov.nil), rfl, _, rfl, by kernel_rfl⟩
  ·exact J.k 1 0 rfl Ty9 (Za4 _) <| J.g 2 <| OJ.nil ⟨(Cov.mem Cov.nil), rfl, _, rfl, by kernel_rfl⟩
  refine J.g 1 <| OJ.join (b := y7) [26, 27, 28, 29] [30] [0, 3, 12, 35] (fun y8 => [(0, .pointer a0), (3, .pointer (some (pt b2 0))), (12, .bool true), (35, .bool y8)]) [] [] (t := 31) Iff.rfl (fun hp_ => ?_) (fun hp_ => ?_) (fun _ _ _ _ _ hq_ h_ => ⟨fun e_ he_ => (hq_ e_ he_).elim (fun h => h_.1 e_ h) (fun h => nomatch h), h_.2⟩) fun y8 => ?_
  ·exact J.g 4 <| OJ.nil ⟨(Cov.mem Cov.nil), rfl, _, rfl, by kernel_rfl⟩
  ·exact J.k 1 0 rfl Ty9 (Za4 _) <| J.g 2 <| OJ.nil ⟨(Cov.mem Cov.nil), rfl, _, rfl, by kernel_rfl⟩
  exact J.g 1 <| OJ.nil ⟨(Cov.mem Cov.nil), rfl, _, rfl, by kernel_rfl⟩
 ·exact J.g 24 <| OJ.nil ⟨(Cov.mem Cov.nil), rfl, _, rfl, by kernel_rfl⟩
 refine J.z 0 <| J.f ?_ ?_
 ·exact SJ.sr 4 <| J.k 2 0 rfl Ty3 (ZbK _) <| J.C 0 F42 (Zbg _ _ _) fun r11 => J.z 0 <| SJ.sr 1 <| J.z 1 <| J.r
 refine SJ.skip <| SJ.seq <| SJ.block (id := 0) <| SJ.sr 3 <| J.C 1 F36 (ZaV _ _) fun r12 => J.z 1 <| J.f ?_ ?_
 ·exact SJ.rg 5 <| J.n 1 fun p90 => J.w 2 Ty3 <| J.z 0 <| SJ.forget (List.Sublist.cons _ List.Sublist.slnil) <| J.q <| Zav.K1_ok 
 refine SJ.sr 3 <| J.C 1 F36 (ZaV _ _) fun r91 => J.z 1 <| J.f ?_ ?_
 ·exact SJ.rg 5 <| J.n 1 fun p129 => J.w 2 Ty3 <| J.z 0 <| SJ.forget (List.Sublist.cons _ List.Sublist.slnil) <| J.q <| Zav.K1_ok 
 refine SJ.sr 3 <| J.C 1 F36 (ZaV _ _) fun r130 => J.z 1 <| J.f ?_ ?_
 ·exact SJ.rg 5 <| J.n 1 fun p148 => J.w 2 Ty3 <| J.z 0 <| SJ.forget (List.Sublist.cons _ List.Sublist.slnil) <| J.q <| Zav.K1_ok 
 refine SJ.sr 3 <| J.C 1 F36 (ZaV _ _) fun r149 => J.z 1 <| J.f ?_ ?_
 ·exact SJ.rg 5 <| J.n 1 fun p157 => J.w 2 Ty3 <| J.z 0 <| SJ.forget (List.Sublist.cons _ List.Sublist.slnil) <| J.q <| Zav.K1_ok 
 refine SJ.sr 3 <| J.C 1 F36 (ZaV _ _) fun r158 => J.z 1 <| J.f ?_ ?_
 ·exact SJ.rg 7 <| J.C 2 F37 (Zc2 _ _ _) fun r161 => J.n 0 fun p162 => J.w 2 Ty3 <| J.z 0 <| SJ.forget (List.Sublist.cons _ List.Sublist.slnil) <| J.q <| Zav.K1_ok 
 exact SJ.sr 1 <| J.z 1 <| J.r

/-! ### (*weir/weirref16.reader).what: function 18 -/
noncomputable def Zag.B : Code := bod Tryz.f18
noncomputable def Zag.cx : Fx := ⟨Tryz.prog, 18, Tryz.f18, none⟩
noncomputable def Zag.out (r_ : Unit) : Value := .tuple #[]
noncomputable def Zag.K1 (a0 : (Option Addr)) (j33 : Int) : M Unit :=
 nilck a0 >>= fun p34 =>
 st (cI .i64) (Addr.add (Addr.add p34 2) 2) j33 >>= fun _ =>
 Zav a0 >>= fun r35 =>
 (if ¬ (r35 = true) then
   pure (j33 == 0)
  else
   pure false) >>= fun y36 =>
 if y36 = true then
  Zb9 a0 >>= fun r38 =>
  pure ()
 else
  pure ()
theorem Zag.K1_ok (a0 : (Option Addr)) (j33 : Int) :
  SJ Zag.cx [.inBlock 0, .code (c2 (c2 Zag.B))] [(0, .pointer a0), (2, .int .i64 j33)] [] (Zag.K1 a0 j33) (rt Zag.out) := by
 unfold Zag.K1
 refine SJ.inBlock <| SJ.sr 6 <| J.n 2 fun p34 => J.w 2 Ty3 <| J.z 0 <| SJ.sr 3 <| J.C 1 F39 (ZfI _) fun r35 => J.z 1 <| SJ.sr 6 <| J.j 3 2 .bool ?_ ?_ fun y36 => ?_
 ·exact J.e 3
 ·exact J.e 3
 refine J.z 0 <| J.f ?_ ?_
 ·exact SJ.rg 2 <| J.C 1 F38 (ZeC _) fun r38 => J.z 0 <| SJ.end_ rfl (Res.run (ys := []) .nil rfl)
 exact SJ.skip <| SJ.end_ rfl (Res.run (ys := []) .nil rfl)
noncomputable def Zag.K2 (a0 : (Option Addr)) (j44 : Int) : M Unit :=
 Zag.K1 a0 j44
theorem Zag.K2_ok (a0 : (Option Addr)) (j44 : Int) :
  SJ Zag.cx [.inBlock 0, .code (c2 (c2 Zag.B))] [(0, .pointer a0), (2, .int .i64 j44)] [] (Zag.K2 a0 j44) (rt Zag.out) := by
 unfold Zag.K2
 exact J.q <| Zag.K1_ok a0 j44
noncomputable def Zag.K3 (a0 : (Option Addr)) (j46 : Int) : M Unit :=
 Zag.K2 a0 j46
theorem Zag.K3_ok (a0 : (Option Addr)) (j46 : Int) :
  SJ Zag.cx [.inBlock 0, .code (c2 (c2 Zag.B))] [(0, .pointer a0), (2, .int .i64 j46)] [] (Zag.K3 a0 j46) (rt Zag.out) := by
 unfold Zag.K3
 exact J.q <| Zag.K2_ok a0 j46
noncomputable def Zag (a0 : (Option Addr)) : M Unit :=
 ZaE a0 str7 >>= fun r1 =>
 if r1 = true then
  pure ()
 else
  ZaE a0 ZtR >>= fun r23 =>
  if r23 = true then
   Zag.K1 a0 1
  else
   ZaE a0 ZtQ >>= fun r40 =>
   if r40 = true then
    Zag.K2 a0 2
   else
    ZaE a0 ZtP >>= fun r45 =>
    if r45 = true then
     Zag.K3 a0 3
    else
     Zag.K3 a0 0
theorem Zgv (a0 : (Option Addr)) : Ref Tryz.prog 18 [.pointer a0] (Zag a0) Zag.out := by
 refine J.Fn Tryz.func18 ?_
 unfold Zag
 refine SJ.sr 1 <| J.z 1 <| SJ.seq <| SJ.block (id := 0) <| SJ.sr 3 <| J.C 1 F36 (ZaV _ _) fun r1 => J.z 1 <| J.f ?_ ?_
 ·exact J.r
 refine SJ.sr 3 <| J.C 1 F36 (ZaV _ _) fun r23 => J.z 1 <| J.f ?_ ?_
 ·exact SJ.rg 1 <| J.z 1 <| J.q <| Zag.K1_ok a0 1
 refine SJ.sr 3 <| J.C 1 F36 (ZaV _ _) fun r40 => J.z 1 <| J.f ?_ ?_
 ·exact SJ.rg 1 <| J.z 1 <| J.q <| Zag.K2_ok a0 2
 refine SJ.sr 3 <| J.C 1 F36 (ZaV _ _) fun r45 => J.z 1 <| J.f ?_ ?_
 ·exact SJ.rg 1 <| J.z 1 <| J.q <| Zag.K3_ok a0 3
 exact SJ.skip <| J.q <| Zag.K3_ok a0 0

/-! ### weir/weirref16.known: function 41 -/
noncomputable def Zbj.B : Code := bod Tryz.f41
noncomputable def Zbj.cx : Fx := ⟨Tryz.prog, 41, Tryz.f41, none⟩
noncomputable def Zbj.out (r_ : Bool) : Value := .bool r_
noncomputable def Zbj.F1 (a0 : ByteArray) (b1 : Nat) : LF Int Bool := ⟨[.inBlock 0, .code (c2 (c2 (c2 Zbj.B)))], c1 (c2 (c1 (c2 (c2 Zbj.B)))), fun s_ => [(0, .string a0), (3, Sl.v (⟨some (pt b1 0), 7, 7⟩ : Sl)), (4, .int .i64 s_)], fun s_ => [], (rt Zbj.out)⟩
noncomputable def Zbj.L1 (a0 : ByteArray) (b1 : Nat) (s2 : Int) : M (LS Int Bool) :=
 if s2 < ((⟨some (pt b1 0), 7, 7⟩ : Sl).len : Int) then
  idx (⟨some (pt b1 0), 7, 7⟩ : Sl).a (⟨some (pt b1 0), 7, 7⟩ : Sl).len s2 1 >>= fun p7 =>
  ld cS p7 >>= fun x8 =>
  if x8.toList = a0.toList then
   pure (LS.done true)
  else
   pure (LS.next (IntKind.wrap .i64 (s2 + 1)))
 else
  pure (LS.done false)
theorem Zbj.L1_ok (a0 : ByteArray) (b1 : Nat) : LJ Zbj.cx (Zbj.F1 a0 b1) (fun s_ => Zbj.L1 a0 b1 s_) := by
 rintro s2
 show SJ _ _ _ _ (Zbj.L1 a0 b1 s2) _
 unfold Zbj.L1
 refine SJ.seq <| SJ.sr 4 <| J.z 4 <| J.f ?_ ?_
 ·refine SJ.skip <| SJ.seq <| SJ.block (id := 1) <| SJ.sr 6 <| J.i 2 fun p7 => J.l 0 Ty9 fun x8 => J.z 2 <| J.f ?_ ?_
  ·exact SJ.sr 1 <| J.z 1 <| J.r
  exact SJ.skip <| SJ.inBlock <| SJ.rg 3 <| J.z 3 <| J.o rfl
 exact SJ.exit (id := 0) (by rfl) <| SJ.sr 1 <| J.z 1 <| J.r
noncomputable def Zbj (a0 : ByteArray) : M Bool :=
 newv 9 (cS.arr 7) (⟨[ZnJ, ZnI, Zkw, Zl5, Zj0, ZjZ, ZnH], rfl⟩ : Vec ByteArray 7) >>= fun b1 =>
 Zci (fun s_ : Int => Zbj.L1 a0 b1 s_) 0
theorem ZiD (a0 : ByteArray) : Ref Tryz.prog 41 [.string a0] (Zbj a0) Zbj.out := by
 refine J.Fn Tryz.func41 ?_
 unfold Zbj
 exact SJ.sr 1 <| J.z 1 <| SJ.sr 2 <| J.N 0 Ty9 fun b1 => J.z 1 <| SJ.seq <| SJ.sr 1 <| J.z 1 <| SJ.block (id := 0) <| J.L (Zbj.L1_ok a0 b1)

/-! ### (*weir/weirref16.reader).may: function 43 -/
noncomputable def Zay.B : Code := bod Tryz.f43
noncomputable def Zay.cx : Fx := ⟨Tryz.prog, 43, Tryz.f43, none⟩
noncomputable def Zay.out (r_ : Bool) : Value := .bool r_
noncomputable def Zay.K1 (a0 : (Option Addr)) (a1 : ByteArray) : M Bool :=
 if a1.toList = Zj0.toList then
  nilck a0 >>= fun p12 =>
  ld (cI .i64) (Addr.add (Addr.add p12 2) 3) >>= fun x13 =>
  pure (x13 == 6)
 else
  (if ¬ (a1.toList = ZjZ.toList) then
    pure true
   else
    nilck a0 >>= fun p14 =>
    ld (cI .i64) (Addr.add (Addr.add p14 2) 3) >>= fun x15 =>
    pure (x15 == 1)) >>= fun y16 =>
  (if y16 = true then
    pure true
   else
    nilck a0 >>= fun p17 =>
    ld (cI .i64) (Addr.add (Addr.add p17 2) 3) >>= fun x18 =>
    pure (x18 == 58)) >>= fun y19 =>
  pure y19
theorem Zay.K1_ok (a0 : (Option Addr)) (a1 : ByteArray) :
  SJ Zay.cx [.code (c2 (c2 Zay.B))] [(0, .pointer a0), (1, .string a1)] [] (Zay.K1 a0 a1) (rt Zay.out) := by
 unfold Zay.K1
 refine SJ.seq <| SJ.sr 2 <| J.z 2 <| J.f ?_ ?_
 ·exact SJ.sr 7 <| J.n 1 fun p12 => J.l 2 Ty3 fun x13 => J.z 2 <| J.r
 refine SJ.skip <| SJ.sr 19 <| J.j 3 6 .bool ?_ ?_ fun y16 => ?_
 ·exact J.e 7
 ·exact J.n 1 fun p14 => J.l 2 Ty3 fun x15 => J.e 2
 refine J.j 1 6 .bool ?_ ?_ fun y19 => ?_
 ·exact J.e 7
 ·exact J.n 1 fun p17 => J.l 2 Ty3 fun x18 => J.e 2
 exact J.z 1 <| J.r
noncomputable def Zay.F1 (a0 : (Option Addr)) (a1 : ByteArray) : LF Int Bool := ⟨[.inBlock 0, .code (c2 (c2 Zay.B))], c1 (c2 (c1 (c2 Zay.B))), fun s_ => [(0, .pointer a0), (1, .string a1), (5, .int .i64 s_)], fun s_ => [], (rt Zay.out)⟩
noncomputable def Zay.L1 (a0 : (Option Addr)) (a1 : ByteArray) (s1 : Int) : M (LS Int Bool) :=
 nilck a0 >>= fun p21 =>
 ld cL (Addr.add p21 18) >>= fun x22 =>
 if s1 < (x22.len : Int) then
  nilck a0 >>= fun p23 =>
  ld cL (Addr.add p23 18) >>= fun x24 =>
  idx x24.a x24.len s1 1 >>= fun p25 =>
  ld cS p25 >>= fun x26 =>
  if x26.toList = a1.toList then
   pure (LS.done false)
  else
   pure (LS.next (IntKind.wrap .i64 (s1 + 1)))
 else
  (Zay.K1 a0 a1) >>= fun b => pure (LS.done b)
theorem Zay.L1_ok (a0 : (Option Addr)) (a1 : ByteArray) : LJ Zay.cx (Zay.F1 a0 a1) (fun s_ => Zay.L1 a0 a1 s_) := by
 rintro s1
 show SJ _ _ _ _ (Zay.L1 a0 a1 s1) _
 unfold Zay.L1
 refine SJ.seq <| SJ.sr 7 <| J.n 2 fun p21 => J.l 1 Ty22 fun x22 => J.z 2 <| J.f ?_ ?_
 ·refine SJ.skip <| SJ.seq <| SJ.block (id := 1) <| SJ.sr 9 <| J.n 1 fun p23 => J.l 1 Ty22 fun x24 => J.i 1 fun p25 => J.l 0 Ty9 fun x26 => J.z 2 <| J.f ?_ ?_
  ·exact SJ.sr 1 <| J.z 1 <| J.r
  exact SJ.skip <| SJ.inBlock <| SJ.rg 3 <| J.z 3 <| J.o rfl
 exact SJ.exit (id := 0) (by rfl) <| J.q <| SJ.done <| Zay.K1_ok a0 a1
noncomputable def Zay (a0 : (Option Addr)) (a1 : ByteArray) : M Bool :=
 Zci (fun s_ : Int => Zay.L1 a0 a1 s_) 0
theorem ZgN (a0 : (Option Addr)) (a1 : ByteArray) : Ref Tryz.prog 43 [.pointer a0, .string a1] (Zay a0 a1) Zay.out := by
 refine J.Fn Tryz.func43 ?_
 unfold Zay
 exact SJ.sr 1 <| J.z 1 <| SJ.seq <| SJ.sr 1 <| J.z 1 <| SJ.block (id := 0) <| J.L (Zay.L1_ok a0 a1)

/-! ### (*weir/weirref16.reader).port: function 44 -/
noncomputable def ZaL.B : Code := bod Tryz.f44
noncomputable def ZaL.cx : Fx := ⟨Tryz.prog, 44, Tryz.f44, none⟩
noncomputable def ZaL.out (r_ : Int) : Value := .int .i64 r_
noncomputable def ZaL.K1 (a0 : (Option Addr)) (r1 : Zba) (j7 : Int) : M Int :=
 if j7 < 0 then
  Za1 a0 162 r1.At >>= fun r9 =>
  pure (IntKind.wrap .i64 (j7 + 1))
 else
  pure (IntKind.wrap .i64 (j7 + 1))
theorem ZaL.K1_ok (a0 : (Option Addr)) (r1 : Zba) (b2 : Nat) (j7 : Int) :
  SJ ZaL.cx [.code (c2 (c2 (c2 (c2 ZaL.B))))] [(0, .pointer a0), (3, .pointer (some (pt b2 0))), (4, .int .i64 j7)] [(b2, Zb3.enc r1)] (ZaL.K1 a0 r1 j7) (rt ZaL.out) := by
 unfold ZaL.K1
 refine SJ.seq <| SJ.sr 2 <| J.z 2 <| J.f ?_ ?_
 ·exact SJ.rg 4 <| J.k 2 0 rfl Ty3 (ZbK _) <| J.C 0 F42 (Zbg _ _ _) fun r9 => J.z 0 <| SJ.sr 3 <| J.z 3 <| J.r
 exact SJ.skip <| SJ.sr 3 <| J.z 3 <| J.r
noncomputable def ZaL (a0 : (Option Addr)) : M Int :=
 ZbH a0 >>= fun r1 =>
 slot 87 >>= fun b2 =>
 (if (r1.Text.size : Int) > 1 then
   chk ((0 : Int) ≤ 0 ∧ 0 < (r1.Text.size : Int)) >>= fun _ =>
   pure ((sb r1.Text 0) == 112)
  else
   pure false) >>= fun y5 =>
 if y5 = true then
  chk (0 ≤ (1 : Int) ∧ (1 : Int) ≤ (r1.Text.size : Int) ∧ (r1.Text.size : Int) ≤ (r1.Text.size : Int)) >>= fun _ =>
  Za8 (ByteArray.extract r1.Text (Int.toNat 1) (Int.toNat (r1.Text.size : Int))) 0 7 >>= fun r11 =>
  ZaL.K1 a0 r1 r11
 else
  ZaL.K1 a0 r1 (-1)
theorem Zgw (a0 : (Option Addr)) : Ref Tryz.prog 44 [.pointer a0] (ZaL a0) ZaL.out := by
 refine J.Fn Tryz.func44 ?_
 unfold ZaL
 refine SJ.sr 1 <| J.z 1 <| SJ.sr 4 <| J.C 1 F57 (ZcG _) fun r1 => J.a 0 Ty87 fun b2 => J.s 0 0 rfl Ty87 (Upd.w r1) <| J.z 0 <| SJ.sr 1 <| J.z 1 <| SJ.seq <| SJ.sr 10 <| J.k 1 0 rfl Ty9 (Za4 _) <| J.j 3 4 .bool ?_ ?_ fun y5 => ?_
 ·exact J.k 1 0 rfl Ty9 (Za4 _) <| J.t 0 fun hb3 hb4 => J.e 2
 ·exact J.e 5
 refine J.z 0 <| J.f ?_ ?_
 ·exact SJ.rg 5 <| J.k 1 0 rfl Ty9 (Za4 _) <| J.ct 0 <| J.C 0 F58 (Zd5 _ _ _) fun r11 => J.z 1 <| J.q <| ZaL.K1_ok a0 r1 b2 r11
 exact SJ.skip <| J.q <| ZaL.K1_ok a0 r1 b2 (-1)

/-! ### weir/weirref4.has: function 112 -/
noncomputable def ZbI.B : Code := bod Tryz.f112
noncomputable def ZbI.cx : Fx := ⟨Tryz.prog, 112, Tryz.f112, none⟩
noncomputable def ZbI.out (r_ : Bool) : Value := .bool r_
noncomputable def ZbI.F1 (a0 : ByteArray) (a1 : Int) : LF Int Bool := ⟨[.inBlock 0, .code (c2 (c2 ZbI.B))], c1 (c2 (c1 (c2 ZbI.B))), fun s_ => [(0, .string a0), (1, .int .u8 a1), (5, .int .i64 s_)], fun s_ => [], (rt ZbI.out)⟩
noncomputable def ZbI.L1 (a0 : ByteArray) (a1 : Int) (s1 : Int) : M (LS Int Bool) :=
 if s1 < (a0.size : Int) then
  chk ((0 : Int) ≤ s1 ∧ s1 < (a0.size : Int)) >>= fun _ =>
  if (sb a0 s1) = a1 then
   pure (LS.done true)
  else
   pure (LS.next (IntKind.wrap .i64 (s1 + 1)))
 else
  pure (LS.done false)
theorem ZbI.L1_ok (a0 : ByteArray) (a1 : Int) : LJ ZbI.cx (ZbI.F1 a0 a1) (fun s_ => ZbI.L1 a0 a1 s_) := by
 rintro s1
 show SJ _ _ _ _ (ZbI.L1 a0 a1 s1) _
 unfold ZbI.L1
 refine SJ.seq <| SJ.sr 4 <| J.z 4 <| J.f ?_ ?_
 ·refine SJ.skip <| SJ.seq <| SJ.block (id := 1) <| SJ.sr 5 <| J.t 2 fun hb6 hb7 => J.z 2 <| J.f ?_ ?_
  ·exact SJ.sr 1 <| J.z 1 <| J.r
  exact SJ.skip <| SJ.inBlock <| SJ.rg 3 <| J.z 3 <| J.o rfl
 exact SJ.exit (id := 0) (by rfl) <| SJ.sr 1 <| J.z 1 <| J.r
noncomputable def ZbI (a0 : ByteArray) (a1 : Int) : M Bool :=
 Zci (fun s_ : Int => ZbI.L1 a0 a1 s_) 0
theorem Zkl (a0 : ByteArray) (a1 : Int) : Ref Tryz.prog 112 [.string a0, .int .u8 a1] (ZbI a0 a1) ZbI.out := by
 refine J.Fn Tryz.func112 ?_
 unfold ZbI
 exact SJ.sr 1 <| J.z 1 <| SJ.seq <| SJ.sr 1 <| J.z 1 <| SJ.block (id := 0) <| J.L (ZbI.L1_ok a0 a1)

/-! ### weir/weirref4.two: function 131 -/
noncomputable def Zd1.out (r_ : Bool) : Value := .bool r_
noncomputable def Zd1 (a0 : ByteArray) (a1 : Int) : M Bool :=
 (if (IntKind.wrap .i64 (a1 + 1)) < (a0.size : Int) then
   chk ((0 : Int) ≤ a1 ∧ a1 < (a0.size : Int)) >>= fun _ =>
   pure ((sb a0 a1) == 58)
  else
   pure false) >>= fun y3 =>
 (if y3 = true then
   chk ((0 : Int) ≤ (IntKind.wrap .i64 (a1 + 1)) ∧ (IntKind.wrap .i64 (a1 + 1)) < (a0.size : Int)) >>= fun _ =>
   pure ((sb a0 (IntKind.wrap .i64 (a1 + 1))) == 58)
  else
   pure false) >>= fun y6 =>
 pure y6
theorem Zhi (a0 : ByteArray) (a1 : Int) : Ref Tryz.prog 131 [.string a0, .int .i64 a1] (Zd1 a0 a1) Zd1.out := by
 refine J.Fn Tryz.func131 ?_
 unfold Zd1
 refine SJ.sr 1 <| J.z 1 <| SJ.sr 19 <| J.j 6 4 .bool ?_ ?_ fun y3 => ?_
 ·exact J.t 2 fun hb1 hb2 => J.e 2
 ·exact J.e 5
 refine J.j 1 5 .bool ?_ ?_ fun y6 => ?_
 ·exact J.t 3 fun hb4 hb5 => J.e 2
 ·exact J.e 6
 exact J.z 1 <| J.r

/-! ### weir/weirref4.digit: function 108 -/
noncomputable def Zc1.out (r_ : Bool) : Value := .bool r_
noncomputable def Zc1 (a0 : Int) : M Bool :=
 (if a0 ≥ 48 then
   pure (decide (a0 ≤ 57))
  else
   pure false) >>= fun y1 =>
 pure y1
theorem Zfh (a0 : Int) : Ref Tryz.prog 108 [.int .u8 a0] (Zc1 a0) Zc1.out := by
 refine J.Fn Tryz.func108 ?_
 unfold Zc1
 refine SJ.sr 1 <| J.z 1 <| SJ.sr 7 <| J.j 3 2 .bool ?_ ?_ fun y1 => ?_
 ·exact J.e 3
 ·exact J.e 3
 exact J.z 1 <| J.r

/-! ### weir/weirref4.worth: function 145 -/
noncomputable def Zdl.out (r_ : Int) : Value := .int .i64 r_
noncomputable def Zdl (a0 : Int) : M Int :=
 Zc1 a0 >>= fun r1 =>
 if r1 = true then
  pure (IntKind.wrap .i64 (IntKind.wrap .u8 (a0 - 48)))
 else
  (if a0 ≥ 97 then
    pure (decide (a0 ≤ 102))
   else
    pure false) >>= fun y2 =>
  if y2 = true then
   pure (IntKind.wrap .i64 ((IntKind.wrap .i64 (IntKind.wrap .u8 (a0 - 97))) + 10))
  else
   (if a0 ≥ 65 then
     pure (decide (a0 ≤ 70))
    else
     pure false) >>= fun y3 =>
   if y3 = true then
    pure (IntKind.wrap .i64 ((IntKind.wrap .i64 (IntKind.wrap .u8 (a0 - 65))) + 10))
   else
    pure (-1)
theorem Zgt (a0 : Int) : Ref Tryz.prog 145 [.int .u8 a0] (Zdl a0) Zdl.out := by
 refine J.Fn Tryz.func145 ?_
 unfold Zdl
 refine SJ.sr 1 <| J.z 1 <| SJ.seq <| SJ.sr 2 <| J.C 1 F108 (Zfh _) fun r1 => J.z 0 <| J.f ?_ ?_
 ·exact SJ.sr 4 <| J.z 4 <| J.r
 refine SJ.skip <| SJ.seq <| SJ.sr 6 <| J.j 3 2 .bool ?_ ?_ fun y2 => ?_
 ·exact J.e 3
 ·exact J.e 3
 refine J.z 0 <| J.f ?_ ?_
 ·exact SJ.sr 5 <| J.z 5 <| J.r
 refine SJ.skip <| SJ.seq <| SJ.sr 6 <| J.j 3 2 .bool ?_ ?_ fun y3 => ?_
 ·exact J.e 3
 ·exact J.e 3
 refine J.z 0 <| J.f ?_ ?_
 ·exact SJ.sr 5 <| J.z 5 <| J.r
 exact SJ.skip <| SJ.sr 1 <| J.z 1 <| J.r

/-! ### weir/weirref4.here: function 109 -/
noncomputable def Zc0.out (r_ : (Int × Int)) : Value := .tuple #[.int .i64 r_.1, .int .i64 r_.2]
noncomputable def Zc0 (a0 : ByteArray) (a1 : Int) : M (Int × Int) :=
 if a1 ≥ (a0.size : Int) then
  pure (42, (a0.size : Int))
 else
  pure (41, a1)
theorem ZeE (a0 : ByteArray) (a1 : Int) : Ref Tryz.prog 109 [.string a0, .int .i64 a1] (Zc0 a0 a1) Zc0.out := by
 refine J.Fn Tryz.func109 ?_
 unfold Zc0
 refine SJ.sr 2 <| J.z 2 <| SJ.seq <| SJ.sr 4 <| J.z 4 <| J.f ?_ ?_
 ·exact SJ.sr 4 <| J.z 4 <| J.r
 exact SJ.skip <| SJ.sr 3 <| J.z 3 <| J.r

/-! ### (*weir/weirref4.six).fail: function 134 -/
noncomputable def Zb0.out (r_ : Unit) : Value := .tuple #[]
noncomputable def Zb0 (a0 : (Option Addr)) (a1 : Int) (a2 : Int) : M Unit :=
 nilck a0 >>= fun p1 =>
 ld (cI .i64) (Addr.add p1 4) >>= fun x2 =>
 if x2 = 0 then
  nilck a0 >>= fun p5 =>
  st (cI .i64) (Addr.add p5 4) a1 >>= fun _ =>
  nilck a0 >>= fun p6 =>
  st (cI .i64) (Addr.add p6 5) a2 >>= fun _ =>
  pure ()
 else
  pure ()
theorem Zcw (a0 : (Option Addr)) (a1 : Int) (a2 : Int) : Ref Tryz.prog 134 [.pointer a0, .int .i64 a1, .int .i64 a2] (Zb0 a0 a1 a2) Zb0.out := by
 refine J.Fn Tryz.func134 ?_
 unfold Zb0
 refine SJ.sr 5 <| J.n 1 fun p1 => J.l 1 Ty3 fun x2 => J.z 1 <| J.f ?_ ?_
 ·exact SJ.sr 5 <| J.n 2 fun p5 => J.w 1 Ty3 <| J.z 0 <| SJ.rg 5 <| J.n 2 fun p6 => J.w 1 Ty3 <| J.z 0 <| SJ.end_ rfl (Res.run (ys := []) .nil rfl)
 exact SJ.skip <| SJ.end_ rfl (Res.run (ys := []) .nil rfl)

/-! ### (*weir/weirref4.six).room: function 146 -/
noncomputable def ZcU.out (r_ : Int) : Value := .int .i64 r_
noncomputable def ZcU (a0 : (Option Addr)) : M Int :=
 nilck a0 >>= fun p1 =>
 ld (cI .i64) (Addr.add p1 2) >>= fun x2 =>
 if x2 ≥ 0 then
  pure 7
 else
  pure 8
theorem ZhV (a0 : (Option Addr)) : Ref Tryz.prog 146 [.pointer a0] (ZcU a0) ZcU.out := by
 refine J.Fn Tryz.func146 ?_
 unfold ZcU
 refine SJ.sr 1 <| J.z 1 <| SJ.seq <| SJ.sr 5 <| J.n 1 fun p1 => J.l 1 Ty3 fun x2 => J.z 1 <| J.f ?_ ?_
 ·exact SJ.sr 1 <| J.z 1 <| J.r
 exact SJ.skip <| SJ.sr 1 <| J.z 1 <| J.r

/-! ### weir/weirref4.decimal: function 110 -/
noncomputable def Zbb.B : Code := bod Tryz.f110
noncomputable def Zbb.cx : Fx := ⟨Tryz.prog, 110, Tryz.f110, none⟩
noncomputable def Zbb.out (r_ : Int) : Value := .int .i64 r_
noncomputable def Zbb.F1 (a0 : ByteArray) (a2 : Int) (a3 : Int) : LF (Int × Int) Int := ⟨[.inBlock 0, .code (c2 (c2 (c2 (c2 Zbb.B))))], c1 (c2 (c1 (c2 (c2 (c2 Zbb.B))))), fun s_ => [(0, .string a0), (2, .int .i64 a2), (3, .int .i64 a3), (9, .int .i64 s_.1), (10, .int .i64 s_.2)], fun s_ => [], (rt Zbb.out)⟩
noncomputable def Zbb.L1 (a0 : ByteArray) (a2 : Int) (a3 : Int) (s5 : Int) (s6 : Int) : M (LS (Int × Int) Int) :=
 if s6 < a2 then
  chk ((0 : Int) ≤ s6 ∧ s6 < (a0.size : Int)) >>= fun _ =>
  pure (LS.next (IntKind.wrap .i64 ((IntKind.wrap .i64 (10 * s5)) + (IntKind.wrap .i64 (IntKind.wrap .u8 ((sb a0 s6) - 48)))), IntKind.wrap .i64 (s6 + 1)))
 else
  if s5 > a3 then
   pure (LS.done (-1))
  else
   pure (LS.done s5)
theorem Zbb.L1_ok (a0 : ByteArray) (a2 : Int) (a3 : Int) : LJ Zbb.cx (Zbb.F1 a0 a2 a3) (fun s_ => Zbb.L1 a0 a2 a3 s_.1 s_.2) := by
 rintro ⟨s5, s6⟩
 show SJ _ _ _ _ (Zbb.L1 a0 a2 a3 s5 s6) _
 unfold Zbb.L1
 refine SJ.seq <| SJ.sr 3 <| J.z 3 <| J.f ?_ ?_
 ·exact SJ.skip <| SJ.seq <| SJ.block (id := 1) <| SJ.rg 9 <| J.t 4 fun hb11 hb12 => J.z 4 <| SJ.inBlock <| SJ.rg 3 <| J.z 3 <| J.o rfl
 refine SJ.exit (id := 0) (by rfl) <| SJ.seq <| SJ.sr 3 <| J.z 3 <| J.f ?_ ?_
 ·exact SJ.sr 1 <| J.z 1 <| J.r
 exact SJ.skip <| SJ.sr 2 <| J.z 2 <| J.r
noncomputable def Zbb (a0 : ByteArray) (a1 : Int) (a2 : Int) (a3 : Int) : M Int :=
 (if (IntKind.wrap .i64 (a2 - a1)) > 3 then
   pure true
  else
   (if (IntKind.wrap .i64 (a2 - a1)) > 1 then
     chk ((0 : Int) ≤ a1 ∧ a1 < (a0.size : Int)) >>= fun _ =>
     pure ((sb a0 a1) == 48)
    else
     pure false) >>= fun y3 =>
   pure y3) >>= fun y4 =>
 if y4 = true then
  pure (-1)
 else
  Zci (fun s_ : (Int × Int) => Zbb.L1 a0 a2 a3 s_.1 s_.2) (0, a1)
theorem ZfQ (a0 : ByteArray) (a1 : Int) (a2 : Int) (a3 : Int) : Ref Tryz.prog 110 [.string a0, .int .i64 a1, .int .i64 a2, .int .i64 a3] (Zbb a0 a1 a2 a3) Zbb.out := by
 refine J.Fn Tryz.func110 ?_
 unfold Zbb
 refine SJ.sr 1 <| J.z 1 <| SJ.seq <| SJ.sr 16 <| J.g 5 <| OJ.join (b := decide ((IntKind.wrap .i64 (a2 - a1)) > 3)) [5, 6, 7, 8, 9, 10, 11, 12, 13, 14, 15] [] [0, 1, 2, 3, 26] (fun y4 => [(0, .string a0), (1, .int .i64 a1), (2, .int .i64 a2), (3, .int .i64 a3), (26, .bool y4)]) [] [] (t := 15) decide_eq_true_iff (fun hp_ => ?_) (fun hp_ => ?_) (fun _ _ _ _ _ _ h_ => h_) fun y4 => ?_
 ·exact J.g 11 <| OJ.nil ⟨(Cov.mem Cov.nil), rfl, _, rfl, by kernel_rfl⟩
 ·refine J.g 5 <| OJ.join (b := decide ((IntKind.wrap .i64 (a2 - a1)) > 1)) [10, 11, 12, 13, 14] [15] [0, 1, 2, 3, 15, 25] (fun y3 => [(0, .string a0), (1, .int .i64 a1), (2, .int .i64 a2), (3, .int .i64 a3), (15, .bool false), (25, .bool y3)]) [] [] (t := 20) decide_eq_true_iff (fun hp_ => ?_) (fun hp_ => ?_) (fun _ _ _ _ _ hq_ h_ => ⟨fun e_ he_ => (hq_ e_ he_).elim (fun h => h_.1 e_ h) (fun h => nomatch h), h_.2⟩) fun y3 => ?_
  ·exact J.t 2 fun hb1 hb2 => J.g 2 <| OJ.nil ⟨(Cov.mem Cov.nil), rfl, _, rfl, by kernel_rfl⟩
  ·exact J.g 5 <| OJ.nil ⟨(Cov.mem Cov.nil), rfl, _, rfl, by kernel_rfl⟩
  exact J.g 1 <| OJ.nil ⟨(Cov.mem Cov.nil), rfl, _, rfl, by kernel_rfl⟩
 refine J.z 0 <| J.f ?_ ?_
 ·exact SJ.sr 1 <| J.z 1 <| J.r
 exact SJ.skip <| SJ.sr 1 <| J.z 1 <| SJ.seq <| SJ.sr 2 <| J.z 2 <| SJ.block (id := 0) <| J.L (Zbb.L1_ok a0 a2 a3)

/-! ### weir/weirref4.dotted: function 114 -/
noncomputable def Zas.B : Code := bod Tryz.f114
noncomputable def Zas.cx : Fx := ⟨Tryz.prog, 114, Tryz.f114, none⟩
noncomputable def Zas.out (r_ : (Sl × Int × Int)) : Value := .tuple #[Sl.v r_.1, .int .i64 r_.2.1, .int .i64 r_.2.2]
noncomputable def Zas.F1 (a0 : ByteArray) : LF (Int × Sl) (Sl × Int × Int) := ⟨[.inBlock 0, .code (c2 (c2 (c2 Zas.B)))], c1 (c1 (c2 (c2 Zas.B))), fun s_ => [(0, .string a0), (1, .int .i64 s_.1), (7, Sl.v s_.2)], fun s_ => [], (rt Zas.out)⟩
noncomputable def Zas.K1 (a0 : ByteArray) (s1 : Int) (s2 : Sl) (s36 : Int) : M (LS (Int × Sl) (Sl × Int × Int)) :=
 if s36 = s1 then
  Zc0 a0 s1 >>= fun r43 =>
  pure (LS.done (Sl.nil, r43.1, r43.2))
 else
  Zbb a0 s1 s36 255 >>= fun r44 =>
  if r44 < 0 then
   pure (LS.done (Sl.nil, 43, s1))
  else
   slot 5 >>= fun b45 =>
   appl (cI .u8) 5 1 0 s2 [IntKind.wrap .u8 r44] >>= fun r46 =>
   if (r46.len : Int) < 4 then
    (if s36 ≥ (a0.size : Int) then
      pure true
     else
      chk ((0 : Int) ≤ s36 ∧ s36 < (a0.size : Int)) >>= fun _ =>
      pure ((sb a0 s36) != 46)) >>= fun y55 =>
    if y55 = true then
     Zc0 a0 s36 >>= fun r57 =>
     pure (LS.done (Sl.nil, r57.1, r57.2))
    else
     pure (LS.next (IntKind.wrap .i64 (s36 + 1), r46))
   else
    pure (LS.next (s36, r46))
theorem Zas.K1_ok (a0 : ByteArray) (s1 : Int) (s2 : Sl) (s36 : Int) :
  SJ Zas.cx [.code (c2 (c2 (c1 (c2 (c1 (c1 (c1 (c2 (c2 Zas.B))))))))), .inBlock 1, .inLoop (c1 (c1 (c1 (c2 (c2 Zas.B))))), .inBlock 0, .code (c2 (c2 (c2 Zas.B)))] [(0, .string a0), (1, .int .i64 s1), (7, Sl.v s2), (8, .int .i64 s36)] [] (Zas.K1 a0 s1 s2 s36) (Zas.F1 a0).f := by
 unfold Zas.K1
 refine SJ.seq <| SJ.sr 3 <| J.z 3 <| J.f ?_ ?_
 ·exact SJ.sr 8 <| J.C 2 F109 (ZeE _ _) fun r43 => J.z 5 <| SJ.sr 5 <| J.z 5 <| J.r
 refine SJ.skip <| SJ.sr 5 <| J.C 3 F110 (ZfQ _ _ _ _) fun r44 => J.z 1 <| SJ.seq <| SJ.sr 2 <| J.z 2 <| J.f ?_ ?_
 ·exact SJ.sr 4 <| J.z 4 <| J.r
 refine SJ.skip <| SJ.sr 6 <| J.S 3 [IntKind.wrap .u8 r44] Ty5 fun b45 => J.p 0 0 rfl Ty5 fun r46 => J.z 1 <| SJ.sr 2 <| J.z 2 <| SJ.sr 3 <| J.z 3 <| J.f ?_ ?_
 ·refine SJ.seq <| SJ.sr 10 <| J.j 5 4 .bool ?_ ?_ fun y55 => ?_
  ·exact J.e 5
  ·exact J.t 2 fun hb53 hb54 => J.e 2
  refine J.z 0 <| J.f ?_ ?_
  ·exact SJ.sr 8 <| J.C 2 F109 (ZeE _ _) fun r57 => J.z 5 <| SJ.sr 5 <| J.z 5 <| J.r
  exact SJ.skip <| SJ.rg 3 <| J.z 3 <| SJ.inBlock <| SJ.forget (List.Sublist.cons _ List.Sublist.slnil) <| J.o rfl
 exact SJ.skip <| SJ.inBlock <| SJ.forget (List.Sublist.cons _ List.Sublist.slnil) <| J.o rfl
noncomputable def Zas.F2 (a0 : ByteArray) (s1 : Int) (s2 : Sl) : LF Int (LS (Int × Sl) (Sl × Int × Int)) := ⟨[.inBlock 2, .code (c2 (c2 (c1 (c2 (c1 (c1 (c1 (c2 (c2 Zas.B))))))))), .inBlock 1, .inLoop (c1 (c1 (c1 (c2 (c2 Zas.B))))), .inBlock 0, .code (c2 (c2 (c2 Zas.B)))], c1 (c1 (c2 (c1 (c2 (c1 (c1 (c1 (c2 (c2 Zas.B))))))))), fun s_ => [(0, .string a0), (1, .int .i64 s1), (7, Sl.v s2), (8, .int .i64 s_)], fun s_ => [], (Zas.F1 a0).f⟩
noncomputable def Zas.L2 (a0 : ByteArray) (s1 : Int) (s2 : Sl) (s36 : Int) : M (LS Int (LS (Int × Sl) (Sl × Int × Int))) :=
 (if s36 < (a0.size : Int) then
   chk ((0 : Int) ≤ s36 ∧ s36 < (a0.size : Int)) >>= fun _ =>
   Zc1 (sb a0 s36) >>= fun r64 =>
   pure r64
  else
   pure false) >>= fun y65 =>
 if y65 = true then
  pure (LS.next (IntKind.wrap .i64 (s36 + 1)))
 else
  (Zas.K1 a0 s1 s2 s36) >>= fun b => pure (LS.done b)
theorem Zas.L2_ok (a0 : ByteArray) (s1 : Int) (s2 : Sl) : LJ Zas.cx (Zas.F2 a0 s1 s2) (fun s_ => Zas.L2 a0 s1 s2 s_) := by
 rintro s36
 show SJ _ _ _ _ (Zas.L2 a0 s1 s2 s36) _
 unfold Zas.L2
 refine SJ.seq <| SJ.sr 10 <| J.j 5 4 .bool ?_ ?_ fun y65 => ?_
 ·exact J.t 2 fun hb62 hb63 => J.C 0 F108 (Zfh _) fun r64 => J.e 1
 ·exact J.e 5
 refine J.z 0 <| J.f ?_ ?_
 ·exact SJ.skip <| SJ.block (id := 3) <| SJ.rg 3 <| J.z 3 <| SJ.inBlock <| J.o rfl
 exact SJ.exit (id := 2) (by rfl) <| J.q <| SJ.done <| Zas.K1_ok a0 s1 s2 s36
noncomputable def Zas.L1 (a0 : ByteArray) (s1 : Int) (s2 : Sl) : M (LS (Int × Sl) (Sl × Int × Int)) :=
 if (s2.len : Int) < 4 then
  Zci (fun s_ : Int => Zas.L2 a0 s1 s2 s_) s1
 else
  if s1 < (a0.size : Int) then
   pure (LS.done (Sl.nil, 41, s1))
  else
   pure (LS.done (s2, 0, 0))
theorem Zas.L1_ok (a0 : ByteArray) : LJ Zas.cx (Zas.F1 a0) (fun s_ => Zas.L1 a0 s_.1 s_.2) := by
 rintro ⟨s1, s2⟩
 show SJ _ _ _ _ (Zas.L1 a0 s1 s2) _
 unfold Zas.L1
 refine SJ.seq <| SJ.sr 3 <| J.z 3 <| J.f ?_ ?_
 ·exact SJ.skip <| SJ.block (id := 1) <| SJ.sr 2 <| J.z 2 <| SJ.seq <| SJ.block (id := 2) <| J.L (Zas.L2_ok a0 s1 s2)
 refine SJ.exit (id := 0) (by rfl) <| SJ.seq <| SJ.sr 4 <| J.z 4 <| J.f ?_ ?_
 ·exact SJ.sr 4 <| J.z 4 <| J.r
 exact SJ.skip <| SJ.sr 4 <| J.z 4 <| J.r
noncomputable def Zas (a0 : ByteArray) (a1 : Int) : M (Sl × Int × Int) :=
 Zci (fun s_ : (Int × Sl) => Zas.L1 a0 s_.1 s_.2) (a1, Sl.nil)
theorem Zf7 (a0 : ByteArray) (a1 : Int) : Ref Tryz.prog 114 [.string a0, .int .i64 a1] (Zas a0 a1) Zas.out := by
 refine J.Fn Tryz.func114 ?_
 unfold Zas
 exact SJ.sr 3 <| J.z 3 <| SJ.sr 1 <| J.z 1 <| SJ.seq <| SJ.block (id := 0) <| J.L (Zas.L1_ok a0)

/-! ### (*weir/weirref4.six).group: function 132 -/
noncomputable def Zao.B : Code := bod Tryz.f132
noncomputable def Zao.cx : Fx := ⟨Tryz.prog, 132, Tryz.f132, none⟩
noncomputable def Zao.out (r_ : Bool) : Value := .bool r_
noncomputable def Zao.K1 (a0 : (Option Addr)) (s3 : Int) (s4 : Int) (y50 : Bool) (j51 : Int) : M Bool :=
 draw >>= fun _ =>
 nilck a0 >>= fun p52 =>
 ld cL (Addr.add p52 1) >>= fun x53 =>
 ZcU a0 >>= fun r54 =>
 same cL (Addr.add p52 1) x53 >>= fun _ =>
 if (IntKind.wrap .i64 ((x53.len : Int) + j51)) > r54 then
  nilck a0 >>= fun p58 =>
  ld (cI .i64) (Addr.add p58 3) >>= fun x59 =>
  Zb0 a0 44 x59 >>= fun r60 =>
  pure true
 else
  if y50 = true then
   draw >>= fun _ =>
   nilck a0 >>= fun p85 =>
   ld cS p85 >>= fun x86 =>
   nilck a0 >>= fun p87 =>
   ld (cI .i64) (Addr.add p87 3) >>= fun x88 =>
   Zas x86 x88 >>= fun r89 =>
   if r89.2.1 ≠ 0 then
    Zb0 a0 r89.2.1 r89.2.2 >>= fun r91 =>
    pure true
   else
    draw >>= fun _ =>
    nilck a0 >>= fun p92 =>
    ld cL (Addr.add p92 1) >>= fun x93 =>
    idx r89.1.a r89.1.len 0 1 >>= fun p94 =>
    ld (cI .u8) p94 >>= fun x95 =>
    idx r89.1.a r89.1.len 1 1 >>= fun p96 =>
    ld (cI .u8) p96 >>= fun x97 =>
    idx r89.1.a r89.1.len 2 1 >>= fun p98 =>
    ld (cI .u8) p98 >>= fun x99 =>
    idx r89.1.a r89.1.len 3 1 >>= fun p100 =>
    ld (cI .u8) p100 >>= fun x101 =>
    slot 3 >>= fun b102 =>
    same cL (Addr.add p92 1) x93 >>= fun _ =>
    appl (cI .i64) 3 8 0 x93 [IntKind.wrap .i64 ((IntKind.wrap .i64 (256 * (IntKind.wrap .i64 x95))) + (IntKind.wrap .i64 x97)), IntKind.wrap .i64 ((IntKind.wrap .i64 (256 * (IntKind.wrap .i64 x99))) + (IntKind.wrap .i64 x101))] >>= fun r103 =>
    nilck a0 >>= fun p104 =>
    st cL (Addr.add p104 1) r103 >>= fun _ =>
    nilck a0 >>= fun p105 =>
    ld cS p105 >>= fun x106 =>
    nilck a0 >>= fun p107 =>
    st (cI .i64) (Addr.add p107 3) (x106.size : Int) >>= fun _ =>
    pure true
  else
   nilck a0 >>= fun p109 =>
   ld (cI .i64) (Addr.add p109 3) >>= fun x110 =>
   if (IntKind.wrap .i64 (s3 - x110)) > 4 then
    nilck a0 >>= fun p114 =>
    ld (cI .i64) (Addr.add p114 3) >>= fun x115 =>
    Zb0 a0 43 x115 >>= fun r116 =>
    pure true
   else
    nilck a0 >>= fun p117 =>
    ld cL (Addr.add p117 1) >>= fun x118 =>
    slot 3 >>= fun b119 =>
    appl (cI .i64) 3 8 0 x118 [s4] >>= fun r120 =>
    nilck a0 >>= fun p121 =>
    st cL (Addr.add p121 1) r120 >>= fun _ =>
    nilck a0 >>= fun p122 =>
    st (cI .i64) (Addr.add p122 3) s3 >>= fun _ =>
    nilck a0 >>= fun p123 =>
    ld cS p123 >>= fun x124 =>
    pure (s3 == (x124.size : Int))
theorem Zao.K1_ok (a0 : (Option Addr)) (s3 : Int) (s4 : Int) (y50 : Bool) (j51 : Int) :
  SJ Zao.cx [.code (c2 (c2 (c2 (c2 (c2 (c2 (c2 (c2 Zao.B))))))))] [(0, .pointer a0), (3, .int .i64 s3), (4, .int .i64 s4), (7, .bool y50), (8, .int .i64 j51)] [] (Zao.K1 a0 s3 s4 y50 j51) (rt Zao.out) := by
 unfold Zao.K1
 refine SJ.seq <| SJ.seq <| J.R 10 Zdz <| J.n 1 fun p52 => J.l 1 Zfo fun x53 => J.g 4 <| OJ.call (d := 106) (g := 146) (ats := #[190]) (args := [.tmp 105]) (owed := [⟨3, 157, (Addr.add p52 1), cL.val x53⟩]) F146 (ZhV a0) fun r54 => OW.same Zfo <| OW.nil <| J.z 1 <| J.f ?_ ?_
 ·exact SJ.sr 6 <| J.n 2 fun p58 => J.l 1 Ty3 fun x59 => J.C 0 F134 (Zcw _ _ _) fun r60 => J.z 0 <| SJ.sr 1 <| J.z 1 <| J.r
 refine SJ.skip <| SJ.seq <| SJ.sr 1 <| J.z 1 <| J.f ?_ ?_
 ·refine SJ.seq <| J.R 16 Zdz <| J.n 1 fun p85 => J.l 1 Ty9 fun x86 => J.n 1 fun p87 => J.l 1 Ty3 fun x88 => J.C 0 F114 (Zf7 _ _) fun r89 => J.z 7 <| SJ.seq <| SJ.sr 2 <| J.z 2 <| J.f ?_ ?_
  ·exact SJ.sr 4 <| J.C 3 F134 (Zcw _ _ _) fun r91 => J.z 0 <| SJ.sr 1 <| J.z 1 <| J.r
  exact SJ.skip <| SJ.seq <| J.R 30 Zdz <| J.n 2 fun p92 => J.l 1 Zfo fun x93 => J.i 1 fun p94 => J.l 0 Ty5 fun x95 => J.i 3 fun p96 => J.l 0 Ty5 fun x97 => J.i 3 fun p98 => J.l 0 Ty5 fun x99 => J.i 3 fun p100 => J.l 0 Ty5 fun x101 => J.g 2 <| OJ.rowSlot (d := 159) (t := 157) (parts := [(0, .tmp 148), (1, .tmp 158)]) (ps := [(0, (cI .i64).val (IntKind.wrap .i64 ((IntKind.wrap .i64 (256 * (IntKind.wrap .i64 x95))) + (IntKind.wrap .i64 x97)))), (1, (cI .i64).val (IntKind.wrap .i64 ((IntKind.wrap .i64 (256 * (IntKind.wrap .i64 x99))) + (IntKind.wrap .i64 x101))))]) (cd := (cI .i64)) (⟨[IntKind.wrap .i64 ((IntKind.wrap .i64 (256 * (IntKind.wrap .i64 x95))) + (IntKind.wrap .i64 x97)), IntKind.wrap .i64 ((IntKind.wrap .i64 (256 * (IntKind.wrap .i64 x99))) + (IntKind.wrap .i64 x101))], rfl⟩ : Vec Int 2) (owed := [⟨4, 157, (Addr.add p92 1), cL.val x93⟩]) Ty3 (Zcf.cons (cd := (cI .i64)) (q := (IntKind.wrap .i64 ((IntKind.wrap .i64 (256 * (IntKind.wrap .i64 x95))) + (IntKind.wrap .i64 x97)))) (o := 0) rfl (Upd.arr (i := 0) (by decide) (by decide)) (Zcf.cons (cd := (cI .i64)) (q := (IntKind.wrap .i64 ((IntKind.wrap .i64 (256 * (IntKind.wrap .i64 x99))) + (IntKind.wrap .i64 x101)))) (o := 1) rfl (Upd.arr (i := 1) (by decide) (by decide)) Zcf.nil)) fun b102 => OW.same Zfo <| OW.nil <| J.p 0 0 rfl Ty3 fun r103 => J.n 0 fun p104 => J.w 1 Zfo <| J.z 0 <| SJ.sr 9 <| J.n 2 fun p105 => J.l 1 Ty9 fun x106 => J.n 1 fun p107 => J.w 1 Ty3 <| J.z 0 <| SJ.sr 1 <| J.z 1 <| J.r
 refine SJ.skip <| SJ.seq <| SJ.sr 7 <| J.n 2 fun p109 => J.l 1 Ty3 fun x110 => J.z 2 <| J.f ?_ ?_
 ·exact SJ.sr 6 <| J.n 2 fun p114 => J.l 1 Ty3 fun x115 => J.C 0 F134 (Zcw _ _ _) fun r116 => J.z 0 <| SJ.sr 1 <| J.z 1 <| J.r
 exact SJ.skip <| SJ.sr 11 <| J.n 2 fun p117 => J.l 1 Zfo fun x118 => J.S 1 [s4] Ty3 fun b119 => J.p 0 0 rfl Ty3 fun r120 => J.n 0 fun p121 => J.w 1 Zfo <| J.z 0 <| SJ.sr 5 <| J.n 2 fun p122 => J.w 1 Ty3 <| J.z 0 <| SJ.sr 8 <| J.n 2 fun p123 => J.l 1 Ty9 fun x124 => J.z 3 <| J.r
noncomputable def Zao.K2 (a0 : (Option Addr)) (s3 : Int) (s4 : Int) : M Bool :=
 nilck a0 >>= fun p27 =>
 ld (cI .i64) (Addr.add p27 3) >>= fun x28 =>
 if s3 = x28 then
  draw >>= fun _ =>
  nilck a0 >>= fun p35 =>
  ld cS p35 >>= fun x36 =>
  nilck a0 >>= fun p37 =>
  ld (cI .i64) (Addr.add p37 3) >>= fun x38 =>
  Zc0 x36 x38 >>= fun r39 =>
  Zb0 a0 r39.1 r39.2 >>= fun r40 =>
  pure true
 else
  nilck a0 >>= fun p41 =>
  ld cS p41 >>= fun x42 =>
  (if s3 < (x42.size : Int) then
    nilck a0 >>= fun p43 =>
    ld cS p43 >>= fun x44 =>
    chk ((0 : Int) ≤ s3 ∧ s3 < (x44.size : Int)) >>= fun _ =>
    pure ((sb x44 s3) == 46)
   else
    pure false) >>= fun y47 =>
  (if y47 = true then
    nilck a0 >>= fun p48 =>
    ld (cI .i64) (Addr.add p48 3) >>= fun x49 =>
    pure (decide (x49 > 0))
   else
    pure false) >>= fun y50 =>
  if y50 = true then
   Zao.K1 a0 s3 s4 y50 2
  else
   Zao.K1 a0 s3 s4 y50 1
theorem Zao.K2_ok (a0 : (Option Addr)) (s3 : Int) (s4 : Int) :
  SJ Zao.cx [.code (c2 (c2 (c2 (c2 Zao.B))))] [(0, .pointer a0), (3, .int .i64 s3), (4, .int .i64 s4)] [] (Zao.K2 a0 s3 s4) (rt Zao.out) := by
 unfold Zao.K2
 refine SJ.seq <| SJ.sr 6 <| J.n 2 fun p27 => J.l 1 Ty3 fun x28 => J.z 1 <| J.f ?_ ?_
 ·exact SJ.seq <| J.R 14 Zdz <| J.n 1 fun p35 => J.l 1 Ty9 fun x36 => J.n 1 fun p37 => J.l 1 Ty3 fun x38 => J.C 0 F109 (ZeE _ _) fun r39 => J.z 5 <| SJ.sr 4 <| J.C 3 F134 (Zcw _ _ _) fun r40 => J.z 0 <| SJ.sr 1 <| J.z 1 <| J.r
 refine SJ.skip <| SJ.sr 24 <| J.n 2 fun p41 => J.l 1 Ty9 fun x42 => J.j 3 7 .bool ?_ ?_ fun y47 => ?_
 ·exact J.n 1 fun p43 => J.l 1 Ty9 fun x44 => J.t 1 fun hb45 hb46 => J.e 2
 ·exact J.e 8
 refine J.j 1 5 .bool ?_ ?_ fun y50 => ?_
 ·exact J.n 1 fun p48 => J.l 1 Ty3 fun x49 => J.e 2
 ·exact J.e 6
 refine J.z 1 <| SJ.sr 1 <| J.z 1 <| SJ.seq <| SJ.sr 1 <| J.z 1 <| J.f ?_ ?_
 ·exact SJ.rg 1 <| J.z 1 <| J.q <| Zao.K1_ok a0 s3 s4 y50 2
 exact SJ.skip <| J.q <| Zao.K1_ok a0 s3 s4 y50 1
noncomputable def Zao.F1 (a0 : (Option Addr)) : LF (Int × Int) Bool := ⟨[.inBlock 0, .code (c2 (c2 (c2 (c2 Zao.B))))], c1 (c1 (c2 (c2 (c2 Zao.B)))), fun s_ => [(0, .pointer a0), (3, .int .i64 s_.1), (4, .int .i64 s_.2)], fun s_ => [], (rt Zao.out)⟩
noncomputable def Zao.L1 (a0 : (Option Addr)) (s3 : Int) (s4 : Int) : M (LS (Int × Int) Bool) :=
 nilck a0 >>= fun p130 =>
 ld cS p130 >>= fun x131 =>
 (if s3 < (x131.size : Int) then
   nilck a0 >>= fun p132 =>
   ld cS p132 >>= fun x133 =>
   chk ((0 : Int) ≤ s3 ∧ s3 < (x133.size : Int)) >>= fun _ =>
   Zdl (sb x133 s3) >>= fun r136 =>
   pure (decide (r136 ≥ 0))
  else
   pure false) >>= fun y137 =>
 if y137 = true then
  nilck a0 >>= fun p138 =>
  ld (cI .i64) (Addr.add p138 3) >>= fun x139 =>
  if (IntKind.wrap .i64 (s3 - x139)) < 4 then
   nilck a0 >>= fun p145 =>
   ld cS p145 >>= fun x146 =>
   chk ((0 : Int) ≤ s3 ∧ s3 < (x146.size : Int)) >>= fun _ =>
   Zdl (sb x146 s3) >>= fun r149 =>
   pure (LS.next (IntKind.wrap .i64 (s3 + 1), IntKind.wrap .i64 ((IntKind.wrap .i64 (16 * s4)) + r149)))
  else
   pure (LS.next (IntKind.wrap .i64 (s3 + 1), s4))
 else
  (Zao.K2 a0 s3 s4) >>= fun b => pure (LS.done b)
theorem Zao.L1_ok (a0 : (Option Addr)) : LJ Zao.cx (Zao.F1 a0) (fun s_ => Zao.L1 a0 s_.1 s_.2) := by
 rintro ⟨s3, s4⟩
 show SJ _ _ _ _ (Zao.L1 a0 s3 s4) _
 unfold Zao.L1
 refine SJ.seq <| SJ.sr 17 <| J.n 2 fun p130 => J.l 1 Ty9 fun x131 => J.j 3 8 .bool ?_ ?_ fun y137 => ?_
 ·exact J.n 1 fun p132 => J.l 1 Ty9 fun x133 => J.t 1 fun hb134 hb135 => J.C 0 F145 (Zgt _) fun r136 => J.e 2
 ·exact J.e 9
 refine J.z 0 <| J.f ?_ ?_
 ·refine SJ.skip <| SJ.block (id := 1) <| SJ.seq <| SJ.sr 7 <| J.n 2 fun p138 => J.l 1 Ty3 fun x139 => J.z 2 <| J.f ?_ ?_
  ·exact SJ.rg 11 <| J.n 3 fun p145 => J.l 1 Ty9 fun x146 => J.t 1 fun hb147 hb148 => J.C 0 F145 (Zgt _) fun r149 => J.z 2 <| SJ.rg 3 <| J.z 3 <| SJ.inBlock <| J.o rfl
  exact SJ.skip <| SJ.rg 3 <| J.z 3 <| SJ.inBlock <| J.o rfl
 exact SJ.exit (id := 0) (by rfl) <| J.q <| SJ.done <| Zao.K2_ok a0 s3 s4
noncomputable def Zao (a0 : (Option Addr)) : M Bool :=
 nilck a0 >>= fun p1 =>
 ld (cI .i64) (Addr.add p1 3) >>= fun x2 =>
 Zci (fun s_ : (Int × Int) => Zao.L1 a0 s_.1 s_.2) (x2, 0)
theorem Zhj (a0 : (Option Addr)) : Ref Tryz.prog 132 [.pointer a0] (Zao a0) Zao.out := by
 refine J.Fn Tryz.func132 ?_
 unfold Zao
 exact SJ.sr 1 <| J.z 1 <| SJ.sr 5 <| J.n 1 fun p1 => J.l 1 Ty3 fun x2 => J.z 1 <| SJ.sr 1 <| J.z 1 <| SJ.seq <| SJ.block (id := 0) <| J.L (Zao.L1_ok a0)

/-! ### (*weir/weirref4.six).between: function 133 -/
noncomputable def Zcx.out (r_ : Bool) : Value := .bool r_
noncomputable def Zcx (a0 : (Option Addr)) : M Bool :=
 draw >>= fun _ =>
 nilck a0 >>= fun p1 =>
 ld cS p1 >>= fun x2 =>
 nilck a0 >>= fun p3 =>
 ld (cI .i64) (Addr.add p3 3) >>= fun x4 =>
 Zd1 x2 x4 >>= fun r5 =>
 (if r5 = true then
   nilck a0 >>= fun p6 =>
   ld (cI .i64) (Addr.add p6 2) >>= fun x7 =>
   (if x7 ≥ 0 then
     pure true
    else
     nilck a0 >>= fun p8 =>
     ld cL (Addr.add p8 1) >>= fun x9 =>
     pure ((x9.len : Int) == 8)) >>= fun y10 =>
   pure y10
  else
   pure false) >>= fun y11 =>
 if y11 = true then
  nilck a0 >>= fun p74 =>
  ld (cI .i64) (Addr.add p74 3) >>= fun x75 =>
  Zb0 a0 44 x75 >>= fun r76 =>
  pure false
 else
  if r5 = true then
   nilck a0 >>= fun p106 =>
   ld cL (Addr.add p106 1) >>= fun x107 =>
   nilck a0 >>= fun p108 =>
   st (cI .i64) (Addr.add p108 2) (x107.len : Int) >>= fun _ =>
   nilck a0 >>= fun p109 =>
   ld (cI .i64) (Addr.add p109 3) >>= fun x110 =>
   nilck a0 >>= fun p111 =>
   st (cI .i64) (Addr.add p111 3) (IntKind.wrap .i64 (x110 + 2)) >>= fun _ =>
   draw >>= fun _ =>
   nilck a0 >>= fun p112 =>
   ld (cI .i64) (Addr.add p112 3) >>= fun x113 =>
   nilck a0 >>= fun p114 =>
   ld cS p114 >>= fun x115 =>
   pure (x113 == (x115.size : Int))
  else
   draw >>= fun _ =>
   nilck a0 >>= fun p116 =>
   ld cS p116 >>= fun x117 =>
   nilck a0 >>= fun p118 =>
   ld (cI .i64) (Addr.add p118 3) >>= fun x119 =>
   chk ((0 : Int) ≤ x119 ∧ x119 < (x117.size : Int)) >>= fun _ =>
   if (sb x117 x119) = 58 then
    nilck a0 >>= fun p128 =>
    ld (cI .i64) (Addr.add p128 3) >>= fun x129 =>
    nilck a0 >>= fun p130 =>
    st (cI .i64) (Addr.add p130 3) (IntKind.wrap .i64 (x129 + 1)) >>= fun _ =>
    pure false
   else
    nilck a0 >>= fun p131 =>
    ld (cI .i64) (Addr.add p131 3) >>= fun x132 =>
    Zb0 a0 41 x132 >>= fun r133 =>
    pure false
theorem ZgL (a0 : (Option Addr)) : Ref Tryz.prog 133 [.pointer a0] (Zcx a0) Zcx.out := by
 refine J.Fn Tryz.func133 ?_
 unfold Zcx
 refine SJ.sr 1 <| J.z 1 <| SJ.seq <| J.R 10 Zdz <| J.n 1 fun p1 => J.l 1 Ty9 fun x2 => J.n 1 fun p3 => J.l 1 Ty3 fun x4 => J.C 0 F131 (Zhi _ _) fun r5 => J.z 1 <| SJ.seq <| SJ.block (id := 0) <| SJ.sr 17 <| J.g 2 <| OJ.join (b := r5) [2, 3, 4, 5, 6, 7, 8, 9, 10, 11, 12, 13, 14, 15] [16] [0, 3, 35] (fun y11 => [(0, .pointer a0), (3, .bool r5), (35, .bool y11)]) [] [] (t := 21) Iff.rfl (fun hp_ => ?_) (fun hp_ => ?_) (fun _ _ _ _ _ _ h_ => h_) fun y11 => ?_
 ·refine J.n 1 fun p6 => J.l 1 Ty3 fun x7 => J.g 2 <| OJ.join (b := decide (x7 ≥ 0)) [8, 9, 10, 11, 12, 13, 14] [15] [0, 3, 21, 34] (fun y10 => [(0, .pointer a0), (3, .bool r5), (21, .bool true), (34, .bool y10)]) [] [] (t := 27) decide_eq_true_iff (fun hp_ => ?_) (fun hp_ => ?_) (fun _ _ _ _ _ hq_ h_ => ⟨fun e_ he_ => (hq_ e_ he_).elim (fun h => h_.1 e_ h) (fun h => nomatch h), h_.2⟩) fun y10 => ?_
  ·exact J.g 7 <| OJ.nil ⟨(Cov.mem Cov.nil), rfl, _, rfl, by kernel_rfl⟩
  ·exact J.n 1 fun p8 => J.l 1 Zfo fun x9 => J.g 3 <| OJ.nil ⟨(Cov.mem Cov.nil), rfl, _, rfl, by kernel_rfl⟩
  exact J.g 1 <| OJ.nil ⟨(Cov.mem Cov.nil), rfl, _, rfl, by kernel_rfl⟩
 ·exact J.g 14 <| OJ.nil ⟨(Cov.mem Cov.nil), rfl, _, rfl, by kernel_rfl⟩
 refine J.z 1 <| J.f ?_ ?_
 ·exact SJ.rg 6 <| J.n 2 fun p74 => J.l 1 Ty3 fun x75 => J.C 0 F134 (Zcw _ _ _) fun r76 => J.z 0 <| SJ.inBlock <| SJ.sr 1 <| J.z 1 <| J.r
 refine SJ.sr 2 <| J.z 2 <| J.f ?_ ?_
 ·exact SJ.sr 9 <| J.n 2 fun p106 => J.l 1 Zfo fun x107 => J.n 1 fun p108 => J.w 1 Ty3 <| J.z 0 <| SJ.sr 9 <| J.n 2 fun p109 => J.l 1 Ty3 fun x110 => J.n 1 fun p111 => J.w 1 Ty3 <| J.z 0 <| SJ.seq <| J.R 11 Zdz <| J.n 1 fun p112 => J.l 1 Ty3 fun x113 => J.n 1 fun p114 => J.l 1 Ty9 fun x115 => J.z 3 <| J.r
 refine SJ.seq <| J.R 11 Zdz <| J.n 1 fun p116 => J.l 1 Ty9 fun x117 => J.n 1 fun p118 => J.l 1 Ty3 fun x119 => J.t 0 fun hb120 hb121 => J.z 2 <| J.f ?_ ?_
 ·exact SJ.rg 8 <| J.n 1 fun p128 => J.l 1 Ty3 fun x129 => J.n 1 fun p130 => J.w 1 Ty3 <| J.z 0 <| SJ.inBlock <| SJ.sr 1 <| J.z 1 <| J.r
 exact SJ.rg 6 <| J.n 2 fun p131 => J.l 1 Ty3 fun x132 => J.C 0 F134 (Zcw _ _ _) fun r133 => J.z 0 <| SJ.inBlock <| SJ.sr 1 <| J.z 1 <| J.r

/-! ### weir/weirref4.sixes: function 113 -/
noncomputable def Zad.B : Code := bod Tryz.f113
noncomputable def Zad.cx : Fx := ⟨Tryz.prog, 113, Tryz.f113, none⟩
noncomputable def Zad.out (r_ : ((Vec Int 16) × Int × Int)) : Value := .tuple #[((cI .u8).arr 16).val r_.1, .int .i64 r_.2.1, .int .i64 r_.2.2]
noncomputable def Zad.F1 (b1 : Nat) (b2 : Nat) (b3 : Nat) : LF (Int × (Vec Int 16)) ((Vec Int 16) × Int × Int) := ⟨[.inBlock 2, .code (c2 (c2 (c2 (c2 (c2 (c2 (c2 (c2 (c2 (c2 Zad.B))))))))))], c1 (c2 (c1 (c2 (c2 (c2 (c2 (c2 (c2 (c2 (c2 (c2 Zad.B))))))))))), fun s_ => [(2, .pointer (some (pt b1 0))), (5, .pointer (some (pt b2 0))), (6, .pointer (some (pt b3 0))), (9, .int .i64 s_.1)], fun s_ => [(b2, ((cI .u8).arr 16).enc s_.2), (b1, ((cI .u8).arr 16).enc (Vec.rep 16 0))], (rt Zad.out)⟩
noncomputable def Zad.K1 (b3 : Nat) (s27 : Int) (s28 : (Vec Int 16)) (j53 : Int) : M (LS (Int × (Vec Int 16)) ((Vec Int 16) × Int × Int)) :=
 ld cL (Addr.add (pt b3 0) 1) >>= fun x54 =>
 idx x54.a x54.len s27 1 >>= fun p55 =>
 ld (cI .i64) p55 >>= fun x56 =>
 chk ((0 : Int) ≤ (IntKind.wrap .i64 (2 * j53)) ∧ (IntKind.wrap .i64 (2 * j53)) < (16 : Nat)) >>= fun _ =>
 ld cL (Addr.add (pt b3 0) 1) >>= fun x59 =>
 idx x59.a x59.len s27 1 >>= fun p60 =>
 ld (cI .i64) p60 >>= fun x61 =>
 chk ((0 : Int) ≤ (IntKind.wrap .i64 ((IntKind.wrap .i64 (2 * j53)) + 1)) ∧ (IntKind.wrap .i64 ((IntKind.wrap .i64 (2 * j53)) + 1)) < (16 : Nat)) >>= fun _ =>
 pure (LS.next (IntKind.wrap .i64 (s27 + 1), (Vec.s (Vec.s s28 (IntKind.wrap .i64 (2 * j53)) (IntKind.wrap .u8 (IntKind.wrap .i64 (Int.tdiv x56 256)))) (IntKind.wrap .i64 ((IntKind.wrap .i64 (2 * j53)) + 1)) (IntKind.wrap .u8 (Int.tmod x61 256)))))
theorem Zad.K1_ok (b1 : Nat) (b2 : Nat) (b3 : Nat) (s27 : Int) (s28 : (Vec Int 16)) (j53 : Int) :
  SJ Zad.cx [.code (c2 (c2 (c1 (c1 (c2 (c1 (c1 (c2 (c1 (c2 (c2 (c2 (c2 (c2 (c2 (c2 (c2 (c2 Zad.B)))))))))))))))))), .inBlock 3, .code (c2 (c2 (c1 (c1 (c2 (c1 (c2 (c2 (c2 (c2 (c2 (c2 (c2 (c2 (c2 Zad.B))))))))))))))), .inLoop (c1 (c1 (c2 (c1 (c2 (c2 (c2 (c2 (c2 (c2 (c2 (c2 (c2 Zad.B))))))))))))), .inBlock 2, .code (c2 (c2 (c2 (c2 (c2 (c2 (c2 (c2 (c2 (c2 Zad.B))))))))))] [(2, .pointer (some (pt b1 0))), (5, .pointer (some (pt b2 0))), (6, .pointer (some (pt b3 0))), (9, .int .i64 s27), (10, .int .i64 j53)] [(b2, ((cI .u8).arr 16).enc s28), (b1, ((cI .u8).arr 16).enc (Vec.rep 16 0))] (Zad.K1 b3 s27 s28 j53) (Zad.F1 b1 b2 b3).f := by
 unfold Zad.K1
 exact SJ.sr 13 <| J.l 5 Zfo fun x54 => J.i 1 fun p55 => J.l 0 Ty3 fun x56 => J.y 2 fun hb57 hb58 => J.s (u := (IntKind.wrap .u8 (IntKind.wrap .i64 (Int.tdiv x56 256)))) 0 0 rfl Ty5 (Upd.zero (Upd.arr hb57 hb58)) <| J.z 0 <| SJ.rg 14 <| J.l 6 Zfo fun x59 => J.i 1 fun p60 => J.l 0 Ty3 fun x61 => J.y 2 fun hb62 hb63 => J.s (u := (IntKind.wrap .u8 (Int.tmod x61 256))) 0 0 rfl Ty5 (Upd.zero (Upd.arr hb62 hb63)) <| J.z 0 <| SJ.inBlock <| SJ.rg 3 <| J.z 3 <| J.o rfl
noncomputable def Zad.L1 (b3 : Nat) (s27 : Int) (s28 : (Vec Int 16)) : M (LS (Int × (Vec Int 16)) ((Vec Int 16) × Int × Int)) :=
 ld cL (Addr.add (pt b3 0) 1) >>= fun x48 =>
 if s27 < (x48.len : Int) then
  ld (cI .i64) (Addr.add (pt b3 0) 2) >>= fun x49 =>
  (if x49 ≥ 0 then
    ld (cI .i64) (Addr.add (pt b3 0) 2) >>= fun x50 =>
    pure (decide (s27 ≥ x50))
   else
    pure false) >>= fun y51 =>
  if y51 = true then
   ld cL (Addr.add (pt b3 0) 1) >>= fun x64 =>
   Zad.K1 b3 s27 s28 (IntKind.wrap .i64 ((IntKind.wrap .i64 (8 - (x64.len : Int))) + s27))
  else
   Zad.K1 b3 s27 s28 s27
 else
  pure (LS.done (s28, 0, 0))
theorem Zad.L1_ok (b1 : Nat) (b2 : Nat) (b3 : Nat) : LJ Zad.cx (Zad.F1 b1 b2 b3) (fun s_ => Zad.L1 b3 s_.1 s_.2) := by
 rintro ⟨s27, s28⟩
 show SJ _ _ _ _ (Zad.L1 b3 s27 s28) _
 unfold Zad.L1
 refine SJ.seq <| SJ.sr 7 <| J.l 4 Zfo fun x48 => J.z 2 <| J.f ?_ ?_
 ·refine SJ.skip <| SJ.seq <| SJ.block (id := 3) <| SJ.sr 2 <| J.z 2 <| SJ.seq <| SJ.sr 13 <| J.l 3 Ty3 fun x49 => J.j 2 6 .bool ?_ ?_ fun y51 => ?_
  ·exact J.l 4 Ty3 fun x50 => J.e 2
  ·exact J.e 7
  refine J.z 0 <| J.f ?_ ?_
  ·exact SJ.rg 9 <| J.l 3 Zfo fun x64 => J.z 5 <| J.q <| Zad.K1_ok b1 b2 b3 s27 s28 (IntKind.wrap .i64 ((IntKind.wrap .i64 (8 - (x64.len : Int))) + s27))
  exact SJ.skip <| J.q <| Zad.K1_ok b1 b2 b3 s27 s28 s27
 exact SJ.exit (id := 2) (by rfl) <| SJ.sr 4 <| J.k 0 0 rfl Ty65 (At.whole _) <| J.s 0 1 rfl Ty65 (Upd.w s28) <| J.z 2 <| J.rc (.c 1 rfl Ty65 .n)
noncomputable def Zad.K2 (b3 : Nat) : M ((Vec Int 16) × Int × Int) :=
 ld (cI .i64) (Addr.add (pt b3 0) 4) >>= fun x22 =>
 if x22 ≠ 0 then
  draw >>= fun _ =>
  ld (cI .i64) (Addr.add (pt b3 0) 4) >>= fun x25 =>
  ld (cI .i64) (Addr.add (pt b3 0) 5) >>= fun x26 =>
  same (cI .i64) (Addr.add (pt b3 0) 5) x26 >>= fun _ =>
  same (cI .i64) (Addr.add (pt b3 0) 4) x25 >>= fun _ =>
  pure ((Vec.rep 16 0), x25, x26)
 else
  Zci (fun s_ : (Int × (Vec Int 16)) => Zad.L1 b3 s_.1 s_.2) (0, (Vec.rep 16 0))
theorem Zad.K2_ok (b1 : Nat) (b2 : Nat) (b3 : Nat) :
  SJ Zad.cx [.code (c2 (c2 (c2 (c2 (c2 (c2 (c2 (c2 Zad.B))))))))] [(2, .pointer (some (pt b1 0))), (5, .pointer (some (pt b2 0))), (6, .pointer (some (pt b3 0)))] [(b2, ((cI .u8).arr 16).enc (Vec.rep 16 0)), (b1, ((cI .u8).arr 16).enc (Vec.rep 16 0))] (Zad.K2 b3) (rt Zad.out) := by
 unfold Zad.K2
 refine SJ.seq <| SJ.sr 5 <| J.l 3 Ty3 fun x22 => J.z 1 <| J.f ?_ ?_
 ·exact SJ.seq <| J.R 12 Zdz <| J.k 0 0 rfl Ty65 (At.whole _) <| J.l 3 Ty3 fun x25 => J.l 3 Ty3 fun x26 => OJ.kst (y := .tmp 2) (z := .tmp 77) (cd := ((cI .u8).arr 16)) (u := (Vec.rep 16 0)) (j := 1) (b := b1) (o := 0) (((cI .u8).arr 16).enc (Vec.rep 16 0)) (owed := [⟨8, 3, (Addr.add (pt b3 0) 5), (cI .i64).val x26⟩, ⟨4, 3, (Addr.add (pt b3 0) 4), (cI .i64).val x25⟩]) Ty65 rfl (Upd.whole ((Cod.len _ _).trans (Cod.len _ _).symm)) rfl <| OW.same Ty3 <| OW.same Ty3 <| OW.nil <| J.z 2 <| J.rc (.c 1 rfl Ty65 .n)
 exact SJ.skip <| SJ.seq <| SJ.sr 1 <| J.z 1 <| SJ.block (id := 2) <| J.L (Zad.L1_ok b1 b2 b3)
noncomputable def Zad.K3 (a0 : ByteArray) (b3 : Nat) : M ((Vec Int 16) × Int × Int) :=
 ld (cI .i64) (Addr.add (pt b3 0) 4) >>= fun x16 =>
 (if x16 = 0 then
   ld (cI .i64) (Addr.add (pt b3 0) 2) >>= fun x17 =>
   pure (decide (x17 < 0))
  else
   pure false) >>= fun y18 =>
 (if y18 = true then
   ld cL (Addr.add (pt b3 0) 1) >>= fun x19 =>
   pure (decide ((x19.len : Int) < 8))
  else
   pure false) >>= fun y20 =>
 if y20 = true then
  Zb0 (some (pt b3 0)) 42 (a0.size : Int) >>= fun r68 =>
  Zad.K2 b3
 else
  Zad.K2 b3
theorem Zad.K3_ok (a0 : ByteArray) (b1 : Nat) (b2 : Nat) (b3 : Nat) :
  SJ Zad.cx [.code (c2 (c2 (c2 (c2 (c2 (c2 (c2 Zad.B)))))))] [(0, .string a0), (2, .pointer (some (pt b1 0))), (5, .pointer (some (pt b2 0))), (6, .pointer (some (pt b3 0)))] [(b2, ((cI .u8).arr 16).enc (Vec.rep 16 0)), (b1, ((cI .u8).arr 16).enc (Vec.rep 16 0))] (Zad.K3 a0 b3) (rt Zad.out) := by
 unfold Zad.K3
 refine SJ.seq <| SJ.sr 20 <| J.l 3 Ty3 fun x16 => J.j 2 5 .bool ?_ ?_ fun y18 => ?_
 ·exact J.l 3 Ty3 fun x17 => J.e 2
 ·exact J.e 6
 refine J.j 1 6 .bool ?_ ?_ fun y20 => ?_
 ·exact J.l 3 Zfo fun x19 => J.e 3
 ·exact J.e 7
 refine J.z 0 <| J.f ?_ ?_
 ·exact SJ.rg 4 <| J.C 3 F134 (Zcw _ _ _) fun r68 => J.z 0 <| J.q <| Zad.K2_ok b1 b2 b3
 exact SJ.skip <| J.q <| Zad.K2_ok b1 b2 b3
noncomputable def Zad.F2 (a0 : ByteArray) (b1 : Nat) (b2 : Nat) (b3 : Nat) : LF Bool ((Vec Int 16) × Int × Int) := ⟨[.inBlock 0, .code (c2 (c2 (c2 (c2 (c2 (c2 (c2 Zad.B)))))))], c1 (c1 (c2 (c2 (c2 (c2 (c2 (c2 Zad.B))))))), fun s_ => [(0, .string a0), (2, .pointer (some (pt b1 0))), (5, .pointer (some (pt b2 0))), (6, .pointer (some (pt b3 0))), (7, .bool s_)], fun s_ => [(b2, ((cI .u8).arr 16).enc (Vec.rep 16 0)), (b1, ((cI .u8).arr 16).enc (Vec.rep 16 0))], (rt Zad.out)⟩
noncomputable def Zad.L2 (a0 : ByteArray) (b3 : Nat) (s6 : Bool) : M (LS Bool ((Vec Int 16) × Int × Int)) :=
 (if ¬ (s6 = true) then
   ld (cI .i64) (Addr.add (pt b3 0) 4) >>= fun x70 =>
   pure (x70 == 0)
  else
   pure false) >>= fun y71 =>
 if y71 = true then
  Zao (some (pt b3 0)) >>= fun r72 =>
  (if ¬ (r72 = true) then
    ld (cI .i64) (Addr.add (pt b3 0) 4) >>= fun x73 =>
    pure (x73 == 0)
   else
    pure false) >>= fun y74 =>
  if y74 = true then
   Zcx (some (pt b3 0)) >>= fun r76 =>
   pure (LS.next r76)
  else
   pure (LS.next r72)
 else
  (Zad.K3 a0 b3) >>= fun b => pure (LS.done b)
theorem Zad.L2_ok (a0 : ByteArray) (b1 : Nat) (b2 : Nat) (b3 : Nat) : LJ Zad.cx (Zad.F2 a0 b1 b2 b3) (fun s_ => Zad.L2 a0 b3 s_) := by
 rintro s6
 show SJ _ _ _ _ (Zad.L2 a0 b3 s6) _
 unfold Zad.L2
 refine SJ.seq <| SJ.sr 9 <| J.j 3 5 .bool ?_ ?_ fun y71 => ?_
 ·exact J.l 3 Ty3 fun x70 => J.e 2
 ·exact J.e 6
 refine J.z 0 <| J.f ?_ ?_
 ·refine SJ.skip <| SJ.block (id := 1) <| SJ.sr 3 <| J.C 1 F132 (Zhj _) fun r72 => J.z 1 <| SJ.sr 9 <| J.j 3 5 .bool ?_ ?_ fun y74 => ?_
  ·exact J.l 3 Ty3 fun x73 => J.e 2
  ·exact J.e 6
  refine J.z 0 <| J.f ?_ ?_
  ·exact SJ.rg 3 <| J.C 1 F133 (ZgL _) fun r76 => J.z 1 <| SJ.inBlock <| J.o rfl
  exact SJ.skip <| SJ.inBlock <| J.o rfl
 exact SJ.exit (id := 0) (by rfl) <| J.q <| SJ.done <| Zad.K3_ok a0 b1 b2 b3
noncomputable def Zad.K4 (a0 : ByteArray) (b3 : Nat) (j5 : Bool) : M ((Vec Int 16) × Int × Int) :=
 Zci (fun s_ : Bool => Zad.L2 a0 b3 s_) j5
theorem Zad.K4_ok (a0 : ByteArray) (b1 : Nat) (b2 : Nat) (b3 : Nat) (j5 : Bool) :
  SJ Zad.cx [.code (c2 (c2 (c2 (c2 (c2 (c2 Zad.B))))))] [(0, .string a0), (2, .pointer (some (pt b1 0))), (5, .pointer (some (pt b2 0))), (6, .pointer (some (pt b3 0))), (7, .bool j5)] [(b2, ((cI .u8).arr 16).enc (Vec.rep 16 0)), (b1, ((cI .u8).arr 16).enc (Vec.rep 16 0))] (Zad.K4 a0 b3 j5) (rt Zad.out) := by
 unfold Zad.K4
 exact SJ.seq <| SJ.block (id := 0) <| J.L (Zad.L2_ok a0 b1 b2 b3)
noncomputable def Zad (a0 : ByteArray) : M ((Vec Int 16) × Int × Int) :=
 slot 65 >>= fun b1 =>
 slot 65 >>= fun b2 =>
 newv 192 ZbC (⟨a0, Zee.groups, (-1), Zee.p, Zee.err, Zee.at_⟩ : ZbV) >>= fun b3 =>
 Zd1 a0 0 >>= fun r4 =>
 if r4 = true then
  st (cI .i64) (Addr.add (pt b3 0) 2) 0 >>= fun _ =>
  st (cI .i64) (Addr.add (pt b3 0) 3) 2 >>= fun _ =>
  Zad.K4 a0 b3 ((a0.size : Int) == 2)
 else
  Zad.K4 a0 b3 false
theorem Zjc (a0 : ByteArray) : Ref Tryz.prog 113 [.string a0] (Zad a0) Zad.out := by
 refine J.Fn Tryz.func113 ?_
 unfold Zad
 refine SJ.sr 3 <| J.a 0 Ty65 fun b1 => J.z 2 <| SJ.sr 1 <| J.a 0 Ty65 fun b2 => J.z 0 <| SJ.sr 4 <| J.u 1 ZuQ (.f 0 (Zjx _ a0) (.f 2 (ZeI _ (-1)) .nil)) <| J.B 0 fun b3 => J.z 1 <| SJ.sr 1 <| J.z 1 <| SJ.sr 3 <| J.C 1 F131 (Zhi _ _) fun r4 => J.z 1 <| SJ.seq <| SJ.sr 1 <| J.z 1 <| J.f ?_ ?_
 ·exact SJ.sr 4 <| J.w 3 Ty3 <| J.z 0 <| SJ.sr 4 <| J.w 3 Ty3 <| J.z 0 <| SJ.rg 4 <| J.z 4 <| J.q <| Zad.K4_ok a0 b1 b2 b3 ((a0.size : Int) == 2)
 exact SJ.skip <| J.q <| Zad.K4_ok a0 b1 b2 b3 false

/-! ### weir/weirref4.ParseIP: function 91 -/
noncomputable def Zbc.B : Code := bod Tryz.f91
noncomputable def Zbc.cx : Fx := ⟨Tryz.prog, 91, Tryz.f91, none⟩
noncomputable def Zbc.out (r_ : (Zbs × Int × Int)) : Value := .tuple #[ZbW.val r_.1, .int .i64 r_.2.1, .int .i64 r_.2.2]
noncomputable def Zbc.F1 (b1 : Nat) (r9 : (Sl × Int × Int)) (b10 : Nat) : LF (Int × Zbs) (Zbs × Int × Int) := ⟨[.inBlock 0, .code (c2 (c2 (c2 (c2 (c2 (c2 (c2 Zbc.B)))))))], c1 (c2 (c1 (c2 (c2 (c2 (c2 (c2 (c2 Zbc.B)))))))), fun s_ => [(2, .pointer (some (pt b1 0))), (8, Sl.v r9.1), (11, .pointer (some (pt b10 0))), (12, .int .i64 s_.1)], fun s_ => [(b10, ZbW.enc s_.2), (b1, ZbW.enc ZcL)], (rt Zbc.out)⟩
noncomputable def Zbc.L1 (r9 : (Sl × Int × Int)) (s11 : Int) (s12 : Zbs) : M (LS (Int × Zbs) (Zbs × Int × Int)) :=
 if s11 < 4 then
  idx r9.1.a r9.1.len s11 1 >>= fun p18 =>
  ld (cI .u8) p18 >>= fun x19 =>
  chk ((0 : Int) ≤ s11 ∧ s11 < (16 : Nat)) >>= fun _ =>
  pure (LS.next (IntKind.wrap .i64 (s11 + 1), (⟨s12.V, (Vec.s s12.A s11 x19)⟩ : Zbs)))
 else
  pure (LS.done (s12, 0, 0))
theorem Zbc.L1_ok (b1 : Nat) (r9 : (Sl × Int × Int)) (b10 : Nat) : LJ Zbc.cx (Zbc.F1 b1 r9 b10) (fun s_ => Zbc.L1 r9 s_.1 s_.2) := by
 rintro ⟨s11, s12⟩
 show SJ _ _ _ _ (Zbc.L1 r9 s11 s12) _
 unfold Zbc.L1
 refine SJ.seq <| SJ.sr 2 <| J.z 2 <| J.f ?_ ?_
 ·exact SJ.skip <| SJ.seq <| SJ.block (id := 1) <| SJ.rg 8 <| J.i 3 fun p18 => J.l 0 Ty5 fun x19 => J.y 1 fun hb20 hb21 => J.s 0 0 rfl Ty5 (Upd.trans (ZdP _) (Upd.arr hb20 hb21) (Zf1 _ (Vec.s s12.A s11 x19))) <| J.z 0 <| SJ.inBlock <| SJ.rg 3 <| J.z 3 <| J.o rfl
 exact SJ.exit (id := 0) (by rfl) <| SJ.sr 4 <| J.k 0 0 rfl Ty67 (At.whole _) <| J.s 0 1 rfl Ty67 (Upd.w s12) <| J.z 2 <| J.rc (.c 1 rfl Ty67 .n)
noncomputable def Zbc (a0 : ByteArray) : M (Zbs × Int × Int) :=
 slot 67 >>= fun b1 =>
 if (a0.size : Int) > 45 then
  pure (ZcL, 2, 45)
 else
  ZbI a0 58 >>= fun r2 =>
  if r2 = true then
   Zad a0 >>= fun r6 =>
   slot 65 >>= fun b7 =>
   if r6.2.1 ≠ 0 then
    pure (ZcL, r6.2.1, r6.2.2)
   else
    pure ((⟨6, r6.1⟩ : Zbs), 0, 0)
  else
   Zas a0 0 >>= fun r9 =>
   if r9.2.1 ≠ 0 then
    pure (ZcL, r9.2.1, r9.2.2)
   else
    slot 67 >>= fun b10 =>
    Zci (fun s_ : (Int × Zbs) => Zbc.L1 r9 s_.1 s_.2) (0, (⟨4, ZcL.A⟩ : Zbs))
theorem ZfR (a0 : ByteArray) : Ref Tryz.prog 91 [.string a0] (Zbc a0) Zbc.out := by
 refine J.Fn Tryz.func91 ?_
 unfold Zbc
 refine SJ.sr 3 <| J.a 0 Ty67 fun b1 => J.z 2 <| SJ.seq <| SJ.sr 3 <| J.z 3 <| J.f ?_ ?_
 ·exact SJ.sr 4 <| J.u 0 Ty67 .nil <| J.s 0 0 rfl Ty67 (Upd.w ZcL) <| J.z 2 <| J.rc (.c 0 rfl Ty67 .n)
 refine SJ.skip <| SJ.seq <| SJ.sr 2 <| J.C 1 F112 (Zkl _ _) fun r2 => J.z 0 <| J.f ?_ ?_
 ·refine SJ.sr 10 <| J.C 1 F113 (Zjc _) fun r6 => J.a 4 Ty65 fun b7 => J.s 0 0 rfl Ty65 (Upd.w r6.1) <| J.z 2 <| SJ.seq <| SJ.sr 2 <| J.z 2 <| J.f ?_ ?_
  ·exact SJ.sr 6 <| J.u 0 Ty67 .nil <| J.s 2 1 rfl Ty67 (Upd.w ZcL) <| J.z 2 <| J.rc (.c 1 rfl Ty67 .n)
  exact SJ.skip <| SJ.sr 5 <| J.k 0 0 rfl Ty65 (At.whole _) <| J.u 0 Ty67 (.f 0 (Zf0 _ 6) (.f 1 (Zf1 _ r6.1) .nil)) <| J.s 0 1 rfl Ty67 (Upd.w (⟨6, r6.1⟩ : Zbs)) <| J.z 2 <| J.rc (.c 1 rfl Ty67 .n)
 refine SJ.skip <| SJ.sr 9 <| J.C 1 F114 (Zf7 _ _) fun r9 => J.z 7 <| SJ.seq <| SJ.sr 2 <| J.z 2 <| J.f ?_ ?_
 ·exact SJ.sr 6 <| J.u 0 Ty67 .nil <| J.s 2 0 rfl Ty67 (Upd.w ZcL) <| J.z 2 <| J.rc (.c 0 rfl Ty67 .n)
 exact SJ.skip <| SJ.sr 3 <| J.u 0 Ty67 (.f 0 (Zf0 _ 4) .nil) <| J.a 0 Ty67 fun b10 => J.s 0 0 rfl Ty67 (Upd.w (⟨4, ZcL.A⟩ : Zbs)) <| J.z 0 <| SJ.seq <| SJ.sr 1 <| J.z 1 <| SJ.block (id := 0) <| J.L (Zbc.L1_ok b1 r9 b10)

/-! ### weir/weirref4.width: function 111 -/
noncomputable def Zdm.out (r_ : Int) : Value := .int .i64 r_
noncomputable def Zdm (a0 : Zbs) : M Int :=
 slot 67 >>= fun b1 =>
 if a0.V = 4 then
  pure 32
 else
  pure 128
theorem Zgu (a0 : Zbs) : Ref Tryz.prog 111 [ZbW.val a0] (Zdm a0) Zdm.out := by
 refine J.Fn Tryz.func111 ?_
 unfold Zdm
 refine SJ.sr 2 <| J.b 0 ZbW a0 fun b1 => J.z 1 <| SJ.seq <| SJ.sr 3 <| J.k 1 0 rfl Ty3 (ZcZ _) <| J.z 1 <| J.f ?_ ?_
 ·exact SJ.sr 1 <| J.z 1 <| J.r
 exact SJ.skip <| SJ.sr 1 <| J.z 1 <| J.r

/-! ### weir/weirref4.Valid: function 115 -/
noncomputable def Zbo.B : Code := bod Tryz.f115
noncomputable def Zbo.cx : Fx := ⟨Tryz.prog, 115, Tryz.f115, none⟩
noncomputable def Zbo.out (r_ : Bool) : Value := .bool r_
noncomputable def Zbo.F1 (a0 : Zbs) (b1 : Nat) : LF Int Bool := ⟨[.inBlock 0, .code (c2 (c2 (c2 Zbo.B)))], c1 (c2 (c1 (c2 (c2 Zbo.B)))), fun s_ => [(1, .pointer (some (pt b1 0))), (3, .int .i64 s_)], fun s_ => [(b1, ZbW.enc a0)], (rt Zbo.out)⟩
noncomputable def Zbo.L1 (a0 : Zbs) (s2 : Int) : M (LS Int Bool) :=
 if s2 < 16 then
  chk ((0 : Int) ≤ s2 ∧ s2 < (16 : Nat)) >>= fun _ =>
  if (Vec.g a0.A s2 0) ≠ 0 then
   pure (LS.done false)
  else
   pure (LS.next (IntKind.wrap .i64 (s2 + 1)))
 else
  pure (LS.done true)
theorem Zbo.L1_ok (a0 : Zbs) (b1 : Nat) : LJ Zbo.cx (Zbo.F1 a0 b1) (fun s_ => Zbo.L1 a0 s_) := by
 rintro s2
 show SJ _ _ _ _ (Zbo.L1 a0 s2) _
 unfold Zbo.L1
 refine SJ.seq <| SJ.sr 2 <| J.z 2 <| J.f ?_ ?_
 ·refine SJ.skip <| SJ.seq <| SJ.block (id := 1) <| SJ.sr 5 <| J.y 2 fun hb7 hb8 => J.k 0 0 rfl Ty5 (At.trans (ZdP _) (At.arr (z := 0) hb7 hb8)) <| J.z 1 <| J.f ?_ ?_
  ·exact SJ.sr 1 <| J.z 1 <| J.r
  exact SJ.skip <| SJ.inBlock <| SJ.rg 3 <| J.z 3 <| J.o rfl
 exact SJ.exit (id := 0) (by rfl) <| SJ.sr 1 <| J.z 1 <| J.r
noncomputable def Zbo (a0 : Zbs) : M Bool :=
 slot 67 >>= fun b1 =>
 if a0.V ≠ 4 then
  pure (a0.V == 6)
 else
  Zci (fun s_ : Int => Zbo.L1 a0 s_) 4
theorem Zjd (a0 : Zbs) : Ref Tryz.prog 115 [ZbW.val a0] (Zbo a0) Zbo.out := by
 refine J.Fn Tryz.func115 ?_
 unfold Zbo
 refine SJ.sr 2 <| J.b 0 ZbW a0 fun b1 => J.z 1 <| SJ.seq <| SJ.sr 3 <| J.k 1 0 rfl Ty3 (ZcZ _) <| J.z 1 <| J.f ?_ ?_
 ·exact SJ.sr 4 <| J.k 1 0 rfl Ty3 (ZcZ _) <| J.z 2 <| J.r
 exact SJ.skip <| SJ.seq <| SJ.sr 1 <| J.z 1 <| SJ.block (id := 0) <| J.L (Zbo.L1_ok a0 b1)

/-! ### weir/weirref4.bit: function 116 -/
noncomputable def ZbJ.B : Code := bod Tryz.f116
noncomputable def ZbJ.cx : Fx := ⟨Tryz.prog, 116, Tryz.f116, none⟩
noncomputable def ZbJ.out (r_ : Int) : Value := .int .i64 r_
noncomputable def ZbJ.F1  : LF (Int × Int) Int := ⟨[.inBlock 0, .code (c2 (c2 (c2 ZbJ.B)))], c1 (c2 (c1 (c2 (c2 ZbJ.B)))), fun s_ => [(5, .int .i64 s_.1), (6, .int .i64 s_.2)], fun s_ => [], (rt ZbJ.out)⟩
noncomputable def ZbJ.L1 (s4 : Int) (s5 : Int) : M (LS (Int × Int) Int) :=
 if s5 < 7 then
  pure (LS.next (IntKind.wrap .i64 (Int.tdiv s4 2), IntKind.wrap .i64 (s5 + 1)))
 else
  pure (LS.done (Int.tmod s4 2))
theorem ZbJ.L1_ok  : LJ ZbJ.cx (ZbJ.F1) (fun s_ => ZbJ.L1 s_.1 s_.2) := by
 rintro ⟨s4, s5⟩
 show SJ _ _ _ _ (ZbJ.L1 s4 s5) _
 unfold ZbJ.L1
 refine SJ.seq <| SJ.sr 2 <| J.z 2 <| J.f ?_ ?_
 ·exact SJ.skip <| SJ.seq <| SJ.block (id := 1) <| SJ.rg 3 <| J.z 3 <| SJ.inBlock <| SJ.rg 3 <| J.z 3 <| J.o rfl
 exact SJ.exit (id := 0) (by rfl) <| SJ.sr 3 <| J.z 3 <| J.r
noncomputable def ZbJ (a0 : Zbs) (a1 : Int) : M Int :=
 slot 67 >>= fun b1 =>
 chk ((0 : Int) ≤ (IntKind.wrap .i64 (Int.tdiv a1 8)) ∧ (IntKind.wrap .i64 (Int.tdiv a1 8)) < (16 : Nat)) >>= fun _ =>
 Zci (fun s_ : (Int × Int) => ZbJ.L1 s_.1 s_.2) (IntKind.wrap .i64 (Vec.g a0.A (IntKind.wrap .i64 (Int.tdiv a1 8)) 0), Int.tmod a1 8)
theorem Zkm (a0 : Zbs) (a1 : Int) : Ref Tryz.prog 116 [ZbW.val a0, .int .i64 a1] (ZbJ a0 a1) ZbJ.out := by
 refine J.Fn Tryz.func116 ?_
 unfold ZbJ
 exact SJ.sr 2 <| J.b 0 ZbW a0 fun b1 => J.z 1 <| SJ.sr 7 <| J.y 3 fun hb2 hb3 => J.k 0 0 rfl Ty5 (At.trans (ZdP _) (At.arr (z := 0) hb2 hb3)) <| J.z 2 <| SJ.seq <| SJ.sr 3 <| J.z 3 <| SJ.block (id := 0) <| SJ.forget (List.Sublist.cons _ List.Sublist.slnil) <| J.L (ZbJ.L1_ok)

/-! ### weir/weirref4.ValidPrefix: function 92 -/
noncomputable def ZaS.B : Code := bod Tryz.f92
noncomputable def ZaS.cx : Fx := ⟨Tryz.prog, 92, Tryz.f92, none⟩
noncomputable def ZaS.out (r_ : Int) : Value := .int .i64 r_
noncomputable def ZaS.F1 (a0 : Zac) (b1 : Nat) (r3 : Int) : LF Int Int := ⟨[.inBlock 0, .code (c2 (c2 (c2 (c2 (c2 (c2 ZaS.B))))))], c1 (c2 (c1 (c2 (c2 (c2 (c2 (c2 ZaS.B))))))), fun s_ => [(1, .pointer (some (pt b1 0))), (4, .int .i64 r3), (5, .int .i64 s_)], fun s_ => [(b1, ZaI.enc a0)], (rt ZaS.out)⟩
noncomputable def ZaS.L1 (a0 : Zac) (r3 : Int) (s5 : Int) : M (LS Int Int) :=
 if s5 < r3 then
  ZbJ a0.IP s5 >>= fun r9 =>
  if r9 = 1 then
   pure (LS.done 46)
  else
   pure (LS.next (IntKind.wrap .i64 (s5 + 1)))
 else
  pure (LS.done 0)
theorem ZaS.L1_ok (a0 : Zac) (b1 : Nat) (r3 : Int) : LJ ZaS.cx (ZaS.F1 a0 b1 r3) (fun s_ => ZaS.L1 a0 r3 s_) := by
 rintro s5
 show SJ _ _ _ _ (ZaS.L1 a0 r3 s5) _
 unfold ZaS.L1
 refine SJ.seq <| SJ.sr 3 <| J.z 3 <| J.f ?_ ?_
 ·refine SJ.skip <| SJ.seq <| SJ.block (id := 1) <| SJ.sr 5 <| J.k 1 0 rfl Ty67 (Zb6 _) <| J.C 1 F116 (Zkm _ _) fun r9 => J.z 1 <| J.f ?_ ?_
  ·exact SJ.sr 1 <| J.z 1 <| J.r
  exact SJ.skip <| SJ.inBlock <| SJ.rg 3 <| J.z 3 <| J.o rfl
 exact SJ.exit (id := 0) (by rfl) <| SJ.sr 1 <| J.z 1 <| J.r
noncomputable def ZaS (a0 : Zac) : M Int :=
 slot 69 >>= fun b1 =>
 Zbo a0.IP >>= fun r2 =>
 if ¬ (r2 = true) then
  pure 40
 else
  Zdm a0.IP >>= fun r3 =>
  (if a0.Len < 0 then
    pure true
   else
    pure (decide (a0.Len > r3))) >>= fun y4 =>
  if y4 = true then
   pure 45
  else
   Zci (fun s_ : Int => ZaS.L1 a0 r3 s_) a0.Len
theorem ZeT (a0 : Zac) : Ref Tryz.prog 92 [ZaI.val a0] (ZaS a0) ZaS.out := by
 refine J.Fn Tryz.func92 ?_
 unfold ZaS
 refine SJ.sr 2 <| J.b 0 ZaI a0 fun b1 => J.z 1 <| SJ.sr 4 <| J.k 1 0 rfl Ty67 (Zb6 _) <| J.C 0 F115 (Zjd _) fun r2 => J.z 1 <| SJ.seq <| SJ.sr 2 <| J.z 2 <| J.f ?_ ?_
 ·exact SJ.sr 1 <| J.z 1 <| J.r
 refine SJ.skip <| SJ.sr 4 <| J.k 1 0 rfl Ty67 (Zb6 _) <| J.C 0 F111 (Zgu _) fun r3 => J.z 1 <| SJ.seq <| SJ.sr 9 <| J.k 1 0 rfl Ty3 (Zb2 _) <| J.j 2 4 .bool ?_ ?_ fun y4 => ?_
 ·exact J.e 5
 ·exact J.k 1 0 rfl Ty3 (Zb2 _) <| J.e 3
 refine J.z 0 <| J.f ?_ ?_
 ·exact SJ.sr 1 <| J.z 1 <| J.r
 exact SJ.skip <| SJ.seq <| SJ.sr 3 <| J.k 1 0 rfl Ty3 (Zb2 _) <| J.z 1 <| SJ.block (id := 0) <| J.L (ZaS.L1_ok a0 b1 r3)

/-! ### weir/weirref4.ParsePrefix: function 90 -/
noncomputable def Zae.B : Code := bod Tryz.f90
noncomputable def Zae.cx : Fx := ⟨Tryz.prog, 90, Tryz.f90, none⟩
noncomputable def Zae.out (r_ : (Zac × Int × Int)) : Value := .tuple #[ZaI.val r_.1, .int .i64 r_.2.1, .int .i64 r_.2.2]
noncomputable def Zae.K1 (a0 : ByteArray) (s2 : Int) (r7 : (Zbs × Int × Int)) (s9 : Int) : M (Zac × Int × Int) :=
 if s9 = (IntKind.wrap .i64 (s2 + 1)) then
  Zc0 a0 s9 >>= fun r16 =>
  pure (ZaU, r16.1, r16.2)
 else
  Zdm r7.1 >>= fun r17 =>
  Zbb a0 (IntKind.wrap .i64 (s2 + 1)) s9 r17 >>= fun r18 =>
  if r18 < 0 then
   pure (ZaU, 45, IntKind.wrap .i64 (s2 + 1))
  else
   if s9 < (a0.size : Int) then
    pure (ZaU, 41, s9)
   else
    slot 69 >>= fun b19 =>
    ZaS (⟨r7.1, r18⟩ : Zac) >>= fun r20 =>
    if r20 ≠ 0 then
     pure (ZaU, 46, 0)
    else
     pure ((⟨r7.1, r18⟩ : Zac), 0, 0)
theorem Zae.K1_ok (a0 : ByteArray) (b1 : Nat) (s2 : Int) (r7 : (Zbs × Int × Int)) (b8 : Nat) (s9 : Int) :
  SJ Zae.cx [.code (c2 (c2 (c2 (c2 (c2 (c2 (c2 (c2 (c2 Zae.B)))))))))] [(0, .string a0), (2, .pointer (some (pt b1 0))), (5, .int .i64 s2), (6, .pointer (some (pt b8 0))), (9, .int .i64 s9)] [(b8, ZbW.enc r7.1), (b1, ZaI.enc ZaU)] (Zae.K1 a0 s2 r7 s9) (rt Zae.out) := by
 unfold Zae.K1
 refine SJ.seq <| SJ.sr 4 <| J.z 4 <| J.f ?_ ?_
 ·exact SJ.sr 8 <| J.C 2 F109 (ZeE _ _) fun r16 => J.z 5 <| SJ.sr 6 <| J.u 0 Ty69 .nil <| J.s 2 1 rfl Ty69 (Upd.w ZaU) <| J.z 2 <| J.rc (.c 1 rfl Ty69 .n)
 refine SJ.skip <| SJ.sr 8 <| J.k 4 0 rfl Ty67 (At.whole _) <| J.C 0 F111 (Zgu _) fun r17 => J.C 0 F110 (ZfQ _ _ _ _) fun r18 => J.z 1 <| SJ.seq <| SJ.sr 2 <| J.z 2 <| J.f ?_ ?_
 ·exact SJ.sr 6 <| J.u 0 Ty69 .nil <| J.s 2 1 rfl Ty69 (Upd.w ZaU) <| J.z 2 <| J.rc (.c 1 rfl Ty69 .n)
 refine SJ.skip <| SJ.seq <| SJ.sr 4 <| J.z 4 <| J.f ?_ ?_
 ·exact SJ.sr 5 <| J.u 0 Ty69 .nil <| J.s 1 1 rfl Ty69 (Upd.w ZaU) <| J.z 2 <| J.rc (.c 1 rfl Ty69 .n)
 refine SJ.skip <| SJ.sr 5 <| J.k 0 0 rfl Ty67 (At.whole _) <| J.u 1 Ty69 (.f 0 (ZdC _ r7.1) (.f 1 (Zcq _ r18) .nil)) <| J.a 0 Ty69 fun b19 => J.s 0 0 rfl Ty69 (Upd.w (⟨r7.1, r18⟩ : Zac)) <| J.z 0 <| SJ.seq <| SJ.sr 3 <| J.k 0 0 rfl Ty69 (At.whole _) <| J.C 0 F92 (ZeT _) fun r20 => J.z 1 <| J.f ?_ ?_
 ·exact SJ.sr 4 <| J.u 0 Ty69 .nil <| J.s 0 2 rfl Ty69 (Upd.w ZaU) <| J.z 2 <| J.rc (.c 2 rfl Ty69 .n)
 exact SJ.skip <| SJ.sr 4 <| J.k 0 0 rfl Ty69 (At.whole _) <| J.s 0 2 rfl Ty69 (Upd.w (⟨r7.1, r18⟩ : Zac)) <| J.z 2 <| J.rc (.c 2 rfl Ty69 .n)
noncomputable def Zae.F1 (a0 : ByteArray) (b1 : Nat) (s2 : Int) (r7 : (Zbs × Int × Int)) (b8 : Nat) : LF Int (Zac × Int × Int) := ⟨[.inBlock 2, .code (c2 (c2 (c2 (c2 (c2 (c2 (c2 (c2 (c2 Zae.B)))))))))], c1 (c1 (c2 (c2 (c2 (c2 (c2 (c2 (c2 (c2 Zae.B))))))))), fun s_ => [(0, .string a0), (2, .pointer (some (pt b1 0))), (5, .int .i64 s2), (6, .pointer (some (pt b8 0))), (9, .int .i64 s_)], fun s_ => [(b8, ZbW.enc r7.1), (b1, ZaI.enc ZaU)], (rt Zae.out)⟩
noncomputable def Zae.L1 (a0 : ByteArray) (s2 : Int) (r7 : (Zbs × Int × Int)) (s9 : Int) : M (LS Int (Zac × Int × Int)) :=
 (if s9 < (a0.size : Int) then
   chk ((0 : Int) ≤ s9 ∧ s9 < (a0.size : Int)) >>= fun _ =>
   Zc1 (sb a0 s9) >>= fun r27 =>
   pure r27
  else
   pure false) >>= fun y28 =>
 if y28 = true then
  pure (LS.next (IntKind.wrap .i64 (s9 + 1)))
 else
  (Zae.K1 a0 s2 r7 s9) >>= fun b => pure (LS.done b)
theorem Zae.L1_ok (a0 : ByteArray) (b1 : Nat) (s2 : Int) (r7 : (Zbs × Int × Int)) (b8 : Nat) : LJ Zae.cx (Zae.F1 a0 b1 s2 r7 b8) (fun s_ => Zae.L1 a0 s2 r7 s_) := by
 rintro s9
 show SJ _ _ _ _ (Zae.L1 a0 s2 r7 s9) _
 unfold Zae.L1
 refine SJ.seq <| SJ.sr 10 <| J.j 5 4 .bool ?_ ?_ fun y28 => ?_
 ·exact J.t 2 fun hb25 hb26 => J.C 0 F108 (Zfh _) fun r27 => J.e 1
 ·exact J.e 5
 refine J.z 0 <| J.f ?_ ?_
 ·exact SJ.skip <| SJ.block (id := 3) <| SJ.rg 3 <| J.z 3 <| SJ.inBlock <| J.o rfl
 exact SJ.exit (id := 2) (by rfl) <| J.q <| SJ.done <| Zae.K1_ok a0 b1 s2 r7 b8 s9
noncomputable def Zae.K2 (a0 : ByteArray) (s2 : Int) : M (Zac × Int × Int) :=
 if s2 = (a0.size : Int) then
  pure (ZaU, 42, (a0.size : Int))
 else
  chk (0 ≤ (0 : Int) ∧ (0 : Int) ≤ s2 ∧ s2 ≤ (a0.size : Int)) >>= fun _ =>
  Zbc (ByteArray.extract a0 (Int.toNat 0) (Int.toNat s2)) >>= fun r7 =>
  slot 67 >>= fun b8 =>
  if r7.2.1 ≠ 0 then
   pure (ZaU, r7.2.1, r7.2.2)
  else
   Zci (fun s_ : Int => Zae.L1 a0 s2 r7 s_) (IntKind.wrap .i64 (s2 + 1))
theorem Zae.K2_ok (a0 : ByteArray) (b1 : Nat) (s2 : Int) :
  SJ Zae.cx [.code (c2 (c2 (c2 (c2 Zae.B))))] [(0, .string a0), (2, .pointer (some (pt b1 0))), (5, .int .i64 s2)] [(b1, ZaI.enc ZaU)] (Zae.K2 a0 s2) (rt Zae.out) := by
 unfold Zae.K2
 refine SJ.seq <| SJ.sr 4 <| J.z 4 <| J.f ?_ ?_
 ·exact SJ.sr 6 <| J.u 0 Ty69 .nil <| J.s 2 0 rfl Ty69 (Upd.w ZaU) <| J.z 2 <| J.rc (.c 0 rfl Ty69 .n)
 refine SJ.skip <| SJ.sr 12 <| J.ct 2 <| J.C 0 F91 (ZfR _) fun r7 => J.a 4 Ty67 fun b8 => J.s 0 0 rfl Ty67 (Upd.w r7.1) <| J.z 2 <| SJ.seq <| SJ.sr 2 <| J.z 2 <| J.f ?_ ?_
 ·exact SJ.sr 6 <| J.u 0 Ty69 .nil <| J.s 2 1 rfl Ty69 (Upd.w ZaU) <| J.z 2 <| J.rc (.c 1 rfl Ty69 .n)
 exact SJ.skip <| SJ.sr 3 <| J.z 3 <| SJ.seq <| SJ.block (id := 2) <| J.L (Zae.L1_ok a0 b1 s2 r7 b8)
noncomputable def Zae.F2 (a0 : ByteArray) (b1 : Nat) : LF Int (Zac × Int × Int) := ⟨[.inBlock 0, .code (c2 (c2 (c2 (c2 Zae.B))))], c1 (c1 (c2 (c2 (c2 Zae.B)))), fun s_ => [(0, .string a0), (2, .pointer (some (pt b1 0))), (5, .int .i64 s_)], fun s_ => [(b1, ZaI.enc ZaU)], (rt Zae.out)⟩
noncomputable def Zae.L2 (a0 : ByteArray) (s2 : Int) : M (LS Int (Zac × Int × Int)) :=
 (if s2 < (a0.size : Int) then
   chk ((0 : Int) ≤ s2 ∧ s2 < (a0.size : Int)) >>= fun _ =>
   pure ((sb a0 s2) != 47)
  else
   pure false) >>= fun y34 =>
 if y34 = true then
  pure (LS.next (IntKind.wrap .i64 (s2 + 1)))
 else
  (Zae.K2 a0 s2) >>= fun b => pure (LS.done b)
theorem Zae.L2_ok (a0 : ByteArray) (b1 : Nat) : LJ Zae.cx (Zae.F2 a0 b1) (fun s_ => Zae.L2 a0 s_) := by
 rintro s2
 show SJ _ _ _ _ (Zae.L2 a0 s2) _
 unfold Zae.L2
 refine SJ.seq <| SJ.sr 10 <| J.j 5 4 .bool ?_ ?_ fun y34 => ?_
 ·exact J.t 2 fun hb32 hb33 => J.e 2
 ·exact J.e 5
 refine J.z 0 <| J.f ?_ ?_
 ·exact SJ.skip <| SJ.block (id := 1) <| SJ.rg 3 <| J.z 3 <| SJ.inBlock <| J.o rfl
 exact SJ.exit (id := 0) (by rfl) <| J.q <| SJ.done <| Zae.K2_ok a0 b1 s2
noncomputable def Zae (a0 : ByteArray) : M (Zac × Int × Int) :=
 slot 69 >>= fun b1 =>
 if (a0.size : Int) > 49 then
  pure (ZaU, 2, 49)
 else
  Zci (fun s_ : Int => Zae.L2 a0 s_) 0
theorem ZgM (a0 : ByteArray) : Ref Tryz.prog 90 [.string a0] (Zae a0) Zae.out := by
 refine J.Fn Tryz.func90 ?_
 unfold Zae
 refine SJ.sr 3 <| J.a 0 Ty69 fun b1 => J.z 2 <| SJ.seq <| SJ.sr 3 <| J.z 3 <| J.f ?_ ?_
 ·exact SJ.sr 4 <| J.u 0 Ty69 .nil <| J.s 0 0 rfl Ty69 (Upd.w ZaU) <| J.z 2 <| J.rc (.c 0 rfl Ty69 .n)
 exact SJ.skip <| SJ.sr 1 <| J.z 1 <| SJ.seq <| SJ.block (id := 0) <| J.L (Zae.L2_ok a0 b1)

/-! ### weir/weirref16.prefix: function 72 -/
noncomputable def Zdd.out (r_ : (Zac × Bool)) : Value := .tuple #[ZaI.val r_.1, .bool r_.2]
noncomputable def Zdd (a0 : ByteArray) : M (Zac × Bool) :=
 slot 69 >>= fun b1 =>
 Zae a0 >>= fun r2 =>
 slot 69 >>= fun b3 =>
 if r2.2.1 = 0 then
  pure (r2.1, true)
 else
  Zbc a0 >>= fun r4 =>
  slot 67 >>= fun b5 =>
  if r4.2.1 ≠ 0 then
   pure (ZaU, false)
  else
   if r4.1.V = 4 then
    pure ((⟨r4.1, 32⟩ : Zac), true)
   else
    pure ((⟨r4.1, 128⟩ : Zac), true)
theorem Zie (a0 : ByteArray) : Ref Tryz.prog 72 [.string a0] (Zdd a0) Zdd.out := by
 refine J.Fn Tryz.func72 ?_
 unfold Zdd
 refine SJ.sr 2 <| J.a 0 Ty69 fun b1 => J.z 1 <| SJ.sr 10 <| J.C 1 F90 (ZgM _) fun r2 => J.a 4 Ty69 fun b3 => J.s 0 0 rfl Ty69 (Upd.w r2.1) <| J.z 2 <| SJ.seq <| SJ.sr 2 <| J.z 2 <| J.f ?_ ?_
 ·exact SJ.sr 3 <| J.k 0 0 rfl Ty69 (At.whole _) <| J.s 0 1 rfl Ty69 (Upd.w r2.1) <| J.z 1 <| J.rc (.c 1 rfl Ty69 .n)
 refine SJ.skip <| SJ.sr 10 <| J.C 1 F91 (ZfR _) fun r4 => J.a 4 Ty67 fun b5 => J.s 0 0 rfl Ty67 (Upd.w r4.1) <| J.z 2 <| SJ.seq <| SJ.sr 2 <| J.z 2 <| J.f ?_ ?_
 ·exact SJ.sr 3 <| J.u 0 Ty69 .nil <| J.s 0 2 rfl Ty69 (Upd.w ZaU) <| J.z 1 <| J.rc (.c 2 rfl Ty69 .n)
 refine SJ.skip <| SJ.seq <| SJ.sr 3 <| J.k 1 0 rfl Ty3 (ZcZ _) <| J.z 1 <| J.f ?_ ?_
 ·exact SJ.sr 4 <| J.k 0 0 rfl Ty67 (At.whole _) <| J.u 0 Ty69 (.f 0 (ZdC _ r4.1) (.f 1 (Zcq _ 32) .nil)) <| J.s 0 2 rfl Ty69 (Upd.w (⟨r4.1, 32⟩ : Zac)) <| J.z 1 <| J.rc (.c 2 rfl Ty69 .n)
 exact SJ.skip <| SJ.sr 4 <| J.k 0 0 rfl Ty67 (At.whole _) <| J.u 0 Ty69 (.f 0 (ZdC _ r4.1) (.f 1 (Zcq _ 128) .nil)) <| J.s 0 2 rfl Ty69 (Upd.w (⟨r4.1, 128⟩ : Zac)) <| J.z 1 <| J.rc (.c 2 rfl Ty69 .n)

/-! ### weir/weirref16.net: function 73 -/
noncomputable def Zd6.out (r_ : Bool) : Value := .bool r_
noncomputable def Zd6 (a0 : Int) (a1 : Zac) : M Bool :=
 slot 69 >>= fun b1 =>
 ZaS a1 >>= fun r2 =>
 if r2 ≠ 0 then
  pure false
 else
  (if a0 = 0 then
    pure true
   else
    pure ((a0 == 3) == (a1.IP.V == 6))) >>= fun y3 =>
  pure y3
theorem ZjW (a0 : Int) (a1 : Zac) : Ref Tryz.prog 73 [.int .i64 a0, ZaI.val a1] (Zd6 a0 a1) Zd6.out := by
 refine J.Fn Tryz.func73 ?_
 unfold Zd6
 refine SJ.sr 2 <| J.b 0 ZaI a1 fun b1 => J.z 1 <| SJ.seq <| SJ.sr 3 <| J.k 0 0 rfl Ty69 (At.whole _) <| J.C 0 F92 (ZeT _) fun r2 => J.z 1 <| J.f ?_ ?_
 ·exact SJ.sr 1 <| J.z 1 <| J.r
 refine SJ.skip <| SJ.sr 12 <| J.j 3 7 .bool ?_ ?_ fun y3 => ?_
 ·exact J.e 8
 ·exact J.k 4 0 rfl Ty3 (At.trans (Zb6 _) (ZcZ _)) <| J.e 3
 exact J.z 1 <| J.r

/-! ### (*weir/weirref16.reader).nets: function 59 -/
noncomputable def ZaP.B : Code := bod Tryz.f59
noncomputable def ZaP.cx : Fx := ⟨Tryz.prog, 59, Tryz.f59, none⟩
noncomputable def ZaP.out (r_ : Sl) : Value := Sl.v r_
noncomputable def ZaP.F1 (a0 : (Option Addr)) : LF (Sl × Bool) Sl := ⟨[.inBlock 0, .code (c2 (c2 (c2 ZaP.B)))], c1 (c2 (c1 (c2 (c2 ZaP.B)))), fun s_ => [(0, .pointer a0), (3, Sl.v s_.1), (4, .bool s_.2)], fun s_ => [], (rt ZaP.out)⟩
noncomputable def ZaP.L1 (a0 : (Option Addr)) (s1 : Sl) (s2 : Bool) : M (LS (Sl × Bool) Sl) :=
 (if s2 = true then
   nilck a0 >>= fun p25 =>
   ld (cI .i64) (Addr.add p25 19) >>= fun x26 =>
   pure (x26 == 0)
  else
   pure false) >>= fun y27 =>
 if y27 = true then
  ZbH a0 >>= fun r28 =>
  slot 87 >>= fun b29 =>
  Zdd r28.Text >>= fun r30 =>
  slot 69 >>= fun b31 =>
  draw >>= fun _ =>
  (if ¬ (r30.2 = true) then
    pure true
   else
    nilck a0 >>= fun p32 =>
    ld (cI .i64) (Addr.add (Addr.add p32 2) 2) >>= fun x33 =>
    Zd6 x33 r30.1 >>= fun r34 =>
    pure (!r34)) >>= fun y35 =>
  (if y35 = true then
    pure true
   else
    pure ((s1.len : Int) == 16)) >>= fun y36 =>
  if y36 = true then
   Za1 a0 163 r28.At >>= fun r38 =>
   slot 69 >>= fun b39 =>
   appl ZaI 69 32 ZaU s1 [r30.1] >>= fun r40 =>
   ZaE a0 str0 >>= fun r41 =>
   pure (LS.next (r40, r41))
  else
   slot 69 >>= fun b42 =>
   appl ZaI 69 32 ZaU s1 [r30.1] >>= fun r43 =>
   ZaE a0 str0 >>= fun r44 =>
   pure (LS.next (r43, r44))
 else
  pure (LS.done s1)
theorem ZaP.L1_ok (a0 : (Option Addr)) : LJ ZaP.cx (ZaP.F1 a0) (fun s_ => ZaP.L1 a0 s_.1 s_.2) := by
 rintro ⟨s1, s2⟩
 show SJ _ _ _ _ (ZaP.L1 a0 s1 s2) _
 unfold ZaP.L1
 refine SJ.seq <| SJ.sr 8 <| J.j 2 5 .bool ?_ ?_ fun y27 => ?_
 ·exact J.n 1 fun p25 => J.l 1 Ty3 fun x26 => J.e 2
 ·exact J.e 6
 refine J.z 0 <| J.f ?_ ?_
 ·refine SJ.skip <| SJ.seq <| SJ.block (id := 1) <| SJ.sr 4 <| J.C 1 F57 (ZcG _) fun r28 => J.a 0 Ty87 fun b29 => J.s 0 0 rfl Ty87 (Upd.w r28) <| J.z 0 <| SJ.sr 9 <| J.k 1 0 rfl Ty9 (Za4 _) <| J.C 0 F72 (Zie _) fun r30 => J.a 3 Ty69 fun b31 => J.s 0 0 rfl Ty69 (Upd.w r30.1) <| J.z 1 <| SJ.seq <| SJ.seq <| J.R 17 Zdz <| J.j 3 8 .bool ?_ ?_ fun y35 => ?_
  ·exact J.e 9
  ·exact J.n 1 fun p32 => J.l 2 Ty3 fun x33 => J.k 0 0 rfl Ty69 (At.whole _) <| J.C 0 F73 (ZjW _ _) fun r34 => J.e 2
  refine J.j 1 3 .bool ?_ ?_ fun y36 => ?_
  ·exact J.e 4
  ·exact J.e 4
  refine J.z 0 <| J.f ?_ ?_
  ·exact SJ.rg 4 <| J.k 2 1 rfl Ty3 (ZbK _) <| J.C 0 F42 (Zbg _ _ _) fun r38 => J.z 0 <| SJ.rg 5 <| J.k 1 0 rfl Ty69 (At.whole _) <| J.S 0 [r30.1] Ty69 fun b39 => J.p 0 0 rfl Ty69 fun r40 => J.z 1 <| SJ.inBlock <| SJ.rg 3 <| J.C 1 F36 (ZaV _ _) fun r41 => J.z 1 <| SJ.forget (List.Sublist.cons _ (List.Sublist.cons _ (List.Sublist.cons _ List.Sublist.slnil))) <| J.o rfl
  exact SJ.skip <| SJ.rg 5 <| J.k 1 0 rfl Ty69 (At.whole _) <| J.S 0 [r30.1] Ty69 fun b42 => J.p 0 0 rfl Ty69 fun r43 => J.z 1 <| SJ.inBlock <| SJ.rg 3 <| J.C 1 F36 (ZaV _ _) fun r44 => J.z 1 <| SJ.forget (List.Sublist.cons _ (List.Sublist.cons _ (List.Sublist.cons _ List.Sublist.slnil))) <| J.o rfl
 exact SJ.exit (id := 0) (by rfl) <| SJ.sr 2 <| J.z 2 <| J.r
noncomputable def ZaP (a0 : (Option Addr)) : M Sl :=
 Zci (fun s_ : (Sl × Bool) => ZaP.L1 a0 s_.1 s_.2) (Sl.nil, true)
theorem Zgx (a0 : (Option Addr)) : Ref Tryz.prog 59 [.pointer a0] (ZaP a0) ZaP.out := by
 refine J.Fn Tryz.func59 ?_
 unfold ZaP
 exact SJ.sr 1 <| J.z 1 <| SJ.sr 1 <| J.z 1 <| SJ.seq <| SJ.sr 1 <| J.z 1 <| SJ.block (id := 0) <| J.L (ZaP.L1_ok a0)

/-! ### weir/weirref16.between: function 74 -/
noncomputable def Zar.B : Code := bod Tryz.f74
noncomputable def Zar.cx : Fx := ⟨Tryz.prog, 74, Tryz.f74, none⟩
noncomputable def Zar.out (r_ : (ZaD × Bool)) : Value := .tuple #[Zbi.val r_.1, .bool r_.2]
noncomputable def Zar.K1 (r7 : Int) (j9 : Int) : M (ZaD × Bool) :=
 (if r7 ≥ 0 then
   pure (decide (j9 ≥ r7))
  else
   pure false) >>= fun y10 =>
 pure ((⟨r7, j9⟩ : ZaD), y10)
theorem Zar.K1_ok (b1 : Nat) (r7 : Int) (j9 : Int) :
  SJ Zar.cx [.code (c2 (c2 (c2 (c2 (c2 (c2 Zar.B))))))] [(2, .pointer (some (pt b1 0))), (5, .int .i64 r7), (6, .int .i64 j9)] [(b1, Zbi.enc Zcv)] (Zar.K1 r7 j9) (rt Zar.out) := by
 unfold Zar.K1
 refine SJ.sr 12 <| J.u 2 Ty71 (.f 0 (Zdv _ r7) (.f 1 (Zeq _ j9) .nil)) <| J.j 3 3 .bool ?_ ?_ fun y10 => ?_
 ·exact J.e 4
 ·exact J.e 4
 exact J.s 0 0 rfl Ty71 (Upd.w (⟨r7, j9⟩ : ZaD)) <| J.z 1 <| J.rc (.c 0 rfl Ty71 .n)
noncomputable def Zar.K2 (a0 : ByteArray) (s2 : Int) : M (ZaD × Bool) :=
 chk (0 ≤ (0 : Int) ∧ (0 : Int) ≤ s2 ∧ s2 ≤ (a0.size : Int)) >>= fun _ =>
 Za8 (ByteArray.extract a0 (Int.toNat 0) (Int.toNat s2)) 0 65535 >>= fun r7 =>
 if s2 < (a0.size : Int) then
  chk (0 ≤ ((IntKind.wrap .i64 (s2 + 1)) : Int) ∧ ((IntKind.wrap .i64 (s2 + 1)) : Int) ≤ (a0.size : Int) ∧ (a0.size : Int) ≤ (a0.size : Int)) >>= fun _ =>
  Za8 (ByteArray.extract a0 (Int.toNat (IntKind.wrap .i64 (s2 + 1))) (Int.toNat (a0.size : Int))) 0 65535 >>= fun r11 =>
  Zar.K1 r7 r11
 else
  Zar.K1 r7 r7
theorem Zar.K2_ok (a0 : ByteArray) (b1 : Nat) (s2 : Int) :
  SJ Zar.cx [.code (c2 (c2 (c2 Zar.B)))] [(0, .string a0), (2, .pointer (some (pt b1 0))), (4, .int .i64 s2)] [(b1, Zbi.enc Zcv)] (Zar.K2 a0 s2) (rt Zar.out) := by
 unfold Zar.K2
 refine SJ.sr 5 <| J.ct 2 <| J.C 0 F58 (Zd5 _ _ _) fun r7 => J.z 1 <| SJ.sr 2 <| J.z 2 <| SJ.seq <| SJ.sr 4 <| J.z 4 <| J.f ?_ ?_
 ·exact SJ.rg 6 <| J.ct 3 <| J.C 0 F58 (Zd5 _ _ _) fun r11 => J.z 1 <| J.q <| Zar.K1_ok b1 r7 r11
 exact SJ.skip <| J.q <| Zar.K1_ok b1 r7 r7
noncomputable def Zar.F1 (a0 : ByteArray) (b1 : Nat) : LF Int (ZaD × Bool) := ⟨[.inBlock 0, .code (c2 (c2 (c2 Zar.B)))], c1 (c1 (c2 (c2 Zar.B))), fun s_ => [(0, .string a0), (2, .pointer (some (pt b1 0))), (4, .int .i64 s_)], fun s_ => [(b1, Zbi.enc Zcv)], (rt Zar.out)⟩
noncomputable def Zar.L1 (a0 : ByteArray) (s2 : Int) : M (LS Int (ZaD × Bool)) :=
 (if s2 < (a0.size : Int) then
   chk ((0 : Int) ≤ s2 ∧ s2 < (a0.size : Int)) >>= fun _ =>
   pure ((sb a0 s2) != 45)
  else
   pure false) >>= fun y15 =>
 if y15 = true then
  pure (LS.next (IntKind.wrap .i64 (s2 + 1)))
 else
  (Zar.K2 a0 s2) >>= fun b => pure (LS.done b)
theorem Zar.L1_ok (a0 : ByteArray) (b1 : Nat) : LJ Zar.cx (Zar.F1 a0 b1) (fun s_ => Zar.L1 a0 s_) := by
 rintro s2
 show SJ _ _ _ _ (Zar.L1 a0 s2) _
 unfold Zar.L1
 refine SJ.seq <| SJ.sr 10 <| J.j 5 4 .bool ?_ ?_ fun y15 => ?_
 ·exact J.t 2 fun hb13 hb14 => J.e 2
 ·exact J.e 5
 refine J.z 0 <| J.f ?_ ?_
 ·exact SJ.skip <| SJ.block (id := 1) <| SJ.rg 3 <| J.z 3 <| SJ.inBlock <| J.o rfl
 exact SJ.exit (id := 0) (by rfl) <| J.q <| SJ.done <| Zar.K2_ok a0 b1 s2
noncomputable def Zar (a0 : ByteArray) : M (ZaD × Bool) :=
 slot 71 >>= fun b1 =>
 Zci (fun s_ : Int => Zar.L1 a0 s_) 0
theorem ZhW (a0 : ByteArray) : Ref Tryz.prog 74 [.string a0] (Zar a0) Zar.out := by
 refine J.Fn Tryz.func74 ?_
 unfold Zar
 exact SJ.sr 2 <| J.a 0 Ty71 fun b1 => J.z 1 <| SJ.sr 1 <| J.z 1 <| SJ.seq <| SJ.block (id := 0) <| J.L (Zar.L1_ok a0 b1)

/-! ### (*weir/weirref16.reader).ranges: function 60 -/
noncomputable def ZaJ.B : Code := bod Tryz.f60
noncomputable def ZaJ.cx : Fx := ⟨Tryz.prog, 60, Tryz.f60, none⟩
noncomputable def ZaJ.out (r_ : Sl) : Value := Sl.v r_
noncomputable def ZaJ.F1 (a0 : (Option Addr)) : LF (Sl × Bool) Sl := ⟨[.inBlock 0, .code (c2 (c2 (c2 ZaJ.B)))], c1 (c2 (c1 (c2 (c2 ZaJ.B)))), fun s_ => [(0, .pointer a0), (3, Sl.v s_.1), (4, .bool s_.2)], fun s_ => [], (rt ZaJ.out)⟩
noncomputable def ZaJ.L1 (a0 : (Option Addr)) (s1 : Sl) (s2 : Bool) : M (LS (Sl × Bool) Sl) :=
 (if s2 = true then
   nilck a0 >>= fun p21 =>
   ld (cI .i64) (Addr.add p21 19) >>= fun x22 =>
   pure (x22 == 0)
  else
   pure false) >>= fun y23 =>
 if y23 = true then
  ZbH a0 >>= fun r24 =>
  slot 87 >>= fun b25 =>
  Zar r24.Text >>= fun r26 =>
  slot 71 >>= fun b27 =>
  (if ¬ (r26.2 = true) then
    pure true
   else
    pure ((s1.len : Int) == 16)) >>= fun y28 =>
  if y28 = true then
   Za1 a0 164 r24.At >>= fun r30 =>
   slot 71 >>= fun b31 =>
   appl Zbi 71 16 Zcv s1 [r26.1] >>= fun r32 =>
   ZaE a0 str0 >>= fun r33 =>
   pure (LS.next (r32, r33))
  else
   slot 71 >>= fun b34 =>
   appl Zbi 71 16 Zcv s1 [r26.1] >>= fun r35 =>
   ZaE a0 str0 >>= fun r36 =>
   pure (LS.next (r35, r36))
 else
  pure (LS.done s1)
theorem ZaJ.L1_ok (a0 : (Option Addr)) : LJ ZaJ.cx (ZaJ.F1 a0) (fun s_ => ZaJ.L1 a0 s_.1 s_.2) := by
 rintro ⟨s1, s2⟩
 show SJ _ _ _ _ (ZaJ.L1 a0 s1 s2) _
 unfold ZaJ.L1
 refine SJ.seq <| SJ.sr 8 <| J.j 2 5 .bool ?_ ?_ fun y23 => ?_
 ·exact J.n 1 fun p21 => J.l 1 Ty3 fun x22 => J.e 2
 ·exact J.e 6
 refine J.z 0 <| J.f ?_ ?_
 ·refine SJ.skip <| SJ.seq <| SJ.block (id := 1) <| SJ.sr 4 <| J.C 1 F57 (ZcG _) fun r24 => J.a 0 Ty87 fun b25 => J.s 0 0 rfl Ty87 (Upd.w r24) <| J.z 0 <| SJ.sr 9 <| J.k 1 0 rfl Ty9 (Za4 _) <| J.C 0 F74 (ZhW _) fun r26 => J.a 3 Ty71 fun b27 => J.s 0 0 rfl Ty71 (Upd.w r26.1) <| J.z 1 <| SJ.seq <| SJ.sr 7 <| J.j 3 3 .bool ?_ ?_ fun y28 => ?_
  ·exact J.e 4
  ·exact J.e 4
  refine J.z 0 <| J.f ?_ ?_
  ·exact SJ.rg 4 <| J.k 2 1 rfl Ty3 (ZbK _) <| J.C 0 F42 (Zbg _ _ _) fun r30 => J.z 0 <| SJ.rg 5 <| J.k 1 0 rfl Ty71 (At.whole _) <| J.S 0 [r26.1] Ty71 fun b31 => J.p 0 0 rfl Ty71 fun r32 => J.z 1 <| SJ.inBlock <| SJ.rg 3 <| J.C 1 F36 (ZaV _ _) fun r33 => J.z 1 <| SJ.forget (List.Sublist.cons _ (List.Sublist.cons _ (List.Sublist.cons _ List.Sublist.slnil))) <| J.o rfl
  exact SJ.skip <| SJ.rg 5 <| J.k 1 0 rfl Ty71 (At.whole _) <| J.S 0 [r26.1] Ty71 fun b34 => J.p 0 0 rfl Ty71 fun r35 => J.z 1 <| SJ.inBlock <| SJ.rg 3 <| J.C 1 F36 (ZaV _ _) fun r36 => J.z 1 <| SJ.forget (List.Sublist.cons _ (List.Sublist.cons _ (List.Sublist.cons _ List.Sublist.slnil))) <| J.o rfl
 exact SJ.exit (id := 0) (by rfl) <| SJ.sr 2 <| J.z 2 <| J.r
noncomputable def ZaJ (a0 : (Option Addr)) : M Sl :=
 Zci (fun s_ : (Sl × Bool) => ZaJ.L1 a0 s_.1 s_.2) (Sl.nil, true)
theorem Zf5 (a0 : (Option Addr)) : Ref Tryz.prog 60 [.pointer a0] (ZaJ a0) ZaJ.out := by
 refine J.Fn Tryz.func60 ?_
 unfold ZaJ
 exact SJ.sr 1 <| J.z 1 <| SJ.sr 1 <| J.z 1 <| SJ.seq <| SJ.sr 1 <| J.z 1 <| SJ.block (id := 0) <| J.L (ZaJ.L1_ok a0)

/-! ### (*weir/weirref16.reader).side: function 45 -/
noncomputable def Zam.B : Code := bod Tryz.f45
noncomputable def Zam.cx : Fx := ⟨Tryz.prog, 45, Tryz.f45, none⟩
noncomputable def Zam.out (r_ : Zap) : Value := ZaR.val r_
noncomputable def Zam.K1 (a0 : (Option Addr)) (j6 : Zap) (y12 : Bool) : M Zap :=
 (if y12 = true then
   nilck a0 >>= fun p20 =>
   ld (cI .i64) (Addr.add p20 19) >>= fun x21 =>
   pure (x21 == 0)
  else
   pure false) >>= fun y22 =>
 if y22 = true then
  ZaJ a0 >>= fun r24 =>
  pure (⟨j6.Not, j6.Nets, r24⟩ : Zap)
 else
  pure j6
theorem Zam.K1_ok (a0 : (Option Addr)) (b1 : Nat) (b2 : Nat) (j6 : Zap) (y12 : Bool) :
  SJ Zam.cx [.code (c2 (c2 (c2 (c2 (c2 (c2 (c2 Zam.B)))))))] [(0, .pointer a0), (2, .pointer (some (pt b1 0))), (3, .pointer (some (pt b2 0))), (6, .bool y12)] [(b2, ZaR.enc j6), (b1, ZaR.enc ZaQ)] (Zam.K1 a0 j6 y12) (rt Zam.out) := by
 unfold Zam.K1
 refine SJ.seq <| SJ.sr 8 <| J.j 2 5 .bool ?_ ?_ fun y22 => ?_
 ·exact J.n 1 fun p20 => J.l 1 Ty3 fun x21 => J.e 2
 ·exact J.e 6
 refine J.z 0 <| J.f ?_ ?_
 ·exact SJ.rg 4 <| J.C 1 F60 (Zf5 _) fun r24 => J.s 1 0 rfl Ty24 (Zew _ r24) <| J.z 0 <| SJ.sr 2 <| J.k 0 0 rfl Ty26 (At.whole _) <| J.s 0 1 rfl Ty26 (Upd.w (⟨j6.Not, j6.Nets, r24⟩ : Zap)) <| J.z 0 <| J.rc (.c 1 rfl Ty26 .n)
 exact SJ.skip <| SJ.sr 2 <| J.k 0 0 rfl Ty26 (At.whole _) <| J.s 0 1 rfl Ty26 (Upd.w j6) <| J.z 0 <| J.rc (.c 1 rfl Ty26 .n)
noncomputable def Zam.K2 (a0 : (Option Addr)) (j6 : Zap) : M Zap :=
 Zbv a0 >>= fun r7 =>
 slot 87 >>= fun b8 =>
 nilck a0 >>= fun p9 =>
 ld (cI .i64) (Addr.add p9 19) >>= fun x10 =>
 (if x10 = 0 then
   ZaE a0 ZsU >>= fun r11 =>
   pure r11
  else
   pure false) >>= fun y12 =>
 (if y12 = true then
   nilck a0 >>= fun p13 =>
   ld (cI .i64) (Addr.add (Addr.add p13 2) 3) >>= fun x14 =>
   pure (x14 != 6)
  else
   pure false) >>= fun y15 =>
 (if y15 = true then
   nilck a0 >>= fun p16 =>
   ld (cI .i64) (Addr.add (Addr.add p16 2) 3) >>= fun x17 =>
   pure (x17 != 17)
  else
   pure false) >>= fun y18 =>
 if y18 = true then
  Za1 a0 165 r7.At >>= fun r26 =>
  Zam.K1 a0 j6 y12
 else
  Zam.K1 a0 j6 y12
theorem Zam.K2_ok (a0 : (Option Addr)) (b1 : Nat) (b2 : Nat) (j6 : Zap) :
  SJ Zam.cx [.code (c2 (c2 (c2 (c2 Zam.B))))] [(0, .pointer a0), (2, .pointer (some (pt b1 0))), (3, .pointer (some (pt b2 0)))] [(b2, ZaR.enc j6), (b1, ZaR.enc ZaQ)] (Zam.K2 a0 j6) (rt Zam.out) := by
 unfold Zam.K2
 refine SJ.sr 4 <| J.C 1 F40 (ZcF _) fun r7 => J.a 0 Ty87 fun b8 => J.s 0 0 rfl Ty87 (Upd.w r7) <| J.z 0 <| SJ.sr 10 <| J.n 1 fun p9 => J.l 1 Ty3 fun x10 => J.j 2 2 .bool ?_ ?_ fun y12 => ?_
 ·exact J.C 1 F36 (ZaV _ _) fun r11 => J.e 1
 ·exact J.e 3
 refine J.z 1 <| SJ.seq <| SJ.sr 17 <| J.j 2 6 .bool ?_ ?_ fun y15 => ?_
 ·exact J.n 1 fun p13 => J.l 2 Ty3 fun x14 => J.e 2
 ·exact J.e 7
 refine J.j 1 6 .bool ?_ ?_ fun y18 => ?_
 ·exact J.n 1 fun p16 => J.l 2 Ty3 fun x17 => J.e 2
 ·exact J.e 7
 refine J.z 0 <| J.f ?_ ?_
 ·exact SJ.rg 4 <| J.k 2 0 rfl Ty3 (ZbK _) <| J.C 0 F42 (Zbg _ _ _) fun r26 => J.z 0 <| SJ.forget (List.Sublist.cons _ (List.Sublist.cons_cons _ (List.Sublist.cons_cons _ List.Sublist.slnil))) <| J.q <| Zam.K1_ok a0 b1 b2 j6 y12
 exact SJ.skip <| SJ.forget (List.Sublist.cons _ (List.Sublist.cons_cons _ (List.Sublist.cons_cons _ List.Sublist.slnil))) <| J.q <| Zam.K1_ok a0 b1 b2 j6 y12
noncomputable def Zam (a0 : (Option Addr)) : M Zap :=
 slot 26 >>= fun b1 =>
 slot 26 >>= fun b2 =>
 ZaE a0 str7 >>= fun r3 =>
 if ¬ (r3 = true) then
  ZaE a0 ZsV >>= fun r28 =>
  ZaP a0 >>= fun r29 =>
  Zam.K2 a0 (⟨r28, r29, ZaQ.Ports⟩ : Zap)
 else
  Zam.K2 a0 ZaQ
theorem ZeK (a0 : (Option Addr)) : Ref Tryz.prog 45 [.pointer a0] (Zam a0) Zam.out := by
 refine J.Fn Tryz.func45 ?_
 unfold Zam
 refine SJ.sr 1 <| J.a 0 Ty26 fun b1 => J.z 0 <| SJ.sr 1 <| J.a 0 Ty26 fun b2 => J.z 0 <| SJ.sr 3 <| J.C 1 F36 (ZaV _ _) fun r3 => J.z 1 <| SJ.seq <| SJ.sr 2 <| J.z 2 <| J.f ?_ ?_
 ·exact SJ.sr 4 <| J.C 1 F36 (ZaV _ _) fun r28 => J.s 1 0 rfl Ty4 (ZhH _ r28) <| J.z 0 <| SJ.rg 4 <| J.C 1 F59 (Zgx _) fun r29 => J.s 1 0 rfl Ty23 (ZeG _ r29) <| J.z 0 <| J.q <| Zam.K2_ok a0 b1 b2 (⟨r28, r29, ZaQ.Ports⟩ : Zap)
 exact SJ.skip <| J.q <| Zam.K2_ok a0 b1 b2 ZaQ

/-! ### weir/weirref16.words: function 75 -/
noncomputable def ZdU.out (r_ : Sl) : Value := Sl.v r_
noncomputable def ZdU  : M Sl :=
 newv 9 (cS.arr 8) (⟨[ZtO, ZtN, ZtM, ZtL, ZtK, ZtJ, ZtI, ZtH], rfl⟩ : Vec ByteArray 8) >>= fun b1 =>
 pure (⟨some (pt b1 0), 8, 8⟩ : Sl)
theorem ZiC  : Ref Tryz.prog 75 [] (ZdU) ZdU.out := by
 refine J.Fn Tryz.func75 ?_
 unfold ZdU
 exact SJ.sr 1 <| J.z 1 <| SJ.sr 2 <| J.N 0 Ty9 fun b1 => J.z 1 <| J.r

/-! ### weir/weirref16.flag: function 61 -/
noncomputable def ZaZ.B : Code := bod Tryz.f61
noncomputable def ZaZ.cx : Fx := ⟨Tryz.prog, 61, Tryz.f61, none⟩
noncomputable def ZaZ.out (r_ : (Int × Bool)) : Value := .tuple #[.int .i64 r_.1, .bool r_.2]
noncomputable def ZaZ.F1 (y3 : Bool) (j4 : ByteArray) (r5 : Sl) : LF Int (Int × Bool) := ⟨[.inBlock 0, .code (c2 (c2 (c2 (c2 (c2 ZaZ.B)))))], c1 (c2 (c1 (c2 (c2 (c2 (c2 ZaZ.B)))))), fun s_ => [(0, .string j4), (4, .bool y3), (5, Sl.v r5), (6, .int .i64 s_)], fun s_ => [], (rt ZaZ.out)⟩
noncomputable def ZaZ.L1 (y3 : Bool) (j4 : ByteArray) (r5 : Sl) (s6 : Int) : M (LS Int (Int × Bool)) :=
 if s6 < 8 then
  idx r5.a r5.len s6 1 >>= fun p11 =>
  ld cS p11 >>= fun x12 =>
  if x12.toList = j4.toList then
   pure (LS.done (s6, y3))
  else
   pure (LS.next (IntKind.wrap .i64 (s6 + 1)))
 else
  pure (LS.done ((-1), y3))
theorem ZaZ.L1_ok (y3 : Bool) (j4 : ByteArray) (r5 : Sl) : LJ ZaZ.cx (ZaZ.F1 y3 j4 r5) (fun s_ => ZaZ.L1 y3 j4 r5 s_) := by
 rintro s6
 show SJ _ _ _ _ (ZaZ.L1 y3 j4 r5 s6) _
 unfold ZaZ.L1
 refine SJ.seq <| SJ.sr 2 <| J.z 2 <| J.f ?_ ?_
 ·refine SJ.skip <| SJ.seq <| SJ.block (id := 1) <| SJ.sr 6 <| J.i 2 fun p11 => J.l 0 Ty9 fun x12 => J.z 2 <| J.f ?_ ?_
  ·exact SJ.sr 4 <| J.z 4 <| J.r
  exact SJ.skip <| SJ.inBlock <| SJ.rg 3 <| J.z 3 <| J.o rfl
 exact SJ.exit (id := 0) (by rfl) <| SJ.sr 3 <| J.z 3 <| J.r
noncomputable def ZaZ.K1 (y3 : Bool) (j4 : ByteArray) : M (Int × Bool) :=
 ZdU >>= fun r5 =>
 Zci (fun s_ : Int => ZaZ.L1 y3 j4 r5 s_) 0
theorem ZaZ.K1_ok (y3 : Bool) (j4 : ByteArray) :
  SJ ZaZ.cx [.code (c2 (c2 (c2 ZaZ.B)))] [(0, .string j4), (4, .bool y3)] [] (ZaZ.K1 y3 j4) (rt ZaZ.out) := by
 unfold ZaZ.K1
 exact SJ.sr 2 <| J.C 0 F75 ZiC fun r5 => J.z 1 <| SJ.seq <| SJ.sr 1 <| J.z 1 <| SJ.block (id := 0) <| J.L (ZaZ.L1_ok y3 j4 r5)
noncomputable def ZaZ (a0 : ByteArray) : M (Int × Bool) :=
 (if (a0.size : Int) > 0 then
   chk ((0 : Int) ≤ 0 ∧ 0 < (a0.size : Int)) >>= fun _ =>
   pure ((sb a0 0) == 33)
  else
   pure false) >>= fun y3 =>
 if y3 = true then
  chk (0 ≤ (1 : Int) ∧ (1 : Int) ≤ (a0.size : Int) ∧ (a0.size : Int) ≤ (a0.size : Int)) >>= fun _ =>
  ZaZ.K1 y3 (ByteArray.extract a0 (Int.toNat 1) (Int.toNat (a0.size : Int)))
 else
  ZaZ.K1 y3 a0
theorem Zje (a0 : ByteArray) : Ref Tryz.prog 61 [.string a0] (ZaZ a0) ZaZ.out := by
 refine J.Fn Tryz.func61 ?_
 unfold ZaZ
 refine SJ.sr 2 <| J.z 2 <| SJ.sr 9 <| J.j 4 3 .bool ?_ ?_ fun y3 => ?_
 ·exact J.t 1 fun hb1 hb2 => J.e 2
 ·exact J.e 4
 refine J.z 1 <| SJ.seq <| SJ.sr 1 <| J.z 1 <| J.f ?_ ?_
 ·exact SJ.rg 3 <| J.ct 1 <| J.z 1 <| J.q <| ZaZ.K1_ok y3 (ByteArray.extract a0 (Int.toNat 1) (Int.toNat (a0.size : Int)))
 exact SJ.skip <| J.q <| ZaZ.K1_ok y3 a0

/-! ### weir/weirref16.bit: function 62 -/
noncomputable def Zbp.B : Code := bod Tryz.f62
noncomputable def Zbp.cx : Fx := ⟨Tryz.prog, 62, Tryz.f62, none⟩
noncomputable def Zbp.out (r_ : Bool) : Value := .bool r_
noncomputable def Zbp.F1 (a1 : Int) : LF (Int × Int) Bool := ⟨[.inBlock 0, .code (c2 (c2 Zbp.B))], c1 (c2 (c1 (c2 Zbp.B))), fun s_ => [(0, .int .i64 s_.1), (1, .int .i64 a1), (5, .int .i64 s_.2)], fun s_ => [], (rt Zbp.out)⟩
noncomputable def Zbp.L1 (a1 : Int) (s1 : Int) (s2 : Int) : M (LS (Int × Int) Bool) :=
 if s2 < a1 then
  pure (LS.next (IntKind.wrap .i64 (Int.tdiv s1 2), IntKind.wrap .i64 (s2 + 1)))
 else
  pure (LS.done ((Int.tmod s1 2) == 1))
theorem Zbp.L1_ok (a1 : Int) : LJ Zbp.cx (Zbp.F1 a1) (fun s_ => Zbp.L1 a1 s_.1 s_.2) := by
 rintro ⟨s1, s2⟩
 show SJ _ _ _ _ (Zbp.L1 a1 s1 s2) _
 unfold Zbp.L1
 refine SJ.seq <| SJ.sr 3 <| J.z 3 <| J.f ?_ ?_
 ·exact SJ.skip <| SJ.seq <| SJ.block (id := 1) <| SJ.rg 3 <| J.z 3 <| SJ.inBlock <| SJ.rg 3 <| J.z 3 <| J.o rfl
 exact SJ.exit (id := 0) (by rfl) <| SJ.sr 4 <| J.z 4 <| J.r
noncomputable def Zbp (a0 : Int) (a1 : Int) : M Bool :=
 Zci (fun s_ : (Int × Int) => Zbp.L1 a1 s_.1 s_.2) (a0, 0)
theorem Zg7 (a0 : Int) (a1 : Int) : Ref Tryz.prog 62 [.int .i64 a0, .int .i64 a1] (Zbp a0 a1) Zbp.out := by
 refine J.Fn Tryz.func62 ?_
 unfold Zbp
 exact SJ.sr 1 <| J.z 1 <| SJ.seq <| SJ.sr 1 <| J.z 1 <| SJ.block (id := 0) <| J.L (Zbp.L1_ok a1)

/-! ### (*weir/weirref16.reader).flags: function 46 -/
noncomputable def ZaN.B : Code := bod Tryz.f46
noncomputable def ZaN.cx : Fx := ⟨Tryz.prog, 46, Tryz.f46, none⟩
noncomputable def ZaN.out (r_ : Unit) : Value := .tuple #[]
noncomputable def ZaN.F1 (a0 : (Option Addr)) : LF Bool Unit := ⟨[.inBlock 0], c1 (c2 ZaN.B), fun s_ => [(0, .pointer a0), (2, .bool s_)], fun s_ => [], (rt ZaN.out)⟩
noncomputable def ZaN.L1 (a0 : (Option Addr)) (s1 : Bool) : M (LS Bool Unit) :=
 (if s1 = true then
   nilck a0 >>= fun p2 =>
   ld (cI .i64) (Addr.add p2 19) >>= fun x3 =>
   pure (x3 == 0)
  else
   pure false) >>= fun y4 =>
 if y4 = true then
  ZbH a0 >>= fun r5 =>
  slot 87 >>= fun b6 =>
  ZaZ r5.Text >>= fun r7 =>
  if r7.1 < 0 then
   Za1 a0 160 r5.At >>= fun r9 =>
   pure (LS.done ())
  else
   nilck a0 >>= fun p10 =>
   ld (cI .i64) (Addr.add (Addr.add p10 2) 12) >>= fun x11 =>
   Zbp x11 r7.1 >>= fun r12 =>
   (if r12 = true then
     pure true
    else
     nilck a0 >>= fun p13 =>
     ld (cI .i64) (Addr.add (Addr.add p13 2) 13) >>= fun x14 =>
     Zbp x14 r7.1 >>= fun r15 =>
     pure r15) >>= fun y16 =>
   if y16 = true then
    Za1 a0 165 r5.At >>= fun r18 =>
    pure (LS.done ())
   else
    if r7.2 = true then
     draw >>= fun _ =>
     nilck a0 >>= fun p27 =>
     ld (cI .i64) (Addr.add (Addr.add p27 2) 13) >>= fun x28 =>
     chk (0 ≤ r7.1) >>= fun _ =>
     nilck a0 >>= fun p29 =>
     st (cI .i64) (Addr.add (Addr.add p29 2) 13) (IntKind.wrap .i64 (x28 + (IntKind.wrap .i64 (1 * 2 ^ min (Int.toNat r7.1) 64)))) >>= fun _ =>
     ZaE a0 str0 >>= fun r30 =>
     pure (LS.next r30)
    else
     draw >>= fun _ =>
     nilck a0 >>= fun p32 =>
     ld (cI .i64) (Addr.add (Addr.add p32 2) 12) >>= fun x33 =>
     chk (0 ≤ r7.1) >>= fun _ =>
     nilck a0 >>= fun p34 =>
     st (cI .i64) (Addr.add (Addr.add p34 2) 12) (IntKind.wrap .i64 (x33 + (IntKind.wrap .i64 (1 * 2 ^ min (Int.toNat r7.1) 64)))) >>= fun _ =>
     ZaE a0 str0 >>= fun r35 =>
     pure (LS.next r35)
 else
  pure (LS.done ())
theorem ZaN.L1_ok (a0 : (Option Addr)) : LJ ZaN.cx (ZaN.F1 a0) (fun s_ => ZaN.L1 a0 s_) := by
 rintro s1
 show SJ _ _ _ _ (ZaN.L1 a0 s1) _
 unfold ZaN.L1
 refine SJ.seq <| SJ.sr 8 <| J.j 2 5 .bool ?_ ?_ fun y4 => ?_
 ·exact J.n 1 fun p2 => J.l 1 Ty3 fun x3 => J.e 2
 ·exact J.e 6
 refine J.z 0 <| J.f ?_ ?_
 ·refine SJ.skip <| SJ.seq <| SJ.block (id := 1) <| SJ.sr 4 <| J.C 1 F57 (ZcG _) fun r5 => J.a 0 Ty87 fun b6 => J.s 0 0 rfl Ty87 (Upd.w r5) <| J.z 0 <| SJ.sr 8 <| J.k 1 0 rfl Ty9 (Za4 _) <| J.C 0 F61 (Zje _) fun r7 => J.z 5 <| SJ.seq <| SJ.sr 2 <| J.z 2 <| J.f ?_ ?_
  ·exact SJ.sr 4 <| J.k 2 0 rfl Ty3 (ZbK _) <| J.C 0 F42 (Zbg _ _ _) fun r9 => J.z 0 <| J.r
  refine SJ.skip <| SJ.seq <| SJ.sr 16 <| J.n 1 fun p10 => J.l 2 Ty3 fun x11 => J.C 1 F62 (Zg7 _ _) fun r12 => J.j 1 7 .bool ?_ ?_ fun y16 => ?_
  ·exact J.e 8
  ·exact J.n 1 fun p13 => J.l 2 Ty3 fun x14 => J.C 1 F62 (Zg7 _ _) fun r15 => J.e 1
  refine J.z 0 <| J.f ?_ ?_
  ·exact SJ.sr 4 <| J.k 2 0 rfl Ty3 (ZbK _) <| J.C 0 F42 (Zbg _ _ _) fun r18 => J.z 0 <| J.r
  refine SJ.skip <| SJ.sr 1 <| J.z 1 <| J.f ?_ ?_
  ·exact J.R 13 Zdz <| J.n 2 fun p27 => J.l 2 Ty3 fun x28 => J.g 1 <| OJ.shl (d := 58) (T := 3) (yT := 3) (y := .const (.int .i64 1)) (z := .tmp 57) (k := .i64) (yk := .i64) (p := 1) (q := r7.1) fun hq31 => J.n 1 fun p29 => J.w 2 Ty3 <| J.z 0 <| SJ.inBlock <| SJ.rg 3 <| J.C 1 F36 (ZaV _ _) fun r30 => J.z 1 <| SJ.forget (List.Sublist.cons _ List.Sublist.slnil) <| J.o rfl
  exact J.R 13 Zdz <| J.n 2 fun p32 => J.l 2 Ty3 fun x33 => J.g 1 <| OJ.shl (d := 70) (T := 3) (yT := 3) (y := .const (.int .i64 1)) (z := .tmp 69) (k := .i64) (yk := .i64) (p := 1) (q := r7.1) fun hq36 => J.n 1 fun p34 => J.w 2 Ty3 <| J.z 0 <| SJ.inBlock <| SJ.rg 3 <| J.C 1 F36 (ZaV _ _) fun r35 => J.z 1 <| SJ.forget (List.Sublist.cons _ List.Sublist.slnil) <| J.o rfl
 exact SJ.exit (id := 0) (by rfl) <| SJ.end_ rfl (Res.run (ys := []) .nil rfl)
noncomputable def ZaN (a0 : (Option Addr)) : M Unit :=
 Zci (fun s_ : Bool => ZaN.L1 a0 s_) true
theorem Zgj (a0 : (Option Addr)) : Ref Tryz.prog 46 [.pointer a0] (ZaN a0) ZaN.out := by
 refine J.Fn Tryz.func46 ?_
 unfold ZaN
 exact SJ.sr 1 <| J.z 1 <| SJ.block (id := 0) <| J.L (ZaN.L1_ok a0)
end Go.Proofs.YtmgbjiaognomhaaGreatDoor.Lx
