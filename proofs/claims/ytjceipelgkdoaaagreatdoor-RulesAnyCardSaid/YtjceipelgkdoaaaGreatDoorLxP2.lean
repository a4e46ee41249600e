/- Programs of the M-world for Go functions, each with the proof that the Go text does what it says. Printed by lxgen.py. -/
import Derived.Test.YtjceipelgkdoaaaGreatDoorLxT
import Derived.Test.YtjceipelgkdoaaaGreatDoorLxP0
import Derived.Test.YtjceipelgkdoaaaGreatDoorLxP1
set_option linter.unusedVariables false
set_option linter.unusedSimpArgs false
set_option linter.unusedSectionVars false
namespace Go.Proofs.YtjceipelgkdoaaaGreatDoor.Lx
open Go Go.Proofs
variable [Zdd]
/-! ### weir/weirlaw16.started: function 9 -/
noncomputable def ZbX.out (r_ : Bool) : Value := .bool r_
noncomputable def ZbX  : M Bool :=
 Zct >>= fun r1 =>
 slot 63 >>= fun b2 =>
 Zah r1.1 >>= fun r3 =>
 slot 63 >>= fun b4 =>
 Zcy r1.2 >>= fun r5 =>
 ZbY r3.2.1 >>= fun r6 =>
 (if r6 = 0 then
   pure (r3.2.2 == 0)
  else
   pure false) >>= fun y7 =>
 (if y7 = true then
   Zc9 r3.1 r1.2 >>= fun r8 =>
   pure r8
  else
   pure false) >>= fun y9 =>
 (if y9 = true then
   ZbY r5.2 >>= fun r10 =>
   pure (r10 == 0)
  else
   pure false) >>= fun y11 =>
 (if y11 = true then
   pure (r5.1.toList == r1.1.toList)
  else
   pure false) >>= fun y12 =>
 (if y12 = true then
   ZaS r1.2 >>= fun r13 =>
   ZbY r13 >>= fun r14 =>
   pure (r14 == 0)
  else
   pure false) >>= fun y15 =>
 pure y15
theorem Ze0  : Ref Tryz.prog 9 [] (ZbX) ZbX.out := by
 refine J.Fn Tryz.func9 ?_
 unfold ZbX
 refine SJ.sr 1 <| J.z 1 <| SJ.sr 7 <| J.C 0 F14 Ziw fun r1 => J.a 3 Ty63 fun b2 => J.s 1 0 rfl Ty63 (Upd.w r1.2) <| J.z 0 <| SJ.sr 10 <| J.C 1 F15 (Zh6 _) fun r3 => J.a 4 Ty63 fun b4 => J.s 0 0 rfl Ty63 (Upd.w r3.1) <| J.z 2 <| SJ.sr 7 <| J.k 0 1 rfl Ty63 (At.whole _) <| J.C 0 F16 (Zh5 _) fun r5 => J.z 5 <| SJ.sr 29 <| J.C 1 F7 (ZcY _) fun r6 => J.j 2 2 .bool ?_ ?_ fun y7 => ?_
 ·exact J.e 3
 ·exact J.e 3
 refine J.j 1 3 .bool ?_ ?_ fun y9 => ?_
 ·exact J.k 0 0 rfl Ty63 (At.whole _) <| J.k 0 1 rfl Ty63 (At.whole _) <| J.C 0 F17 (Ziv _ _) fun r8 => J.e 1
 ·exact J.e 4
 refine J.j 1 3 .bool ?_ ?_ fun y11 => ?_
 ·exact J.C 1 F7 (ZcY _) fun r10 => J.e 2
 ·exact J.e 4
 refine J.j 1 3 .bool ?_ ?_ fun y12 => ?_
 ·exact J.e 4
 ·exact J.e 4
 refine J.j 1 4 .bool ?_ ?_ fun y15 => ?_
 ·exact J.k 0 1 rfl Ty63 (At.whole _) <| J.C 0 F10 (ZfK _) fun r13 => J.C 0 F7 (ZcY _) fun r14 => J.e 2
 ·exact J.e 5
 exact J.z 1 <| J.r

/-! ### weir/weirlaw16.RulesAny: function 4 -/
noncomputable def ZaO.B : Code := bod Tryz.f4
noncomputable def ZaO.cx : Fx := ⟨Tryz.prog, 4, Tryz.f4, none⟩
noncomputable def ZaO.out (r_ : Bool) : Value := .bool r_
noncomputable def ZaO.F1 (a1 : Int) (a2 : Zas) (b2 : Nat) (b14 : Nat) (r23 : ZaX) : LF Int Bool := ⟨[.inBlock 0, .code (c2 (c2 (c2 (c2 (c2 (c2 (c2 (c2 (c2 (c2 (c2 (c2 (c2 (c2 (c2 (c2 (c2 ZaO.B)))))))))))))))))], c1 (c2 (c1 (c2 (c2 (c2 (c2 (c2 (c2 (c2 (c2 (c2 (c2 (c2 (c2 (c2 (c2 (c2 (c2 ZaO.B)))))))))))))))))), fun s_ => [(1, .int .i64 a1), (5, .pointer (some (pt b2 0))), (13, Sl.v (⟨some (pt b14 0), 7, 7⟩ : Sl)), (14, .bool (r23.Rule == 0)), (15, .int .i64 s_)], fun s_ => [(b2, ZaB.enc a2)], (rt ZaO.out)⟩
noncomputable def ZaO.L1 (a1 : Int) (a2 : Zas) (b14 : Nat) (r23 : ZaX) (s24 : Int) : M (LS Int Bool) :=
 if s24 < ((⟨some (pt b14 0), 7, 7⟩ : Sl).len : Int) then
  idx (⟨some (pt b14 0), 7, 7⟩ : Sl).a (⟨some (pt b14 0), 7, 7⟩ : Sl).len s24 16 >>= fun p37 =>
  ld Zai p37 >>= fun x38 =>
  newv 63 (Zai.arr 1) (⟨[x38], rfl⟩ : Vec Zaf 1) >>= fun b39 =>
  ZbB (⟨some (pt b39 0), 1, 1⟩ : Sl) >>= fun r40 =>
  (if r40.1 = none then
    pure true
   else
    ZbY r40.2.1 >>= fun r41 =>
    pure (r41 != 0)) >>= fun y42 =>
  if y42 = true then
   pure (LS.done false)
  else
   (if r23.Rule = 0 then
     ZaR r40.1 a1 a2 >>= fun r43 =>
     pure (r43.Rule != 0)
    else
     pure false) >>= fun y44 =>
   if y44 = true then
    pure (LS.done false)
   else
    pure (LS.next (IntKind.wrap .i64 (s24 + 1)))
 else
  ZbX >>= fun r47 =>
  pure (LS.done r47)
theorem ZaO.L1_ok (a1 : Int) (a2 : Zas) (b2 : Nat) (b14 : Nat) (r23 : ZaX) : LJ ZaO.cx (ZaO.F1 a1 a2 b2 b14 r23) (fun s_ => ZaO.L1 a1 a2 b14 r23 s_) := by
 rintro s24
 show SJ _ _ _ _ (ZaO.L1 a1 a2 b14 r23 s24) _
 unfold ZaO.L1
 refine SJ.seq <| SJ.sr 4 <| J.z 4 <| J.f ?_ ?_
 ·refine SJ.skip <| SJ.seq <| SJ.block (id := 1) <| SJ.sr 13 <| J.i 2 fun p37 => J.l 0 Ty63 fun x38 => J.N 0 Ty63 fun b39 => J.C 0 F6 (ZgJ _) fun r40 => J.z 7 <| SJ.seq <| SJ.sr 7 <| J.j 3 3 .bool ?_ ?_ fun y42 => ?_
  ·exact J.e 4
  ·exact J.C 1 F7 (ZcY _) fun r41 => J.e 2
  refine J.z 0 <| J.f ?_ ?_
  ·exact SJ.sr 1 <| J.z 1 <| J.r
  refine SJ.skip <| SJ.sr 9 <| J.j 2 6 .bool ?_ ?_ fun y44 => ?_
  ·exact J.k 2 0 rfl Ty47 (At.whole _) <| J.C 0 F8 (Zep _ _ _) fun r43 => OJ.field (d := 131) (S := 54) (f := 2) (T := 3) (y := .tmp 130) (o := 2) (l := ZbC.enc r43) (cd := (cI .i64)) r43.Rule Ty3 (ZdD r43) <| J.e 2
  ·exact J.e 7
  refine J.z 0 <| J.f ?_ ?_
  ·exact SJ.sr 1 <| J.z 1 <| J.r
  exact SJ.skip <| SJ.inBlock <| SJ.rg 3 <| J.z 3 <| J.o rfl
 exact SJ.exit (id := 0) (by rfl) <| SJ.sr 2 <| J.C 0 F9 Ze0 fun r47 => J.z 1 <| J.r
noncomputable def ZaO (a0 : Zaf) (a1 : Int) (a2 : Zas) : M Bool :=
 slot 63 >>= fun b1 =>
 slot 47 >>= fun b2 =>
 newv 63 (Zai.arr 1) (⟨[(⟨a0.Act, a0.Class, Zaq.Kind, Zaq.Proto, Zaq.In, Zaq.Vid, Zaq.From, Zaq.To, Zaq.Set, Zaq.Clear, Zaq.Type_, Zaq.Pieces⟩ : Zaf)], rfl⟩ : Vec Zaf 1) >>= fun b3 =>
 ZbB (⟨some (pt b3 0), 1, 1⟩ : Sl) >>= fun r4 =>
 draw >>= fun _ =>
 ZbY r4.2.1 >>= fun r5 =>
 (if r5 = 0 then
   (if r4.1 = none then
     pure true
    else
     ZaR r4.1 a1 a2 >>= fun r6 =>
     pure (!eqv r6 (⟨a0.Act, a0.Class, Zdt.Rule⟩ : ZaX))) >>= fun y7 =>
   pure y7
  else
   pure false) >>= fun y8 =>
 if y8 = true then
  pure false
 else
  newv 63 (Zai.arr 1) (⟨[a0], rfl⟩ : Vec Zaf 1) >>= fun b9 =>
  ZbB (⟨some (pt b9 0), 1, 1⟩ : Sl) >>= fun r10 =>
  ZbY r10.2.1 >>= fun r11 =>
  if r11 ≠ 0 then
   ZbX >>= fun r13 =>
   pure r13
  else
   if r10.1 = none then
    pure false
   else
    newv 63 (Zai.arr 7) (⟨[a0, a0, a0, a0, a0, a0, a0], rfl⟩ : Vec Zaf 7) >>= fun b14 =>
    idx (⟨some (pt b14 0), 7, 7⟩ : Sl).a (⟨some (pt b14 0), 7, 7⟩ : Sl).len 0 16 >>= fun p15 =>
    st (cI .i64) (Addr.add p15 4) 0 >>= fun _ =>
    idx (⟨some (pt b14 0), 7, 7⟩ : Sl).a (⟨some (pt b14 0), 7, 7⟩ : Sl).len 1 16 >>= fun p16 =>
    st (cI .i64) (Addr.add p16 5) 0 >>= fun _ =>
    idx (⟨some (pt b14 0), 7, 7⟩ : Sl).a (⟨some (pt b14 0), 7, 7⟩ : Sl).len 2 16 >>= fun p17 =>
    st ZaA (Addr.add p17 6) ZaM >>= fun _ =>
    idx (⟨some (pt b14 0), 7, 7⟩ : Sl).a (⟨some (pt b14 0), 7, 7⟩ : Sl).len 3 16 >>= fun p18 =>
    st ZaA (Addr.add p18 9) ZaM >>= fun _ =>
    idx (⟨some (pt b14 0), 7, 7⟩ : Sl).a (⟨some (pt b14 0), 7, 7⟩ : Sl).len 4 16 >>= fun p19 =>
    st (cI .i64) (Addr.add p19 12) 0 >>= fun _ =>
    idx (⟨some (pt b14 0), 7, 7⟩ : Sl).a (⟨some (pt b14 0), 7, 7⟩ : Sl).len 4 16 >>= fun p20 =>
    st (cI .i64) (Addr.add p20 13) 0 >>= fun _ =>
    idx (⟨some (pt b14 0), 7, 7⟩ : Sl).a (⟨some (pt b14 0), 7, 7⟩ : Sl).len 5 16 >>= fun p21 =>
    st (cI .i64) (Addr.add p21 14) 0 >>= fun _ =>
    idx (⟨some (pt b14 0), 7, 7⟩ : Sl).a (⟨some (pt b14 0), 7, 7⟩ : Sl).len 6 16 >>= fun p22 =>
    st cB (Addr.add p22 15) false >>= fun _ =>
    ZaR r10.1 a1 a2 >>= fun r23 =>
    ZcX (fun s_ : Int => ZaO.L1 a1 a2 b14 r23 s_) 0
theorem ZgB (a0 : Zaf) (a1 : Int) (a2 : Zas) : Ref Tryz.prog 4 [Zai.val a0, .int .i64 a1, ZaB.val a2] (ZaO a0 a1 a2) ZaO.out := by
 refine J.Fn Tryz.func4 ?_
 unfold ZaO
 refine SJ.sr 3 <| J.b 0 Zai a0 fun b1 => J.b 0 ZaB a2 fun b2 => J.z 1 <| SJ.sr 14 <| J.k 1 1 rfl Ty3 (ZbH _) <| J.k 1 1 rfl Ty3 (Zb3 _) <| J.u 0 Ty63 (.f 0 (Zdk _ a0.Act) (.f 1 (ZeH _ a0.Class) .nil)) <| J.N 0 Ty63 fun b3 => J.C 0 F6 (ZgJ _) fun r4 => J.z 7 <| SJ.seq <| SJ.seq <| J.D [0, 1, 2, 3, 4, 5, 6, 7, 8, 9, 11, 12, 13, 14, 10, 15, 16, 17, 18] ZcW <| J.C 1 F7 (ZcY _) fun r5 => J.g 2 <| OJ.join (b := (r5 == 0)) [4, 5, 6, 7, 8, 9, 11, 12, 13, 14, 10, 15, 16, 17, 18] [] [1, 3, 5, 48] (fun y8 => [(1, .int .i64 a1), (3, .pointer (some (pt b1 0))), (5, .pointer (some (pt b2 0))), (48, .bool y8)]) [] [9, 12, 14] (t := 33) beq_iff_eq (fun hp_ => ?_) (fun hp_ => ?_) (fun _ _ _ _ _ _ h_ => h_) fun y8 => ?_
 ·refine J.g 3 <| OJ.join (b := (Option.isNone r4.1)) [7, 8, 9, 11, 12, 13, 14, 10, 15, 16, 17] [18] [1, 3, 5, 33, 47] (fun y7 => [(1, .int .i64 a1), (3, .pointer (some (pt b1 0))), (5, .pointer (some (pt b2 0))), (33, .bool true), (47, .bool y7)]) [] [9, 12, 14] (t := 36) Option.isNone_iff_eq_none (fun hp_ => ?_) (fun hp_ => ?_) (fun _ _ _ _ _ hq_ h_ => ⟨fun e_ he_ => by rcases hq_ e_ he_ with h | h; exact h_.1 e_ h; exact .inr ((by decide : ∀ i ∈ [9, 12, 14], i ∈ [9, 12, 14]) _ h), h_.2⟩) fun y7 => ?_
  ·exact J.g 11 <| OJ.nil ⟨(Cov.mem Cov.nil), rfl, _, rfl, by kernel_rfl⟩
  ·exact J.k 2 0 rfl Ty47 (At.whole _) <| J.k 1 1 rfl Ty3 (ZbH _) <| J.k 1 1 rfl Ty3 (Zb3 _) <| OJ.call (d := 40) (g := 8) (ats := #[48, 3, 47]) (args := [.tmp 37, .tmp 38, .tmp 39]) (owed := [⟨14, 3, (pt b1 1), (cI .i64).val a0.Class⟩, ⟨12, 3, (pt b1 0), (cI .i64).val a0.Act⟩]) F8 (Zep r4.1 a1 a2) fun r6 => OW.known (j := 1) (q := a0.Class) Ty3 rfl (Zb3 a0) <| OW.known (j := 1) (q := a0.Act) Ty3 rfl (ZbH a0) <| OW.nil <| J.u 0 Ty54 (.f 0 (Zev _ a0.Act) (.f 1 (Ze4 _ a0.Class) .nil)) <| OJ.neq (d := 46) (T := 54) (yT := 54) (y := .tmp 40) (z := .tmp 45) (cd := ZbC) (p := r6) (q := (⟨a0.Act, a0.Class, Zdt.Rule⟩ : ZaX)) rfl Eq54 <| J.g 1 <| OJ.nil ⟨(Cov.mem (Cov.drop (List.mem_of_getElem? (i := 2) rfl) (Cov.drop (List.mem_of_getElem? (i := 1) rfl) (Cov.drop (List.mem_of_getElem? (i := 0) rfl) Cov.nil)))), rfl, _, rfl, by kernel_rfl⟩
  exact J.g 1 <| OJ.nil ⟨(Cov.mem Cov.nil), rfl, _, rfl, by kernel_rfl⟩
 ·exact J.g 15 <| OJ.nil ⟨(Cov.mem Cov.nil), rfl, _, rfl, by kernel_rfl⟩
 refine J.z 0 <| J.f ?_ ?_
 ·exact SJ.sr 1 <| J.z 1 <| J.r
 refine SJ.skip <| SJ.sr 10 <| J.k 0 1 rfl Ty63 (At.whole _) <| J.N 0 Ty63 fun b9 => J.C 0 F6 (ZgJ _) fun r10 => J.z 7 <| SJ.seq <| SJ.sr 3 <| J.C 1 F7 (ZcY _) fun r11 => J.z 1 <| J.f ?_ ?_
 ·exact SJ.sr 2 <| J.C 0 F9 Ze0 fun r13 => J.z 1 <| J.r
 refine SJ.skip <| SJ.seq <| SJ.sr 2 <| J.z 2 <| J.f ?_ ?_
 ·exact SJ.sr 1 <| J.z 1 <| J.r
 exact SJ.skip <| SJ.sr 9 <| J.k 0 1 rfl Ty63 (At.whole _) <| J.k 0 1 rfl Ty63 (At.whole _) <| J.k 0 1 rfl Ty63 (At.whole _) <| J.k 0 1 rfl Ty63 (At.whole _) <| J.k 0 1 rfl Ty63 (At.whole _) <| J.k 0 1 rfl Ty63 (At.whole _) <| J.k 0 1 rfl Ty63 (At.whole _) <| J.N 0 Ty63 fun b14 => J.z 1 <| SJ.sr 4 <| J.i 1 fun p15 => J.w 1 Ty3 <| J.z 0 <| SJ.sr 4 <| J.i 1 fun p16 => J.w 1 Ty3 <| J.z 0 <| SJ.sr 5 <| J.u 1 Ty61 .nil <| J.i 0 fun p17 => J.w 1 Ty61 <| J.z 0 <| SJ.sr 5 <| J.u 1 Ty61 .nil <| J.i 0 fun p18 => J.w 1 Ty61 <| J.z 0 <| SJ.sr 4 <| J.i 1 fun p19 => J.w 1 Ty3 <| J.z 0 <| SJ.sr 4 <| J.i 1 fun p20 => J.w 1 Ty3 <| J.z 0 <| SJ.sr 4 <| J.i 1 fun p21 => J.w 1 Ty3 <| J.z 0 <| SJ.sr 4 <| J.i 1 fun p22 => J.w 1 Ty4 <| J.z 0 <| SJ.sr 7 <| J.k 2 0 rfl Ty47 (At.whole _) <| J.C 0 F8 (Zep _ _ _) fun r23 => OJ.field (d := 100) (S := 54) (f := 2) (T := 3) (y := .tmp 99) (o := 2) (l := ZbC.enc r23) (cd := (cI .i64)) r23.Rule Ty3 (ZdD r23) <| J.z 2 <| SJ.seq <| SJ.sr 1 <| J.z 1 <| SJ.block (id := 0) <| SJ.forget (List.Sublist.cons_cons _ (List.Sublist.cons _ List.Sublist.slnil)) <| J.L (ZaO.L1_ok a1 a2 b2 b14 r23)
end Go.Proofs.YtjceipelgkdoaaaGreatDoor.Lx
