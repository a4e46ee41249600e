/- Programs of the M-world for Go functions, each with the proof that the Go text does what it says. Printed by lxgen.py. -/
import Derived.Test.YtfgcobigollfjaaDoorLxT
set_option linter.unusedVariables false
set_option linter.unusedSimpArgs false
set_option linter.unusedSectionVars false
namespace Go.Proofs.YtfgcobigollfjaaDoor.Lx
open Go Go.Proofs
variable [ZbS]
/-! ### weir/route.New: function 9 -/
noncomputable def ZdA.out (r_ : (Option Addr)) : Value := .pointer r_
noncomputable def ZdA  : M (Option Addr) :=
 mkMap >>= fun b1 =>
 newv 81 Zcs (⟨(some b1)⟩ : Zdf) >>= fun b2 =>
 pure (some (pt b2 0))
theorem Zgc  : Ref Tryd.prog 9 [] (ZdA) ZdA.out := by
 refine J.Fn Tryd.func9 ?_
 unfold ZdA
 exact SJ.sr 1 <| J.z 1 <| SJ.sr 4 <| OJ.mkMap (d := 1) (t := 79) (owed := []) fun b1 => OW.nil <| J.u 0 Ty81 (.f 0 (ZeW _ (some b1)) .nil) <| J.B 0 fun b2 => J.z 1 <| J.r

/-! ### maps.Values[map[weir/api.Prefix]weir/api.Route,weir/api.Prefix,weir/api.Route]$1: function 59 -/
noncomputable def Zah.B : Code := bod Tryd.f59
noncomputable def Zah.cx : Fx := ⟨Tryd.prog, 59, Tryd.f59, none⟩
noncomputable def Zah.out (r_ : Unit) : Value := .tuple #[]
noncomputable def Zah.F1 (a0v : Any) (b2 : Nat) : LF Unit Unit := ⟨[.inBlock 0], c1 (c2 Zah.B), fun s_ => [(0, a0v.v), (6, .pointer (some (pt b2 0)))], fun s_ => [], (rt Zah.out)⟩
noncomputable def Zah.L1 (a0 : Zab → M Bool) (b2 : Nat) : M (LS Unit Unit) :=
 mnext b2 >>= fun r3 =>
 if r3.1 = true then
  mentry ZaA Zac b2 >>= fun r4 =>
  slot 32 >>= fun b5 =>
  a0 r4.2 >>= fun r6 =>
  if ¬ (r6 = true) then
   pure (LS.done ())
  else
   pure (LS.next ())
 else
  pure (LS.done ())
theorem Zah.L1_ok (a0v : Any) (a0 : Zab → M Bool) (h_a0 : ∀ (x0_ : Zab), RefV Tryd.prog a0v.v [Zac.val x0_] (a0 x0_) (fun r_ : Bool => .bool r_)) (b2 : Nat) : LJ Zah.cx (Zah.F1 a0v b2) (fun s_ => Zah.L1 a0 b2) := by
 rintro _
 show SJ _ _ _ _ (Zah.L1 a0 b2) _
 unfold Zah.L1
 refine SJ.sr 2 <| OJ.mnext (d := 7) (x := .tmp 6) (owed := []) fun r3 => OW.nil <| J.z 1 <| SJ.seq <| J.f ?_ ?_
 ·refine SJ.skip <| SJ.block (id := 1) <| SJ.sr 4 <| OJ.mentry (d := 9) (x := .tmp 6) (owed := []) fun r4 => OW.nil <| J.a 1 Ty32 fun b5 => J.s 0 0 rfl Ty32 (Upd.w r4.2) <| J.z 0 <| SJ.sr 4 <| J.k 1 0 rfl Ty32 (At.whole _) <| J.v 0 (h_a0 r4.2) fun r6 => J.z 1 <| J.f ?_ ?_
  ·exact J.r
  exact SJ.skip <| SJ.inBlock <| SJ.forget (List.Sublist.cons _ List.Sublist.slnil) <| J.o rfl
 exact SJ.exit (id := 0) (by rfl) <| SJ.end_ rfl (Res.run (ys := []) .nil rfl)
noncomputable def Zah (a0 : Zab → M Bool) (a1 : Addr) : M Unit :=
 ld cM a1 >>= fun x1 =>
 mrange x1 >>= fun b2 =>
 ZbR (fun s_ : Unit => Zah.L1 a0 b2) ()
theorem Za4 (a0v : Any) (a0 : Zab → M Bool) (h_a0 : ∀ (x0_ : Zab), RefV Tryd.prog a0v.v [Zac.val x0_] (a0 x0_) (fun r_ : Bool => .bool r_)) (a1 : Addr) : Ref Tryd.prog 59 [a0v.v, .pointer (some a1)] (Zah a0 a1) Zah.out := by
 refine J.Fn Tryd.func59 ?_
 unfold Zah
 exact SJ.sr 2 <| J.l 0 Ty79 fun x1 => OJ.mrange (d := 6) (T := 79) (kT := 30) (vT := 32) (x := .tmp 5) (owed := []) fun b2 => OW.nil <| J.z 0 <| SJ.block (id := 0) <| J.L (Zah.L1_ok a0v a0 h_a0 b2)

/-! ### maps.Values[map[weir/api.Prefix]weir/api.Route,weir/api.Prefix,weir/api.Route]: function 44 -/
noncomputable def ZaN.out (r_ : Any) : Value := r_.v
noncomputable def ZaN (a0 : (Option Nat)) : M Any :=
 newv 79 cM a0 >>= fun b1 =>
 pure ⟨.func (.func 59) #[] #[.pointer (some (pt b1 0))], rfl⟩
theorem ZbX (a0 : (Option Nat)) : Ref Tryd.prog 44 [.map a0] (ZaN a0) ZaN.out := by
 refine J.Fn Tryd.func44 ?_
 unfold ZaN
 exact SJ.sr 2 <| J.B 0 fun b1 => J.z 1 <| SJ.sr 2 <| J.z 2 <| J.r

/-! ### slices.AppendSeq[[]weir/api.Route,weir/api.Route]: function 64 -/
noncomputable def Zap.B : Code := bod Tryd.f64
noncomputable def Zap.out (r_ : Sl) : Value := Sl.v r_
noncomputable def Zap.rx (l_ : Nat) : Fx := ⟨Tryd.prog, 64, Tryd.f64, some l_⟩
noncomputable def Zap.it (f_ : Any) (y_ : Zab → M Bool) : M Unit :=
 (Zea f_.v).elim fail (fun q_ => if q_.1 = 59 then Zah y_ q_.2 else fail)
theorem Zap.it_ok (f_ yv_ : Any) (y_ : Zab → M Bool) (hy_ : ∀ x_, RefV Tryd.prog yv_.v [Zac.val x_] (y_ x_) Value.bool) : RefI Tryd.prog f_.v [yv_.v] (Zap.it f_ y_) (fun _ => .tuple #[]) := by
  intro v r v' e
  unfold Zap.it at e
  cases hf_ : Zea f_.v with
  | none => rw [hf_] at e; cases e
  | some q_ =>
    obtain ⟨g_, p0⟩ := q_
    rw [hf_] at e
    simp only [Option.elim] at e
    by_cases hg_ : g_ = 59
    · subst hg_
      rw [if_pos rfl] at e
      have h_ := RefI.of (first := []) (vals := [yv_.v]) (cap := [.pointer (some p0)]) F59 (Za4 yv_ y_ hy_ p0) v r v' e
      rw [Zdm hf_]
      exact h_
    rw [if_neg hg_] at e
    cases e
noncomputable def Zap.R1 (b1 : Nat) (l2 : Nat) (x3 : Zab) : M (Option Code) :=
 slot 32 >>= fun b8 =>
 begM l2 >>= fun _ =>
 ld cL (pt b1 0) >>= fun x9 =>
 slot 32 >>= fun b10 =>
 appl Zac 32 64 Zaa x9 [x3] >>= fun r11 =>
 st cL (pt b1 0) r11 >>= fun _ =>
 pure none
theorem Zap.R1_ok (a1 : Any) (b1 : Nat) (l2 : Nat) (rc_ : Loop) (ht_ : ZbS.tab l2 = some rc_) (x3 : Zab) :
  SJ (Zap.rx l2) [.code ((rfOf (c1 (c2 (c1 (c2 Zap.B))))).2.2.1), .beginRound, .code ((rfOf (c1 (c2 (c1 (c2 Zap.B))))).2.2.2)] [(7, Zac.val x3), (2, .pointer (some (pt b1 0))), (4, Sl.v Sl.nil), (6, a1.v)] [] (Zap.R1 b1 l2 x3) rdJ := by
 unfold Zap.R1
 exact SJ.rg 2 <| J.a 0 Ty32 fun b8 => J.s 0 0 rfl Ty32 (Upd.w x3) <| J.z 0 <| SJ.begin rfl ht_ <| SJ.block (id := 1) <| SJ.rg 5 <| J.l 0 Ty39 fun x9 => J.k 0 0 rfl Ty32 (At.whole _) <| J.S 0 [x3] Ty32 fun b10 => J.p 0 0 rfl Ty32 fun r11 => J.w 0 Ty39 <| J.z 0 <| SJ.inBlock <| SJ.forget (List.Sublist.cons _ (List.Sublist.cons _ List.Sublist.slnil)) <| J.o rfl
noncomputable def Zap (a0 : Sl) (a1 : Any) : M Sl :=
 newv 39 cL a0 >>= fun b1 =>
 rangeM (Zap.it a1) (fun l_ x_ => Zap.R1 b1 l_ x_) (onJ
  (ld cL (pt b1 0) >>= fun x12 =>
   pure x12)
  (fail)
  [])
theorem ZcY (a0 : Sl) (a1 : Any) : Ref Tryd.prog 64 [Sl.v a0, a1.v] (Zap a0 a1) Zap.out := by
 refine J.Fn Tryd.func64 ?_
 unfold Zap
 refine SJ.sr 2 <| J.B 0 fun b1 => J.z 1 <| SJ.seq <| SJ.sr 1 <| J.z 1 <| SJ.block (id := 0) <| SJ.less [2, 4, 6] (m' := [(2, .pointer (some (pt b1 0))), (4, Sl.v Sl.nil), (6, a1.v)]) <| SJ.rangeF (fo := .tmp 6) (fv := a1.v) (ps := [7]) (fun x_ => [Zac.val x_]) (fun _ => .tuple #[]) (fun L_ yv_ y_ hy_ => @Zap.it_ok L_ a1 yv_ y_ hy_) (fun L_ l_ rc_ ht_ x_ => @Zap.R1_ok L_ a1 b1 l_ rc_ ht_ x_) (SJ.onJ ?_ ?_ ?_)
 ·exact SJ.inBlock <| SJ.sr 2 <| J.l 0 Ty39 fun x12 => J.z 1 <| J.r
 ·exact SJ.fail
 exact SJ.exits0

/-! ### slices.Collect[weir/api.Route]: function 57 -/
noncomputable def ZbD.out (r_ : Sl) : Value := Sl.v r_
noncomputable def ZbD (a0 : Any) : M Sl :=
 Zap Sl.nil a0 >>= fun r1 =>
 pure r1
theorem ZdO (a0 : Any) : Ref Tryd.prog 57 [a0.v] (ZbD a0) ZbD.out := by
 refine J.Fn Tryd.func57 ?_
 unfold ZbD
 exact SJ.sr 1 <| J.z 1 <| SJ.sr 3 <| J.C 1 F64 (ZcY _ _) fun r1 => J.z 1 <| J.r

/-! ### math/bits.Len64: function 79 -/
noncomputable def Zbi.B : Code := bod Tryd.f79
noncomputable def Zbi.cx : Fx := ⟨Tryd.prog, 79, Tryd.f79, none⟩
noncomputable def Zbi.out (r_ : Int) : Value := .int .i64 r_
noncomputable def Zbi.K1 (j3 : Int) (j4 : Int) : M Int :=
 if j3 ≥ 256 then
  chk ((0 : Int) ≤ (IntKind.wrap .u8 (Int.fdiv j3 (2 ^ 8))) ∧ (IntKind.wrap .u8 (Int.fdiv j3 (2 ^ 8))) < (str0.size : Int)) >>= fun _ =>
  pure (IntKind.wrap .i64 ((IntKind.wrap .i64 (j4 + 8)) + (IntKind.wrap .i64 (sb str0 (IntKind.wrap .u8 (Int.fdiv j3 (2 ^ 8)))))))
 else
  chk ((0 : Int) ≤ (IntKind.wrap .u8 j3) ∧ (IntKind.wrap .u8 j3) < (str0.size : Int)) >>= fun _ =>
  pure (IntKind.wrap .i64 (j4 + (IntKind.wrap .i64 (sb str0 (IntKind.wrap .u8 j3)))))
theorem Zbi.K1_ok (j3 : Int) (j4 : Int) :
  SJ Zbi.cx [.code (c2 (c2 (c2 Zbi.B)))] [(0, .int .u64 j3), (2, .int .i64 j4)] [] (Zbi.K1 j3 j4) (rt Zbi.out) := by
 unfold Zbi.K1
 refine SJ.seq <| SJ.sr 2 <| J.z 2 <| J.f ?_ ?_
 ·exact SJ.sr 3 <| J.z 3 <| SJ.rg 3 <| J.z 3 <| SJ.sr 7 <| J.t 3 fun hb5 hb6 => J.z 3 <| J.r
 exact SJ.skip <| SJ.sr 7 <| J.t 3 fun hb7 hb8 => J.z 3 <| J.r
noncomputable def Zbi.K2 (j1 : Int) (j2 : Int) : M Int :=
 if j1 ≥ 65536 then
  Zbi.K1 (Int.fdiv j1 (2 ^ 16)) (IntKind.wrap .i64 (j2 + 16))
 else
  Zbi.K1 j1 j2
theorem Zbi.K2_ok (j1 : Int) (j2 : Int) :
  SJ Zbi.cx [.code (c2 (c2 Zbi.B))] [(0, .int .u64 j1), (2, .int .i64 j2)] [] (Zbi.K2 j1 j2) (rt Zbi.out) := by
 unfold Zbi.K2
 refine SJ.seq <| SJ.sr 2 <| J.z 2 <| J.f ?_ ?_
 ·exact SJ.sr 3 <| J.z 3 <| SJ.rg 3 <| J.z 3 <| J.q <| Zbi.K1_ok (Int.fdiv j1 (2 ^ 16)) (IntKind.wrap .i64 (j2 + 16))
 exact SJ.skip <| J.q <| Zbi.K1_ok j1 j2
noncomputable def Zbi (a0 : Int) : M Int :=
 if a0 ≥ 4294967296 then
  Zbi.K2 (Int.fdiv a0 (2 ^ 32)) 32
 else
  Zbi.K2 a0 0
theorem Zh4 (a0 : Int) : Ref Tryd.prog 79 [.int .u64 a0] (Zbi a0) Zbi.out := by
 refine J.Fn Tryd.func79 ?_
 unfold Zbi
 refine SJ.sr 1 <| J.z 1 <| SJ.seq <| SJ.sr 2 <| J.z 2 <| J.f ?_ ?_
 ·exact SJ.sr 3 <| J.z 3 <| SJ.rg 1 <| J.z 1 <| J.q <| Zbi.K2_ok (Int.fdiv a0 (2 ^ 32)) 32
 exact SJ.skip <| J.q <| Zbi.K2_ok a0 0

/-! ### math/bits.Len: function 66 -/
noncomputable def Zeb.out (r_ : Int) : Value := .int .i64 r_
noncomputable def Zeb (a0 : Int) : M Int :=
 Zbi a0 >>= fun r1 =>
 pure r1
theorem Zha (a0 : Int) : Ref Tryd.prog 66 [.int .u64 a0] (Zeb a0) Zeb.out := by
 refine J.Fn Tryd.func66 ?_
 unfold Zeb
 exact SJ.sr 1 <| J.z 1 <| SJ.seq <| SJ.cond0 (t := (.const (.bool false))) <| SJ.skip <| SJ.sr 3 <| J.C 1 F79 (Zh4 _) fun r1 => J.z 1 <| J.r

/-! ### slices.insertionSortCmpFunc[weir/api.Route]: function 70 -/
noncomputable def Zak.B : Code := bod Tryd.f70
noncomputable def Zak.cx : Fx := ⟨Tryd.prog, 70, Tryd.f70, none⟩
noncomputable def Zak.out (r_ : Unit) : Value := .tuple #[]
noncomputable def Zak.F1 (a0 : Sl) (a1 : Int) (a2 : Int) (a3v : Any) : LF Int Unit := ⟨[.inBlock 0], c1 (c2 Zak.B), fun s_ => [(0, Sl.v a0), (1, .int .i64 a1), (2, .int .i64 a2), (3, a3v.v), (8, .int .i64 s_)], fun s_ => [], (rt Zak.out)⟩
noncomputable def Zak.F2 (a0 : Sl) (a1 : Int) (a2 : Int) (a3v : Any) (s1 : Int) : LF Int (LS Int Unit) := ⟨[.inBlock 2, .inBlock 1, .code (c2 (c2 (c1 (c1 (c2 Zak.B))))), .inLoop (c1 (c1 (c2 Zak.B))), .inBlock 0], c1 (c2 (c1 (c1 (c2 (c1 (c1 (c2 Zak.B))))))), fun s_ => [(0, Sl.v a0), (1, .int .i64 a1), (2, .int .i64 a2), (3, a3v.v), (8, .int .i64 s1), (9, .int .i64 s_)], fun s_ => [], (Zak.F1 a0 a1 a2 a3v).f⟩
noncomputable def Zak.L2 (a0 : Sl) (a1 : Int) (a3 : Zab → Zab → M Int) (s1 : Int) (s2 : Int) : M (LS Int (LS Int Unit)) :=
 draw >>= fun _ =>
 (if s2 > a1 then
   idx a0.a a0.len s2 36 >>= fun p16 =>
   ld Zac p16 >>= fun x17 =>
   idx a0.a a0.len (IntKind.wrap .i64 (s2 - 1)) 36 >>= fun p18 =>
   ld Zac p18 >>= fun x19 =>
   a3 x17 x19 >>= fun r20 =>
   pure (decide (r20 < 0))
  else
   pure false) >>= fun y21 =>
 if y21 = true then
  draw >>= fun _ =>
  idx a0.a a0.len (IntKind.wrap .i64 (s2 - 1)) 36 >>= fun p22 =>
  ld Zac p22 >>= fun x23 =>
  idx a0.a a0.len s2 36 >>= fun p24 =>
  ld Zac p24 >>= fun x25 =>
  idx a0.a a0.len s2 36 >>= fun p26 =>
  st Zac p26 x23 >>= fun _ =>
  idx a0.a a0.len (IntKind.wrap .i64 (s2 - 1)) 36 >>= fun p27 =>
  st Zac p27 x25 >>= fun _ =>
  pure (LS.next (IntKind.wrap .i64 (s2 - 1)))
 else
  pure (LS.done (LS.next (IntKind.wrap .i64 (s1 + 1))))
theorem Zak.L2_ok (a0 : Sl) (a1 : Int) (a2 : Int) (a3v : Any) (a3 : Zab → Zab → M Int) (h_a3 : ∀ (x0_ : Zab), ∀ (x1_ : Zab), RefV Tryd.prog a3v.v [Zac.val x0_, Zac.val x1_] (a3 x0_ x1_) (fun r_ : Int => .int .i64 r_)) (s1 : Int) : LJ Zak.cx (Zak.F2 a0 a1 a2 a3v s1) (fun s_ => Zak.L2 a0 a1 a3 s1 s_) := by
 rintro s2
 show SJ _ _ _ _ (Zak.L2 a0 a1 a3 s1 s2) _
 unfold Zak.L2
 refine SJ.seq <| SJ.seq <| J.R 17 ZbO <| J.j 4 12 .bool ?_ ?_ fun y21 => ?_
 ·exact J.i 3 fun p16 => J.l 0 Ty32 fun x17 => J.i 3 fun p18 => J.l 0 Ty32 fun x19 => J.v 0 (h_a3 x17 x19) fun r20 => J.e 2
 ·exact J.e 13
 refine J.z 0 <| J.f ?_ ?_
 ·exact SJ.skip <| SJ.seq <| SJ.block (id := 3) <| J.R 18 ZbO <| J.i 8 fun p22 => J.l 0 Ty32 fun x23 => J.i 2 fun p24 => J.l 0 Ty32 fun x25 => J.i 0 fun p26 => J.w 0 Ty32 <| J.i 0 fun p27 => J.w 0 Ty32 <| J.z 0 <| SJ.inBlock <| SJ.rg 3 <| J.z 3 <| J.o rfl
 exact SJ.exit (id := 2) (by rfl) <| SJ.inBlock <| SJ.rg 3 <| J.z 3 <| J.o rfl
noncomputable def Zak.L1 (a0 : Sl) (a1 : Int) (a2 : Int) (a3 : Zab → Zab → M Int) (s1 : Int) : M (LS Int Unit) :=
 if s1 < a2 then
  ZbR (fun s_ : Int => Zak.L2 a0 a1 a3 s1 s_) s1
 else
  pure (LS.done ())
theorem Zak.L1_ok (a0 : Sl) (a1 : Int) (a2 : Int) (a3v : Any) (a3 : Zab → Zab → M Int) (h_a3 : ∀ (x0_ : Zab), ∀ (x1_ : Zab), RefV Tryd.prog a3v.v [Zac.val x0_, Zac.val x1_] (a3 x0_ x1_) (fun r_ : Int => .int .i64 r_)) : LJ Zak.cx (Zak.F1 a0 a1 a2 a3v) (fun s_ => Zak.L1 a0 a1 a2 a3 s_) := by
 rintro s1
 show SJ _ _ _ _ (Zak.L1 a0 a1 a2 a3 s1) _
 unfold Zak.L1
 refine SJ.seq <| SJ.sr 3 <| J.z 3 <| J.f ?_ ?_
 ·exact SJ.skip <| SJ.seq <| SJ.block (id := 1) <| SJ.sr 2 <| J.z 2 <| SJ.block (id := 2) <| J.L (Zak.L2_ok a0 a1 a2 a3v a3 h_a3 s1)
 exact SJ.exit (id := 0) (by rfl) <| SJ.end_ rfl (Res.run (ys := []) .nil rfl)
noncomputable def Zak (a0 : Sl) (a1 : Int) (a2 : Int) (a3 : Zab → Zab → M Int) : M Unit :=
 ZbR (fun s_ : Int => Zak.L1 a0 a1 a2 a3 s_) (IntKind.wrap .i64 (a1 + 1))
theorem ZcU (a0 : Sl) (a1 : Int) (a2 : Int) (a3v : Any) (a3 : Zab → Zab → M Int) (h_a3 : ∀ (x0_ : Zab), ∀ (x1_ : Zab), RefV Tryd.prog a3v.v [Zac.val x0_, Zac.val x1_] (a3 x0_ x1_) (fun r_ : Int => .int .i64 r_)) : Ref Tryd.prog 70 [Sl.v a0, .int .i64 a1, .int .i64 a2, a3v.v] (Zak a0 a1 a2 a3) Zak.out := by
 refine J.Fn Tryd.func70 ?_
 unfold Zak
 exact SJ.sr 3 <| J.z 3 <| SJ.block (id := 0) <| J.L (Zak.L1_ok a0 a1 a2 a3v a3 h_a3)

/-! ### slices.siftDownCmpFunc[weir/api.Route]: function 85 -/
noncomputable def Zan.B : Code := bod Tryd.f85
noncomputable def Zan.cx : Fx := ⟨Tryd.prog, 85, Tryd.f85, none⟩
noncomputable def Zan.out (r_ : Unit) : Value := .tuple #[]
noncomputable def Zan.F1 (a0 : Sl) (a2 : Int) (a3 : Int) (a4v : Any) : LF Int Unit := ⟨[.inBlock 0], c1 (c2 Zan.B), fun s_ => [(0, Sl.v a0), (2, .int .i64 a2), (3, .int .i64 a3), (4, a4v.v), (10, .int .i64 s_)], fun s_ => [], (rt Zan.out)⟩
noncomputable def Zan.K1 (a0 : Sl) (a3 : Int) (a4 : Zab → Zab → M Int) (s1 : Int) (j8 : Int) : M (LS Int Unit) :=
 draw >>= fun _ =>
 idx a0.a a0.len (IntKind.wrap .i64 (a3 + s1)) 36 >>= fun p9 =>
 ld Zac p9 >>= fun x10 =>
 idx a0.a a0.len (IntKind.wrap .i64 (a3 + j8)) 36 >>= fun p11 =>
 ld Zac p11 >>= fun x12 =>
 a4 x10 x12 >>= fun r13 =>
 if ¬ (r13 < 0) then
  pure (LS.done ())
 else
  draw >>= fun _ =>
  idx a0.a a0.len (IntKind.wrap .i64 (a3 + j8)) 36 >>= fun p14 =>
  ld Zac p14 >>= fun x15 =>
  idx a0.a a0.len (IntKind.wrap .i64 (a3 + s1)) 36 >>= fun p16 =>
  ld Zac p16 >>= fun x17 =>
  idx a0.a a0.len (IntKind.wrap .i64 (a3 + s1)) 36 >>= fun p18 =>
  st Zac p18 x15 >>= fun _ =>
  idx a0.a a0.len (IntKind.wrap .i64 (a3 + j8)) 36 >>= fun p19 =>
  st Zac p19 x17 >>= fun _ =>
  pure (LS.next j8)
theorem Zan.K1_ok (a0 : Sl) (a2 : Int) (a3 : Int) (a4v : Any) (a4 : Zab → Zab → M Int) (h_a4 : ∀ (x0_ : Zab), ∀ (x1_ : Zab), RefV Tryd.prog a4v.v [Zac.val x0_, Zac.val x1_] (a4 x0_ x1_) (fun r_ : Int => .int .i64 r_)) (s1 : Int) (j8 : Int) :
  SJ Zan.cx [.code (c2 (c2 (c2 (c1 (c1 (c1 (c2 Zan.B))))))), .inBlock 1, .inLoop (c1 (c1 (c2 Zan.B))), .inBlock 0] [(0, Sl.v a0), (2, .int .i64 a2), (3, .int .i64 a3), (4, a4v.v), (10, .int .i64 s1), (11, .int .i64 j8)] [] (Zan.K1 a0 a3 a4 s1 j8) (Zan.F1 a0 a2 a3 a4v).f := by
 unfold Zan.K1
 refine SJ.seq <| SJ.seq <| J.R 16 ZbO <| J.i 5 fun p9 => J.l 0 Ty32 fun x10 => J.i 4 fun p11 => J.l 0 Ty32 fun x12 => J.v 0 (h_a4 x10 x12) fun r13 => J.z 2 <| J.f ?_ ?_
 ·exact J.r
 exact SJ.skip <| SJ.seq <| J.R 24 ZbO <| J.i 12 fun p14 => J.l 0 Ty32 fun x15 => J.i 4 fun p16 => J.l 0 Ty32 fun x17 => J.i 0 fun p18 => J.w 0 Ty32 <| J.i 0 fun p19 => J.w 0 Ty32 <| J.z 0 <| SJ.rg 2 <| J.z 2 <| SJ.inBlock <| J.o rfl
noncomputable def Zan.L1 (a0 : Sl) (a2 : Int) (a3 : Int) (a4 : Zab → Zab → M Int) (s1 : Int) : M (LS Int Unit) :=
 if (IntKind.wrap .i64 ((IntKind.wrap .i64 (2 * s1)) + 1)) ≥ a2 then
  pure (LS.done ())
 else
  draw >>= fun _ =>
  (if (IntKind.wrap .i64 ((IntKind.wrap .i64 ((IntKind.wrap .i64 (2 * s1)) + 1)) + 1)) < a2 then
    idx a0.a a0.len (IntKind.wrap .i64 (a3 + (IntKind.wrap .i64 ((IntKind.wrap .i64 (2 * s1)) + 1)))) 36 >>= fun p2 =>
    ld Zac p2 >>= fun x3 =>
    idx a0.a a0.len (IntKind.wrap .i64 ((IntKind.wrap .i64 (a3 + (IntKind.wrap .i64 ((IntKind.wrap .i64 (2 * s1)) + 1)))) + 1)) 36 >>= fun p4 =>
    ld Zac p4 >>= fun x5 =>
    a4 x3 x5 >>= fun r6 =>
    pure (decide (r6 < 0))
   else
    pure false) >>= fun y7 =>
  if y7 = true then
   Zan.K1 a0 a3 a4 s1 (IntKind.wrap .i64 ((IntKind.wrap .i64 ((IntKind.wrap .i64 (2 * s1)) + 1)) + 1))
  else
   Zan.K1 a0 a3 a4 s1 (IntKind.wrap .i64 ((IntKind.wrap .i64 (2 * s1)) + 1))
theorem Zan.L1_ok (a0 : Sl) (a2 : Int) (a3 : Int) (a4v : Any) (a4 : Zab → Zab → M Int) (h_a4 : ∀ (x0_ : Zab), ∀ (x1_ : Zab), RefV Tryd.prog a4v.v [Zac.val x0_, Zac.val x1_] (a4 x0_ x1_) (fun r_ : Int => .int .i64 r_)) : LJ Zan.cx (Zan.F1 a0 a2 a3 a4v) (fun s_ => Zan.L1 a0 a2 a3 a4 s_) := by
 rintro s1
 show SJ _ _ _ _ (Zan.L1 a0 a2 a3 a4 s1) _
 unfold Zan.L1
 refine SJ.block (id := 1) <| SJ.sr 4 <| J.z 4 <| SJ.seq <| SJ.sr 3 <| J.z 3 <| J.f ?_ ?_
 ·exact SJ.exit (id := 0) (by rfl) <| SJ.end_ rfl (Res.run (ys := []) .nil rfl)
 refine SJ.skip <| SJ.seq <| SJ.seq <| J.R 22 ZbO <| J.j 5 16 .bool ?_ ?_ fun y7 => ?_
 ·exact J.i 5 fun p2 => J.l 0 Ty32 fun x3 => J.i 5 fun p4 => J.l 0 Ty32 fun x5 => J.v 0 (h_a4 x3 x5) fun r6 => J.e 2
 ·exact J.e 17
 refine J.z 0 <| J.f ?_ ?_
 ·exact SJ.rg 3 <| J.z 3 <| J.q <| Zan.K1_ok a0 a2 a3 a4v a4 h_a4 s1 (IntKind.wrap .i64 ((IntKind.wrap .i64 ((IntKind.wrap .i64 (2 * s1)) + 1)) + 1))
 exact SJ.skip <| J.q <| Zan.K1_ok a0 a2 a3 a4v a4 h_a4 s1 (IntKind.wrap .i64 ((IntKind.wrap .i64 (2 * s1)) + 1))
noncomputable def Zan (a0 : Sl) (a1 : Int) (a2 : Int) (a3 : Int) (a4 : Zab → Zab → M Int) : M Unit :=
 ZbR (fun s_ : Int => Zan.L1 a0 a2 a3 a4 s_) a1
theorem Zcj (a0 : Sl) (a1 : Int) (a2 : Int) (a3 : Int) (a4v : Any) (a4 : Zab → Zab → M Int) (h_a4 : ∀ (x0_ : Zab), ∀ (x1_ : Zab), RefV Tryd.prog a4v.v [Zac.val x0_, Zac.val x1_] (a4 x0_ x1_) (fun r_ : Int => .int .i64 r_)) : Ref Tryd.prog 85 [Sl.v a0, .int .i64 a1, .int .i64 a2, .int .i64 a3, a4v.v] (Zan a0 a1 a2 a3 a4) Zan.out := by
 refine J.Fn Tryd.func85 ?_
 unfold Zan
 exact SJ.sr 2 <| J.z 2 <| SJ.block (id := 0) <| J.L (Zan.L1_ok a0 a2 a3 a4v a4 h_a4)

/-! ### slices.heapSortCmpFunc[weir/api.Route]: function 71 -/
noncomputable def Zaj.B : Code := bod Tryd.f71
noncomputable def Zaj.cx : Fx := ⟨Tryd.prog, 71, Tryd.f71, none⟩
noncomputable def Zaj.out (r_ : Unit) : Value := .tuple #[]
noncomputable def Zaj.F1 (a0 : Sl) (a1 : Int) (a3v : Any) : LF Int Unit := ⟨[.inBlock 2], c1 (c2 (c2 (c2 (c2 (c2 Zaj.B))))), fun s_ => [(0, Sl.v a0), (3, a3v.v), (8, .int .i64 a1), (9, .int .i64 0), (12, .int .i64 s_)], fun s_ => [], (rt Zaj.out)⟩
noncomputable def Zaj.L1 (a0 : Sl) (a1 : Int) (a3 : Zab → Zab → M Int) (s4 : Int) : M (LS Int Unit) :=
 if s4 ≥ 0 then
  draw >>= fun _ =>
  idx a0.a a0.len (IntKind.wrap .i64 (a1 + s4)) 36 >>= fun p5 =>
  ld Zac p5 >>= fun x6 =>
  idx a0.a a0.len a1 36 >>= fun p7 =>
  ld Zac p7 >>= fun x8 =>
  idx a0.a a0.len a1 36 >>= fun p9 =>
  st Zac p9 x6 >>= fun _ =>
  idx a0.a a0.len (IntKind.wrap .i64 (a1 + s4)) 36 >>= fun p10 =>
  st Zac p10 x8 >>= fun _ =>
  Zan a0 0 s4 a1 a3 >>= fun r11 =>
  pure (LS.next (IntKind.wrap .i64 (s4 - 1)))
 else
  pure (LS.done ())
theorem Zaj.L1_ok (a0 : Sl) (a1 : Int) (a3v : Any) (a3 : Zab → Zab → M Int) (h_a3 : ∀ (x0_ : Zab), ∀ (x1_ : Zab), RefV Tryd.prog a3v.v [Zac.val x0_, Zac.val x1_] (a3 x0_ x1_) (fun r_ : Int => .int .i64 r_)) : LJ Zaj.cx (Zaj.F1 a0 a1 a3v) (fun s_ => Zaj.L1 a0 a1 a3 s_) := by
 rintro s4
 show SJ _ _ _ _ (Zaj.L1 a0 a1 a3 s4) _
 unfold Zaj.L1
 refine SJ.seq <| SJ.sr 2 <| J.z 2 <| J.f ?_ ?_
 ·exact SJ.skip <| SJ.seq <| SJ.block (id := 3) <| SJ.seq <| J.R 20 ZbO <| J.i 10 fun p5 => J.l 0 Ty32 fun x6 => J.i 2 fun p7 => J.l 0 Ty32 fun x8 => J.i 0 fun p9 => J.w 0 Ty32 <| J.i 0 fun p10 => J.w 0 Ty32 <| J.z 0 <| SJ.rg 6 <| J.C 5 F85 (Zcj a0 0 s4 a1 a3v a3 h_a3) fun r11 => J.z 0 <| SJ.inBlock <| SJ.rg 3 <| J.z 3 <| J.o rfl
 exact SJ.exit (id := 2) (by rfl) <| SJ.end_ rfl (Res.run (ys := []) .nil rfl)
noncomputable def Zaj.K1 (a0 : Sl) (a1 : Int) (a2 : Int) (a3 : Zab → Zab → M Int) : M Unit :=
 ZbR (fun s_ : Int => Zaj.L1 a0 a1 a3 s_) (IntKind.wrap .i64 ((IntKind.wrap .i64 (a2 - a1)) - 1))
theorem Zaj.K1_ok (a0 : Sl) (a1 : Int) (a2 : Int) (a3v : Any) (a3 : Zab → Zab → M Int) (h_a3 : ∀ (x0_ : Zab), ∀ (x1_ : Zab), RefV Tryd.prog a3v.v [Zac.val x0_, Zac.val x1_] (a3 x0_ x1_) (fun r_ : Int => .int .i64 r_)) :
  SJ Zaj.cx [.code (c2 (c2 (c2 (c2 Zaj.B))))] [(0, Sl.v a0), (3, a3v.v), (8, .int .i64 a1), (9, .int .i64 0), (10, .int .i64 (IntKind.wrap .i64 (a2 - a1)))] [] (Zaj.K1 a0 a1 a2 a3) (rt Zaj.out) := by
 unfold Zaj.K1
 exact SJ.sr 3 <| J.z 3 <| SJ.block (id := 2) <| J.L (Zaj.L1_ok a0 a1 a3v a3 h_a3)
noncomputable def Zaj.F2 (a0 : Sl) (a1 : Int) (a2 : Int) (a3v : Any) : LF Int Unit := ⟨[.inBlock 0, .code (c2 (c2 (c2 (c2 Zaj.B))))], c1 (c2 (c1 (c2 (c2 (c2 Zaj.B))))), fun s_ => [(0, Sl.v a0), (3, a3v.v), (8, .int .i64 a1), (9, .int .i64 0), (10, .int .i64 (IntKind.wrap .i64 (a2 - a1))), (11, .int .i64 s_)], fun s_ => [], (rt Zaj.out)⟩
noncomputable def Zaj.L2 (a0 : Sl) (a1 : Int) (a2 : Int) (a3 : Zab → Zab → M Int) (s1 : Int) : M (LS Int Unit) :=
 if s1 ≥ 0 then
  Zan a0 s1 (IntKind.wrap .i64 (a2 - a1)) a1 a3 >>= fun r13 =>
  pure (LS.next (IntKind.wrap .i64 (s1 - 1)))
 else
  (Zaj.K1 a0 a1 a2 a3) >>= fun b => pure (LS.done b)
theorem Zaj.L2_ok (a0 : Sl) (a1 : Int) (a2 : Int) (a3v : Any) (a3 : Zab → Zab → M Int) (h_a3 : ∀ (x0_ : Zab), ∀ (x1_ : Zab), RefV Tryd.prog a3v.v [Zac.val x0_, Zac.val x1_] (a3 x0_ x1_) (fun r_ : Int => .int .i64 r_)) : LJ Zaj.cx (Zaj.F2 a0 a1 a2 a3v) (fun s_ => Zaj.L2 a0 a1 a2 a3 s_) := by
 rintro s1
 show SJ _ _ _ _ (Zaj.L2 a0 a1 a2 a3 s1) _
 unfold Zaj.L2
 refine SJ.seq <| SJ.sr 2 <| J.z 2 <| J.f ?_ ?_
 ·exact SJ.skip <| SJ.seq <| SJ.block (id := 1) <| SJ.rg 6 <| J.C 5 F85 (Zcj a0 s1 (IntKind.wrap .i64 (a2 - a1)) a1 a3v a3 h_a3) fun r13 => J.z 0 <| SJ.inBlock <| SJ.rg 3 <| J.z 3 <| J.o rfl
 exact SJ.exit (id := 0) (by rfl) <| J.q <| SJ.done <| Zaj.K1_ok a0 a1 a2 a3v a3 h_a3
noncomputable def Zaj (a0 : Sl) (a1 : Int) (a2 : Int) (a3 : Zab → Zab → M Int) : M Unit :=
 ZbR (fun s_ : Int => Zaj.L2 a0 a1 a2 a3 s_) (IntKind.wrap .i64 (Int.tdiv (IntKind.wrap .i64 ((IntKind.wrap .i64 (a2 - a1)) - 1)) 2))
theorem Zde (a0 : Sl) (a1 : Int) (a2 : Int) (a3v : Any) (a3 : Zab → Zab → M Int) (h_a3 : ∀ (x0_ : Zab), ∀ (x1_ : Zab), RefV Tryd.prog a3v.v [Zac.val x0_, Zac.val x1_] (a3 x0_ x1_) (fun r_ : Int => .int .i64 r_)) : Ref Tryd.prog 71 [Sl.v a0, .int .i64 a1, .int .i64 a2, a3v.v] (Zaj a0 a1 a2 a3) Zaj.out := by
 refine J.Fn Tryd.func71 ?_
 unfold Zaj
 exact SJ.sr 2 <| J.z 2 <| SJ.sr 1 <| J.z 1 <| SJ.sr 4 <| J.z 4 <| SJ.seq <| SJ.sr 4 <| J.z 4 <| SJ.block (id := 0) <| J.L (Zaj.L2_ok a0 a1 a2 a3v a3 h_a3)

/-! ### slices.nextPowerOfTwo: function 86 -/
noncomputable def ZbE.out (r_ : Int) : Value := .int .u64 r_
noncomputable def ZbE (a0 : Int) : M Int :=
 Zeb (IntKind.wrap .u64 a0) >>= fun r1 =>
 chk (0 ≤ r1) >>= fun _ =>
 pure (IntKind.wrap .u64 (1 * 2 ^ min (Int.toNat r1) 64))
theorem Zem (a0 : Int) : Ref Tryd.prog 86 [.int .i64 a0] (ZbE a0) ZbE.out := by
 refine J.Fn Tryd.func86 ?_
 unfold ZbE
 exact SJ.sr 1 <| J.z 1 <| SJ.sr 5 <| J.C 2 F66 (Zha _) fun r1 => OJ.shl (d := 6) (T := 108) (yT := 3) (y := .const (.int .u64 1)) (z := .tmp 5) (k := .u64) (yk := .i64) (p := 1) (q := r1) fun hq2 => J.z 1 <| J.r

/-! ### (*slices.xorshift).Next: function 87 -/
noncomputable def ZbN.out (r_ : Int) : Value := .int .u64 r_
noncomputable def ZbN (a0 : (Option Addr)) : M Int :=
 draw >>= fun _ =>
 nilck a0 >>= fun p1 =>
 ld (cI .u64) p1 >>= fun x2 =>
 nilck a0 >>= fun p3 =>
 ld (cI .u64) p3 >>= fun x4 =>
 nilck a0 >>= fun p5 =>
 st (cI .u64) p5 (bxor .u64 x2 (IntKind.wrap .u64 (x4 * 2 ^ 13))) >>= fun _ =>
 draw >>= fun _ =>
 nilck a0 >>= fun p6 =>
 ld (cI .u64) p6 >>= fun x7 =>
 nilck a0 >>= fun p8 =>
 ld (cI .u64) p8 >>= fun x9 =>
 nilck a0 >>= fun p10 =>
 st (cI .u64) p10 (bxor .u64 x7 (Int.fdiv x9 (2 ^ 7))) >>= fun _ =>
 draw >>= fun _ =>
 nilck a0 >>= fun p11 =>
 ld (cI .u64) p11 >>= fun x12 =>
 nilck a0 >>= fun p13 =>
 ld (cI .u64) p13 >>= fun x14 =>
 nilck a0 >>= fun p15 =>
 st (cI .u64) p15 (bxor .u64 x12 (IntKind.wrap .u64 (x14 * 2 ^ 17))) >>= fun _ =>
 nilck a0 >>= fun p16 =>
 ld (cI .u64) p16 >>= fun x17 =>
 pure x17
theorem Zex (a0 : (Option Addr)) : Ref Tryd.prog 87 [.pointer a0] (ZbN a0) ZbN.out := by
 refine J.Fn Tryd.func87 ?_
 unfold ZbN
 exact SJ.sr 1 <| J.z 1 <| SJ.seq <| J.R 10 ZbO <| J.n 1 fun p1 => J.l 0 Zgr fun x2 => J.n 1 fun p3 => J.l 0 Zgr fun x4 => J.n 2 fun p5 => J.w 0 Zgr <| J.z 0 <| SJ.seq <| J.R 10 ZbO <| J.n 1 fun p6 => J.l 0 Zgr fun x7 => J.n 1 fun p8 => J.l 0 Zgr fun x9 => J.n 2 fun p10 => J.w 0 Zgr <| J.z 0 <| SJ.seq <| J.R 10 ZbO <| J.n 1 fun p11 => J.l 0 Zgr fun x12 => J.n 1 fun p13 => J.l 0 Zgr fun x14 => J.n 2 fun p15 => J.w 0 Zgr <| J.z 0 <| SJ.sr 4 <| J.n 1 fun p16 => J.l 0 Zgr fun x17 => J.z 1 <| J.r

/-! ### slices.breakPatternsCmpFunc[weir/api.Route]: function 72 -/
noncomputable def Zal.B : Code := bod Tryd.f72
noncomputable def Zal.cx : Fx := ⟨Tryd.prog, 72, Tryd.f72, none⟩
noncomputable def Zal.out (r_ : Unit) : Value := .tuple #[]
noncomputable def Zal.F1 (a0 : Sl) (a1 : Int) (a2 : Int) (b24 : Nat) (r25 : Int) : LF Int Unit := ⟨[.inBlock 0], c1 (c2 (c2 (c2 (c1 (c2 (c2 Zal.B)))))), fun s_ => [(0, Sl.v a0), (1, .int .i64 a1), (8, .int .i64 (IntKind.wrap .i64 (a2 - a1))), (9, .pointer (some (pt b24 0))), (10, .int .u64 r25), (11, .int .i64 s_)], fun s_ => [], (rt Zal.out)⟩
noncomputable def Zal.K1 (a0 : Sl) (a1 : Int) (s26 : Int) (j38 : Int) : M (LS Int Unit) :=
 draw >>= fun _ =>
 idx a0.a a0.len (IntKind.wrap .i64 (a1 + j38)) 36 >>= fun p39 =>
 ld Zac p39 >>= fun x40 =>
 idx a0.a a0.len s26 36 >>= fun p41 =>
 ld Zac p41 >>= fun x42 =>
 idx a0.a a0.len s26 36 >>= fun p43 =>
 st Zac p43 x40 >>= fun _ =>
 idx a0.a a0.len (IntKind.wrap .i64 (a1 + j38)) 36 >>= fun p44 =>
 st Zac p44 x42 >>= fun _ =>
 pure (LS.next (IntKind.wrap .i64 (s26 + 1)))
theorem Zal.K1_ok (a0 : Sl) (a1 : Int) (a2 : Int) (b24 : Nat) (r25 : Int) (s26 : Int) (j38 : Int) :
  SJ Zal.cx [.code (c2 (c2 (c1 (c1 (c2 (c1 (c1 (c2 (c2 (c2 (c1 (c2 (c2 Zal.B))))))))))))), .inBlock 1, .code (c2 (c2 (c1 (c1 (c2 (c2 (c2 (c1 (c2 (c2 Zal.B)))))))))), .inLoop (c1 (c1 (c2 (c2 (c2 (c1 (c2 (c2 Zal.B)))))))), .inBlock 0] [(0, Sl.v a0), (1, .int .i64 a1), (8, .int .i64 (IntKind.wrap .i64 (a2 - a1))), (9, .pointer (some (pt b24 0))), (10, .int .u64 r25), (11, .int .i64 s26), (12, .int .i64 j38)] [] (Zal.K1 a0 a1 s26 j38) (Zal.F1 a0 a1 a2 b24 r25).f := by
 unfold Zal.K1
 exact J.R 20 ZbO <| J.i 10 fun p39 => J.l 0 Ty32 fun x40 => J.i 2 fun p41 => J.l 0 Ty32 fun x42 => J.i 0 fun p43 => J.w 0 Ty32 <| J.i 0 fun p44 => J.w 0 Ty32 <| J.z 0 <| SJ.inBlock <| SJ.rg 3 <| J.z 3 <| J.o rfl
noncomputable def Zal.L1 (a0 : Sl) (a1 : Int) (a2 : Int) (b24 : Nat) (r25 : Int) (s26 : Int) : M (LS Int Unit) :=
 if s26 ≤ (IntKind.wrap .i64 ((IntKind.wrap .i64 (a1 + (IntKind.wrap .i64 ((IntKind.wrap .i64 (Int.tdiv (IntKind.wrap .i64 (a2 - a1)) 4)) * 2)))) + 1)) then
  ZbN (some (pt b24 0)) >>= fun r37 =>
  if (IntKind.wrap .i64 (band .u64 r37 (IntKind.wrap .u64 (r25 - 1)))) ≥ (IntKind.wrap .i64 (a2 - a1)) then
   Zal.K1 a0 a1 s26 (IntKind.wrap .i64 ((IntKind.wrap .i64 (band .u64 r37 (IntKind.wrap .u64 (r25 - 1)))) - (IntKind.wrap .i64 (a2 - a1))))
  else
   Zal.K1 a0 a1 s26 (IntKind.wrap .i64 (band .u64 r37 (IntKind.wrap .u64 (r25 - 1))))
 else
  pure (LS.done ())
theorem Zal.L1_ok (a0 : Sl) (a1 : Int) (a2 : Int) (b24 : Nat) (r25 : Int) : LJ Zal.cx (Zal.F1 a0 a1 a2 b24 r25) (fun s_ => Zal.L1 a0 a1 a2 b24 r25 s_) := by
 rintro s26
 show SJ _ _ _ _ (Zal.L1 a0 a1 a2 b24 r25 s26) _
 unfold Zal.L1
 refine SJ.seq <| SJ.sr 8 <| J.z 8 <| J.f ?_ ?_
 ·refine SJ.skip <| SJ.seq <| SJ.block (id := 1) <| SJ.sr 6 <| J.C 0 F87 (Zex _) fun r37 => J.z 5 <| SJ.seq <| SJ.sr 3 <| J.z 3 <| J.f ?_ ?_
  ·exact SJ.rg 4 <| J.z 4 <| J.q <| Zal.K1_ok a0 a1 a2 b24 r25 s26 (IntKind.wrap .i64 ((IntKind.wrap .i64 (band .u64 r37 (IntKind.wrap .u64 (r25 - 1)))) - (IntKind.wrap .i64 (a2 - a1))))
  exact SJ.skip <| J.q <| Zal.K1_ok a0 a1 a2 b24 r25 s26 (IntKind.wrap .i64 (band .u64 r37 (IntKind.wrap .u64 (r25 - 1))))
 exact SJ.exit (id := 0) (by rfl) <| SJ.end_ rfl (Res.run (ys := []) .nil rfl)
noncomputable def Zal (a0 : Sl) (a1 : Int) (a2 : Int) (a3 : Zab → Zab → M Int) : M Unit :=
 if (IntKind.wrap .i64 (a2 - a1)) ≥ 8 then
  newv 141 (cI .u64) 0 >>= fun b24 =>
  st (cI .u64) (pt b24 0) (IntKind.wrap .u64 (IntKind.wrap .i64 (a2 - a1))) >>= fun _ =>
  ZbE (IntKind.wrap .i64 (a2 - a1)) >>= fun r25 =>
  ZbR (fun s_ : Int => Zal.L1 a0 a1 a2 b24 r25 s_) (IntKind.wrap .i64 ((IntKind.wrap .i64 (a1 + (IntKind.wrap .i64 ((IntKind.wrap .i64 (Int.tdiv (IntKind.wrap .i64 (a2 - a1)) 4)) * 2)))) - 1))
 else
  pure ()
theorem ZcV (a0 : Sl) (a1 : Int) (a2 : Int) (a3v : Any) (a3 : Zab → Zab → M Int) (h_a3 : ∀ (x0_ : Zab), ∀ (x1_ : Zab), RefV Tryd.prog a3v.v [Zac.val x0_, Zac.val x1_] (a3 x0_ x1_) (fun r_ : Int => .int .i64 r_)) : Ref Tryd.prog 72 [Sl.v a0, .int .i64 a1, .int .i64 a2, a3v.v] (Zal a0 a1 a2 a3) Zal.out := by
 refine J.Fn Tryd.func72 ?_
 unfold Zal
 refine SJ.sr 4 <| J.z 4 <| SJ.sr 2 <| J.z 2 <| J.f ?_ ?_
 ·exact SJ.sr 4 <| J.A 2 Zgr fun b24 => J.w 0 Zgr <| J.z 0 <| SJ.sr 3 <| J.C 1 F86 (Zem _) fun r25 => J.z 1 <| SJ.sr 7 <| J.z 7 <| SJ.block (id := 0) <| J.L (Zal.L1_ok a0 a1 a2 b24 r25)
 exact SJ.skip <| SJ.end_ rfl (Res.run (ys := []) .nil rfl)

/-! ### slices.order2CmpFunc[weir/api.Route]: function 93 -/
noncomputable def Za7.out (r_ : (Int × Int)) : Value := .tuple #[.int .i64 r_.1, .int .i64 r_.2]
noncomputable def Za7 (a0 : Sl) (a1 : Int) (a2 : Int) (a3 : (Option Addr)) (a4 : Zab → Zab → M Int) : M (Int × Int) :=
 draw >>= fun _ =>
 idx a0.a a0.len a2 36 >>= fun p1 =>
 ld Zac p1 >>= fun x2 =>
 idx a0.a a0.len a1 36 >>= fun p3 =>
 ld Zac p3 >>= fun x4 =>
 a4 x2 x4 >>= fun r5 =>
 if r5 < 0 then
  nilck a3 >>= fun p9 =>
  ld (cI .i64) p9 >>= fun x10 =>
  nilck a3 >>= fun p11 =>
  st (cI .i64) p11 (IntKind.wrap .i64 (x10 + 1)) >>= fun _ =>
  pure (a2, a1)
 else
  pure (a1, a2)
theorem ZbU (a0 : Sl) (a1 : Int) (a2 : Int) (a3 : (Option Addr)) (a4v : Any) (a4 : Zab → Zab → M Int) (h_a4 : ∀ (x0_ : Zab), ∀ (x1_ : Zab), RefV Tryd.prog a4v.v [Zac.val x0_, Zac.val x1_] (a4 x0_ x1_) (fun r_ : Int => .int .i64 r_)) : Ref Tryd.prog 93 [Sl.v a0, .int .i64 a1, .int .i64 a2, .pointer a3, a4v.v] (Za7 a0 a1 a2 a3 a4) Za7.out := by
 refine J.Fn Tryd.func93 ?_
 unfold Za7
 refine SJ.sr 2 <| J.z 2 <| SJ.seq <| SJ.seq <| J.R 11 ZbO <| J.i 3 fun p1 => J.l 0 Ty32 fun x2 => J.i 2 fun p3 => J.l 0 Ty32 fun x4 => J.v 0 (h_a4 x2 x4) fun r5 => J.z 1 <| J.f ?_ ?_
 ·exact SJ.sr 6 <| J.n 1 fun p9 => J.l 0 Ty3 fun x10 => J.n 1 fun p11 => J.w 0 Ty3 <| J.z 0 <| SJ.sr 4 <| J.z 4 <| J.r
 exact SJ.skip <| SJ.sr 4 <| J.z 4 <| J.r

/-! ### slices.medianCmpFunc[weir/api.Route]: function 89 -/
noncomputable def Za8.out (r_ : Int) : Value := .int .i64 r_
noncomputable def Za8 (a0 : Sl) (a1 : Int) (a2 : Int) (a3 : Int) (a4 : (Option Addr)) (a5 : Zab → Zab → M Int) : M Int :=
 Za7 a0 a1 a2 a4 a5 >>= fun r1 =>
 Za7 a0 r1.2 a3 a4 a5 >>= fun r2 =>
 Za7 a0 r1.1 r2.1 a4 a5 >>= fun r3 =>
 pure r3.2
theorem ZbV (a0 : Sl) (a1 : Int) (a2 : Int) (a3 : Int) (a4 : (Option Addr)) (a5v : Any) (a5 : Zab → Zab → M Int) (h_a5 : ∀ (x0_ : Zab), ∀ (x1_ : Zab), RefV Tryd.prog a5v.v [Zac.val x0_, Zac.val x1_] (a5 x0_ x1_) (fun r_ : Int => .int .i64 r_)) : Ref Tryd.prog 89 [Sl.v a0, .int .i64 a1, .int .i64 a2, .int .i64 a3, .pointer a4, a5v.v] (Za8 a0 a1 a2 a3 a4 a5) Za8.out := by
 refine J.Fn Tryd.func89 ?_
 unfold Za8
 exact SJ.sr 1 <| J.z 1 <| SJ.sr 11 <| J.C 5 F93 (ZbU a0 a1 a2 a4 a5v a5 h_a5) fun r1 => J.z 5 <| SJ.sr 11 <| J.C 5 F93 (ZbU a0 r1.2 a3 a4 a5v a5 h_a5) fun r2 => J.z 5 <| SJ.sr 11 <| J.C 5 F93 (ZbU a0 r1.1 r2.1 a4 a5v a5 h_a5) fun r3 => J.z 5 <| SJ.sr 2 <| J.z 2 <| J.r

/-! ### slices.medianAdjacentCmpFunc[weir/api.Route]: function 88 -/
noncomputable def ZaW.out (r_ : Int) : Value := .int .i64 r_
noncomputable def ZaW (a0 : Sl) (a1 : Int) (a2 : (Option Addr)) (a3 : Zab → Zab → M Int) : M Int :=
 Za8 a0 (IntKind.wrap .i64 (a1 - 1)) a1 (IntKind.wrap .i64 (a1 + 1)) a2 a3 >>= fun r1 =>
 pure r1
theorem ZbB (a0 : Sl) (a1 : Int) (a2 : (Option Addr)) (a3v : Any) (a3 : Zab → Zab → M Int) (h_a3 : ∀ (x0_ : Zab), ∀ (x1_ : Zab), RefV Tryd.prog a3v.v [Zac.val x0_, Zac.val x1_] (a3 x0_ x1_) (fun r_ : Int => .int .i64 r_)) : Ref Tryd.prog 88 [Sl.v a0, .int .i64 a1, .pointer a2, a3v.v] (ZaW a0 a1 a2 a3) ZaW.out := by
 refine J.Fn Tryd.func88 ?_
 unfold ZaW
 exact SJ.sr 1 <| J.z 1 <| SJ.sr 10 <| J.C 8 F89 (ZbV a0 (IntKind.wrap .i64 (a1 - 1)) a1 (IntKind.wrap .i64 (a1 + 1)) a2 a3v a3 h_a3) fun r1 => J.z 1 <| J.r

/-! ### slices.choosePivotCmpFunc[weir/api.Route]: function 73 -/
noncomputable def Za9.out (r_ : (Int × Int)) : Value := .tuple #[.int .i64 r_.1, .int .i64 r_.2]
noncomputable def Za9 (a0 : Sl) (a1 : Int) (a2 : Int) (a3 : Zab → Zab → M Int) : M (Int × Int) :=
 newv 3 (cI .i64) 0 >>= fun b1 =>
 if (IntKind.wrap .i64 (a2 - a1)) ≥ 8 then
  if (IntKind.wrap .i64 (a2 - a1)) ≥ 50 then
   ZaW a0 (IntKind.wrap .i64 (a1 + (IntKind.wrap .i64 ((IntKind.wrap .i64 (Int.tdiv (IntKind.wrap .i64 (a2 - a1)) 4)) * 1)))) (some (pt b1 0)) a3 >>= fun r14 =>
   ZaW a0 (IntKind.wrap .i64 (a1 + (IntKind.wrap .i64 ((IntKind.wrap .i64 (Int.tdiv (IntKind.wrap .i64 (a2 - a1)) 4)) * 2)))) (some (pt b1 0)) a3 >>= fun r15 =>
   ZaW a0 (IntKind.wrap .i64 (a1 + (IntKind.wrap .i64 ((IntKind.wrap .i64 (Int.tdiv (IntKind.wrap .i64 (a2 - a1)) 4)) * 3)))) (some (pt b1 0)) a3 >>= fun r16 =>
   Za8 a0 r14 r15 r16 (some (pt b1 0)) a3 >>= fun r17 =>
   ld (cI .i64) (pt b1 0) >>= fun x18 =>
   if x18 = 0 then
    pure (r17, 1)
   else
    if x18 = 12 then
     pure (r17, 2)
    else
     pure (r17, 0)
  else
   Za8 a0 (IntKind.wrap .i64 (a1 + (IntKind.wrap .i64 ((IntKind.wrap .i64 (Int.tdiv (IntKind.wrap .i64 (a2 - a1)) 4)) * 1)))) (IntKind.wrap .i64 (a1 + (IntKind.wrap .i64 ((IntKind.wrap .i64 (Int.tdiv (IntKind.wrap .i64 (a2 - a1)) 4)) * 2)))) (IntKind.wrap .i64 (a1 + (IntKind.wrap .i64 ((IntKind.wrap .i64 (Int.tdiv (IntKind.wrap .i64 (a2 - a1)) 4)) * 3)))) (some (pt b1 0)) a3 >>= fun r22 =>
   ld (cI .i64) (pt b1 0) >>= fun x23 =>
   if x23 = 0 then
    pure (r22, 1)
   else
    if x23 = 12 then
     pure (r22, 2)
    else
     pure (r22, 0)
 else
  ld (cI .i64) (pt b1 0) >>= fun x28 =>
  if x28 = 0 then
   pure (IntKind.wrap .i64 (a1 + (IntKind.wrap .i64 ((IntKind.wrap .i64 (Int.tdiv (IntKind.wrap .i64 (a2 - a1)) 4)) * 2))), 1)
  else
   if x28 = 12 then
    pure (IntKind.wrap .i64 (a1 + (IntKind.wrap .i64 ((IntKind.wrap .i64 (Int.tdiv (IntKind.wrap .i64 (a2 - a1)) 4)) * 2))), 2)
   else
    pure (IntKind.wrap .i64 (a1 + (IntKind.wrap .i64 ((IntKind.wrap .i64 (Int.tdiv (IntKind.wrap .i64 (a2 - a1)) 4)) * 2))), 0)
theorem Zc1 (a0 : Sl) (a1 : Int) (a2 : Int) (a3v : Any) (a3 : Zab → Zab → M Int) (h_a3 : ∀ (x0_ : Zab), ∀ (x1_ : Zab), RefV Tryd.prog a3v.v [Zac.val x0_, Zac.val x1_] (a3 x0_ x1_) (fun r_ : Int => .int .i64 r_)) : Ref Tryd.prog 73 [Sl.v a0, .int .i64 a1, .int .i64 a2, a3v.v] (Za9 a0 a1 a2 a3) Za9.out := by
 refine J.Fn Tryd.func73 ?_
 unfold Za9
 refine SJ.sr 2 <| J.z 2 <| SJ.sr 4 <| J.z 4 <| SJ.sr 1 <| J.A 0 Ty3 fun b1 => J.z 0 <| SJ.sr 6 <| J.z 6 <| SJ.sr 6 <| J.z 6 <| SJ.sr 6 <| J.z 6 <| SJ.seq <| SJ.sr 2 <| J.z 2 <| J.f ?_ ?_
 ·refine SJ.seq <| SJ.sr 2 <| J.z 2 <| J.f ?_ ?_
  ·refine SJ.sr 5 <| J.C 3 F88 (ZbB a0 (IntKind.wrap .i64 (a1 + (IntKind.wrap .i64 ((IntKind.wrap .i64 (Int.tdiv (IntKind.wrap .i64 (a2 - a1)) 4)) * 1)))) (some (pt b1 0)) a3v a3 h_a3) fun r14 => J.z 1 <| SJ.sr 5 <| J.C 3 F88 (ZbB a0 (IntKind.wrap .i64 (a1 + (IntKind.wrap .i64 ((IntKind.wrap .i64 (Int.tdiv (IntKind.wrap .i64 (a2 - a1)) 4)) * 2)))) (some (pt b1 0)) a3v a3 h_a3) fun r15 => J.z 1 <| SJ.rg 5 <| J.C 3 F88 (ZbB a0 (IntKind.wrap .i64 (a1 + (IntKind.wrap .i64 ((IntKind.wrap .i64 (Int.tdiv (IntKind.wrap .i64 (a2 - a1)) 4)) * 3)))) (some (pt b1 0)) a3v a3 h_a3) fun r16 => J.z 1 <| SJ.rg 7 <| J.C 5 F89 (ZbV a0 r14 r15 r16 (some (pt b1 0)) a3v a3 h_a3) fun r17 => J.z 1 <| SJ.sr 1 <| J.l 0 Ty3 fun x18 => J.z 0 <| SJ.block (id := 0) <| SJ.sr 2 <| J.z 2 <| J.f ?_ ?_
   ·exact SJ.sr 3 <| J.z 3 <| J.r
   refine SJ.sr 2 <| J.z 2 <| J.f ?_ ?_
   ·exact SJ.sr 3 <| J.z 3 <| J.r
   exact SJ.sr 3 <| J.z 3 <| J.r
  refine SJ.skip <| SJ.rg 7 <| J.C 5 F89 (ZbV a0 (IntKind.wrap .i64 (a1 + (IntKind.wrap .i64 ((IntKind.wrap .i64 (Int.tdiv (IntKind.wrap .i64 (a2 - a1)) 4)) * 1)))) (IntKind.wrap .i64 (a1 + (IntKind.wrap .i64 ((IntKind.wrap .i64 (Int.tdiv (IntKind.wrap .i64 (a2 - a1)) 4)) * 2)))) (IntKind.wrap .i64 (a1 + (IntKind.wrap .i64 ((IntKind.wrap .i64 (Int.tdiv (IntKind.wrap .i64 (a2 - a1)) 4)) * 3)))) (some (pt b1 0)) a3v a3 h_a3) fun r22 => J.z 1 <| SJ.sr 1 <| J.l 0 Ty3 fun x23 => J.z 0 <| SJ.block (id := 0) <| SJ.sr 2 <| J.z 2 <| J.f ?_ ?_
  ·exact SJ.sr 3 <| J.z 3 <| J.r
  refine SJ.sr 2 <| J.z 2 <| J.f ?_ ?_
  ·exact SJ.sr 3 <| J.z 3 <| J.r
  exact SJ.sr 3 <| J.z 3 <| J.r
 refine SJ.skip <| SJ.sr 1 <| J.l 0 Ty3 fun x28 => J.z 0 <| SJ.block (id := 0) <| SJ.sr 2 <| J.z 2 <| J.f ?_ ?_
 ·exact SJ.sr 3 <| J.z 3 <| J.r
 refine SJ.sr 2 <| J.z 2 <| J.f ?_ ?_
 ·exact SJ.sr 3 <| J.z 3 <| J.r
 exact SJ.sr 3 <| J.z 3 <| J.r

/-! ### slices.reverseRangeCmpFunc[weir/api.Route]: function 74 -/
noncomputable def Zat.B : Code := bod Tryd.f74
noncomputable def Zat.cx : Fx := ⟨Tryd.prog, 74, Tryd.f74, none⟩
noncomputable def Zat.out (r_ : Unit) : Value := .tuple #[]
noncomputable def Zat.F1 (a0 : Sl) : LF (Int × Int) Unit := ⟨[.inBlock 0], c1 (c2 (c2 Zat.B)), fun s_ => [(0, Sl.v a0), (8, .int .i64 s_.1), (9, .int .i64 s_.2)], fun s_ => [], (rt Zat.out)⟩
noncomputable def Zat.L1 (a0 : Sl) (s1 : Int) (s2 : Int) : M (LS (Int × Int) Unit) :=
 if s1 < s2 then
  draw >>= fun _ =>
  idx a0.a a0.len s2 36 >>= fun p3 =>
  ld Zac p3 >>= fun x4 =>
  idx a0.a a0.len s1 36 >>= fun p5 =>
  ld Zac p5 >>= fun x6 =>
  idx a0.a a0.len s1 36 >>= fun p7 =>
  st Zac p7 x4 >>= fun _ =>
  idx a0.a a0.len s2 36 >>= fun p8 =>
  st Zac p8 x6 >>= fun _ =>
  pure (LS.next (IntKind.wrap .i64 (s1 + 1), IntKind.wrap .i64 (s2 - 1)))
 else
  pure (LS.done ())
theorem Zat.L1_ok (a0 : Sl) : LJ Zat.cx (Zat.F1 a0) (fun s_ => Zat.L1 a0 s_.1 s_.2) := by
 rintro ⟨s1, s2⟩
 show SJ _ _ _ _ (Zat.L1 a0 s1 s2) _
 unfold Zat.L1
 refine SJ.seq <| SJ.sr 3 <| J.z 3 <| J.f ?_ ?_
 ·exact SJ.skip <| SJ.block (id := 1) <| SJ.seq <| J.R 16 ZbO <| J.i 6 fun p3 => J.l 0 Ty32 fun x4 => J.i 2 fun p5 => J.l 0 Ty32 fun x6 => J.i 0 fun p7 => J.w 0 Ty32 <| J.i 0 fun p8 => J.w 0 Ty32 <| J.z 0 <| SJ.sr 3 <| J.z 3 <| SJ.rg 3 <| J.z 3 <| SJ.inBlock <| J.o rfl
 exact SJ.exit (id := 0) (by rfl) <| SJ.end_ rfl (Res.run (ys := []) .nil rfl)
noncomputable def Zat (a0 : Sl) (a1 : Int) (a2 : Int) (a3 : Zab → Zab → M Int) : M Unit :=
 ZbR (fun s_ : (Int × Int) => Zat.L1 a0 s_.1 s_.2) (a1, IntKind.wrap .i64 (a2 - 1))
theorem ZcX (a0 : Sl) (a1 : Int) (a2 : Int) (a3v : Any) (a3 : Zab → Zab → M Int) (h_a3 : ∀ (x0_ : Zab), ∀ (x1_ : Zab), RefV Tryd.prog a3v.v [Zac.val x0_, Zac.val x1_] (a3 x0_ x1_) (fun r_ : Int => .int .i64 r_)) : Ref Tryd.prog 74 [Sl.v a0, .int .i64 a1, .int .i64 a2, a3v.v] (Zat a0 a1 a2 a3) Zat.out := by
 refine J.Fn Tryd.func74 ?_
 unfold Zat
 exact SJ.sr 2 <| J.z 2 <| SJ.sr 3 <| J.z 3 <| SJ.block (id := 0) <| J.L (Zat.L1_ok a0)

/-! ### slices.partialInsertionSortCmpFunc[weir/api.Route]: function 75 -/
noncomputable def Zad.B : Code := bod Tryd.f75
noncomputable def Zad.cx : Fx := ⟨Tryd.prog, 75, Tryd.f75, none⟩
noncomputable def Zad.out (r_ : Bool) : Value := .bool r_
noncomputable def Zad.F1 (a0 : Sl) (a1 : Int) (a2 : Int) (a3v : Any) : LF (Int × Int) Bool := ⟨[.inBlock 0, .code (c2 (c2 (c2 Zad.B)))], c1 (c2 (c1 (c2 (c2 Zad.B)))), fun s_ => [(0, Sl.v a0), (1, .int .i64 a1), (2, .int .i64 a2), (3, a3v.v), (9, .int .i64 s_.1), (10, .int .i64 s_.2)], fun s_ => [], (rt Zad.out)⟩
noncomputable def Zad.K1 (s2 : Int) (s137 : Int) : M (LS (Int × Int) Bool) :=
 pure (LS.next (s137, IntKind.wrap .i64 (s2 + 1)))
theorem Zad.K1_ok (a0 : Sl) (a1 : Int) (a2 : Int) (a3v : Any) (s2 : Int) (s137 : Int) :
  SJ Zad.cx [.inBlock 1, .code (c2 (c2 (c1 (c1 (c2 (c1 (c2 (c2 Zad.B)))))))), .inLoop (c1 (c1 (c2 (c1 (c2 (c2 Zad.B)))))), .inBlock 0, .code (c2 (c2 (c2 Zad.B)))] [(0, Sl.v a0), (1, .int .i64 a1), (2, .int .i64 a2), (3, a3v.v), (9, .int .i64 s137), (10, .int .i64 s2)] [] (Zad.K1 s2 s137) (Zad.F1 a0 a1 a2 a3v).f := by
 unfold Zad.K1
 exact SJ.inBlock <| SJ.rg 3 <| J.z 3 <| J.o rfl
noncomputable def Zad.F2 (a0 : Sl) (a1 : Int) (a2 : Int) (a3v : Any) (s2 : Int) (s137 : Int) : LF Int (LS (Int × Int) Bool) := ⟨[.inBlock 6, .inBlock 1, .code (c2 (c2 (c1 (c1 (c2 (c1 (c2 (c2 Zad.B)))))))), .inLoop (c1 (c1 (c2 (c1 (c2 (c2 Zad.B)))))), .inBlock 0, .code (c2 (c2 (c2 Zad.B)))], c1 (c2 (c1 (c2 (c2 (c2 (c2 (c2 (c2 (c1 (c1 (c2 (c1 (c1 (c2 (c1 (c2 (c2 Zad.B))))))))))))))))), fun s_ => [(0, Sl.v a0), (1, .int .i64 a1), (2, .int .i64 a2), (3, a3v.v), (9, .int .i64 s137), (10, .int .i64 s2), (12, .int .i64 s_)], fun s_ => [], (Zad.F1 a0 a1 a2 a3v).f⟩
noncomputable def Zad.L2 (a0 : Sl) (a2 : Int) (a3 : Zab → Zab → M Int) (s2 : Int) (s137 : Int) (s205 : Int) : M (LS Int (LS (Int × Int) Bool)) :=
 if s205 < a2 then
  draw >>= fun _ =>
  idx a0.a a0.len s205 36 >>= fun p219 =>
  ld Zac p219 >>= fun x220 =>
  idx a0.a a0.len (IntKind.wrap .i64 (s205 - 1)) 36 >>= fun p221 =>
  ld Zac p221 >>= fun x222 =>
  a3 x220 x222 >>= fun r223 =>
  if ¬ (r223 < 0) then
   (Zad.K1 s2 s137) >>= fun b => pure (LS.done b)
  else
   draw >>= fun _ =>
   idx a0.a a0.len (IntKind.wrap .i64 (s205 - 1)) 36 >>= fun p224 =>
   ld Zac p224 >>= fun x225 =>
   idx a0.a a0.len s205 36 >>= fun p226 =>
   ld Zac p226 >>= fun x227 =>
   idx a0.a a0.len s205 36 >>= fun p228 =>
   st Zac p228 x225 >>= fun _ =>
   idx a0.a a0.len (IntKind.wrap .i64 (s205 - 1)) 36 >>= fun p229 =>
   st Zac p229 x227 >>= fun _ =>
   pure (LS.next (IntKind.wrap .i64 (s205 + 1)))
 else
  (Zad.K1 s2 s137) >>= fun b => pure (LS.done b)
theorem Zad.L2_ok (a0 : Sl) (a1 : Int) (a2 : Int) (a3v : Any) (a3 : Zab → Zab → M Int) (h_a3 : ∀ (x0_ : Zab), ∀ (x1_ : Zab), RefV Tryd.prog a3v.v [Zac.val x0_, Zac.val x1_] (a3 x0_ x1_) (fun r_ : Int => .int .i64 r_)) (s2 : Int) (s137 : Int) : LJ Zad.cx (Zad.F2 a0 a1 a2 a3v s2 s137) (fun s_ => Zad.L2 a0 a2 a3 s2 s137 s_) := by
 rintro s205
 show SJ _ _ _ _ (Zad.L2 a0 a2 a3 s2 s137 s205) _
 unfold Zad.L2
 refine SJ.seq <| SJ.sr 3 <| J.z 3 <| J.f ?_ ?_
 ·refine SJ.skip <| SJ.seq <| SJ.block (id := 7) <| SJ.seq <| SJ.seq <| J.R 13 ZbO <| J.i 3 fun p219 => J.l 0 Ty32 fun x220 => J.i 3 fun p221 => J.l 0 Ty32 fun x222 => J.v 0 (h_a3 x220 x222) fun r223 => J.z 2 <| J.f ?_ ?_
  ·exact SJ.exit (id := 6) (by rfl) <| J.q <| SJ.done <| Zad.K1_ok a0 a1 a2 a3v s2 s137
  exact SJ.skip <| J.R 18 ZbO <| J.i 8 fun p224 => J.l 0 Ty32 fun x225 => J.i 2 fun p226 => J.l 0 Ty32 fun x227 => J.i 0 fun p228 => J.w 0 Ty32 <| J.i 0 fun p229 => J.w 0 Ty32 <| J.z 0 <| SJ.inBlock <| SJ.rg 3 <| J.z 3 <| J.o rfl
 exact SJ.exit (id := 6) (by rfl) <| J.q <| SJ.done <| Zad.K1_ok a0 a1 a2 a3v s2 s137
noncomputable def Zad.K2 (a0 : Sl) (a2 : Int) (a3 : Zab → Zab → M Int) (s2 : Int) (s137 : Int) : M (LS (Int × Int) Bool) :=
 if (IntKind.wrap .i64 (a2 - s137)) ≥ 2 then
  ZbR (fun s_ : Int => Zad.L2 a0 a2 a3 s2 s137 s_) (IntKind.wrap .i64 (s137 + 1))
 else
  Zad.K1 s2 s137
theorem Zad.K2_ok (a0 : Sl) (a1 : Int) (a2 : Int) (a3v : Any) (a3 : Zab → Zab → M Int) (h_a3 : ∀ (x0_ : Zab), ∀ (x1_ : Zab), RefV Tryd.prog a3v.v [Zac.val x0_, Zac.val x1_] (a3 x0_ x1_) (fun r_ : Int => .int .i64 r_)) (s2 : Int) (s137 : Int) :
  SJ Zad.cx [.code (c2 (c2 (c2 (c2 (c2 (c1 (c1 (c2 (c1 (c1 (c2 (c1 (c2 (c2 Zad.B)))))))))))))), .inBlock 1, .code (c2 (c2 (c1 (c1 (c2 (c1 (c2 (c2 Zad.B)))))))), .inLoop (c1 (c1 (c2 (c1 (c2 (c2 Zad.B)))))), .inBlock 0, .code (c2 (c2 (c2 Zad.B)))] [(0, Sl.v a0), (1, .int .i64 a1), (2, .int .i64 a2), (3, a3v.v), (9, .int .i64 s137), (10, .int .i64 s2)] [] (Zad.K2 a0 a2 a3 s2 s137) (Zad.F1 a0 a1 a2 a3v).f := by
 unfold Zad.K2
 refine SJ.sr 4 <| J.z 4 <| J.f ?_ ?_
 ·exact SJ.sr 3 <| J.z 3 <| SJ.block (id := 6) <| J.L (Zad.L2_ok a0 a1 a2 a3v a3 h_a3 s2 s137)
 exact SJ.skip <| J.q <| Zad.K1_ok a0 a1 a2 a3v s2 s137
noncomputable def Zad.K3 (a0 : Sl) (a2 : Int) (a3 : Zab → Zab → M Int) (s2 : Int) (s137 : Int) : M (LS (Int × Int) Bool) :=
 Zad.K2 a0 a2 a3 s2 s137
theorem Zad.K3_ok (a0 : Sl) (a1 : Int) (a2 : Int) (a3v : Any) (a3 : Zab → Zab → M Int) (h_a3 : ∀ (x0_ : Zab), ∀ (x1_ : Zab), RefV Tryd.prog a3v.v [Zac.val x0_, Zac.val x1_] (a3 x0_ x1_) (fun r_ : Int => .int .i64 r_)) (s2 : Int) (s137 : Int) :
  SJ Zad.cx [.code (c2 (c2 (c2 (c2 (c2 (c1 (c1 (c2 (c1 (c1 (c2 (c1 (c2 (c2 Zad.B)))))))))))))), .inBlock 1, .code (c2 (c2 (c1 (c1 (c2 (c1 (c2 (c2 Zad.B)))))))), .inLoop (c1 (c1 (c2 (c1 (c2 (c2 Zad.B)))))), .inBlock 0, .code (c2 (c2 (c2 Zad.B)))] [(0, Sl.v a0), (1, .int .i64 a1), (2, .int .i64 a2), (3, a3v.v), (9, .int .i64 s137), (10, .int .i64 s2)] [] (Zad.K3 a0 a2 a3 s2 s137) (Zad.F1 a0 a1 a2 a3v).f := by
 unfold Zad.K3
 exact J.q <| Zad.K2_ok a0 a1 a2 a3v a3 h_a3 s2 s137
noncomputable def Zad.F3 (a0 : Sl) (a1 : Int) (a2 : Int) (a3v : Any) (s2 : Int) (s137 : Int) : LF Int (LS (Int × Int) Bool) := ⟨[.inBlock 4, .code (c2 (c2 (c2 (c2 (c2 (c1 (c1 (c2 (c1 (c1 (c2 (c1 (c2 (c2 Zad.B)))))))))))))), .inBlock 1, .code (c2 (c2 (c1 (c1 (c2 (c1 (c2 (c2 Zad.B)))))))), .inLoop (c1 (c1 (c2 (c1 (c2 (c2 Zad.B)))))), .inBlock 0, .code (c2 (c2 (c2 Zad.B)))], c1 (c2 (c1 (c2 (c1 (c2 (c2 (c2 (c2 (c1 (c1 (c2 (c1 (c1 (c2 (c1 (c2 (c2 Zad.B))))))))))))))))), fun s_ => [(0, Sl.v a0), (1, .int .i64 a1), (2, .int .i64 a2), (3, a3v.v), (9, .int .i64 s137), (10, .int .i64 s2), (11, .int .i64 s_)], fun s_ => [], (Zad.F1 a0 a1 a2 a3v).f⟩
noncomputable def Zad.L3 (a0 : Sl) (a2 : Int) (a3 : Zab → Zab → M Int) (s2 : Int) (s137 : Int) (s233 : Int) : M (LS Int (LS (Int × Int) Bool)) :=
 if s233 ≥ 1 then
  draw >>= fun _ =>
  idx a0.a a0.len s233 36 >>= fun p247 =>
  ld Zac p247 >>= fun x248 =>
  idx a0.a a0.len (IntKind.wrap .i64 (s233 - 1)) 36 >>= fun p249 =>
  ld Zac p249 >>= fun x250 =>
  a3 x248 x250 >>= fun r251 =>
  if ¬ (r251 < 0) then
   (Zad.K3 a0 a2 a3 s2 s137) >>= fun b => pure (LS.done b)
  else
   draw >>= fun _ =>
   idx a0.a a0.len (IntKind.wrap .i64 (s233 - 1)) 36 >>= fun p252 =>
   ld Zac p252 >>= fun x253 =>
   idx a0.a a0.len s233 36 >>= fun p254 =>
   ld Zac p254 >>= fun x255 =>
   idx a0.a a0.len s233 36 >>= fun p256 =>
   st Zac p256 x253 >>= fun _ =>
   idx a0.a a0.len (IntKind.wrap .i64 (s233 - 1)) 36 >>= fun p257 =>
   st Zac p257 x255 >>= fun _ =>
   pure (LS.next (IntKind.wrap .i64 (s233 - 1)))
 else
  (Zad.K3 a0 a2 a3 s2 s137) >>= fun b => pure (LS.done b)
theorem Zad.L3_ok (a0 : Sl) (a1 : Int) (a2 : Int) (a3v : Any) (a3 : Zab → Zab → M Int) (h_a3 : ∀ (x0_ : Zab), ∀ (x1_ : Zab), RefV Tryd.prog a3v.v [Zac.val x0_, Zac.val x1_] (a3 x0_ x1_) (fun r_ : Int => .int .i64 r_)) (s2 : Int) (s137 : Int) : LJ Zad.cx (Zad.F3 a0 a1 a2 a3v s2 s137) (fun s_ => Zad.L3 a0 a2 a3 s2 s137 s_) := by
 rintro s233
 show SJ _ _ _ _ (Zad.L3 a0 a2 a3 s2 s137 s233) _
 unfold Zad.L3
 refine SJ.seq <| SJ.sr 2 <| J.z 2 <| J.f ?_ ?_
 ·refine SJ.skip <| SJ.seq <| SJ.block (id := 5) <| SJ.seq <| SJ.seq <| J.R 13 ZbO <| J.i 3 fun p247 => J.l 0 Ty32 fun x248 => J.i 3 fun p249 => J.l 0 Ty32 fun x250 => J.v 0 (h_a3 x248 x250) fun r251 => J.z 2 <| J.f ?_ ?_
  ·exact SJ.exit (id := 4) (by rfl) <| J.q <| SJ.done <| Zad.K3_ok a0 a1 a2 a3v a3 h_a3 s2 s137
  exact SJ.skip <| J.R 18 ZbO <| J.i 8 fun p252 => J.l 0 Ty32 fun x253 => J.i 2 fun p254 => J.l 0 Ty32 fun x255 => J.i 0 fun p256 => J.w 0 Ty32 <| J.i 0 fun p257 => J.w 0 Ty32 <| J.z 0 <| SJ.inBlock <| SJ.rg 3 <| J.z 3 <| J.o rfl
 exact SJ.exit (id := 4) (by rfl) <| J.q <| SJ.done <| Zad.K3_ok a0 a1 a2 a3v a3 h_a3 s2 s137
noncomputable def Zad.K4 (a0 : Sl) (a1 : Int) (a2 : Int) (a3 : Zab → Zab → M Int) (s2 : Int) (s137 : Int) : M (LS (Int × Int) Bool) :=
 if s137 = a2 then
  pure (LS.done true)
 else
  if (IntKind.wrap .i64 (a2 - a1)) < 50 then
   pure (LS.done false)
  else
   draw >>= fun _ =>
   idx a0.a a0.len (IntKind.wrap .i64 (s137 - 1)) 36 >>= fun p145 =>
   ld Zac p145 >>= fun x146 =>
   idx a0.a a0.len s137 36 >>= fun p147 =>
   ld Zac p147 >>= fun x148 =>
   idx a0.a a0.len s137 36 >>= fun p149 =>
   st Zac p149 x146 >>= fun _ =>
   idx a0.a a0.len (IntKind.wrap .i64 (s137 - 1)) 36 >>= fun p150 =>
   st Zac p150 x148 >>= fun _ =>
   if (IntKind.wrap .i64 (s137 - a1)) ≥ 2 then
    ZbR (fun s_ : Int => Zad.L3 a0 a2 a3 s2 s137 s_) (IntKind.wrap .i64 (s137 - 1))
   else
    Zad.K2 a0 a2 a3 s2 s137
theorem Zad.K4_ok (a0 : Sl) (a1 : Int) (a2 : Int) (a3v : Any) (a3 : Zab → Zab → M Int) (h_a3 : ∀ (x0_ : Zab), ∀ (x1_ : Zab), RefV Tryd.prog a3v.v [Zac.val x0_, Zac.val x1_] (a3 x0_ x1_) (fun r_ : Int => .int .i64 r_)) (s2 : Int) (s137 : Int) :
  SJ Zad.cx [.code (c2 (c1 (c1 (c2 (c1 (c1 (c2 (c1 (c2 (c2 Zad.B)))))))))), .inBlock 1, .code (c2 (c2 (c1 (c1 (c2 (c1 (c2 (c2 Zad.B)))))))), .inLoop (c1 (c1 (c2 (c1 (c2 (c2 Zad.B)))))), .inBlock 0, .code (c2 (c2 (c2 Zad.B)))] [(0, Sl.v a0), (1, .int .i64 a1), (2, .int .i64 a2), (3, a3v.v), (9, .int .i64 s137), (10, .int .i64 s2)] [] (Zad.K4 a0 a1 a2 a3 s2 s137) (Zad.F1 a0 a1 a2 a3v).f := by
 unfold Zad.K4
 refine SJ.seq <| SJ.sr 3 <| J.z 3 <| J.f ?_ ?_
 ·exact SJ.sr 1 <| J.z 1 <| J.r
 refine SJ.skip <| SJ.seq <| SJ.sr 4 <| J.z 4 <| J.f ?_ ?_
 ·exact SJ.sr 1 <| J.z 1 <| J.r
 refine SJ.skip <| SJ.seq <| J.R 18 ZbO <| J.i 8 fun p145 => J.l 0 Ty32 fun x146 => J.i 2 fun p147 => J.l 0 Ty32 fun x148 => J.i 0 fun p149 => J.w 0 Ty32 <| J.i 0 fun p150 => J.w 0 Ty32 <| J.z 0 <| SJ.seq <| SJ.sr 4 <| J.z 4 <| J.f ?_ ?_
 ·exact SJ.sr 3 <| J.z 3 <| SJ.block (id := 4) <| J.L (Zad.L3_ok a0 a1 a2 a3v a3 h_a3 s2 s137)
 exact SJ.skip <| J.q <| Zad.K2_ok a0 a1 a2 a3v a3 h_a3 s2 s137
noncomputable def Zad.F4 (a0 : Sl) (a1 : Int) (a2 : Int) (a3v : Any) (s2 : Int) : LF Int (LS (Int × Int) Bool) := ⟨[.inBlock 2, .code (c2 (c1 (c1 (c2 (c1 (c1 (c2 (c1 (c2 (c2 Zad.B)))))))))), .inBlock 1, .code (c2 (c2 (c1 (c1 (c2 (c1 (c2 (c2 Zad.B)))))))), .inLoop (c1 (c1 (c2 (c1 (c2 (c2 Zad.B)))))), .inBlock 0, .code (c2 (c2 (c2 Zad.B)))], c1 (c1 (c1 (c1 (c2 (c1 (c1 (c2 (c1 (c2 (c2 Zad.B)))))))))), fun s_ => [(0, Sl.v a0), (1, .int .i64 a1), (2, .int .i64 a2), (3, a3v.v), (9, .int .i64 s_), (10, .int .i64 s2)], fun s_ => [], (Zad.F1 a0 a1 a2 a3v).f⟩
noncomputable def Zad.L4 (a0 : Sl) (a1 : Int) (a2 : Int) (a3 : Zab → Zab → M Int) (s2 : Int) (s137 : Int) : M (LS Int (LS (Int × Int) Bool)) :=
 draw >>= fun _ =>
 (if s137 < a2 then
   idx a0.a a0.len s137 36 >>= fun p263 =>
   ld Zac p263 >>= fun x264 =>
   idx a0.a a0.len (IntKind.wrap .i64 (s137 - 1)) 36 >>= fun p265 =>
   ld Zac p265 >>= fun x266 =>
   a3 x264 x266 >>= fun r267 =>
   pure (!(decide (r267 < 0)))
  else
   pure false) >>= fun y268 =>
 if y268 = true then
  pure (LS.next (IntKind.wrap .i64 (s137 + 1)))
 else
  (Zad.K4 a0 a1 a2 a3 s2 s137) >>= fun b => pure (LS.done b)
theorem Zad.L4_ok (a0 : Sl) (a1 : Int) (a2 : Int) (a3v : Any) (a3 : Zab → Zab → M Int) (h_a3 : ∀ (x0_ : Zab), ∀ (x1_ : Zab), RefV Tryd.prog a3v.v [Zac.val x0_, Zac.val x1_] (a3 x0_ x1_) (fun r_ : Int => .int .i64 r_)) (s2 : Int) : LJ Zad.cx (Zad.F4 a0 a1 a2 a3v s2) (fun s_ => Zad.L4 a0 a1 a2 a3 s2 s_) := by
 rintro s137
 show SJ _ _ _ _ (Zad.L4 a0 a1 a2 a3 s2 s137) _
 unfold Zad.L4
 refine SJ.seq <| SJ.seq <| J.R 18 ZbO <| J.j 4 13 .bool ?_ ?_ fun y268 => ?_
 ·exact J.i 3 fun p263 => J.l 0 Ty32 fun x264 => J.i 3 fun p265 => J.l 0 Ty32 fun x266 => J.v 0 (h_a3 x264 x266) fun r267 => J.e 3
 ·exact J.e 14
 refine J.z 0 <| J.f ?_ ?_
 ·exact SJ.skip <| SJ.block (id := 3) <| SJ.rg 3 <| J.z 3 <| SJ.inBlock <| J.o rfl
 exact SJ.exit (id := 2) (by rfl) <| J.q <| SJ.done <| Zad.K4_ok a0 a1 a2 a3v a3 h_a3 s2 s137
noncomputable def Zad.L1 (a0 : Sl) (a1 : Int) (a2 : Int) (a3 : Zab → Zab → M Int) (s1 : Int) (s2 : Int) : M (LS (Int × Int) Bool) :=
 if s2 < 5 then
  ZbR (fun s_ : Int => Zad.L4 a0 a1 a2 a3 s2 s_) s1
 else
  pure (LS.done false)
theorem Zad.L1_ok (a0 : Sl) (a1 : Int) (a2 : Int) (a3v : Any) (a3 : Zab → Zab → M Int) (h_a3 : ∀ (x0_ : Zab), ∀ (x1_ : Zab), RefV Tryd.prog a3v.v [Zac.val x0_, Zac.val x1_] (a3 x0_ x1_) (fun r_ : Int => .int .i64 r_)) : LJ Zad.cx (Zad.F1 a0 a1 a2 a3v) (fun s_ => Zad.L1 a0 a1 a2 a3 s_.1 s_.2) := by
 rintro ⟨s1, s2⟩
 show SJ _ _ _ _ (Zad.L1 a0 a1 a2 a3 s1 s2) _
 unfold Zad.L1
 refine SJ.seq <| SJ.sr 2 <| J.z 2 <| J.f ?_ ?_
 ·exact SJ.skip <| SJ.seq <| SJ.block (id := 1) <| SJ.seq <| SJ.block (id := 2) <| J.L (Zad.L4_ok a0 a1 a2 a3v a3 h_a3 s2)
 exact SJ.exit (id := 0) (by rfl) <| SJ.sr 1 <| J.z 1 <| J.r
noncomputable def Zad (a0 : Sl) (a1 : Int) (a2 : Int) (a3 : Zab → Zab → M Int) : M Bool :=
 ZbR (fun s_ : (Int × Int) => Zad.L1 a0 a1 a2 a3 s_.1 s_.2) (IntKind.wrap .i64 (a1 + 1), 0)
theorem Zcv (a0 : Sl) (a1 : Int) (a2 : Int) (a3v : Any) (a3 : Zab → Zab → M Int) (h_a3 : ∀ (x0_ : Zab), ∀ (x1_ : Zab), RefV Tryd.prog a3v.v [Zac.val x0_, Zac.val x1_] (a3 x0_ x1_) (fun r_ : Int => .int .i64 r_)) : Ref Tryd.prog 75 [Sl.v a0, .int .i64 a1, .int .i64 a2, a3v.v] (Zad a0 a1 a2 a3) Zad.out := by
 refine J.Fn Tryd.func75 ?_
 unfold Zad
 exact SJ.sr 1 <| J.z 1 <| SJ.sr 3 <| J.z 3 <| SJ.seq <| SJ.sr 1 <| J.z 1 <| SJ.block (id := 0) <| J.L (Zad.L1_ok a0 a1 a2 a3v a3 h_a3)

/-! ### slices.partitionEqualCmpFunc[weir/api.Route]: function 76 -/
noncomputable def Zaf.B : Code := bod Tryd.f76
noncomputable def Zaf.cx : Fx := ⟨Tryd.prog, 76, Tryd.f76, none⟩
noncomputable def Zaf.out (r_ : Int) : Value := .int .i64 r_
noncomputable def Zaf.F1 (a0 : Sl) (a1 : Int) (a4v : Any) : LF (Int × Int) Int := ⟨[.inBlock 0, .code (c2 (c2 (c2 (c2 Zaf.B))))], c1 (c1 (c2 (c2 (c2 Zaf.B)))), fun s_ => [(0, Sl.v a0), (1, .int .i64 a1), (4, a4v.v), (11, .int .i64 s_.1), (12, .int .i64 s_.2)], fun s_ => [], (rt Zaf.out)⟩
noncomputable def Zaf.K1 (a0 : Sl) (s46 : Int) (s54 : Int) : M (LS (Int × Int) Int) :=
 if s46 > s54 then
  pure (LS.done s46)
 else
  draw >>= fun _ =>
  idx a0.a a0.len s54 36 >>= fun p62 =>
  ld Zac p62 >>= fun x63 =>
  idx a0.a a0.len s46 36 >>= fun p64 =>
  ld Zac p64 >>= fun x65 =>
  idx a0.a a0.len s46 36 >>= fun p66 =>
  st Zac p66 x63 >>= fun _ =>
  idx a0.a a0.len s54 36 >>= fun p67 =>
  st Zac p67 x65 >>= fun _ =>
  pure (LS.next (IntKind.wrap .i64 (s46 + 1), IntKind.wrap .i64 (s54 - 1)))
theorem Zaf.K1_ok (a0 : Sl) (a1 : Int) (a4v : Any) (s46 : Int) (s54 : Int) :
  SJ Zaf.cx [.code (c2 (c2 (c1 (c1 (c1 (c1 (c2 (c2 (c2 Zaf.B))))))))), .inBlock 1, .inLoop (c1 (c1 (c1 (c2 (c2 (c2 Zaf.B)))))), .inBlock 0, .code (c2 (c2 (c2 (c2 Zaf.B))))] [(0, Sl.v a0), (1, .int .i64 a1), (4, a4v.v), (11, .int .i64 s46), (12, .int .i64 s54)] [] (Zaf.K1 a0 s46 s54) (Zaf.F1 a0 a1 a4v).f := by
 unfold Zaf.K1
 refine SJ.seq <| SJ.sr 3 <| J.z 3 <| J.f ?_ ?_
 ·exact SJ.exit (id := 0) (by rfl) <| SJ.sr 2 <| J.z 2 <| J.r
 exact SJ.skip <| SJ.seq <| J.R 16 ZbO <| J.i 6 fun p62 => J.l 0 Ty32 fun x63 => J.i 2 fun p64 => J.l 0 Ty32 fun x65 => J.i 0 fun p66 => J.w 0 Ty32 <| J.i 0 fun p67 => J.w 0 Ty32 <| J.z 0 <| SJ.sr 3 <| J.z 3 <| SJ.rg 3 <| J.z 3 <| SJ.inBlock <| J.o rfl
noncomputable def Zaf.F2 (a0 : Sl) (a1 : Int) (a4v : Any) (s46 : Int) : LF Int (LS (Int × Int) Int) := ⟨[.inBlock 4, .code (c2 (c2 (c1 (c1 (c1 (c1 (c2 (c2 (c2 Zaf.B))))))))), .inBlock 1, .inLoop (c1 (c1 (c1 (c2 (c2 (c2 Zaf.B)))))), .inBlock 0, .code (c2 (c2 (c2 (c2 Zaf.B))))], c1 (c1 (c2 (c1 (c1 (c1 (c1 (c2 (c2 (c2 Zaf.B))))))))), fun s_ => [(0, Sl.v a0), (1, .int .i64 a1), (4, a4v.v), (11, .int .i64 s46), (12, .int .i64 s_)], fun s_ => [], (Zaf.F1 a0 a1 a4v).f⟩
noncomputable def Zaf.L2 (a0 : Sl) (a1 : Int) (a4 : Zab → Zab → M Int) (s46 : Int) (s54 : Int) : M (LS Int (LS (Int × Int) Int)) :=
 draw >>= fun _ =>
 (if s46 ≤ s54 then
   idx a0.a a0.len a1 36 >>= fun p69 =>
   ld Zac p69 >>= fun x70 =>
   idx a0.a a0.len s54 36 >>= fun p71 =>
   ld Zac p71 >>= fun x72 =>
   a4 x70 x72 >>= fun r73 =>
   pure (decide (r73 < 0))
  else
   pure false) >>= fun y74 =>
 if y74 = true then
  pure (LS.next (IntKind.wrap .i64 (s54 - 1)))
 else
  (Zaf.K1 a0 s46 s54) >>= fun b => pure (LS.done b)
theorem Zaf.L2_ok (a0 : Sl) (a1 : Int) (a4v : Any) (a4 : Zab → Zab → M Int) (h_a4 : ∀ (x0_ : Zab), ∀ (x1_ : Zab), RefV Tryd.prog a4v.v [Zac.val x0_, Zac.val x1_] (a4 x0_ x1_) (fun r_ : Int => .int .i64 r_)) (s46 : Int) : LJ Zaf.cx (Zaf.F2 a0 a1 a4v s46) (fun s_ => Zaf.L2 a0 a1 a4 s46 s_) := by
 rintro s54
 show SJ _ _ _ _ (Zaf.L2 a0 a1 a4 s46 s54) _
 unfold Zaf.L2
 refine SJ.seq <| SJ.seq <| J.R 16 ZbO <| J.j 4 11 .bool ?_ ?_ fun y74 => ?_
 ·exact J.i 3 fun p69 => J.l 0 Ty32 fun x70 => J.i 2 fun p71 => J.l 0 Ty32 fun x72 => J.v 0 (h_a4 x70 x72) fun r73 => J.e 2
 ·exact J.e 12
 refine J.z 0 <| J.f ?_ ?_
 ·exact SJ.skip <| SJ.block (id := 5) <| SJ.rg 3 <| J.z 3 <| SJ.inBlock <| J.o rfl
 exact SJ.exit (id := 4) (by rfl) <| J.q <| SJ.done <| Zaf.K1_ok a0 a1 a4v s46 s54
noncomputable def Zaf.K2 (a0 : Sl) (a1 : Int) (a4 : Zab → Zab → M Int) (s8 : Int) (s46 : Int) : M (LS (Int × Int) Int) :=
 ZbR (fun s_ : Int => Zaf.L2 a0 a1 a4 s46 s_) s8
theorem Zaf.K2_ok (a0 : Sl) (a1 : Int) (a4v : Any) (a4 : Zab → Zab → M Int) (h_a4 : ∀ (x0_ : Zab), ∀ (x1_ : Zab), RefV Tryd.prog a4v.v [Zac.val x0_, Zac.val x1_] (a4 x0_ x1_) (fun r_ : Int => .int .i64 r_)) (s8 : Int) (s46 : Int) :
  SJ Zaf.cx [.code (c2 (c1 (c1 (c1 (c1 (c2 (c2 (c2 Zaf.B)))))))), .inBlock 1, .inLoop (c1 (c1 (c1 (c2 (c2 (c2 Zaf.B)))))), .inBlock 0, .code (c2 (c2 (c2 (c2 Zaf.B))))] [(0, Sl.v a0), (1, .int .i64 a1), (4, a4v.v), (11, .int .i64 s46), (12, .int .i64 s8)] [] (Zaf.K2 a0 a1 a4 s8 s46) (Zaf.F1 a0 a1 a4v).f := by
 unfold Zaf.K2
 exact SJ.seq <| SJ.block (id := 4) <| J.L (Zaf.L2_ok a0 a1 a4v a4 h_a4 s46)
noncomputable def Zaf.F3 (a0 : Sl) (a1 : Int) (a4v : Any) (s8 : Int) : LF Int (LS (Int × Int) Int) := ⟨[.inBlock 2, .code (c2 (c1 (c1 (c1 (c1 (c2 (c2 (c2 Zaf.B)))))))), .inBlock 1, .inLoop (c1 (c1 (c1 (c2 (c2 (c2 Zaf.B)))))), .inBlock 0, .code (c2 (c2 (c2 (c2 Zaf.B))))], c1 (c1 (c1 (c1 (c1 (c1 (c2 (c2 (c2 Zaf.B)))))))), fun s_ => [(0, Sl.v a0), (1, .int .i64 a1), (4, a4v.v), (11, .int .i64 s_), (12, .int .i64 s8)], fun s_ => [], (Zaf.F1 a0 a1 a4v).f⟩
noncomputable def Zaf.L3 (a0 : Sl) (a1 : Int) (a4 : Zab → Zab → M Int) (s8 : Int) (s46 : Int) : M (LS Int (LS (Int × Int) Int)) :=
 draw >>= fun _ =>
 (if s46 ≤ s8 then
   idx a0.a a0.len a1 36 >>= fun p76 =>
   ld Zac p76 >>= fun x77 =>
   idx a0.a a0.len s46 36 >>= fun p78 =>
   ld Zac p78 >>= fun x79 =>
   a4 x77 x79 >>= fun r80 =>
   pure (!(decide (r80 < 0)))
  else
   pure false) >>= fun y81 =>
 if y81 = true then
  pure (LS.next (IntKind.wrap .i64 (s46 + 1)))
 else
  (Zaf.K2 a0 a1 a4 s8 s46) >>= fun b => pure (LS.done b)
theorem Zaf.L3_ok (a0 : Sl) (a1 : Int) (a4v : Any) (a4 : Zab → Zab → M Int) (h_a4 : ∀ (x0_ : Zab), ∀ (x1_ : Zab), RefV Tryd.prog a4v.v [Zac.val x0_, Zac.val x1_] (a4 x0_ x1_) (fun r_ : Int => .int .i64 r_)) (s8 : Int) : LJ Zaf.cx (Zaf.F3 a0 a1 a4v s8) (fun s_ => Zaf.L3 a0 a1 a4 s8 s_) := by
 rintro s46
 show SJ _ _ _ _ (Zaf.L3 a0 a1 a4 s8 s46) _
 unfold Zaf.L3
 refine SJ.seq <| SJ.seq <| J.R 17 ZbO <| J.j 4 12 .bool ?_ ?_ fun y81 => ?_
 ·exact J.i 3 fun p76 => J.l 0 Ty32 fun x77 => J.i 2 fun p78 => J.l 0 Ty32 fun x79 => J.v 0 (h_a4 x77 x79) fun r80 => J.e 3
 ·exact J.e 13
 refine J.z 0 <| J.f ?_ ?_
 ·exact SJ.skip <| SJ.block (id := 3) <| SJ.rg 3 <| J.z 3 <| SJ.inBlock <| J.o rfl
 exact SJ.exit (id := 2) (by rfl) <| J.q <| SJ.done <| Zaf.K2_ok a0 a1 a4v a4 h_a4 s8 s46
noncomputable def Zaf.L1 (a0 : Sl) (a1 : Int) (a4 : Zab → Zab → M Int) (s7 : Int) (s8 : Int) : M (LS (Int × Int) Int) :=
 ZbR (fun s_ : Int => Zaf.L3 a0 a1 a4 s8 s_) s7
theorem Zaf.L1_ok (a0 : Sl) (a1 : Int) (a4v : Any) (a4 : Zab → Zab → M Int) (h_a4 : ∀ (x0_ : Zab), ∀ (x1_ : Zab), RefV Tryd.prog a4v.v [Zac.val x0_, Zac.val x1_] (a4 x0_ x1_) (fun r_ : Int => .int .i64 r_)) : LJ Zaf.cx (Zaf.F1 a0 a1 a4v) (fun s_ => Zaf.L1 a0 a1 a4 s_.1 s_.2) := by
 rintro ⟨s7, s8⟩
 show SJ _ _ _ _ (Zaf.L1 a0 a1 a4 s7 s8) _
 unfold Zaf.L1
 exact SJ.block (id := 1) <| SJ.seq <| SJ.block (id := 2) <| J.L (Zaf.L3_ok a0 a1 a4v a4 h_a4 s8)
noncomputable def Zaf (a0 : Sl) (a1 : Int) (a2 : Int) (a3 : Int) (a4 : Zab → Zab → M Int) : M Int :=
 draw >>= fun _ =>
 idx a0.a a0.len a3 36 >>= fun p1 =>
 ld Zac p1 >>= fun x2 =>
 idx a0.a a0.len a1 36 >>= fun p3 =>
 ld Zac p3 >>= fun x4 =>
 idx a0.a a0.len a1 36 >>= fun p5 =>
 st Zac p5 x2 >>= fun _ =>
 idx a0.a a0.len a3 36 >>= fun p6 =>
 st Zac p6 x4 >>= fun _ =>
 ZbR (fun s_ : (Int × Int) => Zaf.L1 a0 a1 a4 s_.1 s_.2) (IntKind.wrap .i64 (a1 + 1), IntKind.wrap .i64 (a2 - 1))
theorem ZcR (a0 : Sl) (a1 : Int) (a2 : Int) (a3 : Int) (a4v : Any) (a4 : Zab → Zab → M Int) (h_a4 : ∀ (x0_ : Zab), ∀ (x1_ : Zab), RefV Tryd.prog a4v.v [Zac.val x0_, Zac.val x1_] (a4 x0_ x1_) (fun r_ : Int => .int .i64 r_)) : Ref Tryd.prog 76 [Sl.v a0, .int .i64 a1, .int .i64 a2, .int .i64 a3, a4v.v] (Zaf a0 a1 a2 a3 a4) Zaf.out := by
 refine J.Fn Tryd.func76 ?_
 unfold Zaf
 exact SJ.sr 1 <| J.z 1 <| SJ.seq <| J.R 16 ZbO <| J.i 6 fun p1 => J.l 0 Ty32 fun x2 => J.i 2 fun p3 => J.l 0 Ty32 fun x4 => J.i 0 fun p5 => J.w 0 Ty32 <| J.i 0 fun p6 => J.w 0 Ty32 <| J.z 0 <| SJ.sr 6 <| J.z 6 <| SJ.seq <| SJ.block (id := 0) <| J.L (Zaf.L1_ok a0 a1 a4v a4 h_a4)

/-! ### slices.partitionCmpFunc[weir/api.Route]: function 77 -/
noncomputable def Zae.B : Code := bod Tryd.f77
noncomputable def Zae.cx : Fx := ⟨Tryd.prog, 77, Tryd.f77, none⟩
noncomputable def Zae.out (r_ : (Int × Bool)) : Value := .tuple #[.int .i64 r_.1, .bool r_.2]
noncomputable def Zae.K1 (a0 : Sl) (a1 : Int) (j80 : Int) : M (Int × Bool) :=
 draw >>= fun _ =>
 idx a0.a a0.len a1 36 >>= fun p81 =>
 ld Zac p81 >>= fun x82 =>
 idx a0.a a0.len j80 36 >>= fun p83 =>
 ld Zac p83 >>= fun x84 =>
 idx a0.a a0.len j80 36 >>= fun p85 =>
 st Zac p85 x82 >>= fun _ =>
 idx a0.a a0.len a1 36 >>= fun p86 =>
 st Zac p86 x84 >>= fun _ =>
 pure (j80, false)
theorem Zae.K1_ok (a0 : Sl) (a1 : Int) (j80 : Int) :
  SJ Zae.cx [.code (c2 (c2 (c2 (c2 (c2 (c2 (c2 (c2 (c2 (c2 Zae.B))))))))))] [(0, Sl.v a0), (1, .int .i64 a1), (13, .int .i64 j80)] [] (Zae.K1 a0 a1 j80) (rt Zae.out) := by
 unfold Zae.K1
 exact SJ.seq <| J.R 16 ZbO <| J.i 6 fun p81 => J.l 0 Ty32 fun x82 => J.i 2 fun p83 => J.l 0 Ty32 fun x84 => J.i 0 fun p85 => J.w 0 Ty32 <| J.i 0 fun p86 => J.w 0 Ty32 <| J.z 0 <| SJ.sr 3 <| J.z 3 <| J.r
noncomputable def Zae.F1 (a0 : Sl) (a1 : Int) (a4v : Any) : LF (Int × Int) (Int × Bool) := ⟨[.inBlock 4, .code (c2 (c2 (c2 (c2 (c2 (c2 (c2 (c2 (c2 (c2 Zae.B))))))))))], c1 (c1 (c2 (c2 (c2 (c2 (c2 (c2 (c2 (c2 (c2 Zae.B)))))))))), fun s_ => [(0, Sl.v a0), (1, .int .i64 a1), (4, a4v.v), (12, .int .i64 s_.1), (13, .int .i64 s_.2)], fun s_ => [], (rt Zae.out)⟩
noncomputable def Zae.K2 (a0 : Sl) (a1 : Int) (s87 : Int) (s95 : Int) : M (LS (Int × Int) (Int × Bool)) :=
 if s87 > s95 then
  (Zae.K1 a0 a1 s95) >>= fun b => pure (LS.done b)
 else
  draw >>= fun _ =>
  idx a0.a a0.len s95 36 >>= fun p103 =>
  ld Zac p103 >>= fun x104 =>
  idx a0.a a0.len s87 36 >>= fun p105 =>
  ld Zac p105 >>= fun x106 =>
  idx a0.a a0.len s87 36 >>= fun p107 =>
  st Zac p107 x104 >>= fun _ =>
  idx a0.a a0.len s95 36 >>= fun p108 =>
  st Zac p108 x106 >>= fun _ =>
  pure (LS.next (IntKind.wrap .i64 (s87 + 1), IntKind.wrap .i64 (s95 - 1)))
theorem Zae.K2_ok (a0 : Sl) (a1 : Int) (a4v : Any) (s87 : Int) (s95 : Int) :
  SJ Zae.cx [.code (c2 (c2 (c1 (c1 (c1 (c1 (c2 (c2 (c2 (c2 (c2 (c2 (c2 (c2 (c2 Zae.B))))))))))))))), .inBlock 5, .inLoop (c1 (c1 (c1 (c2 (c2 (c2 (c2 (c2 (c2 (c2 (c2 (c2 Zae.B)))))))))))), .inBlock 4, .code (c2 (c2 (c2 (c2 (c2 (c2 (c2 (c2 (c2 (c2 Zae.B))))))))))] [(0, Sl.v a0), (1, .int .i64 a1), (4, a4v.v), (12, .int .i64 s87), (13, .int .i64 s95)] [] (Zae.K2 a0 a1 s87 s95) (Zae.F1 a0 a1 a4v).f := by
 unfold Zae.K2
 refine SJ.seq <| SJ.sr 3 <| J.z 3 <| J.f ?_ ?_
 ·exact SJ.exit (id := 4) (by rfl) <| J.q <| SJ.done <| Zae.K1_ok a0 a1 s95
 exact SJ.skip <| SJ.seq <| J.R 16 ZbO <| J.i 6 fun p103 => J.l 0 Ty32 fun x104 => J.i 2 fun p105 => J.l 0 Ty32 fun x106 => J.i 0 fun p107 => J.w 0 Ty32 <| J.i 0 fun p108 => J.w 0 Ty32 <| J.z 0 <| SJ.sr 3 <| J.z 3 <| SJ.rg 3 <| J.z 3 <| SJ.inBlock <| J.o rfl
noncomputable def Zae.F2 (a0 : Sl) (a1 : Int) (a4v : Any) (s87 : Int) : LF Int (LS (Int × Int) (Int × Bool)) := ⟨[.inBlock 8, .code (c2 (c2 (c1 (c1 (c1 (c1 (c2 (c2 (c2 (c2 (c2 (c2 (c2 (c2 (c2 Zae.B))))))))))))))), .inBlock 5, .inLoop (c1 (c1 (c1 (c2 (c2 (c2 (c2 (c2 (c2 (c2 (c2 (c2 Zae.B)))))))))))), .inBlock 4, .code (c2 (c2 (c2 (c2 (c2 (c2 (c2 (c2 (c2 (c2 Zae.B))))))))))], c1 (c1 (c2 (c1 (c1 (c1 (c1 (c2 (c2 (c2 (c2 (c2 (c2 (c2 (c2 (c2 Zae.B))))))))))))))), fun s_ => [(0, Sl.v a0), (1, .int .i64 a1), (4, a4v.v), (12, .int .i64 s87), (13, .int .i64 s_)], fun s_ => [], (Zae.F1 a0 a1 a4v).f⟩
noncomputable def Zae.L2 (a0 : Sl) (a1 : Int) (a4 : Zab → Zab → M Int) (s87 : Int) (s95 : Int) : M (LS Int (LS (Int × Int) (Int × Bool))) :=
 draw >>= fun _ =>
 (if s87 ≤ s95 then
   idx a0.a a0.len s95 36 >>= fun p110 =>
   ld Zac p110 >>= fun x111 =>
   idx a0.a a0.len a1 36 >>= fun p112 =>
   ld Zac p112 >>= fun x113 =>
   a4 x111 x113 >>= fun r114 =>
   pure (!(decide (r114 < 0)))
  else
   pure false) >>= fun y115 =>
 if y115 = true then
  pure (LS.next (IntKind.wrap .i64 (s95 - 1)))
 else
  (Zae.K2 a0 a1 s87 s95) >>= fun b => pure (LS.done b)
theorem Zae.L2_ok (a0 : Sl) (a1 : Int) (a4v : Any) (a4 : Zab → Zab → M Int) (h_a4 : ∀ (x0_ : Zab), ∀ (x1_ : Zab), RefV Tryd.prog a4v.v [Zac.val x0_, Zac.val x1_] (a4 x0_ x1_) (fun r_ : Int => .int .i64 r_)) (s87 : Int) : LJ Zae.cx (Zae.F2 a0 a1 a4v s87) (fun s_ => Zae.L2 a0 a1 a4 s87 s_) := by
 rintro s95
 show SJ _ _ _ _ (Zae.L2 a0 a1 a4 s87 s95) _
 unfold Zae.L2
 refine SJ.seq <| SJ.seq <| J.R 17 ZbO <| J.j 4 12 .bool ?_ ?_ fun y115 => ?_
 ·exact J.i 3 fun p110 => J.l 0 Ty32 fun x111 => J.i 2 fun p112 => J.l 0 Ty32 fun x113 => J.v 0 (h_a4 x111 x113) fun r114 => J.e 3
 ·exact J.e 13
 refine J.z 0 <| J.f ?_ ?_
 ·exact SJ.skip <| SJ.block (id := 9) <| SJ.rg 3 <| J.z 3 <| SJ.inBlock <| J.o rfl
 exact SJ.exit (id := 8) (by rfl) <| J.q <| SJ.done <| Zae.K2_ok a0 a1 a4v s87 s95
noncomputable def Zae.K3 (a0 : Sl) (a1 : Int) (a4 : Zab → Zab → M Int) (s42 : Int) (s87 : Int) : M (LS (Int × Int) (Int × Bool)) :=
 ZbR (fun s_ : Int => Zae.L2 a0 a1 a4 s87 s_) s42
theorem Zae.K3_ok (a0 : Sl) (a1 : Int) (a4v : Any) (a4 : Zab → Zab → M Int) (h_a4 : ∀ (x0_ : Zab), ∀ (x1_ : Zab), RefV Tryd.prog a4v.v [Zac.val x0_, Zac.val x1_] (a4 x0_ x1_) (fun r_ : Int => .int .i64 r_)) (s42 : Int) (s87 : Int) :
  SJ Zae.cx [.code (c2 (c1 (c1 (c1 (c1 (c2 (c2 (c2 (c2 (c2 (c2 (c2 (c2 (c2 Zae.B)))))))))))))), .inBlock 5, .inLoop (c1 (c1 (c1 (c2 (c2 (c2 (c2 (c2 (c2 (c2 (c2 (c2 Zae.B)))))))))))), .inBlock 4, .code (c2 (c2 (c2 (c2 (c2 (c2 (c2 (c2 (c2 (c2 Zae.B))))))))))] [(0, Sl.v a0), (1, .int .i64 a1), (4, a4v.v), (12, .int .i64 s87), (13, .int .i64 s42)] [] (Zae.K3 a0 a1 a4 s42 s87) (Zae.F1 a0 a1 a4v).f := by
 unfold Zae.K3
 exact SJ.seq <| SJ.block (id := 8) <| J.L (Zae.L2_ok a0 a1 a4v a4 h_a4 s87)
noncomputable def Zae.F3 (a0 : Sl) (a1 : Int) (a4v : Any) (s42 : Int) : LF Int (LS (Int × Int) (Int × Bool)) := ⟨[.inBlock 6, .code (c2 (c1 (c1 (c1 (c1 (c2 (c2 (c2 (c2 (c2 (c2 (c2 (c2 (c2 Zae.B)))))))))))))), .inBlock 5, .inLoop (c1 (c1 (c1 (c2 (c2 (c2 (c2 (c2 (c2 (c2 (c2 (c2 Zae.B)))))))))))), .inBlock 4, .code (c2 (c2 (c2 (c2 (c2 (c2 (c2 (c2 (c2 (c2 Zae.B))))))))))], c1 (c1 (c1 (c1 (c1 (c1 (c2 (c2 (c2 (c2 (c2 (c2 (c2 (c2 (c2 Zae.B)))))))))))))), fun s_ => [(0, Sl.v a0), (1, .int .i64 a1), (4, a4v.v), (12, .int .i64 s_), (13, .int .i64 s42)], fun s_ => [], (Zae.F1 a0 a1 a4v).f⟩
noncomputable def Zae.L3 (a0 : Sl) (a1 : Int) (a4 : Zab → Zab → M Int) (s42 : Int) (s87 : Int) : M (LS Int (LS (Int × Int) (Int × Bool))) :=
 draw >>= fun _ =>
 (if s87 ≤ s42 then
   idx a0.a a0.len s87 36 >>= fun p117 =>
   ld Zac p117 >>= fun x118 =>
   idx a0.a a0.len a1 36 >>= fun p119 =>
   ld Zac p119 >>= fun x120 =>
   a4 x118 x120 >>= fun r121 =>
   pure (decide (r121 < 0))
  else
   pure false) >>= fun y122 =>
 if y122 = true then
  pure (LS.next (IntKind.wrap .i64 (s87 + 1)))
 else
  (Zae.K3 a0 a1 a4 s42 s87) >>= fun b => pure (LS.done b)
theorem Zae.L3_ok (a0 : Sl) (a1 : Int) (a4v : Any) (a4 : Zab → Zab → M Int) (h_a4 : ∀ (x0_ : Zab), ∀ (x1_ : Zab), RefV Tryd.prog a4v.v [Zac.val x0_, Zac.val x1_] (a4 x0_ x1_) (fun r_ : Int => .int .i64 r_)) (s42 : Int) : LJ Zae.cx (Zae.F3 a0 a1 a4v s42) (fun s_ => Zae.L3 a0 a1 a4 s42 s_) := by
 rintro s87
 show SJ _ _ _ _ (Zae.L3 a0 a1 a4 s42 s87) _
 unfold Zae.L3
 refine SJ.seq <| SJ.seq <| J.R 16 ZbO <| J.j 4 11 .bool ?_ ?_ fun y122 => ?_
 ·exact J.i 3 fun p117 => J.l 0 Ty32 fun x118 => J.i 2 fun p119 => J.l 0 Ty32 fun x120 => J.v 0 (h_a4 x118 x120) fun r121 => J.e 2
 ·exact J.e 12
 refine J.z 0 <| J.f ?_ ?_
 ·exact SJ.skip <| SJ.block (id := 7) <| SJ.rg 3 <| J.z 3 <| SJ.inBlock <| J.o rfl
 exact SJ.exit (id := 6) (by rfl) <| J.q <| SJ.done <| Zae.K3_ok a0 a1 a4v a4 h_a4 s42 s87
noncomputable def Zae.L1 (a0 : Sl) (a1 : Int) (a4 : Zab → Zab → M Int) (s41 : Int) (s42 : Int) : M (LS (Int × Int) (Int × Bool)) :=
 ZbR (fun s_ : Int => Zae.L3 a0 a1 a4 s42 s_) s41
theorem Zae.L1_ok (a0 : Sl) (a1 : Int) (a4v : Any) (a4 : Zab → Zab → M Int) (h_a4 : ∀ (x0_ : Zab), ∀ (x1_ : Zab), RefV Tryd.prog a4v.v [Zac.val x0_, Zac.val x1_] (a4 x0_ x1_) (fun r_ : Int => .int .i64 r_)) : LJ Zae.cx (Zae.F1 a0 a1 a4v) (fun s_ => Zae.L1 a0 a1 a4 s_.1 s_.2) := by
 rintro ⟨s41, s42⟩
 show SJ _ _ _ _ (Zae.L1 a0 a1 a4 s41 s42) _
 unfold Zae.L1
 exact SJ.block (id := 5) <| SJ.seq <| SJ.block (id := 6) <| J.L (Zae.L3_ok a0 a1 a4v a4 h_a4 s42)
noncomputable def Zae.K4 (a0 : Sl) (a1 : Int) (a4 : Zab → Zab → M Int) (s7 : Int) (s15 : Int) : M (Int × Bool) :=
 if s7 > s15 then
  draw >>= fun _ =>
  idx a0.a a0.len a1 36 >>= fun p29 =>
  ld Zac p29 >>= fun x30 =>
  idx a0.a a0.len s15 36 >>= fun p31 =>
  ld Zac p31 >>= fun x32 =>
  idx a0.a a0.len s15 36 >>= fun p33 =>
  st Zac p33 x30 >>= fun _ =>
  idx a0.a a0.len a1 36 >>= fun p34 =>
  st Zac p34 x32 >>= fun _ =>
  pure (s15, true)
 else
  draw >>= fun _ =>
  idx a0.a a0.len s15 36 >>= fun p35 =>
  ld Zac p35 >>= fun x36 =>
  idx a0.a a0.len s7 36 >>= fun p37 =>
  ld Zac p37 >>= fun x38 =>
  idx a0.a a0.len s7 36 >>= fun p39 =>
  st Zac p39 x36 >>= fun _ =>
  idx a0.a a0.len s15 36 >>= fun p40 =>
  st Zac p40 x38 >>= fun _ =>
  ZbR (fun s_ : (Int × Int) => Zae.L1 a0 a1 a4 s_.1 s_.2) (IntKind.wrap .i64 (s7 + 1), IntKind.wrap .i64 (s15 - 1))
theorem Zae.K4_ok (a0 : Sl) (a1 : Int) (a4v : Any) (a4 : Zab → Zab → M Int) (h_a4 : ∀ (x0_ : Zab), ∀ (x1_ : Zab), RefV Tryd.prog a4v.v [Zac.val x0_, Zac.val x1_] (a4 x0_ x1_) (fun r_ : Int => .int .i64 r_)) (s7 : Int) (s15 : Int) :
  SJ Zae.cx [.code (c2 (c2 (c2 (c2 (c2 Zae.B)))))] [(0, Sl.v a0), (1, .int .i64 a1), (4, a4v.v), (12, .int .i64 s7), (13, .int .i64 s15)] [] (Zae.K4 a0 a1 a4 s7 s15) (rt Zae.out) := by
 unfold Zae.K4
 refine SJ.seq <| SJ.sr 3 <| J.z 3 <| J.f ?_ ?_
 ·exact SJ.seq <| J.R 16 ZbO <| J.i 6 fun p29 => J.l 0 Ty32 fun x30 => J.i 2 fun p31 => J.l 0 Ty32 fun x32 => J.i 0 fun p33 => J.w 0 Ty32 <| J.i 0 fun p34 => J.w 0 Ty32 <| J.z 0 <| SJ.sr 3 <| J.z 3 <| J.r
 exact SJ.skip <| SJ.seq <| J.R 16 ZbO <| J.i 6 fun p35 => J.l 0 Ty32 fun x36 => J.i 2 fun p37 => J.l 0 Ty32 fun x38 => J.i 0 fun p39 => J.w 0 Ty32 <| J.i 0 fun p40 => J.w 0 Ty32 <| J.z 0 <| SJ.sr 3 <| J.z 3 <| SJ.sr 3 <| J.z 3 <| SJ.seq <| SJ.block (id := 4) <| J.L (Zae.L1_ok a0 a1 a4v a4 h_a4)
noncomputable def Zae.F4 (a0 : Sl) (a1 : Int) (a4v : Any) (s7 : Int) : LF Int (Int × Bool) := ⟨[.inBlock 2, .code (c2 (c2 (c2 (c2 (c2 Zae.B)))))], c1 (c1 (c2 (c2 (c2 (c2 Zae.B))))), fun s_ => [(0, Sl.v a0), (1, .int .i64 a1), (4, a4v.v), (12, .int .i64 s7), (13, .int .i64 s_)], fun s_ => [], (rt Zae.out)⟩
noncomputable def Zae.L4 (a0 : Sl) (a1 : Int) (a4 : Zab → Zab → M Int) (s7 : Int) (s15 : Int) : M (LS Int (Int × Bool)) :=
 draw >>= fun _ =>
 (if s7 ≤ s15 then
   idx a0.a a0.len s15 36 >>= fun p125 =>
   ld Zac p125 >>= fun x126 =>
   idx a0.a a0.len a1 36 >>= fun p127 =>
   ld Zac p127 >>= fun x128 =>
   a4 x126 x128 >>= fun r129 =>
   pure (!(decide (r129 < 0)))
  else
   pure false) >>= fun y130 =>
 if y130 = true then
  pure (LS.next (IntKind.wrap .i64 (s15 - 1)))
 else
  (Zae.K4 a0 a1 a4 s7 s15) >>= fun b => pure (LS.done b)
theorem Zae.L4_ok (a0 : Sl) (a1 : Int) (a4v : Any) (a4 : Zab → Zab → M Int) (h_a4 : ∀ (x0_ : Zab), ∀ (x1_ : Zab), RefV Tryd.prog a4v.v [Zac.val x0_, Zac.val x1_] (a4 x0_ x1_) (fun r_ : Int => .int .i64 r_)) (s7 : Int) : LJ Zae.cx (Zae.F4 a0 a1 a4v s7) (fun s_ => Zae.L4 a0 a1 a4 s7 s_) := by
 rintro s15
 show SJ _ _ _ _ (Zae.L4 a0 a1 a4 s7 s15) _
 unfold Zae.L4
 refine SJ.seq <| SJ.seq <| J.R 17 ZbO <| J.j 4 12 .bool ?_ ?_ fun y130 => ?_
 ·exact J.i 3 fun p125 => J.l 0 Ty32 fun x126 => J.i 2 fun p127 => J.l 0 Ty32 fun x128 => J.v 0 (h_a4 x126 x128) fun r129 => J.e 3
 ·exact J.e 13
 refine J.z 0 <| J.f ?_ ?_
 ·exact SJ.skip <| SJ.block (id := 3) <| SJ.rg 3 <| J.z 3 <| SJ.inBlock <| J.o rfl
 exact SJ.exit (id := 2) (by rfl) <| J.q <| SJ.done <| Zae.K4_ok a0 a1 a4v a4 h_a4 s7 s15
noncomputable def Zae.K5 (a0 : Sl) (a1 : Int) (a2 : Int) (a4 : Zab → Zab → M Int) (s7 : Int) : M (Int × Bool) :=
 ZbR (fun s_ : Int => Zae.L4 a0 a1 a4 s7 s_) (IntKind.wrap .i64 (a2 - 1))
theorem Zae.K5_ok (a0 : Sl) (a1 : Int) (a2 : Int) (a4v : Any) (a4 : Zab → Zab → M Int) (h_a4 : ∀ (x0_ : Zab), ∀ (x1_ : Zab), RefV Tryd.prog a4v.v [Zac.val x0_, Zac.val x1_] (a4 x0_ x1_) (fun r_ : Int => .int .i64 r_)) (s7 : Int) :
  SJ Zae.cx [.code (c2 (c2 (c2 (c2 Zae.B))))] [(0, Sl.v a0), (1, .int .i64 a1), (4, a4v.v), (12, .int .i64 s7), (13, .int .i64 (IntKind.wrap .i64 (a2 - 1)))] [] (Zae.K5 a0 a1 a2 a4 s7) (rt Zae.out) := by
 unfold Zae.K5
 exact SJ.seq <| SJ.block (id := 2) <| J.L (Zae.L4_ok a0 a1 a4v a4 h_a4 s7)
noncomputable def Zae.F5 (a0 : Sl) (a1 : Int) (a2 : Int) (a4v : Any) : LF Int (Int × Bool) := ⟨[.inBlock 0, .code (c2 (c2 (c2 (c2 Zae.B))))], c1 (c1 (c2 (c2 (c2 Zae.B)))), fun s_ => [(0, Sl.v a0), (1, .int .i64 a1), (4, a4v.v), (12, .int .i64 s_), (13, .int .i64 (IntKind.wrap .i64 (a2 - 1)))], fun s_ => [], (rt Zae.out)⟩
noncomputable def Zae.L5 (a0 : Sl) (a1 : Int) (a2 : Int) (a4 : Zab → Zab → M Int) (s7 : Int) : M (LS Int (Int × Bool)) :=
 draw >>= fun _ =>
 (if s7 ≤ (IntKind.wrap .i64 (a2 - 1)) then
   idx a0.a a0.len s7 36 >>= fun p132 =>
   ld Zac p132 >>= fun x133 =>
   idx a0.a a0.len a1 36 >>= fun p134 =>
   ld Zac p134 >>= fun x135 =>
   a4 x133 x135 >>= fun r136 =>
   pure (decide (r136 < 0))
  else
   pure false) >>= fun y137 =>
 if y137 = true then
  pure (LS.next (IntKind.wrap .i64 (s7 + 1)))
 else
  (Zae.K5 a0 a1 a2 a4 s7) >>= fun b => pure (LS.done b)
theorem Zae.L5_ok (a0 : Sl) (a1 : Int) (a2 : Int) (a4v : Any) (a4 : Zab → Zab → M Int) (h_a4 : ∀ (x0_ : Zab), ∀ (x1_ : Zab), RefV Tryd.prog a4v.v [Zac.val x0_, Zac.val x1_] (a4 x0_ x1_) (fun r_ : Int => .int .i64 r_)) : LJ Zae.cx (Zae.F5 a0 a1 a2 a4v) (fun s_ => Zae.L5 a0 a1 a2 a4 s_) := by
 rintro s7
 show SJ _ _ _ _ (Zae.L5 a0 a1 a2 a4 s7) _
 unfold Zae.L5
 refine SJ.seq <| SJ.seq <| J.R 16 ZbO <| J.j 4 11 .bool ?_ ?_ fun y137 => ?_
 ·exact J.i 3 fun p132 => J.l 0 Ty32 fun x133 => J.i 2 fun p134 => J.l 0 Ty32 fun x135 => J.v 0 (h_a4 x133 x135) fun r136 => J.e 2
 ·exact J.e 12
 refine J.z 0 <| J.f ?_ ?_
 ·exact SJ.skip <| SJ.block (id := 1) <| SJ.rg 3 <| J.z 3 <| SJ.inBlock <| J.o rfl
 exact SJ.exit (id := 0) (by rfl) <| J.q <| SJ.done <| Zae.K5_ok a0 a1 a2 a4v a4 h_a4 s7
noncomputable def Zae (a0 : Sl) (a1 : Int) (a2 : Int) (a3 : Int) (a4 : Zab → Zab → M Int) : M (Int × Bool) :=
 draw >>= fun _ =>
 idx a0.a a0.len a3 36 >>= fun p1 =>
 ld Zac p1 >>= fun x2 =>
 idx a0.a a0.len a1 36 >>= fun p3 =>
 ld Zac p3 >>= fun x4 =>
 idx a0.a a0.len a1 36 >>= fun p5 =>
 st Zac p5 x2 >>= fun _ =>
 idx a0.a a0.len a3 36 >>= fun p6 =>
 st Zac p6 x4 >>= fun _ =>
 ZbR (fun s_ : Int => Zae.L5 a0 a1 a2 a4 s_) (IntKind.wrap .i64 (a1 + 1))
theorem Zc8 (a0 : Sl) (a1 : Int) (a2 : Int) (a3 : Int) (a4v : Any) (a4 : Zab → Zab → M Int) (h_a4 : ∀ (x0_ : Zab), ∀ (x1_ : Zab), RefV Tryd.prog a4v.v [Zac.val x0_, Zac.val x1_] (a4 x0_ x1_) (fun r_ : Int => .int .i64 r_)) : Ref Tryd.prog 77 [Sl.v a0, .int .i64 a1, .int .i64 a2, .int .i64 a3, a4v.v] (Zae a0 a1 a2 a3 a4) Zae.out := by
 refine J.Fn Tryd.func77 ?_
 unfold Zae
 exact SJ.sr 2 <| J.z 2 <| SJ.seq <| J.R 16 ZbO <| J.i 6 fun p1 => J.l 0 Ty32 fun x2 => J.i 2 fun p3 => J.l 0 Ty32 fun x4 => J.i 0 fun p5 => J.w 0 Ty32 <| J.i 0 fun p6 => J.w 0 Ty32 <| J.z 0 <| SJ.sr 6 <| J.z 6 <| SJ.seq <| SJ.block (id := 0) <| J.L (Zae.L5_ok a0 a1 a2 a4v a4 h_a4)

/-! ### slices.pdqsortCmpFunc[weir/api.Route]: function 65 -/
noncomputable def Zag.B : Code := bod Tryd.f65
noncomputable def Zag.cx : Fx := ⟨Tryd.prog, 65, Tryd.f65, none⟩
noncomputable def Zag.out (r_ : Unit) : Value := .tuple #[]
noncomputable def Zag.F1 (a0 : Sl) (a4v : Any) : LF (Int × Int × Int × Bool × Bool) Unit := ⟨[.inBlock 0], c1 (c2 (c2 Zag.B)), fun s_ => [(0, Sl.v a0), (1, .int .i64 s_.1), (2, .int .i64 s_.2.1), (3, .int .i64 s_.2.2.1), (4, a4v.v), (10, .bool s_.2.2.2.1), (11, .bool s_.2.2.2.2)], fun s_ => [], (rt Zag.out)⟩
noncomputable def Zag.K1 (a0 : Sl) (a4 : Zab → Zab → M Int) (rec_ : Sl → Int → Int → Int → M Unit) (s1 : Int) (s2 : Int) (s4 : Bool) (s5 : Bool) (j11 : Int) (j14 : Int) : M (LS (Int × Int × Int × Bool × Bool) Unit) :=
 draw >>= fun _ =>
 (if s1 > 0 then
   idx a0.a a0.len (IntKind.wrap .i64 (s1 - 1)) 36 >>= fun p20 =>
   ld Zac p20 >>= fun x21 =>
   idx a0.a a0.len j14 36 >>= fun p22 =>
   ld Zac p22 >>= fun x23 =>
   a4 x21 x23 >>= fun r24 =>
   pure (!(decide (r24 < 0)))
  else
   pure false) >>= fun y25 =>
 if y25 = true then
  Zaf a0 s1 s2 j14 a4 >>= fun r27 =>
  pure (LS.next (r27, s2, j11, s4, s5))
 else
  Zae a0 s1 s2 j14 a4 >>= fun r28 =>
  if (IntKind.wrap .i64 (r28.1 - s1)) < (IntKind.wrap .i64 (s2 - r28.1)) then
   rec_ a0 s1 r28.1 j11 >>= fun r31 =>
   pure (LS.next (IntKind.wrap .i64 (r28.1 + 1), s2, j11, decide ((IntKind.wrap .i64 (r28.1 - s1)) ≥ (IntKind.wrap .i64 (Int.tdiv (IntKind.wrap .i64 (s2 - s1)) 8))), r28.2))
  else
   rec_ a0 (IntKind.wrap .i64 (r28.1 + 1)) s2 j11 >>= fun r32 =>
   pure (LS.next (s1, r28.1, j11, decide ((IntKind.wrap .i64 (s2 - r28.1)) ≥ (IntKind.wrap .i64 (Int.tdiv (IntKind.wrap .i64 (s2 - s1)) 8))), r28.2))
theorem Zag.K1_ok (a0 : Sl) (a4v : Any) (a4 : Zab → Zab → M Int) (h_a4 : ∀ (x0_ : Zab), ∀ (x1_ : Zab), RefV Tryd.prog a4v.v [Zac.val x0_, Zac.val x1_] (a4 x0_ x1_) (fun r_ : Int => .int .i64 r_)) (rec_ : Sl → Int → Int → Int → M Unit) (h_rec_ : ∀ (x0_ : Sl) (x1_ : Int) (x2_ : Int) (x3_ : Int), Ref Tryd.prog 65 [Sl.v x0_, .int .i64 x1_, .int .i64 x2_, .int .i64 x3_, a4v.v] (rec_ x0_ x1_ x2_ x3_) Zag.out) (s1 : Int) (s2 : Int) (s4 : Bool) (s5 : Bool) (j11 : Int) (j14 : Int) :
  SJ Zag.cx [.code (c2 (c2 (c2 (c2 (c2 (c2 (c2 (c1 (c1 (c1 (c2 (c2 Zag.B)))))))))))), .inBlock 1, .inLoop (c1 (c1 (c2 (c2 Zag.B)))), .inBlock 0] [(0, Sl.v a0), (1, .int .i64 s1), (2, .int .i64 s2), (3, .int .i64 j11), (4, a4v.v), (10, .bool s4), (11, .bool s5), (12, .int .i64 (IntKind.wrap .i64 (s2 - s1))), (13, .int .i64 j14)] [] (Zag.K1 a0 a4 rec_ s1 s2 s4 s5 j11 j14) (Zag.F1 a0 a4v).f := by
 unfold Zag.K1
 refine SJ.seq <| SJ.seq <| J.R 17 ZbO <| J.j 3 13 .bool ?_ ?_ fun y25 => ?_
 ·exact J.i 4 fun p20 => J.l 0 Ty32 fun x21 => J.i 2 fun p22 => J.l 0 Ty32 fun x23 => J.v 0 (h_a4 x21 x23) fun r24 => J.e 3
 ·exact J.e 14
 refine J.z 0 <| J.f ?_ ?_
 ·exact SJ.sr 7 <| J.C 5 F76 (ZcR a0 s1 s2 j14 a4v a4 h_a4) fun r27 => J.z 1 <| SJ.sr 2 <| J.z 2 <| SJ.exit (id := 1) (by rfl) <| J.o rfl
 refine SJ.skip <| SJ.sr 11 <| J.C 5 F77 (Zc8 a0 s1 s2 j14 a4v a4 h_a4) fun r28 => J.z 5 <| SJ.sr 2 <| J.z 2 <| SJ.sr 8 <| J.z 8 <| SJ.sr 3 <| J.z 3 <| SJ.sr 3 <| J.z 3 <| J.f ?_ ?_
 ·exact SJ.sr 4 <| J.z 4 <| SJ.sr 6 <| J.C 5 F65 (h_rec_ a0 s1 r28.1 j11) fun r31 => J.z 0 <| SJ.rg 3 <| J.z 3 <| SJ.inBlock <| J.o rfl
 exact SJ.sr 4 <| J.z 4 <| SJ.sr 7 <| J.C 6 F65 (h_rec_ a0 (IntKind.wrap .i64 (r28.1 + 1)) s2 j11) fun r32 => J.z 0 <| SJ.rg 2 <| J.z 2 <| SJ.inBlock <| J.o rfl
noncomputable def Zag.K2 (a0 : Sl) (a4 : Zab → Zab → M Int) (rec_ : Sl → Int → Int → Int → M Unit) (s1 : Int) (s2 : Int) (s4 : Bool) (s5 : Bool) (j11 : Int) (j14 : Int) (j15 : Int) : M (LS (Int × Int × Int × Bool × Bool) Unit) :=
 (if s4 = true then
   pure s5
  else
   pure false) >>= fun y16 =>
 (if y16 = true then
   pure (j15 == 1)
  else
   pure false) >>= fun y17 =>
 if y17 = true then
  Zad a0 s1 s2 a4 >>= fun r35 =>
  if r35 = true then
   pure (LS.done ())
  else
   Zag.K1 a0 a4 rec_ s1 s2 s4 s5 j11 j14
 else
  Zag.K1 a0 a4 rec_ s1 s2 s4 s5 j11 j14
theorem Zag.K2_ok (a0 : Sl) (a4v : Any) (a4 : Zab → Zab → M Int) (h_a4 : ∀ (x0_ : Zab), ∀ (x1_ : Zab), RefV Tryd.prog a4v.v [Zac.val x0_, Zac.val x1_] (a4 x0_ x1_) (fun r_ : Int => .int .i64 r_)) (rec_ : Sl → Int → Int → Int → M Unit) (h_rec_ : ∀ (x0_ : Sl) (x1_ : Int) (x2_ : Int) (x3_ : Int), Ref Tryd.prog 65 [Sl.v x0_, .int .i64 x1_, .int .i64 x2_, .int .i64 x3_, a4v.v] (rec_ x0_ x1_ x2_ x3_) Zag.out) (s1 : Int) (s2 : Int) (s4 : Bool) (s5 : Bool) (j11 : Int) (j14 : Int) (j15 : Int) :
  SJ Zag.cx [.code (c2 (c2 (c2 (c2 (c2 (c2 (c1 (c1 (c1 (c2 (c2 Zag.B))))))))))), .inBlock 1, .inLoop (c1 (c1 (c2 (c2 Zag.B)))), .inBlock 0] [(0, Sl.v a0), (1, .int .i64 s1), (2, .int .i64 s2), (3, .int .i64 j11), (4, a4v.v), (10, .bool s4), (11, .bool s5), (12, .int .i64 (IntKind.wrap .i64 (s2 - s1))), (13, .int .i64 j14), (14, .int .i64 j15)] [] (Zag.K2 a0 a4 rec_ s1 s2 s4 s5 j11 j14 j15) (Zag.F1 a0 a4v).f := by
 unfold Zag.K2
 refine SJ.seq <| SJ.sr 8 <| J.j 2 1 .bool ?_ ?_ fun y16 => ?_
 ·exact J.e 2
 ·exact J.e 2
 refine J.j 1 2 .bool ?_ ?_ fun y17 => ?_
 ·exact J.e 3
 ·exact J.e 3
 refine J.z 0 <| J.f ?_ ?_
 ·refine SJ.sr 5 <| J.C 4 F75 (Zcv a0 s1 s2 a4v a4 h_a4) fun r35 => J.z 0 <| J.f ?_ ?_
  ·exact J.r
  exact SJ.skip <| J.q <| Zag.K1_ok a0 a4v a4 h_a4 rec_ h_rec_ s1 s2 s4 s5 j11 j14
 exact SJ.skip <| J.q <| Zag.K1_ok a0 a4v a4 h_a4 rec_ h_rec_ s1 s2 s4 s5 j11 j14
noncomputable def Zag.K3 (a0 : Sl) (a4 : Zab → Zab → M Int) (rec_ : Sl → Int → Int → Int → M Unit) (s1 : Int) (s2 : Int) (s4 : Bool) (s5 : Bool) (j11 : Int) : M (LS (Int × Int × Int × Bool × Bool) Unit) :=
 Za9 a0 s1 s2 a4 >>= fun r12 =>
 if r12.2 = 2 then
  Zat a0 s1 s2 a4 >>= fun r38 =>
  Zag.K2 a0 a4 rec_ s1 s2 s4 s5 j11 (IntKind.wrap .i64 ((IntKind.wrap .i64 (s2 - 1)) - (IntKind.wrap .i64 (r12.1 - s1)))) 1
 else
  Zag.K2 a0 a4 rec_ s1 s2 s4 s5 j11 r12.1 r12.2
theorem Zag.K3_ok (a0 : Sl) (a4v : Any) (a4 : Zab → Zab → M Int) (h_a4 : ∀ (x0_ : Zab), ∀ (x1_ : Zab), RefV Tryd.prog a4v.v [Zac.val x0_, Zac.val x1_] (a4 x0_ x1_) (fun r_ : Int => .int .i64 r_)) (rec_ : Sl → Int → Int → Int → M Unit) (h_rec_ : ∀ (x0_ : Sl) (x1_ : Int) (x2_ : Int) (x3_ : Int), Ref Tryd.prog 65 [Sl.v x0_, .int .i64 x1_, .int .i64 x2_, .int .i64 x3_, a4v.v] (rec_ x0_ x1_ x2_ x3_) Zag.out) (s1 : Int) (s2 : Int) (s4 : Bool) (s5 : Bool) (j11 : Int) :
  SJ Zag.cx [.code (c2 (c2 (c2 (c2 (c1 (c1 (c1 (c2 (c2 Zag.B))))))))), .inBlock 1, .inLoop (c1 (c1 (c2 (c2 Zag.B)))), .inBlock 0] [(0, Sl.v a0), (1, .int .i64 s1), (2, .int .i64 s2), (3, .int .i64 j11), (4, a4v.v), (10, .bool s4), (11, .bool s5), (12, .int .i64 (IntKind.wrap .i64 (s2 - s1)))] [] (Zag.K3 a0 a4 rec_ s1 s2 s4 s5 j11) (Zag.F1 a0 a4v).f := by
 unfold Zag.K3
 refine SJ.sr 10 <| J.C 4 F73 (Zc1 a0 s1 s2 a4v a4 h_a4) fun r12 => J.z 5 <| SJ.seq <| SJ.sr 2 <| J.z 2 <| J.f ?_ ?_
 ·exact SJ.sr 5 <| J.C 4 F74 (ZcX a0 s1 s2 a4v a4 h_a4) fun r38 => J.z 0 <| SJ.sr 7 <| J.z 7 <| SJ.rg 1 <| J.z 1 <| J.q <| Zag.K2_ok a0 a4v a4 h_a4 rec_ h_rec_ s1 s2 s4 s5 j11 (IntKind.wrap .i64 ((IntKind.wrap .i64 (s2 - 1)) - (IntKind.wrap .i64 (r12.1 - s1)))) 1
 exact SJ.skip <| J.q <| Zag.K2_ok a0 a4v a4 h_a4 rec_ h_rec_ s1 s2 s4 s5 j11 r12.1 r12.2
noncomputable def Zag.L1 (a0 : Sl) (a4 : Zab → Zab → M Int) (rec_ : Sl → Int → Int → Int → M Unit) (s1 : Int) (s2 : Int) (s3 : Int) (s4 : Bool) (s5 : Bool) : M (LS (Int × Int × Int × Bool × Bool) Unit) :=
 if (IntKind.wrap .i64 (s2 - s1)) ≤ 12 then
  Zak a0 s1 s2 a4 >>= fun r7 =>
  pure (LS.done ())
 else
  if s3 = 0 then
   Zaj a0 s1 s2 a4 >>= fun r9 =>
   pure (LS.done ())
  else
   if ¬ (s4 = true) then
    Zal a0 s1 s2 a4 >>= fun r40 =>
    Zag.K3 a0 a4 rec_ s1 s2 s4 s5 (IntKind.wrap .i64 (s3 - 1))
   else
    Zag.K3 a0 a4 rec_ s1 s2 s4 s5 s3
theorem Zag.L1_ok (a0 : Sl) (a4v : Any) (a4 : Zab → Zab → M Int) (h_a4 : ∀ (x0_ : Zab), ∀ (x1_ : Zab), RefV Tryd.prog a4v.v [Zac.val x0_, Zac.val x1_] (a4 x0_ x1_) (fun r_ : Int => .int .i64 r_)) (rec_ : Sl → Int → Int → Int → M Unit) (h_rec_ : ∀ (x0_ : Sl) (x1_ : Int) (x2_ : Int) (x3_ : Int), Ref Tryd.prog 65 [Sl.v x0_, .int .i64 x1_, .int .i64 x2_, .int .i64 x3_, a4v.v] (rec_ x0_ x1_ x2_ x3_) Zag.out) : LJ Zag.cx (Zag.F1 a0 a4v) (fun s_ => Zag.L1 a0 a4 rec_ s_.1 s_.2.1 s_.2.2.1 s_.2.2.2.1 s_.2.2.2.2) := by
 rintro ⟨s1, s2, s3, s4, s5⟩
 show SJ _ _ _ _ (Zag.L1 a0 a4 rec_ s1 s2 s3 s4 s5) _
 unfold Zag.L1
 refine SJ.block (id := 1) <| SJ.sr 4 <| J.z 4 <| SJ.seq <| SJ.sr 2 <| J.z 2 <| J.f ?_ ?_
 ·exact SJ.sr 5 <| J.C 4 F70 (ZcU a0 s1 s2 a4v a4 h_a4) fun r7 => J.z 0 <| J.r
 refine SJ.skip <| SJ.seq <| SJ.sr 2 <| J.z 2 <| J.f ?_ ?_
 ·exact SJ.sr 5 <| J.C 4 F71 (Zde a0 s1 s2 a4v a4 h_a4) fun r9 => J.z 0 <| J.r
 refine SJ.skip <| SJ.seq <| SJ.sr 2 <| J.z 2 <| J.f ?_ ?_
 ·exact SJ.sr 5 <| J.C 4 F72 (ZcV a0 s1 s2 a4v a4 h_a4) fun r40 => J.z 0 <| SJ.rg 3 <| J.z 3 <| J.q <| Zag.K3_ok a0 a4v a4 h_a4 rec_ h_rec_ s1 s2 s4 s5 (IntKind.wrap .i64 (s3 - 1))
 exact SJ.skip <| J.q <| Zag.K3_ok a0 a4v a4 h_a4 rec_ h_rec_ s1 s2 s4 s5 s3
noncomputable def Zag.body (rec_ : Sl → Int → Int → Int → M Unit) (a0 : Sl) (a1 : Int) (a2 : Int) (a3 : Int) (a4 : Zab → Zab → M Int) : M Unit :=
 ZbR (fun s_ : (Int × Int × Int × Bool × Bool) => Zag.L1 a0 a4 rec_ s_.1 s_.2.1 s_.2.2.1 s_.2.2.2.1 s_.2.2.2.2) (a1, a2, a3, true, true)
theorem Zag.body_ok (a4v : Any) (a4 : Zab → Zab → M Int) (h_a4 : ∀ (x0_ : Zab), ∀ (x1_ : Zab), RefV Tryd.prog a4v.v [Zac.val x0_, Zac.val x1_] (a4 x0_ x1_) (fun r_ : Int => .int .i64 r_)) (rec_ : Sl → Int → Int → Int → M Unit) (h_rec_ : ∀ (x0_ : Sl) (x1_ : Int) (x2_ : Int) (x3_ : Int), Ref Tryd.prog 65 [Sl.v x0_, .int .i64 x1_, .int .i64 x2_, .int .i64 x3_, a4v.v] (rec_ x0_ x1_ x2_ x3_) Zag.out) (a0 : Sl) (a1 : Int) (a2 : Int) (a3 : Int) : Ref Tryd.prog 65 [Sl.v a0, .int .i64 a1, .int .i64 a2, .int .i64 a3, a4v.v] (Zag.body rec_ a0 a1 a2 a3 a4) Zag.out := by
 refine J.Fn Tryd.func65 ?_
 unfold Zag.body
 exact SJ.sr 1 <| J.z 1 <| SJ.sr 1 <| J.z 1 <| SJ.block (id := 0) <| J.L (Zag.L1_ok a0 a4v a4 h_a4 rec_ h_rec_)
noncomputable def Zag.go (a4 : Zab → Zab → M Int) : Nat → Sl → Int → Int → Int → M Unit
 | 0 => fun a0 a1 a2 a3 => fun _ => none
 | n + 1 => fun a0 a1 a2 a3 => Zag.body (Zag.go a4 n) a0 a1 a2 a3 a4
theorem Zag.go_ok (a4v : Any) (a4 : Zab → Zab → M Int) (h_a4 : ∀ (x0_ : Zab), ∀ (x1_ : Zab), RefV Tryd.prog a4v.v [Zac.val x0_, Zac.val x1_] (a4 x0_ x1_) (fun r_ : Int => .int .i64 r_)) : ∀ (n : Nat) (a0 : Sl) (a1 : Int) (a2 : Int) (a3 : Int), Ref Tryd.prog 65 [Sl.v a0, .int .i64 a1, .int .i64 a2, .int .i64 a3, a4v.v] (Zag.go a4 n a0 a1 a2 a3) Zag.out
 | 0, a0, a1, a2, a3 => fun v r v' e => by cases e
 | n + 1, a0, a1, a2, a3 => Zag.body_ok a4v a4 h_a4 (Zag.go a4 n) (Zag.go_ok a4v a4 h_a4 n) a0 a1 a2 a3
noncomputable def Zag (a0 : Sl) (a1 : Int) (a2 : Int) (a3 : Int) (a4 : Zab → Zab → M Int) : M Unit := Zag.go a4 1000000000000 a0 a1 a2 a3
theorem Zdk (a0 : Sl) (a1 : Int) (a2 : Int) (a3 : Int) (a4v : Any) (a4 : Zab → Zab → M Int) (h_a4 : ∀ (x0_ : Zab), ∀ (x1_ : Zab), RefV Tryd.prog a4v.v [Zac.val x0_, Zac.val x1_] (a4 x0_ x1_) (fun r_ : Int => .int .i64 r_)) : Ref Tryd.prog 65 [Sl.v a0, .int .i64 a1, .int .i64 a2, .int .i64 a3, a4v.v] (Zag a0 a1 a2 a3 a4) Zag.out := Zag.go_ok a4v a4 h_a4 1000000000000 a0 a1 a2 a3

/-! ### slices.SortFunc[[]weir/api.Route,weir/api.Route]: function 58 -/
noncomputable def Zba.out (r_ : Unit) : Value := .tuple #[]
noncomputable def Zba (a0 : Sl) (a1 : Zab → Zab → M Int) : M Unit :=
 Zeb (IntKind.wrap .u64 (a0.len : Int)) >>= fun r1 =>
 Zag a0 0 (a0.len : Int) r1 a1 >>= fun r2 =>
 pure ()
theorem Zc2 (a0 : Sl) (a1v : Any) (a1 : Zab → Zab → M Int) (h_a1 : ∀ (x0_ : Zab), ∀ (x1_ : Zab), RefV Tryd.prog a1v.v [Zac.val x0_, Zac.val x1_] (a1 x0_ x1_) (fun r_ : Int => .int .i64 r_)) : Ref Tryd.prog 58 [Sl.v a0, a1v.v] (Zba a0 a1) Zba.out := by
 refine J.Fn Tryd.func58 ?_
 unfold Zba
 exact SJ.sr 3 <| J.z 3 <| SJ.rg 7 <| J.C 4 F66 (Zha _) fun r1 => J.C 1 F65 (Zdk a0 0 (a0.len : Int) r1 a1v a1 h_a1) fun r2 => J.z 0 <| SJ.end_ rfl (Res.run (ys := []) .nil rfl)

/-! ### slices.SortedFunc[weir/api.Route]: function 43 -/
noncomputable def Zbs.out (r_ : Sl) : Value := Sl.v r_
noncomputable def Zbs (a0 : Any) (a1 : Zab → Zab → M Int) : M Sl :=
 ZbD a0 >>= fun r1 =>
 Zba r1 a1 >>= fun r2 =>
 pure r1
theorem Zdz (a0 : Any) (a1v : Any) (a1 : Zab → Zab → M Int) (h_a1 : ∀ (x0_ : Zab), ∀ (x1_ : Zab), RefV Tryd.prog a1v.v [Zac.val x0_, Zac.val x1_] (a1 x0_ x1_) (fun r_ : Int => .int .i64 r_)) : Ref Tryd.prog 43 [a0.v, a1v.v] (Zbs a0 a1) Zbs.out := by
 refine J.Fn Tryd.func43 ?_
 unfold Zbs
 exact SJ.sr 1 <| J.z 1 <| SJ.sr 3 <| J.C 1 F57 (ZdO _) fun r1 => J.z 1 <| SJ.sr 3 <| J.C 2 F58 (Zc2 r1 a1v a1 h_a1) fun r2 => J.z 0 <| SJ.sr 2 <| J.z 2 <| J.r

/-! ### cmp.isNaN[int]: function 67 -/
noncomputable def ZcJ.out (r_ : Bool) : Value := .bool r_
noncomputable def ZcJ (a0 : Int) : M Bool :=
 pure (a0 != a0)
theorem ZeD (a0 : Int) : Ref Tryd.prog 67 [.int .i64 a0] (ZcJ a0) ZcJ.out := by
 refine J.Fn Tryd.func67 ?_
 unfold ZcJ
 exact SJ.sr 1 <| J.z 1 <| SJ.sr 4 <| J.z 4 <| J.r

/-! ### cmp.Compare[int]: function 61 -/
noncomputable def Zb5.out (r_ : Int) : Value := .int .i64 r_
noncomputable def Zb5 (a0 : Int) (a1 : Int) : M Int :=
 ZcJ a0 >>= fun r1 =>
 ZcJ a1 >>= fun r2 =>
 if r1 = true then
  if r2 = true then
   pure 0
  else
   pure (-1)
 else
  if r2 = true then
   pure 1
  else
   if a0 < a1 then
    pure (-1)
   else
    if a0 > a1 then
     pure 1
    else
     pure 0
theorem Zd9 (a0 : Int) (a1 : Int) : Ref Tryd.prog 61 [.int .i64 a0, .int .i64 a1] (Zb5 a0 a1) Zb5.out := by
 refine J.Fn Tryd.func61 ?_
 unfold Zb5
 refine SJ.sr 1 <| J.z 1 <| SJ.sr 3 <| J.C 1 F67 (ZeD _) fun r1 => J.z 1 <| SJ.sr 3 <| J.C 1 F67 (ZeD _) fun r2 => J.z 1 <| SJ.seq <| SJ.sr 1 <| J.z 1 <| J.f ?_ ?_
 ·refine SJ.seq <| SJ.sr 1 <| J.z 1 <| J.f ?_ ?_
  ·exact SJ.sr 1 <| J.z 1 <| J.r
  exact SJ.skip <| SJ.sr 1 <| J.z 1 <| J.r
 refine SJ.skip <| SJ.seq <| SJ.sr 1 <| J.z 1 <| J.f ?_ ?_
 ·exact SJ.sr 1 <| J.z 1 <| J.r
 refine SJ.skip <| SJ.seq <| SJ.sr 3 <| J.z 3 <| J.f ?_ ?_
 ·exact SJ.sr 1 <| J.z 1 <| J.r
 refine SJ.skip <| SJ.seq <| SJ.sr 3 <| J.z 3 <| J.f ?_ ?_
 ·exact SJ.sr 1 <| J.z 1 <| J.r
 exact SJ.skip <| SJ.sr 1 <| J.z 1 <| J.r

/-! ### cmp.isNaN[byte]: function 80 -/
noncomputable def Zcz.out (r_ : Bool) : Value := .bool r_
noncomputable def Zcz (a0 : Int) : M Bool :=
 pure (a0 != a0)
theorem Zes (a0 : Int) : Ref Tryd.prog 80 [.int .u8 a0] (Zcz a0) Zcz.out := by
 refine J.Fn Tryd.func80 ?_
 unfold Zcz
 exact SJ.sr 1 <| J.z 1 <| SJ.sr 4 <| J.z 4 <| J.r

/-! ### cmp.Compare[byte]: function 68 -/
noncomputable def Zb9.out (r_ : Int) : Value := .int .i64 r_
noncomputable def Zb9 (a0 : Int) (a1 : Int) : M Int :=
 Zcz a0 >>= fun r1 =>
 Zcz a1 >>= fun r2 =>
 if r1 = true then
  if r2 = true then
   pure 0
  else
   pure (-1)
 else
  if r2 = true then
   pure 1
  else
   if a0 < a1 then
    pure (-1)
   else
    if a0 > a1 then
     pure 1
    else
     pure 0
theorem Zfr (a0 : Int) (a1 : Int) : Ref Tryd.prog 68 [.int .u8 a0, .int .u8 a1] (Zb9 a0 a1) Zb9.out := by
 refine J.Fn Tryd.func68 ?_
 unfold Zb9
 refine SJ.sr 1 <| J.z 1 <| SJ.sr 3 <| J.C 1 F80 (Zes _) fun r1 => J.z 1 <| SJ.sr 3 <| J.C 1 F80 (Zes _) fun r2 => J.z 1 <| SJ.seq <| SJ.sr 1 <| J.z 1 <| J.f ?_ ?_
 ·refine SJ.seq <| SJ.sr 1 <| J.z 1 <| J.f ?_ ?_
  ·exact SJ.sr 1 <| J.z 1 <| J.r
  exact SJ.skip <| SJ.sr 1 <| J.z 1 <| J.r
 refine SJ.skip <| SJ.seq <| SJ.sr 1 <| J.z 1 <| J.f ?_ ?_
 ·exact SJ.sr 1 <| J.z 1 <| J.r
 refine SJ.skip <| SJ.seq <| SJ.sr 3 <| J.z 3 <| J.f ?_ ?_
 ·exact SJ.sr 1 <| J.z 1 <| J.r
 refine SJ.skip <| SJ.seq <| SJ.sr 3 <| J.z 3 <| J.f ?_ ?_
 ·exact SJ.sr 1 <| J.z 1 <| J.r
 exact SJ.skip <| SJ.sr 1 <| J.z 1 <| J.r

/-! ### slices.Compare[[]byte,byte]: function 62 -/
noncomputable def ZaG.B : Code := bod Tryd.f62
noncomputable def ZaG.cx : Fx := ⟨Tryd.prog, 62, Tryd.f62, none⟩
noncomputable def ZaG.out (r_ : Int) : Value := .int .i64 r_
noncomputable def ZaG.F1 (a0 : Sl) (a1 : Sl) : LF Int Int := ⟨[.inBlock 0, .code (c2 (c2 ZaG.B))], c1 (c2 (c1 (c2 ZaG.B))), fun s_ => [(0, Sl.v a0), (1, Sl.v a1), (9, Sl.v a0), (10, .int .i64 (a0.len : Int)), (11, .int .i64 s_)], fun s_ => [], (rt ZaG.out)⟩
noncomputable def ZaG.L1 (a0 : Sl) (a1 : Sl) (s1 : Int) : M (LS Int Int) :=
 if s1 < (a0.len : Int) then
  idx a0.a a0.len s1 1 >>= fun p11 =>
  ld (cI .u8) p11 >>= fun x12 =>
  if s1 ≥ (a1.len : Int) then
   pure (LS.done 1)
  else
   idx a1.a a1.len s1 1 >>= fun p13 =>
   ld (cI .u8) p13 >>= fun x14 =>
   Zb9 x12 x14 >>= fun r15 =>
   if r15 ≠ 0 then
    pure (LS.done r15)
   else
    pure (LS.next (IntKind.wrap .i64 (s1 + 1)))
 else
  if (a0.len : Int) < (a1.len : Int) then
   pure (LS.done (-1))
  else
   pure (LS.done 0)
theorem ZaG.L1_ok (a0 : Sl) (a1 : Sl) : LJ ZaG.cx (ZaG.F1 a0 a1) (fun s_ => ZaG.L1 a0 a1 s_) := by
 rintro s1
 show SJ _ _ _ _ (ZaG.L1 a0 a1 s1) _
 unfold ZaG.L1
 refine SJ.sr 1 <| J.z 1 <| SJ.seq <| J.f ?_ ?_
 ·refine SJ.skip <| SJ.seq <| SJ.block (id := 1) <| SJ.sr 5 <| J.i 1 fun p11 => J.l 0 Ty5 fun x12 => J.z 2 <| SJ.seq <| SJ.sr 4 <| J.z 4 <| J.f ?_ ?_
  ·exact SJ.sr 1 <| J.z 1 <| J.r
  refine SJ.skip <| SJ.sr 5 <| J.i 2 fun p13 => J.l 0 Ty5 fun x14 => J.z 1 <| SJ.sr 4 <| J.C 2 F68 (Zfr _ _) fun r15 => J.z 1 <| SJ.sr 2 <| J.z 2 <| J.f ?_ ?_
  ·exact SJ.sr 2 <| J.z 2 <| J.r
  exact SJ.skip <| SJ.inBlock <| SJ.rg 2 <| J.z 2 <| J.o rfl
 refine SJ.exit (id := 0) (by rfl) <| SJ.seq <| SJ.sr 5 <| J.z 5 <| J.f ?_ ?_
 ·exact SJ.sr 1 <| J.z 1 <| J.r
 exact SJ.skip <| SJ.sr 1 <| J.z 1 <| J.r
noncomputable def ZaG (a0 : Sl) (a1 : Sl) : M Int :=
 ZbR (fun s_ : Int => ZaG.L1 a0 a1 s_) 0
theorem ZdN (a0 : Sl) (a1 : Sl) : Ref Tryd.prog 62 [Sl.v a0, Sl.v a1] (ZaG a0 a1) ZaG.out := by
 refine J.Fn Tryd.func62 ?_
 unfold ZaG
 exact SJ.sr 1 <| J.z 1 <| SJ.seq <| SJ.sr 3 <| J.z 3 <| SJ.block (id := 0) <| J.L (ZaG.L1_ok a0 a1)

/-! ### cmp.Or[int]: function 60 -/
noncomputable def Zbu.B : Code := bod Tryd.f60
noncomputable def Zbu.cx : Fx := ⟨Tryd.prog, 60, Tryd.f60, none⟩
noncomputable def Zbu.out (r_ : Int) : Value := .int .i64 r_
noncomputable def Zbu.F1 (a0 : Sl) : LF Int Int := ⟨[.inBlock 0, .code (c2 (c2 (c2 Zbu.B)))], c1 (c2 (c1 (c2 (c2 Zbu.B)))), fun s_ => [(3, .int .i64 0), (6, Sl.v a0), (7, .int .i64 (a0.len : Int)), (8, .int .i64 s_)], fun s_ => [], (rt Zbu.out)⟩
noncomputable def Zbu.L1 (a0 : Sl) (s1 : Int) : M (LS Int Int) :=
 if s1 < (a0.len : Int) then
  idx a0.a a0.len s1 1 >>= fun p6 =>
  ld (cI .i64) p6 >>= fun x7 =>
  if x7 ≠ 0 then
   pure (LS.done x7)
  else
   pure (LS.next (IntKind.wrap .i64 (s1 + 1)))
 else
  pure (LS.done 0)
theorem Zbu.L1_ok (a0 : Sl) : LJ Zbu.cx (Zbu.F1 a0) (fun s_ => Zbu.L1 a0 s_) := by
 rintro s1
 show SJ _ _ _ _ (Zbu.L1 a0 s1) _
 unfold Zbu.L1
 refine SJ.sr 1 <| J.z 1 <| SJ.seq <| J.f ?_ ?_
 ·refine SJ.skip <| SJ.seq <| SJ.block (id := 1) <| SJ.sr 3 <| J.i 0 fun p6 => J.l 0 Ty3 fun x7 => J.z 1 <| SJ.sr 3 <| J.z 3 <| J.f ?_ ?_
  ·exact SJ.sr 2 <| J.z 2 <| J.r
  exact SJ.skip <| SJ.inBlock <| SJ.rg 2 <| J.z 2 <| J.o rfl
 exact SJ.exit (id := 0) (by rfl) <| SJ.sr 2 <| J.z 2 <| J.r
noncomputable def Zbu (a0 : Sl) : M Int :=
 ZbR (fun s_ : Int => Zbu.L1 a0 s_) 0
theorem Zh3 (a0 : Sl) : Ref Tryd.prog 60 [Sl.v a0] (Zbu a0) Zbu.out := by
 refine J.Fn Tryd.func60 ?_
 unfold Zbu
 exact SJ.sr 1 <| J.z 1 <| SJ.sr 1 <| J.z 1 <| SJ.seq <| SJ.sr 3 <| J.z 3 <| SJ.block (id := 0) <| J.L (Zbu.L1_ok a0)

/-! ### weir/route.order: function 45 -/
noncomputable def Zcw.out (r_ : Int) : Value := .int .i64 r_
noncomputable def Zcw (a0 : Zab) (a1 : Zab) : M Int :=
 newv 32 Zac a0 >>= fun b1 =>
 newv 32 Zac a1 >>= fun b2 =>
 draw >>= fun _ =>
 ld (cI .i64) (pt b1 0) >>= fun x3 =>
 ld (cI .i64) (pt b2 0) >>= fun x4 =>
 ld (cI .i64) (Addr.add (pt b1 0) 17) >>= fun x5 =>
 ld (cI .i64) (Addr.add (pt b2 0) 17) >>= fun x6 =>
 Zb5 x3 x4 >>= fun r7 =>
 same (cI .i64) (Addr.add (pt b2 0) 17) x6 >>= fun _ =>
 same (cI .i64) (Addr.add (pt b1 0) 17) x5 >>= fun _ =>
 cut 1 ⟨some (Addr.add (pt b1 0) 1), 16, 16⟩ none none none >>= fun r8 =>
 cut 1 ⟨some (Addr.add (pt b2 0) 1), 16, 16⟩ none none none >>= fun r9 =>
 ZaG r8 r9 >>= fun r10 =>
 same (cI .i64) (Addr.add (pt b2 0) 17) x6 >>= fun _ =>
 same (cI .i64) (Addr.add (pt b1 0) 17) x5 >>= fun _ =>
 Zb5 x5 x6 >>= fun r11 =>
 newv 3 ((cI .i64).arr 3) (⟨[r7, r10, r11], rfl⟩ : Vec Int 3) >>= fun b12 =>
 Zbu (⟨some (pt b12 0), 3, 3⟩ : Sl) >>= fun r13 =>
 pure r13
theorem Zhd (a0 : Zab) (a1 : Zab) : Ref Tryd.prog 45 [Zac.val a0, Zac.val a1] (Zcw a0 a1) Zcw.out := by
 refine J.Fn Tryd.func45 ?_
 unfold Zcw
 exact SJ.sr 3 <| J.B 0 fun b1 => J.B 0 fun b2 => J.z 1 <| SJ.seq <| J.D [0, 1, 2, 3, 4, 5, 6, 7, 18, 19, 20, 21, 22, 23, 8, 9, 10, 11, 12, 13, 14, 15, 16, 17, 24, 25, 26, 27] ZbO <| J.l 3 Ty3 fun x3 => J.l 3 Ty3 fun x4 => J.l 2 Ty3 fun x5 => J.l 2 Ty3 fun x6 => OJ.call (d := 13) (g := 61) (ats := #[3, 3]) (args := [.tmp 8, .tmp 12]) (owed := [⟨23, 3, (Addr.add (pt b2 0) 17), (cI .i64).val x6⟩, ⟨20, 3, (Addr.add (pt b1 0) 17), (cI .i64).val x5⟩]) F61 (Zd9 x3 x4) fun r7 => OW.same Ty3 <| OW.same Ty3 <| OW.nil <| J.ca 3 fun r8 => J.ca 3 fun r9 => OJ.call (d := 22) (g := 62) (ats := #[114, 114]) (args := [.tmp 17, .tmp 21]) (owed := [⟨23, 3, (Addr.add (pt b2 0) 17), (cI .i64).val x6⟩, ⟨20, 3, (Addr.add (pt b1 0) 17), (cI .i64).val x5⟩]) F62 (ZdN r8 r9) fun r10 => OW.same Ty3 <| OW.same Ty3 <| OW.nil <| J.C 0 F61 (Zd9 _ _) fun r11 => J.N 0 Ty3 fun b12 => J.C 0 F60 (Zh3 _) fun r13 => J.z 1 <| J.r

/-! ### (*weir/route.Table).All$1: function 42 -/
noncomputable def ZaQ.B : Code := bod Tryd.f42
noncomputable def ZaQ.cx : Fx := ⟨Tryd.prog, 42, Tryd.f42, none⟩
noncomputable def ZaQ.out (r_ : Unit) : Value := .tuple #[]
noncomputable def ZaQ.F1 (a0v : Any) (r7 : Sl) : LF Int Unit := ⟨[.inBlock 0], c1 (c2 ZaQ.B), fun s_ => [(0, a0v.v), (10, Sl.v r7), (11, .int .i64 (r7.len : Int)), (12, .int .i64 s_)], fun s_ => [], (rt ZaQ.out)⟩
noncomputable def ZaQ.L1 (a0 : Zab → M Bool) (r7 : Sl) (s8 : Int) : M (LS Int Unit) :=
 if s8 < (r7.len : Int) then
  idx r7.a r7.len s8 36 >>= fun p9 =>
  ld Zac p9 >>= fun x10 =>
  slot 32 >>= fun b11 =>
  a0 x10 >>= fun r12 =>
  if ¬ (r12 = true) then
   pure (LS.done ())
  else
   pure (LS.next (IntKind.wrap .i64 (s8 + 1)))
 else
  pure (LS.done ())
theorem ZaQ.L1_ok (a0v : Any) (a0 : Zab → M Bool) (h_a0 : ∀ (x0_ : Zab), RefV Tryd.prog a0v.v [Zac.val x0_] (a0 x0_) (fun r_ : Bool => .bool r_)) (r7 : Sl) : LJ ZaQ.cx (ZaQ.F1 a0v r7) (fun s_ => ZaQ.L1 a0 r7 s_) := by
 rintro s8
 show SJ _ _ _ _ (ZaQ.L1 a0 r7 s8) _
 unfold ZaQ.L1
 refine SJ.sr 1 <| J.z 1 <| SJ.seq <| J.f ?_ ?_
 ·refine SJ.skip <| SJ.seq <| SJ.block (id := 1) <| SJ.sr 4 <| J.i 0 fun p9 => J.l 0 Ty32 fun x10 => J.a 0 Ty32 fun b11 => J.s 0 0 rfl Ty32 (Upd.w x10) <| J.z 0 <| SJ.sr 4 <| J.k 1 0 rfl Ty32 (At.whole _) <| J.v 0 (h_a0 x10) fun r12 => J.z 1 <| J.f ?_ ?_
  ·exact J.r
  exact SJ.skip <| SJ.inBlock <| SJ.rg 2 <| J.z 2 <| SJ.forget (List.Sublist.cons _ List.Sublist.slnil) <| J.o rfl
 exact SJ.exit (id := 0) (by rfl) <| SJ.end_ rfl (Res.run (ys := []) .nil rfl)
noncomputable def ZaQ (a0 : Zab → M Bool) (a1 : Addr) : M Unit :=
 ld cP a1 >>= fun x1 =>
 nilck x1 >>= fun p2 =>
 ld cM p2 >>= fun x3 =>
 ZaN x3 >>= fun r4 =>
 Zbs r4 (fun (q5 : Zab) (q6 : Zab) => Zcw q5 q6) >>= fun r7 =>
 ZbR (fun s_ : Int => ZaQ.L1 a0 r7 s_) 0
theorem Zc4 (a0v : Any) (a0 : Zab → M Bool) (h_a0 : ∀ (x0_ : Zab), RefV Tryd.prog a0v.v [Zac.val x0_] (a0 x0_) (fun r_ : Bool => .bool r_)) (a1 : Addr) : Ref Tryd.prog 42 [a0v.v, .pointer (some a1)] (ZaQ a0 a1) ZaQ.out := by
 refine J.Fn Tryd.func42 ?_
 unfold ZaQ
 exact SJ.sr 8 <| J.l 0 Ty22 fun x1 => J.n 0 fun p2 => J.l 1 Ty79 fun x3 => J.C 0 F44 (ZbX _) fun r4 => J.C 0 F43 (Zdz r4 ⟨.func (.func 45) #[] #[], rfl⟩ (fun (q5 : Zab) (q6 : Zab) => Zcw q5 q6) (fun q5 q6 => RefV.of (first := []) (cap := []) F45 (Zhd q5 q6))) fun r7 => J.z 2 <| SJ.block (id := 0) <| J.L (ZaQ.L1_ok a0v a0 h_a0 r7)

/-! ### (*weir/route.Table).All: function 24 -/
noncomputable def ZbF.out (r_ : Any) : Value := r_.v
noncomputable def ZbF (a0 : (Option Addr)) : M Any :=
 newv 22 cP a0 >>= fun b1 =>
 pure ⟨.func (.func 42) #[] #[.pointer (some (pt b1 0))], rfl⟩
theorem Zcq (a0 : (Option Addr)) : Ref Tryd.prog 24 [.pointer a0] (ZbF a0) ZbF.out := by
 refine J.Fn Tryd.func24 ?_
 unfold ZbF
 exact SJ.sr 2 <| J.B 0 fun b1 => J.z 1 <| SJ.sr 2 <| J.z 2 <| J.r

/-! ### weir/weirlaw14.route0: function 16 -/
noncomputable def Zb7.out (r_ : Zab) : Value := Zac.val r_
noncomputable def Zb7  : M Zab :=
 slot 32 >>= fun b1 =>
 pure (⟨(⟨(⟨4, (⟨[10, 0, 0, 0, 0, 0, 0, 0, 0, 0, 0, 0, 0, 0, 0, 0], rfl⟩ : (Vec Int 16))⟩ : ZaH), 8⟩ : Zar), 1, Zaa.Via⟩ : Zab)
theorem Zfi  : Ref Tryd.prog 16 [] (Zb7) Zb7.out := by
 refine J.Fn Tryd.func16 ?_
 unfold Zb7
 exact SJ.sr 1 <| J.a 0 Ty32 fun b1 => J.z 0 <| SJ.sr 5 <| OJ.build (d := 1) (T := 26) (parts := [(0, .const (.int .u8 10))]) (ps := [(0, (cI .u8).val 10)]) (cd := ((cI .u8).arr 16)) (z0 := (Vec.rep 16 0)) (⟨[10, 0, 0, 0, 0, 0, 0, 0, 0, 0, 0, 0, 0, 0, 0, 0], rfl⟩ : (Vec Int 16)) Ty26 rfl (Zav.cons (cd := (cI .u8)) (q := 10) (o := 0) (by kernel_rfl) (Upd.arr (i := 0) (by decide) (by decide)) Zav.nil) <| J.u 0 Ty28 (.f 0 (Zdv _ 4) (.f 1 (ZdX _ (⟨[10, 0, 0, 0, 0, 0, 0, 0, 0, 0, 0, 0, 0, 0, 0, 0], rfl⟩ : (Vec Int 16))) .nil)) <| J.u 0 Ty30 (.f 0 (Zdc _ (⟨4, (⟨[10, 0, 0, 0, 0, 0, 0, 0, 0, 0, 0, 0, 0, 0, 0, 0], rfl⟩ : (Vec Int 16))⟩ : ZaH)) (.f 1 (Zdu _ 8) .nil)) <| J.u 0 Ty32 (.f 0 (ZdW _ (⟨(⟨4, (⟨[10, 0, 0, 0, 0, 0, 0, 0, 0, 0, 0, 0, 0, 0, 0, 0], rfl⟩ : (Vec Int 16))⟩ : ZaH), 8⟩ : Zar)) (.f 1 (Zc3 _ 1) .nil)) <| J.s 0 0 rfl Ty32 (Upd.w (⟨(⟨(⟨4, (⟨[10, 0, 0, 0, 0, 0, 0, 0, 0, 0, 0, 0, 0, 0, 0, 0], rfl⟩ : (Vec Int 16))⟩ : ZaH), 8⟩ : Zar), 1, Zaa.Via⟩ : Zab)) <| J.z 0 <| J.rc (.c 0 rfl Ty32 .n)

/-! ### weir/addr.size: function 50 -/
noncomputable def ZdB.out (r_ : Int) : Value := .int .i64 r_
noncomputable def ZdB (a0 : ZaH) : M Int :=
 newv 28 ZaI a0 >>= fun b1 =>
 ld (cI .i64) (pt b1 0) >>= fun x2 =>
 if x2 = 6 then
  pure 128
 else
  ld (cI .i64) (pt b1 0) >>= fun x3 =>
  (if x3 ≠ 4 then
    pure true
   else
    cut 1 ⟨some (Addr.add (pt b1 0) 1), 16, 16⟩ (some 4) none none >>= fun r4 =>
    (chk (12 ≤ r4.len) >>= fun _ => nilck r4.a) >>= fun p5 =>
    ld ((cI .u8).arr 12) p5 >>= fun x6 =>
    pure (!eqv x6 (⟨[0, 0, 0, 0, 0, 0, 0, 0, 0, 0, 0, 0], rfl⟩ : (Vec Int 12)))) >>= fun y7 =>
  if y7 = true then
   pure 0
  else
   pure 32
theorem Zgl (a0 : ZaH) : Ref Tryd.prog 50 [ZaI.val a0] (ZdB a0) ZdB.out := by
 refine J.Fn Tryd.func50 ?_
 unfold ZdB
 refine SJ.sr 2 <| J.B 0 fun b1 => J.z 1 <| SJ.seq <| SJ.sr 3 <| J.l 1 Ty3 fun x2 => J.z 1 <| J.f ?_ ?_
 ·exact SJ.sr 1 <| J.z 1 <| J.r
 refine SJ.skip <| SJ.seq <| SJ.sr 11 <| J.l 1 Ty3 fun x3 => J.j 2 6 .bool ?_ ?_ fun y7 => ?_
 ·exact J.e 7
 ·exact J.ca 1 fun r4 => OJ.toArr (d := 12) (t := 115) (E := 5) (y := .tmp 11) (s := r4) fun p5 => J.l 0 ZnK fun x6 => J.u 0 ZnK .nil <| OJ.neq (d := 15) (T := 115) (yT := 115) (y := .tmp 13) (z := .tmp 14) (cd := ((cI .u8).arr 12)) (p := x6) (q := (⟨[0, 0, 0, 0, 0, 0, 0, 0, 0, 0, 0, 0], rfl⟩ : (Vec Int 12))) rfl ZnX <| J.e 1
 refine J.z 0 <| J.f ?_ ?_
 ·exact SJ.sr 1 <| J.z 1 <| J.r
 exact SJ.skip <| SJ.sr 1 <| J.z 1 <| J.r

/-! ### weir/addr.Valid: function 32 -/
noncomputable def ZcQ.out (r_ : Bool) : Value := .bool r_
noncomputable def ZcQ (a0 : ZaH) : M Bool :=
 slot 28 >>= fun b1 =>
 ZdB a0 >>= fun r2 =>
 pure (decide (r2 > 0))
theorem ZdH (a0 : ZaH) : Ref Tryd.prog 32 [ZaI.val a0] (ZcQ a0) ZcQ.out := by
 refine J.Fn Tryd.func32 ?_
 unfold ZcQ
 exact SJ.sr 2 <| J.b 0 ZaI a0 fun b1 => J.z 1 <| SJ.sr 4 <| J.k 0 0 rfl Ty28 (At.whole _) <| J.C 0 F50 (Zgl _) fun r2 => J.z 2 <| J.r

/-! ### weir/route.bits: function 48 -/
noncomputable def Zdj.out (r_ : Int) : Value := .int .i64 r_
noncomputable def Zdj (a0 : Int) : M Int :=
 if a0 = 4 then
  pure 32
 else
  pure 128
theorem ZfC (a0 : Int) : Ref Tryd.prog 48 [.int .i64 a0] (Zdj a0) Zdj.out := by
 refine J.Fn Tryd.func48 ?_
 unfold Zdj
 refine SJ.sr 1 <| J.z 1 <| SJ.seq <| SJ.sr 2 <| J.z 2 <| J.f ?_ ?_
 ·exact SJ.sr 1 <| J.z 1 <| J.r
 exact SJ.skip <| SJ.sr 1 <| J.z 1 <| J.r

/-! ### weir/addr.masked: function 40 -/
noncomputable def Zbm.B : Code := bod Tryd.f40
noncomputable def Zbm.cx : Fx := ⟨Tryd.prog, 40, Tryd.f40, none⟩
noncomputable def Zbm.out (r_ : (Vec Int 16)) : Value := ((cI .u8).arr 16).val r_
noncomputable def Zbm.F1 (a0 : (Vec Int 16)) (a1 : Int) (b1 : Nat) (b2 : Nat) (b3 : Nat) : LF (Int × (Vec Int 16)) (Vec Int 16) := ⟨[.inBlock 0, .code (c2 (c2 (c2 Zbm.B)))], c1 (c2 (c1 (c2 (c2 Zbm.B)))), fun s_ => [(1, .int .i64 a1), (2, .pointer (some (pt b1 0))), (4, .pointer (some (pt b2 0))), (5, .pointer (some (pt b3 0))), (8, .int .i64 s_.1)], fun s_ => [(b3, ((cI .u8).arr 16).enc s_.2), (b2, ((cI .u8).arr 16).enc (Vec.rep 16 0)), (b1, ((cI .u8).arr 16).enc a0)], (rt Zbm.out)⟩
noncomputable def Zbm.L1 (a0 : (Vec Int 16)) (a1 : Int) (s4 : Int) (s5 : (Vec Int 16)) : M (LS (Int × (Vec Int 16)) (Vec Int 16)) :=
 if s4 < 16 then
  chk ((0 : Int) ≤ s4 ∧ s4 < (16 : Nat)) >>= fun _ =>
  chk (0 ≤ (IntKind.wrap .u64 (if (if 0 < (IntKind.wrap .i64 (a1 - (IntKind.wrap .i64 (8 * s4)))) then (IntKind.wrap .i64 (a1 - (IntKind.wrap .i64 (8 * s4)))) else 0) < 8 then (if 0 < (IntKind.wrap .i64 (a1 - (IntKind.wrap .i64 (8 * s4)))) then (IntKind.wrap .i64 (a1 - (IntKind.wrap .i64 (8 * s4)))) else 0) else 8))) >>= fun _ =>
  chk ((0 : Int) ≤ s4 ∧ s4 < (16 : Nat)) >>= fun _ =>
  pure (LS.next (IntKind.wrap .i64 (s4 + 1), (Vec.s s5 s4 (band .u8 (Vec.g a0 s4 0) (IntKind.wrap .u8 (Int.fdiv 65280 (2 ^ min (Int.toNat (IntKind.wrap .u64 (if (if 0 < (IntKind.wrap .i64 (a1 - (IntKind.wrap .i64 (8 * s4)))) then (IntKind.wrap .i64 (a1 - (IntKind.wrap .i64 (8 * s4)))) else 0) < 8 then (if 0 < (IntKind.wrap .i64 (a1 - (IntKind.wrap .i64 (8 * s4)))) then (IntKind.wrap .i64 (a1 - (IntKind.wrap .i64 (8 * s4)))) else 0) else 8))) 64)))))))
 else
  pure (LS.done s5)
theorem Zbm.L1_ok (a0 : (Vec Int 16)) (a1 : Int) (b1 : Nat) (b2 : Nat) (b3 : Nat) : LJ Zbm.cx (Zbm.F1 a0 a1 b1 b2 b3) (fun s_ => Zbm.L1 a0 a1 s_.1 s_.2) := by
 rintro ⟨s4, s5⟩
 show SJ _ _ _ _ (Zbm.L1 a0 a1 s4 s5) _
 unfold Zbm.L1
 refine SJ.sr 1 <| J.z 1 <| SJ.seq <| J.f ?_ ?_
 ·exact SJ.skip <| SJ.seq <| SJ.block (id := 1) <| SJ.sr 2 <| J.z 2 <| SJ.sr 7 <| J.g 4 <| OJ.max (d := 15) (t := 3) (u := 3) (so := .const (.int .i64 0)) (xo := .tmp 14) (k := .i64) (p := 0) (q := (IntKind.wrap .i64 (a1 - (IntKind.wrap .i64 (8 * s4))))) <| OJ.min (d := 16) (t := 3) (u := 3) (so := .const (.int .i64 8)) (xo := .tmp 15) (k := .i64) (p := 8) (q := (if 0 < (IntKind.wrap .i64 (a1 - (IntKind.wrap .i64 (8 * s4)))) then (IntKind.wrap .i64 (a1 - (IntKind.wrap .i64 (8 * s4)))) else 0)) <| J.z 1 <| SJ.rg 11 <| J.y 2 fun hb12 hb13 => J.k 0 2 rfl Ty5 (At.zero (At.arr (z := 0) hb12 hb13)) <| J.g 2 <| OJ.shr (d := 23) (T := 3) (yT := 108) (y := .const (.int .i64 65280)) (z := .tmp 22) (k := .i64) (yk := .u64) (p := 65280) (q := (IntKind.wrap .u64 (if (if 0 < (IntKind.wrap .i64 (a1 - (IntKind.wrap .i64 (8 * s4)))) then (IntKind.wrap .i64 (a1 - (IntKind.wrap .i64 (8 * s4)))) else 0) < 8 then (if 0 < (IntKind.wrap .i64 (a1 - (IntKind.wrap .i64 (8 * s4)))) then (IntKind.wrap .i64 (a1 - (IntKind.wrap .i64 (8 * s4)))) else 0) else 8))) fun hq16 => J.y 2 fun hb14 hb15 => J.s (u := (band .u8 (Vec.g a0 s4 0) (IntKind.wrap .u8 (Int.fdiv 65280 (2 ^ min (Int.toNat (IntKind.wrap .u64 (if (if 0 < (IntKind.wrap .i64 (a1 - (IntKind.wrap .i64 (8 * s4)))) then (IntKind.wrap .i64 (a1 - (IntKind.wrap .i64 (8 * s4)))) else 0) < 8 then (if 0 < (IntKind.wrap .i64 (a1 - (IntKind.wrap .i64 (8 * s4)))) then (IntKind.wrap .i64 (a1 - (IntKind.wrap .i64 (8 * s4)))) else 0) else 8))) 64))))) 0 0 rfl Ty5 (Upd.zero (Upd.arr hb14 hb15)) <| J.z 0 <| SJ.inBlock <| SJ.rg 2 <| J.z 2 <| J.o rfl
 exact SJ.exit (id := 0) (by rfl) <| SJ.sr 2 <| J.k 0 0 rfl Ty26 (At.whole _) <| J.s 0 1 rfl Ty26 (Upd.w s5) <| J.z 0 <| J.rc (.c 1 rfl Ty26 .n)
noncomputable def Zbm (a0 : (Vec Int 16)) (a1 : Int) : M (Vec Int 16) :=
 slot 26 >>= fun b1 =>
 slot 26 >>= fun b2 =>
 slot 26 >>= fun b3 =>
 ZbR (fun s_ : (Int × (Vec Int 16)) => Zbm.L1 a0 a1 s_.1 s_.2) (0, (Vec.rep 16 0))
theorem Zfe (a0 : (Vec Int 16)) (a1 : Int) : Ref Tryd.prog 40 [((cI .u8).arr 16).val a0, .int .i64 a1] (Zbm a0 a1) Zbm.out := by
 refine J.Fn Tryd.func40 ?_
 unfold Zbm
 exact SJ.sr 2 <| J.b 0 ((cI .u8).arr 16) a0 fun b1 => J.a 0 Ty26 fun b2 => J.z 0 <| SJ.sr 1 <| J.a 0 Ty26 fun b3 => J.z 0 <| SJ.seq <| SJ.sr 1 <| J.z 1 <| SJ.block (id := 0) <| J.L (Zbm.L1_ok a0 a1 b1 b2 b3)

/-! ### weir/addr.Mask: function 49 -/
noncomputable def ZdC.out (r_ : (ZaH × Int)) : Value := .tuple #[ZaI.val r_.1, .int .i64 r_.2]
noncomputable def ZdC (a0 : ZaH) (a1 : Int) : M (ZaH × Int) :=
 slot 28 >>= fun b1 =>
 slot 28 >>= fun b2 =>
 ZdB a0 >>= fun r3 =>
 if r3 = 0 then
  pure (Zby, 40)
 else
  (if a1 < 0 then
    pure true
   else
    pure (decide (a1 > r3))) >>= fun y6 =>
  if y6 = true then
   pure (Zby, 45)
  else
   draw >>= fun _ =>
   Zbm a0.A a1 >>= fun r7 =>
   pure ((⟨a0.V, r7⟩ : ZaH), 0)
theorem Zgm (a0 : ZaH) (a1 : Int) : Ref Tryd.prog 49 [ZaI.val a0, .int .i64 a1] (ZdC a0 a1) ZdC.out := by
 refine J.Fn Tryd.func49 ?_
 unfold ZdC
 refine SJ.sr 3 <| J.b 0 ZaI a0 fun b1 => J.a 0 Ty28 fun b2 => J.z 1 <| SJ.seq <| SJ.sr 3 <| J.k 0 1 rfl Ty28 (At.whole _) <| J.C 0 F50 (Zgl _) fun r3 => J.z 1 <| SJ.block (id := 0) <| SJ.sr 3 <| J.z 3 <| J.f ?_ ?_
 ·exact SJ.sr 3 <| J.u 0 Ty28 .nil <| J.s 0 0 rfl Ty28 (Upd.w Zby) <| J.z 1 <| J.rc (.c 0 rfl Ty28 .n)
 refine SJ.sr 8 <| J.j 3 3 .bool ?_ ?_ fun y6 => ?_
 ·exact J.e 4
 ·exact J.e 4
 refine J.z 1 <| J.f ?_ ?_
 ·exact SJ.sr 3 <| J.u 0 Ty28 .nil <| J.s 0 0 rfl Ty28 (Upd.w Zby) <| J.z 1 <| J.rc (.c 0 rfl Ty28 .n)
 exact SJ.skip <| SJ.inBlock <| SJ.seq <| J.R 9 ZbO <| J.k 1 1 rfl Ty3 (Zbp _) <| J.k 1 1 rfl Ty26 (ZbW _) <| J.g 1 <| OJ.call (d := 27) (g := 40) (ats := #[26, 3]) (args := [.tmp 25, .tmp 26]) (owed := [⟨1, 3, (pt b1 0), (cI .i64).val a0.V⟩]) F40 (Zfe a0.A a1) fun r7 => OW.known (j := 1) (q := a0.V) Ty3 rfl (Zbp a0) <| OW.nil <| J.u 0 Ty28 (.f 0 (Zdv _ a0.V) (.f 1 (ZdX _ r7) .nil)) <| J.s 0 0 rfl Ty28 (Upd.w (⟨a0.V, r7⟩ : ZaH)) <| J.z 1 <| J.rc (.c 0 rfl Ty28 .n)

/-! ### weir/route.isPrefix: function 30 -/
noncomputable def Zcx.out (r_ : Bool) : Value := .bool r_
noncomputable def Zcx (a0 : Zar) : M Bool :=
 slot 30 >>= fun b1 =>
 draw >>= fun _ =>
 ZcQ a0.IP >>= fun r2 =>
 (if ¬ (r2 = true) then
   pure true
  else
   pure (decide (a0.Len < 0))) >>= fun y3 =>
 (if y3 = true then
   pure true
  else
   Zdj a0.IP.V >>= fun r4 =>
   pure (decide (a0.Len > r4))) >>= fun y5 =>
 if y5 = true then
  pure false
 else
  ZdC a0.IP a0.Len >>= fun r6 =>
  slot 28 >>= fun b7 =>
  (if r6.2 = 0 then
    pure (eqv r6.1 a0.IP)
   else
    pure false) >>= fun y8 =>
  pure y8
theorem Zf1 (a0 : Zar) : Ref Tryd.prog 30 [ZaA.val a0] (Zcx a0) Zcx.out := by
 refine J.Fn Tryd.func30 ?_
 unfold Zcx
 refine SJ.sr 2 <| J.b 0 ZaA a0 fun b1 => J.z 1 <| SJ.seq <| SJ.seq <| J.R 18 ZbO <| J.k 1 0 rfl Ty28 (Za6 _) <| J.C 0 F32 (ZdH _) fun r2 => J.j 2 3 .bool ?_ ?_ fun y3 => ?_
 ·exact J.e 4
 ·exact J.k 1 0 rfl Ty3 (Zbl _) <| J.e 2
 refine J.j 1 7 .bool ?_ ?_ fun y5 => ?_
 ·exact J.e 8
 ·exact J.k 1 0 rfl Ty3 (Zbl _) <| J.k 2 0 rfl Ty3 (At.trans (Za6 _) (Zbp _)) <| OJ.call (d := 20) (g := 48) (ats := #[3]) (args := [.tmp 19]) (owed := [⟨11, 3, (pt b1 17), (cI .i64).val a0.Len⟩]) F48 (ZfC a0.IP.V) fun r4 => OW.known (j := 0) (q := a0.Len) Ty3 rfl (Zbl a0) <| OW.nil <| J.e 2
 refine J.z 0 <| J.f ?_ ?_
 ·exact SJ.sr 1 <| J.z 1 <| J.r
 refine SJ.skip <| SJ.sr 11 <| J.k 1 0 rfl Ty28 (Za6 _) <| J.k 1 0 rfl Ty3 (Zbl _) <| J.C 0 F49 (Zgm _ _) fun r6 => J.a 3 Ty28 fun b7 => J.s 0 0 rfl Ty28 (Upd.w r6.1) <| J.z 1 <| SJ.sr 9 <| J.j 3 4 .bool ?_ ?_ fun y8 => ?_
 ·exact J.k 0 0 rfl Ty28 (At.whole _) <| J.k 1 1 rfl Ty28 (Za6 _) <| OJ.eql (d := 37) (T := 28) (yT := 28) (y := .tmp 34) (z := .tmp 36) (cd := ZaI) (p := r6.1) (q := a0.IP) rfl Eq28 <| J.e 1
 ·exact J.e 5
 exact J.z 1 <| J.r

/-! ### weir/addr.Class: function 31 -/
noncomputable def Zbv.B : Code := bod Tryd.f31
noncomputable def Zbv.cx : Fx := ⟨Tryd.prog, 31, Tryd.f31, none⟩
noncomputable def Zbv.out (r_ : Int) : Value := .int .i64 r_
noncomputable def Zbv.F1 (a0 : ZaH) (b1 : Nat) (x3 : (Vec Zb3 12)) : LF Int Int := ⟨[.inBlock 0, .code (c2 (c2 (c2 Zbv.B)))], c1 (c2 (c1 (c2 (c2 Zbv.B)))), fun s_ => [(1, .pointer (some (pt b1 0))), (8, (Zcf.arr 12).val x3), (9, .int .i64 s_)], fun s_ => [(b1, ZaI.enc a0)], (rt Zbv.out)⟩
noncomputable def Zbv.L1 (a0 : ZaH) (x3 : (Vec Zb3 12)) (s4 : Int) : M (LS Int Int) :=
 if s4 < 12 then
  chk ((0 : Int) ≤ s4 ∧ s4 < (12 : Nat)) >>= fun _ =>
  slot 104 >>= fun b14 =>
  draw >>= fun _ =>
  (if ((Vec.g x3 s4 Zb6).v) = a0.V then
    Zbm a0.A ((Vec.g x3 s4 Zb6).bits) >>= fun r15 =>
    pure (eqv r15 ((Vec.g x3 s4 Zb6).a))
   else
    pure false) >>= fun y16 =>
  if y16 = true then
   pure (LS.done ((Vec.g x3 s4 Zb6).class_))
  else
   pure (LS.next (IntKind.wrap .i64 (s4 + 1)))
 else
  pure (LS.done 7)
theorem Zbv.L1_ok (a0 : ZaH) (b1 : Nat) (x3 : (Vec Zb3 12)) : LJ Zbv.cx (Zbv.F1 a0 b1 x3) (fun s_ => Zbv.L1 a0 x3 s_) := by
 rintro s4
 show SJ _ _ _ _ (Zbv.L1 a0 x3 s4) _
 unfold Zbv.L1
 refine SJ.sr 1 <| J.z 1 <| SJ.seq <| J.f ?_ ?_
 ·refine SJ.skip <| SJ.seq <| SJ.block (id := 1) <| SJ.sr 3 <| OJ.idxV (d := 11) (T := 105) (E := 104) (y := .tmp 8) (j := .tmp 9) (k := .i64) (v0 := x3) Zne fun hb12 hb13 => J.a 0 Zne fun b14 => J.s 0 0 rfl Zne (Upd.w (Vec.g x3 s4 Zb6)) <| J.z 0 <| SJ.seq <| J.D [0, 1, 2, 3, 4, 5, 6, 7, 8, 9, 11, 12, 10, 13, 14] ZbO <| J.k 1 0 rfl Ty3 (Zh7 _) <| J.k 1 1 rfl Ty3 (Zbp _) <| J.j 2 8 .bool ?_ ?_ fun y16 => ?_
  ·exact J.k 1 1 rfl Ty26 (ZbW _) <| J.k 1 0 rfl Ty3 (Zgs _) <| J.k 1 0 rfl Ty26 (ZfT _) <| OJ.call (d := 22) (g := 40) (ats := #[26, 3]) (args := [.tmp 19, .tmp 21]) (owed := [⟨12, 26, (pt b14 1), ((cI .u8).arr 16).val ((Vec.g x3 s4 Zb6).a)⟩]) F40 (Zfe a0.A ((Vec.g x3 s4 Zb6).bits)) fun r15 => OW.known (j := 0) (q := ((Vec.g x3 s4 Zb6).a)) Ty26 rfl (ZfT (Vec.g x3 s4 Zb6)) <| OW.nil <| OJ.eql (d := 25) (T := 26) (yT := 26) (y := .tmp 22) (z := .tmp 24) (cd := ((cI .u8).arr 16)) (p := r15) (q := ((Vec.g x3 s4 Zb6).a)) rfl Eq26 <| J.e 1
  ·exact J.e 9
  refine J.z 0 <| J.f ?_ ?_
  ·exact SJ.sr 3 <| J.k 1 0 rfl Ty3 (ZfS _) <| J.z 1 <| J.r
  exact SJ.skip <| SJ.inBlock <| SJ.rg 2 <| J.z 2 <| SJ.forget (List.Sublist.cons _ (List.Sublist.cons_cons _ List.Sublist.slnil)) <| J.o rfl
 exact SJ.exit (id := 0) (by rfl) <| SJ.sr 1 <| J.z 1 <| J.r
noncomputable def Zbv (a0 : ZaH) : M Int :=
 slot 28 >>= fun b1 =>
 ZcQ a0 >>= fun r2 =>
 if ¬ (r2 = true) then
  pure 0
 else
  ld (Zcf.arr 12) ⟨0, 0, none⟩ >>= fun x3 =>
  ZbR (fun s_ : Int => Zbv.L1 a0 x3 s_) 0
theorem Zh5 (a0 : ZaH) : Ref Tryd.prog 31 [ZaI.val a0] (Zbv a0) Zbv.out := by
 refine J.Fn Tryd.func31 ?_
 unfold Zbv
 refine SJ.sr 2 <| J.b 0 ZaI a0 fun b1 => J.z 1 <| SJ.seq <| SJ.sr 3 <| J.k 0 0 rfl Ty28 (At.whole _) <| J.C 0 F32 (ZdH _) fun r2 => J.z 1 <| J.f ?_ ?_
 ·exact SJ.sr 1 <| J.z 1 <| J.r
 exact SJ.skip <| SJ.seq <| SJ.sr 2 <| J.l 0 ZnV fun x3 => J.z 1 <| SJ.block (id := 0) <| J.L (Zbv.L1_ok a0 b1 x3)
end Go.Proofs.YtfgcobigollfjaaDoor.Lx
