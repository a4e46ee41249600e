/- Programs of the M-world for Go functions, each with the proof that the Go text does what it says. Printed by lxgen.py. -/
import Derived.Test.YtfgcobigollfjaaDoorLxT
import Derived.Test.YtfgcobigollfjaaDoorLxP0
import Derived.Test.YtfgcobigollfjaaDoorLxP1
import Derived.Test.YtfgcobigollfjaaDoorLxP2
set_option linter.unusedVariables false
set_option linter.unusedSimpArgs false
set_option linter.unusedSectionVars false
namespace Go.Proofs.YtfgcobigollfjaaDoor.Lx
open Go Go.Proofs
variable [ZbS]
/-! ### weir/weirlaw14.ranged: function 26 -/
noncomputable def ZaE.B : Code := bod Tryd.f26
noncomputable def ZaE.cx : Fx := ⟨Tryd.prog, 26, Tryd.f26, none⟩
noncomputable def ZaE.out (r_ : Bool) : Value := .bool r_
noncomputable def ZaE.rx (l_ : Nat) : Fx := ⟨Tryd.prog, 26, Tryd.f26, some l_⟩
noncomputable def ZaE.it (f_ : Any) (y_ : Zab → M Bool) : M Unit :=
 (Zea f_.v).elim fail (fun q_ => if q_.1 = 42 then ZaQ y_ q_.2 else if q_.1 = 59 then Zah y_ q_.2 else fail)
theorem ZaE.it_ok (f_ yv_ : Any) (y_ : Zab → M Bool) (hy_ : ∀ x_, RefV Tryd.prog yv_.v [Zac.val x_] (y_ x_) Value.bool) : RefI Tryd.prog f_.v [yv_.v] (ZaE.it f_ y_) (fun _ => .tuple #[]) := by
  intro v r v' e
  unfold ZaE.it at e
  cases hf_ : Zea f_.v with
  | none => rw [hf_] at e; cases e
  | some q_ =>
    obtain ⟨g_, p0⟩ := q_
    rw [hf_] at e
    simp only [Option.elim] at e
    by_cases hg_ : g_ = 42
    · subst hg_
      rw [if_pos rfl] at e
      have h_ := RefI.of (first := []) (vals := [yv_.v]) (cap := [.pointer (some p0)]) F42 (Zc4 yv_ y_ hy_ p0) v r v' e
      rw [Zdm hf_]
      exact h_
    rw [if_neg hg_] at e
    by_cases hg_ : g_ = 59
    · subst hg_
      rw [if_pos rfl] at e
      have h_ := RefI.of (first := []) (vals := [yv_.v]) (cap := [.pointer (some p0)]) F59 (Za4 yv_ y_ hy_ p0) v r v' e
      rw [Zdm hf_]
      exact h_
    rw [if_neg hg_] at e
    cases e
noncomputable def ZaE.K1 (a2 : Sl) (b1 : Nat) (b3 : Nat) : M Bool :=
 ld (cI .i64) (pt b1 0) >>= fun x13 =>
 (if x13 > 0 then
   ld (cI .i64) (pt b1 0) >>= fun x14 =>
   pure (decide (x14 < (a2.len : Int)))
  else
   pure false) >>= fun y15 =>
 if y15 = true then
  ld (cI .i64) (pt b1 0) >>= fun x18 =>
  cut 36 a2 none (some x18) none >>= fun r19 =>
  ld cL (pt b3 0) >>= fun x20 =>
  ZaZ x20 r19 >>= fun r21 =>
  pure r21
 else
  ld cL (pt b3 0) >>= fun x22 =>
  ZaZ x22 a2 >>= fun r23 =>
  pure r23
theorem ZaE.K1_ok (a2 : Sl) (b1 : Nat) (b3 : Nat) :
  SJ ZaE.cx [.code (c2 (c2 (c2 (c2 ZaE.B))))] [(2, Sl.v a2), (4, .pointer (some (pt b1 0))), (7, .pointer (some (pt b3 0)))] [] (ZaE.K1 a2 b1 b3) (rt ZaE.out) := by
 unfold ZaE.K1
 refine SJ.seq <| SJ.sr 8 <| J.l 0 Ty3 fun x13 => J.j 2 4 .bool ?_ ?_ fun y15 => ?_
 ·exact J.l 0 Ty3 fun x14 => J.e 4
 ·exact J.e 5
 refine J.z 0 <| J.f ?_ ?_
 ·exact SJ.rg 4 <| J.l 1 Ty3 fun x18 => J.cs 0 fun r19 => J.z 1 <| SJ.sr 4 <| J.l 0 Ty39 fun x20 => J.C 1 F20 (Zc0 _ _) fun r21 => J.z 1 <| J.r
 exact SJ.skip <| SJ.sr 4 <| J.l 0 Ty39 fun x22 => J.C 1 F20 (Zc0 _ _) fun r23 => J.z 1 <| J.r
noncomputable def ZaE.R1 (b1 : Nat) (b3 : Nat) (l4 : Nat) (x5 : Zab) : M (Option Code) :=
 slot 32 >>= fun b25 =>
 begM l4 >>= fun _ =>
 ld cL (pt b3 0) >>= fun x26 =>
 slot 32 >>= fun b27 =>
 appl Zac 32 64 Zaa x26 [x5] >>= fun r28 =>
 st cL (pt b3 0) r28 >>= fun _ =>
 ld cL (pt b3 0) >>= fun x29 =>
 ld (cI .i64) (pt b1 0) >>= fun x30 =>
 if (x29.len : Int) = x30 then
  pure (some (Code.exit 0))
 else
  pure none
theorem ZaE.R1_ok (a0 : Any) (a2 : Sl) (b1 : Nat) (b3 : Nat) (l4 : Nat) (rc_ : Loop) (ht_ : ZbS.tab l4 = some rc_) (x5 : Zab) :
  SJ (ZaE.rx l4) [.code ((rfOf (c1 (c2 (c1 (c2 (c2 (c2 ZaE.B))))))).2.2.1), .beginRound, .code ((rfOf (c1 (c2 (c1 (c2 (c2 (c2 ZaE.B))))))).2.2.2)] [(12, Zac.val x5), (2, Sl.v a2), (4, .pointer (some (pt b1 0))), (6, .bool false), (7, .pointer (some (pt b3 0))), (11, a0.v)] [] (ZaE.R1 b1 b3 l4 x5) rdJ := by
 unfold ZaE.R1
 refine SJ.rg 2 <| J.a 0 Ty32 fun b25 => J.s 0 0 rfl Ty32 (Upd.w x5) <| J.z 0 <| SJ.begin rfl ht_ <| SJ.block (id := 1) <| SJ.sr 5 <| J.l 0 Ty39 fun x26 => J.k 0 0 rfl Ty32 (At.whole _) <| J.S 0 [x5] Ty32 fun b27 => J.p 0 0 rfl Ty32 fun r28 => J.w 0 Ty39 <| J.z 0 <| SJ.sr 4 <| J.l 0 Ty39 fun x29 => J.l 1 Ty3 fun x30 => J.z 1 <| J.f ?_ ?_
 ·exact SJ.exitJ (id := 0) rfl (by rfl)
 exact SJ.skip <| SJ.inBlock <| SJ.forget (List.Sublist.cons _ (List.Sublist.cons _ List.Sublist.slnil)) <| J.o rfl
noncomputable def ZaE (a0 : Any) (a1 : Int) (a2 : Sl) : M Bool :=
 newv 3 (cI .i64) a1 >>= fun b1 =>
 fnil a0.v >>= fun b2 =>
 if b2 = true then
  pure false
 else
  newv 39 cL Sl.nil >>= fun b3 =>
  rangeM (ZaE.it a0) (fun l_ x_ => ZaE.R1 b1 b3 l_ x_) (onJ
   (ZaE.K1 a2 b1 b3)
   (fail)
   [(0, ZaE.K1 a2 b1 b3)])
theorem Zdd (a0 : Any) (a1 : Int) (a2 : Sl) : Ref Tryd.prog 26 [a0.v, .int .i64 a1, Sl.v a2] (ZaE a0 a1 a2) ZaE.out := by
 refine J.Fn Tryd.func26 ?_
 unfold ZaE
 refine SJ.sr 2 <| J.B 0 fun b1 => J.z 1 <| SJ.seq <| SJ.sr 2 <| J.g 1 <| OJ.fnil (d := 10) (T := 55) (yT := 55) (y := .tmp 9) (z := .const (.nilFunc)) (fv := a0.v) (by kernel_rfl) fun b2 => J.z 0 <| J.f ?_ ?_
 ·exact SJ.sr 1 <| J.z 1 <| J.r
 refine SJ.skip <| SJ.sr 1 <| J.A 0 Ty39 fun b3 => J.z 0 <| SJ.seq <| SJ.sr 1 <| J.z 1 <| SJ.block (id := 0) <| SJ.less [2, 4, 6, 7, 11] (m' := [(2, Sl.v a2), (4, .pointer (some (pt b1 0))), (6, .bool false), (7, .pointer (some (pt b3 0))), (11, a0.v)]) <| SJ.rangeF (fo := .tmp 11) (fv := a0.v) (ps := [12]) (fun x_ => [Zac.val x_]) (fun _ => .tuple #[]) (fun L_ yv_ y_ hy_ => @ZaE.it_ok L_ a0 yv_ y_ hy_) (fun L_ l_ rc_ ht_ x_ => @ZaE.R1_ok L_ a0 a2 b1 b3 l_ rc_ ht_ x_) (SJ.onJ ?_ ?_ ?_)
 ·exact SJ.inBlock <| J.q <| ZaE.K1_ok a2 b1 b3
 ·exact SJ.fail
 exact SJ.exits1 <| SJ.exit (id := 0) (by rfl) <| J.q <| ZaE.K1_ok a2 b1 b3

/-! ### weir/weirlaw14.twice: function 47 -/
noncomputable def Za0.B : Code := bod Tryd.f47
noncomputable def Za0.out (r_ : Bool) : Value := .bool r_
noncomputable def Za0.rx (l_ : Nat) : Fx := ⟨Tryd.prog, 47, Tryd.f47, some l_⟩
noncomputable def Za0.it (f_ : Any) (y_ : Zab → M Bool) : M Unit :=
 (Zea f_.v).elim fail (fun q_ => if q_.1 = 42 then ZaQ y_ q_.2 else if q_.1 = 59 then Zah y_ q_.2 else fail)
theorem Za0.it_ok (f_ yv_ : Any) (y_ : Zab → M Bool) (hy_ : ∀ x_, RefV Tryd.prog yv_.v [Zac.val x_] (y_ x_) Value.bool) : RefI Tryd.prog f_.v [yv_.v] (Za0.it f_ y_) (fun _ => .tuple #[]) := by
  intro v r v' e
  unfold Za0.it at e
  cases hf_ : Zea f_.v with
  | none => rw [hf_] at e; cases e
  | some q_ =>
    obtain ⟨g_, p0⟩ := q_
    rw [hf_] at e
    simp only [Option.elim] at e
    by_cases hg_ : g_ = 42
    · subst hg_
      rw [if_pos rfl] at e
      have h_ := RefI.of (first := []) (vals := [yv_.v]) (cap := [.pointer (some p0)]) F42 (Zc4 yv_ y_ hy_ p0) v r v' e
      rw [Zdm hf_]
      exact h_
    rw [if_neg hg_] at e
    by_cases hg_ : g_ = 59
    · subst hg_
      rw [if_pos rfl] at e
      have h_ := RefI.of (first := []) (vals := [yv_.v]) (cap := [.pointer (some p0)]) F59 (Za4 yv_ y_ hy_ p0) v r v' e
      rw [Zdm hf_]
      exact h_
    rw [if_neg hg_] at e
    cases e
noncomputable def Za0.R1 (b1 : Nat) (b2 : Nat) (b5 : Nat) (b10 : Nat) (l12 : Nat) (x13 : Zab) : M (Option Code) :=
 begM l12 >>= fun _ =>
 ld (cI .i64) (pt b10 0) >>= fun x23 =>
 st (cI .i64) (pt b10 0) (IntKind.wrap .i64 (x23 + 1)) >>= fun _ =>
 ld (cI .i64) (pt b10 0) >>= fun x24 =>
 (if x24 ≤ 3 then
   ld cV (pt b5 0) >>= fun x25 =>
   ld (cI .i64) (pt b10 0) >>= fun x26 =>
   ld cL (Addr.add (pt b1 0) 1) >>= fun x27 =>
   ZaE x25 x26 x27 >>= fun r28 =>
   pure (!r28)
  else
   pure false) >>= fun y29 =>
 if y29 = true then
  st cB (pt b2 0) false >>= fun _ =>
  pure (some Code.ret)
 else
  pure none
theorem Za0.R1_ok (b1 : Nat) (b2 : Nat) (b5 : Nat) (b10 : Nat) (x11 : Any) (l12 : Nat) (rc_ : Loop) (ht_ : ZbS.tab l12 = some rc_) (x13 : Zab) :
  SJ (Za0.rx l12) [.code ((rfOf (c1 (c2 (c1 (c2 (c2 (c2 (c2 Za0.B)))))))).2.2.1), .beginRound, .code ((rfOf (c1 (c2 (c1 (c2 (c2 (c2 (c2 Za0.B)))))))).2.2.2)] [(11, Zac.val x13), (1, .pointer (some (pt b1 0))), (2, .pointer (some (pt b2 0))), (3, .pointer (some (pt b5 0))), (4, .pointer (some (pt b10 0))), (10, x11.v)] [] (Za0.R1 b1 b2 b5 b10 l12 x13) rdJ := by
 unfold Za0.R1
 refine SJ.skip <| SJ.begin rfl ht_ <| SJ.block (id := 1) <| SJ.sr 3 <| J.l 0 Ty3 fun x23 => J.w 1 Ty3 <| J.z 0 <| SJ.sr 10 <| J.l 0 Ty3 fun x24 => J.j 2 6 .bool ?_ ?_ fun y29 => ?_
 ·exact J.l 0 Ty62 fun x25 => J.l 0 Ty3 fun x26 => J.l 1 Ty39 fun x27 => J.C 0 F26 (Zdd _ _ _) fun r28 => J.e 2
 ·exact J.e 7
 refine J.z 0 <| J.f ?_ ?_
 ·exact SJ.sr 1 <| J.w 0 Ty4 <| J.z 0 <| SJ.retJ rfl
 exact SJ.skip <| SJ.inBlock <| J.o rfl
noncomputable def Za0 (a0 : Zas) : M Bool :=
 newv 57 Zau a0 >>= fun b1 =>
 newv 4 cB false >>= fun b2 =>
 ld cP (pt b1 0) >>= fun x3 =>
 ZbF x3 >>= fun r4 =>
 newv 62 cV ⟨.nilFunc, rfl⟩ >>= fun b5 =>
 st cV (pt b5 0) r4 >>= fun _ =>
 ld cV (pt b5 0) >>= fun x6 =>
 fnil x6.v >>= fun b7 =>
 if b7 = true then
  st cB (pt b2 0) false >>= fun _ =>
  ld cB (pt b2 0) >>= fun q9 =>
  pure q9
 else
  newv 3 (cI .i64) 0 >>= fun b10 =>
  st (cI .i64) (pt b10 0) 0 >>= fun _ =>
  ld cV (pt b5 0) >>= fun x11 =>
  rangeM (Za0.it x11) (fun l_ x_ => Za0.R1 b1 b2 b5 b10 l_ x_) (onJ
   (ld (cI .i64) (pt b10 0) >>= fun x31 =>
    ld cL (Addr.add (pt b1 0) 1) >>= fun x32 =>
    st cB (pt b2 0) (x31 == (x32.len : Int)) >>= fun _ =>
    ld cB (pt b2 0) >>= fun q33 =>
    pure q33)
   (ld cB (pt b2 0) >>= fun q34 =>
    pure q34)
   [])
theorem Zfz (a0 : Zas) : Ref Tryd.prog 47 [Zau.val a0] (Za0 a0) Za0.out := by
 refine J.Fn Tryd.func47 ?_
 unfold Za0
 refine SJ.sr 2 <| J.B 0 fun b1 => J.A 0 Ty4 fun b2 => J.z 0 <| SJ.sr 5 <| J.l 1 Ty22 fun x3 => J.C 0 F24 (Zcq _) fun r4 => J.A 0 Ty62 fun b5 => J.w 0 Ty62 <| J.z 0 <| SJ.seq <| SJ.sr 2 <| J.l 0 Ty62 fun x6 => OJ.fnil (d := 9) (T := 62) (yT := 62) (y := .tmp 8) (z := .const (.nilFunc)) (fv := x6.v) (by kernel_rfl) fun b7 => J.z 0 <| J.f ?_ ?_
 ·exact SJ.sr 1 <| J.w 0 Ty4 <| J.z 0 <| SJ.retM (rs := [.cell 2 4]) (SR.ld (cd := cB) (ad := (pt b2 0)) Ty4 (fun q9 => (SR.nil rfl)))
 refine SJ.skip <| SJ.sr 2 <| J.A 0 Ty3 fun b10 => J.w 0 Ty3 <| J.z 0 <| SJ.seq <| SJ.sr 1 <| J.l 0 Ty62 fun x11 => J.z 0 <| SJ.block (id := 0) <| SJ.less [1, 2, 3, 4, 10] (m' := [(1, .pointer (some (pt b1 0))), (2, .pointer (some (pt b2 0))), (3, .pointer (some (pt b5 0))), (4, .pointer (some (pt b10 0))), (10, x11.v)]) <| SJ.rangeF (fo := .tmp 10) (fv := x11.v) (ps := [11]) (fun x_ => [Zac.val x_]) (fun _ => .tuple #[]) (fun L_ yv_ y_ hy_ => @Za0.it_ok L_ x11 yv_ y_ hy_) (fun L_ l_ rc_ ht_ x_ => @Za0.R1_ok L_ b1 b2 b5 b10 x11 l_ rc_ ht_ x_) (SJ.onJ ?_ ?_ ?_)
 ·exact SJ.inBlock <| SJ.sr 6 <| J.l 0 Ty3 fun x31 => J.l 1 Ty39 fun x32 => J.w 2 Ty4 <| J.z 0 <| SJ.retM (rs := [.cell 2 4]) (SR.ld (cd := cB) (ad := (pt b2 0)) Ty4 (fun q33 => (SR.nil rfl)))
 ·exact SJ.retM (rs := [.cell 2 4]) (SR.ld (cd := cB) (ad := (pt b2 0)) Ty4 (fun q34 => (SR.nil rfl)))
 exact SJ.exits0

/-! ### (*weir/route.Table).Len: function 12 -/
noncomputable def Zck.out (r_ : Int) : Value := .int .i64 r_
noncomputable def Zck (a0 : (Option Addr)) : M Int :=
 nilck a0 >>= fun p1 =>
 ld cM p1 >>= fun x2 =>
 mlen x2 >>= fun r3 =>
 pure r3
theorem ZfD (a0 : (Option Addr)) : Ref Tryd.prog 12 [.pointer a0] (Zck a0) Zck.out := by
 refine J.Fn Tryd.func12 ?_
 unfold Zck
 exact SJ.sr 1 <| J.z 1 <| SJ.sr 6 <| J.n 1 fun p1 => J.l 1 Ty79 fun x2 => OJ.mlen (d := 7) (T := 79) (kT := 30) (vT := 32) (x := .tmp 6) (owed := []) fun r3 => OW.nil <| J.z 1 <| J.r

/-! ### weir/weirlaw14.asked: function 27 -/
noncomputable def ZbP.out (r_ : Bool) : Value := .bool r_
noncomputable def ZbP (a0 : Zas) (a1 : ZaO) (a2 : (Option Addr)) : M Bool :=
 slot 57 >>= fun b1 =>
 slot 61 >>= fun b2 =>
 if a1.Kind = 3 then
  ZaS a0.T a1.IP >>= fun r113 =>
  slot 32 >>= fun b114 =>
  Zcd a0.L a1.IP >>= fun r115 =>
  slot 32 >>= fun b116 =>
  (if r113.1 = r115.1 then
    pure (r113.2 == r115.2)
   else
    pure false) >>= fun y117 =>
  pure y117
 else
  if a1.Kind = 4 then
   Zaz a0.T a1.IP >>= fun r170 =>
   ZaB a0.L a1.IP >>= fun r171 =>
   ZaZ r170 r171 >>= fun r172 =>
   if ¬ (r172 = true) then
    pure false
   else
    Zam a2 r170 >>= fun r173 =>
    pure true
  else
   if a1.Kind = 5 then
    draw >>= fun _ =>
    ZbF a0.T >>= fun r198 =>
    ZaE r198 a1.N a0.L >>= fun r199 =>
    pure r199
   else
    if a1.Kind = 7 then
     ZaE a0.Kept a1.N a0.L >>= fun r210 =>
     pure r210
    else
     if a1.Kind = 9 then
      Za0 a0 >>= fun r215 =>
      pure r215
     else
      if a1.Kind = 8 then
       draw >>= fun _ =>
       Zck a0.T >>= fun r217 =>
       pure (r217 == (a0.L.len : Int))
      else
       pure true
theorem ZcT (a0 : Zas) (a1 : ZaO) (a2 : (Option Addr)) : Ref Tryd.prog 27 [Zau.val a0, ZaF.val a1, .pointer a2] (ZbP a0 a1 a2) ZbP.out := by
 refine J.Fn Tryd.func27 ?_
 unfold ZbP
 refine SJ.sr 3 <| J.b 0 Zau a0 fun b1 => J.b 0 ZaF a1 fun b2 => J.z 1 <| SJ.seq <| SJ.sr 2 <| J.k 1 0 rfl Ty3 (ZcS _) <| J.z 0 <| SJ.block (id := 0) <| SJ.sr 2 <| J.z 2 <| J.f ?_ ?_
 ·refine SJ.sr 11 <| J.k 1 1 rfl Ty22 (ZbH _) <| J.k 1 0 rfl Ty28 (Zca _) <| J.C 0 F14 (Zfl _ _) fun r113 => J.a 3 Ty32 fun b114 => J.s 0 0 rfl Ty32 (Upd.w r113.1) <| J.z 1 <| SJ.sr 11 <| J.k 1 2 rfl Ty39 (Zbk _) <| J.k 1 1 rfl Ty28 (Zca _) <| J.C 0 F21 (Zel _ _) fun r115 => J.a 3 Ty32 fun b116 => J.s 0 0 rfl Ty32 (Upd.w r115.1) <| J.z 1 <| SJ.sr 9 <| J.k 0 1 rfl Ty32 (At.whole _) <| J.k 0 0 rfl Ty32 (At.whole _) <| OJ.eql (d := 34) (T := 32) (yT := 32) (y := .tmp 32) (z := .tmp 33) (cd := Zac) (p := r113.1) (q := r115.1) rfl Eq32 <| J.j 1 3 .bool ?_ ?_ fun y117 => ?_
  ·exact J.e 4
  ·exact J.e 4
  exact J.z 1 <| J.r
 refine SJ.sr 2 <| J.z 2 <| J.f ?_ ?_
 ·refine SJ.sr 6 <| J.k 1 1 rfl Ty22 (ZbH _) <| J.k 1 0 rfl Ty28 (Zca _) <| J.C 0 F19 (ZeF _ _) fun r170 => J.z 1 <| SJ.seq <| SJ.sr 8 <| J.k 2 1 rfl Ty39 (Zbk _) <| J.k 1 0 rfl Ty28 (Zca _) <| J.C 0 F18 (ZdE _ _) fun r171 => J.C 0 F20 (Zc0 _ _) fun r172 => J.z 1 <| J.f ?_ ?_
  ·exact SJ.sr 1 <| J.z 1 <| J.r
  exact SJ.skip <| SJ.rg 3 <| J.C 2 F46 (ZeE _ _) fun r173 => J.z 0 <| SJ.inBlock <| SJ.sr 1 <| J.z 1 <| J.r
 refine SJ.sr 2 <| J.z 2 <| J.f ?_ ?_
 ·exact SJ.seq <| J.D [0, 1, 3, 4, 5, 6, 2, 7, 8] ZbO <| J.k 1 1 rfl Ty22 (ZbH _) <| J.k 1 0 rfl Ty3 (Zdi _) <| J.k 1 1 rfl Ty39 (Zbk _) <| OJ.call (d := 62) (g := 24) (ats := #[22]) (args := [.tmp 61]) (owed := [⟨6, 39, (pt b1 1), cL.val a0.L⟩, ⟨4, 3, (pt b2 55), (cI .i64).val a1.N⟩]) F24 (Zcq a0.T) fun r198 => OW.known (j := 1) (q := a0.L) Ty39 rfl (Zbk a0) <| OW.known (j := 0) (q := a1.N) Ty3 rfl (Zdi a1) <| OW.nil <| J.C 0 F26 (Zdd _ _ _) fun r199 => J.z 1 <| J.r
 refine SJ.sr 2 <| J.z 2 <| J.f ?_ ?_
 ·exact SJ.sr 8 <| J.k 1 1 rfl Ty55 (ZeG _) <| J.k 1 0 rfl Ty3 (Zdi _) <| J.k 1 1 rfl Ty39 (Zbk _) <| J.C 0 F26 (Zdd _ _ _) fun r210 => J.z 1 <| J.r
 refine SJ.sr 2 <| J.z 2 <| J.f ?_ ?_
 ·exact SJ.sr 3 <| J.k 0 1 rfl Ty57 (At.whole _) <| J.C 0 F47 (Zfz _) fun r215 => J.z 1 <| J.r
 refine SJ.sr 2 <| J.z 2 <| J.f ?_ ?_
 ·exact SJ.seq <| J.D [0, 1, 3, 4, 2, 5, 6, 7] ZbO <| J.k 1 1 rfl Ty22 (ZbH _) <| J.k 1 1 rfl Ty39 (Zbk _) <| OJ.call (d := 85) (g := 12) (ats := #[22]) (args := [.tmp 84]) (owed := [⟨4, 39, (pt b1 1), cL.val a0.L⟩]) F12 (ZfD a0.T) fun r217 => OW.known (j := 1) (q := a0.L) Ty39 rfl (Zbk a0) <| OW.nil <| J.z 3 <| J.r
 exact SJ.skip <| SJ.inBlock <| SJ.sr 1 <| J.z 1 <| J.r

/-! ### weir/weirlaw14.inner: function 28 -/
noncomputable def ZaD.B : Code := bod Tryd.f28
noncomputable def ZaD.out (r_ : (Zas × Bool)) : Value := .tuple #[Zau.val r_.1, .bool r_.2]
noncomputable def ZaD.rx (l_ : Nat) : Fx := ⟨Tryd.prog, 28, Tryd.f28, some l_⟩
noncomputable def ZaD.it (f_ : Any) (y_ : Zab → M Bool) : M Unit :=
 (Zea f_.v).elim fail (fun q_ => if q_.1 = 42 then ZaQ y_ q_.2 else if q_.1 = 59 then Zah y_ q_.2 else fail)
theorem ZaD.it_ok (f_ yv_ : Any) (y_ : Zab → M Bool) (hy_ : ∀ x_, RefV Tryd.prog yv_.v [Zac.val x_] (y_ x_) Value.bool) : RefI Tryd.prog f_.v [yv_.v] (ZaD.it f_ y_) (fun _ => .tuple #[]) := by
  intro v r v' e
  unfold ZaD.it at e
  cases hf_ : Zea f_.v with
  | none => rw [hf_] at e; cases e
  | some q_ =>
    obtain ⟨g_, p0⟩ := q_
    rw [hf_] at e
    simp only [Option.elim] at e
    by_cases hg_ : g_ = 42
    · subst hg_
      rw [if_pos rfl] at e
      have h_ := RefI.of (first := []) (vals := [yv_.v]) (cap := [.pointer (some p0)]) F42 (Zc4 yv_ y_ hy_ p0) v r v' e
      rw [Zdm hf_]
      exact h_
    rw [if_neg hg_] at e
    by_cases hg_ : g_ = 59
    · subst hg_
      rw [if_pos rfl] at e
      have h_ := RefI.of (first := []) (vals := [yv_.v]) (cap := [.pointer (some p0)]) F59 (Za4 yv_ y_ hy_ p0) v r v' e
      rw [Zdm hf_]
      exact h_
    rw [if_neg hg_] at e
    cases e
noncomputable def ZaD.K1 (b10 : Nat) (x13 : Zab) : M (Option Code) :=
 ld cL (pt b10 0) >>= fun x64 =>
 slot 32 >>= fun b65 =>
 appl Zac 32 64 Zaa x64 [x13] >>= fun r66 =>
 st cL (pt b10 0) r66 >>= fun _ =>
 pure none
theorem ZaD.K1_ok (b10 : Nat) (l12 : Nat) (x13 : Zab) (b48 : Nat) :
  SJ (ZaD.rx l12) [.code (c2 (c1 ((rfOf (c1 (c2 (c1 (c2 (c2 (c2 (c2 (c2 (c2 ZaD.B)))))))))).2.2.2))), .inBlock 1] [(5, .bool false), (8, .pointer (some (pt b10 0))), (10, .pointer (some (pt b48 0)))] [(b48, Zac.enc x13)] (ZaD.K1 b10 x13) rdJ := by
 unfold ZaD.K1
 exact SJ.rg 5 <| J.l 0 Ty39 fun x64 => J.k 0 0 rfl Ty32 (At.whole _) <| J.S 0 [x13] Ty32 fun b65 => J.p 0 0 rfl Ty32 fun r66 => J.w 0 Ty39 <| J.z 0 <| SJ.inBlock <| SJ.forget (List.Sublist.cons _ (List.Sublist.cons _ List.Sublist.slnil)) <| J.o rfl
noncomputable def ZaD.K2 (b10 : Nat) (x13 : Zab) : M (Option Code) :=
 ZaD.K1 b10 x13
theorem ZaD.K2_ok (b10 : Nat) (l12 : Nat) (x13 : Zab) (b48 : Nat) :
  SJ (ZaD.rx l12) [.code (c2 (c1 ((rfOf (c1 (c2 (c1 (c2 (c2 (c2 (c2 (c2 (c2 ZaD.B)))))))))).2.2.2))), .inBlock 1] [(5, .bool false), (8, .pointer (some (pt b10 0))), (10, .pointer (some (pt b48 0)))] [(b48, Zac.enc x13)] (ZaD.K2 b10 x13) rdJ := by
 unfold ZaD.K2
 exact J.q <| ZaD.K1_ok b10 l12 x13 b48
noncomputable def ZaD.R1 (b1 : Nat) (b2 : Nat) (b10 : Nat) (b11 : Nat) (l12 : Nat) (x13 : Zab) : M (Option Code) :=
 slot 32 >>= fun b48 =>
 begM l12 >>= fun _ =>
 ld cL (pt b10 0) >>= fun x49 =>
 if (x49.len : Int) = 0 then
  ld Zau (pt b1 0) >>= fun x67 =>
  ld Zac (Addr.add (pt b2 0) 2) >>= fun x68 =>
  ZbA x67 (⟨1, ZaJ.Obj, x68, ZaJ.IP, ZaJ.N⟩ : ZaO) >>= fun r69 =>
  st Zau (pt b1 0) r69.1 >>= fun _ =>
  st cB (pt b11 0) r69.2 >>= fun _ =>
  ld cL (Addr.add (pt b1 0) 1) >>= fun x70 =>
  ld ZaI (Addr.add (pt b2 0) 38) >>= fun x71 =>
  Zcd x70 x71 >>= fun r72 =>
  slot 32 >>= fun b73 =>
  (if r72.2 = true then
    ld cB (pt b11 0) >>= fun x74 =>
    pure x74
   else
    pure false) >>= fun y75 =>
  if y75 = true then
   ld Zau (pt b1 0) >>= fun x78 =>
   ZbA x78 (⟨2, ZaJ.Obj, r72.1, ZaJ.IP, ZaJ.N⟩ : ZaO) >>= fun r79 =>
   st Zau (pt b1 0) r79.1 >>= fun _ =>
   st cB (pt b11 0) r79.2 >>= fun _ =>
   ZaD.K2 b10 x13
  else
   ZaD.K2 b10 x13
 else
  ZaD.K1 b10 x13
theorem ZaD.R1_ok (b1 : Nat) (b2 : Nat) (b3 : Nat) (x4 : Sl) (r6 : Any) (b10 : Nat) (b11 : Nat) (l12 : Nat) (rc_ : Loop) (ht_ : ZbS.tab l12 = some rc_) (x13 : Zab) :
  SJ (ZaD.rx l12) [.code ((rfOf (c1 (c2 (c1 (c2 (c2 (c2 (c2 (c2 (c2 ZaD.B)))))))))).2.2.1), .beginRound, .code ((rfOf (c1 (c2 (c1 (c2 (c2 (c2 (c2 (c2 (c2 ZaD.B)))))))))).2.2.2)] [(22, Zac.val x13), (2, .pointer (some (pt b1 0))), (3, .pointer (some (pt b2 0))), (4, .pointer (some (pt b3 0))), (5, .bool false), (6, Sl.v x4), (8, .pointer (some (pt b10 0))), (9, .pointer (some (pt b11 0))), (21, r6.v)] [] (ZaD.R1 b1 b2 b10 b11 l12 x13) rdJ := by
 unfold ZaD.R1
 refine SJ.rg 2 <| J.a 0 Ty32 fun b48 => J.s 0 0 rfl Ty32 (Upd.w x13) <| J.z 0 <| SJ.begin rfl ht_ <| SJ.block (id := 1) <| SJ.seq <| SJ.sr 3 <| J.l 0 Ty39 fun x49 => J.z 2 <| J.f ?_ ?_
 ·refine SJ.sr 10 <| J.l 0 Ty57 fun x67 => J.l 1 Ty32 fun x68 => J.u 0 Ty61 (.f 0 (ZbC _ 1) (.f 2 (ZcK _ x68) .nil)) <| J.C 0 F23 (Zci _ _) fun r69 => J.w 3 Ty57 <| J.w 0 Ty4 <| J.z 0 <| SJ.sr 11 <| J.l 1 Ty39 fun x70 => J.l 1 Ty28 fun x71 => J.C 0 F21 (Zel _ _) fun r72 => J.a 3 Ty32 fun b73 => J.s 0 0 rfl Ty32 (Upd.w r72.1) <| J.z 1 <| SJ.sr 4 <| J.j 2 1 .bool ?_ ?_ fun y75 => ?_
  ·exact J.l 0 Ty4 fun x74 => J.e 1
  ·exact J.e 2
  refine J.z 0 <| J.f ?_ ?_
  ·exact SJ.rg 9 <| J.l 0 Ty57 fun x78 => J.k 0 0 rfl Ty32 (At.whole _) <| J.u 0 Ty61 (.f 0 (ZbC _ 2) (.f 2 (ZcK _ r72.1) .nil)) <| J.C 0 F23 (Zci _ _) fun r79 => J.w 3 Ty57 <| J.w 0 Ty4 <| J.z 0 <| SJ.forget (List.Sublist.cons _ (List.Sublist.cons_cons _ List.Sublist.slnil)) <| J.q <| ZaD.K2_ok b10 l12 x13 b48
  exact SJ.skip <| SJ.forget (List.Sublist.cons _ (List.Sublist.cons_cons _ List.Sublist.slnil)) <| J.q <| ZaD.K2_ok b10 l12 x13 b48
 exact SJ.skip <| J.q <| ZaD.K1_ok b10 l12 x13 b48
noncomputable def ZaD (a0 : Zas) (a1 : ZaO) : M (Zas × Bool) :=
 newv 57 Zau a0 >>= fun b1 =>
 newv 61 ZaF a1 >>= fun b2 =>
 slot 57 >>= fun b3 =>
 ld cL (Addr.add (pt b1 0) 1) >>= fun x4 =>
 ld cP (pt b1 0) >>= fun x5 =>
 ZbF x5 >>= fun r6 =>
 fnil r6.v >>= fun b7 =>
 if b7 = true then
  ld Zau (pt b1 0) >>= fun x9 =>
  pure (x9, false)
 else
  newv 39 cL Sl.nil >>= fun b10 =>
  newv 4 cB false >>= fun b11 =>
  st cB (pt b11 0) true >>= fun _ =>
  rangeM (ZaD.it r6) (fun l_ x_ => ZaD.R1 b1 b2 b10 b11 l_ x_) (onJ
   (draw >>= fun _ =>
    ld Zau (pt b1 0) >>= fun x82 =>
    ld cB (pt b11 0) >>= fun x83 =>
    (if x83 = true then
      ld cL (pt b10 0) >>= fun x84 =>
      ZaZ x84 x4 >>= fun r85 =>
      same Zau (pt b1 0) x82 >>= fun _ =>
      pure r85
     else
      pure false) >>= fun y86 =>
    pure (x82, y86))
   (fail)
   [])
theorem ZfA (a0 : Zas) (a1 : ZaO) : Ref Tryd.prog 28 [Zau.val a0, ZaF.val a1] (ZaD a0 a1) ZaD.out := by
 refine J.Fn Tryd.func28 ?_
 unfold ZaD
 refine SJ.sr 4 <| J.B 0 fun b1 => J.B 0 fun b2 => J.a 0 Ty57 fun b3 => J.z 1 <| SJ.sr 3 <| J.l 1 Ty39 fun x4 => J.z 1 <| SJ.sr 4 <| J.l 1 Ty22 fun x5 => J.C 0 F24 (Zcq _) fun r6 => J.z 1 <| SJ.seq <| SJ.sr 2 <| J.g 1 <| OJ.fnil (d := 19) (T := 62) (yT := 62) (y := .tmp 18) (z := .const (.nilFunc)) (fv := r6.v) (by kernel_rfl) fun b7 => J.z 0 <| J.f ?_ ?_
 ·exact SJ.sr 3 <| J.l 0 Ty57 fun x9 => J.s 0 0 rfl Ty57 (Upd.w x9) <| J.z 1 <| J.rc (.c 0 rfl Ty57 .n)
 refine SJ.skip <| SJ.sr 1 <| J.A 0 Ty39 fun b10 => J.z 0 <| SJ.sr 2 <| J.A 0 Ty4 fun b11 => J.w 0 Ty4 <| J.z 0 <| SJ.seq <| SJ.sr 1 <| J.z 1 <| SJ.block (id := 0) <| SJ.less [2, 3, 4, 5, 6, 8, 9, 21] (m' := [(2, .pointer (some (pt b1 0))), (3, .pointer (some (pt b2 0))), (4, .pointer (some (pt b3 0))), (5, .bool false), (6, Sl.v x4), (8, .pointer (some (pt b10 0))), (9, .pointer (some (pt b11 0))), (21, r6.v)]) <| SJ.rangeF (fo := .tmp 21) (fv := r6.v) (ps := [22]) (fun x_ => [Zac.val x_]) (fun _ => .tuple #[]) (fun L_ yv_ y_ hy_ => @ZaD.it_ok L_ r6 yv_ y_ hy_) (fun L_ l_ rc_ ht_ x_ => @ZaD.R1_ok L_ b1 b2 b3 x4 r6 b10 b11 l_ rc_ ht_ x_) (SJ.onJ ?_ ?_ ?_)
 ·refine SJ.inBlock <| SJ.seq <| J.R 9 ZbO <| J.l 0 Ty57 fun x82 => J.l 0 Ty4 fun x83 => J.j 1 3 .bool ?_ ?_ fun y86 => ?_
  ·exact J.l 0 Ty39 fun x84 => J.g 1 <| OJ.call (d := 62) (g := 20) (ats := #[39, 39]) (args := [.tmp 60, .tmp 61]) (owed := [⟨0, 57, (pt b1 0), Zau.val x82⟩]) F20 (Zc0 x84 x4) fun r85 => OW.same Ty57 <| OW.nil <| J.e 1
  ·exact J.e 4
  exact J.s 0 0 rfl Ty57 (Upd.w x82) <| J.z 1 <| J.rc (.c 0 rfl Ty57 .n)
 ·exact SJ.fail
 exact SJ.exits0

/-! ### (*weir/weirlaw14.Book).whole: function 29 -/
noncomputable def Zax.B : Code := bod Tryd.f29
noncomputable def Zax.cx : Fx := ⟨Tryd.prog, 29, Tryd.f29, none⟩
noncomputable def Zax.out (r_ : Bool) : Value := .bool r_
noncomputable def Zax.F1 (a0 : (Option Addr)) : LF Int Bool := ⟨[.inBlock 0, .code (c2 (c2 Zax.B))], c1 (c2 (c1 (c2 Zax.B))), fun s_ => [(0, .pointer a0), (3, .int .i64 s_)], fun s_ => [], (rt Zax.out)⟩
noncomputable def Zax.F2 (a0 : (Option Addr)) (s1 : Int) : LF Int (LS Int Bool) := ⟨[.inBlock 2, .inBlock 1, .code (c2 (c2 (c1 (c1 (c2 (c1 (c2 Zax.B))))))), .inLoop (c1 (c1 (c2 (c1 (c2 Zax.B))))), .inBlock 0, .code (c2 (c2 Zax.B))], c1 (c2 (c1 (c1 (c2 (c1 (c1 (c2 (c1 (c2 Zax.B))))))))), fun s_ => [(0, .pointer a0), (3, .int .i64 s1), (4, .int .i64 s_)], fun s_ => [], (Zax.F1 a0).f⟩
noncomputable def Zax.L2 (a0 : (Option Addr)) (s1 : Int) (s40 : Int) : M (LS Int (LS Int Bool)) :=
 nilck a0 >>= fun p57 =>
 ld cL p57 >>= fun x58 =>
 idx x58.a x58.len s1 1 >>= fun p59 =>
 ld cL p59 >>= fun x60 =>
 if s40 < (x60.len : Int) then
  draw >>= fun _ =>
  nilck a0 >>= fun p61 =>
  ld cL p61 >>= fun x62 =>
  idx x62.a x62.len s1 1 >>= fun p63 =>
  ld cL p63 >>= fun x64 =>
  idx x64.a x64.len s40 36 >>= fun p65 =>
  ld Zac p65 >>= fun x66 =>
  nilck a0 >>= fun p67 =>
  ld cL (Addr.add p67 1) >>= fun x68 =>
  idx x68.a x68.len s1 1 >>= fun p69 =>
  ld (cI .i64) p69 >>= fun x70 =>
  if ¬ (x66 = (⟨Zaa.Prefix, x70, Zaa.Via⟩ : Zab)) then
   pure (LS.done (LS.done false))
  else
   pure (LS.next (IntKind.wrap .i64 (s40 + 1)))
 else
  pure (LS.done (LS.next (IntKind.wrap .i64 (s1 + 1))))
theorem Zax.L2_ok (a0 : (Option Addr)) (s1 : Int) : LJ Zax.cx (Zax.F2 a0 s1) (fun s_ => Zax.L2 a0 s1 s_) := by
 rintro s40
 show SJ _ _ _ _ (Zax.L2 a0 s1 s40) _
 unfold Zax.L2
 refine SJ.seq <| SJ.sr 10 <| J.n 2 fun p57 => J.l 1 Ty46 fun x58 => J.i 1 fun p59 => J.l 0 Ty39 fun x60 => J.z 2 <| J.f ?_ ?_
 ·refine SJ.skip <| SJ.seq <| SJ.block (id := 3) <| SJ.seq <| J.R 19 ZbO <| J.n 1 fun p61 => J.l 1 Ty46 fun x62 => J.i 1 fun p63 => J.l 0 Ty39 fun x64 => J.i 1 fun p65 => J.l 0 Ty32 fun x66 => J.n 1 fun p67 => J.l 1 Ty73 fun x68 => J.i 1 fun p69 => J.l 0 Ty3 fun x70 => J.u 0 Ty32 (.f 1 (Zc3 _ x70) .nil) <| OJ.neq (d := 44) (T := 32) (yT := 32) (y := .tmp 35) (z := .tmp 43) (cd := Zac) (p := x66) (q := (⟨Zaa.Prefix, x70, Zaa.Via⟩ : Zab)) rfl Eq32 <| J.z 0 <| J.f ?_ ?_
  ·exact SJ.sr 1 <| J.z 1 <| J.r
  exact SJ.skip <| SJ.inBlock <| SJ.rg 3 <| J.z 3 <| J.o rfl
 exact SJ.exit (id := 2) (by rfl) <| SJ.inBlock <| SJ.rg 3 <| J.z 3 <| J.o rfl
noncomputable def Zax.L1 (a0 : (Option Addr)) (s1 : Int) : M (LS Int Bool) :=
 nilck a0 >>= fun p38 =>
 ld cL p38 >>= fun x39 =>
 if s1 < (x39.len : Int) then
  ZbR (fun s_ : Int => Zax.L2 a0 s1 s_) 0
 else
  pure (LS.done true)
theorem Zax.L1_ok (a0 : (Option Addr)) : LJ Zax.cx (Zax.F1 a0) (fun s_ => Zax.L1 a0 s_) := by
 rintro s1
 show SJ _ _ _ _ (Zax.L1 a0 s1) _
 unfold Zax.L1
 refine SJ.seq <| SJ.sr 7 <| J.n 2 fun p38 => J.l 1 Ty46 fun x39 => J.z 2 <| J.f ?_ ?_
 ·exact SJ.skip <| SJ.seq <| SJ.block (id := 1) <| SJ.sr 1 <| J.z 1 <| SJ.block (id := 2) <| J.L (Zax.L2_ok a0 s1)
 exact SJ.exit (id := 0) (by rfl) <| SJ.sr 1 <| J.z 1 <| J.r
noncomputable def Zax (a0 : (Option Addr)) : M Bool :=
 ZbR (fun s_ : Int => Zax.L1 a0 s_) 0
theorem Zew (a0 : (Option Addr)) : Ref Tryd.prog 29 [.pointer a0] (Zax a0) Zax.out := by
 refine J.Fn Tryd.func29 ?_
 unfold Zax
 exact SJ.sr 1 <| J.z 1 <| SJ.seq <| SJ.sr 1 <| J.z 1 <| SJ.block (id := 0) <| J.L (Zax.L1_ok a0)

/-! ### weir/weirlaw14.RoutePlays: function 7 -/
noncomputable def Zai.B : Code := bod Tryd.f7
noncomputable def Zai.cx : Fx := ⟨Tryd.prog, 7, Tryd.f7, none⟩
noncomputable def Zai.out (r_ : Bool) : Value := .bool r_
noncomputable def Zai.K1 (b13 : Nat) (s15 : (Vec Zas 2)) : M Bool :=
 ZbP (Vec.g s15 0 ZaC) (⟨5, ZaJ.Obj, ZaJ.R, ZaJ.IP, ZaJ.N⟩ : ZaO) (some (pt b13 0)) >>= fun r77 =>
 (if r77 = true then
   ZbP (Vec.g s15 1 ZaC) (⟨5, ZaJ.Obj, ZaJ.R, ZaJ.IP, ZaJ.N⟩ : ZaO) (some (pt b13 0)) >>= fun r78 =>
   pure r78
  else
   pure false) >>= fun y79 =>
 pure y79
theorem Zai.K1_ok (b6 : Nat) (b13 : Nat) (s15 : (Vec Zas 2)) :
  SJ Zai.cx [.code (c2 (c2 (c2 (c2 (c2 (c2 (c2 (c2 (c2 (c2 (c2 Zai.B)))))))))))] [(5, .pointer (some (pt b6 0))), (7, .pointer (some (pt b13 0)))] [(b6, (Zau.arr 2).enc s15)] (Zai.K1 b13 s15) (rt Zai.out) := by
 unfold Zai.K1
 refine SJ.sr 13 <| J.k 1 0 rfl Ty57 (At.zero (At.arr (z := ZaC) (i := 0) (n := 2) (by decide) (by decide))) <| J.u 0 Ty61 (.f 0 (ZbC _ 5) .nil) <| J.C 1 F27 (ZcT _ _ _) fun r77 => J.j 1 5 .bool ?_ ?_ fun y79 => ?_
 ·exact J.k 1 0 rfl Ty57 (At.zero (At.arr (z := ZaC) (i := 1) (n := 2) (by decide) (by decide))) <| J.u 0 Ty61 (.f 0 (ZbC _ 5) .nil) <| J.C 1 F27 (ZcT _ _ _) fun r78 => J.e 1
 ·exact J.e 6
 exact J.z 1 <| J.r
noncomputable def Zai.F1 (a0 : Sl) (b6 : Nat) (b13 : Nat) : LF (Int × (Vec Zas 2)) Bool := ⟨[.inBlock 0, .code (c2 (c2 (c2 (c2 (c2 (c2 (c2 (c2 (c2 (c2 (c2 Zai.B)))))))))))], c1 (c2 (c1 (c2 (c2 (c2 (c2 (c2 (c2 (c2 (c2 (c2 (c2 Zai.B)))))))))))), fun s_ => [(0, Sl.v a0), (5, .pointer (some (pt b6 0))), (7, .pointer (some (pt b13 0))), (8, .int .i64 s_.1)], fun s_ => [(b6, (Zau.arr 2).enc s_.2)], (rt Zai.out)⟩
noncomputable def Zai.K2 (b13 : Nat) (s14 : Int) (j109 : Bool) (j110 : (Vec Zas 2)) : M (LS (Int × (Vec Zas 2)) Bool) :=
 (if ¬ (j109 = true) then
   pure true
  else
   Zax (some (pt b13 0)) >>= fun r111 =>
   pure (!r111)) >>= fun y112 =>
 if y112 = true then
  pure (LS.done false)
 else
  pure (LS.next (IntKind.wrap .i64 (s14 + 1), j110))
theorem Zai.K2_ok (a0 : Sl) (b6 : Nat) (b13 : Nat) (s14 : Int) (j109 : Bool) (j110 : (Vec Zas 2)) :
  SJ Zai.cx [.inBlock 2, .code (c2 (c2 (c2 (c1 (c1 (c2 (c1 (c1 (c2 (c1 (c2 (c2 (c2 (c2 (c2 (c2 (c2 (c2 (c2 (c2 Zai.B)))))))))))))))))))), .inBlock 1, .code (c2 (c2 (c1 (c1 (c2 (c1 (c2 (c2 (c2 (c2 (c2 (c2 (c2 (c2 (c2 (c2 Zai.B)))))))))))))))), .inLoop (c1 (c1 (c2 (c1 (c2 (c2 (c2 (c2 (c2 (c2 (c2 (c2 (c2 (c2 Zai.B)))))))))))))), .inBlock 0, .code (c2 (c2 (c2 (c2 (c2 (c2 (c2 (c2 (c2 (c2 (c2 Zai.B)))))))))))] [(0, Sl.v a0), (5, .pointer (some (pt b6 0))), (7, .pointer (some (pt b13 0))), (8, .int .i64 s14), (6, .bool j109)] [(b6, (Zau.arr 2).enc j110)] (Zai.K2 b13 s14 j109 j110) (Zai.F1 a0 b6 b13).f := by
 unfold Zai.K2
 refine SJ.inBlock <| SJ.sr 7 <| J.j 3 3 .bool ?_ ?_ fun y112 => ?_
 ·exact J.e 4
 ·exact J.C 1 F29 (Zew _) fun r111 => J.e 2
 refine J.z 0 <| J.f ?_ ?_
 ·exact SJ.sr 1 <| J.z 1 <| J.r
 exact SJ.skip <| SJ.inBlock <| SJ.rg 3 <| J.z 3 <| J.o rfl
noncomputable def Zai.K3 (b13 : Nat) (s14 : Int) (j127 : Bool) (j128 : (Vec Zas 2)) : M (LS (Int × (Vec Zas 2)) Bool) :=
 Zai.K2 b13 s14 j127 j128
theorem Zai.K3_ok (a0 : Sl) (b6 : Nat) (b13 : Nat) (s14 : Int) (j127 : Bool) (j128 : (Vec Zas 2)) :
  SJ Zai.cx [.inBlock 2, .code (c2 (c2 (c2 (c1 (c1 (c2 (c1 (c1 (c2 (c1 (c2 (c2 (c2 (c2 (c2 (c2 (c2 (c2 (c2 (c2 Zai.B)))))))))))))))))))), .inBlock 1, .code (c2 (c2 (c1 (c1 (c2 (c1 (c2 (c2 (c2 (c2 (c2 (c2 (c2 (c2 (c2 (c2 Zai.B)))))))))))))))), .inLoop (c1 (c1 (c2 (c1 (c2 (c2 (c2 (c2 (c2 (c2 (c2 (c2 (c2 (c2 Zai.B)))))))))))))), .inBlock 0, .code (c2 (c2 (c2 (c2 (c2 (c2 (c2 (c2 (c2 (c2 (c2 Zai.B)))))))))))] [(0, Sl.v a0), (5, .pointer (some (pt b6 0))), (7, .pointer (some (pt b13 0))), (8, .int .i64 s14), (6, .bool j127)] [(b6, (Zau.arr 2).enc j128)] (Zai.K3 b13 s14 j127 j128) (Zai.F1 a0 b6 b13).f := by
 unfold Zai.K3
 exact J.q <| Zai.K2_ok a0 b6 b13 s14 j127 j128
noncomputable def Zai.K4 (b13 : Nat) (s14 : Int) (s15 : (Vec Zas 2)) (x82 : ZaO) (j84 : Bool) : M (LS (Int × (Vec Zas 2)) Bool) :=
 if j84 = true then
  draw >>= fun _ =>
  chk ((0 : Int) ≤ (band .i64 x82.Obj 1) ∧ (band .i64 x82.Obj 1) < (2 : Nat)) >>= fun _ =>
  ZbA (Vec.g s15 (band .i64 x82.Obj 1) ZaC) x82 >>= fun r116 =>
  chk ((0 : Int) ≤ (band .i64 x82.Obj 1) ∧ (band .i64 x82.Obj 1) < (2 : Nat)) >>= fun _ =>
  Zai.K2 b13 s14 r116.2 (Vec.s s15 (band .i64 x82.Obj 1) r116.1)
 else
  if x82.Kind = 6 then
   draw >>= fun _ =>
   chk ((0 : Int) ≤ (band .i64 x82.Obj 1) ∧ (band .i64 x82.Obj 1) < (2 : Nat)) >>= fun _ =>
   ZaD (Vec.g s15 (band .i64 x82.Obj 1) ZaC) x82 >>= fun r131 =>
   chk ((0 : Int) ≤ (band .i64 x82.Obj 1) ∧ (band .i64 x82.Obj 1) < (2 : Nat)) >>= fun _ =>
   Zai.K3 b13 s14 r131.2 (Vec.s s15 (band .i64 x82.Obj 1) r131.1)
  else
   draw >>= fun _ =>
   chk ((0 : Int) ≤ (band .i64 x82.Obj 1) ∧ (band .i64 x82.Obj 1) < (2 : Nat)) >>= fun _ =>
   ZbP (Vec.g s15 (band .i64 x82.Obj 1) ZaC) x82 (some (pt b13 0)) >>= fun r136 =>
   Zai.K3 b13 s14 r136 s15
theorem Zai.K4_ok (a0 : Sl) (b6 : Nat) (b13 : Nat) (s14 : Int) (s15 : (Vec Zas 2)) (x82 : ZaO) (b83 : Nat) (j84 : Bool) :
  SJ Zai.cx [.code (c2 (c1 (c2 (c1 (c2 (c2 (c1 (c1 (c2 (c1 (c1 (c2 (c1 (c2 (c2 (c2 (c2 (c2 (c2 (c2 (c2 (c2 (c2 Zai.B))))))))))))))))))))))), .inBlock 2, .code (c2 (c2 (c2 (c1 (c1 (c2 (c1 (c1 (c2 (c1 (c2 (c2 (c2 (c2 (c2 (c2 (c2 (c2 (c2 (c2 Zai.B)))))))))))))))))))), .inBlock 1, .code (c2 (c2 (c1 (c1 (c2 (c1 (c2 (c2 (c2 (c2 (c2 (c2 (c2 (c2 (c2 (c2 Zai.B)))))))))))))))), .inLoop (c1 (c1 (c2 (c1 (c2 (c2 (c2 (c2 (c2 (c2 (c2 (c2 (c2 (c2 Zai.B)))))))))))))), .inBlock 0, .code (c2 (c2 (c2 (c2 (c2 (c2 (c2 (c2 (c2 (c2 (c2 Zai.B)))))))))))] [(0, Sl.v a0), (5, .pointer (some (pt b6 0))), (7, .pointer (some (pt b13 0))), (8, .int .i64 s14), (9, .pointer (some (pt b83 0))), (10, .int .i64 (band .i64 x82.Obj 1)), (83, .int .i64 x82.Kind), (90, .bool j84)] [(b83, ZaF.enc x82), (b6, (Zau.arr 2).enc s15)] (Zai.K4 b13 s14 s15 x82 j84) (Zai.F1 a0 b6 b13).f := by
 unfold Zai.K4
 refine J.f ?_ ?_
 ·exact J.R 12 ZbO <| J.y 2 fun hb114 hb115 => J.k 0 1 rfl Ty57 (At.zero (At.arr (z := ZaC) hb114 hb115)) <| J.k 0 0 rfl Ty61 (At.whole _) <| J.C 0 F23 (Zci _ _) fun r116 => J.y 3 fun hb117 hb118 => J.s (u := r116.1) 0 1 rfl Ty57 (Upd.zero (Upd.arr hb117 hb118)) <| J.z 1 <| SJ.forget (List.Sublist.cons _ (List.Sublist.cons_cons _ List.Sublist.slnil)) <| J.q <| Zai.K2_ok a0 b6 b13 s14 r116.2 (Vec.s s15 (band .i64 x82.Obj 1) r116.1)
 refine SJ.sr 2 <| J.z 2 <| J.f ?_ ?_
 ·exact J.R 12 ZbO <| J.y 2 fun hb129 hb130 => J.k 0 1 rfl Ty57 (At.zero (At.arr (z := ZaC) hb129 hb130)) <| J.k 0 0 rfl Ty61 (At.whole _) <| J.C 0 F28 (ZfA _ _) fun r131 => J.y 3 fun hb132 hb133 => J.s (u := r131.1) 0 1 rfl Ty57 (Upd.zero (Upd.arr hb132 hb133)) <| J.z 1 <| SJ.forget (List.Sublist.cons _ (List.Sublist.cons_cons _ List.Sublist.slnil)) <| J.q <| Zai.K3_ok a0 b6 b13 s14 r131.2 (Vec.s s15 (band .i64 x82.Obj 1) r131.1)
 exact J.R 7 ZbO <| J.y 1 fun hb134 hb135 => J.k 0 1 rfl Ty57 (At.zero (At.arr (z := ZaC) hb134 hb135)) <| J.k 0 0 rfl Ty61 (At.whole _) <| J.C 1 F27 (ZcT _ _ _) fun r136 => J.z 1 <| SJ.forget (List.Sublist.cons _ (List.Sublist.cons_cons _ List.Sublist.slnil)) <| J.q <| Zai.K3_ok a0 b6 b13 s14 r136 s15
noncomputable def Zai.L1 (a0 : Sl) (b13 : Nat) (s14 : Int) (s15 : (Vec Zas 2)) : M (LS (Int × (Vec Zas 2)) Bool) :=
 (if s14 < (a0.len : Int) then
   pure (decide (s14 < 600))
  else
   pure false) >>= fun y80 =>
 if y80 = true then
  idx a0.a a0.len s14 56 >>= fun p81 =>
  ld ZaF p81 >>= fun x82 =>
  slot 61 >>= fun b83 =>
  if x82.Kind = 1 then
   Zai.K4 b13 s14 s15 x82 (x82.Kind == 1)
  else
   Zai.K4 b13 s14 s15 x82 (x82.Kind == 2)
 else
  (Zai.K1 b13 s15) >>= fun b => pure (LS.done b)
theorem Zai.L1_ok (a0 : Sl) (b6 : Nat) (b13 : Nat) : LJ Zai.cx (Zai.F1 a0 b6 b13) (fun s_ => Zai.L1 a0 b13 s_.1 s_.2) := by
 rintro ⟨s14, s15⟩
 show SJ _ _ _ _ (Zai.L1 a0 b13 s14 s15) _
 unfold Zai.L1
 refine SJ.seq <| SJ.sr 8 <| J.j 5 2 .bool ?_ ?_ fun y80 => ?_
 ·exact J.e 3
 ·exact J.e 3
 refine J.z 0 <| J.f ?_ ?_
 ·refine SJ.skip <| SJ.seq <| SJ.block (id := 1) <| SJ.sr 6 <| J.i 2 fun p81 => J.l 0 Ty61 fun x82 => J.a 0 Ty61 fun b83 => J.s 0 0 rfl Ty61 (Upd.w x82) <| J.z 0 <| SJ.sr 4 <| J.k 1 0 rfl Ty3 (ZeX _) <| J.z 2 <| SJ.seq <| SJ.sr 2 <| J.k 1 0 rfl Ty3 (ZcS _) <| J.z 0 <| SJ.block (id := 2) <| SJ.seq <| SJ.sr 2 <| J.z 2 <| J.f ?_ ?_
  ·exact SJ.skip <| J.q <| Zai.K4_ok a0 b6 b13 s14 s15 x82 b83 (x82.Kind == 1)
  exact SJ.rg 2 <| J.z 2 <| J.q <| Zai.K4_ok a0 b6 b13 s14 s15 x82 b83 (x82.Kind == 2)
 exact SJ.exit (id := 0) (by rfl) <| J.q <| SJ.done <| Zai.K1_ok b6 b13 s15
noncomputable def Zai (a0 : Sl) : M Bool :=
 ZdA >>= fun r1 =>
 ZdA >>= fun r2 =>
 (if r1 = none then
   pure true
  else
   pure (Option.isNone r2)) >>= fun y3 =>
 if y3 = true then
  pure false
 else
  ZbF r1 >>= fun r4 =>
  ZbF r2 >>= fun r5 =>
  slot 70 >>= fun b6 =>
  draw >>= fun _ =>
  Zb7 >>= fun r7 =>
  ZbA (Vec.g (⟨[(⟨r1, ZaC.L, r4⟩ : Zas), (⟨r2, ZaC.L, r5⟩ : Zas)], rfl⟩ : (Vec Zas 2)) 1 ZaC) (⟨1, ZaJ.Obj, r7, ZaJ.IP, ZaJ.N⟩ : ZaO) >>= fun r8 =>
  (if ¬ (r8.2 = true) then
    pure true
   else
    newv 75 ZbJ ZcL >>= fun b9 =>
    ZbP (Vec.g (Vec.s (⟨[(⟨r1, ZaC.L, r4⟩ : Zas), (⟨r2, ZaC.L, r5⟩ : Zas)], rfl⟩ : (Vec Zas 2)) 1 r8.1) 1 ZaC) (⟨3, ZaJ.Obj, ZaJ.R, (⟨4, (⟨[10, 9, 0, 0, 0, 0, 0, 0, 0, 0, 0, 0, 0, 0, 0, 0], rfl⟩ : (Vec Int 16))⟩ : ZaH), ZaJ.N⟩ : ZaO) (some (pt b9 0)) >>= fun r10 =>
    pure (!r10)) >>= fun y11 =>
  if y11 = true then
   pure false
  else
   ZbA (Vec.g (Vec.s (⟨[(⟨r1, ZaC.L, r4⟩ : Zas), (⟨r2, ZaC.L, r5⟩ : Zas)], rfl⟩ : (Vec Zas 2)) 1 r8.1) 1 ZaC) (⟨1, ZaJ.Obj, (⟨(⟨(⟨9, Zby.A⟩ : ZaH), Zbg.Len⟩ : Zar), (-1), Zaa.Via⟩ : Zab), ZaJ.IP, ZaJ.N⟩ : ZaO) >>= fun r12 =>
   if ¬ (r12.2 = true) then
    pure false
   else
    newv 75 ZbJ ZcL >>= fun b13 =>
    ZbR (fun s_ : (Int × (Vec Zas 2)) => Zai.L1 a0 b13 s_.1 s_.2) (0, (Vec.s (Vec.s (⟨[(⟨r1, ZaC.L, r4⟩ : Zas), (⟨r2, ZaC.L, r5⟩ : Zas)], rfl⟩ : (Vec Zas 2)) 1 r8.1) 1 r12.1))
theorem Zev (a0 : Sl) : Ref Tryd.prog 7 [Sl.v a0] (Zai a0) Zai.out := by
 refine J.Fn Tryd.func7 ?_
 unfold Zai
 refine SJ.sr 1 <| J.z 1 <| SJ.sr 4 <| J.C 0 F9 Zgc fun r1 => J.C 0 F9 Zgc fun r2 => J.z 2 <| SJ.seq <| SJ.sr 6 <| J.j 3 2 .bool ?_ ?_ fun y3 => ?_
 ·exact J.e 3
 ·exact J.e 3
 refine J.z 0 <| J.f ?_ ?_
 ·exact SJ.sr 1 <| J.z 1 <| J.r
 refine SJ.skip <| SJ.sr 11 <| J.C 2 F24 (Zcq _) fun r4 => J.u 0 Ty57 (.f 0 (ZdU _ r1) (.f 2 (Zdq _ r4) .nil)) <| J.C 2 F24 (Zcq _) fun r5 => J.u 0 Ty57 (.f 0 (ZdU _ r2) (.f 2 (Zdq _ r5) .nil)) <| OJ.build (d := 27) (T := 70) (parts := [(0, .tmp 22), (1, .tmp 26)]) (ps := [(0, Zau.val (⟨r1, ZaC.L, r4⟩ : Zas)), (1, Zau.val (⟨r2, ZaC.L, r5⟩ : Zas))]) (cd := (Zau.arr 2)) (z0 := (Vec.rep 2 ZaC)) (⟨[(⟨r1, ZaC.L, r4⟩ : Zas), (⟨r2, ZaC.L, r5⟩ : Zas)], rfl⟩ : (Vec Zas 2)) Ty70 rfl (Zav.cons (cd := Zau) (q := (⟨r1, ZaC.L, r4⟩ : Zas)) (o := 0) (by kernel_rfl) (Upd.arr (i := 0) (by decide) (by decide)) (Zav.cons (cd := Zau) (q := (⟨r2, ZaC.L, r5⟩ : Zas)) (o := 3) (by kernel_rfl) (Upd.arr (i := 1) (by decide) (by decide)) Zav.nil)) <| J.a 0 Ty70 fun b6 => J.s 0 0 rfl Ty70 (Upd.w (⟨[(⟨r1, ZaC.L, r4⟩ : Zas), (⟨r2, ZaC.L, r5⟩ : Zas)], rfl⟩ : (Vec Zas 2))) <| J.z 0 <| SJ.sr 1 <| J.z 1 <| SJ.seq <| J.R 11 ZbO <| J.k 1 0 rfl Ty57 (At.zero (At.arr (z := ZaC) (i := 1) (n := 2) (by decide) (by decide))) <| OJ.call (d := 31) (g := 16) (ats := #[]) (args := []) (owed := [⟨1, 57, (pt b6 3), Zau.val (Vec.g (⟨[(⟨r1, ZaC.L, r4⟩ : Zas), (⟨r2, ZaC.L, r5⟩ : Zas)], rfl⟩ : (Vec Zas 2)) 1 ZaC)⟩]) F16 (Zfi ) fun r7 => OW.known (j := 0) (q := (Vec.g (⟨[(⟨r1, ZaC.L, r4⟩ : Zas), (⟨r2, ZaC.L, r5⟩ : Zas)], rfl⟩ : (Vec Zas 2)) 1 ZaC)) Ty57 rfl (At.zero (At.arr (z := ZaC) (i := 1) (n := 2) (by decide) (by decide))) <| OW.nil <| J.u 0 Ty61 (.f 0 (ZbC _ 1) (.f 2 (ZcK _ r7) .nil)) <| J.C 0 F23 (Zci _ _) fun r8 => J.s (u := r8.1) 4 0 rfl Ty57 (Upd.zero (Upd.arr (i := 1) (n := 2) (by decide) (by decide))) <| J.z 1 <| SJ.seq <| SJ.sr 13 <| J.j 3 9 .bool ?_ ?_ fun y11 => ?_
 ·exact J.e 10
 ·exact J.k 1 0 rfl Ty57 (At.zero (At.arr (z := ZaC) (i := 1) (n := 2) (by decide) (by decide))) <| OJ.build (d := 42) (T := 26) (parts := [(0, .const (.int .u8 10)), (1, .const (.int .u8 9))]) (ps := [(0, (cI .u8).val 10), (1, (cI .u8).val 9)]) (cd := ((cI .u8).arr 16)) (z0 := (Vec.rep 16 0)) (⟨[10, 9, 0, 0, 0, 0, 0, 0, 0, 0, 0, 0, 0, 0, 0, 0], rfl⟩ : (Vec Int 16)) Ty26 rfl (Zav.cons (cd := (cI .u8)) (q := 10) (o := 0) (by kernel_rfl) (Upd.arr (i := 0) (by decide) (by decide)) (Zav.cons (cd := (cI .u8)) (q := 9) (o := 1) (by kernel_rfl) (Upd.arr (i := 1) (by decide) (by decide)) Zav.nil)) <| J.u 0 Ty28 (.f 0 (Zdv _ 4) (.f 1 (ZdX _ (⟨[10, 9, 0, 0, 0, 0, 0, 0, 0, 0, 0, 0, 0, 0, 0, 0], rfl⟩ : (Vec Int 16))) .nil)) <| J.u 0 Ty61 (.f 0 (ZbC _ 3) (.f 3 (Ze9 _ (⟨4, (⟨[10, 9, 0, 0, 0, 0, 0, 0, 0, 0, 0, 0, 0, 0, 0, 0], rfl⟩ : (Vec Int 16))⟩ : ZaH)) .nil)) <| J.u 0 Ty75 .nil <| J.B 0 fun b9 => J.C 0 F27 (ZcT _ _ _) fun r10 => J.e 2
 refine J.z 0 <| J.f ?_ ?_
 ·exact SJ.sr 1 <| J.z 1 <| J.r
 refine SJ.skip <| SJ.sr 13 <| J.k 1 0 rfl Ty57 (At.zero (At.arr (z := ZaC) (i := 1) (n := 2) (by decide) (by decide))) <| J.u 0 Ty28 (.f 0 (Zdv _ 9) .nil) <| J.u 0 Ty30 (.f 0 (Zdc _ (⟨9, Zby.A⟩ : ZaH)) .nil) <| J.u 0 Ty32 (.f 0 (ZdW _ (⟨(⟨9, Zby.A⟩ : ZaH), Zbg.Len⟩ : Zar)) (.f 1 (Zc3 _ (-1)) .nil)) <| J.u 0 Ty61 (.f 0 (ZbC _ 1) (.f 2 (ZcK _ (⟨(⟨(⟨9, Zby.A⟩ : ZaH), Zbg.Len⟩ : Zar), (-1), Zaa.Via⟩ : Zab)) .nil)) <| J.C 0 F23 (Zci _ _) fun r12 => J.s (u := r12.1) 4 0 rfl Ty57 (Upd.zero (Upd.arr (i := 1) (n := 2) (by decide) (by decide))) <| J.z 1 <| SJ.seq <| SJ.sr 2 <| J.z 2 <| J.f ?_ ?_
 ·exact SJ.sr 1 <| J.z 1 <| J.r
 exact SJ.skip <| SJ.sr 3 <| J.u 0 Ty75 .nil <| J.B 0 fun b13 => J.z 1 <| SJ.seq <| SJ.sr 1 <| J.z 1 <| SJ.block (id := 0) <| J.L (Zai.L1_ok a0 b6 b13)
end Go.Proofs.YtfgcobigollfjaaDoor.Lx
