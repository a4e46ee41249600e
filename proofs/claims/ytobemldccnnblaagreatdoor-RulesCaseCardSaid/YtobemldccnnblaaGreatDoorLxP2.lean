/- Programs of the M-world for Go functions, each with the proof that the Go text does what it says. Printed by lxgen.py. -/
import Derived.Test.YtobemldccnnblaaGreatDoorLxT
import Derived.Test.YtobemldccnnblaaGreatDoorLxP0
import Derived.Test.YtobemldccnnblaaGreatDoorLxP1
set_option linter.unusedVariables false
set_option linter.unusedSimpArgs false
set_option linter.unusedSectionVars false
namespace Go.Proofs.YtobemldccnnblaaGreatDoor.Lx
open Go Go.Proofs
variable [Zej]
/-! ### (weir/rules.typeTest).holds: function 186 -/
noncomputable def ZcE.out (r_ : Bool) : Value := .bool r_
noncomputable def ZcE (a0 : Int) (a1 : Int) (a2 : Zac) : M Bool :=
 slot 47 >>= fun b1 =>
 (if a2.L4 = 1 then
   pure (a2.Icmp.Type_ == (IntKind.wrap .i64 (a0 - 1)))
  else
   pure false) >>= fun y2 =>
 pure y2
theorem ZhY (a0 : Int) (a1 : Int) (a2 : Zac) : Ref Tryz.prog 186 [.int .i64 a0, .int .i64 a1, Zag.val a2] (ZcE a0 a1 a2) ZcE.out := by
 refine J.Fn Tryz.func186 ?_
 unfold ZcE
 refine SJ.sr 2 <| J.b 0 Zag a2 fun b1 => J.z 1 <| SJ.sr 12 <| J.k 1 0 rfl Ty3 (Zdb _) <| J.j 2 6 .bool ?_ ?_ fun y2 => ?_
 ·exact J.k 2 0 rfl Ty3 (At.trans (Zdv _) (Zfs _)) <| J.e 4
 ·exact J.e 7
 exact J.z 1 <| J.r

/-! ### (weir/rules.pieceTest).holds: function 187 -/
noncomputable def Zcp.out (r_ : Bool) : Value := .bool r_
noncomputable def Zcp (a0 : Zep) (a1 : Int) (a2 : Zac) : M Bool :=
 slot 155 >>= fun b1 =>
 slot 47 >>= fun b2 =>
 (if a2.Kind = 2 then
   (if a2.Ip4.MF = true then
     pure true
    else
     pure (decide (a2.Ip4.Off > 0))) >>= fun y3 =>
   pure y3
  else
   pure false) >>= fun y4 =>
 (if y4 = true then
   pure true
  else
   (if a2.Kind = 3 then
     pure a2.Ip6.Frag.Has
    else
     pure false) >>= fun y5 =>
   pure y5) >>= fun y6 =>
 pure y6
theorem ZhE (a0 : Zep) (a1 : Int) (a2 : Zac) : Ref Tryz.prog 187 [Zcf.val a0, .int .i64 a1, Zag.val a2] (Zcp a0 a1 a2) Zcp.out := by
 refine J.Fn Tryz.func187 ?_
 unfold Zcp
 refine SJ.sr 3 <| J.b 0 Zcf a0 fun b1 => J.b 0 Zag a2 fun b2 => J.z 1 <| SJ.sr 26 <| J.k 1 0 rfl Ty3 (ZbC _) <| J.g 2 <| OJ.join (b := (a2.Kind == 2)) [4, 5, 6, 7, 8, 9, 10, 11, 12, 13] [14, 15, 16, 17, 18, 19, 20, 21, 22, 23, 24, 25] [5, 20] (fun y4 => [(5, .pointer (some (pt b2 0))), (20, .bool y4)]) [] [] (t := 10) beq_iff_eq (fun hp_ => ?_) (fun hp_ => ?_) (fun _ _ _ _ _ _ h_ => h_) fun y4 => ?_
 ·refine J.k 2 0 rfl Ty4 (At.trans (Za4 _) (ZgO _)) <| J.g 1 <| OJ.join (b := a2.Ip4.MF) [8, 9, 10, 11, 12] [13] [5, 10, 19] (fun y3 => [(5, .pointer (some (pt b2 0))), (10, .bool true), (19, .bool y3)]) [] [] (t := 14) Iff.rfl (fun hp_ => ?_) (fun hp_ => ?_) (fun _ _ _ _ _ hq_ h_ => ⟨fun e_ he_ => (hq_ e_ he_).elim (fun h => h_.1 e_ h) (fun h => nomatch h), h_.2⟩) fun y3 => ?_
  ·exact J.g 5 <| OJ.nil ⟨(Cov.mem Cov.nil), rfl, _, rfl, by kernel_rfl⟩
  ·exact J.k 2 0 rfl Ty3 (At.trans (Za4 _) (Zgp _)) <| J.g 2 <| OJ.nil ⟨(Cov.mem Cov.nil), rfl, _, rfl, by kernel_rfl⟩
  exact J.g 1 <| OJ.nil ⟨(Cov.mem Cov.nil), rfl, _, rfl, by kernel_rfl⟩
 ·exact J.g 10 <| OJ.nil ⟨(Cov.mem Cov.nil), rfl, _, rfl, by kernel_rfl⟩
 refine J.g 1 <| OJ.join (b := y4) [15, 16, 17, 18, 19, 20, 21, 22, 23, 24] [25] [31] (fun y6 => [(31, .bool y6)]) [] [] (t := 21) Iff.rfl (fun hp_ => ?_) (fun hp_ => ?_) (fun _ _ _ _ _ _ h_ => h_) fun y6 => ?_
 ·exact J.g 10 <| OJ.nil ⟨(Cov.mem Cov.nil), rfl, _, rfl, by kernel_rfl⟩
 ·refine J.k 1 0 rfl Ty3 (ZbC _) <| J.g 2 <| OJ.join (b := (a2.Kind == 3)) [19, 20, 21, 22, 23] [24] [21, 30] (fun y5 => [(21, .bool false), (30, .bool y5)]) [] [] (t := 25) beq_iff_eq (fun hp_ => ?_) (fun hp_ => ?_) (fun _ _ _ _ _ hq_ h_ => ⟨fun e_ he_ => (hq_ e_ he_).elim (fun h => h_.1 e_ h) (fun h => nomatch h), h_.2⟩) fun y5 => ?_
  ·exact J.k 3 0 rfl Ty4 (At.trans (At.trans (Zbh _) (Zf7 _)) (Zf8 _)) <| J.g 1 <| OJ.nil ⟨(Cov.mem Cov.nil), rfl, _, rfl, by kernel_rfl⟩
  ·exact J.g 5 <| OJ.nil ⟨(Cov.mem Cov.nil), rfl, _, rfl, by kernel_rfl⟩
  exact J.g 1 <| OJ.nil ⟨(Cov.mem Cov.nil), rfl, _, rfl, by kernel_rfl⟩
 exact J.z 1 <| J.r

/-! ### (*weir/rules.Set).Judge$1: function 24 -/
noncomputable def Zar.out (r_ : Bool) : Value := .bool r_
noncomputable def Zar.fv (f_ : Any) (y0_ : Zac) : M Bool :=
 (Zj4 f_.v).elim fail (fun q_ => if q_.1 = 85 then (match q_.2 with | [p0_, p1_, p2_] => Zda y0_ p0_ p1_ p2_ | _ => fail) else if q_.1 = 90 then (match q_.2 with | [p0_, p1_] => ZcT y0_ p0_ p1_ | _ => fail) else fail)
theorem Zar.fv_ok (f_ : Any) (y0_ : Zac) : RefV Tryz.prog f_.v [Zag.val y0_] (Zar.fv f_ y0_) (fun r_ : Bool => .bool r_) := by
  intro v r v' e
  unfold Zar.fv at e
  cases hf_ : Zj4 f_.v with
  | none => rw [hf_] at e; cases e
  | some q_ =>
    obtain ⟨g_, l_⟩ := q_
    rw [hf_] at e
    dsimp only [Option.elim] at e
    by_cases hg_ : g_ = 85
    · subst hg_
      rw [if_pos rfl] at e
      split at e
      · rename_i p0_ p1_ p2_
        have h_ := RefV.of (first := []) (cap := [.pointer (some p0_), .pointer (some p1_), .pointer (some p2_)]) (vals := [Zag.val y0_]) F85 (ZjW y0_ p0_ p1_ p2_) v r v' e
        rw [Zn3 hf_]
        exact h_
      · cases e
    rw [if_neg hg_] at e
    by_cases hg_ : g_ = 90
    · subst hg_
      rw [if_pos rfl] at e
      split at e
      · rename_i p0_ p1_
        have h_ := RefV.of (first := []) (cap := [.pointer (some p0_), .pointer (some p1_)]) (vals := [Zag.val y0_]) F90 (Zjr y0_ p0_ p1_) v r v' e
        rw [Zn3 hf_]
        exact h_
      · cases e
    rw [if_neg hg_] at e
    cases e
noncomputable def Zar.iv (f_ : Any) (x0_ : Int) (x1_ : Zac) : M Bool :=
 (ifc f_.v).elim fail (fun q_ => if q_.1 = 145 then ((cI .i64).un q_.2).elim fail (fun y_ => Zc6 y_ x0_ x1_) else if q_.1 = 146 then ((cI .i64).un q_.2).elim fail (fun y_ => ZcN y_ x0_ x1_) else if q_.1 = 147 then ((cI .i64).un q_.2).elim fail (fun y_ => ZcG y_ x0_ x1_) else if q_.1 = 148 then ((cI .i64).un q_.2).elim fail (fun y_ => Zco y_ x0_ x1_) else if q_.1 = 149 then (cV.un q_.2).elim fail (fun y_ => Zcg (Zar.fv y_) x0_ x1_) else if q_.1 = 152 then (ZbF.un q_.2).elim fail (fun y_ => ZcH y_ x0_ x1_) else if q_.1 = 153 then ((cI .i64).un q_.2).elim fail (fun y_ => ZcE y_ x0_ x1_) else if q_.1 = 155 then (Zcf.un q_.2).elim fail (fun y_ => Zcp y_ x0_ x1_) else fail)
theorem Zar.iv_ok (f_ : Any) (x0_ : Int) (x1_ : Zac) : RefN Tryz.prog f_.v "weir/rules.holds" [.int .i64 x0_, Zag.val x1_] (Zar.iv f_ x0_ x1_) (fun r_ : Bool => .bool r_) := by
  intro v r v' e
  unfold Zar.iv at e
  cases hf_ : ifc f_.v with
  | none => rw [hf_] at e; cases e
  | some q_ =>
    obtain ⟨t_, z_⟩ := q_
    rw [hf_] at e
    dsimp only [Option.elim] at e
    by_cases ht_ : t_ = 145
    · subst ht_
      rw [if_pos rfl] at e
      cases hy_ : (cI .i64).un z_ with
      | none => rw [hy_] at e; cases e
      | some y_ =>
        rw [hy_] at e
        dsimp only [Option.elim] at e
        rw [ZlC hf_, Cod.un_eq hy_]
        exact RefN.of (by kernel_rfl) F180 (ZiH y_ x0_ x1_) v r v' e
    rw [if_neg ht_] at e
    by_cases ht_ : t_ = 146
    · subst ht_
      rw [if_pos rfl] at e
      cases hy_ : (cI .i64).un z_ with
      | none => rw [hy_] at e; cases e
      | some y_ =>
        rw [hy_] at e
        dsimp only [Option.elim] at e
        rw [ZlC hf_, Cod.un_eq hy_]
        exact RefN.of (by kernel_rfl) F181 (Zit y_ x0_ x1_) v r v' e
    rw [if_neg ht_] at e
    by_cases ht_ : t_ = 147
    · subst ht_
      rw [if_pos rfl] at e
      cases hy_ : (cI .i64).un z_ with
      | none => rw [hy_] at e; cases e
      | some y_ =>
        rw [hy_] at e
        dsimp only [Option.elim] at e
        rw [ZlC hf_, Cod.un_eq hy_]
        exact RefN.of (by kernel_rfl) F182 (Zh0 y_ x0_ x1_) v r v' e
    rw [if_neg ht_] at e
    by_cases ht_ : t_ = 148
    · subst ht_
      rw [if_pos rfl] at e
      cases hy_ : (cI .i64).un z_ with
      | none => rw [hy_] at e; cases e
      | some y_ =>
        rw [hy_] at e
        dsimp only [Option.elim] at e
        rw [ZlC hf_, Cod.un_eq hy_]
        exact RefN.of (by kernel_rfl) F183 (ZhD y_ x0_ x1_) v r v' e
    rw [if_neg ht_] at e
    by_cases ht_ : t_ = 149
    · subst ht_
      rw [if_pos rfl] at e
      cases hy_ : cV.un z_ with
      | none => rw [hy_] at e; cases e
      | some y_ =>
        rw [hy_] at e
        dsimp only [Option.elim] at e
        rw [ZlC hf_, Cod.un_eq hy_]
        exact RefN.of (by kernel_rfl) F184 (ZhZ y_ (Zar.fv y_) (fun y0_ => Zar.fv_ok y_ y0_) x0_ x1_) v r v' e
    rw [if_neg ht_] at e
    by_cases ht_ : t_ = 152
    · subst ht_
      rw [if_pos rfl] at e
      cases hy_ : ZbF.un z_ with
      | none => rw [hy_] at e; cases e
      | some y_ =>
        rw [hy_] at e
        dsimp only [Option.elim] at e
        rw [ZlC hf_, Cod.un_eq hy_]
        exact RefN.of (by kernel_rfl) F185 (Zh1 y_ x0_ x1_) v r v' e
    rw [if_neg ht_] at e
    by_cases ht_ : t_ = 153
    · subst ht_
      rw [if_pos rfl] at e
      cases hy_ : (cI .i64).un z_ with
      | none => rw [hy_] at e; cases e
      | some y_ =>
        rw [hy_] at e
        dsimp only [Option.elim] at e
        rw [ZlC hf_, Cod.un_eq hy_]
        exact RefN.of (by kernel_rfl) F186 (ZhY y_ x0_ x1_) v r v' e
    rw [if_neg ht_] at e
    by_cases ht_ : t_ = 155
    · subst ht_
      rw [if_pos rfl] at e
      cases hy_ : Zcf.un z_ with
      | none => rw [hy_] at e; cases e
      | some y_ =>
        rw [hy_] at e
        dsimp only [Option.elim] at e
        rw [ZlC hf_, Cod.un_eq hy_]
        exact RefN.of (by kernel_rfl) F187 (ZhE y_ x0_ x1_) v r v' e
    rw [if_neg ht_] at e
    cases e
noncomputable def Zar (a0 : Any) (a1 : Addr) (a2 : Addr) : M Bool :=
 ld (cI .i64) a1 >>= fun x1 =>
 ld Zag a2 >>= fun x2 =>
 Zar.iv a0 x1 x2 >>= fun r3 =>
 pure (!r3)
theorem Zjs (a0 : Any) (a1 : Addr) (a2 : Addr) : Ref Tryz.prog 24 [a0.v, .pointer (some a1), .pointer (some a2)] (Zar a0 a1 a2) Zar.out := by
 refine J.Fn Tryz.func24 ?_
 unfold Zar
 exact SJ.sr 1 <| J.z 1 <| SJ.sr 6 <| J.l 1 Ty3 fun x1 => J.l 0 Ty47 fun x2 => OJ.inv (d := 8) (ats := #[3, 47]) (args := [.tmp 6, .tmp 7]) (ro := .tmp 5) (name := "weir/rules.holds") (fv := a0.v) (vals := [.int .i64 x1, Zag.val x2]) (owed := []) (by kernel_rfl) (by kernel_rfl) (by kernel_rfl) (Zar.iv_ok a0 x1 x2) (by kernel_rfl) (by kernel_rfl) (by kernel_rfl) fun r3 => OW.nil <| J.z 2 <| J.r

/-! ### slices.IndexFunc[[]weir/rules.test,weir/rules.test]: function 47 -/
noncomputable def Zai.B : Code := bod Tryz.f47
noncomputable def Zai.cx : Fx := ⟨Tryz.prog, 47, Tryz.f47, none⟩
noncomputable def Zai.out (r_ : Int) : Value := .int .i64 r_
noncomputable def Zai.F1 (a0 : Sl) (a1v : Any) : LF Int Int := ⟨[.inBlock 0, .code (c2 (c2 Zai.B))], c1 (c2 (c1 (c2 Zai.B))), fun s_ => [(0, Sl.v a0), (1, a1v.v), (7, .int .i64 (a0.len : Int)), (8, .int .i64 s_)], fun s_ => [], (rt Zai.out)⟩
noncomputable def Zai.L1 (a0 : Sl) (a1 : Any → M Bool) (s1 : Int) : M (LS Int Int) :=
 if s1 < (a0.len : Int) then
  idx a0.a a0.len s1 1 >>= fun p7 =>
  ld cV p7 >>= fun x8 =>
  a1 x8 >>= fun r9 =>
  if r9 = true then
   pure (LS.done s1)
  else
   pure (LS.next (IntKind.wrap .i64 (s1 + 1)))
 else
  pure (LS.done (-1))
theorem Zai.L1_ok (a0 : Sl) (a1v : Any) (a1 : Any → M Bool) (h_a1 : ∀ (x0_ : Any), RefV Tryz.prog a1v.v [x0_.v] (a1 x0_) (fun r_ : Bool => .bool r_)) : LJ Zai.cx (Zai.F1 a0 a1v) (fun s_ => Zai.L1 a0 a1 s_) := by
 rintro s1
 show SJ _ _ _ _ (Zai.L1 a0 a1 s1) _
 unfold Zai.L1
 refine SJ.sr 1 <| J.z 1 <| SJ.seq <| J.f ?_ ?_
 ·refine SJ.skip <| SJ.seq <| SJ.block (id := 1) <| SJ.sr 2 <| J.z 2 <| SJ.sr 6 <| J.i 3 fun p7 => J.l 0 Ty93 fun x8 => J.v 0 (h_a1 x8) fun r9 => J.z 0 <| J.f ?_ ?_
  ·exact SJ.sr 2 <| J.z 2 <| J.r
  exact SJ.skip <| SJ.inBlock <| SJ.rg 2 <| J.z 2 <| J.o rfl
 exact SJ.exit (id := 0) (by rfl) <| SJ.sr 1 <| J.z 1 <| J.r
noncomputable def Zai (a0 : Sl) (a1 : Any → M Bool) : M Int :=
 ZcI (fun s_ : Int => Zai.L1 a0 a1 s_) 0
theorem Ze2 (a0 : Sl) (a1v : Any) (a1 : Any → M Bool) (h_a1 : ∀ (x0_ : Any), RefV Tryz.prog a1v.v [x0_.v] (a1 x0_) (fun r_ : Bool => .bool r_)) : Ref Tryz.prog 47 [Sl.v a0, a1v.v] (Zai a0 a1) Zai.out := by
 refine J.Fn Tryz.func47 ?_
 unfold Zai
 exact SJ.sr 1 <| J.z 1 <| SJ.seq <| SJ.sr 3 <| J.z 3 <| SJ.block (id := 0) <| J.L (Zai.L1_ok a0 a1v a1 h_a1)

/-! ### slices.ContainsFunc[[]weir/rules.test,weir/rules.test]: function 23 -/
noncomputable def Zbk.out (r_ : Bool) : Value := .bool r_
noncomputable def Zbk (a0 : Sl) (a1 : Any → M Bool) : M Bool :=
 Zai a0 a1 >>= fun r1 =>
 pure (decide (r1 ≥ 0))
theorem Zew (a0 : Sl) (a1v : Any) (a1 : Any → M Bool) (h_a1 : ∀ (x0_ : Any), RefV Tryz.prog a1v.v [x0_.v] (a1 x0_) (fun r_ : Bool => .bool r_)) : Ref Tryz.prog 23 [Sl.v a0, a1v.v] (Zbk a0 a1) Zbk.out := by
 refine J.Fn Tryz.func23 ?_
 unfold Zbk
 exact SJ.sr 1 <| J.z 1 <| SJ.sr 5 <| J.C 2 F47 (Ze2 a0 a1v a1 h_a1) fun r1 => J.z 2 <| J.r

/-! ### (*weir/rules.Set).Judge: function 9 -/
noncomputable def Za9.B : Code := bod Tryz.f9
noncomputable def Za9.cx : Fx := ⟨Tryz.prog, 9, Tryz.f9, none⟩
noncomputable def Za9.out (r_ : Za2) : Value := Zb1.val r_
noncomputable def Za9.F1 (a0 : (Option Addr)) (b1 : Nat) (b2 : Nat) (b3 : Nat) (x5 : Sl) : LF (Int × Za2) Za2 := ⟨[.inBlock 0, .code (c2 (c2 Za9.B))], c1 (c2 (c1 (c2 Za9.B))), fun s_ => [(0, .pointer a0), (4, .pointer (some (pt b1 0))), (5, .pointer (some (pt b2 0))), (6, .pointer (some (pt b3 0))), (12, Sl.v x5), (13, .int .i64 (x5.len : Int)), (14, .int .i64 s_.1)], fun s_ => [(b3, Zb1.enc s_.2)], (rt Za9.out)⟩
noncomputable def Za9.L1 (a0 : (Option Addr)) (b1 : Nat) (b2 : Nat) (x5 : Sl) (s6 : Int) (s7 : Za2) : M (LS (Int × Za2) Za2) :=
 if s6 < (x5.len : Int) then
  idx x5.a x5.len s6 1 >>= fun p30 =>
  ld cL p30 >>= fun x31 =>
  Zbk x31 (fun (q32 : Any) => Zar q32 (pt b1 0) (pt b2 0)) >>= fun r33 =>
  if ¬ (r33 = true) then
   draw >>= fun _ =>
   nilck a0 >>= fun p42 =>
   ld cL p42 >>= fun x43 =>
   idx x43.a x43.len s6 16 >>= fun p44 =>
   ld (cI .i64) p44 >>= fun x45 =>
   nilck a0 >>= fun p46 =>
   ld cL p46 >>= fun x47 =>
   idx x47.a x47.len s6 16 >>= fun p48 =>
   ld (cI .i64) (Addr.add p48 1) >>= fun x49 =>
   pure (LS.done (⟨x45, x49, s6⟩ : Za2))
  else
   pure (LS.next (IntKind.wrap .i64 (s6 + 1), s7))
 else
  pure (LS.done (⟨2, Zd3.Class, (-1)⟩ : Za2))
theorem Za9.L1_ok (a0 : (Option Addr)) (b1 : Nat) (b2 : Nat) (b3 : Nat) (x5 : Sl) : LJ Za9.cx (Za9.F1 a0 b1 b2 b3 x5) (fun s_ => Za9.L1 a0 b1 b2 x5 s_.1 s_.2) := by
 rintro ⟨s6, s7⟩
 show SJ _ _ _ _ (Za9.L1 a0 b1 b2 x5 s6 s7) _
 unfold Za9.L1
 refine SJ.sr 1 <| J.z 1 <| SJ.seq <| J.f ?_ ?_
 ·refine SJ.skip <| SJ.seq <| SJ.block (id := 1) <| SJ.sr 5 <| J.i 1 fun p30 => J.l 0 Ty90 fun x31 => J.z 2 <| SJ.sr 4 <| J.C 2 F23 (Zew x31 ⟨.func (.func 24) #[] #[.pointer (some (pt b1 0)), .pointer (some (pt b2 0))], rfl⟩ (fun (q32 : Any) => Zar q32 (pt b1 0) (pt b2 0)) (fun q32 => RefV.of (first := []) (cap := [.pointer (some (pt b1 0)), .pointer (some (pt b2 0))]) F24 (Zjs q32 (pt b1 0) (pt b2 0)))) fun r33 => J.z 1 <| J.f ?_ ?_
  ·exact SJ.seq <| J.R 19 Zcs <| J.n 1 fun p42 => J.l 1 Ty22 fun x43 => J.i 1 fun p44 => J.l 1 Ty3 fun x45 => J.n 1 fun p46 => J.l 1 Ty22 fun x47 => J.i 1 fun p48 => J.l 1 Ty3 fun x49 => J.u 1 Ty58 (.f 0 (Ze7 _ x45) (.f 1 (ZgI _ x49) (.f 2 (ZeO _ s6) .nil))) <| J.s 0 0 rfl Ty58 (Upd.w (⟨x45, x49, s6⟩ : Za2)) <| J.z 0 <| J.rc (.c 0 rfl Ty58 .n)
  exact SJ.skip <| SJ.inBlock <| SJ.rg 2 <| J.z 2 <| J.o rfl
 exact SJ.exit (id := 0) (by rfl) <| SJ.sr 2 <| J.u 0 Ty58 (.f 0 (Ze7 _ 2) (.f 2 (ZeO _ (-1)) .nil)) <| J.s 0 0 rfl Ty58 (Upd.w (⟨2, Zd3.Class, (-1)⟩ : Za2)) <| J.z 0 <| J.rc (.c 0 rfl Ty58 .n)
noncomputable def Za9 (a0 : (Option Addr)) (a1 : Int) (a2 : Zac) : M Za2 :=
 newv 3 (cI .i64) a1 >>= fun b1 =>
 newv 47 Zag a2 >>= fun b2 =>
 slot 58 >>= fun b3 =>
 nilck a0 >>= fun p4 =>
 ld cL (Addr.add p4 1) >>= fun x5 =>
 ZcI (fun s_ : (Int × Za2) => Za9.L1 a0 b1 b2 x5 s_.1 s_.2) (0, Zd3)
theorem Zkm (a0 : (Option Addr)) (a1 : Int) (a2 : Zac) : Ref Tryz.prog 9 [.pointer a0, .int .i64 a1, Zag.val a2] (Za9 a0 a1 a2) Za9.out := by
 refine J.Fn Tryz.func9 ?_
 unfold Za9
 exact SJ.sr 3 <| J.B 0 fun b1 => J.B 0 fun b2 => J.a 0 Ty58 fun b3 => J.z 0 <| SJ.seq <| SJ.sr 6 <| J.n 1 fun p4 => J.l 1 Ty68 fun x5 => J.z 2 <| SJ.block (id := 0) <| J.L (Za9.L1_ok a0 b1 b2 b3 x5)

/-! ### weir/weirref16.from: function 48 -/
noncomputable def Zef.out (r_ : (Zba × Zba × Bool)) : Value := .tuple #[ZaG.val r_.1, ZaG.val r_.2.1, .bool r_.2.2]
noncomputable def Zef (a0 : Zac) : M (Zba × Zba × Bool) :=
 slot 47 >>= fun b1 =>
 slot 28 >>= fun b2 =>
 slot 28 >>= fun b3 =>
 if a0.Kind = 1 then
  draw >>= fun _ =>
  pure (a0.Arp.SIP, a0.Arp.TIP, true)
 else
  if a0.Kind = 2 then
   draw >>= fun _ =>
   pure (a0.Ip4.Src, a0.Ip4.Dst, true)
  else
   if a0.Kind = 3 then
    draw >>= fun _ =>
    pure (a0.Ip6.Src, a0.Ip6.Dst, true)
   else
    pure (Zci, Zci, false)
theorem ZkW (a0 : Zac) : Ref Tryz.prog 48 [Zag.val a0] (Zef a0) Zef.out := by
 refine J.Fn Tryz.func48 ?_
 unfold Zef
 refine SJ.sr 4 <| J.b 0 Zag a0 fun b1 => J.a 0 Ty28 fun b2 => J.a 0 Ty28 fun b3 => J.z 1 <| SJ.seq <| SJ.sr 2 <| J.k 1 2 rfl Ty3 (ZbC _) <| J.z 0 <| SJ.block (id := 0) <| SJ.sr 2 <| J.z 2 <| J.f ?_ ?_
 ·exact SJ.seq <| J.R 9 Zcs <| J.k 2 2 rfl Ty28 (At.trans (ZcV _) (Zgq _)) <| J.k 2 2 rfl Ty28 (At.trans (ZcV _) (Ze1 _)) <| OJ.kst (y := .tmp 2) (z := .tmp 11) (cd := ZaG) (u := a0.Arp.SIP) (j := 1) (b := b2) (o := 0) (ZaG.enc a0.Arp.SIP) (owed := [⟨5, 28, (pt b1 44), ZaG.val a0.Arp.TIP⟩]) Ty28 rfl (Upd.whole ((Cod.len _ _).trans (Cod.len _ _).symm)) rfl <| OW.known (j := 2) (q := a0.Arp.TIP) Ty28 rfl (At.trans (ZcV a0) (Ze1 a0.Arp)) <| OW.nil <| J.s 0 0 rfl Ty28 (Upd.w a0.Arp.TIP) <| J.z 1 <| J.rc (.c 1 rfl Ty28 (.c 0 rfl Ty28 .n))
 refine SJ.sr 2 <| J.z 2 <| J.f ?_ ?_
 ·exact SJ.seq <| J.R 9 Zcs <| J.k 2 2 rfl Ty28 (At.trans (Za4 _) (Zgo _)) <| J.k 2 2 rfl Ty28 (At.trans (Za4 _) (Ze0 _)) <| OJ.kst (y := .tmp 2) (z := .tmp 19) (cd := ZaG) (u := a0.Ip4.Src) (j := 1) (b := b2) (o := 0) (ZaG.enc a0.Ip4.Src) (owed := [⟨5, 28, (pt b1 85), ZaG.val a0.Ip4.Dst⟩]) Ty28 rfl (Upd.whole ((Cod.len _ _).trans (Cod.len _ _).symm)) rfl <| OW.known (j := 2) (q := a0.Ip4.Dst) Ty28 rfl (At.trans (Za4 a0) (Ze0 a0.Ip4)) <| OW.nil <| J.s 0 0 rfl Ty28 (Upd.w a0.Ip4.Dst) <| J.z 1 <| J.rc (.c 1 rfl Ty28 (.c 0 rfl Ty28 .n))
 refine SJ.sr 2 <| J.z 2 <| J.f ?_ ?_
 ·exact SJ.seq <| J.R 9 Zcs <| J.k 2 2 rfl Ty28 (At.trans (Zbh _) (Zgn _)) <| J.k 2 2 rfl Ty28 (At.trans (Zbh _) (ZeZ _)) <| OJ.kst (y := .tmp 2) (z := .tmp 27) (cd := ZaG) (u := a0.Ip6.Src) (j := 1) (b := b2) (o := 0) (ZaG.enc a0.Ip6.Src) (owed := [⟨5, 28, (pt b1 124), ZaG.val a0.Ip6.Dst⟩]) Ty28 rfl (Upd.whole ((Cod.len _ _).trans (Cod.len _ _).symm)) rfl <| OW.known (j := 2) (q := a0.Ip6.Dst) Ty28 rfl (At.trans (Zbh a0) (ZeZ a0.Ip6)) <| OW.nil <| J.s 0 0 rfl Ty28 (Upd.w a0.Ip6.Dst) <| J.z 1 <| J.rc (.c 1 rfl Ty28 (.c 0 rfl Ty28 .n))
 exact SJ.skip <| SJ.inBlock <| SJ.sr 5 <| J.u 0 Ty28 .nil <| J.u 0 Ty28 .nil <| J.s 0 1 rfl Ty28 (Upd.w Zci) <| J.s 0 0 rfl Ty28 (Upd.w Zci) <| J.z 1 <| J.rc (.c 1 rfl Ty28 (.c 0 rfl Ty28 .n))

/-! ### weir/weirref16.ports: function 49 -/
noncomputable def ZdP.out (r_ : (Int × Int × Bool)) : Value := .tuple #[.int .i64 r_.1, .int .i64 r_.2.1, .bool r_.2.2]
noncomputable def ZdP (a0 : Zac) : M (Int × Int × Bool) :=
 slot 47 >>= fun b1 =>
 if a0.L4 = 2 then
  draw >>= fun _ =>
  pure (a0.Udp.Sport, a0.Udp.Dport, true)
 else
  if a0.L4 = 3 then
   draw >>= fun _ =>
   pure (a0.Tcp.Sport, a0.Tcp.Dport, true)
  else
   pure (0, 0, false)
theorem Zkc (a0 : Zac) : Ref Tryz.prog 49 [Zag.val a0] (ZdP a0) ZdP.out := by
 refine J.Fn Tryz.func49 ?_
 unfold ZdP
 refine SJ.sr 4 <| J.b 0 Zag a0 fun b1 => J.z 3 <| SJ.seq <| SJ.sr 2 <| J.k 1 0 rfl Ty3 (Zdb _) <| J.z 0 <| SJ.block (id := 0) <| SJ.sr 2 <| J.z 2 <| J.f ?_ ?_
 ·exact SJ.seq <| J.R 9 Zcs <| J.k 2 0 rfl Ty3 (At.trans (ZcU _) (ZfC _)) <| J.k 2 0 rfl Ty3 (At.trans (ZcU _) (ZfD _)) <| J.z 3 <| J.r
 refine SJ.sr 2 <| J.z 2 <| J.f ?_ ?_
 ·exact SJ.seq <| J.R 9 Zcs <| J.k 2 0 rfl Ty3 (At.trans (ZbT _) (ZfE _)) <| J.k 2 0 rfl Ty3 (At.trans (ZbT _) (ZfF _)) <| J.z 3 <| J.r
 exact SJ.skip <| SJ.inBlock <| SJ.sr 3 <| J.z 3 <| J.r

/-! ### weir/weirref4.Valid: function 108 -/
noncomputable def Zbb.B : Code := bod Tryz.f108
noncomputable def Zbb.cx : Fx := ⟨Tryz.prog, 108, Tryz.f108, none⟩
noncomputable def Zbb.out (r_ : Bool) : Value := .bool r_
noncomputable def Zbb.F1 (a0 : Zba) (b1 : Nat) : LF Int Bool := ⟨[.inBlock 0, .code (c2 (c2 (c2 Zbb.B)))], c1 (c2 (c1 (c2 (c2 Zbb.B)))), fun s_ => [(1, .pointer (some (pt b1 0))), (3, .int .i64 s_)], fun s_ => [(b1, ZaG.enc a0)], (rt Zbb.out)⟩
noncomputable def Zbb.L1 (a0 : Zba) (s2 : Int) : M (LS Int Bool) :=
 if s2 < 16 then
  chk ((0 : Int) ≤ s2 ∧ s2 < (16 : Nat)) >>= fun _ =>
  if (Vec.g a0.A s2 0) ≠ 0 then
   pure (LS.done false)
  else
   pure (LS.next (IntKind.wrap .i64 (s2 + 1)))
 else
  pure (LS.done true)
theorem Zbb.L1_ok (a0 : Zba) (b1 : Nat) : LJ Zbb.cx (Zbb.F1 a0 b1) (fun s_ => Zbb.L1 a0 s_) := by
 rintro s2
 show SJ _ _ _ _ (Zbb.L1 a0 s2) _
 unfold Zbb.L1
 refine SJ.seq <| SJ.sr 2 <| J.z 2 <| J.f ?_ ?_
 ·refine SJ.skip <| SJ.seq <| SJ.block (id := 1) <| SJ.sr 5 <| J.y 2 fun hb7 hb8 => J.k 0 0 rfl Ty5 (At.trans (ZdE _) (At.arr (z := 0) hb7 hb8)) <| J.z 1 <| J.f ?_ ?_
  ·exact SJ.sr 1 <| J.z 1 <| J.r
  exact SJ.skip <| SJ.inBlock <| SJ.rg 3 <| J.z 3 <| J.o rfl
 exact SJ.exit (id := 0) (by rfl) <| SJ.sr 1 <| J.z 1 <| J.r
noncomputable def Zbb (a0 : Zba) : M Bool :=
 slot 28 >>= fun b1 =>
 if a0.V ≠ 4 then
  pure (a0.V == 6)
 else
  ZcI (fun s_ : Int => Zbb.L1 a0 s_) 4
theorem Zhy (a0 : Zba) : Ref Tryz.prog 108 [ZaG.val a0] (Zbb a0) Zbb.out := by
 refine J.Fn Tryz.func108 ?_
 unfold Zbb
 refine SJ.sr 2 <| J.b 0 ZaG a0 fun b1 => J.z 1 <| SJ.seq <| SJ.sr 3 <| J.k 1 0 rfl Ty3 (ZcP _) <| J.z 1 <| J.f ?_ ?_
 ·exact SJ.sr 4 <| J.k 1 0 rfl Ty3 (ZcP _) <| J.z 2 <| J.r
 exact SJ.skip <| SJ.seq <| SJ.sr 1 <| J.z 1 <| SJ.block (id := 0) <| J.L (Zbb.L1_ok a0 b1)

/-! ### weir/weirref4.width: function 125 -/
noncomputable def Zee.out (r_ : Int) : Value := .int .i64 r_
noncomputable def Zee (a0 : Zba) : M Int :=
 slot 28 >>= fun b1 =>
 if a0.V = 4 then
  pure 32
 else
  pure 128
theorem ZkV (a0 : Zba) : Ref Tryz.prog 125 [ZaG.val a0] (Zee a0) Zee.out := by
 refine J.Fn Tryz.func125 ?_
 unfold Zee
 refine SJ.sr 2 <| J.b 0 ZaG a0 fun b1 => J.z 1 <| SJ.seq <| SJ.sr 3 <| J.k 1 0 rfl Ty3 (ZcP _) <| J.z 1 <| J.f ?_ ?_
 ·exact SJ.sr 1 <| J.z 1 <| J.r
 exact SJ.skip <| SJ.sr 1 <| J.z 1 <| J.r

/-! ### weir/weirref4.bit: function 109 -/
noncomputable def Zbv.B : Code := bod Tryz.f109
noncomputable def Zbv.cx : Fx := ⟨Tryz.prog, 109, Tryz.f109, none⟩
noncomputable def Zbv.out (r_ : Int) : Value := .int .i64 r_
noncomputable def Zbv.F1  : LF (Int × Int) Int := ⟨[.inBlock 0, .code (c2 (c2 (c2 Zbv.B)))], c1 (c2 (c1 (c2 (c2 Zbv.B)))), fun s_ => [(5, .int .i64 s_.1), (6, .int .i64 s_.2)], fun s_ => [], (rt Zbv.out)⟩
noncomputable def Zbv.L1 (s4 : Int) (s5 : Int) : M (LS (Int × Int) Int) :=
 if s5 < 7 then
  pure (LS.next (IntKind.wrap .i64 (Int.tdiv s4 2), IntKind.wrap .i64 (s5 + 1)))
 else
  pure (LS.done (Int.tmod s4 2))
theorem Zbv.L1_ok  : LJ Zbv.cx (Zbv.F1) (fun s_ => Zbv.L1 s_.1 s_.2) := by
 rintro ⟨s4, s5⟩
 show SJ _ _ _ _ (Zbv.L1 s4 s5) _
 unfold Zbv.L1
 refine SJ.seq <| SJ.sr 2 <| J.z 2 <| J.f ?_ ?_
 ·exact SJ.skip <| SJ.seq <| SJ.block (id := 1) <| SJ.rg 3 <| J.z 3 <| SJ.inBlock <| SJ.rg 3 <| J.z 3 <| J.o rfl
 exact SJ.exit (id := 0) (by rfl) <| SJ.sr 3 <| J.z 3 <| J.r
noncomputable def Zbv (a0 : Zba) (a1 : Int) : M Int :=
 slot 28 >>= fun b1 =>
 chk ((0 : Int) ≤ (IntKind.wrap .i64 (Int.tdiv a1 8)) ∧ (IntKind.wrap .i64 (Int.tdiv a1 8)) < (16 : Nat)) >>= fun _ =>
 ZcI (fun s_ : (Int × Int) => Zbv.L1 s_.1 s_.2) (IntKind.wrap .i64 (Vec.g a0.A (IntKind.wrap .i64 (Int.tdiv a1 8)) 0), Int.tmod a1 8)
theorem ZgR (a0 : Zba) (a1 : Int) : Ref Tryz.prog 109 [ZaG.val a0, .int .i64 a1] (Zbv a0 a1) Zbv.out := by
 refine J.Fn Tryz.func109 ?_
 unfold Zbv
 exact SJ.sr 2 <| J.b 0 ZaG a0 fun b1 => J.z 1 <| SJ.sr 7 <| J.y 3 fun hb2 hb3 => J.k 0 0 rfl Ty5 (At.trans (ZdE _) (At.arr (z := 0) hb2 hb3)) <| J.z 2 <| SJ.seq <| SJ.sr 3 <| J.z 3 <| SJ.block (id := 0) <| SJ.forget (List.Sublist.cons _ List.Sublist.slnil) <| J.L (Zbv.L1_ok)

/-! ### weir/weirref4.ValidPrefix: function 107 -/
noncomputable def ZaM.B : Code := bod Tryz.f107
noncomputable def ZaM.cx : Fx := ⟨Tryz.prog, 107, Tryz.f107, none⟩
noncomputable def ZaM.out (r_ : Int) : Value := .int .i64 r_
noncomputable def ZaM.F1 (a0 : Zad) (b1 : Nat) (r3 : Int) : LF Int Int := ⟨[.inBlock 0, .code (c2 (c2 (c2 (c2 (c2 (c2 ZaM.B))))))], c1 (c2 (c1 (c2 (c2 (c2 (c2 (c2 ZaM.B))))))), fun s_ => [(1, .pointer (some (pt b1 0))), (4, .int .i64 r3), (5, .int .i64 s_)], fun s_ => [(b1, Zav.enc a0)], (rt ZaM.out)⟩
noncomputable def ZaM.L1 (a0 : Zad) (r3 : Int) (s5 : Int) : M (LS Int Int) :=
 if s5 < r3 then
  Zbv a0.IP s5 >>= fun r9 =>
  if r9 = 1 then
   pure (LS.done 46)
  else
   pure (LS.next (IntKind.wrap .i64 (s5 + 1)))
 else
  pure (LS.done 0)
theorem ZaM.L1_ok (a0 : Zad) (b1 : Nat) (r3 : Int) : LJ ZaM.cx (ZaM.F1 a0 b1 r3) (fun s_ => ZaM.L1 a0 r3 s_) := by
 rintro s5
 show SJ _ _ _ _ (ZaM.L1 a0 r3 s5) _
 unfold ZaM.L1
 refine SJ.seq <| SJ.sr 3 <| J.z 3 <| J.f ?_ ?_
 ·refine SJ.skip <| SJ.seq <| SJ.block (id := 1) <| SJ.sr 5 <| J.k 1 0 rfl Ty28 (Zbz _) <| J.C 1 F109 (ZgR _ _) fun r9 => J.z 1 <| J.f ?_ ?_
  ·exact SJ.sr 1 <| J.z 1 <| J.r
  exact SJ.skip <| SJ.inBlock <| SJ.rg 3 <| J.z 3 <| J.o rfl
 exact SJ.exit (id := 0) (by rfl) <| SJ.sr 1 <| J.z 1 <| J.r
noncomputable def ZaM (a0 : Zad) : M Int :=
 slot 111 >>= fun b1 =>
 Zbb a0.IP >>= fun r2 =>
 if ¬ (r2 = true) then
  pure 40
 else
  Zee a0.IP >>= fun r3 =>
  (if a0.Len < 0 then
    pure true
   else
    pure (decide (a0.Len > r3))) >>= fun y4 =>
  if y4 = true then
   pure 45
  else
   ZcI (fun s_ : Int => ZaM.L1 a0 r3 s_) a0.Len
theorem ZhU (a0 : Zad) : Ref Tryz.prog 107 [Zav.val a0] (ZaM a0) ZaM.out := by
 refine J.Fn Tryz.func107 ?_
 unfold ZaM
 refine SJ.sr 2 <| J.b 0 Zav a0 fun b1 => J.z 1 <| SJ.sr 4 <| J.k 1 0 rfl Ty28 (Zbz _) <| J.C 0 F108 (Zhy _) fun r2 => J.z 1 <| SJ.seq <| SJ.sr 2 <| J.z 2 <| J.f ?_ ?_
 ·exact SJ.sr 1 <| J.z 1 <| J.r
 refine SJ.skip <| SJ.sr 4 <| J.k 1 0 rfl Ty28 (Zbz _) <| J.C 0 F125 (ZkV _) fun r3 => J.z 1 <| SJ.seq <| SJ.sr 9 <| J.k 1 0 rfl Ty3 (ZbS _) <| J.j 2 4 .bool ?_ ?_ fun y4 => ?_
 ·exact J.e 5
 ·exact J.k 1 0 rfl Ty3 (ZbS _) <| J.e 3
 refine J.z 0 <| J.f ?_ ?_
 ·exact SJ.sr 1 <| J.z 1 <| J.r
 exact SJ.skip <| SJ.seq <| SJ.sr 3 <| J.k 1 0 rfl Ty3 (ZbS _) <| J.z 1 <| SJ.block (id := 0) <| J.L (ZaM.L1_ok a0 b1 r3)

/-! ### weir/weirref4.Contains: function 76 -/
noncomputable def ZaY.B : Code := bod Tryz.f76
noncomputable def ZaY.cx : Fx := ⟨Tryz.prog, 76, Tryz.f76, none⟩
noncomputable def ZaY.out (r_ : Bool) : Value := .bool r_
noncomputable def ZaY.F1 (a0 : Zad) (a1 : Zba) (b1 : Nat) (b2 : Nat) : LF Int Bool := ⟨[.inBlock 0, .code (c2 (c2 (c2 (c2 (c2 ZaY.B)))))], c1 (c2 (c1 (c2 (c2 (c2 (c2 ZaY.B)))))), fun s_ => [(2, .pointer (some (pt b1 0))), (3, .pointer (some (pt b2 0))), (7, .int .i64 s_)], fun s_ => [(b2, ZaG.enc a1), (b1, Zav.enc a0)], (rt ZaY.out)⟩
noncomputable def ZaY.L1 (a0 : Zad) (a1 : Zba) (s7 : Int) : M (LS Int Bool) :=
 if s7 < a0.Len then
  draw >>= fun _ =>
  Zbv a0.IP s7 >>= fun r12 =>
  Zbv a1 s7 >>= fun r13 =>
  if r12 ≠ r13 then
   pure (LS.done false)
  else
   pure (LS.next (IntKind.wrap .i64 (s7 + 1)))
 else
  pure (LS.done true)
theorem ZaY.L1_ok (a0 : Zad) (a1 : Zba) (b1 : Nat) (b2 : Nat) : LJ ZaY.cx (ZaY.F1 a0 a1 b1 b2) (fun s_ => ZaY.L1 a0 a1 s_) := by
 rintro s7
 show SJ _ _ _ _ (ZaY.L1 a0 a1 s7) _
 unfold ZaY.L1
 refine SJ.seq <| SJ.sr 4 <| J.k 2 1 rfl Ty3 (ZbS _) <| J.z 1 <| J.f ?_ ?_
 ·refine SJ.skip <| SJ.seq <| SJ.block (id := 1) <| SJ.seq <| J.D [0, 1, 2, 4, 3, 5, 6, 7] Zcs <| J.k 1 1 rfl Ty28 (Zbz _) <| J.k 1 0 rfl Ty28 (At.whole _) <| OJ.call (d := 35) (g := 109) (ats := #[28, 3]) (args := [.tmp 33, .tmp 34]) (owed := [⟨4, 28, (pt b2 0), ZaG.val a1⟩]) F109 (ZgR a0.IP s7) fun r12 => OW.known (j := 0) (q := a1) Ty28 rfl (At.whole _) <| OW.nil <| J.C 1 F109 (ZgR _ _) fun r13 => J.z 1 <| J.f ?_ ?_
  ·exact SJ.sr 1 <| J.z 1 <| J.r
  exact SJ.skip <| SJ.inBlock <| SJ.rg 3 <| J.z 3 <| J.o rfl
 exact SJ.exit (id := 0) (by rfl) <| SJ.sr 1 <| J.z 1 <| J.r
noncomputable def ZaY (a0 : Zad) (a1 : Zba) : M Bool :=
 slot 111 >>= fun b1 =>
 slot 28 >>= fun b2 =>
 ZaM a0 >>= fun r3 =>
 Zbb a1 >>= fun r4 =>
 (if r3 ≠ 0 then
   pure true
  else
   pure (!r4)) >>= fun y5 =>
 (if y5 = true then
   pure true
  else
   pure (a0.IP.V != a1.V)) >>= fun y6 =>
 if y6 = true then
  pure false
 else
  ZcI (fun s_ : Int => ZaY.L1 a0 a1 s_) 0
theorem Zjl (a0 : Zad) (a1 : Zba) : Ref Tryz.prog 76 [Zav.val a0, ZaG.val a1] (ZaY a0 a1) ZaY.out := by
 refine J.Fn Tryz.func76 ?_
 unfold ZaY
 refine SJ.sr 3 <| J.b 0 Zav a0 fun b1 => J.b 0 ZaG a1 fun b2 => J.z 1 <| SJ.sr 3 <| J.k 0 1 rfl ZcY (At.whole _) <| J.C 0 F107 (ZhU _) fun r3 => J.z 1 <| SJ.sr 3 <| J.k 0 0 rfl Ty28 (At.whole _) <| J.C 0 F108 (Zhy _) fun r4 => J.z 1 <| SJ.seq <| SJ.sr 14 <| J.j 3 2 .bool ?_ ?_ fun y5 => ?_
 ·exact J.e 3
 ·exact J.e 3
 refine J.j 1 6 .bool ?_ ?_ fun y6 => ?_
 ·exact J.e 7
 ·exact J.k 2 1 rfl Ty3 (At.trans (Zbz _) (ZcP _)) <| J.k 1 0 rfl Ty3 (ZcP _) <| J.e 2
 refine J.z 0 <| J.f ?_ ?_
 ·exact SJ.sr 1 <| J.z 1 <| J.r
 exact SJ.skip <| SJ.seq <| SJ.sr 1 <| J.z 1 <| SJ.block (id := 0) <| J.L (ZaY.L1_ok a0 a1 b1 b2)

/-! ### weir/weirref16.lies: function 50 -/
noncomputable def Zbc.B : Code := bod Tryz.f50
noncomputable def Zbc.cx : Fx := ⟨Tryz.prog, 50, Tryz.f50, none⟩
noncomputable def Zbc.out (r_ : Bool) : Value := .bool r_
noncomputable def Zbc.F1 (a0 : Zaf) (a1 : Zba) (a2 : Bool) (b1 : Nat) (b2 : Nat) : LF (Bool × Int) Bool := ⟨[.inBlock 0, .code (c2 (c2 (c2 (c2 Zbc.B))))], c1 (c2 (c1 (c2 (c2 (c2 Zbc.B))))), fun s_ => [(2, .bool a2), (3, .pointer (some (pt b1 0))), (4, .pointer (some (pt b2 0))), (7, .bool s_.1), (8, .int .i64 s_.2)], fun s_ => [(b2, ZaG.enc a1), (b1, ZaA.enc a0)], (rt Zbc.out)⟩
noncomputable def Zbc.L1 (a0 : Zaf) (a1 : Zba) (a2 : Bool) (s3 : Bool) (s4 : Int) : M (LS (Bool × Int) Bool) :=
 if s4 < (a0.Nets.len : Int) then
  draw >>= fun _ =>
  idx a0.Nets.a a0.Nets.len s4 18 >>= fun p11 =>
  ld Zav p11 >>= fun x12 =>
  ZaY x12 a1 >>= fun r13 =>
  (if s3 = true then
    pure true
   else
    pure r13) >>= fun y14 =>
  pure (LS.next (y14, IntKind.wrap .i64 (s4 + 1)))
 else
  (if a2 = true then
    pure (!(s3 == a0.Not))
   else
    pure false) >>= fun y15 =>
  pure (LS.done y15)
theorem Zbc.L1_ok (a0 : Zaf) (a1 : Zba) (a2 : Bool) (b1 : Nat) (b2 : Nat) : LJ Zbc.cx (Zbc.F1 a0 a1 a2 b1 b2) (fun s_ => Zbc.L1 a0 a1 a2 s_.1 s_.2) := by
 rintro ⟨s3, s4⟩
 show SJ _ _ _ _ (Zbc.L1 a0 a1 a2 s3 s4) _
 unfold Zbc.L1
 refine SJ.seq <| SJ.sr 5 <| J.k 2 1 rfl Ty71 (Zaw _) <| J.z 2 <| J.f ?_ ?_
 ·refine SJ.skip <| SJ.seq <| SJ.block (id := 1) <| SJ.seq <| J.R 8 Zcs <| J.k 1 1 rfl Ty71 (Zaw _) <| J.i 1 fun p11 => J.l 0 ZcY fun x12 => J.k 0 0 rfl Ty28 (At.whole _) <| J.C 0 F76 (Zjl _ _) fun r13 => J.z 1 <| SJ.rg 5 <| J.j 2 1 .bool ?_ ?_ fun y14 => ?_
  ·exact J.e 2
  ·exact J.e 2
  exact J.z 1 <| SJ.inBlock <| SJ.rg 3 <| J.z 3 <| J.o rfl
 refine SJ.exit (id := 0) (by rfl) <| SJ.sr 8 <| J.j 2 4 .bool ?_ ?_ fun y15 => ?_
 ·exact J.k 2 1 rfl Ty4 (ZaL _) <| J.e 2
 ·exact J.e 5
 exact J.z 1 <| J.r
noncomputable def Zbc (a0 : Zaf) (a1 : Zba) (a2 : Bool) : M Bool :=
 slot 74 >>= fun b1 =>
 slot 28 >>= fun b2 =>
 if (a0.Nets.len : Int) = 0 then
  pure true
 else
  ZcI (fun s_ : (Bool × Int) => Zbc.L1 a0 a1 a2 s_.1 s_.2) (false, 0)
theorem Zhz (a0 : Zaf) (a1 : Zba) (a2 : Bool) : Ref Tryz.prog 50 [ZaA.val a0, ZaG.val a1, .bool a2] (Zbc a0 a1 a2) Zbc.out := by
 refine J.Fn Tryz.func50 ?_
 unfold Zbc
 refine SJ.sr 3 <| J.b 0 ZaA a0 fun b1 => J.b 0 ZaG a1 fun b2 => J.z 1 <| SJ.seq <| SJ.sr 4 <| J.k 1 1 rfl Ty71 (Zaw _) <| J.z 2 <| J.f ?_ ?_
 ·exact SJ.sr 1 <| J.z 1 <| J.r
 exact SJ.skip <| SJ.sr 1 <| J.z 1 <| SJ.seq <| SJ.sr 1 <| J.z 1 <| SJ.block (id := 0) <| J.L (Zbc.L1_ok a0 a1 a2 b1 b2)

/-! ### weir/weirref16.goes: function 51 -/
noncomputable def Zbd.B : Code := bod Tryz.f51
noncomputable def Zbd.cx : Fx := ⟨Tryz.prog, 51, Tryz.f51, none⟩
noncomputable def Zbd.out (r_ : Bool) : Value := .bool r_
noncomputable def Zbd.F1 (a0 : Zaf) (a1 : Int) (a2 : Bool) (b1 : Nat) : LF (Bool × Int) Bool := ⟨[.inBlock 0, .code (c2 (c2 (c2 (c2 Zbd.B))))], c1 (c2 (c1 (c2 (c2 (c2 Zbd.B))))), fun s_ => [(1, .int .i64 a1), (2, .bool a2), (3, .pointer (some (pt b1 0))), (7, .bool s_.1), (8, .int .i64 s_.2)], fun s_ => [(b1, ZaA.enc a0)], (rt Zbd.out)⟩
noncomputable def Zbd.L1 (a0 : Zaf) (a1 : Int) (a2 : Bool) (s2 : Bool) (s3 : Int) : M (LS (Bool × Int) Bool) :=
 if s3 < (a0.Ports.len : Int) then
  (if s2 = true then
    pure true
   else
    idx a0.Ports.a a0.Ports.len s3 2 >>= fun p12 =>
    ld (cI .i64) p12 >>= fun x13 =>
    (if a1 ≥ x13 then
      idx a0.Ports.a a0.Ports.len s3 2 >>= fun p14 =>
      ld (cI .i64) (Addr.add p14 1) >>= fun x15 =>
      pure (decide (a1 ≤ x15))
     else
      pure false) >>= fun y16 =>
    pure y16) >>= fun y17 =>
  pure (LS.next (y17, IntKind.wrap .i64 (s3 + 1)))
 else
  (if a2 = true then
    pure s2
   else
    pure false) >>= fun y18 =>
  pure (LS.done y18)
theorem Zbd.L1_ok (a0 : Zaf) (a1 : Int) (a2 : Bool) (b1 : Nat) : LJ Zbd.cx (Zbd.F1 a0 a1 a2 b1) (fun s_ => Zbd.L1 a0 a1 a2 s_.1 s_.2) := by
 rintro ⟨s2, s3⟩
 show SJ _ _ _ _ (Zbd.L1 a0 a1 a2 s2 s3) _
 unfold Zbd.L1
 refine SJ.seq <| SJ.sr 5 <| J.k 2 0 rfl Ty72 (ZaQ _) <| J.z 2 <| J.f ?_ ?_
 ·refine SJ.skip <| SJ.seq <| SJ.block (id := 1) <| SJ.rg 22 <| J.g 2 <| OJ.join (b := s2) [2, 3, 4, 5, 6, 7, 8, 9, 10, 11, 12, 13, 14, 15, 16, 17, 18, 19, 20] [21] [1, 2, 3, 7, 8, 40] (fun y17 => [(1, .int .i64 a1), (2, .bool a2), (3, .pointer (some (pt b1 0))), (7, .bool s2), (8, .int .i64 s3), (40, .bool y17)]) [] [] (t := 21) Iff.rfl (fun hp_ => ?_) (fun hp_ => ?_) (fun _ _ _ _ _ _ h_ => h_) fun y17 => ?_
  ·exact J.g 19 <| OJ.nil ⟨(Cov.mem Cov.nil), rfl, _, rfl, by kernel_rfl⟩
  ·refine J.k 2 0 rfl Ty72 (ZaQ _) <| J.i 1 fun p12 => J.l 1 Ty3 fun x13 => J.g 2 <| OJ.join (b := decide (a1 ≥ x13)) [11, 12, 13, 14, 15, 16, 17, 18, 19] [20] [1, 2, 3, 7, 8, 21, 39] (fun y16 => [(1, .int .i64 a1), (2, .bool a2), (3, .pointer (some (pt b1 0))), (7, .bool s2), (8, .int .i64 s3), (21, .bool false), (39, .bool y16)]) [] [] (t := 30) decide_eq_true_iff (fun hp_ => ?_) (fun hp_ => ?_) (fun _ _ _ _ _ hq_ h_ => ⟨fun e_ he_ => (hq_ e_ he_).elim (fun h => h_.1 e_ h) (fun h => nomatch h), h_.2⟩) fun y16 => ?_
   ·exact J.k 2 0 rfl Ty72 (ZaQ _) <| J.i 1 fun p14 => J.l 1 Ty3 fun x15 => J.g 2 <| OJ.nil ⟨(Cov.mem Cov.nil), rfl, _, rfl, by kernel_rfl⟩
   ·exact J.g 9 <| OJ.nil ⟨(Cov.mem Cov.nil), rfl, _, rfl, by kernel_rfl⟩
   exact J.g 1 <| OJ.nil ⟨(Cov.mem Cov.nil), rfl, _, rfl, by kernel_rfl⟩
  exact J.z 1 <| SJ.inBlock <| SJ.rg 3 <| J.z 3 <| J.o rfl
 refine SJ.exit (id := 0) (by rfl) <| SJ.sr 5 <| J.j 2 1 .bool ?_ ?_ fun y18 => ?_
 ·exact J.e 2
 ·exact J.e 2
 exact J.z 1 <| J.r
noncomputable def Zbd (a0 : Zaf) (a1 : Int) (a2 : Bool) : M Bool :=
 slot 74 >>= fun b1 =>
 if (a0.Ports.len : Int) = 0 then
  pure true
 else
  ZcI (fun s_ : (Bool × Int) => Zbd.L1 a0 a1 a2 s_.1 s_.2) (false, 0)
theorem ZhA (a0 : Zaf) (a1 : Int) (a2 : Bool) : Ref Tryz.prog 51 [ZaA.val a0, .int .i64 a1, .bool a2] (Zbd a0 a1 a2) Zbd.out := by
 refine J.Fn Tryz.func51 ?_
 unfold Zbd
 refine SJ.sr 2 <| J.b 0 ZaA a0 fun b1 => J.z 1 <| SJ.seq <| SJ.sr 4 <| J.k 1 0 rfl Ty72 (ZaQ _) <| J.z 2 <| J.f ?_ ?_
 ·exact SJ.sr 1 <| J.z 1 <| J.r
 exact SJ.skip <| SJ.sr 1 <| J.z 1 <| SJ.seq <| SJ.sr 1 <| J.z 1 <| SJ.block (id := 0) <| J.L (Zbd.L1_ok a0 a1 a2 b1)

/-! ### weir/weirref16.bit: function 77 -/
noncomputable def Zbn.B : Code := bod Tryz.f77
noncomputable def Zbn.cx : Fx := ⟨Tryz.prog, 77, Tryz.f77, none⟩
noncomputable def Zbn.out (r_ : Bool) : Value := .bool r_
noncomputable def Zbn.F1 (a1 : Int) : LF (Int × Int) Bool := ⟨[.inBlock 0, .code (c2 (c2 Zbn.B))], c1 (c2 (c1 (c2 Zbn.B))), fun s_ => [(0, .int .i64 s_.1), (1, .int .i64 a1), (5, .int .i64 s_.2)], fun s_ => [], (rt Zbn.out)⟩
noncomputable def Zbn.L1 (a1 : Int) (s1 : Int) (s2 : Int) : M (LS (Int × Int) Bool) :=
 if s2 < a1 then
  pure (LS.next (IntKind.wrap .i64 (Int.tdiv s1 2), IntKind.wrap .i64 (s2 + 1)))
 else
  pure (LS.done ((Int.tmod s1 2) == 1))
theorem Zbn.L1_ok (a1 : Int) : LJ Zbn.cx (Zbn.F1 a1) (fun s_ => Zbn.L1 a1 s_.1 s_.2) := by
 rintro ⟨s1, s2⟩
 show SJ _ _ _ _ (Zbn.L1 a1 s1 s2) _
 unfold Zbn.L1
 refine SJ.seq <| SJ.sr 3 <| J.z 3 <| J.f ?_ ?_
 ·exact SJ.skip <| SJ.seq <| SJ.block (id := 1) <| SJ.rg 3 <| J.z 3 <| SJ.inBlock <| SJ.rg 3 <| J.z 3 <| J.o rfl
 exact SJ.exit (id := 0) (by rfl) <| SJ.sr 4 <| J.z 4 <| J.r
noncomputable def Zbn (a0 : Int) (a1 : Int) : M Bool :=
 ZcI (fun s_ : (Int × Int) => Zbn.L1 a1 s_.1 s_.2) (a0, 0)
theorem Zic (a0 : Int) (a1 : Int) : Ref Tryz.prog 77 [.int .i64 a0, .int .i64 a1] (Zbn a0 a1) Zbn.out := by
 refine J.Fn Tryz.func77 ?_
 unfold Zbn
 exact SJ.sr 1 <| J.z 1 <| SJ.seq <| SJ.sr 1 <| J.z 1 <| SJ.block (id := 0) <| J.L (Zbn.L1_ok a1)

/-! ### weir/weirref16.flags: function 52 -/
noncomputable def Za7.B : Code := bod Tryz.f52
noncomputable def Za7.cx : Fx := ⟨Tryz.prog, 52, Tryz.f52, none⟩
noncomputable def Za7.out (r_ : Bool) : Value := .bool r_
noncomputable def Za7.F1 (a0 : Zae) (a1 : Zac) (b1 : Nat) (b2 : Nat) : LF Int Bool := ⟨[.inBlock 0, .code (c2 (c2 (c2 (c2 Za7.B))))], c1 (c2 (c1 (c2 (c2 (c2 Za7.B))))), fun s_ => [(2, .pointer (some (pt b1 0))), (3, .pointer (some (pt b2 0))), (5, .int .i64 s_)], fun s_ => [(b2, Zag.enc a1), (b1, Zak.enc a0)], (rt Za7.out)⟩
noncomputable def Za7.L1 (a0 : Zae) (a1 : Zac) (s4 : Int) : M (LS Int Bool) :=
 if s4 < 8 then
  draw >>= fun _ =>
  chk (0 ≤ s4) >>= fun _ =>
  Zbn a0.Set s4 >>= fun r13 =>
  (if r13 = true then
    pure (!((band .i64 a1.Tcp.Flags (IntKind.wrap .i64 (1 * 2 ^ min (Int.toNat s4) 64))) != 0))
   else
    pure false) >>= fun y14 =>
  (if y14 = true then
    pure true
   else
    Zbn a0.Clear s4 >>= fun r15 =>
    (if r15 = true then
      pure ((band .i64 a1.Tcp.Flags (IntKind.wrap .i64 (1 * 2 ^ min (Int.toNat s4) 64))) != 0)
     else
      pure false) >>= fun y16 =>
    pure y16) >>= fun y17 =>
  if y17 = true then
   pure (LS.done false)
  else
   pure (LS.next (IntKind.wrap .i64 (s4 + 1)))
 else
  pure (LS.done true)
theorem Za7.L1_ok (a0 : Zae) (a1 : Zac) (b1 : Nat) (b2 : Nat) : LJ Za7.cx (Za7.F1 a0 a1 b1 b2) (fun s_ => Za7.L1 a0 a1 s_) := by
 rintro s4
 show SJ _ _ _ _ (Za7.L1 a0 a1 s4) _
 unfold Za7.L1
 refine SJ.seq <| SJ.sr 2 <| J.z 2 <| J.f ?_ ?_
 ·refine SJ.skip <| SJ.seq <| SJ.block (id := 1) <| SJ.seq <| J.R 8 Zcs <| J.k 2 0 rfl Ty3 (At.trans (ZbT _) (ZeU _)) <| J.g 1 <| OJ.shl (d := 26) (T := 3) (yT := 3) (y := .const (.int .i64 1)) (z := .tmp 25) (k := .i64) (yk := .i64) (p := 1) (q := s4) fun hq19 => J.z 3 <| SJ.sr 17 <| J.k 1 1 rfl Ty3 (Zce _) <| J.C 1 F77 (Zic _ _) fun r13 => J.j 1 2 .bool ?_ ?_ fun y14 => ?_
  ·exact J.e 3
  ·exact J.e 3
  refine J.g 1 <| OJ.join (b := y14) [9, 10, 11, 12, 13, 14, 15, 16] [] [2, 3, 5, 45] (fun y17 => [(2, .pointer (some (pt b1 0))), (3, .pointer (some (pt b2 0))), (5, .int .i64 s4), (45, .bool y17)]) [] [] (t := 37) Iff.rfl (fun hp_ => ?_) (fun hp_ => ?_) (fun _ _ _ _ _ _ h_ => h_) fun y17 => ?_
  ·exact J.g 8 <| OJ.nil ⟨(Cov.mem Cov.nil), rfl, _, rfl, by kernel_rfl⟩
  ·refine J.k 1 1 rfl Ty3 (ZbY _) <| J.C 1 F77 (Zic _ _) fun r15 => J.g 1 <| OJ.join (b := r15) [14, 15] [16] [2, 3, 5, 37, 44] (fun y16 => [(2, .pointer (some (pt b1 0))), (3, .pointer (some (pt b2 0))), (5, .int .i64 s4), (37, .bool false), (44, .bool y16)]) [] [] (t := 42) Iff.rfl (fun hp_ => ?_) (fun hp_ => ?_) (fun _ _ _ _ _ hq_ h_ => ⟨fun e_ he_ => (hq_ e_ he_).elim (fun h => h_.1 e_ h) (fun h => nomatch h), h_.2⟩) fun y16 => ?_
   ·exact J.g 2 <| OJ.nil ⟨(Cov.mem Cov.nil), rfl, _, rfl, by kernel_rfl⟩
   ·exact J.g 2 <| OJ.nil ⟨(Cov.mem Cov.nil), rfl, _, rfl, by kernel_rfl⟩
   exact J.g 1 <| OJ.nil ⟨(Cov.mem Cov.nil), rfl, _, rfl, by kernel_rfl⟩
  refine J.z 0 <| J.f ?_ ?_
  ·exact SJ.sr 1 <| J.z 1 <| J.r
  exact SJ.skip <| SJ.inBlock <| SJ.rg 3 <| J.z 3 <| J.o rfl
 exact SJ.exit (id := 0) (by rfl) <| SJ.sr 1 <| J.z 1 <| J.r
noncomputable def Za7 (a0 : Zae) (a1 : Zac) : M Bool :=
 slot 76 >>= fun b1 =>
 slot 47 >>= fun b2 =>
 (if a0.Set = 0 then
   pure (a0.Clear == 0)
  else
   pure false) >>= fun y3 =>
 if y3 = true then
  pure true
 else
  if a1.L4 ≠ 3 then
   pure false
  else
   ZcI (fun s_ : Int => Za7.L1 a0 a1 s_) 0
theorem Zkd (a0 : Zae) (a1 : Zac) : Ref Tryz.prog 52 [Zak.val a0, Zag.val a1] (Za7 a0 a1) Za7.out := by
 refine J.Fn Tryz.func52 ?_
 unfold Za7
 refine SJ.sr 3 <| J.b 0 Zak a0 fun b1 => J.b 0 Zag a1 fun b2 => J.z 1 <| SJ.seq <| SJ.sr 8 <| J.k 1 1 rfl Ty3 (Zce _) <| J.j 2 3 .bool ?_ ?_ fun y3 => ?_
 ·exact J.k 1 1 rfl Ty3 (ZbY _) <| J.e 2
 ·exact J.e 4
 refine J.z 0 <| J.f ?_ ?_
 ·exact SJ.sr 1 <| J.z 1 <| J.r
 refine SJ.skip <| SJ.seq <| SJ.sr 3 <| J.k 1 0 rfl Ty3 (Zdb _) <| J.z 1 <| J.f ?_ ?_
 ·exact SJ.sr 1 <| J.z 1 <| J.r
 exact SJ.skip <| SJ.seq <| SJ.sr 1 <| J.z 1 <| SJ.block (id := 0) <| J.L (Za7.L1_ok a0 a1 b1 b2)

/-! ### weir/weirref10.Fragment: function 53 -/
noncomputable def Zc2.out (r_ : Bool) : Value := .bool r_
noncomputable def Zc2 (a0 : Zac) : M Bool :=
 slot 47 >>= fun b1 =>
 (if a0.Kind = 2 then
   (if a0.Ip4.MF = true then
     pure true
    else
     pure (decide (a0.Ip4.Off > 0))) >>= fun y2 =>
   pure y2
  else
   pure false) >>= fun y3 =>
 (if y3 = true then
   pure true
  else
   (if a0.Kind = 3 then
     pure a0.Ip6.Frag.Has
    else
     pure false) >>= fun y4 =>
   pure y4) >>= fun y5 =>
 pure y5
theorem ZiB (a0 : Zac) : Ref Tryz.prog 53 [Zag.val a0] (Zc2 a0) Zc2.out := by
 refine J.Fn Tryz.func53 ?_
 unfold Zc2
 refine SJ.sr 2 <| J.b 0 Zag a0 fun b1 => J.z 1 <| SJ.sr 26 <| J.k 1 0 rfl Ty3 (ZbC _) <| J.g 2 <| OJ.join (b := (a0.Kind == 2)) [4, 5, 6, 7, 8, 9, 10, 11, 12, 13] [14, 15, 16, 17, 18, 19, 20, 21, 22, 23, 24, 25] [1, 16] (fun y3 => [(1, .pointer (some (pt b1 0))), (16, .bool y3)]) [] [] (t := 6) beq_iff_eq (fun hp_ => ?_) (fun hp_ => ?_) (fun _ _ _ _ _ _ h_ => h_) fun y3 => ?_
 ·refine J.k 2 0 rfl Ty4 (At.trans (Za4 _) (ZgO _)) <| J.g 1 <| OJ.join (b := a0.Ip4.MF) [8, 9, 10, 11, 12] [13] [1, 6, 15] (fun y2 => [(1, .pointer (some (pt b1 0))), (6, .bool true), (15, .bool y2)]) [] [] (t := 10) Iff.rfl (fun hp_ => ?_) (fun hp_ => ?_) (fun _ _ _ _ _ hq_ h_ => ⟨fun e_ he_ => (hq_ e_ he_).elim (fun h => h_.1 e_ h) (fun h => nomatch h), h_.2⟩) fun y2 => ?_
  ·exact J.g 5 <| OJ.nil ⟨(Cov.mem Cov.nil), rfl, _, rfl, by kernel_rfl⟩
  ·exact J.k 2 0 rfl Ty3 (At.trans (Za4 _) (Zgp _)) <| J.g 2 <| OJ.nil ⟨(Cov.mem Cov.nil), rfl, _, rfl, by kernel_rfl⟩
  exact J.g 1 <| OJ.nil ⟨(Cov.mem Cov.nil), rfl, _, rfl, by kernel_rfl⟩
 ·exact J.g 10 <| OJ.nil ⟨(Cov.mem Cov.nil), rfl, _, rfl, by kernel_rfl⟩
 refine J.g 1 <| OJ.join (b := y3) [15, 16, 17, 18, 19, 20, 21, 22, 23, 24] [25] [27] (fun y5 => [(27, .bool y5)]) [] [] (t := 17) Iff.rfl (fun hp_ => ?_) (fun hp_ => ?_) (fun _ _ _ _ _ _ h_ => h_) fun y5 => ?_
 ·exact J.g 10 <| OJ.nil ⟨(Cov.mem Cov.nil), rfl, _, rfl, by kernel_rfl⟩
 ·refine J.k 1 0 rfl Ty3 (ZbC _) <| J.g 2 <| OJ.join (b := (a0.Kind == 3)) [19, 20, 21, 22, 23] [24] [17, 26] (fun y4 => [(17, .bool false), (26, .bool y4)]) [] [] (t := 21) beq_iff_eq (fun hp_ => ?_) (fun hp_ => ?_) (fun _ _ _ _ _ hq_ h_ => ⟨fun e_ he_ => (hq_ e_ he_).elim (fun h => h_.1 e_ h) (fun h => nomatch h), h_.2⟩) fun y4 => ?_
  ·exact J.k 3 0 rfl Ty4 (At.trans (At.trans (Zbh _) (Zf7 _)) (Zf8 _)) <| J.g 1 <| OJ.nil ⟨(Cov.mem Cov.nil), rfl, _, rfl, by kernel_rfl⟩
  ·exact J.g 5 <| OJ.nil ⟨(Cov.mem Cov.nil), rfl, _, rfl, by kernel_rfl⟩
  exact J.g 1 <| OJ.nil ⟨(Cov.mem Cov.nil), rfl, _, rfl, by kernel_rfl⟩
 exact J.z 1 <| J.r

/-! ### weir/weirref16.Matches: function 25 -/
noncomputable def Zdf.out (r_ : Bool) : Value := .bool r_
noncomputable def Zdf (a0 : Zae) (a1 : Int) (a2 : Zac) : M Bool :=
 slot 76 >>= fun b1 =>
 slot 47 >>= fun b2 =>
 (if a0.In ≠ 0 then
   pure (a1 != (IntKind.wrap .i64 (a0.In - 1)))
  else
   pure false) >>= fun y3 =>
 if y3 = true then
  pure false
 else
  draw >>= fun _ =>
  (if a0.Vid ≠ 0 then
    (if (a2.Tags.len : Int) = 0 then
      pure true
     else
      idx a2.Tags.a a2.Tags.len 0 4 >>= fun p4 =>
      ld (cI .i64) (Addr.add p4 3) >>= fun x5 =>
      pure (x5 != a0.Vid)) >>= fun y6 =>
    pure y6
   else
    pure false) >>= fun y7 =>
  if y7 = true then
   pure false
  else
   (if a0.Kind ≠ 0 then
     pure (a2.Kind != a0.Kind)
    else
     pure false) >>= fun y8 =>
   if y8 = true then
    pure false
   else
    (if a0.Proto ≠ 0 then
      (if a2.Kind = 2 then
        pure (a2.Ip4.Proto == a0.Proto)
       else
        pure false) >>= fun y9 =>
      pure (!y9)
     else
      pure false) >>= fun y10 =>
    (if y10 = true then
      (if a2.Kind = 3 then
        pure (a2.Ip6.Next == a0.Proto)
       else
        pure false) >>= fun y11 =>
      pure (!y11)
     else
      pure false) >>= fun y12 =>
    if y12 = true then
     pure false
    else
     Zef a2 >>= fun r13 =>
     slot 28 >>= fun b14 =>
     slot 28 >>= fun b15 =>
     ZdP a2 >>= fun r16 =>
     Zbc a0.From r13.1 r13.2.2 >>= fun r17 =>
     (if ¬ (r17 = true) then
       pure true
      else
       Zbc a0.To r13.2.1 r13.2.2 >>= fun r18 =>
       pure (!r18)) >>= fun y19 =>
     (if y19 = true then
       pure true
      else
       Zbd a0.From r16.1 r16.2.2 >>= fun r20 =>
       pure (!r20)) >>= fun y21 =>
     (if y21 = true then
       pure true
      else
       Zbd a0.To r16.2.1 r16.2.2 >>= fun r22 =>
       pure (!r22)) >>= fun y23 =>
     (if y23 = true then
       pure true
      else
       Za7 a0 a2 >>= fun r24 =>
       pure (!r24)) >>= fun y25 =>
     if y25 = true then
      pure false
     else
      (if a0.Type_ ≠ 0 then
        (if a2.L4 = 1 then
          pure (a2.Icmp.Type_ == (IntKind.wrap .i64 (a0.Type_ - 1)))
         else
          pure false) >>= fun y26 =>
        pure (!y26)
       else
        pure false) >>= fun y27 =>
      if y27 = true then
       pure false
      else
       (if ¬ (a0.Pieces = true) then
         pure true
        else
         Zc2 a2 >>= fun r28 =>
         pure r28) >>= fun y29 =>
       pure y29
theorem Zjm (a0 : Zae) (a1 : Int) (a2 : Zac) : Ref Tryz.prog 25 [Zak.val a0, .int .i64 a1, Zag.val a2] (Zdf a0 a1 a2) Zdf.out := by
 refine J.Fn Tryz.func25 ?_
 unfold Zdf
 refine SJ.sr 3 <| J.b 0 Zak a0 fun b1 => J.b 0 Zag a2 fun b2 => J.z 1 <| SJ.seq <| SJ.sr 10 <| J.k 1 1 rfl Ty3 (ZdM _) <| J.j 2 5 .bool ?_ ?_ fun y3 => ?_
 ·exact J.k 2 1 rfl Ty3 (ZdM _) <| J.e 3
 ·exact J.e 6
 refine J.z 0 <| J.f ?_ ?_
 ·exact SJ.sr 1 <| J.z 1 <| J.r
 refine SJ.skip <| SJ.seq <| SJ.seq <| J.R 19 Zcs <| J.k 1 1 rfl Ty3 (Zdt _) <| J.g 2 <| OJ.join (b := (a0.Vid != 0)) [4, 5, 6, 7, 8, 9, 10, 11, 12, 13, 14, 15, 16, 17, 18] [] [3, 5, 41] (fun y7 => [(3, .pointer (some (pt b1 0))), (5, .pointer (some (pt b2 0))), (41, .bool y7)]) [⟨1, 3, (pt b1 5), (cI .i64).val a0.Vid⟩] [5, 10, 13, 15] (t := 26) bne_iff_ne (fun hp_ => ?_) (fun hp_ => ?_) (fun _ _ _ _ _ _ h_ => h_) fun y7 => ?_
 ·refine J.k 1 0 rfl Ty25 (Zcl _) <| J.g 3 <| OJ.join (b := ((a2.Tags.len : Int) == 0)) [9, 10, 11, 12, 13, 14, 15, 16, 17] [18] [3, 5, 26, 40] (fun y6 => [(3, .pointer (some (pt b1 0))), (5, .pointer (some (pt b2 0))), (26, .bool true), (40, .bool y6)]) [⟨5, 25, (pt b2 12), cL.val a2.Tags⟩, ⟨1, 3, (pt b1 5), (cI .i64).val a0.Vid⟩] [10, 13, 15] (t := 31) beq_iff_eq (fun hp_ => ?_) (fun hp_ => ?_) (fun _ _ _ _ _ hq_ h_ => ⟨fun e_ he_ => by rcases hq_ e_ he_ with h | h; exact h_.1 e_ h; exact .inr ((by decide : ∀ i ∈ [10, 13, 15], i ∈ [5, 10, 13, 15]) _ h), h_.2⟩) fun y6 => ?_
  ·exact J.g 9 <| OJ.nil ⟨(Cov.mem (Cov.keep (List.mem_of_getElem? (i := 0) rfl) (Cov.keep (List.mem_of_getElem? (i := 1) rfl) Cov.nil))), rfl, _, rfl, by kernel_rfl⟩
  ·exact J.k 1 0 rfl Ty25 (Zcl _) <| J.i 0 fun p4 => J.l 1 Ty3 fun x5 => J.k 1 1 rfl Ty3 (Zdt _) <| J.g 2 <| OJ.nil ⟨(Cov.mem (Cov.drop (List.mem_of_getElem? (i := 2) rfl) (Cov.drop (List.mem_of_getElem? (i := 1) rfl) (Cov.drop (List.mem_of_getElem? (i := 0) rfl) (Cov.keep (List.mem_of_getElem? (i := 0) rfl) (Cov.keep (List.mem_of_getElem? (i := 1) rfl) Cov.nil)))))), rfl, _, rfl, by kernel_rfl⟩
  exact J.g 1 <| OJ.nil ⟨(Cov.mem (Cov.drop (List.mem_of_getElem? (i := 0) rfl) (Cov.keep (List.mem_of_getElem? (i := 0) rfl) Cov.nil))), rfl, _, rfl, by kernel_rfl⟩
 ·exact J.g 15 <| OJ.nil ⟨(Cov.mem (Cov.keep (List.mem_of_getElem? (i := 0) rfl) Cov.nil)), rfl, _, rfl, by kernel_rfl⟩
 refine J.z 0 <| J.f ?_ ?_
 ·exact SJ.sr 1 <| J.z 1 <| J.r
 refine SJ.skip <| SJ.seq <| SJ.sr 10 <| J.k 1 1 rfl Ty3 (Zb7 _) <| J.j 2 5 .bool ?_ ?_ fun y8 => ?_
 ·exact J.k 1 0 rfl Ty3 (ZbC _) <| J.k 1 1 rfl Ty3 (Zb7 _) <| J.e 2
 ·exact J.e 6
 refine J.z 0 <| J.f ?_ ?_
 ·exact SJ.sr 1 <| J.z 1 <| J.r
 refine SJ.skip <| SJ.seq <| SJ.sr 31 <| J.k 1 1 rfl Ty3 (ZbE _) <| J.g 2 <| OJ.join (b := (a0.Proto != 0)) [4, 5, 6, 7, 8, 9, 10, 11, 12, 13, 14, 15, 16] [17, 18, 19, 20, 21, 22, 23, 24, 25, 26, 27, 28, 29, 30] [3, 5, 68] (fun y10 => [(3, .pointer (some (pt b1 0))), (5, .pointer (some (pt b2 0))), (68, .bool y10)]) [] [] (t := 55) bne_iff_ne (fun hp_ => ?_) (fun hp_ => ?_) (fun _ _ _ _ _ _ h_ => h_) fun y10 => ?_
 ·refine J.k 1 0 rfl Ty3 (ZbC _) <| J.g 2 <| OJ.join (b := (a2.Kind == 2)) [8, 9, 10, 11, 12, 13, 14] [15, 16] [3, 5, 55, 66] (fun y9 => [(3, .pointer (some (pt b1 0))), (5, .pointer (some (pt b2 0))), (55, .bool true), (66, .bool y9)]) [] [] (t := 59) beq_iff_eq (fun hp_ => ?_) (fun hp_ => ?_) (fun _ _ _ _ _ hq_ h_ => ⟨fun e_ he_ => (hq_ e_ he_).elim (fun h => h_.1 e_ h) (fun h => nomatch h), h_.2⟩) fun y9 => ?_
  ·exact J.k 2 0 rfl Ty3 (At.trans (Za4 _) (ZfG _)) <| J.k 1 1 rfl Ty3 (ZbE _) <| J.g 2 <| OJ.nil ⟨(Cov.mem Cov.nil), rfl, _, rfl, by kernel_rfl⟩
  ·exact J.g 7 <| OJ.nil ⟨(Cov.mem Cov.nil), rfl, _, rfl, by kernel_rfl⟩
  exact J.g 2 <| OJ.nil ⟨(Cov.mem Cov.nil), rfl, _, rfl, by kernel_rfl⟩
 ·exact J.g 13 <| OJ.nil ⟨(Cov.mem Cov.nil), rfl, _, rfl, by kernel_rfl⟩
 refine J.g 1 <| OJ.join (b := y10) [18, 19, 20, 21, 22, 23, 24, 25, 26, 27, 28, 29, 30] [] [3, 5, 82] (fun y12 => [(3, .pointer (some (pt b1 0))), (5, .pointer (some (pt b2 0))), (82, .bool y12)]) [] [] (t := 69) Iff.rfl (fun hp_ => ?_) (fun hp_ => ?_) (fun _ _ _ _ _ _ h_ => h_) fun y12 => ?_
 ·refine J.k 1 0 rfl Ty3 (ZbC _) <| J.g 2 <| OJ.join (b := (a2.Kind == 3)) [22, 23, 24, 25, 26, 27, 28] [29, 30] [3, 5, 69, 80] (fun y11 => [(3, .pointer (some (pt b1 0))), (5, .pointer (some (pt b2 0))), (69, .bool true), (80, .bool y11)]) [] [] (t := 73) beq_iff_eq (fun hp_ => ?_) (fun hp_ => ?_) (fun _ _ _ _ _ hq_ h_ => ⟨fun e_ he_ => (hq_ e_ he_).elim (fun h => h_.1 e_ h) (fun h => nomatch h), h_.2⟩) fun y11 => ?_
  ·exact J.k 2 0 rfl Ty3 (At.trans (Zbh _) (Zf6 _)) <| J.k 1 1 rfl Ty3 (ZbE _) <| J.g 2 <| OJ.nil ⟨(Cov.mem Cov.nil), rfl, _, rfl, by kernel_rfl⟩
  ·exact J.g 7 <| OJ.nil ⟨(Cov.mem Cov.nil), rfl, _, rfl, by kernel_rfl⟩
  exact J.g 2 <| OJ.nil ⟨(Cov.mem Cov.nil), rfl, _, rfl, by kernel_rfl⟩
 ·exact J.g 13 <| OJ.nil ⟨(Cov.mem Cov.nil), rfl, _, rfl, by kernel_rfl⟩
 refine J.z 0 <| J.f ?_ ?_
 ·exact SJ.sr 1 <| J.z 1 <| J.r
 refine SJ.skip <| SJ.sr 11 <| J.k 0 0 rfl Ty47 (At.whole _) <| J.C 0 F48 (ZkW _) fun r13 => J.a 4 Ty28 fun b14 => J.a 0 Ty28 fun b15 => J.s 0 1 rfl Ty28 (Upd.w r13.1) <| J.s 0 0 rfl Ty28 (Upd.w r13.2.1) <| J.z 1 <| SJ.sr 9 <| J.k 0 2 rfl Ty47 (At.whole _) <| J.C 0 F49 (Zkc _) fun r16 => J.z 7 <| SJ.seq <| SJ.sr 36 <| J.k 1 3 rfl Ty74 (ZbU _) <| J.k 0 1 rfl Ty28 (At.whole _) <| J.C 1 F50 (Zhz _ _ _) fun r17 => J.j 2 6 .bool ?_ ?_ fun y19 => ?_
 ·exact J.e 7
 ·exact J.k 1 3 rfl Ty74 (ZbW _) <| J.k 0 0 rfl Ty28 (At.whole _) <| J.C 1 F50 (Zhz _ _ _) fun r18 => J.e 2
 refine J.j 1 6 .bool ?_ ?_ fun y21 => ?_
 ·exact J.e 7
 ·exact J.k 1 3 rfl Ty74 (ZbU _) <| J.C 2 F51 (ZhA _ _ _) fun r20 => J.e 2
 refine J.j 1 6 .bool ?_ ?_ fun y23 => ?_
 ·exact J.e 7
 ·exact J.k 1 3 rfl Ty74 (ZbW _) <| J.C 2 F51 (ZhA _ _ _) fun r22 => J.e 2
 refine J.j 1 4 .bool ?_ ?_ fun y25 => ?_
 ·exact J.e 5
 ·exact J.k 0 3 rfl Ty76 (At.whole _) <| J.k 0 2 rfl Ty47 (At.whole _) <| J.C 0 F52 (Zkd _ _) fun r24 => J.e 2
 refine J.z 0 <| J.f ?_ ?_
 ·exact SJ.sr 1 <| J.z 1 <| J.r
 refine SJ.skip <| SJ.seq <| SJ.sr 18 <| J.k 1 3 rfl Ty3 (ZcA _) <| J.g 2 <| OJ.join (b := (a0.Type_ != 0)) [4, 5, 6, 7, 8, 9, 10, 11, 12, 13, 14, 15, 16, 17] [] [3, 5, 148] (fun y27 => [(3, .pointer (some (pt b1 0))), (5, .pointer (some (pt b2 0))), (148, .bool y27)]) [] [] (t := 134) bne_iff_ne (fun hp_ => ?_) (fun hp_ => ?_) (fun _ _ _ _ _ _ h_ => h_) fun y27 => ?_
 ·refine J.k 1 2 rfl Ty3 (Zdb _) <| J.g 2 <| OJ.join (b := (a2.L4 == 1)) [8, 9, 10, 11, 12, 13, 14, 15] [16, 17] [3, 5, 134, 146] (fun y26 => [(3, .pointer (some (pt b1 0))), (5, .pointer (some (pt b2 0))), (134, .bool true), (146, .bool y26)]) [] [] (t := 138) beq_iff_eq (fun hp_ => ?_) (fun hp_ => ?_) (fun _ _ _ _ _ hq_ h_ => ⟨fun e_ he_ => (hq_ e_ he_).elim (fun h => h_.1 e_ h) (fun h => nomatch h), h_.2⟩) fun y26 => ?_
  ·exact J.k 2 2 rfl Ty3 (At.trans (Zdv _) (Zfs _)) <| J.k 1 3 rfl Ty3 (ZcA _) <| J.g 3 <| OJ.nil ⟨(Cov.mem Cov.nil), rfl, _, rfl, by kernel_rfl⟩
  ·exact J.g 8 <| OJ.nil ⟨(Cov.mem Cov.nil), rfl, _, rfl, by kernel_rfl⟩
  exact J.g 2 <| OJ.nil ⟨(Cov.mem Cov.nil), rfl, _, rfl, by kernel_rfl⟩
 ·exact J.g 14 <| OJ.nil ⟨(Cov.mem Cov.nil), rfl, _, rfl, by kernel_rfl⟩
 refine J.z 0 <| J.f ?_ ?_
 ·exact SJ.sr 1 <| J.z 1 <| J.r
 refine SJ.skip <| SJ.sr 8 <| J.k 1 3 rfl Ty4 (Zed _) <| J.j 2 2 .bool ?_ ?_ fun y29 => ?_
 ·exact J.e 3
 ·exact J.k 0 2 rfl Ty47 (At.whole _) <| J.C 0 F53 (ZiB _) fun r28 => J.e 1
 exact J.z 1 <| J.r

/-! ### weir/weirref16.Judge: function 10 -/
noncomputable def Za8.B : Code := bod Tryz.f10
noncomputable def Za8.cx : Fx := ⟨Tryz.prog, 10, Tryz.f10, none⟩
noncomputable def Za8.out (r_ : Za2) : Value := Zb1.val r_
noncomputable def Za8.F1 (a0 : Sl) (a1 : Int) (a2 : Zac) (b1 : Nat) (b2 : Nat) : LF (Int × Za2) Za2 := ⟨[.inBlock 0, .code (c2 (c2 Za8.B))], c1 (c2 (c1 (c2 Za8.B))), fun s_ => [(0, Sl.v a0), (1, .int .i64 a1), (5, .pointer (some (pt b1 0))), (6, .pointer (some (pt b2 0))), (7, .int .i64 s_.1)], fun s_ => [(b2, Zb1.enc s_.2), (b1, Zag.enc a2)], (rt Za8.out)⟩
noncomputable def Za8.L1 (a0 : Sl) (a1 : Int) (a2 : Zac) (s3 : Int) (s4 : Za2) : M (LS (Int × Za2) Za2) :=
 if s3 < (a0.len : Int) then
  draw >>= fun _ =>
  idx a0.a a0.len s3 16 >>= fun p18 =>
  ld Zak p18 >>= fun x19 =>
  Zdf x19 a1 a2 >>= fun r20 =>
  if r20 = true then
   draw >>= fun _ =>
   idx a0.a a0.len s3 16 >>= fun p25 =>
   ld (cI .i64) p25 >>= fun x26 =>
   idx a0.a a0.len s3 16 >>= fun p27 =>
   ld (cI .i64) (Addr.add p27 1) >>= fun x28 =>
   pure (LS.done (⟨x26, x28, s3⟩ : Za2))
  else
   pure (LS.next (IntKind.wrap .i64 (s3 + 1), s4))
 else
  pure (LS.done (⟨2, Zd3.Class, (-1)⟩ : Za2))
theorem Za8.L1_ok (a0 : Sl) (a1 : Int) (a2 : Zac) (b1 : Nat) (b2 : Nat) : LJ Za8.cx (Za8.F1 a0 a1 a2 b1 b2) (fun s_ => Za8.L1 a0 a1 a2 s_.1 s_.2) := by
 rintro ⟨s3, s4⟩
 show SJ _ _ _ _ (Za8.L1 a0 a1 a2 s3 s4) _
 unfold Za8.L1
 refine SJ.seq <| SJ.sr 4 <| J.z 4 <| J.f ?_ ?_
 ·refine SJ.skip <| SJ.seq <| SJ.block (id := 1) <| SJ.seq <| J.R 8 Zcs <| J.i 2 fun p18 => J.l 0 Ty76 fun x19 => J.k 1 1 rfl Ty47 (At.whole _) <| J.C 0 F25 (Zjm _ _ _) fun r20 => J.z 1 <| SJ.sr 1 <| J.z 1 <| J.f ?_ ?_
  ·exact SJ.seq <| J.R 13 Zcs <| J.i 2 fun p25 => J.l 1 Ty3 fun x26 => J.i 2 fun p27 => J.l 1 Ty3 fun x28 => J.u 1 Ty58 (.f 0 (Ze7 _ x26) (.f 1 (ZgI _ x28) (.f 2 (ZeO _ s3) .nil))) <| J.s 0 0 rfl Ty58 (Upd.w (⟨x26, x28, s3⟩ : Za2)) <| J.z 0 <| J.rc (.c 0 rfl Ty58 .n)
  exact SJ.skip <| SJ.inBlock <| SJ.rg 3 <| J.z 3 <| J.o rfl
 exact SJ.exit (id := 0) (by rfl) <| SJ.sr 2 <| J.u 0 Ty58 (.f 0 (Ze7 _ 2) (.f 2 (ZeO _ (-1)) .nil)) <| J.s 0 0 rfl Ty58 (Upd.w (⟨2, Zd3.Class, (-1)⟩ : Za2)) <| J.z 0 <| J.rc (.c 0 rfl Ty58 .n)
noncomputable def Za8 (a0 : Sl) (a1 : Int) (a2 : Zac) : M Za2 :=
 slot 47 >>= fun b1 =>
 slot 58 >>= fun b2 =>
 ZcI (fun s_ : (Int × Za2) => Za8.L1 a0 a1 a2 s_.1 s_.2) (0, Zd3)
theorem Zke (a0 : Sl) (a1 : Int) (a2 : Zac) : Ref Tryz.prog 10 [Sl.v a0, .int .i64 a1, Zag.val a2] (Za8 a0 a1 a2) Za8.out := by
 refine J.Fn Tryz.func10 ?_
 unfold Za8
 exact SJ.sr 2 <| J.b 0 Zag a2 fun b1 => J.a 0 Ty58 fun b2 => J.z 0 <| SJ.seq <| SJ.sr 1 <| J.z 1 <| SJ.block (id := 0) <| J.L (Za8.L1_ok a0 a1 a2 b1 b2)

/-! ### weir/weirref5.Same: function 26 -/
noncomputable def ZaC.B : Code := bod Tryz.f26
noncomputable def ZaC.cx : Fx := ⟨Tryz.prog, 26, Tryz.f26, none⟩
noncomputable def ZaC.out (r_ : Bool) : Value := .bool r_
noncomputable def ZaC.F1 (a0 : Zbu) (a1 : Zbu) (b1 : Nat) (b2 : Nat) : LF Int Bool := ⟨[.inBlock 2, .code (c2 (c2 (c2 (c2 ZaC.B))))], c1 (c2 (c1 (c2 (c2 (c2 ZaC.B))))), fun s_ => [(2, .pointer (some (pt b1 0))), (3, .pointer (some (pt b2 0))), (6, .int .i64 s_)], fun s_ => [(b2, ZbX.enc a1), (b1, ZbX.enc a0)], (rt ZaC.out)⟩
noncomputable def ZaC.L1 (a0 : Zbu) (a1 : Zbu) (s14 : Int) : M (LS Int Bool) :=
 if s14 < (a0.Data.len : Int) then
  draw >>= fun _ =>
  idx a0.Data.a a0.Data.len s14 1 >>= fun p21 =>
  ld (cI .u8) p21 >>= fun x22 =>
  idx a1.Data.a a1.Data.len s14 1 >>= fun p23 =>
  ld (cI .u8) p23 >>= fun x24 =>
  if x22 ≠ x24 then
   pure (LS.done false)
  else
   pure (LS.next (IntKind.wrap .i64 (s14 + 1)))
 else
  pure (LS.done true)
theorem ZaC.L1_ok (a0 : Zbu) (a1 : Zbu) (b1 : Nat) (b2 : Nat) : LJ ZaC.cx (ZaC.F1 a0 a1 b1 b2) (fun s_ => ZaC.L1 a0 a1 s_) := by
 rintro s14
 show SJ _ _ _ _ (ZaC.L1 a0 a1 s14) _
 unfold ZaC.L1
 refine SJ.seq <| SJ.sr 5 <| J.k 2 1 rfl Ty32 (Zev _) <| J.z 2 <| J.f ?_ ?_
 ·refine SJ.skip <| SJ.seq <| SJ.block (id := 3) <| SJ.seq <| J.R 11 Zcs <| J.k 1 1 rfl Ty32 (Zev _) <| J.i 1 fun p21 => J.l 0 Ty5 fun x22 => J.k 1 0 rfl Ty32 (Zev _) <| J.i 1 fun p23 => J.l 0 Ty5 fun x24 => J.z 1 <| J.f ?_ ?_
  ·exact SJ.sr 1 <| J.z 1 <| J.r
  exact SJ.skip <| SJ.inBlock <| SJ.rg 3 <| J.z 3 <| J.o rfl
 exact SJ.exit (id := 2) (by rfl) <| SJ.sr 1 <| J.z 1 <| J.r
noncomputable def ZaC.K1 (a0 : Zbu) (a1 : Zbu) : M Bool :=
 ZcI (fun s_ : Int => ZaC.L1 a0 a1 s_) 0
theorem ZaC.K1_ok (a0 : Zbu) (a1 : Zbu) (b1 : Nat) (b2 : Nat) :
  SJ ZaC.cx [.code (c2 (c2 (c2 ZaC.B)))] [(2, .pointer (some (pt b1 0))), (3, .pointer (some (pt b2 0)))] [(b2, ZbX.enc a1), (b1, ZbX.enc a0)] (ZaC.K1 a0 a1) (rt ZaC.out) := by
 unfold ZaC.K1
 exact SJ.seq <| SJ.sr 1 <| J.z 1 <| SJ.block (id := 2) <| J.L (ZaC.L1_ok a0 a1 b1 b2)
noncomputable def ZaC.F2 (a0 : Zbu) (a1 : Zbu) (b1 : Nat) (b2 : Nat) : LF Int Bool := ⟨[.inBlock 0, .code (c2 (c2 (c2 ZaC.B)))], c1 (c2 (c1 (c2 (c2 ZaC.B)))), fun s_ => [(2, .pointer (some (pt b1 0))), (3, .pointer (some (pt b2 0))), (5, .int .i64 s_)], fun s_ => [(b2, ZbX.enc a1), (b1, ZbX.enc a0)], (rt ZaC.out)⟩
noncomputable def ZaC.L2 (a0 : Zbu) (a1 : Zbu) (s7 : Int) : M (LS Int Bool) :=
 if s7 < (a0.Tags.len : Int) then
  draw >>= fun _ =>
  idx a0.Tags.a a0.Tags.len s7 4 >>= fun p27 =>
  ld Zde p27 >>= fun x28 =>
  idx a1.Tags.a a1.Tags.len s7 4 >>= fun p29 =>
  ld Zde p29 >>= fun x30 =>
  if ¬ (x28 = x30) then
   pure (LS.done false)
  else
   pure (LS.next (IntKind.wrap .i64 (s7 + 1)))
 else
  (ZaC.K1 a0 a1) >>= fun b => pure (LS.done b)
theorem ZaC.L2_ok (a0 : Zbu) (a1 : Zbu) (b1 : Nat) (b2 : Nat) : LJ ZaC.cx (ZaC.F2 a0 a1 b1 b2) (fun s_ => ZaC.L2 a0 a1 s_) := by
 rintro s7
 show SJ _ _ _ _ (ZaC.L2 a0 a1 s7) _
 unfold ZaC.L2
 refine SJ.seq <| SJ.sr 5 <| J.k 2 1 rfl Ty25 (Zeu _) <| J.z 2 <| J.f ?_ ?_
 ·refine SJ.skip <| SJ.seq <| SJ.block (id := 1) <| SJ.seq <| J.R 11 Zcs <| J.k 1 1 rfl Ty25 (Zeu _) <| J.i 1 fun p27 => J.l 0 Ty63 fun x28 => J.k 1 0 rfl Ty25 (Zeu _) <| J.i 1 fun p29 => J.l 0 Ty63 fun x30 => OJ.neq (d := 61) (T := 63) (yT := 63) (y := .tmp 55) (z := .tmp 60) (cd := Zde) (p := x28) (q := x30) rfl Eq63 <| J.z 0 <| J.f ?_ ?_
  ·exact SJ.sr 1 <| J.z 1 <| J.r
  exact SJ.skip <| SJ.inBlock <| SJ.rg 3 <| J.z 3 <| J.o rfl
 exact SJ.exit (id := 0) (by rfl) <| J.q <| SJ.done <| ZaC.K1_ok a0 a1 b1 b2
noncomputable def ZaC (a0 : Zbu) (a1 : Zbu) : M Bool :=
 slot 98 >>= fun b1 =>
 slot 98 >>= fun b2 =>
 (if ¬ (a0.Dst = a1.Dst) then
   pure true
  else
   pure (!eqv a0.Src a1.Src)) >>= fun y3 =>
 (if y3 = true then
   pure true
  else
   pure (a0.Type_ != a1.Type_)) >>= fun y4 =>
 (if y4 = true then
   pure true
  else
   pure ((a0.Tags.len : Int) != (a1.Tags.len : Int))) >>= fun y5 =>
 (if y5 = true then
   pure true
  else
   pure ((a0.Data.len : Int) != (a1.Data.len : Int))) >>= fun y6 =>
 if y6 = true then
  pure false
 else
  ZcI (fun s_ : Int => ZaC.L2 a0 a1 s_) 0
theorem ZlO (a0 : Zbu) (a1 : Zbu) : Ref Tryz.prog 26 [ZbX.val a0, ZbX.val a1] (ZaC a0 a1) ZaC.out := by
 refine J.Fn Tryz.func26 ?_
 unfold ZaC
 refine SJ.sr 3 <| J.b 0 ZbX a0 fun b1 => J.b 0 ZbX a1 fun b2 => J.z 1 <| SJ.seq <| SJ.sr 37 <| J.k 1 1 rfl Ty24 (Ziq _) <| J.k 1 0 rfl Ty24 (Ziq _) <| OJ.neq (d := 11) (T := 24) (yT := 24) (y := .tmp 8) (z := .tmp 10) (cd := ((cI .u8).arr 6)) (p := a0.Dst) (q := a1.Dst) rfl Eq24 <| J.j 1 5 .bool ?_ ?_ fun y3 => ?_
 ·exact J.e 6
 ·exact J.k 1 1 rfl Ty24 (Zip _) <| J.k 1 0 rfl Ty24 (Zip _) <| OJ.neq (d := 17) (T := 24) (yT := 24) (y := .tmp 14) (z := .tmp 16) (cd := ((cI .u8).arr 6)) (p := a0.Src) (q := a1.Src) rfl Eq24 <| J.e 1
 refine J.j 1 5 .bool ?_ ?_ fun y4 => ?_
 ·exact J.e 6
 ·exact J.k 1 1 rfl Ty3 (Zhn _) <| J.k 1 0 rfl Ty3 (Zhn _) <| J.e 2
 refine J.j 1 7 .bool ?_ ?_ fun y5 => ?_
 ·exact J.e 8
 ·exact J.k 1 1 rfl Ty25 (Zeu _) <| J.k 2 0 rfl Ty25 (Zeu _) <| J.e 3
 refine J.j 1 7 .bool ?_ ?_ fun y6 => ?_
 ·exact J.e 8
 ·exact J.k 1 1 rfl Ty32 (Zev _) <| J.k 2 0 rfl Ty32 (Zev _) <| J.e 3
 refine J.z 0 <| J.f ?_ ?_
 ·exact SJ.sr 1 <| J.z 1 <| J.r
 exact SJ.skip <| SJ.seq <| SJ.sr 1 <| J.z 1 <| SJ.block (id := 0) <| J.L (ZaC.L2_ok a0 a1 b1 b2)

/-! ### weir/weirref6.Alike: function 55 -/
noncomputable def ZcZ.out (r_ : Bool) : Value := .bool r_
noncomputable def ZcZ (a0 : Sl) (a1 : Sl) : M Bool :=
 toStr a0 >>= fun r1 =>
 toStr a1 >>= fun r2 =>
 pure (r1.toList == r2.toList)
theorem Zfm (a0 : Sl) (a1 : Sl) : Ref Tryz.prog 55 [Sl.v a0, Sl.v a1] (ZcZ a0 a1) ZcZ.out := by
 refine J.Fn Tryz.func55 ?_
 unfold ZcZ
 exact SJ.sr 1 <| J.z 1 <| SJ.sr 6 <| J.g 1 <| OJ.toStr (d := 6) (t := 32) (u := 9) (E := 5) (x := .tmp 5) (owed := []) fun r1 => OW.nil <| J.g 1 <| OJ.toStr (d := 8) (t := 32) (u := 9) (E := 5) (x := .tmp 7) (owed := []) fun r2 => OW.nil <| J.z 2 <| J.r

/-! ### weir/weirref6.SameOpts: function 54 -/
noncomputable def ZaV.B : Code := bod Tryz.f54
noncomputable def ZaV.cx : Fx := ⟨Tryz.prog, 54, Tryz.f54, none⟩
noncomputable def ZaV.out (r_ : Bool) : Value := .bool r_
noncomputable def ZaV.F1 (a0 : Sl) (a1 : Sl) : LF Int Bool := ⟨[.inBlock 0, .code (c2 (c2 (c2 ZaV.B)))], c1 (c2 (c1 (c2 (c2 ZaV.B)))), fun s_ => [(0, Sl.v a0), (1, Sl.v a1), (5, .int .i64 s_)], fun s_ => [], (rt ZaV.out)⟩
noncomputable def ZaV.L1 (a0 : Sl) (a1 : Sl) (s1 : Int) : M (LS Int Bool) :=
 if s1 < (a0.len : Int) then
  draw >>= fun _ =>
  idx a0.a a0.len s1 2 >>= fun p14 =>
  ld cL (Addr.add p14 1) >>= fun x15 =>
  idx a1.a a1.len s1 2 >>= fun p16 =>
  ld cL (Addr.add p16 1) >>= fun x17 =>
  ZcZ x15 x17 >>= fun r18 =>
  draw >>= fun _ =>
  idx a0.a a0.len s1 2 >>= fun p19 =>
  ld (cI .i64) p19 >>= fun x20 =>
  idx a1.a a1.len s1 2 >>= fun p21 =>
  ld (cI .i64) p21 >>= fun x22 =>
  (if x20 ≠ x22 then
    pure true
   else
    pure (!r18)) >>= fun y23 =>
  if y23 = true then
   pure (LS.done false)
  else
   pure (LS.next (IntKind.wrap .i64 (s1 + 1)))
 else
  pure (LS.done true)
theorem ZaV.L1_ok (a0 : Sl) (a1 : Sl) : LJ ZaV.cx (ZaV.F1 a0 a1) (fun s_ => ZaV.L1 a0 a1 s_) := by
 rintro s1
 show SJ _ _ _ _ (ZaV.L1 a0 a1 s1) _
 unfold ZaV.L1
 refine SJ.seq <| SJ.sr 4 <| J.z 4 <| J.f ?_ ?_
 ·refine SJ.skip <| SJ.seq <| SJ.block (id := 1) <| SJ.seq <| J.R 12 Zcs <| J.i 2 fun p14 => J.l 1 Ty32 fun x15 => J.i 2 fun p16 => J.l 1 Ty32 fun x17 => J.C 0 F55 (Zfm _ _) fun r18 => J.z 1 <| SJ.seq <| J.R 15 Zcs <| J.i 2 fun p19 => J.l 1 Ty3 fun x20 => J.i 2 fun p21 => J.l 1 Ty3 fun x22 => J.j 2 2 .bool ?_ ?_ fun y23 => ?_
  ·exact J.e 3
  ·exact J.e 3
  refine J.z 0 <| J.f ?_ ?_
  ·exact SJ.sr 1 <| J.z 1 <| J.r
  exact SJ.skip <| SJ.inBlock <| SJ.rg 3 <| J.z 3 <| J.o rfl
 exact SJ.exit (id := 0) (by rfl) <| SJ.sr 1 <| J.z 1 <| J.r
noncomputable def ZaV (a0 : Sl) (a1 : Sl) : M Bool :=
 if (a0.len : Int) ≠ (a1.len : Int) then
  pure false
 else
  ZcI (fun s_ : Int => ZaV.L1 a0 a1 s_) 0
theorem ZgB (a0 : Sl) (a1 : Sl) : Ref Tryz.prog 54 [Sl.v a0, Sl.v a1] (ZaV a0 a1) ZaV.out := by
 refine J.Fn Tryz.func54 ?_
 unfold ZaV
 refine SJ.sr 1 <| J.z 1 <| SJ.seq <| SJ.sr 5 <| J.z 5 <| J.f ?_ ?_
 ·exact SJ.sr 1 <| J.z 1 <| J.r
 exact SJ.skip <| SJ.seq <| SJ.sr 1 <| J.z 1 <| SJ.block (id := 0) <| J.L (ZaV.L1_ok a0 a1)

/-! ### weir/weirref6.Same: function 27 -/
noncomputable def ZeD.out (r_ : Bool) : Value := .bool r_
noncomputable def ZeD (a0 : ZcX) (a1 : ZcX) : M Bool :=
 slot 34 >>= fun b1 =>
 slot 34 >>= fun b2 =>
 (if a0.Tos ≠ a1.Tos then
   pure true
  else
   pure (a0.ID != a1.ID)) >>= fun y3 =>
 (if y3 = true then
   pure true
  else
   pure (!(a0.DF == a1.DF))) >>= fun y4 =>
 (if y4 = true then
   pure true
  else
   pure (!(a0.MF == a1.MF))) >>= fun y5 =>
 (if y5 = true then
   pure true
  else
   pure (a0.Off != a1.Off)) >>= fun y6 =>
 (if y6 = true then
   pure true
  else
   pure (a0.TTL != a1.TTL)) >>= fun y7 =>
 (if y7 = true then
   pure true
  else
   pure (a0.Proto != a1.Proto)) >>= fun y8 =>
 (if y8 = true then
   pure true
  else
   pure (!eqv a0.Src a1.Src)) >>= fun y9 =>
 (if y9 = true then
   pure true
  else
   pure (!eqv a0.Dst a1.Dst)) >>= fun y10 =>
 if y10 = true then
  pure false
 else
  ZaV a0.Opts a1.Opts >>= fun r11 =>
  (if r11 = true then
    ZcZ a0.Data a1.Data >>= fun r12 =>
    pure r12
   else
    pure false) >>= fun y13 =>
  pure y13
theorem ZlN (a0 : ZcX) (a1 : ZcX) : Ref Tryz.prog 27 [Zck.val a0, Zck.val a1] (ZeD a0 a1) ZeD.out := by
 refine J.Fn Tryz.func27 ?_
 unfold ZeD
 refine SJ.sr 3 <| J.b 0 Zck a0 fun b1 => J.b 0 Zck a1 fun b2 => J.z 1 <| SJ.seq <| SJ.sr 61 <| J.k 1 1 rfl Ty3 (ZjM _) <| J.k 1 0 rfl Ty3 (ZjM _) <| J.j 2 5 .bool ?_ ?_ fun y3 => ?_
 ·exact J.e 6
 ·exact J.k 1 1 rfl Ty3 (ZkN _) <| J.k 1 0 rfl Ty3 (ZkN _) <| J.e 2
 refine J.j 1 5 .bool ?_ ?_ fun y4 => ?_
 ·exact J.e 6
 ·exact J.k 1 1 rfl Ty4 (ZkO _) <| J.k 1 0 rfl Ty4 (ZkO _) <| J.e 2
 refine J.j 1 5 .bool ?_ ?_ fun y5 => ?_
 ·exact J.e 6
 ·exact J.k 1 1 rfl Ty4 (ZgO _) <| J.k 1 0 rfl Ty4 (ZgO _) <| J.e 2
 refine J.j 1 5 .bool ?_ ?_ fun y6 => ?_
 ·exact J.e 6
 ·exact J.k 1 1 rfl Ty3 (Zgp _) <| J.k 1 0 rfl Ty3 (Zgp _) <| J.e 2
 refine J.j 1 5 .bool ?_ ?_ fun y7 => ?_
 ·exact J.e 6
 ·exact J.k 1 1 rfl Ty3 (ZjN _) <| J.k 1 0 rfl Ty3 (ZjN _) <| J.e 2
 refine J.j 1 5 .bool ?_ ?_ fun y8 => ?_
 ·exact J.e 6
 ·exact J.k 1 1 rfl Ty3 (ZfG _) <| J.k 1 0 rfl Ty3 (ZfG _) <| J.e 2
 refine J.j 1 5 .bool ?_ ?_ fun y9 => ?_
 ·exact J.e 6
 ·exact J.k 1 1 rfl Ty28 (Zgo _) <| J.k 1 0 rfl Ty28 (Zgo _) <| OJ.neq (d := 57) (T := 28) (yT := 28) (y := .tmp 54) (z := .tmp 56) (cd := ZaG) (p := a0.Src) (q := a1.Src) rfl Eq28 <| J.e 1
 refine J.j 1 5 .bool ?_ ?_ fun y10 => ?_
 ·exact J.e 6
 ·exact J.k 1 1 rfl Ty28 (Ze0 _) <| J.k 1 0 rfl Ty28 (Ze0 _) <| OJ.neq (d := 64) (T := 28) (yT := 28) (y := .tmp 61) (z := .tmp 63) (cd := ZaG) (p := a0.Dst) (q := a1.Dst) rfl Eq28 <| J.e 1
 refine J.z 0 <| J.f ?_ ?_
 ·exact SJ.sr 1 <| J.z 1 <| J.r
 refine SJ.skip <| SJ.sr 13 <| J.k 1 1 rfl Ty31 (Zg8 _) <| J.k 1 0 rfl Ty31 (Zg8 _) <| J.C 0 F54 (ZgB _ _) fun r11 => J.j 1 5 .bool ?_ ?_ fun y13 => ?_
 ·exact J.k 1 1 rfl Ty32 (ZdY _) <| J.k 1 0 rfl Ty32 (ZdY _) <| J.C 0 F55 (Zfm _ _) fun r12 => J.e 1
 ·exact J.e 6
 exact J.z 1 <| J.r

/-! ### weir/weirref7.Alike: function 57 -/
noncomputable def ZdK.out (r_ : Bool) : Value := .bool r_
noncomputable def ZdK (a0 : Sl) (a1 : Sl) : M Bool :=
 toStr a0 >>= fun r1 =>
 toStr a1 >>= fun r2 =>
 pure (r1.toList == r2.toList)
theorem Zge (a0 : Sl) (a1 : Sl) : Ref Tryz.prog 57 [Sl.v a0, Sl.v a1] (ZdK a0 a1) ZdK.out := by
 refine J.Fn Tryz.func57 ?_
 unfold ZdK
 exact SJ.sr 1 <| J.z 1 <| SJ.sr 6 <| J.g 1 <| OJ.toStr (d := 6) (t := 32) (u := 9) (E := 5) (x := .tmp 5) (owed := []) fun r1 => OW.nil <| J.g 1 <| OJ.toStr (d := 8) (t := 32) (u := 9) (E := 5) (x := .tmp 7) (owed := []) fun r2 => OW.nil <| J.z 2 <| J.r

/-! ### weir/weirref7.SameOpts: function 78 -/
noncomputable def ZaW.B : Code := bod Tryz.f78
noncomputable def ZaW.cx : Fx := ⟨Tryz.prog, 78, Tryz.f78, none⟩
noncomputable def ZaW.out (r_ : Bool) : Value := .bool r_
noncomputable def ZaW.F1 (a0 : Sl) (a1 : Sl) : LF Int Bool := ⟨[.inBlock 0, .code (c2 (c2 (c2 ZaW.B)))], c1 (c2 (c1 (c2 (c2 ZaW.B)))), fun s_ => [(0, Sl.v a0), (1, Sl.v a1), (5, .int .i64 s_)], fun s_ => [], (rt ZaW.out)⟩
noncomputable def ZaW.L1 (a0 : Sl) (a1 : Sl) (s1 : Int) : M (LS Int Bool) :=
 if s1 < (a0.len : Int) then
  draw >>= fun _ =>
  idx a0.a a0.len s1 2 >>= fun p14 =>
  ld (cI .i64) p14 >>= fun x15 =>
  idx a1.a a1.len s1 2 >>= fun p16 =>
  ld (cI .i64) p16 >>= fun x17 =>
  (if x15 ≠ x17 then
    pure true
   else
    idx a0.a a0.len s1 2 >>= fun p18 =>
    ld cL (Addr.add p18 1) >>= fun x19 =>
    idx a1.a a1.len s1 2 >>= fun p20 =>
    ld cL (Addr.add p20 1) >>= fun x21 =>
    ZdK x19 x21 >>= fun r22 =>
    pure (!r22)) >>= fun y23 =>
  if y23 = true then
   pure (LS.done false)
  else
   pure (LS.next (IntKind.wrap .i64 (s1 + 1)))
 else
  pure (LS.done true)
theorem ZaW.L1_ok (a0 : Sl) (a1 : Sl) : LJ ZaW.cx (ZaW.F1 a0 a1) (fun s_ => ZaW.L1 a0 a1 s_) := by
 rintro s1
 show SJ _ _ _ _ (ZaW.L1 a0 a1 s1) _
 unfold ZaW.L1
 refine SJ.seq <| SJ.sr 4 <| J.z 4 <| J.f ?_ ?_
 ·refine SJ.skip <| SJ.seq <| SJ.block (id := 1) <| SJ.seq <| J.R 25 Zcs <| J.i 2 fun p14 => J.l 1 Ty3 fun x15 => J.i 2 fun p16 => J.l 1 Ty3 fun x17 => J.j 2 12 .bool ?_ ?_ fun y23 => ?_
  ·exact J.e 13
  ·exact J.i 2 fun p18 => J.l 1 Ty32 fun x19 => J.i 2 fun p20 => J.l 1 Ty32 fun x21 => J.C 0 F57 (Zge _ _) fun r22 => J.e 2
  refine J.z 0 <| J.f ?_ ?_
  ·exact SJ.sr 1 <| J.z 1 <| J.r
  exact SJ.skip <| SJ.inBlock <| SJ.rg 3 <| J.z 3 <| J.o rfl
 exact SJ.exit (id := 0) (by rfl) <| SJ.sr 1 <| J.z 1 <| J.r
noncomputable def ZaW (a0 : Sl) (a1 : Sl) : M Bool :=
 if (a0.len : Int) ≠ (a1.len : Int) then
  pure false
 else
  ZcI (fun s_ : Int => ZaW.L1 a0 a1 s_) 0
theorem Zjj (a0 : Sl) (a1 : Sl) : Ref Tryz.prog 78 [Sl.v a0, Sl.v a1] (ZaW a0 a1) ZaW.out := by
 refine J.Fn Tryz.func78 ?_
 unfold ZaW
 refine SJ.sr 1 <| J.z 1 <| SJ.seq <| SJ.sr 5 <| J.z 5 <| J.f ?_ ?_
 ·exact SJ.sr 1 <| J.z 1 <| J.r
 exact SJ.skip <| SJ.seq <| SJ.sr 1 <| J.z 1 <| SJ.block (id := 0) <| J.L (ZaW.L1_ok a0 a1)

/-! ### weir/weirref7.SameExts: function 56 -/
noncomputable def ZaX.B : Code := bod Tryz.f56
noncomputable def ZaX.cx : Fx := ⟨Tryz.prog, 56, Tryz.f56, none⟩
noncomputable def ZaX.out (r_ : Bool) : Value := .bool r_
noncomputable def ZaX.F1 (a0 : Sl) (a1 : Sl) : LF Int Bool := ⟨[.inBlock 0, .code (c2 (c2 (c2 ZaX.B)))], c1 (c2 (c1 (c2 (c2 ZaX.B)))), fun s_ => [(0, Sl.v a0), (1, Sl.v a1), (5, .int .i64 s_)], fun s_ => [], (rt ZaX.out)⟩
noncomputable def ZaX.L1 (a0 : Sl) (a1 : Sl) (s1 : Int) : M (LS Int Bool) :=
 if s1 < (a0.len : Int) then
  draw >>= fun _ =>
  idx a0.a a0.len s1 3 >>= fun p20 =>
  ld (cI .i64) p20 >>= fun x21 =>
  idx a1.a a1.len s1 3 >>= fun p22 =>
  ld (cI .i64) p22 >>= fun x23 =>
  (if x21 ≠ x23 then
    pure true
   else
    idx a0.a a0.len s1 3 >>= fun p24 =>
    ld cL (Addr.add p24 2) >>= fun x25 =>
    idx a1.a a1.len s1 3 >>= fun p26 =>
    ld cL (Addr.add p26 2) >>= fun x27 =>
    ZdK x25 x27 >>= fun r28 =>
    pure (!r28)) >>= fun y29 =>
  (if y29 = true then
    pure true
   else
    idx a0.a a0.len s1 3 >>= fun p30 =>
    ld cL (Addr.add p30 1) >>= fun x31 =>
    idx a1.a a1.len s1 3 >>= fun p32 =>
    ld cL (Addr.add p32 1) >>= fun x33 =>
    ZaW x31 x33 >>= fun r34 =>
    pure (!r34)) >>= fun y35 =>
  if y35 = true then
   pure (LS.done false)
  else
   pure (LS.next (IntKind.wrap .i64 (s1 + 1)))
 else
  pure (LS.done true)
theorem ZaX.L1_ok (a0 : Sl) (a1 : Sl) : LJ ZaX.cx (ZaX.F1 a0 a1) (fun s_ => ZaX.L1 a0 a1 s_) := by
 rintro s1
 show SJ _ _ _ _ (ZaX.L1 a0 a1 s1) _
 unfold ZaX.L1
 refine SJ.seq <| SJ.sr 4 <| J.z 4 <| J.f ?_ ?_
 ·refine SJ.skip <| SJ.seq <| SJ.block (id := 1) <| SJ.seq <| J.R 39 Zcs <| J.i 2 fun p20 => J.l 1 Ty3 fun x21 => J.i 2 fun p22 => J.l 1 Ty3 fun x23 => J.j 2 12 .bool ?_ ?_ fun y29 => ?_
  ·exact J.e 13
  ·exact J.i 2 fun p24 => J.l 1 Ty32 fun x25 => J.i 2 fun p26 => J.l 1 Ty32 fun x27 => J.C 0 F57 (Zge _ _) fun r28 => J.e 2
  refine J.j 1 12 .bool ?_ ?_ fun y35 => ?_
  ·exact J.e 13
  ·exact J.i 2 fun p30 => J.l 1 Ty31 fun x31 => J.i 2 fun p32 => J.l 1 Ty31 fun x33 => J.C 0 F78 (Zjj _ _) fun r34 => J.e 2
  refine J.z 0 <| J.f ?_ ?_
  ·exact SJ.sr 1 <| J.z 1 <| J.r
  exact SJ.skip <| SJ.inBlock <| SJ.rg 3 <| J.z 3 <| J.o rfl
 exact SJ.exit (id := 0) (by rfl) <| SJ.sr 1 <| J.z 1 <| J.r
noncomputable def ZaX (a0 : Sl) (a1 : Sl) : M Bool :=
 if (a0.len : Int) ≠ (a1.len : Int) then
  pure false
 else
  ZcI (fun s_ : Int => ZaX.L1 a0 a1 s_) 0
theorem Zjk (a0 : Sl) (a1 : Sl) : Ref Tryz.prog 56 [Sl.v a0, Sl.v a1] (ZaX a0 a1) ZaX.out := by
 refine J.Fn Tryz.func56 ?_
 unfold ZaX
 refine SJ.sr 1 <| J.z 1 <| SJ.seq <| SJ.sr 5 <| J.z 5 <| J.f ?_ ?_
 ·exact SJ.sr 1 <| J.z 1 <| J.r
 exact SJ.skip <| SJ.seq <| SJ.sr 1 <| J.z 1 <| SJ.block (id := 0) <| J.L (ZaX.L1_ok a0 a1)

/-! ### weir/weirref7.Same: function 28 -/
noncomputable def ZeC.out (r_ : Bool) : Value := .bool r_
noncomputable def ZeC (a0 : ZcW) (a1 : ZcW) : M Bool :=
 slot 39 >>= fun b1 =>
 slot 39 >>= fun b2 =>
 (if a0.Class ≠ a1.Class then
   pure true
  else
   pure (a0.Flow != a1.Flow)) >>= fun y3 =>
 (if y3 = true then
   pure true
  else
   pure (a0.Hop != a1.Hop)) >>= fun y4 =>
 (if y4 = true then
   pure true
  else
   pure (!eqv a0.Src a1.Src)) >>= fun y5 =>
 (if y5 = true then
   pure true
  else
   pure (!eqv a0.Dst a1.Dst)) >>= fun y6 =>
 (if y6 = true then
   pure true
  else
   pure (!eqv a0.Frag a1.Frag)) >>= fun y7 =>
 (if y7 = true then
   pure true
  else
   pure (a0.Next != a1.Next)) >>= fun y8 =>
 if y8 = true then
  pure false
 else
  ZaX a0.Exts a1.Exts >>= fun r9 =>
  (if r9 = true then
    ZdK a0.Data a1.Data >>= fun r10 =>
    pure r10
   else
    pure false) >>= fun y11 =>
  pure y11
theorem ZlM (a0 : ZcW) (a1 : ZcW) : Ref Tryz.prog 28 [Zcd.val a0, Zcd.val a1] (ZeC a0 a1) ZeC.out := by
 refine J.Fn Tryz.func28 ?_
 unfold ZeC
 refine SJ.sr 3 <| J.b 0 Zcd a0 fun b1 => J.b 0 Zcd a1 fun b2 => J.z 1 <| SJ.seq <| SJ.sr 47 <| J.k 1 1 rfl Ty3 (Zim _) <| J.k 1 0 rfl Ty3 (Zim _) <| J.j 2 5 .bool ?_ ?_ fun y3 => ?_
 ·exact J.e 6
 ·exact J.k 1 1 rfl Ty3 (Zi5 _) <| J.k 1 0 rfl Ty3 (Zi5 _) <| J.e 2
 refine J.j 1 5 .bool ?_ ?_ fun y4 => ?_
 ·exact J.e 6
 ·exact J.k 1 1 rfl Ty3 (ZjL _) <| J.k 1 0 rfl Ty3 (ZjL _) <| J.e 2
 refine J.j 1 5 .bool ?_ ?_ fun y5 => ?_
 ·exact J.e 6
 ·exact J.k 1 1 rfl Ty28 (Zgn _) <| J.k 1 0 rfl Ty28 (Zgn _) <| OJ.neq (d := 29) (T := 28) (yT := 28) (y := .tmp 26) (z := .tmp 28) (cd := ZaG) (p := a0.Src) (q := a1.Src) rfl Eq28 <| J.e 1
 refine J.j 1 5 .bool ?_ ?_ fun y6 => ?_
 ·exact J.e 6
 ·exact J.k 1 1 rfl Ty28 (ZeZ _) <| J.k 1 0 rfl Ty28 (ZeZ _) <| OJ.neq (d := 36) (T := 28) (yT := 28) (y := .tmp 33) (z := .tmp 35) (cd := ZaG) (p := a0.Dst) (q := a1.Dst) rfl Eq28 <| J.e 1
 refine J.j 1 5 .bool ?_ ?_ fun y7 => ?_
 ·exact J.e 6
 ·exact J.k 1 1 rfl Ty37 (Zf7 _) <| J.k 1 0 rfl Ty37 (Zf7 _) <| OJ.neq (d := 43) (T := 37) (yT := 37) (y := .tmp 40) (z := .tmp 42) (cd := ZeX) (p := a0.Frag) (q := a1.Frag) rfl Eq37 <| J.e 1
 refine J.j 1 5 .bool ?_ ?_ fun y8 => ?_
 ·exact J.e 6
 ·exact J.k 1 1 rfl Ty3 (Zf6 _) <| J.k 1 0 rfl Ty3 (Zf6 _) <| J.e 2
 refine J.z 0 <| J.f ?_ ?_
 ·exact SJ.sr 1 <| J.z 1 <| J.r
 refine SJ.skip <| SJ.sr 13 <| J.k 1 1 rfl Ty35 (Zfj _) <| J.k 1 0 rfl Ty35 (Zfj _) <| J.C 0 F56 (Zjk _ _) fun r9 => J.j 1 5 .bool ?_ ?_ fun y11 => ?_
 ·exact J.k 1 1 rfl Ty32 (ZdX _) <| J.k 1 0 rfl Ty32 (ZdX _) <| J.C 0 F57 (Zge _ _) fun r10 => J.e 1
 ·exact J.e 6
 exact J.z 1 <| J.r

/-! ### weir/weirref8.Same: function 29 -/
noncomputable def ZbA.B : Code := bod Tryz.f29
noncomputable def ZbA.cx : Fx := ⟨Tryz.prog, 29, Tryz.f29, none⟩
noncomputable def ZbA.out (r_ : Bool) : Value := .bool r_
noncomputable def ZbA.F1 (a0 : Zcy) (a1 : Zcy) (b1 : Nat) (b2 : Nat) : LF Int Bool := ⟨[.inBlock 0, .code (c2 (c2 (c2 ZbA.B)))], c1 (c2 (c1 (c2 (c2 ZbA.B)))), fun s_ => [(2, .pointer (some (pt b1 0))), (3, .pointer (some (pt b2 0))), (5, .int .i64 s_)], fun s_ => [(b2, ZcJ.enc a1), (b1, ZcJ.enc a0)], (rt ZbA.out)⟩
noncomputable def ZbA.L1 (a0 : Zcy) (a1 : Zcy) (s7 : Int) : M (LS Int Bool) :=
 if s7 < (a0.Data.len : Int) then
  draw >>= fun _ =>
  idx a0.Data.a a0.Data.len s7 1 >>= fun p14 =>
  ld (cI .u8) p14 >>= fun x15 =>
  idx a1.Data.a a1.Data.len s7 1 >>= fun p16 =>
  ld (cI .u8) p16 >>= fun x17 =>
  if x15 ≠ x17 then
   pure (LS.done false)
  else
   pure (LS.next (IntKind.wrap .i64 (s7 + 1)))
 else
  pure (LS.done true)
theorem ZbA.L1_ok (a0 : Zcy) (a1 : Zcy) (b1 : Nat) (b2 : Nat) : LJ ZbA.cx (ZbA.F1 a0 a1 b1 b2) (fun s_ => ZbA.L1 a0 a1 s_) := by
 rintro s7
 show SJ _ _ _ _ (ZbA.L1 a0 a1 s7) _
 unfold ZbA.L1
 refine SJ.seq <| SJ.sr 5 <| J.k 2 1 rfl Ty32 (Zd2 _) <| J.z 2 <| J.f ?_ ?_
 ·refine SJ.skip <| SJ.seq <| SJ.block (id := 1) <| SJ.seq <| J.R 11 Zcs <| J.k 1 1 rfl Ty32 (Zd2 _) <| J.i 1 fun p14 => J.l 0 Ty5 fun x15 => J.k 1 0 rfl Ty32 (Zd2 _) <| J.i 1 fun p16 => J.l 0 Ty5 fun x17 => J.z 1 <| J.f ?_ ?_
  ·exact SJ.sr 1 <| J.z 1 <| J.r
  exact SJ.skip <| SJ.inBlock <| SJ.rg 3 <| J.z 3 <| J.o rfl
 exact SJ.exit (id := 0) (by rfl) <| SJ.sr 1 <| J.z 1 <| J.r
noncomputable def ZbA (a0 : Zcy) (a1 : Zcy) : M Bool :=
 slot 41 >>= fun b1 =>
 slot 41 >>= fun b2 =>
 (if a0.V ≠ a1.V then
   pure true
  else
   pure (a0.Type_ != a1.Type_)) >>= fun y3 =>
 (if y3 = true then
   pure true
  else
   pure (a0.Code != a1.Code)) >>= fun y4 =>
 (if y4 = true then
   pure true
  else
   pure (a0.Rest != a1.Rest)) >>= fun y5 =>
 (if y5 = true then
   pure true
  else
   pure ((a0.Data.len : Int) != (a1.Data.len : Int))) >>= fun y6 =>
 if y6 = true then
  pure false
 else
  ZcI (fun s_ : Int => ZbA.L1 a0 a1 s_) 0
theorem ZlL (a0 : Zcy) (a1 : Zcy) : Ref Tryz.prog 29 [ZcJ.val a0, ZcJ.val a1] (ZbA a0 a1) ZbA.out := by
 refine J.Fn Tryz.func29 ?_
 unfold ZbA
 refine SJ.sr 3 <| J.b 0 ZcJ a0 fun b1 => J.b 0 ZcJ a1 fun b2 => J.z 1 <| SJ.seq <| SJ.sr 35 <| J.k 1 1 rfl Ty3 (ZkP _) <| J.k 1 0 rfl Ty3 (ZkP _) <| J.j 2 5 .bool ?_ ?_ fun y3 => ?_
 ·exact J.e 6
 ·exact J.k 1 1 rfl Ty3 (Zfs _) <| J.k 1 0 rfl Ty3 (Zfs _) <| J.e 2
 refine J.j 1 5 .bool ?_ ?_ fun y4 => ?_
 ·exact J.e 6
 ·exact J.k 1 1 rfl Ty3 (Zio _) <| J.k 1 0 rfl Ty3 (Zio _) <| J.e 2
 refine J.j 1 5 .bool ?_ ?_ fun y5 => ?_
 ·exact J.e 6
 ·exact J.k 1 1 rfl Ty3 (Zin _) <| J.k 1 0 rfl Ty3 (Zin _) <| J.e 2
 refine J.j 1 7 .bool ?_ ?_ fun y6 => ?_
 ·exact J.e 8
 ·exact J.k 1 1 rfl Ty32 (Zd2 _) <| J.k 2 0 rfl Ty32 (Zd2 _) <| J.e 3
 refine J.z 0 <| J.f ?_ ?_
 ·exact SJ.sr 1 <| J.z 1 <| J.r
 exact SJ.skip <| SJ.seq <| SJ.sr 1 <| J.z 1 <| SJ.block (id := 0) <| J.L (ZbA.L1_ok a0 a1 b1 b2)

/-! ### weir/weirref9.SameUdp: function 30 -/
noncomputable def Zdw.out (r_ : Bool) : Value := .bool r_
noncomputable def Zdw (a0 : Zer) (a1 : Zer) : M Bool :=
 slot 43 >>= fun b1 =>
 slot 43 >>= fun b2 =>
 (if a0.Sport = a1.Sport then
   pure (a0.Dport == a1.Dport)
  else
   pure false) >>= fun y3 =>
 (if y3 = true then
   pure (a0.NoSum == a1.NoSum)
  else
   pure false) >>= fun y4 =>
 (if y4 = true then
   ZcZ a0.Data a1.Data >>= fun r5 =>
   pure r5
  else
   pure false) >>= fun y6 =>
 pure y6
theorem ZjQ (a0 : Zer) (a1 : Zer) : Ref Tryz.prog 30 [ZdV.val a0, ZdV.val a1] (Zdw a0 a1) Zdw.out := by
 refine J.Fn Tryz.func30 ?_
 unfold Zdw
 refine SJ.sr 3 <| J.b 0 ZdV a0 fun b1 => J.b 0 ZdV a1 fun b2 => J.z 1 <| SJ.sr 27 <| J.k 1 1 rfl Ty3 (ZfC _) <| J.k 1 0 rfl Ty3 (ZfC _) <| J.j 2 5 .bool ?_ ?_ fun y3 => ?_
 ·exact J.k 1 1 rfl Ty3 (ZfD _) <| J.k 1 0 rfl Ty3 (ZfD _) <| J.e 2
 ·exact J.e 6
 refine J.j 1 5 .bool ?_ ?_ fun y4 => ?_
 ·exact J.k 1 1 rfl Ty4 (Zil _) <| J.k 1 0 rfl Ty4 (Zil _) <| J.e 2
 ·exact J.e 6
 refine J.j 1 5 .bool ?_ ?_ fun y6 => ?_
 ·exact J.k 1 1 rfl Ty32 (Zg5 _) <| J.k 1 0 rfl Ty32 (Zg5 _) <| J.C 0 F55 (Zfm _ _) fun r5 => J.e 1
 ·exact J.e 6
 exact J.z 1 <| J.r

/-! ### weir/weirref9.SameTcp: function 31 -/
noncomputable def Zdx.out (r_ : Bool) : Value := .bool r_
noncomputable def Zdx (a0 : Zdd) (a1 : Zdd) : M Bool :=
 slot 45 >>= fun b1 =>
 slot 45 >>= fun b2 =>
 (if a0.Sport ≠ a1.Sport then
   pure true
  else
   pure (a0.Dport != a1.Dport)) >>= fun y3 =>
 (if y3 = true then
   pure true
  else
   pure (a0.Seq != a1.Seq)) >>= fun y4 =>
 (if y4 = true then
   pure true
  else
   pure (a0.Ack != a1.Ack)) >>= fun y5 =>
 (if y5 = true then
   pure true
  else
   pure (a0.Flags != a1.Flags)) >>= fun y6 =>
 (if y6 = true then
   pure true
  else
   pure (a0.Win != a1.Win)) >>= fun y7 =>
 (if y7 = true then
   pure true
  else
   pure (a0.Urg != a1.Urg)) >>= fun y8 =>
 if y8 = true then
  pure false
 else
  ZaV a0.Opts a1.Opts >>= fun r9 =>
  (if r9 = true then
    ZcZ a0.Data a1.Data >>= fun r10 =>
    pure r10
   else
    pure false) >>= fun y11 =>
  pure y11
theorem ZjR (a0 : Zdd) (a1 : Zdd) : Ref Tryz.prog 31 [ZcB.val a0, ZcB.val a1] (Zdx a0 a1) Zdx.out := by
 refine J.Fn Tryz.func31 ?_
 unfold Zdx
 refine SJ.sr 3 <| J.b 0 ZcB a0 fun b1 => J.b 0 ZcB a1 fun b2 => J.z 1 <| SJ.seq <| SJ.sr 47 <| J.k 1 1 rfl Ty3 (ZfE _) <| J.k 1 0 rfl Ty3 (ZfE _) <| J.j 2 5 .bool ?_ ?_ fun y3 => ?_
 ·exact J.e 6
 ·exact J.k 1 1 rfl Ty3 (ZfF _) <| J.k 1 0 rfl Ty3 (ZfF _) <| J.e 2
 refine J.j 1 5 .bool ?_ ?_ fun y4 => ?_
 ·exact J.e 6
 ·exact J.k 1 1 rfl Ty3 (ZjH _) <| J.k 1 0 rfl Ty3 (ZjH _) <| J.e 2
 refine J.j 1 5 .bool ?_ ?_ fun y5 => ?_
 ·exact J.e 6
 ·exact J.k 1 1 rfl Ty3 (ZjI _) <| J.k 1 0 rfl Ty3 (ZjI _) <| J.e 2
 refine J.j 1 5 .bool ?_ ?_ fun y6 => ?_
 ·exact J.e 6
 ·exact J.k 1 1 rfl Ty3 (ZeU _) <| J.k 1 0 rfl Ty3 (ZeU _) <| J.e 2
 refine J.j 1 5 .bool ?_ ?_ fun y7 => ?_
 ·exact J.e 6
 ·exact J.k 1 1 rfl Ty3 (ZjF _) <| J.k 1 0 rfl Ty3 (ZjF _) <| J.e 2
 refine J.j 1 5 .bool ?_ ?_ fun y8 => ?_
 ·exact J.e 6
 ·exact J.k 1 1 rfl Ty3 (ZjG _) <| J.k 1 0 rfl Ty3 (ZjG _) <| J.e 2
 refine J.z 0 <| J.f ?_ ?_
 ·exact SJ.sr 1 <| J.z 1 <| J.r
 refine SJ.skip <| SJ.sr 13 <| J.k 1 1 rfl Ty31 (Zg6 _) <| J.k 1 0 rfl Ty31 (Zg6 _) <| J.C 0 F54 (ZgB _ _) fun r9 => J.j 1 5 .bool ?_ ?_ fun y11 => ?_
 ·exact J.k 1 1 rfl Ty32 (Zg7 _) <| J.k 1 0 rfl Ty32 (Zg7 _) <| J.C 0 F55 (Zfm _ _) fun r10 => J.e 1
 ·exact J.e 6
 exact J.z 1 <| J.r

/-! ### weir/weirref10.Same: function 11 -/
noncomputable def Zeh.out (r_ : Bool) : Value := .bool r_
noncomputable def Zeh (a0 : Zac) (a1 : Zac) : M Bool :=
 slot 47 >>= fun b1 =>
 slot 47 >>= fun b2 =>
 slot 98 >>= fun b3 =>
 slot 98 >>= fun b4 =>
 (if a0.Kind ≠ a1.Kind then
   pure true
  else
   pure (a0.L4 != a1.L4)) >>= fun y5 =>
 (if y5 = true then
   pure true
  else
   pure (!eqv a0.Arp a1.Arp)) >>= fun y6 =>
 (if y6 = true then
   pure true
  else
   ZaC (⟨a0.Dst, a0.Src, a0.Tags, Zc0.Type_, Zc0.Data⟩ : Zbu) (⟨a1.Dst, a1.Src, a1.Tags, Zc0.Type_, Zc0.Data⟩ : Zbu) >>= fun r7 =>
   pure (!r7)) >>= fun y8 =>
 if y8 = true then
  pure false
 else
  ZeD a0.Ip4 a1.Ip4 >>= fun r9 =>
  (if ¬ (r9 = true) then
    pure true
   else
    ZeC a0.Ip6 a1.Ip6 >>= fun r10 =>
    pure (!r10)) >>= fun y11 =>
  (if y11 = true then
    pure true
   else
    ZbA a0.Icmp a1.Icmp >>= fun r12 =>
    pure (!r12)) >>= fun y13 =>
  if y13 = true then
   pure false
  else
   Zdw a0.Udp a1.Udp >>= fun r14 =>
   (if r14 = true then
     Zdx a0.Tcp a1.Tcp >>= fun r15 =>
     pure r15
    else
     pure false) >>= fun y16 =>
   pure y16
theorem ZkY (a0 : Zac) (a1 : Zac) : Ref Tryz.prog 11 [Zag.val a0, Zag.val a1] (Zeh a0 a1) Zeh.out := by
 refine J.Fn Tryz.func11 ?_
 unfold Zeh
 refine SJ.sr 3 <| J.b 0 Zag a0 fun b1 => J.b 0 Zag a1 fun b2 => J.z 1 <| SJ.sr 9 <| J.k 1 1 rfl Ty24 (ZhT _) <| J.k 1 1 rfl Ty24 (ZhS _) <| J.k 1 1 rfl Ty25 (Zcl _) <| J.u 0 Ty98 (.f 0 (Zij _ a0.Dst) (.f 1 (Zii _ a0.Src) (.f 2 (ZhR _ a0.Tags) .nil))) <| J.a 0 Ty98 fun b3 => J.s 0 0 rfl Ty98 (Upd.w (⟨a0.Dst, a0.Src, a0.Tags, Zc0.Type_, Zc0.Data⟩ : Zbu)) <| J.z 0 <| SJ.sr 9 <| J.k 1 1 rfl Ty24 (ZhT _) <| J.k 1 1 rfl Ty24 (ZhS _) <| J.k 1 1 rfl Ty25 (Zcl _) <| J.u 0 Ty98 (.f 0 (Zij _ a1.Dst) (.f 1 (Zii _ a1.Src) (.f 2 (ZhR _ a1.Tags) .nil))) <| J.a 0 Ty98 fun b4 => J.s 0 0 rfl Ty98 (Upd.w (⟨a1.Dst, a1.Src, a1.Tags, Zc0.Type_, Zc0.Data⟩ : Zbu)) <| J.z 0 <| SJ.seq <| SJ.sr 25 <| J.k 1 3 rfl Ty3 (ZbC _) <| J.k 1 2 rfl Ty3 (ZbC _) <| J.j 2 5 .bool ?_ ?_ fun y5 => ?_
 ·exact J.e 6
 ·exact J.k 1 3 rfl Ty3 (Zdb _) <| J.k 1 2 rfl Ty3 (Zdb _) <| J.e 2
 refine J.j 1 5 .bool ?_ ?_ fun y6 => ?_
 ·exact J.e 6
 ·exact J.k 1 3 rfl Ty30 (ZcV _) <| J.k 1 2 rfl Ty30 (ZcV _) <| OJ.neq (d := 38) (T := 30) (yT := 30) (y := .tmp 35) (z := .tmp 37) (cd := Zff) (p := a0.Arp) (q := a1.Arp) rfl Eq30 <| J.e 1
 refine J.j 1 4 .bool ?_ ?_ fun y8 => ?_
 ·exact J.e 5
 ·exact J.k 0 1 rfl Ty98 (At.whole _) <| J.k 0 0 rfl Ty98 (At.whole _) <| J.C 0 F26 (ZlO _ _) fun r7 => J.e 2
 refine J.z 0 <| J.f ?_ ?_
 ·exact SJ.sr 1 <| J.z 1 <| J.r
 refine SJ.skip <| SJ.seq <| SJ.sr 22 <| J.k 1 3 rfl Ty34 (Za4 _) <| J.k 1 2 rfl Ty34 (Za4 _) <| J.C 0 F27 (ZlN _ _) fun r9 => J.j 2 6 .bool ?_ ?_ fun y11 => ?_
 ·exact J.e 7
 ·exact J.k 1 3 rfl Ty39 (Zbh _) <| J.k 1 2 rfl Ty39 (Zbh _) <| J.C 0 F28 (ZlM _ _) fun r10 => J.e 2
 refine J.j 1 6 .bool ?_ ?_ fun y13 => ?_
 ·exact J.e 7
 ·exact J.k 1 3 rfl Ty41 (Zdv _) <| J.k 1 2 rfl Ty41 (Zdv _) <| J.C 0 F29 (ZlL _ _) fun r12 => J.e 2
 refine J.z 0 <| J.f ?_ ?_
 ·exact SJ.sr 1 <| J.z 1 <| J.r
 refine SJ.skip <| SJ.sr 13 <| J.k 1 3 rfl Ty43 (ZcU _) <| J.k 1 2 rfl Ty43 (ZcU _) <| J.C 0 F30 (ZjQ _ _) fun r14 => J.j 1 5 .bool ?_ ?_ fun y16 => ?_
 ·exact J.k 1 3 rfl Ty45 (ZbT _) <| J.k 1 2 rfl Ty45 (ZbT _) <| J.C 0 F31 (ZjR _ _) fun r15 => J.e 1
 ·exact J.e 6
 exact J.z 1 <| J.r

/-! ### weir/weirlaw16.placed: function 12 -/
noncomputable def Zc9.out (r_ : Int) : Value := .int .i64 r_
noncomputable def Zc9 (a0 : Int) (a1 : Int) : M Int :=
 chk (a1 ≠ 0) >>= fun _ =>
 if (Int.tmod a0 a1) < 0 then
  pure (IntKind.wrap .i64 ((Int.tmod a0 a1) + a1))
 else
  pure (Int.tmod a0 a1)
theorem ZgS (a0 : Int) (a1 : Int) : Ref Tryz.prog 12 [.int .i64 a0, .int .i64 a1] (Zc9 a0 a1) Zc9.out := by
 refine J.Fn Tryz.func12 ?_
 unfold Zc9
 refine SJ.sr 1 <| J.z 1 <| SJ.sr 4 <| J.g 2 <| OJ.rem (d := 8) (T := 3) (yT := 3) (y := .tmp 6) (z := .tmp 7) (p := a0) (q := a1) (k := .i64) fun hq2 => J.z 1 <| SJ.seq <| SJ.sr 2 <| J.z 2 <| J.f ?_ ?_
 ·exact SJ.rg 4 <| J.z 4 <| SJ.sr 2 <| J.z 2 <| J.r
 exact SJ.skip <| SJ.sr 2 <| J.z 2 <| J.r

/-! ### weir/weirlaw16.RulesCase: function 3 -/
noncomputable def Zaa.B : Code := bod Tryz.f3
noncomputable def Zaa.cx : Fx := ⟨Tryz.prog, 3, Tryz.f3, none⟩
noncomputable def Zaa.out (r_ : Bool) : Value := .bool r_
noncomputable def Zaa.F1 (a0 : Sl) (a1 : Int) (a3 : Sl) (r3 : ((Option Addr) × Int × Int)) (r7 : Zac) (b8 : Nat) : LF Int Bool := ⟨[.inBlock 0, .code (c2 (c2 (c2 (c2 (c2 (c2 Zaa.B))))))], c1 (c2 (c1 (c2 (c2 (c2 (c2 (c2 Zaa.B))))))), fun s_ => [(0, Sl.v a0), (1, .int .i64 a1), (3, Sl.v a3), (9, .pointer r3.1), (12, .pointer (some (pt b8 0))), (13, .int .i64 s_)], fun s_ => [(b8, Zag.enc r7)], (rt Zaa.out)⟩
noncomputable def Zaa.F2 (a0 : Sl) (a1 : Int) (a3 : Sl) (r3 : ((Option Addr) × Int × Int)) (r7 : Zac) (b8 : Nat) (s9 : Int) : LF Int (LS Int Bool) := ⟨[.inBlock 4, .inBlock 1, .code (c2 (c2 (c1 (c1 (c2 (c1 (c2 (c2 (c2 (c2 (c2 Zaa.B))))))))))), .inLoop (c1 (c1 (c2 (c1 (c2 (c2 (c2 (c2 (c2 Zaa.B))))))))), .inBlock 0, .code (c2 (c2 (c2 (c2 (c2 (c2 Zaa.B))))))], c1 (c2 (c2 (c2 (c2 (c1 (c2 (c2 (c2 (c2 (c1 (c1 (c2 (c1 (c1 (c2 (c1 (c2 (c2 (c2 (c2 (c2 Zaa.B))))))))))))))))))))), fun s_ => [(0, Sl.v a0), (1, .int .i64 a1), (3, Sl.v a3), (9, .pointer r3.1), (12, .pointer (some (pt b8 0))), (13, .int .i64 s9), (17, .int .i64 s_)], fun s_ => [(b8, Zag.enc r7)], (Zaa.F1 a0 a1 a3 r3 r7 b8).f⟩
noncomputable def Zaa.L2 (a3 : Sl) (r7 : Zac) (s9 : Int) (s177 : Int) : M (LS Int (LS Int Bool)) :=
 if s177 < (r7.Ip6.Exts.len : Int) then
  draw >>= fun _ =>
  idx a3.a a3.len s9 1 >>= fun p182 =>
  ld (cI .i64) p182 >>= fun x183 =>
  idx r7.Ip6.Exts.a r7.Ip6.Exts.len s177 3 >>= fun p184 =>
  st (cI .i64) p184 x183 >>= fun _ =>
  pure (LS.next (IntKind.wrap .i64 (s177 + 1)))
 else
  pure (LS.done (LS.next (IntKind.wrap .i64 (s9 + 1))))
theorem Zaa.L2_ok (a0 : Sl) (a1 : Int) (a3 : Sl) (r3 : ((Option Addr) × Int × Int)) (r7 : Zac) (b8 : Nat) (s9 : Int) : LJ Zaa.cx (Zaa.F2 a0 a1 a3 r3 r7 b8 s9) (fun s_ => Zaa.L2 a3 r7 s9 s_) := by
 rintro s177
 show SJ _ _ _ _ (Zaa.L2 a3 r7 s9 s177) _
 unfold Zaa.L2
 refine SJ.seq <| SJ.sr 6 <| J.k 3 0 rfl Ty35 (At.trans (Zbh _) (Zfj _)) <| J.z 2 <| J.f ?_ ?_
 ·exact SJ.skip <| SJ.seq <| SJ.block (id := 5) <| J.R 11 Zcs <| J.k 2 0 rfl Ty35 (At.trans (Zbh _) (Zfj _)) <| J.i 3 fun p182 => J.l 0 Ty3 fun x183 => J.i 0 fun p184 => J.w 1 Ty3 <| J.z 0 <| SJ.inBlock <| SJ.rg 3 <| J.z 3 <| J.o rfl
 exact SJ.exit (id := 4) (by rfl) <| SJ.inBlock <| SJ.rg 3 <| J.z 3 <| J.o rfl
noncomputable def Zaa.K1 (a3 : Sl) (r7 : Zac) (s9 : Int) : M (LS Int Bool) :=
 ZcI (fun s_ : Int => Zaa.L2 a3 r7 s9 s_) 0
theorem Zaa.K1_ok (a0 : Sl) (a1 : Int) (a3 : Sl) (r3 : ((Option Addr) × Int × Int)) (r7 : Zac) (b8 : Nat) (s9 : Int) :
  SJ Zaa.cx [.code (c2 (c2 (c2 (c1 (c2 (c2 (c2 (c2 (c1 (c1 (c2 (c1 (c1 (c2 (c1 (c2 (c2 (c2 (c2 (c2 Zaa.B)))))))))))))))))))), .inBlock 1, .code (c2 (c2 (c1 (c1 (c2 (c1 (c2 (c2 (c2 (c2 (c2 Zaa.B))))))))))), .inLoop (c1 (c1 (c2 (c1 (c2 (c2 (c2 (c2 (c2 Zaa.B))))))))), .inBlock 0, .code (c2 (c2 (c2 (c2 (c2 (c2 Zaa.B))))))] [(0, Sl.v a0), (1, .int .i64 a1), (3, Sl.v a3), (9, .pointer r3.1), (12, .pointer (some (pt b8 0))), (13, .int .i64 s9)] [(b8, Zag.enc r7)] (Zaa.K1 a3 r7 s9) (Zaa.F1 a0 a1 a3 r3 r7 b8).f := by
 unfold Zaa.K1
 exact SJ.sr 1 <| J.z 1 <| SJ.block (id := 4) <| J.L (Zaa.L2_ok a0 a1 a3 r3 r7 b8 s9)
noncomputable def Zaa.K2 (a3 : Sl) (r7 : Zac) (s9 : Int) : M (LS Int Bool) :=
 if (r7.Ip6.Data.len : Int) > 0 then
  draw >>= fun _ =>
  idx a3.a a3.len s9 1 >>= fun p186 =>
  ld (cI .i64) p186 >>= fun x187 =>
  idx a3.a a3.len s9 1 >>= fun p188 =>
  ld (cI .i64) p188 >>= fun x189 =>
  Zc9 x187 (r7.Ip6.Data.len : Int) >>= fun r190 =>
  same (cI .i64) p188 x189 >>= fun _ =>
  idx r7.Ip6.Data.a r7.Ip6.Data.len r190 1 >>= fun p191 =>
  st (cI .u8) p191 (IntKind.wrap .u8 x189) >>= fun _ =>
  Zaa.K1 a3 r7 s9
 else
  Zaa.K1 a3 r7 s9
theorem Zaa.K2_ok (a0 : Sl) (a1 : Int) (a3 : Sl) (r3 : ((Option Addr) × Int × Int)) (r7 : Zac) (b8 : Nat) (s9 : Int) :
  SJ Zaa.cx [.code (c2 (c2 (c1 (c2 (c2 (c2 (c2 (c1 (c1 (c2 (c1 (c1 (c2 (c1 (c2 (c2 (c2 (c2 (c2 Zaa.B))))))))))))))))))), .inBlock 1, .code (c2 (c2 (c1 (c1 (c2 (c1 (c2 (c2 (c2 (c2 (c2 Zaa.B))))))))))), .inLoop (c1 (c1 (c2 (c1 (c2 (c2 (c2 (c2 (c2 Zaa.B))))))))), .inBlock 0, .code (c2 (c2 (c2 (c2 (c2 (c2 Zaa.B))))))] [(0, Sl.v a0), (1, .int .i64 a1), (3, Sl.v a3), (9, .pointer r3.1), (12, .pointer (some (pt b8 0))), (13, .int .i64 s9)] [(b8, Zag.enc r7)] (Zaa.K2 a3 r7 s9) (Zaa.F1 a0 a1 a3 r3 r7 b8).f := by
 unfold Zaa.K2
 refine SJ.seq <| SJ.sr 5 <| J.k 2 0 rfl Ty32 (At.trans (Zbh _) (ZdX _)) <| J.z 2 <| J.f ?_ ?_
 ·exact J.D [0, 1, 2, 3, 4, 5, 6, 7, 8, 9, 10, 12, 13, 14, 15, 11, 16, 17, 18] Zcs <| J.k 2 0 rfl Ty32 (At.trans (Zbh _) (ZdX _)) <| J.i 2 fun p186 => J.l 0 Ty3 fun x187 => J.k 2 0 rfl Ty32 (At.trans (Zbh _) (ZdX _)) <| J.i 3 fun p188 => J.l 0 Ty3 fun x189 => OJ.call (d := 116) (g := 12) (ats := #[3, 3]) (args := [.tmp 111, .tmp 115]) (owed := [⟨15, 3, p188, (cI .i64).val x189⟩, ⟨2, 32, (pt b8 147), cL.val r7.Ip6.Data⟩]) F12 (ZgS x187 (r7.Ip6.Data.len : Int)) fun r190 => OW.same Ty3 <| OW.known (j := 0) (q := r7.Ip6.Data) Ty32 rfl (At.trans (Zbh r7) (ZdX r7.Ip6)) <| OW.nil <| J.i 1 fun p191 => J.w 0 Ty5 <| J.z 0 <| J.q <| Zaa.K1_ok a0 a1 a3 r3 r7 b8 s9
 exact SJ.skip <| J.q <| Zaa.K1_ok a0 a1 a3 r3 r7 b8 s9
noncomputable def Zaa.K3 (a3 : Sl) (r7 : Zac) (s9 : Int) : M (LS Int Bool) :=
 if (r7.Ip4.Data.len : Int) > 0 then
  draw >>= fun _ =>
  idx a3.a a3.len s9 1 >>= fun p193 =>
  ld (cI .i64) p193 >>= fun x194 =>
  idx a3.a a3.len s9 1 >>= fun p195 =>
  ld (cI .i64) p195 >>= fun x196 =>
  Zc9 x194 (r7.Ip4.Data.len : Int) >>= fun r197 =>
  same (cI .i64) p195 x196 >>= fun _ =>
  idx r7.Ip4.Data.a r7.Ip4.Data.len r197 1 >>= fun p198 =>
  st (cI .u8) p198 (IntKind.wrap .u8 x196) >>= fun _ =>
  Zaa.K2 a3 r7 s9
 else
  Zaa.K2 a3 r7 s9
theorem Zaa.K3_ok (a0 : Sl) (a1 : Int) (a3 : Sl) (r3 : ((Option Addr) × Int × Int)) (r7 : Zac) (b8 : Nat) (s9 : Int) :
  SJ Zaa.cx [.code (c2 (c1 (c2 (c2 (c2 (c2 (c1 (c1 (c2 (c1 (c1 (c2 (c1 (c2 (c2 (c2 (c2 (c2 Zaa.B)))))))))))))))))), .inBlock 1, .code (c2 (c2 (c1 (c1 (c2 (c1 (c2 (c2 (c2 (c2 (c2 Zaa.B))))))))))), .inLoop (c1 (c1 (c2 (c1 (c2 (c2 (c2 (c2 (c2 Zaa.B))))))))), .inBlock 0, .code (c2 (c2 (c2 (c2 (c2 (c2 Zaa.B))))))] [(0, Sl.v a0), (1, .int .i64 a1), (3, Sl.v a3), (9, .pointer r3.1), (12, .pointer (some (pt b8 0))), (13, .int .i64 s9)] [(b8, Zag.enc r7)] (Zaa.K3 a3 r7 s9) (Zaa.F1 a0 a1 a3 r3 r7 b8).f := by
 unfold Zaa.K3
 refine SJ.seq <| SJ.sr 5 <| J.k 2 0 rfl Ty32 (At.trans (Za4 _) (ZdY _)) <| J.z 2 <| J.f ?_ ?_
 ·exact J.D [0, 1, 2, 3, 4, 5, 6, 7, 8, 9, 10, 12, 13, 14, 15, 11, 16, 17, 18] Zcs <| J.k 2 0 rfl Ty32 (At.trans (Za4 _) (ZdY _)) <| J.i 2 fun p193 => J.l 0 Ty3 fun x194 => J.k 2 0 rfl Ty32 (At.trans (Za4 _) (ZdY _)) <| J.i 3 fun p195 => J.l 0 Ty3 fun x196 => OJ.call (d := 93) (g := 12) (ats := #[3, 3]) (args := [.tmp 88, .tmp 92]) (owed := [⟨15, 3, p195, (cI .i64).val x196⟩, ⟨2, 32, (pt b8 103), cL.val r7.Ip4.Data⟩]) F12 (ZgS x194 (r7.Ip4.Data.len : Int)) fun r197 => OW.same Ty3 <| OW.known (j := 0) (q := r7.Ip4.Data) Ty32 rfl (At.trans (Za4 r7) (ZdY r7.Ip4)) <| OW.nil <| J.i 1 fun p198 => J.w 0 Ty5 <| J.z 0 <| J.q <| Zaa.K2_ok a0 a1 a3 r3 r7 b8 s9
 exact SJ.skip <| J.q <| Zaa.K2_ok a0 a1 a3 r3 r7 b8 s9
noncomputable def Zaa.F3 (a0 : Sl) (a1 : Int) (a3 : Sl) (r3 : ((Option Addr) × Int × Int)) (r7 : Zac) (b8 : Nat) (s9 : Int) : LF Int (LS Int Bool) := ⟨[.inBlock 2, .code (c2 (c1 (c2 (c2 (c2 (c2 (c1 (c1 (c2 (c1 (c1 (c2 (c1 (c2 (c2 (c2 (c2 (c2 Zaa.B)))))))))))))))))), .inBlock 1, .code (c2 (c2 (c1 (c1 (c2 (c1 (c2 (c2 (c2 (c2 (c2 Zaa.B))))))))))), .inLoop (c1 (c1 (c2 (c1 (c2 (c2 (c2 (c2 (c2 Zaa.B))))))))), .inBlock 0, .code (c2 (c2 (c2 (c2 (c2 (c2 Zaa.B))))))], c1 (c2 (c1 (c1 (c2 (c2 (c2 (c2 (c1 (c1 (c2 (c1 (c1 (c2 (c1 (c2 (c2 (c2 (c2 (c2 Zaa.B))))))))))))))))))), fun s_ => [(0, Sl.v a0), (1, .int .i64 a1), (3, Sl.v a3), (9, .pointer r3.1), (12, .pointer (some (pt b8 0))), (13, .int .i64 s9), (16, .int .i64 s_)], fun s_ => [(b8, Zag.enc r7)], (Zaa.F1 a0 a1 a3 r3 r7 b8).f⟩
noncomputable def Zaa.L3 (a3 : Sl) (r7 : Zac) (s9 : Int) (s160 : Int) : M (LS Int (LS Int Bool)) :=
 if s160 < (r7.Tags.len : Int) then
  draw >>= fun _ =>
  idx a3.a a3.len s9 1 >>= fun p200 =>
  ld (cI .i64) p200 >>= fun x201 =>
  idx r7.Tags.a r7.Tags.len s160 4 >>= fun p202 =>
  st (cI .i64) (Addr.add p202 3) x201 >>= fun _ =>
  pure (LS.next (IntKind.wrap .i64 (s160 + 1)))
 else
  (Zaa.K3 a3 r7 s9) >>= fun b => pure (LS.done b)
theorem Zaa.L3_ok (a0 : Sl) (a1 : Int) (a3 : Sl) (r3 : ((Option Addr) × Int × Int)) (r7 : Zac) (b8 : Nat) (s9 : Int) : LJ Zaa.cx (Zaa.F3 a0 a1 a3 r3 r7 b8 s9) (fun s_ => Zaa.L3 a3 r7 s9 s_) := by
 rintro s160
 show SJ _ _ _ _ (Zaa.L3 a3 r7 s9 s160) _
 unfold Zaa.L3
 refine SJ.seq <| SJ.sr 5 <| J.k 2 0 rfl Ty25 (Zcl _) <| J.z 2 <| J.f ?_ ?_
 ·exact SJ.skip <| SJ.seq <| SJ.block (id := 3) <| J.R 10 Zcs <| J.k 1 0 rfl Ty25 (Zcl _) <| J.i 3 fun p200 => J.l 0 Ty3 fun x201 => J.i 0 fun p202 => J.w 1 Ty3 <| J.z 0 <| SJ.inBlock <| SJ.rg 3 <| J.z 3 <| J.o rfl
 exact SJ.exit (id := 2) (by rfl) <| J.q <| SJ.done <| Zaa.K3_ok a0 a1 a3 r3 r7 b8 s9
noncomputable def Zaa.L1 (a0 : Sl) (a1 : Int) (a3 : Sl) (r3 : ((Option Addr) × Int × Int)) (r7 : Zac) (s9 : Int) : M (LS Int Bool) :=
 if s9 ≤ (a3.len : Int) then
  Zdn r7 >>= fun r109 =>
  slot 47 >>= fun b110 =>
  Za9 r3.1 a1 r7 >>= fun r111 =>
  slot 58 >>= fun b112 =>
  draw >>= fun _ =>
  Za8 a0 a1 r109 >>= fun r113 =>
  (if ¬ (r111 = r113) then
    pure true
   else
    Zeh r7 r109 >>= fun r114 =>
    pure (!r114)) >>= fun y115 =>
  if y115 = true then
   pure (LS.done false)
  else
   if s9 < (a3.len : Int) then
    ZcI (fun s_ : Int => Zaa.L3 a3 r7 s9 s_) 0
   else
    pure (LS.next (IntKind.wrap .i64 (s9 + 1)))
 else
  Zcu >>= fun r206 =>
  pure (LS.done r206)
theorem Zaa.L1_ok (a0 : Sl) (a1 : Int) (a3 : Sl) (r3 : ((Option Addr) × Int × Int)) (r7 : Zac) (b8 : Nat) : LJ Zaa.cx (Zaa.F1 a0 a1 a3 r3 r7 b8) (fun s_ => Zaa.L1 a0 a1 a3 r3 r7 s_) := by
 rintro s9
 show SJ _ _ _ _ (Zaa.L1 a0 a1 a3 r3 r7 s9) _
 unfold Zaa.L1
 refine SJ.seq <| SJ.sr 4 <| J.z 4 <| J.f ?_ ?_
 ·refine SJ.skip <| SJ.seq <| SJ.block (id := 1) <| SJ.sr 4 <| J.k 0 0 rfl Ty47 (At.whole _) <| J.C 0 F8 (Zhb _) fun r109 => J.a 0 Ty47 fun b110 => J.s 0 0 rfl Ty47 (Upd.w r109) <| J.z 0 <| SJ.sr 6 <| J.k 2 1 rfl Ty47 (At.whole _) <| J.C 0 F9 (Zkm _ _ _) fun r111 => J.a 0 Ty58 fun b112 => J.s 0 0 rfl Ty58 (Upd.w r111) <| J.z 0 <| SJ.seq <| SJ.seq <| J.R 12 Zcs <| J.k 0 0 rfl Ty58 (At.whole _) <| J.k 2 1 rfl Ty47 (At.whole _) <| OJ.call (d := 49) (g := 10) (ats := #[22, 3, 47]) (args := [.tmp 46, .tmp 47, .tmp 48]) (owed := [⟨0, 58, (pt b112 0), Zb1.val r111⟩]) F10 (Zke a0 a1 r109) fun r113 => OW.known (j := 0) (q := r111) Ty58 rfl (At.whole _) <| OW.nil <| OJ.neq (d := 50) (T := 58) (yT := 58) (y := .tmp 45) (z := .tmp 49) (cd := Zb1) (p := r111) (q := r113) rfl Eq58 <| J.j 1 4 .bool ?_ ?_ fun y115 => ?_
  ·exact J.e 5
  ·exact J.k 0 2 rfl Ty47 (At.whole _) <| J.k 0 1 rfl Ty47 (At.whole _) <| J.C 0 F11 (ZkY _ _) fun r114 => J.e 2
  refine J.z 0 <| J.f ?_ ?_
  ·exact SJ.sr 1 <| J.z 1 <| J.r
  refine SJ.skip <| SJ.sr 4 <| J.z 4 <| J.f ?_ ?_
  ·exact SJ.seq <| SJ.sr 1 <| J.z 1 <| SJ.block (id := 2) <| SJ.forget (List.Sublist.cons _ (List.Sublist.cons _ (List.Sublist.cons_cons _ List.Sublist.slnil))) <| J.L (Zaa.L3_ok a0 a1 a3 r3 r7 b8 s9)
  exact SJ.skip <| SJ.inBlock <| SJ.rg 3 <| J.z 3 <| SJ.forget (List.Sublist.cons _ (List.Sublist.cons _ (List.Sublist.cons_cons _ List.Sublist.slnil))) <| J.o rfl
 exact SJ.exit (id := 0) (by rfl) <| SJ.sr 2 <| J.C 0 F7 ZgC fun r206 => J.z 1 <| J.r
noncomputable def Zaa (a0 : Sl) (a1 : Int) (a2 : Zac) (a3 : Sl) : M Bool :=
 slot 47 >>= fun b1 =>
 ZaU a0 >>= fun r2 =>
 Zcc r2 >>= fun r3 =>
 Zdk r3.2.1 >>= fun r4 =>
 if r4 ≠ 0 then
  Zcu >>= fun r6 =>
  pure r6
 else
  if r3.1 = none then
   pure false
  else
   Zdn a2 >>= fun r7 =>
   slot 47 >>= fun b8 =>
   ZcI (fun s_ : Int => Zaa.L1 a0 a1 a3 r3 r7 s_) 0
theorem Zis (a0 : Sl) (a1 : Int) (a2 : Zac) (a3 : Sl) : Ref Tryz.prog 3 [Sl.v a0, .int .i64 a1, Zag.val a2, Sl.v a3] (Zaa a0 a1 a2 a3) Zaa.out := by
 refine J.Fn Tryz.func3 ?_
 unfold Zaa
 refine SJ.sr 2 <| J.b 0 Zag a2 fun b1 => J.z 1 <| SJ.sr 10 <| J.C 1 F5 (ZiA _) fun r2 => J.C 0 F4 (ZoO _) fun r3 => J.z 7 <| SJ.seq <| SJ.sr 3 <| J.C 1 F6 (ZfA _) fun r4 => J.z 1 <| J.f ?_ ?_
 ·exact SJ.sr 2 <| J.C 0 F7 ZgC fun r6 => J.z 1 <| J.r
 refine SJ.skip <| SJ.seq <| SJ.sr 2 <| J.z 2 <| J.f ?_ ?_
 ·exact SJ.sr 1 <| J.z 1 <| J.r
 exact SJ.skip <| SJ.sr 4 <| J.k 0 0 rfl Ty47 (At.whole _) <| J.C 0 F8 (Zhb _) fun r7 => J.a 0 Ty47 fun b8 => J.s 0 0 rfl Ty47 (Upd.w r7) <| J.z 0 <| SJ.seq <| SJ.sr 1 <| J.z 1 <| SJ.block (id := 0) <| SJ.forget (List.Sublist.cons_cons _ (List.Sublist.cons _ List.Sublist.slnil)) <| J.L (Zaa.L1_ok a0 a1 a3 r3 r7 b8)
end Go.Proofs.YtobemldccnnblaaGreatDoor.Lx
