/- Programs of the M-world for Go functions, each with the proof that the Go text does what it says. Printed by lxgen.py. -/
import Derived.Test.YtddmmgcfanpmmaaDoorLxT
import Derived.Test.YtddmmgcfanpmmaaDoorLxP0
import Derived.Test.YtddmmgcfanpmmaaDoorLxP1
import Derived.Test.YtddmmgcfanpmmaaDoorLxP2
set_option linter.unusedVariables false
set_option linter.unusedSimpArgs false
namespace Go.Proofs.YtddmmgcfanpmmaaDoor.Lx
open Go Go.Proofs
/-! ### weir/weirlaw4.AddrForms: function 3 -/
noncomputable def weirlaw4_AddrForms.B : Code := (Tryd.f3.body).getD .skip
noncomputable def weirlaw4_AddrForms.cx : Fx := ⟨Tryd.prog, 3, Tryd.f3⟩
noncomputable def weirlaw4_AddrForms.out (r_ : Bool) : Value := .bool r_
noncomputable def weirlaw4_AddrForms.F0 (r_ : Bool) : Reach := .ret (weirlaw4_AddrForms.out r_)
noncomputable def weirlaw4_AddrForms.K1 (a0 : (Vec Int 16)) (j43 : ByteArray) : M Bool :=
  addr_ParseIP j43 >>= fun r44 =>
  slot 27 >>= fun b45 =>
  weirlaw4_started >>= fun r46 =>
  (if r46 = true then
      weirlaw4_num r44.2.1 >>= fun r47 =>
      pure (r47 == 0)
    else
      pure false) >>= fun y48 =>
  (if y48 = true then
      pure (r44.2.2 == 0)
    else
      pure false) >>= fun y49 =>
  (if y49 = true then
      pure (eqv r44.1 (⟨6, a0⟩ : api_IP))
    else
      pure false) >>= fun y50 =>
  pure y50
theorem weirlaw4_AddrForms.K1_ok (a0 : (Vec Int 16)) (b1 : Nat) (j43 : ByteArray) :
    SJ weirlaw4_AddrForms.cx [.code (c2 (c2 (c2 (c2 (c2 (c2 (c2 (c2 weirlaw4_AddrForms.B))))))))] [(5, .pointer (some (pt b1 0))), (13, .string j43)] [(b1, ((cI .u8).arr 16).enc a0)] (weirlaw4_AddrForms.K1 a0 j43) weirlaw4_AddrForms.F0 := by
  unfold weirlaw4_AddrForms.K1
  refine SJ.sr 10 ?_
  refine OJ.go 1 [(124, .string j43)] ?_
  refine OJ.call (d := 125) (g := 10) (ats := #[9]) (args := [.tmp 124]) (owed := []) F10 (addr_ParseIP_ok j43) (fun r44 => ?_)
  refine OW.nil ?_
  refine OJ.go 4 [(128, .int .i64 r44.2.2), (127, .int .i64 r44.2.1), (126, c_api_IP.val r44.1), (123, .tuple #[c_api_IP.val r44.1, .int .i64 r44.2.1, .int .i64 r44.2.2])] ?_
  refine OJ.slotOf (d := 16) (op := (.alloc 27)) (cd := c_api_IP) (u := z_api_IP) (owed := []) (alloc_run Ty27) (fun b45 => ?_)
  refine OW.nil ?_
  refine OJ.kst (y := .tmp 16) (z := .tmp 126) (cd := c_api_IP) (u := r44.1) (j := 0) (b := b45) (o := 0) (c_api_IP.enc r44.1) (owed := []) Ty27 rfl (Upd.whole ((Cod.len _ _).trans (Cod.len _ _).symm)) rfl ?_
  refine OW.nil ?_
  refine OJ.go 2 [(18, .int .i64 r44.2.2), (17, .int .i64 r44.2.1)] ?_
  refine OJ.nil ?_
  refine SJ.sr 17 ?_
  refine OJ.call (d := 129) (g := 11) (ats := #[]) (args := []) (owed := []) F11 (weirlaw4_started_ok ) (fun r46 => ?_)
  refine OW.nil ?_
  refine OJ.go 1 [(130, .bool r46)] ?_
  refine OJ.join (b := r46) [2, 3, 4, 5] [6, 7, 8, 9, 10, 11, 12, 13, 14, 15, 16] [5, 16, 18, 134] (fun y48 => [(5, .pointer (some (pt b1 0))), (16, .pointer (some (pt b45 0))), (18, .int .i64 r44.2.2), (134, .bool y48)]) [] [] (t := 130) Iff.rfl (fun hp_ => ?_) (fun hp_ => ?_) (fun _ _ _ _ _ _ h_ => h_) (fun y48 => ?_)
  · refine OJ.go 1 [(131, .int .i64 r44.2.1)] ?_
    refine OJ.call (d := 132) (g := 12) (ats := #[28]) (args := [.tmp 131]) (owed := []) F12 (weirlaw4_num_ok r44.2.1) (fun r47 => ?_)
    refine OW.nil ?_
    refine OJ.go 2 [(134, .bool (r47 == 0)), (133, .bool (r47 == 0))] ?_
    exact OJ.nil ⟨(Cov.mem Cov.nil), rfl, _, rfl, by kernel_rfl⟩
  · refine OJ.go 4 [(134, .bool false), (133, undef), (132, undef), (131, undef)] ?_
    exact OJ.nil ⟨(Cov.mem Cov.nil), rfl, _, rfl, by kernel_rfl⟩
  · refine OJ.go 1 [(135, .bool y48)] ?_
    refine OJ.join (b := y48) [7, 8, 9] [10, 11, 12, 13, 14, 15, 16] [5, 16, 138] (fun y49 => [(5, .pointer (some (pt b1 0))), (16, .pointer (some (pt b45 0))), (138, .bool y49)]) [] [] (t := 135) Iff.rfl (fun hp_ => ?_) (fun hp_ => ?_) (fun _ _ _ _ _ _ h_ => h_) (fun y49 => ?_)
    · refine OJ.go 3 [(138, .bool (r44.2.2 == 0)), (137, .bool (r44.2.2 == 0)), (136, .int .i64 r44.2.2)] ?_
      exact OJ.nil ⟨(Cov.mem Cov.nil), rfl, _, rfl, by kernel_rfl⟩
    · refine OJ.go 3 [(138, .bool false), (137, undef), (136, undef)] ?_
      exact OJ.nil ⟨(Cov.mem Cov.nil), rfl, _, rfl, by kernel_rfl⟩
    · refine OJ.go 1 [(139, .bool y49)] ?_
      refine OJ.join (b := y49) [11, 12, 13, 14, 15] [16] [144] (fun y50 => [(144, .bool y50)]) [] [] (t := 139) Iff.rfl (fun hp_ => ?_) (fun hp_ => ?_) (fun _ _ _ _ _ _ h_ => h_) (fun y50 => ?_)
      · refine OJ.kld (d := 140) (y := .tmp 16) (cd := c_api_IP) (j := 0) (b := b45) (o := 0) r44.1 (pend2 := []) Ty27 rfl (At.whole _) rfl ?_
        refine OJ.kld (d := 141) (y := .tmp 5) (cd := ((cI .u8).arr 16)) (j := 1) (b := b1) (o := 0) a0 (pend2 := []) Ty22 rfl (At.whole _) rfl ?_
        refine OJ.build (d := 142) (T := 27) (parts := [(0, .const (.int .i64 6)), (1, .tmp 141)]) (ps := [(0, (cI .i64).val 6), (1, ((cI .u8).arr 16).val a0)]) (cd := c_api_IP) (z0 := z_api_IP) (⟨6, a0⟩ : api_IP) Ty27 rfl (Filled.cons (cd := (cI .i64)) (q := 6) (o := 0) (by kernel_rfl) (Up_api_IP_V z_api_IP 6) (Filled.cons (cd := ((cI .u8).arr 16)) (q := a0) (o := 1) (by kernel_rfl) (Up_api_IP_A (⟨6, z_api_IP.A⟩ : api_IP) a0) Filled.nil)) ?_
        refine OJ.eql (d := 143) (T := 27) (yT := 27) (y := .tmp 140) (z := .tmp 142) (cd := c_api_IP) (p := r44.1) (q := (⟨6, a0⟩ : api_IP)) rfl Eq27 ?_
        refine OJ.go 1 [(144, .bool (eqv r44.1 (⟨6, a0⟩ : api_IP)))] ?_
        exact OJ.nil ⟨(Cov.mem Cov.nil), rfl, _, rfl, by kernel_rfl⟩
      · refine OJ.go 5 [(144, .bool false), (143, undef), (142, undef), (141, undef), (140, undef)] ?_
        exact OJ.nil ⟨(Cov.mem Cov.nil), rfl, _, rfl, by kernel_rfl⟩
      · refine OJ.go 1 [(10, .bool y50)] ?_
        refine OJ.nil ?_
        exact SJ.ret rfl (Res.run (ys := [.bool y50]) (.tmp (by kernel_rfl) .nil) rfl)
noncomputable def weirlaw4_AddrForms.K2 (a0 : (Vec Int 16)) (j52 : ByteArray) : M Bool :=
  weirlaw4_dots a0 12 >>= fun r53 =>
  chk (((j52.size + r53.size : Nat) : Int) ≤ 9223372036854775807) >>= fun _ =>
  weirlaw4_AddrForms.K1 a0 (j52 ++ r53)
theorem weirlaw4_AddrForms.K2_ok (a0 : (Vec Int 16)) (b1 : Nat) (j52 : ByteArray) :
    SJ weirlaw4_AddrForms.cx [.code (c2 (c1 (c2 (c1 (c2 (c2 (c2 (c2 (c2 (c2 (c2 weirlaw4_AddrForms.B))))))))))), .code (c2 (c2 (c2 (c2 (c2 (c2 (c2 (c2 weirlaw4_AddrForms.B))))))))] [(5, .pointer (some (pt b1 0))), (13, .string j52)] [(b1, ((cI .u8).arr 16).enc a0)] (weirlaw4_AddrForms.K2 a0 j52) weirlaw4_AddrForms.F0 := by
  unfold weirlaw4_AddrForms.K2
  refine SJ.rg 5 ?_
  refine OJ.go 1 [(119, .string j52)] ?_
  refine OJ.kld (d := 120) (y := .tmp 5) (cd := ((cI .u8).arr 16)) (j := 0) (b := b1) (o := 0) a0 (pend2 := []) Ty22 rfl (At.whole _) rfl ?_
  refine OJ.call (d := 121) (g := 9) (ats := #[22, 3]) (args := [.tmp 120, .const (.int .i64 12)]) (owed := []) F9 (weirlaw4_dots_ok a0 12) (fun r53 => ?_)
  refine OW.nil ?_
  refine OJ.cat (d := 122) (T := 9) (yT := 9) (y := .tmp 119) (z := .tmp 121) (p := j52) (q := r53) ?_
  refine OJ.go 1 [(13, .string (j52 ++ r53))] ?_
  refine OJ.nil ?_
  refine SJ.less [5, 13] (m' := [(5, .pointer (some (pt b1 0))), (13, .string (j52 ++ r53))]) ?_
  exact weirlaw4_AddrForms.K1_ok a0 b1 (j52 ++ r53)
noncomputable def weirlaw4_AddrForms.K3 (a0 : (Vec Int 16)) (a4 : Bool) (j2 : Int) (s7 : Int) (s8 : Int) (s17 : ByteArray) : M Bool :=
  if a4 = true then
    (if s8 ≠ j2 then
        pure true
      else
        pure (s7 == s8)) >>= fun y51 =>
    if y51 = true then
      chk (((s17.size + str4.size : Nat) : Int) ≤ 9223372036854775807) >>= fun _ =>
      weirlaw4_AddrForms.K2 a0 (s17 ++ str4)
    else
      weirlaw4_AddrForms.K2 a0 s17
  else
    weirlaw4_AddrForms.K1 a0 s17
theorem weirlaw4_AddrForms.K3_ok (a0 : (Vec Int 16)) (a4 : Bool) (b1 : Nat) (j2 : Int) (s7 : Int) (s8 : Int) (s17 : ByteArray) :
    SJ weirlaw4_AddrForms.cx [.code (c2 (c2 (c2 (c2 (c2 (c2 (c2 weirlaw4_AddrForms.B)))))))] [(2, .int .i64 s7), (4, .bool a4), (5, .pointer (some (pt b1 0))), (11, .int .i64 j2), (3, .int .i64 s8), (13, .string s17)] [(b1, ((cI .u8).arr 16).enc a0)] (weirlaw4_AddrForms.K3 a0 a4 j2 s7 s8 s17) weirlaw4_AddrForms.F0 := by
  unfold weirlaw4_AddrForms.K3
  refine SJ.seq ?_
  refine SJ.sr 1 ?_
  refine OJ.go 1 [(108, .bool a4)] ?_
  refine OJ.nil ?_
  refine SJ.cond (t := (.tmp 108)) (b := a4) Iff.rfl (fun hc55 => ?_) (fun hc55 => ?_)
  · refine SJ.seq ?_
    refine SJ.sr 8 ?_
    refine OJ.go 4 [(112, .bool (s8 != j2)), (111, .bool (s8 != j2)), (110, .int .i64 j2), (109, .int .i64 s8)] ?_
    refine OJ.join (b := (s8 != j2)) [4, 5, 6, 7] [] [5, 13, 116] (fun y51 => [(5, .pointer (some (pt b1 0))), (13, .string s17), (116, .bool y51)]) [] [] (t := 112) bne_iff_ne (fun hp_ => ?_) (fun hp_ => ?_) (fun _ _ _ _ _ _ h_ => h_) (fun y51 => ?_)
    · refine OJ.go 4 [(116, .bool true), (115, undef), (114, undef), (113, undef)] ?_
      exact OJ.nil ⟨(Cov.mem Cov.nil), rfl, _, rfl, by kernel_rfl⟩
    · refine OJ.go 4 [(116, .bool (s7 == s8)), (115, .bool (s7 == s8)), (114, .int .i64 s8), (113, .int .i64 s7)] ?_
      exact OJ.nil ⟨(Cov.mem Cov.nil), rfl, _, rfl, by kernel_rfl⟩
    · refine OJ.nil ?_
      refine SJ.cond (t := (.tmp 116)) (b := y51) Iff.rfl (fun hc54 => ?_) (fun hc54 => ?_)
      · refine SJ.rg 3 ?_
        refine OJ.go 1 [(117, .string s17)] ?_
        refine OJ.cat (d := 118) (T := 9) (yT := 9) (y := .tmp 117) (z := .const (.string str4)) (p := s17) (q := str4) ?_
        refine OJ.go 1 [(13, .string (s17 ++ str4))] ?_
        refine OJ.nil ?_
        refine SJ.less [5, 13] (m' := [(5, .pointer (some (pt b1 0))), (13, .string (s17 ++ str4))]) ?_
        exact weirlaw4_AddrForms.K2_ok a0 b1 (s17 ++ str4)
      · refine SJ.skip ?_
        refine SJ.less [5, 13] (m' := [(5, .pointer (some (pt b1 0))), (13, .string s17)]) ?_
        exact weirlaw4_AddrForms.K2_ok a0 b1 s17
  · refine SJ.skip ?_
    refine SJ.less [5, 13] (m' := [(5, .pointer (some (pt b1 0))), (13, .string s17)]) ?_
    exact weirlaw4_AddrForms.K1_ok a0 b1 s17
noncomputable def weirlaw4_AddrForms.F1 (a0 : (Vec Int 16)) (a1 : Sl) (a4 : Bool) (b1 : Nat) (j2 : Int) (s7 : Int) (s8 : Int) : (LS (ByteArray × Int) Bool) → Reach := loopF [.inLoop (c1 (c1 (c2 (c1 (c2 (c2 (c2 (c2 (c2 (c2 weirlaw4_AddrForms.B)))))))))), .inBlock 2, .code (c2 (c2 (c2 (c2 (c2 (c2 (c2 weirlaw4_AddrForms.B)))))))] (fun s_ : (ByteArray × Int) => [(1, Sl.v a1), (2, .int .i64 s7), (4, .bool a4), (5, .pointer (some (pt b1 0))), (11, .int .i64 j2), (3, .int .i64 s8), (13, .string s_.1), (14, .int .i64 s_.2)]) (fun s_ : (ByteArray × Int) => [(b1, ((cI .u8).arr 16).enc a0)]) weirlaw4_AddrForms.F0
noncomputable def weirlaw4_AddrForms.K4 (a0 : (Vec Int 16)) (s18 : Int) (j60 : ByteArray) (j63 : Int) : M (LS (ByteArray × Int) Bool) :=
  draw >>= fun _ =>
  chk ((0 : Int) ≤ (IntKind.wrap .i64 (2 * s18)) ∧ (IntKind.wrap .i64 (2 * s18)) < (16 : Nat)) >>= fun _ =>
  chk ((0 : Int) ≤ (IntKind.wrap .i64 ((IntKind.wrap .i64 (2 * s18)) + 1)) ∧ (IntKind.wrap .i64 ((IntKind.wrap .i64 (2 * s18)) + 1)) < (16 : Nat)) >>= fun _ =>
  weirlaw4_written (Vec.g a0 (IntKind.wrap .i64 (2 * s18)) 0) (Vec.g a0 (IntKind.wrap .i64 ((IntKind.wrap .i64 (2 * s18)) + 1)) 0) j63 >>= fun r68 =>
  chk (((j60.size + r68.size : Nat) : Int) ≤ 9223372036854775807) >>= fun _ =>
  pure (LS.next ((j60 ++ r68), IntKind.wrap .i64 (s18 + 1)))
theorem weirlaw4_AddrForms.K4_ok (a0 : (Vec Int 16)) (a1 : Sl) (a4 : Bool) (b1 : Nat) (j2 : Int) (s7 : Int) (s8 : Int) (s18 : Int) (j60 : ByteArray) (j63 : Int) :
    SJ weirlaw4_AddrForms.cx [.code (c2 (c2 (c2 (c2 (c2 (c1 (c1 (c2 (c1 (c1 (c2 (c1 (c2 (c2 (c2 (c2 (c2 (c2 weirlaw4_AddrForms.B)))))))))))))))))), .inBlock 3, .code (c2 (c2 (c1 (c1 (c2 (c1 (c2 (c2 (c2 (c2 (c2 (c2 weirlaw4_AddrForms.B)))))))))))), .inLoop (c1 (c1 (c2 (c1 (c2 (c2 (c2 (c2 (c2 (c2 weirlaw4_AddrForms.B)))))))))), .inBlock 2, .code (c2 (c2 (c2 (c2 (c2 (c2 (c2 weirlaw4_AddrForms.B)))))))] [(1, Sl.v a1), (2, .int .i64 s7), (4, .bool a4), (5, .pointer (some (pt b1 0))), (11, .int .i64 j2), (3, .int .i64 s8), (13, .string j60), (14, .int .i64 s18), (15, .int .i64 j63)] [(b1, ((cI .u8).arr 16).enc a0)] (weirlaw4_AddrForms.K4 a0 s18 j60 j63) (weirlaw4_AddrForms.F1 a0 a1 a4 b1 j2 s7 s8) := by
  unfold weirlaw4_AddrForms.K4
  refine SJ.draw (id := 25) (kd := [0, 0, 0, 0, 1, 0, 0, 0, 0, 1, 0, 2, 0, 0]) (bef := [0, 0, 2, 6, 14, 0, 32, 96, 224, 480, 0, 2046, 4095, 8191]) (ord := [0, 1, 2, 3, 4, 5, 6, 7, 8, 9, 10, 11, 12, 13]) mixed ?_
  refine OJ.go 3 [(97, .int .i64 (IntKind.wrap .i64 (2 * s18))), (96, .int .i64 s18), (95, .string j60)] ?_
  refine OJ.idxK (d := 98) (T := 22) (y := .tmp 5) (j := .tmp 97) (E := 5) (sz := 1) (b := b1) (o := 0) (k := .i64) (fun hb64 hb65 => ?_)
  refine OJ.kld (d := 99) (y := .tmp 98) (cd := (cI .u8)) (j := 0) (b := b1) (o := (0 + (IntKind.wrap .i64 (2 * s18)).toNat * 1)) (Vec.g a0 (IntKind.wrap .i64 (2 * s18)) 0) (pend2 := [⟨4, 5, (pt b1 (0 + (IntKind.wrap .i64 (2 * s18)).toNat * 1)), (cI .u8).val (Vec.g a0 (IntKind.wrap .i64 (2 * s18)) 0)⟩]) Ty5 rfl (At.zero (At.arr (z := 0) hb64 hb65)) rfl ?_
  refine OJ.go 3 [(102, .int .i64 (IntKind.wrap .i64 ((IntKind.wrap .i64 (2 * s18)) + 1))), (101, .int .i64 (IntKind.wrap .i64 (2 * s18))), (100, .int .i64 s18)] ?_
  refine OJ.idxK (d := 103) (T := 22) (y := .tmp 5) (j := .tmp 102) (E := 5) (sz := 1) (b := b1) (o := 0) (k := .i64) (fun hb66 hb67 => ?_)
  refine OJ.kld (d := 104) (y := .tmp 103) (cd := (cI .u8)) (j := 0) (b := b1) (o := (0 + (IntKind.wrap .i64 ((IntKind.wrap .i64 (2 * s18)) + 1)).toNat * 1)) (Vec.g a0 (IntKind.wrap .i64 ((IntKind.wrap .i64 (2 * s18)) + 1)) 0) (pend2 := [⟨9, 5, (pt b1 (0 + (IntKind.wrap .i64 ((IntKind.wrap .i64 (2 * s18)) + 1)).toNat * 1)), (cI .u8).val (Vec.g a0 (IntKind.wrap .i64 ((IntKind.wrap .i64 (2 * s18)) + 1)) 0)⟩, ⟨4, 5, (pt b1 (0 + (IntKind.wrap .i64 (2 * s18)).toNat * 1)), (cI .u8).val (Vec.g a0 (IntKind.wrap .i64 (2 * s18)) 0)⟩]) Ty5 rfl (At.zero (At.arr (z := 0) hb66 hb67)) rfl ?_
  refine OJ.go 1 [(105, .int .i64 j63)] ?_
  refine OJ.call (d := 106) (g := 8) (ats := #[5, 5, 3]) (args := [.tmp 99, .tmp 104, .tmp 105]) (owed := []) F8 (weirlaw4_written_ok (Vec.g a0 (IntKind.wrap .i64 (2 * s18)) 0) (Vec.g a0 (IntKind.wrap .i64 ((IntKind.wrap .i64 (2 * s18)) + 1)) 0) j63) (fun r68 => ?_)
  refine OW.nil ?_
  refine OJ.cat (d := 107) (T := 9) (yT := 9) (y := .tmp 95) (z := .tmp 106) (p := j60) (q := r68) ?_
  refine OJ.go 1 [(13, .string (j60 ++ r68))] ?_
  refine OJ.nil ?_
  refine SJ.inBlock ?_
  refine SJ.rg 3 ?_
  refine OJ.go 3 [(14, .int .i64 (IntKind.wrap .i64 (s18 + 1))), (59, .int .i64 (IntKind.wrap .i64 (s18 + 1))), (58, .int .i64 s18)] ?_
  refine OJ.nil ?_
  exact SJ.at_ [1, 2, 4, 5, 11, 3, 13, 14] rfl
noncomputable def weirlaw4_AddrForms.K5 (a0 : (Vec Int 16)) (a1 : Sl) (s18 : Int) (j60 : ByteArray) : M (LS (ByteArray × Int) Bool) :=
  if s18 < (a1.len : Int) then
    idx a1.a a1.len s18 1 >>= fun p69 =>
    ld (cI .i64) p69 >>= fun x70 =>
    weirlaw4_AddrForms.K4 a0 s18 j60 x70
  else
    weirlaw4_AddrForms.K4 a0 s18 j60 0
theorem weirlaw4_AddrForms.K5_ok (a0 : (Vec Int 16)) (a1 : Sl) (a4 : Bool) (b1 : Nat) (j2 : Int) (s7 : Int) (s8 : Int) (s18 : Int) (j60 : ByteArray) :
    SJ weirlaw4_AddrForms.cx [.code (c2 (c2 (c2 (c1 (c1 (c2 (c1 (c1 (c2 (c1 (c2 (c2 (c2 (c2 (c2 (c2 weirlaw4_AddrForms.B)))))))))))))))), .inBlock 3, .code (c2 (c2 (c1 (c1 (c2 (c1 (c2 (c2 (c2 (c2 (c2 (c2 weirlaw4_AddrForms.B)))))))))))), .inLoop (c1 (c1 (c2 (c1 (c2 (c2 (c2 (c2 (c2 (c2 weirlaw4_AddrForms.B)))))))))), .inBlock 2, .code (c2 (c2 (c2 (c2 (c2 (c2 (c2 weirlaw4_AddrForms.B)))))))] [(1, Sl.v a1), (2, .int .i64 s7), (4, .bool a4), (5, .pointer (some (pt b1 0))), (11, .int .i64 j2), (3, .int .i64 s8), (13, .string j60), (14, .int .i64 s18)] [(b1, ((cI .u8).arr 16).enc a0)] (weirlaw4_AddrForms.K5 a0 a1 s18 j60) (weirlaw4_AddrForms.F1 a0 a1 a4 b1 j2 s7 s8) := by
  unfold weirlaw4_AddrForms.K5
  refine SJ.sr 1 ?_
  refine OJ.go 1 [(15, .int .i64 0)] ?_
  refine OJ.nil ?_
  refine SJ.seq ?_
  refine SJ.sr 4 ?_
  refine OJ.go 4 [(90, .bool (decide (s18 < (a1.len : Int)))), (89, .int .i64 (a1.len : Int)), (88, Sl.v a1), (87, .int .i64 s18)] ?_
  refine OJ.nil ?_
  refine SJ.cond (t := (.tmp 90)) (b := decide (s18 < (a1.len : Int))) decide_eq_true_iff (fun hc71 => ?_) (fun hc71 => ?_)
  · refine SJ.rg 5 ?_
    refine OJ.go 2 [(92, .int .i64 s18), (91, Sl.v a1)] ?_
    refine OJ.idxS (d := 93) (T := 23) (y := .tmp 91) (j := .tmp 92) (E := 3) (cap := a1.cap) (k := .i64) (fun p69 => ?_)
    refine OJ.ld (d := 94) (y := .tmp 93) (pend2 := fun x70 => []) Ty3 (fun _ => rfl) (fun x70 => ?_)
    refine OJ.go 1 [(15, .int .i64 x70)] ?_
    refine OJ.nil ?_
    refine SJ.less [1, 2, 4, 5, 11, 3, 13, 14, 15] (m' := [(1, Sl.v a1), (2, .int .i64 s7), (4, .bool a4), (5, .pointer (some (pt b1 0))), (11, .int .i64 j2), (3, .int .i64 s8), (13, .string j60), (14, .int .i64 s18), (15, .int .i64 x70)]) ?_
    exact weirlaw4_AddrForms.K4_ok a0 a1 a4 b1 j2 s7 s8 s18 j60 x70
  · refine SJ.skip ?_
    refine SJ.less [1, 2, 4, 5, 11, 3, 13, 14, 15] (m' := [(1, Sl.v a1), (2, .int .i64 s7), (4, .bool a4), (5, .pointer (some (pt b1 0))), (11, .int .i64 j2), (3, .int .i64 s8), (13, .string j60), (14, .int .i64 s18), (15, .int .i64 0)]) ?_
    exact weirlaw4_AddrForms.K4_ok a0 a1 a4 b1 j2 s7 s8 s18 j60 0
noncomputable def weirlaw4_AddrForms.K6 (a0 : (Vec Int 16)) (a1 : Sl) (s7 : Int) (s8 : Int) (s18 : Int) (j57 : ByteArray) : M (LS (ByteArray × Int) Bool) :=
  (if s18 ≥ s7 then
      pure (decide (s18 < s8))
    else
      pure false) >>= fun y58 =>
  if y58 = true then
    pure (LS.next (j57, IntKind.wrap .i64 (s18 + 1)))
  else
    (if s18 > 0 then
        pure (s18 != s8)
      else
        pure false) >>= fun y59 =>
    if y59 = true then
      chk (((j57.size + str4.size : Nat) : Int) ≤ 9223372036854775807) >>= fun _ =>
      weirlaw4_AddrForms.K5 a0 a1 s18 (j57 ++ str4)
    else
      weirlaw4_AddrForms.K5 a0 a1 s18 j57
theorem weirlaw4_AddrForms.K6_ok (a0 : (Vec Int 16)) (a1 : Sl) (a4 : Bool) (b1 : Nat) (j2 : Int) (s7 : Int) (s8 : Int) (s18 : Int) (j57 : ByteArray) :
    SJ weirlaw4_AddrForms.cx [.code (c2 (c1 (c1 (c2 (c1 (c1 (c2 (c1 (c2 (c2 (c2 (c2 (c2 (c2 weirlaw4_AddrForms.B)))))))))))))), .inBlock 3, .code (c2 (c2 (c1 (c1 (c2 (c1 (c2 (c2 (c2 (c2 (c2 (c2 weirlaw4_AddrForms.B)))))))))))), .inLoop (c1 (c1 (c2 (c1 (c2 (c2 (c2 (c2 (c2 (c2 weirlaw4_AddrForms.B)))))))))), .inBlock 2, .code (c2 (c2 (c2 (c2 (c2 (c2 (c2 weirlaw4_AddrForms.B)))))))] [(1, Sl.v a1), (2, .int .i64 s7), (4, .bool a4), (5, .pointer (some (pt b1 0))), (11, .int .i64 j2), (3, .int .i64 s8), (13, .string j57), (14, .int .i64 s18)] [(b1, ((cI .u8).arr 16).enc a0)] (weirlaw4_AddrForms.K6 a0 a1 s7 s8 s18 j57) (weirlaw4_AddrForms.F1 a0 a1 a4 b1 j2 s7 s8) := by
  unfold weirlaw4_AddrForms.K6
  refine SJ.seq ?_
  refine SJ.sr 8 ?_
  refine OJ.go 4 [(73, .bool (decide (s18 ≥ s7))), (72, .bool (decide (s18 ≥ s7))), (71, .int .i64 s7), (70, .int .i64 s18)] ?_
  refine OJ.join (b := decide (s18 ≥ s7)) [4, 5, 6, 7] [] [1, 2, 4, 5, 11, 3, 13, 14, 77] (fun y58 => [(1, Sl.v a1), (2, .int .i64 s7), (4, .bool a4), (5, .pointer (some (pt b1 0))), (11, .int .i64 j2), (3, .int .i64 s8), (13, .string j57), (14, .int .i64 s18), (77, .bool y58)]) [] [] (t := 73) decide_eq_true_iff (fun hp_ => ?_) (fun hp_ => ?_) (fun _ _ _ _ _ _ h_ => h_) (fun y58 => ?_)
  · refine OJ.go 4 [(77, .bool (decide (s18 < s8))), (76, .bool (decide (s18 < s8))), (75, .int .i64 s8), (74, .int .i64 s18)] ?_
    exact OJ.nil ⟨(Cov.mem Cov.nil), rfl, _, rfl, by kernel_rfl⟩
  · refine OJ.go 4 [(77, .bool false), (76, undef), (75, undef), (74, undef)] ?_
    exact OJ.nil ⟨(Cov.mem Cov.nil), rfl, _, rfl, by kernel_rfl⟩
  · refine OJ.nil ?_
    refine SJ.cond (t := (.tmp 77)) (b := y58) Iff.rfl (fun hc73 => ?_) (fun hc73 => ?_)
    · refine SJ.exit (id := 3) (by rfl) ?_
      refine SJ.rg 3 ?_
      refine OJ.go 3 [(14, .int .i64 (IntKind.wrap .i64 (s18 + 1))), (59, .int .i64 (IntKind.wrap .i64 (s18 + 1))), (58, .int .i64 s18)] ?_
      refine OJ.nil ?_
      exact SJ.at_ [1, 2, 4, 5, 11, 3, 13, 14] rfl
    · refine SJ.skip ?_
      refine SJ.seq ?_
      refine SJ.sr 7 ?_
      refine OJ.go 3 [(80, .bool (decide (s18 > 0))), (79, .bool (decide (s18 > 0))), (78, .int .i64 s18)] ?_
      refine OJ.join (b := decide (s18 > 0)) [3, 4, 5, 6] [] [1, 2, 4, 5, 11, 3, 13, 14, 84] (fun y59 => [(1, Sl.v a1), (2, .int .i64 s7), (4, .bool a4), (5, .pointer (some (pt b1 0))), (11, .int .i64 j2), (3, .int .i64 s8), (13, .string j57), (14, .int .i64 s18), (84, .bool y59)]) [] [] (t := 80) decide_eq_true_iff (fun hp_ => ?_) (fun hp_ => ?_) (fun _ _ _ _ _ _ h_ => h_) (fun y59 => ?_)
      · refine OJ.go 4 [(84, .bool (s18 != s8)), (83, .bool (s18 != s8)), (82, .int .i64 s8), (81, .int .i64 s18)] ?_
        exact OJ.nil ⟨(Cov.mem Cov.nil), rfl, _, rfl, by kernel_rfl⟩
      · refine OJ.go 4 [(84, .bool false), (83, undef), (82, undef), (81, undef)] ?_
        exact OJ.nil ⟨(Cov.mem Cov.nil), rfl, _, rfl, by kernel_rfl⟩
      · refine OJ.nil ?_
        refine SJ.cond (t := (.tmp 84)) (b := y59) Iff.rfl (fun hc72 => ?_) (fun hc72 => ?_)
        · refine SJ.rg 3 ?_
          refine OJ.go 1 [(85, .string j57)] ?_
          refine OJ.cat (d := 86) (T := 9) (yT := 9) (y := .tmp 85) (z := .const (.string str4)) (p := j57) (q := str4) ?_
          refine OJ.go 1 [(13, .string (j57 ++ str4))] ?_
          refine OJ.nil ?_
          refine SJ.less [1, 2, 4, 5, 11, 3, 13, 14] (m' := [(1, Sl.v a1), (2, .int .i64 s7), (4, .bool a4), (5, .pointer (some (pt b1 0))), (11, .int .i64 j2), (3, .int .i64 s8), (13, .string (j57 ++ str4)), (14, .int .i64 s18)]) ?_
          exact weirlaw4_AddrForms.K5_ok a0 a1 a4 b1 j2 s7 s8 s18 (j57 ++ str4)
        · refine SJ.skip ?_
          refine SJ.less [1, 2, 4, 5, 11, 3, 13, 14] (m' := [(1, Sl.v a1), (2, .int .i64 s7), (4, .bool a4), (5, .pointer (some (pt b1 0))), (11, .int .i64 j2), (3, .int .i64 s8), (13, .string j57), (14, .int .i64 s18)]) ?_
          exact weirlaw4_AddrForms.K5_ok a0 a1 a4 b1 j2 s7 s8 s18 j57
noncomputable def weirlaw4_AddrForms.L1 (a0 : (Vec Int 16)) (a1 : Sl) (a4 : Bool) (j2 : Int) (s7 : Int) (s8 : Int) (s17 : ByteArray) (s18 : Int) : M (LS (ByteArray × Int) Bool) :=
  if s18 < j2 then
    (if s18 = s7 then
        pure (decide (s7 < s8))
      else
        pure false) >>= fun y56 =>
    if y56 = true then
      chk (((s17.size + str3.size : Nat) : Int) ≤ 9223372036854775807) >>= fun _ =>
      weirlaw4_AddrForms.K6 a0 a1 s7 s8 s18 (s17 ++ str3)
    else
      weirlaw4_AddrForms.K6 a0 a1 s7 s8 s18 s17
  else
    (weirlaw4_AddrForms.K3 a0 a4 j2 s7 s8 s17) >>= fun b => pure (LS.done b)
theorem weirlaw4_AddrForms.L1_ok (a0 : (Vec Int 16)) (a1 : Sl) (a4 : Bool) (b1 : Nat) (j2 : Int) (s7 : Int) (s8 : Int) (s17 : ByteArray) (s18 : Int) :
    SJ weirlaw4_AddrForms.cx [.code (c1 (c1 (c2 (c1 (c2 (c2 (c2 (c2 (c2 (c2 weirlaw4_AddrForms.B)))))))))), .inLoop (c1 (c1 (c2 (c1 (c2 (c2 (c2 (c2 (c2 (c2 weirlaw4_AddrForms.B)))))))))), .inBlock 2, .code (c2 (c2 (c2 (c2 (c2 (c2 (c2 weirlaw4_AddrForms.B)))))))] [(1, Sl.v a1), (2, .int .i64 s7), (4, .bool a4), (5, .pointer (some (pt b1 0))), (11, .int .i64 j2), (3, .int .i64 s8), (13, .string s17), (14, .int .i64 s18)] [(b1, ((cI .u8).arr 16).enc a0)] (weirlaw4_AddrForms.L1 a0 a1 a4 j2 s7 s8 s17 s18) (weirlaw4_AddrForms.F1 a0 a1 a4 b1 j2 s7 s8) := by
  unfold weirlaw4_AddrForms.L1
  refine SJ.seq ?_
  refine SJ.sr 3 ?_
  refine OJ.go 3 [(57, .bool (decide (s18 < j2))), (56, .int .i64 j2), (55, .int .i64 s18)] ?_
  refine OJ.nil ?_
  refine SJ.cond (t := (.tmp 57)) (b := decide (s18 < j2)) decide_eq_true_iff (fun hc75 => ?_) (fun hc75 => ?_)
  · refine SJ.skip ?_
    refine SJ.seq ?_
    refine SJ.block (id := 3) ?_
    refine SJ.seq ?_
    refine SJ.sr 8 ?_
    refine OJ.go 4 [(63, .bool (s18 == s7)), (62, .bool (s18 == s7)), (61, .int .i64 s7), (60, .int .i64 s18)] ?_
    refine OJ.join (b := (s18 == s7)) [4, 5, 6, 7] [] [1, 2, 4, 5, 11, 3, 13, 14, 67] (fun y56 => [(1, Sl.v a1), (2, .int .i64 s7), (4, .bool a4), (5, .pointer (some (pt b1 0))), (11, .int .i64 j2), (3, .int .i64 s8), (13, .string s17), (14, .int .i64 s18), (67, .bool y56)]) [] [] (t := 63) beq_iff_eq (fun hp_ => ?_) (fun hp_ => ?_) (fun _ _ _ _ _ _ h_ => h_) (fun y56 => ?_)
    · refine OJ.go 4 [(67, .bool (decide (s7 < s8))), (66, .bool (decide (s7 < s8))), (65, .int .i64 s8), (64, .int .i64 s7)] ?_
      exact OJ.nil ⟨(Cov.mem Cov.nil), rfl, _, rfl, by kernel_rfl⟩
    · refine OJ.go 4 [(67, .bool false), (66, undef), (65, undef), (64, undef)] ?_
      exact OJ.nil ⟨(Cov.mem Cov.nil), rfl, _, rfl, by kernel_rfl⟩
    · refine OJ.nil ?_
      refine SJ.cond (t := (.tmp 67)) (b := y56) Iff.rfl (fun hc74 => ?_) (fun hc74 => ?_)
      · refine SJ.rg 3 ?_
        refine OJ.go 1 [(68, .string s17)] ?_
        refine OJ.cat (d := 69) (T := 9) (yT := 9) (y := .tmp 68) (z := .const (.string str3)) (p := s17) (q := str3) ?_
        refine OJ.go 1 [(13, .string (s17 ++ str3))] ?_
        refine OJ.nil ?_
        refine SJ.less [1, 2, 4, 5, 11, 3, 13, 14] (m' := [(1, Sl.v a1), (2, .int .i64 s7), (4, .bool a4), (5, .pointer (some (pt b1 0))), (11, .int .i64 j2), (3, .int .i64 s8), (13, .string (s17 ++ str3)), (14, .int .i64 s18)]) ?_
        exact weirlaw4_AddrForms.K6_ok a0 a1 a4 b1 j2 s7 s8 s18 (s17 ++ str3)
      · refine SJ.skip ?_
        refine SJ.less [1, 2, 4, 5, 11, 3, 13, 14] (m' := [(1, Sl.v a1), (2, .int .i64 s7), (4, .bool a4), (5, .pointer (some (pt b1 0))), (11, .int .i64 j2), (3, .int .i64 s8), (13, .string s17), (14, .int .i64 s18)]) ?_
        exact weirlaw4_AddrForms.K6_ok a0 a1 a4 b1 j2 s7 s8 s18 s17
  · refine SJ.exit (id := 2) (by rfl) ?_
    refine SJ.less [2, 4, 5, 11, 3, 13] (m' := [(2, .int .i64 s7), (4, .bool a4), (5, .pointer (some (pt b1 0))), (11, .int .i64 j2), (3, .int .i64 s8), (13, .string s17)]) ?_
    refine SJ.done ?_
    exact weirlaw4_AddrForms.K3_ok a0 a4 b1 j2 s7 s8 s17
noncomputable def weirlaw4_AddrForms.K7 (a0 : (Vec Int 16)) (a1 : Sl) (a4 : Bool) (j2 : Int) (s7 : Int) (s8 : Int) : M Bool :=
  loopM (fun s_ : (ByteArray × Int) => weirlaw4_AddrForms.L1 a0 a1 a4 j2 s7 s8 s_.1 s_.2) (ByteArray.empty, 0)
theorem weirlaw4_AddrForms.K7_ok (a0 : (Vec Int 16)) (a1 : Sl) (a4 : Bool) (b1 : Nat) (j2 : Int) (s7 : Int) (s8 : Int) :
    SJ weirlaw4_AddrForms.cx [.code (c2 (c2 (c2 (c2 (c2 weirlaw4_AddrForms.B)))))] [(1, Sl.v a1), (2, .int .i64 s7), (4, .bool a4), (5, .pointer (some (pt b1 0))), (11, .int .i64 j2), (3, .int .i64 s8)] [(b1, ((cI .u8).arr 16).enc a0)] (weirlaw4_AddrForms.K7 a0 a1 a4 j2 s7 s8) weirlaw4_AddrForms.F0 := by
  unfold weirlaw4_AddrForms.K7
  refine SJ.sr 1 ?_
  refine OJ.go 1 [(13, .string ByteArray.empty)] ?_
  refine OJ.nil ?_
  refine SJ.seq ?_
  refine SJ.sr 1 ?_
  refine OJ.go 1 [(14, .int .i64 0)] ?_
  refine OJ.nil ?_
  refine SJ.block (id := 2) ?_
  exact SJ.loop (fun s_ : (ByteArray × Int) => [(1, Sl.v a1), (2, .int .i64 s7), (4, .bool a4), (5, .pointer (some (pt b1 0))), (11, .int .i64 j2), (3, .int .i64 s8), (13, .string s_.1), (14, .int .i64 s_.2)]) (fun s_ : (ByteArray × Int) => [(b1, ((cI .u8).arr 16).enc a0)]) [1, 2, 4, 5, 11, 3, 13, 14] rfl (fun _ _ => rfl) (fun s_ => weirlaw4_AddrForms.L1_ok a0 a1 a4 b1 j2 s7 s8 s_.1 s_.2)
noncomputable def weirlaw4_AddrForms.F2 (a0 : (Vec Int 16)) (a1 : Sl) (a4 : Bool) (b1 : Nat) (j2 : Int) : (LS (Int × Int × Int) Bool) → Reach := loopF [.inLoop (c1 (c1 (c2 (c1 (c2 (c2 (c2 (c2 weirlaw4_AddrForms.B)))))))), .inBlock 0, .code (c2 (c2 (c2 (c2 (c2 weirlaw4_AddrForms.B)))))] (fun s_ : (Int × Int × Int) => [(1, Sl.v a1), (2, .int .i64 s_.1), (4, .bool a4), (5, .pointer (some (pt b1 0))), (11, .int .i64 j2), (3, .int .i64 s_.2.1), (12, .int .i64 s_.2.2)]) (fun s_ : (Int × Int × Int) => [(b1, ((cI .u8).arr 16).enc a0)]) weirlaw4_AddrForms.F0
noncomputable def weirlaw4_AddrForms.L2 (a0 : (Vec Int 16)) (a1 : Sl) (a4 : Bool) (j2 : Int) (s7 : Int) (s8 : Int) (s9 : Int) : M (LS (Int × Int × Int) Bool) :=
  if s9 < s8 then
    chk ((0 : Int) ≤ (IntKind.wrap .i64 (2 * s9)) ∧ (IntKind.wrap .i64 (2 * s9)) < (16 : Nat)) >>= fun _ =>
    (if (Vec.g a0 (IntKind.wrap .i64 (2 * s9)) 0) ≠ 0 then
        pure true
      else
        chk ((0 : Int) ≤ (IntKind.wrap .i64 ((IntKind.wrap .i64 (2 * s9)) + 1)) ∧ (IntKind.wrap .i64 ((IntKind.wrap .i64 (2 * s9)) + 1)) < (16 : Nat)) >>= fun _ =>
        pure ((Vec.g a0 (IntKind.wrap .i64 ((IntKind.wrap .i64 (2 * s9)) + 1)) 0) != 0)) >>= fun y80 =>
    if y80 = true then
      pure (LS.next (j2, j2, IntKind.wrap .i64 (s9 + 1)))
    else
      pure (LS.next (s7, s8, IntKind.wrap .i64 (s9 + 1)))
  else
    (weirlaw4_AddrForms.K7 a0 a1 a4 j2 s7 s8) >>= fun b => pure (LS.done b)
theorem weirlaw4_AddrForms.L2_ok (a0 : (Vec Int 16)) (a1 : Sl) (a4 : Bool) (b1 : Nat) (j2 : Int) (s7 : Int) (s8 : Int) (s9 : Int) :
    SJ weirlaw4_AddrForms.cx [.code (c1 (c1 (c2 (c1 (c2 (c2 (c2 (c2 weirlaw4_AddrForms.B)))))))), .inLoop (c1 (c1 (c2 (c1 (c2 (c2 (c2 (c2 weirlaw4_AddrForms.B)))))))), .inBlock 0, .code (c2 (c2 (c2 (c2 (c2 weirlaw4_AddrForms.B)))))] [(1, Sl.v a1), (2, .int .i64 s7), (4, .bool a4), (5, .pointer (some (pt b1 0))), (11, .int .i64 j2), (3, .int .i64 s8), (12, .int .i64 s9)] [(b1, ((cI .u8).arr 16).enc a0)] (weirlaw4_AddrForms.L2 a0 a1 a4 j2 s7 s8 s9) (weirlaw4_AddrForms.F2 a0 a1 a4 b1 j2) := by
  unfold weirlaw4_AddrForms.L2
  refine SJ.seq ?_
  refine SJ.sr 3 ?_
  refine OJ.go 3 [(37, .bool (decide (s9 < s8))), (36, .int .i64 s8), (35, .int .i64 s9)] ?_
  refine OJ.nil ?_
  refine SJ.cond (t := (.tmp 37)) (b := decide (s9 < s8)) decide_eq_true_iff (fun hc82 => ?_) (fun hc82 => ?_)
  · refine SJ.skip ?_
    refine SJ.seq ?_
    refine SJ.block (id := 1) ?_
    refine SJ.sr 13 ?_
    refine OJ.go 2 [(41, .int .i64 (IntKind.wrap .i64 (2 * s9))), (40, .int .i64 s9)] ?_
    refine OJ.idxK (d := 42) (T := 22) (y := .tmp 5) (j := .tmp 41) (E := 5) (sz := 1) (b := b1) (o := 0) (k := .i64) (fun hb76 hb77 => ?_)
    refine OJ.kld (d := 43) (y := .tmp 42) (cd := (cI .u8)) (j := 0) (b := b1) (o := (0 + (IntKind.wrap .i64 (2 * s9)).toNat * 1)) (Vec.g a0 (IntKind.wrap .i64 (2 * s9)) 0) (pend2 := []) Ty5 rfl (At.zero (At.arr (z := 0) hb76 hb77)) rfl ?_
    refine OJ.go 2 [(45, .bool ((Vec.g a0 (IntKind.wrap .i64 (2 * s9)) 0) != 0)), (44, .bool ((Vec.g a0 (IntKind.wrap .i64 (2 * s9)) 0) != 0))] ?_
    refine OJ.join (b := ((Vec.g a0 (IntKind.wrap .i64 (2 * s9)) 0) != 0)) [6, 7, 8, 9, 10, 11, 12] [] [1, 2, 4, 5, 11, 3, 12, 52] (fun y80 => [(1, Sl.v a1), (2, .int .i64 s7), (4, .bool a4), (5, .pointer (some (pt b1 0))), (11, .int .i64 j2), (3, .int .i64 s8), (12, .int .i64 s9), (52, .bool y80)]) [] [] (t := 45) bne_iff_ne (fun hp_ => ?_) (fun hp_ => ?_) (fun _ _ _ _ _ _ h_ => h_) (fun y80 => ?_)
    · refine OJ.go 7 [(52, .bool true), (51, undef), (50, undef), (49, undef), (48, undef), (47, undef), (46, undef)] ?_
      exact OJ.nil ⟨(Cov.mem Cov.nil), rfl, _, rfl, by kernel_rfl⟩
    · refine OJ.go 3 [(48, .int .i64 (IntKind.wrap .i64 ((IntKind.wrap .i64 (2 * s9)) + 1))), (47, .int .i64 (IntKind.wrap .i64 (2 * s9))), (46, .int .i64 s9)] ?_
      refine OJ.idxK (d := 49) (T := 22) (y := .tmp 5) (j := .tmp 48) (E := 5) (sz := 1) (b := b1) (o := 0) (k := .i64) (fun hb78 hb79 => ?_)
      refine OJ.kld (d := 50) (y := .tmp 49) (cd := (cI .u8)) (j := 0) (b := b1) (o := (0 + (IntKind.wrap .i64 ((IntKind.wrap .i64 (2 * s9)) + 1)).toNat * 1)) (Vec.g a0 (IntKind.wrap .i64 ((IntKind.wrap .i64 (2 * s9)) + 1)) 0) (pend2 := []) Ty5 rfl (At.zero (At.arr (z := 0) hb78 hb79)) rfl ?_
      refine OJ.go 2 [(52, .bool ((Vec.g a0 (IntKind.wrap .i64 ((IntKind.wrap .i64 (2 * s9)) + 1)) 0) != 0)), (51, .bool ((Vec.g a0 (IntKind.wrap .i64 ((IntKind.wrap .i64 (2 * s9)) + 1)) 0) != 0))] ?_
      exact OJ.nil ⟨(Cov.mem Cov.nil), rfl, _, rfl, by kernel_rfl⟩
    · refine OJ.nil ?_
      refine SJ.cond (t := (.tmp 52)) (b := y80) Iff.rfl (fun hc81 => ?_) (fun hc81 => ?_)
      · refine SJ.sr 2 ?_
        refine OJ.go 2 [(2, .int .i64 j2), (53, .int .i64 j2)] ?_
        refine OJ.nil ?_
        refine SJ.rg 2 ?_
        refine OJ.go 2 [(3, .int .i64 j2), (54, .int .i64 j2)] ?_
        refine OJ.nil ?_
        refine SJ.inBlock ?_
        refine SJ.rg 3 ?_
        refine OJ.go 3 [(12, .int .i64 (IntKind.wrap .i64 (s9 + 1))), (39, .int .i64 (IntKind.wrap .i64 (s9 + 1))), (38, .int .i64 s9)] ?_
        refine OJ.nil ?_
        exact SJ.at_ [1, 2, 4, 5, 11, 3, 12] rfl
      · refine SJ.skip ?_
        refine SJ.inBlock ?_
        refine SJ.rg 3 ?_
        refine OJ.go 3 [(12, .int .i64 (IntKind.wrap .i64 (s9 + 1))), (39, .int .i64 (IntKind.wrap .i64 (s9 + 1))), (38, .int .i64 s9)] ?_
        refine OJ.nil ?_
        exact SJ.at_ [1, 2, 4, 5, 11, 3, 12] rfl
  · refine SJ.exit (id := 0) (by rfl) ?_
    refine SJ.less [1, 2, 4, 5, 11, 3] (m' := [(1, Sl.v a1), (2, .int .i64 s7), (4, .bool a4), (5, .pointer (some (pt b1 0))), (11, .int .i64 j2), (3, .int .i64 s8)]) ?_
    refine SJ.done ?_
    exact weirlaw4_AddrForms.K7_ok a0 a1 a4 b1 j2 s7 s8
noncomputable def weirlaw4_AddrForms.K8 (a0 : (Vec Int 16)) (a1 : Sl) (a4 : Bool) (j2 : Int) (j5 : Int) (j6 : Int) : M Bool :=
  loopM (fun s_ : (Int × Int × Int) => weirlaw4_AddrForms.L2 a0 a1 a4 j2 s_.1 s_.2.1 s_.2.2) (j5, j6, j5)
theorem weirlaw4_AddrForms.K8_ok (a0 : (Vec Int 16)) (a1 : Sl) (a4 : Bool) (b1 : Nat) (j2 : Int) (j5 : Int) (j6 : Int) :
    SJ weirlaw4_AddrForms.cx [.code (c2 (c2 (c2 (c2 weirlaw4_AddrForms.B))))] [(1, Sl.v a1), (2, .int .i64 j5), (4, .bool a4), (5, .pointer (some (pt b1 0))), (11, .int .i64 j2), (3, .int .i64 j6)] [(b1, ((cI .u8).arr 16).enc a0)] (weirlaw4_AddrForms.K8 a0 a1 a4 j2 j5 j6) weirlaw4_AddrForms.F0 := by
  unfold weirlaw4_AddrForms.K8
  refine SJ.seq ?_
  refine SJ.sr 2 ?_
  refine OJ.go 2 [(12, .int .i64 j5), (34, .int .i64 j5)] ?_
  refine OJ.nil ?_
  refine SJ.block (id := 0) ?_
  exact SJ.loop (fun s_ : (Int × Int × Int) => [(1, Sl.v a1), (2, .int .i64 s_.1), (4, .bool a4), (5, .pointer (some (pt b1 0))), (11, .int .i64 j2), (3, .int .i64 s_.2.1), (12, .int .i64 s_.2.2)]) (fun s_ : (Int × Int × Int) => [(b1, ((cI .u8).arr 16).enc a0)]) [1, 2, 4, 5, 11, 3, 12] rfl (fun _ _ => rfl) (fun s_ => weirlaw4_AddrForms.L2_ok a0 a1 a4 b1 j2 s_.1 s_.2.1 s_.2.2)
noncomputable def weirlaw4_AddrForms.K9 (a0 : (Vec Int 16)) (a1 : Sl) (a2 : Int) (a3 : Int) (a4 : Bool) (j2 : Int) : M Bool :=
  (if a2 < 0 then
      pure true
    else
      pure (decide (a3 > j2))) >>= fun y3 =>
  (if y3 = true then
      pure true
    else
      pure (decide (a2 ≥ a3))) >>= fun y4 =>
  if y4 = true then
    weirlaw4_AddrForms.K8 a0 a1 a4 j2 j2 j2
  else
    weirlaw4_AddrForms.K8 a0 a1 a4 j2 a2 a3
theorem weirlaw4_AddrForms.K9_ok (a0 : (Vec Int 16)) (a1 : Sl) (a2 : Int) (a3 : Int) (a4 : Bool) (b1 : Nat) (j2 : Int) :
    SJ weirlaw4_AddrForms.cx [.code (c2 (c2 (c2 weirlaw4_AddrForms.B)))] [(1, Sl.v a1), (2, .int .i64 a2), (3, .int .i64 a3), (4, .bool a4), (5, .pointer (some (pt b1 0))), (11, .int .i64 j2)] [(b1, ((cI .u8).arr 16).enc a0)] (weirlaw4_AddrForms.K9 a0 a1 a2 a3 a4 j2) weirlaw4_AddrForms.F0 := by
  unfold weirlaw4_AddrForms.K9
  refine SJ.seq ?_
  refine SJ.sr 12 ?_
  refine OJ.go 3 [(22, .bool (decide (a2 < 0))), (21, .bool (decide (a2 < 0))), (20, .int .i64 a2)] ?_
  refine OJ.join (b := decide (a2 < 0)) [3, 4, 5, 6] [7, 8, 9, 10, 11] [1, 2, 3, 4, 5, 11, 26] (fun y3 => [(1, Sl.v a1), (2, .int .i64 a2), (3, .int .i64 a3), (4, .bool a4), (5, .pointer (some (pt b1 0))), (11, .int .i64 j2), (26, .bool y3)]) [] [] (t := 22) decide_eq_true_iff (fun hp_ => ?_) (fun hp_ => ?_) (fun _ _ _ _ _ _ h_ => h_) (fun y3 => ?_)
  · refine OJ.go 4 [(26, .bool true), (25, undef), (24, undef), (23, undef)] ?_
    exact OJ.nil ⟨(Cov.mem Cov.nil), rfl, _, rfl, by kernel_rfl⟩
  · refine OJ.go 4 [(26, .bool (decide (a3 > j2))), (25, .bool (decide (a3 > j2))), (24, .int .i64 j2), (23, .int .i64 a3)] ?_
    exact OJ.nil ⟨(Cov.mem Cov.nil), rfl, _, rfl, by kernel_rfl⟩
  · refine OJ.go 1 [(27, .bool y3)] ?_
    refine OJ.join (b := y3) [8, 9, 10, 11] [] [1, 2, 3, 4, 5, 11, 31] (fun y4 => [(1, Sl.v a1), (2, .int .i64 a2), (3, .int .i64 a3), (4, .bool a4), (5, .pointer (some (pt b1 0))), (11, .int .i64 j2), (31, .bool y4)]) [] [] (t := 27) Iff.rfl (fun hp_ => ?_) (fun hp_ => ?_) (fun _ _ _ _ _ _ h_ => h_) (fun y4 => ?_)
    · refine OJ.go 4 [(31, .bool true), (30, undef), (29, undef), (28, undef)] ?_
      exact OJ.nil ⟨(Cov.mem Cov.nil), rfl, _, rfl, by kernel_rfl⟩
    · refine OJ.go 4 [(31, .bool (decide (a2 ≥ a3))), (30, .bool (decide (a2 ≥ a3))), (29, .int .i64 a3), (28, .int .i64 a2)] ?_
      exact OJ.nil ⟨(Cov.mem Cov.nil), rfl, _, rfl, by kernel_rfl⟩
    · refine OJ.nil ?_
      refine SJ.cond (t := (.tmp 31)) (b := y4) Iff.rfl (fun hc83 => ?_) (fun hc83 => ?_)
      · refine SJ.sr 2 ?_
        refine OJ.go 2 [(2, .int .i64 j2), (32, .int .i64 j2)] ?_
        refine OJ.nil ?_
        refine SJ.rg 2 ?_
        refine OJ.go 2 [(3, .int .i64 j2), (33, .int .i64 j2)] ?_
        refine OJ.nil ?_
        refine SJ.less [1, 2, 4, 5, 11, 3] (m' := [(1, Sl.v a1), (2, .int .i64 j2), (4, .bool a4), (5, .pointer (some (pt b1 0))), (11, .int .i64 j2), (3, .int .i64 j2)]) ?_
        exact weirlaw4_AddrForms.K8_ok a0 a1 a4 b1 j2 j2 j2
      · refine SJ.skip ?_
        refine SJ.less [1, 2, 4, 5, 11, 3] (m' := [(1, Sl.v a1), (2, .int .i64 a2), (4, .bool a4), (5, .pointer (some (pt b1 0))), (11, .int .i64 j2), (3, .int .i64 a3)]) ?_
        exact weirlaw4_AddrForms.K8_ok a0 a1 a4 b1 j2 a2 a3
noncomputable def weirlaw4_AddrForms (a0 : (Vec Int 16)) (a1 : Sl) (a2 : Int) (a3 : Int) (a4 : Bool) : M Bool :=
  slot 22 >>= fun b1 =>
  if a4 = true then
    weirlaw4_AddrForms.K9 a0 a1 a2 a3 a4 6
  else
    weirlaw4_AddrForms.K9 a0 a1 a2 a3 a4 8
theorem weirlaw4_AddrForms_ok (a0 : (Vec Int 16)) (a1 : Sl) (a2 : Int) (a3 : Int) (a4 : Bool) : Ref Tryd.prog 3 [((cI .u8).arr 16).val a0, Sl.v a1, .int .i64 a2, .int .i64 a3, .bool a4] (weirlaw4_AddrForms a0 a1 a2 a3 a4) weirlaw4_AddrForms.out := by
  refine Ref.of (cd := weirlaw4_AddrForms.B) Tryd.func3 ?_
  show SJ weirlaw4_AddrForms.cx [.code weirlaw4_AddrForms.B] [(0, ((cI .u8).arr 16).val a0), (1, Sl.v a1), (2, .int .i64 a2), (3, .int .i64 a3), (4, .bool a4)] [] (weirlaw4_AddrForms a0 a1 a2 a3 a4) weirlaw4_AddrForms.F0
  unfold weirlaw4_AddrForms
  refine SJ.sr 2 ?_
  refine OJ.slotOf (d := 5) (op := (.box 22 (.tmp 0))) (cd := ((cI .u8).arr 16)) (u := a0) (owed := []) (box_run (by kernel_rfl)) (fun b1 => ?_)
  refine OW.nil ?_
  refine OJ.go 1 [(10, .bool false)] ?_
  refine OJ.nil ?_
  refine SJ.sr 1 ?_
  refine OJ.go 1 [(11, .int .i64 8)] ?_
  refine OJ.nil ?_
  refine SJ.seq ?_
  refine SJ.sr 1 ?_
  refine OJ.go 1 [(19, .bool a4)] ?_
  refine OJ.nil ?_
  refine SJ.cond (t := (.tmp 19)) (b := a4) Iff.rfl (fun hc84 => ?_) (fun hc84 => ?_)
  · refine SJ.rg 1 ?_
    refine OJ.go 1 [(11, .int .i64 6)] ?_
    refine OJ.nil ?_
    refine SJ.less [1, 2, 3, 4, 5, 11] (m' := [(1, Sl.v a1), (2, .int .i64 a2), (3, .int .i64 a3), (4, .bool a4), (5, .pointer (some (pt b1 0))), (11, .int .i64 6)]) ?_
    exact weirlaw4_AddrForms.K9_ok a0 a1 a2 a3 a4 b1 6
  · refine SJ.skip ?_
    refine SJ.less [1, 2, 3, 4, 5, 11] (m' := [(1, Sl.v a1), (2, .int .i64 a2), (3, .int .i64 a3), (4, .bool a4), (5, .pointer (some (pt b1 0))), (11, .int .i64 8)]) ?_
    exact weirlaw4_AddrForms.K9_ok a0 a1 a2 a3 a4 b1 8

/-! ### weir/addr.ValidPrefix: function 14 -/
noncomputable def addr_ValidPrefix.B : Code := (Tryd.f14.body).getD .skip
noncomputable def addr_ValidPrefix.cx : Fx := ⟨Tryd.prog, 14, Tryd.f14⟩
noncomputable def addr_ValidPrefix.out (r_ : Int) : Value := .int .i64 r_
noncomputable def addr_ValidPrefix.F0 (r_ : Int) : Reach := .ret (addr_ValidPrefix.out r_)
noncomputable def addr_ValidPrefix (a0 : api_Prefix) : M Int :=
  slot 37 >>= fun b1 =>
  addr_size a0.IP >>= fun r2 =>
  if r2 = 0 then
    pure 40
  else
    (if a0.Len < 0 then
        pure true
      else
        pure (decide (a0.Len > r2))) >>= fun y9 =>
    if y9 = true then
      pure 45
    else
      draw >>= fun _ =>
      addr_masked a0.IP.A a0.Len >>= fun r12 =>
      if ¬ (r12 = a0.IP.A) then
        pure 46
      else
        pure 0
theorem addr_ValidPrefix_ok (a0 : api_Prefix) : Ref Tryd.prog 14 [c_api_Prefix.val a0] (addr_ValidPrefix a0) addr_ValidPrefix.out := by
  refine Ref.of (cd := addr_ValidPrefix.B) Tryd.func14 ?_
  show SJ addr_ValidPrefix.cx [.code addr_ValidPrefix.B] [(0, c_api_Prefix.val a0)] [] (addr_ValidPrefix a0) addr_ValidPrefix.F0
  unfold addr_ValidPrefix
  refine SJ.sr 2 ?_
  refine OJ.slotOf (d := 1) (op := (.box 37 (.tmp 0))) (cd := c_api_Prefix) (u := a0) (owed := []) (box_run (by kernel_rfl)) (fun b1 => ?_)
  refine OW.nil ?_
  refine OJ.go 1 [(2, .int .i64 0)] ?_
  refine OJ.nil ?_
  refine SJ.seq ?_
  refine SJ.sr 4 ?_
  refine OJ.go 1 [(4, .pointer (some (pt b1 0)))] ?_
  refine OJ.kld (d := 5) (y := .tmp 4) (cd := c_api_IP) (j := 0) (b := b1) (o := 0) a0.IP (pend2 := []) Ty27 rfl (At_api_Prefix_IP a0) rfl ?_
  refine OJ.call (d := 6) (g := 26) (ats := #[27]) (args := [.tmp 5]) (owed := []) F26 (addr_size_ok a0.IP) (fun r2 => ?_)
  refine OW.nil ?_
  refine OJ.go 1 [(3, .int .i64 r2)] ?_
  refine OJ.nil ?_
  refine SJ.block (id := 0) ?_
  refine SJ.sr 3 ?_
  refine OJ.go 3 [(7, .bool (r2 == 0)), (9, .bool (r2 == 0)), (8, .int .i64 r2)] ?_
  refine OJ.nil ?_
  refine SJ.cond (t := (.tmp 7)) (b := (r2 == 0)) beq_iff_eq (fun hc15 => ?_) (fun hc15 => ?_)
  · refine SJ.sr 1 ?_
    refine OJ.go 1 [(2, .int .i64 40)] ?_
    refine OJ.nil ?_
    exact SJ.ret rfl (Res.run (ys := [.int .i64 40]) (.tmp (by kernel_rfl) .nil) rfl)
  · refine SJ.sr 10 ?_
    refine OJ.go 1 [(11, .pointer (some (pt b1 17)))] ?_
    refine OJ.kld (d := 12) (y := .tmp 11) (cd := (cI .i64)) (j := 0) (b := b1) (o := 17) a0.Len (pend2 := []) Ty3 rfl (At_api_Prefix_Len a0) rfl ?_
    refine OJ.go 2 [(14, .bool (decide (a0.Len < 0))), (13, .bool (decide (a0.Len < 0)))] ?_
    refine OJ.join (b := decide (a0.Len < 0)) [4, 5, 6, 7, 8] [9] [1, 19] (fun y9 => [(1, .pointer (some (pt b1 0))), (19, .bool y9)]) [] [] (t := 14) decide_eq_true_iff (fun hp_ => ?_) (fun hp_ => ?_) (fun _ _ _ _ _ _ h_ => h_) (fun y9 => ?_)
    · refine OJ.go 5 [(19, .bool true), (18, undef), (17, undef), (16, undef), (15, undef)] ?_
      exact OJ.nil ⟨(Cov.mem Cov.nil), rfl, _, rfl, by kernel_rfl⟩
    · refine OJ.go 1 [(15, .pointer (some (pt b1 17)))] ?_
      refine OJ.kld (d := 16) (y := .tmp 15) (cd := (cI .i64)) (j := 0) (b := b1) (o := 17) a0.Len (pend2 := []) Ty3 rfl (At_api_Prefix_Len a0) rfl ?_
      refine OJ.go 3 [(19, .bool (decide (a0.Len > r2))), (18, .bool (decide (a0.Len > r2))), (17, .int .i64 r2)] ?_
      exact OJ.nil ⟨(Cov.mem Cov.nil), rfl, _, rfl, by kernel_rfl⟩
    · refine OJ.go 1 [(10, .bool y9)] ?_
      refine OJ.nil ?_
      refine SJ.cond (t := (.tmp 10)) (b := y9) Iff.rfl (fun hc14 => ?_) (fun hc14 => ?_)
      · refine SJ.sr 1 ?_
        refine OJ.go 1 [(2, .int .i64 45)] ?_
        refine OJ.nil ?_
        exact SJ.ret rfl (Res.run (ys := [.int .i64 45]) (.tmp (by kernel_rfl) .nil) rfl)
      · refine SJ.seq ?_
        refine SJ.draw (id := 6) (kd := [0, 0, 1, 0, 1, 2, 0, 0, 1, 0, 0]) (bef := [0, 1, 3, 0, 8, 31, 0, 64, 192, 511, 1023]) (ord := [0, 1, 2, 3, 4, 6, 7, 8, 5, 9, 10]) mixed ?_
        refine OJ.go 2 [(22, .pointer (some (pt b1 1))), (21, .pointer (some (pt b1 0)))] ?_
        refine OJ.kld (d := 23) (y := .tmp 22) (cd := ((cI .u8).arr 16)) (j := 0) (b := b1) (o := 1) a0.IP.A (pend2 := [⟨2, 22, (pt b1 1), ((cI .u8).arr 16).val a0.IP.A⟩]) Ty22 rfl (At.trans (At_api_Prefix_IP a0) (At_api_IP_A a0.IP)) rfl ?_
        refine OJ.go 1 [(24, .pointer (some (pt b1 17)))] ?_
        refine OJ.kld (d := 25) (y := .tmp 24) (cd := (cI .i64)) (j := 0) (b := b1) (o := 17) a0.Len (pend2 := [⟨4, 3, (pt b1 17), (cI .i64).val a0.Len⟩, ⟨2, 22, (pt b1 1), ((cI .u8).arr 16).val a0.IP.A⟩]) Ty3 rfl (At_api_Prefix_Len a0) rfl ?_
        refine OJ.go 2 [(28, .pointer (some (pt b1 1))), (27, .pointer (some (pt b1 0)))] ?_
        refine OJ.kld (d := 29) (y := .tmp 28) (cd := ((cI .u8).arr 16)) (j := 0) (b := b1) (o := 1) a0.IP.A (pend2 := [⟨8, 22, (pt b1 1), ((cI .u8).arr 16).val a0.IP.A⟩, ⟨4, 3, (pt b1 17), (cI .i64).val a0.Len⟩, ⟨2, 22, (pt b1 1), ((cI .u8).arr 16).val a0.IP.A⟩]) Ty22 rfl (At.trans (At_api_Prefix_IP a0) (At_api_IP_A a0.IP)) rfl ?_
        refine OJ.call (d := 26) (g := 27) (ats := #[22, 3]) (args := [.tmp 23, .tmp 25]) (owed := [⟨8, 22, (pt b1 1), ((cI .u8).arr 16).val a0.IP.A⟩]) F27 (addr_masked_ok a0.IP.A a0.Len) (fun r12 => ?_)
        refine OW.known (j := 0) (q := a0.IP.A) Ty22 rfl (At.trans (At_api_Prefix_IP a0) (At_api_IP_A a0.IP)) ?_
        refine OW.nil ?_
        refine OJ.neq (d := 30) (T := 22) (yT := 22) (y := .tmp 26) (z := .tmp 29) (cd := ((cI .u8).arr 16)) (p := r12) (q := a0.IP.A) rfl Eq22 ?_
        refine OJ.go 1 [(20, .bool (!eqv r12 a0.IP.A))] ?_
        refine OJ.nil ?_
        refine SJ.cond (t := (.tmp 20)) (b := (!eqv r12 a0.IP.A)) (bnot_iff eqv_iff) (fun hc13 => ?_) (fun hc13 => ?_)
        · refine SJ.sr 1 ?_
          refine OJ.go 1 [(2, .int .i64 46)] ?_
          refine OJ.nil ?_
          exact SJ.ret rfl (Res.run (ys := [.int .i64 46]) (.tmp (by kernel_rfl) .nil) rfl)
        · refine SJ.skip ?_
          refine SJ.inBlock ?_
          refine SJ.sr 1 ?_
          refine OJ.go 1 [(2, .int .i64 0)] ?_
          refine OJ.nil ?_
          exact SJ.ret rfl (Res.run (ys := [.int .i64 0]) (.tmp (by kernel_rfl) .nil) rfl)

/-! ### weir/addr.PrintPrefix: function 17 -/
noncomputable def addr_PrintPrefix.B : Code := (Tryd.f17.body).getD .skip
noncomputable def addr_PrintPrefix.cx : Fx := ⟨Tryd.prog, 17, Tryd.f17⟩
noncomputable def addr_PrintPrefix.out (r_ : (ByteArray × Int)) : Value := .tuple #[.string r_.1, .int .i64 r_.2]
noncomputable def addr_PrintPrefix.F0 (r_ : (ByteArray × Int)) : Reach := .ret (addr_PrintPrefix.out r_)
noncomputable def addr_PrintPrefix (a0 : api_Prefix) : M (ByteArray × Int) :=
  slot 37 >>= fun b1 =>
  addr_ValidPrefix a0 >>= fun r2 =>
  if r2 ≠ 0 then
    pure (ByteArray.empty, r2)
  else
    addr_PrintIP a0.IP >>= fun r3 =>
    chk (((r3.1.size + str13.size : Nat) : Int) ≤ 9223372036854775807) >>= fun _ =>
    strconv_Itoa_ a0.Len >>= fun r4 =>
    chk ((((r3.1 ++ str13).size + r4.size : Nat) : Int) ≤ 9223372036854775807) >>= fun _ =>
    pure (((r3.1 ++ str13) ++ r4), 0)
theorem addr_PrintPrefix_ok (a0 : api_Prefix) : Ref Tryd.prog 17 [c_api_Prefix.val a0] (addr_PrintPrefix a0) addr_PrintPrefix.out := by
  refine Ref.of (cd := addr_PrintPrefix.B) Tryd.func17 ?_
  show SJ addr_PrintPrefix.cx [.code addr_PrintPrefix.B] [(0, c_api_Prefix.val a0)] [] (addr_PrintPrefix a0) addr_PrintPrefix.F0
  unfold addr_PrintPrefix
  refine SJ.sr 3 ?_
  refine OJ.slotOf (d := 1) (op := (.box 37 (.tmp 0))) (cd := c_api_Prefix) (u := a0) (owed := []) (box_run (by kernel_rfl)) (fun b1 => ?_)
  refine OW.nil ?_
  refine OJ.go 2 [(3, .int .i64 0), (2, .string ByteArray.empty)] ?_
  refine OJ.nil ?_
  refine SJ.seq ?_
  refine SJ.sr 3 ?_
  refine OJ.kld (d := 7) (y := .tmp 1) (cd := c_api_Prefix) (j := 0) (b := b1) (o := 0) a0 (pend2 := []) Ty37 rfl (At.whole _) rfl ?_
  refine OJ.call (d := 8) (g := 14) (ats := #[37]) (args := [.tmp 7]) (owed := []) F14 (addr_ValidPrefix_ok a0) (fun r2 => ?_)
  refine OW.nil ?_
  refine OJ.go 1 [(4, .int .i64 r2)] ?_
  refine OJ.nil ?_
  refine SJ.sr 2 ?_
  refine OJ.go 2 [(10, .bool (r2 != 0)), (9, .int .i64 r2)] ?_
  refine OJ.nil ?_
  refine SJ.cond (t := (.tmp 10)) (b := (r2 != 0)) bne_iff_ne (fun hc5 => ?_) (fun hc5 => ?_)
  · refine SJ.sr 3 ?_
    refine OJ.go 3 [(3, .int .i64 r2), (2, .string ByteArray.empty), (11, .int .i64 r2)] ?_
    refine OJ.nil ?_
    exact SJ.ret rfl (Res.run (ys := [.string ByteArray.empty, .int .i64 r2]) (.tmp (by kernel_rfl) (.tmp (by kernel_rfl) .nil)) rfl)
  · refine SJ.skip ?_
    refine SJ.sr 8 ?_
    refine OJ.go 1 [(13, .pointer (some (pt b1 0)))] ?_
    refine OJ.kld (d := 14) (y := .tmp 13) (cd := c_api_IP) (j := 0) (b := b1) (o := 0) a0.IP (pend2 := []) Ty27 rfl (At_api_Prefix_IP a0) rfl ?_
    refine OJ.call (d := 15) (g := 16) (ats := #[27]) (args := [.tmp 14]) (owed := []) F16 (addr_PrintIP_ok a0.IP) (fun r3 => ?_)
    refine OW.nil ?_
    refine OJ.go 5 [(6, .int .i64 r3.2), (5, .string r3.1), (17, .int .i64 r3.2), (16, .string r3.1), (12, .tuple #[.string r3.1, .int .i64 r3.2])] ?_
    refine OJ.nil ?_
    refine SJ.sr 8 ?_
    refine OJ.go 1 [(18, .string r3.1)] ?_
    refine OJ.cat (d := 19) (T := 9) (yT := 9) (y := .tmp 18) (z := .const (.string str13)) (p := r3.1) (q := str13) ?_
    refine OJ.go 1 [(20, .pointer (some (pt b1 17)))] ?_
    refine OJ.kld (d := 21) (y := .tmp 20) (cd := (cI .i64)) (j := 0) (b := b1) (o := 17) a0.Len (pend2 := []) Ty3 rfl (At_api_Prefix_Len a0) rfl ?_
    refine OJ.call (d := 22) (g := 31) (ats := #[3]) (args := [.tmp 21]) (owed := []) F31 (strconv_Itoa__ok a0.Len) (fun r4 => ?_)
    refine OW.nil ?_
    refine OJ.cat (d := 23) (T := 9) (yT := 9) (y := .tmp 19) (z := .tmp 22) (p := (r3.1 ++ str13)) (q := r4) ?_
    refine OJ.go 2 [(3, .int .i64 0), (2, .string ((r3.1 ++ str13) ++ r4))] ?_
    refine OJ.nil ?_
    exact SJ.ret rfl (Res.run (ys := [.string ((r3.1 ++ str13) ++ r4), .int .i64 0]) (.tmp (by kernel_rfl) (.tmp (by kernel_rfl) .nil)) rfl)

/-! ### internal/stringslite.Cut: function 45 -/
noncomputable def stringslite_Cut.B : Code := (Tryd.f45.body).getD .skip
noncomputable def stringslite_Cut.cx : Fx := ⟨Tryd.prog, 45, Tryd.f45⟩
noncomputable def stringslite_Cut.out (r_ : (ByteArray × ByteArray × Bool)) : Value := .tuple #[.string r_.1, .string r_.2.1, .bool r_.2.2]
noncomputable def stringslite_Cut.F0 (r_ : (ByteArray × ByteArray × Bool)) : Reach := .ret (stringslite_Cut.out r_)
noncomputable def stringslite_Cut (a0 : ByteArray) (a1 : ByteArray) : M (ByteArray × ByteArray × Bool) :=
  stringslite_Index a0 a1 >>= fun r1 =>
  if r1 ≥ 0 then
    draw >>= fun _ =>
    chk (0 ≤ (0 : Int) ∧ (0 : Int) ≤ r1 ∧ r1 ≤ (a0.size : Int)) >>= fun _ =>
    chk (0 ≤ ((IntKind.wrap .i64 (r1 + (a1.size : Int))) : Int) ∧ ((IntKind.wrap .i64 (r1 + (a1.size : Int))) : Int) ≤ (a0.size : Int) ∧ (a0.size : Int) ≤ (a0.size : Int)) >>= fun _ =>
    pure ((ByteArray.extract a0 (Int.toNat 0) (Int.toNat r1)), (ByteArray.extract a0 (Int.toNat (IntKind.wrap .i64 (r1 + (a1.size : Int)))) (Int.toNat (a0.size : Int))), true)
  else
    pure (a0, ByteArray.empty, false)
theorem stringslite_Cut_ok (a0 : ByteArray) (a1 : ByteArray) : Ref Tryd.prog 45 [.string a0, .string a1] (stringslite_Cut a0 a1) stringslite_Cut.out := by
  refine Ref.of (cd := stringslite_Cut.B) Tryd.func45 ?_
  show SJ stringslite_Cut.cx [.code stringslite_Cut.B] [(0, .string a0), (1, .string a1)] [] (stringslite_Cut a0 a1) stringslite_Cut.F0
  unfold stringslite_Cut
  refine SJ.sr 3 ?_
  refine OJ.go 3 [(6, .bool false), (5, .string ByteArray.empty), (4, .string ByteArray.empty)] ?_
  refine OJ.nil ?_
  refine SJ.seq ?_
  refine SJ.sr 4 ?_
  refine OJ.go 2 [(9, .string a1), (8, .string a0)] ?_
  refine OJ.call (d := 10) (g := 55) (ats := #[9, 9]) (args := [.tmp 8, .tmp 9]) (owed := []) F55 (stringslite_Index_ok a0 a1) (fun r1 => ?_)
  refine OW.nil ?_
  refine OJ.go 1 [(7, .int .i64 r1)] ?_
  refine OJ.nil ?_
  refine SJ.sr 2 ?_
  refine OJ.go 2 [(12, .bool (decide (r1 ≥ 0))), (11, .int .i64 r1)] ?_
  refine OJ.nil ?_
  refine SJ.cond (t := (.tmp 12)) (b := decide (r1 ≥ 0)) decide_eq_true_iff (fun hc2 => ?_) (fun hc2 => ?_)
  · refine SJ.seq ?_
    refine SJ.draw (id := 3) (kd := [0, 0, 0, 0, 0, 0, 0, 0, 0, 0, 0, 0]) (bef := [0, 0, 3, 0, 0, 0, 32, 112, 248, 7, 1023, 2047]) (ord := [0, 1, 2, 3, 4, 5, 6, 7, 8, 9, 10, 11]) mixed ?_
    refine OJ.go 2 [(14, .int .i64 r1), (13, .string a0)] ?_
    refine OJ.cutT (d := 15) (t := 9) (y := .tmp 13) (lo := none) (hi := (some (.tmp 14))) (lo' := none) (hi' := some (.i64, r1)) ?_
    refine OJ.go 5 [(20, .int .i64 (IntKind.wrap .i64 (r1 + (a1.size : Int)))), (19, .int .i64 (a1.size : Int)), (18, .string a1), (17, .int .i64 r1), (16, .string a0)] ?_
    refine OJ.cutT (d := 21) (t := 9) (y := .tmp 16) (lo := (some (.tmp 20))) (hi := none) (lo' := some (.i64, IntKind.wrap .i64 (r1 + (a1.size : Int)))) (hi' := none) ?_
    refine OJ.go 3 [(6, .bool true), (5, .string (ByteArray.extract a0 (Int.toNat (IntKind.wrap .i64 (r1 + (a1.size : Int)))) (Int.toNat (a0.size : Int)))), (4, .string (ByteArray.extract a0 (Int.toNat 0) (Int.toNat r1)))] ?_
    refine OJ.nil ?_
    exact SJ.ret rfl (Res.run (ys := [.string (ByteArray.extract a0 (Int.toNat 0) (Int.toNat r1)), .string (ByteArray.extract a0 (Int.toNat (IntKind.wrap .i64 (r1 + (a1.size : Int)))) (Int.toNat (a0.size : Int))), .bool true]) (.tmp (by kernel_rfl) (.tmp (by kernel_rfl) (.tmp (by kernel_rfl) .nil))) rfl)
  · refine SJ.skip ?_
    refine SJ.sr 4 ?_
    refine OJ.go 4 [(6, .bool false), (5, .string ByteArray.empty), (4, .string a0), (22, .string a0)] ?_
    refine OJ.nil ?_
    exact SJ.ret rfl (Res.run (ys := [.string a0, .string ByteArray.empty, .bool false]) (.tmp (by kernel_rfl) (.tmp (by kernel_rfl) (.tmp (by kernel_rfl) .nil))) rfl)

/-! ### strings.Cut: function 34 -/
noncomputable def strings_Cut.B : Code := (Tryd.f34.body).getD .skip
noncomputable def strings_Cut.cx : Fx := ⟨Tryd.prog, 34, Tryd.f34⟩
noncomputable def strings_Cut.out (r_ : (ByteArray × ByteArray × Bool)) : Value := .tuple #[.string r_.1, .string r_.2.1, .bool r_.2.2]
noncomputable def strings_Cut.F0 (r_ : (ByteArray × ByteArray × Bool)) : Reach := .ret (strings_Cut.out r_)
noncomputable def strings_Cut (a0 : ByteArray) (a1 : ByteArray) : M (ByteArray × ByteArray × Bool) :=
  stringslite_Cut a0 a1 >>= fun r1 =>
  pure (r1.1, r1.2.1, r1.2.2)
theorem strings_Cut_ok (a0 : ByteArray) (a1 : ByteArray) : Ref Tryd.prog 34 [.string a0, .string a1] (strings_Cut a0 a1) strings_Cut.out := by
  refine Ref.of (cd := strings_Cut.B) Tryd.func34 ?_
  show SJ strings_Cut.cx [.code strings_Cut.B] [(0, .string a0), (1, .string a1)] [] (strings_Cut a0 a1) strings_Cut.F0
  unfold strings_Cut
  refine SJ.sr 3 ?_
  refine OJ.go 3 [(6, .bool false), (5, .string ByteArray.empty), (4, .string ByteArray.empty)] ?_
  refine OJ.nil ?_
  refine SJ.sr 9 ?_
  refine OJ.go 2 [(8, .string a1), (7, .string a0)] ?_
  refine OJ.call (d := 9) (g := 45) (ats := #[9, 9]) (args := [.tmp 7, .tmp 8]) (owed := []) F45 (stringslite_Cut_ok a0 a1) (fun r1 => ?_)
  refine OW.nil ?_
  refine OJ.go 6 [(6, .bool r1.2.2), (5, .string r1.2.1), (4, .string r1.1), (12, .bool r1.2.2), (11, .string r1.2.1), (10, .string r1.1)] ?_
  refine OJ.nil ?_
  exact SJ.ret rfl (Res.run (ys := [.string r1.1, .string r1.2.1, .bool r1.2.2]) (.tmp (by kernel_rfl) (.tmp (by kernel_rfl) (.tmp (by kernel_rfl) .nil))) rfl)

/-! ### weir/addr.ParsePrefix: function 20 -/
noncomputable def addr_ParsePrefix.B : Code := (Tryd.f20.body).getD .skip
noncomputable def addr_ParsePrefix.cx : Fx := ⟨Tryd.prog, 20, Tryd.f20⟩
noncomputable def addr_ParsePrefix.out (r_ : (api_Prefix × Int × Int)) : Value := .tuple #[c_api_Prefix.val r_.1, .int .i64 r_.2.1, .int .i64 r_.2.2]
noncomputable def addr_ParsePrefix.F0 (r_ : (api_Prefix × Int × Int)) : Reach := .ret (addr_ParsePrefix.out r_)
noncomputable def addr_ParsePrefix.K1 (r3 : (api_IP × (Option Addr))) (j8 : Int) (j17 : (Option Addr)) : M (api_Prefix × Int × Int) :=
  if ¬ (j17 = none) then
    draw >>= fun _ =>
    nilck j17 >>= fun p22 =>
    ld (cI .i64) p22 >>= fun x23 =>
    nilck j17 >>= fun p24 =>
    ld (cI .i64) (Addr.add p24 1) >>= fun x25 =>
    same (cI .i64) (Addr.add p24 1) x25 >>= fun _ =>
    same (cI .i64) p22 x23 >>= fun _ =>
    pure (z_api_Prefix, x23, x25)
  else
    pure ((⟨r3.1, j8⟩ : api_Prefix), 0, 0)
theorem addr_ParsePrefix.K1_ok (b1 : Nat) (r3 : (api_IP × (Option Addr))) (j8 : Int) (b13 : Nat) (j17 : (Option Addr)) :
    SJ addr_ParsePrefix.cx [.code (c2 (c2 (c2 (c2 (c2 (c2 (c2 (c2 (c2 (c2 addr_ParsePrefix.B))))))))))] [(2, .pointer (some (pt b1 0))), (9, .pointer j17), (12, .pointer (some (pt b13 0)))] [(b13, c_api_Prefix.enc (⟨r3.1, j8⟩ : api_Prefix)), (b1, c_api_Prefix.enc z_api_Prefix)] (addr_ParsePrefix.K1 r3 j8 j17) addr_ParsePrefix.F0 := by
  unfold addr_ParsePrefix.K1
  refine SJ.seq ?_
  refine SJ.sr 2 ?_
  refine OJ.go 2 [(70, .bool (!(Option.isNone j17))), (69, .pointer j17)] ?_
  refine OJ.nil ?_
  refine SJ.cond (t := (.tmp 70)) (b := (!(Option.isNone j17))) (bnot_iff Option.isNone_iff_eq_none) (fun hc26 => ?_) (fun hc26 => ?_)
  · refine SJ.seq ?_
    refine SJ.draw (id := 16) (kd := [0, 0, 0, 0, 1, 0, 0, 0, 1, 2, 0, 0]) (bef := [0, 0, 2, 6, 14, 0, 32, 96, 224, 1, 543, 2047]) (ord := [0, 1, 2, 3, 4, 5, 6, 7, 8, 9, 10, 11]) mixed ?_
    refine OJ.build (d := 71) (T := 37) (parts := []) (ps := []) (cd := c_api_Prefix) (z0 := z_api_Prefix) z_api_Prefix Ty37 rfl Filled.nil ?_
    refine OJ.go 1 [(72, .pointer j17)] ?_
    refine OJ.nilck (d := 73) (y := .tmp 72) (fun p22 => ?_)
    refine OJ.go 1 [(74, .pointer (some p22))] ?_
    refine OJ.ld (d := 75) (y := .tmp 74) (pend2 := fun x23 => [⟨4, 28, p22, (cI .i64).val x23⟩]) Ty28 (fun _ => rfl) (fun x23 => ?_)
    refine OJ.go 1 [(76, .pointer j17)] ?_
    refine OJ.nilck (d := 77) (y := .tmp 76) (fun p24 => ?_)
    refine OJ.go 1 [(78, .pointer (some (Addr.add p24 1)))] ?_
    refine OJ.ld (d := 79) (y := .tmp 78) (pend2 := fun x25 => [⟨8, 3, (Addr.add p24 1), (cI .i64).val x25⟩, ⟨4, 28, p22, (cI .i64).val x23⟩]) Ty3 (fun _ => rfl) (fun x25 => ?_)
    refine OJ.kst (y := .tmp 2) (z := .tmp 71) (cd := c_api_Prefix) (u := z_api_Prefix) (j := 1) (b := b1) (o := 0) (c_api_Prefix.enc z_api_Prefix) (owed := [⟨8, 3, (Addr.add p24 1), (cI .i64).val x25⟩, ⟨4, 28, p22, (cI .i64).val x23⟩]) Ty37 rfl (Upd.whole ((Cod.len _ _).trans (Cod.len _ _).symm)) rfl ?_
    refine OW.same Ty3 ?_
    refine OW.same Ty28 ?_
    refine OW.nil ?_
    refine OJ.go 2 [(4, .int .i64 x25), (3, .int .i64 x23)] ?_
    refine OJ.nil ?_
    exact SJ.ret rfl (Res.run (ys := [c_api_Prefix.val z_api_Prefix, .int .i64 x23, .int .i64 x25]) (.cell (j := 1) (b := b1) (cd := c_api_Prefix) (q := z_api_Prefix) (by kernel_rfl) rfl Ty37 (At.whole _) (.tmp (by kernel_rfl) (.tmp (by kernel_rfl) .nil))) rfl)
  · refine SJ.skip ?_
    refine SJ.sr 4 ?_
    refine OJ.kld (d := 80) (y := .tmp 12) (cd := c_api_Prefix) (j := 0) (b := b13) (o := 0) (⟨r3.1, j8⟩ : api_Prefix) (pend2 := []) Ty37 rfl (At.whole _) rfl ?_
    refine OJ.kst (y := .tmp 2) (z := .tmp 80) (cd := c_api_Prefix) (u := (⟨r3.1, j8⟩ : api_Prefix)) (j := 1) (b := b1) (o := 0) (c_api_Prefix.enc (⟨r3.1, j8⟩ : api_Prefix)) (owed := []) Ty37 rfl (Upd.whole ((Cod.len _ _).trans (Cod.len _ _).symm)) rfl ?_
    refine OW.nil ?_
    refine OJ.go 2 [(4, .int .i64 0), (3, .int .i64 0)] ?_
    refine OJ.nil ?_
    exact SJ.ret rfl (Res.run (ys := [c_api_Prefix.val (⟨r3.1, j8⟩ : api_Prefix), .int .i64 0, .int .i64 0]) (.cell (j := 1) (b := b1) (cd := c_api_Prefix) (q := (⟨r3.1, j8⟩ : api_Prefix)) (by kernel_rfl) rfl Ty37 (At.whole _) (.tmp (by kernel_rfl) (.tmp (by kernel_rfl) .nil))) rfl)
noncomputable def addr_ParsePrefix.K2 (r3 : (api_IP × (Option Addr))) (j8 : Int) (j12 : (Option Addr)) : M (api_Prefix × Int × Int) :=
  slot 37 >>= fun b13 =>
  (if j12 = none then
      addr_ValidPrefix (⟨r3.1, j8⟩ : api_Prefix) >>= fun r14 =>
      pure (r14 != 0)
    else
      pure false) >>= fun y15 =>
  if y15 = true then
    newv 61 c_addr_fault (⟨46, 0⟩ : addr_fault) >>= fun b27 =>
    addr_ParsePrefix.K1 r3 j8 (some (pt b27 0))
  else
    addr_ParsePrefix.K1 r3 j8 j12
theorem addr_ParsePrefix.K2_ok (b1 : Nat) (r3 : (api_IP × (Option Addr))) (b4 : Nat) (j8 : Int) (j12 : (Option Addr)) :
    SJ addr_ParsePrefix.cx [.code (c2 (c2 (c2 (c2 (c2 (c2 (c2 (c2 addr_ParsePrefix.B))))))))] [(2, .pointer (some (pt b1 0))), (8, .pointer (some (pt b4 0))), (9, .pointer j12), (10, .int .i64 j8)] [(b4, c_api_IP.enc r3.1), (b1, c_api_Prefix.enc z_api_Prefix)] (addr_ParsePrefix.K2 r3 j8 j12) addr_ParsePrefix.F0 := by
  unfold addr_ParsePrefix.K2
  refine SJ.sr 5 ?_
  refine OJ.kld (d := 57) (y := .tmp 8) (cd := c_api_IP) (j := 0) (b := b4) (o := 0) r3.1 (pend2 := []) Ty27 rfl (At.whole _) rfl ?_
  refine OJ.go 1 [(58, .int .i64 j8)] ?_
  refine OJ.build (d := 59) (T := 37) (parts := [(0, .tmp 57), (1, .tmp 58)]) (ps := [(0, c_api_IP.val r3.1), (1, (cI .i64).val j8)]) (cd := c_api_Prefix) (z0 := z_api_Prefix) (⟨r3.1, j8⟩ : api_Prefix) Ty37 rfl (Filled.cons (cd := c_api_IP) (q := r3.1) (o := 0) (by kernel_rfl) (Up_api_Prefix_IP z_api_Prefix r3.1) (Filled.cons (cd := (cI .i64)) (q := j8) (o := 17) (by kernel_rfl) (Up_api_Prefix_Len (⟨r3.1, z_api_Prefix.Len⟩ : api_Prefix) j8) Filled.nil)) ?_
  refine OJ.slotOf (d := 12) (op := (.alloc 37)) (cd := c_api_Prefix) (u := z_api_Prefix) (owed := []) (alloc_run Ty37) (fun b13 => ?_)
  refine OW.nil ?_
  refine OJ.kst (y := .tmp 12) (z := .tmp 59) (cd := c_api_Prefix) (u := (⟨r3.1, j8⟩ : api_Prefix)) (j := 0) (b := b13) (o := 0) (c_api_Prefix.enc (⟨r3.1, j8⟩ : api_Prefix)) (owed := []) Ty37 rfl (Upd.whole ((Cod.len _ _).trans (Cod.len _ _).symm)) rfl ?_
  refine OW.nil ?_
  refine OJ.nil ?_
  refine SJ.seq ?_
  refine SJ.sr 7 ?_
  refine OJ.go 3 [(62, .bool (Option.isNone j12)), (61, .bool (Option.isNone j12)), (60, .pointer j12)] ?_
  refine OJ.join (b := (Option.isNone j12)) [3, 4, 5, 6] [] [2, 9, 12, 66] (fun y15 => [(2, .pointer (some (pt b1 0))), (9, .pointer j12), (12, .pointer (some (pt b13 0))), (66, .bool y15)]) [] [] (t := 62) Option.isNone_iff_eq_none (fun hp_ => ?_) (fun hp_ => ?_) (fun _ _ _ _ _ _ h_ => h_) (fun y15 => ?_)
  · refine OJ.kld (d := 63) (y := .tmp 12) (cd := c_api_Prefix) (j := 0) (b := b13) (o := 0) (⟨r3.1, j8⟩ : api_Prefix) (pend2 := []) Ty37 rfl (At.whole _) rfl ?_
    refine OJ.call (d := 64) (g := 14) (ats := #[37]) (args := [.tmp 63]) (owed := []) F14 (addr_ValidPrefix_ok (⟨r3.1, j8⟩ : api_Prefix)) (fun r14 => ?_)
    refine OW.nil ?_
    refine OJ.go 2 [(66, .bool (r14 != 0)), (65, .bool (r14 != 0))] ?_
    exact OJ.nil ⟨(Cov.mem Cov.nil), rfl, _, rfl, by kernel_rfl⟩
  · refine OJ.go 4 [(66, .bool false), (65, undef), (64, undef), (63, undef)] ?_
    exact OJ.nil ⟨(Cov.mem Cov.nil), rfl, _, rfl, by kernel_rfl⟩
  · refine OJ.nil ?_
    refine SJ.cond (t := (.tmp 66)) (b := y15) Iff.rfl (fun hc28 => ?_) (fun hc28 => ?_)
    · refine SJ.rg 3 ?_
      refine OJ.build (d := 67) (T := 61) (parts := [(0, .const (.int .i64 46)), (1, .const (.int .i64 0))]) (ps := [(0, (cI .i64).val 46), (1, (cI .i64).val 0)]) (cd := c_addr_fault) (z0 := z_addr_fault) (⟨46, 0⟩ : addr_fault) Ty61 rfl (Filled.cons (cd := (cI .i64)) (q := 46) (o := 0) (by kernel_rfl) (Up_addr_fault_why z_addr_fault 46) (Filled.cons (cd := (cI .i64)) (q := 0) (o := 1) (by kernel_rfl) (Up_addr_fault_at_ (⟨46, z_addr_fault.at_⟩ : addr_fault) 0) Filled.nil)) ?_
      refine OJ.newOf (d := 68) (op := (.box 61 (.tmp 67))) (cd := c_addr_fault) (u := (⟨46, 0⟩ : addr_fault)) (owed := []) (box_run (by kernel_rfl)) (fun b27 => ?_)
      refine OW.nil ?_
      refine OJ.go 1 [(9, .pointer (some (pt b27 0)))] ?_
      refine OJ.nil ?_
      refine SJ.forget (List.Sublist.cons_cons _ (List.Sublist.cons _ (List.Sublist.cons_cons _ List.Sublist.slnil))) ?_
      refine SJ.less [2, 9, 12] (m' := [(2, .pointer (some (pt b1 0))), (9, .pointer (some (pt b27 0))), (12, .pointer (some (pt b13 0)))]) ?_
      exact addr_ParsePrefix.K1_ok b1 r3 j8 b13 (some (pt b27 0))
    · refine SJ.skip ?_
      refine SJ.forget (List.Sublist.cons_cons _ (List.Sublist.cons _ (List.Sublist.cons_cons _ List.Sublist.slnil))) ?_
      refine SJ.less [2, 9, 12] (m' := [(2, .pointer (some (pt b1 0))), (9, .pointer j12), (12, .pointer (some (pt b13 0)))]) ?_
      exact addr_ParsePrefix.K1_ok b1 r3 j8 b13 j12
noncomputable def addr_ParsePrefix.K3 (a0 : ByteArray) (r3 : (api_IP × (Option Addr))) (j7 : (Option Addr)) (j8 : Int) (j9 : Int) : M (api_Prefix × Int × Int) :=
  (if j7 = none then
      pure (decide (j9 < (a0.size : Int)))
    else
      pure false) >>= fun y10 =>
  if y10 = true then
    newv 61 c_addr_fault (⟨41, j9⟩ : addr_fault) >>= fun b29 =>
    addr_ParsePrefix.K2 r3 j8 (some (pt b29 0))
  else
    addr_ParsePrefix.K2 r3 j8 j7
theorem addr_ParsePrefix.K3_ok (a0 : ByteArray) (b1 : Nat) (r3 : (api_IP × (Option Addr))) (b4 : Nat) (j7 : (Option Addr)) (j8 : Int) (j9 : Int) :
    SJ addr_ParsePrefix.cx [.code (c2 (c2 (c2 (c2 (c2 (c2 (c2 addr_ParsePrefix.B)))))))] [(0, .string a0), (2, .pointer (some (pt b1 0))), (8, .pointer (some (pt b4 0))), (9, .pointer j7), (10, .int .i64 j8), (11, .int .i64 j9)] [(b4, c_api_IP.enc r3.1), (b1, c_api_Prefix.enc z_api_Prefix)] (addr_ParsePrefix.K3 a0 r3 j7 j8 j9) addr_ParsePrefix.F0 := by
  unfold addr_ParsePrefix.K3
  refine SJ.seq ?_
  refine SJ.sr 8 ?_
  refine OJ.go 3 [(48, .bool (Option.isNone j7)), (47, .bool (Option.isNone j7)), (46, .pointer j7)] ?_
  refine OJ.join (b := (Option.isNone j7)) [3, 4, 5, 6, 7] [] [2, 8, 9, 10, 11, 53] (fun y10 => [(2, .pointer (some (pt b1 0))), (8, .pointer (some (pt b4 0))), (9, .pointer j7), (10, .int .i64 j8), (11, .int .i64 j9), (53, .bool y10)]) [] [] (t := 48) Option.isNone_iff_eq_none (fun hp_ => ?_) (fun hp_ => ?_) (fun _ _ _ _ _ _ h_ => h_) (fun y10 => ?_)
  · refine OJ.go 5 [(53, .bool (decide (j9 < (a0.size : Int)))), (52, .bool (decide (j9 < (a0.size : Int)))), (51, .int .i64 (a0.size : Int)), (50, .string a0), (49, .int .i64 j9)] ?_
    exact OJ.nil ⟨(Cov.mem Cov.nil), rfl, _, rfl, by kernel_rfl⟩
  · refine OJ.go 5 [(53, .bool false), (52, undef), (51, undef), (50, undef), (49, undef)] ?_
    exact OJ.nil ⟨(Cov.mem Cov.nil), rfl, _, rfl, by kernel_rfl⟩
  · refine OJ.nil ?_
    refine SJ.cond (t := (.tmp 53)) (b := y10) Iff.rfl (fun hc30 => ?_) (fun hc30 => ?_)
    · refine SJ.rg 4 ?_
      refine OJ.go 1 [(54, .int .i64 j9)] ?_
      refine OJ.build (d := 55) (T := 61) (parts := [(0, .const (.int .i64 41)), (1, .tmp 54)]) (ps := [(0, (cI .i64).val 41), (1, (cI .i64).val j9)]) (cd := c_addr_fault) (z0 := z_addr_fault) (⟨41, j9⟩ : addr_fault) Ty61 rfl (Filled.cons (cd := (cI .i64)) (q := 41) (o := 0) (by kernel_rfl) (Up_addr_fault_why z_addr_fault 41) (Filled.cons (cd := (cI .i64)) (q := j9) (o := 1) (by kernel_rfl) (Up_addr_fault_at_ (⟨41, z_addr_fault.at_⟩ : addr_fault) j9) Filled.nil)) ?_
      refine OJ.newOf (d := 56) (op := (.box 61 (.tmp 55))) (cd := c_addr_fault) (u := (⟨41, j9⟩ : addr_fault)) (owed := []) (box_run (by kernel_rfl)) (fun b29 => ?_)
      refine OW.nil ?_
      refine OJ.go 1 [(9, .pointer (some (pt b29 0)))] ?_
      refine OJ.nil ?_
      refine SJ.less [2, 8, 9, 10] (m' := [(2, .pointer (some (pt b1 0))), (8, .pointer (some (pt b4 0))), (9, .pointer (some (pt b29 0))), (10, .int .i64 j8)]) ?_
      exact addr_ParsePrefix.K2_ok b1 r3 b4 j8 (some (pt b29 0))
    · refine SJ.skip ?_
      refine SJ.less [2, 8, 9, 10] (m' := [(2, .pointer (some (pt b1 0))), (8, .pointer (some (pt b4 0))), (9, .pointer j7), (10, .int .i64 j8)]) ?_
      exact addr_ParsePrefix.K2_ok b1 r3 b4 j8 j7
noncomputable def addr_ParsePrefix (a0 : ByteArray) : M (api_Prefix × Int × Int) :=
  slot 37 >>= fun b1 =>
  if (a0.size : Int) > 49 then
    pure (z_api_Prefix, 2, 49)
  else
    strings_Cut a0 str13 >>= fun r2 =>
    if ¬ (r2.2.2 = true) then
      pure (z_api_Prefix, 42, (a0.size : Int))
    else
      addr_parse r2.1 >>= fun r3 =>
      slot 27 >>= fun b4 =>
      if r3.2 = none then
        addr_size r3.1 >>= fun r31 =>
        addr_number a0 (IntKind.wrap .i64 ((r2.1.size : Int) + 1)) r31 45 >>= fun r32 =>
        addr_ParsePrefix.K3 a0 r3 r32.2.2 r32.1 r32.2.1
      else
        addr_ParsePrefix.K3 a0 r3 r3.2 0 0
theorem addr_ParsePrefix_ok (a0 : ByteArray) : Ref Tryd.prog 20 [.string a0] (addr_ParsePrefix a0) addr_ParsePrefix.out := by
  refine Ref.of (cd := addr_ParsePrefix.B) Tryd.func20 ?_
  show SJ addr_ParsePrefix.cx [.code addr_ParsePrefix.B] [(0, .string a0)] [] (addr_ParsePrefix a0) addr_ParsePrefix.F0
  unfold addr_ParsePrefix
  refine SJ.sr 3 ?_
  refine OJ.slotOf (d := 2) (op := (.alloc 37)) (cd := c_api_Prefix) (u := z_api_Prefix) (owed := []) (alloc_run Ty37) (fun b1 => ?_)
  refine OW.nil ?_
  refine OJ.go 2 [(4, .int .i64 0), (3, .int .i64 0)] ?_
  refine OJ.nil ?_
  refine SJ.seq ?_
  refine SJ.sr 3 ?_
  refine OJ.go 3 [(15, .bool (decide ((a0.size : Int) > 49))), (14, .int .i64 (a0.size : Int)), (13, .string a0)] ?_
  refine OJ.nil ?_
  refine SJ.cond (t := (.tmp 15)) (b := decide ((a0.size : Int) > 49)) decide_eq_true_iff (fun hc35 => ?_) (fun hc35 => ?_)
  · refine SJ.sr 4 ?_
    refine OJ.build (d := 16) (T := 37) (parts := []) (ps := []) (cd := c_api_Prefix) (z0 := z_api_Prefix) z_api_Prefix Ty37 rfl Filled.nil ?_
    refine OJ.kst (y := .tmp 2) (z := .tmp 16) (cd := c_api_Prefix) (u := z_api_Prefix) (j := 0) (b := b1) (o := 0) (c_api_Prefix.enc z_api_Prefix) (owed := []) Ty37 rfl (Upd.whole ((Cod.len _ _).trans (Cod.len _ _).symm)) rfl ?_
    refine OW.nil ?_
    refine OJ.go 2 [(4, .int .i64 49), (3, .int .i64 2)] ?_
    refine OJ.nil ?_
    exact SJ.ret rfl (Res.run (ys := [c_api_Prefix.val z_api_Prefix, .int .i64 2, .int .i64 49]) (.cell (j := 0) (b := b1) (cd := c_api_Prefix) (q := z_api_Prefix) (by kernel_rfl) rfl Ty37 (At.whole _) (.tmp (by kernel_rfl) (.tmp (by kernel_rfl) .nil))) rfl)
  · refine SJ.skip ?_
    refine SJ.sr 9 ?_
    refine OJ.go 1 [(18, .string a0)] ?_
    refine OJ.call (d := 19) (g := 34) (ats := #[9, 9]) (args := [.tmp 18, .const (.string str13)]) (owed := []) F34 (strings_Cut_ok a0 str13) (fun r2 => ?_)
    refine OW.nil ?_
    refine OJ.go 7 [(7, .bool r2.2.2), (6, .string r2.2.1), (5, .string r2.1), (22, .bool r2.2.2), (21, .string r2.2.1), (20, .string r2.1), (17, .tuple #[.string r2.1, .string r2.2.1, .bool r2.2.2])] ?_
    refine OJ.nil ?_
    refine SJ.seq ?_
    refine SJ.sr 2 ?_
    refine OJ.go 2 [(24, .bool (!r2.2.2)), (23, .bool r2.2.2)] ?_
    refine OJ.nil ?_
    refine SJ.cond (t := (.tmp 24)) (b := (!r2.2.2)) (bnot_iff Iff.rfl) (fun hc34 => ?_) (fun hc34 => ?_)
    · refine SJ.sr 6 ?_
      refine OJ.build (d := 25) (T := 37) (parts := []) (ps := []) (cd := c_api_Prefix) (z0 := z_api_Prefix) z_api_Prefix Ty37 rfl Filled.nil ?_
      refine OJ.go 2 [(27, .int .i64 (a0.size : Int)), (26, .string a0)] ?_
      refine OJ.kst (y := .tmp 2) (z := .tmp 25) (cd := c_api_Prefix) (u := z_api_Prefix) (j := 0) (b := b1) (o := 0) (c_api_Prefix.enc z_api_Prefix) (owed := []) Ty37 rfl (Upd.whole ((Cod.len _ _).trans (Cod.len _ _).symm)) rfl ?_
      refine OW.nil ?_
      refine OJ.go 2 [(4, .int .i64 (a0.size : Int)), (3, .int .i64 42)] ?_
      refine OJ.nil ?_
      exact SJ.ret rfl (Res.run (ys := [c_api_Prefix.val z_api_Prefix, .int .i64 42, .int .i64 (a0.size : Int)]) (.cell (j := 0) (b := b1) (cd := c_api_Prefix) (q := z_api_Prefix) (by kernel_rfl) rfl Ty37 (At.whole _) (.tmp (by kernel_rfl) (.tmp (by kernel_rfl) .nil))) rfl)
    · refine SJ.skip ?_
      refine SJ.sr 8 ?_
      refine OJ.go 1 [(29, .string r2.1)] ?_
      refine OJ.call (d := 30) (g := 23) (ats := #[9]) (args := [.tmp 29]) (owed := []) F23 (addr_parse_ok r2.1) (fun r3 => ?_)
      refine OW.nil ?_
      refine OJ.go 3 [(32, .pointer r3.2), (31, c_api_IP.val r3.1), (28, .tuple #[c_api_IP.val r3.1, .pointer r3.2])] ?_
      refine OJ.slotOf (d := 8) (op := (.alloc 27)) (cd := c_api_IP) (u := z_api_IP) (owed := []) (alloc_run Ty27) (fun b4 => ?_)
      refine OW.nil ?_
      refine OJ.kst (y := .tmp 8) (z := .tmp 31) (cd := c_api_IP) (u := r3.1) (j := 0) (b := b4) (o := 0) (c_api_IP.enc r3.1) (owed := []) Ty27 rfl (Upd.whole ((Cod.len _ _).trans (Cod.len _ _).symm)) rfl ?_
      refine OW.nil ?_
      refine OJ.go 1 [(9, .pointer r3.2)] ?_
      refine OJ.nil ?_
      refine SJ.sr 2 ?_
      refine OJ.go 2 [(11, .int .i64 0), (10, .int .i64 0)] ?_
      refine OJ.nil ?_
      refine SJ.seq ?_
      refine SJ.sr 2 ?_
      refine OJ.go 2 [(34, .bool (Option.isNone r3.2)), (33, .pointer r3.2)] ?_
      refine OJ.nil ?_
      refine SJ.cond (t := (.tmp 34)) (b := (Option.isNone r3.2)) Option.isNone_iff_eq_none (fun hc33 => ?_) (fun hc33 => ?_)
      · refine SJ.rg 14 ?_
        refine OJ.go 4 [(39, .int .i64 (IntKind.wrap .i64 ((r2.1.size : Int) + 1))), (38, .int .i64 (r2.1.size : Int)), (37, .string r2.1), (36, .string a0)] ?_
        refine OJ.kld (d := 40) (y := .tmp 8) (cd := c_api_IP) (j := 0) (b := b4) (o := 0) r3.1 (pend2 := []) Ty27 rfl (At.whole _) rfl ?_
        refine OJ.call (d := 41) (g := 26) (ats := #[27]) (args := [.tmp 40]) (owed := []) F26 (addr_size_ok r3.1) (fun r31 => ?_)
        refine OW.nil ?_
        refine OJ.call (d := 42) (g := 35) (ats := #[9, 3, 3, 28]) (args := [.tmp 36, .tmp 39, .tmp 41, .const (.int .i64 45)]) (owed := []) F35 (addr_number_ok a0 (IntKind.wrap .i64 ((r2.1.size : Int) + 1)) r31 45) (fun r32 => ?_)
        refine OW.nil ?_
        refine OJ.go 7 [(9, .pointer r32.2.2), (11, .int .i64 r32.2.1), (10, .int .i64 r32.1), (45, .pointer r32.2.2), (44, .int .i64 r32.2.1), (43, .int .i64 r32.1), (35, .tuple #[.int .i64 r32.1, .int .i64 r32.2.1, .pointer r32.2.2])] ?_
        refine OJ.nil ?_
        refine SJ.less [0, 2, 8, 9, 10, 11] (m' := [(0, .string a0), (2, .pointer (some (pt b1 0))), (8, .pointer (some (pt b4 0))), (9, .pointer r32.2.2), (10, .int .i64 r32.1), (11, .int .i64 r32.2.1)]) ?_
        exact addr_ParsePrefix.K3_ok a0 b1 r3 b4 r32.2.2 r32.1 r32.2.1
      · refine SJ.skip ?_
        refine SJ.less [0, 2, 8, 9, 10, 11] (m' := [(0, .string a0), (2, .pointer (some (pt b1 0))), (8, .pointer (some (pt b4 0))), (9, .pointer r3.2), (10, .int .i64 0), (11, .int .i64 0)]) ?_
        exact addr_ParsePrefix.K3_ok a0 b1 r3 b4 r3.2 0 0

/-! ### (*strings.Builder).WriteByte: function 32 -/
noncomputable def strings_Builder_WriteByte.B : Code := (Tryd.f32.body).getD .skip
noncomputable def strings_Builder_WriteByte.cx : Fx := ⟨Tryd.prog, 32, Tryd.f32⟩
noncomputable def strings_Builder_WriteByte.out (r_ : Any) : Value := r_.v
noncomputable def strings_Builder_WriteByte.F0 (r_ : Any) : Reach := .ret (strings_Builder_WriteByte.out r_)
noncomputable def strings_Builder_WriteByte (a0 : (Option Addr)) (a1 : Int) : M Any :=
  strings_Builder_copyCheck a0 >>= fun r1 =>
  nilck a0 >>= fun p2 =>
  ld cL (Addr.add p2 1) >>= fun x3 =>
  slot 5 >>= fun b4 =>
  appl (cI .u8) 5 1 0 x3 [a1] >>= fun r5 =>
  nilck a0 >>= fun p6 =>
  st cL (Addr.add p6 1) r5 >>= fun _ =>
  pure (⟨.nilIface, rfl⟩ : Any)
theorem strings_Builder_WriteByte_ok (a0 : (Option Addr)) (a1 : Int) : Ref Tryd.prog 32 [.pointer a0, .int .u8 a1] (strings_Builder_WriteByte a0 a1) strings_Builder_WriteByte.out := by
  refine Ref.of (cd := strings_Builder_WriteByte.B) Tryd.func32 ?_
  show SJ strings_Builder_WriteByte.cx [.code strings_Builder_WriteByte.B] [(0, .pointer a0), (1, .int .u8 a1)] [] (strings_Builder_WriteByte a0 a1) strings_Builder_WriteByte.F0
  unfold strings_Builder_WriteByte
  refine SJ.sr 1 ?_
  refine OJ.go 1 [(4, (⟨.nilIface, rfl⟩ : Any).v)] ?_
  refine OJ.nil ?_
  refine SJ.sr 2 ?_
  refine OJ.go 1 [(5, .pointer a0)] ?_
  refine OJ.call (d := 6) (g := 44) (ats := #[73]) (args := [.tmp 5]) (owed := []) F44 (strings_Builder_copyCheck_ok a0) (fun r1 => ?_)
  refine OW.nil ?_
  refine OJ.nil ?_
  refine SJ.sr 11 ?_
  refine OJ.go 2 [(8, .pointer a0), (7, .pointer a0)] ?_
  refine OJ.nilck (d := 9) (y := .tmp 8) (fun p2 => ?_)
  refine OJ.go 1 [(10, .pointer (some (Addr.add p2 1)))] ?_
  refine OJ.ld (d := 11) (y := .tmp 10) (pend2 := fun x3 => []) Ty55 (fun _ => rfl) (fun x3 => ?_)
  refine OJ.go 1 [(12, .int .u8 a1)] ?_
  refine OJ.rowSlot (d := 13) (t := 55) (parts := [(0, .tmp 12)]) (ps := [(0, (cI .u8).val a1)]) (cd := (cI .u8)) (⟨[a1], rfl⟩ : Vec Int 1) (owed := []) Ty5 (Filled.cons (cd := (cI .u8)) (q := a1) (o := 0) rfl (Upd.arr (i := 0) (by decide) (by decide)) Filled.nil) (fun b4 => ?_)
  refine OW.nil ?_
  refine OJ.appl (d := 14) (t := 55) (u := 55) (so := .tmp 11) (xo := .tmp 13) (j := 0) (b := b4) (l := ((cI .u8).arr 1).enc (⟨[a1], rfl⟩ : Vec Int 1)) (n := 1) (k := 1) [a1] (owed := []) Ty5 (by rfl) (Cod.arr_enc _ _ _) (by rfl) (fun r5 => ?_)
  refine OW.nil ?_
  refine OJ.nilck (d := 15) (y := .tmp 7) (fun p6 => ?_)
  refine OJ.go 1 [(16, .pointer (some (Addr.add p6 1)))] ?_
  refine OJ.st (y := .tmp 16) (z := .tmp 14) (owed := []) Ty55 ?_
  refine OW.nil ?_
  refine OJ.nil ?_
  refine SJ.sr 1 ?_
  refine OJ.go 1 [(4, (⟨.nilIface, rfl⟩ : Any).v)] ?_
  refine OJ.nil ?_
  exact SJ.ret rfl (Res.run (ys := [(⟨.nilIface, rfl⟩ : Any).v]) (.tmp (by kernel_rfl) .nil) rfl)

/-! ### weir/addr.PrintMac: function 18 -/
noncomputable def addr_PrintMac.B : Code := (Tryd.f18.body).getD .skip
noncomputable def addr_PrintMac.cx : Fx := ⟨Tryd.prog, 18, Tryd.f18⟩
noncomputable def addr_PrintMac.out (r_ : ByteArray) : Value := .string r_
noncomputable def addr_PrintMac.F0 (r_ : ByteArray) : Reach := .ret (addr_PrintMac.out r_)
noncomputable def addr_PrintMac.F1 (a0 : (Vec Int 6)) (b2 : Nat) : (LS Int ByteArray) → Reach := loopF [.inLoop (c1 (c1 (c2 (c1 (c2 (c2 addr_PrintMac.B)))))), .inBlock 0, .code (c2 (c2 (c2 addr_PrintMac.B)))] (fun s_ : Int => [(3, .pointer (some (pt b2 0))), (6, ((cI .u8).arr 6).val a0), (7, .int .i64 s_)]) (fun s_ : Int => []) addr_PrintMac.F0
noncomputable def addr_PrintMac.K1 (a0 : (Vec Int 6)) (b2 : Nat) (s3 : Int) : M (LS Int ByteArray) :=
  chk ((0 : Int) ≤ (Int.fdiv (Vec.g a0 s3 0) (2 ^ 4)) ∧ (Int.fdiv (Vec.g a0 s3 0) (2 ^ 4)) < (str0.size : Int)) >>= fun _ =>
  strings_Builder_WriteByte (some (pt b2 0)) (sb str0 (Int.fdiv (Vec.g a0 s3 0) (2 ^ 4))) >>= fun r22 =>
  chk ((0 : Int) ≤ (band .u8 (Vec.g a0 s3 0) 15) ∧ (band .u8 (Vec.g a0 s3 0) 15) < (str0.size : Int)) >>= fun _ =>
  strings_Builder_WriteByte (some (pt b2 0)) (sb str0 (band .u8 (Vec.g a0 s3 0) 15)) >>= fun r25 =>
  pure (LS.next (IntKind.wrap .i64 (s3 + 1)))
theorem addr_PrintMac.K1_ok (a0 : (Vec Int 6)) (b2 : Nat) (s3 : Int) :
    SJ addr_PrintMac.cx [.code (c2 (c2 (c1 (c1 (c2 (c2 (c1 (c1 (c2 (c1 (c2 (c2 addr_PrintMac.B)))))))))))), .inBlock 1, .code (c2 (c2 (c2 (c1 (c1 (c2 (c1 (c2 (c2 addr_PrintMac.B))))))))), .inLoop (c1 (c1 (c2 (c1 (c2 (c2 addr_PrintMac.B)))))), .inBlock 0, .code (c2 (c2 (c2 addr_PrintMac.B)))] [(3, .pointer (some (pt b2 0))), (6, ((cI .u8).arr 6).val a0), (7, .int .i64 s3), (5, .int .u8 (Vec.g a0 s3 0))] [] (addr_PrintMac.K1 a0 b2 s3) (addr_PrintMac.F1 a0 b2) := by
  unfold addr_PrintMac.K1
  refine SJ.sr 4 ?_
  refine OJ.go 2 [(15, .int .u8 (Int.fdiv (Vec.g a0 s3 0) (2 ^ 4))), (14, .int .u8 (Vec.g a0 s3 0))] ?_
  refine OJ.idxT (d := 16) (T := 9) (y := .const (.string str0)) (j := .tmp 15) (k := .u8) (fun hb20 hb21 => ?_)
  refine OJ.call (d := 17) (g := 32) (ats := #[75, 5]) (args := [.tmp 3, .tmp 16]) (owed := []) F32 (strings_Builder_WriteByte_ok (some (pt b2 0)) (sb str0 (Int.fdiv (Vec.g a0 s3 0) (2 ^ 4)))) (fun r22 => ?_)
  refine OW.nil ?_
  refine OJ.nil ?_
  refine SJ.rg 4 ?_
  refine OJ.go 2 [(19, .int .u8 (band .u8 (Vec.g a0 s3 0) 15)), (18, .int .u8 (Vec.g a0 s3 0))] ?_
  refine OJ.idxT (d := 20) (T := 9) (y := .const (.string str0)) (j := .tmp 19) (k := .u8) (fun hb23 hb24 => ?_)
  refine OJ.call (d := 21) (g := 32) (ats := #[75, 5]) (args := [.tmp 3, .tmp 20]) (owed := []) F32 (strings_Builder_WriteByte_ok (some (pt b2 0)) (sb str0 (band .u8 (Vec.g a0 s3 0) 15))) (fun r25 => ?_)
  refine OW.nil ?_
  refine OJ.nil ?_
  refine SJ.inBlock ?_
  refine SJ.rg 2 ?_
  refine OJ.go 2 [(7, .int .i64 (IntKind.wrap .i64 (s3 + 1))), (22, .int .i64 (IntKind.wrap .i64 (s3 + 1)))] ?_
  refine OJ.nil ?_
  exact SJ.at_ [3, 6, 7] rfl
noncomputable def addr_PrintMac.L1 (a0 : (Vec Int 6)) (b2 : Nat) (s3 : Int) : M (LS Int ByteArray) :=
  if s3 < 6 then
    chk ((0 : Int) ≤ s3 ∧ s3 < (6 : Nat)) >>= fun _ =>
    if s3 > 0 then
      strings_Builder_WriteByte (some (pt b2 0)) 58 >>= fun r26 =>
      addr_PrintMac.K1 a0 b2 s3
    else
      addr_PrintMac.K1 a0 b2 s3
  else
    strings_Builder_String (some (pt b2 0)) >>= fun r28 =>
    pure (LS.done r28)
theorem addr_PrintMac.L1_ok (a0 : (Vec Int 6)) (b2 : Nat) (s3 : Int) :
    SJ addr_PrintMac.cx [.code (c1 (c1 (c2 (c1 (c2 (c2 addr_PrintMac.B)))))), .inLoop (c1 (c1 (c2 (c1 (c2 (c2 addr_PrintMac.B)))))), .inBlock 0, .code (c2 (c2 (c2 addr_PrintMac.B)))] [(3, .pointer (some (pt b2 0))), (6, ((cI .u8).arr 6).val a0), (7, .int .i64 s3)] [] (addr_PrintMac.L1 a0 b2 s3) (addr_PrintMac.F1 a0 b2) := by
  unfold addr_PrintMac.L1
  refine SJ.sr 1 ?_
  refine OJ.go 1 [(8, .bool (decide (s3 < 6)))] ?_
  refine OJ.nil ?_
  refine SJ.seq ?_
  refine SJ.cond (t := (.tmp 8)) (b := decide (s3 < 6)) decide_eq_true_iff (fun hc29 => ?_) (fun hc29 => ?_)
  · refine SJ.skip ?_
    refine SJ.seq ?_
    refine SJ.block (id := 1) ?_
    refine SJ.sr 4 ?_
    refine OJ.go 1 [(9, .int .i64 s3)] ?_
    refine OJ.idxV (d := 10) (T := 42) (E := 5) (y := .tmp 6) (j := .tmp 7) (k := .i64) (v0 := a0) Ty5 (fun hb17 hb18 => ?_)
    refine OJ.go 2 [(5, .int .u8 (Vec.g a0 s3 0)), (4, .int .i64 s3)] ?_
    refine OJ.nil ?_
    refine SJ.seq ?_
    refine SJ.sr 2 ?_
    refine OJ.go 2 [(12, .bool (decide (s3 > 0))), (11, .int .i64 s3)] ?_
    refine OJ.nil ?_
    refine SJ.cond (t := (.tmp 12)) (b := decide (s3 > 0)) decide_eq_true_iff (fun hc27 => ?_) (fun hc27 => ?_)
    · refine SJ.rg 1 ?_
      refine OJ.call (d := 13) (g := 32) (ats := #[75, 5]) (args := [.tmp 3, .const (.int .u8 58)]) (owed := []) F32 (strings_Builder_WriteByte_ok (some (pt b2 0)) 58) (fun r26 => ?_)
      refine OW.nil ?_
      refine OJ.nil ?_
      refine SJ.less [3, 6, 7, 5] (m' := [(3, .pointer (some (pt b2 0))), (6, ((cI .u8).arr 6).val a0), (7, .int .i64 s3), (5, .int .u8 (Vec.g a0 s3 0))]) ?_
      exact addr_PrintMac.K1_ok a0 b2 s3
    · refine SJ.skip ?_
      refine SJ.less [3, 6, 7, 5] (m' := [(3, .pointer (some (pt b2 0))), (6, ((cI .u8).arr 6).val a0), (7, .int .i64 s3), (5, .int .u8 (Vec.g a0 s3 0))]) ?_
      exact addr_PrintMac.K1_ok a0 b2 s3
  · refine SJ.exit (id := 0) (by rfl) ?_
    refine SJ.sr 2 ?_
    refine OJ.call (d := 23) (g := 33) (ats := #[75]) (args := [.tmp 3]) (owed := []) F33 (strings_Builder_String_ok (some (pt b2 0))) (fun r28 => ?_)
    refine OW.nil ?_
    refine OJ.go 1 [(2, .string r28)] ?_
    refine OJ.nil ?_
    exact SJ.ret rfl (Res.run (ys := [.string r28]) (.tmp (by kernel_rfl) .nil) rfl)
noncomputable def addr_PrintMac (a0 : (Vec Int 6)) : M ByteArray :=
  slot 42 >>= fun b1 =>
  newv 75 c_strings_Builder z_strings_Builder >>= fun b2 =>
  loopM (fun s_ : Int => addr_PrintMac.L1 a0 b2 s_) 0
theorem addr_PrintMac_ok (a0 : (Vec Int 6)) : Ref Tryd.prog 18 [((cI .u8).arr 6).val a0] (addr_PrintMac a0) addr_PrintMac.out := by
  refine Ref.of (cd := addr_PrintMac.B) Tryd.func18 ?_
  show SJ addr_PrintMac.cx [.code addr_PrintMac.B] [(0, ((cI .u8).arr 6).val a0)] [] (addr_PrintMac a0) addr_PrintMac.F0
  unfold addr_PrintMac
  refine SJ.sr 2 ?_
  refine OJ.slotOf (d := 1) (op := (.box 42 (.tmp 0))) (cd := ((cI .u8).arr 6)) (u := a0) (owed := []) (box_run (by kernel_rfl)) (fun b1 => ?_)
  refine OW.nil ?_
  refine OJ.go 1 [(2, .string ByteArray.empty)] ?_
  refine OJ.nil ?_
  refine SJ.sr 1 ?_
  refine OJ.newOf (d := 3) (op := (.alloc 75)) (cd := c_strings_Builder) (u := z_strings_Builder) (owed := []) (alloc_run Ty75) (fun b2 => ?_)
  refine OW.nil ?_
  refine OJ.nil ?_
  refine SJ.seq ?_
  refine SJ.sr 2 ?_
  refine OJ.kld (d := 6) (y := .tmp 1) (cd := ((cI .u8).arr 6)) (j := 0) (b := b1) (o := 0) a0 (pend2 := []) Ty42 rfl (At.whole _) rfl ?_
  refine OJ.go 1 [(7, .int .i64 0)] ?_
  refine OJ.nil ?_
  refine SJ.block (id := 0) ?_
  refine SJ.forget (List.Sublist.cons _ List.Sublist.slnil) ?_
  exact SJ.loop (fun s_ : Int => [(3, .pointer (some (pt b2 0))), (6, ((cI .u8).arr 6).val a0), (7, .int .i64 s_)]) (fun s_ : Int => []) [3, 6, 7] rfl (fun _ _ => rfl) (fun s_ => addr_PrintMac.L1_ok a0 b2 s_)

/-! ### weir/addr.ParseMac: function 21 -/
noncomputable def addr_ParseMac.B : Code := (Tryd.f21.body).getD .skip
noncomputable def addr_ParseMac.cx : Fx := ⟨Tryd.prog, 21, Tryd.f21⟩
noncomputable def addr_ParseMac.out (r_ : ((Vec Int 6) × Int × Int)) : Value := .tuple #[((cI .u8).arr 6).val r_.1, .int .i64 r_.2.1, .int .i64 r_.2.2]
noncomputable def addr_ParseMac.F0 (r_ : ((Vec Int 6) × Int × Int)) : Reach := .ret (addr_ParseMac.out r_)
noncomputable def addr_ParseMac.F1 (a0 : ByteArray) (b1 : Nat) (b2 : Nat) : (LS (Int × (Vec Int 6) × (Vec Int 6)) ((Vec Int 6) × Int × Int)) → Reach := loopF [.inLoop (c1 (c1 (c2 (c1 (c2 (c2 (c2 addr_ParseMac.B))))))), .inBlock 0, .code (c2 (c2 (c2 (c2 addr_ParseMac.B))))] (fun s_ : (Int × (Vec Int 6) × (Vec Int 6)) => [(0, .string a0), (2, .pointer (some (pt b1 0))), (5, .pointer (some (pt b2 0))), (12, .int .i64 s_.1)]) (fun s_ : (Int × (Vec Int 6) × (Vec Int 6)) => [(b2, ((cI .u8).arr 6).enc s_.2.1), (b1, ((cI .u8).arr 6).enc s_.2.2)]) addr_ParseMac.F0
noncomputable def addr_ParseMac.L1 (a0 : ByteArray) (s3 : Int) (s4 : (Vec Int 6)) (s5 : (Vec Int 6)) : M (LS (Int × (Vec Int 6) × (Vec Int 6)) ((Vec Int 6) × Int × Int)) :=
  if s3 < 17 then
    if s3 = (a0.size : Int) then
      pure (LS.done ((⟨[0, 0, 0, 0, 0, 0], rfl⟩ : (Vec Int 6)), 42, s3))
    else
      if (Int.tmod s3 3) = 2 then
        chk ((0 : Int) ≤ s3 ∧ s3 < (a0.size : Int)) >>= fun _ =>
        if (sb a0 s3) ≠ 58 then
          pure (LS.done ((⟨[0, 0, 0, 0, 0, 0], rfl⟩ : (Vec Int 6)), 41, s3))
        else
          pure (LS.next (IntKind.wrap .i64 (s3 + 1), s4, s5))
      else
        chk ((0 : Int) ≤ s3 ∧ s3 < (a0.size : Int)) >>= fun _ =>
        addr_hexa (sb a0 s3) >>= fun r31 =>
        if r31 < 0 then
          pure (LS.done ((⟨[0, 0, 0, 0, 0, 0], rfl⟩ : (Vec Int 6)), 41, s3))
        else
          chk ((0 : Int) ≤ (IntKind.wrap .i64 (Int.tdiv s3 3)) ∧ (IntKind.wrap .i64 (Int.tdiv s3 3)) < (6 : Nat)) >>= fun _ =>
          chk ((0 : Int) ≤ (IntKind.wrap .i64 (Int.tdiv s3 3)) ∧ (IntKind.wrap .i64 (Int.tdiv s3 3)) < (6 : Nat)) >>= fun _ =>
          pure (LS.next (IntKind.wrap .i64 (s3 + 1), (Vec.s s4 (IntKind.wrap .i64 (Int.tdiv s3 3)) (bor .u8 (IntKind.wrap .u8 ((Vec.g s4 (IntKind.wrap .i64 (Int.tdiv s3 3)) 0) * 2 ^ 4)) (IntKind.wrap .u8 r31))), s5))
  else
    pure (LS.done (s4, 0, 0))
theorem addr_ParseMac.L1_ok (a0 : ByteArray) (b1 : Nat) (b2 : Nat) (s3 : Int) (s4 : (Vec Int 6)) (s5 : (Vec Int 6)) :
    SJ addr_ParseMac.cx [.code (c1 (c1 (c2 (c1 (c2 (c2 (c2 addr_ParseMac.B))))))), .inLoop (c1 (c1 (c2 (c1 (c2 (c2 (c2 addr_ParseMac.B))))))), .inBlock 0, .code (c2 (c2 (c2 (c2 addr_ParseMac.B))))] [(0, .string a0), (2, .pointer (some (pt b1 0))), (5, .pointer (some (pt b2 0))), (12, .int .i64 s3)] [(b2, ((cI .u8).arr 6).enc s4), (b1, ((cI .u8).arr 6).enc s5)] (addr_ParseMac.L1 a0 s3 s4 s5) (addr_ParseMac.F1 a0 b1 b2) := by
  unfold addr_ParseMac.L1
  refine SJ.sr 1 ?_
  refine OJ.go 1 [(13, .bool (decide (s3 < 17)))] ?_
  refine OJ.nil ?_
  refine SJ.seq ?_
  refine SJ.cond (t := (.tmp 13)) (b := decide (s3 < 17)) decide_eq_true_iff (fun hc39 => ?_) (fun hc39 => ?_)
  · refine SJ.skip ?_
    refine SJ.seq ?_
    refine SJ.block (id := 1) ?_
    refine SJ.sr 2 ?_
    refine OJ.go 2 [(6, .int .i64 s3), (14, .int .i64 s3)] ?_
    refine OJ.nil ?_
    refine SJ.seq ?_
    refine SJ.sr 4 ?_
    refine OJ.go 4 [(18, .bool (s3 == (a0.size : Int))), (17, .int .i64 (a0.size : Int)), (16, .string a0), (15, .int .i64 s3)] ?_
    refine OJ.nil ?_
    refine SJ.cond (t := (.tmp 18)) (b := (s3 == (a0.size : Int))) beq_iff_eq (fun hc38 => ?_) (fun hc38 => ?_)
    · refine SJ.sr 5 ?_
      refine OJ.build (d := 19) (T := 42) (parts := []) (ps := []) (cd := ((cI .u8).arr 6)) (z0 := (Vec.rep 6 0)) (⟨[0, 0, 0, 0, 0, 0], rfl⟩ : (Vec Int 6)) Ty42 rfl Filled.nil ?_
      refine OJ.go 1 [(20, .int .i64 s3)] ?_
      refine OJ.kst (y := .tmp 2) (z := .tmp 19) (cd := ((cI .u8).arr 6)) (u := (⟨[0, 0, 0, 0, 0, 0], rfl⟩ : (Vec Int 6))) (j := 1) (b := b1) (o := 0) (((cI .u8).arr 6).enc (⟨[0, 0, 0, 0, 0, 0], rfl⟩ : (Vec Int 6))) (owed := []) Ty42 rfl (Upd.whole ((Cod.len _ _).trans (Cod.len _ _).symm)) rfl ?_
      refine OW.nil ?_
      refine OJ.go 2 [(4, .int .i64 s3), (3, .int .i64 42)] ?_
      refine OJ.nil ?_
      exact SJ.ret rfl (Res.run (ys := [((cI .u8).arr 6).val (⟨[0, 0, 0, 0, 0, 0], rfl⟩ : (Vec Int 6)), .int .i64 42, .int .i64 s3]) (.cell (j := 1) (b := b1) (cd := ((cI .u8).arr 6)) (q := (⟨[0, 0, 0, 0, 0, 0], rfl⟩ : (Vec Int 6))) (by kernel_rfl) rfl Ty42 (At.whole _) (.tmp (by kernel_rfl) (.tmp (by kernel_rfl) .nil))) rfl)
    · refine SJ.skip ?_
      refine SJ.seq ?_
      refine SJ.sr 3 ?_
      refine OJ.go 3 [(23, .bool ((Int.tmod s3 3) == 2)), (22, .int .i64 (Int.tmod s3 3)), (21, .int .i64 s3)] ?_
      refine OJ.nil ?_
      refine SJ.cond (t := (.tmp 23)) (b := ((Int.tmod s3 3) == 2)) beq_iff_eq (fun hc37 => ?_) (fun hc37 => ?_)
      · refine SJ.seq ?_
        refine SJ.sr 4 ?_
        refine OJ.go 2 [(25, .int .i64 s3), (24, .string a0)] ?_
        refine OJ.idxT (d := 26) (T := 9) (y := .tmp 24) (j := .tmp 25) (k := .i64) (fun hb26 hb27 => ?_)
        refine OJ.go 1 [(27, .bool ((sb a0 s3) != 58))] ?_
        refine OJ.nil ?_
        refine SJ.cond (t := (.tmp 27)) (b := ((sb a0 s3) != 58)) bne_iff_ne (fun hc28 => ?_) (fun hc28 => ?_)
        · refine SJ.sr 5 ?_
          refine OJ.build (d := 28) (T := 42) (parts := []) (ps := []) (cd := ((cI .u8).arr 6)) (z0 := (Vec.rep 6 0)) (⟨[0, 0, 0, 0, 0, 0], rfl⟩ : (Vec Int 6)) Ty42 rfl Filled.nil ?_
          refine OJ.go 1 [(29, .int .i64 s3)] ?_
          refine OJ.kst (y := .tmp 2) (z := .tmp 28) (cd := ((cI .u8).arr 6)) (u := (⟨[0, 0, 0, 0, 0, 0], rfl⟩ : (Vec Int 6))) (j := 1) (b := b1) (o := 0) (((cI .u8).arr 6).enc (⟨[0, 0, 0, 0, 0, 0], rfl⟩ : (Vec Int 6))) (owed := []) Ty42 rfl (Upd.whole ((Cod.len _ _).trans (Cod.len _ _).symm)) rfl ?_
          refine OW.nil ?_
          refine OJ.go 2 [(4, .int .i64 s3), (3, .int .i64 41)] ?_
          refine OJ.nil ?_
          exact SJ.ret rfl (Res.run (ys := [((cI .u8).arr 6).val (⟨[0, 0, 0, 0, 0, 0], rfl⟩ : (Vec Int 6)), .int .i64 41, .int .i64 s3]) (.cell (j := 1) (b := b1) (cd := ((cI .u8).arr 6)) (q := (⟨[0, 0, 0, 0, 0, 0], rfl⟩ : (Vec Int 6))) (by kernel_rfl) rfl Ty42 (At.whole _) (.tmp (by kernel_rfl) (.tmp (by kernel_rfl) .nil))) rfl)
        · refine SJ.skip ?_
          refine SJ.exit (id := 1) (by rfl) ?_
          refine SJ.rg 2 ?_
          refine OJ.go 2 [(12, .int .i64 (IntKind.wrap .i64 (s3 + 1))), (49, .int .i64 (IntKind.wrap .i64 (s3 + 1)))] ?_
          refine OJ.nil ?_
          exact SJ.at_ [0, 2, 5, 12] rfl
      · refine SJ.skip ?_
        refine SJ.sr 5 ?_
        refine OJ.go 2 [(31, .int .i64 s3), (30, .string a0)] ?_
        refine OJ.idxT (d := 32) (T := 9) (y := .tmp 30) (j := .tmp 31) (k := .i64) (fun hb29 hb30 => ?_)
        refine OJ.call (d := 33) (g := 36) (ats := #[5]) (args := [.tmp 32]) (owed := []) F36 (addr_hexa_ok (sb a0 s3)) (fun r31 => ?_)
        refine OW.nil ?_
        refine OJ.go 1 [(7, .int .i64 r31)] ?_
        refine OJ.nil ?_
        refine SJ.seq ?_
        refine SJ.sr 2 ?_
        refine OJ.go 2 [(35, .bool (decide (r31 < 0))), (34, .int .i64 r31)] ?_
        refine OJ.nil ?_
        refine SJ.cond (t := (.tmp 35)) (b := decide (r31 < 0)) decide_eq_true_iff (fun hc36 => ?_) (fun hc36 => ?_)
        · refine SJ.sr 5 ?_
          refine OJ.build (d := 36) (T := 42) (parts := []) (ps := []) (cd := ((cI .u8).arr 6)) (z0 := (Vec.rep 6 0)) (⟨[0, 0, 0, 0, 0, 0], rfl⟩ : (Vec Int 6)) Ty42 rfl Filled.nil ?_
          refine OJ.go 1 [(37, .int .i64 s3)] ?_
          refine OJ.kst (y := .tmp 2) (z := .tmp 36) (cd := ((cI .u8).arr 6)) (u := (⟨[0, 0, 0, 0, 0, 0], rfl⟩ : (Vec Int 6))) (j := 1) (b := b1) (o := 0) (((cI .u8).arr 6).enc (⟨[0, 0, 0, 0, 0, 0], rfl⟩ : (Vec Int 6))) (owed := []) Ty42 rfl (Upd.whole ((Cod.len _ _).trans (Cod.len _ _).symm)) rfl ?_
          refine OW.nil ?_
          refine OJ.go 2 [(4, .int .i64 s3), (3, .int .i64 41)] ?_
          refine OJ.nil ?_
          exact SJ.ret rfl (Res.run (ys := [((cI .u8).arr 6).val (⟨[0, 0, 0, 0, 0, 0], rfl⟩ : (Vec Int 6)), .int .i64 41, .int .i64 s3]) (.cell (j := 1) (b := b1) (cd := ((cI .u8).arr 6)) (q := (⟨[0, 0, 0, 0, 0, 0], rfl⟩ : (Vec Int 6))) (by kernel_rfl) rfl Ty42 (At.whole _) (.tmp (by kernel_rfl) (.tmp (by kernel_rfl) .nil))) rfl)
        · refine SJ.skip ?_
          refine SJ.rg 12 ?_
          refine OJ.go 4 [(41, .int .i64 (IntKind.wrap .i64 (Int.tdiv s3 3))), (40, .int .i64 s3), (39, .int .i64 (IntKind.wrap .i64 (Int.tdiv s3 3))), (38, .int .i64 s3)] ?_
          refine OJ.idxK (d := 42) (T := 42) (y := .tmp 5) (j := .tmp 41) (E := 5) (sz := 1) (b := b2) (o := 0) (k := .i64) (fun hb32 hb33 => ?_)
          refine OJ.kld (d := 43) (y := .tmp 42) (cd := (cI .u8)) (j := 0) (b := b2) (o := (0 + (IntKind.wrap .i64 (Int.tdiv s3 3)).toNat * 1)) (Vec.g s4 (IntKind.wrap .i64 (Int.tdiv s3 3)) 0) (pend2 := []) Ty5 rfl (At.zero (At.arr (z := 0) hb32 hb33)) rfl ?_
          refine OJ.go 4 [(47, .int .u8 (bor .u8 (IntKind.wrap .u8 ((Vec.g s4 (IntKind.wrap .i64 (Int.tdiv s3 3)) 0) * 2 ^ 4)) (IntKind.wrap .u8 r31))), (46, .int .u8 (IntKind.wrap .u8 r31)), (45, .int .i64 r31), (44, .int .u8 (IntKind.wrap .u8 ((Vec.g s4 (IntKind.wrap .i64 (Int.tdiv s3 3)) 0) * 2 ^ 4)))] ?_
          refine OJ.idxK (d := 48) (T := 42) (y := .tmp 5) (j := .tmp 39) (E := 5) (sz := 1) (b := b2) (o := 0) (k := .i64) (fun hb34 hb35 => ?_)
          refine OJ.kst (y := .tmp 48) (z := .tmp 47) (cd := (cI .u8)) (u := (bor .u8 (IntKind.wrap .u8 ((Vec.g s4 (IntKind.wrap .i64 (Int.tdiv s3 3)) 0) * 2 ^ 4)) (IntKind.wrap .u8 r31))) (j := 0) (b := b2) (o := (0 + (IntKind.wrap .i64 (Int.tdiv s3 3)).toNat * 1)) (((cI .u8).arr 6).enc (Vec.s s4 (IntKind.wrap .i64 (Int.tdiv s3 3)) (bor .u8 (IntKind.wrap .u8 ((Vec.g s4 (IntKind.wrap .i64 (Int.tdiv s3 3)) 0) * 2 ^ 4)) (IntKind.wrap .u8 r31)))) (owed := []) Ty5 rfl (Upd.zero (Upd.arr hb34 hb35)) rfl ?_
          refine OW.nil ?_
          refine OJ.nil ?_
          refine SJ.inBlock ?_
          refine SJ.rg 2 ?_
          refine OJ.go 2 [(12, .int .i64 (IntKind.wrap .i64 (s3 + 1))), (49, .int .i64 (IntKind.wrap .i64 (s3 + 1)))] ?_
          refine OJ.nil ?_
          exact SJ.at_ [0, 2, 5, 12] rfl
  · refine SJ.exit (id := 0) (by rfl) ?_
    refine SJ.sr 4 ?_
    refine OJ.kld (d := 50) (y := .tmp 5) (cd := ((cI .u8).arr 6)) (j := 0) (b := b2) (o := 0) s4 (pend2 := []) Ty42 rfl (At.whole _) rfl ?_
    refine OJ.kst (y := .tmp 2) (z := .tmp 50) (cd := ((cI .u8).arr 6)) (u := s4) (j := 1) (b := b1) (o := 0) (((cI .u8).arr 6).enc s4) (owed := []) Ty42 rfl (Upd.whole ((Cod.len _ _).trans (Cod.len _ _).symm)) rfl ?_
    refine OW.nil ?_
    refine OJ.go 2 [(4, .int .i64 0), (3, .int .i64 0)] ?_
    refine OJ.nil ?_
    exact SJ.ret rfl (Res.run (ys := [((cI .u8).arr 6).val s4, .int .i64 0, .int .i64 0]) (.cell (j := 1) (b := b1) (cd := ((cI .u8).arr 6)) (q := s4) (by kernel_rfl) rfl Ty42 (At.whole _) (.tmp (by kernel_rfl) (.tmp (by kernel_rfl) .nil))) rfl)
noncomputable def addr_ParseMac (a0 : ByteArray) : M ((Vec Int 6) × Int × Int) :=
  slot 42 >>= fun b1 =>
  if (a0.size : Int) > 17 then
    pure ((⟨[0, 0, 0, 0, 0, 0], rfl⟩ : (Vec Int 6)), 2, 17)
  else
    slot 42 >>= fun b2 =>
    loopM (fun s_ : (Int × (Vec Int 6) × (Vec Int 6)) => addr_ParseMac.L1 a0 s_.1 s_.2.1 s_.2.2) (0, (Vec.rep 6 0), (Vec.rep 6 0))
theorem addr_ParseMac_ok (a0 : ByteArray) : Ref Tryd.prog 21 [.string a0] (addr_ParseMac a0) addr_ParseMac.out := by
  refine Ref.of (cd := addr_ParseMac.B) Tryd.func21 ?_
  show SJ addr_ParseMac.cx [.code addr_ParseMac.B] [(0, .string a0)] [] (addr_ParseMac a0) addr_ParseMac.F0
  unfold addr_ParseMac
  refine SJ.sr 3 ?_
  refine OJ.slotOf (d := 2) (op := (.alloc 42)) (cd := ((cI .u8).arr 6)) (u := (Vec.rep 6 0)) (owed := []) (alloc_run Ty42) (fun b1 => ?_)
  refine OW.nil ?_
  refine OJ.go 2 [(4, .int .i64 0), (3, .int .i64 0)] ?_
  refine OJ.nil ?_
  refine SJ.seq ?_
  refine SJ.sr 3 ?_
  refine OJ.go 3 [(10, .bool (decide ((a0.size : Int) > 17))), (9, .int .i64 (a0.size : Int)), (8, .string a0)] ?_
  refine OJ.nil ?_
  refine SJ.cond (t := (.tmp 10)) (b := decide ((a0.size : Int) > 17)) decide_eq_true_iff (fun hc40 => ?_) (fun hc40 => ?_)
  · refine SJ.sr 4 ?_
    refine OJ.build (d := 11) (T := 42) (parts := []) (ps := []) (cd := ((cI .u8).arr 6)) (z0 := (Vec.rep 6 0)) (⟨[0, 0, 0, 0, 0, 0], rfl⟩ : (Vec Int 6)) Ty42 rfl Filled.nil ?_
    refine OJ.kst (y := .tmp 2) (z := .tmp 11) (cd := ((cI .u8).arr 6)) (u := (⟨[0, 0, 0, 0, 0, 0], rfl⟩ : (Vec Int 6))) (j := 0) (b := b1) (o := 0) (((cI .u8).arr 6).enc (⟨[0, 0, 0, 0, 0, 0], rfl⟩ : (Vec Int 6))) (owed := []) Ty42 rfl (Upd.whole ((Cod.len _ _).trans (Cod.len _ _).symm)) rfl ?_
    refine OW.nil ?_
    refine OJ.go 2 [(4, .int .i64 17), (3, .int .i64 2)] ?_
    refine OJ.nil ?_
    exact SJ.ret rfl (Res.run (ys := [((cI .u8).arr 6).val (⟨[0, 0, 0, 0, 0, 0], rfl⟩ : (Vec Int 6)), .int .i64 2, .int .i64 17]) (.cell (j := 0) (b := b1) (cd := ((cI .u8).arr 6)) (q := (⟨[0, 0, 0, 0, 0, 0], rfl⟩ : (Vec Int 6))) (by kernel_rfl) rfl Ty42 (At.whole _) (.tmp (by kernel_rfl) (.tmp (by kernel_rfl) .nil))) rfl)
  · refine SJ.skip ?_
    refine SJ.sr 1 ?_
    refine OJ.slotOf (d := 5) (op := (.alloc 42)) (cd := ((cI .u8).arr 6)) (u := (Vec.rep 6 0)) (owed := []) (alloc_run Ty42) (fun b2 => ?_)
    refine OW.nil ?_
    refine OJ.nil ?_
    refine SJ.seq ?_
    refine SJ.sr 1 ?_
    refine OJ.go 1 [(12, .int .i64 0)] ?_
    refine OJ.nil ?_
    refine SJ.block (id := 0) ?_
    exact SJ.loop (fun s_ : (Int × (Vec Int 6) × (Vec Int 6)) => [(0, .string a0), (2, .pointer (some (pt b1 0))), (5, .pointer (some (pt b2 0))), (12, .int .i64 s_.1)]) (fun s_ : (Int × (Vec Int 6) × (Vec Int 6)) => [(b2, ((cI .u8).arr 6).enc s_.2.1), (b1, ((cI .u8).arr 6).enc s_.2.2)]) [0, 2, 5, 12] rfl (fun _ _ => rfl) (fun s_ => addr_ParseMac.L1_ok a0 b1 b2 s_.1 s_.2.1 s_.2.2)

/-! ### weir/weirlaw4.AddrBack: function 6 -/
noncomputable def weirlaw4_AddrBack.B : Code := (Tryd.f6.body).getD .skip
noncomputable def weirlaw4_AddrBack.cx : Fx := ⟨Tryd.prog, 6, Tryd.f6⟩
noncomputable def weirlaw4_AddrBack.out (r_ : Bool) : Value := .bool r_
noncomputable def weirlaw4_AddrBack.F0 (r_ : Bool) : Reach := .ret (weirlaw4_AddrBack.out r_)
noncomputable def weirlaw4_AddrBack.K1 (a2 : (Vec Int 6)) : M Bool :=
  addr_PrintMac a2 >>= fun r31 =>
  addr_ParseMac r31 >>= fun r32 =>
  slot 42 >>= fun b33 =>
  weirlaw4_started >>= fun r34 =>
  (if r34 = true then
      pure (eqv r32.1 a2)
    else
      pure false) >>= fun y35 =>
  (if y35 = true then
      weirlaw4_num r32.2.1 >>= fun r36 =>
      pure (r36 == 0)
    else
      pure false) >>= fun y37 =>
  (if y37 = true then
      pure (r32.2.2 == 0)
    else
      pure false) >>= fun y38 =>
  pure y38
theorem weirlaw4_AddrBack.K1_ok (a2 : (Vec Int 6)) (b3 : Nat) :
    SJ weirlaw4_AddrBack.cx [.code (c2 (c2 (c2 (c2 (c2 (c2 (c2 weirlaw4_AddrBack.B)))))))] [(5, .pointer (some (pt b3 0)))] [(b3, ((cI .u8).arr 6).enc a2)] (weirlaw4_AddrBack.K1 a2) weirlaw4_AddrBack.F0 := by
  unfold weirlaw4_AddrBack.K1
  refine SJ.sr 11 ?_
  refine OJ.kld (d := 103) (y := .tmp 5) (cd := ((cI .u8).arr 6)) (j := 0) (b := b3) (o := 0) a2 (pend2 := []) Ty42 rfl (At.whole _) rfl ?_
  refine OJ.call (d := 104) (g := 18) (ats := #[42]) (args := [.tmp 103]) (owed := []) F18 (addr_PrintMac_ok a2) (fun r31 => ?_)
  refine OW.nil ?_
  refine OJ.call (d := 105) (g := 21) (ats := #[9]) (args := [.tmp 104]) (owed := []) F21 (addr_ParseMac_ok r31) (fun r32 => ?_)
  refine OW.nil ?_
  refine OJ.go 4 [(108, .int .i64 r32.2.2), (107, .int .i64 r32.2.1), (106, ((cI .u8).arr 6).val r32.1), (102, .tuple #[((cI .u8).arr 6).val r32.1, .int .i64 r32.2.1, .int .i64 r32.2.2])] ?_
  refine OJ.slotOf (d := 17) (op := (.alloc 42)) (cd := ((cI .u8).arr 6)) (u := (Vec.rep 6 0)) (owed := []) (alloc_run Ty42) (fun b33 => ?_)
  refine OW.nil ?_
  refine OJ.kst (y := .tmp 17) (z := .tmp 106) (cd := ((cI .u8).arr 6)) (u := r32.1) (j := 0) (b := b33) (o := 0) (((cI .u8).arr 6).enc r32.1) (owed := []) Ty42 rfl (Upd.whole ((Cod.len _ _).trans (Cod.len _ _).symm)) rfl ?_
  refine OW.nil ?_
  refine OJ.go 2 [(19, .int .i64 r32.2.2), (18, .int .i64 r32.2.1)] ?_
  refine OJ.nil ?_
  refine SJ.sr 16 ?_
  refine OJ.call (d := 109) (g := 11) (ats := #[]) (args := []) (owed := []) F11 (weirlaw4_started_ok ) (fun r34 => ?_)
  refine OW.nil ?_
  refine OJ.go 1 [(110, .bool r34)] ?_
  refine OJ.join (b := r34) [2, 3, 4, 5] [6, 7, 8, 9, 10, 11, 12, 13, 14, 15] [18, 19, 114] (fun y35 => [(18, .int .i64 r32.2.1), (19, .int .i64 r32.2.2), (114, .bool y35)]) [] [] (t := 110) Iff.rfl (fun hp_ => ?_) (fun hp_ => ?_) (fun _ _ _ _ _ _ h_ => h_) (fun y35 => ?_)
  · refine OJ.kld (d := 111) (y := .tmp 17) (cd := ((cI .u8).arr 6)) (j := 0) (b := b33) (o := 0) r32.1 (pend2 := []) Ty42 rfl (At.whole _) rfl ?_
    refine OJ.kld (d := 112) (y := .tmp 5) (cd := ((cI .u8).arr 6)) (j := 1) (b := b3) (o := 0) a2 (pend2 := []) Ty42 rfl (At.whole _) rfl ?_
    refine OJ.eql (d := 113) (T := 42) (yT := 42) (y := .tmp 111) (z := .tmp 112) (cd := ((cI .u8).arr 6)) (p := r32.1) (q := a2) rfl Eq42 ?_
    refine OJ.go 1 [(114, .bool (eqv r32.1 a2))] ?_
    exact OJ.nil ⟨(Cov.mem Cov.nil), rfl, _, rfl, by kernel_rfl⟩
  · refine OJ.go 4 [(114, .bool false), (113, undef), (112, undef), (111, undef)] ?_
    exact OJ.nil ⟨(Cov.mem Cov.nil), rfl, _, rfl, by kernel_rfl⟩
  · refine OJ.go 1 [(115, .bool y35)] ?_
    refine OJ.join (b := y35) [7, 8, 9, 10] [11, 12, 13, 14, 15] [19, 119] (fun y37 => [(19, .int .i64 r32.2.2), (119, .bool y37)]) [] [] (t := 115) Iff.rfl (fun hp_ => ?_) (fun hp_ => ?_) (fun _ _ _ _ _ _ h_ => h_) (fun y37 => ?_)
    · refine OJ.go 1 [(116, .int .i64 r32.2.1)] ?_
      refine OJ.call (d := 117) (g := 12) (ats := #[28]) (args := [.tmp 116]) (owed := []) F12 (weirlaw4_num_ok r32.2.1) (fun r36 => ?_)
      refine OW.nil ?_
      refine OJ.go 2 [(119, .bool (r36 == 0)), (118, .bool (r36 == 0))] ?_
      exact OJ.nil ⟨(Cov.mem Cov.nil), rfl, _, rfl, by kernel_rfl⟩
    · refine OJ.go 4 [(119, .bool false), (118, undef), (117, undef), (116, undef)] ?_
      exact OJ.nil ⟨(Cov.mem Cov.nil), rfl, _, rfl, by kernel_rfl⟩
    · refine OJ.go 1 [(120, .bool y37)] ?_
      refine OJ.join (b := y37) [12, 13, 14] [15] [123] (fun y38 => [(123, .bool y38)]) [] [] (t := 120) Iff.rfl (fun hp_ => ?_) (fun hp_ => ?_) (fun _ _ _ _ _ _ h_ => h_) (fun y38 => ?_)
      · refine OJ.go 3 [(123, .bool (r32.2.2 == 0)), (122, .bool (r32.2.2 == 0)), (121, .int .i64 r32.2.2)] ?_
        exact OJ.nil ⟨(Cov.mem Cov.nil), rfl, _, rfl, by kernel_rfl⟩
      · refine OJ.go 3 [(123, .bool false), (122, undef), (121, undef)] ?_
        exact OJ.nil ⟨(Cov.mem Cov.nil), rfl, _, rfl, by kernel_rfl⟩
      · refine OJ.go 1 [(6, .bool y38)] ?_
        refine OJ.nil ?_
        exact SJ.ret rfl (Res.run (ys := [.bool y38]) (.tmp (by kernel_rfl) .nil) rfl)
noncomputable def weirlaw4_AddrBack.K2 (a1 : api_Prefix) (a2 : (Vec Int 6)) : M Bool :=
  addr_PrintPrefix a1 >>= fun r17 =>
  draw >>= fun _ =>
  weirlaw4_num r17.2 >>= fun r18 =>
  addr_ValidPrefix a1 >>= fun r19 =>
  weirlaw4_num r19 >>= fun r20 =>
  (if r18 ≠ r20 then
      pure true
    else
      weirlaw4_num r17.2 >>= fun r21 =>
      (if r21 ≠ 0 then
          pure (!(r17.1.toList == ByteArray.empty.toList))
        else
          pure false) >>= fun y22 =>
      pure y22) >>= fun y23 =>
  if y23 = true then
    pure false
  else
    weirlaw4_num r17.2 >>= fun r24 =>
    if r24 = 0 then
      addr_ParsePrefix r17.1 >>= fun r39 =>
      slot 37 >>= fun b40 =>
      (if ¬ (r39.1 = a1) then
          pure true
        else
          weirlaw4_num r39.2.1 >>= fun r41 =>
          pure (r41 != 0)) >>= fun y42 =>
      (if y42 = true then
          pure true
        else
          pure (r39.2.2 != 0)) >>= fun y43 =>
      if y43 = true then
        pure false
      else
        weirlaw4_AddrBack.K1 a2
    else
      weirlaw4_AddrBack.K1 a2
theorem weirlaw4_AddrBack.K2_ok (a1 : api_Prefix) (a2 : (Vec Int 6)) (b2 : Nat) (b3 : Nat) :
    SJ weirlaw4_AddrBack.cx [.code (c2 (c2 (c2 (c2 weirlaw4_AddrBack.B))))] [(4, .pointer (some (pt b2 0))), (5, .pointer (some (pt b3 0)))] [(b3, ((cI .u8).arr 6).enc a2), (b2, c_api_Prefix.enc a1)] (weirlaw4_AddrBack.K2 a1 a2) weirlaw4_AddrBack.F0 := by
  unfold weirlaw4_AddrBack.K2
  refine SJ.sr 7 ?_
  refine OJ.kld (d := 62) (y := .tmp 4) (cd := c_api_Prefix) (j := 1) (b := b2) (o := 0) a1 (pend2 := []) Ty37 rfl (At.whole _) rfl ?_
  refine OJ.call (d := 63) (g := 17) (ats := #[37]) (args := [.tmp 62]) (owed := []) F17 (addr_PrintPrefix_ok a1) (fun r17 => ?_)
  refine OW.nil ?_
  refine OJ.go 5 [(13, .int .i64 r17.2), (12, .string r17.1), (65, .int .i64 r17.2), (64, .string r17.1), (61, .tuple #[.string r17.1, .int .i64 r17.2])] ?_
  refine OJ.nil ?_
  refine SJ.seq ?_
  refine SJ.seq ?_
  refine SJ.draw (id := 9) (kd := [0, 2, 1, 2, 2, 0, 0, 0, 2, 0, 0, 0, 0, 0, 0]) (bef := [0, 1, 0, 7, 15, 31, 63, 127, 255, 511, 1023, 2047, 4095, 8191, 16383]) (ord := [0, 2, 1, 3, 4, 5, 6, 7, 8, 9, 10, 11, 12, 13, 14]) mixed ?_
  refine OJ.go 1 [(66, .int .i64 r17.2)] ?_
  refine OJ.kld (d := 68) (y := .tmp 4) (cd := c_api_Prefix) (j := 1) (b := b2) (o := 0) a1 (pend2 := [⟨2, 37, (pt b2 0), c_api_Prefix.val a1⟩]) Ty37 rfl (At.whole _) rfl ?_
  refine OJ.call (d := 67) (g := 12) (ats := #[28]) (args := [.tmp 66]) (owed := [⟨2, 37, (pt b2 0), c_api_Prefix.val a1⟩]) F12 (weirlaw4_num_ok r17.2) (fun r18 => ?_)
  refine OW.known (j := 1) (q := a1) Ty37 rfl (At.whole _) ?_
  refine OW.nil ?_
  refine OJ.call (d := 69) (g := 14) (ats := #[37]) (args := [.tmp 68]) (owed := []) F14 (addr_ValidPrefix_ok a1) (fun r19 => ?_)
  refine OW.nil ?_
  refine OJ.call (d := 70) (g := 12) (ats := #[28]) (args := [.tmp 69]) (owed := []) F12 (weirlaw4_num_ok r19) (fun r20 => ?_)
  refine OW.nil ?_
  refine OJ.go 2 [(72, .bool (r18 != r20)), (71, .bool (r18 != r20))] ?_
  refine OJ.join (b := (r18 != r20)) [7, 8, 9, 10, 11, 12, 13, 14] [] [4, 5, 12, 13, 80] (fun y23 => [(4, .pointer (some (pt b2 0))), (5, .pointer (some (pt b3 0))), (12, .string r17.1), (13, .int .i64 r17.2), (80, .bool y23)]) [⟨2, 37, (pt b2 0), c_api_Prefix.val a1⟩] [] (t := 72) bne_iff_ne (fun hp_ => ?_) (fun hp_ => ?_) (fun _ _ _ _ _ _ h_ => h_) (fun y23 => ?_)
  · refine OJ.go 8 [(80, .bool true), (79, undef), (78, undef), (77, undef), (76, undef), (75, undef), (74, undef), (73, undef)] ?_
    exact OJ.nil ⟨(Cov.mem (Cov.keep (List.mem_of_getElem? (i := 0) rfl) Cov.nil)), rfl, _, rfl, by kernel_rfl⟩
  · refine OJ.go 1 [(73, .int .i64 r17.2)] ?_
    refine OJ.call (d := 74) (g := 12) (ats := #[28]) (args := [.tmp 73]) (owed := []) F12 (weirlaw4_num_ok r17.2) (fun r21 => ?_)
    refine OW.nil ?_
    refine OJ.go 2 [(76, .bool (r21 != 0)), (75, .bool (r21 != 0))] ?_
    refine OJ.join (b := (r21 != 0)) [11, 12, 13] [14] [4, 5, 12, 13, 72, 79] (fun y22 => [(4, .pointer (some (pt b2 0))), (5, .pointer (some (pt b3 0))), (12, .string r17.1), (13, .int .i64 r17.2), (72, .bool false), (79, .bool y22)]) [⟨2, 37, (pt b2 0), c_api_Prefix.val a1⟩] [] (t := 76) bne_iff_ne (fun hp_ => ?_) (fun hp_ => ?_) (fun _ _ _ _ _ hq_ h_ => ⟨fun e_ he_ => (hq_ e_ he_).elim (fun h => h_.1 e_ h) (fun h => nomatch h), h_.2⟩) (fun y22 => ?_)
    · refine OJ.go 3 [(79, .bool (!(r17.1.toList == ByteArray.empty.toList))), (78, .bool (!(r17.1.toList == ByteArray.empty.toList))), (77, .string r17.1)] ?_
      exact OJ.nil ⟨(Cov.mem (Cov.keep (List.mem_of_getElem? (i := 0) rfl) Cov.nil)), rfl, _, rfl, by kernel_rfl⟩
    · refine OJ.go 3 [(79, .bool false), (78, undef), (77, undef)] ?_
      exact OJ.nil ⟨(Cov.mem (Cov.keep (List.mem_of_getElem? (i := 0) rfl) Cov.nil)), rfl, _, rfl, by kernel_rfl⟩
    · refine OJ.go 1 [(80, .bool y22)] ?_
      exact OJ.nil ⟨(Cov.mem (Cov.keep (List.mem_of_getElem? (i := 0) rfl) Cov.nil)), rfl, _, rfl, by kernel_rfl⟩
  · refine OJ.nil ?_
    refine SJ.cond (t := (.tmp 80)) (b := y23) Iff.rfl (fun hc46 => ?_) (fun hc46 => ?_)
    · refine SJ.sr 1 ?_
      refine OJ.go 1 [(6, .bool false)] ?_
      refine OJ.nil ?_
      exact SJ.ret rfl (Res.run (ys := [.bool false]) (.tmp (by kernel_rfl) .nil) rfl)
    · refine SJ.skip ?_
      refine SJ.seq ?_
      refine SJ.sr 3 ?_
      refine OJ.go 1 [(81, .int .i64 r17.2)] ?_
      refine OJ.call (d := 82) (g := 12) (ats := #[28]) (args := [.tmp 81]) (owed := []) F12 (weirlaw4_num_ok r17.2) (fun r24 => ?_)
      refine OW.nil ?_
      refine OJ.go 1 [(83, .bool (r24 == 0))] ?_
      refine OJ.nil ?_
      refine SJ.cond (t := (.tmp 83)) (b := (r24 == 0)) beq_iff_eq (fun hc45 => ?_) (fun hc45 => ?_)
      · refine SJ.sr 10 ?_
        refine OJ.go 1 [(85, .string r17.1)] ?_
        refine OJ.call (d := 86) (g := 20) (ats := #[9]) (args := [.tmp 85]) (owed := []) F20 (addr_ParsePrefix_ok r17.1) (fun r39 => ?_)
        refine OW.nil ?_
        refine OJ.go 4 [(89, .int .i64 r39.2.2), (88, .int .i64 r39.2.1), (87, c_api_Prefix.val r39.1), (84, .tuple #[c_api_Prefix.val r39.1, .int .i64 r39.2.1, .int .i64 r39.2.2])] ?_
        refine OJ.slotOf (d := 14) (op := (.alloc 37)) (cd := c_api_Prefix) (u := z_api_Prefix) (owed := []) (alloc_run Ty37) (fun b40 => ?_)
        refine OW.nil ?_
        refine OJ.kst (y := .tmp 14) (z := .tmp 87) (cd := c_api_Prefix) (u := r39.1) (j := 0) (b := b40) (o := 0) (c_api_Prefix.enc r39.1) (owed := []) Ty37 rfl (Upd.whole ((Cod.len _ _).trans (Cod.len _ _).symm)) rfl ?_
        refine OW.nil ?_
        refine OJ.go 2 [(16, .int .i64 r39.2.2), (15, .int .i64 r39.2.1)] ?_
        refine OJ.nil ?_
        refine SJ.sr 12 ?_
        refine OJ.kld (d := 90) (y := .tmp 14) (cd := c_api_Prefix) (j := 0) (b := b40) (o := 0) r39.1 (pend2 := []) Ty37 rfl (At.whole _) rfl ?_
        refine OJ.kld (d := 91) (y := .tmp 4) (cd := c_api_Prefix) (j := 2) (b := b2) (o := 0) a1 (pend2 := []) Ty37 rfl (At.whole _) rfl ?_
        refine OJ.neq (d := 92) (T := 37) (yT := 37) (y := .tmp 90) (z := .tmp 91) (cd := c_api_Prefix) (p := r39.1) (q := a1) rfl Eq37 ?_
        refine OJ.go 1 [(93, .bool (!eqv r39.1 a1))] ?_
        refine OJ.join (b := (!eqv r39.1 a1)) [4, 5, 6, 7] [8, 9, 10, 11] [5, 16, 97] (fun y42 => [(5, .pointer (some (pt b3 0))), (16, .int .i64 r39.2.2), (97, .bool y42)]) [] [] (t := 93) (bnot_iff eqv_iff) (fun hp_ => ?_) (fun hp_ => ?_) (fun _ _ _ _ _ _ h_ => h_) (fun y42 => ?_)
        · refine OJ.go 4 [(97, .bool true), (96, undef), (95, undef), (94, undef)] ?_
          exact OJ.nil ⟨(Cov.mem Cov.nil), rfl, _, rfl, by kernel_rfl⟩
        · refine OJ.go 1 [(94, .int .i64 r39.2.1)] ?_
          refine OJ.call (d := 95) (g := 12) (ats := #[28]) (args := [.tmp 94]) (owed := []) F12 (weirlaw4_num_ok r39.2.1) (fun r41 => ?_)
          refine OW.nil ?_
          refine OJ.go 2 [(97, .bool (r41 != 0)), (96, .bool (r41 != 0))] ?_
          exact OJ.nil ⟨(Cov.mem Cov.nil), rfl, _, rfl, by kernel_rfl⟩
        · refine OJ.go 1 [(98, .bool y42)] ?_
          refine OJ.join (b := y42) [9, 10, 11] [] [5, 101] (fun y43 => [(5, .pointer (some (pt b3 0))), (101, .bool y43)]) [] [] (t := 98) Iff.rfl (fun hp_ => ?_) (fun hp_ => ?_) (fun _ _ _ _ _ _ h_ => h_) (fun y43 => ?_)
          · refine OJ.go 3 [(101, .bool true), (100, undef), (99, undef)] ?_
            exact OJ.nil ⟨(Cov.mem Cov.nil), rfl, _, rfl, by kernel_rfl⟩
          · refine OJ.go 3 [(101, .bool (r39.2.2 != 0)), (100, .bool (r39.2.2 != 0)), (99, .int .i64 r39.2.2)] ?_
            exact OJ.nil ⟨(Cov.mem Cov.nil), rfl, _, rfl, by kernel_rfl⟩
          · refine OJ.nil ?_
            refine SJ.cond (t := (.tmp 101)) (b := y43) Iff.rfl (fun hc44 => ?_) (fun hc44 => ?_)
            · refine SJ.sr 1 ?_
              refine OJ.go 1 [(6, .bool false)] ?_
              refine OJ.nil ?_
              exact SJ.ret rfl (Res.run (ys := [.bool false]) (.tmp (by kernel_rfl) .nil) rfl)
            · refine SJ.skip ?_
              refine SJ.forget (List.Sublist.cons _ (List.Sublist.cons_cons _ (List.Sublist.cons _ List.Sublist.slnil))) ?_
              refine SJ.less [5] (m' := [(5, .pointer (some (pt b3 0)))]) ?_
              exact weirlaw4_AddrBack.K1_ok a2 b3
      · refine SJ.skip ?_
        refine SJ.forget (List.Sublist.cons_cons _ (List.Sublist.cons _ List.Sublist.slnil)) ?_
        refine SJ.less [5] (m' := [(5, .pointer (some (pt b3 0)))]) ?_
        exact weirlaw4_AddrBack.K1_ok a2 b3
noncomputable def weirlaw4_AddrBack (a0 : api_IP) (a1 : api_Prefix) (a2 : (Vec Int 6)) : M Bool :=
  slot 27 >>= fun b1 =>
  slot 37 >>= fun b2 =>
  slot 42 >>= fun b3 =>
  addr_PrintIP a0 >>= fun r4 =>
  draw >>= fun _ =>
  weirlaw4_num r4.2 >>= fun r5 =>
  addr_Valid a0 >>= fun r6 =>
  (if ¬ ((r5 == 0) = r6) then
      pure true
    else
      weirlaw4_num r4.2 >>= fun r7 =>
      (if r7 ≠ 0 then
          pure (!(r4.1.toList == ByteArray.empty.toList))
        else
          pure false) >>= fun y8 =>
      pure y8) >>= fun y9 =>
  if y9 = true then
    pure false
  else
    weirlaw4_num r4.2 >>= fun r10 =>
    if r10 = 0 then
      addr_ParseIP r4.1 >>= fun r47 =>
      slot 27 >>= fun b48 =>
      (if ¬ (r47.1 = a0) then
          pure true
        else
          weirlaw4_num r47.2.1 >>= fun r49 =>
          pure (r49 != 0)) >>= fun y50 =>
      (if y50 = true then
          pure true
        else
          pure (r47.2.2 != 0)) >>= fun y51 =>
      if y51 = true then
        pure false
      else
        weirlaw4_AddrBack.K2 a1 a2
    else
      weirlaw4_AddrBack.K2 a1 a2
theorem weirlaw4_AddrBack_ok (a0 : api_IP) (a1 : api_Prefix) (a2 : (Vec Int 6)) : Ref Tryd.prog 6 [c_api_IP.val a0, c_api_Prefix.val a1, ((cI .u8).arr 6).val a2] (weirlaw4_AddrBack a0 a1 a2) weirlaw4_AddrBack.out := by
  refine Ref.of (cd := weirlaw4_AddrBack.B) Tryd.func6 ?_
  show SJ weirlaw4_AddrBack.cx [.code weirlaw4_AddrBack.B] [(0, c_api_IP.val a0), (1, c_api_Prefix.val a1), (2, ((cI .u8).arr 6).val a2)] [] (weirlaw4_AddrBack a0 a1 a2) weirlaw4_AddrBack.F0
  unfold weirlaw4_AddrBack
  refine SJ.sr 4 ?_
  refine OJ.slotOf (d := 3) (op := (.box 27 (.tmp 0))) (cd := c_api_IP) (u := a0) (owed := []) (box_run (by kernel_rfl)) (fun b1 => ?_)
  refine OW.nil ?_
  refine OJ.slotOf (d := 4) (op := (.box 37 (.tmp 1))) (cd := c_api_Prefix) (u := a1) (owed := []) (box_run (by kernel_rfl)) (fun b2 => ?_)
  refine OW.nil ?_
  refine OJ.slotOf (d := 5) (op := (.box 42 (.tmp 2))) (cd := ((cI .u8).arr 6)) (u := a2) (owed := []) (box_run (by kernel_rfl)) (fun b3 => ?_)
  refine OW.nil ?_
  refine OJ.go 1 [(6, .bool false)] ?_
  refine OJ.nil ?_
  refine SJ.sr 7 ?_
  refine OJ.kld (d := 21) (y := .tmp 3) (cd := c_api_IP) (j := 2) (b := b1) (o := 0) a0 (pend2 := []) Ty27 rfl (At.whole _) rfl ?_
  refine OJ.call (d := 22) (g := 16) (ats := #[27]) (args := [.tmp 21]) (owed := []) F16 (addr_PrintIP_ok a0) (fun r4 => ?_)
  refine OW.nil ?_
  refine OJ.go 5 [(8, .int .i64 r4.2), (7, .string r4.1), (24, .int .i64 r4.2), (23, .string r4.1), (20, .tuple #[.string r4.1, .int .i64 r4.2])] ?_
  refine OJ.nil ?_
  refine SJ.seq ?_
  refine SJ.seq ?_
  refine SJ.draw (id := 2) (kd := [0, 2, 0, 1, 2, 0, 0, 0, 2, 0, 0, 0, 0, 0, 0]) (bef := [0, 1, 3, 0, 11, 31, 63, 127, 255, 511, 1023, 2047, 4095, 8191, 16383]) (ord := [0, 3, 1, 2, 4, 5, 6, 7, 8, 9, 10, 11, 12, 13, 14]) mixed ?_
  refine OJ.go 1 [(25, .int .i64 r4.2)] ?_
  refine OJ.kld (d := 28) (y := .tmp 3) (cd := c_api_IP) (j := 2) (b := b1) (o := 0) a0 (pend2 := [⟨3, 27, (pt b1 0), c_api_IP.val a0⟩]) Ty27 rfl (At.whole _) rfl ?_
  refine OJ.call (d := 26) (g := 12) (ats := #[28]) (args := [.tmp 25]) (owed := [⟨3, 27, (pt b1 0), c_api_IP.val a0⟩]) F12 (weirlaw4_num_ok r4.2) (fun r5 => ?_)
  refine OW.known (j := 2) (q := a0) Ty27 rfl (At.whole _) ?_
  refine OW.nil ?_
  refine OJ.go 1 [(27, .bool (r5 == 0))] ?_
  refine OJ.call (d := 29) (g := 19) (ats := #[27]) (args := [.tmp 28]) (owed := []) F19 (addr_Valid_ok a0) (fun r6 => ?_)
  refine OW.nil ?_
  refine OJ.go 2 [(31, .bool (!((r5 == 0) == r6))), (30, .bool (!((r5 == 0) == r6)))] ?_
  refine OJ.join (b := (!((r5 == 0) == r6))) [7, 8, 9, 10, 11, 12, 13, 14] [] [3, 4, 5, 7, 8, 39] (fun y9 => [(3, .pointer (some (pt b1 0))), (4, .pointer (some (pt b2 0))), (5, .pointer (some (pt b3 0))), (7, .string r4.1), (8, .int .i64 r4.2), (39, .bool y9)]) [⟨3, 27, (pt b1 0), c_api_IP.val a0⟩] [] (t := 31) (bnot_iff beq_iff_eq) (fun hp_ => ?_) (fun hp_ => ?_) (fun _ _ _ _ _ _ h_ => h_) (fun y9 => ?_)
  · refine OJ.go 8 [(39, .bool true), (38, undef), (37, undef), (36, undef), (35, undef), (34, undef), (33, undef), (32, undef)] ?_
    exact OJ.nil ⟨(Cov.mem (Cov.keep (List.mem_of_getElem? (i := 0) rfl) Cov.nil)), rfl, _, rfl, by kernel_rfl⟩
  · refine OJ.go 1 [(32, .int .i64 r4.2)] ?_
    refine OJ.call (d := 33) (g := 12) (ats := #[28]) (args := [.tmp 32]) (owed := []) F12 (weirlaw4_num_ok r4.2) (fun r7 => ?_)
    refine OW.nil ?_
    refine OJ.go 2 [(35, .bool (r7 != 0)), (34, .bool (r7 != 0))] ?_
    refine OJ.join (b := (r7 != 0)) [11, 12, 13] [14] [3, 4, 5, 7, 8, 31, 38] (fun y8 => [(3, .pointer (some (pt b1 0))), (4, .pointer (some (pt b2 0))), (5, .pointer (some (pt b3 0))), (7, .string r4.1), (8, .int .i64 r4.2), (31, .bool false), (38, .bool y8)]) [⟨3, 27, (pt b1 0), c_api_IP.val a0⟩] [] (t := 35) bne_iff_ne (fun hp_ => ?_) (fun hp_ => ?_) (fun _ _ _ _ _ hq_ h_ => ⟨fun e_ he_ => (hq_ e_ he_).elim (fun h => h_.1 e_ h) (fun h => nomatch h), h_.2⟩) (fun y8 => ?_)
    · refine OJ.go 3 [(38, .bool (!(r4.1.toList == ByteArray.empty.toList))), (37, .bool (!(r4.1.toList == ByteArray.empty.toList))), (36, .string r4.1)] ?_
      exact OJ.nil ⟨(Cov.mem (Cov.keep (List.mem_of_getElem? (i := 0) rfl) Cov.nil)), rfl, _, rfl, by kernel_rfl⟩
    · refine OJ.go 3 [(38, .bool false), (37, undef), (36, undef)] ?_
      exact OJ.nil ⟨(Cov.mem (Cov.keep (List.mem_of_getElem? (i := 0) rfl) Cov.nil)), rfl, _, rfl, by kernel_rfl⟩
    · refine OJ.go 1 [(39, .bool y8)] ?_
      exact OJ.nil ⟨(Cov.mem (Cov.keep (List.mem_of_getElem? (i := 0) rfl) Cov.nil)), rfl, _, rfl, by kernel_rfl⟩
  · refine OJ.nil ?_
    refine SJ.cond (t := (.tmp 39)) (b := y9) Iff.rfl (fun hc54 => ?_) (fun hc54 => ?_)
    · refine SJ.sr 1 ?_
      refine OJ.go 1 [(6, .bool false)] ?_
      refine OJ.nil ?_
      exact SJ.ret rfl (Res.run (ys := [.bool false]) (.tmp (by kernel_rfl) .nil) rfl)
    · refine SJ.skip ?_
      refine SJ.seq ?_
      refine SJ.sr 3 ?_
      refine OJ.go 1 [(40, .int .i64 r4.2)] ?_
      refine OJ.call (d := 41) (g := 12) (ats := #[28]) (args := [.tmp 40]) (owed := []) F12 (weirlaw4_num_ok r4.2) (fun r10 => ?_)
      refine OW.nil ?_
      refine OJ.go 1 [(42, .bool (r10 == 0))] ?_
      refine OJ.nil ?_
      refine SJ.cond (t := (.tmp 42)) (b := (r10 == 0)) beq_iff_eq (fun hc53 => ?_) (fun hc53 => ?_)
      · refine SJ.sr 10 ?_
        refine OJ.go 1 [(44, .string r4.1)] ?_
        refine OJ.call (d := 45) (g := 10) (ats := #[9]) (args := [.tmp 44]) (owed := []) F10 (addr_ParseIP_ok r4.1) (fun r47 => ?_)
        refine OW.nil ?_
        refine OJ.go 4 [(48, .int .i64 r47.2.2), (47, .int .i64 r47.2.1), (46, c_api_IP.val r47.1), (43, .tuple #[c_api_IP.val r47.1, .int .i64 r47.2.1, .int .i64 r47.2.2])] ?_
        refine OJ.slotOf (d := 9) (op := (.alloc 27)) (cd := c_api_IP) (u := z_api_IP) (owed := []) (alloc_run Ty27) (fun b48 => ?_)
        refine OW.nil ?_
        refine OJ.kst (y := .tmp 9) (z := .tmp 46) (cd := c_api_IP) (u := r47.1) (j := 0) (b := b48) (o := 0) (c_api_IP.enc r47.1) (owed := []) Ty27 rfl (Upd.whole ((Cod.len _ _).trans (Cod.len _ _).symm)) rfl ?_
        refine OW.nil ?_
        refine OJ.go 2 [(11, .int .i64 r47.2.2), (10, .int .i64 r47.2.1)] ?_
        refine OJ.nil ?_
        refine SJ.sr 12 ?_
        refine OJ.kld (d := 49) (y := .tmp 9) (cd := c_api_IP) (j := 0) (b := b48) (o := 0) r47.1 (pend2 := []) Ty27 rfl (At.whole _) rfl ?_
        refine OJ.kld (d := 50) (y := .tmp 3) (cd := c_api_IP) (j := 3) (b := b1) (o := 0) a0 (pend2 := []) Ty27 rfl (At.whole _) rfl ?_
        refine OJ.neq (d := 51) (T := 27) (yT := 27) (y := .tmp 49) (z := .tmp 50) (cd := c_api_IP) (p := r47.1) (q := a0) rfl Eq27 ?_
        refine OJ.go 1 [(52, .bool (!eqv r47.1 a0))] ?_
        refine OJ.join (b := (!eqv r47.1 a0)) [4, 5, 6, 7] [8, 9, 10, 11] [4, 5, 11, 56] (fun y50 => [(4, .pointer (some (pt b2 0))), (5, .pointer (some (pt b3 0))), (11, .int .i64 r47.2.2), (56, .bool y50)]) [] [] (t := 52) (bnot_iff eqv_iff) (fun hp_ => ?_) (fun hp_ => ?_) (fun _ _ _ _ _ _ h_ => h_) (fun y50 => ?_)
        · refine OJ.go 4 [(56, .bool true), (55, undef), (54, undef), (53, undef)] ?_
          exact OJ.nil ⟨(Cov.mem Cov.nil), rfl, _, rfl, by kernel_rfl⟩
        · refine OJ.go 1 [(53, .int .i64 r47.2.1)] ?_
          refine OJ.call (d := 54) (g := 12) (ats := #[28]) (args := [.tmp 53]) (owed := []) F12 (weirlaw4_num_ok r47.2.1) (fun r49 => ?_)
          refine OW.nil ?_
          refine OJ.go 2 [(56, .bool (r49 != 0)), (55, .bool (r49 != 0))] ?_
          exact OJ.nil ⟨(Cov.mem Cov.nil), rfl, _, rfl, by kernel_rfl⟩
        · refine OJ.go 1 [(57, .bool y50)] ?_
          refine OJ.join (b := y50) [9, 10, 11] [] [4, 5, 60] (fun y51 => [(4, .pointer (some (pt b2 0))), (5, .pointer (some (pt b3 0))), (60, .bool y51)]) [] [] (t := 57) Iff.rfl (fun hp_ => ?_) (fun hp_ => ?_) (fun _ _ _ _ _ _ h_ => h_) (fun y51 => ?_)
          · refine OJ.go 3 [(60, .bool true), (59, undef), (58, undef)] ?_
            exact OJ.nil ⟨(Cov.mem Cov.nil), rfl, _, rfl, by kernel_rfl⟩
          · refine OJ.go 3 [(60, .bool (r47.2.2 != 0)), (59, .bool (r47.2.2 != 0)), (58, .int .i64 r47.2.2)] ?_
            exact OJ.nil ⟨(Cov.mem Cov.nil), rfl, _, rfl, by kernel_rfl⟩
          · refine OJ.nil ?_
            refine SJ.cond (t := (.tmp 60)) (b := y51) Iff.rfl (fun hc52 => ?_) (fun hc52 => ?_)
            · refine SJ.sr 1 ?_
              refine OJ.go 1 [(6, .bool false)] ?_
              refine OJ.nil ?_
              exact SJ.ret rfl (Res.run (ys := [.bool false]) (.tmp (by kernel_rfl) .nil) rfl)
            · refine SJ.skip ?_
              refine SJ.forget (List.Sublist.cons _ (List.Sublist.cons_cons _ (List.Sublist.cons_cons _ (List.Sublist.cons _ List.Sublist.slnil)))) ?_
              refine SJ.less [4, 5] (m' := [(4, .pointer (some (pt b2 0))), (5, .pointer (some (pt b3 0)))]) ?_
              exact weirlaw4_AddrBack.K2_ok a1 a2 b2 b3
      · refine SJ.skip ?_
        refine SJ.forget (List.Sublist.cons_cons _ (List.Sublist.cons_cons _ (List.Sublist.cons _ List.Sublist.slnil))) ?_
        refine SJ.less [4, 5] (m' := [(4, .pointer (some (pt b2 0))), (5, .pointer (some (pt b3 0)))]) ?_
        exact weirlaw4_AddrBack.K2_ok a1 a2 b2 b3
end Go.Proofs.YtddmmgcfanpmmaaDoor.Lx
