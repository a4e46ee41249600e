/- Programs of the M-world for Go functions, each with the proof that the Go text does what it says. Printed by lxgen.py. -/
import Derived.Test.YtoddkagehbcfjaaLxT
import Derived.Test.YtoddkagehbcfjaaLxP0
import Derived.Test.YtoddkagehbcfjaaLxP1
set_option linter.unusedVariables false
set_option linter.unusedSimpArgs false
namespace Go.Proofs.Ytoddkagehbcfjaa.Lx
open Go Go.Proofs
/-! ### weir/weirlaw3.wide: function 20 -/
noncomputable def weirlaw3_wide.B : Code := (Try.f20.body).getD .skip
noncomputable def weirlaw3_wide.cx : Fx := ⟨Try.prog, 20, Try.f20⟩
noncomputable def weirlaw3_wide.out (r_ : Sl) : Value := Sl.v r_
noncomputable def weirlaw3_wide.F0 (r_ : Sl) : Reach := .ret (weirlaw3_wide.out r_)
noncomputable def weirlaw3_wide (a0 : Sl) : M Sl :=
  appS (cI .u8) 5 1 0 Sl.nil a0 >>= fun r1 =>
  slot 5 >>= fun b2 =>
  appl (cI .u8) 5 1 0 r1 [91, 92, 93] >>= fun r3 =>
  pure r3
theorem weirlaw3_wide_ok (a0 : Sl) : Ref Try.prog 20 [Sl.v a0] (weirlaw3_wide a0) weirlaw3_wide.out := by
  refine Ref.of (cd := weirlaw3_wide.B) Try.func20 (by kernel_rfl) (by kernel_rfl) ?_
  show SJ weirlaw3_wide.cx [.code weirlaw3_wide.B] [(0, Sl.v a0)] [] (weirlaw3_wide a0) weirlaw3_wide.F0
  unfold weirlaw3_wide
  refine SJ.seq (by kernel_rfl) ?_
  refine SJ.region (id := 0) (by kernel_rfl) [0] (by kernel_rfl) ?_
  refine OJ.run [0] [] [0] (m2 := [(0, Sl.v a0)]) (by kernel_rfl) (by kernel_rfl) ?_
  refine OJ.nil ?_
  refine SJ.seq (by kernel_rfl) ?_
  refine SJ.region (id := 1) (by kernel_rfl) [0] (by kernel_rfl) ?_
  refine OJ.run [0] [] [0, 3] (m2 := [(0, Sl.v a0), (3, Sl.v Sl.nil)]) (by kernel_rfl) (by kernel_rfl) ?_
  refine OJ.nil ?_
  refine SJ.seq (by kernel_rfl) ?_
  refine SJ.region (id := 2) (by kernel_rfl) [0, 1, 2, 3] (by kernel_rfl) ?_
  refine OJ.run [0, 1] [2, 3] [3, 4, 5] (m2 := [(3, Sl.v Sl.nil), (4, Sl.v Sl.nil), (5, Sl.v a0)]) (by kernel_rfl) (by kernel_rfl) ?_
  refine OJ.appS (d := 6) (t := 22) (u := 22) (so := .tmp 4) (xo := .tmp 5) (owed := []) (by kernel_rfl) (by kernel_rfl) (by kernel_rfl) Ty5 (by kernel_rfl) (by kernel_rfl) (by kernel_rfl) (by kernel_rfl) (by kernel_rfl) (by kernel_rfl) (fun r1 => ?_)
  refine OW.nil ?_
  refine OJ.run [3] [] [3] (m2 := [(3, Sl.v r1)]) (by kernel_rfl) (by kernel_rfl) ?_
  refine OJ.nil ?_
  refine SJ.seq (by kernel_rfl) ?_
  refine SJ.region (id := 3) (by kernel_rfl) [0, 1, 2, 3] (by kernel_rfl) ?_
  refine OJ.run [0] [1, 2, 3] [7] (m2 := [(7, Sl.v r1)]) (by kernel_rfl) (by kernel_rfl) ?_
  refine OJ.rowSlot (d := 8) (t := 22) (parts := [(0, .const (.int .u8 91)), (1, .const (.int .u8 92)), (2, .const (.int .u8 93))]) (ps := [(0, (cI .u8).val 91), (1, (cI .u8).val 92), (2, (cI .u8).val 93)]) (cd := (cI .u8)) (⟨[91, 92, 93], rfl⟩ : Vec Int 3) (owed := []) (by kernel_rfl) (by kernel_rfl) (by kernel_rfl) Ty5 (by kernel_rfl) (Filled.cons (cd := (cI .u8)) (q := 91) (o := 0) rfl (Upd.arr (i := 0) (by decide) (by decide)) (Filled.cons (cd := (cI .u8)) (q := 92) (o := 1) rfl (Upd.arr (i := 1) (by decide) (by decide)) (Filled.cons (cd := (cI .u8)) (q := 93) (o := 2) rfl (Upd.arr (i := 2) (by decide) (by decide)) Filled.nil))) (by kernel_rfl) (by kernel_rfl) (by kernel_rfl) (fun b2 => ?_)
  refine OW.nil ?_
  refine OJ.appl (d := 9) (t := 22) (u := 22) (so := .tmp 7) (xo := .tmp 8) (j := 0) (b := b2) (l := ((cI .u8).arr 3).enc (⟨[91, 92, 93], rfl⟩ : Vec Int 3)) (n := 3) (k := 3) [91, 92, 93] (owed := []) (by kernel_rfl) (by kernel_rfl) (by kernel_rfl) Ty5 (by kernel_rfl) (by kernel_rfl) (by kernel_rfl) (by rfl) (Cod.arr_enc _ _ _) (by rfl) (by kernel_rfl) (by kernel_rfl) (by kernel_rfl) (fun r3 => ?_)
  refine OW.nil ?_
  refine OJ.run [3] [] [2] (m2 := [(2, Sl.v r3)]) (by kernel_rfl) (by kernel_rfl) ?_
  refine OJ.nil ?_
  exact SJ.ret (by kernel_rfl) rfl (Res.run (ys := [Sl.v r3]) (.tmp (by kernel_rfl) .nil) rfl)

/-! ### weir/weirlaw3.RingWindows: function 3 -/
noncomputable def weirlaw3_RingWindows.B : Code := (Try.f3.body).getD .skip
noncomputable def weirlaw3_RingWindows.cx : Fx := ⟨Try.prog, 3, Try.f3⟩
noncomputable def weirlaw3_RingWindows.out (r_ : Bool) : Value := .bool r_
noncomputable def weirlaw3_RingWindows.F0 (r_ : Bool) : Reach := .ret (weirlaw3_RingWindows.out r_)
noncomputable def weirlaw3_RingWindows.K1 (r11 : (Sl × Int)) (j45 : Int) (r47 : Sl) (r52 : (Sl × Bool)) : M Bool :=
  slot 5 >>= fun b61 =>
  appl (cI .u8) 5 1 0 r52.1 [4, 5, 6] >>= fun r62 =>
  draw >>= fun _ =>
  cut 1 r11.1 none (some j45) none >>= fun r63 =>
  cut 1 r47 none (some j45) none >>= fun r64 =>
  weirlaw3_alike r63 r64 >>= fun r65 =>
  (if r65 = true then
      pure ((r62.len : Int) == (IntKind.wrap .i64 (j45 + 3)))
    else
      pure false) >>= fun y66 =>
  pure y66
theorem weirlaw3_RingWindows.K1_ok (r11 : (Sl × Int)) (j45 : Int) (r47 : Sl) (r52 : (Sl × Bool)) :
    SJ weirlaw3_RingWindows.cx [.code (c2 (c2 (c2 (c2 (c2 (c2 (c2 (c2 (c2 (c2 (c2 (c2 (c2 (c2 (c2 (c2 (c2 (c2 (c2 (c2 weirlaw3_RingWindows.B))))))))))))))))))))] [(0, .int .i64 j45), (12, Sl.v r11.1), (20, Sl.v r47), (21, Sl.v r52.1)] [] (weirlaw3_RingWindows.K1 r11 j45 r47 r52) weirlaw3_RingWindows.F0 := by
  unfold weirlaw3_RingWindows.K1
  refine SJ.seq (by kernel_rfl) ?_
  refine SJ.region (id := 44) (by kernel_rfl) [0, 1, 2, 3] (by kernel_rfl) ?_
  refine OJ.run [0] [1, 2, 3] [0, 12, 20, 21, 209] (m2 := [(0, .int .i64 j45), (12, Sl.v r11.1), (20, Sl.v r47), (21, Sl.v r52.1), (209, Sl.v r52.1)]) (by kernel_rfl) (by kernel_rfl) ?_
  refine OJ.rowSlot (d := 210) (t := 22) (parts := [(0, .const (.int .u8 4)), (1, .const (.int .u8 5)), (2, .const (.int .u8 6))]) (ps := [(0, (cI .u8).val 4), (1, (cI .u8).val 5), (2, (cI .u8).val 6)]) (cd := (cI .u8)) (⟨[4, 5, 6], rfl⟩ : Vec Int 3) (owed := []) (by kernel_rfl) (by kernel_rfl) (by kernel_rfl) Ty5 (by kernel_rfl) (Filled.cons (cd := (cI .u8)) (q := 4) (o := 0) rfl (Upd.arr (i := 0) (by decide) (by decide)) (Filled.cons (cd := (cI .u8)) (q := 5) (o := 1) rfl (Upd.arr (i := 1) (by decide) (by decide)) (Filled.cons (cd := (cI .u8)) (q := 6) (o := 2) rfl (Upd.arr (i := 2) (by decide) (by decide)) Filled.nil))) (by kernel_rfl) (by kernel_rfl) (by kernel_rfl) (fun b61 => ?_)
  refine OW.nil ?_
  refine OJ.appl (d := 211) (t := 22) (u := 22) (so := .tmp 209) (xo := .tmp 210) (j := 0) (b := b61) (l := ((cI .u8).arr 3).enc (⟨[4, 5, 6], rfl⟩ : Vec Int 3)) (n := 3) (k := 3) [4, 5, 6] (owed := []) (by kernel_rfl) (by kernel_rfl) (by kernel_rfl) Ty5 (by kernel_rfl) (by kernel_rfl) (by kernel_rfl) (by rfl) (Cod.arr_enc _ _ _) (by rfl) (by kernel_rfl) (by kernel_rfl) (by kernel_rfl) (fun r62 => ?_)
  refine OW.nil ?_
  refine OJ.run [3] [] [0, 12, 20, 21] (m2 := [(0, .int .i64 j45), (12, Sl.v r11.1), (20, Sl.v r47), (21, Sl.v r62)]) (by kernel_rfl) (by kernel_rfl) ?_
  refine OJ.nil ?_
  refine SJ.seq (by kernel_rfl) ?_
  refine SJ.draw (id := 45) (kd := [0, 0, 0, 0, 0, 0, 2, 0, 0, 0, 0, 0, 0, 0, 0]) (bef := [0, 0, 3, 0, 0, 24, 63, 127, 255, 511, 255, 1279, 4095, 8191, 16383]) (ord := [0, 1, 2, 3, 4, 5, 6, 7, 8, 9, 10, 11, 12, 13, 14]) (by kernel_rfl) mixed (by kernel_rfl) ?_
  refine OJ.run [0, 1] [2, 3, 4, 5, 6, 7, 8, 9, 10, 11, 12, 13, 14] [0, 20, 21, 212, 213] (m2 := [(0, .int .i64 j45), (20, Sl.v r47), (21, Sl.v r62), (212, Sl.v r11.1), (213, .int .i64 j45)]) (by kernel_rfl) (by kernel_rfl) ?_
  refine OJ.cut (d := 214) (t := 22) (E := 5) (y := .tmp 212) (lo := none) (hi := (some (.tmp 213))) (mx := none) (lo' := none) (hi' := some (.i64, j45)) (mx' := none) (by kernel_rfl) (by kernel_rfl) (by kernel_rfl) (by kernel_rfl) (by kernel_rfl) (by kernel_rfl) (by kernel_rfl) (fun h => by cases h) (by kernel_rfl) (by kernel_rfl) (by kernel_rfl) (fun r63 => ?_)
  refine OJ.run [3, 4] [5, 6, 7, 8, 9, 10, 11, 12, 13, 14] [0, 21, 214, 215, 216] (m2 := [(0, .int .i64 j45), (21, Sl.v r62), (214, Sl.v r63), (215, Sl.v r47), (216, .int .i64 j45)]) (by kernel_rfl) (by kernel_rfl) ?_
  refine OJ.cut (d := 217) (t := 22) (E := 5) (y := .tmp 215) (lo := none) (hi := (some (.tmp 216))) (mx := none) (lo' := none) (hi' := some (.i64, j45)) (mx' := none) (by kernel_rfl) (by kernel_rfl) (by kernel_rfl) (by kernel_rfl) (by kernel_rfl) (by kernel_rfl) (by kernel_rfl) (fun h => by cases h) (by kernel_rfl) (by kernel_rfl) (by kernel_rfl) (fun r64 => ?_)
  refine OJ.call (d := 218) (g := 19) (ats := #[22, 22]) (args := [.tmp 214, .tmp 217]) (vals := [Sl.v r63, Sl.v r64]) (owed := []) (by kernel_rfl) F19 (by kernel_rfl) (weirlaw3_alike_ok r63 r64) (by kernel_rfl) (by kernel_rfl) (by kernel_rfl) (fun r65 => ?_)
  refine OW.nil ?_
  refine OJ.run [7] [8, 9, 10, 11, 12, 13, 14] [0, 21, 219] (m2 := [(0, .int .i64 j45), (21, Sl.v r62), (219, .bool r65)]) (by kernel_rfl) (by kernel_rfl) ?_
  refine OJ.join (b := r65) [8, 9, 10, 11, 12, 13] [14] [225] (fun y66 => [(225, .bool y66)]) [] [] (by kernel_rfl) (t := 219) (by kernel_rfl) Iff.rfl (fun hp_ => ?_) (fun hp_ => ?_) (by kernel_rfl) (fun _ _ _ _ _ _ h_ => h_) (fun y66 => ?_)
  · refine OJ.run [8, 9, 10, 11, 12, 13] [] [225] (m2 := [(225, .bool ((r62.len : Int) == (IntKind.wrap .i64 (j45 + 3))))]) (by kernel_rfl) (by kernel_rfl) ?_
    exact OJ.nil ⟨(Cov.mem Cov.nil), rfl, _, rfl, by kernel_rfl⟩
  · refine OJ.run [8, 9, 10, 11, 12, 13] [] [225] (m2 := [(225, .bool false)]) (by kernel_rfl) (by kernel_rfl) ?_
    exact OJ.nil ⟨(Cov.mem Cov.nil), rfl, _, rfl, by kernel_rfl⟩
  · refine OJ.run [14] [] [6] (m2 := [(6, .bool y66)]) (by kernel_rfl) (by kernel_rfl) ?_
    refine OJ.nil ?_
    exact SJ.ret (by kernel_rfl) rfl (Res.run (ys := [.bool y66]) (.tmp (by kernel_rfl) .nil) rfl)
noncomputable def weirlaw3_RingWindows.F1 (r11 : (Sl × Int)) (j45 : Int) (r47 : Sl) (r52 : (Sl × Bool)) : (LS Int Bool) → Reach := loopF [.inLoop (c1 (c1 (c2 (c1 (c2 (c2 (c2 (c2 (c2 (c2 (c2 (c2 (c2 (c2 (c2 (c2 (c2 (c2 (c2 (c2 (c2 (c2 (c2 weirlaw3_RingWindows.B))))))))))))))))))))))), .inBlock 8, .code (c2 (c2 (c2 (c2 (c2 (c2 (c2 (c2 (c2 (c2 (c2 (c2 (c2 (c2 (c2 (c2 (c2 (c2 (c2 (c2 weirlaw3_RingWindows.B))))))))))))))))))))] (fun s_ : Int => [(0, .int .i64 j45), (12, Sl.v r11.1), (20, Sl.v r47), (21, Sl.v r52.1), (23, .int .i64 s_)]) (fun s_ : Int => []) weirlaw3_RingWindows.F0
noncomputable def weirlaw3_RingWindows.L1 (r11 : (Sl × Int)) (j45 : Int) (r47 : Sl) (r52 : (Sl × Bool)) (s56 : Int) : M (LS Int Bool) :=
  if s56 < (r52.1.len : Int) then
    idx r52.1.a r52.1.len s56 1 >>= fun p67 =>
    ld (cI .u8) p67 >>= fun x68 =>
    idx r52.1.a r52.1.len s56 1 >>= fun p69 =>
    st (cI .u8) p69 (bxor .u8 x68 255) >>= fun _ =>
    pure (LS.next (IntKind.wrap .i64 (s56 + 1)))
  else
    (weirlaw3_RingWindows.K1 r11 j45 r47 r52) >>= fun b => pure (LS.done b)
theorem weirlaw3_RingWindows.L1_ok (r11 : (Sl × Int)) (j45 : Int) (r47 : Sl) (r52 : (Sl × Bool)) (s56 : Int) :
    SJ weirlaw3_RingWindows.cx [.code (c1 (c1 (c2 (c1 (c2 (c2 (c2 (c2 (c2 (c2 (c2 (c2 (c2 (c2 (c2 (c2 (c2 (c2 (c2 (c2 (c2 (c2 (c2 weirlaw3_RingWindows.B))))))))))))))))))))))), .inLoop (c1 (c1 (c2 (c1 (c2 (c2 (c2 (c2 (c2 (c2 (c2 (c2 (c2 (c2 (c2 (c2 (c2 (c2 (c2 (c2 (c2 (c2 (c2 weirlaw3_RingWindows.B))))))))))))))))))))))), .inBlock 8, .code (c2 (c2 (c2 (c2 (c2 (c2 (c2 (c2 (c2 (c2 (c2 (c2 (c2 (c2 (c2 (c2 (c2 (c2 (c2 (c2 weirlaw3_RingWindows.B))))))))))))))))))))] [(0, .int .i64 j45), (12, Sl.v r11.1), (20, Sl.v r47), (21, Sl.v r52.1), (23, .int .i64 s56)] [] (weirlaw3_RingWindows.L1 r11 j45 r47 r52 s56) (weirlaw3_RingWindows.F1 r11 j45 r47 r52) := by
  unfold weirlaw3_RingWindows.L1
  refine SJ.seq (by kernel_rfl) ?_
  refine SJ.seq (by kernel_rfl) ?_
  refine SJ.region (id := 41) (by kernel_rfl) [0, 1, 2, 3] (by kernel_rfl) ?_
  refine OJ.run [0, 1, 2, 3] [] [0, 12, 20, 21, 23, 198] (m2 := [(0, .int .i64 j45), (12, Sl.v r11.1), (20, Sl.v r47), (21, Sl.v r52.1), (23, .int .i64 s56), (198, .bool (decide (s56 < (r52.1.len : Int))))]) (by kernel_rfl) (by kernel_rfl) ?_
  refine OJ.nil ?_
  refine SJ.cond (t := (.tmp 198)) (b := decide (s56 < (r52.1.len : Int))) (by kernel_rfl) (by kernel_rfl) decide_eq_true_iff (fun hc70 => ?_) (fun hc70 => ?_)
  · refine SJ.skip (by kernel_rfl) ?_
    refine SJ.seq (by kernel_rfl) ?_
    refine SJ.block (id := 9) (by kernel_rfl) ?_
    refine SJ.region (id := 43) (by kernel_rfl) [0, 1, 2, 3, 4, 5, 6, 7, 8] (by kernel_rfl) ?_
    refine OJ.run [0, 1, 2, 3] [4, 5, 6, 7, 8] [0, 12, 20, 21, 23, 201, 202, 203, 204] (m2 := [(0, .int .i64 j45), (12, Sl.v r11.1), (20, Sl.v r47), (21, Sl.v r52.1), (23, .int .i64 s56), (201, Sl.v r52.1), (202, .int .i64 s56), (203, Sl.v r52.1), (204, .int .i64 s56)]) (by kernel_rfl) (by kernel_rfl) ?_
    refine OJ.idxS (d := 205) (T := 22) (y := .tmp 203) (j := .tmp 204) (E := 5) (cap := r52.1.cap) (k := .i64) (by kernel_rfl) (by kernel_rfl) (by kernel_rfl) (by kernel_rfl) (by kernel_rfl) (by kernel_rfl) (by kernel_rfl) (by kernel_rfl) (fun p67 => ?_)
    refine OJ.ld (d := 206) (T := 5) (y := .tmp 205) (pend2 := fun x68 => []) (by kernel_rfl) (by kernel_rfl) Ty5 (by kernel_rfl) (by kernel_rfl) (fun _ => rfl) (fun x68 => ?_)
    refine OJ.run [6] [7, 8] [0, 12, 20, 21, 23, 201, 202, 207] (m2 := [(0, .int .i64 j45), (12, Sl.v r11.1), (20, Sl.v r47), (21, Sl.v r52.1), (23, .int .i64 s56), (201, Sl.v r52.1), (202, .int .i64 s56), (207, .int .u8 (bxor .u8 x68 255))]) (by kernel_rfl) (by kernel_rfl) ?_
    refine OJ.idxS (d := 208) (T := 22) (y := .tmp 201) (j := .tmp 202) (E := 5) (cap := r52.1.cap) (k := .i64) (by kernel_rfl) (by kernel_rfl) (by kernel_rfl) (by kernel_rfl) (by kernel_rfl) (by kernel_rfl) (by kernel_rfl) (by kernel_rfl) (fun p69 => ?_)
    refine OJ.st (T := 5) (y := .tmp 208) (z := .tmp 207) (owed := []) (by kernel_rfl) (by kernel_rfl) (by kernel_rfl) Ty5 (by kernel_rfl) (by kernel_rfl) ?_
    refine OW.nil ?_
    refine OJ.nil ?_
    refine SJ.inBlock ?_
    refine SJ.region (id := 42) (by kernel_rfl) [0, 1, 2] (by kernel_rfl) ?_
    refine OJ.run [0, 1, 2] [] [0, 12, 20, 21, 23] (m2 := [(0, .int .i64 j45), (12, Sl.v r11.1), (20, Sl.v r47), (21, Sl.v r52.1), (23, .int .i64 (IntKind.wrap .i64 (s56 + 1)))]) (by kernel_rfl) (by kernel_rfl) ?_
    refine OJ.nil ?_
    exact SJ.at_ [0, 12, 20, 21, 23] rfl (by kernel_rfl)
  · refine SJ.exit (id := 8) (by kernel_rfl) (by rfl) ?_
    refine SJ.less [0, 12, 20, 21] (m' := [(0, .int .i64 j45), (12, Sl.v r11.1), (20, Sl.v r47), (21, Sl.v r52.1)]) (by kernel_rfl) ?_
    refine SJ.done ?_
    exact weirlaw3_RingWindows.K1_ok r11 j45 r47 r52
noncomputable def weirlaw3_RingWindows.K2 (r1 : ((Option Addr) × Int)) (j7 : Sl) (r10 : (Int × Sl × Bool)) (r11 : (Sl × Int)) (r22 : Sl) (r24 : Sl) (j45 : Int) : M Bool :=
  cut 1 r11.1 none (some j45) none >>= fun r46 =>
  weirlaw3_wide r46 >>= fun r47 =>
  ring_Port_Send r1.1 r10.1 j45 >>= fun r48 =>
  weirlaw3_num r48 >>= fun r49 =>
  (if r49 ≠ 0 then
      pure true
    else
      pure ((r22.len : Int) != (IntKind.wrap .i64 ((j7.len : Int) + 3)))) >>= fun y50 =>
  (if y50 = true then
      pure true
    else
      pure ((r24.len : Int) != 67)) >>= fun y51 =>
  if y51 = true then
    pure false
  else
    ring_Port_Drain r1.1 >>= fun r52 =>
    (if ¬ (r52.2 = true) then
        pure true
      else
        cut 1 r47 none (some j45) none >>= fun r53 =>
        weirlaw3_alike r52.1 r53 >>= fun r54 =>
        pure (!r54)) >>= fun y55 =>
    if y55 = true then
      pure false
    else
      loopM (fun s_ : Int => weirlaw3_RingWindows.L1 r11 j45 r47 r52 s_) 0
theorem weirlaw3_RingWindows.K2_ok (r1 : ((Option Addr) × Int)) (j7 : Sl) (r10 : (Int × Sl × Bool)) (r11 : (Sl × Int)) (r22 : Sl) (r24 : Sl) (j45 : Int) :
    SJ weirlaw3_RingWindows.cx [.code (c2 (c2 (c2 (c2 (c2 (c2 (c2 (c2 (c2 (c2 (c2 (c2 (c2 (c2 (c2 weirlaw3_RingWindows.B)))))))))))))))] [(0, .int .i64 j45), (1, Sl.v j7), (7, .pointer r1.1), (9, .int .i64 r10.1), (12, Sl.v r11.1), (15, Sl.v r22), (16, Sl.v r24)] [] (weirlaw3_RingWindows.K2 r1 j7 r10 r11 r22 r24 j45) weirlaw3_RingWindows.F0 := by
  unfold weirlaw3_RingWindows.K2
  refine SJ.seq (by kernel_rfl) ?_
  refine SJ.region (id := 34) (by kernel_rfl) [0, 1, 2, 3, 4] (by kernel_rfl) ?_
  refine OJ.run [0, 1] [2, 3, 4] [0, 1, 7, 9, 12, 15, 16, 157, 158] (m2 := [(0, .int .i64 j45), (1, Sl.v j7), (7, .pointer r1.1), (9, .int .i64 r10.1), (12, Sl.v r11.1), (15, Sl.v r22), (16, Sl.v r24), (157, Sl.v r11.1), (158, .int .i64 j45)]) (by kernel_rfl) (by kernel_rfl) ?_
  refine OJ.cut (d := 159) (t := 22) (E := 5) (y := .tmp 157) (lo := none) (hi := (some (.tmp 158))) (mx := none) (lo' := none) (hi' := some (.i64, j45)) (mx' := none) (by kernel_rfl) (by kernel_rfl) (by kernel_rfl) (by kernel_rfl) (by kernel_rfl) (by kernel_rfl) (by kernel_rfl) (fun h => by cases h) (by kernel_rfl) (by kernel_rfl) (by kernel_rfl) (fun r46 => ?_)
  refine OJ.call (d := 160) (g := 20) (ats := #[22]) (args := [.tmp 159]) (vals := [Sl.v r46]) (owed := []) (by kernel_rfl) F20 (by kernel_rfl) (weirlaw3_wide_ok r46) (by kernel_rfl) (by kernel_rfl) (by kernel_rfl) (fun r47 => ?_)
  refine OW.nil ?_
  refine OJ.run [4] [] [0, 1, 7, 9, 12, 15, 16, 20] (m2 := [(0, .int .i64 j45), (1, Sl.v j7), (7, .pointer r1.1), (9, .int .i64 r10.1), (12, Sl.v r11.1), (15, Sl.v r22), (16, Sl.v r24), (20, Sl.v r47)]) (by kernel_rfl) (by kernel_rfl) ?_
  refine OJ.nil ?_
  refine SJ.seq (by kernel_rfl) ?_
  refine SJ.seq (by kernel_rfl) ?_
  refine SJ.region (id := 35) (by kernel_rfl) [0, 1, 2, 3, 4, 5, 6, 7, 8, 9, 10, 11, 12, 13, 14, 15, 16, 17, 18] (by kernel_rfl) ?_
  refine OJ.run [0, 1, 2] [3, 4, 5, 6, 7, 8, 9, 10, 11, 12, 13, 14, 15, 16, 17, 18] [0, 1, 7, 12, 15, 16, 20, 161, 162, 163] (m2 := [(0, .int .i64 j45), (1, Sl.v j7), (7, .pointer r1.1), (12, Sl.v r11.1), (15, Sl.v r22), (16, Sl.v r24), (20, Sl.v r47), (161, .pointer r1.1), (162, .int .i64 r10.1), (163, .int .i64 j45)]) (by kernel_rfl) (by kernel_rfl) ?_
  refine OJ.call (d := 164) (g := 21) (ats := #[23, 3, 3]) (args := [.tmp 161, .tmp 162, .tmp 163]) (vals := [.pointer r1.1, .int .i64 r10.1, .int .i64 j45]) (owed := []) (by kernel_rfl) F21 (by kernel_rfl) (ring_Port_Send_ok r1.1 r10.1 j45) (by kernel_rfl) (by kernel_rfl) (by kernel_rfl) (fun r48 => ?_)
  refine OW.nil ?_
  refine OJ.call (d := 165) (g := 14) (ats := #[24]) (args := [.tmp 164]) (vals := [.int .i64 r48]) (owed := []) (by kernel_rfl) F14 (by kernel_rfl) (weirlaw3_num_ok r48) (by kernel_rfl) (by kernel_rfl) (by kernel_rfl) (fun r49 => ?_)
  refine OW.nil ?_
  refine OJ.run [5, 6] [7, 8, 9, 10, 11, 12, 13, 14, 15, 16, 17, 18] [0, 1, 7, 12, 15, 16, 20, 167] (m2 := [(0, .int .i64 j45), (1, Sl.v j7), (7, .pointer r1.1), (12, Sl.v r11.1), (15, Sl.v r22), (16, Sl.v r24), (20, Sl.v r47), (167, .bool (r49 != 0))]) (by kernel_rfl) (by kernel_rfl) ?_
  refine OJ.join (b := (r49 != 0)) [7, 8, 9, 10, 11, 12, 13] [14, 15, 16, 17, 18] [0, 7, 12, 16, 20, 174] (fun y50 => [(0, .int .i64 j45), (7, .pointer r1.1), (12, Sl.v r11.1), (16, Sl.v r24), (20, Sl.v r47), (174, .bool y50)]) [] [] (by kernel_rfl) (t := 167) (by kernel_rfl) bne_iff_ne (fun hp_ => ?_) (fun hp_ => ?_) (by kernel_rfl) (fun _ _ _ _ _ _ h_ => h_) (fun y50 => ?_)
  · refine OJ.run [7, 8, 9, 10, 11, 12, 13] [] [0, 7, 12, 16, 20, 174] (m2 := [(0, .int .i64 j45), (7, .pointer r1.1), (12, Sl.v r11.1), (16, Sl.v r24), (20, Sl.v r47), (174, .bool true)]) (by kernel_rfl) (by kernel_rfl) ?_
    exact OJ.nil ⟨(Cov.mem Cov.nil), rfl, _, rfl, by kernel_rfl⟩
  · refine OJ.run [7, 8, 9, 10, 11, 12, 13] [] [0, 7, 12, 16, 20, 174] (m2 := [(0, .int .i64 j45), (7, .pointer r1.1), (12, Sl.v r11.1), (16, Sl.v r24), (20, Sl.v r47), (174, .bool ((r22.len : Int) != (IntKind.wrap .i64 ((j7.len : Int) + 3))))]) (by kernel_rfl) (by kernel_rfl) ?_
    exact OJ.nil ⟨(Cov.mem Cov.nil), rfl, _, rfl, by kernel_rfl⟩
  · refine OJ.run [14] [15, 16, 17, 18] [0, 7, 12, 16, 20, 175] (m2 := [(0, .int .i64 j45), (7, .pointer r1.1), (12, Sl.v r11.1), (16, Sl.v r24), (20, Sl.v r47), (175, .bool y50)]) (by kernel_rfl) (by kernel_rfl) ?_
    refine OJ.join (b := y50) [15, 16, 17, 18] [] [0, 7, 12, 20, 179] (fun y51 => [(0, .int .i64 j45), (7, .pointer r1.1), (12, Sl.v r11.1), (20, Sl.v r47), (179, .bool y51)]) [] [] (by kernel_rfl) (t := 175) (by kernel_rfl) Iff.rfl (fun hp_ => ?_) (fun hp_ => ?_) (by kernel_rfl) (fun _ _ _ _ _ _ h_ => h_) (fun y51 => ?_)
    · refine OJ.run [15, 16, 17, 18] [] [0, 7, 12, 20, 179] (m2 := [(0, .int .i64 j45), (7, .pointer r1.1), (12, Sl.v r11.1), (20, Sl.v r47), (179, .bool true)]) (by kernel_rfl) (by kernel_rfl) ?_
      exact OJ.nil ⟨(Cov.mem Cov.nil), rfl, _, rfl, by kernel_rfl⟩
    · refine OJ.run [15, 16, 17, 18] [] [0, 7, 12, 20, 179] (m2 := [(0, .int .i64 j45), (7, .pointer r1.1), (12, Sl.v r11.1), (20, Sl.v r47), (179, .bool ((r24.len : Int) != 67))]) (by kernel_rfl) (by kernel_rfl) ?_
      exact OJ.nil ⟨(Cov.mem Cov.nil), rfl, _, rfl, by kernel_rfl⟩
    · refine OJ.nil ?_
      refine SJ.cond (t := (.tmp 179)) (b := y51) (by kernel_rfl) (by kernel_rfl) Iff.rfl (fun hc72 => ?_) (fun hc72 => ?_)
      · refine SJ.seq (by kernel_rfl) ?_
        refine SJ.region (id := 36) (by kernel_rfl) [0] (by kernel_rfl) ?_
        refine OJ.run [0] [] [6] (m2 := [(6, .bool false)]) (by kernel_rfl) (by kernel_rfl) ?_
        refine OJ.nil ?_
        exact SJ.ret (by kernel_rfl) rfl (Res.run (ys := [.bool false]) (.tmp (by kernel_rfl) .nil) rfl)
      · refine SJ.skip (by kernel_rfl) ?_
        refine SJ.seq (by kernel_rfl) ?_
        refine SJ.region (id := 37) (by kernel_rfl) [0, 1, 2, 3, 4, 5, 6] (by kernel_rfl) ?_
        refine OJ.run [0] [1, 2, 3, 4, 5, 6] [0, 12, 20, 181] (m2 := [(0, .int .i64 j45), (12, Sl.v r11.1), (20, Sl.v r47), (181, .pointer r1.1)]) (by kernel_rfl) (by kernel_rfl) ?_
        refine OJ.call (d := 182) (g := 22) (ats := #[23]) (args := [.tmp 181]) (vals := [.pointer r1.1]) (owed := []) (by kernel_rfl) F22 (by kernel_rfl) (ring_Port_Drain_ok r1.1) (by kernel_rfl) (by kernel_rfl) (by kernel_rfl) (fun r52 => ?_)
        refine OW.nil ?_
        refine OJ.run [2, 3, 4, 5, 6] [] [0, 12, 20, 21, 22] (m2 := [(0, .int .i64 j45), (12, Sl.v r11.1), (20, Sl.v r47), (21, Sl.v r52.1), (22, .bool r52.2)]) (by kernel_rfl) (by kernel_rfl) ?_
        refine OJ.nil ?_
        refine SJ.seq (by kernel_rfl) ?_
        refine SJ.seq (by kernel_rfl) ?_
        refine SJ.region (id := 38) (by kernel_rfl) [0, 1, 2, 3, 4, 5, 6, 7, 8, 9] (by kernel_rfl) ?_
        refine OJ.run [0, 1, 2] [3, 4, 5, 6, 7, 8, 9] [0, 12, 20, 21, 187] (m2 := [(0, .int .i64 j45), (12, Sl.v r11.1), (20, Sl.v r47), (21, Sl.v r52.1), (187, .bool (!r52.2))]) (by kernel_rfl) (by kernel_rfl) ?_
        refine OJ.join (b := (!r52.2)) [3, 4, 5, 6, 7, 8, 9] [] [0, 12, 20, 21, 194] (fun y55 => [(0, .int .i64 j45), (12, Sl.v r11.1), (20, Sl.v r47), (21, Sl.v r52.1), (194, .bool y55)]) [] [] (by kernel_rfl) (t := 187) (by kernel_rfl) (bnot_iff Iff.rfl) (fun hp_ => ?_) (fun hp_ => ?_) (by kernel_rfl) (fun _ _ _ _ _ _ h_ => h_) (fun y55 => ?_)
        · refine OJ.run [3, 4, 5, 6, 7, 8, 9] [] [0, 12, 20, 21, 194] (m2 := [(0, .int .i64 j45), (12, Sl.v r11.1), (20, Sl.v r47), (21, Sl.v r52.1), (194, .bool true)]) (by kernel_rfl) (by kernel_rfl) ?_
          exact OJ.nil ⟨(Cov.mem Cov.nil), rfl, _, rfl, by kernel_rfl⟩
        · refine OJ.run [3, 4, 5] [6, 7, 8, 9] [0, 12, 20, 21, 187, 188, 189, 190] (m2 := [(0, .int .i64 j45), (12, Sl.v r11.1), (20, Sl.v r47), (21, Sl.v r52.1), (187, .bool false), (188, Sl.v r52.1), (189, Sl.v r47), (190, .int .i64 j45)]) (by kernel_rfl) (by kernel_rfl) ?_
          refine OJ.cut (d := 191) (t := 22) (E := 5) (y := .tmp 189) (lo := none) (hi := (some (.tmp 190))) (mx := none) (lo' := none) (hi' := some (.i64, j45)) (mx' := none) (by kernel_rfl) (by kernel_rfl) (by kernel_rfl) (by kernel_rfl) (by kernel_rfl) (by kernel_rfl) (by kernel_rfl) (fun h => by cases h) (by kernel_rfl) (by kernel_rfl) (by kernel_rfl) (fun r53 => ?_)
          refine OJ.call (d := 192) (g := 19) (ats := #[22, 22]) (args := [.tmp 188, .tmp 191]) (vals := [Sl.v r52.1, Sl.v r53]) (owed := []) (by kernel_rfl) F19 (by kernel_rfl) (weirlaw3_alike_ok r52.1 r53) (by kernel_rfl) (by kernel_rfl) (by kernel_rfl) (fun r54 => ?_)
          refine OW.nil ?_
          refine OJ.run [8, 9] [] [0, 12, 20, 21, 194] (m2 := [(0, .int .i64 j45), (12, Sl.v r11.1), (20, Sl.v r47), (21, Sl.v r52.1), (194, .bool (!r54))]) (by kernel_rfl) (by kernel_rfl) ?_
          exact OJ.nil ⟨(Cov.mem Cov.nil), rfl, _, rfl, by kernel_rfl⟩
        · refine OJ.nil ?_
          refine SJ.cond (t := (.tmp 194)) (b := y55) (by kernel_rfl) (by kernel_rfl) Iff.rfl (fun hc71 => ?_) (fun hc71 => ?_)
          · refine SJ.seq (by kernel_rfl) ?_
            refine SJ.region (id := 39) (by kernel_rfl) [0] (by kernel_rfl) ?_
            refine OJ.run [0] [] [6] (m2 := [(6, .bool false)]) (by kernel_rfl) (by kernel_rfl) ?_
            refine OJ.nil ?_
            exact SJ.ret (by kernel_rfl) rfl (Res.run (ys := [.bool false]) (.tmp (by kernel_rfl) .nil) rfl)
          · refine SJ.skip (by kernel_rfl) ?_
            refine SJ.seq (by kernel_rfl) ?_
            refine SJ.seq (by kernel_rfl) ?_
            refine SJ.region (id := 40) (by kernel_rfl) [0] (by kernel_rfl) ?_
            refine OJ.run [0] [] [0, 12, 20, 21, 23] (m2 := [(0, .int .i64 j45), (12, Sl.v r11.1), (20, Sl.v r47), (21, Sl.v r52.1), (23, .int .i64 0)]) (by kernel_rfl) (by kernel_rfl) ?_
            refine OJ.nil ?_
            refine SJ.block (id := 8) (by kernel_rfl) ?_
            exact SJ.loop (fun s_ : Int => [(0, .int .i64 j45), (12, Sl.v r11.1), (20, Sl.v r47), (21, Sl.v r52.1), (23, .int .i64 s_)]) (fun s_ : Int => []) [0, 12, 20, 21, 23] (by kernel_rfl) (by kernel_rfl) rfl (fun _ _ => rfl) (fun s_ => weirlaw3_RingWindows.L1_ok r11 j45 r47 r52 s_)
noncomputable def weirlaw3_RingWindows.K3 (a0 : Int) (r1 : ((Option Addr) × Int)) (j7 : Sl) (r10 : (Int × Sl × Bool)) (r11 : (Sl × Int)) (r22 : Sl) (r24 : Sl) : M Bool :=
  (if a0 < 0 then
      pure true
    else
      pure (decide (a0 > 64))) >>= fun y44 =>
  if y44 = true then
    weirlaw3_RingWindows.K2 r1 j7 r10 r11 r22 r24 64
  else
    weirlaw3_RingWindows.K2 r1 j7 r10 r11 r22 r24 a0
theorem weirlaw3_RingWindows.K3_ok (a0 : Int) (r1 : ((Option Addr) × Int)) (j7 : Sl) (r10 : (Int × Sl × Bool)) (r11 : (Sl × Int)) (r22 : Sl) (r24 : Sl) :
    SJ weirlaw3_RingWindows.cx [.code (c2 (c2 (c2 (c2 (c2 (c2 (c2 (c2 (c2 (c2 (c2 (c2 (c2 (c2 weirlaw3_RingWindows.B))))))))))))))] [(0, .int .i64 a0), (1, Sl.v j7), (7, .pointer r1.1), (9, .int .i64 r10.1), (12, Sl.v r11.1), (15, Sl.v r22), (16, Sl.v r24)] [] (weirlaw3_RingWindows.K3 a0 r1 j7 r10 r11 r22 r24) weirlaw3_RingWindows.F0 := by
  unfold weirlaw3_RingWindows.K3
  refine SJ.seq (by kernel_rfl) ?_
  refine SJ.seq (by kernel_rfl) ?_
  refine SJ.region (id := 32) (by kernel_rfl) [0, 1, 2, 3, 4, 5] (by kernel_rfl) ?_
  refine OJ.run [0, 1, 2] [3, 4, 5] [0, 1, 7, 9, 12, 15, 16, 153] (m2 := [(0, .int .i64 a0), (1, Sl.v j7), (7, .pointer r1.1), (9, .int .i64 r10.1), (12, Sl.v r11.1), (15, Sl.v r22), (16, Sl.v r24), (153, .bool (decide (a0 < 0)))]) (by kernel_rfl) (by kernel_rfl) ?_
  refine OJ.join (b := decide (a0 < 0)) [3, 4, 5] [] [0, 1, 7, 9, 12, 15, 16, 156] (fun y44 => [(0, .int .i64 a0), (1, Sl.v j7), (7, .pointer r1.1), (9, .int .i64 r10.1), (12, Sl.v r11.1), (15, Sl.v r22), (16, Sl.v r24), (156, .bool y44)]) [] [] (by kernel_rfl) (t := 153) (by kernel_rfl) decide_eq_true_iff (fun hp_ => ?_) (fun hp_ => ?_) (by kernel_rfl) (fun _ _ _ _ _ _ h_ => h_) (fun y44 => ?_)
  · refine OJ.run [3, 4, 5] [] [0, 1, 7, 9, 12, 15, 16, 156] (m2 := [(0, .int .i64 a0), (1, Sl.v j7), (7, .pointer r1.1), (9, .int .i64 r10.1), (12, Sl.v r11.1), (15, Sl.v r22), (16, Sl.v r24), (156, .bool true)]) (by kernel_rfl) (by kernel_rfl) ?_
    exact OJ.nil ⟨(Cov.mem Cov.nil), rfl, _, rfl, by kernel_rfl⟩
  · refine OJ.run [3, 4, 5] [] [0, 1, 7, 9, 12, 15, 16, 156] (m2 := [(0, .int .i64 a0), (1, Sl.v j7), (7, .pointer r1.1), (9, .int .i64 r10.1), (12, Sl.v r11.1), (15, Sl.v r22), (16, Sl.v r24), (156, .bool (decide (a0 > 64)))]) (by kernel_rfl) (by kernel_rfl) ?_
    exact OJ.nil ⟨(Cov.mem Cov.nil), rfl, _, rfl, by kernel_rfl⟩
  · refine OJ.nil ?_
    refine SJ.cond (t := (.tmp 156)) (b := y44) (by kernel_rfl) (by kernel_rfl) Iff.rfl (fun hc73 => ?_) (fun hc73 => ?_)
    · refine SJ.region (id := 33) (by kernel_rfl) [0] (by kernel_rfl) ?_
      refine OJ.run [0] [] [0, 1, 7, 9, 12, 15, 16] (m2 := [(0, .int .i64 64), (1, Sl.v j7), (7, .pointer r1.1), (9, .int .i64 r10.1), (12, Sl.v r11.1), (15, Sl.v r22), (16, Sl.v r24)]) (by kernel_rfl) (by kernel_rfl) ?_
      refine OJ.nil ?_
      refine SJ.less [0, 1, 7, 9, 12, 15, 16] (m' := [(0, .int .i64 64), (1, Sl.v j7), (7, .pointer r1.1), (9, .int .i64 r10.1), (12, Sl.v r11.1), (15, Sl.v r22), (16, Sl.v r24)]) (by kernel_rfl) ?_
      exact weirlaw3_RingWindows.K2_ok r1 j7 r10 r11 r22 r24 64
    · refine SJ.skip (by kernel_rfl) ?_
      refine SJ.less [0, 1, 7, 9, 12, 15, 16] (m' := [(0, .int .i64 a0), (1, Sl.v j7), (7, .pointer r1.1), (9, .int .i64 r10.1), (12, Sl.v r11.1), (15, Sl.v r22), (16, Sl.v r24)]) (by kernel_rfl) ?_
      exact weirlaw3_RingWindows.K2_ok r1 j7 r10 r11 r22 r24 a0
noncomputable def weirlaw3_RingWindows.F2 (a0 : Int) (a2 : Sl) (r1 : ((Option Addr) × Int)) (j7 : Sl) (r10 : (Int × Sl × Bool)) (r11 : (Sl × Int)) (r22 : Sl) (r24 : Sl) : (LS Int Bool) → Reach := loopF [.inLoop (c1 (c1 (c2 (c1 (c2 (c2 (c2 (c2 (c2 (c2 (c2 (c2 (c2 (c2 (c2 (c2 (c2 weirlaw3_RingWindows.B))))))))))))))))), .inBlock 6, .code (c2 (c2 (c2 (c2 (c2 (c2 (c2 (c2 (c2 (c2 (c2 (c2 (c2 (c2 weirlaw3_RingWindows.B))))))))))))))] (fun s_ : Int => [(0, .int .i64 a0), (1, Sl.v j7), (2, Sl.v a2), (7, .pointer r1.1), (9, .int .i64 r10.1), (10, Sl.v r10.2.1), (12, Sl.v r11.1), (15, Sl.v r22), (16, Sl.v r24), (19, .int .i64 s_)]) (fun s_ : Int => []) weirlaw3_RingWindows.F0
noncomputable def weirlaw3_RingWindows.L2 (a0 : Int) (a2 : Sl) (r1 : ((Option Addr) × Int)) (j7 : Sl) (r10 : (Int × Sl × Bool)) (r11 : (Sl × Int)) (r22 : Sl) (r24 : Sl) (s36 : Int) : M (LS Int Bool) :=
  (if s36 < (r10.2.1.len : Int) then
      pure (decide (s36 < (a2.len : Int)))
    else
      pure false) >>= fun y74 =>
  if y74 = true then
    draw >>= fun _ =>
    idx r10.2.1.a r10.2.1.len s36 1 >>= fun p75 =>
    ld (cI .u8) p75 >>= fun x76 =>
    idx a2.a a2.len s36 1 >>= fun p77 =>
    ld (cI .u8) p77 >>= fun x78 =>
    if x76 ≠ x78 then
      pure (LS.done false)
    else
      pure (LS.next (IntKind.wrap .i64 (s36 + 1)))
  else
    (weirlaw3_RingWindows.K3 a0 r1 j7 r10 r11 r22 r24) >>= fun b => pure (LS.done b)
theorem weirlaw3_RingWindows.L2_ok (a0 : Int) (a2 : Sl) (r1 : ((Option Addr) × Int)) (j7 : Sl) (r10 : (Int × Sl × Bool)) (r11 : (Sl × Int)) (r22 : Sl) (r24 : Sl) (s36 : Int) :
    SJ weirlaw3_RingWindows.cx [.code (c1 (c1 (c2 (c1 (c2 (c2 (c2 (c2 (c2 (c2 (c2 (c2 (c2 (c2 (c2 (c2 (c2 weirlaw3_RingWindows.B))))))))))))))))), .inLoop (c1 (c1 (c2 (c1 (c2 (c2 (c2 (c2 (c2 (c2 (c2 (c2 (c2 (c2 (c2 (c2 (c2 weirlaw3_RingWindows.B))))))))))))))))), .inBlock 6, .code (c2 (c2 (c2 (c2 (c2 (c2 (c2 (c2 (c2 (c2 (c2 (c2 (c2 (c2 weirlaw3_RingWindows.B))))))))))))))] [(0, .int .i64 a0), (1, Sl.v j7), (2, Sl.v a2), (7, .pointer r1.1), (9, .int .i64 r10.1), (10, Sl.v r10.2.1), (12, Sl.v r11.1), (15, Sl.v r22), (16, Sl.v r24), (19, .int .i64 s36)] [] (weirlaw3_RingWindows.L2 a0 a2 r1 j7 r10 r11 r22 r24 s36) (weirlaw3_RingWindows.F2 a0 a2 r1 j7 r10 r11 r22 r24) := by
  unfold weirlaw3_RingWindows.L2
  refine SJ.seq (by kernel_rfl) ?_
  refine SJ.seq (by kernel_rfl) ?_
  refine SJ.region (id := 28) (by kernel_rfl) [0, 1, 2, 3, 4, 5, 6, 7, 8, 9] (by kernel_rfl) ?_
  refine OJ.run [0, 1, 2, 3, 4] [5, 6, 7, 8, 9] [0, 1, 2, 7, 9, 10, 12, 15, 16, 19, 134] (m2 := [(0, .int .i64 a0), (1, Sl.v j7), (2, Sl.v a2), (7, .pointer r1.1), (9, .int .i64 r10.1), (10, Sl.v r10.2.1), (12, Sl.v r11.1), (15, Sl.v r22), (16, Sl.v r24), (19, .int .i64 s36), (134, .bool (decide (s36 < (r10.2.1.len : Int))))]) (by kernel_rfl) (by kernel_rfl) ?_
  refine OJ.join (b := decide (s36 < (r10.2.1.len : Int))) [5, 6, 7, 8, 9] [] [0, 1, 2, 7, 9, 10, 12, 15, 16, 19, 139] (fun y74 => [(0, .int .i64 a0), (1, Sl.v j7), (2, Sl.v a2), (7, .pointer r1.1), (9, .int .i64 r10.1), (10, Sl.v r10.2.1), (12, Sl.v r11.1), (15, Sl.v r22), (16, Sl.v r24), (19, .int .i64 s36), (139, .bool y74)]) [] [] (by kernel_rfl) (t := 134) (by kernel_rfl) decide_eq_true_iff (fun hp_ => ?_) (fun hp_ => ?_) (by kernel_rfl) (fun _ _ _ _ _ _ h_ => h_) (fun y74 => ?_)
  · refine OJ.run [5, 6, 7, 8, 9] [] [0, 1, 2, 7, 9, 10, 12, 15, 16, 19, 139] (m2 := [(0, .int .i64 a0), (1, Sl.v j7), (2, Sl.v a2), (7, .pointer r1.1), (9, .int .i64 r10.1), (10, Sl.v r10.2.1), (12, Sl.v r11.1), (15, Sl.v r22), (16, Sl.v r24), (19, .int .i64 s36), (139, .bool (decide (s36 < (a2.len : Int))))]) (by kernel_rfl) (by kernel_rfl) ?_
    exact OJ.nil ⟨(Cov.mem Cov.nil), rfl, _, rfl, by kernel_rfl⟩
  · refine OJ.run [5, 6, 7, 8, 9] [] [0, 1, 2, 7, 9, 10, 12, 15, 16, 19, 139] (m2 := [(0, .int .i64 a0), (1, Sl.v j7), (2, Sl.v a2), (7, .pointer r1.1), (9, .int .i64 r10.1), (10, Sl.v r10.2.1), (12, Sl.v r11.1), (15, Sl.v r22), (16, Sl.v r24), (19, .int .i64 s36), (139, .bool false)]) (by kernel_rfl) (by kernel_rfl) ?_
    exact OJ.nil ⟨(Cov.mem Cov.nil), rfl, _, rfl, by kernel_rfl⟩
  · refine OJ.nil ?_
    refine SJ.cond (t := (.tmp 139)) (b := y74) (by kernel_rfl) (by kernel_rfl) Iff.rfl (fun hc80 => ?_) (fun hc80 => ?_)
    · refine SJ.skip (by kernel_rfl) ?_
      refine SJ.seq (by kernel_rfl) ?_
      refine SJ.block (id := 7) (by kernel_rfl) ?_
      refine SJ.seq (by kernel_rfl) ?_
      refine SJ.draw (id := 30) (kd := [0, 0, 0, 1, 0, 0, 0, 1, 0]) (bef := [0, 0, 3, 7, 0, 0, 48, 112, 255]) (ord := [0, 1, 2, 3, 4, 5, 6, 7, 8]) (by kernel_rfl) mixed (by kernel_rfl) ?_
      refine OJ.run [0, 1] [2, 3, 4, 5, 6, 7, 8] [0, 1, 2, 7, 9, 10, 12, 15, 16, 19, 142, 143] (m2 := [(0, .int .i64 a0), (1, Sl.v j7), (2, Sl.v a2), (7, .pointer r1.1), (9, .int .i64 r10.1), (10, Sl.v r10.2.1), (12, Sl.v r11.1), (15, Sl.v r22), (16, Sl.v r24), (19, .int .i64 s36), (142, Sl.v r10.2.1), (143, .int .i64 s36)]) (by kernel_rfl) (by kernel_rfl) ?_
      refine OJ.idxS (d := 144) (T := 22) (y := .tmp 142) (j := .tmp 143) (E := 5) (cap := r10.2.1.cap) (k := .i64) (by kernel_rfl) (by kernel_rfl) (by kernel_rfl) (by kernel_rfl) (by kernel_rfl) (by kernel_rfl) (by kernel_rfl) (by kernel_rfl) (fun p75 => ?_)
      refine OJ.ld (d := 145) (T := 5) (y := .tmp 144) (pend2 := fun x76 => [⟨3, 5, p75, (cI .u8).val x76⟩]) (by kernel_rfl) (by kernel_rfl) Ty5 (by kernel_rfl) (by kernel_rfl) (fun _ => rfl) (fun x76 => ?_)
      refine OJ.run [4, 5] [6, 7, 8] [0, 1, 2, 7, 9, 10, 12, 15, 16, 19, 145, 146, 147] (m2 := [(0, .int .i64 a0), (1, Sl.v j7), (2, Sl.v a2), (7, .pointer r1.1), (9, .int .i64 r10.1), (10, Sl.v r10.2.1), (12, Sl.v r11.1), (15, Sl.v r22), (16, Sl.v r24), (19, .int .i64 s36), (145, .int .u8 x76), (146, Sl.v a2), (147, .int .i64 s36)]) (by kernel_rfl) (by kernel_rfl) ?_
      refine OJ.idxS (d := 148) (T := 22) (y := .tmp 146) (j := .tmp 147) (E := 5) (cap := a2.cap) (k := .i64) (by kernel_rfl) (by kernel_rfl) (by kernel_rfl) (by kernel_rfl) (by kernel_rfl) (by kernel_rfl) (by kernel_rfl) (by kernel_rfl) (fun p77 => ?_)
      refine OJ.ld (d := 149) (T := 5) (y := .tmp 148) (pend2 := fun x78 => [⟨7, 5, p77, (cI .u8).val x78⟩, ⟨3, 5, p75, (cI .u8).val x76⟩]) (by kernel_rfl) (by kernel_rfl) Ty5 (by kernel_rfl) (by kernel_rfl) (fun _ => rfl) (fun x78 => ?_)
      refine OJ.run [8] [] [0, 1, 2, 7, 9, 10, 12, 15, 16, 19, 150] (m2 := [(0, .int .i64 a0), (1, Sl.v j7), (2, Sl.v a2), (7, .pointer r1.1), (9, .int .i64 r10.1), (10, Sl.v r10.2.1), (12, Sl.v r11.1), (15, Sl.v r22), (16, Sl.v r24), (19, .int .i64 s36), (150, .bool (x76 != x78))]) (by kernel_rfl) (by kernel_rfl) ?_
      refine OJ.nil ?_
      refine SJ.cond (t := (.tmp 150)) (b := (x76 != x78)) (by kernel_rfl) (by kernel_rfl) bne_iff_ne (fun hc79 => ?_) (fun hc79 => ?_)
      · refine SJ.seq (by kernel_rfl) ?_
        refine SJ.region (id := 31) (by kernel_rfl) [0] (by kernel_rfl) ?_
        refine OJ.run [0] [] [6] (m2 := [(6, .bool false)]) (by kernel_rfl) (by kernel_rfl) ?_
        refine OJ.nil ?_
        exact SJ.ret (by kernel_rfl) rfl (Res.run (ys := [.bool false]) (.tmp (by kernel_rfl) .nil) rfl)
      · refine SJ.skip (by kernel_rfl) ?_
        refine SJ.inBlock ?_
        refine SJ.region (id := 29) (by kernel_rfl) [0, 1, 2] (by kernel_rfl) ?_
        refine OJ.run [0, 1, 2] [] [0, 1, 2, 7, 9, 10, 12, 15, 16, 19] (m2 := [(0, .int .i64 a0), (1, Sl.v j7), (2, Sl.v a2), (7, .pointer r1.1), (9, .int .i64 r10.1), (10, Sl.v r10.2.1), (12, Sl.v r11.1), (15, Sl.v r22), (16, Sl.v r24), (19, .int .i64 (IntKind.wrap .i64 (s36 + 1)))]) (by kernel_rfl) (by kernel_rfl) ?_
        refine OJ.nil ?_
        exact SJ.at_ [0, 1, 2, 7, 9, 10, 12, 15, 16, 19] rfl (by kernel_rfl)
    · refine SJ.exit (id := 6) (by kernel_rfl) (by rfl) ?_
      refine SJ.less [0, 1, 7, 9, 12, 15, 16] (m' := [(0, .int .i64 a0), (1, Sl.v j7), (7, .pointer r1.1), (9, .int .i64 r10.1), (12, Sl.v r11.1), (15, Sl.v r22), (16, Sl.v r24)]) (by kernel_rfl) ?_
      refine SJ.done ?_
      exact weirlaw3_RingWindows.K3_ok a0 r1 j7 r10 r11 r22 r24
noncomputable def weirlaw3_RingWindows.K4 (a0 : Int) (a2 : Sl) (r1 : ((Option Addr) × Int)) (j7 : Sl) (r10 : (Int × Sl × Bool)) (r11 : (Sl × Int)) (r22 : Sl) (r24 : Sl) : M Bool :=
  loopM (fun s_ : Int => weirlaw3_RingWindows.L2 a0 a2 r1 j7 r10 r11 r22 r24 s_) 0
theorem weirlaw3_RingWindows.K4_ok (a0 : Int) (a2 : Sl) (r1 : ((Option Addr) × Int)) (j7 : Sl) (r10 : (Int × Sl × Bool)) (r11 : (Sl × Int)) (r22 : Sl) (r24 : Sl) :
    SJ weirlaw3_RingWindows.cx [.code (c2 (c2 (c2 (c2 (c2 (c2 (c2 (c2 (c2 (c2 (c2 (c2 (c2 weirlaw3_RingWindows.B)))))))))))))] [(0, .int .i64 a0), (1, Sl.v j7), (2, Sl.v a2), (7, .pointer r1.1), (9, .int .i64 r10.1), (10, Sl.v r10.2.1), (12, Sl.v r11.1), (15, Sl.v r22), (16, Sl.v r24)] [] (weirlaw3_RingWindows.K4 a0 a2 r1 j7 r10 r11 r22 r24) weirlaw3_RingWindows.F0 := by
  unfold weirlaw3_RingWindows.K4
  refine SJ.seq (by kernel_rfl) ?_
  refine SJ.seq (by kernel_rfl) ?_
  refine SJ.region (id := 27) (by kernel_rfl) [0] (by kernel_rfl) ?_
  refine OJ.run [0] [] [0, 1, 2, 7, 9, 10, 12, 15, 16, 19] (m2 := [(0, .int .i64 a0), (1, Sl.v j7), (2, Sl.v a2), (7, .pointer r1.1), (9, .int .i64 r10.1), (10, Sl.v r10.2.1), (12, Sl.v r11.1), (15, Sl.v r22), (16, Sl.v r24), (19, .int .i64 0)]) (by kernel_rfl) (by kernel_rfl) ?_
  refine OJ.nil ?_
  refine SJ.block (id := 6) (by kernel_rfl) ?_
  exact SJ.loop (fun s_ : Int => [(0, .int .i64 a0), (1, Sl.v j7), (2, Sl.v a2), (7, .pointer r1.1), (9, .int .i64 r10.1), (10, Sl.v r10.2.1), (12, Sl.v r11.1), (15, Sl.v r22), (16, Sl.v r24), (19, .int .i64 s_)]) (fun s_ : Int => []) [0, 1, 2, 7, 9, 10, 12, 15, 16, 19] (by kernel_rfl) (by kernel_rfl) rfl (fun _ _ => rfl) (fun s_ => weirlaw3_RingWindows.L2_ok a0 a2 r1 j7 r10 r11 r22 r24 s_)
noncomputable def weirlaw3_RingWindows.F3 (a0 : Int) (a2 : Sl) (r1 : ((Option Addr) × Int)) (j7 : Sl) (r10 : (Int × Sl × Bool)) (r11 : (Sl × Int)) (r22 : Sl) (r24 : Sl) : (LS Int Bool) → Reach := loopF [.inLoop (c1 (c1 (c2 (c1 (c2 (c2 (c2 (c2 (c2 (c2 (c2 (c2 (c2 (c2 (c2 (c2 weirlaw3_RingWindows.B)))))))))))))))), .inBlock 4, .code (c2 (c2 (c2 (c2 (c2 (c2 (c2 (c2 (c2 (c2 (c2 (c2 (c2 weirlaw3_RingWindows.B)))))))))))))] (fun s_ : Int => [(0, .int .i64 a0), (1, Sl.v j7), (2, Sl.v a2), (7, .pointer r1.1), (9, .int .i64 r10.1), (10, Sl.v r10.2.1), (12, Sl.v r11.1), (15, Sl.v r22), (16, Sl.v r24), (18, .int .i64 s_)]) (fun s_ : Int => []) weirlaw3_RingWindows.F0
noncomputable def weirlaw3_RingWindows.L3 (a0 : Int) (a2 : Sl) (r1 : ((Option Addr) × Int)) (j7 : Sl) (r10 : (Int × Sl × Bool)) (r11 : (Sl × Int)) (r22 : Sl) (r24 : Sl) (s30 : Int) : M (LS Int Bool) :=
  (if s30 < (a2.len : Int) then
      pure (decide (s30 < 64))
    else
      pure false) >>= fun y81 =>
  if y81 = true then
    idx a2.a a2.len s30 1 >>= fun p82 =>
    ld (cI .u8) p82 >>= fun x83 =>
    idx r11.1.a r11.1.len s30 1 >>= fun p84 =>
    st (cI .u8) p84 x83 >>= fun _ =>
    pure (LS.next (IntKind.wrap .i64 (s30 + 1)))
  else
    (weirlaw3_RingWindows.K4 a0 a2 r1 j7 r10 r11 r22 r24) >>= fun b => pure (LS.done b)
theorem weirlaw3_RingWindows.L3_ok (a0 : Int) (a2 : Sl) (r1 : ((Option Addr) × Int)) (j7 : Sl) (r10 : (Int × Sl × Bool)) (r11 : (Sl × Int)) (r22 : Sl) (r24 : Sl) (s30 : Int) :
    SJ weirlaw3_RingWindows.cx [.code (c1 (c1 (c2 (c1 (c2 (c2 (c2 (c2 (c2 (c2 (c2 (c2 (c2 (c2 (c2 (c2 weirlaw3_RingWindows.B)))))))))))))))), .inLoop (c1 (c1 (c2 (c1 (c2 (c2 (c2 (c2 (c2 (c2 (c2 (c2 (c2 (c2 (c2 (c2 weirlaw3_RingWindows.B)))))))))))))))), .inBlock 4, .code (c2 (c2 (c2 (c2 (c2 (c2 (c2 (c2 (c2 (c2 (c2 (c2 (c2 weirlaw3_RingWindows.B)))))))))))))] [(0, .int .i64 a0), (1, Sl.v j7), (2, Sl.v a2), (7, .pointer r1.1), (9, .int .i64 r10.1), (10, Sl.v r10.2.1), (12, Sl.v r11.1), (15, Sl.v r22), (16, Sl.v r24), (18, .int .i64 s30)] [] (weirlaw3_RingWindows.L3 a0 a2 r1 j7 r10 r11 r22 r24 s30) (weirlaw3_RingWindows.F3 a0 a2 r1 j7 r10 r11 r22 r24) := by
  unfold weirlaw3_RingWindows.L3
  refine SJ.seq (by kernel_rfl) ?_
  refine SJ.seq (by kernel_rfl) ?_
  refine SJ.region (id := 24) (by kernel_rfl) [0, 1, 2, 3, 4, 5, 6, 7] (by kernel_rfl) ?_
  refine OJ.run [0, 1, 2, 3, 4] [5, 6, 7] [0, 1, 2, 7, 9, 10, 12, 15, 16, 18, 117] (m2 := [(0, .int .i64 a0), (1, Sl.v j7), (2, Sl.v a2), (7, .pointer r1.1), (9, .int .i64 r10.1), (10, Sl.v r10.2.1), (12, Sl.v r11.1), (15, Sl.v r22), (16, Sl.v r24), (18, .int .i64 s30), (117, .bool (decide (s30 < (a2.len : Int))))]) (by kernel_rfl) (by kernel_rfl) ?_
  refine OJ.join (b := decide (s30 < (a2.len : Int))) [5, 6, 7] [] [0, 1, 2, 7, 9, 10, 12, 15, 16, 18, 120] (fun y81 => [(0, .int .i64 a0), (1, Sl.v j7), (2, Sl.v a2), (7, .pointer r1.1), (9, .int .i64 r10.1), (10, Sl.v r10.2.1), (12, Sl.v r11.1), (15, Sl.v r22), (16, Sl.v r24), (18, .int .i64 s30), (120, .bool y81)]) [] [] (by kernel_rfl) (t := 117) (by kernel_rfl) decide_eq_true_iff (fun hp_ => ?_) (fun hp_ => ?_) (by kernel_rfl) (fun _ _ _ _ _ _ h_ => h_) (fun y81 => ?_)
  · refine OJ.run [5, 6, 7] [] [0, 1, 2, 7, 9, 10, 12, 15, 16, 18, 120] (m2 := [(0, .int .i64 a0), (1, Sl.v j7), (2, Sl.v a2), (7, .pointer r1.1), (9, .int .i64 r10.1), (10, Sl.v r10.2.1), (12, Sl.v r11.1), (15, Sl.v r22), (16, Sl.v r24), (18, .int .i64 s30), (120, .bool (decide (s30 < 64)))]) (by kernel_rfl) (by kernel_rfl) ?_
    exact OJ.nil ⟨(Cov.mem Cov.nil), rfl, _, rfl, by kernel_rfl⟩
  · refine OJ.run [5, 6, 7] [] [0, 1, 2, 7, 9, 10, 12, 15, 16, 18, 120] (m2 := [(0, .int .i64 a0), (1, Sl.v j7), (2, Sl.v a2), (7, .pointer r1.1), (9, .int .i64 r10.1), (10, Sl.v r10.2.1), (12, Sl.v r11.1), (15, Sl.v r22), (16, Sl.v r24), (18, .int .i64 s30), (120, .bool false)]) (by kernel_rfl) (by kernel_rfl) ?_
    exact OJ.nil ⟨(Cov.mem Cov.nil), rfl, _, rfl, by kernel_rfl⟩
  · refine OJ.nil ?_
    refine SJ.cond (t := (.tmp 120)) (b := y81) (by kernel_rfl) (by kernel_rfl) Iff.rfl (fun hc85 => ?_) (fun hc85 => ?_)
    · refine SJ.skip (by kernel_rfl) ?_
      refine SJ.seq (by kernel_rfl) ?_
      refine SJ.block (id := 5) (by kernel_rfl) ?_
      refine SJ.region (id := 26) (by kernel_rfl) [0, 1, 2, 3, 4, 5, 6, 7] (by kernel_rfl) ?_
      refine OJ.run [0, 1, 2, 3] [4, 5, 6, 7] [0, 1, 2, 7, 9, 10, 12, 15, 16, 18, 123, 124, 125, 126] (m2 := [(0, .int .i64 a0), (1, Sl.v j7), (2, Sl.v a2), (7, .pointer r1.1), (9, .int .i64 r10.1), (10, Sl.v r10.2.1), (12, Sl.v r11.1), (15, Sl.v r22), (16, Sl.v r24), (18, .int .i64 s30), (123, Sl.v r11.1), (124, .int .i64 s30), (125, Sl.v a2), (126, .int .i64 s30)]) (by kernel_rfl) (by kernel_rfl) ?_
      refine OJ.idxS (d := 127) (T := 22) (y := .tmp 125) (j := .tmp 126) (E := 5) (cap := a2.cap) (k := .i64) (by kernel_rfl) (by kernel_rfl) (by kernel_rfl) (by kernel_rfl) (by kernel_rfl) (by kernel_rfl) (by kernel_rfl) (by kernel_rfl) (fun p82 => ?_)
      refine OJ.ld (d := 128) (T := 5) (y := .tmp 127) (pend2 := fun x83 => []) (by kernel_rfl) (by kernel_rfl) Ty5 (by kernel_rfl) (by kernel_rfl) (fun _ => rfl) (fun x83 => ?_)
      refine OJ.idxS (d := 129) (T := 22) (y := .tmp 123) (j := .tmp 124) (E := 5) (cap := r11.1.cap) (k := .i64) (by kernel_rfl) (by kernel_rfl) (by kernel_rfl) (by kernel_rfl) (by kernel_rfl) (by kernel_rfl) (by kernel_rfl) (by kernel_rfl) (fun p84 => ?_)
      refine OJ.st (T := 5) (y := .tmp 129) (z := .tmp 128) (owed := []) (by kernel_rfl) (by kernel_rfl) (by kernel_rfl) Ty5 (by kernel_rfl) (by kernel_rfl) ?_
      refine OW.nil ?_
      refine OJ.nil ?_
      refine SJ.inBlock ?_
      refine SJ.region (id := 25) (by kernel_rfl) [0, 1, 2] (by kernel_rfl) ?_
      refine OJ.run [0, 1, 2] [] [0, 1, 2, 7, 9, 10, 12, 15, 16, 18] (m2 := [(0, .int .i64 a0), (1, Sl.v j7), (2, Sl.v a2), (7, .pointer r1.1), (9, .int .i64 r10.1), (10, Sl.v r10.2.1), (12, Sl.v r11.1), (15, Sl.v r22), (16, Sl.v r24), (18, .int .i64 (IntKind.wrap .i64 (s30 + 1)))]) (by kernel_rfl) (by kernel_rfl) ?_
      refine OJ.nil ?_
      exact SJ.at_ [0, 1, 2, 7, 9, 10, 12, 15, 16, 18] rfl (by kernel_rfl)
    · refine SJ.exit (id := 4) (by kernel_rfl) (by rfl) ?_
      refine SJ.less [0, 1, 2, 7, 9, 10, 12, 15, 16] (m' := [(0, .int .i64 a0), (1, Sl.v j7), (2, Sl.v a2), (7, .pointer r1.1), (9, .int .i64 r10.1), (10, Sl.v r10.2.1), (12, Sl.v r11.1), (15, Sl.v r22), (16, Sl.v r24)]) (by kernel_rfl) ?_
      refine SJ.done ?_
      exact weirlaw3_RingWindows.K4_ok a0 a2 r1 j7 r10 r11 r22 r24
noncomputable def weirlaw3_RingWindows.K5 (a0 : Int) (a2 : Sl) (r1 : ((Option Addr) × Int)) (j7 : Sl) (r10 : (Int × Sl × Bool)) (r11 : (Sl × Int)) (r22 : Sl) (r24 : Sl) : M Bool :=
  loopM (fun s_ : Int => weirlaw3_RingWindows.L3 a0 a2 r1 j7 r10 r11 r22 r24 s_) 0
theorem weirlaw3_RingWindows.K5_ok (a0 : Int) (a2 : Sl) (r1 : ((Option Addr) × Int)) (j7 : Sl) (r10 : (Int × Sl × Bool)) (r11 : (Sl × Int)) (r22 : Sl) (r24 : Sl) :
    SJ weirlaw3_RingWindows.cx [.code (c2 (c2 (c2 (c2 (c2 (c2 (c2 (c2 (c2 (c2 (c2 (c2 weirlaw3_RingWindows.B))))))))))))] [(0, .int .i64 a0), (1, Sl.v j7), (2, Sl.v a2), (7, .pointer r1.1), (9, .int .i64 r10.1), (10, Sl.v r10.2.1), (12, Sl.v r11.1), (15, Sl.v r22), (16, Sl.v r24)] [] (weirlaw3_RingWindows.K5 a0 a2 r1 j7 r10 r11 r22 r24) weirlaw3_RingWindows.F0 := by
  unfold weirlaw3_RingWindows.K5
  refine SJ.seq (by kernel_rfl) ?_
  refine SJ.seq (by kernel_rfl) ?_
  refine SJ.region (id := 23) (by kernel_rfl) [0] (by kernel_rfl) ?_
  refine OJ.run [0] [] [0, 1, 2, 7, 9, 10, 12, 15, 16, 18] (m2 := [(0, .int .i64 a0), (1, Sl.v j7), (2, Sl.v a2), (7, .pointer r1.1), (9, .int .i64 r10.1), (10, Sl.v r10.2.1), (12, Sl.v r11.1), (15, Sl.v r22), (16, Sl.v r24), (18, .int .i64 0)]) (by kernel_rfl) (by kernel_rfl) ?_
  refine OJ.nil ?_
  refine SJ.block (id := 4) (by kernel_rfl) ?_
  exact SJ.loop (fun s_ : Int => [(0, .int .i64 a0), (1, Sl.v j7), (2, Sl.v a2), (7, .pointer r1.1), (9, .int .i64 r10.1), (10, Sl.v r10.2.1), (12, Sl.v r11.1), (15, Sl.v r22), (16, Sl.v r24), (18, .int .i64 s_)]) (fun s_ : Int => []) [0, 1, 2, 7, 9, 10, 12, 15, 16, 18] (by kernel_rfl) (by kernel_rfl) rfl (fun _ _ => rfl) (fun s_ => weirlaw3_RingWindows.L3_ok a0 a2 r1 j7 r10 r11 r22 r24 s_)
noncomputable def weirlaw3_RingWindows.F4 (a0 : Int) (a2 : Sl) (r1 : ((Option Addr) × Int)) (j7 : Sl) (r10 : (Int × Sl × Bool)) (r11 : (Sl × Int)) (r22 : Sl) (r24 : Sl) : (LS Int Bool) → Reach := loopF [.inLoop (c1 (c1 (c2 (c1 (c2 (c2 (c2 (c2 (c2 (c2 (c2 (c2 (c2 (c2 (c2 weirlaw3_RingWindows.B))))))))))))))), .inBlock 2, .code (c2 (c2 (c2 (c2 (c2 (c2 (c2 (c2 (c2 (c2 (c2 (c2 weirlaw3_RingWindows.B))))))))))))] (fun s_ : Int => [(0, .int .i64 a0), (1, Sl.v j7), (2, Sl.v a2), (7, .pointer r1.1), (9, .int .i64 r10.1), (10, Sl.v r10.2.1), (12, Sl.v r11.1), (15, Sl.v r22), (16, Sl.v r24), (17, .int .i64 s_)]) (fun s_ : Int => []) weirlaw3_RingWindows.F0
noncomputable def weirlaw3_RingWindows.L4 (a0 : Int) (a2 : Sl) (r1 : ((Option Addr) × Int)) (j7 : Sl) (r10 : (Int × Sl × Bool)) (r11 : (Sl × Int)) (r22 : Sl) (r24 : Sl) (s25 : Int) : M (LS Int Bool) :=
  if s25 < 64 then
    idx r11.1.a r11.1.len s25 1 >>= fun p86 =>
    ld (cI .u8) p86 >>= fun x87 =>
    if x87 ≠ (IntKind.wrap .u8 s25) then
      pure (LS.done false)
    else
      pure (LS.next (IntKind.wrap .i64 (s25 + 1)))
  else
    (weirlaw3_RingWindows.K5 a0 a2 r1 j7 r10 r11 r22 r24) >>= fun b => pure (LS.done b)
theorem weirlaw3_RingWindows.L4_ok (a0 : Int) (a2 : Sl) (r1 : ((Option Addr) × Int)) (j7 : Sl) (r10 : (Int × Sl × Bool)) (r11 : (Sl × Int)) (r22 : Sl) (r24 : Sl) (s25 : Int) :
    SJ weirlaw3_RingWindows.cx [.code (c1 (c1 (c2 (c1 (c2 (c2 (c2 (c2 (c2 (c2 (c2 (c2 (c2 (c2 (c2 weirlaw3_RingWindows.B))))))))))))))), .inLoop (c1 (c1 (c2 (c1 (c2 (c2 (c2 (c2 (c2 (c2 (c2 (c2 (c2 (c2 (c2 weirlaw3_RingWindows.B))))))))))))))), .inBlock 2, .code (c2 (c2 (c2 (c2 (c2 (c2 (c2 (c2 (c2 (c2 (c2 (c2 weirlaw3_RingWindows.B))))))))))))] [(0, .int .i64 a0), (1, Sl.v j7), (2, Sl.v a2), (7, .pointer r1.1), (9, .int .i64 r10.1), (10, Sl.v r10.2.1), (12, Sl.v r11.1), (15, Sl.v r22), (16, Sl.v r24), (17, .int .i64 s25)] [] (weirlaw3_RingWindows.L4 a0 a2 r1 j7 r10 r11 r22 r24 s25) (weirlaw3_RingWindows.F4 a0 a2 r1 j7 r10 r11 r22 r24) := by
  unfold weirlaw3_RingWindows.L4
  refine SJ.seq (by kernel_rfl) ?_
  refine SJ.seq (by kernel_rfl) ?_
  refine SJ.region (id := 19) (by kernel_rfl) [0, 1] (by kernel_rfl) ?_
  refine OJ.run [0, 1] [] [0, 1, 2, 7, 9, 10, 12, 15, 16, 17, 103] (m2 := [(0, .int .i64 a0), (1, Sl.v j7), (2, Sl.v a2), (7, .pointer r1.1), (9, .int .i64 r10.1), (10, Sl.v r10.2.1), (12, Sl.v r11.1), (15, Sl.v r22), (16, Sl.v r24), (17, .int .i64 s25), (103, .bool (decide (s25 < 64)))]) (by kernel_rfl) (by kernel_rfl) ?_
  refine OJ.nil ?_
  refine SJ.cond (t := (.tmp 103)) (b := decide (s25 < 64)) (by kernel_rfl) (by kernel_rfl) decide_eq_true_iff (fun hc89 => ?_) (fun hc89 => ?_)
  · refine SJ.skip (by kernel_rfl) ?_
    refine SJ.seq (by kernel_rfl) ?_
    refine SJ.block (id := 3) (by kernel_rfl) ?_
    refine SJ.seq (by kernel_rfl) ?_
    refine SJ.region (id := 21) (by kernel_rfl) [0, 1, 2, 3, 4, 5, 6] (by kernel_rfl) ?_
    refine OJ.run [0, 1] [2, 3, 4, 5, 6] [0, 1, 2, 7, 9, 10, 12, 15, 16, 17, 106, 107] (m2 := [(0, .int .i64 a0), (1, Sl.v j7), (2, Sl.v a2), (7, .pointer r1.1), (9, .int .i64 r10.1), (10, Sl.v r10.2.1), (12, Sl.v r11.1), (15, Sl.v r22), (16, Sl.v r24), (17, .int .i64 s25), (106, Sl.v r11.1), (107, .int .i64 s25)]) (by kernel_rfl) (by kernel_rfl) ?_
    refine OJ.idxS (d := 108) (T := 22) (y := .tmp 106) (j := .tmp 107) (E := 5) (cap := r11.1.cap) (k := .i64) (by kernel_rfl) (by kernel_rfl) (by kernel_rfl) (by kernel_rfl) (by kernel_rfl) (by kernel_rfl) (by kernel_rfl) (by kernel_rfl) (fun p86 => ?_)
    refine OJ.ld (d := 109) (T := 5) (y := .tmp 108) (pend2 := fun x87 => []) (by kernel_rfl) (by kernel_rfl) Ty5 (by kernel_rfl) (by kernel_rfl) (fun _ => rfl) (fun x87 => ?_)
    refine OJ.run [4, 5, 6] [] [0, 1, 2, 7, 9, 10, 12, 15, 16, 17, 112] (m2 := [(0, .int .i64 a0), (1, Sl.v j7), (2, Sl.v a2), (7, .pointer r1.1), (9, .int .i64 r10.1), (10, Sl.v r10.2.1), (12, Sl.v r11.1), (15, Sl.v r22), (16, Sl.v r24), (17, .int .i64 s25), (112, .bool (x87 != (IntKind.wrap .u8 s25)))]) (by kernel_rfl) (by kernel_rfl) ?_
    refine OJ.nil ?_
    refine SJ.cond (t := (.tmp 112)) (b := (x87 != (IntKind.wrap .u8 s25))) (by kernel_rfl) (by kernel_rfl) bne_iff_ne (fun hc88 => ?_) (fun hc88 => ?_)
    · refine SJ.seq (by kernel_rfl) ?_
      refine SJ.region (id := 22) (by kernel_rfl) [0] (by kernel_rfl) ?_
      refine OJ.run [0] [] [6] (m2 := [(6, .bool false)]) (by kernel_rfl) (by kernel_rfl) ?_
      refine OJ.nil ?_
      exact SJ.ret (by kernel_rfl) rfl (Res.run (ys := [.bool false]) (.tmp (by kernel_rfl) .nil) rfl)
    · refine SJ.skip (by kernel_rfl) ?_
      refine SJ.inBlock ?_
      refine SJ.region (id := 20) (by kernel_rfl) [0, 1, 2] (by kernel_rfl) ?_
      refine OJ.run [0, 1, 2] [] [0, 1, 2, 7, 9, 10, 12, 15, 16, 17] (m2 := [(0, .int .i64 a0), (1, Sl.v j7), (2, Sl.v a2), (7, .pointer r1.1), (9, .int .i64 r10.1), (10, Sl.v r10.2.1), (12, Sl.v r11.1), (15, Sl.v r22), (16, Sl.v r24), (17, .int .i64 (IntKind.wrap .i64 (s25 + 1)))]) (by kernel_rfl) (by kernel_rfl) ?_
      refine OJ.nil ?_
      exact SJ.at_ [0, 1, 2, 7, 9, 10, 12, 15, 16, 17] rfl (by kernel_rfl)
  · refine SJ.exit (id := 2) (by kernel_rfl) (by rfl) ?_
    refine SJ.less [0, 1, 2, 7, 9, 10, 12, 15, 16] (m' := [(0, .int .i64 a0), (1, Sl.v j7), (2, Sl.v a2), (7, .pointer r1.1), (9, .int .i64 r10.1), (10, Sl.v r10.2.1), (12, Sl.v r11.1), (15, Sl.v r22), (16, Sl.v r24)]) (by kernel_rfl) ?_
    refine SJ.done ?_
    exact weirlaw3_RingWindows.K5_ok a0 a2 r1 j7 r10 r11 r22 r24
noncomputable def weirlaw3_RingWindows.K6 (a0 : Int) (a2 : Sl) (r1 : ((Option Addr) × Int)) (j7 : Sl) (r10 : (Int × Sl × Bool)) (r11 : (Sl × Int)) : M Bool :=
  slot 5 >>= fun b21 =>
  appl (cI .u8) 5 1 0 r10.2.1 [201, 202, 203] >>= fun r22 =>
  slot 5 >>= fun b23 =>
  appl (cI .u8) 5 1 0 r11.1 [201, 202, 203] >>= fun r24 =>
  loopM (fun s_ : Int => weirlaw3_RingWindows.L4 a0 a2 r1 j7 r10 r11 r22 r24 s_) 0
theorem weirlaw3_RingWindows.K6_ok (a0 : Int) (a2 : Sl) (r1 : ((Option Addr) × Int)) (j7 : Sl) (r10 : (Int × Sl × Bool)) (r11 : (Sl × Int)) :
    SJ weirlaw3_RingWindows.cx [.code (c2 (c2 (c2 (c2 (c2 (c2 (c2 (c2 (c2 weirlaw3_RingWindows.B)))))))))] [(0, .int .i64 a0), (1, Sl.v j7), (2, Sl.v a2), (7, .pointer r1.1), (9, .int .i64 r10.1), (10, Sl.v r10.2.1), (12, Sl.v r11.1)] [] (weirlaw3_RingWindows.K6 a0 a2 r1 j7 r10 r11) weirlaw3_RingWindows.F0 := by
  unfold weirlaw3_RingWindows.K6
  refine SJ.seq (by kernel_rfl) ?_
  refine SJ.region (id := 16) (by kernel_rfl) [0, 1, 2, 3] (by kernel_rfl) ?_
  refine OJ.run [0] [1, 2, 3] [0, 1, 2, 7, 9, 10, 12, 96] (m2 := [(0, .int .i64 a0), (1, Sl.v j7), (2, Sl.v a2), (7, .pointer r1.1), (9, .int .i64 r10.1), (10, Sl.v r10.2.1), (12, Sl.v r11.1), (96, Sl.v r10.2.1)]) (by kernel_rfl) (by kernel_rfl) ?_
  refine OJ.rowSlot (d := 97) (t := 22) (parts := [(0, .const (.int .u8 201)), (1, .const (.int .u8 202)), (2, .const (.int .u8 203))]) (ps := [(0, (cI .u8).val 201), (1, (cI .u8).val 202), (2, (cI .u8).val 203)]) (cd := (cI .u8)) (⟨[201, 202, 203], rfl⟩ : Vec Int 3) (owed := []) (by kernel_rfl) (by kernel_rfl) (by kernel_rfl) Ty5 (by kernel_rfl) (Filled.cons (cd := (cI .u8)) (q := 201) (o := 0) rfl (Upd.arr (i := 0) (by decide) (by decide)) (Filled.cons (cd := (cI .u8)) (q := 202) (o := 1) rfl (Upd.arr (i := 1) (by decide) (by decide)) (Filled.cons (cd := (cI .u8)) (q := 203) (o := 2) rfl (Upd.arr (i := 2) (by decide) (by decide)) Filled.nil))) (by kernel_rfl) (by kernel_rfl) (by kernel_rfl) (fun b21 => ?_)
  refine OW.nil ?_
  refine OJ.appl (d := 98) (t := 22) (u := 22) (so := .tmp 96) (xo := .tmp 97) (j := 0) (b := b21) (l := ((cI .u8).arr 3).enc (⟨[201, 202, 203], rfl⟩ : Vec Int 3)) (n := 3) (k := 3) [201, 202, 203] (owed := []) (by kernel_rfl) (by kernel_rfl) (by kernel_rfl) Ty5 (by kernel_rfl) (by kernel_rfl) (by kernel_rfl) (by rfl) (Cod.arr_enc _ _ _) (by rfl) (by kernel_rfl) (by kernel_rfl) (by kernel_rfl) (fun r22 => ?_)
  refine OW.nil ?_
  refine OJ.run [3] [] [0, 1, 2, 7, 9, 10, 12, 15] (m2 := [(0, .int .i64 a0), (1, Sl.v j7), (2, Sl.v a2), (7, .pointer r1.1), (9, .int .i64 r10.1), (10, Sl.v r10.2.1), (12, Sl.v r11.1), (15, Sl.v r22)]) (by kernel_rfl) (by kernel_rfl) ?_
  refine OJ.nil ?_
  refine SJ.seq (by kernel_rfl) ?_
  refine SJ.region (id := 17) (by kernel_rfl) [0, 1, 2, 3] (by kernel_rfl) ?_
  refine OJ.run [0] [1, 2, 3] [0, 1, 2, 7, 9, 10, 12, 15, 99] (m2 := [(0, .int .i64 a0), (1, Sl.v j7), (2, Sl.v a2), (7, .pointer r1.1), (9, .int .i64 r10.1), (10, Sl.v r10.2.1), (12, Sl.v r11.1), (15, Sl.v r22), (99, Sl.v r11.1)]) (by kernel_rfl) (by kernel_rfl) ?_
  refine OJ.rowSlot (d := 100) (t := 22) (parts := [(0, .const (.int .u8 201)), (1, .const (.int .u8 202)), (2, .const (.int .u8 203))]) (ps := [(0, (cI .u8).val 201), (1, (cI .u8).val 202), (2, (cI .u8).val 203)]) (cd := (cI .u8)) (⟨[201, 202, 203], rfl⟩ : Vec Int 3) (owed := []) (by kernel_rfl) (by kernel_rfl) (by kernel_rfl) Ty5 (by kernel_rfl) (Filled.cons (cd := (cI .u8)) (q := 201) (o := 0) rfl (Upd.arr (i := 0) (by decide) (by decide)) (Filled.cons (cd := (cI .u8)) (q := 202) (o := 1) rfl (Upd.arr (i := 1) (by decide) (by decide)) (Filled.cons (cd := (cI .u8)) (q := 203) (o := 2) rfl (Upd.arr (i := 2) (by decide) (by decide)) Filled.nil))) (by kernel_rfl) (by kernel_rfl) (by kernel_rfl) (fun b23 => ?_)
  refine OW.nil ?_
  refine OJ.appl (d := 101) (t := 22) (u := 22) (so := .tmp 99) (xo := .tmp 100) (j := 0) (b := b23) (l := ((cI .u8).arr 3).enc (⟨[201, 202, 203], rfl⟩ : Vec Int 3)) (n := 3) (k := 3) [201, 202, 203] (owed := []) (by kernel_rfl) (by kernel_rfl) (by kernel_rfl) Ty5 (by kernel_rfl) (by kernel_rfl) (by kernel_rfl) (by rfl) (Cod.arr_enc _ _ _) (by rfl) (by kernel_rfl) (by kernel_rfl) (by kernel_rfl) (fun r24 => ?_)
  refine OW.nil ?_
  refine OJ.run [3] [] [0, 1, 2, 7, 9, 10, 12, 15, 16] (m2 := [(0, .int .i64 a0), (1, Sl.v j7), (2, Sl.v a2), (7, .pointer r1.1), (9, .int .i64 r10.1), (10, Sl.v r10.2.1), (12, Sl.v r11.1), (15, Sl.v r22), (16, Sl.v r24)]) (by kernel_rfl) (by kernel_rfl) ?_
  refine OJ.nil ?_
  refine SJ.seq (by kernel_rfl) ?_
  refine SJ.seq (by kernel_rfl) ?_
  refine SJ.region (id := 18) (by kernel_rfl) [0] (by kernel_rfl) ?_
  refine OJ.run [0] [] [0, 1, 2, 7, 9, 10, 12, 15, 16, 17] (m2 := [(0, .int .i64 a0), (1, Sl.v j7), (2, Sl.v a2), (7, .pointer r1.1), (9, .int .i64 r10.1), (10, Sl.v r10.2.1), (12, Sl.v r11.1), (15, Sl.v r22), (16, Sl.v r24), (17, .int .i64 0)]) (by kernel_rfl) (by kernel_rfl) ?_
  refine OJ.nil ?_
  refine SJ.block (id := 2) (by kernel_rfl) ?_
  refine SJ.forget (List.Sublist.cons _ (List.Sublist.cons _ List.Sublist.slnil)) ?_
  exact SJ.loop (fun s_ : Int => [(0, .int .i64 a0), (1, Sl.v j7), (2, Sl.v a2), (7, .pointer r1.1), (9, .int .i64 r10.1), (10, Sl.v r10.2.1), (12, Sl.v r11.1), (15, Sl.v r22), (16, Sl.v r24), (17, .int .i64 s_)]) (fun s_ : Int => []) [0, 1, 2, 7, 9, 10, 12, 15, 16, 17] (by kernel_rfl) (by kernel_rfl) rfl (fun _ _ => rfl) (fun s_ => weirlaw3_RingWindows.L4_ok a0 a2 r1 j7 r10 r11 r22 r24 s_)
noncomputable def weirlaw3_RingWindows.F5 (a0 : Int) (a2 : Sl) (r1 : ((Option Addr) × Int)) (j7 : Sl) (r10 : (Int × Sl × Bool)) (r11 : (Sl × Int)) : (LS Int Bool) → Reach := loopF [.inLoop (c1 (c1 (c2 (c1 (c2 (c2 (c2 (c2 (c2 (c2 (c2 (c2 weirlaw3_RingWindows.B)))))))))))), .inBlock 0, .code (c2 (c2 (c2 (c2 (c2 (c2 (c2 (c2 (c2 weirlaw3_RingWindows.B)))))))))] (fun s_ : Int => [(0, .int .i64 a0), (1, Sl.v j7), (2, Sl.v a2), (7, .pointer r1.1), (9, .int .i64 r10.1), (10, Sl.v r10.2.1), (12, Sl.v r11.1), (14, .int .i64 s_)]) (fun s_ : Int => []) weirlaw3_RingWindows.F0
noncomputable def weirlaw3_RingWindows.L5 (a0 : Int) (a2 : Sl) (r1 : ((Option Addr) × Int)) (j7 : Sl) (r10 : (Int × Sl × Bool)) (r11 : (Sl × Int)) (s18 : Int) : M (LS Int Bool) :=
  if s18 < 64 then
    idx r11.1.a r11.1.len s18 1 >>= fun p90 =>
    st (cI .u8) p90 (IntKind.wrap .u8 s18) >>= fun _ =>
    pure (LS.next (IntKind.wrap .i64 (s18 + 1)))
  else
    (weirlaw3_RingWindows.K6 a0 a2 r1 j7 r10 r11) >>= fun b => pure (LS.done b)
theorem weirlaw3_RingWindows.L5_ok (a0 : Int) (a2 : Sl) (r1 : ((Option Addr) × Int)) (j7 : Sl) (r10 : (Int × Sl × Bool)) (r11 : (Sl × Int)) (s18 : Int) :
    SJ weirlaw3_RingWindows.cx [.code (c1 (c1 (c2 (c1 (c2 (c2 (c2 (c2 (c2 (c2 (c2 (c2 weirlaw3_RingWindows.B)))))))))))), .inLoop (c1 (c1 (c2 (c1 (c2 (c2 (c2 (c2 (c2 (c2 (c2 (c2 weirlaw3_RingWindows.B)))))))))))), .inBlock 0, .code (c2 (c2 (c2 (c2 (c2 (c2 (c2 (c2 (c2 weirlaw3_RingWindows.B)))))))))] [(0, .int .i64 a0), (1, Sl.v j7), (2, Sl.v a2), (7, .pointer r1.1), (9, .int .i64 r10.1), (10, Sl.v r10.2.1), (12, Sl.v r11.1), (14, .int .i64 s18)] [] (weirlaw3_RingWindows.L5 a0 a2 r1 j7 r10 r11 s18) (weirlaw3_RingWindows.F5 a0 a2 r1 j7 r10 r11) := by
  unfold weirlaw3_RingWindows.L5
  refine SJ.seq (by kernel_rfl) ?_
  refine SJ.seq (by kernel_rfl) ?_
  refine SJ.region (id := 13) (by kernel_rfl) [0, 1] (by kernel_rfl) ?_
  refine OJ.run [0, 1] [] [0, 1, 2, 7, 9, 10, 12, 14, 88] (m2 := [(0, .int .i64 a0), (1, Sl.v j7), (2, Sl.v a2), (7, .pointer r1.1), (9, .int .i64 r10.1), (10, Sl.v r10.2.1), (12, Sl.v r11.1), (14, .int .i64 s18), (88, .bool (decide (s18 < 64)))]) (by kernel_rfl) (by kernel_rfl) ?_
  refine OJ.nil ?_
  refine SJ.cond (t := (.tmp 88)) (b := decide (s18 < 64)) (by kernel_rfl) (by kernel_rfl) decide_eq_true_iff (fun hc91 => ?_) (fun hc91 => ?_)
  · refine SJ.skip (by kernel_rfl) ?_
    refine SJ.seq (by kernel_rfl) ?_
    refine SJ.block (id := 1) (by kernel_rfl) ?_
    refine SJ.region (id := 15) (by kernel_rfl) [0, 1, 2, 3, 4, 5] (by kernel_rfl) ?_
    refine OJ.run [0, 1, 2, 3] [4, 5] [0, 1, 2, 7, 9, 10, 12, 14, 91, 92, 94] (m2 := [(0, .int .i64 a0), (1, Sl.v j7), (2, Sl.v a2), (7, .pointer r1.1), (9, .int .i64 r10.1), (10, Sl.v r10.2.1), (12, Sl.v r11.1), (14, .int .i64 s18), (91, Sl.v r11.1), (92, .int .i64 s18), (94, .int .u8 (IntKind.wrap .u8 s18))]) (by kernel_rfl) (by kernel_rfl) ?_
    refine OJ.idxS (d := 95) (T := 22) (y := .tmp 91) (j := .tmp 92) (E := 5) (cap := r11.1.cap) (k := .i64) (by kernel_rfl) (by kernel_rfl) (by kernel_rfl) (by kernel_rfl) (by kernel_rfl) (by kernel_rfl) (by kernel_rfl) (by kernel_rfl) (fun p90 => ?_)
    refine OJ.st (T := 5) (y := .tmp 95) (z := .tmp 94) (owed := []) (by kernel_rfl) (by kernel_rfl) (by kernel_rfl) Ty5 (by kernel_rfl) (by kernel_rfl) ?_
    refine OW.nil ?_
    refine OJ.nil ?_
    refine SJ.inBlock ?_
    refine SJ.region (id := 14) (by kernel_rfl) [0, 1, 2] (by kernel_rfl) ?_
    refine OJ.run [0, 1, 2] [] [0, 1, 2, 7, 9, 10, 12, 14] (m2 := [(0, .int .i64 a0), (1, Sl.v j7), (2, Sl.v a2), (7, .pointer r1.1), (9, .int .i64 r10.1), (10, Sl.v r10.2.1), (12, Sl.v r11.1), (14, .int .i64 (IntKind.wrap .i64 (s18 + 1)))]) (by kernel_rfl) (by kernel_rfl) ?_
    refine OJ.nil ?_
    exact SJ.at_ [0, 1, 2, 7, 9, 10, 12, 14] rfl (by kernel_rfl)
  · refine SJ.exit (id := 0) (by kernel_rfl) (by rfl) ?_
    refine SJ.less [0, 1, 2, 7, 9, 10, 12] (m' := [(0, .int .i64 a0), (1, Sl.v j7), (2, Sl.v a2), (7, .pointer r1.1), (9, .int .i64 r10.1), (10, Sl.v r10.2.1), (12, Sl.v r11.1)]) (by kernel_rfl) ?_
    refine SJ.done ?_
    exact weirlaw3_RingWindows.K6_ok a0 a2 r1 j7 r10 r11
noncomputable def weirlaw3_RingWindows.K7 (a0 : Int) (a2 : Sl) (r1 : ((Option Addr) × Int)) (j7 : Sl) : M Bool :=
  ring_Port_Arrive r1.1 j7 >>= fun r8 =>
  weirlaw3_num r8 >>= fun r9 =>
  if r9 ≠ 0 then
    pure false
  else
    ring_Port_Poll r1.1 >>= fun r10 =>
    ring_Port_Buffer r1.1 r10.1 >>= fun r11 =>
    (if ¬ (r10.2.2 = true) then
        pure true
      else
        weirlaw3_num r11.2 >>= fun r12 =>
        pure (r12 != 0)) >>= fun y13 =>
    (if y13 = true then
        pure true
      else
        pure ((r10.2.1.len : Int) != (j7.len : Int))) >>= fun y14 =>
    (if y14 = true then
        pure true
      else
        pure ((r11.1.len : Int) != 64)) >>= fun y15 =>
    (if y15 = true then
        pure true
      else
        weirlaw3_alike r10.2.1 j7 >>= fun r16 =>
        pure (!r16)) >>= fun y17 =>
    if y17 = true then
      pure false
    else
      loopM (fun s_ : Int => weirlaw3_RingWindows.L5 a0 a2 r1 j7 r10 r11 s_) 0
theorem weirlaw3_RingWindows.K7_ok (a0 : Int) (a2 : Sl) (r1 : ((Option Addr) × Int)) (j7 : Sl) :
    SJ weirlaw3_RingWindows.cx [.code (c2 (c2 (c2 (c2 weirlaw3_RingWindows.B))))] [(0, .int .i64 a0), (1, Sl.v j7), (2, Sl.v a2), (7, .pointer r1.1)] [] (weirlaw3_RingWindows.K7 a0 a2 r1 j7) weirlaw3_RingWindows.F0 := by
  unfold weirlaw3_RingWindows.K7
  refine SJ.seq (by kernel_rfl) ?_
  refine SJ.seq (by kernel_rfl) ?_
  refine SJ.region (id := 6) (by kernel_rfl) [0, 1, 2, 3, 4] (by kernel_rfl) ?_
  refine OJ.run [0, 1] [2, 3, 4] [0, 1, 2, 7, 45, 46] (m2 := [(0, .int .i64 a0), (1, Sl.v j7), (2, Sl.v a2), (7, .pointer r1.1), (45, .pointer r1.1), (46, Sl.v j7)]) (by kernel_rfl) (by kernel_rfl) ?_
  refine OJ.call (d := 47) (g := 16) (ats := #[23, 22]) (args := [.tmp 45, .tmp 46]) (vals := [.pointer r1.1, Sl.v j7]) (owed := []) (by kernel_rfl) F16 (by kernel_rfl) (ring_Port_Arrive_ok r1.1 j7) (by kernel_rfl) (by kernel_rfl) (by kernel_rfl) (fun r8 => ?_)
  refine OW.nil ?_
  refine OJ.call (d := 48) (g := 14) (ats := #[24]) (args := [.tmp 47]) (vals := [.int .i64 r8]) (owed := []) (by kernel_rfl) F14 (by kernel_rfl) (weirlaw3_num_ok r8) (by kernel_rfl) (by kernel_rfl) (by kernel_rfl) (fun r9 => ?_)
  refine OW.nil ?_
  refine OJ.run [4] [] [0, 1, 2, 7, 49] (m2 := [(0, .int .i64 a0), (1, Sl.v j7), (2, Sl.v a2), (7, .pointer r1.1), (49, .bool (r9 != 0))]) (by kernel_rfl) (by kernel_rfl) ?_
  refine OJ.nil ?_
  refine SJ.cond (t := (.tmp 49)) (b := (r9 != 0)) (by kernel_rfl) (by kernel_rfl) bne_iff_ne (fun hc93 => ?_) (fun hc93 => ?_)
  · refine SJ.seq (by kernel_rfl) ?_
    refine SJ.region (id := 7) (by kernel_rfl) [0] (by kernel_rfl) ?_
    refine OJ.run [0] [] [6] (m2 := [(6, .bool false)]) (by kernel_rfl) (by kernel_rfl) ?_
    refine OJ.nil ?_
    exact SJ.ret (by kernel_rfl) rfl (Res.run (ys := [.bool false]) (.tmp (by kernel_rfl) .nil) rfl)
  · refine SJ.skip (by kernel_rfl) ?_
    refine SJ.seq (by kernel_rfl) ?_
    refine SJ.region (id := 8) (by kernel_rfl) [0, 1, 2, 3, 4, 5, 6, 7, 8] (by kernel_rfl) ?_
    refine OJ.run [0] [1, 2, 3, 4, 5, 6, 7, 8] [0, 1, 2, 7, 51] (m2 := [(0, .int .i64 a0), (1, Sl.v j7), (2, Sl.v a2), (7, .pointer r1.1), (51, .pointer r1.1)]) (by kernel_rfl) (by kernel_rfl) ?_
    refine OJ.call (d := 52) (g := 17) (ats := #[23]) (args := [.tmp 51]) (vals := [.pointer r1.1]) (owed := []) (by kernel_rfl) F17 (by kernel_rfl) (ring_Port_Poll_ok r1.1) (by kernel_rfl) (by kernel_rfl) (by kernel_rfl) (fun r10 => ?_)
    refine OW.nil ?_
    refine OJ.run [2, 3, 4, 5, 6, 7, 8] [] [0, 1, 2, 7, 9, 10, 11] (m2 := [(0, .int .i64 a0), (1, Sl.v j7), (2, Sl.v a2), (7, .pointer r1.1), (9, .int .i64 r10.1), (10, Sl.v r10.2.1), (11, .bool r10.2.2)]) (by kernel_rfl) (by kernel_rfl) ?_
    refine OJ.nil ?_
    refine SJ.seq (by kernel_rfl) ?_
    refine SJ.region (id := 9) (by kernel_rfl) [0, 1, 2, 3, 4, 5, 6, 7] (by kernel_rfl) ?_
    refine OJ.run [0, 1] [2, 3, 4, 5, 6, 7] [0, 1, 2, 7, 9, 10, 11, 57, 58] (m2 := [(0, .int .i64 a0), (1, Sl.v j7), (2, Sl.v a2), (7, .pointer r1.1), (9, .int .i64 r10.1), (10, Sl.v r10.2.1), (11, .bool r10.2.2), (57, .pointer r1.1), (58, .int .i64 r10.1)]) (by kernel_rfl) (by kernel_rfl) ?_
    refine OJ.call (d := 59) (g := 18) (ats := #[23, 3]) (args := [.tmp 57, .tmp 58]) (vals := [.pointer r1.1, .int .i64 r10.1]) (owed := []) (by kernel_rfl) F18 (by kernel_rfl) (ring_Port_Buffer_ok r1.1 r10.1) (by kernel_rfl) (by kernel_rfl) (by kernel_rfl) (fun r11 => ?_)
    refine OW.nil ?_
    refine OJ.run [3, 4, 5, 6, 7] [] [0, 1, 2, 7, 9, 10, 11, 12, 13] (m2 := [(0, .int .i64 a0), (1, Sl.v j7), (2, Sl.v a2), (7, .pointer r1.1), (9, .int .i64 r10.1), (10, Sl.v r10.2.1), (11, .bool r10.2.2), (12, Sl.v r11.1), (13, .int .i64 r11.2)]) (by kernel_rfl) (by kernel_rfl) ?_
    refine OJ.nil ?_
    refine SJ.seq (by kernel_rfl) ?_
    refine SJ.seq (by kernel_rfl) ?_
    refine SJ.region (id := 10) (by kernel_rfl) [0, 1, 2, 3, 4, 5, 6, 7, 8, 9, 10, 11, 12, 13, 14, 15, 16, 17, 18, 19, 20, 21, 22, 23, 24] (by kernel_rfl) ?_
    refine OJ.run [0, 1, 2] [3, 4, 5, 6, 7, 8, 9, 10, 11, 12, 13, 14, 15, 16, 17, 18, 19, 20, 21, 22, 23, 24] [0, 1, 2, 7, 9, 10, 12, 13, 64] (m2 := [(0, .int .i64 a0), (1, Sl.v j7), (2, Sl.v a2), (7, .pointer r1.1), (9, .int .i64 r10.1), (10, Sl.v r10.2.1), (12, Sl.v r11.1), (13, .int .i64 r11.2), (64, .bool (!r10.2.2))]) (by kernel_rfl) (by kernel_rfl) ?_
    refine OJ.join (b := (!r10.2.2)) [3, 4, 5, 6] [7, 8, 9, 10, 11, 12, 13, 14, 15, 16, 17, 18, 19, 20, 21, 22, 23, 24] [0, 1, 2, 7, 9, 10, 12, 68] (fun y13 => [(0, .int .i64 a0), (1, Sl.v j7), (2, Sl.v a2), (7, .pointer r1.1), (9, .int .i64 r10.1), (10, Sl.v r10.2.1), (12, Sl.v r11.1), (68, .bool y13)]) [] [] (by kernel_rfl) (t := 64) (by kernel_rfl) (bnot_iff Iff.rfl) (fun hp_ => ?_) (fun hp_ => ?_) (by kernel_rfl) (fun _ _ _ _ _ _ h_ => h_) (fun y13 => ?_)
    · refine OJ.run [3, 4, 5, 6] [] [0, 1, 2, 7, 9, 10, 12, 68] (m2 := [(0, .int .i64 a0), (1, Sl.v j7), (2, Sl.v a2), (7, .pointer r1.1), (9, .int .i64 r10.1), (10, Sl.v r10.2.1), (12, Sl.v r11.1), (68, .bool true)]) (by kernel_rfl) (by kernel_rfl) ?_
      exact OJ.nil ⟨(Cov.mem Cov.nil), rfl, _, rfl, by kernel_rfl⟩
    · refine OJ.run [3] [4, 5, 6] [0, 1, 2, 7, 9, 10, 12, 64, 65] (m2 := [(0, .int .i64 a0), (1, Sl.v j7), (2, Sl.v a2), (7, .pointer r1.1), (9, .int .i64 r10.1), (10, Sl.v r10.2.1), (12, Sl.v r11.1), (64, .bool false), (65, .int .i64 r11.2)]) (by kernel_rfl) (by kernel_rfl) ?_
      refine OJ.call (d := 66) (g := 14) (ats := #[24]) (args := [.tmp 65]) (vals := [.int .i64 r11.2]) (owed := []) (by kernel_rfl) F14 (by kernel_rfl) (weirlaw3_num_ok r11.2) (by kernel_rfl) (by kernel_rfl) (by kernel_rfl) (fun r12 => ?_)
      refine OW.nil ?_
      refine OJ.run [5, 6] [] [0, 1, 2, 7, 9, 10, 12, 68] (m2 := [(0, .int .i64 a0), (1, Sl.v j7), (2, Sl.v a2), (7, .pointer r1.1), (9, .int .i64 r10.1), (10, Sl.v r10.2.1), (12, Sl.v r11.1), (68, .bool (r12 != 0))]) (by kernel_rfl) (by kernel_rfl) ?_
      exact OJ.nil ⟨(Cov.mem Cov.nil), rfl, _, rfl, by kernel_rfl⟩
    · refine OJ.run [7] [8, 9, 10, 11, 12, 13, 14, 15, 16, 17, 18, 19, 20, 21, 22, 23, 24] [0, 1, 2, 7, 9, 10, 12, 69] (m2 := [(0, .int .i64 a0), (1, Sl.v j7), (2, Sl.v a2), (7, .pointer r1.1), (9, .int .i64 r10.1), (10, Sl.v r10.2.1), (12, Sl.v r11.1), (69, .bool y13)]) (by kernel_rfl) (by kernel_rfl) ?_
      refine OJ.join (b := y13) [8, 9, 10, 11, 12, 13] [14, 15, 16, 17, 18, 19, 20, 21, 22, 23, 24] [0, 1, 2, 7, 9, 10, 12, 75] (fun y14 => [(0, .int .i64 a0), (1, Sl.v j7), (2, Sl.v a2), (7, .pointer r1.1), (9, .int .i64 r10.1), (10, Sl.v r10.2.1), (12, Sl.v r11.1), (75, .bool y14)]) [] [] (by kernel_rfl) (t := 69) (by kernel_rfl) Iff.rfl (fun hp_ => ?_) (fun hp_ => ?_) (by kernel_rfl) (fun _ _ _ _ _ _ h_ => h_) (fun y14 => ?_)
      · refine OJ.run [8, 9, 10, 11, 12, 13] [] [0, 1, 2, 7, 9, 10, 12, 75] (m2 := [(0, .int .i64 a0), (1, Sl.v j7), (2, Sl.v a2), (7, .pointer r1.1), (9, .int .i64 r10.1), (10, Sl.v r10.2.1), (12, Sl.v r11.1), (75, .bool true)]) (by kernel_rfl) (by kernel_rfl) ?_
        exact OJ.nil ⟨(Cov.mem Cov.nil), rfl, _, rfl, by kernel_rfl⟩
      · refine OJ.run [8, 9, 10, 11, 12, 13] [] [0, 1, 2, 7, 9, 10, 12, 75] (m2 := [(0, .int .i64 a0), (1, Sl.v j7), (2, Sl.v a2), (7, .pointer r1.1), (9, .int .i64 r10.1), (10, Sl.v r10.2.1), (12, Sl.v r11.1), (75, .bool ((r10.2.1.len : Int) != (j7.len : Int)))]) (by kernel_rfl) (by kernel_rfl) ?_
        exact OJ.nil ⟨(Cov.mem Cov.nil), rfl, _, rfl, by kernel_rfl⟩
      · refine OJ.run [14] [15, 16, 17, 18, 19, 20, 21, 22, 23, 24] [0, 1, 2, 7, 9, 10, 12, 76] (m2 := [(0, .int .i64 a0), (1, Sl.v j7), (2, Sl.v a2), (7, .pointer r1.1), (9, .int .i64 r10.1), (10, Sl.v r10.2.1), (12, Sl.v r11.1), (76, .bool y14)]) (by kernel_rfl) (by kernel_rfl) ?_
        refine OJ.join (b := y14) [15, 16, 17, 18] [19, 20, 21, 22, 23, 24] [0, 1, 2, 7, 9, 10, 12, 80] (fun y15 => [(0, .int .i64 a0), (1, Sl.v j7), (2, Sl.v a2), (7, .pointer r1.1), (9, .int .i64 r10.1), (10, Sl.v r10.2.1), (12, Sl.v r11.1), (80, .bool y15)]) [] [] (by kernel_rfl) (t := 76) (by kernel_rfl) Iff.rfl (fun hp_ => ?_) (fun hp_ => ?_) (by kernel_rfl) (fun _ _ _ _ _ _ h_ => h_) (fun y15 => ?_)
        · refine OJ.run [15, 16, 17, 18] [] [0, 1, 2, 7, 9, 10, 12, 80] (m2 := [(0, .int .i64 a0), (1, Sl.v j7), (2, Sl.v a2), (7, .pointer r1.1), (9, .int .i64 r10.1), (10, Sl.v r10.2.1), (12, Sl.v r11.1), (80, .bool true)]) (by kernel_rfl) (by kernel_rfl) ?_
          exact OJ.nil ⟨(Cov.mem Cov.nil), rfl, _, rfl, by kernel_rfl⟩
        · refine OJ.run [15, 16, 17, 18] [] [0, 1, 2, 7, 9, 10, 12, 80] (m2 := [(0, .int .i64 a0), (1, Sl.v j7), (2, Sl.v a2), (7, .pointer r1.1), (9, .int .i64 r10.1), (10, Sl.v r10.2.1), (12, Sl.v r11.1), (80, .bool ((r11.1.len : Int) != 64))]) (by kernel_rfl) (by kernel_rfl) ?_
          exact OJ.nil ⟨(Cov.mem Cov.nil), rfl, _, rfl, by kernel_rfl⟩
        · refine OJ.run [19] [20, 21, 22, 23, 24] [0, 1, 2, 7, 9, 10, 12, 81] (m2 := [(0, .int .i64 a0), (1, Sl.v j7), (2, Sl.v a2), (7, .pointer r1.1), (9, .int .i64 r10.1), (10, Sl.v r10.2.1), (12, Sl.v r11.1), (81, .bool y15)]) (by kernel_rfl) (by kernel_rfl) ?_
          refine OJ.join (b := y15) [20, 21, 22, 23, 24] [] [0, 1, 2, 7, 9, 10, 12, 86] (fun y17 => [(0, .int .i64 a0), (1, Sl.v j7), (2, Sl.v a2), (7, .pointer r1.1), (9, .int .i64 r10.1), (10, Sl.v r10.2.1), (12, Sl.v r11.1), (86, .bool y17)]) [] [] (by kernel_rfl) (t := 81) (by kernel_rfl) Iff.rfl (fun hp_ => ?_) (fun hp_ => ?_) (by kernel_rfl) (fun _ _ _ _ _ _ h_ => h_) (fun y17 => ?_)
          · refine OJ.run [20, 21, 22, 23, 24] [] [0, 1, 2, 7, 9, 10, 12, 86] (m2 := [(0, .int .i64 a0), (1, Sl.v j7), (2, Sl.v a2), (7, .pointer r1.1), (9, .int .i64 r10.1), (10, Sl.v r10.2.1), (12, Sl.v r11.1), (86, .bool true)]) (by kernel_rfl) (by kernel_rfl) ?_
            exact OJ.nil ⟨(Cov.mem Cov.nil), rfl, _, rfl, by kernel_rfl⟩
          · refine OJ.run [20, 21] [22, 23, 24] [0, 1, 2, 7, 9, 10, 12, 81, 82, 83] (m2 := [(0, .int .i64 a0), (1, Sl.v j7), (2, Sl.v a2), (7, .pointer r1.1), (9, .int .i64 r10.1), (10, Sl.v r10.2.1), (12, Sl.v r11.1), (81, .bool false), (82, Sl.v r10.2.1), (83, Sl.v j7)]) (by kernel_rfl) (by kernel_rfl) ?_
            refine OJ.call (d := 84) (g := 19) (ats := #[22, 22]) (args := [.tmp 82, .tmp 83]) (vals := [Sl.v r10.2.1, Sl.v j7]) (owed := []) (by kernel_rfl) F19 (by kernel_rfl) (weirlaw3_alike_ok r10.2.1 j7) (by kernel_rfl) (by kernel_rfl) (by kernel_rfl) (fun r16 => ?_)
            refine OW.nil ?_
            refine OJ.run [23, 24] [] [0, 1, 2, 7, 9, 10, 12, 86] (m2 := [(0, .int .i64 a0), (1, Sl.v j7), (2, Sl.v a2), (7, .pointer r1.1), (9, .int .i64 r10.1), (10, Sl.v r10.2.1), (12, Sl.v r11.1), (86, .bool (!r16))]) (by kernel_rfl) (by kernel_rfl) ?_
            exact OJ.nil ⟨(Cov.mem Cov.nil), rfl, _, rfl, by kernel_rfl⟩
          · refine OJ.nil ?_
            refine SJ.cond (t := (.tmp 86)) (b := y17) (by kernel_rfl) (by kernel_rfl) Iff.rfl (fun hc92 => ?_) (fun hc92 => ?_)
            · refine SJ.seq (by kernel_rfl) ?_
              refine SJ.region (id := 11) (by kernel_rfl) [0] (by kernel_rfl) ?_
              refine OJ.run [0] [] [6] (m2 := [(6, .bool false)]) (by kernel_rfl) (by kernel_rfl) ?_
              refine OJ.nil ?_
              exact SJ.ret (by kernel_rfl) rfl (Res.run (ys := [.bool false]) (.tmp (by kernel_rfl) .nil) rfl)
            · refine SJ.skip (by kernel_rfl) ?_
              refine SJ.seq (by kernel_rfl) ?_
              refine SJ.seq (by kernel_rfl) ?_
              refine SJ.region (id := 12) (by kernel_rfl) [0] (by kernel_rfl) ?_
              refine OJ.run [0] [] [0, 1, 2, 7, 9, 10, 12, 14] (m2 := [(0, .int .i64 a0), (1, Sl.v j7), (2, Sl.v a2), (7, .pointer r1.1), (9, .int .i64 r10.1), (10, Sl.v r10.2.1), (12, Sl.v r11.1), (14, .int .i64 0)]) (by kernel_rfl) (by kernel_rfl) ?_
              refine OJ.nil ?_
              refine SJ.block (id := 0) (by kernel_rfl) ?_
              exact SJ.loop (fun s_ : Int => [(0, .int .i64 a0), (1, Sl.v j7), (2, Sl.v a2), (7, .pointer r1.1), (9, .int .i64 r10.1), (10, Sl.v r10.2.1), (12, Sl.v r11.1), (14, .int .i64 s_)]) (fun s_ : Int => []) [0, 1, 2, 7, 9, 10, 12, 14] (by kernel_rfl) (by kernel_rfl) rfl (fun _ _ => rfl) (fun s_ => weirlaw3_RingWindows.L5_ok a0 a2 r1 j7 r10 r11 s_)
noncomputable def weirlaw3_RingWindows (a0 : Int) (a1 : Sl) (a2 : Sl) : M Bool :=
  ring_New 1 2 2 64 >>= fun r1 =>
  (if r1.1 = none then
      pure true
    else
      weirlaw3_num r1.2 >>= fun r2 =>
      pure (r2 != 0)) >>= fun y3 =>
  (if y3 = true then
      pure true
    else
      ring_Port_Refill r1.1 1 >>= fun r4 =>
      pure (r4 != 1)) >>= fun y5 =>
  if y5 = true then
    pure false
  else
    if (a1.len : Int) > 64 then
      cut 1 a1 none (some 64) none >>= fun r94 =>
      weirlaw3_RingWindows.K7 a0 a2 r1 r94
    else
      weirlaw3_RingWindows.K7 a0 a2 r1 a1
theorem weirlaw3_RingWindows_ok (a0 : Int) (a1 : Sl) (a2 : Sl) : Ref Try.prog 3 [.int .i64 a0, Sl.v a1, Sl.v a2] (weirlaw3_RingWindows a0 a1 a2) weirlaw3_RingWindows.out := by
  refine Ref.of (cd := weirlaw3_RingWindows.B) Try.func3 (by kernel_rfl) (by kernel_rfl) ?_
  show SJ weirlaw3_RingWindows.cx [.code weirlaw3_RingWindows.B] [(0, .int .i64 a0), (1, Sl.v a1), (2, Sl.v a2)] [] (weirlaw3_RingWindows a0 a1 a2) weirlaw3_RingWindows.F0
  unfold weirlaw3_RingWindows
  refine SJ.seq (by kernel_rfl) ?_
  refine SJ.region (id := 0) (by kernel_rfl) [0] (by kernel_rfl) ?_
  refine OJ.run [0] [] [0, 1, 2] (m2 := [(0, .int .i64 a0), (1, Sl.v a1), (2, Sl.v a2)]) (by kernel_rfl) (by kernel_rfl) ?_
  refine OJ.nil ?_
  refine SJ.seq (by kernel_rfl) ?_
  refine SJ.region (id := 1) (by kernel_rfl) [0, 1, 2, 3, 4, 5] (by kernel_rfl) ?_
  refine OJ.call (d := 25) (g := 13) (ats := #[3, 3, 3, 3]) (args := [.const (.int .i64 1), .const (.int .i64 2), .const (.int .i64 2), .const (.int .i64 64)]) (vals := [.int .i64 1, .int .i64 2, .int .i64 2, .int .i64 64]) (owed := []) (by kernel_rfl) F13 (by kernel_rfl) (ring_New_ok 1 2 2 64) (by kernel_rfl) (by kernel_rfl) (by kernel_rfl) (fun r1 => ?_)
  refine OW.nil ?_
  refine OJ.run [1, 2, 3, 4, 5] [] [0, 1, 2, 7, 8] (m2 := [(0, .int .i64 a0), (1, Sl.v a1), (2, Sl.v a2), (7, .pointer r1.1), (8, .int .i64 r1.2)]) (by kernel_rfl) (by kernel_rfl) ?_
  refine OJ.nil ?_
  refine SJ.seq (by kernel_rfl) ?_
  refine SJ.seq (by kernel_rfl) ?_
  refine SJ.region (id := 2) (by kernel_rfl) [0, 1, 2, 3, 4, 5, 6, 7, 8, 9, 10, 11] (by kernel_rfl) ?_
  refine OJ.run [0, 1, 2] [3, 4, 5, 6, 7, 8, 9, 10, 11] [0, 1, 2, 7, 8, 30] (m2 := [(0, .int .i64 a0), (1, Sl.v a1), (2, Sl.v a2), (7, .pointer r1.1), (8, .int .i64 r1.2), (30, .bool (Option.isNone r1.1))]) (by kernel_rfl) (by kernel_rfl) ?_
  refine OJ.join (b := (Option.isNone r1.1)) [3, 4, 5, 6] [7, 8, 9, 10, 11] [0, 1, 2, 7, 34] (fun y3 => [(0, .int .i64 a0), (1, Sl.v a1), (2, Sl.v a2), (7, .pointer r1.1), (34, .bool y3)]) [] [] (by kernel_rfl) (t := 30) (by kernel_rfl) Option.isNone_iff_eq_none (fun hp_ => ?_) (fun hp_ => ?_) (by kernel_rfl) (fun _ _ _ _ _ _ h_ => h_) (fun y3 => ?_)
  · refine OJ.run [3, 4, 5, 6] [] [0, 1, 2, 7, 34] (m2 := [(0, .int .i64 a0), (1, Sl.v a1), (2, Sl.v a2), (7, .pointer r1.1), (34, .bool true)]) (by kernel_rfl) (by kernel_rfl) ?_
    exact OJ.nil ⟨(Cov.mem Cov.nil), rfl, _, rfl, by kernel_rfl⟩
  · refine OJ.run [3] [4, 5, 6] [0, 1, 2, 7, 30, 31] (m2 := [(0, .int .i64 a0), (1, Sl.v a1), (2, Sl.v a2), (7, .pointer r1.1), (30, .bool false), (31, .int .i64 r1.2)]) (by kernel_rfl) (by kernel_rfl) ?_
    refine OJ.call (d := 32) (g := 14) (ats := #[24]) (args := [.tmp 31]) (vals := [.int .i64 r1.2]) (owed := []) (by kernel_rfl) F14 (by kernel_rfl) (weirlaw3_num_ok r1.2) (by kernel_rfl) (by kernel_rfl) (by kernel_rfl) (fun r2 => ?_)
    refine OW.nil ?_
    refine OJ.run [5, 6] [] [0, 1, 2, 7, 34] (m2 := [(0, .int .i64 a0), (1, Sl.v a1), (2, Sl.v a2), (7, .pointer r1.1), (34, .bool (r2 != 0))]) (by kernel_rfl) (by kernel_rfl) ?_
    exact OJ.nil ⟨(Cov.mem Cov.nil), rfl, _, rfl, by kernel_rfl⟩
  · refine OJ.run [7] [8, 9, 10, 11] [0, 1, 2, 7, 35] (m2 := [(0, .int .i64 a0), (1, Sl.v a1), (2, Sl.v a2), (7, .pointer r1.1), (35, .bool y3)]) (by kernel_rfl) (by kernel_rfl) ?_
    refine OJ.join (b := y3) [8, 9, 10, 11] [] [0, 1, 2, 7, 39] (fun y5 => [(0, .int .i64 a0), (1, Sl.v a1), (2, Sl.v a2), (7, .pointer r1.1), (39, .bool y5)]) [] [] (by kernel_rfl) (t := 35) (by kernel_rfl) Iff.rfl (fun hp_ => ?_) (fun hp_ => ?_) (by kernel_rfl) (fun _ _ _ _ _ _ h_ => h_) (fun y5 => ?_)
    · refine OJ.run [8, 9, 10, 11] [] [0, 1, 2, 7, 39] (m2 := [(0, .int .i64 a0), (1, Sl.v a1), (2, Sl.v a2), (7, .pointer r1.1), (39, .bool true)]) (by kernel_rfl) (by kernel_rfl) ?_
      exact OJ.nil ⟨(Cov.mem Cov.nil), rfl, _, rfl, by kernel_rfl⟩
    · refine OJ.run [8] [9, 10, 11] [0, 1, 2, 7, 35, 36] (m2 := [(0, .int .i64 a0), (1, Sl.v a1), (2, Sl.v a2), (7, .pointer r1.1), (35, .bool false), (36, .pointer r1.1)]) (by kernel_rfl) (by kernel_rfl) ?_
      refine OJ.call (d := 37) (g := 15) (ats := #[23, 3]) (args := [.tmp 36, .const (.int .i64 1)]) (vals := [.pointer r1.1, .int .i64 1]) (owed := []) (by kernel_rfl) F15 (by kernel_rfl) (ring_Port_Refill_ok r1.1 1) (by kernel_rfl) (by kernel_rfl) (by kernel_rfl) (fun r4 => ?_)
      refine OW.nil ?_
      refine OJ.run [10, 11] [] [0, 1, 2, 7, 39] (m2 := [(0, .int .i64 a0), (1, Sl.v a1), (2, Sl.v a2), (7, .pointer r1.1), (39, .bool (r4 != 1))]) (by kernel_rfl) (by kernel_rfl) ?_
      exact OJ.nil ⟨(Cov.mem Cov.nil), rfl, _, rfl, by kernel_rfl⟩
    · refine OJ.nil ?_
      refine SJ.cond (t := (.tmp 39)) (b := y5) (by kernel_rfl) (by kernel_rfl) Iff.rfl (fun hc96 => ?_) (fun hc96 => ?_)
      · refine SJ.seq (by kernel_rfl) ?_
        refine SJ.region (id := 3) (by kernel_rfl) [0] (by kernel_rfl) ?_
        refine OJ.run [0] [] [6] (m2 := [(6, .bool false)]) (by kernel_rfl) (by kernel_rfl) ?_
        refine OJ.nil ?_
        exact SJ.ret (by kernel_rfl) rfl (Res.run (ys := [.bool false]) (.tmp (by kernel_rfl) .nil) rfl)
      · refine SJ.skip (by kernel_rfl) ?_
        refine SJ.seq (by kernel_rfl) ?_
        refine SJ.seq (by kernel_rfl) ?_
        refine SJ.region (id := 4) (by kernel_rfl) [0, 1, 2] (by kernel_rfl) ?_
        refine OJ.run [0, 1, 2] [] [0, 1, 2, 7, 42] (m2 := [(0, .int .i64 a0), (1, Sl.v a1), (2, Sl.v a2), (7, .pointer r1.1), (42, .bool (decide ((a1.len : Int) > 64)))]) (by kernel_rfl) (by kernel_rfl) ?_
        refine OJ.nil ?_
        refine SJ.cond (t := (.tmp 42)) (b := decide ((a1.len : Int) > 64)) (by kernel_rfl) (by kernel_rfl) decide_eq_true_iff (fun hc95 => ?_) (fun hc95 => ?_)
        · refine SJ.region (id := 5) (by kernel_rfl) [0, 1, 2] (by kernel_rfl) ?_
          refine OJ.run [0] [1, 2] [0, 1, 2, 7, 43] (m2 := [(0, .int .i64 a0), (1, Sl.v a1), (2, Sl.v a2), (7, .pointer r1.1), (43, Sl.v a1)]) (by kernel_rfl) (by kernel_rfl) ?_
          refine OJ.cut (d := 44) (t := 22) (E := 5) (y := .tmp 43) (lo := none) (hi := (some (.const (.int .i64 64)))) (mx := none) (lo' := none) (hi' := some (.i64, 64)) (mx' := none) (by kernel_rfl) (by kernel_rfl) (by kernel_rfl) (by kernel_rfl) (by kernel_rfl) (by kernel_rfl) (by kernel_rfl) (fun h => by cases h) (by kernel_rfl) (by kernel_rfl) (by kernel_rfl) (fun r94 => ?_)
          refine OJ.run [2] [] [0, 1, 2, 7] (m2 := [(0, .int .i64 a0), (1, Sl.v r94), (2, Sl.v a2), (7, .pointer r1.1)]) (by kernel_rfl) (by kernel_rfl) ?_
          refine OJ.nil ?_
          refine SJ.less [0, 1, 2, 7] (m' := [(0, .int .i64 a0), (1, Sl.v r94), (2, Sl.v a2), (7, .pointer r1.1)]) (by kernel_rfl) ?_
          exact weirlaw3_RingWindows.K7_ok a0 a2 r1 r94
        · refine SJ.skip (by kernel_rfl) ?_
          refine SJ.less [0, 1, 2, 7] (m' := [(0, .int .i64 a0), (1, Sl.v a1), (2, Sl.v a2), (7, .pointer r1.1)]) (by kernel_rfl) ?_
          exact weirlaw3_RingWindows.K7_ok a0 a2 r1 a1
end Go.Proofs.Ytoddkagehbcfjaa.Lx
