/- Programs of the M-world for Go functions, each with the proof that the Go text does what it says. Printed by lxgen.py. -/
import Derived.Test.YtfjcjecgalijfaaDoorLxT
import Derived.Test.YtfjcjecgalijfaaDoorLxP0
set_option maxRecDepth 100000
set_option linter.unusedVariables false
set_option linter.unusedSimpArgs false
namespace Go.Proofs.YtfjcjecgalijfaaDoor.Lx
open Go Go.Proofs
/-! ### weir/weirlaw0.limits: function 5 -/
noncomputable def weirlaw0_limits.B : Code := (Tryd.f5.body).getD .skip
noncomputable def weirlaw0_limits.cx : Fx := ⟨Tryd.prog, 5, Tryd.f5⟩
noncomputable def weirlaw0_limits.out (r_ : Sl) : Value := Sl.v r_
noncomputable def weirlaw0_limits.F0 (r_ : Sl) : Reach := .ret (weirlaw0_limits.out r_)
noncomputable def weirlaw0_limits  : M Sl :=
  newv 25 (c_weirlaw0_pair.arr 89) (⟨[(⟨65535, 65535⟩ : weirlaw0_pair), (⟨64, 64⟩ : weirlaw0_pair), (⟨4096, 4096⟩ : weirlaw0_pair), (⟨8192, 8192⟩ : weirlaw0_pair), (⟨64, 64⟩ : weirlaw0_pair), (⟨2, 2⟩ : weirlaw0_pair), (⟨60, 60⟩ : weirlaw0_pair), (⟨8, 8⟩ : weirlaw0_pair), (⟨256, 256⟩ : weirlaw0_pair), (⟨16, 16⟩ : weirlaw0_pair), (⟨256, 256⟩ : weirlaw0_pair), (⟨1024, 1024⟩ : weirlaw0_pair), (⟨1048576, 1048576⟩ : weirlaw0_pair), (⟨68, 68⟩ : weirlaw0_pair), (⟨1280, 1280⟩ : weirlaw0_pair), (⟨9000, 9000⟩ : weirlaw0_pair), (⟨8, 8⟩ : weirlaw0_pair), (⟨256, 256⟩ : weirlaw0_pair), (⟨1024, 1024⟩ : weirlaw0_pair), (⟨64, 64⟩ : weirlaw0_pair), (⟨16, 16⟩ : weirlaw0_pair), (⟨256, 256⟩ : weirlaw0_pair), (⟨16, 16⟩ : weirlaw0_pair), (⟨1024, 1024⟩ : weirlaw0_pair), (⟨4096, 4096⟩ : weirlaw0_pair), (⟨8, 8⟩ : weirlaw0_pair), (⟨64, 64⟩ : weirlaw0_pair), (⟨4096, 4096⟩ : weirlaw0_pair), (⟨1048576, 1048576⟩ : weirlaw0_pair), (⟨512, 512⟩ : weirlaw0_pair), (⟨0, 0⟩ : weirlaw0_pair), (⟨1, 1⟩ : weirlaw0_pair), (⟨2, 2⟩ : weirlaw0_pair), (⟨3, 3⟩ : weirlaw0_pair), (⟨4, 4⟩ : weirlaw0_pair), (⟨5, 5⟩ : weirlaw0_pair), (⟨6, 6⟩ : weirlaw0_pair), (⟨7, 7⟩ : weirlaw0_pair), (⟨1, 1⟩ : weirlaw0_pair), (⟨2, 2⟩ : weirlaw0_pair), (⟨3, 3⟩ : weirlaw0_pair), (⟨4, 4⟩ : weirlaw0_pair), (⟨5, 5⟩ : weirlaw0_pair), (⟨6, 6⟩ : weirlaw0_pair), (⟨7, 7⟩ : weirlaw0_pair), (⟨1, 1⟩ : weirlaw0_pair), (⟨2, 2⟩ : weirlaw0_pair), (⟨1, 1⟩ : weirlaw0_pair), (⟨2, 2⟩ : weirlaw0_pair), (⟨4, 4⟩ : weirlaw0_pair), (⟨8, 8⟩ : weirlaw0_pair), (⟨16, 16⟩ : weirlaw0_pair), (⟨32, 32⟩ : weirlaw0_pair), (⟨1, 1⟩ : weirlaw0_pair), (⟨2, 2⟩ : weirlaw0_pair), (⟨3, 3⟩ : weirlaw0_pair), (⟨0, 0⟩ : weirlaw0_pair), (⟨1, 1⟩ : weirlaw0_pair), (⟨2, 2⟩ : weirlaw0_pair), (⟨3, 3⟩ : weirlaw0_pair), (⟨1, 1⟩ : weirlaw0_pair), (⟨2, 2⟩ : weirlaw0_pair), (⟨3, 3⟩ : weirlaw0_pair), (⟨4, 4⟩ : weirlaw0_pair), (⟨5, 5⟩ : weirlaw0_pair), (⟨1, 1⟩ : weirlaw0_pair), (⟨2, 2⟩ : weirlaw0_pair), (⟨1, 1⟩ : weirlaw0_pair), (⟨2, 2⟩ : weirlaw0_pair), (⟨3, 3⟩ : weirlaw0_pair), (⟨4, 4⟩ : weirlaw0_pair), (⟨5, 5⟩ : weirlaw0_pair), (⟨1, 1⟩ : weirlaw0_pair), (⟨2, 2⟩ : weirlaw0_pair), (⟨3, 3⟩ : weirlaw0_pair), (⟨4, 4⟩ : weirlaw0_pair), (⟨1, 1⟩ : weirlaw0_pair), (⟨2, 2⟩ : weirlaw0_pair), (⟨3, 3⟩ : weirlaw0_pair), (⟨1, 1⟩ : weirlaw0_pair), (⟨2, 2⟩ : weirlaw0_pair), (⟨3, 3⟩ : weirlaw0_pair), (⟨1, 1⟩ : weirlaw0_pair), (⟨2, 2⟩ : weirlaw0_pair), (⟨3, 3⟩ : weirlaw0_pair), (⟨4, 4⟩ : weirlaw0_pair), (⟨5, 5⟩ : weirlaw0_pair), (⟨6, 6⟩ : weirlaw0_pair), (⟨7, 7⟩ : weirlaw0_pair)], rfl⟩ : Vec weirlaw0_pair 89) >>= fun b1 =>
  pure (⟨some (pt b1 0), 89, 89⟩ : Sl)
theorem weirlaw0_limits_ok  : Ref Tryd.prog 5 [] (weirlaw0_limits) weirlaw0_limits.out := by
  refine Ref.of (cd := weirlaw0_limits.B) Tryd.func5 ?_
  show SJ weirlaw0_limits.cx [.code weirlaw0_limits.B] [] [] (weirlaw0_limits) weirlaw0_limits.F0
  unfold weirlaw0_limits
  refine SJ.sr 1 ?_
  refine OJ.go 1 [(0, Sl.v Sl.nil)] ?_
  refine OJ.nil ?_
  refine SJ.sr 91 ?_
  refine OJ.build (d := 1) (T := 25) (parts := [(0, .const (.int .i64 65535)), (1, .const (.int .i64 65535))]) (ps := [(0, (cI .i64).val 65535), (1, (cI .i64).val 65535)]) (cd := c_weirlaw0_pair) (z0 := z_weirlaw0_pair) (⟨65535, 65535⟩ : weirlaw0_pair) Ty25 rfl (Filled.cons (cd := (cI .i64)) (q := 65535) (o := 0) (by kernel_rfl) (Up_weirlaw0_pair_is z_weirlaw0_pair 65535) (Filled.cons (cd := (cI .i64)) (q := 65535) (o := 1) (by kernel_rfl) (Up_weirlaw0_pair_want (⟨65535, z_weirlaw0_pair.want⟩ : weirlaw0_pair) 65535) Filled.nil)) ?_
  refine OJ.build (d := 2) (T := 25) (parts := [(0, .const (.int .i64 64)), (1, .const (.int .i64 64))]) (ps := [(0, (cI .i64).val 64), (1, (cI .i64).val 64)]) (cd := c_weirlaw0_pair) (z0 := z_weirlaw0_pair) (⟨64, 64⟩ : weirlaw0_pair) Ty25 rfl (Filled.cons (cd := (cI .i64)) (q := 64) (o := 0) (by kernel_rfl) (Up_weirlaw0_pair_is z_weirlaw0_pair 64) (Filled.cons (cd := (cI .i64)) (q := 64) (o := 1) (by kernel_rfl) (Up_weirlaw0_pair_want (⟨64, z_weirlaw0_pair.want⟩ : weirlaw0_pair) 64) Filled.nil)) ?_
  refine OJ.build (d := 3) (T := 25) (parts := [(0, .const (.int .i64 4096)), (1, .const (.int .i64 4096))]) (ps := [(0, (cI .i64).val 4096), (1, (cI .i64).val 4096)]) (cd := c_weirlaw0_pair) (z0 := z_weirlaw0_pair) (⟨4096, 4096⟩ : weirlaw0_pair) Ty25 rfl (Filled.cons (cd := (cI .i64)) (q := 4096) (o := 0) (by kernel_rfl) (Up_weirlaw0_pair_is z_weirlaw0_pair 4096) (Filled.cons (cd := (cI .i64)) (q := 4096) (o := 1) (by kernel_rfl) (Up_weirlaw0_pair_want (⟨4096, z_weirlaw0_pair.want⟩ : weirlaw0_pair) 4096) Filled.nil)) ?_
  refine OJ.build (d := 4) (T := 25) (parts := [(0, .const (.int .i64 8192)), (1, .const (.int .i64 8192))]) (ps := [(0, (cI .i64).val 8192), (1, (cI .i64).val 8192)]) (cd := c_weirlaw0_pair) (z0 := z_weirlaw0_pair) (⟨8192, 8192⟩ : weirlaw0_pair) Ty25 rfl (Filled.cons (cd := (cI .i64)) (q := 8192) (o := 0) (by kernel_rfl) (Up_weirlaw0_pair_is z_weirlaw0_pair 8192) (Filled.cons (cd := (cI .i64)) (q := 8192) (o := 1) (by kernel_rfl) (Up_weirlaw0_pair_want (⟨8192, z_weirlaw0_pair.want⟩ : weirlaw0_pair) 8192) Filled.nil)) ?_
  refine OJ.build (d := 5) (T := 25) (parts := [(0, .const (.int .i64 64)), (1, .const (.int .i64 64))]) (ps := [(0, (cI .i64).val 64), (1, (cI .i64).val 64)]) (cd := c_weirlaw0_pair) (z0 := z_weirlaw0_pair) (⟨64, 64⟩ : weirlaw0_pair) Ty25 rfl (Filled.cons (cd := (cI .i64)) (q := 64) (o := 0) (by kernel_rfl) (Up_weirlaw0_pair_is z_weirlaw0_pair 64) (Filled.cons (cd := (cI .i64)) (q := 64) (o := 1) (by kernel_rfl) (Up_weirlaw0_pair_want (⟨64, z_weirlaw0_pair.want⟩ : weirlaw0_pair) 64) Filled.nil)) ?_
  refine OJ.build (d := 6) (T := 25) (parts := [(0, .const (.int .i64 2)), (1, .const (.int .i64 2))]) (ps := [(0, (cI .i64).val 2), (1, (cI .i64).val 2)]) (cd := c_weirlaw0_pair) (z0 := z_weirlaw0_pair) (⟨2, 2⟩ : weirlaw0_pair) Ty25 rfl (Filled.cons (cd := (cI .i64)) (q := 2) (o := 0) (by kernel_rfl) (Up_weirlaw0_pair_is z_weirlaw0_pair 2) (Filled.cons (cd := (cI .i64)) (q := 2) (o := 1) (by kernel_rfl) (Up_weirlaw0_pair_want (⟨2, z_weirlaw0_pair.want⟩ : weirlaw0_pair) 2) Filled.nil)) ?_
  refine OJ.build (d := 7) (T := 25) (parts := [(0, .const (.int .i64 60)), (1, .const (.int .i64 60))]) (ps := [(0, (cI .i64).val 60), (1, (cI .i64).val 60)]) (cd := c_weirlaw0_pair) (z0 := z_weirlaw0_pair) (⟨60, 60⟩ : weirlaw0_pair) Ty25 rfl (Filled.cons (cd := (cI .i64)) (q := 60) (o := 0) (by kernel_rfl) (Up_weirlaw0_pair_is z_weirlaw0_pair 60) (Filled.cons (cd := (cI .i64)) (q := 60) (o := 1) (by kernel_rfl) (Up_weirlaw0_pair_want (⟨60, z_weirlaw0_pair.want⟩ : weirlaw0_pair) 60) Filled.nil)) ?_
  refine OJ.build (d := 8) (T := 25) (parts := [(0, .const (.int .i64 8)), (1, .const (.int .i64 8))]) (ps := [(0, (cI .i64).val 8), (1, (cI .i64).val 8)]) (cd := c_weirlaw0_pair) (z0 := z_weirlaw0_pair) (⟨8, 8⟩ : weirlaw0_pair) Ty25 rfl (Filled.cons (cd := (cI .i64)) (q := 8) (o := 0) (by kernel_rfl) (Up_weirlaw0_pair_is z_weirlaw0_pair 8) (Filled.cons (cd := (cI .i64)) (q := 8) (o := 1) (by kernel_rfl) (Up_weirlaw0_pair_want (⟨8, z_weirlaw0_pair.want⟩ : weirlaw0_pair) 8) Filled.nil)) ?_
  refine OJ.build (d := 9) (T := 25) (parts := [(0, .const (.int .i64 256)), (1, .const (.int .i64 256))]) (ps := [(0, (cI .i64).val 256), (1, (cI .i64).val 256)]) (cd := c_weirlaw0_pair) (z0 := z_weirlaw0_pair) (⟨256, 256⟩ : weirlaw0_pair) Ty25 rfl (Filled.cons (cd := (cI .i64)) (q := 256) (o := 0) (by kernel_rfl) (Up_weirlaw0_pair_is z_weirlaw0_pair 256) (Filled.cons (cd := (cI .i64)) (q := 256) (o := 1) (by kernel_rfl) (Up_weirlaw0_pair_want (⟨256, z_weirlaw0_pair.want⟩ : weirlaw0_pair) 256) Filled.nil)) ?_
  refine OJ.build (d := 10) (T := 25) (parts := [(0, .const (.int .i64 16)), (1, .const (.int .i64 16))]) (ps := [(0, (cI .i64).val 16), (1, (cI .i64).val 16)]) (cd := c_weirlaw0_pair) (z0 := z_weirlaw0_pair) (⟨16, 16⟩ : weirlaw0_pair) Ty25 rfl (Filled.cons (cd := (cI .i64)) (q := 16) (o := 0) (by kernel_rfl) (Up_weirlaw0_pair_is z_weirlaw0_pair 16) (Filled.cons (cd := (cI .i64)) (q := 16) (o := 1) (by kernel_rfl) (Up_weirlaw0_pair_want (⟨16, z_weirlaw0_pair.want⟩ : weirlaw0_pair) 16) Filled.nil)) ?_
  refine OJ.build (d := 11) (T := 25) (parts := [(0, .const (.int .i64 256)), (1, .const (.int .i64 256))]) (ps := [(0, (cI .i64).val 256), (1, (cI .i64).val 256)]) (cd := c_weirlaw0_pair) (z0 := z_weirlaw0_pair) (⟨256, 256⟩ : weirlaw0_pair) Ty25 rfl (Filled.cons (cd := (cI .i64)) (q := 256) (o := 0) (by kernel_rfl) (Up_weirlaw0_pair_is z_weirlaw0_pair 256) (Filled.cons (cd := (cI .i64)) (q := 256) (o := 1) (by kernel_rfl) (Up_weirlaw0_pair_want (⟨256, z_weirlaw0_pair.want⟩ : weirlaw0_pair) 256) Filled.nil)) ?_
  refine OJ.build (d := 12) (T := 25) (parts := [(0, .const (.int .i64 1024)), (1, .const (.int .i64 1024))]) (ps := [(0, (cI .i64).val 1024), (1, (cI .i64).val 1024)]) (cd := c_weirlaw0_pair) (z0 := z_weirlaw0_pair) (⟨1024, 1024⟩ : weirlaw0_pair) Ty25 rfl (Filled.cons (cd := (cI .i64)) (q := 1024) (o := 0) (by kernel_rfl) (Up_weirlaw0_pair_is z_weirlaw0_pair 1024) (Filled.cons (cd := (cI .i64)) (q := 1024) (o := 1) (by kernel_rfl) (Up_weirlaw0_pair_want (⟨1024, z_weirlaw0_pair.want⟩ : weirlaw0_pair) 1024) Filled.nil)) ?_
  refine OJ.build (d := 13) (T := 25) (parts := [(0, .const (.int .i64 1048576)), (1, .const (.int .i64 1048576))]) (ps := [(0, (cI .i64).val 1048576), (1, (cI .i64).val 1048576)]) (cd := c_weirlaw0_pair) (z0 := z_weirlaw0_pair) (⟨1048576, 1048576⟩ : weirlaw0_pair) Ty25 rfl (Filled.cons (cd := (cI .i64)) (q := 1048576) (o := 0) (by kernel_rfl) (Up_weirlaw0_pair_is z_weirlaw0_pair 1048576) (Filled.cons (cd := (cI .i64)) (q := 1048576) (o := 1) (by kernel_rfl) (Up_weirlaw0_pair_want (⟨1048576, z_weirlaw0_pair.want⟩ : weirlaw0_pair) 1048576) Filled.nil)) ?_
  refine OJ.build (d := 14) (T := 25) (parts := [(0, .const (.int .i64 68)), (1, .const (.int .i64 68))]) (ps := [(0, (cI .i64).val 68), (1, (cI .i64).val 68)]) (cd := c_weirlaw0_pair) (z0 := z_weirlaw0_pair) (⟨68, 68⟩ : weirlaw0_pair) Ty25 rfl (Filled.cons (cd := (cI .i64)) (q := 68) (o := 0) (by kernel_rfl) (Up_weirlaw0_pair_is z_weirlaw0_pair 68) (Filled.cons (cd := (cI .i64)) (q := 68) (o := 1) (by kernel_rfl) (Up_weirlaw0_pair_want (⟨68, z_weirlaw0_pair.want⟩ : weirlaw0_pair) 68) Filled.nil)) ?_
  refine OJ.build (d := 15) (T := 25) (parts := [(0, .const (.int .i64 1280)), (1, .const (.int .i64 1280))]) (ps := [(0, (cI .i64).val 1280), (1, (cI .i64).val 1280)]) (cd := c_weirlaw0_pair) (z0 := z_weirlaw0_pair) (⟨1280, 1280⟩ : weirlaw0_pair) Ty25 rfl (Filled.cons (cd := (cI .i64)) (q := 1280) (o := 0) (by kernel_rfl) (Up_weirlaw0_pair_is z_weirlaw0_pair 1280) (Filled.cons (cd := (cI .i64)) (q := 1280) (o := 1) (by kernel_rfl) (Up_weirlaw0_pair_want (⟨1280, z_weirlaw0_pair.want⟩ : weirlaw0_pair) 1280) Filled.nil)) ?_
  refine OJ.build (d := 16) (T := 25) (parts := [(0, .const (.int .i64 9000)), (1, .const (.int .i64 9000))]) (ps := [(0, (cI .i64).val 9000), (1, (cI .i64).val 9000)]) (cd := c_weirlaw0_pair) (z0 := z_weirlaw0_pair) (⟨9000, 9000⟩ : weirlaw0_pair) Ty25 rfl (Filled.cons (cd := (cI .i64)) (q := 9000) (o := 0) (by kernel_rfl) (Up_weirlaw0_pair_is z_weirlaw0_pair 9000) (Filled.cons (cd := (cI .i64)) (q := 9000) (o := 1) (by kernel_rfl) (Up_weirlaw0_pair_want (⟨9000, z_weirlaw0_pair.want⟩ : weirlaw0_pair) 9000) Filled.nil)) ?_
  refine OJ.build (d := 17) (T := 25) (parts := [(0, .const (.int .i64 8)), (1, .const (.int .i64 8))]) (ps := [(0, (cI .i64).val 8), (1, (cI .i64).val 8)]) (cd := c_weirlaw0_pair) (z0 := z_weirlaw0_pair) (⟨8, 8⟩ : weirlaw0_pair) Ty25 rfl (Filled.cons (cd := (cI .i64)) (q := 8) (o := 0) (by kernel_rfl) (Up_weirlaw0_pair_is z_weirlaw0_pair 8) (Filled.cons (cd := (cI .i64)) (q := 8) (o := 1) (by kernel_rfl) (Up_weirlaw0_pair_want (⟨8, z_weirlaw0_pair.want⟩ : weirlaw0_pair) 8) Filled.nil)) ?_
  refine OJ.build (d := 18) (T := 25) (parts := [(0, .const (.int .i64 256)), (1, .const (.int .i64 256))]) (ps := [(0, (cI .i64).val 256), (1, (cI .i64).val 256)]) (cd := c_weirlaw0_pair) (z0 := z_weirlaw0_pair) (⟨256, 256⟩ : weirlaw0_pair) Ty25 rfl (Filled.cons (cd := (cI .i64)) (q := 256) (o := 0) (by kernel_rfl) (Up_weirlaw0_pair_is z_weirlaw0_pair 256) (Filled.cons (cd := (cI .i64)) (q := 256) (o := 1) (by kernel_rfl) (Up_weirlaw0_pair_want (⟨256, z_weirlaw0_pair.want⟩ : weirlaw0_pair) 256) Filled.nil)) ?_
  refine OJ.build (d := 19) (T := 25) (parts := [(0, .const (.int .i64 1024)), (1, .const (.int .i64 1024))]) (ps := [(0, (cI .i64).val 1024), (1, (cI .i64).val 1024)]) (cd := c_weirlaw0_pair) (z0 := z_weirlaw0_pair) (⟨1024, 1024⟩ : weirlaw0_pair) Ty25 rfl (Filled.cons (cd := (cI .i64)) (q := 1024) (o := 0) (by kernel_rfl) (Up_weirlaw0_pair_is z_weirlaw0_pair 1024) (Filled.cons (cd := (cI .i64)) (q := 1024) (o := 1) (by kernel_rfl) (Up_weirlaw0_pair_want (⟨1024, z_weirlaw0_pair.want⟩ : weirlaw0_pair) 1024) Filled.nil)) ?_
  refine OJ.build (d := 20) (T := 25) (parts := [(0, .const (.int .i64 64)), (1, .const (.int .i64 64))]) (ps := [(0, (cI .i64).val 64), (1, (cI .i64).val 64)]) (cd := c_weirlaw0_pair) (z0 := z_weirlaw0_pair) (⟨64, 64⟩ : weirlaw0_pair) Ty25 rfl (Filled.cons (cd := (cI .i64)) (q := 64) (o := 0) (by kernel_rfl) (Up_weirlaw0_pair_is z_weirlaw0_pair 64) (Filled.cons (cd := (cI .i64)) (q := 64) (o := 1) (by kernel_rfl) (Up_weirlaw0_pair_want (⟨64, z_weirlaw0_pair.want⟩ : weirlaw0_pair) 64) Filled.nil)) ?_
  refine OJ.build (d := 21) (T := 25) (parts := [(0, .const (.int .i64 16)), (1, .const (.int .i64 16))]) (ps := [(0, (cI .i64).val 16), (1, (cI .i64).val 16)]) (cd := c_weirlaw0_pair) (z0 := z_weirlaw0_pair) (⟨16, 16⟩ : weirlaw0_pair) Ty25 rfl (Filled.cons (cd := (cI .i64)) (q := 16) (o := 0) (by kernel_rfl) (Up_weirlaw0_pair_is z_weirlaw0_pair 16) (Filled.cons (cd := (cI .i64)) (q := 16) (o := 1) (by kernel_rfl) (Up_weirlaw0_pair_want (⟨16, z_weirlaw0_pair.want⟩ : weirlaw0_pair) 16) Filled.nil)) ?_
  refine OJ.build (d := 22) (T := 25) (parts := [(0, .const (.int .i64 256)), (1, .const (.int .i64 256))]) (ps := [(0, (cI .i64).val 256), (1, (cI .i64).val 256)]) (cd := c_weirlaw0_pair) (z0 := z_weirlaw0_pair) (⟨256, 256⟩ : weirlaw0_pair) Ty25 rfl (Filled.cons (cd := (cI .i64)) (q := 256) (o := 0) (by kernel_rfl) (Up_weirlaw0_pair_is z_weirlaw0_pair 256) (Filled.cons (cd := (cI .i64)) (q := 256) (o := 1) (by kernel_rfl) (Up_weirlaw0_pair_want (⟨256, z_weirlaw0_pair.want⟩ : weirlaw0_pair) 256) Filled.nil)) ?_
  refine OJ.build (d := 23) (T := 25) (parts := [(0, .const (.int .i64 16)), (1, .const (.int .i64 16))]) (ps := [(0, (cI .i64).val 16), (1, (cI .i64).val 16)]) (cd := c_weirlaw0_pair) (z0 := z_weirlaw0_pair) (⟨16, 16⟩ : weirlaw0_pair) Ty25 rfl (Filled.cons (cd := (cI .i64)) (q := 16) (o := 0) (by kernel_rfl) (Up_weirlaw0_pair_is z_weirlaw0_pair 16) (Filled.cons (cd := (cI .i64)) (q := 16) (o := 1) (by kernel_rfl) (Up_weirlaw0_pair_want (⟨16, z_weirlaw0_pair.want⟩ : weirlaw0_pair) 16) Filled.nil)) ?_
  refine OJ.build (d := 24) (T := 25) (parts := [(0, .const (.int .i64 1024)), (1, .const (.int .i64 1024))]) (ps := [(0, (cI .i64).val 1024), (1, (cI .i64).val 1024)]) (cd := c_weirlaw0_pair) (z0 := z_weirlaw0_pair) (⟨1024, 1024⟩ : weirlaw0_pair) Ty25 rfl (Filled.cons (cd := (cI .i64)) (q := 1024) (o := 0) (by kernel_rfl) (Up_weirlaw0_pair_is z_weirlaw0_pair 1024) (Filled.cons (cd := (cI .i64)) (q := 1024) (o := 1) (by kernel_rfl) (Up_weirlaw0_pair_want (⟨1024, z_weirlaw0_pair.want⟩ : weirlaw0_pair) 1024) Filled.nil)) ?_
  refine OJ.build (d := 25) (T := 25) (parts := [(0, .const (.int .i64 4096)), (1, .const (.int .i64 4096))]) (ps := [(0, (cI .i64).val 4096), (1, (cI .i64).val 4096)]) (cd := c_weirlaw0_pair) (z0 := z_weirlaw0_pair) (⟨4096, 4096⟩ : weirlaw0_pair) Ty25 rfl (Filled.cons (cd := (cI .i64)) (q := 4096) (o := 0) (by kernel_rfl) (Up_weirlaw0_pair_is z_weirlaw0_pair 4096) (Filled.cons (cd := (cI .i64)) (q := 4096) (o := 1) (by kernel_rfl) (Up_weirlaw0_pair_want (⟨4096, z_weirlaw0_pair.want⟩ : weirlaw0_pair) 4096) Filled.nil)) ?_
  refine OJ.build (d := 26) (T := 25) (parts := [(0, .const (.int .i64 8)), (1, .const (.int .i64 8))]) (ps := [(0, (cI .i64).val 8), (1, (cI .i64).val 8)]) (cd := c_weirlaw0_pair) (z0 := z_weirlaw0_pair) (⟨8, 8⟩ : weirlaw0_pair) Ty25 rfl (Filled.cons (cd := (cI .i64)) (q := 8) (o := 0) (by kernel_rfl) (Up_weirlaw0_pair_is z_weirlaw0_pair 8) (Filled.cons (cd := (cI .i64)) (q := 8) (o := 1) (by kernel_rfl) (Up_weirlaw0_pair_want (⟨8, z_weirlaw0_pair.want⟩ : weirlaw0_pair) 8) Filled.nil)) ?_
  refine OJ.build (d := 27) (T := 25) (parts := [(0, .const (.int .i64 64)), (1, .const (.int .i64 64))]) (ps := [(0, (cI .i64).val 64), (1, (cI .i64).val 64)]) (cd := c_weirlaw0_pair) (z0 := z_weirlaw0_pair) (⟨64, 64⟩ : weirlaw0_pair) Ty25 rfl (Filled.cons (cd := (cI .i64)) (q := 64) (o := 0) (by kernel_rfl) (Up_weirlaw0_pair_is z_weirlaw0_pair 64) (Filled.cons (cd := (cI .i64)) (q := 64) (o := 1) (by kernel_rfl) (Up_weirlaw0_pair_want (⟨64, z_weirlaw0_pair.want⟩ : weirlaw0_pair) 64) Filled.nil)) ?_
  refine OJ.build (d := 28) (T := 25) (parts := [(0, .const (.int .i64 4096)), (1, .const (.int .i64 4096))]) (ps := [(0, (cI .i64).val 4096), (1, (cI .i64).val 4096)]) (cd := c_weirlaw0_pair) (z0 := z_weirlaw0_pair) (⟨4096, 4096⟩ : weirlaw0_pair) Ty25 rfl (Filled.cons (cd := (cI .i64)) (q := 4096) (o := 0) (by kernel_rfl) (Up_weirlaw0_pair_is z_weirlaw0_pair 4096) (Filled.cons (cd := (cI .i64)) (q := 4096) (o := 1) (by kernel_rfl) (Up_weirlaw0_pair_want (⟨4096, z_weirlaw0_pair.want⟩ : weirlaw0_pair) 4096) Filled.nil)) ?_
  refine OJ.build (d := 29) (T := 25) (parts := [(0, .const (.int .i64 1048576)), (1, .const (.int .i64 1048576))]) (ps := [(0, (cI .i64).val 1048576), (1, (cI .i64).val 1048576)]) (cd := c_weirlaw0_pair) (z0 := z_weirlaw0_pair) (⟨1048576, 1048576⟩ : weirlaw0_pair) Ty25 rfl (Filled.cons (cd := (cI .i64)) (q := 1048576) (o := 0) (by kernel_rfl) (Up_weirlaw0_pair_is z_weirlaw0_pair 1048576) (Filled.cons (cd := (cI .i64)) (q := 1048576) (o := 1) (by kernel_rfl) (Up_weirlaw0_pair_want (⟨1048576, z_weirlaw0_pair.want⟩ : weirlaw0_pair) 1048576) Filled.nil)) ?_
  refine OJ.build (d := 30) (T := 25) (parts := [(0, .const (.int .i64 512)), (1, .const (.int .i64 512))]) (ps := [(0, (cI .i64).val 512), (1, (cI .i64).val 512)]) (cd := c_weirlaw0_pair) (z0 := z_weirlaw0_pair) (⟨512, 512⟩ : weirlaw0_pair) Ty25 rfl (Filled.cons (cd := (cI .i64)) (q := 512) (o := 0) (by kernel_rfl) (Up_weirlaw0_pair_is z_weirlaw0_pair 512) (Filled.cons (cd := (cI .i64)) (q := 512) (o := 1) (by kernel_rfl) (Up_weirlaw0_pair_want (⟨512, z_weirlaw0_pair.want⟩ : weirlaw0_pair) 512) Filled.nil)) ?_
  refine OJ.build (d := 31) (T := 25) (parts := [(0, .const (.int .i64 0)), (1, .const (.int .i64 0))]) (ps := [(0, (cI .i64).val 0), (1, (cI .i64).val 0)]) (cd := c_weirlaw0_pair) (z0 := z_weirlaw0_pair) (⟨0, 0⟩ : weirlaw0_pair) Ty25 rfl (Filled.cons (cd := (cI .i64)) (q := 0) (o := 0) (by kernel_rfl) (Up_weirlaw0_pair_is z_weirlaw0_pair 0) (Filled.cons (cd := (cI .i64)) (q := 0) (o := 1) (by kernel_rfl) (Up_weirlaw0_pair_want (⟨0, z_weirlaw0_pair.want⟩ : weirlaw0_pair) 0) Filled.nil)) ?_
  refine OJ.build (d := 32) (T := 25) (parts := [(0, .const (.int .i64 1)), (1, .const (.int .i64 1))]) (ps := [(0, (cI .i64).val 1), (1, (cI .i64).val 1)]) (cd := c_weirlaw0_pair) (z0 := z_weirlaw0_pair) (⟨1, 1⟩ : weirlaw0_pair) Ty25 rfl (Filled.cons (cd := (cI .i64)) (q := 1) (o := 0) (by kernel_rfl) (Up_weirlaw0_pair_is z_weirlaw0_pair 1) (Filled.cons (cd := (cI .i64)) (q := 1) (o := 1) (by kernel_rfl) (Up_weirlaw0_pair_want (⟨1, z_weirlaw0_pair.want⟩ : weirlaw0_pair) 1) Filled.nil)) ?_
  refine OJ.build (d := 33) (T := 25) (parts := [(0, .const (.int .i64 2)), (1, .const (.int .i64 2))]) (ps := [(0, (cI .i64).val 2), (1, (cI .i64).val 2)]) (cd := c_weirlaw0_pair) (z0 := z_weirlaw0_pair) (⟨2, 2⟩ : weirlaw0_pair) Ty25 rfl (Filled.cons (cd := (cI .i64)) (q := 2) (o := 0) (by kernel_rfl) (Up_weirlaw0_pair_is z_weirlaw0_pair 2) (Filled.cons (cd := (cI .i64)) (q := 2) (o := 1) (by kernel_rfl) (Up_weirlaw0_pair_want (⟨2, z_weirlaw0_pair.want⟩ : weirlaw0_pair) 2) Filled.nil)) ?_
  refine OJ.build (d := 34) (T := 25) (parts := [(0, .const (.int .i64 3)), (1, .const (.int .i64 3))]) (ps := [(0, (cI .i64).val 3), (1, (cI .i64).val 3)]) (cd := c_weirlaw0_pair) (z0 := z_weirlaw0_pair) (⟨3, 3⟩ : weirlaw0_pair) Ty25 rfl (Filled.cons (cd := (cI .i64)) (q := 3) (o := 0) (by kernel_rfl) (Up_weirlaw0_pair_is z_weirlaw0_pair 3) (Filled.cons (cd := (cI .i64)) (q := 3) (o := 1) (by kernel_rfl) (Up_weirlaw0_pair_want (⟨3, z_weirlaw0_pair.want⟩ : weirlaw0_pair) 3) Filled.nil)) ?_
  refine OJ.build (d := 35) (T := 25) (parts := [(0, .const (.int .i64 4)), (1, .const (.int .i64 4))]) (ps := [(0, (cI .i64).val 4), (1, (cI .i64).val 4)]) (cd := c_weirlaw0_pair) (z0 := z_weirlaw0_pair) (⟨4, 4⟩ : weirlaw0_pair) Ty25 rfl (Filled.cons (cd := (cI .i64)) (q := 4) (o := 0) (by kernel_rfl) (Up_weirlaw0_pair_is z_weirlaw0_pair 4) (Filled.cons (cd := (cI .i64)) (q := 4) (o := 1) (by kernel_rfl) (Up_weirlaw0_pair_want (⟨4, z_weirlaw0_pair.want⟩ : weirlaw0_pair) 4) Filled.nil)) ?_
  refine OJ.build (d := 36) (T := 25) (parts := [(0, .const (.int .i64 5)), (1, .const (.int .i64 5))]) (ps := [(0, (cI .i64).val 5), (1, (cI .i64).val 5)]) (cd := c_weirlaw0_pair) (z0 := z_weirlaw0_pair) (⟨5, 5⟩ : weirlaw0_pair) Ty25 rfl (Filled.cons (cd := (cI .i64)) (q := 5) (o := 0) (by kernel_rfl) (Up_weirlaw0_pair_is z_weirlaw0_pair 5) (Filled.cons (cd := (cI .i64)) (q := 5) (o := 1) (by kernel_rfl) (Up_weirlaw0_pair_want (⟨5, z_weirlaw0_pair.want⟩ : weirlaw0_pair) 5) Filled.nil)) ?_
  refine OJ.build (d := 37) (T := 25) (parts := [(0, .const (.int .i64 6)), (1, .const (.int .i64 6))]) (ps := [(0, (cI .i64).val 6), (1, (cI .i64).val 6)]) (cd := c_weirlaw0_pair) (z0 := z_weirlaw0_pair) (⟨6, 6⟩ : weirlaw0_pair) Ty25 rfl (Filled.cons (cd := (cI .i64)) (q := 6) (o := 0) (by kernel_rfl) (Up_weirlaw0_pair_is z_weirlaw0_pair 6) (Filled.cons (cd := (cI .i64)) (q := 6) (o := 1) (by kernel_rfl) (Up_weirlaw0_pair_want (⟨6, z_weirlaw0_pair.want⟩ : weirlaw0_pair) 6) Filled.nil)) ?_
  refine OJ.build (d := 38) (T := 25) (parts := [(0, .const (.int .i64 7)), (1, .const (.int .i64 7))]) (ps := [(0, (cI .i64).val 7), (1, (cI .i64).val 7)]) (cd := c_weirlaw0_pair) (z0 := z_weirlaw0_pair) (⟨7, 7⟩ : weirlaw0_pair) Ty25 rfl (Filled.cons (cd := (cI .i64)) (q := 7) (o := 0) (by kernel_rfl) (Up_weirlaw0_pair_is z_weirlaw0_pair 7) (Filled.cons (cd := (cI .i64)) (q := 7) (o := 1) (by kernel_rfl) (Up_weirlaw0_pair_want (⟨7, z_weirlaw0_pair.want⟩ : weirlaw0_pair) 7) Filled.nil)) ?_
  refine OJ.build (d := 39) (T := 25) (parts := [(0, .const (.int .i64 1)), (1, .const (.int .i64 1))]) (ps := [(0, (cI .i64).val 1), (1, (cI .i64).val 1)]) (cd := c_weirlaw0_pair) (z0 := z_weirlaw0_pair) (⟨1, 1⟩ : weirlaw0_pair) Ty25 rfl (Filled.cons (cd := (cI .i64)) (q := 1) (o := 0) (by kernel_rfl) (Up_weirlaw0_pair_is z_weirlaw0_pair 1) (Filled.cons (cd := (cI .i64)) (q := 1) (o := 1) (by kernel_rfl) (Up_weirlaw0_pair_want (⟨1, z_weirlaw0_pair.want⟩ : weirlaw0_pair) 1) Filled.nil)) ?_
  refine OJ.build (d := 40) (T := 25) (parts := [(0, .const (.int .i64 2)), (1, .const (.int .i64 2))]) (ps := [(0, (cI .i64).val 2), (1, (cI .i64).val 2)]) (cd := c_weirlaw0_pair) (z0 := z_weirlaw0_pair) (⟨2, 2⟩ : weirlaw0_pair) Ty25 rfl (Filled.cons (cd := (cI .i64)) (q := 2) (o := 0) (by kernel_rfl) (Up_weirlaw0_pair_is z_weirlaw0_pair 2) (Filled.cons (cd := (cI .i64)) (q := 2) (o := 1) (by kernel_rfl) (Up_weirlaw0_pair_want (⟨2, z_weirlaw0_pair.want⟩ : weirlaw0_pair) 2) Filled.nil)) ?_
  refine OJ.build (d := 41) (T := 25) (parts := [(0, .const (.int .i64 3)), (1, .const (.int .i64 3))]) (ps := [(0, (cI .i64).val 3), (1, (cI .i64).val 3)]) (cd := c_weirlaw0_pair) (z0 := z_weirlaw0_pair) (⟨3, 3⟩ : weirlaw0_pair) Ty25 rfl (Filled.cons (cd := (cI .i64)) (q := 3) (o := 0) (by kernel_rfl) (Up_weirlaw0_pair_is z_weirlaw0_pair 3) (Filled.cons (cd := (cI .i64)) (q := 3) (o := 1) (by kernel_rfl) (Up_weirlaw0_pair_want (⟨3, z_weirlaw0_pair.want⟩ : weirlaw0_pair) 3) Filled.nil)) ?_
  refine OJ.build (d := 42) (T := 25) (parts := [(0, .const (.int .i64 4)), (1, .const (.int .i64 4))]) (ps := [(0, (cI .i64).val 4), (1, (cI .i64).val 4)]) (cd := c_weirlaw0_pair) (z0 := z_weirlaw0_pair) (⟨4, 4⟩ : weirlaw0_pair) Ty25 rfl (Filled.cons (cd := (cI .i64)) (q := 4) (o := 0) (by kernel_rfl) (Up_weirlaw0_pair_is z_weirlaw0_pair 4) (Filled.cons (cd := (cI .i64)) (q := 4) (o := 1) (by kernel_rfl) (Up_weirlaw0_pair_want (⟨4, z_weirlaw0_pair.want⟩ : weirlaw0_pair) 4) Filled.nil)) ?_
  refine OJ.build (d := 43) (T := 25) (parts := [(0, .const (.int .i64 5)), (1, .const (.int .i64 5))]) (ps := [(0, (cI .i64).val 5), (1, (cI .i64).val 5)]) (cd := c_weirlaw0_pair) (z0 := z_weirlaw0_pair) (⟨5, 5⟩ : weirlaw0_pair) Ty25 rfl (Filled.cons (cd := (cI .i64)) (q := 5) (o := 0) (by kernel_rfl) (Up_weirlaw0_pair_is z_weirlaw0_pair 5) (Filled.cons (cd := (cI .i64)) (q := 5) (o := 1) (by kernel_rfl) (Up_weirlaw0_pair_want (⟨5, z_weirlaw0_pair.want⟩ : weirlaw0_pair) 5) Filled.nil)) ?_
  refine OJ.build (d := 44) (T := 25) (parts := [(0, .const (.int .i64 6)), (1, .const (.int .i64 6))]) (ps := [(0, (cI .i64).val 6), (1, (cI .i64).val 6)]) (cd := c_weirlaw0_pair) (z0 := z_weirlaw0_pair) (⟨6, 6⟩ : weirlaw0_pair) Ty25 rfl (Filled.cons (cd := (cI .i64)) (q := 6) (o := 0) (by kernel_rfl) (Up_weirlaw0_pair_is z_weirlaw0_pair 6) (Filled.cons (cd := (cI .i64)) (q := 6) (o := 1) (by kernel_rfl) (Up_weirlaw0_pair_want (⟨6, z_weirlaw0_pair.want⟩ : weirlaw0_pair) 6) Filled.nil)) ?_
  refine OJ.build (d := 45) (T := 25) (parts := [(0, .const (.int .i64 7)), (1, .const (.int .i64 7))]) (ps := [(0, (cI .i64).val 7), (1, (cI .i64).val 7)]) (cd := c_weirlaw0_pair) (z0 := z_weirlaw0_pair) (⟨7, 7⟩ : weirlaw0_pair) Ty25 rfl (Filled.cons (cd := (cI .i64)) (q := 7) (o := 0) (by kernel_rfl) (Up_weirlaw0_pair_is z_weirlaw0_pair 7) (Filled.cons (cd := (cI .i64)) (q := 7) (o := 1) (by kernel_rfl) (Up_weirlaw0_pair_want (⟨7, z_weirlaw0_pair.want⟩ : weirlaw0_pair) 7) Filled.nil)) ?_
  refine OJ.build (d := 46) (T := 25) (parts := [(0, .const (.int .i64 1)), (1, .const (.int .i64 1))]) (ps := [(0, (cI .i64).val 1), (1, (cI .i64).val 1)]) (cd := c_weirlaw0_pair) (z0 := z_weirlaw0_pair) (⟨1, 1⟩ : weirlaw0_pair) Ty25 rfl (Filled.cons (cd := (cI .i64)) (q := 1) (o := 0) (by kernel_rfl) (Up_weirlaw0_pair_is z_weirlaw0_pair 1) (Filled.cons (cd := (cI .i64)) (q := 1) (o := 1) (by kernel_rfl) (Up_weirlaw0_pair_want (⟨1, z_weirlaw0_pair.want⟩ : weirlaw0_pair) 1) Filled.nil)) ?_
  refine OJ.build (d := 47) (T := 25) (parts := [(0, .const (.int .i64 2)), (1, .const (.int .i64 2))]) (ps := [(0, (cI .i64).val 2), (1, (cI .i64).val 2)]) (cd := c_weirlaw0_pair) (z0 := z_weirlaw0_pair) (⟨2, 2⟩ : weirlaw0_pair) Ty25 rfl (Filled.cons (cd := (cI .i64)) (q := 2) (o := 0) (by kernel_rfl) (Up_weirlaw0_pair_is z_weirlaw0_pair 2) (Filled.cons (cd := (cI .i64)) (q := 2) (o := 1) (by kernel_rfl) (Up_weirlaw0_pair_want (⟨2, z_weirlaw0_pair.want⟩ : weirlaw0_pair) 2) Filled.nil)) ?_
  refine OJ.build (d := 48) (T := 25) (parts := [(0, .const (.int .i64 1)), (1, .const (.int .i64 1))]) (ps := [(0, (cI .i64).val 1), (1, (cI .i64).val 1)]) (cd := c_weirlaw0_pair) (z0 := z_weirlaw0_pair) (⟨1, 1⟩ : weirlaw0_pair) Ty25 rfl (Filled.cons (cd := (cI .i64)) (q := 1) (o := 0) (by kernel_rfl) (Up_weirlaw0_pair_is z_weirlaw0_pair 1) (Filled.cons (cd := (cI .i64)) (q := 1) (o := 1) (by kernel_rfl) (Up_weirlaw0_pair_want (⟨1, z_weirlaw0_pair.want⟩ : weirlaw0_pair) 1) Filled.nil)) ?_
  refine OJ.build (d := 49) (T := 25) (parts := [(0, .const (.int .i64 2)), (1, .const (.int .i64 2))]) (ps := [(0, (cI .i64).val 2), (1, (cI .i64).val 2)]) (cd := c_weirlaw0_pair) (z0 := z_weirlaw0_pair) (⟨2, 2⟩ : weirlaw0_pair) Ty25 rfl (Filled.cons (cd := (cI .i64)) (q := 2) (o := 0) (by kernel_rfl) (Up_weirlaw0_pair_is z_weirlaw0_pair 2) (Filled.cons (cd := (cI .i64)) (q := 2) (o := 1) (by kernel_rfl) (Up_weirlaw0_pair_want (⟨2, z_weirlaw0_pair.want⟩ : weirlaw0_pair) 2) Filled.nil)) ?_
  refine OJ.build (d := 50) (T := 25) (parts := [(0, .const (.int .i64 4)), (1, .const (.int .i64 4))]) (ps := [(0, (cI .i64).val 4), (1, (cI .i64).val 4)]) (cd := c_weirlaw0_pair) (z0 := z_weirlaw0_pair) (⟨4, 4⟩ : weirlaw0_pair) Ty25 rfl (Filled.cons (cd := (cI .i64)) (q := 4) (o := 0) (by kernel_rfl) (Up_weirlaw0_pair_is z_weirlaw0_pair 4) (Filled.cons (cd := (cI .i64)) (q := 4) (o := 1) (by kernel_rfl) (Up_weirlaw0_pair_want (⟨4, z_weirlaw0_pair.want⟩ : weirlaw0_pair) 4) Filled.nil)) ?_
  refine OJ.build (d := 51) (T := 25) (parts := [(0, .const (.int .i64 8)), (1, .const (.int .i64 8))]) (ps := [(0, (cI .i64).val 8), (1, (cI .i64).val 8)]) (cd := c_weirlaw0_pair) (z0 := z_weirlaw0_pair) (⟨8, 8⟩ : weirlaw0_pair) Ty25 rfl (Filled.cons (cd := (cI .i64)) (q := 8) (o := 0) (by kernel_rfl) (Up_weirlaw0_pair_is z_weirlaw0_pair 8) (Filled.cons (cd := (cI .i64)) (q := 8) (o := 1) (by kernel_rfl) (Up_weirlaw0_pair_want (⟨8, z_weirlaw0_pair.want⟩ : weirlaw0_pair) 8) Filled.nil)) ?_
  refine OJ.build (d := 52) (T := 25) (parts := [(0, .const (.int .i64 16)), (1, .const (.int .i64 16))]) (ps := [(0, (cI .i64).val 16), (1, (cI .i64).val 16)]) (cd := c_weirlaw0_pair) (z0 := z_weirlaw0_pair) (⟨16, 16⟩ : weirlaw0_pair) Ty25 rfl (Filled.cons (cd := (cI .i64)) (q := 16) (o := 0) (by kernel_rfl) (Up_weirlaw0_pair_is z_weirlaw0_pair 16) (Filled.cons (cd := (cI .i64)) (q := 16) (o := 1) (by kernel_rfl) (Up_weirlaw0_pair_want (⟨16, z_weirlaw0_pair.want⟩ : weirlaw0_pair) 16) Filled.nil)) ?_
  refine OJ.build (d := 53) (T := 25) (parts := [(0, .const (.int .i64 32)), (1, .const (.int .i64 32))]) (ps := [(0, (cI .i64).val 32), (1, (cI .i64).val 32)]) (cd := c_weirlaw0_pair) (z0 := z_weirlaw0_pair) (⟨32, 32⟩ : weirlaw0_pair) Ty25 rfl (Filled.cons (cd := (cI .i64)) (q := 32) (o := 0) (by kernel_rfl) (Up_weirlaw0_pair_is z_weirlaw0_pair 32) (Filled.cons (cd := (cI .i64)) (q := 32) (o := 1) (by kernel_rfl) (Up_weirlaw0_pair_want (⟨32, z_weirlaw0_pair.want⟩ : weirlaw0_pair) 32) Filled.nil)) ?_
  refine OJ.build (d := 54) (T := 25) (parts := [(0, .const (.int .i64 1)), (1, .const (.int .i64 1))]) (ps := [(0, (cI .i64).val 1), (1, (cI .i64).val 1)]) (cd := c_weirlaw0_pair) (z0 := z_weirlaw0_pair) (⟨1, 1⟩ : weirlaw0_pair) Ty25 rfl (Filled.cons (cd := (cI .i64)) (q := 1) (o := 0) (by kernel_rfl) (Up_weirlaw0_pair_is z_weirlaw0_pair 1) (Filled.cons (cd := (cI .i64)) (q := 1) (o := 1) (by kernel_rfl) (Up_weirlaw0_pair_want (⟨1, z_weirlaw0_pair.want⟩ : weirlaw0_pair) 1) Filled.nil)) ?_
  refine OJ.build (d := 55) (T := 25) (parts := [(0, .const (.int .i64 2)), (1, .const (.int .i64 2))]) (ps := [(0, (cI .i64).val 2), (1, (cI .i64).val 2)]) (cd := c_weirlaw0_pair) (z0 := z_weirlaw0_pair) (⟨2, 2⟩ : weirlaw0_pair) Ty25 rfl (Filled.cons (cd := (cI .i64)) (q := 2) (o := 0) (by kernel_rfl) (Up_weirlaw0_pair_is z_weirlaw0_pair 2) (Filled.cons (cd := (cI .i64)) (q := 2) (o := 1) (by kernel_rfl) (Up_weirlaw0_pair_want (⟨2, z_weirlaw0_pair.want⟩ : weirlaw0_pair) 2) Filled.nil)) ?_
  refine OJ.build (d := 56) (T := 25) (parts := [(0, .const (.int .i64 3)), (1, .const (.int .i64 3))]) (ps := [(0, (cI .i64).val 3), (1, (cI .i64).val 3)]) (cd := c_weirlaw0_pair) (z0 := z_weirlaw0_pair) (⟨3, 3⟩ : weirlaw0_pair) Ty25 rfl (Filled.cons (cd := (cI .i64)) (q := 3) (o := 0) (by kernel_rfl) (Up_weirlaw0_pair_is z_weirlaw0_pair 3) (Filled.cons (cd := (cI .i64)) (q := 3) (o := 1) (by kernel_rfl) (Up_weirlaw0_pair_want (⟨3, z_weirlaw0_pair.want⟩ : weirlaw0_pair) 3) Filled.nil)) ?_
  refine OJ.build (d := 57) (T := 25) (parts := [(0, .const (.int .i64 0)), (1, .const (.int .i64 0))]) (ps := [(0, (cI .i64).val 0), (1, (cI .i64).val 0)]) (cd := c_weirlaw0_pair) (z0 := z_weirlaw0_pair) (⟨0, 0⟩ : weirlaw0_pair) Ty25 rfl (Filled.cons (cd := (cI .i64)) (q := 0) (o := 0) (by kernel_rfl) (Up_weirlaw0_pair_is z_weirlaw0_pair 0) (Filled.cons (cd := (cI .i64)) (q := 0) (o := 1) (by kernel_rfl) (Up_weirlaw0_pair_want (⟨0, z_weirlaw0_pair.want⟩ : weirlaw0_pair) 0) Filled.nil)) ?_
  refine OJ.build (d := 58) (T := 25) (parts := [(0, .const (.int .i64 1)), (1, .const (.int .i64 1))]) (ps := [(0, (cI .i64).val 1), (1, (cI .i64).val 1)]) (cd := c_weirlaw0_pair) (z0 := z_weirlaw0_pair) (⟨1, 1⟩ : weirlaw0_pair) Ty25 rfl (Filled.cons (cd := (cI .i64)) (q := 1) (o := 0) (by kernel_rfl) (Up_weirlaw0_pair_is z_weirlaw0_pair 1) (Filled.cons (cd := (cI .i64)) (q := 1) (o := 1) (by kernel_rfl) (Up_weirlaw0_pair_want (⟨1, z_weirlaw0_pair.want⟩ : weirlaw0_pair) 1) Filled.nil)) ?_
  refine OJ.build (d := 59) (T := 25) (parts := [(0, .const (.int .i64 2)), (1, .const (.int .i64 2))]) (ps := [(0, (cI .i64).val 2), (1, (cI .i64).val 2)]) (cd := c_weirlaw0_pair) (z0 := z_weirlaw0_pair) (⟨2, 2⟩ : weirlaw0_pair) Ty25 rfl (Filled.cons (cd := (cI .i64)) (q := 2) (o := 0) (by kernel_rfl) (Up_weirlaw0_pair_is z_weirlaw0_pair 2) (Filled.cons (cd := (cI .i64)) (q := 2) (o := 1) (by kernel_rfl) (Up_weirlaw0_pair_want (⟨2, z_weirlaw0_pair.want⟩ : weirlaw0_pair) 2) Filled.nil)) ?_
  refine OJ.build (d := 60) (T := 25) (parts := [(0, .const (.int .i64 3)), (1, .const (.int .i64 3))]) (ps := [(0, (cI .i64).val 3), (1, (cI .i64).val 3)]) (cd := c_weirlaw0_pair) (z0 := z_weirlaw0_pair) (⟨3, 3⟩ : weirlaw0_pair) Ty25 rfl (Filled.cons (cd := (cI .i64)) (q := 3) (o := 0) (by kernel_rfl) (Up_weirlaw0_pair_is z_weirlaw0_pair 3) (Filled.cons (cd := (cI .i64)) (q := 3) (o := 1) (by kernel_rfl) (Up_weirlaw0_pair_want (⟨3, z_weirlaw0_pair.want⟩ : weirlaw0_pair) 3) Filled.nil)) ?_
  refine OJ.build (d := 61) (T := 25) (parts := [(0, .const (.int .i64 1)), (1, .const (.int .i64 1))]) (ps := [(0, (cI .i64).val 1), (1, (cI .i64).val 1)]) (cd := c_weirlaw0_pair) (z0 := z_weirlaw0_pair) (⟨1, 1⟩ : weirlaw0_pair) Ty25 rfl (Filled.cons (cd := (cI .i64)) (q := 1) (o := 0) (by kernel_rfl) (Up_weirlaw0_pair_is z_weirlaw0_pair 1) (Filled.cons (cd := (cI .i64)) (q := 1) (o := 1) (by kernel_rfl) (Up_weirlaw0_pair_want (⟨1, z_weirlaw0_pair.want⟩ : weirlaw0_pair) 1) Filled.nil)) ?_
  refine OJ.build (d := 62) (T := 25) (parts := [(0, .const (.int .i64 2)), (1, .const (.int .i64 2))]) (ps := [(0, (cI .i64).val 2), (1, (cI .i64).val 2)]) (cd := c_weirlaw0_pair) (z0 := z_weirlaw0_pair) (⟨2, 2⟩ : weirlaw0_pair) Ty25 rfl (Filled.cons (cd := (cI .i64)) (q := 2) (o := 0) (by kernel_rfl) (Up_weirlaw0_pair_is z_weirlaw0_pair 2) (Filled.cons (cd := (cI .i64)) (q := 2) (o := 1) (by kernel_rfl) (Up_weirlaw0_pair_want (⟨2, z_weirlaw0_pair.want⟩ : weirlaw0_pair) 2) Filled.nil)) ?_
  refine OJ.build (d := 63) (T := 25) (parts := [(0, .const (.int .i64 3)), (1, .const (.int .i64 3))]) (ps := [(0, (cI .i64).val 3), (1, (cI .i64).val 3)]) (cd := c_weirlaw0_pair) (z0 := z_weirlaw0_pair) (⟨3, 3⟩ : weirlaw0_pair) Ty25 rfl (Filled.cons (cd := (cI .i64)) (q := 3) (o := 0) (by kernel_rfl) (Up_weirlaw0_pair_is z_weirlaw0_pair 3) (Filled.cons (cd := (cI .i64)) (q := 3) (o := 1) (by kernel_rfl) (Up_weirlaw0_pair_want (⟨3, z_weirlaw0_pair.want⟩ : weirlaw0_pair) 3) Filled.nil)) ?_
  refine OJ.build (d := 64) (T := 25) (parts := [(0, .const (.int .i64 4)), (1, .const (.int .i64 4))]) (ps := [(0, (cI .i64).val 4), (1, (cI .i64).val 4)]) (cd := c_weirlaw0_pair) (z0 := z_weirlaw0_pair) (⟨4, 4⟩ : weirlaw0_pair) Ty25 rfl (Filled.cons (cd := (cI .i64)) (q := 4) (o := 0) (by kernel_rfl) (Up_weirlaw0_pair_is z_weirlaw0_pair 4) (Filled.cons (cd := (cI .i64)) (q := 4) (o := 1) (by kernel_rfl) (Up_weirlaw0_pair_want (⟨4, z_weirlaw0_pair.want⟩ : weirlaw0_pair) 4) Filled.nil)) ?_
  refine OJ.build (d := 65) (T := 25) (parts := [(0, .const (.int .i64 5)), (1, .const (.int .i64 5))]) (ps := [(0, (cI .i64).val 5), (1, (cI .i64).val 5)]) (cd := c_weirlaw0_pair) (z0 := z_weirlaw0_pair) (⟨5, 5⟩ : weirlaw0_pair) Ty25 rfl (Filled.cons (cd := (cI .i64)) (q := 5) (o := 0) (by kernel_rfl) (Up_weirlaw0_pair_is z_weirlaw0_pair 5) (Filled.cons (cd := (cI .i64)) (q := 5) (o := 1) (by kernel_rfl) (Up_weirlaw0_pair_want (⟨5, z_weirlaw0_pair.want⟩ : weirlaw0_pair) 5) Filled.nil)) ?_
  refine OJ.build (d := 66) (T := 25) (parts := [(0, .const (.int .i64 1)), (1, .const (.int .i64 1))]) (ps := [(0, (cI .i64).val 1), (1, (cI .i64).val 1)]) (cd := c_weirlaw0_pair) (z0 := z_weirlaw0_pair) (⟨1, 1⟩ : weirlaw0_pair) Ty25 rfl (Filled.cons (cd := (cI .i64)) (q := 1) (o := 0) (by kernel_rfl) (Up_weirlaw0_pair_is z_weirlaw0_pair 1) (Filled.cons (cd := (cI .i64)) (q := 1) (o := 1) (by kernel_rfl) (Up_weirlaw0_pair_want (⟨1, z_weirlaw0_pair.want⟩ : weirlaw0_pair) 1) Filled.nil)) ?_
  refine OJ.build (d := 67) (T := 25) (parts := [(0, .const (.int .i64 2)), (1, .const (.int .i64 2))]) (ps := [(0, (cI .i64).val 2), (1, (cI .i64).val 2)]) (cd := c_weirlaw0_pair) (z0 := z_weirlaw0_pair) (⟨2, 2⟩ : weirlaw0_pair) Ty25 rfl (Filled.cons (cd := (cI .i64)) (q := 2) (o := 0) (by kernel_rfl) (Up_weirlaw0_pair_is z_weirlaw0_pair 2) (Filled.cons (cd := (cI .i64)) (q := 2) (o := 1) (by kernel_rfl) (Up_weirlaw0_pair_want (⟨2, z_weirlaw0_pair.want⟩ : weirlaw0_pair) 2) Filled.nil)) ?_
  refine OJ.build (d := 68) (T := 25) (parts := [(0, .const (.int .i64 1)), (1, .const (.int .i64 1))]) (ps := [(0, (cI .i64).val 1), (1, (cI .i64).val 1)]) (cd := c_weirlaw0_pair) (z0 := z_weirlaw0_pair) (⟨1, 1⟩ : weirlaw0_pair) Ty25 rfl (Filled.cons (cd := (cI .i64)) (q := 1) (o := 0) (by kernel_rfl) (Up_weirlaw0_pair_is z_weirlaw0_pair 1) (Filled.cons (cd := (cI .i64)) (q := 1) (o := 1) (by kernel_rfl) (Up_weirlaw0_pair_want (⟨1, z_weirlaw0_pair.want⟩ : weirlaw0_pair) 1) Filled.nil)) ?_
  refine OJ.build (d := 69) (T := 25) (parts := [(0, .const (.int .i64 2)), (1, .const (.int .i64 2))]) (ps := [(0, (cI .i64).val 2), (1, (cI .i64).val 2)]) (cd := c_weirlaw0_pair) (z0 := z_weirlaw0_pair) (⟨2, 2⟩ : weirlaw0_pair) Ty25 rfl (Filled.cons (cd := (cI .i64)) (q := 2) (o := 0) (by kernel_rfl) (Up_weirlaw0_pair_is z_weirlaw0_pair 2) (Filled.cons (cd := (cI .i64)) (q := 2) (o := 1) (by kernel_rfl) (Up_weirlaw0_pair_want (⟨2, z_weirlaw0_pair.want⟩ : weirlaw0_pair) 2) Filled.nil)) ?_
  refine OJ.build (d := 70) (T := 25) (parts := [(0, .const (.int .i64 3)), (1, .const (.int .i64 3))]) (ps := [(0, (cI .i64).val 3), (1, (cI .i64).val 3)]) (cd := c_weirlaw0_pair) (z0 := z_weirlaw0_pair) (⟨3, 3⟩ : weirlaw0_pair) Ty25 rfl (Filled.cons (cd := (cI .i64)) (q := 3) (o := 0) (by kernel_rfl) (Up_weirlaw0_pair_is z_weirlaw0_pair 3) (Filled.cons (cd := (cI .i64)) (q := 3) (o := 1) (by kernel_rfl) (Up_weirlaw0_pair_want (⟨3, z_weirlaw0_pair.want⟩ : weirlaw0_pair) 3) Filled.nil)) ?_
  refine OJ.build (d := 71) (T := 25) (parts := [(0, .const (.int .i64 4)), (1, .const (.int .i64 4))]) (ps := [(0, (cI .i64).val 4), (1, (cI .i64).val 4)]) (cd := c_weirlaw0_pair) (z0 := z_weirlaw0_pair) (⟨4, 4⟩ : weirlaw0_pair) Ty25 rfl (Filled.cons (cd := (cI .i64)) (q := 4) (o := 0) (by kernel_rfl) (Up_weirlaw0_pair_is z_weirlaw0_pair 4) (Filled.cons (cd := (cI .i64)) (q := 4) (o := 1) (by kernel_rfl) (Up_weirlaw0_pair_want (⟨4, z_weirlaw0_pair.want⟩ : weirlaw0_pair) 4) Filled.nil)) ?_
  refine OJ.build (d := 72) (T := 25) (parts := [(0, .const (.int .i64 5)), (1, .const (.int .i64 5))]) (ps := [(0, (cI .i64).val 5), (1, (cI .i64).val 5)]) (cd := c_weirlaw0_pair) (z0 := z_weirlaw0_pair) (⟨5, 5⟩ : weirlaw0_pair) Ty25 rfl (Filled.cons (cd := (cI .i64)) (q := 5) (o := 0) (by kernel_rfl) (Up_weirlaw0_pair_is z_weirlaw0_pair 5) (Filled.cons (cd := (cI .i64)) (q := 5) (o := 1) (by kernel_rfl) (Up_weirlaw0_pair_want (⟨5, z_weirlaw0_pair.want⟩ : weirlaw0_pair) 5) Filled.nil)) ?_
  refine OJ.build (d := 73) (T := 25) (parts := [(0, .const (.int .i64 1)), (1, .const (.int .i64 1))]) (ps := [(0, (cI .i64).val 1), (1, (cI .i64).val 1)]) (cd := c_weirlaw0_pair) (z0 := z_weirlaw0_pair) (⟨1, 1⟩ : weirlaw0_pair) Ty25 rfl (Filled.cons (cd := (cI .i64)) (q := 1) (o := 0) (by kernel_rfl) (Up_weirlaw0_pair_is z_weirlaw0_pair 1) (Filled.cons (cd := (cI .i64)) (q := 1) (o := 1) (by kernel_rfl) (Up_weirlaw0_pair_want (⟨1, z_weirlaw0_pair.want⟩ : weirlaw0_pair) 1) Filled.nil)) ?_
  refine OJ.build (d := 74) (T := 25) (parts := [(0, .const (.int .i64 2)), (1, .const (.int .i64 2))]) (ps := [(0, (cI .i64).val 2), (1, (cI .i64).val 2)]) (cd := c_weirlaw0_pair) (z0 := z_weirlaw0_pair) (⟨2, 2⟩ : weirlaw0_pair) Ty25 rfl (Filled.cons (cd := (cI .i64)) (q := 2) (o := 0) (by kernel_rfl) (Up_weirlaw0_pair_is z_weirlaw0_pair 2) (Filled.cons (cd := (cI .i64)) (q := 2) (o := 1) (by kernel_rfl) (Up_weirlaw0_pair_want (⟨2, z_weirlaw0_pair.want⟩ : weirlaw0_pair) 2) Filled.nil)) ?_
  refine OJ.build (d := 75) (T := 25) (parts := [(0, .const (.int .i64 3)), (1, .const (.int .i64 3))]) (ps := [(0, (cI .i64).val 3), (1, (cI .i64).val 3)]) (cd := c_weirlaw0_pair) (z0 := z_weirlaw0_pair) (⟨3, 3⟩ : weirlaw0_pair) Ty25 rfl (Filled.cons (cd := (cI .i64)) (q := 3) (o := 0) (by kernel_rfl) (Up_weirlaw0_pair_is z_weirlaw0_pair 3) (Filled.cons (cd := (cI .i64)) (q := 3) (o := 1) (by kernel_rfl) (Up_weirlaw0_pair_want (⟨3, z_weirlaw0_pair.want⟩ : weirlaw0_pair) 3) Filled.nil)) ?_
  refine OJ.build (d := 76) (T := 25) (parts := [(0, .const (.int .i64 4)), (1, .const (.int .i64 4))]) (ps := [(0, (cI .i64).val 4), (1, (cI .i64).val 4)]) (cd := c_weirlaw0_pair) (z0 := z_weirlaw0_pair) (⟨4, 4⟩ : weirlaw0_pair) Ty25 rfl (Filled.cons (cd := (cI .i64)) (q := 4) (o := 0) (by kernel_rfl) (Up_weirlaw0_pair_is z_weirlaw0_pair 4) (Filled.cons (cd := (cI .i64)) (q := 4) (o := 1) (by kernel_rfl) (Up_weirlaw0_pair_want (⟨4, z_weirlaw0_pair.want⟩ : weirlaw0_pair) 4) Filled.nil)) ?_
  refine OJ.build (d := 77) (T := 25) (parts := [(0, .const (.int .i64 1)), (1, .const (.int .i64 1))]) (ps := [(0, (cI .i64).val 1), (1, (cI .i64).val 1)]) (cd := c_weirlaw0_pair) (z0 := z_weirlaw0_pair) (⟨1, 1⟩ : weirlaw0_pair) Ty25 rfl (Filled.cons (cd := (cI .i64)) (q := 1) (o := 0) (by kernel_rfl) (Up_weirlaw0_pair_is z_weirlaw0_pair 1) (Filled.cons (cd := (cI .i64)) (q := 1) (o := 1) (by kernel_rfl) (Up_weirlaw0_pair_want (⟨1, z_weirlaw0_pair.want⟩ : weirlaw0_pair) 1) Filled.nil)) ?_
  refine OJ.build (d := 78) (T := 25) (parts := [(0, .const (.int .i64 2)), (1, .const (.int .i64 2))]) (ps := [(0, (cI .i64).val 2), (1, (cI .i64).val 2)]) (cd := c_weirlaw0_pair) (z0 := z_weirlaw0_pair) (⟨2, 2⟩ : weirlaw0_pair) Ty25 rfl (Filled.cons (cd := (cI .i64)) (q := 2) (o := 0) (by kernel_rfl) (Up_weirlaw0_pair_is z_weirlaw0_pair 2) (Filled.cons (cd := (cI .i64)) (q := 2) (o := 1) (by kernel_rfl) (Up_weirlaw0_pair_want (⟨2, z_weirlaw0_pair.want⟩ : weirlaw0_pair) 2) Filled.nil)) ?_
  refine OJ.build (d := 79) (T := 25) (parts := [(0, .const (.int .i64 3)), (1, .const (.int .i64 3))]) (ps := [(0, (cI .i64).val 3), (1, (cI .i64).val 3)]) (cd := c_weirlaw0_pair) (z0 := z_weirlaw0_pair) (⟨3, 3⟩ : weirlaw0_pair) Ty25 rfl (Filled.cons (cd := (cI .i64)) (q := 3) (o := 0) (by kernel_rfl) (Up_weirlaw0_pair_is z_weirlaw0_pair 3) (Filled.cons (cd := (cI .i64)) (q := 3) (o := 1) (by kernel_rfl) (Up_weirlaw0_pair_want (⟨3, z_weirlaw0_pair.want⟩ : weirlaw0_pair) 3) Filled.nil)) ?_
  refine OJ.build (d := 80) (T := 25) (parts := [(0, .const (.int .i64 1)), (1, .const (.int .i64 1))]) (ps := [(0, (cI .i64).val 1), (1, (cI .i64).val 1)]) (cd := c_weirlaw0_pair) (z0 := z_weirlaw0_pair) (⟨1, 1⟩ : weirlaw0_pair) Ty25 rfl (Filled.cons (cd := (cI .i64)) (q := 1) (o := 0) (by kernel_rfl) (Up_weirlaw0_pair_is z_weirlaw0_pair 1) (Filled.cons (cd := (cI .i64)) (q := 1) (o := 1) (by kernel_rfl) (Up_weirlaw0_pair_want (⟨1, z_weirlaw0_pair.want⟩ : weirlaw0_pair) 1) Filled.nil)) ?_
  refine OJ.build (d := 81) (T := 25) (parts := [(0, .const (.int .i64 2)), (1, .const (.int .i64 2))]) (ps := [(0, (cI .i64).val 2), (1, (cI .i64).val 2)]) (cd := c_weirlaw0_pair) (z0 := z_weirlaw0_pair) (⟨2, 2⟩ : weirlaw0_pair) Ty25 rfl (Filled.cons (cd := (cI .i64)) (q := 2) (o := 0) (by kernel_rfl) (Up_weirlaw0_pair_is z_weirlaw0_pair 2) (Filled.cons (cd := (cI .i64)) (q := 2) (o := 1) (by kernel_rfl) (Up_weirlaw0_pair_want (⟨2, z_weirlaw0_pair.want⟩ : weirlaw0_pair) 2) Filled.nil)) ?_
  refine OJ.build (d := 82) (T := 25) (parts := [(0, .const (.int .i64 3)), (1, .const (.int .i64 3))]) (ps := [(0, (cI .i64).val 3), (1, (cI .i64).val 3)]) (cd := c_weirlaw0_pair) (z0 := z_weirlaw0_pair) (⟨3, 3⟩ : weirlaw0_pair) Ty25 rfl (Filled.cons (cd := (cI .i64)) (q := 3) (o := 0) (by kernel_rfl) (Up_weirlaw0_pair_is z_weirlaw0_pair 3) (Filled.cons (cd := (cI .i64)) (q := 3) (o := 1) (by kernel_rfl) (Up_weirlaw0_pair_want (⟨3, z_weirlaw0_pair.want⟩ : weirlaw0_pair) 3) Filled.nil)) ?_
  refine OJ.build (d := 83) (T := 25) (parts := [(0, .const (.int .i64 1)), (1, .const (.int .i64 1))]) (ps := [(0, (cI .i64).val 1), (1, (cI .i64).val 1)]) (cd := c_weirlaw0_pair) (z0 := z_weirlaw0_pair) (⟨1, 1⟩ : weirlaw0_pair) Ty25 rfl (Filled.cons (cd := (cI .i64)) (q := 1) (o := 0) (by kernel_rfl) (Up_weirlaw0_pair_is z_weirlaw0_pair 1) (Filled.cons (cd := (cI .i64)) (q := 1) (o := 1) (by kernel_rfl) (Up_weirlaw0_pair_want (⟨1, z_weirlaw0_pair.want⟩ : weirlaw0_pair) 1) Filled.nil)) ?_
  refine OJ.build (d := 84) (T := 25) (parts := [(0, .const (.int .i64 2)), (1, .const (.int .i64 2))]) (ps := [(0, (cI .i64).val 2), (1, (cI .i64).val 2)]) (cd := c_weirlaw0_pair) (z0 := z_weirlaw0_pair) (⟨2, 2⟩ : weirlaw0_pair) Ty25 rfl (Filled.cons (cd := (cI .i64)) (q := 2) (o := 0) (by kernel_rfl) (Up_weirlaw0_pair_is z_weirlaw0_pair 2) (Filled.cons (cd := (cI .i64)) (q := 2) (o := 1) (by kernel_rfl) (Up_weirlaw0_pair_want (⟨2, z_weirlaw0_pair.want⟩ : weirlaw0_pair) 2) Filled.nil)) ?_
  refine OJ.build (d := 85) (T := 25) (parts := [(0, .const (.int .i64 3)), (1, .const (.int .i64 3))]) (ps := [(0, (cI .i64).val 3), (1, (cI .i64).val 3)]) (cd := c_weirlaw0_pair) (z0 := z_weirlaw0_pair) (⟨3, 3⟩ : weirlaw0_pair) Ty25 rfl (Filled.cons (cd := (cI .i64)) (q := 3) (o := 0) (by kernel_rfl) (Up_weirlaw0_pair_is z_weirlaw0_pair 3) (Filled.cons (cd := (cI .i64)) (q := 3) (o := 1) (by kernel_rfl) (Up_weirlaw0_pair_want (⟨3, z_weirlaw0_pair.want⟩ : weirlaw0_pair) 3) Filled.nil)) ?_
  refine OJ.build (d := 86) (T := 25) (parts := [(0, .const (.int .i64 4)), (1, .const (.int .i64 4))]) (ps := [(0, (cI .i64).val 4), (1, (cI .i64).val 4)]) (cd := c_weirlaw0_pair) (z0 := z_weirlaw0_pair) (⟨4, 4⟩ : weirlaw0_pair) Ty25 rfl (Filled.cons (cd := (cI .i64)) (q := 4) (o := 0) (by kernel_rfl) (Up_weirlaw0_pair_is z_weirlaw0_pair 4) (Filled.cons (cd := (cI .i64)) (q := 4) (o := 1) (by kernel_rfl) (Up_weirlaw0_pair_want (⟨4, z_weirlaw0_pair.want⟩ : weirlaw0_pair) 4) Filled.nil)) ?_
  refine OJ.build (d := 87) (T := 25) (parts := [(0, .const (.int .i64 5)), (1, .const (.int .i64 5))]) (ps := [(0, (cI .i64).val 5), (1, (cI .i64).val 5)]) (cd := c_weirlaw0_pair) (z0 := z_weirlaw0_pair) (⟨5, 5⟩ : weirlaw0_pair) Ty25 rfl (Filled.cons (cd := (cI .i64)) (q := 5) (o := 0) (by kernel_rfl) (Up_weirlaw0_pair_is z_weirlaw0_pair 5) (Filled.cons (cd := (cI .i64)) (q := 5) (o := 1) (by kernel_rfl) (Up_weirlaw0_pair_want (⟨5, z_weirlaw0_pair.want⟩ : weirlaw0_pair) 5) Filled.nil)) ?_
  refine OJ.build (d := 88) (T := 25) (parts := [(0, .const (.int .i64 6)), (1, .const (.int .i64 6))]) (ps := [(0, (cI .i64).val 6), (1, (cI .i64).val 6)]) (cd := c_weirlaw0_pair) (z0 := z_weirlaw0_pair) (⟨6, 6⟩ : weirlaw0_pair) Ty25 rfl (Filled.cons (cd := (cI .i64)) (q := 6) (o := 0) (by kernel_rfl) (Up_weirlaw0_pair_is z_weirlaw0_pair 6) (Filled.cons (cd := (cI .i64)) (q := 6) (o := 1) (by kernel_rfl) (Up_weirlaw0_pair_want (⟨6, z_weirlaw0_pair.want⟩ : weirlaw0_pair) 6) Filled.nil)) ?_
  refine OJ.build (d := 89) (T := 25) (parts := [(0, .const (.int .i64 7)), (1, .const (.int .i64 7))]) (ps := [(0, (cI .i64).val 7), (1, (cI .i64).val 7)]) (cd := c_weirlaw0_pair) (z0 := z_weirlaw0_pair) (⟨7, 7⟩ : weirlaw0_pair) Ty25 rfl (Filled.cons (cd := (cI .i64)) (q := 7) (o := 0) (by kernel_rfl) (Up_weirlaw0_pair_is z_weirlaw0_pair 7) (Filled.cons (cd := (cI .i64)) (q := 7) (o := 1) (by kernel_rfl) (Up_weirlaw0_pair_want (⟨7, z_weirlaw0_pair.want⟩ : weirlaw0_pair) 7) Filled.nil)) ?_
  refine OJ.rowNew (d := 90) (t := 22) (parts := [(0, .tmp 1), (1, .tmp 2), (2, .tmp 3), (3, .tmp 4), (4, .tmp 5), (5, .tmp 6), (6, .tmp 7), (7, .tmp 8), (8, .tmp 9), (9, .tmp 10), (10, .tmp 11), (11, .tmp 12), (12, .tmp 13), (13, .tmp 14), (14, .tmp 15), (15, .tmp 16), (16, .tmp 17), (17, .tmp 18), (18, .tmp 19), (19, .tmp 20), (20, .tmp 21), (21, .tmp 22), (22, .tmp 23), (23, .tmp 24), (24, .tmp 25), (25, .tmp 26), (26, .tmp 27), (27, .tmp 28), (28, .tmp 29), (29, .tmp 30), (30, .tmp 31), (31, .tmp 32), (32, .tmp 33), (33, .tmp 34), (34, .tmp 35), (35, .tmp 36), (36, .tmp 37), (37, .tmp 38), (38, .tmp 39), (39, .tmp 40), (40, .tmp 41), (41, .tmp 42), (42, .tmp 43), (43, .tmp 44), (44, .tmp 45), (45, .tmp 46), (46, .tmp 47), (47, .tmp 48), (48, .tmp 49), (49, .tmp 50), (50, .tmp 51), (51, .tmp 52), (52, .tmp 53), (53, .tmp 54), (54, .tmp 55), (55, .tmp 56), (56, .tmp 57), (57, .tmp 58), (58, .tmp 59), (59, .tmp 60), (60, .tmp 61), (61, .tmp 62), (62, .tmp 63), (63, .tmp 64), (64, .tmp 65), (65, .tmp 66), (66, .tmp 67), (67, .tmp 68), (68, .tmp 69), (69, .tmp 70), (70, .tmp 71), (71, .tmp 72), (72, .tmp 73), (73, .tmp 74), (74, .tmp 75), (75, .tmp 76), (76, .tmp 77), (77, .tmp 78), (78, .tmp 79), (79, .tmp 80), (80, .tmp 81), (81, .tmp 82), (82, .tmp 83), (83, .tmp 84), (84, .tmp 85), (85, .tmp 86), (86, .tmp 87), (87, .tmp 88), (88, .tmp 89)]) (ps := [(0, c_weirlaw0_pair.val (⟨65535, 65535⟩ : weirlaw0_pair)), (1, c_weirlaw0_pair.val (⟨64, 64⟩ : weirlaw0_pair)), (2, c_weirlaw0_pair.val (⟨4096, 4096⟩ : weirlaw0_pair)), (3, c_weirlaw0_pair.val (⟨8192, 8192⟩ : weirlaw0_pair)), (4, c_weirlaw0_pair.val (⟨64, 64⟩ : weirlaw0_pair)), (5, c_weirlaw0_pair.val (⟨2, 2⟩ : weirlaw0_pair)), (6, c_weirlaw0_pair.val (⟨60, 60⟩ : weirlaw0_pair)), (7, c_weirlaw0_pair.val (⟨8, 8⟩ : weirlaw0_pair)), (8, c_weirlaw0_pair.val (⟨256, 256⟩ : weirlaw0_pair)), (9, c_weirlaw0_pair.val (⟨16, 16⟩ : weirlaw0_pair)), (10, c_weirlaw0_pair.val (⟨256, 256⟩ : weirlaw0_pair)), (11, c_weirlaw0_pair.val (⟨1024, 1024⟩ : weirlaw0_pair)), (12, c_weirlaw0_pair.val (⟨1048576, 1048576⟩ : weirlaw0_pair)), (13, c_weirlaw0_pair.val (⟨68, 68⟩ : weirlaw0_pair)), (14, c_weirlaw0_pair.val (⟨1280, 1280⟩ : weirlaw0_pair)), (15, c_weirlaw0_pair.val (⟨9000, 9000⟩ : weirlaw0_pair)), (16, c_weirlaw0_pair.val (⟨8, 8⟩ : weirlaw0_pair)), (17, c_weirlaw0_pair.val (⟨256, 256⟩ : weirlaw0_pair)), (18, c_weirlaw0_pair.val (⟨1024, 1024⟩ : weirlaw0_pair)), (19, c_weirlaw0_pair.val (⟨64, 64⟩ : weirlaw0_pair)), (20, c_weirlaw0_pair.val (⟨16, 16⟩ : weirlaw0_pair)), (21, c_weirlaw0_pair.val (⟨256, 256⟩ : weirlaw0_pair)), (22, c_weirlaw0_pair.val (⟨16, 16⟩ : weirlaw0_pair)), (23, c_weirlaw0_pair.val (⟨1024, 1024⟩ : weirlaw0_pair)), (24, c_weirlaw0_pair.val (⟨4096, 4096⟩ : weirlaw0_pair)), (25, c_weirlaw0_pair.val (⟨8, 8⟩ : weirlaw0_pair)), (26, c_weirlaw0_pair.val (⟨64, 64⟩ : weirlaw0_pair)), (27, c_weirlaw0_pair.val (⟨4096, 4096⟩ : weirlaw0_pair)), (28, c_weirlaw0_pair.val (⟨1048576, 1048576⟩ : weirlaw0_pair)), (29, c_weirlaw0_pair.val (⟨512, 512⟩ : weirlaw0_pair)), (30, c_weirlaw0_pair.val (⟨0, 0⟩ : weirlaw0_pair)), (31, c_weirlaw0_pair.val (⟨1, 1⟩ : weirlaw0_pair)), (32, c_weirlaw0_pair.val (⟨2, 2⟩ : weirlaw0_pair)), (33, c_weirlaw0_pair.val (⟨3, 3⟩ : weirlaw0_pair)), (34, c_weirlaw0_pair.val (⟨4, 4⟩ : weirlaw0_pair)), (35, c_weirlaw0_pair.val (⟨5, 5⟩ : weirlaw0_pair)), (36, c_weirlaw0_pair.val (⟨6, 6⟩ : weirlaw0_pair)), (37, c_weirlaw0_pair.val (⟨7, 7⟩ : weirlaw0_pair)), (38, c_weirlaw0_pair.val (⟨1, 1⟩ : weirlaw0_pair)), (39, c_weirlaw0_pair.val (⟨2, 2⟩ : weirlaw0_pair)), (40, c_weirlaw0_pair.val (⟨3, 3⟩ : weirlaw0_pair)), (41, c_weirlaw0_pair.val (⟨4, 4⟩ : weirlaw0_pair)), (42, c_weirlaw0_pair.val (⟨5, 5⟩ : weirlaw0_pair)), (43, c_weirlaw0_pair.val (⟨6, 6⟩ : weirlaw0_pair)), (44, c_weirlaw0_pair.val (⟨7, 7⟩ : weirlaw0_pair)), (45, c_weirlaw0_pair.val (⟨1, 1⟩ : weirlaw0_pair)), (46, c_weirlaw0_pair.val (⟨2, 2⟩ : weirlaw0_pair)), (47, c_weirlaw0_pair.val (⟨1, 1⟩ : weirlaw0_pair)), (48, c_weirlaw0_pair.val (⟨2, 2⟩ : weirlaw0_pair)), (49, c_weirlaw0_pair.val (⟨4, 4⟩ : weirlaw0_pair)), (50, c_weirlaw0_pair.val (⟨8, 8⟩ : weirlaw0_pair)), (51, c_weirlaw0_pair.val (⟨16, 16⟩ : weirlaw0_pair)), (52, c_weirlaw0_pair.val (⟨32, 32⟩ : weirlaw0_pair)), (53, c_weirlaw0_pair.val (⟨1, 1⟩ : weirlaw0_pair)), (54, c_weirlaw0_pair.val (⟨2, 2⟩ : weirlaw0_pair)), (55, c_weirlaw0_pair.val (⟨3, 3⟩ : weirlaw0_pair)), (56, c_weirlaw0_pair.val (⟨0, 0⟩ : weirlaw0_pair)), (57, c_weirlaw0_pair.val (⟨1, 1⟩ : weirlaw0_pair)), (58, c_weirlaw0_pair.val (⟨2, 2⟩ : weirlaw0_pair)), (59, c_weirlaw0_pair.val (⟨3, 3⟩ : weirlaw0_pair)), (60, c_weirlaw0_pair.val (⟨1, 1⟩ : weirlaw0_pair)), (61, c_weirlaw0_pair.val (⟨2, 2⟩ : weirlaw0_pair)), (62, c_weirlaw0_pair.val (⟨3, 3⟩ : weirlaw0_pair)), (63, c_weirlaw0_pair.val (⟨4, 4⟩ : weirlaw0_pair)), (64, c_weirlaw0_pair.val (⟨5, 5⟩ : weirlaw0_pair)), (65, c_weirlaw0_pair.val (⟨1, 1⟩ : weirlaw0_pair)), (66, c_weirlaw0_pair.val (⟨2, 2⟩ : weirlaw0_pair)), (67, c_weirlaw0_pair.val (⟨1, 1⟩ : weirlaw0_pair)), (68, c_weirlaw0_pair.val (⟨2, 2⟩ : weirlaw0_pair)), (69, c_weirlaw0_pair.val (⟨3, 3⟩ : weirlaw0_pair)), (70, c_weirlaw0_pair.val (⟨4, 4⟩ : weirlaw0_pair)), (71, c_weirlaw0_pair.val (⟨5, 5⟩ : weirlaw0_pair)), (72, c_weirlaw0_pair.val (⟨1, 1⟩ : weirlaw0_pair)), (73, c_weirlaw0_pair.val (⟨2, 2⟩ : weirlaw0_pair)), (74, c_weirlaw0_pair.val (⟨3, 3⟩ : weirlaw0_pair)), (75, c_weirlaw0_pair.val (⟨4, 4⟩ : weirlaw0_pair)), (76, c_weirlaw0_pair.val (⟨1, 1⟩ : weirlaw0_pair)), (77, c_weirlaw0_pair.val (⟨2, 2⟩ : weirlaw0_pair)), (78, c_weirlaw0_pair.val (⟨3, 3⟩ : weirlaw0_pair)), (79, c_weirlaw0_pair.val (⟨1, 1⟩ : weirlaw0_pair)), (80, c_weirlaw0_pair.val (⟨2, 2⟩ : weirlaw0_pair)), (81, c_weirlaw0_pair.val (⟨3, 3⟩ : weirlaw0_pair)), (82, c_weirlaw0_pair.val (⟨1, 1⟩ : weirlaw0_pair)), (83, c_weirlaw0_pair.val (⟨2, 2⟩ : weirlaw0_pair)), (84, c_weirlaw0_pair.val (⟨3, 3⟩ : weirlaw0_pair)), (85, c_weirlaw0_pair.val (⟨4, 4⟩ : weirlaw0_pair)), (86, c_weirlaw0_pair.val (⟨5, 5⟩ : weirlaw0_pair)), (87, c_weirlaw0_pair.val (⟨6, 6⟩ : weirlaw0_pair)), (88, c_weirlaw0_pair.val (⟨7, 7⟩ : weirlaw0_pair))]) (cd := c_weirlaw0_pair) (owed := []) Ty25 (Filled.cons (cd := c_weirlaw0_pair) (q := (⟨65535, 65535⟩ : weirlaw0_pair)) (o := 0) rfl (Upd.arr (i := 0) (by decide) (by decide)) (Filled.cons (cd := c_weirlaw0_pair) (q := (⟨64, 64⟩ : weirlaw0_pair)) (o := 2) rfl (Upd.arr (i := 1) (by decide) (by decide)) (Filled.cons (cd := c_weirlaw0_pair) (q := (⟨4096, 4096⟩ : weirlaw0_pair)) (o := 4) rfl (Upd.arr (i := 2) (by decide) (by decide)) (Filled.cons (cd := c_weirlaw0_pair) (q := (⟨8192, 8192⟩ : weirlaw0_pair)) (o := 6) rfl (Upd.arr (i := 3) (by decide) (by decide)) (Filled.cons (cd := c_weirlaw0_pair) (q := (⟨64, 64⟩ : weirlaw0_pair)) (o := 8) rfl (Upd.arr (i := 4) (by decide) (by decide)) (Filled.cons (cd := c_weirlaw0_pair) (q := (⟨2, 2⟩ : weirlaw0_pair)) (o := 10) rfl (Upd.arr (i := 5) (by decide) (by decide)) (Filled.cons (cd := c_weirlaw0_pair) (q := (⟨60, 60⟩ : weirlaw0_pair)) (o := 12) rfl (Upd.arr (i := 6) (by decide) (by decide)) (Filled.cons (cd := c_weirlaw0_pair) (q := (⟨8, 8⟩ : weirlaw0_pair)) (o := 14) rfl (Upd.arr (i := 7) (by decide) (by decide)) (Filled.cons (cd := c_weirlaw0_pair) (q := (⟨256, 256⟩ : weirlaw0_pair)) (o := 16) rfl (Upd.arr (i := 8) (by decide) (by decide)) (Filled.cons (cd := c_weirlaw0_pair) (q := (⟨16, 16⟩ : weirlaw0_pair)) (o := 18) rfl (Upd.arr (i := 9) (by decide) (by decide)) (Filled.cons (cd := c_weirlaw0_pair) (q := (⟨256, 256⟩ : weirlaw0_pair)) (o := 20) rfl (Upd.arr (i := 10) (by decide) (by decide)) (Filled.cons (cd := c_weirlaw0_pair) (q := (⟨1024, 1024⟩ : weirlaw0_pair)) (o := 22) rfl (Upd.arr (i := 11) (by decide) (by decide)) (Filled.cons (cd := c_weirlaw0_pair) (q := (⟨1048576, 1048576⟩ : weirlaw0_pair)) (o := 24) rfl (Upd.arr (i := 12) (by decide) (by decide)) (Filled.cons (cd := c_weirlaw0_pair) (q := (⟨68, 68⟩ : weirlaw0_pair)) (o := 26) rfl (Upd.arr (i := 13) (by decide) (by decide)) (Filled.cons (cd := c_weirlaw0_pair) (q := (⟨1280, 1280⟩ : weirlaw0_pair)) (o := 28) rfl (Upd.arr (i := 14) (by decide) (by decide)) (Filled.cons (cd := c_weirlaw0_pair) (q := (⟨9000, 9000⟩ : weirlaw0_pair)) (o := 30) rfl (Upd.arr (i := 15) (by decide) (by decide)) (Filled.cons (cd := c_weirlaw0_pair) (q := (⟨8, 8⟩ : weirlaw0_pair)) (o := 32) rfl (Upd.arr (i := 16) (by decide) (by decide)) (Filled.cons (cd := c_weirlaw0_pair) (q := (⟨256, 256⟩ : weirlaw0_pair)) (o := 34) rfl (Upd.arr (i := 17) (by decide) (by decide)) (Filled.cons (cd := c_weirlaw0_pair) (q := (⟨1024, 1024⟩ : weirlaw0_pair)) (o := 36) rfl (Upd.arr (i := 18) (by decide) (by decide)) (Filled.cons (cd := c_weirlaw0_pair) (q := (⟨64, 64⟩ : weirlaw0_pair)) (o := 38) rfl (Upd.arr (i := 19) (by decide) (by decide)) (Filled.cons (cd := c_weirlaw0_pair) (q := (⟨16, 16⟩ : weirlaw0_pair)) (o := 40) rfl (Upd.arr (i := 20) (by decide) (by decide)) (Filled.cons (cd := c_weirlaw0_pair) (q := (⟨256, 256⟩ : weirlaw0_pair)) (o := 42) rfl (Upd.arr (i := 21) (by decide) (by decide)) (Filled.cons (cd := c_weirlaw0_pair) (q := (⟨16, 16⟩ : weirlaw0_pair)) (o := 44) rfl (Upd.arr (i := 22) (by decide) (by decide)) (Filled.cons (cd := c_weirlaw0_pair) (q := (⟨1024, 1024⟩ : weirlaw0_pair)) (o := 46) rfl (Upd.arr (i := 23) (by decide) (by decide)) (Filled.cons (cd := c_weirlaw0_pair) (q := (⟨4096, 4096⟩ : weirlaw0_pair)) (o := 48) rfl (Upd.arr (i := 24) (by decide) (by decide)) (Filled.cons (cd := c_weirlaw0_pair) (q := (⟨8, 8⟩ : weirlaw0_pair)) (o := 50) rfl (Upd.arr (i := 25) (by decide) (by decide)) (Filled.cons (cd := c_weirlaw0_pair) (q := (⟨64, 64⟩ : weirlaw0_pair)) (o := 52) rfl (Upd.arr (i := 26) (by decide) (by decide)) (Filled.cons (cd := c_weirlaw0_pair) (q := (⟨4096, 4096⟩ : weirlaw0_pair)) (o := 54) rfl (Upd.arr (i := 27) (by decide) (by decide)) (Filled.cons (cd := c_weirlaw0_pair) (q := (⟨1048576, 1048576⟩ : weirlaw0_pair)) (o := 56) rfl (Upd.arr (i := 28) (by decide) (by decide)) (Filled.cons (cd := c_weirlaw0_pair) (q := (⟨512, 512⟩ : weirlaw0_pair)) (o := 58) rfl (Upd.arr (i := 29) (by decide) (by decide)) (Filled.cons (cd := c_weirlaw0_pair) (q := (⟨0, 0⟩ : weirlaw0_pair)) (o := 60) rfl (Upd.arr (i := 30) (by decide) (by decide)) (Filled.cons (cd := c_weirlaw0_pair) (q := (⟨1, 1⟩ : weirlaw0_pair)) (o := 62) rfl (Upd.arr (i := 31) (by decide) (by decide)) (Filled.cons (cd := c_weirlaw0_pair) (q := (⟨2, 2⟩ : weirlaw0_pair)) (o := 64) rfl (Upd.arr (i := 32) (by decide) (by decide)) (Filled.cons (cd := c_weirlaw0_pair) (q := (⟨3, 3⟩ : weirlaw0_pair)) (o := 66) rfl (Upd.arr (i := 33) (by decide) (by decide)) (Filled.cons (cd := c_weirlaw0_pair) (q := (⟨4, 4⟩ : weirlaw0_pair)) (o := 68) rfl (Upd.arr (i := 34) (by decide) (by decide)) (Filled.cons (cd := c_weirlaw0_pair) (q := (⟨5, 5⟩ : weirlaw0_pair)) (o := 70) rfl (Upd.arr (i := 35) (by decide) (by decide)) (Filled.cons (cd := c_weirlaw0_pair) (q := (⟨6, 6⟩ : weirlaw0_pair)) (o := 72) rfl (Upd.arr (i := 36) (by decide) (by decide)) (Filled.cons (cd := c_weirlaw0_pair) (q := (⟨7, 7⟩ : weirlaw0_pair)) (o := 74) rfl (Upd.arr (i := 37) (by decide) (by decide)) (Filled.cons (cd := c_weirlaw0_pair) (q := (⟨1, 1⟩ : weirlaw0_pair)) (o := 76) rfl (Upd.arr (i := 38) (by decide) (by decide)) (Filled.cons (cd := c_weirlaw0_pair) (q := (⟨2, 2⟩ : weirlaw0_pair)) (o := 78) rfl (Upd.arr (i := 39) (by decide) (by decide)) (Filled.cons (cd := c_weirlaw0_pair) (q := (⟨3, 3⟩ : weirlaw0_pair)) (o := 80) rfl (Upd.arr (i := 40) (by decide) (by decide)) (Filled.cons (cd := c_weirlaw0_pair) (q := (⟨4, 4⟩ : weirlaw0_pair)) (o := 82) rfl (Upd.arr (i := 41) (by decide) (by decide)) (Filled.cons (cd := c_weirlaw0_pair) (q := (⟨5, 5⟩ : weirlaw0_pair)) (o := 84) rfl (Upd.arr (i := 42) (by decide) (by decide)) (Filled.cons (cd := c_weirlaw0_pair) (q := (⟨6, 6⟩ : weirlaw0_pair)) (o := 86) rfl (Upd.arr (i := 43) (by decide) (by decide)) (Filled.cons (cd := c_weirlaw0_pair) (q := (⟨7, 7⟩ : weirlaw0_pair)) (o := 88) rfl (Upd.arr (i := 44) (by decide) (by decide)) (Filled.cons (cd := c_weirlaw0_pair) (q := (⟨1, 1⟩ : weirlaw0_pair)) (o := 90) rfl (Upd.arr (i := 45) (by decide) (by decide)) (Filled.cons (cd := c_weirlaw0_pair) (q := (⟨2, 2⟩ : weirlaw0_pair)) (o := 92) rfl (Upd.arr (i := 46) (by decide) (by decide)) (Filled.cons (cd := c_weirlaw0_pair) (q := (⟨1, 1⟩ : weirlaw0_pair)) (o := 94) rfl (Upd.arr (i := 47) (by decide) (by decide)) (Filled.cons (cd := c_weirlaw0_pair) (q := (⟨2, 2⟩ : weirlaw0_pair)) (o := 96) rfl (Upd.arr (i := 48) (by decide) (by decide)) (Filled.cons (cd := c_weirlaw0_pair) (q := (⟨4, 4⟩ : weirlaw0_pair)) (o := 98) rfl (Upd.arr (i := 49) (by decide) (by decide)) (Filled.cons (cd := c_weirlaw0_pair) (q := (⟨8, 8⟩ : weirlaw0_pair)) (o := 100) rfl (Upd.arr (i := 50) (by decide) (by decide)) (Filled.cons (cd := c_weirlaw0_pair) (q := (⟨16, 16⟩ : weirlaw0_pair)) (o := 102) rfl (Upd.arr (i := 51) (by decide) (by decide)) (Filled.cons (cd := c_weirlaw0_pair) (q := (⟨32, 32⟩ : weirlaw0_pair)) (o := 104) rfl (Upd.arr (i := 52) (by decide) (by decide)) (Filled.cons (cd := c_weirlaw0_pair) (q := (⟨1, 1⟩ : weirlaw0_pair)) (o := 106) rfl (Upd.arr (i := 53) (by decide) (by decide)) (Filled.cons (cd := c_weirlaw0_pair) (q := (⟨2, 2⟩ : weirlaw0_pair)) (o := 108) rfl (Upd.arr (i := 54) (by decide) (by decide)) (Filled.cons (cd := c_weirlaw0_pair) (q := (⟨3, 3⟩ : weirlaw0_pair)) (o := 110) rfl (Upd.arr (i := 55) (by decide) (by decide)) (Filled.cons (cd := c_weirlaw0_pair) (q := (⟨0, 0⟩ : weirlaw0_pair)) (o := 112) rfl (Upd.arr (i := 56) (by decide) (by decide)) (Filled.cons (cd := c_weirlaw0_pair) (q := (⟨1, 1⟩ : weirlaw0_pair)) (o := 114) rfl (Upd.arr (i := 57) (by decide) (by decide)) (Filled.cons (cd := c_weirlaw0_pair) (q := (⟨2, 2⟩ : weirlaw0_pair)) (o := 116) rfl (Upd.arr (i := 58) (by decide) (by decide)) (Filled.cons (cd := c_weirlaw0_pair) (q := (⟨3, 3⟩ : weirlaw0_pair)) (o := 118) rfl (Upd.arr (i := 59) (by decide) (by decide)) (Filled.cons (cd := c_weirlaw0_pair) (q := (⟨1, 1⟩ : weirlaw0_pair)) (o := 120) rfl (Upd.arr (i := 60) (by decide) (by decide)) (Filled.cons (cd := c_weirlaw0_pair) (q := (⟨2, 2⟩ : weirlaw0_pair)) (o := 122) rfl (Upd.arr (i := 61) (by decide) (by decide)) (Filled.cons (cd := c_weirlaw0_pair) (q := (⟨3, 3⟩ : weirlaw0_pair)) (o := 124) rfl (Upd.arr (i := 62) (by decide) (by decide)) (Filled.cons (cd := c_weirlaw0_pair) (q := (⟨4, 4⟩ : weirlaw0_pair)) (o := 126) rfl (Upd.arr (i := 63) (by decide) (by decide)) (Filled.cons (cd := c_weirlaw0_pair) (q := (⟨5, 5⟩ : weirlaw0_pair)) (o := 128) rfl (Upd.arr (i := 64) (by decide) (by decide)) (Filled.cons (cd := c_weirlaw0_pair) (q := (⟨1, 1⟩ : weirlaw0_pair)) (o := 130) rfl (Upd.arr (i := 65) (by decide) (by decide)) (Filled.cons (cd := c_weirlaw0_pair) (q := (⟨2, 2⟩ : weirlaw0_pair)) (o := 132) rfl (Upd.arr (i := 66) (by decide) (by decide)) (Filled.cons (cd := c_weirlaw0_pair) (q := (⟨1, 1⟩ : weirlaw0_pair)) (o := 134) rfl (Upd.arr (i := 67) (by decide) (by decide)) (Filled.cons (cd := c_weirlaw0_pair) (q := (⟨2, 2⟩ : weirlaw0_pair)) (o := 136) rfl (Upd.arr (i := 68) (by decide) (by decide)) (Filled.cons (cd := c_weirlaw0_pair) (q := (⟨3, 3⟩ : weirlaw0_pair)) (o := 138) rfl (Upd.arr (i := 69) (by decide) (by decide)) (Filled.cons (cd := c_weirlaw0_pair) (q := (⟨4, 4⟩ : weirlaw0_pair)) (o := 140) rfl (Upd.arr (i := 70) (by decide) (by decide)) (Filled.cons (cd := c_weirlaw0_pair) (q := (⟨5, 5⟩ : weirlaw0_pair)) (o := 142) rfl (Upd.arr (i := 71) (by decide) (by decide)) (Filled.cons (cd := c_weirlaw0_pair) (q := (⟨1, 1⟩ : weirlaw0_pair)) (o := 144) rfl (Upd.arr (i := 72) (by decide) (by decide)) (Filled.cons (cd := c_weirlaw0_pair) (q := (⟨2, 2⟩ : weirlaw0_pair)) (o := 146) rfl (Upd.arr (i := 73) (by decide) (by decide)) (Filled.cons (cd := c_weirlaw0_pair) (q := (⟨3, 3⟩ : weirlaw0_pair)) (o := 148) rfl (Upd.arr (i := 74) (by decide) (by decide)) (Filled.cons (cd := c_weirlaw0_pair) (q := (⟨4, 4⟩ : weirlaw0_pair)) (o := 150) rfl (Upd.arr (i := 75) (by decide) (by decide)) (Filled.cons (cd := c_weirlaw0_pair) (q := (⟨1, 1⟩ : weirlaw0_pair)) (o := 152) rfl (Upd.arr (i := 76) (by decide) (by decide)) (Filled.cons (cd := c_weirlaw0_pair) (q := (⟨2, 2⟩ : weirlaw0_pair)) (o := 154) rfl (Upd.arr (i := 77) (by decide) (by decide)) (Filled.cons (cd := c_weirlaw0_pair) (q := (⟨3, 3⟩ : weirlaw0_pair)) (o := 156) rfl (Upd.arr (i := 78) (by decide) (by decide)) (Filled.cons (cd := c_weirlaw0_pair) (q := (⟨1, 1⟩ : weirlaw0_pair)) (o := 158) rfl (Upd.arr (i := 79) (by decide) (by decide)) (Filled.cons (cd := c_weirlaw0_pair) (q := (⟨2, 2⟩ : weirlaw0_pair)) (o := 160) rfl (Upd.arr (i := 80) (by decide) (by decide)) (Filled.cons (cd := c_weirlaw0_pair) (q := (⟨3, 3⟩ : weirlaw0_pair)) (o := 162) rfl (Upd.arr (i := 81) (by decide) (by decide)) (Filled.cons (cd := c_weirlaw0_pair) (q := (⟨1, 1⟩ : weirlaw0_pair)) (o := 164) rfl (Upd.arr (i := 82) (by decide) (by decide)) (Filled.cons (cd := c_weirlaw0_pair) (q := (⟨2, 2⟩ : weirlaw0_pair)) (o := 166) rfl (Upd.arr (i := 83) (by decide) (by decide)) (Filled.cons (cd := c_weirlaw0_pair) (q := (⟨3, 3⟩ : weirlaw0_pair)) (o := 168) rfl (Upd.arr (i := 84) (by decide) (by decide)) (Filled.cons (cd := c_weirlaw0_pair) (q := (⟨4, 4⟩ : weirlaw0_pair)) (o := 170) rfl (Upd.arr (i := 85) (by decide) (by decide)) (Filled.cons (cd := c_weirlaw0_pair) (q := (⟨5, 5⟩ : weirlaw0_pair)) (o := 172) rfl (Upd.arr (i := 86) (by decide) (by decide)) (Filled.cons (cd := c_weirlaw0_pair) (q := (⟨6, 6⟩ : weirlaw0_pair)) (o := 174) rfl (Upd.arr (i := 87) (by decide) (by decide)) (Filled.cons (cd := c_weirlaw0_pair) (q := (⟨7, 7⟩ : weirlaw0_pair)) (o := 176) rfl (Upd.arr (i := 88) (by decide) (by decide)) Filled.nil))))))))))))))))))))))))))))))))))))))))))))))))))))))))))))))))))))))))))))))))))))))))) (fun b1 => ?_)
  refine OW.nil ?_
  refine OJ.go 1 [(0, Sl.v (⟨some (pt b1 0), 89, 89⟩ : Sl))] ?_
  refine OJ.nil ?_
  exact SJ.ret rfl (Res.run (ys := [Sl.v (⟨some (pt b1 0), 89, 89⟩ : Sl)]) (.tmp (by kernel_rfl) .nil) rfl)

/-! ### weir/weirlaw0.errno: function 6 -/
noncomputable def weirlaw0_errno.B : Code := (Tryd.f6.body).getD .skip
noncomputable def weirlaw0_errno.cx : Fx := ⟨Tryd.prog, 6, Tryd.f6⟩
noncomputable def weirlaw0_errno.out (r_ : Int) : Value := .int .i64 r_
noncomputable def weirlaw0_errno.F0 (r_ : Int) : Reach := .ret (weirlaw0_errno.out r_)
noncomputable def weirlaw0_errno (a0 : Int) : M Int :=
  pure a0
theorem weirlaw0_errno_ok (a0 : Int) : Ref Tryd.prog 6 [.int .i64 a0] (weirlaw0_errno a0) weirlaw0_errno.out := by
  refine Ref.of (cd := weirlaw0_errno.B) Tryd.func6 ?_
  show SJ weirlaw0_errno.cx [.code weirlaw0_errno.B] [(0, .int .i64 a0)] [] (weirlaw0_errno a0) weirlaw0_errno.F0
  unfold weirlaw0_errno
  refine SJ.sr 1 ?_
  refine OJ.go 1 [(2, .int .i64 0)] ?_
  refine OJ.nil ?_
  refine SJ.sr 2 ?_
  refine OJ.go 2 [(2, .int .i64 a0), (3, .int .i64 a0)] ?_
  refine OJ.nil ?_
  exact SJ.ret rfl (Res.run (ys := [.int .i64 a0]) (.tmp (by kernel_rfl) .nil) rfl)

/-! ### internal/strconv.small: function 11 -/
noncomputable def strconv_small.B : Code := (Tryd.f11.body).getD .skip
noncomputable def strconv_small.cx : Fx := ⟨Tryd.prog, 11, Tryd.f11⟩
noncomputable def strconv_small.out (r_ : ByteArray) : Value := .string r_
noncomputable def strconv_small.F0 (r_ : ByteArray) : Reach := .ret (strconv_small.out r_)
noncomputable def strconv_small (a0 : Int) : M ByteArray :=
  if a0 < 10 then
    chk (0 ≤ (a0 : Int) ∧ (a0 : Int) ≤ (IntKind.wrap .i64 (a0 + 1)) ∧ (IntKind.wrap .i64 (a0 + 1)) ≤ (str0.size : Int)) >>= fun _ =>
    pure (ByteArray.extract str0 (Int.toNat a0) (Int.toNat (IntKind.wrap .i64 (a0 + 1))))
  else
    chk (0 ≤ ((IntKind.wrap .i64 (a0 * 2)) : Int) ∧ ((IntKind.wrap .i64 (a0 * 2)) : Int) ≤ (IntKind.wrap .i64 ((IntKind.wrap .i64 (a0 * 2)) + 2)) ∧ (IntKind.wrap .i64 ((IntKind.wrap .i64 (a0 * 2)) + 2)) ≤ (str1.size : Int)) >>= fun _ =>
    pure (ByteArray.extract str1 (Int.toNat (IntKind.wrap .i64 (a0 * 2))) (Int.toNat (IntKind.wrap .i64 ((IntKind.wrap .i64 (a0 * 2)) + 2))))
theorem strconv_small_ok (a0 : Int) : Ref Tryd.prog 11 [.int .i64 a0] (strconv_small a0) strconv_small.out := by
  refine Ref.of (cd := strconv_small.B) Tryd.func11 ?_
  show SJ strconv_small.cx [.code strconv_small.B] [(0, .int .i64 a0)] [] (strconv_small a0) strconv_small.F0
  unfold strconv_small
  refine SJ.sr 1 ?_
  refine OJ.go 1 [(2, .string ByteArray.empty)] ?_
  refine OJ.nil ?_
  refine SJ.seq ?_
  refine SJ.sr 2 ?_
  refine OJ.go 2 [(4, .bool (decide (a0 < 10))), (3, .int .i64 a0)] ?_
  refine OJ.nil ?_
  refine SJ.cond (t := (.tmp 4)) (b := decide (a0 < 10)) decide_eq_true_iff (fun hc1 => ?_) (fun hc1 => ?_)
  · refine SJ.sr 5 ?_
    refine OJ.go 3 [(7, .int .i64 (IntKind.wrap .i64 (a0 + 1))), (6, .int .i64 a0), (5, .int .i64 a0)] ?_
    refine OJ.cutT (d := 8) (t := 9) (y := .const (.string str0)) (lo := (some (.tmp 5))) (hi := (some (.tmp 7))) (lo' := some (.i64, a0)) (hi' := some (.i64, IntKind.wrap .i64 (a0 + 1))) ?_
    refine OJ.go 1 [(2, .string (ByteArray.extract str0 (Int.toNat a0) (Int.toNat (IntKind.wrap .i64 (a0 + 1)))))] ?_
    refine OJ.nil ?_
    exact SJ.ret rfl (Res.run (ys := [.string (ByteArray.extract str0 (Int.toNat a0) (Int.toNat (IntKind.wrap .i64 (a0 + 1))))]) (.tmp (by kernel_rfl) .nil) rfl)
  · refine SJ.skip ?_
    refine SJ.sr 7 ?_
    refine OJ.go 5 [(13, .int .i64 (IntKind.wrap .i64 ((IntKind.wrap .i64 (a0 * 2)) + 2))), (12, .int .i64 (IntKind.wrap .i64 (a0 * 2))), (11, .int .i64 a0), (10, .int .i64 (IntKind.wrap .i64 (a0 * 2))), (9, .int .i64 a0)] ?_
    refine OJ.cutT (d := 14) (t := 9) (y := .const (.string str1)) (lo := (some (.tmp 10))) (hi := (some (.tmp 13))) (lo' := some (.i64, IntKind.wrap .i64 (a0 * 2))) (hi' := some (.i64, IntKind.wrap .i64 ((IntKind.wrap .i64 (a0 * 2)) + 2))) ?_
    refine OJ.go 1 [(2, .string (ByteArray.extract str1 (Int.toNat (IntKind.wrap .i64 (a0 * 2))) (Int.toNat (IntKind.wrap .i64 ((IntKind.wrap .i64 (a0 * 2)) + 2)))))] ?_
    refine OJ.nil ?_
    exact SJ.ret rfl (Res.run (ys := [.string (ByteArray.extract str1 (Int.toNat (IntKind.wrap .i64 (a0 * 2))) (Int.toNat (IntKind.wrap .i64 ((IntKind.wrap .i64 (a0 * 2)) + 2))))]) (.tmp (by kernel_rfl) .nil) rfl)

/-! ### math/bits.Len64: function 16 -/
noncomputable def bits_Len64.B : Code := (Tryd.f16.body).getD .skip
noncomputable def bits_Len64.cx : Fx := ⟨Tryd.prog, 16, Tryd.f16⟩
noncomputable def bits_Len64.out (r_ : Int) : Value := .int .i64 r_
noncomputable def bits_Len64.F0 (r_ : Int) : Reach := .ret (bits_Len64.out r_)
noncomputable def bits_Len64.K1 (j3 : Int) (j4 : Int) : M Int :=
  if j3 ≥ 256 then
    chk ((0 : Int) ≤ (IntKind.wrap .u8 (Int.fdiv j3 (2 ^ 8))) ∧ (IntKind.wrap .u8 (Int.fdiv j3 (2 ^ 8))) < (str2.size : Int)) >>= fun _ =>
    pure (IntKind.wrap .i64 ((IntKind.wrap .i64 (j4 + 8)) + (IntKind.wrap .i64 (sb str2 (IntKind.wrap .u8 (Int.fdiv j3 (2 ^ 8)))))))
  else
    chk ((0 : Int) ≤ (IntKind.wrap .u8 j3) ∧ (IntKind.wrap .u8 j3) < (str2.size : Int)) >>= fun _ =>
    pure (IntKind.wrap .i64 (j4 + (IntKind.wrap .i64 (sb str2 (IntKind.wrap .u8 j3)))))
theorem bits_Len64.K1_ok (j3 : Int) (j4 : Int) :
    SJ bits_Len64.cx [.code (c2 (c2 (c2 bits_Len64.B)))] [(0, .int .u64 j3), (2, .int .i64 j4)] [] (bits_Len64.K1 j3 j4) bits_Len64.F0 := by
  unfold bits_Len64.K1
  refine SJ.seq ?_
  refine SJ.sr 2 ?_
  refine OJ.go 2 [(14, .bool (decide (j3 ≥ 256))), (13, .int .u64 j3)] ?_
  refine OJ.nil ?_
  refine SJ.cond (t := (.tmp 14)) (b := decide (j3 ≥ 256)) decide_eq_true_iff (fun hc9 => ?_) (fun hc9 => ?_)
  · refine SJ.sr 3 ?_
    refine OJ.go 3 [(0, .int .u64 (Int.fdiv j3 (2 ^ 8))), (16, .int .u64 (Int.fdiv j3 (2 ^ 8))), (15, .int .u64 j3)] ?_
    refine OJ.nil ?_
    refine SJ.rg 3 ?_
    refine OJ.go 3 [(2, .int .i64 (IntKind.wrap .i64 (j4 + 8))), (18, .int .i64 (IntKind.wrap .i64 (j4 + 8))), (17, .int .i64 j4)] ?_
    refine OJ.nil ?_
    refine SJ.sr 7 ?_
    refine OJ.go 3 [(21, .int .u8 (IntKind.wrap .u8 (Int.fdiv j3 (2 ^ 8)))), (20, .int .u64 (Int.fdiv j3 (2 ^ 8))), (19, .int .i64 (IntKind.wrap .i64 (j4 + 8)))] ?_
    refine OJ.idxT (d := 22) (T := 9) (y := .const (.string str2)) (j := .tmp 21) (k := .u8) (fun hb5 hb6 => ?_)
    refine OJ.go 3 [(2, .int .i64 (IntKind.wrap .i64 ((IntKind.wrap .i64 (j4 + 8)) + (IntKind.wrap .i64 (sb str2 (IntKind.wrap .u8 (Int.fdiv j3 (2 ^ 8)))))))), (24, .int .i64 (IntKind.wrap .i64 ((IntKind.wrap .i64 (j4 + 8)) + (IntKind.wrap .i64 (sb str2 (IntKind.wrap .u8 (Int.fdiv j3 (2 ^ 8)))))))), (23, .int .i64 (IntKind.wrap .i64 (sb str2 (IntKind.wrap .u8 (Int.fdiv j3 (2 ^ 8))))))] ?_
    refine OJ.nil ?_
    exact SJ.ret rfl (Res.run (ys := [.int .i64 (IntKind.wrap .i64 ((IntKind.wrap .i64 (j4 + 8)) + (IntKind.wrap .i64 (sb str2 (IntKind.wrap .u8 (Int.fdiv j3 (2 ^ 8)))))))]) (.tmp (by kernel_rfl) .nil) rfl)
  · refine SJ.skip ?_
    refine SJ.sr 7 ?_
    refine OJ.go 3 [(21, .int .u8 (IntKind.wrap .u8 j3)), (20, .int .u64 j3), (19, .int .i64 j4)] ?_
    refine OJ.idxT (d := 22) (T := 9) (y := .const (.string str2)) (j := .tmp 21) (k := .u8) (fun hb7 hb8 => ?_)
    refine OJ.go 3 [(2, .int .i64 (IntKind.wrap .i64 (j4 + (IntKind.wrap .i64 (sb str2 (IntKind.wrap .u8 j3)))))), (24, .int .i64 (IntKind.wrap .i64 (j4 + (IntKind.wrap .i64 (sb str2 (IntKind.wrap .u8 j3)))))), (23, .int .i64 (IntKind.wrap .i64 (sb str2 (IntKind.wrap .u8 j3))))] ?_
    refine OJ.nil ?_
    exact SJ.ret rfl (Res.run (ys := [.int .i64 (IntKind.wrap .i64 (j4 + (IntKind.wrap .i64 (sb str2 (IntKind.wrap .u8 j3)))))]) (.tmp (by kernel_rfl) .nil) rfl)
noncomputable def bits_Len64.K2 (j1 : Int) (j2 : Int) : M Int :=
  if j1 ≥ 65536 then
    bits_Len64.K1 (Int.fdiv j1 (2 ^ 16)) (IntKind.wrap .i64 (j2 + 16))
  else
    bits_Len64.K1 j1 j2
theorem bits_Len64.K2_ok (j1 : Int) (j2 : Int) :
    SJ bits_Len64.cx [.code (c2 (c2 bits_Len64.B))] [(0, .int .u64 j1), (2, .int .i64 j2)] [] (bits_Len64.K2 j1 j2) bits_Len64.F0 := by
  unfold bits_Len64.K2
  refine SJ.seq ?_
  refine SJ.sr 2 ?_
  refine OJ.go 2 [(8, .bool (decide (j1 ≥ 65536))), (7, .int .u64 j1)] ?_
  refine OJ.nil ?_
  refine SJ.cond (t := (.tmp 8)) (b := decide (j1 ≥ 65536)) decide_eq_true_iff (fun hc10 => ?_) (fun hc10 => ?_)
  · refine SJ.sr 3 ?_
    refine OJ.go 3 [(0, .int .u64 (Int.fdiv j1 (2 ^ 16))), (10, .int .u64 (Int.fdiv j1 (2 ^ 16))), (9, .int .u64 j1)] ?_
    refine OJ.nil ?_
    refine SJ.rg 3 ?_
    refine OJ.go 3 [(2, .int .i64 (IntKind.wrap .i64 (j2 + 16))), (12, .int .i64 (IntKind.wrap .i64 (j2 + 16))), (11, .int .i64 j2)] ?_
    refine OJ.nil ?_
    refine SJ.less [0, 2] (m' := [(0, .int .u64 (Int.fdiv j1 (2 ^ 16))), (2, .int .i64 (IntKind.wrap .i64 (j2 + 16)))]) ?_
    exact bits_Len64.K1_ok (Int.fdiv j1 (2 ^ 16)) (IntKind.wrap .i64 (j2 + 16))
  · refine SJ.skip ?_
    refine SJ.less [0, 2] (m' := [(0, .int .u64 j1), (2, .int .i64 j2)]) ?_
    exact bits_Len64.K1_ok j1 j2
noncomputable def bits_Len64 (a0 : Int) : M Int :=
  if a0 ≥ 4294967296 then
    bits_Len64.K2 (Int.fdiv a0 (2 ^ 32)) 32
  else
    bits_Len64.K2 a0 0
theorem bits_Len64_ok (a0 : Int) : Ref Tryd.prog 16 [.int .u64 a0] (bits_Len64 a0) bits_Len64.out := by
  refine Ref.of (cd := bits_Len64.B) Tryd.func16 ?_
  show SJ bits_Len64.cx [.code bits_Len64.B] [(0, .int .u64 a0)] [] (bits_Len64 a0) bits_Len64.F0
  unfold bits_Len64
  refine SJ.sr 1 ?_
  refine OJ.go 1 [(2, .int .i64 0)] ?_
  refine OJ.nil ?_
  refine SJ.seq ?_
  refine SJ.sr 2 ?_
  refine OJ.go 2 [(4, .bool (decide (a0 ≥ 4294967296))), (3, .int .u64 a0)] ?_
  refine OJ.nil ?_
  refine SJ.cond (t := (.tmp 4)) (b := decide (a0 ≥ 4294967296)) decide_eq_true_iff (fun hc11 => ?_) (fun hc11 => ?_)
  · refine SJ.sr 3 ?_
    refine OJ.go 3 [(0, .int .u64 (Int.fdiv a0 (2 ^ 32))), (6, .int .u64 (Int.fdiv a0 (2 ^ 32))), (5, .int .u64 a0)] ?_
    refine OJ.nil ?_
    refine SJ.rg 1 ?_
    refine OJ.go 1 [(2, .int .i64 32)] ?_
    refine OJ.nil ?_
    refine SJ.less [0, 2] (m' := [(0, .int .u64 (Int.fdiv a0 (2 ^ 32))), (2, .int .i64 32)]) ?_
    exact bits_Len64.K2_ok (Int.fdiv a0 (2 ^ 32)) 32
  · refine SJ.skip ?_
    refine SJ.less [0, 2] (m' := [(0, .int .u64 a0), (2, .int .i64 0)]) ?_
    exact bits_Len64.K2_ok a0 0

/-! ### internal/strconv.log10Pow2: function 15 -/
noncomputable def strconv_log10Pow2.B : Code := (Tryd.f15.body).getD .skip
noncomputable def strconv_log10Pow2.cx : Fx := ⟨Tryd.prog, 15, Tryd.f15⟩
noncomputable def strconv_log10Pow2.out (r_ : Int) : Value := .int .i64 r_
noncomputable def strconv_log10Pow2.F0 (r_ : Int) : Reach := .ret (strconv_log10Pow2.out r_)
noncomputable def strconv_log10Pow2 (a0 : Int) : M Int :=
  pure (Int.fdiv (IntKind.wrap .i64 (a0 * 78913)) (2 ^ 18))
theorem strconv_log10Pow2_ok (a0 : Int) : Ref Tryd.prog 15 [.int .i64 a0] (strconv_log10Pow2 a0) strconv_log10Pow2.out := by
  refine Ref.of (cd := strconv_log10Pow2.B) Tryd.func15 ?_
  show SJ strconv_log10Pow2.cx [.code strconv_log10Pow2.B] [(0, .int .i64 a0)] [] (strconv_log10Pow2 a0) strconv_log10Pow2.F0
  unfold strconv_log10Pow2
  refine SJ.sr 1 ?_
  refine OJ.go 1 [(2, .int .i64 0)] ?_
  refine OJ.nil ?_
  refine SJ.sr 4 ?_
  refine OJ.go 4 [(2, .int .i64 (Int.fdiv (IntKind.wrap .i64 (a0 * 78913)) (2 ^ 18))), (5, .int .i64 (Int.fdiv (IntKind.wrap .i64 (a0 * 78913)) (2 ^ 18))), (4, .int .i64 (IntKind.wrap .i64 (a0 * 78913))), (3, .int .i64 a0)] ?_
  refine OJ.nil ?_
  exact SJ.ret rfl (Res.run (ys := [.int .i64 (Int.fdiv (IntKind.wrap .i64 (a0 * 78913)) (2 ^ 18))]) (.tmp (by kernel_rfl) .nil) rfl)

/-! ### internal/strconv.bool2[int]: function 17 -/
noncomputable def strconv_bool2_int.B : Code := (Tryd.f17.body).getD .skip
noncomputable def strconv_bool2_int.cx : Fx := ⟨Tryd.prog, 17, Tryd.f17⟩
noncomputable def strconv_bool2_int.out (r_ : Int) : Value := .int .i64 r_
noncomputable def strconv_bool2_int.F0 (r_ : Int) : Reach := .ret (strconv_bool2_int.out r_)
noncomputable def strconv_bool2_int (a0 : Bool) : M Int :=
  if a0 = true then
    pure 1
  else
    pure 0
theorem strconv_bool2_int_ok (a0 : Bool) : Ref Tryd.prog 17 [.bool a0] (strconv_bool2_int a0) strconv_bool2_int.out := by
  refine Ref.of (cd := strconv_bool2_int.B) Tryd.func17 ?_
  show SJ strconv_bool2_int.cx [.code strconv_bool2_int.B] [(0, .bool a0)] [] (strconv_bool2_int a0) strconv_bool2_int.F0
  unfold strconv_bool2_int
  refine SJ.sr 1 ?_
  refine OJ.go 1 [(2, .int .i64 0)] ?_
  refine OJ.nil ?_
  refine SJ.seq ?_
  refine SJ.sr 1 ?_
  refine OJ.go 1 [(3, .bool a0)] ?_
  refine OJ.nil ?_
  refine SJ.cond (t := (.tmp 3)) (b := a0) Iff.rfl (fun hc1 => ?_) (fun hc1 => ?_)
  · refine SJ.sr 1 ?_
    refine OJ.go 1 [(2, .int .i64 1)] ?_
    refine OJ.nil ?_
    exact SJ.ret rfl (Res.run (ys := [.int .i64 1]) (.tmp (by kernel_rfl) .nil) rfl)
  · refine SJ.skip ?_
    refine SJ.sr 1 ?_
    refine OJ.go 1 [(2, .int .i64 0)] ?_
    refine OJ.nil ?_
    exact SJ.ret rfl (Res.run (ys := [.int .i64 0]) (.tmp (by kernel_rfl) .nil) rfl)

/-! ### internal/strconv.numDigits: function 12 -/
noncomputable def strconv_numDigits.B : Code := (Tryd.f12.body).getD .skip
noncomputable def strconv_numDigits.cx : Fx := ⟨Tryd.prog, 12, Tryd.f12⟩
noncomputable def strconv_numDigits.out (r_ : Int) : Value := .int .i64 r_
noncomputable def strconv_numDigits.F0 (r_ : Int) : Reach := .ret (strconv_numDigits.out r_)
noncomputable def strconv_numDigits (a0 : Int) : M Int :=
  bits_Len64 a0 >>= fun r1 =>
  strconv_log10Pow2 r1 >>= fun r2 =>
  idx (some ⟨0, 0, none⟩) 20 r2 1 >>= fun p3 =>
  ld (cI .u64) p3 >>= fun x4 =>
  strconv_bool2_int (decide (a0 ≥ x4)) >>= fun r5 =>
  pure (IntKind.wrap .i64 (r2 + r5))
theorem strconv_numDigits_ok (a0 : Int) : Ref Tryd.prog 12 [.int .u64 a0] (strconv_numDigits a0) strconv_numDigits.out := by
  refine Ref.of (cd := strconv_numDigits.B) Tryd.func12 ?_
  show SJ strconv_numDigits.cx [.code strconv_numDigits.B] [(0, .int .u64 a0)] [] (strconv_numDigits a0) strconv_numDigits.F0
  unfold strconv_numDigits
  refine SJ.sr 1 ?_
  refine OJ.go 1 [(2, .int .i64 0)] ?_
  refine OJ.nil ?_
  refine SJ.sr 4 ?_
  refine OJ.go 1 [(4, .int .u64 a0)] ?_
  refine OJ.call (d := 5) (g := 16) (ats := #[33]) (args := [.tmp 4]) (owed := []) F16 (bits_Len64_ok a0) (fun r1 => ?_)
  refine OW.nil ?_
  refine OJ.call (d := 6) (g := 15) (ats := #[3]) (args := [.tmp 5]) (owed := []) F15 (strconv_log10Pow2_ok r1) (fun r2 => ?_)
  refine OW.nil ?_
  refine OJ.go 1 [(3, .int .i64 r2)] ?_
  refine OJ.nil ?_
  refine SJ.sr 9 ?_
  refine OJ.go 3 [(9, .int .i64 r2), (8, .int .u64 a0), (7, .int .i64 r2)] ?_
  refine OJ.idxA (d := 10) (T := 41) (y := .global 0) (j := .tmp 9) (E := 33) (k := .i64) (fun p3 => ?_)
  refine OJ.ld (d := 11) (y := .tmp 10) (pend2 := fun x4 => []) Ty33 (fun _ => rfl) (fun x4 => ?_)
  refine OJ.go 1 [(12, .bool (decide (a0 ≥ x4)))] ?_
  refine OJ.call (d := 13) (g := 17) (ats := #[4]) (args := [.tmp 12]) (owed := []) F17 (strconv_bool2_int_ok (decide (a0 ≥ x4))) (fun r5 => ?_)
  refine OW.nil ?_
  refine OJ.go 2 [(2, .int .i64 (IntKind.wrap .i64 (r2 + r5))), (14, .int .i64 (IntKind.wrap .i64 (r2 + r5)))] ?_
  refine OJ.nil ?_
  exact SJ.ret rfl (Res.run (ys := [.int .i64 (IntKind.wrap .i64 (r2 + r5))]) (.tmp (by kernel_rfl) .nil) rfl)

/-! ### internal/strconv.formatBase10: function 13 -/
noncomputable def strconv_formatBase10.B : Code := (Tryd.f13.body).getD .skip
noncomputable def strconv_formatBase10.cx : Fx := ⟨Tryd.prog, 13, Tryd.f13⟩
noncomputable def strconv_formatBase10.out (r_ : Unit) : Value := .tuple #[]
noncomputable def strconv_formatBase10.F0 (r_ : Unit) : Reach := .ret (strconv_formatBase10.out r_)
noncomputable def strconv_formatBase10.K1 (a0 : Sl) (j48 : Int) (j49 : Int) : M Unit :=
  if j48 > 0 then
    idx a0.a a0.len 0 1 >>= fun p51 =>
    st (cI .u8) p51 (IntKind.wrap .u8 (IntKind.wrap .u32 (48 + j49))) >>= fun _ =>
    pure ()
  else
    pure ()
theorem strconv_formatBase10.K1_ok (a0 : Sl) (j48 : Int) (j49 : Int) :
    SJ strconv_formatBase10.cx [.code (c2 (c2 (c2 (c2 (c2 strconv_formatBase10.B)))))] [(0, Sl.v a0), (4, .int .i64 j48), (12, .int .u32 j49)] [] (strconv_formatBase10.K1 a0 j48 j49) strconv_formatBase10.F0 := by
  unfold strconv_formatBase10.K1
  refine SJ.sr 2 ?_
  refine OJ.go 2 [(161, .bool (decide (j48 > 0))), (160, .int .i64 j48)] ?_
  refine OJ.nil ?_
  refine SJ.cond (t := (.tmp 161)) (b := decide (j48 > 0)) decide_eq_true_iff (fun hc52 => ?_) (fun hc52 => ?_)
  · refine SJ.rg 6 ?_
    refine OJ.go 4 [(165, .int .u8 (IntKind.wrap .u8 (IntKind.wrap .u32 (48 + j49)))), (164, .int .u32 (IntKind.wrap .u32 (48 + j49))), (163, .int .u32 j49), (162, Sl.v a0)] ?_
    refine OJ.idxS (d := 166) (T := 36) (y := .tmp 162) (j := .const (.int .i64 0)) (E := 5) (cap := a0.cap) (k := .i64) (fun p51 => ?_)
    refine OJ.st (y := .tmp 166) (z := .tmp 165) (owed := []) Ty5 ?_
    refine OW.nil ?_
    refine OJ.nil ?_
    exact SJ.end_ rfl (Res.run (ys := []) .nil rfl)
  · refine SJ.skip ?_
    exact SJ.end_ rfl (Res.run (ys := []) .nil rfl)
noncomputable def strconv_formatBase10.K2 (a0 : Sl) (j40 : Int) (j41 : Int) : M Unit :=
  if j40 ≥ 2 then
    draw >>= fun _ =>
    chk ((0 : Int) ≤ (IntKind.wrap .u32 ((IntKind.wrap .u32 ((Int.tmod j41 100) * 2)) + 1)) ∧ (IntKind.wrap .u32 ((IntKind.wrap .u32 ((Int.tmod j41 100) * 2)) + 1)) < (str1.size : Int)) >>= fun _ =>
    chk ((0 : Int) ≤ (IntKind.wrap .u32 ((Int.tmod j41 100) * 2)) ∧ (IntKind.wrap .u32 ((Int.tmod j41 100) * 2)) < (str1.size : Int)) >>= fun _ =>
    idx a0.a a0.len (IntKind.wrap .i64 (j40 - 1)) 1 >>= fun p57 =>
    st (cI .u8) p57 (sb str1 (IntKind.wrap .u32 ((IntKind.wrap .u32 ((Int.tmod j41 100) * 2)) + 1))) >>= fun _ =>
    idx a0.a a0.len (IntKind.wrap .i64 (j40 - 2)) 1 >>= fun p58 =>
    st (cI .u8) p58 (sb str1 (IntKind.wrap .u32 ((Int.tmod j41 100) * 2))) >>= fun _ =>
    strconv_formatBase10.K1 a0 (IntKind.wrap .i64 (j40 - 2)) (IntKind.wrap .u32 (Int.tdiv j41 100))
  else
    strconv_formatBase10.K1 a0 j40 j41
theorem strconv_formatBase10.K2_ok (a0 : Sl) (j40 : Int) (j41 : Int) :
    SJ strconv_formatBase10.cx [.code (c2 (c2 (c2 (c2 strconv_formatBase10.B))))] [(0, Sl.v a0), (4, .int .i64 j40), (12, .int .u32 j41)] [] (strconv_formatBase10.K2 a0 j40 j41) strconv_formatBase10.F0 := by
  unfold strconv_formatBase10.K2
  refine SJ.seq ?_
  refine SJ.sr 2 ?_
  refine OJ.go 2 [(139, .bool (decide (j40 ≥ 2))), (138, .int .i64 j40)] ?_
  refine OJ.nil ?_
  refine SJ.cond (t := (.tmp 139)) (b := decide (j40 ≥ 2)) decide_eq_true_iff (fun hc59 => ?_) (fun hc59 => ?_)
  · refine SJ.sr 4 ?_
    refine OJ.go 4 [(16, .int .u32 (IntKind.wrap .u32 ((Int.tmod j41 100) * 2))), (142, .int .u32 (IntKind.wrap .u32 ((Int.tmod j41 100) * 2))), (141, .int .u32 (Int.tmod j41 100)), (140, .int .u32 j41)] ?_
    refine OJ.nil ?_
    refine SJ.sr 3 ?_
    refine OJ.go 3 [(12, .int .u32 (IntKind.wrap .u32 (Int.tdiv j41 100))), (144, .int .u32 (IntKind.wrap .u32 (Int.tdiv j41 100))), (143, .int .u32 j41)] ?_
    refine OJ.nil ?_
    refine SJ.seq ?_
    refine SJ.draw (id := 23) (kd := [0, 0, 0, 0, 0, 0, 0, 0, 0, 0, 0, 0, 2, 0, 2]) (bef := [0, 0, 2, 0, 0, 16, 0, 64, 192, 0, 512, 455, 2503, 8191, 16383]) (ord := [0, 1, 2, 3, 4, 5, 6, 7, 8, 9, 10, 11, 12, 13, 14]) mixed ?_
    refine OJ.go 8 [(152, .int .u32 (IntKind.wrap .u32 ((IntKind.wrap .u32 ((Int.tmod j41 100) * 2)) + 1))), (151, .int .u32 (IntKind.wrap .u32 ((Int.tmod j41 100) * 2))), (150, .int .i64 (IntKind.wrap .i64 (j40 - 2))), (149, .int .i64 j40), (148, Sl.v a0), (147, .int .i64 (IntKind.wrap .i64 (j40 - 1))), (146, .int .i64 j40), (145, Sl.v a0)] ?_
    refine OJ.idxT (d := 153) (T := 9) (y := .const (.string str1)) (j := .tmp 152) (k := .u32) (fun hb53 hb54 => ?_)
    refine OJ.go 1 [(154, .int .u32 (IntKind.wrap .u32 ((Int.tmod j41 100) * 2)))] ?_
    refine OJ.idxT (d := 155) (T := 9) (y := .const (.string str1)) (j := .tmp 154) (k := .u32) (fun hb55 hb56 => ?_)
    refine OJ.idxS (d := 156) (T := 36) (y := .tmp 145) (j := .tmp 147) (E := 5) (cap := a0.cap) (k := .i64) (fun p57 => ?_)
    refine OJ.st (y := .tmp 156) (z := .tmp 153) (owed := []) Ty5 ?_
    refine OW.nil ?_
    refine OJ.idxS (d := 157) (T := 36) (y := .tmp 148) (j := .tmp 150) (E := 5) (cap := a0.cap) (k := .i64) (fun p58 => ?_)
    refine OJ.st (y := .tmp 157) (z := .tmp 155) (owed := []) Ty5 ?_
    refine OW.nil ?_
    refine OJ.nil ?_
    refine SJ.rg 3 ?_
    refine OJ.go 3 [(4, .int .i64 (IntKind.wrap .i64 (j40 - 2))), (159, .int .i64 (IntKind.wrap .i64 (j40 - 2))), (158, .int .i64 j40)] ?_
    refine OJ.nil ?_
    refine SJ.less [0, 4, 12] (m' := [(0, Sl.v a0), (4, .int .i64 (IntKind.wrap .i64 (j40 - 2))), (12, .int .u32 (IntKind.wrap .u32 (Int.tdiv j41 100)))]) ?_
    exact strconv_formatBase10.K1_ok a0 (IntKind.wrap .i64 (j40 - 2)) (IntKind.wrap .u32 (Int.tdiv j41 100))
  · refine SJ.skip ?_
    refine SJ.less [0, 4, 12] (m' := [(0, Sl.v a0), (4, .int .i64 j40), (12, .int .u32 j41)]) ?_
    exact strconv_formatBase10.K1_ok a0 j40 j41
noncomputable def strconv_formatBase10.K3 (a0 : Sl) (s1 : Int) (s2 : Int) : M Unit :=
  if s2 ≥ 4 then
    draw >>= fun _ =>
    chk ((0 : Int) ≤ (IntKind.wrap .u32 ((IntKind.wrap .u32 ((Int.tmod (Int.tmod (IntKind.wrap .u32 s1) 10000) 100) * 2)) + 1)) ∧ (IntKind.wrap .u32 ((IntKind.wrap .u32 ((Int.tmod (Int.tmod (IntKind.wrap .u32 s1) 10000) 100) * 2)) + 1)) < (str1.size : Int)) >>= fun _ =>
    chk ((0 : Int) ≤ (IntKind.wrap .u32 ((Int.tmod (Int.tmod (IntKind.wrap .u32 s1) 10000) 100) * 2)) ∧ (IntKind.wrap .u32 ((Int.tmod (Int.tmod (IntKind.wrap .u32 s1) 10000) 100) * 2)) < (str1.size : Int)) >>= fun _ =>
    idx a0.a a0.len (IntKind.wrap .i64 (s2 - 1)) 1 >>= fun p64 =>
    st (cI .u8) p64 (sb str1 (IntKind.wrap .u32 ((IntKind.wrap .u32 ((Int.tmod (Int.tmod (IntKind.wrap .u32 s1) 10000) 100) * 2)) + 1))) >>= fun _ =>
    idx a0.a a0.len (IntKind.wrap .i64 (s2 - 2)) 1 >>= fun p65 =>
    st (cI .u8) p65 (sb str1 (IntKind.wrap .u32 ((Int.tmod (Int.tmod (IntKind.wrap .u32 s1) 10000) 100) * 2))) >>= fun _ =>
    draw >>= fun _ =>
    chk ((0 : Int) ≤ (IntKind.wrap .u32 ((IntKind.wrap .u32 ((IntKind.wrap .u32 (Int.tdiv (Int.tmod (IntKind.wrap .u32 s1) 10000) 100)) * 2)) + 1)) ∧ (IntKind.wrap .u32 ((IntKind.wrap .u32 ((IntKind.wrap .u32 (Int.tdiv (Int.tmod (IntKind.wrap .u32 s1) 10000) 100)) * 2)) + 1)) < (str1.size : Int)) >>= fun _ =>
    chk ((0 : Int) ≤ (IntKind.wrap .u32 ((IntKind.wrap .u32 (Int.tdiv (Int.tmod (IntKind.wrap .u32 s1) 10000) 100)) * 2)) ∧ (IntKind.wrap .u32 ((IntKind.wrap .u32 (Int.tdiv (Int.tmod (IntKind.wrap .u32 s1) 10000) 100)) * 2)) < (str1.size : Int)) >>= fun _ =>
    idx a0.a a0.len (IntKind.wrap .i64 (s2 - 3)) 1 >>= fun p70 =>
    st (cI .u8) p70 (sb str1 (IntKind.wrap .u32 ((IntKind.wrap .u32 ((IntKind.wrap .u32 (Int.tdiv (Int.tmod (IntKind.wrap .u32 s1) 10000) 100)) * 2)) + 1))) >>= fun _ =>
    idx a0.a a0.len (IntKind.wrap .i64 (s2 - 4)) 1 >>= fun p71 =>
    st (cI .u8) p71 (sb str1 (IntKind.wrap .u32 ((IntKind.wrap .u32 (Int.tdiv (Int.tmod (IntKind.wrap .u32 s1) 10000) 100)) * 2))) >>= fun _ =>
    strconv_formatBase10.K2 a0 (IntKind.wrap .i64 (s2 - 4)) (IntKind.wrap .u32 (Int.tdiv (IntKind.wrap .u32 s1) 10000))
  else
    strconv_formatBase10.K2 a0 s2 (IntKind.wrap .u32 s1)
theorem strconv_formatBase10.K3_ok (a0 : Sl) (s1 : Int) (s2 : Int) :
    SJ strconv_formatBase10.cx [.code (c2 (c2 strconv_formatBase10.B))] [(0, Sl.v a0), (1, .int .u64 s1), (4, .int .i64 s2)] [] (strconv_formatBase10.K3 a0 s1 s2) strconv_formatBase10.F0 := by
  unfold strconv_formatBase10.K3
  refine SJ.sr 3 ?_
  refine OJ.go 3 [(12, .int .u32 (IntKind.wrap .u32 s1)), (97, .int .u32 (IntKind.wrap .u32 s1)), (96, .int .u64 s1)] ?_
  refine OJ.nil ?_
  refine SJ.seq ?_
  refine SJ.sr 2 ?_
  refine OJ.go 2 [(99, .bool (decide (s2 ≥ 4))), (98, .int .i64 s2)] ?_
  refine OJ.nil ?_
  refine SJ.cond (t := (.tmp 99)) (b := decide (s2 ≥ 4)) decide_eq_true_iff (fun hc72 => ?_) (fun hc72 => ?_)
  · refine SJ.sr 3 ?_
    refine OJ.go 3 [(13, .int .u32 (Int.tmod (IntKind.wrap .u32 s1) 10000)), (101, .int .u32 (Int.tmod (IntKind.wrap .u32 s1) 10000)), (100, .int .u32 (IntKind.wrap .u32 s1))] ?_
    refine OJ.nil ?_
    refine SJ.sr 3 ?_
    refine OJ.go 3 [(12, .int .u32 (IntKind.wrap .u32 (Int.tdiv (IntKind.wrap .u32 s1) 10000))), (103, .int .u32 (IntKind.wrap .u32 (Int.tdiv (IntKind.wrap .u32 s1) 10000))), (102, .int .u32 (IntKind.wrap .u32 s1))] ?_
    refine OJ.nil ?_
    refine SJ.sr 8 ?_
    refine OJ.go 8 [(15, .int .u32 (IntKind.wrap .u32 ((Int.tmod (Int.tmod (IntKind.wrap .u32 s1) 10000) 100) * 2))), (14, .int .u32 (IntKind.wrap .u32 ((IntKind.wrap .u32 (Int.tdiv (Int.tmod (IntKind.wrap .u32 s1) 10000) 100)) * 2))), (109, .int .u32 (IntKind.wrap .u32 ((Int.tmod (Int.tmod (IntKind.wrap .u32 s1) 10000) 100) * 2))), (108, .int .u32 (Int.tmod (Int.tmod (IntKind.wrap .u32 s1) 10000) 100)), (107, .int .u32 (Int.tmod (IntKind.wrap .u32 s1) 10000)), (106, .int .u32 (IntKind.wrap .u32 ((IntKind.wrap .u32 (Int.tdiv (Int.tmod (IntKind.wrap .u32 s1) 10000) 100)) * 2))), (105, .int .u32 (IntKind.wrap .u32 (Int.tdiv (Int.tmod (IntKind.wrap .u32 s1) 10000) 100))), (104, .int .u32 (Int.tmod (IntKind.wrap .u32 s1) 10000))] ?_
    refine OJ.nil ?_
    refine SJ.seq ?_
    refine SJ.draw (id := 17) (kd := [0, 0, 0, 0, 0, 0, 0, 0, 0, 0, 0, 0, 2, 0, 2]) (bef := [0, 0, 2, 0, 0, 16, 0, 64, 192, 0, 512, 455, 2503, 8191, 16383]) (ord := [0, 1, 2, 3, 4, 5, 6, 7, 8, 9, 10, 11, 12, 13, 14]) mixed ?_
    refine OJ.go 8 [(117, .int .u32 (IntKind.wrap .u32 ((IntKind.wrap .u32 ((Int.tmod (Int.tmod (IntKind.wrap .u32 s1) 10000) 100) * 2)) + 1))), (116, .int .u32 (IntKind.wrap .u32 ((Int.tmod (Int.tmod (IntKind.wrap .u32 s1) 10000) 100) * 2))), (115, .int .i64 (IntKind.wrap .i64 (s2 - 2))), (114, .int .i64 s2), (113, Sl.v a0), (112, .int .i64 (IntKind.wrap .i64 (s2 - 1))), (111, .int .i64 s2), (110, Sl.v a0)] ?_
    refine OJ.idxT (d := 118) (T := 9) (y := .const (.string str1)) (j := .tmp 117) (k := .u32) (fun hb60 hb61 => ?_)
    refine OJ.go 1 [(119, .int .u32 (IntKind.wrap .u32 ((Int.tmod (Int.tmod (IntKind.wrap .u32 s1) 10000) 100) * 2)))] ?_
    refine OJ.idxT (d := 120) (T := 9) (y := .const (.string str1)) (j := .tmp 119) (k := .u32) (fun hb62 hb63 => ?_)
    refine OJ.idxS (d := 121) (T := 36) (y := .tmp 110) (j := .tmp 112) (E := 5) (cap := a0.cap) (k := .i64) (fun p64 => ?_)
    refine OJ.st (y := .tmp 121) (z := .tmp 118) (owed := []) Ty5 ?_
    refine OW.nil ?_
    refine OJ.idxS (d := 122) (T := 36) (y := .tmp 113) (j := .tmp 115) (E := 5) (cap := a0.cap) (k := .i64) (fun p65 => ?_)
    refine OJ.st (y := .tmp 122) (z := .tmp 120) (owed := []) Ty5 ?_
    refine OW.nil ?_
    refine OJ.nil ?_
    refine SJ.seq ?_
    refine SJ.draw (id := 18) (kd := [0, 0, 0, 0, 0, 0, 0, 0, 0, 0, 0, 0, 2, 0, 2]) (bef := [0, 0, 2, 0, 0, 16, 0, 64, 192, 0, 512, 455, 2503, 8191, 16383]) (ord := [0, 1, 2, 3, 4, 5, 6, 7, 8, 9, 10, 11, 12, 13, 14]) mixed ?_
    refine OJ.go 8 [(130, .int .u32 (IntKind.wrap .u32 ((IntKind.wrap .u32 ((IntKind.wrap .u32 (Int.tdiv (Int.tmod (IntKind.wrap .u32 s1) 10000) 100)) * 2)) + 1))), (129, .int .u32 (IntKind.wrap .u32 ((IntKind.wrap .u32 (Int.tdiv (Int.tmod (IntKind.wrap .u32 s1) 10000) 100)) * 2))), (128, .int .i64 (IntKind.wrap .i64 (s2 - 4))), (127, .int .i64 s2), (126, Sl.v a0), (125, .int .i64 (IntKind.wrap .i64 (s2 - 3))), (124, .int .i64 s2), (123, Sl.v a0)] ?_
    refine OJ.idxT (d := 131) (T := 9) (y := .const (.string str1)) (j := .tmp 130) (k := .u32) (fun hb66 hb67 => ?_)
    refine OJ.go 1 [(132, .int .u32 (IntKind.wrap .u32 ((IntKind.wrap .u32 (Int.tdiv (Int.tmod (IntKind.wrap .u32 s1) 10000) 100)) * 2)))] ?_
    refine OJ.idxT (d := 133) (T := 9) (y := .const (.string str1)) (j := .tmp 132) (k := .u32) (fun hb68 hb69 => ?_)
    refine OJ.idxS (d := 134) (T := 36) (y := .tmp 123) (j := .tmp 125) (E := 5) (cap := a0.cap) (k := .i64) (fun p70 => ?_)
    refine OJ.st (y := .tmp 134) (z := .tmp 131) (owed := []) Ty5 ?_
    refine OW.nil ?_
    refine OJ.idxS (d := 135) (T := 36) (y := .tmp 126) (j := .tmp 128) (E := 5) (cap := a0.cap) (k := .i64) (fun p71 => ?_)
    refine OJ.st (y := .tmp 135) (z := .tmp 133) (owed := []) Ty5 ?_
    refine OW.nil ?_
    refine OJ.nil ?_
    refine SJ.rg 3 ?_
    refine OJ.go 3 [(4, .int .i64 (IntKind.wrap .i64 (s2 - 4))), (137, .int .i64 (IntKind.wrap .i64 (s2 - 4))), (136, .int .i64 s2)] ?_
    refine OJ.nil ?_
    refine SJ.less [0, 4, 12] (m' := [(0, Sl.v a0), (4, .int .i64 (IntKind.wrap .i64 (s2 - 4))), (12, .int .u32 (IntKind.wrap .u32 (Int.tdiv (IntKind.wrap .u32 s1) 10000)))]) ?_
    exact strconv_formatBase10.K2_ok a0 (IntKind.wrap .i64 (s2 - 4)) (IntKind.wrap .u32 (Int.tdiv (IntKind.wrap .u32 s1) 10000))
  · refine SJ.skip ?_
    refine SJ.less [0, 4, 12] (m' := [(0, Sl.v a0), (4, .int .i64 s2), (12, .int .u32 (IntKind.wrap .u32 s1))]) ?_
    exact strconv_formatBase10.K2_ok a0 s2 (IntKind.wrap .u32 s1)
noncomputable def strconv_formatBase10.F1 (a0 : Sl) : (LS (Int × Int) Unit) → Reach := loopF [.inLoop (c1 (c1 (c1 (c2 strconv_formatBase10.B)))), .inBlock 0, .code (c2 (c2 strconv_formatBase10.B))] (fun s_ : (Int × Int) => [(0, Sl.v a0), (1, .int .u64 s_.1), (4, .int .i64 s_.2)]) (fun s_ : (Int × Int) => []) strconv_formatBase10.F0
noncomputable def strconv_formatBase10.L1 (a0 : Sl) (s1 : Int) (s2 : Int) : M (LS (Int × Int) Unit) :=
  if s2 ≥ 8 then
    draw >>= fun _ =>
    chk ((0 : Int) ≤ (IntKind.wrap .u32 ((IntKind.wrap .u32 ((Int.tmod (Int.tmod (IntKind.wrap .u32 (Int.tmod s1 100000000)) 10000) 100) * 2)) + 1)) ∧ (IntKind.wrap .u32 ((IntKind.wrap .u32 ((Int.tmod (Int.tmod (IntKind.wrap .u32 (Int.tmod s1 100000000)) 10000) 100) * 2)) + 1)) < (str1.size : Int)) >>= fun _ =>
    chk ((0 : Int) ≤ (IntKind.wrap .u32 ((Int.tmod (Int.tmod (IntKind.wrap .u32 (Int.tmod s1 100000000)) 10000) 100) * 2)) ∧ (IntKind.wrap .u32 ((Int.tmod (Int.tmod (IntKind.wrap .u32 (Int.tmod s1 100000000)) 10000) 100) * 2)) < (str1.size : Int)) >>= fun _ =>
    idx a0.a a0.len (IntKind.wrap .i64 (s2 - 1)) 1 >>= fun p77 =>
    st (cI .u8) p77 (sb str1 (IntKind.wrap .u32 ((IntKind.wrap .u32 ((Int.tmod (Int.tmod (IntKind.wrap .u32 (Int.tmod s1 100000000)) 10000) 100) * 2)) + 1))) >>= fun _ =>
    idx a0.a a0.len (IntKind.wrap .i64 (s2 - 2)) 1 >>= fun p78 =>
    st (cI .u8) p78 (sb str1 (IntKind.wrap .u32 ((Int.tmod (Int.tmod (IntKind.wrap .u32 (Int.tmod s1 100000000)) 10000) 100) * 2))) >>= fun _ =>
    draw >>= fun _ =>
    chk ((0 : Int) ≤ (IntKind.wrap .u32 ((IntKind.wrap .u32 ((IntKind.wrap .u32 (Int.tdiv (Int.tmod (IntKind.wrap .u32 (Int.tmod s1 100000000)) 10000) 100)) * 2)) + 1)) ∧ (IntKind.wrap .u32 ((IntKind.wrap .u32 ((IntKind.wrap .u32 (Int.tdiv (Int.tmod (IntKind.wrap .u32 (Int.tmod s1 100000000)) 10000) 100)) * 2)) + 1)) < (str1.size : Int)) >>= fun _ =>
    chk ((0 : Int) ≤ (IntKind.wrap .u32 ((IntKind.wrap .u32 (Int.tdiv (Int.tmod (IntKind.wrap .u32 (Int.tmod s1 100000000)) 10000) 100)) * 2)) ∧ (IntKind.wrap .u32 ((IntKind.wrap .u32 (Int.tdiv (Int.tmod (IntKind.wrap .u32 (Int.tmod s1 100000000)) 10000) 100)) * 2)) < (str1.size : Int)) >>= fun _ =>
    idx a0.a a0.len (IntKind.wrap .i64 (s2 - 3)) 1 >>= fun p83 =>
    st (cI .u8) p83 (sb str1 (IntKind.wrap .u32 ((IntKind.wrap .u32 ((IntKind.wrap .u32 (Int.tdiv (Int.tmod (IntKind.wrap .u32 (Int.tmod s1 100000000)) 10000) 100)) * 2)) + 1))) >>= fun _ =>
    idx a0.a a0.len (IntKind.wrap .i64 (s2 - 4)) 1 >>= fun p84 =>
    st (cI .u8) p84 (sb str1 (IntKind.wrap .u32 ((IntKind.wrap .u32 (Int.tdiv (Int.tmod (IntKind.wrap .u32 (Int.tmod s1 100000000)) 10000) 100)) * 2))) >>= fun _ =>
    draw >>= fun _ =>
    chk ((0 : Int) ≤ (IntKind.wrap .u32 ((IntKind.wrap .u32 ((Int.tmod (IntKind.wrap .u32 (Int.tdiv (IntKind.wrap .u32 (Int.tmod s1 100000000)) 10000)) 100) * 2)) + 1)) ∧ (IntKind.wrap .u32 ((IntKind.wrap .u32 ((Int.tmod (IntKind.wrap .u32 (Int.tdiv (IntKind.wrap .u32 (Int.tmod s1 100000000)) 10000)) 100) * 2)) + 1)) < (str1.size : Int)) >>= fun _ =>
    chk ((0 : Int) ≤ (IntKind.wrap .u32 ((Int.tmod (IntKind.wrap .u32 (Int.tdiv (IntKind.wrap .u32 (Int.tmod s1 100000000)) 10000)) 100) * 2)) ∧ (IntKind.wrap .u32 ((Int.tmod (IntKind.wrap .u32 (Int.tdiv (IntKind.wrap .u32 (Int.tmod s1 100000000)) 10000)) 100) * 2)) < (str1.size : Int)) >>= fun _ =>
    idx a0.a a0.len (IntKind.wrap .i64 (s2 - 5)) 1 >>= fun p89 =>
    st (cI .u8) p89 (sb str1 (IntKind.wrap .u32 ((IntKind.wrap .u32 ((Int.tmod (IntKind.wrap .u32 (Int.tdiv (IntKind.wrap .u32 (Int.tmod s1 100000000)) 10000)) 100) * 2)) + 1))) >>= fun _ =>
    idx a0.a a0.len (IntKind.wrap .i64 (s2 - 6)) 1 >>= fun p90 =>
    st (cI .u8) p90 (sb str1 (IntKind.wrap .u32 ((Int.tmod (IntKind.wrap .u32 (Int.tdiv (IntKind.wrap .u32 (Int.tmod s1 100000000)) 10000)) 100) * 2))) >>= fun _ =>
    draw >>= fun _ =>
    chk ((0 : Int) ≤ (IntKind.wrap .u32 ((IntKind.wrap .u32 ((IntKind.wrap .u32 (Int.tdiv (IntKind.wrap .u32 (Int.tdiv (IntKind.wrap .u32 (Int.tmod s1 100000000)) 10000)) 100)) * 2)) + 1)) ∧ (IntKind.wrap .u32 ((IntKind.wrap .u32 ((IntKind.wrap .u32 (Int.tdiv (IntKind.wrap .u32 (Int.tdiv (IntKind.wrap .u32 (Int.tmod s1 100000000)) 10000)) 100)) * 2)) + 1)) < (str1.size : Int)) >>= fun _ =>
    chk ((0 : Int) ≤ (IntKind.wrap .u32 ((IntKind.wrap .u32 (Int.tdiv (IntKind.wrap .u32 (Int.tdiv (IntKind.wrap .u32 (Int.tmod s1 100000000)) 10000)) 100)) * 2)) ∧ (IntKind.wrap .u32 ((IntKind.wrap .u32 (Int.tdiv (IntKind.wrap .u32 (Int.tdiv (IntKind.wrap .u32 (Int.tmod s1 100000000)) 10000)) 100)) * 2)) < (str1.size : Int)) >>= fun _ =>
    idx a0.a a0.len (IntKind.wrap .i64 (s2 - 7)) 1 >>= fun p95 =>
    st (cI .u8) p95 (sb str1 (IntKind.wrap .u32 ((IntKind.wrap .u32 ((IntKind.wrap .u32 (Int.tdiv (IntKind.wrap .u32 (Int.tdiv (IntKind.wrap .u32 (Int.tmod s1 100000000)) 10000)) 100)) * 2)) + 1))) >>= fun _ =>
    idx a0.a a0.len (IntKind.wrap .i64 (s2 - 8)) 1 >>= fun p96 =>
    st (cI .u8) p96 (sb str1 (IntKind.wrap .u32 ((IntKind.wrap .u32 (Int.tdiv (IntKind.wrap .u32 (Int.tdiv (IntKind.wrap .u32 (Int.tmod s1 100000000)) 10000)) 100)) * 2))) >>= fun _ =>
    pure (LS.next (IntKind.wrap .u64 (Int.tdiv s1 100000000), IntKind.wrap .i64 (s2 - 8)))
  else
    (strconv_formatBase10.K3 a0 s1 s2) >>= fun b => pure (LS.done b)
theorem strconv_formatBase10.L1_ok (a0 : Sl) (s1 : Int) (s2 : Int) :
    SJ strconv_formatBase10.cx [.code (c1 (c1 (c1 (c2 strconv_formatBase10.B)))), .inLoop (c1 (c1 (c1 (c2 strconv_formatBase10.B)))), .inBlock 0, .code (c2 (c2 strconv_formatBase10.B))] [(0, Sl.v a0), (1, .int .u64 s1), (4, .int .i64 s2)] [] (strconv_formatBase10.L1 a0 s1 s2) (strconv_formatBase10.F1 a0) := by
  unfold strconv_formatBase10.L1
  refine SJ.seq ?_
  refine SJ.sr 2 ?_
  refine OJ.go 2 [(20, .bool (decide (s2 ≥ 8))), (19, .int .i64 s2)] ?_
  refine OJ.nil ?_
  refine SJ.cond (t := (.tmp 20)) (b := decide (s2 ≥ 8)) decide_eq_true_iff (fun hc97 => ?_) (fun hc97 => ?_)
  · refine SJ.skip ?_
    refine SJ.block (id := 1) ?_
    refine SJ.sr 4 ?_
    refine OJ.go 4 [(5, .int .u32 (IntKind.wrap .u32 (Int.tmod s1 100000000))), (23, .int .u32 (IntKind.wrap .u32 (Int.tmod s1 100000000))), (22, .int .u64 (Int.tmod s1 100000000)), (21, .int .u64 s1)] ?_
    refine OJ.nil ?_
    refine SJ.sr 3 ?_
    refine OJ.go 3 [(1, .int .u64 (IntKind.wrap .u64 (Int.tdiv s1 100000000))), (25, .int .u64 (IntKind.wrap .u64 (Int.tdiv s1 100000000))), (24, .int .u64 s1)] ?_
    refine OJ.nil ?_
    refine SJ.sr 6 ?_
    refine OJ.go 6 [(7, .int .u32 (Int.tmod (IntKind.wrap .u32 (Int.tmod s1 100000000)) 10000)), (6, .int .u32 (IntKind.wrap .u32 (Int.tdiv (IntKind.wrap .u32 (Int.tmod s1 100000000)) 10000))), (29, .int .u32 (Int.tmod (IntKind.wrap .u32 (Int.tmod s1 100000000)) 10000)), (28, .int .u32 (IntKind.wrap .u32 (Int.tmod s1 100000000))), (27, .int .u32 (IntKind.wrap .u32 (Int.tdiv (IntKind.wrap .u32 (Int.tmod s1 100000000)) 10000))), (26, .int .u32 (IntKind.wrap .u32 (Int.tmod s1 100000000)))] ?_
    refine OJ.nil ?_
    refine SJ.sr 8 ?_
    refine OJ.go 8 [(9, .int .u32 (IntKind.wrap .u32 ((Int.tmod (Int.tmod (IntKind.wrap .u32 (Int.tmod s1 100000000)) 10000) 100) * 2))), (8, .int .u32 (IntKind.wrap .u32 ((IntKind.wrap .u32 (Int.tdiv (Int.tmod (IntKind.wrap .u32 (Int.tmod s1 100000000)) 10000) 100)) * 2))), (35, .int .u32 (IntKind.wrap .u32 ((Int.tmod (Int.tmod (IntKind.wrap .u32 (Int.tmod s1 100000000)) 10000) 100) * 2))), (34, .int .u32 (Int.tmod (Int.tmod (IntKind.wrap .u32 (Int.tmod s1 100000000)) 10000) 100)), (33, .int .u32 (Int.tmod (IntKind.wrap .u32 (Int.tmod s1 100000000)) 10000)), (32, .int .u32 (IntKind.wrap .u32 ((IntKind.wrap .u32 (Int.tdiv (Int.tmod (IntKind.wrap .u32 (Int.tmod s1 100000000)) 10000) 100)) * 2))), (31, .int .u32 (IntKind.wrap .u32 (Int.tdiv (Int.tmod (IntKind.wrap .u32 (Int.tmod s1 100000000)) 10000) 100))), (30, .int .u32 (Int.tmod (IntKind.wrap .u32 (Int.tmod s1 100000000)) 10000))] ?_
    refine OJ.nil ?_
    refine SJ.sr 8 ?_
    refine OJ.go 8 [(11, .int .u32 (IntKind.wrap .u32 ((Int.tmod (IntKind.wrap .u32 (Int.tdiv (IntKind.wrap .u32 (Int.tmod s1 100000000)) 10000)) 100) * 2))), (10, .int .u32 (IntKind.wrap .u32 ((IntKind.wrap .u32 (Int.tdiv (IntKind.wrap .u32 (Int.tdiv (IntKind.wrap .u32 (Int.tmod s1 100000000)) 10000)) 100)) * 2))), (41, .int .u32 (IntKind.wrap .u32 ((Int.tmod (IntKind.wrap .u32 (Int.tdiv (IntKind.wrap .u32 (Int.tmod s1 100000000)) 10000)) 100) * 2))), (40, .int .u32 (Int.tmod (IntKind.wrap .u32 (Int.tdiv (IntKind.wrap .u32 (Int.tmod s1 100000000)) 10000)) 100)), (39, .int .u32 (IntKind.wrap .u32 (Int.tdiv (IntKind.wrap .u32 (Int.tmod s1 100000000)) 10000))), (38, .int .u32 (IntKind.wrap .u32 ((IntKind.wrap .u32 (Int.tdiv (IntKind.wrap .u32 (Int.tdiv (IntKind.wrap .u32 (Int.tmod s1 100000000)) 10000)) 100)) * 2))), (37, .int .u32 (IntKind.wrap .u32 (Int.tdiv (IntKind.wrap .u32 (Int.tdiv (IntKind.wrap .u32 (Int.tmod s1 100000000)) 10000)) 100))), (36, .int .u32 (IntKind.wrap .u32 (Int.tdiv (IntKind.wrap .u32 (Int.tmod s1 100000000)) 10000)))] ?_
    refine OJ.nil ?_
    refine SJ.seq ?_
    refine SJ.draw (id := 7) (kd := [0, 0, 0, 0, 0, 0, 0, 0, 0, 0, 0, 0, 2, 0, 2]) (bef := [0, 0, 2, 0, 0, 16, 0, 64, 192, 0, 512, 455, 2503, 8191, 16383]) (ord := [0, 1, 2, 3, 4, 5, 6, 7, 8, 9, 10, 11, 12, 13, 14]) mixed ?_
    refine OJ.go 8 [(49, .int .u32 (IntKind.wrap .u32 ((IntKind.wrap .u32 ((Int.tmod (Int.tmod (IntKind.wrap .u32 (Int.tmod s1 100000000)) 10000) 100) * 2)) + 1))), (48, .int .u32 (IntKind.wrap .u32 ((Int.tmod (Int.tmod (IntKind.wrap .u32 (Int.tmod s1 100000000)) 10000) 100) * 2))), (47, .int .i64 (IntKind.wrap .i64 (s2 - 2))), (46, .int .i64 s2), (45, Sl.v a0), (44, .int .i64 (IntKind.wrap .i64 (s2 - 1))), (43, .int .i64 s2), (42, Sl.v a0)] ?_
    refine OJ.idxT (d := 50) (T := 9) (y := .const (.string str1)) (j := .tmp 49) (k := .u32) (fun hb73 hb74 => ?_)
    refine OJ.go 1 [(51, .int .u32 (IntKind.wrap .u32 ((Int.tmod (Int.tmod (IntKind.wrap .u32 (Int.tmod s1 100000000)) 10000) 100) * 2)))] ?_
    refine OJ.idxT (d := 52) (T := 9) (y := .const (.string str1)) (j := .tmp 51) (k := .u32) (fun hb75 hb76 => ?_)
    refine OJ.idxS (d := 53) (T := 36) (y := .tmp 42) (j := .tmp 44) (E := 5) (cap := a0.cap) (k := .i64) (fun p77 => ?_)
    refine OJ.st (y := .tmp 53) (z := .tmp 50) (owed := []) Ty5 ?_
    refine OW.nil ?_
    refine OJ.idxS (d := 54) (T := 36) (y := .tmp 45) (j := .tmp 47) (E := 5) (cap := a0.cap) (k := .i64) (fun p78 => ?_)
    refine OJ.st (y := .tmp 54) (z := .tmp 52) (owed := []) Ty5 ?_
    refine OW.nil ?_
    refine OJ.nil ?_
    refine SJ.seq ?_
    refine SJ.draw (id := 8) (kd := [0, 0, 0, 0, 0, 0, 0, 0, 0, 0, 0, 0, 2, 0, 2]) (bef := [0, 0, 2, 0, 0, 16, 0, 64, 192, 0, 512, 455, 2503, 8191, 16383]) (ord := [0, 1, 2, 3, 4, 5, 6, 7, 8, 9, 10, 11, 12, 13, 14]) mixed ?_
    refine OJ.go 8 [(62, .int .u32 (IntKind.wrap .u32 ((IntKind.wrap .u32 ((IntKind.wrap .u32 (Int.tdiv (Int.tmod (IntKind.wrap .u32 (Int.tmod s1 100000000)) 10000) 100)) * 2)) + 1))), (61, .int .u32 (IntKind.wrap .u32 ((IntKind.wrap .u32 (Int.tdiv (Int.tmod (IntKind.wrap .u32 (Int.tmod s1 100000000)) 10000) 100)) * 2))), (60, .int .i64 (IntKind.wrap .i64 (s2 - 4))), (59, .int .i64 s2), (58, Sl.v a0), (57, .int .i64 (IntKind.wrap .i64 (s2 - 3))), (56, .int .i64 s2), (55, Sl.v a0)] ?_
    refine OJ.idxT (d := 63) (T := 9) (y := .const (.string str1)) (j := .tmp 62) (k := .u32) (fun hb79 hb80 => ?_)
    refine OJ.go 1 [(64, .int .u32 (IntKind.wrap .u32 ((IntKind.wrap .u32 (Int.tdiv (Int.tmod (IntKind.wrap .u32 (Int.tmod s1 100000000)) 10000) 100)) * 2)))] ?_
    refine OJ.idxT (d := 65) (T := 9) (y := .const (.string str1)) (j := .tmp 64) (k := .u32) (fun hb81 hb82 => ?_)
    refine OJ.idxS (d := 66) (T := 36) (y := .tmp 55) (j := .tmp 57) (E := 5) (cap := a0.cap) (k := .i64) (fun p83 => ?_)
    refine OJ.st (y := .tmp 66) (z := .tmp 63) (owed := []) Ty5 ?_
    refine OW.nil ?_
    refine OJ.idxS (d := 67) (T := 36) (y := .tmp 58) (j := .tmp 60) (E := 5) (cap := a0.cap) (k := .i64) (fun p84 => ?_)
    refine OJ.st (y := .tmp 67) (z := .tmp 65) (owed := []) Ty5 ?_
    refine OW.nil ?_
    refine OJ.nil ?_
    refine SJ.seq ?_
    refine SJ.draw (id := 9) (kd := [0, 0, 0, 0, 0, 0, 0, 0, 0, 0, 0, 0, 2, 0, 2]) (bef := [0, 0, 2, 0, 0, 16, 0, 64, 192, 0, 512, 455, 2503, 8191, 16383]) (ord := [0, 1, 2, 3, 4, 5, 6, 7, 8, 9, 10, 11, 12, 13, 14]) mixed ?_
    refine OJ.go 8 [(75, .int .u32 (IntKind.wrap .u32 ((IntKind.wrap .u32 ((Int.tmod (IntKind.wrap .u32 (Int.tdiv (IntKind.wrap .u32 (Int.tmod s1 100000000)) 10000)) 100) * 2)) + 1))), (74, .int .u32 (IntKind.wrap .u32 ((Int.tmod (IntKind.wrap .u32 (Int.tdiv (IntKind.wrap .u32 (Int.tmod s1 100000000)) 10000)) 100) * 2))), (73, .int .i64 (IntKind.wrap .i64 (s2 - 6))), (72, .int .i64 s2), (71, Sl.v a0), (70, .int .i64 (IntKind.wrap .i64 (s2 - 5))), (69, .int .i64 s2), (68, Sl.v a0)] ?_
    refine OJ.idxT (d := 76) (T := 9) (y := .const (.string str1)) (j := .tmp 75) (k := .u32) (fun hb85 hb86 => ?_)
    refine OJ.go 1 [(77, .int .u32 (IntKind.wrap .u32 ((Int.tmod (IntKind.wrap .u32 (Int.tdiv (IntKind.wrap .u32 (Int.tmod s1 100000000)) 10000)) 100) * 2)))] ?_
    refine OJ.idxT (d := 78) (T := 9) (y := .const (.string str1)) (j := .tmp 77) (k := .u32) (fun hb87 hb88 => ?_)
    refine OJ.idxS (d := 79) (T := 36) (y := .tmp 68) (j := .tmp 70) (E := 5) (cap := a0.cap) (k := .i64) (fun p89 => ?_)
    refine OJ.st (y := .tmp 79) (z := .tmp 76) (owed := []) Ty5 ?_
    refine OW.nil ?_
    refine OJ.idxS (d := 80) (T := 36) (y := .tmp 71) (j := .tmp 73) (E := 5) (cap := a0.cap) (k := .i64) (fun p90 => ?_)
    refine OJ.st (y := .tmp 80) (z := .tmp 78) (owed := []) Ty5 ?_
    refine OW.nil ?_
    refine OJ.nil ?_
    refine SJ.seq ?_
    refine SJ.draw (id := 10) (kd := [0, 0, 0, 0, 0, 0, 0, 0, 0, 0, 0, 0, 2, 0, 2]) (bef := [0, 0, 2, 0, 0, 16, 0, 64, 192, 0, 512, 455, 2503, 8191, 16383]) (ord := [0, 1, 2, 3, 4, 5, 6, 7, 8, 9, 10, 11, 12, 13, 14]) mixed ?_
    refine OJ.go 8 [(88, .int .u32 (IntKind.wrap .u32 ((IntKind.wrap .u32 ((IntKind.wrap .u32 (Int.tdiv (IntKind.wrap .u32 (Int.tdiv (IntKind.wrap .u32 (Int.tmod s1 100000000)) 10000)) 100)) * 2)) + 1))), (87, .int .u32 (IntKind.wrap .u32 ((IntKind.wrap .u32 (Int.tdiv (IntKind.wrap .u32 (Int.tdiv (IntKind.wrap .u32 (Int.tmod s1 100000000)) 10000)) 100)) * 2))), (86, .int .i64 (IntKind.wrap .i64 (s2 - 8))), (85, .int .i64 s2), (84, Sl.v a0), (83, .int .i64 (IntKind.wrap .i64 (s2 - 7))), (82, .int .i64 s2), (81, Sl.v a0)] ?_
    refine OJ.idxT (d := 89) (T := 9) (y := .const (.string str1)) (j := .tmp 88) (k := .u32) (fun hb91 hb92 => ?_)
    refine OJ.go 1 [(90, .int .u32 (IntKind.wrap .u32 ((IntKind.wrap .u32 (Int.tdiv (IntKind.wrap .u32 (Int.tdiv (IntKind.wrap .u32 (Int.tmod s1 100000000)) 10000)) 100)) * 2)))] ?_
    refine OJ.idxT (d := 91) (T := 9) (y := .const (.string str1)) (j := .tmp 90) (k := .u32) (fun hb93 hb94 => ?_)
    refine OJ.idxS (d := 92) (T := 36) (y := .tmp 81) (j := .tmp 83) (E := 5) (cap := a0.cap) (k := .i64) (fun p95 => ?_)
    refine OJ.st (y := .tmp 92) (z := .tmp 89) (owed := []) Ty5 ?_
    refine OW.nil ?_
    refine OJ.idxS (d := 93) (T := 36) (y := .tmp 84) (j := .tmp 86) (E := 5) (cap := a0.cap) (k := .i64) (fun p96 => ?_)
    refine OJ.st (y := .tmp 93) (z := .tmp 91) (owed := []) Ty5 ?_
    refine OW.nil ?_
    refine OJ.nil ?_
    refine SJ.rg 3 ?_
    refine OJ.go 3 [(4, .int .i64 (IntKind.wrap .i64 (s2 - 8))), (95, .int .i64 (IntKind.wrap .i64 (s2 - 8))), (94, .int .i64 s2)] ?_
    refine OJ.nil ?_
    refine SJ.inBlock ?_
    exact SJ.at_ [0, 1, 4] rfl
  · refine SJ.exit (id := 0) (by rfl) ?_
    refine SJ.less [0, 1, 4] (m' := [(0, Sl.v a0), (1, .int .u64 s1), (4, .int .i64 s2)]) ?_
    refine SJ.done ?_
    exact strconv_formatBase10.K3_ok a0 s1 s2
noncomputable def strconv_formatBase10 (a0 : Sl) (a1 : Int) : M Unit :=
  loopM (fun s_ : (Int × Int) => strconv_formatBase10.L1 a0 s_.1 s_.2) (a1, (a0.len : Int))
theorem strconv_formatBase10_ok (a0 : Sl) (a1 : Int) : Ref Tryd.prog 13 [Sl.v a0, .int .u64 a1] (strconv_formatBase10 a0 a1) strconv_formatBase10.out := by
  refine Ref.of (cd := strconv_formatBase10.B) Tryd.func13 ?_
  show SJ strconv_formatBase10.cx [.code strconv_formatBase10.B] [(0, Sl.v a0), (1, .int .u64 a1)] [] (strconv_formatBase10 a0 a1) strconv_formatBase10.F0
  unfold strconv_formatBase10
  refine SJ.sr 3 ?_
  refine OJ.go 3 [(4, .int .i64 (a0.len : Int)), (18, .int .i64 (a0.len : Int)), (17, Sl.v a0)] ?_
  refine OJ.nil ?_
  refine SJ.seq ?_
  refine SJ.block (id := 0) ?_
  exact SJ.loop (fun s_ : (Int × Int) => [(0, Sl.v a0), (1, .int .u64 s_.1), (4, .int .i64 s_.2)]) (fun s_ : (Int × Int) => []) [0, 1, 4] rfl (fun _ _ => rfl) (fun s_ => strconv_formatBase10.L1_ok a0 s_.1 s_.2)

/-! ### internal/strconv.isPowerOfTwo: function 18 -/
noncomputable def strconv_isPowerOfTwo.B : Code := (Tryd.f18.body).getD .skip
noncomputable def strconv_isPowerOfTwo.cx : Fx := ⟨Tryd.prog, 18, Tryd.f18⟩
noncomputable def strconv_isPowerOfTwo.out (r_ : Bool) : Value := .bool r_
noncomputable def strconv_isPowerOfTwo.F0 (r_ : Bool) : Reach := .ret (strconv_isPowerOfTwo.out r_)
noncomputable def strconv_isPowerOfTwo (a0 : Int) : M Bool :=
  pure ((band .i64 a0 (IntKind.wrap .i64 (a0 - 1))) == 0)
theorem strconv_isPowerOfTwo_ok (a0 : Int) : Ref Tryd.prog 18 [.int .i64 a0] (strconv_isPowerOfTwo a0) strconv_isPowerOfTwo.out := by
  refine Ref.of (cd := strconv_isPowerOfTwo.B) Tryd.func18 ?_
  show SJ strconv_isPowerOfTwo.cx [.code strconv_isPowerOfTwo.B] [(0, .int .i64 a0)] [] (strconv_isPowerOfTwo a0) strconv_isPowerOfTwo.F0
  unfold strconv_isPowerOfTwo
  refine SJ.sr 1 ?_
  refine OJ.go 1 [(2, .bool false)] ?_
  refine OJ.nil ?_
  refine SJ.sr 6 ?_
  refine OJ.go 6 [(2, .bool ((band .i64 a0 (IntKind.wrap .i64 (a0 - 1))) == 0)), (7, .bool ((band .i64 a0 (IntKind.wrap .i64 (a0 - 1))) == 0)), (6, .int .i64 (band .i64 a0 (IntKind.wrap .i64 (a0 - 1)))), (5, .int .i64 (IntKind.wrap .i64 (a0 - 1))), (4, .int .i64 a0), (3, .int .i64 a0)] ?_
  refine OJ.nil ?_
  exact SJ.ret rfl (Res.run (ys := [.bool ((band .i64 a0 (IntKind.wrap .i64 (a0 - 1))) == 0)]) (.tmp (by kernel_rfl) .nil) rfl)

/-! ### math/bits.TrailingZeros32: function 20 -/
noncomputable def bits_TrailingZeros32.B : Code := (Tryd.f20.body).getD .skip
noncomputable def bits_TrailingZeros32.cx : Fx := ⟨Tryd.prog, 20, Tryd.f20⟩
noncomputable def bits_TrailingZeros32.out (r_ : Int) : Value := .int .i64 r_
noncomputable def bits_TrailingZeros32.F0 (r_ : Int) : Reach := .ret (bits_TrailingZeros32.out r_)
noncomputable def bits_TrailingZeros32 (a0 : Int) : M Int :=
  if a0 = 0 then
    pure 32
  else
    idx (some ⟨1, 0, none⟩) 32 (Int.fdiv (IntKind.wrap .u32 ((band .u32 a0 (IntKind.wrap .u32 (0 - a0))) * 125613361)) (2 ^ 27)) 1 >>= fun p1 =>
    ld (cI .u8) p1 >>= fun x2 =>
    pure (IntKind.wrap .i64 x2)
theorem bits_TrailingZeros32_ok (a0 : Int) : Ref Tryd.prog 20 [.int .u32 a0] (bits_TrailingZeros32 a0) bits_TrailingZeros32.out := by
  refine Ref.of (cd := bits_TrailingZeros32.B) Tryd.func20 ?_
  show SJ bits_TrailingZeros32.cx [.code bits_TrailingZeros32.B] [(0, .int .u32 a0)] [] (bits_TrailingZeros32 a0) bits_TrailingZeros32.F0
  unfold bits_TrailingZeros32
  refine SJ.sr 1 ?_
  refine OJ.go 1 [(2, .int .i64 0)] ?_
  refine OJ.nil ?_
  refine SJ.seq ?_
  refine SJ.sr 2 ?_
  refine OJ.go 2 [(4, .bool (a0 == 0)), (3, .int .u32 a0)] ?_
  refine OJ.nil ?_
  refine SJ.cond (t := (.tmp 4)) (b := (a0 == 0)) beq_iff_eq (fun hc3 => ?_) (fun hc3 => ?_)
  · refine SJ.sr 1 ?_
    refine OJ.go 1 [(2, .int .i64 32)] ?_
    refine OJ.nil ?_
    exact SJ.ret rfl (Res.run (ys := [.int .i64 32]) (.tmp (by kernel_rfl) .nil) rfl)
  · refine SJ.skip ?_
    refine SJ.sr 10 ?_
    refine OJ.go 6 [(10, .int .u32 (Int.fdiv (IntKind.wrap .u32 ((band .u32 a0 (IntKind.wrap .u32 (0 - a0))) * 125613361)) (2 ^ 27))), (9, .int .u32 (IntKind.wrap .u32 ((band .u32 a0 (IntKind.wrap .u32 (0 - a0))) * 125613361))), (8, .int .u32 (band .u32 a0 (IntKind.wrap .u32 (0 - a0)))), (7, .int .u32 (IntKind.wrap .u32 (0 - a0))), (6, .int .u32 a0), (5, .int .u32 a0)] ?_
    refine OJ.idxA (d := 11) (T := 48) (y := .global 1) (j := .tmp 10) (E := 5) (k := .u32) (fun p1 => ?_)
    refine OJ.ld (d := 12) (y := .tmp 11) (pend2 := fun x2 => []) Ty5 (fun _ => rfl) (fun x2 => ?_)
    refine OJ.go 2 [(2, .int .i64 (IntKind.wrap .i64 x2)), (13, .int .i64 (IntKind.wrap .i64 x2))] ?_
    refine OJ.nil ?_
    exact SJ.ret rfl (Res.run (ys := [.int .i64 (IntKind.wrap .i64 x2)]) (.tmp (by kernel_rfl) .nil) rfl)

/-! ### math/bits.TrailingZeros64: function 21 -/
noncomputable def bits_TrailingZeros64.B : Code := (Tryd.f21.body).getD .skip
noncomputable def bits_TrailingZeros64.cx : Fx := ⟨Tryd.prog, 21, Tryd.f21⟩
noncomputable def bits_TrailingZeros64.out (r_ : Int) : Value := .int .i64 r_
noncomputable def bits_TrailingZeros64.F0 (r_ : Int) : Reach := .ret (bits_TrailingZeros64.out r_)
noncomputable def bits_TrailingZeros64 (a0 : Int) : M Int :=
  if a0 = 0 then
    pure 64
  else
    idx (some ⟨2, 0, none⟩) 64 (Int.fdiv (IntKind.wrap .u64 ((band .u64 a0 (IntKind.wrap .u64 (0 - a0))) * 285870213051353865)) (2 ^ 58)) 1 >>= fun p1 =>
    ld (cI .u8) p1 >>= fun x2 =>
    pure (IntKind.wrap .i64 x2)
theorem bits_TrailingZeros64_ok (a0 : Int) : Ref Tryd.prog 21 [.int .u64 a0] (bits_TrailingZeros64 a0) bits_TrailingZeros64.out := by
  refine Ref.of (cd := bits_TrailingZeros64.B) Tryd.func21 ?_
  show SJ bits_TrailingZeros64.cx [.code bits_TrailingZeros64.B] [(0, .int .u64 a0)] [] (bits_TrailingZeros64 a0) bits_TrailingZeros64.F0
  unfold bits_TrailingZeros64
  refine SJ.sr 1 ?_
  refine OJ.go 1 [(2, .int .i64 0)] ?_
  refine OJ.nil ?_
  refine SJ.seq ?_
  refine SJ.sr 2 ?_
  refine OJ.go 2 [(4, .bool (a0 == 0)), (3, .int .u64 a0)] ?_
  refine OJ.nil ?_
  refine SJ.cond (t := (.tmp 4)) (b := (a0 == 0)) beq_iff_eq (fun hc3 => ?_) (fun hc3 => ?_)
  · refine SJ.sr 1 ?_
    refine OJ.go 1 [(2, .int .i64 64)] ?_
    refine OJ.nil ?_
    exact SJ.ret rfl (Res.run (ys := [.int .i64 64]) (.tmp (by kernel_rfl) .nil) rfl)
  · refine SJ.skip ?_
    refine SJ.sr 10 ?_
    refine OJ.go 6 [(10, .int .u64 (Int.fdiv (IntKind.wrap .u64 ((band .u64 a0 (IntKind.wrap .u64 (0 - a0))) * 285870213051353865)) (2 ^ 58))), (9, .int .u64 (IntKind.wrap .u64 ((band .u64 a0 (IntKind.wrap .u64 (0 - a0))) * 285870213051353865))), (8, .int .u64 (band .u64 a0 (IntKind.wrap .u64 (0 - a0)))), (7, .int .u64 (IntKind.wrap .u64 (0 - a0))), (6, .int .u64 a0), (5, .int .u64 a0)] ?_
    refine OJ.idxA (d := 11) (T := 49) (y := .global 2) (j := .tmp 10) (E := 5) (k := .u64) (fun p1 => ?_)
    refine OJ.ld (d := 12) (y := .tmp 11) (pend2 := fun x2 => []) Ty5 (fun _ => rfl) (fun x2 => ?_)
    refine OJ.go 2 [(2, .int .i64 (IntKind.wrap .i64 x2)), (13, .int .i64 (IntKind.wrap .i64 x2))] ?_
    refine OJ.nil ?_
    exact SJ.ret rfl (Res.run (ys := [.int .i64 (IntKind.wrap .i64 x2)]) (.tmp (by kernel_rfl) .nil) rfl)

/-! ### math/bits.TrailingZeros: function 19 -/
noncomputable def bits_TrailingZeros.B : Code := (Tryd.f19.body).getD .skip
noncomputable def bits_TrailingZeros.cx : Fx := ⟨Tryd.prog, 19, Tryd.f19⟩
noncomputable def bits_TrailingZeros.out (r_ : Int) : Value := .int .i64 r_
noncomputable def bits_TrailingZeros.F0 (r_ : Int) : Reach := .ret (bits_TrailingZeros.out r_)
noncomputable def bits_TrailingZeros (a0 : Int) : M Int :=
  bits_TrailingZeros64 a0 >>= fun r1 =>
  pure r1
theorem bits_TrailingZeros_ok (a0 : Int) : Ref Tryd.prog 19 [.int .u64 a0] (bits_TrailingZeros a0) bits_TrailingZeros.out := by
  refine Ref.of (cd := bits_TrailingZeros.B) Tryd.func19 ?_
  show SJ bits_TrailingZeros.cx [.code bits_TrailingZeros.B] [(0, .int .u64 a0)] [] (bits_TrailingZeros a0) bits_TrailingZeros.F0
  unfold bits_TrailingZeros
  refine SJ.sr 1 ?_
  refine OJ.go 1 [(2, .int .i64 0)] ?_
  refine OJ.nil ?_
  refine SJ.seq ?_
  refine SJ.cond0 (t := (.const (.bool false))) ?_
  refine SJ.skip ?_
  refine SJ.sr 3 ?_
  refine OJ.go 1 [(6, .int .u64 a0)] ?_
  refine OJ.call (d := 7) (g := 21) (ats := #[33]) (args := [.tmp 6]) (owed := []) F21 (bits_TrailingZeros64_ok a0) (fun r1 => ?_)
  refine OW.nil ?_
  refine OJ.go 1 [(2, .int .i64 r1)] ?_
  refine OJ.nil ?_
  exact SJ.ret rfl (Res.run (ys := [.int .i64 r1]) (.tmp (by kernel_rfl) .nil) rfl)

/-! ### internal/strconv.formatBits: function 14 -/
noncomputable def strconv_formatBits.B : Code := (Tryd.f14.body).getD .skip
noncomputable def strconv_formatBits.cx : Fx := ⟨Tryd.prog, 14, Tryd.f14⟩
noncomputable def strconv_formatBits.out (r_ : (Sl × ByteArray)) : Value := .tuple #[Sl.v r_.1, .string r_.2]
noncomputable def strconv_formatBits.F0 (r_ : (Sl × ByteArray)) : Reach := .ret (strconv_formatBits.out r_)
noncomputable def strconv_formatBits.K1 (a0 : Sl) (a3 : Bool) (a4 : Bool) (b3 : Nat) (j37 : Int) : M (Sl × ByteArray) :=
  if a3 = true then
    idx (some (pt b3 0)) 65 (IntKind.wrap .i64 (j37 - 1)) 1 >>= fun p39 =>
    st (cI .u8) p39 45 >>= fun _ =>
    if a4 = true then
      cut 1 ⟨some (pt b3 0), 65, 65⟩ (some (IntKind.wrap .i64 (j37 - 1))) none none >>= fun r42 =>
      appS (cI .u8) 5 1 0 a0 r42 >>= fun r43 =>
      pure (r43, ByteArray.empty)
    else
      cut 1 ⟨some (pt b3 0), 65, 65⟩ (some (IntKind.wrap .i64 (j37 - 1))) none none >>= fun r44 =>
      toStr r44 >>= fun r45 =>
      pure (Sl.nil, r45)
  else
    if a4 = true then
      cut 1 ⟨some (pt b3 0), 65, 65⟩ (some j37) none none >>= fun r49 =>
      appS (cI .u8) 5 1 0 a0 r49 >>= fun r50 =>
      pure (r50, ByteArray.empty)
    else
      cut 1 ⟨some (pt b3 0), 65, 65⟩ (some j37) none none >>= fun r51 =>
      toStr r51 >>= fun r52 =>
      pure (Sl.nil, r52)
theorem strconv_formatBits.K1_ok (a0 : Sl) (a3 : Bool) (a4 : Bool) (b3 : Nat) (j37 : Int) :
    SJ strconv_formatBits.cx [.code (c2 (c2 (c2 (c2 (c2 (c2 strconv_formatBits.B))))))] [(0, Sl.v a0), (3, .bool a3), (4, .bool a4), (10, Sl.v Sl.nil), (11, .string ByteArray.empty), (12, .pointer (some (pt b3 0))), (13, .int .i64 j37)] [] (strconv_formatBits.K1 a0 a3 a4 b3 j37) strconv_formatBits.F0 := by
  unfold strconv_formatBits.K1
  refine SJ.seq ?_
  refine SJ.sr 1 ?_
  refine OJ.go 1 [(89, .bool a3)] ?_
  refine OJ.nil ?_
  refine SJ.cond (t := (.tmp 89)) (b := a3) Iff.rfl (fun hc54 => ?_) (fun hc54 => ?_)
  · refine SJ.sr 3 ?_
    refine OJ.go 3 [(13, .int .i64 (IntKind.wrap .i64 (j37 - 1))), (91, .int .i64 (IntKind.wrap .i64 (j37 - 1))), (90, .int .i64 j37)] ?_
    refine OJ.nil ?_
    refine SJ.rg 3 ?_
    refine OJ.go 1 [(92, .int .i64 (IntKind.wrap .i64 (j37 - 1)))] ?_
    refine OJ.idxA (d := 93) (T := 43) (y := .tmp 12) (j := .tmp 92) (E := 5) (k := .i64) (fun p39 => ?_)
    refine OJ.st (y := .tmp 93) (z := .const (.int .u8 45)) (owed := []) Ty5 ?_
    refine OW.nil ?_
    refine OJ.nil ?_
    refine SJ.seq ?_
    refine SJ.sr 1 ?_
    refine OJ.go 1 [(94, .bool a4)] ?_
    refine OJ.nil ?_
    refine SJ.cond (t := (.tmp 94)) (b := a4) Iff.rfl (fun hc46 => ?_) (fun hc46 => ?_)
    · refine SJ.sr 5 ?_
      refine OJ.go 2 [(96, .int .i64 (IntKind.wrap .i64 (j37 - 1))), (95, Sl.v a0)] ?_
      refine OJ.cutA (d := 97) (t := 43) (E := 5) (y := .tmp 12) (lo := (some (.tmp 96))) (hi := none) (mx := none) (lo' := some (.i64, IntKind.wrap .i64 (j37 - 1))) (hi' := none) (mx' := none) (fun h => by cases h) (fun r42 => ?_)
      refine OJ.appS (d := 98) (t := 36) (u := 36) (so := .tmp 95) (xo := .tmp 97) (owed := []) Ty5 (fun r43 => ?_)
      refine OW.nil ?_
      refine OJ.go 1 [(10, Sl.v r43)] ?_
      refine OJ.nil ?_
      exact SJ.ret rfl (Res.run (ys := [Sl.v r43, .string ByteArray.empty]) (.tmp (by kernel_rfl) (.tmp (by kernel_rfl) .nil)) rfl)
    · refine SJ.skip ?_
      refine SJ.sr 4 ?_
      refine OJ.go 1 [(99, .int .i64 (IntKind.wrap .i64 (j37 - 1)))] ?_
      refine OJ.cutA (d := 100) (t := 43) (E := 5) (y := .tmp 12) (lo := (some (.tmp 99))) (hi := none) (mx := none) (lo' := some (.i64, IntKind.wrap .i64 (j37 - 1))) (hi' := none) (mx' := none) (fun h => by cases h) (fun r44 => ?_)
      refine OJ.toStr (d := 101) (t := 36) (u := 9) (E := 5) (x := .tmp 100) (owed := []) (fun r45 => ?_)
      refine OW.nil ?_
      refine OJ.go 1 [(11, .string r45)] ?_
      refine OJ.nil ?_
      exact SJ.ret rfl (Res.run (ys := [Sl.v Sl.nil, .string r45]) (.tmp (by kernel_rfl) (.tmp (by kernel_rfl) .nil)) rfl)
  · refine SJ.skip ?_
    refine SJ.seq ?_
    refine SJ.sr 1 ?_
    refine OJ.go 1 [(94, .bool a4)] ?_
    refine OJ.nil ?_
    refine SJ.cond (t := (.tmp 94)) (b := a4) Iff.rfl (fun hc53 => ?_) (fun hc53 => ?_)
    · refine SJ.sr 5 ?_
      refine OJ.go 2 [(96, .int .i64 j37), (95, Sl.v a0)] ?_
      refine OJ.cutA (d := 97) (t := 43) (E := 5) (y := .tmp 12) (lo := (some (.tmp 96))) (hi := none) (mx := none) (lo' := some (.i64, j37)) (hi' := none) (mx' := none) (fun h => by cases h) (fun r49 => ?_)
      refine OJ.appS (d := 98) (t := 36) (u := 36) (so := .tmp 95) (xo := .tmp 97) (owed := []) Ty5 (fun r50 => ?_)
      refine OW.nil ?_
      refine OJ.go 1 [(10, Sl.v r50)] ?_
      refine OJ.nil ?_
      exact SJ.ret rfl (Res.run (ys := [Sl.v r50, .string ByteArray.empty]) (.tmp (by kernel_rfl) (.tmp (by kernel_rfl) .nil)) rfl)
    · refine SJ.skip ?_
      refine SJ.sr 4 ?_
      refine OJ.go 1 [(99, .int .i64 j37)] ?_
      refine OJ.cutA (d := 100) (t := 43) (E := 5) (y := .tmp 12) (lo := (some (.tmp 99))) (hi := none) (mx := none) (lo' := some (.i64, j37)) (hi' := none) (mx' := none) (fun h => by cases h) (fun r51 => ?_)
      refine OJ.toStr (d := 101) (t := 36) (u := 9) (E := 5) (x := .tmp 100) (owed := []) (fun r52 => ?_)
      refine OW.nil ?_
      refine OJ.go 1 [(11, .string r52)] ?_
      refine OJ.nil ?_
      exact SJ.ret rfl (Res.run (ys := [Sl.v Sl.nil, .string r52]) (.tmp (by kernel_rfl) (.tmp (by kernel_rfl) .nil)) rfl)
noncomputable def strconv_formatBits.K2 (a0 : Sl) (a3 : Bool) (a4 : Bool) (b3 : Nat) (s56 : Int) (s57 : Int) : M (Sl × ByteArray) :=
  chk ((0 : Int) ≤ s56 ∧ s56 < (str0.size : Int)) >>= fun _ =>
  idx (some (pt b3 0)) 65 (IntKind.wrap .i64 (s57 - 1)) 1 >>= fun p65 =>
  st (cI .u8) p65 (sb str0 s56) >>= fun _ =>
  strconv_formatBits.K1 a0 a3 a4 b3 (IntKind.wrap .i64 (s57 - 1))
theorem strconv_formatBits.K2_ok (a0 : Sl) (a3 : Bool) (a4 : Bool) (b3 : Nat) (s56 : Int) (s57 : Int) :
    SJ strconv_formatBits.cx [.code (c2 (c2 (c2 (c2 (c1 (c2 (c1 (c2 (c2 (c2 (c2 (c2 strconv_formatBits.B)))))))))))), .code (c2 (c2 (c2 (c2 (c2 (c2 strconv_formatBits.B))))))] [(0, Sl.v a0), (1, .int .u64 s56), (3, .bool a3), (4, .bool a4), (10, Sl.v Sl.nil), (11, .string ByteArray.empty), (12, .pointer (some (pt b3 0))), (13, .int .i64 s57)] [] (strconv_formatBits.K2 a0 a3 a4 b3 s56 s57) strconv_formatBits.F0 := by
  unfold strconv_formatBits.K2
  refine SJ.sr 3 ?_
  refine OJ.go 3 [(13, .int .i64 (IntKind.wrap .i64 (s57 - 1))), (59, .int .i64 (IntKind.wrap .i64 (s57 - 1))), (58, .int .i64 s57)] ?_
  refine OJ.nil ?_
  refine SJ.rg 5 ?_
  refine OJ.go 2 [(61, .int .u64 s56), (60, .int .i64 (IntKind.wrap .i64 (s57 - 1)))] ?_
  refine OJ.idxT (d := 62) (T := 9) (y := .const (.string str0)) (j := .tmp 61) (k := .u64) (fun hb63 hb64 => ?_)
  refine OJ.idxA (d := 63) (T := 43) (y := .tmp 12) (j := .tmp 60) (E := 5) (k := .i64) (fun p65 => ?_)
  refine OJ.st (y := .tmp 63) (z := .tmp 62) (owed := []) Ty5 ?_
  refine OW.nil ?_
  refine OJ.nil ?_
  refine SJ.less [0, 3, 4, 10, 11, 12, 13] (m' := [(0, Sl.v a0), (3, .bool a3), (4, .bool a4), (10, Sl.v Sl.nil), (11, .string ByteArray.empty), (12, .pointer (some (pt b3 0))), (13, .int .i64 (IntKind.wrap .i64 (s57 - 1)))]) ?_
  exact strconv_formatBits.K1_ok a0 a3 a4 b3 (IntKind.wrap .i64 (s57 - 1))
noncomputable def strconv_formatBits.F1 (a0 : Sl) (a2 : Int) (a3 : Bool) (a4 : Bool) (b3 : Nat) (r55 : Int) : (LS (Int × Int) (Sl × ByteArray)) → Reach := loopF [.inLoop (c1 (c1 (c1 (c2 (c2 (c2 (c1 (c2 (c1 (c2 (c2 (c2 (c2 (c2 strconv_formatBits.B)))))))))))))), .inBlock 0, .code (c2 (c2 (c2 (c2 (c1 (c2 (c1 (c2 (c2 (c2 (c2 (c2 strconv_formatBits.B)))))))))))), .code (c2 (c2 (c2 (c2 (c2 (c2 strconv_formatBits.B))))))] (fun s_ : (Int × Int) => [(0, Sl.v a0), (1, .int .u64 s_.1), (3, .bool a3), (4, .bool a4), (10, Sl.v Sl.nil), (11, .string ByteArray.empty), (12, .pointer (some (pt b3 0))), (13, .int .i64 s_.2), (14, .int .u64 (IntKind.wrap .u64 r55)), (15, .int .u64 (IntKind.wrap .u64 a2)), (16, .int .u64 (IntKind.wrap .u64 ((IntKind.wrap .u64 a2) - 1)))]) (fun s_ : (Int × Int) => []) strconv_formatBits.F0
noncomputable def strconv_formatBits.L1 (a0 : Sl) (a2 : Int) (a3 : Bool) (a4 : Bool) (b3 : Nat) (r55 : Int) (s56 : Int) (s57 : Int) : M (LS (Int × Int) (Sl × ByteArray)) :=
  if s56 ≥ (IntKind.wrap .u64 a2) then
    chk ((0 : Int) ≤ (band .u64 s56 (IntKind.wrap .u64 ((IntKind.wrap .u64 a2) - 1))) ∧ (band .u64 s56 (IntKind.wrap .u64 ((IntKind.wrap .u64 a2) - 1))) < (str0.size : Int)) >>= fun _ =>
    idx (some (pt b3 0)) 65 (IntKind.wrap .i64 (s57 - 1)) 1 >>= fun p68 =>
    st (cI .u8) p68 (sb str0 (band .u64 s56 (IntKind.wrap .u64 ((IntKind.wrap .u64 a2) - 1)))) >>= fun _ =>
    chk (0 ≤ (IntKind.wrap .u64 r55)) >>= fun _ =>
    pure (LS.next (Int.fdiv s56 (2 ^ min (Int.toNat (IntKind.wrap .u64 r55)) 64), IntKind.wrap .i64 (s57 - 1)))
  else
    (strconv_formatBits.K2 a0 a3 a4 b3 s56 s57) >>= fun b => pure (LS.done b)
theorem strconv_formatBits.L1_ok (a0 : Sl) (a2 : Int) (a3 : Bool) (a4 : Bool) (b3 : Nat) (r55 : Int) (s56 : Int) (s57 : Int) :
    SJ strconv_formatBits.cx [.code (c1 (c1 (c1 (c2 (c2 (c2 (c1 (c2 (c1 (c2 (c2 (c2 (c2 (c2 strconv_formatBits.B)))))))))))))), .inLoop (c1 (c1 (c1 (c2 (c2 (c2 (c1 (c2 (c1 (c2 (c2 (c2 (c2 (c2 strconv_formatBits.B)))))))))))))), .inBlock 0, .code (c2 (c2 (c2 (c2 (c1 (c2 (c1 (c2 (c2 (c2 (c2 (c2 strconv_formatBits.B)))))))))))), .code (c2 (c2 (c2 (c2 (c2 (c2 strconv_formatBits.B))))))] [(0, Sl.v a0), (1, .int .u64 s56), (3, .bool a3), (4, .bool a4), (10, Sl.v Sl.nil), (11, .string ByteArray.empty), (12, .pointer (some (pt b3 0))), (13, .int .i64 s57), (14, .int .u64 (IntKind.wrap .u64 r55)), (15, .int .u64 (IntKind.wrap .u64 a2)), (16, .int .u64 (IntKind.wrap .u64 ((IntKind.wrap .u64 a2) - 1)))] [] (strconv_formatBits.L1 a0 a2 a3 a4 b3 r55 s56 s57) (strconv_formatBits.F1 a0 a2 a3 a4 b3 r55) := by
  unfold strconv_formatBits.L1
  refine SJ.seq ?_
  refine SJ.sr 3 ?_
  refine OJ.go 3 [(46, .bool (decide (s56 ≥ (IntKind.wrap .u64 a2)))), (45, .int .u64 (IntKind.wrap .u64 a2)), (44, .int .u64 s56)] ?_
  refine OJ.nil ?_
  refine SJ.cond (t := (.tmp 46)) (b := decide (s56 ≥ (IntKind.wrap .u64 a2))) decide_eq_true_iff (fun hc70 => ?_) (fun hc70 => ?_)
  · refine SJ.skip ?_
    refine SJ.block (id := 1) ?_
    refine SJ.sr 3 ?_
    refine OJ.go 3 [(13, .int .i64 (IntKind.wrap .i64 (s57 - 1))), (48, .int .i64 (IntKind.wrap .i64 (s57 - 1))), (47, .int .i64 s57)] ?_
    refine OJ.nil ?_
    refine SJ.sr 7 ?_
    refine OJ.go 4 [(52, .int .u64 (band .u64 s56 (IntKind.wrap .u64 ((IntKind.wrap .u64 a2) - 1)))), (51, .int .u64 (IntKind.wrap .u64 ((IntKind.wrap .u64 a2) - 1))), (50, .int .u64 s56), (49, .int .i64 (IntKind.wrap .i64 (s57 - 1)))] ?_
    refine OJ.idxT (d := 53) (T := 9) (y := .const (.string str0)) (j := .tmp 52) (k := .u64) (fun hb66 hb67 => ?_)
    refine OJ.idxA (d := 54) (T := 43) (y := .tmp 12) (j := .tmp 49) (E := 5) (k := .i64) (fun p68 => ?_)
    refine OJ.st (y := .tmp 54) (z := .tmp 53) (owed := []) Ty5 ?_
    refine OW.nil ?_
    refine OJ.nil ?_
    refine SJ.rg 4 ?_
    refine OJ.go 2 [(56, .int .u64 (IntKind.wrap .u64 r55)), (55, .int .u64 s56)] ?_
    refine OJ.shr (d := 57) (T := 33) (yT := 45) (y := .tmp 55) (z := .tmp 56) (k := .u64) (yk := .u64) (p := s56) (q := (IntKind.wrap .u64 r55)) (fun hq69 => ?_)
    refine OJ.go 1 [(1, .int .u64 (Int.fdiv s56 (2 ^ min (Int.toNat (IntKind.wrap .u64 r55)) 64)))] ?_
    refine OJ.nil ?_
    refine SJ.inBlock ?_
    exact SJ.at_ [0, 1, 3, 4, 10, 11, 12, 13, 14, 15, 16] rfl
  · refine SJ.exit (id := 0) (by rfl) ?_
    refine SJ.less [0, 1, 3, 4, 10, 11, 12, 13] (m' := [(0, Sl.v a0), (1, .int .u64 s56), (3, .bool a3), (4, .bool a4), (10, Sl.v Sl.nil), (11, .string ByteArray.empty), (12, .pointer (some (pt b3 0))), (13, .int .i64 s57)]) ?_
    refine SJ.done ?_
    exact strconv_formatBits.K2_ok a0 a3 a4 b3 s56 s57
noncomputable def strconv_formatBits.K3 (a0 : Sl) (a3 : Bool) (a4 : Bool) (b3 : Nat) (s71 : Int) (s72 : Int) : M (Sl × ByteArray) :=
  chk ((0 : Int) ≤ s71 ∧ s71 < (str0.size : Int)) >>= fun _ =>
  idx (some (pt b3 0)) 65 (IntKind.wrap .i64 (s72 - 1)) 1 >>= fun p80 =>
  st (cI .u8) p80 (sb str0 s71) >>= fun _ =>
  strconv_formatBits.K1 a0 a3 a4 b3 (IntKind.wrap .i64 (s72 - 1))
theorem strconv_formatBits.K3_ok (a0 : Sl) (a3 : Bool) (a4 : Bool) (b3 : Nat) (s71 : Int) (s72 : Int) :
    SJ strconv_formatBits.cx [.code (c2 (c2 (c2 (c2 (c1 (c2 (c2 (c2 (c2 (c2 strconv_formatBits.B)))))))))), .code (c2 (c2 (c2 (c2 (c2 (c2 strconv_formatBits.B))))))] [(0, Sl.v a0), (1, .int .u64 s71), (3, .bool a3), (4, .bool a4), (10, Sl.v Sl.nil), (11, .string ByteArray.empty), (12, .pointer (some (pt b3 0))), (13, .int .i64 s72)] [] (strconv_formatBits.K3 a0 a3 a4 b3 s71 s72) strconv_formatBits.F0 := by
  unfold strconv_formatBits.K3
  refine SJ.sr 3 ?_
  refine OJ.go 3 [(13, .int .i64 (IntKind.wrap .i64 (s72 - 1))), (84, .int .i64 (IntKind.wrap .i64 (s72 - 1))), (83, .int .i64 s72)] ?_
  refine OJ.nil ?_
  refine SJ.rg 5 ?_
  refine OJ.go 2 [(86, .int .u64 s71), (85, .int .i64 (IntKind.wrap .i64 (s72 - 1)))] ?_
  refine OJ.idxT (d := 87) (T := 9) (y := .const (.string str0)) (j := .tmp 86) (k := .u64) (fun hb78 hb79 => ?_)
  refine OJ.idxA (d := 88) (T := 43) (y := .tmp 12) (j := .tmp 85) (E := 5) (k := .i64) (fun p80 => ?_)
  refine OJ.st (y := .tmp 88) (z := .tmp 87) (owed := []) Ty5 ?_
  refine OW.nil ?_
  refine OJ.nil ?_
  refine SJ.less [0, 3, 4, 10, 11, 12, 13] (m' := [(0, Sl.v a0), (3, .bool a3), (4, .bool a4), (10, Sl.v Sl.nil), (11, .string ByteArray.empty), (12, .pointer (some (pt b3 0))), (13, .int .i64 (IntKind.wrap .i64 (s72 - 1)))]) ?_
  exact strconv_formatBits.K1_ok a0 a3 a4 b3 (IntKind.wrap .i64 (s72 - 1))
noncomputable def strconv_formatBits.F2 (a0 : Sl) (a2 : Int) (a3 : Bool) (a4 : Bool) (b3 : Nat) : (LS (Int × Int) (Sl × ByteArray)) → Reach := loopF [.inLoop (c1 (c1 (c1 (c2 (c2 (c2 (c1 (c2 (c2 (c2 (c2 (c2 strconv_formatBits.B)))))))))))), .inBlock 2, .code (c2 (c2 (c2 (c2 (c1 (c2 (c2 (c2 (c2 (c2 strconv_formatBits.B)))))))))), .code (c2 (c2 (c2 (c2 (c2 (c2 strconv_formatBits.B))))))] (fun s_ : (Int × Int) => [(0, Sl.v a0), (1, .int .u64 s_.1), (3, .bool a3), (4, .bool a4), (10, Sl.v Sl.nil), (11, .string ByteArray.empty), (12, .pointer (some (pt b3 0))), (13, .int .i64 s_.2), (17, .int .u64 (IntKind.wrap .u64 a2))]) (fun s_ : (Int × Int) => []) strconv_formatBits.F0
noncomputable def strconv_formatBits.L2 (a0 : Sl) (a2 : Int) (a3 : Bool) (a4 : Bool) (b3 : Nat) (s71 : Int) (s72 : Int) : M (LS (Int × Int) (Sl × ByteArray)) :=
  if s71 ≥ (IntKind.wrap .u64 a2) then
    chk ((IntKind.wrap .u64 a2) ≠ 0) >>= fun _ =>
    chk ((0 : Int) ≤ (IntKind.wrap .u64 (s71 - (IntKind.wrap .u64 ((IntKind.wrap .u64 (Int.tdiv s71 (IntKind.wrap .u64 a2))) * (IntKind.wrap .u64 a2))))) ∧ (IntKind.wrap .u64 (s71 - (IntKind.wrap .u64 ((IntKind.wrap .u64 (Int.tdiv s71 (IntKind.wrap .u64 a2))) * (IntKind.wrap .u64 a2))))) < (str0.size : Int)) >>= fun _ =>
    idx (some (pt b3 0)) 65 (IntKind.wrap .i64 (s72 - 1)) 1 >>= fun p83 =>
    st (cI .u8) p83 (sb str0 (IntKind.wrap .u64 (s71 - (IntKind.wrap .u64 ((IntKind.wrap .u64 (Int.tdiv s71 (IntKind.wrap .u64 a2))) * (IntKind.wrap .u64 a2)))))) >>= fun _ =>
    pure (LS.next (IntKind.wrap .u64 (Int.tdiv s71 (IntKind.wrap .u64 a2)), IntKind.wrap .i64 (s72 - 1)))
  else
    (strconv_formatBits.K3 a0 a3 a4 b3 s71 s72) >>= fun b => pure (LS.done b)
theorem strconv_formatBits.L2_ok (a0 : Sl) (a2 : Int) (a3 : Bool) (a4 : Bool) (b3 : Nat) (s71 : Int) (s72 : Int) :
    SJ strconv_formatBits.cx [.code (c1 (c1 (c1 (c2 (c2 (c2 (c1 (c2 (c2 (c2 (c2 (c2 strconv_formatBits.B)))))))))))), .inLoop (c1 (c1 (c1 (c2 (c2 (c2 (c1 (c2 (c2 (c2 (c2 (c2 strconv_formatBits.B)))))))))))), .inBlock 2, .code (c2 (c2 (c2 (c2 (c1 (c2 (c2 (c2 (c2 (c2 strconv_formatBits.B)))))))))), .code (c2 (c2 (c2 (c2 (c2 (c2 strconv_formatBits.B))))))] [(0, Sl.v a0), (1, .int .u64 s71), (3, .bool a3), (4, .bool a4), (10, Sl.v Sl.nil), (11, .string ByteArray.empty), (12, .pointer (some (pt b3 0))), (13, .int .i64 s72), (17, .int .u64 (IntKind.wrap .u64 a2))] [] (strconv_formatBits.L2 a0 a2 a3 a4 b3 s71 s72) (strconv_formatBits.F2 a0 a2 a3 a4 b3) := by
  unfold strconv_formatBits.L2
  refine SJ.seq ?_
  refine SJ.sr 3 ?_
  refine OJ.go 3 [(68, .bool (decide (s71 ≥ (IntKind.wrap .u64 a2)))), (67, .int .u64 (IntKind.wrap .u64 a2)), (66, .int .u64 s71)] ?_
  refine OJ.nil ?_
  refine SJ.cond (t := (.tmp 68)) (b := decide (s71 ≥ (IntKind.wrap .u64 a2))) decide_eq_true_iff (fun hc85 => ?_) (fun hc85 => ?_)
  · refine SJ.skip ?_
    refine SJ.block (id := 3) ?_
    refine SJ.sr 3 ?_
    refine OJ.go 3 [(13, .int .i64 (IntKind.wrap .i64 (s72 - 1))), (70, .int .i64 (IntKind.wrap .i64 (s72 - 1))), (69, .int .i64 s72)] ?_
    refine OJ.nil ?_
    refine SJ.sr 4 ?_
    refine OJ.go 2 [(72, .int .u64 (IntKind.wrap .u64 a2)), (71, .int .u64 s71)] ?_
    refine OJ.quo (d := 73) (T := 33) (yT := 33) (y := .tmp 71) (z := .tmp 72) (p := s71) (q := (IntKind.wrap .u64 a2)) (k := .u64) (fun hq84 => ?_)
    refine OJ.go 1 [(18, .int .u64 (IntKind.wrap .u64 (Int.tdiv s71 (IntKind.wrap .u64 a2))))] ?_
    refine OJ.nil ?_
    refine SJ.sr 9 ?_
    refine OJ.go 6 [(79, .int .u64 (IntKind.wrap .u64 (s71 - (IntKind.wrap .u64 ((IntKind.wrap .u64 (Int.tdiv s71 (IntKind.wrap .u64 a2))) * (IntKind.wrap .u64 a2)))))), (78, .int .u64 (IntKind.wrap .u64 ((IntKind.wrap .u64 (Int.tdiv s71 (IntKind.wrap .u64 a2))) * (IntKind.wrap .u64 a2)))), (77, .int .u64 (IntKind.wrap .u64 a2)), (76, .int .u64 (IntKind.wrap .u64 (Int.tdiv s71 (IntKind.wrap .u64 a2)))), (75, .int .u64 s71), (74, .int .i64 (IntKind.wrap .i64 (s72 - 1)))] ?_
    refine OJ.idxT (d := 80) (T := 9) (y := .const (.string str0)) (j := .tmp 79) (k := .u64) (fun hb81 hb82 => ?_)
    refine OJ.idxA (d := 81) (T := 43) (y := .tmp 12) (j := .tmp 74) (E := 5) (k := .i64) (fun p83 => ?_)
    refine OJ.st (y := .tmp 81) (z := .tmp 80) (owed := []) Ty5 ?_
    refine OW.nil ?_
    refine OJ.nil ?_
    refine SJ.rg 2 ?_
    refine OJ.go 2 [(1, .int .u64 (IntKind.wrap .u64 (Int.tdiv s71 (IntKind.wrap .u64 a2)))), (82, .int .u64 (IntKind.wrap .u64 (Int.tdiv s71 (IntKind.wrap .u64 a2))))] ?_
    refine OJ.nil ?_
    refine SJ.inBlock ?_
    exact SJ.at_ [0, 1, 3, 4, 10, 11, 12, 13, 17] rfl
  · refine SJ.exit (id := 2) (by rfl) ?_
    refine SJ.less [0, 1, 3, 4, 10, 11, 12, 13] (m' := [(0, Sl.v a0), (1, .int .u64 s71), (3, .bool a3), (4, .bool a4), (10, Sl.v Sl.nil), (11, .string ByteArray.empty), (12, .pointer (some (pt b3 0))), (13, .int .i64 s72)]) ?_
    refine SJ.done ?_
    exact strconv_formatBits.K3_ok a0 a3 a4 b3 s71 s72
noncomputable def strconv_formatBits.K4 (a0 : Sl) (a2 : Int) (a3 : Bool) (a4 : Bool) (b3 : Nat) (j4 : Int) : M (Sl × ByteArray) :=
  strconv_isPowerOfTwo a2 >>= fun r5 =>
  if r5 = true then
    bits_TrailingZeros (IntKind.wrap .u64 a2) >>= fun r55 =>
    loopM (fun s_ : (Int × Int) => strconv_formatBits.L1 a0 a2 a3 a4 b3 r55 s_.1 s_.2) (j4, 65)
  else
    loopM (fun s_ : (Int × Int) => strconv_formatBits.L2 a0 a2 a3 a4 b3 s_.1 s_.2) (j4, 65)
theorem strconv_formatBits.K4_ok (a0 : Sl) (a2 : Int) (a3 : Bool) (a4 : Bool) (b3 : Nat) (j4 : Int) :
    SJ strconv_formatBits.cx [.code (c2 (c2 (c2 (c2 (c2 strconv_formatBits.B)))))] [(0, Sl.v a0), (1, .int .u64 j4), (2, .int .i64 a2), (3, .bool a3), (4, .bool a4), (10, Sl.v Sl.nil), (11, .string ByteArray.empty), (12, .pointer (some (pt b3 0))), (13, .int .i64 65)] [] (strconv_formatBits.K4 a0 a2 a3 a4 b3 j4) strconv_formatBits.F0 := by
  unfold strconv_formatBits.K4
  refine SJ.seq ?_
  refine SJ.sr 2 ?_
  refine OJ.go 1 [(33, .int .i64 a2)] ?_
  refine OJ.call (d := 34) (g := 18) (ats := #[3]) (args := [.tmp 33]) (owed := []) F18 (strconv_isPowerOfTwo_ok a2) (fun r5 => ?_)
  refine OW.nil ?_
  refine OJ.nil ?_
  refine SJ.cond (t := (.tmp 34)) (b := r5) Iff.rfl (fun hc86 => ?_) (fun hc86 => ?_)
  · refine SJ.sr 5 ?_
    refine OJ.go 2 [(36, .int .u64 (IntKind.wrap .u64 a2)), (35, .int .i64 a2)] ?_
    refine OJ.call (d := 37) (g := 19) (ats := #[45]) (args := [.tmp 36]) (owed := []) F19 (bits_TrailingZeros_ok (IntKind.wrap .u64 a2)) (fun r55 => ?_)
    refine OW.nil ?_
    refine OJ.go 2 [(14, .int .u64 (IntKind.wrap .u64 r55)), (38, .int .u64 (IntKind.wrap .u64 r55))] ?_
    refine OJ.nil ?_
    refine SJ.sr 3 ?_
    refine OJ.go 3 [(15, .int .u64 (IntKind.wrap .u64 a2)), (40, .int .u64 (IntKind.wrap .u64 a2)), (39, .int .i64 a2)] ?_
    refine OJ.nil ?_
    refine SJ.sr 4 ?_
    refine OJ.go 4 [(16, .int .u64 (IntKind.wrap .u64 ((IntKind.wrap .u64 a2) - 1))), (43, .int .u64 (IntKind.wrap .u64 ((IntKind.wrap .u64 a2) - 1))), (42, .int .u64 (IntKind.wrap .u64 a2)), (41, .int .i64 a2)] ?_
    refine OJ.nil ?_
    refine SJ.seq ?_
    refine SJ.block (id := 0) ?_
    exact SJ.loop (fun s_ : (Int × Int) => [(0, Sl.v a0), (1, .int .u64 s_.1), (3, .bool a3), (4, .bool a4), (10, Sl.v Sl.nil), (11, .string ByteArray.empty), (12, .pointer (some (pt b3 0))), (13, .int .i64 s_.2), (14, .int .u64 (IntKind.wrap .u64 r55)), (15, .int .u64 (IntKind.wrap .u64 a2)), (16, .int .u64 (IntKind.wrap .u64 ((IntKind.wrap .u64 a2) - 1)))]) (fun s_ : (Int × Int) => []) [0, 1, 3, 4, 10, 11, 12, 13, 14, 15, 16] rfl (fun _ _ => rfl) (fun s_ => strconv_formatBits.L1_ok a0 a2 a3 a4 b3 r55 s_.1 s_.2)
  · refine SJ.sr 3 ?_
    refine OJ.go 3 [(17, .int .u64 (IntKind.wrap .u64 a2)), (65, .int .u64 (IntKind.wrap .u64 a2)), (64, .int .i64 a2)] ?_
    refine OJ.nil ?_
    refine SJ.seq ?_
    refine SJ.block (id := 2) ?_
    exact SJ.loop (fun s_ : (Int × Int) => [(0, Sl.v a0), (1, .int .u64 s_.1), (3, .bool a3), (4, .bool a4), (10, Sl.v Sl.nil), (11, .string ByteArray.empty), (12, .pointer (some (pt b3 0))), (13, .int .i64 s_.2), (17, .int .u64 (IntKind.wrap .u64 a2))]) (fun s_ : (Int × Int) => []) [0, 1, 3, 4, 10, 11, 12, 13, 17] rfl (fun _ _ => rfl) (fun s_ => strconv_formatBits.L2_ok a0 a2 a3 a4 b3 s_.1 s_.2)
noncomputable def strconv_formatBits (a0 : Sl) (a1 : Int) (a2 : Int) (a3 : Bool) (a4 : Bool) : M (Sl × ByteArray) :=
  (if a2 < 2 then
      pure true
    else
      pure (a2 == 10)) >>= fun y1 =>
  (if y1 = true then
      pure true
    else
      pure (decide (a2 > 36))) >>= fun y2 =>
  if y2 = true then
    fail
  else
    newv 43 ((cI .u8).arr 65) (Vec.rep 65 0) >>= fun b3 =>
    if a3 = true then
      strconv_formatBits.K4 a0 a2 a3 a4 b3 (IntKind.wrap .u64 (0 - a1))
    else
      strconv_formatBits.K4 a0 a2 a3 a4 b3 a1
theorem strconv_formatBits_ok (a0 : Sl) (a1 : Int) (a2 : Int) (a3 : Bool) (a4 : Bool) : Ref Tryd.prog 14 [Sl.v a0, .int .u64 a1, .int .i64 a2, .bool a3, .bool a4] (strconv_formatBits a0 a1 a2 a3 a4) strconv_formatBits.out := by
  refine Ref.of (cd := strconv_formatBits.B) Tryd.func14 ?_
  show SJ strconv_formatBits.cx [.code strconv_formatBits.B] [(0, Sl.v a0), (1, .int .u64 a1), (2, .int .i64 a2), (3, .bool a3), (4, .bool a4)] [] (strconv_formatBits a0 a1 a2 a3 a4) strconv_formatBits.F0
  unfold strconv_formatBits
  refine SJ.sr 2 ?_
  refine OJ.go 2 [(11, .string ByteArray.empty), (10, Sl.v Sl.nil)] ?_
  refine OJ.nil ?_
  refine SJ.seq ?_
  refine SJ.sr 10 ?_
  refine OJ.go 3 [(21, .bool (decide (a2 < 2))), (20, .bool (decide (a2 < 2))), (19, .int .i64 a2)] ?_
  refine OJ.join (b := decide (a2 < 2)) [3, 4, 5] [6, 7, 8, 9] [0, 1, 2, 3, 4, 10, 11, 24] (fun y1 => [(0, Sl.v a0), (1, .int .u64 a1), (2, .int .i64 a2), (3, .bool a3), (4, .bool a4), (10, Sl.v Sl.nil), (11, .string ByteArray.empty), (24, .bool y1)]) [] [] (t := 21) decide_eq_true_iff (fun hp_ => ?_) (fun hp_ => ?_) (fun _ _ _ _ _ _ h_ => h_) (fun y1 => ?_)
  · refine OJ.go 3 [(24, .bool true), (23, undef), (22, undef)] ?_
    exact OJ.nil ⟨(Cov.mem Cov.nil), rfl, _, rfl, by kernel_rfl⟩
  · refine OJ.go 3 [(24, .bool (a2 == 10)), (23, .bool (a2 == 10)), (22, .int .i64 a2)] ?_
    exact OJ.nil ⟨(Cov.mem Cov.nil), rfl, _, rfl, by kernel_rfl⟩
  · refine OJ.go 1 [(25, .bool y1)] ?_
    refine OJ.join (b := y1) [7, 8, 9] [] [0, 1, 2, 3, 4, 10, 11, 28] (fun y2 => [(0, Sl.v a0), (1, .int .u64 a1), (2, .int .i64 a2), (3, .bool a3), (4, .bool a4), (10, Sl.v Sl.nil), (11, .string ByteArray.empty), (28, .bool y2)]) [] [] (t := 25) Iff.rfl (fun hp_ => ?_) (fun hp_ => ?_) (fun _ _ _ _ _ _ h_ => h_) (fun y2 => ?_)
    · refine OJ.go 3 [(28, .bool true), (27, undef), (26, undef)] ?_
      exact OJ.nil ⟨(Cov.mem Cov.nil), rfl, _, rfl, by kernel_rfl⟩
    · refine OJ.go 3 [(28, .bool (decide (a2 > 36))), (27, .bool (decide (a2 > 36))), (26, .int .i64 a2)] ?_
      exact OJ.nil ⟨(Cov.mem Cov.nil), rfl, _, rfl, by kernel_rfl⟩
    · refine OJ.nil ?_
      refine SJ.cond (t := (.tmp 28)) (b := y2) Iff.rfl (fun hc88 => ?_) (fun hc88 => ?_)
      · refine SJ.rg 2 ?_
        refine OJ.go 1 [(29, .iface 9 (.string str3))] ?_
        exact OJ.fail
      · refine SJ.skip ?_
        refine SJ.sr 1 ?_
        refine OJ.newOf (d := 12) (op := (.alloc 43)) (cd := ((cI .u8).arr 65)) (u := (Vec.rep 65 0)) (owed := []) (alloc_run Ty43) (fun b3 => ?_)
        refine OW.nil ?_
        refine OJ.nil ?_
        refine SJ.sr 1 ?_
        refine OJ.go 1 [(13, .int .i64 65)] ?_
        refine OJ.nil ?_
        refine SJ.seq ?_
        refine SJ.sr 1 ?_
        refine OJ.go 1 [(30, .bool a3)] ?_
        refine OJ.nil ?_
        refine SJ.cond (t := (.tmp 30)) (b := a3) Iff.rfl (fun hc87 => ?_) (fun hc87 => ?_)
        · refine SJ.rg 3 ?_
          refine OJ.go 3 [(1, .int .u64 (IntKind.wrap .u64 (0 - a1))), (32, .int .u64 (IntKind.wrap .u64 (0 - a1))), (31, .int .u64 a1)] ?_
          refine OJ.nil ?_
          refine SJ.less [0, 1, 2, 3, 4, 10, 11, 12, 13] (m' := [(0, Sl.v a0), (1, .int .u64 (IntKind.wrap .u64 (0 - a1))), (2, .int .i64 a2), (3, .bool a3), (4, .bool a4), (10, Sl.v Sl.nil), (11, .string ByteArray.empty), (12, .pointer (some (pt b3 0))), (13, .int .i64 65)]) ?_
          exact strconv_formatBits.K4_ok a0 a2 a3 a4 b3 (IntKind.wrap .u64 (0 - a1))
        · refine SJ.skip ?_
          refine SJ.less [0, 1, 2, 3, 4, 10, 11, 12, 13] (m' := [(0, Sl.v a0), (1, .int .u64 a1), (2, .int .i64 a2), (3, .bool a3), (4, .bool a4), (10, Sl.v Sl.nil), (11, .string ByteArray.empty), (12, .pointer (some (pt b3 0))), (13, .int .i64 65)]) ?_
          exact strconv_formatBits.K4_ok a0 a2 a3 a4 b3 a1
end Go.Proofs.YtfjcjecgalijfaaDoor.Lx
