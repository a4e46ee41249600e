/- Programs of the M-world for Go functions, each with the proof that the Go text does what it says. Printed by lxgen.py. -/
import Derived.Test.YtlkhijflgbobjaaLxT
import Derived.Test.YtlkhijflgbobjaaLxP0
import Derived.Test.YtlkhijflgbobjaaLxP1
import Derived.Test.YtlkhijflgbobjaaLxP2
set_option linter.unusedVariables false
set_option linter.unusedSimpArgs false
namespace Go.Proofs.Ytlkhijflgbobjaa.Lx
open Go Go.Proofs
/-! ### weir/weirlaw15.NeighBounds: function 6 -/
noncomputable def weirlaw15_NeighBounds.B : Code := (Try.f6.body).getD .skip
noncomputable def weirlaw15_NeighBounds.cx : Fx := ⟨Try.prog, 6, Try.f6⟩
noncomputable def weirlaw15_NeighBounds.out (r_ : Bool) : Value := .bool r_
noncomputable def weirlaw15_NeighBounds.F0 (r_ : Bool) : Reach := .ret (weirlaw15_NeighBounds.out r_)
noncomputable def weirlaw15_NeighBounds.F1 (a1 : Sl) (b1 : Nat) (r2 : ((Option Addr) × api_NeighConfig)) : (LS Int Bool) → Reach := loopF [.inLoop (c1 (c1 (c2 (c1 (c2 (c2 (c2 weirlaw15_NeighBounds.B))))))), .inBlock 0, .code (c2 (c2 (c2 (c2 weirlaw15_NeighBounds.B))))] (fun s_ : Int => [(1, Sl.v a1), (2, .pointer (some (pt b1 0))), (5, .pointer r2.1), (6, .int .i64 s_)]) (fun s_ : Int => [(b1, c_api_NeighConfig.enc r2.2)]) weirlaw15_NeighBounds.F0
noncomputable def weirlaw15_NeighBounds.K1 (r2 : ((Option Addr) × api_NeighConfig)) (s5 : Int) (r94 : Sl) (s95 : Int) : M (LS Int Bool) :=
  (if (r94.len : Int) > r2.2.Max then
      pure true
    else
      neigh_Cache_Waiting r2.1 >>= fun r119 =>
      pure (s95 != r119)) >>= fun y120 =>
  if y120 = true then
    pure (LS.done false)
  else
    pure (LS.next (IntKind.wrap .i64 (s5 + 1)))
theorem weirlaw15_NeighBounds.K1_ok (a1 : Sl) (b1 : Nat) (r2 : ((Option Addr) × api_NeighConfig)) (s5 : Int) (r94 : Sl) (s95 : Int) :
    SJ weirlaw15_NeighBounds.cx [.code (c2 (c2 (c2 (c2 (c2 (c1 (c1 (c2 (c1 (c1 (c2 (c1 (c2 (c2 (c2 weirlaw15_NeighBounds.B))))))))))))))), .inBlock 1, .code (c2 (c2 (c1 (c1 (c2 (c1 (c2 (c2 (c2 weirlaw15_NeighBounds.B))))))))), .inLoop (c1 (c1 (c2 (c1 (c2 (c2 (c2 weirlaw15_NeighBounds.B))))))), .inBlock 0, .code (c2 (c2 (c2 (c2 weirlaw15_NeighBounds.B))))] [(1, Sl.v a1), (2, .pointer (some (pt b1 0))), (5, .pointer r2.1), (6, .int .i64 s5), (8, Sl.v r94), (9, .int .i64 s95)] [(b1, c_api_NeighConfig.enc r2.2)] (weirlaw15_NeighBounds.K1 r2 s5 r94 s95) (weirlaw15_NeighBounds.F1 a1 b1 r2) := by
  unfold weirlaw15_NeighBounds.K1
  refine SJ.sr 11 ?_
  refine OJ.go 3 [(131, .pointer (some (pt b1 0))), (130, .int .i64 (r94.len : Int)), (129, Sl.v r94)] ?_
  refine OJ.kld (d := 132) (y := .tmp 131) (cd := (cI .i64)) (j := 0) (b := b1) (o := 0) r2.2.Max (pend2 := []) Ty3 rfl (At_api_NeighConfig_Max r2.2) rfl ?_
  refine OJ.go 2 [(134, .bool (decide ((r94.len : Int) > r2.2.Max))), (133, .bool (decide ((r94.len : Int) > r2.2.Max)))] ?_
  refine OJ.join (b := decide ((r94.len : Int) > r2.2.Max)) [6, 7, 8, 9, 10] [] [1, 2, 5, 6, 139] (fun y120 => [(1, Sl.v a1), (2, .pointer (some (pt b1 0))), (5, .pointer r2.1), (6, .int .i64 s5), (139, .bool y120)]) [] [] (t := 134) decide_eq_true_iff (fun hp_ => ?_) (fun hp_ => ?_) (fun _ _ _ _ _ _ h_ => h_) (fun y120 => ?_)
  · refine OJ.go 5 [(139, .bool true), (138, undef), (137, undef), (136, undef), (135, undef)] ?_
    exact OJ.nil ⟨(Cov.mem Cov.nil), rfl, _, rfl, by kernel_rfl⟩
  · refine OJ.go 2 [(136, .pointer r2.1), (135, .int .i64 s95)] ?_
    refine OJ.call (d := 137) (g := 35) (ats := #[25]) (args := [.tmp 136]) (owed := []) F35 (neigh_Cache_Waiting_ok r2.1) (fun r119 => ?_)
    refine OW.nil ?_
    refine OJ.go 2 [(139, .bool (s95 != r119)), (138, .bool (s95 != r119))] ?_
    exact OJ.nil ⟨(Cov.mem Cov.nil), rfl, _, rfl, by kernel_rfl⟩
  · refine OJ.nil ?_
    refine SJ.cond (t := (.tmp 139)) (b := y120) Iff.rfl (fun hc121 => ?_) (fun hc121 => ?_)
    · refine SJ.sr 1 ?_
      refine OJ.go 1 [(4, .bool false)] ?_
      refine OJ.nil ?_
      exact SJ.ret rfl (Res.run (ys := [.bool false]) (.tmp (by kernel_rfl) .nil) rfl)
    · refine SJ.skip ?_
      refine SJ.inBlock ?_
      refine SJ.rg 3 ?_
      refine OJ.go 3 [(6, .int .i64 (IntKind.wrap .i64 (s5 + 1))), (28, .int .i64 (IntKind.wrap .i64 (s5 + 1))), (27, .int .i64 s5)] ?_
      refine OJ.nil ?_
      exact SJ.at_ [1, 2, 5, 6] rfl
noncomputable def weirlaw15_NeighBounds.F2 (a1 : Sl) (b1 : Nat) (r2 : ((Option Addr) × api_NeighConfig)) (s5 : Int) (r94 : Sl) : (LS (Int × Int) (LS Int Bool)) → Reach := loopF [.inLoop (c1 (c1 (c2 (c1 (c2 (c2 (c2 (c2 (c1 (c1 (c2 (c1 (c1 (c2 (c1 (c2 (c2 (c2 weirlaw15_NeighBounds.B)))))))))))))))))), .inBlock 3, .code (c2 (c2 (c2 (c2 (c2 (c1 (c1 (c2 (c1 (c1 (c2 (c1 (c2 (c2 (c2 weirlaw15_NeighBounds.B))))))))))))))), .inBlock 1, .code (c2 (c2 (c1 (c1 (c2 (c1 (c2 (c2 (c2 weirlaw15_NeighBounds.B))))))))), .inLoop (c1 (c1 (c2 (c1 (c2 (c2 (c2 weirlaw15_NeighBounds.B))))))), .inBlock 0, .code (c2 (c2 (c2 (c2 weirlaw15_NeighBounds.B))))] (fun s_ : (Int × Int) => [(1, Sl.v a1), (2, .pointer (some (pt b1 0))), (5, .pointer r2.1), (6, .int .i64 s5), (8, Sl.v r94), (9, .int .i64 s_.1), (10, .int .i64 s_.2)]) (fun s_ : (Int × Int) => [(b1, c_api_NeighConfig.enc r2.2)]) (weirlaw15_NeighBounds.F1 a1 b1 r2)
noncomputable def weirlaw15_NeighBounds.L2 (r2 : ((Option Addr) × api_NeighConfig)) (s5 : Int) (r94 : Sl) (s95 : Int) (s96 : Int) : M (LS (Int × Int) (LS Int Bool)) :=
  if s96 < (r94.len : Int) then
    draw >>= fun _ =>
    idx r94.a r94.len s96 28 >>= fun p122 =>
    ld (cI .i64) (Addr.add p122 27) >>= fun x123 =>
    (if x123 > r2.2.Line then
        pure true
      else
        (if s96 > 0 then
            idx r94.a r94.len (IntKind.wrap .i64 (s96 - 1)) 28 >>= fun p124 =>
            ld (cI .i64) p124 >>= fun x125 =>
            idx r94.a r94.len (IntKind.wrap .i64 (s96 - 1)) 28 >>= fun p126 =>
            ld c_api_IP (Addr.add p126 1) >>= fun x127 =>
            idx r94.a r94.len s96 28 >>= fun p128 =>
            ld (cI .i64) p128 >>= fun x129 =>
            idx r94.a r94.len s96 28 >>= fun p130 =>
            ld c_api_IP (Addr.add p130 1) >>= fun x131 =>
            weirlaw15_less x125 x127 x129 x131 >>= fun r132 =>
            pure (!r132)
          else
            pure false) >>= fun y133 =>
        pure y133) >>= fun y134 =>
    (if y134 = true then
        pure true
      else
        idx r94.a r94.len s96 28 >>= fun p135 =>
        ld (cI .i64) (Addr.add p135 24) >>= fun x136 =>
        idx r94.a r94.len s96 28 >>= fun p137 =>
        ld (cI .i64) (Addr.add p137 27) >>= fun x138 =>
        pure (!((x136 == 1) == (decide (x138 > 0))))) >>= fun y139 =>
    if y139 = true then
      pure (LS.done (LS.done false))
    else
      idx r94.a r94.len s96 28 >>= fun p140 =>
      ld (cI .i64) (Addr.add p140 27) >>= fun x141 =>
      pure (LS.next (IntKind.wrap .i64 (s95 + x141), IntKind.wrap .i64 (s96 + 1)))
  else
    (weirlaw15_NeighBounds.K1 r2 s5 r94 s95) >>= fun b => pure (LS.done b)
theorem weirlaw15_NeighBounds.L2_ok (a1 : Sl) (b1 : Nat) (r2 : ((Option Addr) × api_NeighConfig)) (s5 : Int) (r94 : Sl) (s95 : Int) (s96 : Int) :
    SJ weirlaw15_NeighBounds.cx [.code (c1 (c1 (c2 (c1 (c2 (c2 (c2 (c2 (c1 (c1 (c2 (c1 (c1 (c2 (c1 (c2 (c2 (c2 weirlaw15_NeighBounds.B)))))))))))))))))), .inLoop (c1 (c1 (c2 (c1 (c2 (c2 (c2 (c2 (c1 (c1 (c2 (c1 (c1 (c2 (c1 (c2 (c2 (c2 weirlaw15_NeighBounds.B)))))))))))))))))), .inBlock 3, .code (c2 (c2 (c2 (c2 (c2 (c1 (c1 (c2 (c1 (c1 (c2 (c1 (c2 (c2 (c2 weirlaw15_NeighBounds.B))))))))))))))), .inBlock 1, .code (c2 (c2 (c1 (c1 (c2 (c1 (c2 (c2 (c2 weirlaw15_NeighBounds.B))))))))), .inLoop (c1 (c1 (c2 (c1 (c2 (c2 (c2 weirlaw15_NeighBounds.B))))))), .inBlock 0, .code (c2 (c2 (c2 (c2 weirlaw15_NeighBounds.B))))] [(1, Sl.v a1), (2, .pointer (some (pt b1 0))), (5, .pointer r2.1), (6, .int .i64 s5), (8, Sl.v r94), (9, .int .i64 s95), (10, .int .i64 s96)] [(b1, c_api_NeighConfig.enc r2.2)] (weirlaw15_NeighBounds.L2 r2 s5 r94 s95 s96) (weirlaw15_NeighBounds.F2 a1 b1 r2 s5 r94) := by
  unfold weirlaw15_NeighBounds.L2
  refine SJ.seq ?_
  refine SJ.sr 4 ?_
  refine OJ.go 4 [(66, .bool (decide (s96 < (r94.len : Int)))), (65, .int .i64 (r94.len : Int)), (64, Sl.v r94), (63, .int .i64 s96)] ?_
  refine OJ.nil ?_
  refine SJ.cond (t := (.tmp 66)) (b := decide (s96 < (r94.len : Int))) decide_eq_true_iff (fun hc143 => ?_) (fun hc143 => ?_)
  · refine SJ.skip ?_
    refine SJ.seq ?_
    refine SJ.block (id := 4) ?_
    refine SJ.seq ?_
    refine SJ.seq ?_
    refine SJ.draw (id := 20) (kd := [0, 0, 0, 0, 1, 0, 1, 0, 0, 0, 0, 0, 0, 0, 0, 0, 0, 1, 0, 0, 0, 0, 0, 1, 0, 0, 0, 0, 1, 0, 0, 0, 0, 1, 2, 0, 0, 0, 0, 0, 0, 0, 0, 1, 0, 0, 0, 0, 0, 1, 0, 0, 0]) (bef := [0, 0, 3, 7, 15, 0, 32, 127, 255, 511, 1023, 2047, 4095, 4095, 12287, 32767, 65535, 131071, 4095, 4095, 528383, 1839103, 3936255, 8130559, 4095, 4095, 50335743, 117444607, 251662335, 4095, 4095, 1610616831, 3758100479, 8053067775, 17179869183, 34359738367, 68719476735, 137438953471, 274877906943, 549755813887, 549755813887, 2199023255551, 4398046511103, 8796093022207, 17592186044415, 549755813887, 549755813887, 106102872080383, 246840360435711, 528315337146367, 1091265290567679, 2251799813685247, 4503599627370495]) (ord := [0, 1, 2, 3, 4, 5, 6, 7, 8, 9, 10, 11, 12, 13, 14, 15, 16, 17, 18, 19, 20, 21, 22, 23, 24, 25, 26, 27, 28, 29, 30, 31, 32, 33, 34, 35, 36, 37, 38, 39, 40, 41, 42, 43, 44, 45, 46, 47, 48, 49, 50, 51, 52]) mixed ?_
    refine OJ.go 2 [(70, .int .i64 s96), (69, Sl.v r94)] ?_
    refine OJ.idxS (d := 71) (T := 68) (y := .tmp 69) (j := .tmp 70) (E := 77) (cap := r94.cap) (k := .i64) (fun p122 => ?_)
    refine OJ.go 1 [(72, .pointer (some (Addr.add p122 27)))] ?_
    refine OJ.ld (d := 73) (y := .tmp 72) (pend2 := fun x123 => [⟨4, 3, (Addr.add p122 27), (cI .i64).val x123⟩]) Ty3 (fun _ => rfl) (fun x123 => ?_)
    refine OJ.go 1 [(74, .pointer (some (pt b1 1)))] ?_
    refine OJ.kld (d := 75) (y := .tmp 74) (cd := (cI .i64)) (j := 0) (b := b1) (o := 1) r2.2.Line (pend2 := [⟨6, 3, (pt b1 1), (cI .i64).val r2.2.Line⟩, ⟨4, 3, (Addr.add p122 27), (cI .i64).val x123⟩]) Ty3 rfl (At_api_NeighConfig_Line r2.2) rfl ?_
    refine OJ.go 2 [(77, .bool (decide (x123 > r2.2.Line))), (76, .bool (decide (x123 > r2.2.Line)))] ?_
    refine OJ.join (b := decide (x123 > r2.2.Line)) [9, 10, 11, 12, 13, 14, 15, 16, 17, 18, 19, 20, 21, 22, 23, 24, 25, 26, 27, 28, 29, 30, 31, 32, 33, 34, 35, 36, 37] [38, 39, 40, 41, 42, 43, 44, 45, 46, 47, 48, 49, 50, 51, 52] [1, 2, 5, 6, 8, 9, 10, 106] (fun y134 => [(1, Sl.v a1), (2, .pointer (some (pt b1 0))), (5, .pointer r2.1), (6, .int .i64 s5), (8, Sl.v r94), (9, .int .i64 s95), (10, .int .i64 s96), (106, .bool y134)]) [⟨6, 3, (pt b1 1), (cI .i64).val r2.2.Line⟩, ⟨4, 3, (Addr.add p122 27), (cI .i64).val x123⟩] [17, 23, 28, 33] (t := 77) decide_eq_true_iff (fun hp_ => ?_) (fun hp_ => ?_) (fun _ _ _ _ _ _ h_ => h_) (fun y134 => ?_)
    · refine OJ.go 29 [(106, .bool true), (105, undef), (104, undef), (103, undef), (102, undef), (101, undef), (100, undef), (99, undef), (98, undef), (97, undef), (96, undef), (95, undef), (94, undef), (93, undef), (92, undef), (91, undef), (90, undef), (89, undef), (88, undef), (87, undef), (86, undef), (85, undef), (84, undef), (83, undef), (82, undef), (81, undef), (80, undef), (79, undef), (78, undef)] ?_
      exact OJ.nil ⟨(Cov.mem (Cov.keep (List.mem_of_getElem? (i := 0) rfl) (Cov.keep (List.mem_of_getElem? (i := 1) rfl) Cov.nil))), rfl, _, rfl, by kernel_rfl⟩
    · refine OJ.go 3 [(80, .bool (decide (s96 > 0))), (79, .bool (decide (s96 > 0))), (78, .int .i64 s96)] ?_
      refine OJ.join (b := decide (s96 > 0)) [12, 13, 14, 15, 16, 17, 18, 19, 20, 21, 22, 23, 24, 25, 26, 27, 28, 29, 30, 31, 32, 33, 34, 35, 36] [37] [1, 2, 5, 6, 8, 9, 10, 77, 105] (fun y133 => [(1, Sl.v a1), (2, .pointer (some (pt b1 0))), (5, .pointer r2.1), (6, .int .i64 s5), (8, Sl.v r94), (9, .int .i64 s95), (10, .int .i64 s96), (77, .bool false), (105, .bool y133)]) [⟨6, 3, (pt b1 1), (cI .i64).val r2.2.Line⟩, ⟨4, 3, (Addr.add p122 27), (cI .i64).val x123⟩] [17, 23, 28, 33] (t := 80) decide_eq_true_iff (fun hp_ => ?_) (fun hp_ => ?_) (fun _ _ _ _ _ hq_ h_ => ⟨fun e_ he_ => by rcases hq_ e_ he_ with h | h; exact h_.1 e_ h; exact .inr ((by decide : ∀ i ∈ [17, 23, 28, 33], i ∈ [17, 23, 28, 33]) _ h), h_.2⟩) (fun y133 => ?_)
      · refine OJ.go 3 [(83, .int .i64 (IntKind.wrap .i64 (s96 - 1))), (82, .int .i64 s96), (81, Sl.v r94)] ?_
        refine OJ.idxS (d := 84) (T := 68) (y := .tmp 81) (j := .tmp 83) (E := 77) (cap := r94.cap) (k := .i64) (fun p124 => ?_)
        refine OJ.go 1 [(85, .pointer (some p124))] ?_
        refine OJ.ld (d := 86) (y := .tmp 85) (pend2 := fun x125 => [⟨17, 3, p124, (cI .i64).val x125⟩, ⟨6, 3, (pt b1 1), (cI .i64).val r2.2.Line⟩, ⟨4, 3, (Addr.add p122 27), (cI .i64).val x123⟩]) Ty3 (fun _ => rfl) (fun x125 => ?_)
        refine OJ.go 3 [(89, .int .i64 (IntKind.wrap .i64 (s96 - 1))), (88, .int .i64 s96), (87, Sl.v r94)] ?_
        refine OJ.idxS (d := 90) (T := 68) (y := .tmp 87) (j := .tmp 89) (E := 77) (cap := r94.cap) (k := .i64) (fun p126 => ?_)
        refine OJ.go 1 [(91, .pointer (some (Addr.add p126 1)))] ?_
        refine OJ.ld (d := 92) (y := .tmp 91) (pend2 := fun x127 => [⟨23, 32, (Addr.add p126 1), c_api_IP.val x127⟩, ⟨17, 3, p124, (cI .i64).val x125⟩, ⟨6, 3, (pt b1 1), (cI .i64).val r2.2.Line⟩, ⟨4, 3, (Addr.add p122 27), (cI .i64).val x123⟩]) Ty32 (fun _ => rfl) (fun x127 => ?_)
        refine OJ.go 2 [(94, .int .i64 s96), (93, Sl.v r94)] ?_
        refine OJ.idxS (d := 95) (T := 68) (y := .tmp 93) (j := .tmp 94) (E := 77) (cap := r94.cap) (k := .i64) (fun p128 => ?_)
        refine OJ.go 1 [(96, .pointer (some p128))] ?_
        refine OJ.ld (d := 97) (y := .tmp 96) (pend2 := fun x129 => [⟨28, 3, p128, (cI .i64).val x129⟩, ⟨23, 32, (Addr.add p126 1), c_api_IP.val x127⟩, ⟨17, 3, p124, (cI .i64).val x125⟩, ⟨6, 3, (pt b1 1), (cI .i64).val r2.2.Line⟩, ⟨4, 3, (Addr.add p122 27), (cI .i64).val x123⟩]) Ty3 (fun _ => rfl) (fun x129 => ?_)
        refine OJ.go 2 [(99, .int .i64 s96), (98, Sl.v r94)] ?_
        refine OJ.idxS (d := 100) (T := 68) (y := .tmp 98) (j := .tmp 99) (E := 77) (cap := r94.cap) (k := .i64) (fun p130 => ?_)
        refine OJ.go 1 [(101, .pointer (some (Addr.add p130 1)))] ?_
        refine OJ.ld (d := 102) (y := .tmp 101) (pend2 := fun x131 => [⟨33, 32, (Addr.add p130 1), c_api_IP.val x131⟩, ⟨28, 3, p128, (cI .i64).val x129⟩, ⟨23, 32, (Addr.add p126 1), c_api_IP.val x127⟩, ⟨17, 3, p124, (cI .i64).val x125⟩, ⟨6, 3, (pt b1 1), (cI .i64).val r2.2.Line⟩, ⟨4, 3, (Addr.add p122 27), (cI .i64).val x123⟩]) Ty32 (fun _ => rfl) (fun x131 => ?_)
        refine OJ.call (d := 103) (g := 37) (ats := #[3, 32, 3, 32]) (args := [.tmp 86, .tmp 92, .tmp 97, .tmp 102]) (owed := []) F37 (weirlaw15_less_ok x125 x127 x129 x131) (fun r132 => ?_)
        refine OW.nil ?_
        refine OJ.go 2 [(105, .bool (!r132)), (104, .bool (!r132))] ?_
        exact OJ.nil ⟨(Cov.mem (Cov.drop (List.mem_of_getElem? (i := 3) rfl) (Cov.drop (List.mem_of_getElem? (i := 2) rfl) (Cov.drop (List.mem_of_getElem? (i := 1) rfl) (Cov.drop (List.mem_of_getElem? (i := 0) rfl) (Cov.keep (List.mem_of_getElem? (i := 0) rfl) (Cov.keep (List.mem_of_getElem? (i := 1) rfl) Cov.nil))))))), rfl, _, rfl, by kernel_rfl⟩
      · refine OJ.go 25 [(105, .bool false), (104, undef), (103, undef), (102, undef), (101, undef), (100, undef), (99, undef), (98, undef), (97, undef), (96, undef), (95, undef), (94, undef), (93, undef), (92, undef), (91, undef), (90, undef), (89, undef), (88, undef), (87, undef), (86, undef), (85, undef), (84, undef), (83, undef), (82, undef), (81, undef)] ?_
        exact OJ.nil ⟨(Cov.mem (Cov.keep (List.mem_of_getElem? (i := 0) rfl) (Cov.keep (List.mem_of_getElem? (i := 1) rfl) Cov.nil))), rfl, _, rfl, by kernel_rfl⟩
      · refine OJ.go 1 [(106, .bool y133)] ?_
        exact OJ.nil ⟨(Cov.mem (Cov.keep (List.mem_of_getElem? (i := 0) rfl) (Cov.keep (List.mem_of_getElem? (i := 1) rfl) Cov.nil))), rfl, _, rfl, by kernel_rfl⟩
    · refine OJ.go 1 [(107, .bool y134)] ?_
      refine OJ.join (b := y134) [39, 40, 41, 42, 43, 44, 45, 46, 47, 48, 49, 50, 51, 52] [] [1, 2, 5, 6, 8, 9, 10, 121] (fun y139 => [(1, Sl.v a1), (2, .pointer (some (pt b1 0))), (5, .pointer r2.1), (6, .int .i64 s5), (8, Sl.v r94), (9, .int .i64 s95), (10, .int .i64 s96), (121, .bool y139)]) [⟨6, 3, (pt b1 1), (cI .i64).val r2.2.Line⟩, ⟨4, 3, (Addr.add p122 27), (cI .i64).val x123⟩] [43, 49] (t := 107) Iff.rfl (fun hp_ => ?_) (fun hp_ => ?_) (fun _ _ _ _ _ _ h_ => h_) (fun y139 => ?_)
      · refine OJ.go 14 [(121, .bool true), (120, undef), (119, undef), (118, undef), (117, undef), (116, undef), (115, undef), (114, undef), (113, undef), (112, undef), (111, undef), (110, undef), (109, undef), (108, undef)] ?_
        exact OJ.nil ⟨(Cov.mem (Cov.keep (List.mem_of_getElem? (i := 0) rfl) (Cov.keep (List.mem_of_getElem? (i := 1) rfl) Cov.nil))), rfl, _, rfl, by kernel_rfl⟩
      · refine OJ.go 2 [(109, .int .i64 s96), (108, Sl.v r94)] ?_
        refine OJ.idxS (d := 110) (T := 68) (y := .tmp 108) (j := .tmp 109) (E := 77) (cap := r94.cap) (k := .i64) (fun p135 => ?_)
        refine OJ.go 1 [(111, .pointer (some (Addr.add p135 24)))] ?_
        refine OJ.ld (d := 112) (y := .tmp 111) (pend2 := fun x136 => [⟨43, 3, (Addr.add p135 24), (cI .i64).val x136⟩, ⟨6, 3, (pt b1 1), (cI .i64).val r2.2.Line⟩, ⟨4, 3, (Addr.add p122 27), (cI .i64).val x123⟩]) Ty3 (fun _ => rfl) (fun x136 => ?_)
        refine OJ.go 3 [(115, .int .i64 s96), (114, Sl.v r94), (113, .bool (x136 == 1))] ?_
        refine OJ.idxS (d := 116) (T := 68) (y := .tmp 114) (j := .tmp 115) (E := 77) (cap := r94.cap) (k := .i64) (fun p137 => ?_)
        refine OJ.go 1 [(117, .pointer (some (Addr.add p137 27)))] ?_
        refine OJ.ld (d := 118) (y := .tmp 117) (pend2 := fun x138 => [⟨49, 3, (Addr.add p137 27), (cI .i64).val x138⟩, ⟨43, 3, (Addr.add p135 24), (cI .i64).val x136⟩, ⟨6, 3, (pt b1 1), (cI .i64).val r2.2.Line⟩, ⟨4, 3, (Addr.add p122 27), (cI .i64).val x123⟩]) Ty3 (fun _ => rfl) (fun x138 => ?_)
        refine OJ.go 3 [(121, .bool (!((x136 == 1) == (decide (x138 > 0))))), (120, .bool (!((x136 == 1) == (decide (x138 > 0))))), (119, .bool (decide (x138 > 0)))] ?_
        exact OJ.nil ⟨(Cov.mem (Cov.drop (List.mem_of_getElem? (i := 1) rfl) (Cov.drop (List.mem_of_getElem? (i := 0) rfl) (Cov.keep (List.mem_of_getElem? (i := 0) rfl) (Cov.keep (List.mem_of_getElem? (i := 1) rfl) Cov.nil))))), rfl, _, rfl, by kernel_rfl⟩
      · refine OJ.nil ?_
        refine SJ.cond (t := (.tmp 121)) (b := y139) Iff.rfl (fun hc142 => ?_) (fun hc142 => ?_)
        · refine SJ.sr 1 ?_
          refine OJ.go 1 [(4, .bool false)] ?_
          refine OJ.nil ?_
          exact SJ.ret rfl (Res.run (ys := [.bool false]) (.tmp (by kernel_rfl) .nil) rfl)
        · refine SJ.skip ?_
          refine SJ.rg 8 ?_
          refine OJ.go 3 [(124, .int .i64 s96), (123, Sl.v r94), (122, .int .i64 s95)] ?_
          refine OJ.idxS (d := 125) (T := 68) (y := .tmp 123) (j := .tmp 124) (E := 77) (cap := r94.cap) (k := .i64) (fun p140 => ?_)
          refine OJ.go 1 [(126, .pointer (some (Addr.add p140 27)))] ?_
          refine OJ.ld (d := 127) (y := .tmp 126) (pend2 := fun x141 => []) Ty3 (fun _ => rfl) (fun x141 => ?_)
          refine OJ.go 2 [(9, .int .i64 (IntKind.wrap .i64 (s95 + x141))), (128, .int .i64 (IntKind.wrap .i64 (s95 + x141)))] ?_
          refine OJ.nil ?_
          refine SJ.inBlock ?_
          refine SJ.rg 3 ?_
          refine OJ.go 3 [(10, .int .i64 (IntKind.wrap .i64 (s96 + 1))), (68, .int .i64 (IntKind.wrap .i64 (s96 + 1))), (67, .int .i64 s96)] ?_
          refine OJ.nil ?_
          exact SJ.at_ [1, 2, 5, 6, 8, 9, 10] rfl
  · refine SJ.exit (id := 3) (by rfl) ?_
    refine SJ.less [1, 2, 5, 6, 8, 9] (m' := [(1, Sl.v a1), (2, .pointer (some (pt b1 0))), (5, .pointer r2.1), (6, .int .i64 s5), (8, Sl.v r94), (9, .int .i64 s95)]) ?_
    refine SJ.done ?_
    exact weirlaw15_NeighBounds.K1_ok a1 b1 r2 s5 r94 s95
noncomputable def weirlaw15_NeighBounds.K2 (r2 : ((Option Addr) × api_NeighConfig)) (s5 : Int) : M (LS Int Bool) :=
  neigh_Cache_All r2.1 >>= fun r94 =>
  loopM (fun s_ : (Int × Int) => weirlaw15_NeighBounds.L2 r2 s5 r94 s_.1 s_.2) (0, 0)
theorem weirlaw15_NeighBounds.K2_ok (a1 : Sl) (b1 : Nat) (r2 : ((Option Addr) × api_NeighConfig)) (s5 : Int) :
    SJ weirlaw15_NeighBounds.cx [.inBlock 2, .code (c2 (c2 (c1 (c1 (c2 (c1 (c1 (c2 (c1 (c2 (c2 (c2 weirlaw15_NeighBounds.B)))))))))))), .inBlock 1, .code (c2 (c2 (c1 (c1 (c2 (c1 (c2 (c2 (c2 weirlaw15_NeighBounds.B))))))))), .inLoop (c1 (c1 (c2 (c1 (c2 (c2 (c2 weirlaw15_NeighBounds.B))))))), .inBlock 0, .code (c2 (c2 (c2 (c2 weirlaw15_NeighBounds.B))))] [(1, Sl.v a1), (2, .pointer (some (pt b1 0))), (5, .pointer r2.1), (6, .int .i64 s5)] [(b1, c_api_NeighConfig.enc r2.2)] (weirlaw15_NeighBounds.K2 r2 s5) (weirlaw15_NeighBounds.F1 a1 b1 r2) := by
  unfold weirlaw15_NeighBounds.K2
  refine SJ.inBlock ?_
  refine SJ.sr 3 ?_
  refine OJ.go 1 [(61, .pointer r2.1)] ?_
  refine OJ.call (d := 62) (g := 27) (ats := #[25]) (args := [.tmp 61]) (owed := []) F27 (neigh_Cache_All_ok r2.1) (fun r94 => ?_)
  refine OW.nil ?_
  refine OJ.go 1 [(8, Sl.v r94)] ?_
  refine OJ.nil ?_
  refine SJ.sr 1 ?_
  refine OJ.go 1 [(9, .int .i64 0)] ?_
  refine OJ.nil ?_
  refine SJ.seq ?_
  refine SJ.sr 1 ?_
  refine OJ.go 1 [(10, .int .i64 0)] ?_
  refine OJ.nil ?_
  refine SJ.block (id := 3) ?_
  exact SJ.loop (fun s_ : (Int × Int) => [(1, Sl.v a1), (2, .pointer (some (pt b1 0))), (5, .pointer r2.1), (6, .int .i64 s5), (8, Sl.v r94), (9, .int .i64 s_.1), (10, .int .i64 s_.2)]) (fun s_ : (Int × Int) => [(b1, c_api_NeighConfig.enc r2.2)]) [1, 2, 5, 6, 8, 9, 10] rfl (fun _ _ => rfl) (fun s_ => weirlaw15_NeighBounds.L2_ok a1 b1 r2 s5 r94 s_.1 s_.2)
noncomputable def weirlaw15_NeighBounds.K3 (r2 : ((Option Addr) × api_NeighConfig)) (s5 : Int) : M (LS Int Bool) :=
  weirlaw15_NeighBounds.K2 r2 s5
theorem weirlaw15_NeighBounds.K3_ok (a1 : Sl) (b1 : Nat) (r2 : ((Option Addr) × api_NeighConfig)) (s5 : Int) :
    SJ weirlaw15_NeighBounds.cx [.inBlock 2, .code (c2 (c2 (c1 (c1 (c2 (c1 (c1 (c2 (c1 (c2 (c2 (c2 weirlaw15_NeighBounds.B)))))))))))), .inBlock 1, .code (c2 (c2 (c1 (c1 (c2 (c1 (c2 (c2 (c2 weirlaw15_NeighBounds.B))))))))), .inLoop (c1 (c1 (c2 (c1 (c2 (c2 (c2 weirlaw15_NeighBounds.B))))))), .inBlock 0, .code (c2 (c2 (c2 (c2 weirlaw15_NeighBounds.B))))] [(1, Sl.v a1), (2, .pointer (some (pt b1 0))), (5, .pointer r2.1), (6, .int .i64 s5)] [(b1, c_api_NeighConfig.enc r2.2)] (weirlaw15_NeighBounds.K3 r2 s5) (weirlaw15_NeighBounds.F1 a1 b1 r2) := by
  unfold weirlaw15_NeighBounds.K3
  refine SJ.less [1, 2, 5, 6] (m' := [(1, Sl.v a1), (2, .pointer (some (pt b1 0))), (5, .pointer r2.1), (6, .int .i64 s5)]) ?_
  exact weirlaw15_NeighBounds.K2_ok a1 b1 r2 s5
noncomputable def weirlaw15_NeighBounds.K4 (r2 : ((Option Addr) × api_NeighConfig)) (s5 : Int) : M (LS Int Bool) :=
  weirlaw15_NeighBounds.K3 r2 s5
theorem weirlaw15_NeighBounds.K4_ok (a1 : Sl) (b1 : Nat) (r2 : ((Option Addr) × api_NeighConfig)) (s5 : Int) :
    SJ weirlaw15_NeighBounds.cx [.inBlock 2, .code (c2 (c2 (c1 (c1 (c2 (c1 (c1 (c2 (c1 (c2 (c2 (c2 weirlaw15_NeighBounds.B)))))))))))), .inBlock 1, .code (c2 (c2 (c1 (c1 (c2 (c1 (c2 (c2 (c2 weirlaw15_NeighBounds.B))))))))), .inLoop (c1 (c1 (c2 (c1 (c2 (c2 (c2 weirlaw15_NeighBounds.B))))))), .inBlock 0, .code (c2 (c2 (c2 (c2 weirlaw15_NeighBounds.B))))] [(1, Sl.v a1), (2, .pointer (some (pt b1 0))), (5, .pointer r2.1), (6, .int .i64 s5)] [(b1, c_api_NeighConfig.enc r2.2)] (weirlaw15_NeighBounds.K4 r2 s5) (weirlaw15_NeighBounds.F1 a1 b1 r2) := by
  unfold weirlaw15_NeighBounds.K4
  refine SJ.less [1, 2, 5, 6] (m' := [(1, Sl.v a1), (2, .pointer (some (pt b1 0))), (5, .pointer r2.1), (6, .int .i64 s5)]) ?_
  exact weirlaw15_NeighBounds.K3_ok a1 b1 r2 s5
noncomputable def weirlaw15_NeighBounds.L1 (a1 : Sl) (r2 : ((Option Addr) × api_NeighConfig)) (s5 : Int) : M (LS Int Bool) :=
  if s5 < (a1.len : Int) then
    idx a1.a a1.len s5 27 >>= fun p81 =>
    ld c_weirlaw15_Op p81 >>= fun x82 =>
    slot 36 >>= fun b83 =>
    if x82.Kind = 1 then
      neigh_Cache_Want r2.1 x82.Port x82.IP x82.N >>= fun r144 =>
      weirlaw15_NeighBounds.K2 r2 s5
    else
      if x82.Kind = 2 then
        neigh_Cache_Learn r2.1 x82.Port x82.IP x82.Mac x82.N >>= fun r149 =>
        weirlaw15_NeighBounds.K3 r2 s5
      else
        if x82.Kind = 3 then
          neigh_Cache_Tick r2.1 >>= fun r151 =>
          weirlaw15_NeighBounds.K4 r2 s5
        else
          weirlaw15_NeighBounds.K4 r2 s5
  else
    pure (LS.done true)
theorem weirlaw15_NeighBounds.L1_ok (a1 : Sl) (b1 : Nat) (r2 : ((Option Addr) × api_NeighConfig)) (s5 : Int) :
    SJ weirlaw15_NeighBounds.cx [.code (c1 (c1 (c2 (c1 (c2 (c2 (c2 weirlaw15_NeighBounds.B))))))), .inLoop (c1 (c1 (c2 (c1 (c2 (c2 (c2 weirlaw15_NeighBounds.B))))))), .inBlock 0, .code (c2 (c2 (c2 (c2 weirlaw15_NeighBounds.B))))] [(1, Sl.v a1), (2, .pointer (some (pt b1 0))), (5, .pointer r2.1), (6, .int .i64 s5)] [(b1, c_api_NeighConfig.enc r2.2)] (weirlaw15_NeighBounds.L1 a1 r2 s5) (weirlaw15_NeighBounds.F1 a1 b1 r2) := by
  unfold weirlaw15_NeighBounds.L1
  refine SJ.seq ?_
  refine SJ.sr 4 ?_
  refine OJ.go 4 [(26, .bool (decide (s5 < (a1.len : Int)))), (25, .int .i64 (a1.len : Int)), (24, Sl.v a1), (23, .int .i64 s5)] ?_
  refine OJ.nil ?_
  refine SJ.cond (t := (.tmp 26)) (b := decide (s5 < (a1.len : Int))) decide_eq_true_iff (fun hc155 => ?_) (fun hc155 => ?_)
  · refine SJ.skip ?_
    refine SJ.seq ?_
    refine SJ.block (id := 1) ?_
    refine SJ.sr 6 ?_
    refine OJ.go 2 [(30, .int .i64 s5), (29, Sl.v a1)] ?_
    refine OJ.idxS (d := 31) (T := 24) (y := .tmp 29) (j := .tmp 30) (E := 36) (cap := a1.cap) (k := .i64) (fun p81 => ?_)
    refine OJ.ld (d := 32) (y := .tmp 31) (pend2 := fun x82 => []) Ty36 (fun _ => rfl) (fun x82 => ?_)
    refine OJ.slotOf (d := 7) (op := (.alloc 36)) (cd := c_weirlaw15_Op) (u := z_weirlaw15_Op) (owed := []) (alloc_run Ty36) (fun b83 => ?_)
    refine OW.nil ?_
    refine OJ.kst (y := .tmp 7) (z := .tmp 32) (cd := c_weirlaw15_Op) (u := x82) (j := 0) (b := b83) (o := 0) (c_weirlaw15_Op.enc x82) (owed := []) Ty36 rfl (Upd.whole ((Cod.len _ _).trans (Cod.len _ _).symm)) rfl ?_
    refine OW.nil ?_
    refine OJ.nil ?_
    refine SJ.seq ?_
    refine SJ.sr 2 ?_
    refine OJ.go 1 [(33, .pointer (some (pt b83 0)))] ?_
    refine OJ.kld (d := 34) (y := .tmp 33) (cd := (cI .i64)) (j := 0) (b := b83) (o := 0) x82.Kind (pend2 := []) Ty3 rfl (At_weirlaw15_Op_Kind x82) rfl ?_
    refine OJ.nil ?_
    refine SJ.block (id := 2) ?_
    refine SJ.sr 2 ?_
    refine OJ.go 2 [(35, .bool (x82.Kind == 1)), (36, .bool (x82.Kind == 1))] ?_
    refine OJ.nil ?_
    refine SJ.cond (t := (.tmp 35)) (b := (x82.Kind == 1)) beq_iff_eq (fun hc154 => ?_) (fun hc154 => ?_)
    · refine SJ.rg 8 ?_
      refine OJ.go 2 [(38, .pointer (some (pt b83 2))), (37, .pointer r2.1)] ?_
      refine OJ.kld (d := 39) (y := .tmp 38) (cd := (cI .i64)) (j := 0) (b := b83) (o := 2) x82.Port (pend2 := []) Ty3 rfl (At_weirlaw15_Op_Port x82) rfl ?_
      refine OJ.go 1 [(40, .pointer (some (pt b83 3)))] ?_
      refine OJ.kld (d := 41) (y := .tmp 40) (cd := c_api_IP) (j := 0) (b := b83) (o := 3) x82.IP (pend2 := []) Ty32 rfl (At_weirlaw15_Op_IP x82) rfl ?_
      refine OJ.go 1 [(42, .pointer (some (pt b83 26)))] ?_
      refine OJ.kld (d := 43) (y := .tmp 42) (cd := (cI .i64)) (j := 0) (b := b83) (o := 26) x82.N (pend2 := []) Ty3 rfl (At_weirlaw15_Op_N x82) rfl ?_
      refine OJ.call (d := 44) (g := 15) (ats := #[25, 3, 32, 3]) (args := [.tmp 37, .tmp 39, .tmp 41, .tmp 43]) (owed := []) F15 (neigh_Cache_Want_ok r2.1 x82.Port x82.IP x82.N) (fun r144 => ?_)
      refine OW.nil ?_
      refine OJ.nil ?_
      refine SJ.forget (List.Sublist.cons _ (List.Sublist.cons_cons _ List.Sublist.slnil)) ?_
      refine SJ.less [1, 2, 5, 6] (m' := [(1, Sl.v a1), (2, .pointer (some (pt b1 0))), (5, .pointer r2.1), (6, .int .i64 s5)]) ?_
      exact weirlaw15_NeighBounds.K2_ok a1 b1 r2 s5
    · refine SJ.sr 2 ?_
      refine OJ.go 2 [(45, .bool (x82.Kind == 2)), (46, .bool (x82.Kind == 2))] ?_
      refine OJ.nil ?_
      refine SJ.cond (t := (.tmp 45)) (b := (x82.Kind == 2)) beq_iff_eq (fun hc153 => ?_) (fun hc153 => ?_)
      · refine SJ.rg 10 ?_
        refine OJ.go 2 [(48, .pointer (some (pt b83 2))), (47, .pointer r2.1)] ?_
        refine OJ.kld (d := 49) (y := .tmp 48) (cd := (cI .i64)) (j := 0) (b := b83) (o := 2) x82.Port (pend2 := []) Ty3 rfl (At_weirlaw15_Op_Port x82) rfl ?_
        refine OJ.go 1 [(50, .pointer (some (pt b83 3)))] ?_
        refine OJ.kld (d := 51) (y := .tmp 50) (cd := c_api_IP) (j := 0) (b := b83) (o := 3) x82.IP (pend2 := []) Ty32 rfl (At_weirlaw15_Op_IP x82) rfl ?_
        refine OJ.go 1 [(52, .pointer (some (pt b83 20)))] ?_
        refine OJ.kld (d := 53) (y := .tmp 52) (cd := ((cI .u8).arr 6)) (j := 0) (b := b83) (o := 20) x82.Mac (pend2 := []) Ty34 rfl (At_weirlaw15_Op_Mac x82) rfl ?_
        refine OJ.go 1 [(54, .pointer (some (pt b83 26)))] ?_
        refine OJ.kld (d := 55) (y := .tmp 54) (cd := (cI .i64)) (j := 0) (b := b83) (o := 26) x82.N (pend2 := []) Ty3 rfl (At_weirlaw15_Op_N x82) rfl ?_
        refine OJ.call (d := 56) (g := 18) (ats := #[25, 3, 32, 34, 3]) (args := [.tmp 47, .tmp 49, .tmp 51, .tmp 53, .tmp 55]) (owed := []) F18 (neigh_Cache_Learn_ok r2.1 x82.Port x82.IP x82.Mac x82.N) (fun r149 => ?_)
        refine OW.nil ?_
        refine OJ.nil ?_
        refine SJ.forget (List.Sublist.cons _ (List.Sublist.cons_cons _ List.Sublist.slnil)) ?_
        refine SJ.less [1, 2, 5, 6] (m' := [(1, Sl.v a1), (2, .pointer (some (pt b1 0))), (5, .pointer r2.1), (6, .int .i64 s5)]) ?_
        exact weirlaw15_NeighBounds.K3_ok a1 b1 r2 s5
      · refine SJ.sr 2 ?_
        refine OJ.go 2 [(57, .bool (x82.Kind == 3)), (58, .bool (x82.Kind == 3))] ?_
        refine OJ.nil ?_
        refine SJ.cond (t := (.tmp 57)) (b := (x82.Kind == 3)) beq_iff_eq (fun hc152 => ?_) (fun hc152 => ?_)
        · refine SJ.rg 2 ?_
          refine OJ.go 1 [(59, .pointer r2.1)] ?_
          refine OJ.call (d := 60) (g := 21) (ats := #[25]) (args := [.tmp 59]) (owed := []) F21 (neigh_Cache_Tick_ok r2.1) (fun r151 => ?_)
          refine OW.nil ?_
          refine OJ.nil ?_
          refine SJ.forget (List.Sublist.cons _ (List.Sublist.cons_cons _ List.Sublist.slnil)) ?_
          refine SJ.less [1, 2, 5, 6] (m' := [(1, Sl.v a1), (2, .pointer (some (pt b1 0))), (5, .pointer r2.1), (6, .int .i64 s5)]) ?_
          exact weirlaw15_NeighBounds.K4_ok a1 b1 r2 s5
        · refine SJ.skip ?_
          refine SJ.forget (List.Sublist.cons _ (List.Sublist.cons_cons _ List.Sublist.slnil)) ?_
          refine SJ.less [1, 2, 5, 6] (m' := [(1, Sl.v a1), (2, .pointer (some (pt b1 0))), (5, .pointer r2.1), (6, .int .i64 s5)]) ?_
          exact weirlaw15_NeighBounds.K4_ok a1 b1 r2 s5
  · refine SJ.exit (id := 0) (by rfl) ?_
    refine SJ.sr 1 ?_
    refine OJ.go 1 [(4, .bool true)] ?_
    refine OJ.nil ?_
    exact SJ.ret rfl (Res.run (ys := [.bool true]) (.tmp (by kernel_rfl) .nil) rfl)
noncomputable def weirlaw15_NeighBounds (a0 : api_NeighConfig) (a1 : Sl) : M Bool :=
  slot 23 >>= fun b1 =>
  weirlaw15_cache a0 >>= fun r2 =>
  (if r2.1 = none then
      pure true
    else
      weirlaw15_first r2.1 >>= fun r3 =>
      pure (!r3)) >>= fun y4 =>
  if y4 = true then
    pure false
  else
    loopM (fun s_ : Int => weirlaw15_NeighBounds.L1 a1 r2 s_) 0
theorem weirlaw15_NeighBounds_ok (a0 : api_NeighConfig) (a1 : Sl) : Ref Try.prog 6 [c_api_NeighConfig.val a0, Sl.v a1] (weirlaw15_NeighBounds a0 a1) weirlaw15_NeighBounds.out := by
  refine Ref.of (cd := weirlaw15_NeighBounds.B) Try.func6 ?_
  show SJ weirlaw15_NeighBounds.cx [.code weirlaw15_NeighBounds.B] [(0, c_api_NeighConfig.val a0), (1, Sl.v a1)] [] (weirlaw15_NeighBounds a0 a1) weirlaw15_NeighBounds.F0
  unfold weirlaw15_NeighBounds
  refine SJ.sr 2 ?_
  refine OJ.slotOf (d := 2) (op := (.box 23 (.tmp 0))) (cd := c_api_NeighConfig) (u := a0) (owed := []) (box_run (by kernel_rfl)) (fun b1 => ?_)
  refine OW.nil ?_
  refine OJ.go 1 [(4, .bool false)] ?_
  refine OJ.nil ?_
  refine SJ.sr 7 ?_
  refine OJ.kld (d := 12) (y := .tmp 2) (cd := c_api_NeighConfig) (j := 0) (b := b1) (o := 0) a0 (pend2 := []) Ty23 rfl (At.whole _) rfl ?_
  refine OJ.call (d := 13) (g := 13) (ats := #[23]) (args := [.tmp 12]) (owed := []) F13 (weirlaw15_cache_ok a0) (fun r2 => ?_)
  refine OW.nil ?_
  refine OJ.go 4 [(5, .pointer r2.1), (15, c_api_NeighConfig.val r2.2), (14, .pointer r2.1), (11, .tuple #[.pointer r2.1, c_api_NeighConfig.val r2.2])] ?_
  refine OJ.kst (y := .tmp 2) (z := .tmp 15) (cd := c_api_NeighConfig) (u := r2.2) (j := 0) (b := b1) (o := 0) (c_api_NeighConfig.enc r2.2) (owed := []) Ty23 rfl (Upd.whole ((Cod.len _ _).trans (Cod.len _ _).symm)) rfl ?_
  refine OW.nil ?_
  refine OJ.nil ?_
  refine SJ.seq ?_
  refine SJ.sr 7 ?_
  refine OJ.go 3 [(18, .bool (Option.isNone r2.1)), (17, .bool (Option.isNone r2.1)), (16, .pointer r2.1)] ?_
  refine OJ.join (b := (Option.isNone r2.1)) [3, 4, 5, 6] [] [1, 2, 5, 22] (fun y4 => [(1, Sl.v a1), (2, .pointer (some (pt b1 0))), (5, .pointer r2.1), (22, .bool y4)]) [] [] (t := 18) Option.isNone_iff_eq_none (fun hp_ => ?_) (fun hp_ => ?_) (fun _ _ _ _ _ _ h_ => h_) (fun y4 => ?_)
  · refine OJ.go 4 [(22, .bool true), (21, undef), (20, undef), (19, undef)] ?_
    exact OJ.nil ⟨(Cov.mem Cov.nil), rfl, _, rfl, by kernel_rfl⟩
  · refine OJ.go 1 [(19, .pointer r2.1)] ?_
    refine OJ.call (d := 20) (g := 14) (ats := #[25]) (args := [.tmp 19]) (owed := []) F14 (weirlaw15_first_ok r2.1) (fun r3 => ?_)
    refine OW.nil ?_
    refine OJ.go 2 [(22, .bool (!r3)), (21, .bool (!r3))] ?_
    exact OJ.nil ⟨(Cov.mem Cov.nil), rfl, _, rfl, by kernel_rfl⟩
  · refine OJ.nil ?_
    refine SJ.cond (t := (.tmp 22)) (b := y4) Iff.rfl (fun hc156 => ?_) (fun hc156 => ?_)
    · refine SJ.sr 1 ?_
      refine OJ.go 1 [(4, .bool false)] ?_
      refine OJ.nil ?_
      exact SJ.ret rfl (Res.run (ys := [.bool false]) (.tmp (by kernel_rfl) .nil) rfl)
    · refine SJ.skip ?_
      refine SJ.seq ?_
      refine SJ.sr 1 ?_
      refine OJ.go 1 [(6, .int .i64 0)] ?_
      refine OJ.nil ?_
      refine SJ.block (id := 0) ?_
      exact SJ.loop (fun s_ : Int => [(1, Sl.v a1), (2, .pointer (some (pt b1 0))), (5, .pointer r2.1), (6, .int .i64 s_)]) (fun s_ : Int => [(b1, c_api_NeighConfig.enc r2.2)]) [1, 2, 5, 6] rfl (fun _ _ => rfl) (fun s_ => weirlaw15_NeighBounds.L1_ok a1 b1 r2 s_)

/-! ### (*weir/neigh.Cache).Get: function 43 -/
noncomputable def neigh_Cache_Get.B : Code := (Try.f43.body).getD .skip
noncomputable def neigh_Cache_Get.cx : Fx := ⟨Try.prog, 43, Try.f43⟩
noncomputable def neigh_Cache_Get.out (r_ : (api_Neighbour × Bool)) : Value := .tuple #[c_api_Neighbour.val r_.1, .bool r_.2]
noncomputable def neigh_Cache_Get.F0 (r_ : (api_Neighbour × Bool)) : Reach := .ret (neigh_Cache_Get.out r_)
noncomputable def neigh_Cache_Get (a0 : (Option Addr)) (a1 : Int) (a2 : api_IP) : M (api_Neighbour × Bool) :=
  slot 32 >>= fun b1 =>
  slot 77 >>= fun b2 =>
  draw >>= fun _ =>
  nilck a0 >>= fun p3 =>
  ld cM (Addr.add p3 5) >>= fun x4 =>
  mget c_neigh_key cP none x4 (⟨a1, a2⟩ : neigh_key) >>= fun r5 =>
  if r5.1 = none then
    pure (z_api_Neighbour, false)
  else
    neigh_entry_told r5.1 >>= fun r6 =>
    pure (r6, true)
theorem neigh_Cache_Get_ok (a0 : (Option Addr)) (a1 : Int) (a2 : api_IP) : Ref Try.prog 43 [.pointer a0, .int .i64 a1, c_api_IP.val a2] (neigh_Cache_Get a0 a1 a2) neigh_Cache_Get.out := by
  refine Ref.of (cd := neigh_Cache_Get.B) Try.func43 ?_
  show SJ neigh_Cache_Get.cx [.code neigh_Cache_Get.B] [(0, .pointer a0), (1, .int .i64 a1), (2, c_api_IP.val a2)] [] (neigh_Cache_Get a0 a1 a2) neigh_Cache_Get.F0
  unfold neigh_Cache_Get
  refine SJ.sr 3 ?_
  refine OJ.slotOf (d := 5) (op := (.box 32 (.tmp 2))) (cd := c_api_IP) (u := a2) (owed := []) (box_run (by kernel_rfl)) (fun b1 => ?_)
  refine OW.nil ?_
  refine OJ.slotOf (d := 6) (op := (.alloc 77)) (cd := c_api_Neighbour) (u := z_api_Neighbour) (owed := []) (alloc_run Ty77) (fun b2 => ?_)
  refine OW.nil ?_
  refine OJ.go 1 [(7, .bool false)] ?_
  refine OJ.nil ?_
  refine SJ.seq ?_
  refine SJ.draw (id := 1) (kd := [0, 0, 0, 1, 0, 1, 0, 2, 0]) (bef := [0, 1, 3, 7, 0, 0, 48, 127, 255]) (ord := [0, 1, 2, 3, 4, 5, 6, 7, 8]) mixed ?_
  refine OJ.go 1 [(9, .pointer a0)] ?_
  refine OJ.nilck (d := 10) (y := .tmp 9) (fun p3 => ?_)
  refine OJ.go 1 [(11, .pointer (some (Addr.add p3 5)))] ?_
  refine OJ.ld (d := 12) (y := .tmp 11) (pend2 := fun x4 => [⟨3, 101, (Addr.add p3 5), cM.val x4⟩]) Ty101 (fun _ => rfl) (fun x4 => ?_)
  refine OJ.go 1 [(13, .int .i64 a1)] ?_
  refine OJ.kld (d := 14) (y := .tmp 5) (cd := c_api_IP) (j := 1) (b := b1) (o := 0) a2 (pend2 := [⟨5, 32, (pt b1 0), c_api_IP.val a2⟩, ⟨3, 101, (Addr.add p3 5), cM.val x4⟩]) Ty32 rfl (At.whole _) rfl ?_
  refine OJ.build (d := 15) (T := 99) (parts := [(0, .tmp 13), (1, .tmp 14)]) (ps := [(0, (cI .i64).val a1), (1, c_api_IP.val a2)]) (cd := c_neigh_key) (z0 := z_neigh_key) (⟨a1, a2⟩ : neigh_key) Ty99 rfl (Filled.cons (cd := (cI .i64)) (q := a1) (o := 0) (by kernel_rfl) (Up_neigh_key_port z_neigh_key a1) (Filled.cons (cd := c_api_IP) (q := a2) (o := 1) (by kernel_rfl) (Up_neigh_key_ip (⟨a1, z_neigh_key.ip⟩ : neigh_key) a2) Filled.nil)) ?_
  refine OJ.get0 (d := 16) (x := .tmp 12) (y := .tmp 15) (owed := []) Kt101 (fun r5 => ?_)
  refine OW.nil ?_
  refine OJ.go 1 [(8, .pointer r5.1)] ?_
  refine OJ.nil ?_
  refine SJ.seq ?_
  refine SJ.sr 2 ?_
  refine OJ.go 2 [(18, .bool (Option.isNone r5.1)), (17, .pointer r5.1)] ?_
  refine OJ.nil ?_
  refine SJ.cond (t := (.tmp 18)) (b := (Option.isNone r5.1)) Option.isNone_iff_eq_none (fun hc7 => ?_) (fun hc7 => ?_)
  · refine SJ.sr 3 ?_
    refine OJ.build (d := 19) (T := 77) (parts := []) (ps := []) (cd := c_api_Neighbour) (z0 := z_api_Neighbour) z_api_Neighbour Ty77 rfl Filled.nil ?_
    refine OJ.kst (y := .tmp 6) (z := .tmp 19) (cd := c_api_Neighbour) (u := z_api_Neighbour) (j := 0) (b := b2) (o := 0) (c_api_Neighbour.enc z_api_Neighbour) (owed := []) Ty77 rfl (Upd.whole ((Cod.len _ _).trans (Cod.len _ _).symm)) rfl ?_
    refine OW.nil ?_
    refine OJ.go 1 [(7, .bool false)] ?_
    refine OJ.nil ?_
    exact SJ.ret rfl (Res.run (ys := [c_api_Neighbour.val z_api_Neighbour, .bool false]) (.cell (j := 0) (b := b2) (cd := c_api_Neighbour) (q := z_api_Neighbour) (by kernel_rfl) rfl Ty77 (At.whole _) (.tmp (by kernel_rfl) .nil)) rfl)
  · refine SJ.skip ?_
    refine SJ.sr 4 ?_
    refine OJ.go 1 [(20, .pointer r5.1)] ?_
    refine OJ.call (d := 21) (g := 51) (ats := #[100]) (args := [.tmp 20]) (owed := []) F51 (neigh_entry_told_ok r5.1) (fun r6 => ?_)
    refine OW.nil ?_
    refine OJ.kst (y := .tmp 6) (z := .tmp 21) (cd := c_api_Neighbour) (u := r6) (j := 0) (b := b2) (o := 0) (c_api_Neighbour.enc r6) (owed := []) Ty77 rfl (Upd.whole ((Cod.len _ _).trans (Cod.len _ _).symm)) rfl ?_
    refine OW.nil ?_
    refine OJ.go 1 [(7, .bool true)] ?_
    refine OJ.nil ?_
    exact SJ.ret rfl (Res.run (ys := [c_api_Neighbour.val r6, .bool true]) (.cell (j := 0) (b := b2) (cd := c_api_Neighbour) (q := r6) (by kernel_rfl) rfl Ty77 (At.whole _) (.tmp (by kernel_rfl) .nil)) rfl)
end Go.Proofs.Ytlkhijflgbobjaa.Lx
