/- Programs of the M-world for Go functions, each with the proof that the Go text does what it says. Printed by lxgen.py. -/
import Derived.Test.YtlkhijflgbobjaaLxT
import Derived.Test.YtlkhijflgbobjaaLxP0
import Derived.Test.YtlkhijflgbobjaaLxP1
import Derived.Test.YtlkhijflgbobjaaLxP2
set_option linter.unusedVariables false
set_option linter.unusedSimpArgs false
namespace Go.Proofs.Ytlkhijflgbobjaa.Lx
open Go Go.Proofs
/-! ### (*weir/neigh.Cache).Learn: function 18 -/
noncomputable def neigh_Cache_Learn.B : Code := (Try.f18.body).getD .skip
noncomputable def neigh_Cache_Learn.cx : Fx := ⟨Try.prog, 18, Try.f18⟩
noncomputable def neigh_Cache_Learn.out (r_ : (Sl × Int)) : Value := .tuple #[Sl.v r_.1, .int .i64 r_.2]
noncomputable def neigh_Cache_Learn.F0 (r_ : (Sl × Int)) : Reach := .ret (neigh_Cache_Learn.out r_)
noncomputable def neigh_Cache_Learn (a0 : (Option Addr)) (a1 : Int) (a2 : api_IP) (a3 : (Vec Int 6)) (a4 : Int) : M (Sl × Int) :=
  slot 32 >>= fun b1 =>
  slot 34 >>= fun b2 =>
  neigh_place a1 a2 >>= fun r3 =>
  (if ¬ (r3 = true) then
      pure true
    else
      neigh_station a3 >>= fun r4 =>
      pure (!r4)) >>= fun y5 =>
  (if y5 = true then
      pure true
    else
      pure (decide (a4 < 1))) >>= fun y6 =>
  (if y6 = true then
      pure true
    else
      pure (decide (a4 > 3))) >>= fun y7 =>
  if y7 = true then
    pure (Sl.nil, 1)
  else
    slot 99 >>= fun b8 =>
    draw >>= fun _ =>
    nilck a0 >>= fun p9 =>
    ld cM (Addr.add p9 5) >>= fun x10 =>
    mget c_neigh_key cP none x10 (⟨a1, a2⟩ : neigh_key) >>= fun r11 =>
    (if r11.1 = none then
        pure (a4 != 2)
      else
        pure false) >>= fun y12 =>
    if y12 = true then
      pure (Sl.nil, 0)
    else
      (if r11.1 = none then
          neigh_Cache_room a0 >>= fun r178 =>
          pure (!r178)
        else
          pure false) >>= fun y179 =>
      if y179 = true then
        pure (Sl.nil, 151)
      else
        if r11.1 = none then
          draw >>= fun _ =>
          nilck a0 >>= fun p301 =>
          ld cM (Addr.add p301 5) >>= fun x302 =>
          newv 105 c_neigh_entry (⟨(⟨a1, a2⟩ : neigh_key), a3, 3, z_neigh_entry.age, z_neigh_entry.tries, z_neigh_entry.items⟩ : neigh_entry) >>= fun b303 =>
          same cM (Addr.add p301 5) x302 >>= fun _ =>
          mset c_neigh_key cP x302 (⟨a1, a2⟩ : neigh_key) (some (pt b303 0)) >>= fun _ =>
          pure (Sl.nil, 0)
        else
          if a4 = 1 then
            nilck r11.1 >>= fun p322 =>
            st ((cI .u8).arr 6) (Addr.add p322 18) a3 >>= fun _ =>
            nilck r11.1 >>= fun p323 =>
            st (cI .i64) (Addr.add p323 24) 2 >>= fun _ =>
            nilck r11.1 >>= fun p324 =>
            st (cI .i64) (Addr.add p324 25) 0 >>= fun _ =>
            nilck r11.1 >>= fun p325 =>
            st (cI .i64) (Addr.add p325 26) 0 >>= fun _ =>
            neigh_entry_take r11.1 >>= fun r326 =>
            pure (r326, 0)
          else
            draw >>= fun _ =>
            nilck r11.1 >>= fun p327 =>
            ld (cI .i64) (Addr.add p327 24) >>= fun x328 =>
            (if x328 = 1 then
                pure true
              else
                nilck r11.1 >>= fun p329 =>
                ld ((cI .u8).arr 6) (Addr.add p329 18) >>= fun x330 =>
                pure (!eqv x330 a3)) >>= fun y331 =>
            if y331 = true then
              nilck r11.1 >>= fun p336 =>
              st ((cI .u8).arr 6) (Addr.add p336 18) a3 >>= fun _ =>
              nilck r11.1 >>= fun p337 =>
              st (cI .i64) (Addr.add p337 24) 3 >>= fun _ =>
              nilck r11.1 >>= fun p338 =>
              st (cI .i64) (Addr.add p338 25) 0 >>= fun _ =>
              nilck r11.1 >>= fun p339 =>
              st (cI .i64) (Addr.add p339 26) 0 >>= fun _ =>
              neigh_entry_take r11.1 >>= fun r340 =>
              pure (r340, 0)
            else
              neigh_entry_take r11.1 >>= fun r341 =>
              pure (r341, 0)
theorem neigh_Cache_Learn_ok (a0 : (Option Addr)) (a1 : Int) (a2 : api_IP) (a3 : (Vec Int 6)) (a4 : Int) : Ref Try.prog 18 [.pointer a0, .int .i64 a1, c_api_IP.val a2, ((cI .u8).arr 6).val a3, .int .i64 a4] (neigh_Cache_Learn a0 a1 a2 a3 a4) neigh_Cache_Learn.out := by
  refine Ref.of (cd := neigh_Cache_Learn.B) Try.func18 ?_
  show SJ neigh_Cache_Learn.cx [.code neigh_Cache_Learn.B] [(0, .pointer a0), (1, .int .i64 a1), (2, c_api_IP.val a2), (3, ((cI .u8).arr 6).val a3), (4, .int .i64 a4)] [] (neigh_Cache_Learn a0 a1 a2 a3 a4) neigh_Cache_Learn.F0
  unfold neigh_Cache_Learn
  refine SJ.sr 4 ?_
  refine OJ.slotOf (d := 7) (op := (.box 32 (.tmp 2))) (cd := c_api_IP) (u := a2) (owed := []) (box_run (by kernel_rfl)) (fun b1 => ?_)
  refine OW.nil ?_
  refine OJ.slotOf (d := 8) (op := (.box 34 (.tmp 3))) (cd := ((cI .u8).arr 6)) (u := a3) (owed := []) (box_run (by kernel_rfl)) (fun b2 => ?_)
  refine OW.nil ?_
  refine OJ.go 2 [(11, .int .i64 0), (10, Sl.v Sl.nil)] ?_
  refine OJ.nil ?_
  refine SJ.seq ?_
  refine SJ.sr 17 ?_
  refine OJ.go 1 [(14, .int .i64 a1)] ?_
  refine OJ.kld (d := 15) (y := .tmp 7) (cd := c_api_IP) (j := 1) (b := b1) (o := 0) a2 (pend2 := []) Ty32 rfl (At.whole _) rfl ?_
  refine OJ.call (d := 16) (g := 46) (ats := #[3, 32]) (args := [.tmp 14, .tmp 15]) (owed := []) F46 (neigh_place_ok a1 a2) (fun r3 => ?_)
  refine OW.nil ?_
  refine OJ.go 2 [(18, .bool (!r3)), (17, .bool (!r3))] ?_
  refine OJ.join (b := (!r3)) [5, 6, 7, 8] [9, 10, 11, 12, 13, 14, 15, 16] [0, 1, 4, 7, 8, 22] (fun y5 => [(0, .pointer a0), (1, .int .i64 a1), (4, .int .i64 a4), (7, .pointer (some (pt b1 0))), (8, .pointer (some (pt b2 0))), (22, .bool y5)]) [] [] (t := 18) (bnot_iff Iff.rfl) (fun hp_ => ?_) (fun hp_ => ?_) (fun _ _ _ _ _ _ h_ => h_) (fun y5 => ?_)
  · refine OJ.go 4 [(22, .bool true), (21, undef), (20, undef), (19, undef)] ?_
    exact OJ.nil ⟨(Cov.mem Cov.nil), rfl, _, rfl, by kernel_rfl⟩
  · refine OJ.kld (d := 19) (y := .tmp 8) (cd := ((cI .u8).arr 6)) (j := 0) (b := b2) (o := 0) a3 (pend2 := []) Ty34 rfl (At.whole _) rfl ?_
    refine OJ.call (d := 20) (g := 48) (ats := #[34]) (args := [.tmp 19]) (owed := []) F48 (neigh_station_ok a3) (fun r4 => ?_)
    refine OW.nil ?_
    refine OJ.go 2 [(22, .bool (!r4)), (21, .bool (!r4))] ?_
    exact OJ.nil ⟨(Cov.mem Cov.nil), rfl, _, rfl, by kernel_rfl⟩
  · refine OJ.go 1 [(23, .bool y5)] ?_
    refine OJ.join (b := y5) [10, 11, 12] [13, 14, 15, 16] [0, 1, 4, 7, 8, 26] (fun y6 => [(0, .pointer a0), (1, .int .i64 a1), (4, .int .i64 a4), (7, .pointer (some (pt b1 0))), (8, .pointer (some (pt b2 0))), (26, .bool y6)]) [] [] (t := 23) Iff.rfl (fun hp_ => ?_) (fun hp_ => ?_) (fun _ _ _ _ _ _ h_ => h_) (fun y6 => ?_)
    · refine OJ.go 3 [(26, .bool true), (25, undef), (24, undef)] ?_
      exact OJ.nil ⟨(Cov.mem Cov.nil), rfl, _, rfl, by kernel_rfl⟩
    · refine OJ.go 3 [(26, .bool (decide (a4 < 1))), (25, .bool (decide (a4 < 1))), (24, .int .i64 a4)] ?_
      exact OJ.nil ⟨(Cov.mem Cov.nil), rfl, _, rfl, by kernel_rfl⟩
    · refine OJ.go 1 [(27, .bool y6)] ?_
      refine OJ.join (b := y6) [14, 15, 16] [] [0, 1, 4, 7, 8, 30] (fun y7 => [(0, .pointer a0), (1, .int .i64 a1), (4, .int .i64 a4), (7, .pointer (some (pt b1 0))), (8, .pointer (some (pt b2 0))), (30, .bool y7)]) [] [] (t := 27) Iff.rfl (fun hp_ => ?_) (fun hp_ => ?_) (fun _ _ _ _ _ _ h_ => h_) (fun y7 => ?_)
      · refine OJ.go 3 [(30, .bool true), (29, undef), (28, undef)] ?_
        exact OJ.nil ⟨(Cov.mem Cov.nil), rfl, _, rfl, by kernel_rfl⟩
      · refine OJ.go 3 [(30, .bool (decide (a4 > 3))), (29, .bool (decide (a4 > 3))), (28, .int .i64 a4)] ?_
        exact OJ.nil ⟨(Cov.mem Cov.nil), rfl, _, rfl, by kernel_rfl⟩
      · refine OJ.nil ?_
        refine SJ.cond (t := (.tmp 30)) (b := y7) Iff.rfl (fun hc347 => ?_) (fun hc347 => ?_)
        · refine SJ.sr 2 ?_
          refine OJ.go 2 [(11, .int .i64 1), (10, Sl.v Sl.nil)] ?_
          refine OJ.nil ?_
          exact SJ.ret rfl (Res.run (ys := [Sl.v Sl.nil, .int .i64 1]) (.tmp (by kernel_rfl) (.tmp (by kernel_rfl) .nil)) rfl)
        · refine SJ.skip ?_
          refine SJ.sr 5 ?_
          refine OJ.go 1 [(31, .int .i64 a1)] ?_
          refine OJ.kld (d := 32) (y := .tmp 7) (cd := c_api_IP) (j := 1) (b := b1) (o := 0) a2 (pend2 := []) Ty32 rfl (At.whole _) rfl ?_
          refine OJ.build (d := 33) (T := 99) (parts := [(0, .tmp 31), (1, .tmp 32)]) (ps := [(0, (cI .i64).val a1), (1, c_api_IP.val a2)]) (cd := c_neigh_key) (z0 := z_neigh_key) (⟨a1, a2⟩ : neigh_key) Ty99 rfl (Filled.cons (cd := (cI .i64)) (q := a1) (o := 0) (by kernel_rfl) (Up_neigh_key_port z_neigh_key a1) (Filled.cons (cd := c_api_IP) (q := a2) (o := 1) (by kernel_rfl) (Up_neigh_key_ip (⟨a1, z_neigh_key.ip⟩ : neigh_key) a2) Filled.nil)) ?_
          refine OJ.slotOf (d := 12) (op := (.alloc 99)) (cd := c_neigh_key) (u := z_neigh_key) (owed := []) (alloc_run Ty99) (fun b8 => ?_)
          refine OW.nil ?_
          refine OJ.kst (y := .tmp 12) (z := .tmp 33) (cd := c_neigh_key) (u := (⟨a1, a2⟩ : neigh_key)) (j := 0) (b := b8) (o := 0) (c_neigh_key.enc (⟨a1, a2⟩ : neigh_key)) (owed := []) Ty99 rfl (Upd.whole ((Cod.len _ _).trans (Cod.len _ _).symm)) rfl ?_
          refine OW.nil ?_
          refine OJ.nil ?_
          refine SJ.seq ?_
          refine SJ.draw (id := 4) (kd := [0, 0, 0, 1, 1, 2, 0]) (bef := [0, 1, 3, 7, 0, 31, 63]) (ord := [0, 1, 2, 3, 4, 5, 6]) mixed ?_
          refine OJ.go 1 [(34, .pointer a0)] ?_
          refine OJ.nilck (d := 35) (y := .tmp 34) (fun p9 => ?_)
          refine OJ.go 1 [(36, .pointer (some (Addr.add p9 5)))] ?_
          refine OJ.ld (d := 37) (y := .tmp 36) (pend2 := fun x10 => [⟨3, 101, (Addr.add p9 5), cM.val x10⟩]) Ty101 (fun _ => rfl) (fun x10 => ?_)
          refine OJ.kld (d := 38) (y := .tmp 12) (cd := c_neigh_key) (j := 0) (b := b8) (o := 0) (⟨a1, a2⟩ : neigh_key) (pend2 := [⟨4, 99, (pt b8 0), c_neigh_key.val (⟨a1, a2⟩ : neigh_key)⟩, ⟨3, 101, (Addr.add p9 5), cM.val x10⟩]) Ty99 rfl (At.whole _) rfl ?_
          refine OJ.get0 (d := 39) (x := .tmp 37) (y := .tmp 38) (owed := []) Kt101 (fun r11 => ?_)
          refine OW.nil ?_
          refine OJ.go 1 [(13, .pointer r11.1)] ?_
          refine OJ.nil ?_
          refine SJ.seq ?_
          refine SJ.block (id := 0) ?_
          refine SJ.sr 7 ?_
          refine OJ.go 3 [(43, .bool (Option.isNone r11.1)), (42, .bool (Option.isNone r11.1)), (41, .pointer r11.1)] ?_
          refine OJ.join (b := (Option.isNone r11.1)) [3, 4, 5] [6] [0, 4, 8, 12, 13, 46] (fun y12 => [(0, .pointer a0), (4, .int .i64 a4), (8, .pointer (some (pt b2 0))), (12, .pointer (some (pt b8 0))), (13, .pointer r11.1), (46, .bool y12)]) [] [] (t := 43) Option.isNone_iff_eq_none (fun hp_ => ?_) (fun hp_ => ?_) (fun _ _ _ _ _ _ h_ => h_) (fun y12 => ?_)
          · refine OJ.go 3 [(46, .bool (a4 != 2)), (45, .bool (a4 != 2)), (44, .int .i64 a4)] ?_
            exact OJ.nil ⟨(Cov.mem Cov.nil), rfl, _, rfl, by kernel_rfl⟩
          · refine OJ.go 3 [(46, .bool false), (45, undef), (44, undef)] ?_
            exact OJ.nil ⟨(Cov.mem Cov.nil), rfl, _, rfl, by kernel_rfl⟩
          · refine OJ.go 1 [(40, .bool y12)] ?_
            refine OJ.nil ?_
            refine SJ.cond (t := (.tmp 40)) (b := y12) Iff.rfl (fun hc346 => ?_) (fun hc346 => ?_)
            · refine SJ.sr 2 ?_
              refine OJ.go 2 [(11, .int .i64 0), (10, Sl.v Sl.nil)] ?_
              refine OJ.nil ?_
              exact SJ.ret rfl (Res.run (ys := [Sl.v Sl.nil, .int .i64 0]) (.tmp (by kernel_rfl) (.tmp (by kernel_rfl) .nil)) rfl)
            · refine SJ.sr 8 ?_
              refine OJ.go 3 [(50, .bool (Option.isNone r11.1)), (49, .bool (Option.isNone r11.1)), (48, .pointer r11.1)] ?_
              refine OJ.join (b := (Option.isNone r11.1)) [3, 4, 5, 6] [7] [0, 4, 8, 12, 13, 54] (fun y179 => [(0, .pointer a0), (4, .int .i64 a4), (8, .pointer (some (pt b2 0))), (12, .pointer (some (pt b8 0))), (13, .pointer r11.1), (54, .bool y179)]) [] [] (t := 50) Option.isNone_iff_eq_none (fun hp_ => ?_) (fun hp_ => ?_) (fun _ _ _ _ _ _ h_ => h_) (fun y179 => ?_)
              · refine OJ.go 1 [(51, .pointer a0)] ?_
                refine OJ.call (d := 52) (g := 47) (ats := #[25]) (args := [.tmp 51]) (owed := []) F47 (neigh_Cache_room_ok a0) (fun r178 => ?_)
                refine OW.nil ?_
                refine OJ.go 2 [(54, .bool (!r178)), (53, .bool (!r178))] ?_
                exact OJ.nil ⟨(Cov.mem Cov.nil), rfl, _, rfl, by kernel_rfl⟩
              · refine OJ.go 4 [(54, .bool false), (53, undef), (52, undef), (51, undef)] ?_
                exact OJ.nil ⟨(Cov.mem Cov.nil), rfl, _, rfl, by kernel_rfl⟩
              · refine OJ.go 1 [(47, .bool y179)] ?_
                refine OJ.nil ?_
                refine SJ.cond (t := (.tmp 47)) (b := y179) Iff.rfl (fun hc345 => ?_) (fun hc345 => ?_)
                · refine SJ.sr 2 ?_
                  refine OJ.go 2 [(11, .int .i64 151), (10, Sl.v Sl.nil)] ?_
                  refine OJ.nil ?_
                  exact SJ.ret rfl (Res.run (ys := [Sl.v Sl.nil, .int .i64 151]) (.tmp (by kernel_rfl) (.tmp (by kernel_rfl) .nil)) rfl)
                · refine SJ.sr 3 ?_
                  refine OJ.go 3 [(55, .bool (Option.isNone r11.1)), (57, .bool (Option.isNone r11.1)), (56, .pointer r11.1)] ?_
                  refine OJ.nil ?_
                  refine SJ.cond (t := (.tmp 55)) (b := (Option.isNone r11.1)) Option.isNone_iff_eq_none (fun hc344 => ?_) (fun hc344 => ?_)
                  · refine SJ.seq ?_
                    refine SJ.draw (id := 10) (kd := [0, 0, 0, 1, 1, 1, 1, 0, 2, 2]) (bef := [0, 1, 3, 7, 0, 0, 0, 96, 224, 511]) (ord := [0, 1, 2, 3, 4, 5, 6, 7, 8, 9]) mixed ?_
                    refine OJ.go 1 [(58, .pointer a0)] ?_
                    refine OJ.nilck (d := 59) (y := .tmp 58) (fun p301 => ?_)
                    refine OJ.go 1 [(60, .pointer (some (Addr.add p301 5)))] ?_
                    refine OJ.ld (d := 61) (y := .tmp 60) (pend2 := fun x302 => [⟨3, 101, (Addr.add p301 5), cM.val x302⟩]) Ty101 (fun _ => rfl) (fun x302 => ?_)
                    refine OJ.kld (d := 62) (y := .tmp 12) (cd := c_neigh_key) (j := 0) (b := b8) (o := 0) (⟨a1, a2⟩ : neigh_key) (pend2 := [⟨4, 99, (pt b8 0), c_neigh_key.val (⟨a1, a2⟩ : neigh_key)⟩, ⟨3, 101, (Addr.add p301 5), cM.val x302⟩]) Ty99 rfl (At.whole _) rfl ?_
                    refine OJ.kld (d := 63) (y := .tmp 12) (cd := c_neigh_key) (j := 0) (b := b8) (o := 0) (⟨a1, a2⟩ : neigh_key) (pend2 := [⟨5, 99, (pt b8 0), c_neigh_key.val (⟨a1, a2⟩ : neigh_key)⟩, ⟨4, 99, (pt b8 0), c_neigh_key.val (⟨a1, a2⟩ : neigh_key)⟩, ⟨3, 101, (Addr.add p301 5), cM.val x302⟩]) Ty99 rfl (At.whole _) rfl ?_
                    refine OJ.kld (d := 64) (y := .tmp 8) (cd := ((cI .u8).arr 6)) (j := 1) (b := b2) (o := 0) a3 (pend2 := [⟨6, 34, (pt b2 0), ((cI .u8).arr 6).val a3⟩, ⟨5, 99, (pt b8 0), c_neigh_key.val (⟨a1, a2⟩ : neigh_key)⟩, ⟨4, 99, (pt b8 0), c_neigh_key.val (⟨a1, a2⟩ : neigh_key)⟩, ⟨3, 101, (Addr.add p301 5), cM.val x302⟩]) Ty34 rfl (At.whole _) rfl ?_
                    refine OJ.build (d := 65) (T := 105) (parts := [(0, .tmp 63), (1, .tmp 64), (2, .const (.int .i64 3))]) (ps := [(0, c_neigh_key.val (⟨a1, a2⟩ : neigh_key)), (1, ((cI .u8).arr 6).val a3), (2, (cI .i64).val 3)]) (cd := c_neigh_entry) (z0 := z_neigh_entry) (⟨(⟨a1, a2⟩ : neigh_key), a3, 3, z_neigh_entry.age, z_neigh_entry.tries, z_neigh_entry.items⟩ : neigh_entry) Ty105 rfl (Filled.cons (cd := c_neigh_key) (q := (⟨a1, a2⟩ : neigh_key)) (o := 0) (by kernel_rfl) (Up_neigh_entry_key z_neigh_entry (⟨a1, a2⟩ : neigh_key)) (Filled.cons (cd := ((cI .u8).arr 6)) (q := a3) (o := 18) (by kernel_rfl) (Up_neigh_entry_mac (⟨(⟨a1, a2⟩ : neigh_key), z_neigh_entry.mac, z_neigh_entry.state, z_neigh_entry.age, z_neigh_entry.tries, z_neigh_entry.items⟩ : neigh_entry) a3) (Filled.cons (cd := (cI .i64)) (q := 3) (o := 24) (by kernel_rfl) (Up_neigh_entry_state (⟨(⟨a1, a2⟩ : neigh_key), a3, z_neigh_entry.state, z_neigh_entry.age, z_neigh_entry.tries, z_neigh_entry.items⟩ : neigh_entry) 3) Filled.nil))) ?_
                    refine OJ.newOf (d := 66) (op := (.box 105 (.tmp 65))) (cd := c_neigh_entry) (u := (⟨(⟨a1, a2⟩ : neigh_key), a3, 3, z_neigh_entry.age, z_neigh_entry.tries, z_neigh_entry.items⟩ : neigh_entry)) (owed := [⟨4, 99, (pt b8 0), c_neigh_key.val (⟨a1, a2⟩ : neigh_key)⟩, ⟨3, 101, (Addr.add p301 5), cM.val x302⟩]) (box_run (by kernel_rfl)) (fun b303 => ?_)
                    refine OW.known (j := 0) (q := (⟨a1, a2⟩ : neigh_key)) Ty99 rfl (At.whole _) ?_
                    refine OW.same Ty101 ?_
                    refine OW.nil ?_
                    refine OJ.mset (x := .tmp 61) (y := .tmp 62) (q := .tmp 66) (owed := []) Kt101 ?_
                    refine OW.nil ?_
                    refine OJ.nil ?_
                    refine SJ.sr 2 ?_
                    refine OJ.go 2 [(11, .int .i64 0), (10, Sl.v Sl.nil)] ?_
                    refine OJ.nil ?_
                    exact SJ.ret rfl (Res.run (ys := [Sl.v Sl.nil, .int .i64 0]) (.tmp (by kernel_rfl) (.tmp (by kernel_rfl) .nil)) rfl)
                  · refine SJ.sr 3 ?_
                    refine OJ.go 3 [(67, .bool (a4 == 1)), (69, .bool (a4 == 1)), (68, .int .i64 a4)] ?_
                    refine OJ.nil ?_
                    refine SJ.cond (t := (.tmp 67)) (b := (a4 == 1)) beq_iff_eq (fun hc343 => ?_) (fun hc343 => ?_)
                    · refine SJ.rg 17 ?_
                      refine OJ.go 4 [(73, .pointer r11.1), (72, .pointer r11.1), (71, .pointer r11.1), (70, .pointer r11.1)] ?_
                      refine OJ.kld (d := 74) (y := .tmp 8) (cd := ((cI .u8).arr 6)) (j := 1) (b := b2) (o := 0) a3 (pend2 := []) Ty34 rfl (At.whole _) rfl ?_
                      refine OJ.nilck (d := 75) (y := .tmp 70) (fun p322 => ?_)
                      refine OJ.go 1 [(76, .pointer (some (Addr.add p322 18)))] ?_
                      refine OJ.st (y := .tmp 76) (z := .tmp 74) (owed := []) Ty34 ?_
                      refine OW.nil ?_
                      refine OJ.nilck (d := 77) (y := .tmp 71) (fun p323 => ?_)
                      refine OJ.go 1 [(78, .pointer (some (Addr.add p323 24)))] ?_
                      refine OJ.st (y := .tmp 78) (z := .const (.int .i64 2)) (owed := []) Ty3 ?_
                      refine OW.nil ?_
                      refine OJ.nilck (d := 79) (y := .tmp 72) (fun p324 => ?_)
                      refine OJ.go 1 [(80, .pointer (some (Addr.add p324 25)))] ?_
                      refine OJ.st (y := .tmp 80) (z := .const (.int .i64 0)) (owed := []) Ty3 ?_
                      refine OW.nil ?_
                      refine OJ.nilck (d := 81) (y := .tmp 73) (fun p325 => ?_)
                      refine OJ.go 1 [(82, .pointer (some (Addr.add p325 26)))] ?_
                      refine OJ.st (y := .tmp 82) (z := .const (.int .i64 0)) (owed := []) Ty3 ?_
                      refine OW.nil ?_
                      refine OJ.nil ?_
                      refine SJ.inBlock ?_
                      refine SJ.sr 4 ?_
                      refine OJ.go 1 [(110, .pointer r11.1)] ?_
                      refine OJ.call (d := 111) (g := 49) (ats := #[100]) (args := [.tmp 110]) (owed := []) F49 (neigh_entry_take_ok r11.1) (fun r326 => ?_)
                      refine OW.nil ?_
                      refine OJ.go 2 [(11, .int .i64 0), (10, Sl.v r326)] ?_
                      refine OJ.nil ?_
                      exact SJ.ret rfl (Res.run (ys := [Sl.v r326, .int .i64 0]) (.tmp (by kernel_rfl) (.tmp (by kernel_rfl) .nil)) rfl)
                    · refine SJ.seq ?_
                      refine SJ.draw (id := 14) (kd := [0, 0, 0, 1, 0, 0, 0, 0, 0, 1, 1, 0, 0, 0]) (bef := [0, 1, 3, 7, 15, 31, 63, 127, 255, 511, 63, 2047, 4095, 8191]) (ord := [0, 1, 2, 3, 4, 5, 6, 7, 8, 9, 10, 11, 12, 13]) mixed ?_
                      refine OJ.go 1 [(84, .pointer r11.1)] ?_
                      refine OJ.nilck (d := 85) (y := .tmp 84) (fun p327 => ?_)
                      refine OJ.go 1 [(86, .pointer (some (Addr.add p327 24)))] ?_
                      refine OJ.ld (d := 87) (y := .tmp 86) (pend2 := fun x328 => [⟨3, 3, (Addr.add p327 24), (cI .i64).val x328⟩]) Ty3 (fun _ => rfl) (fun x328 => ?_)
                      refine OJ.go 2 [(89, .bool (x328 == 1)), (88, .bool (x328 == 1))] ?_
                      refine OJ.join (b := (x328 == 1)) [6, 7, 8, 9, 10, 11, 12] [13] [8, 13, 96] (fun y331 => [(8, .pointer (some (pt b2 0))), (13, .pointer r11.1), (96, .bool y331)]) [⟨10, 34, (pt b2 0), ((cI .u8).arr 6).val a3⟩, ⟨3, 3, (Addr.add p327 24), (cI .i64).val x328⟩] [9] (t := 89) beq_iff_eq (fun hp_ => ?_) (fun hp_ => ?_) (fun _ _ _ _ _ _ h_ => h_) (fun y331 => ?_)
                      · refine OJ.go 7 [(96, .bool true), (95, undef), (94, undef), (93, undef), (92, undef), (91, undef), (90, undef)] ?_
                        exact OJ.nil ⟨(Cov.mem (Cov.keep (List.mem_of_getElem? (i := 1) rfl) Cov.nil)), rfl, _, rfl, by kernel_rfl⟩
                      · refine OJ.go 1 [(90, .pointer r11.1)] ?_
                        refine OJ.nilck (d := 91) (y := .tmp 90) (fun p329 => ?_)
                        refine OJ.go 1 [(92, .pointer (some (Addr.add p329 18)))] ?_
                        refine OJ.ld (d := 93) (y := .tmp 92) (pend2 := fun x330 => [⟨9, 34, (Addr.add p329 18), ((cI .u8).arr 6).val x330⟩, ⟨3, 3, (Addr.add p327 24), (cI .i64).val x328⟩]) Ty34 (fun _ => rfl) (fun x330 => ?_)
                        refine OJ.kld (d := 94) (y := .tmp 8) (cd := ((cI .u8).arr 6)) (j := 1) (b := b2) (o := 0) a3 (pend2 := [⟨10, 34, (pt b2 0), ((cI .u8).arr 6).val a3⟩, ⟨9, 34, (Addr.add p329 18), ((cI .u8).arr 6).val x330⟩, ⟨3, 3, (Addr.add p327 24), (cI .i64).val x328⟩]) Ty34 rfl (At.whole _) rfl ?_
                        refine OJ.neq (d := 95) (T := 34) (yT := 34) (y := .tmp 93) (z := .tmp 94) (cd := ((cI .u8).arr 6)) (p := x330) (q := a3) rfl Eq34 ?_
                        refine OJ.go 1 [(96, .bool (!eqv x330 a3))] ?_
                        exact OJ.nil ⟨(Cov.mem (Cov.keep (List.mem_of_getElem? (i := 0) rfl) (Cov.drop (List.mem_of_getElem? (i := 0) rfl) (Cov.keep (List.mem_of_getElem? (i := 1) rfl) Cov.nil)))), rfl, _, rfl, by kernel_rfl⟩
                      · refine OJ.go 1 [(83, .bool y331)] ?_
                        refine OJ.nil ?_
                        refine SJ.cond (t := (.tmp 83)) (b := y331) Iff.rfl (fun hc342 => ?_) (fun hc342 => ?_)
                        · refine SJ.rg 17 ?_
                          refine OJ.go 4 [(100, .pointer r11.1), (99, .pointer r11.1), (98, .pointer r11.1), (97, .pointer r11.1)] ?_
                          refine OJ.kld (d := 101) (y := .tmp 8) (cd := ((cI .u8).arr 6)) (j := 1) (b := b2) (o := 0) a3 (pend2 := []) Ty34 rfl (At.whole _) rfl ?_
                          refine OJ.nilck (d := 102) (y := .tmp 97) (fun p336 => ?_)
                          refine OJ.go 1 [(103, .pointer (some (Addr.add p336 18)))] ?_
                          refine OJ.st (y := .tmp 103) (z := .tmp 101) (owed := []) Ty34 ?_
                          refine OW.nil ?_
                          refine OJ.nilck (d := 104) (y := .tmp 98) (fun p337 => ?_)
                          refine OJ.go 1 [(105, .pointer (some (Addr.add p337 24)))] ?_
                          refine OJ.st (y := .tmp 105) (z := .const (.int .i64 3)) (owed := []) Ty3 ?_
                          refine OW.nil ?_
                          refine OJ.nilck (d := 106) (y := .tmp 99) (fun p338 => ?_)
                          refine OJ.go 1 [(107, .pointer (some (Addr.add p338 25)))] ?_
                          refine OJ.st (y := .tmp 107) (z := .const (.int .i64 0)) (owed := []) Ty3 ?_
                          refine OW.nil ?_
                          refine OJ.nilck (d := 108) (y := .tmp 100) (fun p339 => ?_)
                          refine OJ.go 1 [(109, .pointer (some (Addr.add p339 26)))] ?_
                          refine OJ.st (y := .tmp 109) (z := .const (.int .i64 0)) (owed := []) Ty3 ?_
                          refine OW.nil ?_
                          refine OJ.nil ?_
                          refine SJ.inBlock ?_
                          refine SJ.sr 4 ?_
                          refine OJ.go 1 [(110, .pointer r11.1)] ?_
                          refine OJ.call (d := 111) (g := 49) (ats := #[100]) (args := [.tmp 110]) (owed := []) F49 (neigh_entry_take_ok r11.1) (fun r340 => ?_)
                          refine OW.nil ?_
                          refine OJ.go 2 [(11, .int .i64 0), (10, Sl.v r340)] ?_
                          refine OJ.nil ?_
                          exact SJ.ret rfl (Res.run (ys := [Sl.v r340, .int .i64 0]) (.tmp (by kernel_rfl) (.tmp (by kernel_rfl) .nil)) rfl)
                        · refine SJ.skip ?_
                          refine SJ.inBlock ?_
                          refine SJ.sr 4 ?_
                          refine OJ.go 1 [(110, .pointer r11.1)] ?_
                          refine OJ.call (d := 111) (g := 49) (ats := #[100]) (args := [.tmp 110]) (owed := []) F49 (neigh_entry_take_ok r11.1) (fun r341 => ?_)
                          refine OW.nil ?_
                          refine OJ.go 2 [(11, .int .i64 0), (10, Sl.v r341)] ?_
                          refine OJ.nil ?_
                          exact SJ.ret rfl (Res.run (ys := [Sl.v r341, .int .i64 0]) (.tmp (by kernel_rfl) (.tmp (by kernel_rfl) .nil)) rfl)

/-! ### weir/weirref15.Learn: function 63 -/
noncomputable def weirref15_Learn.B : Code := (Try.f63.body).getD .skip
noncomputable def weirref15_Learn.cx : Fx := ⟨Try.prog, 63, Try.f63⟩
noncomputable def weirref15_Learn.out (r_ : (weirref15_Cache × Sl × Int)) : Value := .tuple #[c_weirref15_Cache.val r_.1, Sl.v r_.2.1, .int .i64 r_.2.2]
noncomputable def weirref15_Learn.F0 (r_ : (weirref15_Cache × Sl × Int)) : Reach := .ret (weirref15_Learn.out r_)
noncomputable def weirref15_Learn.K1 (a0 : weirref15_Cache) (r13 : Int) (x25 : weirref15_Entry) (j29 : weirref15_Entry) : M (weirref15_Cache × Sl × Int) :=
  weirref15_put a0.L r13 j29 >>= fun r30 =>
  pure ((⟨a0.C, r30⟩ : weirref15_Cache), x25.Items, 0)
theorem weirref15_Learn.K1_ok (a0 : weirref15_Cache) (b1 : Nat) (b4 : Nat) (r13 : Int) (x25 : weirref15_Entry) (b26 : Nat) (j29 : weirref15_Entry) :
    SJ weirref15_Learn.cx [.code (c2 (c2 (c2 (c2 (c2 (c2 (c2 (c2 (c2 (c2 (c2 (c2 weirref15_Learn.B))))))))))))] [(5, .pointer (some (pt b1 0))), (10, .pointer (some (pt b4 0))), (15, .int .i64 r13), (18, .pointer (some (pt b26 0))), (19, Sl.v x25.Items)] [(b26, c_weirref15_Entry.enc j29), (b4, c_weirref15_Cache.enc z_weirref15_Cache), (b1, c_weirref15_Cache.enc a0)] (weirref15_Learn.K1 a0 r13 x25 j29) weirref15_Learn.F0 := by
  unfold weirref15_Learn.K1
  refine SJ.sr 7 ?_
  refine OJ.go 1 [(105, .pointer (some (pt b1 5)))] ?_
  refine OJ.kld (d := 106) (y := .tmp 105) (cd := cL) (j := 2) (b := b1) (o := 5) a0.L (pend2 := []) Ty84 rfl (At_weirref15_Cache_L a0) rfl ?_
  refine OJ.go 1 [(107, .int .i64 r13)] ?_
  refine OJ.kld (d := 108) (y := .tmp 18) (cd := c_weirref15_Entry) (j := 0) (b := b26) (o := 0) j29 (pend2 := []) Ty145 rfl (At.whole _) rfl ?_
  refine OJ.call (d := 109) (g := 76) (ats := #[84, 3, 145]) (args := [.tmp 106, .tmp 107, .tmp 108]) (owed := []) F76 (weirref15_put_ok a0.L r13 j29) (fun r30 => ?_)
  refine OW.nil ?_
  refine OJ.go 1 [(110, .pointer (some (pt b1 5)))] ?_
  refine OJ.kst (y := .tmp 110) (z := .tmp 109) (cd := cL) (u := r30) (j := 2) (b := b1) (o := 5) (c_weirref15_Cache.enc (⟨a0.C, r30⟩ : weirref15_Cache)) (owed := []) Ty84 rfl (Up_weirref15_Cache_L a0 r30) rfl ?_
  refine OW.nil ?_
  refine OJ.nil ?_
  refine SJ.sr 5 ?_
  refine OJ.kld (d := 111) (y := .tmp 5) (cd := c_weirref15_Cache) (j := 2) (b := b1) (o := 0) (⟨a0.C, r30⟩ : weirref15_Cache) (pend2 := []) Ty86 rfl (At.whole _) rfl ?_
  refine OJ.go 1 [(112, Sl.v x25.Items)] ?_
  refine OJ.kst (y := .tmp 10) (z := .tmp 111) (cd := c_weirref15_Cache) (u := (⟨a0.C, r30⟩ : weirref15_Cache)) (j := 1) (b := b4) (o := 0) (c_weirref15_Cache.enc (⟨a0.C, r30⟩ : weirref15_Cache)) (owed := []) Ty86 rfl (Upd.whole ((Cod.len _ _).trans (Cod.len _ _).symm)) rfl ?_
  refine OW.nil ?_
  refine OJ.go 2 [(12, .int .i64 0), (11, Sl.v x25.Items)] ?_
  refine OJ.nil ?_
  exact SJ.ret rfl (Res.run (ys := [c_weirref15_Cache.val (⟨a0.C, r30⟩ : weirref15_Cache), Sl.v x25.Items, .int .i64 0]) (.cell (j := 1) (b := b4) (cd := c_weirref15_Cache) (q := (⟨a0.C, r30⟩ : weirref15_Cache)) (by kernel_rfl) rfl Ty86 (At.whole _) (.tmp (by kernel_rfl) (.tmp (by kernel_rfl) .nil))) rfl)
noncomputable def weirref15_Learn (a0 : weirref15_Cache) (a1 : Int) (a2 : api_IP) (a3 : (Vec Int 6)) (a4 : Int) : M (weirref15_Cache × Sl × Int) :=
  slot 86 >>= fun b1 =>
  slot 32 >>= fun b2 =>
  slot 34 >>= fun b3 =>
  slot 86 >>= fun b4 =>
  slot 34 >>= fun b5 =>
  weirref15_address a2 >>= fun r6 =>
  (if ¬ (r6 = true) then
      pure true
    else
      weirref15_out a1 0 7 >>= fun r7 =>
      pure r7) >>= fun y8 =>
  (if y8 = true then
      pure true
    else
      pure (eqv a3 (⟨[0, 0, 0, 0, 0, 0], rfl⟩ : (Vec Int 6)))) >>= fun y9 =>
  (if y9 = true then
      pure true
    else
      pure ((Int.tmod (Vec.g a3 0 0) 2) == 1)) >>= fun y10 =>
  (if y10 = true then
      pure true
    else
      weirref15_out a4 1 3 >>= fun r11 =>
      pure r11) >>= fun y12 =>
  if y12 = true then
    pure (a0, Sl.nil, 1)
  else
    weirref15_find a0 a1 a2 >>= fun r13 =>
    if r13 < 0 then
      if a4 ≠ 2 then
        pure (a0, Sl.nil, 0)
      else
        weirref15_room a0 >>= fun r19 =>
        slot 86 >>= fun b20 =>
        if ¬ (r19.2 = true) then
          pure (a0, Sl.nil, 151)
        else
          weirref15_with r19.1.L (⟨(⟨a1, a2, a3, 3, z_api_Neighbour.Age, z_api_Neighbour.Tries, z_api_Neighbour.Waiting⟩ : api_Neighbour), z_weirref15_Entry.Items⟩ : weirref15_Entry) >>= fun r21 =>
          pure ((⟨r19.1.C, r21⟩ : weirref15_Cache), Sl.nil, 0)
    else
      idx a0.L.a a0.L.len r13 29 >>= fun p24 =>
      ld c_weirref15_Entry p24 >>= fun x25 =>
      slot 145 >>= fun b26 =>
      (if a4 ≠ 1 then
          pure (x25.N.State != 1)
        else
          pure false) >>= fun y27 =>
      (if y27 = true then
          pure (eqv x25.N.Mac a3)
        else
          pure false) >>= fun y28 =>
      if y28 = true then
        pure (a0, Sl.nil, 0)
      else
        if a4 = 1 then
          weirref15_Learn.K1 a0 r13 x25 (⟨(⟨a1, a2, a3, 2, z_api_Neighbour.Age, z_api_Neighbour.Tries, z_api_Neighbour.Waiting⟩ : api_Neighbour), Sl.nil⟩ : weirref15_Entry)
        else
          weirref15_Learn.K1 a0 r13 x25 (⟨(⟨a1, a2, a3, 3, z_api_Neighbour.Age, z_api_Neighbour.Tries, z_api_Neighbour.Waiting⟩ : api_Neighbour), Sl.nil⟩ : weirref15_Entry)
theorem weirref15_Learn_ok (a0 : weirref15_Cache) (a1 : Int) (a2 : api_IP) (a3 : (Vec Int 6)) (a4 : Int) : Ref Try.prog 63 [c_weirref15_Cache.val a0, .int .i64 a1, c_api_IP.val a2, ((cI .u8).arr 6).val a3, .int .i64 a4] (weirref15_Learn a0 a1 a2 a3 a4) weirref15_Learn.out := by
  refine Ref.of (cd := weirref15_Learn.B) Try.func63 ?_
  show SJ weirref15_Learn.cx [.code weirref15_Learn.B] [(0, c_weirref15_Cache.val a0), (1, .int .i64 a1), (2, c_api_IP.val a2), (3, ((cI .u8).arr 6).val a3), (4, .int .i64 a4)] [] (weirref15_Learn a0 a1 a2 a3 a4) weirref15_Learn.F0
  unfold weirref15_Learn
  refine SJ.sr 6 ?_
  refine OJ.slotOf (d := 5) (op := (.box 86 (.tmp 0))) (cd := c_weirref15_Cache) (u := a0) (owed := []) (box_run (by kernel_rfl)) (fun b1 => ?_)
  refine OW.nil ?_
  refine OJ.slotOf (d := 7) (op := (.box 32 (.tmp 2))) (cd := c_api_IP) (u := a2) (owed := []) (box_run (by kernel_rfl)) (fun b2 => ?_)
  refine OW.nil ?_
  refine OJ.slotOf (d := 8) (op := (.box 34 (.tmp 3))) (cd := ((cI .u8).arr 6)) (u := a3) (owed := []) (box_run (by kernel_rfl)) (fun b3 => ?_)
  refine OW.nil ?_
  refine OJ.slotOf (d := 10) (op := (.alloc 86)) (cd := c_weirref15_Cache) (u := z_weirref15_Cache) (owed := []) (alloc_run Ty86) (fun b4 => ?_)
  refine OW.nil ?_
  refine OJ.go 2 [(12, .int .i64 0), (11, Sl.v Sl.nil)] ?_
  refine OJ.nil ?_
  refine SJ.sr 3 ?_
  refine OJ.build (d := 20) (T := 34) (parts := []) (ps := []) (cd := ((cI .u8).arr 6)) (z0 := (Vec.rep 6 0)) (⟨[0, 0, 0, 0, 0, 0], rfl⟩ : (Vec Int 6)) Ty34 rfl Filled.nil ?_
  refine OJ.slotOf (d := 13) (op := (.alloc 34)) (cd := ((cI .u8).arr 6)) (u := (Vec.rep 6 0)) (owed := []) (alloc_run Ty34) (fun b5 => ?_)
  refine OW.nil ?_
  refine OJ.kst (y := .tmp 13) (z := .tmp 20) (cd := ((cI .u8).arr 6)) (u := (⟨[0, 0, 0, 0, 0, 0], rfl⟩ : (Vec Int 6))) (j := 0) (b := b5) (o := 0) (((cI .u8).arr 6).enc (⟨[0, 0, 0, 0, 0, 0], rfl⟩ : (Vec Int 6))) (owed := []) Ty34 rfl (Upd.whole ((Cod.len _ _).trans (Cod.len _ _).symm)) rfl ?_
  refine OW.nil ?_
  refine OJ.nil ?_
  refine SJ.sr 3 ?_
  refine OJ.kld (d := 21) (y := .tmp 7) (cd := c_api_IP) (j := 3) (b := b2) (o := 0) a2 (pend2 := []) Ty32 rfl (At.whole _) rfl ?_
  refine OJ.call (d := 22) (g := 72) (ats := #[32]) (args := [.tmp 21]) (owed := []) F72 (weirref15_address_ok a2) (fun r6 => ?_)
  refine OW.nil ?_
  refine OJ.go 1 [(14, .bool r6)] ?_
  refine OJ.nil ?_
  refine SJ.seq ?_
  refine SJ.sr 21 ?_
  refine OJ.go 3 [(25, .bool (!r6)), (24, .bool (!r6)), (23, .bool r6)] ?_
  refine OJ.join (b := (!r6)) [3, 4, 5] [6, 7, 8, 9, 10, 11, 12, 13, 14, 15, 16, 17, 18, 19, 20] [1, 4, 5, 7, 8, 10, 13, 28] (fun y8 => [(1, .int .i64 a1), (4, .int .i64 a4), (5, .pointer (some (pt b1 0))), (7, .pointer (some (pt b2 0))), (8, .pointer (some (pt b3 0))), (10, .pointer (some (pt b4 0))), (13, .pointer (some (pt b5 0))), (28, .bool y8)]) [] [] (t := 25) (bnot_iff Iff.rfl) (fun hp_ => ?_) (fun hp_ => ?_) (fun _ _ _ _ _ _ h_ => h_) (fun y8 => ?_)
  · refine OJ.go 3 [(28, .bool true), (27, undef), (26, undef)] ?_
    exact OJ.nil ⟨(Cov.mem Cov.nil), rfl, _, rfl, by kernel_rfl⟩
  · refine OJ.go 1 [(26, .int .i64 a1)] ?_
    refine OJ.call (d := 27) (g := 68) (ats := #[3, 3, 3]) (args := [.tmp 26, .const (.int .i64 0), .const (.int .i64 7)]) (owed := []) F68 (weirref15_out_ok a1 0 7) (fun r7 => ?_)
    refine OW.nil ?_
    refine OJ.go 1 [(28, .bool r7)] ?_
    exact OJ.nil ⟨(Cov.mem Cov.nil), rfl, _, rfl, by kernel_rfl⟩
  · refine OJ.go 1 [(29, .bool y8)] ?_
    refine OJ.join (b := y8) [7, 8, 9, 10] [11, 12, 13, 14, 15, 16, 17, 18, 19, 20] [1, 4, 5, 7, 8, 10, 33] (fun y9 => [(1, .int .i64 a1), (4, .int .i64 a4), (5, .pointer (some (pt b1 0))), (7, .pointer (some (pt b2 0))), (8, .pointer (some (pt b3 0))), (10, .pointer (some (pt b4 0))), (33, .bool y9)]) [] [] (t := 29) Iff.rfl (fun hp_ => ?_) (fun hp_ => ?_) (fun _ _ _ _ _ _ h_ => h_) (fun y9 => ?_)
    · refine OJ.go 4 [(33, .bool true), (32, undef), (31, undef), (30, undef)] ?_
      exact OJ.nil ⟨(Cov.mem Cov.nil), rfl, _, rfl, by kernel_rfl⟩
    · refine OJ.kld (d := 30) (y := .tmp 8) (cd := ((cI .u8).arr 6)) (j := 2) (b := b3) (o := 0) a3 (pend2 := []) Ty34 rfl (At.whole _) rfl ?_
      refine OJ.kld (d := 31) (y := .tmp 13) (cd := ((cI .u8).arr 6)) (j := 0) (b := b5) (o := 0) (⟨[0, 0, 0, 0, 0, 0], rfl⟩ : (Vec Int 6)) (pend2 := []) Ty34 rfl (At.whole _) rfl ?_
      refine OJ.eql (d := 32) (T := 34) (yT := 34) (y := .tmp 30) (z := .tmp 31) (cd := ((cI .u8).arr 6)) (p := a3) (q := (⟨[0, 0, 0, 0, 0, 0], rfl⟩ : (Vec Int 6))) rfl Eq34 ?_
      refine OJ.go 1 [(33, .bool (eqv a3 (⟨[0, 0, 0, 0, 0, 0], rfl⟩ : (Vec Int 6))))] ?_
      exact OJ.nil ⟨(Cov.mem Cov.nil), rfl, _, rfl, by kernel_rfl⟩
    · refine OJ.go 1 [(34, .bool y9)] ?_
      refine OJ.join (b := y9) [12, 13, 14, 15, 16] [17, 18, 19, 20] [1, 4, 5, 7, 8, 10, 39] (fun y10 => [(1, .int .i64 a1), (4, .int .i64 a4), (5, .pointer (some (pt b1 0))), (7, .pointer (some (pt b2 0))), (8, .pointer (some (pt b3 0))), (10, .pointer (some (pt b4 0))), (39, .bool y10)]) [] [] (t := 34) Iff.rfl (fun hp_ => ?_) (fun hp_ => ?_) (fun _ _ _ _ _ _ h_ => h_) (fun y10 => ?_)
      · refine OJ.go 5 [(39, .bool true), (38, undef), (37, undef), (36, undef), (35, undef)] ?_
        exact OJ.nil ⟨(Cov.mem Cov.nil), rfl, _, rfl, by kernel_rfl⟩
      · refine OJ.go 1 [(35, .pointer (some (pt b3 0)))] ?_
        refine OJ.kld (d := 36) (y := .tmp 35) (cd := (cI .u8)) (j := 2) (b := b3) (o := 0) (Vec.g a3 0 0) (pend2 := []) Ty5 rfl (At.zero (At.arr (z := 0) (by decide) (by decide))) rfl ?_
        refine OJ.go 3 [(39, .bool ((Int.tmod (Vec.g a3 0 0) 2) == 1)), (38, .bool ((Int.tmod (Vec.g a3 0 0) 2) == 1)), (37, .int .u8 (Int.tmod (Vec.g a3 0 0) 2))] ?_
        exact OJ.nil ⟨(Cov.mem Cov.nil), rfl, _, rfl, by kernel_rfl⟩
      · refine OJ.go 1 [(40, .bool y10)] ?_
        refine OJ.join (b := y10) [18, 19, 20] [] [1, 4, 5, 7, 8, 10, 43] (fun y12 => [(1, .int .i64 a1), (4, .int .i64 a4), (5, .pointer (some (pt b1 0))), (7, .pointer (some (pt b2 0))), (8, .pointer (some (pt b3 0))), (10, .pointer (some (pt b4 0))), (43, .bool y12)]) [] [] (t := 40) Iff.rfl (fun hp_ => ?_) (fun hp_ => ?_) (fun _ _ _ _ _ _ h_ => h_) (fun y12 => ?_)
        · refine OJ.go 3 [(43, .bool true), (42, undef), (41, undef)] ?_
          exact OJ.nil ⟨(Cov.mem Cov.nil), rfl, _, rfl, by kernel_rfl⟩
        · refine OJ.go 1 [(41, .int .i64 a4)] ?_
          refine OJ.call (d := 42) (g := 68) (ats := #[3, 3, 3]) (args := [.tmp 41, .const (.int .i64 1), .const (.int .i64 3)]) (owed := []) F68 (weirref15_out_ok a4 1 3) (fun r11 => ?_)
          refine OW.nil ?_
          refine OJ.go 1 [(43, .bool r11)] ?_
          exact OJ.nil ⟨(Cov.mem Cov.nil), rfl, _, rfl, by kernel_rfl⟩
        · refine OJ.nil ?_
          refine SJ.cond (t := (.tmp 43)) (b := y12) Iff.rfl (fun hc34 => ?_) (fun hc34 => ?_)
          · refine SJ.sr 4 ?_
            refine OJ.kld (d := 44) (y := .tmp 5) (cd := c_weirref15_Cache) (j := 4) (b := b1) (o := 0) a0 (pend2 := []) Ty86 rfl (At.whole _) rfl ?_
            refine OJ.kst (y := .tmp 10) (z := .tmp 44) (cd := c_weirref15_Cache) (u := a0) (j := 1) (b := b4) (o := 0) (c_weirref15_Cache.enc a0) (owed := []) Ty86 rfl (Upd.whole ((Cod.len _ _).trans (Cod.len _ _).symm)) rfl ?_
            refine OW.nil ?_
            refine OJ.go 2 [(12, .int .i64 1), (11, Sl.v Sl.nil)] ?_
            refine OJ.nil ?_
            exact SJ.ret rfl (Res.run (ys := [c_weirref15_Cache.val a0, Sl.v Sl.nil, .int .i64 1]) (.cell (j := 1) (b := b4) (cd := c_weirref15_Cache) (q := a0) (by kernel_rfl) rfl Ty86 (At.whole _) (.tmp (by kernel_rfl) (.tmp (by kernel_rfl) .nil))) rfl)
          · refine SJ.skip ?_
            refine SJ.sr 5 ?_
            refine OJ.kld (d := 45) (y := .tmp 5) (cd := c_weirref15_Cache) (j := 4) (b := b1) (o := 0) a0 (pend2 := []) Ty86 rfl (At.whole _) rfl ?_
            refine OJ.go 1 [(46, .int .i64 a1)] ?_
            refine OJ.kld (d := 47) (y := .tmp 7) (cd := c_api_IP) (j := 3) (b := b2) (o := 0) a2 (pend2 := []) Ty32 rfl (At.whole _) rfl ?_
            refine OJ.call (d := 48) (g := 73) (ats := #[86, 3, 32]) (args := [.tmp 45, .tmp 46, .tmp 47]) (owed := []) F73 (weirref15_find_ok a0 a1 a2) (fun r13 => ?_)
            refine OW.nil ?_
            refine OJ.go 1 [(15, .int .i64 r13)] ?_
            refine OJ.nil ?_
            refine SJ.seq ?_
            refine SJ.sr 2 ?_
            refine OJ.go 2 [(50, .bool (decide (r13 < 0))), (49, .int .i64 r13)] ?_
            refine OJ.nil ?_
            refine SJ.cond (t := (.tmp 50)) (b := decide (r13 < 0)) decide_eq_true_iff (fun hc33 => ?_) (fun hc33 => ?_)
            · refine SJ.seq ?_
              refine SJ.sr 2 ?_
              refine OJ.go 2 [(52, .bool (a4 != 2)), (51, .int .i64 a4)] ?_
              refine OJ.nil ?_
              refine SJ.cond (t := (.tmp 52)) (b := (a4 != 2)) bne_iff_ne (fun hc23 => ?_) (fun hc23 => ?_)
              · refine SJ.sr 4 ?_
                refine OJ.kld (d := 53) (y := .tmp 5) (cd := c_weirref15_Cache) (j := 4) (b := b1) (o := 0) a0 (pend2 := []) Ty86 rfl (At.whole _) rfl ?_
                refine OJ.kst (y := .tmp 10) (z := .tmp 53) (cd := c_weirref15_Cache) (u := a0) (j := 1) (b := b4) (o := 0) (c_weirref15_Cache.enc a0) (owed := []) Ty86 rfl (Upd.whole ((Cod.len _ _).trans (Cod.len _ _).symm)) rfl ?_
                refine OW.nil ?_
                refine OJ.go 2 [(12, .int .i64 0), (11, Sl.v Sl.nil)] ?_
                refine OJ.nil ?_
                exact SJ.ret rfl (Res.run (ys := [c_weirref15_Cache.val a0, Sl.v Sl.nil, .int .i64 0]) (.cell (j := 1) (b := b4) (cd := c_weirref15_Cache) (q := a0) (by kernel_rfl) rfl Ty86 (At.whole _) (.tmp (by kernel_rfl) (.tmp (by kernel_rfl) .nil))) rfl)
              · refine SJ.skip ?_
                refine SJ.sr 8 ?_
                refine OJ.kld (d := 55) (y := .tmp 5) (cd := c_weirref15_Cache) (j := 4) (b := b1) (o := 0) a0 (pend2 := []) Ty86 rfl (At.whole _) rfl ?_
                refine OJ.call (d := 56) (g := 74) (ats := #[86]) (args := [.tmp 55]) (owed := []) F74 (weirref15_room_ok a0) (fun r19 => ?_)
                refine OW.nil ?_
                refine OJ.go 3 [(58, .bool r19.2), (57, c_weirref15_Cache.val r19.1), (54, .tuple #[c_weirref15_Cache.val r19.1, .bool r19.2])] ?_
                refine OJ.slotOf (d := 16) (op := (.alloc 86)) (cd := c_weirref15_Cache) (u := z_weirref15_Cache) (owed := []) (alloc_run Ty86) (fun b20 => ?_)
                refine OW.nil ?_
                refine OJ.kst (y := .tmp 16) (z := .tmp 57) (cd := c_weirref15_Cache) (u := r19.1) (j := 0) (b := b20) (o := 0) (c_weirref15_Cache.enc r19.1) (owed := []) Ty86 rfl (Upd.whole ((Cod.len _ _).trans (Cod.len _ _).symm)) rfl ?_
                refine OW.nil ?_
                refine OJ.go 1 [(17, .bool r19.2)] ?_
                refine OJ.nil ?_
                refine SJ.seq ?_
                refine SJ.sr 2 ?_
                refine OJ.go 2 [(60, .bool (!r19.2)), (59, .bool r19.2)] ?_
                refine OJ.nil ?_
                refine SJ.cond (t := (.tmp 60)) (b := (!r19.2)) (bnot_iff Iff.rfl) (fun hc22 => ?_) (fun hc22 => ?_)
                · refine SJ.sr 4 ?_
                  refine OJ.kld (d := 61) (y := .tmp 5) (cd := c_weirref15_Cache) (j := 5) (b := b1) (o := 0) a0 (pend2 := []) Ty86 rfl (At.whole _) rfl ?_
                  refine OJ.kst (y := .tmp 10) (z := .tmp 61) (cd := c_weirref15_Cache) (u := a0) (j := 2) (b := b4) (o := 0) (c_weirref15_Cache.enc a0) (owed := []) Ty86 rfl (Upd.whole ((Cod.len _ _).trans (Cod.len _ _).symm)) rfl ?_
                  refine OW.nil ?_
                  refine OJ.go 2 [(12, .int .i64 151), (11, Sl.v Sl.nil)] ?_
                  refine OJ.nil ?_
                  exact SJ.ret rfl (Res.run (ys := [c_weirref15_Cache.val a0, Sl.v Sl.nil, .int .i64 151]) (.cell (j := 2) (b := b4) (cd := c_weirref15_Cache) (q := a0) (by kernel_rfl) rfl Ty86 (At.whole _) (.tmp (by kernel_rfl) (.tmp (by kernel_rfl) .nil))) rfl)
                · refine SJ.skip ?_
                  refine SJ.sr 10 ?_
                  refine OJ.go 1 [(62, .pointer (some (pt b20 5)))] ?_
                  refine OJ.kld (d := 63) (y := .tmp 62) (cd := cL) (j := 0) (b := b20) (o := 5) r19.1.L (pend2 := []) Ty84 rfl (At_weirref15_Cache_L r19.1) rfl ?_
                  refine OJ.go 1 [(64, .int .i64 a1)] ?_
                  refine OJ.kld (d := 65) (y := .tmp 7) (cd := c_api_IP) (j := 4) (b := b2) (o := 0) a2 (pend2 := []) Ty32 rfl (At.whole _) rfl ?_
                  refine OJ.kld (d := 66) (y := .tmp 8) (cd := ((cI .u8).arr 6)) (j := 3) (b := b3) (o := 0) a3 (pend2 := []) Ty34 rfl (At.whole _) rfl ?_
                  refine OJ.build (d := 67) (T := 77) (parts := [(0, .tmp 64), (1, .tmp 65), (2, .tmp 66), (3, .const (.int .i64 3))]) (ps := [(0, (cI .i64).val a1), (1, c_api_IP.val a2), (2, ((cI .u8).arr 6).val a3), (3, (cI .i64).val 3)]) (cd := c_api_Neighbour) (z0 := z_api_Neighbour) (⟨a1, a2, a3, 3, z_api_Neighbour.Age, z_api_Neighbour.Tries, z_api_Neighbour.Waiting⟩ : api_Neighbour) Ty77 rfl (Filled.cons (cd := (cI .i64)) (q := a1) (o := 0) (by kernel_rfl) (Up_api_Neighbour_Port z_api_Neighbour a1) (Filled.cons (cd := c_api_IP) (q := a2) (o := 1) (by kernel_rfl) (Up_api_Neighbour_IP (⟨a1, z_api_Neighbour.IP, z_api_Neighbour.Mac, z_api_Neighbour.State, z_api_Neighbour.Age, z_api_Neighbour.Tries, z_api_Neighbour.Waiting⟩ : api_Neighbour) a2) (Filled.cons (cd := ((cI .u8).arr 6)) (q := a3) (o := 18) (by kernel_rfl) (Up_api_Neighbour_Mac (⟨a1, a2, z_api_Neighbour.Mac, z_api_Neighbour.State, z_api_Neighbour.Age, z_api_Neighbour.Tries, z_api_Neighbour.Waiting⟩ : api_Neighbour) a3) (Filled.cons (cd := (cI .i64)) (q := 3) (o := 24) (by kernel_rfl) (Up_api_Neighbour_State (⟨a1, a2, a3, z_api_Neighbour.State, z_api_Neighbour.Age, z_api_Neighbour.Tries, z_api_Neighbour.Waiting⟩ : api_Neighbour) 3) Filled.nil)))) ?_
                  refine OJ.build (d := 68) (T := 145) (parts := [(0, .tmp 67)]) (ps := [(0, c_api_Neighbour.val (⟨a1, a2, a3, 3, z_api_Neighbour.Age, z_api_Neighbour.Tries, z_api_Neighbour.Waiting⟩ : api_Neighbour))]) (cd := c_weirref15_Entry) (z0 := z_weirref15_Entry) (⟨(⟨a1, a2, a3, 3, z_api_Neighbour.Age, z_api_Neighbour.Tries, z_api_Neighbour.Waiting⟩ : api_Neighbour), z_weirref15_Entry.Items⟩ : weirref15_Entry) Ty145 rfl (Filled.cons (cd := c_api_Neighbour) (q := (⟨a1, a2, a3, 3, z_api_Neighbour.Age, z_api_Neighbour.Tries, z_api_Neighbour.Waiting⟩ : api_Neighbour)) (o := 0) (by kernel_rfl) (Up_weirref15_Entry_N z_weirref15_Entry (⟨a1, a2, a3, 3, z_api_Neighbour.Age, z_api_Neighbour.Tries, z_api_Neighbour.Waiting⟩ : api_Neighbour)) Filled.nil) ?_
                  refine OJ.call (d := 69) (g := 75) (ats := #[84, 145]) (args := [.tmp 63, .tmp 68]) (owed := []) F75 (weirref15_with_ok r19.1.L (⟨(⟨a1, a2, a3, 3, z_api_Neighbour.Age, z_api_Neighbour.Tries, z_api_Neighbour.Waiting⟩ : api_Neighbour), z_weirref15_Entry.Items⟩ : weirref15_Entry)) (fun r21 => ?_)
                  refine OW.nil ?_
                  refine OJ.go 1 [(70, .pointer (some (pt b20 5)))] ?_
                  refine OJ.kst (y := .tmp 70) (z := .tmp 69) (cd := cL) (u := r21) (j := 0) (b := b20) (o := 5) (c_weirref15_Cache.enc (⟨r19.1.C, r21⟩ : weirref15_Cache)) (owed := []) Ty84 rfl (Up_weirref15_Cache_L r19.1 r21) rfl ?_
                  refine OW.nil ?_
                  refine OJ.nil ?_
                  refine SJ.sr 4 ?_
                  refine OJ.kld (d := 71) (y := .tmp 16) (cd := c_weirref15_Cache) (j := 0) (b := b20) (o := 0) (⟨r19.1.C, r21⟩ : weirref15_Cache) (pend2 := []) Ty86 rfl (At.whole _) rfl ?_
                  refine OJ.kst (y := .tmp 10) (z := .tmp 71) (cd := c_weirref15_Cache) (u := (⟨r19.1.C, r21⟩ : weirref15_Cache)) (j := 2) (b := b4) (o := 0) (c_weirref15_Cache.enc (⟨r19.1.C, r21⟩ : weirref15_Cache)) (owed := []) Ty86 rfl (Upd.whole ((Cod.len _ _).trans (Cod.len _ _).symm)) rfl ?_
                  refine OW.nil ?_
                  refine OJ.go 2 [(12, .int .i64 0), (11, Sl.v Sl.nil)] ?_
                  refine OJ.nil ?_
                  exact SJ.ret rfl (Res.run (ys := [c_weirref15_Cache.val (⟨r19.1.C, r21⟩ : weirref15_Cache), Sl.v Sl.nil, .int .i64 0]) (.cell (j := 2) (b := b4) (cd := c_weirref15_Cache) (q := (⟨r19.1.C, r21⟩ : weirref15_Cache)) (by kernel_rfl) rfl Ty86 (At.whole _) (.tmp (by kernel_rfl) (.tmp (by kernel_rfl) .nil))) rfl)
            · refine SJ.skip ?_
              refine SJ.sr 7 ?_
              refine OJ.go 1 [(72, .pointer (some (pt b1 5)))] ?_
              refine OJ.kld (d := 73) (y := .tmp 72) (cd := cL) (j := 4) (b := b1) (o := 5) a0.L (pend2 := []) Ty84 rfl (At_weirref15_Cache_L a0) rfl ?_
              refine OJ.go 1 [(74, .int .i64 r13)] ?_
              refine OJ.idxS (d := 75) (T := 84) (y := .tmp 73) (j := .tmp 74) (E := 145) (cap := a0.L.cap) (k := .i64) (fun p24 => ?_)
              refine OJ.ld (d := 76) (y := .tmp 75) (pend2 := fun x25 => []) Ty145 (fun _ => rfl) (fun x25 => ?_)
              refine OJ.slotOf (d := 18) (op := (.alloc 145)) (cd := c_weirref15_Entry) (u := z_weirref15_Entry) (owed := []) (alloc_run Ty145) (fun b26 => ?_)
              refine OW.nil ?_
              refine OJ.kst (y := .tmp 18) (z := .tmp 76) (cd := c_weirref15_Entry) (u := x25) (j := 0) (b := b26) (o := 0) (c_weirref15_Entry.enc x25) (owed := []) Ty145 rfl (Upd.whole ((Cod.len _ _).trans (Cod.len _ _).symm)) rfl ?_
              refine OW.nil ?_
              refine OJ.nil ?_
              refine SJ.seq ?_
              refine SJ.sr 15 ?_
              refine OJ.go 3 [(79, .bool (a4 != 1)), (78, .bool (a4 != 1)), (77, .int .i64 a4)] ?_
              refine OJ.join (b := (a4 != 1)) [3, 4, 5, 6, 7] [8, 9, 10, 11, 12, 13, 14] [1, 4, 5, 7, 8, 10, 15, 18, 84] (fun y27 => [(1, .int .i64 a1), (4, .int .i64 a4), (5, .pointer (some (pt b1 0))), (7, .pointer (some (pt b2 0))), (8, .pointer (some (pt b3 0))), (10, .pointer (some (pt b4 0))), (15, .int .i64 r13), (18, .pointer (some (pt b26 0))), (84, .bool y27)]) [] [] (t := 79) bne_iff_ne (fun hp_ => ?_) (fun hp_ => ?_) (fun _ _ _ _ _ _ h_ => h_) (fun y27 => ?_)
              · refine OJ.go 2 [(81, .pointer (some (pt b26 24))), (80, .pointer (some (pt b26 0)))] ?_
                refine OJ.kld (d := 82) (y := .tmp 81) (cd := (cI .i64)) (j := 0) (b := b26) (o := 24) x25.N.State (pend2 := []) Ty3 rfl (At.trans (At_weirref15_Entry_N x25) (At_api_Neighbour_State x25.N)) rfl ?_
                refine OJ.go 2 [(84, .bool (x25.N.State != 1)), (83, .bool (x25.N.State != 1))] ?_
                exact OJ.nil ⟨(Cov.mem Cov.nil), rfl, _, rfl, by kernel_rfl⟩
              · refine OJ.go 5 [(84, .bool false), (83, undef), (82, undef), (81, undef), (80, undef)] ?_
                exact OJ.nil ⟨(Cov.mem Cov.nil), rfl, _, rfl, by kernel_rfl⟩
              · refine OJ.go 1 [(85, .bool y27)] ?_
                refine OJ.join (b := y27) [9, 10, 11, 12, 13, 14] [] [1, 4, 5, 7, 8, 10, 15, 18, 91] (fun y28 => [(1, .int .i64 a1), (4, .int .i64 a4), (5, .pointer (some (pt b1 0))), (7, .pointer (some (pt b2 0))), (8, .pointer (some (pt b3 0))), (10, .pointer (some (pt b4 0))), (15, .int .i64 r13), (18, .pointer (some (pt b26 0))), (91, .bool y28)]) [] [] (t := 85) Iff.rfl (fun hp_ => ?_) (fun hp_ => ?_) (fun _ _ _ _ _ _ h_ => h_) (fun y28 => ?_)
                · refine OJ.go 2 [(87, .pointer (some (pt b26 18))), (86, .pointer (some (pt b26 0)))] ?_
                  refine OJ.kld (d := 88) (y := .tmp 87) (cd := ((cI .u8).arr 6)) (j := 0) (b := b26) (o := 18) x25.N.Mac (pend2 := []) Ty34 rfl (At.trans (At_weirref15_Entry_N x25) (At_api_Neighbour_Mac x25.N)) rfl ?_
                  refine OJ.kld (d := 89) (y := .tmp 8) (cd := ((cI .u8).arr 6)) (j := 3) (b := b3) (o := 0) a3 (pend2 := []) Ty34 rfl (At.whole _) rfl ?_
                  refine OJ.eql (d := 90) (T := 34) (yT := 34) (y := .tmp 88) (z := .tmp 89) (cd := ((cI .u8).arr 6)) (p := x25.N.Mac) (q := a3) rfl Eq34 ?_
                  refine OJ.go 1 [(91, .bool (eqv x25.N.Mac a3))] ?_
                  exact OJ.nil ⟨(Cov.mem Cov.nil), rfl, _, rfl, by kernel_rfl⟩
                · refine OJ.go 6 [(91, .bool false), (90, undef), (89, undef), (88, undef), (87, undef), (86, undef)] ?_
                  exact OJ.nil ⟨(Cov.mem Cov.nil), rfl, _, rfl, by kernel_rfl⟩
                · refine OJ.nil ?_
                  refine SJ.cond (t := (.tmp 91)) (b := y28) Iff.rfl (fun hc32 => ?_) (fun hc32 => ?_)
                  · refine SJ.sr 4 ?_
                    refine OJ.kld (d := 92) (y := .tmp 5) (cd := c_weirref15_Cache) (j := 5) (b := b1) (o := 0) a0 (pend2 := []) Ty86 rfl (At.whole _) rfl ?_
                    refine OJ.kst (y := .tmp 10) (z := .tmp 92) (cd := c_weirref15_Cache) (u := a0) (j := 2) (b := b4) (o := 0) (c_weirref15_Cache.enc a0) (owed := []) Ty86 rfl (Upd.whole ((Cod.len _ _).trans (Cod.len _ _).symm)) rfl ?_
                    refine OW.nil ?_
                    refine OJ.go 2 [(12, .int .i64 0), (11, Sl.v Sl.nil)] ?_
                    refine OJ.nil ?_
                    exact SJ.ret rfl (Res.run (ys := [c_weirref15_Cache.val a0, Sl.v Sl.nil, .int .i64 0]) (.cell (j := 2) (b := b4) (cd := c_weirref15_Cache) (q := a0) (by kernel_rfl) rfl Ty86 (At.whole _) (.tmp (by kernel_rfl) (.tmp (by kernel_rfl) .nil))) rfl)
                  · refine SJ.skip ?_
                    refine SJ.sr 3 ?_
                    refine OJ.go 1 [(93, .pointer (some (pt b26 28)))] ?_
                    refine OJ.kld (d := 94) (y := .tmp 93) (cd := cL) (j := 0) (b := b26) (o := 28) x25.Items (pend2 := []) Ty43 rfl (At_weirref15_Entry_Items x25) rfl ?_
                    refine OJ.go 1 [(19, Sl.v x25.Items)] ?_
                    refine OJ.nil ?_
                    refine SJ.sr 2 ?_
                    refine OJ.go 1 [(95, .pointer (some (pt b26 28)))] ?_
                    refine OJ.kst (y := .tmp 95) (z := .const (.slice none 0 0)) (cd := cL) (u := Sl.nil) (j := 0) (b := b26) (o := 28) (c_weirref15_Entry.enc (⟨x25.N, Sl.nil⟩ : weirref15_Entry)) (owed := []) Ty43 rfl (Up_weirref15_Entry_Items x25 Sl.nil) rfl ?_
                    refine OW.nil ?_
                    refine OJ.nil ?_
                    refine SJ.sr 6 ?_
                    refine OJ.go 1 [(96, .int .i64 a1)] ?_
                    refine OJ.kld (d := 97) (y := .tmp 7) (cd := c_api_IP) (j := 4) (b := b2) (o := 0) a2 (pend2 := []) Ty32 rfl (At.whole _) rfl ?_
                    refine OJ.kld (d := 98) (y := .tmp 8) (cd := ((cI .u8).arr 6)) (j := 3) (b := b3) (o := 0) a3 (pend2 := []) Ty34 rfl (At.whole _) rfl ?_
                    refine OJ.build (d := 99) (T := 77) (parts := [(0, .tmp 96), (1, .tmp 97), (2, .tmp 98), (3, .const (.int .i64 3))]) (ps := [(0, (cI .i64).val a1), (1, c_api_IP.val a2), (2, ((cI .u8).arr 6).val a3), (3, (cI .i64).val 3)]) (cd := c_api_Neighbour) (z0 := z_api_Neighbour) (⟨a1, a2, a3, 3, z_api_Neighbour.Age, z_api_Neighbour.Tries, z_api_Neighbour.Waiting⟩ : api_Neighbour) Ty77 rfl (Filled.cons (cd := (cI .i64)) (q := a1) (o := 0) (by kernel_rfl) (Up_api_Neighbour_Port z_api_Neighbour a1) (Filled.cons (cd := c_api_IP) (q := a2) (o := 1) (by kernel_rfl) (Up_api_Neighbour_IP (⟨a1, z_api_Neighbour.IP, z_api_Neighbour.Mac, z_api_Neighbour.State, z_api_Neighbour.Age, z_api_Neighbour.Tries, z_api_Neighbour.Waiting⟩ : api_Neighbour) a2) (Filled.cons (cd := ((cI .u8).arr 6)) (q := a3) (o := 18) (by kernel_rfl) (Up_api_Neighbour_Mac (⟨a1, a2, z_api_Neighbour.Mac, z_api_Neighbour.State, z_api_Neighbour.Age, z_api_Neighbour.Tries, z_api_Neighbour.Waiting⟩ : api_Neighbour) a3) (Filled.cons (cd := (cI .i64)) (q := 3) (o := 24) (by kernel_rfl) (Up_api_Neighbour_State (⟨a1, a2, a3, z_api_Neighbour.State, z_api_Neighbour.Age, z_api_Neighbour.Tries, z_api_Neighbour.Waiting⟩ : api_Neighbour) 3) Filled.nil)))) ?_
                    refine OJ.go 1 [(100, .pointer (some (pt b26 0)))] ?_
                    refine OJ.kst (y := .tmp 100) (z := .tmp 99) (cd := c_api_Neighbour) (u := (⟨a1, a2, a3, 3, z_api_Neighbour.Age, z_api_Neighbour.Tries, z_api_Neighbour.Waiting⟩ : api_Neighbour)) (j := 0) (b := b26) (o := 0) (c_weirref15_Entry.enc (⟨(⟨a1, a2, a3, 3, z_api_Neighbour.Age, z_api_Neighbour.Tries, z_api_Neighbour.Waiting⟩ : api_Neighbour), Sl.nil⟩ : weirref15_Entry)) (owed := []) Ty77 rfl (Up_weirref15_Entry_N (⟨x25.N, Sl.nil⟩ : weirref15_Entry) (⟨a1, a2, a3, 3, z_api_Neighbour.Age, z_api_Neighbour.Tries, z_api_Neighbour.Waiting⟩ : api_Neighbour)) rfl ?_
                    refine OW.nil ?_
                    refine OJ.nil ?_
                    refine SJ.seq ?_
                    refine SJ.sr 2 ?_
                    refine OJ.go 2 [(102, .bool (a4 == 1)), (101, .int .i64 a4)] ?_
                    refine OJ.nil ?_
                    refine SJ.cond (t := (.tmp 102)) (b := (a4 == 1)) beq_iff_eq (fun hc31 => ?_) (fun hc31 => ?_)
                    · refine SJ.rg 3 ?_
                      refine OJ.go 2 [(104, .pointer (some (pt b26 24))), (103, .pointer (some (pt b26 0)))] ?_
                      refine OJ.kst (y := .tmp 104) (z := .const (.int .i64 2)) (cd := (cI .i64)) (u := 2) (j := 0) (b := b26) (o := 24) (c_weirref15_Entry.enc (⟨(⟨a1, a2, a3, 2, z_api_Neighbour.Age, z_api_Neighbour.Tries, z_api_Neighbour.Waiting⟩ : api_Neighbour), Sl.nil⟩ : weirref15_Entry)) (owed := []) Ty3 rfl (Upd.trans (At_weirref15_Entry_N (⟨(⟨a1, a2, a3, 3, z_api_Neighbour.Age, z_api_Neighbour.Tries, z_api_Neighbour.Waiting⟩ : api_Neighbour), Sl.nil⟩ : weirref15_Entry)) (Up_api_Neighbour_State (⟨a1, a2, a3, 3, z_api_Neighbour.Age, z_api_Neighbour.Tries, z_api_Neighbour.Waiting⟩ : api_Neighbour) 2) (Up_weirref15_Entry_N (⟨(⟨a1, a2, a3, 3, z_api_Neighbour.Age, z_api_Neighbour.Tries, z_api_Neighbour.Waiting⟩ : api_Neighbour), Sl.nil⟩ : weirref15_Entry) (⟨a1, a2, a3, 2, z_api_Neighbour.Age, z_api_Neighbour.Tries, z_api_Neighbour.Waiting⟩ : api_Neighbour))) rfl ?_
                      refine OW.nil ?_
                      refine OJ.nil ?_
                      refine SJ.forget (List.Sublist.cons_cons _ (List.Sublist.cons _ (List.Sublist.cons_cons _ (List.Sublist.cons _ (List.Sublist.cons _ (List.Sublist.cons_cons _ List.Sublist.slnil)))))) ?_
                      refine SJ.less [5, 10, 15, 18, 19] (m' := [(5, .pointer (some (pt b1 0))), (10, .pointer (some (pt b4 0))), (15, .int .i64 r13), (18, .pointer (some (pt b26 0))), (19, Sl.v x25.Items)]) ?_
                      exact weirref15_Learn.K1_ok a0 b1 b4 r13 x25 b26 (⟨(⟨a1, a2, a3, 2, z_api_Neighbour.Age, z_api_Neighbour.Tries, z_api_Neighbour.Waiting⟩ : api_Neighbour), Sl.nil⟩ : weirref15_Entry)
                    · refine SJ.skip ?_
                      refine SJ.forget (List.Sublist.cons_cons _ (List.Sublist.cons _ (List.Sublist.cons_cons _ (List.Sublist.cons _ (List.Sublist.cons _ (List.Sublist.cons_cons _ List.Sublist.slnil)))))) ?_
                      refine SJ.less [5, 10, 15, 18, 19] (m' := [(5, .pointer (some (pt b1 0))), (10, .pointer (some (pt b4 0))), (15, .int .i64 r13), (18, .pointer (some (pt b26 0))), (19, Sl.v x25.Items)]) ?_
                      exact weirref15_Learn.K1_ok a0 b1 b4 r13 x25 b26 (⟨(⟨a1, a2, a3, 3, z_api_Neighbour.Age, z_api_Neighbour.Tries, z_api_Neighbour.Waiting⟩ : api_Neighbour), Sl.nil⟩ : weirref15_Entry)

/-! ### weir/weirlaw15.sameInts: function 23 -/
noncomputable def weirlaw15_sameInts.B : Code := (Try.f23.body).getD .skip
noncomputable def weirlaw15_sameInts.cx : Fx := ⟨Try.prog, 23, Try.f23⟩
noncomputable def weirlaw15_sameInts.out (r_ : Bool) : Value := .bool r_
noncomputable def weirlaw15_sameInts.F0 (r_ : Bool) : Reach := .ret (weirlaw15_sameInts.out r_)
noncomputable def weirlaw15_sameInts.F1 (a0 : Sl) (a1 : Sl) : (LS Int Bool) → Reach := loopF [.inLoop (c1 (c1 (c2 (c1 (c2 (c2 weirlaw15_sameInts.B)))))), .inBlock 0, .code (c2 (c2 (c2 weirlaw15_sameInts.B)))] (fun s_ : Int => [(0, Sl.v a0), (1, Sl.v a1), (5, .int .i64 s_)]) (fun s_ : Int => []) weirlaw15_sameInts.F0
noncomputable def weirlaw15_sameInts.L1 (a0 : Sl) (a1 : Sl) (s1 : Int) : M (LS Int Bool) :=
  if s1 < (a0.len : Int) then
    draw >>= fun _ =>
    idx a0.a a0.len s1 1 >>= fun p8 =>
    ld (cI .i64) p8 >>= fun x9 =>
    idx a1.a a1.len s1 1 >>= fun p10 =>
    ld (cI .i64) p10 >>= fun x11 =>
    if x9 ≠ x11 then
      pure (LS.done false)
    else
      pure (LS.next (IntKind.wrap .i64 (s1 + 1)))
  else
    pure (LS.done true)
theorem weirlaw15_sameInts.L1_ok (a0 : Sl) (a1 : Sl) (s1 : Int) :
    SJ weirlaw15_sameInts.cx [.code (c1 (c1 (c2 (c1 (c2 (c2 weirlaw15_sameInts.B)))))), .inLoop (c1 (c1 (c2 (c1 (c2 (c2 weirlaw15_sameInts.B)))))), .inBlock 0, .code (c2 (c2 (c2 weirlaw15_sameInts.B)))] [(0, Sl.v a0), (1, Sl.v a1), (5, .int .i64 s1)] [] (weirlaw15_sameInts.L1 a0 a1 s1) (weirlaw15_sameInts.F1 a0 a1) := by
  unfold weirlaw15_sameInts.L1
  refine SJ.seq ?_
  refine SJ.sr 4 ?_
  refine OJ.go 4 [(14, .bool (decide (s1 < (a0.len : Int)))), (13, .int .i64 (a0.len : Int)), (12, Sl.v a0), (11, .int .i64 s1)] ?_
  refine OJ.nil ?_
  refine SJ.cond (t := (.tmp 14)) (b := decide (s1 < (a0.len : Int))) decide_eq_true_iff (fun hc13 => ?_) (fun hc13 => ?_)
  · refine SJ.skip ?_
    refine SJ.seq ?_
    refine SJ.block (id := 1) ?_
    refine SJ.seq ?_
    refine SJ.draw (id := 6) (kd := [0, 0, 0, 1, 0, 0, 0, 1, 0]) (bef := [0, 0, 3, 7, 0, 0, 48, 112, 255]) (ord := [0, 1, 2, 3, 4, 5, 6, 7, 8]) mixed ?_
    refine OJ.go 2 [(18, .int .i64 s1), (17, Sl.v a0)] ?_
    refine OJ.idxS (d := 19) (T := 43) (y := .tmp 17) (j := .tmp 18) (E := 3) (cap := a0.cap) (k := .i64) (fun p8 => ?_)
    refine OJ.ld (d := 20) (y := .tmp 19) (pend2 := fun x9 => [⟨3, 3, p8, (cI .i64).val x9⟩]) Ty3 (fun _ => rfl) (fun x9 => ?_)
    refine OJ.go 2 [(22, .int .i64 s1), (21, Sl.v a1)] ?_
    refine OJ.idxS (d := 23) (T := 43) (y := .tmp 21) (j := .tmp 22) (E := 3) (cap := a1.cap) (k := .i64) (fun p10 => ?_)
    refine OJ.ld (d := 24) (y := .tmp 23) (pend2 := fun x11 => [⟨7, 3, p10, (cI .i64).val x11⟩, ⟨3, 3, p8, (cI .i64).val x9⟩]) Ty3 (fun _ => rfl) (fun x11 => ?_)
    refine OJ.go 1 [(25, .bool (x9 != x11))] ?_
    refine OJ.nil ?_
    refine SJ.cond (t := (.tmp 25)) (b := (x9 != x11)) bne_iff_ne (fun hc12 => ?_) (fun hc12 => ?_)
    · refine SJ.sr 1 ?_
      refine OJ.go 1 [(4, .bool false)] ?_
      refine OJ.nil ?_
      exact SJ.ret rfl (Res.run (ys := [.bool false]) (.tmp (by kernel_rfl) .nil) rfl)
    · refine SJ.skip ?_
      refine SJ.inBlock ?_
      refine SJ.rg 3 ?_
      refine OJ.go 3 [(5, .int .i64 (IntKind.wrap .i64 (s1 + 1))), (16, .int .i64 (IntKind.wrap .i64 (s1 + 1))), (15, .int .i64 s1)] ?_
      refine OJ.nil ?_
      exact SJ.at_ [0, 1, 5] rfl
  · refine SJ.exit (id := 0) (by rfl) ?_
    refine SJ.sr 1 ?_
    refine OJ.go 1 [(4, .bool true)] ?_
    refine OJ.nil ?_
    exact SJ.ret rfl (Res.run (ys := [.bool true]) (.tmp (by kernel_rfl) .nil) rfl)
noncomputable def weirlaw15_sameInts (a0 : Sl) (a1 : Sl) : M Bool :=
  if (a0.len : Int) ≠ (a1.len : Int) then
    pure false
  else
    loopM (fun s_ : Int => weirlaw15_sameInts.L1 a0 a1 s_) 0
theorem weirlaw15_sameInts_ok (a0 : Sl) (a1 : Sl) : Ref Try.prog 23 [Sl.v a0, Sl.v a1] (weirlaw15_sameInts a0 a1) weirlaw15_sameInts.out := by
  refine Ref.of (cd := weirlaw15_sameInts.B) Try.func23 ?_
  show SJ weirlaw15_sameInts.cx [.code weirlaw15_sameInts.B] [(0, Sl.v a0), (1, Sl.v a1)] [] (weirlaw15_sameInts a0 a1) weirlaw15_sameInts.F0
  unfold weirlaw15_sameInts
  refine SJ.sr 1 ?_
  refine OJ.go 1 [(4, .bool false)] ?_
  refine OJ.nil ?_
  refine SJ.seq ?_
  refine SJ.sr 5 ?_
  refine OJ.go 5 [(10, .bool ((a0.len : Int) != (a1.len : Int))), (9, .int .i64 (a1.len : Int)), (8, Sl.v a1), (7, .int .i64 (a0.len : Int)), (6, Sl.v a0)] ?_
  refine OJ.nil ?_
  refine SJ.cond (t := (.tmp 10)) (b := ((a0.len : Int) != (a1.len : Int))) bne_iff_ne (fun hc14 => ?_) (fun hc14 => ?_)
  · refine SJ.sr 1 ?_
    refine OJ.go 1 [(4, .bool false)] ?_
    refine OJ.nil ?_
    exact SJ.ret rfl (Res.run (ys := [.bool false]) (.tmp (by kernel_rfl) .nil) rfl)
  · refine SJ.skip ?_
    refine SJ.seq ?_
    refine SJ.sr 1 ?_
    refine OJ.go 1 [(5, .int .i64 0)] ?_
    refine OJ.nil ?_
    refine SJ.block (id := 0) ?_
    exact SJ.loop (fun s_ : Int => [(0, Sl.v a0), (1, Sl.v a1), (5, .int .i64 s_)]) (fun s_ : Int => []) [0, 1, 5] rfl (fun _ _ => rfl) (fun s_ => weirlaw15_sameInts.L1_ok a0 a1 s_)

/-! ### (*weir/neigh.Cache).Tick: function 21 -/
noncomputable def neigh_Cache_Tick.B : Code := (Try.f21.body).getD .skip
noncomputable def neigh_Cache_Tick.cx : Fx := ⟨Try.prog, 21, Try.f21⟩
noncomputable def neigh_Cache_Tick.out (r_ : (Sl × Sl)) : Value := .tuple #[Sl.v r_.1, Sl.v r_.2]
noncomputable def neigh_Cache_Tick.F0 (r_ : (Sl × Sl)) : Reach := .ret (neigh_Cache_Tick.out r_)
noncomputable def neigh_Cache_Tick.F1 (a0 : (Option Addr)) (r1 : Sl) : (LS (Sl × Sl × Int) (Sl × Sl)) → Reach := loopF [.inLoop (c1 (c1 (c2 (c1 (c2 (c2 (c2 neigh_Cache_Tick.B))))))), .inBlock 0, .code (c2 (c2 (c2 (c2 neigh_Cache_Tick.B))))] (fun s_ : (Sl × Sl × Int) => [(0, .pointer a0), (4, Sl.v s_.1), (5, Sl.v s_.2.1), (9, Sl.v r1), (10, .int .i64 (r1.len : Int)), (11, .int .i64 s_.2.2)]) (fun s_ : (Sl × Sl × Int) => []) neigh_Cache_Tick.F0
noncomputable def neigh_Cache_Tick.K1 (a0 : (Option Addr)) (s2 : Sl) (s3 : Sl) (s4 : Int) (x243 : (Option Addr)) : M (LS (Sl × Sl × Int) (Sl × Sl)) :=
  draw >>= fun _ =>
  nilck x243 >>= fun p252 =>
  ld (cI .i64) (Addr.add p252 24) >>= fun x253 =>
  (if x253 = 2 then
      nilck x243 >>= fun p254 =>
      ld (cI .i64) (Addr.add p254 25) >>= fun x255 =>
      nilck a0 >>= fun p256 =>
      ld (cI .i64) (Addr.add p256 4) >>= fun x257 =>
      pure (x255 == x257)
    else
      pure false) >>= fun y258 =>
  if y258 = true then
    nilck x243 >>= fun p366 =>
    st (cI .i64) (Addr.add p366 24) 3 >>= fun _ =>
    nilck x243 >>= fun p367 =>
    st (cI .i64) (Addr.add p367 25) 0 >>= fun _ =>
    pure (LS.next (s2, s3, IntKind.wrap .i64 (s4 + 1)))
  else
    draw >>= fun _ =>
    nilck x243 >>= fun p368 =>
    ld (cI .i64) (Addr.add p368 24) >>= fun x369 =>
    (if x369 ≠ 1 then
        nilck x243 >>= fun p370 =>
        ld (cI .i64) (Addr.add p370 24) >>= fun x371 =>
        pure (x371 != 4)
      else
        pure false) >>= fun y372 =>
    (if y372 = true then
        pure true
      else
        nilck x243 >>= fun p373 =>
        ld (cI .i64) (Addr.add p373 25) >>= fun x374 =>
        nilck a0 >>= fun p375 =>
        ld (cI .i64) (Addr.add p375 2) >>= fun x376 =>
        pure (decide (x374 < x376))) >>= fun y377 =>
    if y377 = true then
      pure (LS.next (s2, s3, IntKind.wrap .i64 (s4 + 1)))
    else
      draw >>= fun _ =>
      nilck x243 >>= fun p425 =>
      ld (cI .i64) (Addr.add p425 26) >>= fun x426 =>
      nilck a0 >>= fun p427 =>
      ld (cI .i64) (Addr.add p427 3) >>= fun x428 =>
      if x426 < x428 then
        nilck x243 >>= fun p450 =>
        ld (cI .i64) (Addr.add p450 26) >>= fun x451 =>
        nilck x243 >>= fun p452 =>
        st (cI .i64) (Addr.add p452 26) (IntKind.wrap .i64 (x451 + 1)) >>= fun _ =>
        nilck x243 >>= fun p453 =>
        st (cI .i64) (Addr.add p453 25) 0 >>= fun _ =>
        draw >>= fun _ =>
        nilck x243 >>= fun p454 =>
        ld (cI .i64) p454 >>= fun x455 =>
        nilck x243 >>= fun p456 =>
        ld c_api_IP (Addr.add p456 1) >>= fun x457 =>
        nilck x243 >>= fun p458 =>
        ld ((cI .u8).arr 6) (Addr.add p458 18) >>= fun x459 =>
        nilck x243 >>= fun p460 =>
        ld (cI .i64) (Addr.add p460 26) >>= fun x461 =>
        slot 111 >>= fun b462 =>
        appl c_api_Ask 111 48 z_api_Ask s2 [(⟨x455, x457, x459, x461⟩ : api_Ask)] >>= fun r463 =>
        pure (LS.next (r463, s3, IntKind.wrap .i64 (s4 + 1)))
      else
        draw >>= fun _ =>
        nilck a0 >>= fun p464 =>
        ld cM (Addr.add p464 5) >>= fun x465 =>
        nilck x243 >>= fun p466 =>
        ld c_neigh_key p466 >>= fun x467 =>
        mdel c_neigh_key cP x465 x467 >>= fun _ =>
        nilck x243 >>= fun p468 =>
        ld cL (Addr.add p468 27) >>= fun x469 =>
        appS (cI .i64) 3 8 0 s3 x469 >>= fun r470 =>
        pure (LS.next (s2, r470, IntKind.wrap .i64 (s4 + 1)))
theorem neigh_Cache_Tick.K1_ok (a0 : (Option Addr)) (r1 : Sl) (s2 : Sl) (s3 : Sl) (s4 : Int) (x243 : (Option Addr)) :
    SJ neigh_Cache_Tick.cx [.code (c2 (c2 (c1 (c1 (c2 (c2 (c1 (c1 (c2 (c1 (c2 (c2 (c2 neigh_Cache_Tick.B))))))))))))), .inBlock 1, .code (c2 (c2 (c2 (c1 (c1 (c2 (c1 (c2 (c2 (c2 neigh_Cache_Tick.B)))))))))), .inLoop (c1 (c1 (c2 (c1 (c2 (c2 (c2 neigh_Cache_Tick.B))))))), .inBlock 0, .code (c2 (c2 (c2 (c2 neigh_Cache_Tick.B))))] [(0, .pointer a0), (4, Sl.v s2), (5, Sl.v s3), (9, Sl.v r1), (10, .int .i64 (r1.len : Int)), (11, .int .i64 s4), (7, .pointer x243)] [] (neigh_Cache_Tick.K1 a0 s2 s3 s4 x243) (neigh_Cache_Tick.F1 a0 r1) := by
  unfold neigh_Cache_Tick.K1
  refine SJ.block (id := 2) ?_
  refine SJ.seq ?_
  refine SJ.draw (id := 10) (kd := [0, 0, 0, 1, 0, 0, 0, 0, 0, 1, 0, 0, 0, 0, 1, 0, 0, 0]) (bef := [0, 1, 3, 7, 15, 31, 63, 127, 255, 511, 63, 1087, 3135, 7231, 15423, 32767, 65535, 131071]) (ord := [0, 1, 2, 3, 4, 5, 6, 7, 8, 9, 10, 11, 12, 13, 14, 15, 16, 17]) mixed ?_
  refine OJ.go 1 [(49, .pointer x243)] ?_
  refine OJ.nilck (d := 50) (y := .tmp 49) (fun p252 => ?_)
  refine OJ.go 1 [(51, .pointer (some (Addr.add p252 24)))] ?_
  refine OJ.ld (d := 52) (y := .tmp 51) (pend2 := fun x253 => [⟨3, 3, (Addr.add p252 24), (cI .i64).val x253⟩]) Ty3 (fun _ => rfl) (fun x253 => ?_)
  refine OJ.go 2 [(54, .bool (x253 == 2)), (53, .bool (x253 == 2))] ?_
  refine OJ.join (b := (x253 == 2)) [6, 7, 8, 9, 10, 11, 12, 13, 14, 15, 16] [17] [0, 4, 5, 9, 10, 11, 7, 65] (fun y258 => [(0, .pointer a0), (4, Sl.v s2), (5, Sl.v s3), (9, Sl.v r1), (10, .int .i64 (r1.len : Int)), (11, .int .i64 s4), (7, .pointer x243), (65, .bool y258)]) [⟨3, 3, (Addr.add p252 24), (cI .i64).val x253⟩] [9, 14] (t := 54) beq_iff_eq (fun hp_ => ?_) (fun hp_ => ?_) (fun _ _ _ _ _ _ h_ => h_) (fun y258 => ?_)
  · refine OJ.go 1 [(55, .pointer x243)] ?_
    refine OJ.nilck (d := 56) (y := .tmp 55) (fun p254 => ?_)
    refine OJ.go 1 [(57, .pointer (some (Addr.add p254 25)))] ?_
    refine OJ.ld (d := 58) (y := .tmp 57) (pend2 := fun x255 => [⟨9, 3, (Addr.add p254 25), (cI .i64).val x255⟩, ⟨3, 3, (Addr.add p252 24), (cI .i64).val x253⟩]) Ty3 (fun _ => rfl) (fun x255 => ?_)
    refine OJ.go 1 [(59, .pointer a0)] ?_
    refine OJ.nilck (d := 60) (y := .tmp 59) (fun p256 => ?_)
    refine OJ.go 2 [(62, .pointer (some (Addr.add p256 4))), (61, .pointer (some p256))] ?_
    refine OJ.ld (d := 63) (y := .tmp 62) (pend2 := fun x257 => [⟨14, 3, (Addr.add p256 4), (cI .i64).val x257⟩, ⟨9, 3, (Addr.add p254 25), (cI .i64).val x255⟩, ⟨3, 3, (Addr.add p252 24), (cI .i64).val x253⟩]) Ty3 (fun _ => rfl) (fun x257 => ?_)
    refine OJ.go 2 [(65, .bool (x255 == x257)), (64, .bool (x255 == x257))] ?_
    exact OJ.nil ⟨(Cov.mem (Cov.drop (List.mem_of_getElem? (i := 1) rfl) (Cov.drop (List.mem_of_getElem? (i := 0) rfl) (Cov.keep (List.mem_of_getElem? (i := 0) rfl) Cov.nil)))), rfl, _, rfl, by kernel_rfl⟩
  · refine OJ.go 11 [(65, .bool false), (64, undef), (63, undef), (62, undef), (61, undef), (60, undef), (59, undef), (58, undef), (57, undef), (56, undef), (55, undef)] ?_
    exact OJ.nil ⟨(Cov.mem (Cov.keep (List.mem_of_getElem? (i := 0) rfl) Cov.nil)), rfl, _, rfl, by kernel_rfl⟩
  · refine OJ.go 1 [(48, .bool y258)] ?_
    refine OJ.nil ?_
    refine SJ.cond (t := (.tmp 48)) (b := y258) Iff.rfl (fun hc473 => ?_) (fun hc473 => ?_)
    · refine SJ.rg 8 ?_
      refine OJ.go 2 [(67, .pointer x243), (66, .pointer x243)] ?_
      refine OJ.nilck (d := 68) (y := .tmp 66) (fun p366 => ?_)
      refine OJ.go 1 [(69, .pointer (some (Addr.add p366 24)))] ?_
      refine OJ.st (y := .tmp 69) (z := .const (.int .i64 3)) (owed := []) Ty3 ?_
      refine OW.nil ?_
      refine OJ.nilck (d := 70) (y := .tmp 67) (fun p367 => ?_)
      refine OJ.go 1 [(71, .pointer (some (Addr.add p367 25)))] ?_
      refine OJ.st (y := .tmp 71) (z := .const (.int .i64 0)) (owed := []) Ty3 ?_
      refine OW.nil ?_
      refine OJ.nil ?_
      refine SJ.inBlock ?_
      refine SJ.inBlock ?_
      refine SJ.rg 2 ?_
      refine OJ.go 2 [(11, .int .i64 (IntKind.wrap .i64 (s4 + 1))), (140, .int .i64 (IntKind.wrap .i64 (s4 + 1)))] ?_
      refine OJ.nil ?_
      exact SJ.at_ [0, 4, 5, 9, 10, 11] rfl
    · refine SJ.seq ?_
      refine SJ.draw (id := 12) (kd := [0, 0, 0, 1, 0, 0, 0, 0, 0, 1, 0, 0, 0, 0, 0, 0, 1, 0, 0, 0, 0, 1, 0, 0, 0]) (bef := [0, 1, 3, 7, 15, 31, 63, 127, 255, 511, 1023, 2047, 4095, 8191, 16383, 32767, 65535, 8191, 139263, 401407, 925695, 1974271, 4194303, 8388607, 16777215]) (ord := [0, 1, 2, 3, 4, 5, 6, 7, 8, 9, 10, 11, 12, 13, 14, 15, 16, 17, 18, 19, 20, 21, 22, 23, 24]) mixed ?_
      refine OJ.go 1 [(73, .pointer x243)] ?_
      refine OJ.nilck (d := 74) (y := .tmp 73) (fun p368 => ?_)
      refine OJ.go 1 [(75, .pointer (some (Addr.add p368 24)))] ?_
      refine OJ.ld (d := 76) (y := .tmp 75) (pend2 := fun x369 => [⟨3, 3, (Addr.add p368 24), (cI .i64).val x369⟩]) Ty3 (fun _ => rfl) (fun x369 => ?_)
      refine OJ.go 2 [(78, .bool (x369 != 1)), (77, .bool (x369 != 1))] ?_
      refine OJ.join (b := (x369 != 1)) [6, 7, 8, 9, 10, 11] [12, 13, 14, 15, 16, 17, 18, 19, 20, 21, 22, 23, 24] [0, 4, 5, 9, 10, 11, 7, 84] (fun y372 => [(0, .pointer a0), (4, Sl.v s2), (5, Sl.v s3), (9, Sl.v r1), (10, .int .i64 (r1.len : Int)), (11, .int .i64 s4), (7, .pointer x243), (84, .bool y372)]) [⟨3, 3, (Addr.add p368 24), (cI .i64).val x369⟩] [9] (t := 78) bne_iff_ne (fun hp_ => ?_) (fun hp_ => ?_) (fun _ _ _ _ _ _ h_ => h_) (fun y372 => ?_)
      · refine OJ.go 1 [(79, .pointer x243)] ?_
        refine OJ.nilck (d := 80) (y := .tmp 79) (fun p370 => ?_)
        refine OJ.go 1 [(81, .pointer (some (Addr.add p370 24)))] ?_
        refine OJ.ld (d := 82) (y := .tmp 81) (pend2 := fun x371 => [⟨9, 3, (Addr.add p370 24), (cI .i64).val x371⟩, ⟨3, 3, (Addr.add p368 24), (cI .i64).val x369⟩]) Ty3 (fun _ => rfl) (fun x371 => ?_)
        refine OJ.go 2 [(84, .bool (x371 != 4)), (83, .bool (x371 != 4))] ?_
        exact OJ.nil ⟨(Cov.mem (Cov.drop (List.mem_of_getElem? (i := 0) rfl) (Cov.keep (List.mem_of_getElem? (i := 0) rfl) Cov.nil))), rfl, _, rfl, by kernel_rfl⟩
      · refine OJ.go 6 [(84, .bool false), (83, undef), (82, undef), (81, undef), (80, undef), (79, undef)] ?_
        exact OJ.nil ⟨(Cov.mem (Cov.keep (List.mem_of_getElem? (i := 0) rfl) Cov.nil)), rfl, _, rfl, by kernel_rfl⟩
      · refine OJ.go 1 [(85, .bool y372)] ?_
        refine OJ.join (b := y372) [13, 14, 15, 16, 17, 18, 19, 20, 21, 22, 23] [24] [0, 4, 5, 9, 10, 11, 7, 96] (fun y377 => [(0, .pointer a0), (4, Sl.v s2), (5, Sl.v s3), (9, Sl.v r1), (10, .int .i64 (r1.len : Int)), (11, .int .i64 s4), (7, .pointer x243), (96, .bool y377)]) [⟨3, 3, (Addr.add p368 24), (cI .i64).val x369⟩] [16, 21] (t := 85) Iff.rfl (fun hp_ => ?_) (fun hp_ => ?_) (fun _ _ _ _ _ _ h_ => h_) (fun y377 => ?_)
        · refine OJ.go 11 [(96, .bool true), (95, undef), (94, undef), (93, undef), (92, undef), (91, undef), (90, undef), (89, undef), (88, undef), (87, undef), (86, undef)] ?_
          exact OJ.nil ⟨(Cov.mem (Cov.keep (List.mem_of_getElem? (i := 0) rfl) Cov.nil)), rfl, _, rfl, by kernel_rfl⟩
        · refine OJ.go 1 [(86, .pointer x243)] ?_
          refine OJ.nilck (d := 87) (y := .tmp 86) (fun p373 => ?_)
          refine OJ.go 1 [(88, .pointer (some (Addr.add p373 25)))] ?_
          refine OJ.ld (d := 89) (y := .tmp 88) (pend2 := fun x374 => [⟨16, 3, (Addr.add p373 25), (cI .i64).val x374⟩, ⟨3, 3, (Addr.add p368 24), (cI .i64).val x369⟩]) Ty3 (fun _ => rfl) (fun x374 => ?_)
          refine OJ.go 1 [(90, .pointer a0)] ?_
          refine OJ.nilck (d := 91) (y := .tmp 90) (fun p375 => ?_)
          refine OJ.go 2 [(93, .pointer (some (Addr.add p375 2))), (92, .pointer (some p375))] ?_
          refine OJ.ld (d := 94) (y := .tmp 93) (pend2 := fun x376 => [⟨21, 3, (Addr.add p375 2), (cI .i64).val x376⟩, ⟨16, 3, (Addr.add p373 25), (cI .i64).val x374⟩, ⟨3, 3, (Addr.add p368 24), (cI .i64).val x369⟩]) Ty3 (fun _ => rfl) (fun x376 => ?_)
          refine OJ.go 2 [(96, .bool (decide (x374 < x376))), (95, .bool (decide (x374 < x376)))] ?_
          exact OJ.nil ⟨(Cov.mem (Cov.drop (List.mem_of_getElem? (i := 1) rfl) (Cov.drop (List.mem_of_getElem? (i := 0) rfl) (Cov.keep (List.mem_of_getElem? (i := 0) rfl) Cov.nil)))), rfl, _, rfl, by kernel_rfl⟩
        · refine OJ.go 1 [(72, .bool y377)] ?_
          refine OJ.nil ?_
          refine SJ.cond (t := (.tmp 72)) (b := y377) Iff.rfl (fun hc472 => ?_) (fun hc472 => ?_)
          · refine SJ.skip ?_
            refine SJ.inBlock ?_
            refine SJ.inBlock ?_
            refine SJ.rg 2 ?_
            refine OJ.go 2 [(11, .int .i64 (IntKind.wrap .i64 (s4 + 1))), (140, .int .i64 (IntKind.wrap .i64 (s4 + 1)))] ?_
            refine OJ.nil ?_
            exact SJ.at_ [0, 4, 5, 9, 10, 11] rfl
          · refine SJ.seq ?_
            refine SJ.draw (id := 13) (kd := [0, 0, 0, 1, 0, 0, 0, 0, 1, 0, 0]) (bef := [0, 1, 3, 7, 0, 16, 48, 112, 240, 511, 1023]) (ord := [0, 1, 2, 3, 4, 5, 6, 7, 8, 9, 10]) mixed ?_
            refine OJ.go 1 [(98, .pointer x243)] ?_
            refine OJ.nilck (d := 99) (y := .tmp 98) (fun p425 => ?_)
            refine OJ.go 1 [(100, .pointer (some (Addr.add p425 26)))] ?_
            refine OJ.ld (d := 101) (y := .tmp 100) (pend2 := fun x426 => [⟨3, 3, (Addr.add p425 26), (cI .i64).val x426⟩]) Ty3 (fun _ => rfl) (fun x426 => ?_)
            refine OJ.go 1 [(102, .pointer a0)] ?_
            refine OJ.nilck (d := 103) (y := .tmp 102) (fun p427 => ?_)
            refine OJ.go 2 [(105, .pointer (some (Addr.add p427 3))), (104, .pointer (some p427))] ?_
            refine OJ.ld (d := 106) (y := .tmp 105) (pend2 := fun x428 => [⟨8, 3, (Addr.add p427 3), (cI .i64).val x428⟩, ⟨3, 3, (Addr.add p425 26), (cI .i64).val x426⟩]) Ty3 (fun _ => rfl) (fun x428 => ?_)
            refine OJ.go 2 [(97, .bool (decide (x426 < x428))), (107, .bool (decide (x426 < x428)))] ?_
            refine OJ.nil ?_
            refine SJ.cond (t := (.tmp 97)) (b := decide (x426 < x428)) decide_eq_true_iff (fun hc471 => ?_) (fun hc471 => ?_)
            · refine SJ.sr 8 ?_
              refine OJ.go 1 [(108, .pointer x243)] ?_
              refine OJ.nilck (d := 109) (y := .tmp 108) (fun p450 => ?_)
              refine OJ.go 1 [(110, .pointer (some (Addr.add p450 26)))] ?_
              refine OJ.ld (d := 111) (y := .tmp 110) (pend2 := fun x451 => []) Ty3 (fun _ => rfl) (fun x451 => ?_)
              refine OJ.go 1 [(112, .int .i64 (IntKind.wrap .i64 (x451 + 1)))] ?_
              refine OJ.nilck (d := 113) (y := .tmp 108) (fun p452 => ?_)
              refine OJ.go 1 [(114, .pointer (some (Addr.add p452 26)))] ?_
              refine OJ.st (y := .tmp 114) (z := .tmp 112) (owed := []) Ty3 ?_
              refine OW.nil ?_
              refine OJ.nil ?_
              refine SJ.sr 4 ?_
              refine OJ.go 1 [(115, .pointer x243)] ?_
              refine OJ.nilck (d := 116) (y := .tmp 115) (fun p453 => ?_)
              refine OJ.go 1 [(117, .pointer (some (Addr.add p453 25)))] ?_
              refine OJ.st (y := .tmp 117) (z := .const (.int .i64 0)) (owed := []) Ty3 ?_
              refine OW.nil ?_
              refine OJ.nil ?_
              refine SJ.draw (id := 16) (kd := [0, 0, 0, 0, 0, 1, 0, 0, 0, 0, 1, 0, 0, 0, 1, 0, 0, 0, 1, 0, 2, 2, 0]) (bef := [0, 0, 2, 6, 14, 30, 0, 64, 192, 448, 960, 0, 2048, 6144, 14336, 0, 32768, 98304, 229376, 524286, 1048574, 2097151, 4194303]) (ord := [0, 1, 2, 3, 4, 5, 6, 7, 8, 9, 10, 11, 12, 13, 14, 15, 16, 17, 18, 19, 20, 21, 22]) mixed ?_
              refine OJ.go 2 [(119, .pointer x243), (118, Sl.v s2)] ?_
              refine OJ.nilck (d := 120) (y := .tmp 119) (fun p454 => ?_)
              refine OJ.go 2 [(122, .pointer (some p454)), (121, .pointer (some p454))] ?_
              refine OJ.ld (d := 123) (y := .tmp 122) (pend2 := fun x455 => [⟨5, 3, p454, (cI .i64).val x455⟩]) Ty3 (fun _ => rfl) (fun x455 => ?_)
              refine OJ.go 1 [(124, .pointer x243)] ?_
              refine OJ.nilck (d := 125) (y := .tmp 124) (fun p456 => ?_)
              refine OJ.go 2 [(127, .pointer (some (Addr.add p456 1))), (126, .pointer (some p456))] ?_
              refine OJ.ld (d := 128) (y := .tmp 127) (pend2 := fun x457 => [⟨10, 32, (Addr.add p456 1), c_api_IP.val x457⟩, ⟨5, 3, p454, (cI .i64).val x455⟩]) Ty32 (fun _ => rfl) (fun x457 => ?_)
              refine OJ.go 1 [(129, .pointer x243)] ?_
              refine OJ.nilck (d := 130) (y := .tmp 129) (fun p458 => ?_)
              refine OJ.go 1 [(131, .pointer (some (Addr.add p458 18)))] ?_
              refine OJ.ld (d := 132) (y := .tmp 131) (pend2 := fun x459 => [⟨14, 34, (Addr.add p458 18), ((cI .u8).arr 6).val x459⟩, ⟨10, 32, (Addr.add p456 1), c_api_IP.val x457⟩, ⟨5, 3, p454, (cI .i64).val x455⟩]) Ty34 (fun _ => rfl) (fun x459 => ?_)
              refine OJ.go 1 [(133, .pointer x243)] ?_
              refine OJ.nilck (d := 134) (y := .tmp 133) (fun p460 => ?_)
              refine OJ.go 1 [(135, .pointer (some (Addr.add p460 26)))] ?_
              refine OJ.ld (d := 136) (y := .tmp 135) (pend2 := fun x461 => [⟨18, 3, (Addr.add p460 26), (cI .i64).val x461⟩, ⟨14, 34, (Addr.add p458 18), ((cI .u8).arr 6).val x459⟩, ⟨10, 32, (Addr.add p456 1), c_api_IP.val x457⟩, ⟨5, 3, p454, (cI .i64).val x455⟩]) Ty3 (fun _ => rfl) (fun x461 => ?_)
              refine OJ.build (d := 137) (T := 111) (parts := [(0, .tmp 123), (1, .tmp 128), (2, .tmp 132), (3, .tmp 136)]) (ps := [(0, (cI .i64).val x455), (1, c_api_IP.val x457), (2, ((cI .u8).arr 6).val x459), (3, (cI .i64).val x461)]) (cd := c_api_Ask) (z0 := z_api_Ask) (⟨x455, x457, x459, x461⟩ : api_Ask) Ty111 rfl (Filled.cons (cd := (cI .i64)) (q := x455) (o := 0) (by kernel_rfl) (Up_api_Ask_Port z_api_Ask x455) (Filled.cons (cd := c_api_IP) (q := x457) (o := 1) (by kernel_rfl) (Up_api_Ask_IP (⟨x455, z_api_Ask.IP, z_api_Ask.Mac, z_api_Ask.Try⟩ : api_Ask) x457) (Filled.cons (cd := ((cI .u8).arr 6)) (q := x459) (o := 18) (by kernel_rfl) (Up_api_Ask_Mac (⟨x455, x457, z_api_Ask.Mac, z_api_Ask.Try⟩ : api_Ask) x459) (Filled.cons (cd := (cI .i64)) (q := x461) (o := 24) (by kernel_rfl) (Up_api_Ask_Try (⟨x455, x457, x459, z_api_Ask.Try⟩ : api_Ask) x461) Filled.nil)))) ?_
              refine OJ.rowSlot (d := 138) (t := 50) (parts := [(0, .tmp 137)]) (ps := [(0, c_api_Ask.val (⟨x455, x457, x459, x461⟩ : api_Ask))]) (cd := c_api_Ask) (⟨[(⟨x455, x457, x459, x461⟩ : api_Ask)], rfl⟩ : Vec api_Ask 1) (owed := []) Ty111 (Filled.cons (cd := c_api_Ask) (q := (⟨x455, x457, x459, x461⟩ : api_Ask)) (o := 0) rfl (Upd.arr (i := 0) (by decide) (by decide)) Filled.nil) (fun b462 => ?_)
              refine OW.nil ?_
              refine OJ.appl (d := 139) (t := 50) (u := 50) (so := .tmp 118) (xo := .tmp 138) (j := 0) (b := b462) (l := (c_api_Ask.arr 1).enc (⟨[(⟨x455, x457, x459, x461⟩ : api_Ask)], rfl⟩ : Vec api_Ask 1)) (n := 1) (k := 1) [(⟨x455, x457, x459, x461⟩ : api_Ask)] (owed := []) Ty111 (by rfl) (Cod.arr_enc _ _ _) (by rfl) (fun r463 => ?_)
              refine OW.nil ?_
              refine OJ.go 1 [(4, Sl.v r463)] ?_
              refine OJ.nil ?_
              refine SJ.inBlock ?_
              refine SJ.inBlock ?_
              refine SJ.rg 2 ?_
              refine OJ.go 2 [(11, .int .i64 (IntKind.wrap .i64 (s4 + 1))), (140, .int .i64 (IntKind.wrap .i64 (s4 + 1)))] ?_
              refine OJ.nil ?_
              refine SJ.forget (List.Sublist.cons _ List.Sublist.slnil) ?_
              exact SJ.at_ [0, 4, 5, 9, 10, 11] rfl
            · refine SJ.seq ?_
              refine SJ.draw (id := 8) (kd := [0, 0, 0, 1, 0, 0, 0, 1, 2]) (bef := [0, 1, 3, 7, 0, 16, 48, 112, 255]) (ord := [0, 1, 2, 3, 4, 5, 6, 7, 8]) mixed ?_
              refine OJ.go 1 [(34, .pointer a0)] ?_
              refine OJ.nilck (d := 35) (y := .tmp 34) (fun p464 => ?_)
              refine OJ.go 1 [(36, .pointer (some (Addr.add p464 5)))] ?_
              refine OJ.ld (d := 37) (y := .tmp 36) (pend2 := fun x465 => [⟨3, 101, (Addr.add p464 5), cM.val x465⟩]) Ty101 (fun _ => rfl) (fun x465 => ?_)
              refine OJ.go 1 [(38, .pointer x243)] ?_
              refine OJ.nilck (d := 39) (y := .tmp 38) (fun p466 => ?_)
              refine OJ.go 1 [(40, .pointer (some p466))] ?_
              refine OJ.ld (d := 41) (y := .tmp 40) (pend2 := fun x467 => [⟨7, 99, p466, c_neigh_key.val x467⟩, ⟨3, 101, (Addr.add p464 5), cM.val x465⟩]) Ty99 (fun _ => rfl) (fun x467 => ?_)
              refine OJ.mdel (uT := 99) (x := .tmp 37) (y := .tmp 41) (owed := []) Kt101 ?_
              refine OW.nil ?_
              refine OJ.nil ?_
              refine SJ.rg 7 ?_
              refine OJ.go 2 [(43, .pointer x243), (42, Sl.v s3)] ?_
              refine OJ.nilck (d := 44) (y := .tmp 43) (fun p468 => ?_)
              refine OJ.go 1 [(45, .pointer (some (Addr.add p468 27)))] ?_
              refine OJ.ld (d := 46) (y := .tmp 45) (pend2 := fun x469 => []) Ty43 (fun _ => rfl) (fun x469 => ?_)
              refine OJ.appS (d := 47) (t := 43) (u := 43) (so := .tmp 42) (xo := .tmp 46) (owed := []) Ty3 (fun r470 => ?_)
              refine OW.nil ?_
              refine OJ.go 1 [(5, Sl.v r470)] ?_
              refine OJ.nil ?_
              refine SJ.inBlock ?_
              refine SJ.inBlock ?_
              refine SJ.rg 2 ?_
              refine OJ.go 2 [(11, .int .i64 (IntKind.wrap .i64 (s4 + 1))), (140, .int .i64 (IntKind.wrap .i64 (s4 + 1)))] ?_
              refine OJ.nil ?_
              exact SJ.at_ [0, 4, 5, 9, 10, 11] rfl
noncomputable def neigh_Cache_Tick.L1 (a0 : (Option Addr)) (r1 : Sl) (s2 : Sl) (s3 : Sl) (s4 : Int) : M (LS (Sl × Sl × Int) (Sl × Sl)) :=
  if s4 < (r1.len : Int) then
    idx r1.a r1.len s4 1 >>= fun p242 =>
    ld cP p242 >>= fun x243 =>
    nilck x243 >>= fun p244 =>
    ld (cI .i64) (Addr.add p244 24) >>= fun x245 =>
    (if x245 ≠ 3 then
        pure true
      else
        nilck x243 >>= fun p246 =>
        ld (cI .i64) (Addr.add p246 25) >>= fun x247 =>
        pure (decide (x247 < 1048576))) >>= fun y248 =>
    if y248 = true then
      nilck x243 >>= fun p474 =>
      ld (cI .i64) (Addr.add p474 25) >>= fun x475 =>
      nilck x243 >>= fun p476 =>
      st (cI .i64) (Addr.add p476 25) (IntKind.wrap .i64 (x475 + 1)) >>= fun _ =>
      neigh_Cache_Tick.K1 a0 s2 s3 s4 x243
    else
      neigh_Cache_Tick.K1 a0 s2 s3 s4 x243
  else
    pure (LS.done (s2, s3))
theorem neigh_Cache_Tick.L1_ok (a0 : (Option Addr)) (r1 : Sl) (s2 : Sl) (s3 : Sl) (s4 : Int) :
    SJ neigh_Cache_Tick.cx [.code (c1 (c1 (c2 (c1 (c2 (c2 (c2 neigh_Cache_Tick.B))))))), .inLoop (c1 (c1 (c2 (c1 (c2 (c2 (c2 neigh_Cache_Tick.B))))))), .inBlock 0, .code (c2 (c2 (c2 (c2 neigh_Cache_Tick.B))))] [(0, .pointer a0), (4, Sl.v s2), (5, Sl.v s3), (9, Sl.v r1), (10, .int .i64 (r1.len : Int)), (11, .int .i64 s4)] [] (neigh_Cache_Tick.L1 a0 r1 s2 s3 s4) (neigh_Cache_Tick.F1 a0 r1) := by
  unfold neigh_Cache_Tick.L1
  refine SJ.sr 1 ?_
  refine OJ.go 1 [(12, .bool (decide (s4 < (r1.len : Int))))] ?_
  refine OJ.nil ?_
  refine SJ.seq ?_
  refine SJ.cond (t := (.tmp 12)) (b := decide (s4 < (r1.len : Int))) decide_eq_true_iff (fun hc478 => ?_) (fun hc478 => ?_)
  · refine SJ.skip ?_
    refine SJ.seq ?_
    refine SJ.block (id := 1) ?_
    refine SJ.sr 3 ?_
    refine OJ.idxS (d := 13) (T := 108) (y := .tmp 9) (j := .tmp 11) (E := 100) (cap := r1.cap) (k := .i64) (fun p242 => ?_)
    refine OJ.ld (d := 14) (y := .tmp 13) (pend2 := fun x243 => []) Ty100 (fun _ => rfl) (fun x243 => ?_)
    refine OJ.go 1 [(7, .pointer x243)] ?_
    refine OJ.nil ?_
    refine SJ.seq ?_
    refine SJ.sr 12 ?_
    refine OJ.go 1 [(15, .pointer x243)] ?_
    refine OJ.nilck (d := 16) (y := .tmp 15) (fun p244 => ?_)
    refine OJ.go 1 [(17, .pointer (some (Addr.add p244 24)))] ?_
    refine OJ.ld (d := 18) (y := .tmp 17) (pend2 := fun x245 => []) Ty3 (fun _ => rfl) (fun x245 => ?_)
    refine OJ.go 2 [(20, .bool (x245 != 3)), (19, .bool (x245 != 3))] ?_
    refine OJ.join (b := (x245 != 3)) [6, 7, 8, 9, 10, 11] [] [0, 4, 5, 9, 10, 11, 7, 26] (fun y248 => [(0, .pointer a0), (4, Sl.v s2), (5, Sl.v s3), (9, Sl.v r1), (10, .int .i64 (r1.len : Int)), (11, .int .i64 s4), (7, .pointer x243), (26, .bool y248)]) [] [] (t := 20) bne_iff_ne (fun hp_ => ?_) (fun hp_ => ?_) (fun _ _ _ _ _ _ h_ => h_) (fun y248 => ?_)
    · refine OJ.go 6 [(26, .bool true), (25, undef), (24, undef), (23, undef), (22, undef), (21, undef)] ?_
      exact OJ.nil ⟨(Cov.mem Cov.nil), rfl, _, rfl, by kernel_rfl⟩
    · refine OJ.go 1 [(21, .pointer x243)] ?_
      refine OJ.nilck (d := 22) (y := .tmp 21) (fun p246 => ?_)
      refine OJ.go 1 [(23, .pointer (some (Addr.add p246 25)))] ?_
      refine OJ.ld (d := 24) (y := .tmp 23) (pend2 := fun x247 => []) Ty3 (fun _ => rfl) (fun x247 => ?_)
      refine OJ.go 2 [(26, .bool (decide (x247 < 1048576))), (25, .bool (decide (x247 < 1048576)))] ?_
      exact OJ.nil ⟨(Cov.mem Cov.nil), rfl, _, rfl, by kernel_rfl⟩
    · refine OJ.nil ?_
      refine SJ.cond (t := (.tmp 26)) (b := y248) Iff.rfl (fun hc477 => ?_) (fun hc477 => ?_)
      · refine SJ.rg 8 ?_
        refine OJ.go 1 [(27, .pointer x243)] ?_
        refine OJ.nilck (d := 28) (y := .tmp 27) (fun p474 => ?_)
        refine OJ.go 1 [(29, .pointer (some (Addr.add p474 25)))] ?_
        refine OJ.ld (d := 30) (y := .tmp 29) (pend2 := fun x475 => []) Ty3 (fun _ => rfl) (fun x475 => ?_)
        refine OJ.go 1 [(31, .int .i64 (IntKind.wrap .i64 (x475 + 1)))] ?_
        refine OJ.nilck (d := 32) (y := .tmp 27) (fun p476 => ?_)
        refine OJ.go 1 [(33, .pointer (some (Addr.add p476 25)))] ?_
        refine OJ.st (y := .tmp 33) (z := .tmp 31) (owed := []) Ty3 ?_
        refine OW.nil ?_
        refine OJ.nil ?_
        refine SJ.less [0, 4, 5, 9, 10, 11, 7] (m' := [(0, .pointer a0), (4, Sl.v s2), (5, Sl.v s3), (9, Sl.v r1), (10, .int .i64 (r1.len : Int)), (11, .int .i64 s4), (7, .pointer x243)]) ?_
        exact neigh_Cache_Tick.K1_ok a0 r1 s2 s3 s4 x243
      · refine SJ.skip ?_
        refine SJ.less [0, 4, 5, 9, 10, 11, 7] (m' := [(0, .pointer a0), (4, Sl.v s2), (5, Sl.v s3), (9, Sl.v r1), (10, .int .i64 (r1.len : Int)), (11, .int .i64 s4), (7, .pointer x243)]) ?_
        exact neigh_Cache_Tick.K1_ok a0 r1 s2 s3 s4 x243
  · refine SJ.exit (id := 0) (by rfl) ?_
    refine SJ.sr 4 ?_
    refine OJ.go 4 [(3, Sl.v s3), (2, Sl.v s2), (142, Sl.v s3), (141, Sl.v s2)] ?_
    refine OJ.nil ?_
    exact SJ.ret rfl (Res.run (ys := [Sl.v s2, Sl.v s3]) (.tmp (by kernel_rfl) (.tmp (by kernel_rfl) .nil)) rfl)
noncomputable def neigh_Cache_Tick (a0 : (Option Addr)) : M (Sl × Sl) :=
  neigh_Cache_sorted a0 >>= fun r1 =>
  loopM (fun s_ : (Sl × Sl × Int) => neigh_Cache_Tick.L1 a0 r1 s_.1 s_.2.1 s_.2.2) (Sl.nil, Sl.nil, 0)
theorem neigh_Cache_Tick_ok (a0 : (Option Addr)) : Ref Try.prog 21 [.pointer a0] (neigh_Cache_Tick a0) neigh_Cache_Tick.out := by
  refine Ref.of (cd := neigh_Cache_Tick.B) Try.func21 ?_
  show SJ neigh_Cache_Tick.cx [.code neigh_Cache_Tick.B] [(0, .pointer a0)] [] (neigh_Cache_Tick a0) neigh_Cache_Tick.F0
  unfold neigh_Cache_Tick
  refine SJ.sr 2 ?_
  refine OJ.go 2 [(3, Sl.v Sl.nil), (2, Sl.v Sl.nil)] ?_
  refine OJ.nil ?_
  refine SJ.sr 1 ?_
  refine OJ.go 1 [(4, Sl.v Sl.nil)] ?_
  refine OJ.nil ?_
  refine SJ.sr 1 ?_
  refine OJ.go 1 [(5, Sl.v Sl.nil)] ?_
  refine OJ.nil ?_
  refine SJ.seq ?_
  refine SJ.sr 4 ?_
  refine OJ.go 1 [(8, .pointer a0)] ?_
  refine OJ.call (d := 9) (g := 50) (ats := #[25]) (args := [.tmp 8]) (owed := []) F50 (neigh_Cache_sorted_ok a0) (fun r1 => ?_)
  refine OW.nil ?_
  refine OJ.go 2 [(11, .int .i64 0), (10, .int .i64 (r1.len : Int))] ?_
  refine OJ.nil ?_
  refine SJ.block (id := 0) ?_
  exact SJ.loop (fun s_ : (Sl × Sl × Int) => [(0, .pointer a0), (4, Sl.v s_.1), (5, Sl.v s_.2.1), (9, Sl.v r1), (10, .int .i64 (r1.len : Int)), (11, .int .i64 s_.2.2)]) (fun s_ : (Sl × Sl × Int) => []) [0, 4, 5, 9, 10, 11] rfl (fun _ _ => rfl) (fun s_ => neigh_Cache_Tick.L1_ok a0 r1 s_.1 s_.2.1 s_.2.2)

/-! ### weir/weirref15.older: function 77 -/
noncomputable def weirref15_older.B : Code := (Try.f77.body).getD .skip
noncomputable def weirref15_older.cx : Fx := ⟨Try.prog, 77, Try.f77⟩
noncomputable def weirref15_older.out (r_ : weirref15_Entry) : Value := c_weirref15_Entry.val r_
noncomputable def weirref15_older.F0 (r_ : weirref15_Entry) : Reach := .ret (weirref15_older.out r_)
noncomputable def weirref15_older.K1 (a0 : weirref15_Cache) (j5 : weirref15_Entry) : M weirref15_Entry :=
  (if j5.N.State = 2 then
      pure (j5.N.Age == a0.C.Fresh)
    else
      pure false) >>= fun y6 =>
  if y6 = true then
    pure (⟨(⟨j5.N.Port, j5.N.IP, j5.N.Mac, 3, 0, j5.N.Tries, j5.N.Waiting⟩ : api_Neighbour), j5.Items⟩ : weirref15_Entry)
  else
    pure j5
theorem weirref15_older.K1_ok (a0 : weirref15_Cache) (b1 : Nat) (b2 : Nat) (b3 : Nat) (j5 : weirref15_Entry) :
    SJ weirref15_older.cx [.code (c2 (c2 weirref15_older.B))] [(2, .pointer (some (pt b1 0))), (3, .pointer (some (pt b2 0))), (4, .pointer (some (pt b3 0)))] [(b3, c_weirref15_Entry.enc z_weirref15_Entry), (b2, c_weirref15_Entry.enc j5), (b1, c_weirref15_Cache.enc a0)] (weirref15_older.K1 a0 j5) weirref15_older.F0 := by
  unfold weirref15_older.K1
  refine SJ.seq ?_
  refine SJ.sr 13 ?_
  refine OJ.go 2 [(22, .pointer (some (pt b2 24))), (21, .pointer (some (pt b2 0)))] ?_
  refine OJ.kld (d := 23) (y := .tmp 22) (cd := (cI .i64)) (j := 1) (b := b2) (o := 24) j5.N.State (pend2 := []) Ty3 rfl (At.trans (At_weirref15_Entry_N j5) (At_api_Neighbour_State j5.N)) rfl ?_
  refine OJ.go 2 [(25, .bool (j5.N.State == 2)), (24, .bool (j5.N.State == 2))] ?_
  refine OJ.join (b := (j5.N.State == 2)) [5, 6, 7, 8, 9, 10, 11, 12] [] [3, 4, 33] (fun y6 => [(3, .pointer (some (pt b2 0))), (4, .pointer (some (pt b3 0))), (33, .bool y6)]) [] [] (t := 25) beq_iff_eq (fun hp_ => ?_) (fun hp_ => ?_) (fun _ _ _ _ _ _ h_ => h_) (fun y6 => ?_)
  · refine OJ.go 2 [(27, .pointer (some (pt b2 25))), (26, .pointer (some (pt b2 0)))] ?_
    refine OJ.kld (d := 28) (y := .tmp 27) (cd := (cI .i64)) (j := 1) (b := b2) (o := 25) j5.N.Age (pend2 := []) Ty3 rfl (At.trans (At_weirref15_Entry_N j5) (At_api_Neighbour_Age j5.N)) rfl ?_
    refine OJ.go 2 [(30, .pointer (some (pt b1 4))), (29, .pointer (some (pt b1 0)))] ?_
    refine OJ.kld (d := 31) (y := .tmp 30) (cd := (cI .i64)) (j := 2) (b := b1) (o := 4) a0.C.Fresh (pend2 := []) Ty3 rfl (At.trans (At_weirref15_Cache_C a0) (At_api_NeighConfig_Fresh a0.C)) rfl ?_
    refine OJ.go 2 [(33, .bool (j5.N.Age == a0.C.Fresh)), (32, .bool (j5.N.Age == a0.C.Fresh))] ?_
    exact OJ.nil ⟨(Cov.mem Cov.nil), rfl, _, rfl, by kernel_rfl⟩
  · refine OJ.go 8 [(33, .bool false), (32, undef), (31, undef), (30, undef), (29, undef), (28, undef), (27, undef), (26, undef)] ?_
    exact OJ.nil ⟨(Cov.mem Cov.nil), rfl, _, rfl, by kernel_rfl⟩
  · refine OJ.nil ?_
    refine SJ.cond (t := (.tmp 33)) (b := y6) Iff.rfl (fun hc7 => ?_) (fun hc7 => ?_)
    · refine SJ.sr 3 ?_
      refine OJ.go 2 [(35, .pointer (some (pt b2 24))), (34, .pointer (some (pt b2 0)))] ?_
      refine OJ.kst (y := .tmp 35) (z := .const (.int .i64 3)) (cd := (cI .i64)) (u := 3) (j := 1) (b := b2) (o := 24) (c_weirref15_Entry.enc (⟨(⟨j5.N.Port, j5.N.IP, j5.N.Mac, 3, j5.N.Age, j5.N.Tries, j5.N.Waiting⟩ : api_Neighbour), j5.Items⟩ : weirref15_Entry)) (owed := []) Ty3 rfl (Upd.trans (At_weirref15_Entry_N j5) (Up_api_Neighbour_State j5.N 3) (Up_weirref15_Entry_N j5 (⟨j5.N.Port, j5.N.IP, j5.N.Mac, 3, j5.N.Age, j5.N.Tries, j5.N.Waiting⟩ : api_Neighbour))) rfl ?_
      refine OW.nil ?_
      refine OJ.nil ?_
      refine SJ.rg 3 ?_
      refine OJ.go 2 [(37, .pointer (some (pt b2 25))), (36, .pointer (some (pt b2 0)))] ?_
      refine OJ.kst (y := .tmp 37) (z := .const (.int .i64 0)) (cd := (cI .i64)) (u := 0) (j := 1) (b := b2) (o := 25) (c_weirref15_Entry.enc (⟨(⟨j5.N.Port, j5.N.IP, j5.N.Mac, 3, 0, j5.N.Tries, j5.N.Waiting⟩ : api_Neighbour), j5.Items⟩ : weirref15_Entry)) (owed := []) Ty3 rfl (Upd.trans (At_weirref15_Entry_N (⟨(⟨j5.N.Port, j5.N.IP, j5.N.Mac, 3, j5.N.Age, j5.N.Tries, j5.N.Waiting⟩ : api_Neighbour), j5.Items⟩ : weirref15_Entry)) (Up_api_Neighbour_Age (⟨j5.N.Port, j5.N.IP, j5.N.Mac, 3, j5.N.Age, j5.N.Tries, j5.N.Waiting⟩ : api_Neighbour) 0) (Up_weirref15_Entry_N (⟨(⟨j5.N.Port, j5.N.IP, j5.N.Mac, 3, j5.N.Age, j5.N.Tries, j5.N.Waiting⟩ : api_Neighbour), j5.Items⟩ : weirref15_Entry) (⟨j5.N.Port, j5.N.IP, j5.N.Mac, 3, 0, j5.N.Tries, j5.N.Waiting⟩ : api_Neighbour))) rfl ?_
      refine OW.nil ?_
      refine OJ.nil ?_
      refine SJ.sr 2 ?_
      refine OJ.kld (d := 38) (y := .tmp 3) (cd := c_weirref15_Entry) (j := 1) (b := b2) (o := 0) (⟨(⟨j5.N.Port, j5.N.IP, j5.N.Mac, 3, 0, j5.N.Tries, j5.N.Waiting⟩ : api_Neighbour), j5.Items⟩ : weirref15_Entry) (pend2 := []) Ty145 rfl (At.whole _) rfl ?_
      refine OJ.kst (y := .tmp 4) (z := .tmp 38) (cd := c_weirref15_Entry) (u := (⟨(⟨j5.N.Port, j5.N.IP, j5.N.Mac, 3, 0, j5.N.Tries, j5.N.Waiting⟩ : api_Neighbour), j5.Items⟩ : weirref15_Entry)) (j := 0) (b := b3) (o := 0) (c_weirref15_Entry.enc (⟨(⟨j5.N.Port, j5.N.IP, j5.N.Mac, 3, 0, j5.N.Tries, j5.N.Waiting⟩ : api_Neighbour), j5.Items⟩ : weirref15_Entry)) (owed := []) Ty145 rfl (Upd.whole ((Cod.len _ _).trans (Cod.len _ _).symm)) rfl ?_
      refine OW.nil ?_
      refine OJ.nil ?_
      exact SJ.ret rfl (Res.run (ys := [c_weirref15_Entry.val (⟨(⟨j5.N.Port, j5.N.IP, j5.N.Mac, 3, 0, j5.N.Tries, j5.N.Waiting⟩ : api_Neighbour), j5.Items⟩ : weirref15_Entry)]) (.cell (j := 0) (b := b3) (cd := c_weirref15_Entry) (q := (⟨(⟨j5.N.Port, j5.N.IP, j5.N.Mac, 3, 0, j5.N.Tries, j5.N.Waiting⟩ : api_Neighbour), j5.Items⟩ : weirref15_Entry)) (by kernel_rfl) rfl Ty145 (At.whole _) .nil) rfl)
    · refine SJ.skip ?_
      refine SJ.sr 2 ?_
      refine OJ.kld (d := 38) (y := .tmp 3) (cd := c_weirref15_Entry) (j := 1) (b := b2) (o := 0) j5 (pend2 := []) Ty145 rfl (At.whole _) rfl ?_
      refine OJ.kst (y := .tmp 4) (z := .tmp 38) (cd := c_weirref15_Entry) (u := j5) (j := 0) (b := b3) (o := 0) (c_weirref15_Entry.enc j5) (owed := []) Ty145 rfl (Upd.whole ((Cod.len _ _).trans (Cod.len _ _).symm)) rfl ?_
      refine OW.nil ?_
      refine OJ.nil ?_
      exact SJ.ret rfl (Res.run (ys := [c_weirref15_Entry.val j5]) (.cell (j := 0) (b := b3) (cd := c_weirref15_Entry) (q := j5) (by kernel_rfl) rfl Ty145 (At.whole _) .nil) rfl)
noncomputable def weirref15_older (a0 : weirref15_Cache) (a1 : weirref15_Entry) : M weirref15_Entry :=
  slot 86 >>= fun b1 =>
  slot 145 >>= fun b2 =>
  slot 145 >>= fun b3 =>
  (if a1.N.State ≠ 3 then
      pure true
    else
      pure (decide (a1.N.Age < 1048576))) >>= fun y4 =>
  if y4 = true then
    weirref15_older.K1 a0 (⟨(⟨a1.N.Port, a1.N.IP, a1.N.Mac, a1.N.State, IntKind.wrap .i64 (a1.N.Age + 1), a1.N.Tries, a1.N.Waiting⟩ : api_Neighbour), a1.Items⟩ : weirref15_Entry)
  else
    weirref15_older.K1 a0 a1
theorem weirref15_older_ok (a0 : weirref15_Cache) (a1 : weirref15_Entry) : Ref Try.prog 77 [c_weirref15_Cache.val a0, c_weirref15_Entry.val a1] (weirref15_older a0 a1) weirref15_older.out := by
  refine Ref.of (cd := weirref15_older.B) Try.func77 ?_
  show SJ weirref15_older.cx [.code weirref15_older.B] [(0, c_weirref15_Cache.val a0), (1, c_weirref15_Entry.val a1)] [] (weirref15_older a0 a1) weirref15_older.F0
  unfold weirref15_older
  refine SJ.sr 3 ?_
  refine OJ.slotOf (d := 2) (op := (.box 86 (.tmp 0))) (cd := c_weirref15_Cache) (u := a0) (owed := []) (box_run (by kernel_rfl)) (fun b1 => ?_)
  refine OW.nil ?_
  refine OJ.slotOf (d := 3) (op := (.box 145 (.tmp 1))) (cd := c_weirref15_Entry) (u := a1) (owed := []) (box_run (by kernel_rfl)) (fun b2 => ?_)
  refine OW.nil ?_
  refine OJ.slotOf (d := 4) (op := (.alloc 145)) (cd := c_weirref15_Entry) (u := z_weirref15_Entry) (owed := []) (alloc_run Ty145) (fun b3 => ?_)
  refine OW.nil ?_
  refine OJ.nil ?_
  refine SJ.seq ?_
  refine SJ.sr 10 ?_
  refine OJ.go 2 [(6, .pointer (some (pt b2 24))), (5, .pointer (some (pt b2 0)))] ?_
  refine OJ.kld (d := 7) (y := .tmp 6) (cd := (cI .i64)) (j := 1) (b := b2) (o := 24) a1.N.State (pend2 := []) Ty3 rfl (At.trans (At_weirref15_Entry_N a1) (At_api_Neighbour_State a1.N)) rfl ?_
  refine OJ.go 2 [(9, .bool (a1.N.State != 3)), (8, .bool (a1.N.State != 3))] ?_
  refine OJ.join (b := (a1.N.State != 3)) [5, 6, 7, 8, 9] [] [2, 3, 4, 14] (fun y4 => [(2, .pointer (some (pt b1 0))), (3, .pointer (some (pt b2 0))), (4, .pointer (some (pt b3 0))), (14, .bool y4)]) [] [] (t := 9) bne_iff_ne (fun hp_ => ?_) (fun hp_ => ?_) (fun _ _ _ _ _ _ h_ => h_) (fun y4 => ?_)
  · refine OJ.go 5 [(14, .bool true), (13, undef), (12, undef), (11, undef), (10, undef)] ?_
    exact OJ.nil ⟨(Cov.mem Cov.nil), rfl, _, rfl, by kernel_rfl⟩
  · refine OJ.go 2 [(11, .pointer (some (pt b2 25))), (10, .pointer (some (pt b2 0)))] ?_
    refine OJ.kld (d := 12) (y := .tmp 11) (cd := (cI .i64)) (j := 1) (b := b2) (o := 25) a1.N.Age (pend2 := []) Ty3 rfl (At.trans (At_weirref15_Entry_N a1) (At_api_Neighbour_Age a1.N)) rfl ?_
    refine OJ.go 2 [(14, .bool (decide (a1.N.Age < 1048576))), (13, .bool (decide (a1.N.Age < 1048576)))] ?_
    exact OJ.nil ⟨(Cov.mem Cov.nil), rfl, _, rfl, by kernel_rfl⟩
  · refine OJ.nil ?_
    refine SJ.cond (t := (.tmp 14)) (b := y4) Iff.rfl (fun hc8 => ?_) (fun hc8 => ?_)
    · refine SJ.rg 7 ?_
      refine OJ.go 2 [(16, .pointer (some (pt b2 25))), (15, .pointer (some (pt b2 0)))] ?_
      refine OJ.kld (d := 17) (y := .tmp 16) (cd := (cI .i64)) (j := 1) (b := b2) (o := 25) a1.N.Age (pend2 := []) Ty3 rfl (At.trans (At_weirref15_Entry_N a1) (At_api_Neighbour_Age a1.N)) rfl ?_
      refine OJ.go 3 [(20, .pointer (some (pt b2 25))), (19, .pointer (some (pt b2 0))), (18, .int .i64 (IntKind.wrap .i64 (a1.N.Age + 1)))] ?_
      refine OJ.kst (y := .tmp 20) (z := .tmp 18) (cd := (cI .i64)) (u := (IntKind.wrap .i64 (a1.N.Age + 1))) (j := 1) (b := b2) (o := 25) (c_weirref15_Entry.enc (⟨(⟨a1.N.Port, a1.N.IP, a1.N.Mac, a1.N.State, IntKind.wrap .i64 (a1.N.Age + 1), a1.N.Tries, a1.N.Waiting⟩ : api_Neighbour), a1.Items⟩ : weirref15_Entry)) (owed := []) Ty3 rfl (Upd.trans (At_weirref15_Entry_N a1) (Up_api_Neighbour_Age a1.N (IntKind.wrap .i64 (a1.N.Age + 1))) (Up_weirref15_Entry_N a1 (⟨a1.N.Port, a1.N.IP, a1.N.Mac, a1.N.State, IntKind.wrap .i64 (a1.N.Age + 1), a1.N.Tries, a1.N.Waiting⟩ : api_Neighbour))) rfl ?_
      refine OW.nil ?_
      refine OJ.nil ?_
      refine SJ.less [2, 3, 4] (m' := [(2, .pointer (some (pt b1 0))), (3, .pointer (some (pt b2 0))), (4, .pointer (some (pt b3 0)))]) ?_
      exact weirref15_older.K1_ok a0 b1 b2 b3 (⟨(⟨a1.N.Port, a1.N.IP, a1.N.Mac, a1.N.State, IntKind.wrap .i64 (a1.N.Age + 1), a1.N.Tries, a1.N.Waiting⟩ : api_Neighbour), a1.Items⟩ : weirref15_Entry)
    · refine SJ.skip ?_
      refine SJ.less [2, 3, 4] (m' := [(2, .pointer (some (pt b1 0))), (3, .pointer (some (pt b2 0))), (4, .pointer (some (pt b3 0)))]) ?_
      exact weirref15_older.K1_ok a0 b1 b2 b3 a1

/-! ### weir/weirref15.Tick: function 64 -/
noncomputable def weirref15_Tick.B : Code := (Try.f64.body).getD .skip
noncomputable def weirref15_Tick.cx : Fx := ⟨Try.prog, 64, Try.f64⟩
noncomputable def weirref15_Tick.out (r_ : (weirref15_Cache × Sl × Sl)) : Value := .tuple #[c_weirref15_Cache.val r_.1, Sl.v r_.2.1, Sl.v r_.2.2]
noncomputable def weirref15_Tick.F0 (r_ : (weirref15_Cache × Sl × Sl)) : Reach := .ret (weirref15_Tick.out r_)
noncomputable def weirref15_Tick.F1 (a0 : weirref15_Cache) (b1 : Nat) (b2 : Nat) : (LS (Sl × Sl × Sl × Int) (weirref15_Cache × Sl × Sl)) → Reach := loopF [.inLoop (c1 (c1 (c2 (c1 (c2 (c2 (c2 (c2 weirref15_Tick.B)))))))), .inBlock 0, .code (c2 (c2 (c2 (c2 (c2 weirref15_Tick.B)))))] (fun s_ : (Sl × Sl × Sl × Int) => [(1, .pointer (some (pt b1 0))), (2, .pointer (some (pt b2 0))), (5, Sl.v s_.1), (6, Sl.v s_.2.1), (7, Sl.v s_.2.2.1), (8, .int .i64 s_.2.2.2)]) (fun s_ : (Sl × Sl × Sl × Int) => [(b2, c_weirref15_Cache.enc z_weirref15_Cache), (b1, c_weirref15_Cache.enc a0)]) weirref15_Tick.F0
noncomputable def weirref15_Tick.K1 (a0 : weirref15_Cache) (s3 : Sl) (s4 : Sl) (s5 : Sl) (s6 : Int) (b54 : Nat) (j55 : weirref15_Entry) : M (LS (Sl × Sl × Sl × Int) (weirref15_Cache × Sl × Sl)) :=
  (if j55.N.State = 1 then
      pure true
    else
      pure (j55.N.State == 4)) >>= fun y56 =>
  (if y56 = true then
      pure (j55.N.Age == a0.C.Every)
    else
      pure false) >>= fun y57 =>
  (if y57 = true then
      pure (decide (j55.N.Tries ≥ a0.C.Tries))
    else
      pure false) >>= fun y58 =>
  if y58 = true then
    appS (cI .i64) 3 8 0 s5 j55.Items >>= fun r60 =>
    pure (LS.next (s3, s4, r60, IntKind.wrap .i64 (s6 + 1)))
  else
    if y57 = true then
      slot 111 >>= fun b63 =>
      appl c_api_Ask 111 48 z_api_Ask s4 [(⟨j55.N.Port, j55.N.IP, j55.N.Mac, IntKind.wrap .i64 (j55.N.Tries + 1)⟩ : api_Ask)] >>= fun r64 =>
      slot 145 >>= fun b65 =>
      appl c_weirref15_Entry 145 96 z_weirref15_Entry s3 [(⟨(⟨j55.N.Port, j55.N.IP, j55.N.Mac, j55.N.State, 0, IntKind.wrap .i64 (j55.N.Tries + 1), j55.N.Waiting⟩ : api_Neighbour), j55.Items⟩ : weirref15_Entry)] >>= fun r66 =>
      pure (LS.next (r66, r64, s5, IntKind.wrap .i64 (s6 + 1)))
    else
      slot 145 >>= fun b67 =>
      appl c_weirref15_Entry 145 96 z_weirref15_Entry s3 [j55] >>= fun r68 =>
      pure (LS.next (r68, s4, s5, IntKind.wrap .i64 (s6 + 1)))
theorem weirref15_Tick.K1_ok (a0 : weirref15_Cache) (b1 : Nat) (b2 : Nat) (s3 : Sl) (s4 : Sl) (s5 : Sl) (s6 : Int) (b54 : Nat) (j55 : weirref15_Entry) :
    SJ weirref15_Tick.cx [.code (c2 (c1 (c1 (c2 (c1 (c1 (c2 (c1 (c2 (c2 (c2 (c2 weirref15_Tick.B)))))))))))), .inBlock 1, .code (c2 (c2 (c1 (c1 (c2 (c1 (c2 (c2 (c2 (c2 weirref15_Tick.B)))))))))), .inLoop (c1 (c1 (c2 (c1 (c2 (c2 (c2 (c2 weirref15_Tick.B)))))))), .inBlock 0, .code (c2 (c2 (c2 (c2 (c2 weirref15_Tick.B)))))] [(1, .pointer (some (pt b1 0))), (2, .pointer (some (pt b2 0))), (5, Sl.v s3), (6, Sl.v s4), (7, Sl.v s5), (8, .int .i64 s6), (9, .pointer (some (pt b54 0)))] [(b54, c_weirref15_Entry.enc j55), (b2, c_weirref15_Cache.enc z_weirref15_Cache), (b1, c_weirref15_Cache.enc a0)] (weirref15_Tick.K1 a0 s3 s4 s5 s6 b54 j55) (weirref15_Tick.F1 a0 b1 b2) := by
  unfold weirref15_Tick.K1
  refine SJ.sr 20 ?_
  refine OJ.go 2 [(26, .pointer (some (pt b54 24))), (25, .pointer (some (pt b54 0)))] ?_
  refine OJ.kld (d := 27) (y := .tmp 26) (cd := (cI .i64)) (j := 0) (b := b54) (o := 24) j55.N.State (pend2 := []) Ty3 rfl (At.trans (At_weirref15_Entry_N j55) (At_api_Neighbour_State j55.N)) rfl ?_
  refine OJ.go 2 [(29, .bool (j55.N.State == 1)), (28, .bool (j55.N.State == 1))] ?_
  refine OJ.join (b := (j55.N.State == 1)) [5, 6, 7, 8, 9] [10, 11, 12, 13, 14, 15, 16, 17, 18, 19] [1, 2, 5, 6, 7, 8, 9, 34] (fun y56 => [(1, .pointer (some (pt b1 0))), (2, .pointer (some (pt b2 0))), (5, Sl.v s3), (6, Sl.v s4), (7, Sl.v s5), (8, .int .i64 s6), (9, .pointer (some (pt b54 0))), (34, .bool y56)]) [] [] (t := 29) beq_iff_eq (fun hp_ => ?_) (fun hp_ => ?_) (fun _ _ _ _ _ _ h_ => h_) (fun y56 => ?_)
  · refine OJ.go 5 [(34, .bool true), (33, undef), (32, undef), (31, undef), (30, undef)] ?_
    exact OJ.nil ⟨(Cov.mem Cov.nil), rfl, _, rfl, by kernel_rfl⟩
  · refine OJ.go 2 [(31, .pointer (some (pt b54 24))), (30, .pointer (some (pt b54 0)))] ?_
    refine OJ.kld (d := 32) (y := .tmp 31) (cd := (cI .i64)) (j := 0) (b := b54) (o := 24) j55.N.State (pend2 := []) Ty3 rfl (At.trans (At_weirref15_Entry_N j55) (At_api_Neighbour_State j55.N)) rfl ?_
    refine OJ.go 2 [(34, .bool (j55.N.State == 4)), (33, .bool (j55.N.State == 4))] ?_
    exact OJ.nil ⟨(Cov.mem Cov.nil), rfl, _, rfl, by kernel_rfl⟩
  · refine OJ.go 1 [(35, .bool y56)] ?_
    refine OJ.join (b := y56) [11, 12, 13, 14, 15, 16, 17, 18] [19] [1, 2, 5, 6, 7, 8, 9, 43] (fun y57 => [(1, .pointer (some (pt b1 0))), (2, .pointer (some (pt b2 0))), (5, Sl.v s3), (6, Sl.v s4), (7, Sl.v s5), (8, .int .i64 s6), (9, .pointer (some (pt b54 0))), (43, .bool y57)]) [] [] (t := 35) Iff.rfl (fun hp_ => ?_) (fun hp_ => ?_) (fun _ _ _ _ _ _ h_ => h_) (fun y57 => ?_)
    · refine OJ.go 2 [(37, .pointer (some (pt b54 25))), (36, .pointer (some (pt b54 0)))] ?_
      refine OJ.kld (d := 38) (y := .tmp 37) (cd := (cI .i64)) (j := 0) (b := b54) (o := 25) j55.N.Age (pend2 := []) Ty3 rfl (At.trans (At_weirref15_Entry_N j55) (At_api_Neighbour_Age j55.N)) rfl ?_
      refine OJ.go 2 [(40, .pointer (some (pt b1 2))), (39, .pointer (some (pt b1 0)))] ?_
      refine OJ.kld (d := 41) (y := .tmp 40) (cd := (cI .i64)) (j := 2) (b := b1) (o := 2) a0.C.Every (pend2 := []) Ty3 rfl (At.trans (At_weirref15_Cache_C a0) (At_api_NeighConfig_Every a0.C)) rfl ?_
      refine OJ.go 2 [(43, .bool (j55.N.Age == a0.C.Every)), (42, .bool (j55.N.Age == a0.C.Every))] ?_
      exact OJ.nil ⟨(Cov.mem Cov.nil), rfl, _, rfl, by kernel_rfl⟩
    · refine OJ.go 8 [(43, .bool false), (42, undef), (41, undef), (40, undef), (39, undef), (38, undef), (37, undef), (36, undef)] ?_
      exact OJ.nil ⟨(Cov.mem Cov.nil), rfl, _, rfl, by kernel_rfl⟩
    · refine OJ.go 1 [(10, .bool y57)] ?_
      refine OJ.nil ?_
      refine SJ.seq ?_
      refine SJ.sr 10 ?_
      refine OJ.go 2 [(45, .bool y57), (44, .bool y57)] ?_
      refine OJ.join (b := y57) [2, 3, 4, 5, 6, 7, 8, 9] [] [1, 2, 5, 6, 7, 8, 9, 10, 53] (fun y58 => [(1, .pointer (some (pt b1 0))), (2, .pointer (some (pt b2 0))), (5, Sl.v s3), (6, Sl.v s4), (7, Sl.v s5), (8, .int .i64 s6), (9, .pointer (some (pt b54 0))), (10, .bool y57), (53, .bool y58)]) [] [] (t := 45) Iff.rfl (fun hp_ => ?_) (fun hp_ => ?_) (fun _ _ _ _ _ _ h_ => h_) (fun y58 => ?_)
      · refine OJ.go 2 [(47, .pointer (some (pt b54 26))), (46, .pointer (some (pt b54 0)))] ?_
        refine OJ.kld (d := 48) (y := .tmp 47) (cd := (cI .i64)) (j := 0) (b := b54) (o := 26) j55.N.Tries (pend2 := []) Ty3 rfl (At.trans (At_weirref15_Entry_N j55) (At_api_Neighbour_Tries j55.N)) rfl ?_
        refine OJ.go 2 [(50, .pointer (some (pt b1 3))), (49, .pointer (some (pt b1 0)))] ?_
        refine OJ.kld (d := 51) (y := .tmp 50) (cd := (cI .i64)) (j := 2) (b := b1) (o := 3) a0.C.Tries (pend2 := []) Ty3 rfl (At.trans (At_weirref15_Cache_C a0) (At_api_NeighConfig_Tries a0.C)) rfl ?_
        refine OJ.go 2 [(53, .bool (decide (j55.N.Tries ≥ a0.C.Tries))), (52, .bool (decide (j55.N.Tries ≥ a0.C.Tries)))] ?_
        exact OJ.nil ⟨(Cov.mem Cov.nil), rfl, _, rfl, by kernel_rfl⟩
      · refine OJ.go 8 [(53, .bool false), (52, undef), (51, undef), (50, undef), (49, undef), (48, undef), (47, undef), (46, undef)] ?_
        exact OJ.nil ⟨(Cov.mem Cov.nil), rfl, _, rfl, by kernel_rfl⟩
      · refine OJ.nil ?_
        refine SJ.cond (t := (.tmp 53)) (b := y58) Iff.rfl (fun hc70 => ?_) (fun hc70 => ?_)
        · refine SJ.sr 5 ?_
          refine OJ.go 2 [(55, .pointer (some (pt b54 28))), (54, Sl.v s5)] ?_
          refine OJ.kld (d := 56) (y := .tmp 55) (cd := cL) (j := 0) (b := b54) (o := 28) j55.Items (pend2 := []) Ty43 rfl (At_weirref15_Entry_Items j55) rfl ?_
          refine OJ.appS (d := 57) (t := 43) (u := 43) (so := .tmp 54) (xo := .tmp 56) (owed := []) Ty3 (fun r60 => ?_)
          refine OW.nil ?_
          refine OJ.go 1 [(7, Sl.v r60)] ?_
          refine OJ.nil ?_
          refine SJ.exit (id := 1) (by rfl) ?_
          refine SJ.rg 3 ?_
          refine OJ.go 3 [(8, .int .i64 (IntKind.wrap .i64 (s6 + 1))), (17, .int .i64 (IntKind.wrap .i64 (s6 + 1))), (16, .int .i64 s6)] ?_
          refine OJ.nil ?_
          refine SJ.forget (List.Sublist.cons _ (List.Sublist.cons_cons _ (List.Sublist.cons_cons _ List.Sublist.slnil))) ?_
          exact SJ.at_ [1, 2, 5, 6, 7, 8] rfl
        · refine SJ.skip ?_
          refine SJ.seq ?_
          refine SJ.sr 1 ?_
          refine OJ.go 1 [(58, .bool y57)] ?_
          refine OJ.nil ?_
          refine SJ.cond (t := (.tmp 58)) (b := y57) Iff.rfl (fun hc69 => ?_) (fun hc69 => ?_)
          · refine SJ.sr 7 ?_
            refine OJ.go 2 [(60, .pointer (some (pt b54 26))), (59, .pointer (some (pt b54 0)))] ?_
            refine OJ.kld (d := 61) (y := .tmp 60) (cd := (cI .i64)) (j := 0) (b := b54) (o := 26) j55.N.Tries (pend2 := []) Ty3 rfl (At.trans (At_weirref15_Entry_N j55) (At_api_Neighbour_Tries j55.N)) rfl ?_
            refine OJ.go 3 [(64, .pointer (some (pt b54 26))), (63, .pointer (some (pt b54 0))), (62, .int .i64 (IntKind.wrap .i64 (j55.N.Tries + 1)))] ?_
            refine OJ.kst (y := .tmp 64) (z := .tmp 62) (cd := (cI .i64)) (u := (IntKind.wrap .i64 (j55.N.Tries + 1))) (j := 0) (b := b54) (o := 26) (c_weirref15_Entry.enc (⟨(⟨j55.N.Port, j55.N.IP, j55.N.Mac, j55.N.State, j55.N.Age, IntKind.wrap .i64 (j55.N.Tries + 1), j55.N.Waiting⟩ : api_Neighbour), j55.Items⟩ : weirref15_Entry)) (owed := []) Ty3 rfl (Upd.trans (At_weirref15_Entry_N j55) (Up_api_Neighbour_Tries j55.N (IntKind.wrap .i64 (j55.N.Tries + 1))) (Up_weirref15_Entry_N j55 (⟨j55.N.Port, j55.N.IP, j55.N.Mac, j55.N.State, j55.N.Age, IntKind.wrap .i64 (j55.N.Tries + 1), j55.N.Waiting⟩ : api_Neighbour))) rfl ?_
            refine OW.nil ?_
            refine OJ.nil ?_
            refine SJ.sr 3 ?_
            refine OJ.go 2 [(66, .pointer (some (pt b54 25))), (65, .pointer (some (pt b54 0)))] ?_
            refine OJ.kst (y := .tmp 66) (z := .const (.int .i64 0)) (cd := (cI .i64)) (u := 0) (j := 0) (b := b54) (o := 25) (c_weirref15_Entry.enc (⟨(⟨j55.N.Port, j55.N.IP, j55.N.Mac, j55.N.State, 0, IntKind.wrap .i64 (j55.N.Tries + 1), j55.N.Waiting⟩ : api_Neighbour), j55.Items⟩ : weirref15_Entry)) (owed := []) Ty3 rfl (Upd.trans (At_weirref15_Entry_N (⟨(⟨j55.N.Port, j55.N.IP, j55.N.Mac, j55.N.State, j55.N.Age, IntKind.wrap .i64 (j55.N.Tries + 1), j55.N.Waiting⟩ : api_Neighbour), j55.Items⟩ : weirref15_Entry)) (Up_api_Neighbour_Age (⟨j55.N.Port, j55.N.IP, j55.N.Mac, j55.N.State, j55.N.Age, IntKind.wrap .i64 (j55.N.Tries + 1), j55.N.Waiting⟩ : api_Neighbour) 0) (Up_weirref15_Entry_N (⟨(⟨j55.N.Port, j55.N.IP, j55.N.Mac, j55.N.State, j55.N.Age, IntKind.wrap .i64 (j55.N.Tries + 1), j55.N.Waiting⟩ : api_Neighbour), j55.Items⟩ : weirref15_Entry) (⟨j55.N.Port, j55.N.IP, j55.N.Mac, j55.N.State, 0, IntKind.wrap .i64 (j55.N.Tries + 1), j55.N.Waiting⟩ : api_Neighbour))) rfl ?_
            refine OW.nil ?_
            refine OJ.nil ?_
            refine SJ.rg 17 ?_
            refine OJ.go 3 [(69, .pointer (some (pt b54 0))), (68, .pointer (some (pt b54 0))), (67, Sl.v s4)] ?_
            refine OJ.kld (d := 70) (y := .tmp 69) (cd := (cI .i64)) (j := 0) (b := b54) (o := 0) j55.N.Port (pend2 := []) Ty3 rfl (At.trans (At_weirref15_Entry_N (⟨(⟨j55.N.Port, j55.N.IP, j55.N.Mac, j55.N.State, 0, IntKind.wrap .i64 (j55.N.Tries + 1), j55.N.Waiting⟩ : api_Neighbour), j55.Items⟩ : weirref15_Entry)) (At_api_Neighbour_Port (⟨j55.N.Port, j55.N.IP, j55.N.Mac, j55.N.State, 0, IntKind.wrap .i64 (j55.N.Tries + 1), j55.N.Waiting⟩ : api_Neighbour))) rfl ?_
            refine OJ.go 2 [(72, .pointer (some (pt b54 1))), (71, .pointer (some (pt b54 0)))] ?_
            refine OJ.kld (d := 73) (y := .tmp 72) (cd := c_api_IP) (j := 0) (b := b54) (o := 1) j55.N.IP (pend2 := []) Ty32 rfl (At.trans (At_weirref15_Entry_N (⟨(⟨j55.N.Port, j55.N.IP, j55.N.Mac, j55.N.State, 0, IntKind.wrap .i64 (j55.N.Tries + 1), j55.N.Waiting⟩ : api_Neighbour), j55.Items⟩ : weirref15_Entry)) (At_api_Neighbour_IP (⟨j55.N.Port, j55.N.IP, j55.N.Mac, j55.N.State, 0, IntKind.wrap .i64 (j55.N.Tries + 1), j55.N.Waiting⟩ : api_Neighbour))) rfl ?_
            refine OJ.go 2 [(75, .pointer (some (pt b54 18))), (74, .pointer (some (pt b54 0)))] ?_
            refine OJ.kld (d := 76) (y := .tmp 75) (cd := ((cI .u8).arr 6)) (j := 0) (b := b54) (o := 18) j55.N.Mac (pend2 := []) Ty34 rfl (At.trans (At_weirref15_Entry_N (⟨(⟨j55.N.Port, j55.N.IP, j55.N.Mac, j55.N.State, 0, IntKind.wrap .i64 (j55.N.Tries + 1), j55.N.Waiting⟩ : api_Neighbour), j55.Items⟩ : weirref15_Entry)) (At_api_Neighbour_Mac (⟨j55.N.Port, j55.N.IP, j55.N.Mac, j55.N.State, 0, IntKind.wrap .i64 (j55.N.Tries + 1), j55.N.Waiting⟩ : api_Neighbour))) rfl ?_
            refine OJ.go 2 [(78, .pointer (some (pt b54 26))), (77, .pointer (some (pt b54 0)))] ?_
            refine OJ.kld (d := 79) (y := .tmp 78) (cd := (cI .i64)) (j := 0) (b := b54) (o := 26) (IntKind.wrap .i64 (j55.N.Tries + 1)) (pend2 := []) Ty3 rfl (At.trans (At_weirref15_Entry_N (⟨(⟨j55.N.Port, j55.N.IP, j55.N.Mac, j55.N.State, 0, IntKind.wrap .i64 (j55.N.Tries + 1), j55.N.Waiting⟩ : api_Neighbour), j55.Items⟩ : weirref15_Entry)) (At_api_Neighbour_Tries (⟨j55.N.Port, j55.N.IP, j55.N.Mac, j55.N.State, 0, IntKind.wrap .i64 (j55.N.Tries + 1), j55.N.Waiting⟩ : api_Neighbour))) rfl ?_
            refine OJ.build (d := 80) (T := 111) (parts := [(0, .tmp 70), (1, .tmp 73), (2, .tmp 76), (3, .tmp 79)]) (ps := [(0, (cI .i64).val j55.N.Port), (1, c_api_IP.val j55.N.IP), (2, ((cI .u8).arr 6).val j55.N.Mac), (3, (cI .i64).val (IntKind.wrap .i64 (j55.N.Tries + 1)))]) (cd := c_api_Ask) (z0 := z_api_Ask) (⟨j55.N.Port, j55.N.IP, j55.N.Mac, IntKind.wrap .i64 (j55.N.Tries + 1)⟩ : api_Ask) Ty111 rfl (Filled.cons (cd := (cI .i64)) (q := j55.N.Port) (o := 0) (by kernel_rfl) (Up_api_Ask_Port z_api_Ask j55.N.Port) (Filled.cons (cd := c_api_IP) (q := j55.N.IP) (o := 1) (by kernel_rfl) (Up_api_Ask_IP (⟨j55.N.Port, z_api_Ask.IP, z_api_Ask.Mac, z_api_Ask.Try⟩ : api_Ask) j55.N.IP) (Filled.cons (cd := ((cI .u8).arr 6)) (q := j55.N.Mac) (o := 18) (by kernel_rfl) (Up_api_Ask_Mac (⟨j55.N.Port, j55.N.IP, z_api_Ask.Mac, z_api_Ask.Try⟩ : api_Ask) j55.N.Mac) (Filled.cons (cd := (cI .i64)) (q := (IntKind.wrap .i64 (j55.N.Tries + 1))) (o := 24) (by kernel_rfl) (Up_api_Ask_Try (⟨j55.N.Port, j55.N.IP, j55.N.Mac, z_api_Ask.Try⟩ : api_Ask) (IntKind.wrap .i64 (j55.N.Tries + 1))) Filled.nil)))) ?_
            refine OJ.rowSlot (d := 81) (t := 50) (parts := [(0, .tmp 80)]) (ps := [(0, c_api_Ask.val (⟨j55.N.Port, j55.N.IP, j55.N.Mac, IntKind.wrap .i64 (j55.N.Tries + 1)⟩ : api_Ask))]) (cd := c_api_Ask) (⟨[(⟨j55.N.Port, j55.N.IP, j55.N.Mac, IntKind.wrap .i64 (j55.N.Tries + 1)⟩ : api_Ask)], rfl⟩ : Vec api_Ask 1) (owed := []) Ty111 (Filled.cons (cd := c_api_Ask) (q := (⟨j55.N.Port, j55.N.IP, j55.N.Mac, IntKind.wrap .i64 (j55.N.Tries + 1)⟩ : api_Ask)) (o := 0) rfl (Upd.arr (i := 0) (by decide) (by decide)) Filled.nil) (fun b63 => ?_)
            refine OW.nil ?_
            refine OJ.appl (d := 82) (t := 50) (u := 50) (so := .tmp 67) (xo := .tmp 81) (j := 0) (b := b63) (l := (c_api_Ask.arr 1).enc (⟨[(⟨j55.N.Port, j55.N.IP, j55.N.Mac, IntKind.wrap .i64 (j55.N.Tries + 1)⟩ : api_Ask)], rfl⟩ : Vec api_Ask 1)) (n := 1) (k := 1) [(⟨j55.N.Port, j55.N.IP, j55.N.Mac, IntKind.wrap .i64 (j55.N.Tries + 1)⟩ : api_Ask)] (owed := []) Ty111 (by rfl) (Cod.arr_enc _ _ _) (by rfl) (fun r64 => ?_)
            refine OW.nil ?_
            refine OJ.go 1 [(6, Sl.v r64)] ?_
            refine OJ.nil ?_
            refine SJ.rg 5 ?_
            refine OJ.go 1 [(83, Sl.v s3)] ?_
            refine OJ.kld (d := 84) (y := .tmp 9) (cd := c_weirref15_Entry) (j := 1) (b := b54) (o := 0) (⟨(⟨j55.N.Port, j55.N.IP, j55.N.Mac, j55.N.State, 0, IntKind.wrap .i64 (j55.N.Tries + 1), j55.N.Waiting⟩ : api_Neighbour), j55.Items⟩ : weirref15_Entry) (pend2 := []) Ty145 rfl (At.whole _) rfl ?_
            refine OJ.rowSlot (d := 85) (t := 84) (parts := [(0, .tmp 84)]) (ps := [(0, c_weirref15_Entry.val (⟨(⟨j55.N.Port, j55.N.IP, j55.N.Mac, j55.N.State, 0, IntKind.wrap .i64 (j55.N.Tries + 1), j55.N.Waiting⟩ : api_Neighbour), j55.Items⟩ : weirref15_Entry))]) (cd := c_weirref15_Entry) (⟨[(⟨(⟨j55.N.Port, j55.N.IP, j55.N.Mac, j55.N.State, 0, IntKind.wrap .i64 (j55.N.Tries + 1), j55.N.Waiting⟩ : api_Neighbour), j55.Items⟩ : weirref15_Entry)], rfl⟩ : Vec weirref15_Entry 1) (owed := []) Ty145 (Filled.cons (cd := c_weirref15_Entry) (q := (⟨(⟨j55.N.Port, j55.N.IP, j55.N.Mac, j55.N.State, 0, IntKind.wrap .i64 (j55.N.Tries + 1), j55.N.Waiting⟩ : api_Neighbour), j55.Items⟩ : weirref15_Entry)) (o := 0) rfl (Upd.arr (i := 0) (by decide) (by decide)) Filled.nil) (fun b65 => ?_)
            refine OW.nil ?_
            refine OJ.appl (d := 86) (t := 84) (u := 84) (so := .tmp 83) (xo := .tmp 85) (j := 0) (b := b65) (l := (c_weirref15_Entry.arr 1).enc (⟨[(⟨(⟨j55.N.Port, j55.N.IP, j55.N.Mac, j55.N.State, 0, IntKind.wrap .i64 (j55.N.Tries + 1), j55.N.Waiting⟩ : api_Neighbour), j55.Items⟩ : weirref15_Entry)], rfl⟩ : Vec weirref15_Entry 1)) (n := 1) (k := 1) [(⟨(⟨j55.N.Port, j55.N.IP, j55.N.Mac, j55.N.State, 0, IntKind.wrap .i64 (j55.N.Tries + 1), j55.N.Waiting⟩ : api_Neighbour), j55.Items⟩ : weirref15_Entry)] (owed := []) Ty145 (by rfl) (Cod.arr_enc _ _ _) (by rfl) (fun r66 => ?_)
            refine OW.nil ?_
            refine OJ.go 1 [(5, Sl.v r66)] ?_
            refine OJ.nil ?_
            refine SJ.inBlock ?_
            refine SJ.rg 3 ?_
            refine OJ.go 3 [(8, .int .i64 (IntKind.wrap .i64 (s6 + 1))), (17, .int .i64 (IntKind.wrap .i64 (s6 + 1))), (16, .int .i64 s6)] ?_
            refine OJ.nil ?_
            refine SJ.forget (List.Sublist.cons _ (List.Sublist.cons _ (List.Sublist.cons _ (List.Sublist.cons_cons _ (List.Sublist.cons_cons _ List.Sublist.slnil))))) ?_
            exact SJ.at_ [1, 2, 5, 6, 7, 8] rfl
          · refine SJ.skip ?_
            refine SJ.rg 5 ?_
            refine OJ.go 1 [(83, Sl.v s3)] ?_
            refine OJ.kld (d := 84) (y := .tmp 9) (cd := c_weirref15_Entry) (j := 0) (b := b54) (o := 0) j55 (pend2 := []) Ty145 rfl (At.whole _) rfl ?_
            refine OJ.rowSlot (d := 85) (t := 84) (parts := [(0, .tmp 84)]) (ps := [(0, c_weirref15_Entry.val j55)]) (cd := c_weirref15_Entry) (⟨[j55], rfl⟩ : Vec weirref15_Entry 1) (owed := []) Ty145 (Filled.cons (cd := c_weirref15_Entry) (q := j55) (o := 0) rfl (Upd.arr (i := 0) (by decide) (by decide)) Filled.nil) (fun b67 => ?_)
            refine OW.nil ?_
            refine OJ.appl (d := 86) (t := 84) (u := 84) (so := .tmp 83) (xo := .tmp 85) (j := 0) (b := b67) (l := (c_weirref15_Entry.arr 1).enc (⟨[j55], rfl⟩ : Vec weirref15_Entry 1)) (n := 1) (k := 1) [j55] (owed := []) Ty145 (by rfl) (Cod.arr_enc _ _ _) (by rfl) (fun r68 => ?_)
            refine OW.nil ?_
            refine OJ.go 1 [(5, Sl.v r68)] ?_
            refine OJ.nil ?_
            refine SJ.inBlock ?_
            refine SJ.rg 3 ?_
            refine OJ.go 3 [(8, .int .i64 (IntKind.wrap .i64 (s6 + 1))), (17, .int .i64 (IntKind.wrap .i64 (s6 + 1))), (16, .int .i64 s6)] ?_
            refine OJ.nil ?_
            refine SJ.forget (List.Sublist.cons _ (List.Sublist.cons _ (List.Sublist.cons_cons _ (List.Sublist.cons_cons _ List.Sublist.slnil)))) ?_
            exact SJ.at_ [1, 2, 5, 6, 7, 8] rfl
noncomputable def weirref15_Tick.L1 (a0 : weirref15_Cache) (s3 : Sl) (s4 : Sl) (s5 : Sl) (s6 : Int) : M (LS (Sl × Sl × Sl × Int) (weirref15_Cache × Sl × Sl)) :=
  if s6 < (a0.L.len : Int) then
    draws 64 7 (opsOf (c1 (c1 (c1 (c2 (c1 (c1 (c2 (c1 (c2 (c2 (c2 (c2 weirref15_Tick.B))))))))))))) >>= fun o44 =>
    if bfr o44 6 7 = true then
      idx a0.L.a a0.L.len s6 29 >>= fun p72 =>
      ld c_weirref15_Entry p72 >>= fun x73 =>
      weirref15_older a0 x73 >>= fun r74 =>
      slot 145 >>= fun b75 =>
      same c_weirref15_Entry p72 x73 >>= fun _ =>
      weirref15_Tick.K1 a0 s3 s4 s5 s6 b75 r74
    else
      idx a0.L.a a0.L.len s6 29 >>= fun p76 =>
      ld c_weirref15_Entry p76 >>= fun x77 =>
      slot 145 >>= fun b78 =>
      same c_weirref15_Entry p76 x77 >>= fun _ =>
      weirref15_older a0 x77 >>= fun r79 =>
      weirref15_Tick.K1 a0 s3 s4 s5 s6 b78 r79
  else
    pure (LS.done ((⟨a0.C, s3⟩ : weirref15_Cache), s4, s5))
theorem weirref15_Tick.L1_ok (a0 : weirref15_Cache) (b1 : Nat) (b2 : Nat) (s3 : Sl) (s4 : Sl) (s5 : Sl) (s6 : Int) :
    SJ weirref15_Tick.cx [.code (c1 (c1 (c2 (c1 (c2 (c2 (c2 (c2 weirref15_Tick.B)))))))), .inLoop (c1 (c1 (c2 (c1 (c2 (c2 (c2 (c2 weirref15_Tick.B)))))))), .inBlock 0, .code (c2 (c2 (c2 (c2 (c2 weirref15_Tick.B)))))] [(1, .pointer (some (pt b1 0))), (2, .pointer (some (pt b2 0))), (5, Sl.v s3), (6, Sl.v s4), (7, Sl.v s5), (8, .int .i64 s6)] [(b2, c_weirref15_Cache.enc z_weirref15_Cache), (b1, c_weirref15_Cache.enc a0)] (weirref15_Tick.L1 a0 s3 s4 s5 s6) (weirref15_Tick.F1 a0 b1 b2) := by
  unfold weirref15_Tick.L1
  refine SJ.seq ?_
  refine SJ.sr 5 ?_
  refine OJ.go 2 [(12, .pointer (some (pt b1 5))), (11, .int .i64 s6)] ?_
  refine OJ.kld (d := 13) (y := .tmp 12) (cd := cL) (j := 1) (b := b1) (o := 5) a0.L (pend2 := []) Ty84 rfl (At_weirref15_Cache_L a0) rfl ?_
  refine OJ.go 2 [(15, .bool (decide (s6 < (a0.L.len : Int)))), (14, .int .i64 (a0.L.len : Int))] ?_
  refine OJ.nil ?_
  refine SJ.cond (t := (.tmp 15)) (b := decide (s6 < (a0.L.len : Int))) decide_eq_true_iff (fun hc80 => ?_) (fun hc80 => ?_)
  · refine SJ.skip ?_
    refine SJ.seq ?_
    refine SJ.block (id := 1) ?_
    refine SJ.seq ?_
    refine SJ.draws (id := 7) (kd := [1, 0, 1, 0, 0, 1, 2, 2, 2]) (bef := [0, 0, 2, 0, 14, 30, 63, 0, 255]) (ord := [0, 1, 2, 3, 4, 5, 6, 7, 8]) (E := [(6, 7)]) mixed (fun o44 hg_ => ?_)
    refine SJ.bfr hg_ (by decide) (fun ho71 => ?_) (fun ho71 => ?_)
    · refine SJ.leaf hg_ (kd := [1, 0, 1, 0, 0, 1, 2, 2, 2]) (bef := [0, 0, 2, 0, 14, 30, 63, 0, 255]) (ord := [0, 1, 2, 3, 4, 5, 6, 7, 8]) (E := [(6, 7)]) (allB.cons ho71 allB.nil) ?_
      refine OJ.kld (d := 18) (y := .tmp 1) (cd := c_weirref15_Cache) (j := 1) (b := b1) (o := 0) a0 (pend2 := [⟨0, 86, (pt b1 0), c_weirref15_Cache.val a0⟩]) Ty86 rfl (At.whole _) rfl ?_
      refine OJ.go 1 [(19, .pointer (some (pt b1 5)))] ?_
      refine OJ.kld (d := 20) (y := .tmp 19) (cd := cL) (j := 1) (b := b1) (o := 5) a0.L (pend2 := [⟨2, 84, (pt b1 5), cL.val a0.L⟩, ⟨0, 86, (pt b1 0), c_weirref15_Cache.val a0⟩]) Ty84 rfl (At_weirref15_Cache_L a0) rfl ?_
      refine OJ.go 1 [(21, .int .i64 s6)] ?_
      refine OJ.idxS (d := 22) (T := 84) (y := .tmp 20) (j := .tmp 21) (E := 145) (cap := a0.L.cap) (k := .i64) (fun p72 => ?_)
      refine OJ.ld (d := 23) (y := .tmp 22) (pend2 := fun x73 => [⟨5, 145, p72, c_weirref15_Entry.val x73⟩, ⟨2, 84, (pt b1 5), cL.val a0.L⟩, ⟨0, 86, (pt b1 0), c_weirref15_Cache.val a0⟩]) Ty145 (fun _ => rfl) (fun x73 => ?_)
      refine OJ.call (d := 24) (g := 77) (ats := #[86, 145]) (args := [.tmp 18, .tmp 23]) (owed := []) F77 (weirref15_older_ok a0 x73) (fun r74 => ?_)
      refine OW.nil ?_
      refine OJ.slotOf (d := 9) (op := (.alloc 145)) (cd := c_weirref15_Entry) (u := z_weirref15_Entry) (owed := [⟨5, 145, p72, c_weirref15_Entry.val x73⟩, ⟨2, 84, (pt b1 5), cL.val a0.L⟩, ⟨0, 86, (pt b1 0), c_weirref15_Cache.val a0⟩]) (alloc_run Ty145) (fun b75 => ?_)
      refine OW.same Ty145 ?_
      refine OW.known (j := 2) (q := a0.L) Ty84 rfl (At_weirref15_Cache_L a0) ?_
      refine OW.known (j := 2) (q := a0) Ty86 rfl (At.whole _) ?_
      refine OW.nil ?_
      refine OJ.kst (y := .tmp 9) (z := .tmp 24) (cd := c_weirref15_Entry) (u := r74) (j := 0) (b := b75) (o := 0) (c_weirref15_Entry.enc r74) (owed := []) Ty145 rfl (Upd.whole ((Cod.len _ _).trans (Cod.len _ _).symm)) rfl ?_
      refine OW.nil ?_
      refine OJ.nil ?_
      refine SJ.less [1, 2, 5, 6, 7, 8, 9] (m' := [(1, .pointer (some (pt b1 0))), (2, .pointer (some (pt b2 0))), (5, Sl.v s3), (6, Sl.v s4), (7, Sl.v s5), (8, .int .i64 s6), (9, .pointer (some (pt b75 0)))]) ?_
      exact weirref15_Tick.K1_ok a0 b1 b2 s3 s4 s5 s6 b75 r74
    · refine SJ.leaf hg_ (kd := [1, 0, 1, 0, 0, 1, 2, 2, 2]) (bef := [0, 0, 2, 0, 14, 30, 63, 0, 255]) (ord := [0, 1, 2, 3, 4, 5, 7, 6, 8]) (E := [(7, 6)]) (allB.cons ho71 allB.nil) ?_
      refine OJ.kld (d := 18) (y := .tmp 1) (cd := c_weirref15_Cache) (j := 1) (b := b1) (o := 0) a0 (pend2 := [⟨0, 86, (pt b1 0), c_weirref15_Cache.val a0⟩]) Ty86 rfl (At.whole _) rfl ?_
      refine OJ.go 1 [(19, .pointer (some (pt b1 5)))] ?_
      refine OJ.kld (d := 20) (y := .tmp 19) (cd := cL) (j := 1) (b := b1) (o := 5) a0.L (pend2 := [⟨2, 84, (pt b1 5), cL.val a0.L⟩, ⟨0, 86, (pt b1 0), c_weirref15_Cache.val a0⟩]) Ty84 rfl (At_weirref15_Cache_L a0) rfl ?_
      refine OJ.go 1 [(21, .int .i64 s6)] ?_
      refine OJ.idxS (d := 22) (T := 84) (y := .tmp 20) (j := .tmp 21) (E := 145) (cap := a0.L.cap) (k := .i64) (fun p76 => ?_)
      refine OJ.ld (d := 23) (y := .tmp 22) (pend2 := fun x77 => [⟨5, 145, p76, c_weirref15_Entry.val x77⟩, ⟨2, 84, (pt b1 5), cL.val a0.L⟩, ⟨0, 86, (pt b1 0), c_weirref15_Cache.val a0⟩]) Ty145 (fun _ => rfl) (fun x77 => ?_)
      refine OJ.slotOf (d := 9) (op := (.alloc 145)) (cd := c_weirref15_Entry) (u := z_weirref15_Entry) (owed := [⟨5, 145, p76, c_weirref15_Entry.val x77⟩, ⟨2, 84, (pt b1 5), cL.val a0.L⟩, ⟨0, 86, (pt b1 0), c_weirref15_Cache.val a0⟩]) (alloc_run Ty145) (fun b78 => ?_)
      refine OW.same Ty145 ?_
      refine OW.known (j := 2) (q := a0.L) Ty84 rfl (At_weirref15_Cache_L a0) ?_
      refine OW.known (j := 2) (q := a0) Ty86 rfl (At.whole _) ?_
      refine OW.nil ?_
      refine OJ.call (d := 24) (g := 77) (ats := #[86, 145]) (args := [.tmp 18, .tmp 23]) (owed := []) F77 (weirref15_older_ok a0 x77) (fun r79 => ?_)
      refine OW.nil ?_
      refine OJ.kst (y := .tmp 9) (z := .tmp 24) (cd := c_weirref15_Entry) (u := r79) (j := 0) (b := b78) (o := 0) (c_weirref15_Entry.enc r79) (owed := []) Ty145 rfl (Upd.whole ((Cod.len _ _).trans (Cod.len _ _).symm)) rfl ?_
      refine OW.nil ?_
      refine OJ.nil ?_
      refine SJ.less [1, 2, 5, 6, 7, 8, 9] (m' := [(1, .pointer (some (pt b1 0))), (2, .pointer (some (pt b2 0))), (5, Sl.v s3), (6, Sl.v s4), (7, Sl.v s5), (8, .int .i64 s6), (9, .pointer (some (pt b78 0)))]) ?_
      exact weirref15_Tick.K1_ok a0 b1 b2 s3 s4 s5 s6 b78 r79
  · refine SJ.exit (id := 0) (by rfl) ?_
    refine SJ.sr 3 ?_
    refine OJ.go 2 [(88, .pointer (some (pt b1 5))), (87, Sl.v s3)] ?_
    refine OJ.kst (y := .tmp 88) (z := .tmp 87) (cd := cL) (u := s3) (j := 1) (b := b1) (o := 5) (c_weirref15_Cache.enc (⟨a0.C, s3⟩ : weirref15_Cache)) (owed := []) Ty84 rfl (Up_weirref15_Cache_L a0 s3) rfl ?_
    refine OW.nil ?_
    refine OJ.nil ?_
    refine SJ.sr 6 ?_
    refine OJ.kld (d := 89) (y := .tmp 1) (cd := c_weirref15_Cache) (j := 1) (b := b1) (o := 0) (⟨a0.C, s3⟩ : weirref15_Cache) (pend2 := []) Ty86 rfl (At.whole _) rfl ?_
    refine OJ.go 2 [(91, Sl.v s5), (90, Sl.v s4)] ?_
    refine OJ.kst (y := .tmp 2) (z := .tmp 89) (cd := c_weirref15_Cache) (u := (⟨a0.C, s3⟩ : weirref15_Cache)) (j := 0) (b := b2) (o := 0) (c_weirref15_Cache.enc (⟨a0.C, s3⟩ : weirref15_Cache)) (owed := []) Ty86 rfl (Upd.whole ((Cod.len _ _).trans (Cod.len _ _).symm)) rfl ?_
    refine OW.nil ?_
    refine OJ.go 2 [(4, Sl.v s5), (3, Sl.v s4)] ?_
    refine OJ.nil ?_
    exact SJ.ret rfl (Res.run (ys := [c_weirref15_Cache.val (⟨a0.C, s3⟩ : weirref15_Cache), Sl.v s4, Sl.v s5]) (.cell (j := 0) (b := b2) (cd := c_weirref15_Cache) (q := (⟨a0.C, s3⟩ : weirref15_Cache)) (by kernel_rfl) rfl Ty86 (At.whole _) (.tmp (by kernel_rfl) (.tmp (by kernel_rfl) .nil))) rfl)
noncomputable def weirref15_Tick (a0 : weirref15_Cache) : M (weirref15_Cache × Sl × Sl) :=
  slot 86 >>= fun b1 =>
  slot 86 >>= fun b2 =>
  loopM (fun s_ : (Sl × Sl × Sl × Int) => weirref15_Tick.L1 a0 s_.1 s_.2.1 s_.2.2.1 s_.2.2.2) (Sl.nil, Sl.nil, Sl.nil, 0)
theorem weirref15_Tick_ok (a0 : weirref15_Cache) : Ref Try.prog 64 [c_weirref15_Cache.val a0] (weirref15_Tick a0) weirref15_Tick.out := by
  refine Ref.of (cd := weirref15_Tick.B) Try.func64 ?_
  show SJ weirref15_Tick.cx [.code weirref15_Tick.B] [(0, c_weirref15_Cache.val a0)] [] (weirref15_Tick a0) weirref15_Tick.F0
  unfold weirref15_Tick
  refine SJ.sr 4 ?_
  refine OJ.slotOf (d := 1) (op := (.box 86 (.tmp 0))) (cd := c_weirref15_Cache) (u := a0) (owed := []) (box_run (by kernel_rfl)) (fun b1 => ?_)
  refine OW.nil ?_
  refine OJ.slotOf (d := 2) (op := (.alloc 86)) (cd := c_weirref15_Cache) (u := z_weirref15_Cache) (owed := []) (alloc_run Ty86) (fun b2 => ?_)
  refine OW.nil ?_
  refine OJ.go 2 [(4, Sl.v Sl.nil), (3, Sl.v Sl.nil)] ?_
  refine OJ.nil ?_
  refine SJ.sr 1 ?_
  refine OJ.go 1 [(5, Sl.v Sl.nil)] ?_
  refine OJ.nil ?_
  refine SJ.sr 1 ?_
  refine OJ.go 1 [(6, Sl.v Sl.nil)] ?_
  refine OJ.nil ?_
  refine SJ.sr 1 ?_
  refine OJ.go 1 [(7, Sl.v Sl.nil)] ?_
  refine OJ.nil ?_
  refine SJ.seq ?_
  refine SJ.sr 1 ?_
  refine OJ.go 1 [(8, .int .i64 0)] ?_
  refine OJ.nil ?_
  refine SJ.block (id := 0) ?_
  exact SJ.loop (fun s_ : (Sl × Sl × Sl × Int) => [(1, .pointer (some (pt b1 0))), (2, .pointer (some (pt b2 0))), (5, Sl.v s_.1), (6, Sl.v s_.2.1), (7, Sl.v s_.2.2.1), (8, .int .i64 s_.2.2.2)]) (fun s_ : (Sl × Sl × Sl × Int) => [(b2, c_weirref15_Cache.enc z_weirref15_Cache), (b1, c_weirref15_Cache.enc a0)]) [1, 2, 5, 6, 7, 8] rfl (fun _ _ => rfl) (fun s_ => weirref15_Tick.L1_ok a0 b1 b2 s_.1 s_.2.1 s_.2.2.1 s_.2.2.2)

/-! ### weir/weirlaw15.sameAsks: function 25 -/
noncomputable def weirlaw15_sameAsks.B : Code := (Try.f25.body).getD .skip
noncomputable def weirlaw15_sameAsks.cx : Fx := ⟨Try.prog, 25, Try.f25⟩
noncomputable def weirlaw15_sameAsks.out (r_ : Bool) : Value := .bool r_
noncomputable def weirlaw15_sameAsks.F0 (r_ : Bool) : Reach := .ret (weirlaw15_sameAsks.out r_)
noncomputable def weirlaw15_sameAsks.F1 (a0 : Sl) (a1 : Sl) : (LS Int Bool) → Reach := loopF [.inLoop (c1 (c1 (c2 (c1 (c2 (c2 weirlaw15_sameAsks.B)))))), .inBlock 0, .code (c2 (c2 (c2 weirlaw15_sameAsks.B)))] (fun s_ : Int => [(0, Sl.v a0), (1, Sl.v a1), (5, .int .i64 s_)]) (fun s_ : Int => []) weirlaw15_sameAsks.F0
noncomputable def weirlaw15_sameAsks.L1 (a0 : Sl) (a1 : Sl) (s1 : Int) : M (LS Int Bool) :=
  if s1 < (a0.len : Int) then
    draw >>= fun _ =>
    idx a0.a a0.len s1 25 >>= fun p8 =>
    ld c_api_Ask p8 >>= fun x9 =>
    idx a1.a a1.len s1 25 >>= fun p10 =>
    ld c_api_Ask p10 >>= fun x11 =>
    if ¬ (x9 = x11) then
      pure (LS.done false)
    else
      pure (LS.next (IntKind.wrap .i64 (s1 + 1)))
  else
    pure (LS.done true)
theorem weirlaw15_sameAsks.L1_ok (a0 : Sl) (a1 : Sl) (s1 : Int) :
    SJ weirlaw15_sameAsks.cx [.code (c1 (c1 (c2 (c1 (c2 (c2 weirlaw15_sameAsks.B)))))), .inLoop (c1 (c1 (c2 (c1 (c2 (c2 weirlaw15_sameAsks.B)))))), .inBlock 0, .code (c2 (c2 (c2 weirlaw15_sameAsks.B)))] [(0, Sl.v a0), (1, Sl.v a1), (5, .int .i64 s1)] [] (weirlaw15_sameAsks.L1 a0 a1 s1) (weirlaw15_sameAsks.F1 a0 a1) := by
  unfold weirlaw15_sameAsks.L1
  refine SJ.seq ?_
  refine SJ.sr 4 ?_
  refine OJ.go 4 [(14, .bool (decide (s1 < (a0.len : Int)))), (13, .int .i64 (a0.len : Int)), (12, Sl.v a0), (11, .int .i64 s1)] ?_
  refine OJ.nil ?_
  refine SJ.cond (t := (.tmp 14)) (b := decide (s1 < (a0.len : Int))) decide_eq_true_iff (fun hc13 => ?_) (fun hc13 => ?_)
  · refine SJ.skip ?_
    refine SJ.seq ?_
    refine SJ.block (id := 1) ?_
    refine SJ.seq ?_
    refine SJ.draw (id := 6) (kd := [0, 0, 0, 1, 0, 0, 0, 1, 0]) (bef := [0, 0, 3, 7, 0, 0, 48, 112, 255]) (ord := [0, 1, 2, 3, 4, 5, 6, 7, 8]) mixed ?_
    refine OJ.go 2 [(18, .int .i64 s1), (17, Sl.v a0)] ?_
    refine OJ.idxS (d := 19) (T := 50) (y := .tmp 17) (j := .tmp 18) (E := 111) (cap := a0.cap) (k := .i64) (fun p8 => ?_)
    refine OJ.ld (d := 20) (y := .tmp 19) (pend2 := fun x9 => [⟨3, 111, p8, c_api_Ask.val x9⟩]) Ty111 (fun _ => rfl) (fun x9 => ?_)
    refine OJ.go 2 [(22, .int .i64 s1), (21, Sl.v a1)] ?_
    refine OJ.idxS (d := 23) (T := 50) (y := .tmp 21) (j := .tmp 22) (E := 111) (cap := a1.cap) (k := .i64) (fun p10 => ?_)
    refine OJ.ld (d := 24) (y := .tmp 23) (pend2 := fun x11 => [⟨7, 111, p10, c_api_Ask.val x11⟩, ⟨3, 111, p8, c_api_Ask.val x9⟩]) Ty111 (fun _ => rfl) (fun x11 => ?_)
    refine OJ.neq (d := 25) (T := 111) (yT := 111) (y := .tmp 20) (z := .tmp 24) (cd := c_api_Ask) (p := x9) (q := x11) rfl Eq111 ?_
    refine OJ.nil ?_
    refine SJ.cond (t := (.tmp 25)) (b := (!eqv x9 x11)) (bnot_iff eqv_iff) (fun hc12 => ?_) (fun hc12 => ?_)
    · refine SJ.sr 1 ?_
      refine OJ.go 1 [(4, .bool false)] ?_
      refine OJ.nil ?_
      exact SJ.ret rfl (Res.run (ys := [.bool false]) (.tmp (by kernel_rfl) .nil) rfl)
    · refine SJ.skip ?_
      refine SJ.inBlock ?_
      refine SJ.rg 3 ?_
      refine OJ.go 3 [(5, .int .i64 (IntKind.wrap .i64 (s1 + 1))), (16, .int .i64 (IntKind.wrap .i64 (s1 + 1))), (15, .int .i64 s1)] ?_
      refine OJ.nil ?_
      exact SJ.at_ [0, 1, 5] rfl
  · refine SJ.exit (id := 0) (by rfl) ?_
    refine SJ.sr 1 ?_
    refine OJ.go 1 [(4, .bool true)] ?_
    refine OJ.nil ?_
    exact SJ.ret rfl (Res.run (ys := [.bool true]) (.tmp (by kernel_rfl) .nil) rfl)
noncomputable def weirlaw15_sameAsks (a0 : Sl) (a1 : Sl) : M Bool :=
  if (a0.len : Int) ≠ (a1.len : Int) then
    pure false
  else
    loopM (fun s_ : Int => weirlaw15_sameAsks.L1 a0 a1 s_) 0
theorem weirlaw15_sameAsks_ok (a0 : Sl) (a1 : Sl) : Ref Try.prog 25 [Sl.v a0, Sl.v a1] (weirlaw15_sameAsks a0 a1) weirlaw15_sameAsks.out := by
  refine Ref.of (cd := weirlaw15_sameAsks.B) Try.func25 ?_
  show SJ weirlaw15_sameAsks.cx [.code weirlaw15_sameAsks.B] [(0, Sl.v a0), (1, Sl.v a1)] [] (weirlaw15_sameAsks a0 a1) weirlaw15_sameAsks.F0
  unfold weirlaw15_sameAsks
  refine SJ.sr 1 ?_
  refine OJ.go 1 [(4, .bool false)] ?_
  refine OJ.nil ?_
  refine SJ.seq ?_
  refine SJ.sr 5 ?_
  refine OJ.go 5 [(10, .bool ((a0.len : Int) != (a1.len : Int))), (9, .int .i64 (a1.len : Int)), (8, Sl.v a1), (7, .int .i64 (a0.len : Int)), (6, Sl.v a0)] ?_
  refine OJ.nil ?_
  refine SJ.cond (t := (.tmp 10)) (b := ((a0.len : Int) != (a1.len : Int))) bne_iff_ne (fun hc14 => ?_) (fun hc14 => ?_)
  · refine SJ.sr 1 ?_
    refine OJ.go 1 [(4, .bool false)] ?_
    refine OJ.nil ?_
    exact SJ.ret rfl (Res.run (ys := [.bool false]) (.tmp (by kernel_rfl) .nil) rfl)
  · refine SJ.skip ?_
    refine SJ.seq ?_
    refine SJ.sr 1 ?_
    refine OJ.go 1 [(5, .int .i64 0)] ?_
    refine OJ.nil ?_
    refine SJ.block (id := 0) ?_
    exact SJ.loop (fun s_ : Int => [(0, Sl.v a0), (1, Sl.v a1), (5, .int .i64 s_)]) (fun s_ : Int => []) [0, 1, 5] rfl (fun _ _ => rfl) (fun s_ => weirlaw15_sameAsks.L1_ok a0 a1 s_)

/-! ### (*weir/neigh.entry).told: function 51 -/
noncomputable def neigh_entry_told.B : Code := (Try.f51.body).getD .skip
noncomputable def neigh_entry_told.cx : Fx := ⟨Try.prog, 51, Try.f51⟩
noncomputable def neigh_entry_told.out (r_ : api_Neighbour) : Value := c_api_Neighbour.val r_
noncomputable def neigh_entry_told.F0 (r_ : api_Neighbour) : Reach := .ret (neigh_entry_told.out r_)
noncomputable def neigh_entry_told (a0 : (Option Addr)) : M api_Neighbour :=
  slot 77 >>= fun b1 =>
  draw >>= fun _ =>
  nilck a0 >>= fun p2 =>
  ld (cI .i64) p2 >>= fun x3 =>
  nilck a0 >>= fun p4 =>
  ld c_api_IP (Addr.add p4 1) >>= fun x5 =>
  nilck a0 >>= fun p6 =>
  ld ((cI .u8).arr 6) (Addr.add p6 18) >>= fun x7 =>
  nilck a0 >>= fun p8 =>
  ld (cI .i64) (Addr.add p8 24) >>= fun x9 =>
  nilck a0 >>= fun p10 =>
  ld (cI .i64) (Addr.add p10 25) >>= fun x11 =>
  nilck a0 >>= fun p12 =>
  ld (cI .i64) (Addr.add p12 26) >>= fun x13 =>
  nilck a0 >>= fun p14 =>
  ld cL (Addr.add p14 27) >>= fun x15 =>
  pure (⟨x3, x5, x7, x9, x11, x13, (x15.len : Int)⟩ : api_Neighbour)
theorem neigh_entry_told_ok (a0 : (Option Addr)) : Ref Try.prog 51 [.pointer a0] (neigh_entry_told a0) neigh_entry_told.out := by
  refine Ref.of (cd := neigh_entry_told.B) Try.func51 ?_
  show SJ neigh_entry_told.cx [.code neigh_entry_told.B] [(0, .pointer a0)] [] (neigh_entry_told a0) neigh_entry_told.F0
  unfold neigh_entry_told
  refine SJ.sr 1 ?_
  refine OJ.slotOf (d := 2) (op := (.alloc 77)) (cd := c_api_Neighbour) (u := z_api_Neighbour) (owed := []) (alloc_run Ty77) (fun b1 => ?_)
  refine OW.nil ?_
  refine OJ.nil ?_
  refine SJ.seq ?_
  refine SJ.draw (id := 1) (kd := [0, 0, 0, 0, 1, 0, 0, 0, 0, 1, 0, 0, 0, 1, 0, 0, 0, 1, 0, 0, 0, 1, 0, 0, 0, 1, 0, 0, 0, 1, 0, 0, 2]) (bef := [0, 1, 3, 7, 15, 0, 32, 96, 224, 480, 0, 1024, 3072, 7168, 0, 16384, 49152, 114688, 0, 262144, 786432, 1835008, 0, 4194304, 12582912, 29360128, 0, 67108864, 201326592, 469762048, 1006632960, 2147483647, 4294967295]) (ord := [0, 1, 2, 3, 4, 5, 6, 7, 8, 9, 10, 11, 12, 13, 14, 15, 16, 17, 18, 19, 20, 21, 22, 23, 24, 25, 26, 27, 28, 29, 30, 31, 32]) mixed ?_
  refine OJ.go 1 [(3, .pointer a0)] ?_
  refine OJ.nilck (d := 4) (y := .tmp 3) (fun p2 => ?_)
  refine OJ.go 2 [(6, .pointer (some p2)), (5, .pointer (some p2))] ?_
  refine OJ.ld (d := 7) (y := .tmp 6) (pend2 := fun x3 => [⟨4, 3, p2, (cI .i64).val x3⟩]) Ty3 (fun _ => rfl) (fun x3 => ?_)
  refine OJ.go 1 [(8, .pointer a0)] ?_
  refine OJ.nilck (d := 9) (y := .tmp 8) (fun p4 => ?_)
  refine OJ.go 2 [(11, .pointer (some (Addr.add p4 1))), (10, .pointer (some p4))] ?_
  refine OJ.ld (d := 12) (y := .tmp 11) (pend2 := fun x5 => [⟨9, 32, (Addr.add p4 1), c_api_IP.val x5⟩, ⟨4, 3, p2, (cI .i64).val x3⟩]) Ty32 (fun _ => rfl) (fun x5 => ?_)
  refine OJ.go 1 [(13, .pointer a0)] ?_
  refine OJ.nilck (d := 14) (y := .tmp 13) (fun p6 => ?_)
  refine OJ.go 1 [(15, .pointer (some (Addr.add p6 18)))] ?_
  refine OJ.ld (d := 16) (y := .tmp 15) (pend2 := fun x7 => [⟨13, 34, (Addr.add p6 18), ((cI .u8).arr 6).val x7⟩, ⟨9, 32, (Addr.add p4 1), c_api_IP.val x5⟩, ⟨4, 3, p2, (cI .i64).val x3⟩]) Ty34 (fun _ => rfl) (fun x7 => ?_)
  refine OJ.go 1 [(17, .pointer a0)] ?_
  refine OJ.nilck (d := 18) (y := .tmp 17) (fun p8 => ?_)
  refine OJ.go 1 [(19, .pointer (some (Addr.add p8 24)))] ?_
  refine OJ.ld (d := 20) (y := .tmp 19) (pend2 := fun x9 => [⟨17, 3, (Addr.add p8 24), (cI .i64).val x9⟩, ⟨13, 34, (Addr.add p6 18), ((cI .u8).arr 6).val x7⟩, ⟨9, 32, (Addr.add p4 1), c_api_IP.val x5⟩, ⟨4, 3, p2, (cI .i64).val x3⟩]) Ty3 (fun _ => rfl) (fun x9 => ?_)
  refine OJ.go 1 [(21, .pointer a0)] ?_
  refine OJ.nilck (d := 22) (y := .tmp 21) (fun p10 => ?_)
  refine OJ.go 1 [(23, .pointer (some (Addr.add p10 25)))] ?_
  refine OJ.ld (d := 24) (y := .tmp 23) (pend2 := fun x11 => [⟨21, 3, (Addr.add p10 25), (cI .i64).val x11⟩, ⟨17, 3, (Addr.add p8 24), (cI .i64).val x9⟩, ⟨13, 34, (Addr.add p6 18), ((cI .u8).arr 6).val x7⟩, ⟨9, 32, (Addr.add p4 1), c_api_IP.val x5⟩, ⟨4, 3, p2, (cI .i64).val x3⟩]) Ty3 (fun _ => rfl) (fun x11 => ?_)
  refine OJ.go 1 [(25, .pointer a0)] ?_
  refine OJ.nilck (d := 26) (y := .tmp 25) (fun p12 => ?_)
  refine OJ.go 1 [(27, .pointer (some (Addr.add p12 26)))] ?_
  refine OJ.ld (d := 28) (y := .tmp 27) (pend2 := fun x13 => [⟨25, 3, (Addr.add p12 26), (cI .i64).val x13⟩, ⟨21, 3, (Addr.add p10 25), (cI .i64).val x11⟩, ⟨17, 3, (Addr.add p8 24), (cI .i64).val x9⟩, ⟨13, 34, (Addr.add p6 18), ((cI .u8).arr 6).val x7⟩, ⟨9, 32, (Addr.add p4 1), c_api_IP.val x5⟩, ⟨4, 3, p2, (cI .i64).val x3⟩]) Ty3 (fun _ => rfl) (fun x13 => ?_)
  refine OJ.go 1 [(29, .pointer a0)] ?_
  refine OJ.nilck (d := 30) (y := .tmp 29) (fun p14 => ?_)
  refine OJ.go 1 [(31, .pointer (some (Addr.add p14 27)))] ?_
  refine OJ.ld (d := 32) (y := .tmp 31) (pend2 := fun x15 => [⟨29, 43, (Addr.add p14 27), cL.val x15⟩, ⟨25, 3, (Addr.add p12 26), (cI .i64).val x13⟩, ⟨21, 3, (Addr.add p10 25), (cI .i64).val x11⟩, ⟨17, 3, (Addr.add p8 24), (cI .i64).val x9⟩, ⟨13, 34, (Addr.add p6 18), ((cI .u8).arr 6).val x7⟩, ⟨9, 32, (Addr.add p4 1), c_api_IP.val x5⟩, ⟨4, 3, p2, (cI .i64).val x3⟩]) Ty43 (fun _ => rfl) (fun x15 => ?_)
  refine OJ.go 1 [(33, .int .i64 (x15.len : Int))] ?_
  refine OJ.build (d := 34) (T := 77) (parts := [(0, .tmp 7), (1, .tmp 12), (2, .tmp 16), (3, .tmp 20), (4, .tmp 24), (5, .tmp 28), (6, .tmp 33)]) (ps := [(0, (cI .i64).val x3), (1, c_api_IP.val x5), (2, ((cI .u8).arr 6).val x7), (3, (cI .i64).val x9), (4, (cI .i64).val x11), (5, (cI .i64).val x13), (6, (cI .i64).val (x15.len : Int))]) (cd := c_api_Neighbour) (z0 := z_api_Neighbour) (⟨x3, x5, x7, x9, x11, x13, (x15.len : Int)⟩ : api_Neighbour) Ty77 rfl (Filled.cons (cd := (cI .i64)) (q := x3) (o := 0) (by kernel_rfl) (Up_api_Neighbour_Port z_api_Neighbour x3) (Filled.cons (cd := c_api_IP) (q := x5) (o := 1) (by kernel_rfl) (Up_api_Neighbour_IP (⟨x3, z_api_Neighbour.IP, z_api_Neighbour.Mac, z_api_Neighbour.State, z_api_Neighbour.Age, z_api_Neighbour.Tries, z_api_Neighbour.Waiting⟩ : api_Neighbour) x5) (Filled.cons (cd := ((cI .u8).arr 6)) (q := x7) (o := 18) (by kernel_rfl) (Up_api_Neighbour_Mac (⟨x3, x5, z_api_Neighbour.Mac, z_api_Neighbour.State, z_api_Neighbour.Age, z_api_Neighbour.Tries, z_api_Neighbour.Waiting⟩ : api_Neighbour) x7) (Filled.cons (cd := (cI .i64)) (q := x9) (o := 24) (by kernel_rfl) (Up_api_Neighbour_State (⟨x3, x5, x7, z_api_Neighbour.State, z_api_Neighbour.Age, z_api_Neighbour.Tries, z_api_Neighbour.Waiting⟩ : api_Neighbour) x9) (Filled.cons (cd := (cI .i64)) (q := x11) (o := 25) (by kernel_rfl) (Up_api_Neighbour_Age (⟨x3, x5, x7, x9, z_api_Neighbour.Age, z_api_Neighbour.Tries, z_api_Neighbour.Waiting⟩ : api_Neighbour) x11) (Filled.cons (cd := (cI .i64)) (q := x13) (o := 26) (by kernel_rfl) (Up_api_Neighbour_Tries (⟨x3, x5, x7, x9, x11, z_api_Neighbour.Tries, z_api_Neighbour.Waiting⟩ : api_Neighbour) x13) (Filled.cons (cd := (cI .i64)) (q := (x15.len : Int)) (o := 27) (by kernel_rfl) (Up_api_Neighbour_Waiting (⟨x3, x5, x7, x9, x11, x13, z_api_Neighbour.Waiting⟩ : api_Neighbour) (x15.len : Int)) Filled.nil))))))) ?_
  refine OJ.kst (y := .tmp 2) (z := .tmp 34) (cd := c_api_Neighbour) (u := (⟨x3, x5, x7, x9, x11, x13, (x15.len : Int)⟩ : api_Neighbour)) (j := 0) (b := b1) (o := 0) (c_api_Neighbour.enc (⟨x3, x5, x7, x9, x11, x13, (x15.len : Int)⟩ : api_Neighbour)) (owed := []) Ty77 rfl (Upd.whole ((Cod.len _ _).trans (Cod.len _ _).symm)) rfl ?_
  refine OW.nil ?_
  refine OJ.nil ?_
  exact SJ.ret rfl (Res.run (ys := [c_api_Neighbour.val (⟨x3, x5, x7, x9, x11, x13, (x15.len : Int)⟩ : api_Neighbour)]) (.cell (j := 0) (b := b1) (cd := c_api_Neighbour) (q := (⟨x3, x5, x7, x9, x11, x13, (x15.len : Int)⟩ : api_Neighbour)) (by kernel_rfl) rfl Ty77 (At.whole _) .nil) rfl)

/-! ### (*weir/neigh.Cache).Get: function 43 -/
noncomputable def neigh_Cache_Get.B : Code := (Try.f43.body).getD .skip
noncomputable def neigh_Cache_Get.cx : Fx := ⟨Try.prog, 43, Try.f43⟩
noncomputable def neigh_Cache_Get.out (r_ : (api_Neighbour × Bool)) : Value := .tuple #[c_api_Neighbour.val r_.1, .bool r_.2]
noncomputable def neigh_Cache_Get.F0 (r_ : (api_Neighbour × Bool)) : Reach := .ret (neigh_Cache_Get.out r_)
noncomputable def neigh_Cache_Get (a0 : (Option Addr)) (a1 : Int) (a2 : api_IP) : M (api_Neighbour × Bool) :=
  slot 32 >>= fun b1 =>
  slot 77 >>= fun b2 =>
  draw >>= fun _ =>
  nilck a0 >>= fun p3 =>
  ld cM (Addr.add p3 5) >>= fun x4 =>
  mget c_neigh_key cP none x4 (⟨a1, a2⟩ : neigh_key) >>= fun r5 =>
  if r5.1 = none then
    pure (z_api_Neighbour, false)
  else
    neigh_entry_told r5.1 >>= fun r6 =>
    pure (r6, true)
theorem neigh_Cache_Get_ok (a0 : (Option Addr)) (a1 : Int) (a2 : api_IP) : Ref Try.prog 43 [.pointer a0, .int .i64 a1, c_api_IP.val a2] (neigh_Cache_Get a0 a1 a2) neigh_Cache_Get.out := by
  refine Ref.of (cd := neigh_Cache_Get.B) Try.func43 ?_
  show SJ neigh_Cache_Get.cx [.code neigh_Cache_Get.B] [(0, .pointer a0), (1, .int .i64 a1), (2, c_api_IP.val a2)] [] (neigh_Cache_Get a0 a1 a2) neigh_Cache_Get.F0
  unfold neigh_Cache_Get
  refine SJ.sr 3 ?_
  refine OJ.slotOf (d := 5) (op := (.box 32 (.tmp 2))) (cd := c_api_IP) (u := a2) (owed := []) (box_run (by kernel_rfl)) (fun b1 => ?_)
  refine OW.nil ?_
  refine OJ.slotOf (d := 6) (op := (.alloc 77)) (cd := c_api_Neighbour) (u := z_api_Neighbour) (owed := []) (alloc_run Ty77) (fun b2 => ?_)
  refine OW.nil ?_
  refine OJ.go 1 [(7, .bool false)] ?_
  refine OJ.nil ?_
  refine SJ.seq ?_
  refine SJ.draw (id := 1) (kd := [0, 0, 0, 1, 0, 1, 0, 2, 0]) (bef := [0, 1, 3, 7, 0, 0, 48, 127, 255]) (ord := [0, 1, 2, 3, 4, 5, 6, 7, 8]) mixed ?_
  refine OJ.go 1 [(9, .pointer a0)] ?_
  refine OJ.nilck (d := 10) (y := .tmp 9) (fun p3 => ?_)
  refine OJ.go 1 [(11, .pointer (some (Addr.add p3 5)))] ?_
  refine OJ.ld (d := 12) (y := .tmp 11) (pend2 := fun x4 => [⟨3, 101, (Addr.add p3 5), cM.val x4⟩]) Ty101 (fun _ => rfl) (fun x4 => ?_)
  refine OJ.go 1 [(13, .int .i64 a1)] ?_
  refine OJ.kld (d := 14) (y := .tmp 5) (cd := c_api_IP) (j := 1) (b := b1) (o := 0) a2 (pend2 := [⟨5, 32, (pt b1 0), c_api_IP.val a2⟩, ⟨3, 101, (Addr.add p3 5), cM.val x4⟩]) Ty32 rfl (At.whole _) rfl ?_
  refine OJ.build (d := 15) (T := 99) (parts := [(0, .tmp 13), (1, .tmp 14)]) (ps := [(0, (cI .i64).val a1), (1, c_api_IP.val a2)]) (cd := c_neigh_key) (z0 := z_neigh_key) (⟨a1, a2⟩ : neigh_key) Ty99 rfl (Filled.cons (cd := (cI .i64)) (q := a1) (o := 0) (by kernel_rfl) (Up_neigh_key_port z_neigh_key a1) (Filled.cons (cd := c_api_IP) (q := a2) (o := 1) (by kernel_rfl) (Up_neigh_key_ip (⟨a1, z_neigh_key.ip⟩ : neigh_key) a2) Filled.nil)) ?_
  refine OJ.get0 (d := 16) (x := .tmp 12) (y := .tmp 15) (owed := []) Kt101 (fun r5 => ?_)
  refine OW.nil ?_
  refine OJ.go 1 [(8, .pointer r5.1)] ?_
  refine OJ.nil ?_
  refine SJ.seq ?_
  refine SJ.sr 2 ?_
  refine OJ.go 2 [(18, .bool (Option.isNone r5.1)), (17, .pointer r5.1)] ?_
  refine OJ.nil ?_
  refine SJ.cond (t := (.tmp 18)) (b := (Option.isNone r5.1)) Option.isNone_iff_eq_none (fun hc7 => ?_) (fun hc7 => ?_)
  · refine SJ.sr 3 ?_
    refine OJ.build (d := 19) (T := 77) (parts := []) (ps := []) (cd := c_api_Neighbour) (z0 := z_api_Neighbour) z_api_Neighbour Ty77 rfl Filled.nil ?_
    refine OJ.kst (y := .tmp 6) (z := .tmp 19) (cd := c_api_Neighbour) (u := z_api_Neighbour) (j := 0) (b := b2) (o := 0) (c_api_Neighbour.enc z_api_Neighbour) (owed := []) Ty77 rfl (Upd.whole ((Cod.len _ _).trans (Cod.len _ _).symm)) rfl ?_
    refine OW.nil ?_
    refine OJ.go 1 [(7, .bool false)] ?_
    refine OJ.nil ?_
    exact SJ.ret rfl (Res.run (ys := [c_api_Neighbour.val z_api_Neighbour, .bool false]) (.cell (j := 0) (b := b2) (cd := c_api_Neighbour) (q := z_api_Neighbour) (by kernel_rfl) rfl Ty77 (At.whole _) (.tmp (by kernel_rfl) .nil)) rfl)
  · refine SJ.skip ?_
    refine SJ.sr 4 ?_
    refine OJ.go 1 [(20, .pointer r5.1)] ?_
    refine OJ.call (d := 21) (g := 51) (ats := #[100]) (args := [.tmp 20]) (owed := []) F51 (neigh_entry_told_ok r5.1) (fun r6 => ?_)
    refine OW.nil ?_
    refine OJ.kst (y := .tmp 6) (z := .tmp 21) (cd := c_api_Neighbour) (u := r6) (j := 0) (b := b2) (o := 0) (c_api_Neighbour.enc r6) (owed := []) Ty77 rfl (Upd.whole ((Cod.len _ _).trans (Cod.len _ _).symm)) rfl ?_
    refine OW.nil ?_
    refine OJ.go 1 [(7, .bool true)] ?_
    refine OJ.nil ?_
    exact SJ.ret rfl (Res.run (ys := [c_api_Neighbour.val r6, .bool true]) (.cell (j := 0) (b := b2) (cd := c_api_Neighbour) (q := r6) (by kernel_rfl) rfl Ty77 (At.whole _) (.tmp (by kernel_rfl) .nil)) rfl)
end Go.Proofs.Ytlkhijflgbobjaa.Lx
