/- Programs of the M-world for Go functions, each with the proof that the Go text does what it says. Printed by lxgen.py. -/
import Derived.Test.YtlkhijflgbobjaaLxT
import Derived.Test.YtlkhijflgbobjaaLxP0
import Derived.Test.YtlkhijflgbobjaaLxP1
set_option linter.unusedVariables false
set_option linter.unusedSimpArgs false
namespace Go.Proofs.Ytlkhijflgbobjaa.Lx
open Go Go.Proofs
/-! ### (*weir/neigh.Cache).room: function 47 -/
noncomputable def neigh_Cache_room.B : Code := (Try.f47.body).getD .skip
noncomputable def neigh_Cache_room.cx : Fx := ⟨Try.prog, 47, Try.f47⟩
noncomputable def neigh_Cache_room.out (r_ : Bool) : Value := .bool r_
noncomputable def neigh_Cache_room.F0 (r_ : Bool) : Reach := .ret (neigh_Cache_room.out r_)
noncomputable def neigh_Cache_room.K1 (a0 : (Option Addr)) (s7 : (Option Addr)) : M Bool :=
  if s7 = none then
    pure false
  else
    draw >>= fun _ =>
    nilck a0 >>= fun p21 =>
    ld cM (Addr.add p21 5) >>= fun x22 =>
    nilck s7 >>= fun p23 =>
    ld c_neigh_key p23 >>= fun x24 =>
    mdel c_neigh_key cP x22 x24 >>= fun _ =>
    pure true
theorem neigh_Cache_room.K1_ok (a0 : (Option Addr)) (s7 : (Option Addr)) :
    SJ neigh_Cache_room.cx [.code (c2 (c2 (c2 (c2 neigh_Cache_room.B))))] [(0, .pointer a0), (3, .pointer s7)] [] (neigh_Cache_room.K1 a0 s7) neigh_Cache_room.F0 := by
  unfold neigh_Cache_room.K1
  refine SJ.seq ?_
  refine SJ.sr 2 ?_
  refine OJ.go 2 [(47, .bool (Option.isNone s7)), (46, .pointer s7)] ?_
  refine OJ.nil ?_
  refine SJ.cond (t := (.tmp 47)) (b := (Option.isNone s7)) Option.isNone_iff_eq_none (fun hc25 => ?_) (fun hc25 => ?_)
  · refine SJ.sr 1 ?_
    refine OJ.go 1 [(2, .bool false)] ?_
    refine OJ.nil ?_
    exact SJ.ret rfl (Res.run (ys := [.bool false]) (.tmp (by kernel_rfl) .nil) rfl)
  · refine SJ.skip ?_
    refine SJ.seq ?_
    refine SJ.draw (id := 12) (kd := [0, 0, 0, 1, 0, 0, 0, 1, 2]) (bef := [0, 1, 3, 7, 0, 16, 48, 112, 255]) (ord := [0, 1, 2, 3, 4, 5, 6, 7, 8]) mixed ?_
    refine OJ.go 1 [(48, .pointer a0)] ?_
    refine OJ.nilck (d := 49) (y := .tmp 48) (fun p21 => ?_)
    refine OJ.go 1 [(50, .pointer (some (Addr.add p21 5)))] ?_
    refine OJ.ld (d := 51) (y := .tmp 50) (pend2 := fun x22 => [⟨3, 101, (Addr.add p21 5), cM.val x22⟩]) Ty101 (fun _ => rfl) (fun x22 => ?_)
    refine OJ.go 1 [(52, .pointer s7)] ?_
    refine OJ.nilck (d := 53) (y := .tmp 52) (fun p23 => ?_)
    refine OJ.go 1 [(54, .pointer (some p23))] ?_
    refine OJ.ld (d := 55) (y := .tmp 54) (pend2 := fun x24 => [⟨7, 99, p23, c_neigh_key.val x24⟩, ⟨3, 101, (Addr.add p21 5), cM.val x22⟩]) Ty99 (fun _ => rfl) (fun x24 => ?_)
    refine OJ.mdel (uT := 99) (x := .tmp 51) (y := .tmp 55) (owed := []) Kt101 ?_
    refine OW.nil ?_
    refine OJ.nil ?_
    refine SJ.sr 1 ?_
    refine OJ.go 1 [(2, .bool true)] ?_
    refine OJ.nil ?_
    exact SJ.ret rfl (Res.run (ys := [.bool true]) (.tmp (by kernel_rfl) .nil) rfl)
noncomputable def neigh_Cache_room.F1 (a0 : (Option Addr)) (r6 : Sl) : (LS ((Option Addr) × Int) Bool) → Reach := loopF [.inLoop (c1 (c1 (c2 (c1 (c2 (c2 (c2 neigh_Cache_room.B))))))), .inBlock 0, .code (c2 (c2 (c2 (c2 neigh_Cache_room.B))))] (fun s_ : ((Option Addr) × Int) => [(0, .pointer a0), (3, .pointer s_.1), (18, Sl.v r6), (19, .int .i64 (r6.len : Int)), (20, .int .i64 s_.2)]) (fun s_ : ((Option Addr) × Int) => []) neigh_Cache_room.F0
noncomputable def neigh_Cache_room.L1 (a0 : (Option Addr)) (r6 : Sl) (s7 : (Option Addr)) (s8 : Int) : M (LS ((Option Addr) × Int) Bool) :=
  if s8 < (r6.len : Int) then
    idx r6.a r6.len s8 1 >>= fun p26 =>
    ld cP p26 >>= fun x27 =>
    draw >>= fun _ =>
    nilck x27 >>= fun p28 =>
    ld (cI .i64) (Addr.add p28 24) >>= fun x29 =>
    (if x29 = 3 then
        (if s7 = none then
            pure true
          else
            nilck x27 >>= fun p30 =>
            ld (cI .i64) (Addr.add p30 25) >>= fun x31 =>
            nilck s7 >>= fun p32 =>
            ld (cI .i64) (Addr.add p32 25) >>= fun x33 =>
            pure (decide (x31 > x33))) >>= fun y34 =>
        pure y34
      else
        pure false) >>= fun y35 =>
    if y35 = true then
      pure (LS.next (x27, IntKind.wrap .i64 (s8 + 1)))
    else
      pure (LS.next (s7, IntKind.wrap .i64 (s8 + 1)))
  else
    (neigh_Cache_room.K1 a0 s7) >>= fun b => pure (LS.done b)
theorem neigh_Cache_room.L1_ok (a0 : (Option Addr)) (r6 : Sl) (s7 : (Option Addr)) (s8 : Int) :
    SJ neigh_Cache_room.cx [.code (c1 (c1 (c2 (c1 (c2 (c2 (c2 neigh_Cache_room.B))))))), .inLoop (c1 (c1 (c2 (c1 (c2 (c2 (c2 neigh_Cache_room.B))))))), .inBlock 0, .code (c2 (c2 (c2 (c2 neigh_Cache_room.B))))] [(0, .pointer a0), (3, .pointer s7), (18, Sl.v r6), (19, .int .i64 (r6.len : Int)), (20, .int .i64 s8)] [] (neigh_Cache_room.L1 a0 r6 s7 s8) (neigh_Cache_room.F1 a0 r6) := by
  unfold neigh_Cache_room.L1
  refine SJ.sr 1 ?_
  refine OJ.go 1 [(21, .bool (decide (s8 < (r6.len : Int))))] ?_
  refine OJ.nil ?_
  refine SJ.seq ?_
  refine SJ.cond (t := (.tmp 21)) (b := decide (s8 < (r6.len : Int))) decide_eq_true_iff (fun hc37 => ?_) (fun hc37 => ?_)
  · refine SJ.skip ?_
    refine SJ.seq ?_
    refine SJ.block (id := 1) ?_
    refine SJ.sr 3 ?_
    refine OJ.idxS (d := 22) (T := 108) (y := .tmp 18) (j := .tmp 20) (E := 100) (cap := r6.cap) (k := .i64) (fun p26 => ?_)
    refine OJ.ld (d := 23) (y := .tmp 22) (pend2 := fun x27 => []) Ty100 (fun _ => rfl) (fun x27 => ?_)
    refine OJ.go 1 [(5, .pointer x27)] ?_
    refine OJ.nil ?_
    refine SJ.seq ?_
    refine SJ.draw (id := 7) (kd := [0, 0, 0, 1, 0, 0, 0, 0, 0, 0, 0, 0, 1, 0, 0, 0, 1, 0, 0, 0]) (bef := [0, 1, 3, 7, 15, 31, 63, 127, 255, 511, 1023, 2047, 4095, 511, 8703, 25087, 57855, 131071, 262143, 524287]) (ord := [0, 1, 2, 3, 4, 5, 6, 7, 8, 9, 10, 11, 12, 13, 14, 15, 16, 17, 18, 19]) mixed ?_
    refine OJ.go 1 [(24, .pointer x27)] ?_
    refine OJ.nilck (d := 25) (y := .tmp 24) (fun p28 => ?_)
    refine OJ.go 1 [(26, .pointer (some (Addr.add p28 24)))] ?_
    refine OJ.ld (d := 27) (y := .tmp 26) (pend2 := fun x29 => [⟨3, 3, (Addr.add p28 24), (cI .i64).val x29⟩]) Ty3 (fun _ => rfl) (fun x29 => ?_)
    refine OJ.go 2 [(29, .bool (x29 == 3)), (28, .bool (x29 == 3))] ?_
    refine OJ.join (b := (x29 == 3)) [6, 7, 8, 9, 10, 11, 12, 13, 14, 15, 16, 17, 18, 19] [] [0, 3, 18, 19, 20, 5, 43] (fun y35 => [(0, .pointer a0), (3, .pointer s7), (18, Sl.v r6), (19, .int .i64 (r6.len : Int)), (20, .int .i64 s8), (5, .pointer x27), (43, .bool y35)]) [⟨3, 3, (Addr.add p28 24), (cI .i64).val x29⟩] [12, 16] (t := 29) beq_iff_eq (fun hp_ => ?_) (fun hp_ => ?_) (fun _ _ _ _ _ _ h_ => h_) (fun y35 => ?_)
    · refine OJ.go 3 [(32, .bool (Option.isNone s7)), (31, .bool (Option.isNone s7)), (30, .pointer s7)] ?_
      refine OJ.join (b := (Option.isNone s7)) [9, 10, 11, 12, 13, 14, 15, 16, 17, 18] [19] [0, 3, 18, 19, 20, 5, 29, 42] (fun y34 => [(0, .pointer a0), (3, .pointer s7), (18, Sl.v r6), (19, .int .i64 (r6.len : Int)), (20, .int .i64 s8), (5, .pointer x27), (29, .bool true), (42, .bool y34)]) [⟨3, 3, (Addr.add p28 24), (cI .i64).val x29⟩] [12, 16] (t := 32) Option.isNone_iff_eq_none (fun hp_ => ?_) (fun hp_ => ?_) (fun _ _ _ _ _ hq_ h_ => ⟨fun e_ he_ => by rcases hq_ e_ he_ with h | h; exact h_.1 e_ h; exact .inr ((by decide : ∀ i ∈ [12, 16], i ∈ [12, 16]) _ h), h_.2⟩) (fun y34 => ?_)
      · refine OJ.go 10 [(42, .bool true), (41, undef), (40, undef), (39, undef), (38, undef), (37, undef), (36, undef), (35, undef), (34, undef), (33, undef)] ?_
        exact OJ.nil ⟨(Cov.mem (Cov.keep (List.mem_of_getElem? (i := 0) rfl) Cov.nil)), rfl, _, rfl, by kernel_rfl⟩
      · refine OJ.go 1 [(33, .pointer x27)] ?_
        refine OJ.nilck (d := 34) (y := .tmp 33) (fun p30 => ?_)
        refine OJ.go 1 [(35, .pointer (some (Addr.add p30 25)))] ?_
        refine OJ.ld (d := 36) (y := .tmp 35) (pend2 := fun x31 => [⟨12, 3, (Addr.add p30 25), (cI .i64).val x31⟩, ⟨3, 3, (Addr.add p28 24), (cI .i64).val x29⟩]) Ty3 (fun _ => rfl) (fun x31 => ?_)
        refine OJ.go 1 [(37, .pointer s7)] ?_
        refine OJ.nilck (d := 38) (y := .tmp 37) (fun p32 => ?_)
        refine OJ.go 1 [(39, .pointer (some (Addr.add p32 25)))] ?_
        refine OJ.ld (d := 40) (y := .tmp 39) (pend2 := fun x33 => [⟨16, 3, (Addr.add p32 25), (cI .i64).val x33⟩, ⟨12, 3, (Addr.add p30 25), (cI .i64).val x31⟩, ⟨3, 3, (Addr.add p28 24), (cI .i64).val x29⟩]) Ty3 (fun _ => rfl) (fun x33 => ?_)
        refine OJ.go 2 [(42, .bool (decide (x31 > x33))), (41, .bool (decide (x31 > x33)))] ?_
        exact OJ.nil ⟨(Cov.mem (Cov.drop (List.mem_of_getElem? (i := 1) rfl) (Cov.drop (List.mem_of_getElem? (i := 0) rfl) (Cov.keep (List.mem_of_getElem? (i := 0) rfl) Cov.nil)))), rfl, _, rfl, by kernel_rfl⟩
      · refine OJ.go 1 [(43, .bool y34)] ?_
        exact OJ.nil ⟨(Cov.mem (Cov.keep (List.mem_of_getElem? (i := 0) rfl) Cov.nil)), rfl, _, rfl, by kernel_rfl⟩
    · refine OJ.go 14 [(43, .bool false), (42, undef), (41, undef), (40, undef), (39, undef), (38, undef), (37, undef), (36, undef), (35, undef), (34, undef), (33, undef), (32, undef), (31, undef), (30, undef)] ?_
      exact OJ.nil ⟨(Cov.mem (Cov.keep (List.mem_of_getElem? (i := 0) rfl) Cov.nil)), rfl, _, rfl, by kernel_rfl⟩
    · refine OJ.nil ?_
      refine SJ.cond (t := (.tmp 43)) (b := y35) Iff.rfl (fun hc36 => ?_) (fun hc36 => ?_)
      · refine SJ.rg 2 ?_
        refine OJ.go 2 [(3, .pointer x27), (44, .pointer x27)] ?_
        refine OJ.nil ?_
        refine SJ.inBlock ?_
        refine SJ.rg 2 ?_
        refine OJ.go 2 [(20, .int .i64 (IntKind.wrap .i64 (s8 + 1))), (45, .int .i64 (IntKind.wrap .i64 (s8 + 1)))] ?_
        refine OJ.nil ?_
        exact SJ.at_ [0, 3, 18, 19, 20] rfl
      · refine SJ.skip ?_
        refine SJ.inBlock ?_
        refine SJ.rg 2 ?_
        refine OJ.go 2 [(20, .int .i64 (IntKind.wrap .i64 (s8 + 1))), (45, .int .i64 (IntKind.wrap .i64 (s8 + 1)))] ?_
        refine OJ.nil ?_
        exact SJ.at_ [0, 3, 18, 19, 20] rfl
  · refine SJ.exit (id := 0) (by rfl) ?_
    refine SJ.less [0, 3] (m' := [(0, .pointer a0), (3, .pointer s7)]) ?_
    refine SJ.done ?_
    exact neigh_Cache_room.K1_ok a0 s7
noncomputable def neigh_Cache_room (a0 : (Option Addr)) : M Bool :=
  draw >>= fun _ =>
  nilck a0 >>= fun p1 =>
  ld cM (Addr.add p1 5) >>= fun x2 =>
  nilck a0 >>= fun p3 =>
  ld (cI .i64) p3 >>= fun x4 =>
  mlen x2 >>= fun r5 =>
  same (cI .i64) p3 x4 >>= fun _ =>
  if r5 < x4 then
    pure true
  else
    neigh_Cache_sorted a0 >>= fun r6 =>
    loopM (fun s_ : ((Option Addr) × Int) => neigh_Cache_room.L1 a0 r6 s_.1 s_.2) (none, 0)
theorem neigh_Cache_room_ok (a0 : (Option Addr)) : Ref Try.prog 47 [.pointer a0] (neigh_Cache_room a0) neigh_Cache_room.out := by
  refine Ref.of (cd := neigh_Cache_room.B) Try.func47 ?_
  show SJ neigh_Cache_room.cx [.code neigh_Cache_room.B] [(0, .pointer a0)] [] (neigh_Cache_room a0) neigh_Cache_room.F0
  unfold neigh_Cache_room
  refine SJ.sr 1 ?_
  refine OJ.go 1 [(2, .bool false)] ?_
  refine OJ.nil ?_
  refine SJ.seq ?_
  refine SJ.seq ?_
  refine SJ.draw (id := 1) (kd := [0, 0, 0, 1, 2, 0, 0, 0, 0, 1, 0]) (bef := [0, 1, 3, 7, 15, 0, 32, 96, 224, 480, 1023]) (ord := [0, 1, 2, 3, 5, 6, 7, 8, 9, 4, 10]) mixed ?_
  refine OJ.go 1 [(6, .pointer a0)] ?_
  refine OJ.nilck (d := 7) (y := .tmp 6) (fun p1 => ?_)
  refine OJ.go 1 [(8, .pointer (some (Addr.add p1 5)))] ?_
  refine OJ.ld (d := 9) (y := .tmp 8) (pend2 := fun x2 => [⟨3, 101, (Addr.add p1 5), cM.val x2⟩]) Ty101 (fun _ => rfl) (fun x2 => ?_)
  refine OJ.go 1 [(11, .pointer a0)] ?_
  refine OJ.nilck (d := 12) (y := .tmp 11) (fun p3 => ?_)
  refine OJ.go 2 [(14, .pointer (some p3)), (13, .pointer (some p3))] ?_
  refine OJ.ld (d := 15) (y := .tmp 14) (pend2 := fun x4 => [⟨9, 3, p3, (cI .i64).val x4⟩, ⟨3, 101, (Addr.add p1 5), cM.val x2⟩]) Ty3 (fun _ => rfl) (fun x4 => ?_)
  refine OJ.mlen (d := 10) (T := 101) (kT := 99) (vT := 100) (x := .tmp 9) (owed := [⟨9, 3, p3, (cI .i64).val x4⟩]) (fun r5 => ?_)
  refine OW.same Ty3 ?_
  refine OW.nil ?_
  refine OJ.go 1 [(16, .bool (decide (r5 < x4)))] ?_
  refine OJ.nil ?_
  refine SJ.cond (t := (.tmp 16)) (b := decide (r5 < x4)) decide_eq_true_iff (fun hc38 => ?_) (fun hc38 => ?_)
  · refine SJ.sr 1 ?_
    refine OJ.go 1 [(2, .bool true)] ?_
    refine OJ.nil ?_
    exact SJ.ret rfl (Res.run (ys := [.bool true]) (.tmp (by kernel_rfl) .nil) rfl)
  · refine SJ.skip ?_
    refine SJ.sr 1 ?_
    refine OJ.go 1 [(3, .pointer none)] ?_
    refine OJ.nil ?_
    refine SJ.seq ?_
    refine SJ.sr 4 ?_
    refine OJ.go 1 [(17, .pointer a0)] ?_
    refine OJ.call (d := 18) (g := 50) (ats := #[25]) (args := [.tmp 17]) (owed := []) F50 (neigh_Cache_sorted_ok a0) (fun r6 => ?_)
    refine OW.nil ?_
    refine OJ.go 2 [(20, .int .i64 0), (19, .int .i64 (r6.len : Int))] ?_
    refine OJ.nil ?_
    refine SJ.block (id := 0) ?_
    exact SJ.loop (fun s_ : ((Option Addr) × Int) => [(0, .pointer a0), (3, .pointer s_.1), (18, Sl.v r6), (19, .int .i64 (r6.len : Int)), (20, .int .i64 s_.2)]) (fun s_ : ((Option Addr) × Int) => []) [0, 3, 18, 19, 20] rfl (fun _ _ => rfl) (fun s_ => neigh_Cache_room.L1_ok a0 r6 s_.1 s_.2)

/-! ### (*weir/neigh.Cache).Want: function 15 -/
noncomputable def neigh_Cache_Want.B : Code := (Try.f15.body).getD .skip
noncomputable def neigh_Cache_Want.cx : Fx := ⟨Try.prog, 15, Try.f15⟩
noncomputable def neigh_Cache_Want.out (r_ : ((Vec Int 6) × Int × Int)) : Value := .tuple #[((cI .u8).arr 6).val r_.1, .int .i64 r_.2.1, .int .i64 r_.2.2]
noncomputable def neigh_Cache_Want.F0 (r_ : ((Vec Int 6) × Int × Int)) : Reach := .ret (neigh_Cache_Want.out r_)
noncomputable def neigh_Cache_Want (a0 : (Option Addr)) (a1 : Int) (a2 : api_IP) (a3 : Int) : M ((Vec Int 6) × Int × Int) :=
  slot 32 >>= fun b1 =>
  slot 34 >>= fun b2 =>
  neigh_place a1 a2 >>= fun r3 =>
  if ¬ (r3 = true) then
    pure ((⟨[0, 0, 0, 0, 0, 0], rfl⟩ : (Vec Int 6)), 5, 1)
  else
    slot 99 >>= fun b4 =>
    draw >>= fun _ =>
    nilck a0 >>= fun p5 =>
    ld cM (Addr.add p5 5) >>= fun x6 =>
    mget c_neigh_key cP none x6 (⟨a1, a2⟩ : neigh_key) >>= fun r7 =>
    (if r7.1 = none then
        neigh_Cache_room a0 >>= fun r8 =>
        pure (!r8)
      else
        pure false) >>= fun y9 =>
    if y9 = true then
      pure ((⟨[0, 0, 0, 0, 0, 0], rfl⟩ : (Vec Int 6)), 5, 151)
    else
      if r7.1 = none then
        draw >>= fun _ =>
        nilck a0 >>= fun p164 =>
        ld cM (Addr.add p164 5) >>= fun x165 =>
        newv 3 ((cI .i64).arr 1) (⟨[a3], rfl⟩ : Vec Int 1) >>= fun b166 =>
        same cM (Addr.add p164 5) x165 >>= fun _ =>
        newv 105 c_neigh_entry (⟨(⟨a1, a2⟩ : neigh_key), z_neigh_entry.mac, 1, z_neigh_entry.age, 1, (⟨some (pt b166 0), 1, 1⟩ : Sl)⟩ : neigh_entry) >>= fun b167 =>
        same cM (Addr.add p164 5) x165 >>= fun _ =>
        mset c_neigh_key cP x165 (⟨a1, a2⟩ : neigh_key) (some (pt b167 0)) >>= fun _ =>
        pure ((⟨[0, 0, 0, 0, 0, 0], rfl⟩ : (Vec Int 6)), 3, 0)
      else
        nilck r7.1 >>= fun p168 =>
        ld (cI .i64) (Addr.add p168 24) >>= fun x169 =>
        if x169 = 3 then
          nilck r7.1 >>= fun p192 =>
          st (cI .i64) (Addr.add p192 24) 4 >>= fun _ =>
          nilck r7.1 >>= fun p193 =>
          st (cI .i64) (Addr.add p193 25) 0 >>= fun _ =>
          nilck r7.1 >>= fun p194 =>
          st (cI .i64) (Addr.add p194 26) 1 >>= fun _ =>
          nilck r7.1 >>= fun p195 =>
          ld ((cI .u8).arr 6) (Addr.add p195 18) >>= fun x196 =>
          pure (x196, 2, 0)
        else
          nilck r7.1 >>= fun p197 =>
          ld (cI .i64) (Addr.add p197 24) >>= fun x198 =>
          if x198 ≠ 1 then
            nilck r7.1 >>= fun p206 =>
            ld ((cI .u8).arr 6) (Addr.add p206 18) >>= fun x207 =>
            pure (x207, 1, 0)
          else
            draw >>= fun _ =>
            nilck r7.1 >>= fun p208 =>
            ld cL (Addr.add p208 27) >>= fun x209 =>
            nilck a0 >>= fun p210 =>
            ld (cI .i64) (Addr.add p210 1) >>= fun x211 =>
            if (x209.len : Int) = x211 then
              pure ((⟨[0, 0, 0, 0, 0, 0], rfl⟩ : (Vec Int 6)), 5, 152)
            else
              nilck r7.1 >>= fun p212 =>
              ld cL (Addr.add p212 27) >>= fun x213 =>
              slot 3 >>= fun b214 =>
              appl (cI .i64) 3 8 0 x213 [a3] >>= fun r215 =>
              nilck r7.1 >>= fun p216 =>
              st cL (Addr.add p216 27) r215 >>= fun _ =>
              pure ((⟨[0, 0, 0, 0, 0, 0], rfl⟩ : (Vec Int 6)), 4, 0)
theorem neigh_Cache_Want_ok (a0 : (Option Addr)) (a1 : Int) (a2 : api_IP) (a3 : Int) : Ref Try.prog 15 [.pointer a0, .int .i64 a1, c_api_IP.val a2, .int .i64 a3] (neigh_Cache_Want a0 a1 a2 a3) neigh_Cache_Want.out := by
  refine Ref.of (cd := neigh_Cache_Want.B) Try.func15 ?_
  show SJ neigh_Cache_Want.cx [.code neigh_Cache_Want.B] [(0, .pointer a0), (1, .int .i64 a1), (2, c_api_IP.val a2), (3, .int .i64 a3)] [] (neigh_Cache_Want a0 a1 a2 a3) neigh_Cache_Want.F0
  unfold neigh_Cache_Want
  refine SJ.sr 4 ?_
  refine OJ.slotOf (d := 6) (op := (.box 32 (.tmp 2))) (cd := c_api_IP) (u := a2) (owed := []) (box_run (by kernel_rfl)) (fun b1 => ?_)
  refine OW.nil ?_
  refine OJ.slotOf (d := 8) (op := (.alloc 34)) (cd := ((cI .u8).arr 6)) (u := (Vec.rep 6 0)) (owed := []) (alloc_run Ty34) (fun b2 => ?_)
  refine OW.nil ?_
  refine OJ.go 2 [(10, .int .i64 0), (9, .int .i64 0)] ?_
  refine OJ.nil ?_
  refine SJ.seq ?_
  refine SJ.sr 4 ?_
  refine OJ.go 1 [(13, .int .i64 a1)] ?_
  refine OJ.kld (d := 14) (y := .tmp 6) (cd := c_api_IP) (j := 1) (b := b1) (o := 0) a2 (pend2 := []) Ty32 rfl (At.whole _) rfl ?_
  refine OJ.call (d := 15) (g := 46) (ats := #[3, 32]) (args := [.tmp 13, .tmp 14]) (owed := []) F46 (neigh_place_ok a1 a2) (fun r3 => ?_)
  refine OW.nil ?_
  refine OJ.go 1 [(16, .bool (!r3))] ?_
  refine OJ.nil ?_
  refine SJ.cond (t := (.tmp 16)) (b := (!r3)) (bnot_iff Iff.rfl) (fun hc222 => ?_) (fun hc222 => ?_)
  · refine SJ.sr 4 ?_
    refine OJ.build (d := 17) (T := 34) (parts := []) (ps := []) (cd := ((cI .u8).arr 6)) (z0 := (Vec.rep 6 0)) (⟨[0, 0, 0, 0, 0, 0], rfl⟩ : (Vec Int 6)) Ty34 rfl Filled.nil ?_
    refine OJ.kst (y := .tmp 8) (z := .tmp 17) (cd := ((cI .u8).arr 6)) (u := (⟨[0, 0, 0, 0, 0, 0], rfl⟩ : (Vec Int 6))) (j := 0) (b := b2) (o := 0) (((cI .u8).arr 6).enc (⟨[0, 0, 0, 0, 0, 0], rfl⟩ : (Vec Int 6))) (owed := []) Ty34 rfl (Upd.whole ((Cod.len _ _).trans (Cod.len _ _).symm)) rfl ?_
    refine OW.nil ?_
    refine OJ.go 2 [(10, .int .i64 1), (9, .int .i64 5)] ?_
    refine OJ.nil ?_
    exact SJ.ret rfl (Res.run (ys := [((cI .u8).arr 6).val (⟨[0, 0, 0, 0, 0, 0], rfl⟩ : (Vec Int 6)), .int .i64 5, .int .i64 1]) (.cell (j := 0) (b := b2) (cd := ((cI .u8).arr 6)) (q := (⟨[0, 0, 0, 0, 0, 0], rfl⟩ : (Vec Int 6))) (by kernel_rfl) rfl Ty34 (At.whole _) (.tmp (by kernel_rfl) (.tmp (by kernel_rfl) .nil))) rfl)
  · refine SJ.skip ?_
    refine SJ.sr 5 ?_
    refine OJ.go 1 [(18, .int .i64 a1)] ?_
    refine OJ.kld (d := 19) (y := .tmp 6) (cd := c_api_IP) (j := 1) (b := b1) (o := 0) a2 (pend2 := []) Ty32 rfl (At.whole _) rfl ?_
    refine OJ.build (d := 20) (T := 99) (parts := [(0, .tmp 18), (1, .tmp 19)]) (ps := [(0, (cI .i64).val a1), (1, c_api_IP.val a2)]) (cd := c_neigh_key) (z0 := z_neigh_key) (⟨a1, a2⟩ : neigh_key) Ty99 rfl (Filled.cons (cd := (cI .i64)) (q := a1) (o := 0) (by kernel_rfl) (Up_neigh_key_port z_neigh_key a1) (Filled.cons (cd := c_api_IP) (q := a2) (o := 1) (by kernel_rfl) (Up_neigh_key_ip (⟨a1, z_neigh_key.ip⟩ : neigh_key) a2) Filled.nil)) ?_
    refine OJ.slotOf (d := 11) (op := (.alloc 99)) (cd := c_neigh_key) (u := z_neigh_key) (owed := []) (alloc_run Ty99) (fun b4 => ?_)
    refine OW.nil ?_
    refine OJ.kst (y := .tmp 11) (z := .tmp 20) (cd := c_neigh_key) (u := (⟨a1, a2⟩ : neigh_key)) (j := 0) (b := b4) (o := 0) (c_neigh_key.enc (⟨a1, a2⟩ : neigh_key)) (owed := []) Ty99 rfl (Upd.whole ((Cod.len _ _).trans (Cod.len _ _).symm)) rfl ?_
    refine OW.nil ?_
    refine OJ.nil ?_
    refine SJ.seq ?_
    refine SJ.draw (id := 4) (kd := [0, 0, 0, 1, 1, 2, 0]) (bef := [0, 1, 3, 7, 0, 31, 63]) (ord := [0, 1, 2, 3, 4, 5, 6]) mixed ?_
    refine OJ.go 1 [(21, .pointer a0)] ?_
    refine OJ.nilck (d := 22) (y := .tmp 21) (fun p5 => ?_)
    refine OJ.go 1 [(23, .pointer (some (Addr.add p5 5)))] ?_
    refine OJ.ld (d := 24) (y := .tmp 23) (pend2 := fun x6 => [⟨3, 101, (Addr.add p5 5), cM.val x6⟩]) Ty101 (fun _ => rfl) (fun x6 => ?_)
    refine OJ.kld (d := 25) (y := .tmp 11) (cd := c_neigh_key) (j := 0) (b := b4) (o := 0) (⟨a1, a2⟩ : neigh_key) (pend2 := [⟨4, 99, (pt b4 0), c_neigh_key.val (⟨a1, a2⟩ : neigh_key)⟩, ⟨3, 101, (Addr.add p5 5), cM.val x6⟩]) Ty99 rfl (At.whole _) rfl ?_
    refine OJ.get0 (d := 26) (x := .tmp 24) (y := .tmp 25) (owed := []) Kt101 (fun r7 => ?_)
    refine OW.nil ?_
    refine OJ.go 1 [(12, .pointer r7.1)] ?_
    refine OJ.nil ?_
    refine SJ.seq ?_
    refine SJ.block (id := 0) ?_
    refine SJ.sr 8 ?_
    refine OJ.go 3 [(30, .bool (Option.isNone r7.1)), (29, .bool (Option.isNone r7.1)), (28, .pointer r7.1)] ?_
    refine OJ.join (b := (Option.isNone r7.1)) [3, 4, 5, 6] [7] [0, 3, 8, 11, 12, 34] (fun y9 => [(0, .pointer a0), (3, .int .i64 a3), (8, .pointer (some (pt b2 0))), (11, .pointer (some (pt b4 0))), (12, .pointer r7.1), (34, .bool y9)]) [] [] (t := 30) Option.isNone_iff_eq_none (fun hp_ => ?_) (fun hp_ => ?_) (fun _ _ _ _ _ _ h_ => h_) (fun y9 => ?_)
    · refine OJ.go 1 [(31, .pointer a0)] ?_
      refine OJ.call (d := 32) (g := 47) (ats := #[25]) (args := [.tmp 31]) (owed := []) F47 (neigh_Cache_room_ok a0) (fun r8 => ?_)
      refine OW.nil ?_
      refine OJ.go 2 [(34, .bool (!r8)), (33, .bool (!r8))] ?_
      exact OJ.nil ⟨(Cov.mem Cov.nil), rfl, _, rfl, by kernel_rfl⟩
    · refine OJ.go 4 [(34, .bool false), (33, undef), (32, undef), (31, undef)] ?_
      exact OJ.nil ⟨(Cov.mem Cov.nil), rfl, _, rfl, by kernel_rfl⟩
    · refine OJ.go 1 [(27, .bool y9)] ?_
      refine OJ.nil ?_
      refine SJ.cond (t := (.tmp 27)) (b := y9) Iff.rfl (fun hc221 => ?_) (fun hc221 => ?_)
      · refine SJ.sr 4 ?_
        refine OJ.build (d := 35) (T := 34) (parts := []) (ps := []) (cd := ((cI .u8).arr 6)) (z0 := (Vec.rep 6 0)) (⟨[0, 0, 0, 0, 0, 0], rfl⟩ : (Vec Int 6)) Ty34 rfl Filled.nil ?_
        refine OJ.kst (y := .tmp 8) (z := .tmp 35) (cd := ((cI .u8).arr 6)) (u := (⟨[0, 0, 0, 0, 0, 0], rfl⟩ : (Vec Int 6))) (j := 1) (b := b2) (o := 0) (((cI .u8).arr 6).enc (⟨[0, 0, 0, 0, 0, 0], rfl⟩ : (Vec Int 6))) (owed := []) Ty34 rfl (Upd.whole ((Cod.len _ _).trans (Cod.len _ _).symm)) rfl ?_
        refine OW.nil ?_
        refine OJ.go 2 [(10, .int .i64 151), (9, .int .i64 5)] ?_
        refine OJ.nil ?_
        exact SJ.ret rfl (Res.run (ys := [((cI .u8).arr 6).val (⟨[0, 0, 0, 0, 0, 0], rfl⟩ : (Vec Int 6)), .int .i64 5, .int .i64 151]) (.cell (j := 1) (b := b2) (cd := ((cI .u8).arr 6)) (q := (⟨[0, 0, 0, 0, 0, 0], rfl⟩ : (Vec Int 6))) (by kernel_rfl) rfl Ty34 (At.whole _) (.tmp (by kernel_rfl) (.tmp (by kernel_rfl) .nil))) rfl)
      · refine SJ.sr 3 ?_
        refine OJ.go 3 [(36, .bool (Option.isNone r7.1)), (38, .bool (Option.isNone r7.1)), (37, .pointer r7.1)] ?_
        refine OJ.nil ?_
        refine SJ.cond (t := (.tmp 36)) (b := (Option.isNone r7.1)) Option.isNone_iff_eq_none (fun hc220 => ?_) (fun hc220 => ?_)
        · refine SJ.seq ?_
          refine SJ.draw (id := 8) (kd := [0, 0, 0, 1, 1, 1, 0, 2, 0, 2, 2]) (bef := [0, 1, 3, 7, 0, 0, 0, 64, 224, 480, 1023]) (ord := [0, 1, 2, 3, 4, 5, 6, 7, 8, 9, 10]) mixed ?_
          refine OJ.go 1 [(39, .pointer a0)] ?_
          refine OJ.nilck (d := 40) (y := .tmp 39) (fun p164 => ?_)
          refine OJ.go 1 [(41, .pointer (some (Addr.add p164 5)))] ?_
          refine OJ.ld (d := 42) (y := .tmp 41) (pend2 := fun x165 => [⟨3, 101, (Addr.add p164 5), cM.val x165⟩]) Ty101 (fun _ => rfl) (fun x165 => ?_)
          refine OJ.kld (d := 43) (y := .tmp 11) (cd := c_neigh_key) (j := 0) (b := b4) (o := 0) (⟨a1, a2⟩ : neigh_key) (pend2 := [⟨4, 99, (pt b4 0), c_neigh_key.val (⟨a1, a2⟩ : neigh_key)⟩, ⟨3, 101, (Addr.add p164 5), cM.val x165⟩]) Ty99 rfl (At.whole _) rfl ?_
          refine OJ.kld (d := 44) (y := .tmp 11) (cd := c_neigh_key) (j := 0) (b := b4) (o := 0) (⟨a1, a2⟩ : neigh_key) (pend2 := [⟨5, 99, (pt b4 0), c_neigh_key.val (⟨a1, a2⟩ : neigh_key)⟩, ⟨4, 99, (pt b4 0), c_neigh_key.val (⟨a1, a2⟩ : neigh_key)⟩, ⟨3, 101, (Addr.add p164 5), cM.val x165⟩]) Ty99 rfl (At.whole _) rfl ?_
          refine OJ.go 1 [(45, .int .i64 a3)] ?_
          refine OJ.rowNew (d := 46) (t := 43) (parts := [(0, .tmp 45)]) (ps := [(0, (cI .i64).val a3)]) (cd := (cI .i64)) (owed := [⟨5, 99, (pt b4 0), c_neigh_key.val (⟨a1, a2⟩ : neigh_key)⟩, ⟨4, 99, (pt b4 0), c_neigh_key.val (⟨a1, a2⟩ : neigh_key)⟩, ⟨3, 101, (Addr.add p164 5), cM.val x165⟩]) Ty3 (Filled.cons (cd := (cI .i64)) (q := a3) (o := 0) rfl (Upd.arr (i := 0) (by decide) (by decide)) Filled.nil) (fun b166 => ?_)
          refine OW.known (j := 0) (q := (⟨a1, a2⟩ : neigh_key)) Ty99 rfl (At.whole _) ?_
          refine OW.known (j := 0) (q := (⟨a1, a2⟩ : neigh_key)) Ty99 rfl (At.whole _) ?_
          refine OW.same Ty101 ?_
          refine OW.nil ?_
          refine OJ.build (d := 47) (T := 105) (parts := [(0, .tmp 44), (2, .const (.int .i64 1)), (4, .const (.int .i64 1)), (5, .tmp 46)]) (ps := [(0, c_neigh_key.val (⟨a1, a2⟩ : neigh_key)), (2, (cI .i64).val 1), (4, (cI .i64).val 1), (5, cL.val (⟨some (pt b166 0), 1, 1⟩ : Sl))]) (cd := c_neigh_entry) (z0 := z_neigh_entry) (⟨(⟨a1, a2⟩ : neigh_key), z_neigh_entry.mac, 1, z_neigh_entry.age, 1, (⟨some (pt b166 0), 1, 1⟩ : Sl)⟩ : neigh_entry) Ty105 rfl (Filled.cons (cd := c_neigh_key) (q := (⟨a1, a2⟩ : neigh_key)) (o := 0) (by kernel_rfl) (Up_neigh_entry_key z_neigh_entry (⟨a1, a2⟩ : neigh_key)) (Filled.cons (cd := (cI .i64)) (q := 1) (o := 24) (by kernel_rfl) (Up_neigh_entry_state (⟨(⟨a1, a2⟩ : neigh_key), z_neigh_entry.mac, z_neigh_entry.state, z_neigh_entry.age, z_neigh_entry.tries, z_neigh_entry.items⟩ : neigh_entry) 1) (Filled.cons (cd := (cI .i64)) (q := 1) (o := 26) (by kernel_rfl) (Up_neigh_entry_tries (⟨(⟨a1, a2⟩ : neigh_key), z_neigh_entry.mac, 1, z_neigh_entry.age, z_neigh_entry.tries, z_neigh_entry.items⟩ : neigh_entry) 1) (Filled.cons (cd := cL) (q := (⟨some (pt b166 0), 1, 1⟩ : Sl)) (o := 27) (by kernel_rfl) (Up_neigh_entry_items (⟨(⟨a1, a2⟩ : neigh_key), z_neigh_entry.mac, 1, z_neigh_entry.age, 1, z_neigh_entry.items⟩ : neigh_entry) (⟨some (pt b166 0), 1, 1⟩ : Sl)) Filled.nil)))) ?_
          refine OJ.newOf (d := 48) (op := (.box 105 (.tmp 47))) (cd := c_neigh_entry) (u := (⟨(⟨a1, a2⟩ : neigh_key), z_neigh_entry.mac, 1, z_neigh_entry.age, 1, (⟨some (pt b166 0), 1, 1⟩ : Sl)⟩ : neigh_entry)) (owed := [⟨4, 99, (pt b4 0), c_neigh_key.val (⟨a1, a2⟩ : neigh_key)⟩, ⟨3, 101, (Addr.add p164 5), cM.val x165⟩]) (box_run (by kernel_rfl)) (fun b167 => ?_)
          refine OW.known (j := 0) (q := (⟨a1, a2⟩ : neigh_key)) Ty99 rfl (At.whole _) ?_
          refine OW.same Ty101 ?_
          refine OW.nil ?_
          refine OJ.mset (x := .tmp 42) (y := .tmp 43) (q := .tmp 48) (owed := []) Kt101 ?_
          refine OW.nil ?_
          refine OJ.nil ?_
          refine SJ.sr 4 ?_
          refine OJ.build (d := 49) (T := 34) (parts := []) (ps := []) (cd := ((cI .u8).arr 6)) (z0 := (Vec.rep 6 0)) (⟨[0, 0, 0, 0, 0, 0], rfl⟩ : (Vec Int 6)) Ty34 rfl Filled.nil ?_
          refine OJ.kst (y := .tmp 8) (z := .tmp 49) (cd := ((cI .u8).arr 6)) (u := (⟨[0, 0, 0, 0, 0, 0], rfl⟩ : (Vec Int 6))) (j := 1) (b := b2) (o := 0) (((cI .u8).arr 6).enc (⟨[0, 0, 0, 0, 0, 0], rfl⟩ : (Vec Int 6))) (owed := []) Ty34 rfl (Upd.whole ((Cod.len _ _).trans (Cod.len _ _).symm)) rfl ?_
          refine OW.nil ?_
          refine OJ.go 2 [(10, .int .i64 0), (9, .int .i64 3)] ?_
          refine OJ.nil ?_
          exact SJ.ret rfl (Res.run (ys := [((cI .u8).arr 6).val (⟨[0, 0, 0, 0, 0, 0], rfl⟩ : (Vec Int 6)), .int .i64 3, .int .i64 0]) (.cell (j := 1) (b := b2) (cd := ((cI .u8).arr 6)) (q := (⟨[0, 0, 0, 0, 0, 0], rfl⟩ : (Vec Int 6))) (by kernel_rfl) rfl Ty34 (At.whole _) (.tmp (by kernel_rfl) (.tmp (by kernel_rfl) .nil))) rfl)
        · refine SJ.sr 6 ?_
          refine OJ.go 1 [(51, .pointer r7.1)] ?_
          refine OJ.nilck (d := 52) (y := .tmp 51) (fun p168 => ?_)
          refine OJ.go 1 [(53, .pointer (some (Addr.add p168 24)))] ?_
          refine OJ.ld (d := 54) (y := .tmp 53) (pend2 := fun x169 => []) Ty3 (fun _ => rfl) (fun x169 => ?_)
          refine OJ.go 2 [(50, .bool (x169 == 3)), (55, .bool (x169 == 3))] ?_
          refine OJ.nil ?_
          refine SJ.cond (t := (.tmp 50)) (b := (x169 == 3)) beq_iff_eq (fun hc219 => ?_) (fun hc219 => ?_)
          · refine SJ.sr 12 ?_
            refine OJ.go 3 [(58, .pointer r7.1), (57, .pointer r7.1), (56, .pointer r7.1)] ?_
            refine OJ.nilck (d := 59) (y := .tmp 56) (fun p192 => ?_)
            refine OJ.go 1 [(60, .pointer (some (Addr.add p192 24)))] ?_
            refine OJ.st (y := .tmp 60) (z := .const (.int .i64 4)) (owed := []) Ty3 ?_
            refine OW.nil ?_
            refine OJ.nilck (d := 61) (y := .tmp 57) (fun p193 => ?_)
            refine OJ.go 1 [(62, .pointer (some (Addr.add p193 25)))] ?_
            refine OJ.st (y := .tmp 62) (z := .const (.int .i64 0)) (owed := []) Ty3 ?_
            refine OW.nil ?_
            refine OJ.nilck (d := 63) (y := .tmp 58) (fun p194 => ?_)
            refine OJ.go 1 [(64, .pointer (some (Addr.add p194 26)))] ?_
            refine OJ.st (y := .tmp 64) (z := .const (.int .i64 1)) (owed := []) Ty3 ?_
            refine OW.nil ?_
            refine OJ.nil ?_
            refine SJ.sr 7 ?_
            refine OJ.go 1 [(65, .pointer r7.1)] ?_
            refine OJ.nilck (d := 66) (y := .tmp 65) (fun p195 => ?_)
            refine OJ.go 1 [(67, .pointer (some (Addr.add p195 18)))] ?_
            refine OJ.ld (d := 68) (y := .tmp 67) (pend2 := fun x196 => []) Ty34 (fun _ => rfl) (fun x196 => ?_)
            refine OJ.kst (y := .tmp 8) (z := .tmp 68) (cd := ((cI .u8).arr 6)) (u := x196) (j := 1) (b := b2) (o := 0) (((cI .u8).arr 6).enc x196) (owed := []) Ty34 rfl (Upd.whole ((Cod.len _ _).trans (Cod.len _ _).symm)) rfl ?_
            refine OW.nil ?_
            refine OJ.go 2 [(10, .int .i64 0), (9, .int .i64 2)] ?_
            refine OJ.nil ?_
            exact SJ.ret rfl (Res.run (ys := [((cI .u8).arr 6).val x196, .int .i64 2, .int .i64 0]) (.cell (j := 1) (b := b2) (cd := ((cI .u8).arr 6)) (q := x196) (by kernel_rfl) rfl Ty34 (At.whole _) (.tmp (by kernel_rfl) (.tmp (by kernel_rfl) .nil))) rfl)
          · refine SJ.sr 6 ?_
            refine OJ.go 1 [(70, .pointer r7.1)] ?_
            refine OJ.nilck (d := 71) (y := .tmp 70) (fun p197 => ?_)
            refine OJ.go 1 [(72, .pointer (some (Addr.add p197 24)))] ?_
            refine OJ.ld (d := 73) (y := .tmp 72) (pend2 := fun x198 => []) Ty3 (fun _ => rfl) (fun x198 => ?_)
            refine OJ.go 2 [(69, .bool (x198 != 1)), (74, .bool (x198 != 1))] ?_
            refine OJ.nil ?_
            refine SJ.cond (t := (.tmp 69)) (b := (x198 != 1)) bne_iff_ne (fun hc218 => ?_) (fun hc218 => ?_)
            · refine SJ.sr 7 ?_
              refine OJ.go 1 [(75, .pointer r7.1)] ?_
              refine OJ.nilck (d := 76) (y := .tmp 75) (fun p206 => ?_)
              refine OJ.go 1 [(77, .pointer (some (Addr.add p206 18)))] ?_
              refine OJ.ld (d := 78) (y := .tmp 77) (pend2 := fun x207 => []) Ty34 (fun _ => rfl) (fun x207 => ?_)
              refine OJ.kst (y := .tmp 8) (z := .tmp 78) (cd := ((cI .u8).arr 6)) (u := x207) (j := 1) (b := b2) (o := 0) (((cI .u8).arr 6).enc x207) (owed := []) Ty34 rfl (Upd.whole ((Cod.len _ _).trans (Cod.len _ _).symm)) rfl ?_
              refine OW.nil ?_
              refine OJ.go 2 [(10, .int .i64 0), (9, .int .i64 1)] ?_
              refine OJ.nil ?_
              exact SJ.ret rfl (Res.run (ys := [((cI .u8).arr 6).val x207, .int .i64 1, .int .i64 0]) (.cell (j := 1) (b := b2) (cd := ((cI .u8).arr 6)) (q := x207) (by kernel_rfl) rfl Ty34 (At.whole _) (.tmp (by kernel_rfl) (.tmp (by kernel_rfl) .nil))) rfl)
            · refine SJ.seq ?_
              refine SJ.draw (id := 15) (kd := [0, 0, 0, 1, 0, 0, 0, 0, 0, 1, 0, 0]) (bef := [0, 1, 3, 7, 15, 0, 32, 96, 224, 480, 1023, 2047]) (ord := [0, 1, 2, 3, 4, 5, 6, 7, 8, 9, 10, 11]) mixed ?_
              refine OJ.go 1 [(80, .pointer r7.1)] ?_
              refine OJ.nilck (d := 81) (y := .tmp 80) (fun p208 => ?_)
              refine OJ.go 1 [(82, .pointer (some (Addr.add p208 27)))] ?_
              refine OJ.ld (d := 83) (y := .tmp 82) (pend2 := fun x209 => [⟨3, 43, (Addr.add p208 27), cL.val x209⟩]) Ty43 (fun _ => rfl) (fun x209 => ?_)
              refine OJ.go 2 [(85, .pointer a0), (84, .int .i64 (x209.len : Int))] ?_
              refine OJ.nilck (d := 86) (y := .tmp 85) (fun p210 => ?_)
              refine OJ.go 2 [(88, .pointer (some (Addr.add p210 1))), (87, .pointer (some p210))] ?_
              refine OJ.ld (d := 89) (y := .tmp 88) (pend2 := fun x211 => [⟨9, 3, (Addr.add p210 1), (cI .i64).val x211⟩, ⟨3, 43, (Addr.add p208 27), cL.val x209⟩]) Ty3 (fun _ => rfl) (fun x211 => ?_)
              refine OJ.go 2 [(79, .bool ((x209.len : Int) == x211)), (90, .bool ((x209.len : Int) == x211))] ?_
              refine OJ.nil ?_
              refine SJ.cond (t := (.tmp 79)) (b := ((x209.len : Int) == x211)) beq_iff_eq (fun hc217 => ?_) (fun hc217 => ?_)
              · refine SJ.sr 4 ?_
                refine OJ.build (d := 91) (T := 34) (parts := []) (ps := []) (cd := ((cI .u8).arr 6)) (z0 := (Vec.rep 6 0)) (⟨[0, 0, 0, 0, 0, 0], rfl⟩ : (Vec Int 6)) Ty34 rfl Filled.nil ?_
                refine OJ.kst (y := .tmp 8) (z := .tmp 91) (cd := ((cI .u8).arr 6)) (u := (⟨[0, 0, 0, 0, 0, 0], rfl⟩ : (Vec Int 6))) (j := 1) (b := b2) (o := 0) (((cI .u8).arr 6).enc (⟨[0, 0, 0, 0, 0, 0], rfl⟩ : (Vec Int 6))) (owed := []) Ty34 rfl (Upd.whole ((Cod.len _ _).trans (Cod.len _ _).symm)) rfl ?_
                refine OW.nil ?_
                refine OJ.go 2 [(10, .int .i64 152), (9, .int .i64 5)] ?_
                refine OJ.nil ?_
                exact SJ.ret rfl (Res.run (ys := [((cI .u8).arr 6).val (⟨[0, 0, 0, 0, 0, 0], rfl⟩ : (Vec Int 6)), .int .i64 5, .int .i64 152]) (.cell (j := 1) (b := b2) (cd := ((cI .u8).arr 6)) (q := (⟨[0, 0, 0, 0, 0, 0], rfl⟩ : (Vec Int 6))) (by kernel_rfl) rfl Ty34 (At.whole _) (.tmp (by kernel_rfl) (.tmp (by kernel_rfl) .nil))) rfl)
              · refine SJ.skip ?_
                refine SJ.inBlock ?_
                refine SJ.sr 11 ?_
                refine OJ.go 2 [(93, .pointer r7.1), (92, .pointer r7.1)] ?_
                refine OJ.nilck (d := 94) (y := .tmp 93) (fun p212 => ?_)
                refine OJ.go 1 [(95, .pointer (some (Addr.add p212 27)))] ?_
                refine OJ.ld (d := 96) (y := .tmp 95) (pend2 := fun x213 => []) Ty43 (fun _ => rfl) (fun x213 => ?_)
                refine OJ.go 1 [(97, .int .i64 a3)] ?_
                refine OJ.rowSlot (d := 98) (t := 43) (parts := [(0, .tmp 97)]) (ps := [(0, (cI .i64).val a3)]) (cd := (cI .i64)) (⟨[a3], rfl⟩ : Vec Int 1) (owed := []) Ty3 (Filled.cons (cd := (cI .i64)) (q := a3) (o := 0) rfl (Upd.arr (i := 0) (by decide) (by decide)) Filled.nil) (fun b214 => ?_)
                refine OW.nil ?_
                refine OJ.appl (d := 99) (t := 43) (u := 43) (so := .tmp 96) (xo := .tmp 98) (j := 0) (b := b214) (l := ((cI .i64).arr 1).enc (⟨[a3], rfl⟩ : Vec Int 1)) (n := 1) (k := 1) [a3] (owed := []) Ty3 (by rfl) (Cod.arr_enc _ _ _) (by rfl) (fun r215 => ?_)
                refine OW.nil ?_
                refine OJ.nilck (d := 100) (y := .tmp 92) (fun p216 => ?_)
                refine OJ.go 1 [(101, .pointer (some (Addr.add p216 27)))] ?_
                refine OJ.st (y := .tmp 101) (z := .tmp 99) (owed := []) Ty43 ?_
                refine OW.nil ?_
                refine OJ.nil ?_
                refine SJ.sr 4 ?_
                refine OJ.build (d := 102) (T := 34) (parts := []) (ps := []) (cd := ((cI .u8).arr 6)) (z0 := (Vec.rep 6 0)) (⟨[0, 0, 0, 0, 0, 0], rfl⟩ : (Vec Int 6)) Ty34 rfl Filled.nil ?_
                refine OJ.kst (y := .tmp 8) (z := .tmp 102) (cd := ((cI .u8).arr 6)) (u := (⟨[0, 0, 0, 0, 0, 0], rfl⟩ : (Vec Int 6))) (j := 2) (b := b2) (o := 0) (((cI .u8).arr 6).enc (⟨[0, 0, 0, 0, 0, 0], rfl⟩ : (Vec Int 6))) (owed := []) Ty34 rfl (Upd.whole ((Cod.len _ _).trans (Cod.len _ _).symm)) rfl ?_
                refine OW.nil ?_
                refine OJ.go 2 [(10, .int .i64 0), (9, .int .i64 4)] ?_
                refine OJ.nil ?_
                exact SJ.ret rfl (Res.run (ys := [((cI .u8).arr 6).val (⟨[0, 0, 0, 0, 0, 0], rfl⟩ : (Vec Int 6)), .int .i64 4, .int .i64 0]) (.cell (j := 2) (b := b2) (cd := ((cI .u8).arr 6)) (q := (⟨[0, 0, 0, 0, 0, 0], rfl⟩ : (Vec Int 6))) (by kernel_rfl) rfl Ty34 (At.whole _) (.tmp (by kernel_rfl) (.tmp (by kernel_rfl) .nil))) rfl)

/-! ### weir/neigh.station: function 48 -/
noncomputable def neigh_station.B : Code := (Try.f48.body).getD .skip
noncomputable def neigh_station.cx : Fx := ⟨Try.prog, 48, Try.f48⟩
noncomputable def neigh_station.out (r_ : Bool) : Value := .bool r_
noncomputable def neigh_station.F0 (r_ : Bool) : Reach := .ret (neigh_station.out r_)
noncomputable def neigh_station (a0 : (Vec Int 6)) : M Bool :=
  slot 34 >>= fun b1 =>
  (if ¬ (a0 = (⟨[0, 0, 0, 0, 0, 0], rfl⟩ : (Vec Int 6))) then
      pure ((band .u8 (Vec.g a0 0 0) 1) == 0)
    else
      pure false) >>= fun y2 =>
  pure y2
theorem neigh_station_ok (a0 : (Vec Int 6)) : Ref Try.prog 48 [((cI .u8).arr 6).val a0] (neigh_station a0) neigh_station.out := by
  refine Ref.of (cd := neigh_station.B) Try.func48 ?_
  show SJ neigh_station.cx [.code neigh_station.B] [(0, ((cI .u8).arr 6).val a0)] [] (neigh_station a0) neigh_station.F0
  unfold neigh_station
  refine SJ.sr 2 ?_
  refine OJ.slotOf (d := 1) (op := (.box 34 (.tmp 0))) (cd := ((cI .u8).arr 6)) (u := a0) (owed := []) (box_run (by kernel_rfl)) (fun b1 => ?_)
  refine OW.nil ?_
  refine OJ.go 1 [(2, .bool false)] ?_
  refine OJ.nil ?_
  refine SJ.sr 10 ?_
  refine OJ.kld (d := 3) (y := .tmp 1) (cd := ((cI .u8).arr 6)) (j := 0) (b := b1) (o := 0) a0 (pend2 := []) Ty34 rfl (At.whole _) rfl ?_
  refine OJ.build (d := 4) (T := 34) (parts := []) (ps := []) (cd := ((cI .u8).arr 6)) (z0 := (Vec.rep 6 0)) (⟨[0, 0, 0, 0, 0, 0], rfl⟩ : (Vec Int 6)) Ty34 rfl Filled.nil ?_
  refine OJ.neq (d := 5) (T := 34) (yT := 34) (y := .tmp 3) (z := .tmp 4) (cd := ((cI .u8).arr 6)) (p := a0) (q := (⟨[0, 0, 0, 0, 0, 0], rfl⟩ : (Vec Int 6))) rfl Eq34 ?_
  refine OJ.go 1 [(6, .bool (!eqv a0 (⟨[0, 0, 0, 0, 0, 0], rfl⟩ : (Vec Int 6))))] ?_
  refine OJ.join (b := (!eqv a0 (⟨[0, 0, 0, 0, 0, 0], rfl⟩ : (Vec Int 6)))) [4, 5, 6, 7, 8] [9] [11] (fun y2 => [(11, .bool y2)]) [] [] (t := 6) (bnot_iff eqv_iff) (fun hp_ => ?_) (fun hp_ => ?_) (fun _ _ _ _ _ _ h_ => h_) (fun y2 => ?_)
  · refine OJ.go 1 [(7, .pointer (some (pt b1 0)))] ?_
    refine OJ.kld (d := 8) (y := .tmp 7) (cd := (cI .u8)) (j := 0) (b := b1) (o := 0) (Vec.g a0 0 0) (pend2 := []) Ty5 rfl (At.zero (At.arr (z := 0) (by decide) (by decide))) rfl ?_
    refine OJ.go 3 [(11, .bool ((band .u8 (Vec.g a0 0 0) 1) == 0)), (10, .bool ((band .u8 (Vec.g a0 0 0) 1) == 0)), (9, .int .u8 (band .u8 (Vec.g a0 0 0) 1))] ?_
    exact OJ.nil ⟨(Cov.mem Cov.nil), rfl, _, rfl, by kernel_rfl⟩
  · refine OJ.go 5 [(11, .bool false), (10, undef), (9, undef), (8, undef), (7, undef)] ?_
    exact OJ.nil ⟨(Cov.mem Cov.nil), rfl, _, rfl, by kernel_rfl⟩
  · refine OJ.go 1 [(2, .bool y2)] ?_
    refine OJ.nil ?_
    exact SJ.ret rfl (Res.run (ys := [.bool y2]) (.tmp (by kernel_rfl) .nil) rfl)

/-! ### slices.Clip[[]int,int]: function 59 -/
noncomputable def slices_Clip_int_int.B : Code := (Try.f59.body).getD .skip
noncomputable def slices_Clip_int_int.cx : Fx := ⟨Try.prog, 59, Try.f59⟩
noncomputable def slices_Clip_int_int.out (r_ : Sl) : Value := Sl.v r_
noncomputable def slices_Clip_int_int.F0 (r_ : Sl) : Reach := .ret (slices_Clip_int_int.out r_)
noncomputable def slices_Clip_int_int (a0 : Sl) : M Sl :=
  cut 1 a0 none (some (a0.len : Int)) (some (a0.len : Int)) >>= fun r1 =>
  pure r1
theorem slices_Clip_int_int_ok (a0 : Sl) : Ref Try.prog 59 [Sl.v a0] (slices_Clip_int_int a0) slices_Clip_int_int.out := by
  refine Ref.of (cd := slices_Clip_int_int.B) Try.func59 ?_
  show SJ slices_Clip_int_int.cx [.code slices_Clip_int_int.B] [(0, Sl.v a0)] [] (slices_Clip_int_int a0) slices_Clip_int_int.F0
  unfold slices_Clip_int_int
  refine SJ.sr 1 ?_
  refine OJ.go 1 [(2, Sl.v Sl.nil)] ?_
  refine OJ.nil ?_
  refine SJ.sr 7 ?_
  refine OJ.go 5 [(7, .int .i64 (a0.len : Int)), (6, Sl.v a0), (5, .int .i64 (a0.len : Int)), (4, Sl.v a0), (3, Sl.v a0)] ?_
  refine OJ.cut (d := 8) (t := 43) (E := 3) (y := .tmp 3) (lo := none) (hi := (some (.tmp 5))) (mx := (some (.tmp 7))) (lo' := none) (hi' := some (.i64, (a0.len : Int))) (mx' := some (.i64, (a0.len : Int))) (fun _ => rfl) (fun r1 => ?_)
  refine OJ.go 1 [(2, Sl.v r1)] ?_
  refine OJ.nil ?_
  exact SJ.ret rfl (Res.run (ys := [Sl.v r1]) (.tmp (by kernel_rfl) .nil) rfl)

/-! ### (*weir/neigh.entry).take: function 49 -/
noncomputable def neigh_entry_take.B : Code := (Try.f49.body).getD .skip
noncomputable def neigh_entry_take.cx : Fx := ⟨Try.prog, 49, Try.f49⟩
noncomputable def neigh_entry_take.out (r_ : Sl) : Value := Sl.v r_
noncomputable def neigh_entry_take.F0 (r_ : Sl) : Reach := .ret (neigh_entry_take.out r_)
noncomputable def neigh_entry_take (a0 : (Option Addr)) : M Sl :=
  nilck a0 >>= fun p1 =>
  ld cL (Addr.add p1 27) >>= fun x2 =>
  slices_Clip_int_int x2 >>= fun r3 =>
  nilck a0 >>= fun p4 =>
  st cL (Addr.add p4 27) Sl.nil >>= fun _ =>
  pure r3
theorem neigh_entry_take_ok (a0 : (Option Addr)) : Ref Try.prog 49 [.pointer a0] (neigh_entry_take a0) neigh_entry_take.out := by
  refine Ref.of (cd := neigh_entry_take.B) Try.func49 ?_
  show SJ neigh_entry_take.cx [.code neigh_entry_take.B] [(0, .pointer a0)] [] (neigh_entry_take a0) neigh_entry_take.F0
  unfold neigh_entry_take
  refine SJ.sr 1 ?_
  refine OJ.go 1 [(2, Sl.v Sl.nil)] ?_
  refine OJ.nil ?_
  refine SJ.sr 6 ?_
  refine OJ.go 1 [(4, .pointer a0)] ?_
  refine OJ.nilck (d := 5) (y := .tmp 4) (fun p1 => ?_)
  refine OJ.go 1 [(6, .pointer (some (Addr.add p1 27)))] ?_
  refine OJ.ld (d := 7) (y := .tmp 6) (pend2 := fun x2 => []) Ty43 (fun _ => rfl) (fun x2 => ?_)
  refine OJ.call (d := 8) (g := 59) (ats := #[43]) (args := [.tmp 7]) (owed := []) F59 (slices_Clip_int_int_ok x2) (fun r3 => ?_)
  refine OW.nil ?_
  refine OJ.go 1 [(3, Sl.v r3)] ?_
  refine OJ.nil ?_
  refine SJ.sr 4 ?_
  refine OJ.go 1 [(9, .pointer a0)] ?_
  refine OJ.nilck (d := 10) (y := .tmp 9) (fun p4 => ?_)
  refine OJ.go 1 [(11, .pointer (some (Addr.add p4 27)))] ?_
  refine OJ.st (y := .tmp 11) (z := .const (.slice none 0 0)) (owed := []) Ty43 ?_
  refine OW.nil ?_
  refine OJ.nil ?_
  refine SJ.sr 2 ?_
  refine OJ.go 2 [(2, Sl.v r3), (12, Sl.v r3)] ?_
  refine OJ.nil ?_
  exact SJ.ret rfl (Res.run (ys := [Sl.v r3]) (.tmp (by kernel_rfl) .nil) rfl)

/-! ### (*weir/neigh.Cache).Learn: function 18 -/
noncomputable def neigh_Cache_Learn.B : Code := (Try.f18.body).getD .skip
noncomputable def neigh_Cache_Learn.cx : Fx := ⟨Try.prog, 18, Try.f18⟩
noncomputable def neigh_Cache_Learn.out (r_ : (Sl × Int)) : Value := .tuple #[Sl.v r_.1, .int .i64 r_.2]
noncomputable def neigh_Cache_Learn.F0 (r_ : (Sl × Int)) : Reach := .ret (neigh_Cache_Learn.out r_)
noncomputable def neigh_Cache_Learn (a0 : (Option Addr)) (a1 : Int) (a2 : api_IP) (a3 : (Vec Int 6)) (a4 : Int) : M (Sl × Int) :=
  slot 32 >>= fun b1 =>
  slot 34 >>= fun b2 =>
  neigh_place a1 a2 >>= fun r3 =>
  (if ¬ (r3 = true) then
      pure true
    else
      neigh_station a3 >>= fun r4 =>
      pure (!r4)) >>= fun y5 =>
  (if y5 = true then
      pure true
    else
      pure (decide (a4 < 1))) >>= fun y6 =>
  (if y6 = true then
      pure true
    else
      pure (decide (a4 > 3))) >>= fun y7 =>
  if y7 = true then
    pure (Sl.nil, 1)
  else
    slot 99 >>= fun b8 =>
    draw >>= fun _ =>
    nilck a0 >>= fun p9 =>
    ld cM (Addr.add p9 5) >>= fun x10 =>
    mget c_neigh_key cP none x10 (⟨a1, a2⟩ : neigh_key) >>= fun r11 =>
    (if r11.1 = none then
        pure (a4 != 2)
      else
        pure false) >>= fun y12 =>
    if y12 = true then
      pure (Sl.nil, 0)
    else
      (if r11.1 = none then
          neigh_Cache_room a0 >>= fun r178 =>
          pure (!r178)
        else
          pure false) >>= fun y179 =>
      if y179 = true then
        pure (Sl.nil, 151)
      else
        if r11.1 = none then
          draw >>= fun _ =>
          nilck a0 >>= fun p301 =>
          ld cM (Addr.add p301 5) >>= fun x302 =>
          newv 105 c_neigh_entry (⟨(⟨a1, a2⟩ : neigh_key), a3, 3, z_neigh_entry.age, z_neigh_entry.tries, z_neigh_entry.items⟩ : neigh_entry) >>= fun b303 =>
          same cM (Addr.add p301 5) x302 >>= fun _ =>
          mset c_neigh_key cP x302 (⟨a1, a2⟩ : neigh_key) (some (pt b303 0)) >>= fun _ =>
          pure (Sl.nil, 0)
        else
          if a4 = 1 then
            nilck r11.1 >>= fun p322 =>
            st ((cI .u8).arr 6) (Addr.add p322 18) a3 >>= fun _ =>
            nilck r11.1 >>= fun p323 =>
            st (cI .i64) (Addr.add p323 24) 2 >>= fun _ =>
            nilck r11.1 >>= fun p324 =>
            st (cI .i64) (Addr.add p324 25) 0 >>= fun _ =>
            nilck r11.1 >>= fun p325 =>
            st (cI .i64) (Addr.add p325 26) 0 >>= fun _ =>
            neigh_entry_take r11.1 >>= fun r326 =>
            pure (r326, 0)
          else
            draw >>= fun _ =>
            nilck r11.1 >>= fun p327 =>
            ld (cI .i64) (Addr.add p327 24) >>= fun x328 =>
            (if x328 = 1 then
                pure true
              else
                nilck r11.1 >>= fun p329 =>
                ld ((cI .u8).arr 6) (Addr.add p329 18) >>= fun x330 =>
                pure (!eqv x330 a3)) >>= fun y331 =>
            if y331 = true then
              nilck r11.1 >>= fun p336 =>
              st ((cI .u8).arr 6) (Addr.add p336 18) a3 >>= fun _ =>
              nilck r11.1 >>= fun p337 =>
              st (cI .i64) (Addr.add p337 24) 3 >>= fun _ =>
              nilck r11.1 >>= fun p338 =>
              st (cI .i64) (Addr.add p338 25) 0 >>= fun _ =>
              nilck r11.1 >>= fun p339 =>
              st (cI .i64) (Addr.add p339 26) 0 >>= fun _ =>
              neigh_entry_take r11.1 >>= fun r340 =>
              pure (r340, 0)
            else
              neigh_entry_take r11.1 >>= fun r341 =>
              pure (r341, 0)
theorem neigh_Cache_Learn_ok (a0 : (Option Addr)) (a1 : Int) (a2 : api_IP) (a3 : (Vec Int 6)) (a4 : Int) : Ref Try.prog 18 [.pointer a0, .int .i64 a1, c_api_IP.val a2, ((cI .u8).arr 6).val a3, .int .i64 a4] (neigh_Cache_Learn a0 a1 a2 a3 a4) neigh_Cache_Learn.out := by
  refine Ref.of (cd := neigh_Cache_Learn.B) Try.func18 ?_
  show SJ neigh_Cache_Learn.cx [.code neigh_Cache_Learn.B] [(0, .pointer a0), (1, .int .i64 a1), (2, c_api_IP.val a2), (3, ((cI .u8).arr 6).val a3), (4, .int .i64 a4)] [] (neigh_Cache_Learn a0 a1 a2 a3 a4) neigh_Cache_Learn.F0
  unfold neigh_Cache_Learn
  refine SJ.sr 4 ?_
  refine OJ.slotOf (d := 7) (op := (.box 32 (.tmp 2))) (cd := c_api_IP) (u := a2) (owed := []) (box_run (by kernel_rfl)) (fun b1 => ?_)
  refine OW.nil ?_
  refine OJ.slotOf (d := 8) (op := (.box 34 (.tmp 3))) (cd := ((cI .u8).arr 6)) (u := a3) (owed := []) (box_run (by kernel_rfl)) (fun b2 => ?_)
  refine OW.nil ?_
  refine OJ.go 2 [(11, .int .i64 0), (10, Sl.v Sl.nil)] ?_
  refine OJ.nil ?_
  refine SJ.seq ?_
  refine SJ.sr 17 ?_
  refine OJ.go 1 [(14, .int .i64 a1)] ?_
  refine OJ.kld (d := 15) (y := .tmp 7) (cd := c_api_IP) (j := 1) (b := b1) (o := 0) a2 (pend2 := []) Ty32 rfl (At.whole _) rfl ?_
  refine OJ.call (d := 16) (g := 46) (ats := #[3, 32]) (args := [.tmp 14, .tmp 15]) (owed := []) F46 (neigh_place_ok a1 a2) (fun r3 => ?_)
  refine OW.nil ?_
  refine OJ.go 2 [(18, .bool (!r3)), (17, .bool (!r3))] ?_
  refine OJ.join (b := (!r3)) [5, 6, 7, 8] [9, 10, 11, 12, 13, 14, 15, 16] [0, 1, 4, 7, 8, 22] (fun y5 => [(0, .pointer a0), (1, .int .i64 a1), (4, .int .i64 a4), (7, .pointer (some (pt b1 0))), (8, .pointer (some (pt b2 0))), (22, .bool y5)]) [] [] (t := 18) (bnot_iff Iff.rfl) (fun hp_ => ?_) (fun hp_ => ?_) (fun _ _ _ _ _ _ h_ => h_) (fun y5 => ?_)
  · refine OJ.go 4 [(22, .bool true), (21, undef), (20, undef), (19, undef)] ?_
    exact OJ.nil ⟨(Cov.mem Cov.nil), rfl, _, rfl, by kernel_rfl⟩
  · refine OJ.kld (d := 19) (y := .tmp 8) (cd := ((cI .u8).arr 6)) (j := 0) (b := b2) (o := 0) a3 (pend2 := []) Ty34 rfl (At.whole _) rfl ?_
    refine OJ.call (d := 20) (g := 48) (ats := #[34]) (args := [.tmp 19]) (owed := []) F48 (neigh_station_ok a3) (fun r4 => ?_)
    refine OW.nil ?_
    refine OJ.go 2 [(22, .bool (!r4)), (21, .bool (!r4))] ?_
    exact OJ.nil ⟨(Cov.mem Cov.nil), rfl, _, rfl, by kernel_rfl⟩
  · refine OJ.go 1 [(23, .bool y5)] ?_
    refine OJ.join (b := y5) [10, 11, 12] [13, 14, 15, 16] [0, 1, 4, 7, 8, 26] (fun y6 => [(0, .pointer a0), (1, .int .i64 a1), (4, .int .i64 a4), (7, .pointer (some (pt b1 0))), (8, .pointer (some (pt b2 0))), (26, .bool y6)]) [] [] (t := 23) Iff.rfl (fun hp_ => ?_) (fun hp_ => ?_) (fun _ _ _ _ _ _ h_ => h_) (fun y6 => ?_)
    · refine OJ.go 3 [(26, .bool true), (25, undef), (24, undef)] ?_
      exact OJ.nil ⟨(Cov.mem Cov.nil), rfl, _, rfl, by kernel_rfl⟩
    · refine OJ.go 3 [(26, .bool (decide (a4 < 1))), (25, .bool (decide (a4 < 1))), (24, .int .i64 a4)] ?_
      exact OJ.nil ⟨(Cov.mem Cov.nil), rfl, _, rfl, by kernel_rfl⟩
    · refine OJ.go 1 [(27, .bool y6)] ?_
      refine OJ.join (b := y6) [14, 15, 16] [] [0, 1, 4, 7, 8, 30] (fun y7 => [(0, .pointer a0), (1, .int .i64 a1), (4, .int .i64 a4), (7, .pointer (some (pt b1 0))), (8, .pointer (some (pt b2 0))), (30, .bool y7)]) [] [] (t := 27) Iff.rfl (fun hp_ => ?_) (fun hp_ => ?_) (fun _ _ _ _ _ _ h_ => h_) (fun y7 => ?_)
      · refine OJ.go 3 [(30, .bool true), (29, undef), (28, undef)] ?_
        exact OJ.nil ⟨(Cov.mem Cov.nil), rfl, _, rfl, by kernel_rfl⟩
      · refine OJ.go 3 [(30, .bool (decide (a4 > 3))), (29, .bool (decide (a4 > 3))), (28, .int .i64 a4)] ?_
        exact OJ.nil ⟨(Cov.mem Cov.nil), rfl, _, rfl, by kernel_rfl⟩
      · refine OJ.nil ?_
        refine SJ.cond (t := (.tmp 30)) (b := y7) Iff.rfl (fun hc347 => ?_) (fun hc347 => ?_)
        · refine SJ.sr 2 ?_
          refine OJ.go 2 [(11, .int .i64 1), (10, Sl.v Sl.nil)] ?_
          refine OJ.nil ?_
          exact SJ.ret rfl (Res.run (ys := [Sl.v Sl.nil, .int .i64 1]) (.tmp (by kernel_rfl) (.tmp (by kernel_rfl) .nil)) rfl)
        · refine SJ.skip ?_
          refine SJ.sr 5 ?_
          refine OJ.go 1 [(31, .int .i64 a1)] ?_
          refine OJ.kld (d := 32) (y := .tmp 7) (cd := c_api_IP) (j := 1) (b := b1) (o := 0) a2 (pend2 := []) Ty32 rfl (At.whole _) rfl ?_
          refine OJ.build (d := 33) (T := 99) (parts := [(0, .tmp 31), (1, .tmp 32)]) (ps := [(0, (cI .i64).val a1), (1, c_api_IP.val a2)]) (cd := c_neigh_key) (z0 := z_neigh_key) (⟨a1, a2⟩ : neigh_key) Ty99 rfl (Filled.cons (cd := (cI .i64)) (q := a1) (o := 0) (by kernel_rfl) (Up_neigh_key_port z_neigh_key a1) (Filled.cons (cd := c_api_IP) (q := a2) (o := 1) (by kernel_rfl) (Up_neigh_key_ip (⟨a1, z_neigh_key.ip⟩ : neigh_key) a2) Filled.nil)) ?_
          refine OJ.slotOf (d := 12) (op := (.alloc 99)) (cd := c_neigh_key) (u := z_neigh_key) (owed := []) (alloc_run Ty99) (fun b8 => ?_)
          refine OW.nil ?_
          refine OJ.kst (y := .tmp 12) (z := .tmp 33) (cd := c_neigh_key) (u := (⟨a1, a2⟩ : neigh_key)) (j := 0) (b := b8) (o := 0) (c_neigh_key.enc (⟨a1, a2⟩ : neigh_key)) (owed := []) Ty99 rfl (Upd.whole ((Cod.len _ _).trans (Cod.len _ _).symm)) rfl ?_
          refine OW.nil ?_
          refine OJ.nil ?_
          refine SJ.seq ?_
          refine SJ.draw (id := 4) (kd := [0, 0, 0, 1, 1, 2, 0]) (bef := [0, 1, 3, 7, 0, 31, 63]) (ord := [0, 1, 2, 3, 4, 5, 6]) mixed ?_
          refine OJ.go 1 [(34, .pointer a0)] ?_
          refine OJ.nilck (d := 35) (y := .tmp 34) (fun p9 => ?_)
          refine OJ.go 1 [(36, .pointer (some (Addr.add p9 5)))] ?_
          refine OJ.ld (d := 37) (y := .tmp 36) (pend2 := fun x10 => [⟨3, 101, (Addr.add p9 5), cM.val x10⟩]) Ty101 (fun _ => rfl) (fun x10 => ?_)
          refine OJ.kld (d := 38) (y := .tmp 12) (cd := c_neigh_key) (j := 0) (b := b8) (o := 0) (⟨a1, a2⟩ : neigh_key) (pend2 := [⟨4, 99, (pt b8 0), c_neigh_key.val (⟨a1, a2⟩ : neigh_key)⟩, ⟨3, 101, (Addr.add p9 5), cM.val x10⟩]) Ty99 rfl (At.whole _) rfl ?_
          refine OJ.get0 (d := 39) (x := .tmp 37) (y := .tmp 38) (owed := []) Kt101 (fun r11 => ?_)
          refine OW.nil ?_
          refine OJ.go 1 [(13, .pointer r11.1)] ?_
          refine OJ.nil ?_
          refine SJ.seq ?_
          refine SJ.block (id := 0) ?_
          refine SJ.sr 7 ?_
          refine OJ.go 3 [(43, .bool (Option.isNone r11.1)), (42, .bool (Option.isNone r11.1)), (41, .pointer r11.1)] ?_
          refine OJ.join (b := (Option.isNone r11.1)) [3, 4, 5] [6] [0, 4, 8, 12, 13, 46] (fun y12 => [(0, .pointer a0), (4, .int .i64 a4), (8, .pointer (some (pt b2 0))), (12, .pointer (some (pt b8 0))), (13, .pointer r11.1), (46, .bool y12)]) [] [] (t := 43) Option.isNone_iff_eq_none (fun hp_ => ?_) (fun hp_ => ?_) (fun _ _ _ _ _ _ h_ => h_) (fun y12 => ?_)
          · refine OJ.go 3 [(46, .bool (a4 != 2)), (45, .bool (a4 != 2)), (44, .int .i64 a4)] ?_
            exact OJ.nil ⟨(Cov.mem Cov.nil), rfl, _, rfl, by kernel_rfl⟩
          · refine OJ.go 3 [(46, .bool false), (45, undef), (44, undef)] ?_
            exact OJ.nil ⟨(Cov.mem Cov.nil), rfl, _, rfl, by kernel_rfl⟩
          · refine OJ.go 1 [(40, .bool y12)] ?_
            refine OJ.nil ?_
            refine SJ.cond (t := (.tmp 40)) (b := y12) Iff.rfl (fun hc346 => ?_) (fun hc346 => ?_)
            · refine SJ.sr 2 ?_
              refine OJ.go 2 [(11, .int .i64 0), (10, Sl.v Sl.nil)] ?_
              refine OJ.nil ?_
              exact SJ.ret rfl (Res.run (ys := [Sl.v Sl.nil, .int .i64 0]) (.tmp (by kernel_rfl) (.tmp (by kernel_rfl) .nil)) rfl)
            · refine SJ.sr 8 ?_
              refine OJ.go 3 [(50, .bool (Option.isNone r11.1)), (49, .bool (Option.isNone r11.1)), (48, .pointer r11.1)] ?_
              refine OJ.join (b := (Option.isNone r11.1)) [3, 4, 5, 6] [7] [0, 4, 8, 12, 13, 54] (fun y179 => [(0, .pointer a0), (4, .int .i64 a4), (8, .pointer (some (pt b2 0))), (12, .pointer (some (pt b8 0))), (13, .pointer r11.1), (54, .bool y179)]) [] [] (t := 50) Option.isNone_iff_eq_none (fun hp_ => ?_) (fun hp_ => ?_) (fun _ _ _ _ _ _ h_ => h_) (fun y179 => ?_)
              · refine OJ.go 1 [(51, .pointer a0)] ?_
                refine OJ.call (d := 52) (g := 47) (ats := #[25]) (args := [.tmp 51]) (owed := []) F47 (neigh_Cache_room_ok a0) (fun r178 => ?_)
                refine OW.nil ?_
                refine OJ.go 2 [(54, .bool (!r178)), (53, .bool (!r178))] ?_
                exact OJ.nil ⟨(Cov.mem Cov.nil), rfl, _, rfl, by kernel_rfl⟩
              · refine OJ.go 4 [(54, .bool false), (53, undef), (52, undef), (51, undef)] ?_
                exact OJ.nil ⟨(Cov.mem Cov.nil), rfl, _, rfl, by kernel_rfl⟩
              · refine OJ.go 1 [(47, .bool y179)] ?_
                refine OJ.nil ?_
                refine SJ.cond (t := (.tmp 47)) (b := y179) Iff.rfl (fun hc345 => ?_) (fun hc345 => ?_)
                · refine SJ.sr 2 ?_
                  refine OJ.go 2 [(11, .int .i64 151), (10, Sl.v Sl.nil)] ?_
                  refine OJ.nil ?_
                  exact SJ.ret rfl (Res.run (ys := [Sl.v Sl.nil, .int .i64 151]) (.tmp (by kernel_rfl) (.tmp (by kernel_rfl) .nil)) rfl)
                · refine SJ.sr 3 ?_
                  refine OJ.go 3 [(55, .bool (Option.isNone r11.1)), (57, .bool (Option.isNone r11.1)), (56, .pointer r11.1)] ?_
                  refine OJ.nil ?_
                  refine SJ.cond (t := (.tmp 55)) (b := (Option.isNone r11.1)) Option.isNone_iff_eq_none (fun hc344 => ?_) (fun hc344 => ?_)
                  · refine SJ.seq ?_
                    refine SJ.draw (id := 10) (kd := [0, 0, 0, 1, 1, 1, 1, 0, 2, 2]) (bef := [0, 1, 3, 7, 0, 0, 0, 96, 224, 511]) (ord := [0, 1, 2, 3, 4, 5, 6, 7, 8, 9]) mixed ?_
                    refine OJ.go 1 [(58, .pointer a0)] ?_
                    refine OJ.nilck (d := 59) (y := .tmp 58) (fun p301 => ?_)
                    refine OJ.go 1 [(60, .pointer (some (Addr.add p301 5)))] ?_
                    refine OJ.ld (d := 61) (y := .tmp 60) (pend2 := fun x302 => [⟨3, 101, (Addr.add p301 5), cM.val x302⟩]) Ty101 (fun _ => rfl) (fun x302 => ?_)
                    refine OJ.kld (d := 62) (y := .tmp 12) (cd := c_neigh_key) (j := 0) (b := b8) (o := 0) (⟨a1, a2⟩ : neigh_key) (pend2 := [⟨4, 99, (pt b8 0), c_neigh_key.val (⟨a1, a2⟩ : neigh_key)⟩, ⟨3, 101, (Addr.add p301 5), cM.val x302⟩]) Ty99 rfl (At.whole _) rfl ?_
                    refine OJ.kld (d := 63) (y := .tmp 12) (cd := c_neigh_key) (j := 0) (b := b8) (o := 0) (⟨a1, a2⟩ : neigh_key) (pend2 := [⟨5, 99, (pt b8 0), c_neigh_key.val (⟨a1, a2⟩ : neigh_key)⟩, ⟨4, 99, (pt b8 0), c_neigh_key.val (⟨a1, a2⟩ : neigh_key)⟩, ⟨3, 101, (Addr.add p301 5), cM.val x302⟩]) Ty99 rfl (At.whole _) rfl ?_
                    refine OJ.kld (d := 64) (y := .tmp 8) (cd := ((cI .u8).arr 6)) (j := 1) (b := b2) (o := 0) a3 (pend2 := [⟨6, 34, (pt b2 0), ((cI .u8).arr 6).val a3⟩, ⟨5, 99, (pt b8 0), c_neigh_key.val (⟨a1, a2⟩ : neigh_key)⟩, ⟨4, 99, (pt b8 0), c_neigh_key.val (⟨a1, a2⟩ : neigh_key)⟩, ⟨3, 101, (Addr.add p301 5), cM.val x302⟩]) Ty34 rfl (At.whole _) rfl ?_
                    refine OJ.build (d := 65) (T := 105) (parts := [(0, .tmp 63), (1, .tmp 64), (2, .const (.int .i64 3))]) (ps := [(0, c_neigh_key.val (⟨a1, a2⟩ : neigh_key)), (1, ((cI .u8).arr 6).val a3), (2, (cI .i64).val 3)]) (cd := c_neigh_entry) (z0 := z_neigh_entry) (⟨(⟨a1, a2⟩ : neigh_key), a3, 3, z_neigh_entry.age, z_neigh_entry.tries, z_neigh_entry.items⟩ : neigh_entry) Ty105 rfl (Filled.cons (cd := c_neigh_key) (q := (⟨a1, a2⟩ : neigh_key)) (o := 0) (by kernel_rfl) (Up_neigh_entry_key z_neigh_entry (⟨a1, a2⟩ : neigh_key)) (Filled.cons (cd := ((cI .u8).arr 6)) (q := a3) (o := 18) (by kernel_rfl) (Up_neigh_entry_mac (⟨(⟨a1, a2⟩ : neigh_key), z_neigh_entry.mac, z_neigh_entry.state, z_neigh_entry.age, z_neigh_entry.tries, z_neigh_entry.items⟩ : neigh_entry) a3) (Filled.cons (cd := (cI .i64)) (q := 3) (o := 24) (by kernel_rfl) (Up_neigh_entry_state (⟨(⟨a1, a2⟩ : neigh_key), a3, z_neigh_entry.state, z_neigh_entry.age, z_neigh_entry.tries, z_neigh_entry.items⟩ : neigh_entry) 3) Filled.nil))) ?_
                    refine OJ.newOf (d := 66) (op := (.box 105 (.tmp 65))) (cd := c_neigh_entry) (u := (⟨(⟨a1, a2⟩ : neigh_key), a3, 3, z_neigh_entry.age, z_neigh_entry.tries, z_neigh_entry.items⟩ : neigh_entry)) (owed := [⟨4, 99, (pt b8 0), c_neigh_key.val (⟨a1, a2⟩ : neigh_key)⟩, ⟨3, 101, (Addr.add p301 5), cM.val x302⟩]) (box_run (by kernel_rfl)) (fun b303 => ?_)
                    refine OW.known (j := 0) (q := (⟨a1, a2⟩ : neigh_key)) Ty99 rfl (At.whole _) ?_
                    refine OW.same Ty101 ?_
                    refine OW.nil ?_
                    refine OJ.mset (x := .tmp 61) (y := .tmp 62) (q := .tmp 66) (owed := []) Kt101 ?_
                    refine OW.nil ?_
                    refine OJ.nil ?_
                    refine SJ.sr 2 ?_
                    refine OJ.go 2 [(11, .int .i64 0), (10, Sl.v Sl.nil)] ?_
                    refine OJ.nil ?_
                    exact SJ.ret rfl (Res.run (ys := [Sl.v Sl.nil, .int .i64 0]) (.tmp (by kernel_rfl) (.tmp (by kernel_rfl) .nil)) rfl)
                  · refine SJ.sr 3 ?_
                    refine OJ.go 3 [(67, .bool (a4 == 1)), (69, .bool (a4 == 1)), (68, .int .i64 a4)] ?_
                    refine OJ.nil ?_
                    refine SJ.cond (t := (.tmp 67)) (b := (a4 == 1)) beq_iff_eq (fun hc343 => ?_) (fun hc343 => ?_)
                    · refine SJ.rg 17 ?_
                      refine OJ.go 4 [(73, .pointer r11.1), (72, .pointer r11.1), (71, .pointer r11.1), (70, .pointer r11.1)] ?_
                      refine OJ.kld (d := 74) (y := .tmp 8) (cd := ((cI .u8).arr 6)) (j := 1) (b := b2) (o := 0) a3 (pend2 := []) Ty34 rfl (At.whole _) rfl ?_
                      refine OJ.nilck (d := 75) (y := .tmp 70) (fun p322 => ?_)
                      refine OJ.go 1 [(76, .pointer (some (Addr.add p322 18)))] ?_
                      refine OJ.st (y := .tmp 76) (z := .tmp 74) (owed := []) Ty34 ?_
                      refine OW.nil ?_
                      refine OJ.nilck (d := 77) (y := .tmp 71) (fun p323 => ?_)
                      refine OJ.go 1 [(78, .pointer (some (Addr.add p323 24)))] ?_
                      refine OJ.st (y := .tmp 78) (z := .const (.int .i64 2)) (owed := []) Ty3 ?_
                      refine OW.nil ?_
                      refine OJ.nilck (d := 79) (y := .tmp 72) (fun p324 => ?_)
                      refine OJ.go 1 [(80, .pointer (some (Addr.add p324 25)))] ?_
                      refine OJ.st (y := .tmp 80) (z := .const (.int .i64 0)) (owed := []) Ty3 ?_
                      refine OW.nil ?_
                      refine OJ.nilck (d := 81) (y := .tmp 73) (fun p325 => ?_)
                      refine OJ.go 1 [(82, .pointer (some (Addr.add p325 26)))] ?_
                      refine OJ.st (y := .tmp 82) (z := .const (.int .i64 0)) (owed := []) Ty3 ?_
                      refine OW.nil ?_
                      refine OJ.nil ?_
                      refine SJ.inBlock ?_
                      refine SJ.sr 4 ?_
                      refine OJ.go 1 [(110, .pointer r11.1)] ?_
                      refine OJ.call (d := 111) (g := 49) (ats := #[100]) (args := [.tmp 110]) (owed := []) F49 (neigh_entry_take_ok r11.1) (fun r326 => ?_)
                      refine OW.nil ?_
                      refine OJ.go 2 [(11, .int .i64 0), (10, Sl.v r326)] ?_
                      refine OJ.nil ?_
                      exact SJ.ret rfl (Res.run (ys := [Sl.v r326, .int .i64 0]) (.tmp (by kernel_rfl) (.tmp (by kernel_rfl) .nil)) rfl)
                    · refine SJ.seq ?_
                      refine SJ.draw (id := 14) (kd := [0, 0, 0, 1, 0, 0, 0, 0, 0, 1, 1, 0, 0, 0]) (bef := [0, 1, 3, 7, 15, 31, 63, 127, 255, 511, 63, 2047, 4095, 8191]) (ord := [0, 1, 2, 3, 4, 5, 6, 7, 8, 9, 10, 11, 12, 13]) mixed ?_
                      refine OJ.go 1 [(84, .pointer r11.1)] ?_
                      refine OJ.nilck (d := 85) (y := .tmp 84) (fun p327 => ?_)
                      refine OJ.go 1 [(86, .pointer (some (Addr.add p327 24)))] ?_
                      refine OJ.ld (d := 87) (y := .tmp 86) (pend2 := fun x328 => [⟨3, 3, (Addr.add p327 24), (cI .i64).val x328⟩]) Ty3 (fun _ => rfl) (fun x328 => ?_)
                      refine OJ.go 2 [(89, .bool (x328 == 1)), (88, .bool (x328 == 1))] ?_
                      refine OJ.join (b := (x328 == 1)) [6, 7, 8, 9, 10, 11, 12] [13] [8, 13, 96] (fun y331 => [(8, .pointer (some (pt b2 0))), (13, .pointer r11.1), (96, .bool y331)]) [⟨10, 34, (pt b2 0), ((cI .u8).arr 6).val a3⟩, ⟨3, 3, (Addr.add p327 24), (cI .i64).val x328⟩] [9] (t := 89) beq_iff_eq (fun hp_ => ?_) (fun hp_ => ?_) (fun _ _ _ _ _ _ h_ => h_) (fun y331 => ?_)
                      · refine OJ.go 7 [(96, .bool true), (95, undef), (94, undef), (93, undef), (92, undef), (91, undef), (90, undef)] ?_
                        exact OJ.nil ⟨(Cov.mem (Cov.keep (List.mem_of_getElem? (i := 1) rfl) Cov.nil)), rfl, _, rfl, by kernel_rfl⟩
                      · refine OJ.go 1 [(90, .pointer r11.1)] ?_
                        refine OJ.nilck (d := 91) (y := .tmp 90) (fun p329 => ?_)
                        refine OJ.go 1 [(92, .pointer (some (Addr.add p329 18)))] ?_
                        refine OJ.ld (d := 93) (y := .tmp 92) (pend2 := fun x330 => [⟨9, 34, (Addr.add p329 18), ((cI .u8).arr 6).val x330⟩, ⟨3, 3, (Addr.add p327 24), (cI .i64).val x328⟩]) Ty34 (fun _ => rfl) (fun x330 => ?_)
                        refine OJ.kld (d := 94) (y := .tmp 8) (cd := ((cI .u8).arr 6)) (j := 1) (b := b2) (o := 0) a3 (pend2 := [⟨10, 34, (pt b2 0), ((cI .u8).arr 6).val a3⟩, ⟨9, 34, (Addr.add p329 18), ((cI .u8).arr 6).val x330⟩, ⟨3, 3, (Addr.add p327 24), (cI .i64).val x328⟩]) Ty34 rfl (At.whole _) rfl ?_
                        refine OJ.neq (d := 95) (T := 34) (yT := 34) (y := .tmp 93) (z := .tmp 94) (cd := ((cI .u8).arr 6)) (p := x330) (q := a3) rfl Eq34 ?_
                        refine OJ.go 1 [(96, .bool (!eqv x330 a3))] ?_
                        exact OJ.nil ⟨(Cov.mem (Cov.keep (List.mem_of_getElem? (i := 0) rfl) (Cov.drop (List.mem_of_getElem? (i := 0) rfl) (Cov.keep (List.mem_of_getElem? (i := 1) rfl) Cov.nil)))), rfl, _, rfl, by kernel_rfl⟩
                      · refine OJ.go 1 [(83, .bool y331)] ?_
                        refine OJ.nil ?_
                        refine SJ.cond (t := (.tmp 83)) (b := y331) Iff.rfl (fun hc342 => ?_) (fun hc342 => ?_)
                        · refine SJ.rg 17 ?_
                          refine OJ.go 4 [(100, .pointer r11.1), (99, .pointer r11.1), (98, .pointer r11.1), (97, .pointer r11.1)] ?_
                          refine OJ.kld (d := 101) (y := .tmp 8) (cd := ((cI .u8).arr 6)) (j := 1) (b := b2) (o := 0) a3 (pend2 := []) Ty34 rfl (At.whole _) rfl ?_
                          refine OJ.nilck (d := 102) (y := .tmp 97) (fun p336 => ?_)
                          refine OJ.go 1 [(103, .pointer (some (Addr.add p336 18)))] ?_
                          refine OJ.st (y := .tmp 103) (z := .tmp 101) (owed := []) Ty34 ?_
                          refine OW.nil ?_
                          refine OJ.nilck (d := 104) (y := .tmp 98) (fun p337 => ?_)
                          refine OJ.go 1 [(105, .pointer (some (Addr.add p337 24)))] ?_
                          refine OJ.st (y := .tmp 105) (z := .const (.int .i64 3)) (owed := []) Ty3 ?_
                          refine OW.nil ?_
                          refine OJ.nilck (d := 106) (y := .tmp 99) (fun p338 => ?_)
                          refine OJ.go 1 [(107, .pointer (some (Addr.add p338 25)))] ?_
                          refine OJ.st (y := .tmp 107) (z := .const (.int .i64 0)) (owed := []) Ty3 ?_
                          refine OW.nil ?_
                          refine OJ.nilck (d := 108) (y := .tmp 100) (fun p339 => ?_)
                          refine OJ.go 1 [(109, .pointer (some (Addr.add p339 26)))] ?_
                          refine OJ.st (y := .tmp 109) (z := .const (.int .i64 0)) (owed := []) Ty3 ?_
                          refine OW.nil ?_
                          refine OJ.nil ?_
                          refine SJ.inBlock ?_
                          refine SJ.sr 4 ?_
                          refine OJ.go 1 [(110, .pointer r11.1)] ?_
                          refine OJ.call (d := 111) (g := 49) (ats := #[100]) (args := [.tmp 110]) (owed := []) F49 (neigh_entry_take_ok r11.1) (fun r340 => ?_)
                          refine OW.nil ?_
                          refine OJ.go 2 [(11, .int .i64 0), (10, Sl.v r340)] ?_
                          refine OJ.nil ?_
                          exact SJ.ret rfl (Res.run (ys := [Sl.v r340, .int .i64 0]) (.tmp (by kernel_rfl) (.tmp (by kernel_rfl) .nil)) rfl)
                        · refine SJ.skip ?_
                          refine SJ.inBlock ?_
                          refine SJ.sr 4 ?_
                          refine OJ.go 1 [(110, .pointer r11.1)] ?_
                          refine OJ.call (d := 111) (g := 49) (ats := #[100]) (args := [.tmp 110]) (owed := []) F49 (neigh_entry_take_ok r11.1) (fun r341 => ?_)
                          refine OW.nil ?_
                          refine OJ.go 2 [(11, .int .i64 0), (10, Sl.v r341)] ?_
                          refine OJ.nil ?_
                          exact SJ.ret rfl (Res.run (ys := [Sl.v r341, .int .i64 0]) (.tmp (by kernel_rfl) (.tmp (by kernel_rfl) .nil)) rfl)

/-! ### weir/weirlaw15.sameInts: function 23 -/
noncomputable def weirlaw15_sameInts.B : Code := (Try.f23.body).getD .skip
noncomputable def weirlaw15_sameInts.cx : Fx := ⟨Try.prog, 23, Try.f23⟩
noncomputable def weirlaw15_sameInts.out (r_ : Bool) : Value := .bool r_
noncomputable def weirlaw15_sameInts.F0 (r_ : Bool) : Reach := .ret (weirlaw15_sameInts.out r_)
noncomputable def weirlaw15_sameInts.F1 (a0 : Sl) (a1 : Sl) : (LS Int Bool) → Reach := loopF [.inLoop (c1 (c1 (c2 (c1 (c2 (c2 weirlaw15_sameInts.B)))))), .inBlock 0, .code (c2 (c2 (c2 weirlaw15_sameInts.B)))] (fun s_ : Int => [(0, Sl.v a0), (1, Sl.v a1), (5, .int .i64 s_)]) (fun s_ : Int => []) weirlaw15_sameInts.F0
noncomputable def weirlaw15_sameInts.L1 (a0 : Sl) (a1 : Sl) (s1 : Int) : M (LS Int Bool) :=
  if s1 < (a0.len : Int) then
    draw >>= fun _ =>
    idx a0.a a0.len s1 1 >>= fun p8 =>
    ld (cI .i64) p8 >>= fun x9 =>
    idx a1.a a1.len s1 1 >>= fun p10 =>
    ld (cI .i64) p10 >>= fun x11 =>
    if x9 ≠ x11 then
      pure (LS.done false)
    else
      pure (LS.next (IntKind.wrap .i64 (s1 + 1)))
  else
    pure (LS.done true)
theorem weirlaw15_sameInts.L1_ok (a0 : Sl) (a1 : Sl) (s1 : Int) :
    SJ weirlaw15_sameInts.cx [.code (c1 (c1 (c2 (c1 (c2 (c2 weirlaw15_sameInts.B)))))), .inLoop (c1 (c1 (c2 (c1 (c2 (c2 weirlaw15_sameInts.B)))))), .inBlock 0, .code (c2 (c2 (c2 weirlaw15_sameInts.B)))] [(0, Sl.v a0), (1, Sl.v a1), (5, .int .i64 s1)] [] (weirlaw15_sameInts.L1 a0 a1 s1) (weirlaw15_sameInts.F1 a0 a1) := by
  unfold weirlaw15_sameInts.L1
  refine SJ.seq ?_
  refine SJ.sr 4 ?_
  refine OJ.go 4 [(14, .bool (decide (s1 < (a0.len : Int)))), (13, .int .i64 (a0.len : Int)), (12, Sl.v a0), (11, .int .i64 s1)] ?_
  refine OJ.nil ?_
  refine SJ.cond (t := (.tmp 14)) (b := decide (s1 < (a0.len : Int))) decide_eq_true_iff (fun hc13 => ?_) (fun hc13 => ?_)
  · refine SJ.skip ?_
    refine SJ.seq ?_
    refine SJ.block (id := 1) ?_
    refine SJ.seq ?_
    refine SJ.draw (id := 6) (kd := [0, 0, 0, 1, 0, 0, 0, 1, 0]) (bef := [0, 0, 3, 7, 0, 0, 48, 112, 255]) (ord := [0, 1, 2, 3, 4, 5, 6, 7, 8]) mixed ?_
    refine OJ.go 2 [(18, .int .i64 s1), (17, Sl.v a0)] ?_
    refine OJ.idxS (d := 19) (T := 43) (y := .tmp 17) (j := .tmp 18) (E := 3) (cap := a0.cap) (k := .i64) (fun p8 => ?_)
    refine OJ.ld (d := 20) (y := .tmp 19) (pend2 := fun x9 => [⟨3, 3, p8, (cI .i64).val x9⟩]) Ty3 (fun _ => rfl) (fun x9 => ?_)
    refine OJ.go 2 [(22, .int .i64 s1), (21, Sl.v a1)] ?_
    refine OJ.idxS (d := 23) (T := 43) (y := .tmp 21) (j := .tmp 22) (E := 3) (cap := a1.cap) (k := .i64) (fun p10 => ?_)
    refine OJ.ld (d := 24) (y := .tmp 23) (pend2 := fun x11 => [⟨7, 3, p10, (cI .i64).val x11⟩, ⟨3, 3, p8, (cI .i64).val x9⟩]) Ty3 (fun _ => rfl) (fun x11 => ?_)
    refine OJ.go 1 [(25, .bool (x9 != x11))] ?_
    refine OJ.nil ?_
    refine SJ.cond (t := (.tmp 25)) (b := (x9 != x11)) bne_iff_ne (fun hc12 => ?_) (fun hc12 => ?_)
    · refine SJ.sr 1 ?_
      refine OJ.go 1 [(4, .bool false)] ?_
      refine OJ.nil ?_
      exact SJ.ret rfl (Res.run (ys := [.bool false]) (.tmp (by kernel_rfl) .nil) rfl)
    · refine SJ.skip ?_
      refine SJ.inBlock ?_
      refine SJ.rg 3 ?_
      refine OJ.go 3 [(5, .int .i64 (IntKind.wrap .i64 (s1 + 1))), (16, .int .i64 (IntKind.wrap .i64 (s1 + 1))), (15, .int .i64 s1)] ?_
      refine OJ.nil ?_
      exact SJ.at_ [0, 1, 5] rfl
  · refine SJ.exit (id := 0) (by rfl) ?_
    refine SJ.sr 1 ?_
    refine OJ.go 1 [(4, .bool true)] ?_
    refine OJ.nil ?_
    exact SJ.ret rfl (Res.run (ys := [.bool true]) (.tmp (by kernel_rfl) .nil) rfl)
noncomputable def weirlaw15_sameInts (a0 : Sl) (a1 : Sl) : M Bool :=
  if (a0.len : Int) ≠ (a1.len : Int) then
    pure false
  else
    loopM (fun s_ : Int => weirlaw15_sameInts.L1 a0 a1 s_) 0
theorem weirlaw15_sameInts_ok (a0 : Sl) (a1 : Sl) : Ref Try.prog 23 [Sl.v a0, Sl.v a1] (weirlaw15_sameInts a0 a1) weirlaw15_sameInts.out := by
  refine Ref.of (cd := weirlaw15_sameInts.B) Try.func23 ?_
  show SJ weirlaw15_sameInts.cx [.code weirlaw15_sameInts.B] [(0, Sl.v a0), (1, Sl.v a1)] [] (weirlaw15_sameInts a0 a1) weirlaw15_sameInts.F0
  unfold weirlaw15_sameInts
  refine SJ.sr 1 ?_
  refine OJ.go 1 [(4, .bool false)] ?_
  refine OJ.nil ?_
  refine SJ.seq ?_
  refine SJ.sr 5 ?_
  refine OJ.go 5 [(10, .bool ((a0.len : Int) != (a1.len : Int))), (9, .int .i64 (a1.len : Int)), (8, Sl.v a1), (7, .int .i64 (a0.len : Int)), (6, Sl.v a0)] ?_
  refine OJ.nil ?_
  refine SJ.cond (t := (.tmp 10)) (b := ((a0.len : Int) != (a1.len : Int))) bne_iff_ne (fun hc14 => ?_) (fun hc14 => ?_)
  · refine SJ.sr 1 ?_
    refine OJ.go 1 [(4, .bool false)] ?_
    refine OJ.nil ?_
    exact SJ.ret rfl (Res.run (ys := [.bool false]) (.tmp (by kernel_rfl) .nil) rfl)
  · refine SJ.skip ?_
    refine SJ.seq ?_
    refine SJ.sr 1 ?_
    refine OJ.go 1 [(5, .int .i64 0)] ?_
    refine OJ.nil ?_
    refine SJ.block (id := 0) ?_
    exact SJ.loop (fun s_ : Int => [(0, Sl.v a0), (1, Sl.v a1), (5, .int .i64 s_)]) (fun s_ : Int => []) [0, 1, 5] rfl (fun _ _ => rfl) (fun s_ => weirlaw15_sameInts.L1_ok a0 a1 s_)

/-! ### weir/weirlaw15.first: function 14 -/
noncomputable def weirlaw15_first.B : Code := (Try.f14.body).getD .skip
noncomputable def weirlaw15_first.cx : Fx := ⟨Try.prog, 14, Try.f14⟩
noncomputable def weirlaw15_first.out (r_ : Bool) : Value := .bool r_
noncomputable def weirlaw15_first.F0 (r_ : Bool) : Reach := .ret (weirlaw15_first.out r_)
noncomputable def weirlaw15_first (a0 : (Option Addr)) : M Bool :=
  weirlaw15_ip 200 >>= fun r1 =>
  slot 32 >>= fun b2 =>
  slot 34 >>= fun b3 =>
  neigh_Cache_Want a0 7 r1 5 >>= fun r4 =>
  slot 34 >>= fun b5 =>
  neigh_Cache_Learn a0 7 r1 (⟨[2, 0, 0, 0, 0, 9], rfl⟩ : (Vec Int 6)) 1 >>= fun r6 =>
  neigh_Cache_Want a0 7 r1 6 >>= fun r7 =>
  slot 34 >>= fun b8 =>
  (if r4.2.1 = 3 then
      weirlaw15_num r4.2.2 >>= fun r9 =>
      pure (r9 == 0)
    else
      pure false) >>= fun y10 =>
  (if y10 = true then
      weirlaw15_num r6.2 >>= fun r11 =>
      pure (r11 == 0)
    else
      pure false) >>= fun y12 =>
  (if y12 = true then
      newv 3 ((cI .i64).arr 1) (⟨[5], rfl⟩ : Vec Int 1) >>= fun b13 =>
      weirlaw15_sameInts r6.1 (⟨some (pt b13 0), 1, 1⟩ : Sl) >>= fun r14 =>
      pure r14
    else
      pure false) >>= fun y15 =>
  (if y15 = true then
      pure (eqv r7.1 (⟨[2, 0, 0, 0, 0, 9], rfl⟩ : (Vec Int 6)))
    else
      pure false) >>= fun y16 =>
  (if y16 = true then
      pure (r7.2.1 == 1)
    else
      pure false) >>= fun y17 =>
  (if y17 = true then
      weirlaw15_num r7.2.2 >>= fun r18 =>
      pure (r18 == 0)
    else
      pure false) >>= fun y19 =>
  pure y19
theorem weirlaw15_first_ok (a0 : (Option Addr)) : Ref Try.prog 14 [.pointer a0] (weirlaw15_first a0) weirlaw15_first.out := by
  refine Ref.of (cd := weirlaw15_first.B) Try.func14 ?_
  show SJ weirlaw15_first.cx [.code weirlaw15_first.B] [(0, .pointer a0)] [] (weirlaw15_first a0) weirlaw15_first.F0
  unfold weirlaw15_first
  refine SJ.sr 1 ?_
  refine OJ.go 1 [(2, .bool false)] ?_
  refine OJ.nil ?_
  refine SJ.sr 3 ?_
  refine OJ.call (d := 13) (g := 45) (ats := #[5]) (args := [.const (.int .u8 200)]) (owed := []) F45 (weirlaw15_ip_ok 200) (fun r1 => ?_)
  refine OW.nil ?_
  refine OJ.slotOf (d := 3) (op := (.alloc 32)) (cd := c_api_IP) (u := z_api_IP) (owed := []) (alloc_run Ty32) (fun b2 => ?_)
  refine OW.nil ?_
  refine OJ.kst (y := .tmp 3) (z := .tmp 13) (cd := c_api_IP) (u := r1) (j := 0) (b := b2) (o := 0) (c_api_IP.enc r1) (owed := []) Ty32 rfl (Upd.whole ((Cod.len _ _).trans (Cod.len _ _).symm)) rfl ?_
  refine OW.nil ?_
  refine OJ.nil ?_
  refine SJ.sr 3 ?_
  refine OJ.build (d := 14) (T := 34) (parts := [(0, .const (.int .u8 2)), (1, .const (.int .u8 0)), (2, .const (.int .u8 0)), (3, .const (.int .u8 0)), (4, .const (.int .u8 0)), (5, .const (.int .u8 9))]) (ps := [(0, (cI .u8).val 2), (1, (cI .u8).val 0), (2, (cI .u8).val 0), (3, (cI .u8).val 0), (4, (cI .u8).val 0), (5, (cI .u8).val 9)]) (cd := ((cI .u8).arr 6)) (z0 := (Vec.rep 6 0)) (⟨[2, 0, 0, 0, 0, 9], rfl⟩ : (Vec Int 6)) Ty34 rfl (Filled.cons (cd := (cI .u8)) (q := 2) (o := 0) (by kernel_rfl) (Upd.arr (i := 0) (by decide) (by decide)) (Filled.cons (cd := (cI .u8)) (q := 0) (o := 1) (by kernel_rfl) (Upd.arr (i := 1) (by decide) (by decide)) (Filled.cons (cd := (cI .u8)) (q := 0) (o := 2) (by kernel_rfl) (Upd.arr (i := 2) (by decide) (by decide)) (Filled.cons (cd := (cI .u8)) (q := 0) (o := 3) (by kernel_rfl) (Upd.arr (i := 3) (by decide) (by decide)) (Filled.cons (cd := (cI .u8)) (q := 0) (o := 4) (by kernel_rfl) (Upd.arr (i := 4) (by decide) (by decide)) (Filled.cons (cd := (cI .u8)) (q := 9) (o := 5) (by kernel_rfl) (Upd.arr (i := 5) (by decide) (by decide)) Filled.nil)))))) ?_
  refine OJ.slotOf (d := 4) (op := (.alloc 34)) (cd := ((cI .u8).arr 6)) (u := (Vec.rep 6 0)) (owed := []) (alloc_run Ty34) (fun b3 => ?_)
  refine OW.nil ?_
  refine OJ.kst (y := .tmp 4) (z := .tmp 14) (cd := ((cI .u8).arr 6)) (u := (⟨[2, 0, 0, 0, 0, 9], rfl⟩ : (Vec Int 6))) (j := 0) (b := b3) (o := 0) (((cI .u8).arr 6).enc (⟨[2, 0, 0, 0, 0, 9], rfl⟩ : (Vec Int 6))) (owed := []) Ty34 rfl (Upd.whole ((Cod.len _ _).trans (Cod.len _ _).symm)) rfl ?_
  refine OW.nil ?_
  refine OJ.nil ?_
  refine SJ.sr 11 ?_
  refine OJ.go 1 [(16, .pointer a0)] ?_
  refine OJ.kld (d := 17) (y := .tmp 3) (cd := c_api_IP) (j := 1) (b := b2) (o := 0) r1 (pend2 := []) Ty32 rfl (At.whole _) rfl ?_
  refine OJ.call (d := 18) (g := 15) (ats := #[25, 3, 32, 3]) (args := [.tmp 16, .const (.int .i64 7), .tmp 17, .const (.int .i64 5)]) (owed := []) F15 (neigh_Cache_Want_ok a0 7 r1 5) (fun r4 => ?_)
  refine OW.nil ?_
  refine OJ.go 4 [(21, .int .i64 r4.2.2), (20, .int .i64 r4.2.1), (19, ((cI .u8).arr 6).val r4.1), (15, .tuple #[((cI .u8).arr 6).val r4.1, .int .i64 r4.2.1, .int .i64 r4.2.2])] ?_
  refine OJ.slotOf (d := 5) (op := (.alloc 34)) (cd := ((cI .u8).arr 6)) (u := (Vec.rep 6 0)) (owed := []) (alloc_run Ty34) (fun b5 => ?_)
  refine OW.nil ?_
  refine OJ.kst (y := .tmp 5) (z := .tmp 19) (cd := ((cI .u8).arr 6)) (u := r4.1) (j := 0) (b := b5) (o := 0) (((cI .u8).arr 6).enc r4.1) (owed := []) Ty34 rfl (Upd.whole ((Cod.len _ _).trans (Cod.len _ _).symm)) rfl ?_
  refine OW.nil ?_
  refine OJ.go 2 [(7, .int .i64 r4.2.2), (6, .int .i64 r4.2.1)] ?_
  refine OJ.nil ?_
  refine SJ.sr 9 ?_
  refine OJ.go 1 [(23, .pointer a0)] ?_
  refine OJ.kld (d := 24) (y := .tmp 3) (cd := c_api_IP) (j := 2) (b := b2) (o := 0) r1 (pend2 := []) Ty32 rfl (At.whole _) rfl ?_
  refine OJ.kld (d := 25) (y := .tmp 4) (cd := ((cI .u8).arr 6)) (j := 1) (b := b3) (o := 0) (⟨[2, 0, 0, 0, 0, 9], rfl⟩ : (Vec Int 6)) (pend2 := []) Ty34 rfl (At.whole _) rfl ?_
  refine OJ.call (d := 26) (g := 18) (ats := #[25, 3, 32, 34, 3]) (args := [.tmp 23, .const (.int .i64 7), .tmp 24, .tmp 25, .const (.int .i64 1)]) (owed := []) F18 (neigh_Cache_Learn_ok a0 7 r1 (⟨[2, 0, 0, 0, 0, 9], rfl⟩ : (Vec Int 6)) 1) (fun r6 => ?_)
  refine OW.nil ?_
  refine OJ.go 5 [(9, .int .i64 r6.2), (8, Sl.v r6.1), (28, .int .i64 r6.2), (27, Sl.v r6.1), (22, .tuple #[Sl.v r6.1, .int .i64 r6.2])] ?_
  refine OJ.nil ?_
  refine SJ.sr 11 ?_
  refine OJ.go 1 [(30, .pointer a0)] ?_
  refine OJ.kld (d := 31) (y := .tmp 3) (cd := c_api_IP) (j := 2) (b := b2) (o := 0) r1 (pend2 := []) Ty32 rfl (At.whole _) rfl ?_
  refine OJ.call (d := 32) (g := 15) (ats := #[25, 3, 32, 3]) (args := [.tmp 30, .const (.int .i64 7), .tmp 31, .const (.int .i64 6)]) (owed := []) F15 (neigh_Cache_Want_ok a0 7 r1 6) (fun r7 => ?_)
  refine OW.nil ?_
  refine OJ.go 4 [(35, .int .i64 r7.2.2), (34, .int .i64 r7.2.1), (33, ((cI .u8).arr 6).val r7.1), (29, .tuple #[((cI .u8).arr 6).val r7.1, .int .i64 r7.2.1, .int .i64 r7.2.2])] ?_
  refine OJ.slotOf (d := 10) (op := (.alloc 34)) (cd := ((cI .u8).arr 6)) (u := (Vec.rep 6 0)) (owed := []) (alloc_run Ty34) (fun b8 => ?_)
  refine OW.nil ?_
  refine OJ.kst (y := .tmp 10) (z := .tmp 33) (cd := ((cI .u8).arr 6)) (u := r7.1) (j := 0) (b := b8) (o := 0) (((cI .u8).arr 6).enc r7.1) (owed := []) Ty34 rfl (Upd.whole ((Cod.len _ _).trans (Cod.len _ _).symm)) rfl ?_
  refine OW.nil ?_
  refine OJ.go 2 [(12, .int .i64 r7.2.2), (11, .int .i64 r7.2.1)] ?_
  refine OJ.nil ?_
  refine SJ.sr 32 ?_
  refine OJ.go 3 [(38, .bool (r4.2.1 == 3)), (37, .bool (r4.2.1 == 3)), (36, .int .i64 r4.2.1)] ?_
  refine OJ.join (b := (r4.2.1 == 3)) [3, 4, 5, 6] [7, 8, 9, 10, 11, 12, 13, 14, 15, 16, 17, 18, 19, 20, 21, 22, 23, 24, 25, 26, 27, 28, 29, 30, 31] [4, 8, 9, 10, 11, 12, 42] (fun y10 => [(4, .pointer (some (pt b3 0))), (8, Sl.v r6.1), (9, .int .i64 r6.2), (10, .pointer (some (pt b8 0))), (11, .int .i64 r7.2.1), (12, .int .i64 r7.2.2), (42, .bool y10)]) [] [] (t := 38) beq_iff_eq (fun hp_ => ?_) (fun hp_ => ?_) (fun _ _ _ _ _ _ h_ => h_) (fun y10 => ?_)
  · refine OJ.go 1 [(39, .int .i64 r4.2.2)] ?_
    refine OJ.call (d := 40) (g := 16) (ats := #[37]) (args := [.tmp 39]) (owed := []) F16 (weirlaw15_num_ok r4.2.2) (fun r9 => ?_)
    refine OW.nil ?_
    refine OJ.go 2 [(42, .bool (r9 == 0)), (41, .bool (r9 == 0))] ?_
    exact OJ.nil ⟨(Cov.mem Cov.nil), rfl, _, rfl, by kernel_rfl⟩
  · refine OJ.go 4 [(42, .bool false), (41, undef), (40, undef), (39, undef)] ?_
    exact OJ.nil ⟨(Cov.mem Cov.nil), rfl, _, rfl, by kernel_rfl⟩
  · refine OJ.go 1 [(43, .bool y10)] ?_
    refine OJ.join (b := y10) [8, 9, 10, 11] [12, 13, 14, 15, 16, 17, 18, 19, 20, 21, 22, 23, 24, 25, 26, 27, 28, 29, 30, 31] [4, 8, 10, 11, 12, 47] (fun y12 => [(4, .pointer (some (pt b3 0))), (8, Sl.v r6.1), (10, .pointer (some (pt b8 0))), (11, .int .i64 r7.2.1), (12, .int .i64 r7.2.2), (47, .bool y12)]) [] [] (t := 43) Iff.rfl (fun hp_ => ?_) (fun hp_ => ?_) (fun _ _ _ _ _ _ h_ => h_) (fun y12 => ?_)
    · refine OJ.go 1 [(44, .int .i64 r6.2)] ?_
      refine OJ.call (d := 45) (g := 16) (ats := #[37]) (args := [.tmp 44]) (owed := []) F16 (weirlaw15_num_ok r6.2) (fun r11 => ?_)
      refine OW.nil ?_
      refine OJ.go 2 [(47, .bool (r11 == 0)), (46, .bool (r11 == 0))] ?_
      exact OJ.nil ⟨(Cov.mem Cov.nil), rfl, _, rfl, by kernel_rfl⟩
    · refine OJ.go 4 [(47, .bool false), (46, undef), (45, undef), (44, undef)] ?_
      exact OJ.nil ⟨(Cov.mem Cov.nil), rfl, _, rfl, by kernel_rfl⟩
    · refine OJ.go 1 [(48, .bool y12)] ?_
      refine OJ.join (b := y12) [13, 14, 15, 16] [17, 18, 19, 20, 21, 22, 23, 24, 25, 26, 27, 28, 29, 30, 31] [4, 10, 11, 12, 52] (fun y15 => [(4, .pointer (some (pt b3 0))), (10, .pointer (some (pt b8 0))), (11, .int .i64 r7.2.1), (12, .int .i64 r7.2.2), (52, .bool y15)]) [] [] (t := 48) Iff.rfl (fun hp_ => ?_) (fun hp_ => ?_) (fun _ _ _ _ _ _ h_ => h_) (fun y15 => ?_)
      · refine OJ.go 1 [(49, Sl.v r6.1)] ?_
        refine OJ.rowNew (d := 50) (t := 43) (parts := [(0, .const (.int .i64 5))]) (ps := [(0, (cI .i64).val 5)]) (cd := (cI .i64)) (owed := []) Ty3 (Filled.cons (cd := (cI .i64)) (q := 5) (o := 0) rfl (Upd.arr (i := 0) (by decide) (by decide)) Filled.nil) (fun b13 => ?_)
        refine OW.nil ?_
        refine OJ.call (d := 51) (g := 23) (ats := #[43, 43]) (args := [.tmp 49, .tmp 50]) (owed := []) F23 (weirlaw15_sameInts_ok r6.1 (⟨some (pt b13 0), 1, 1⟩ : Sl)) (fun r14 => ?_)
        refine OW.nil ?_
        refine OJ.go 1 [(52, .bool r14)] ?_
        exact OJ.nil ⟨(Cov.mem Cov.nil), rfl, _, rfl, by kernel_rfl⟩
      · refine OJ.go 4 [(52, .bool false), (51, undef), (50, undef), (49, undef)] ?_
        exact OJ.nil ⟨(Cov.mem Cov.nil), rfl, _, rfl, by kernel_rfl⟩
      · refine OJ.go 1 [(53, .bool y15)] ?_
        refine OJ.join (b := y15) [18, 19, 20, 21] [22, 23, 24, 25, 26, 27, 28, 29, 30, 31] [11, 12, 57] (fun y16 => [(11, .int .i64 r7.2.1), (12, .int .i64 r7.2.2), (57, .bool y16)]) [] [] (t := 53) Iff.rfl (fun hp_ => ?_) (fun hp_ => ?_) (fun _ _ _ _ _ _ h_ => h_) (fun y16 => ?_)
        · refine OJ.kld (d := 54) (y := .tmp 10) (cd := ((cI .u8).arr 6)) (j := 0) (b := b8) (o := 0) r7.1 (pend2 := []) Ty34 rfl (At.whole _) rfl ?_
          refine OJ.kld (d := 55) (y := .tmp 4) (cd := ((cI .u8).arr 6)) (j := 2) (b := b3) (o := 0) (⟨[2, 0, 0, 0, 0, 9], rfl⟩ : (Vec Int 6)) (pend2 := []) Ty34 rfl (At.whole _) rfl ?_
          refine OJ.eql (d := 56) (T := 34) (yT := 34) (y := .tmp 54) (z := .tmp 55) (cd := ((cI .u8).arr 6)) (p := r7.1) (q := (⟨[2, 0, 0, 0, 0, 9], rfl⟩ : (Vec Int 6))) rfl Eq34 ?_
          refine OJ.go 1 [(57, .bool (eqv r7.1 (⟨[2, 0, 0, 0, 0, 9], rfl⟩ : (Vec Int 6))))] ?_
          exact OJ.nil ⟨(Cov.mem Cov.nil), rfl, _, rfl, by kernel_rfl⟩
        · refine OJ.go 4 [(57, .bool false), (56, undef), (55, undef), (54, undef)] ?_
          exact OJ.nil ⟨(Cov.mem Cov.nil), rfl, _, rfl, by kernel_rfl⟩
        · refine OJ.go 1 [(58, .bool y16)] ?_
          refine OJ.join (b := y16) [23, 24, 25] [26, 27, 28, 29, 30, 31] [12, 61] (fun y17 => [(12, .int .i64 r7.2.2), (61, .bool y17)]) [] [] (t := 58) Iff.rfl (fun hp_ => ?_) (fun hp_ => ?_) (fun _ _ _ _ _ _ h_ => h_) (fun y17 => ?_)
          · refine OJ.go 3 [(61, .bool (r7.2.1 == 1)), (60, .bool (r7.2.1 == 1)), (59, .int .i64 r7.2.1)] ?_
            exact OJ.nil ⟨(Cov.mem Cov.nil), rfl, _, rfl, by kernel_rfl⟩
          · refine OJ.go 3 [(61, .bool false), (60, undef), (59, undef)] ?_
            exact OJ.nil ⟨(Cov.mem Cov.nil), rfl, _, rfl, by kernel_rfl⟩
          · refine OJ.go 1 [(62, .bool y17)] ?_
            refine OJ.join (b := y17) [27, 28, 29, 30] [31] [66] (fun y19 => [(66, .bool y19)]) [] [] (t := 62) Iff.rfl (fun hp_ => ?_) (fun hp_ => ?_) (fun _ _ _ _ _ _ h_ => h_) (fun y19 => ?_)
            · refine OJ.go 1 [(63, .int .i64 r7.2.2)] ?_
              refine OJ.call (d := 64) (g := 16) (ats := #[37]) (args := [.tmp 63]) (owed := []) F16 (weirlaw15_num_ok r7.2.2) (fun r18 => ?_)
              refine OW.nil ?_
              refine OJ.go 2 [(66, .bool (r18 == 0)), (65, .bool (r18 == 0))] ?_
              exact OJ.nil ⟨(Cov.mem Cov.nil), rfl, _, rfl, by kernel_rfl⟩
            · refine OJ.go 4 [(66, .bool false), (65, undef), (64, undef), (63, undef)] ?_
              exact OJ.nil ⟨(Cov.mem Cov.nil), rfl, _, rfl, by kernel_rfl⟩
            · refine OJ.go 1 [(2, .bool y19)] ?_
              refine OJ.nil ?_
              exact SJ.ret rfl (Res.run (ys := [.bool y19]) (.tmp (by kernel_rfl) .nil) rfl)

/-! ### (*weir/weirlaw3.Ints).Keep: function 24 -/
noncomputable def weirlaw3_Ints_Keep.B : Code := (Try.f24.body).getD .skip
noncomputable def weirlaw3_Ints_Keep.cx : Fx := ⟨Try.prog, 24, Try.f24⟩
noncomputable def weirlaw3_Ints_Keep.out (r_ : Unit) : Value := .tuple #[]
noncomputable def weirlaw3_Ints_Keep.F0 (r_ : Unit) : Reach := .ret (weirlaw3_Ints_Keep.out r_)
noncomputable def weirlaw3_Ints_Keep (a0 : (Option Addr)) (a1 : Sl) : M Unit :=
  appS (cI .i64) 3 8 0 Sl.nil a1 >>= fun r1 =>
  nilck a0 >>= fun p2 =>
  ld cL p2 >>= fun x3 =>
  slot 43 >>= fun b4 =>
  appl cL 43 24 Sl.nil x3 [a1] >>= fun r5 =>
  nilck a0 >>= fun p6 =>
  st cL p6 r5 >>= fun _ =>
  nilck a0 >>= fun p7 =>
  ld cL (Addr.add p7 1) >>= fun x8 =>
  slot 43 >>= fun b9 =>
  appl cL 43 24 Sl.nil x8 [r1] >>= fun r10 =>
  nilck a0 >>= fun p11 =>
  st cL (Addr.add p11 1) r10 >>= fun _ =>
  pure ()
theorem weirlaw3_Ints_Keep_ok (a0 : (Option Addr)) (a1 : Sl) : Ref Try.prog 24 [.pointer a0, Sl.v a1] (weirlaw3_Ints_Keep a0 a1) weirlaw3_Ints_Keep.out := by
  refine Ref.of (cd := weirlaw3_Ints_Keep.B) Try.func24 ?_
  show SJ weirlaw3_Ints_Keep.cx [.code weirlaw3_Ints_Keep.B] [(0, .pointer a0), (1, Sl.v a1)] [] (weirlaw3_Ints_Keep a0 a1) weirlaw3_Ints_Keep.F0
  unfold weirlaw3_Ints_Keep
  refine SJ.sr 1 ?_
  refine OJ.go 1 [(4, Sl.v Sl.nil)] ?_
  refine OJ.nil ?_
  refine SJ.sr 4 ?_
  refine OJ.go 2 [(6, Sl.v a1), (5, Sl.v Sl.nil)] ?_
  refine OJ.appS (d := 7) (t := 43) (u := 43) (so := .tmp 5) (xo := .tmp 6) (owed := []) Ty3 (fun r1 => ?_)
  refine OW.nil ?_
  refine OJ.go 1 [(4, Sl.v r1)] ?_
  refine OJ.nil ?_
  refine SJ.sr 11 ?_
  refine OJ.go 2 [(9, .pointer a0), (8, .pointer a0)] ?_
  refine OJ.nilck (d := 10) (y := .tmp 9) (fun p2 => ?_)
  refine OJ.go 1 [(11, .pointer (some p2))] ?_
  refine OJ.ld (d := 12) (y := .tmp 11) (pend2 := fun x3 => []) Ty56 (fun _ => rfl) (fun x3 => ?_)
  refine OJ.go 1 [(13, Sl.v a1)] ?_
  refine OJ.rowSlot (d := 14) (t := 56) (parts := [(0, .tmp 13)]) (ps := [(0, cL.val a1)]) (cd := cL) (⟨[a1], rfl⟩ : Vec Sl 1) (owed := []) Ty43 (Filled.cons (cd := cL) (q := a1) (o := 0) rfl (Upd.arr (i := 0) (by decide) (by decide)) Filled.nil) (fun b4 => ?_)
  refine OW.nil ?_
  refine OJ.appl (d := 15) (t := 56) (u := 56) (so := .tmp 12) (xo := .tmp 14) (j := 0) (b := b4) (l := (cL.arr 1).enc (⟨[a1], rfl⟩ : Vec Sl 1)) (n := 1) (k := 1) [a1] (owed := []) Ty43 (by rfl) (Cod.arr_enc _ _ _) (by rfl) (fun r5 => ?_)
  refine OW.nil ?_
  refine OJ.nilck (d := 16) (y := .tmp 8) (fun p6 => ?_)
  refine OJ.go 1 [(17, .pointer (some p6))] ?_
  refine OJ.st (y := .tmp 17) (z := .tmp 15) (owed := []) Ty56 ?_
  refine OW.nil ?_
  refine OJ.nil ?_
  refine SJ.rg 11 ?_
  refine OJ.go 2 [(19, .pointer a0), (18, .pointer a0)] ?_
  refine OJ.nilck (d := 20) (y := .tmp 19) (fun p7 => ?_)
  refine OJ.go 1 [(21, .pointer (some (Addr.add p7 1)))] ?_
  refine OJ.ld (d := 22) (y := .tmp 21) (pend2 := fun x8 => []) Ty56 (fun _ => rfl) (fun x8 => ?_)
  refine OJ.go 1 [(23, Sl.v r1)] ?_
  refine OJ.rowSlot (d := 24) (t := 56) (parts := [(0, .tmp 23)]) (ps := [(0, cL.val r1)]) (cd := cL) (⟨[r1], rfl⟩ : Vec Sl 1) (owed := []) Ty43 (Filled.cons (cd := cL) (q := r1) (o := 0) rfl (Upd.arr (i := 0) (by decide) (by decide)) Filled.nil) (fun b9 => ?_)
  refine OW.nil ?_
  refine OJ.appl (d := 25) (t := 56) (u := 56) (so := .tmp 22) (xo := .tmp 24) (j := 0) (b := b9) (l := (cL.arr 1).enc (⟨[r1], rfl⟩ : Vec Sl 1)) (n := 1) (k := 1) [r1] (owed := []) Ty43 (by rfl) (Cod.arr_enc _ _ _) (by rfl) (fun r10 => ?_)
  refine OW.nil ?_
  refine OJ.nilck (d := 26) (y := .tmp 18) (fun p11 => ?_)
  refine OJ.go 1 [(27, .pointer (some (Addr.add p11 1)))] ?_
  refine OJ.st (y := .tmp 27) (z := .tmp 25) (owed := []) Ty56 ?_
  refine OW.nil ?_
  refine OJ.nil ?_
  exact SJ.end_ rfl (Res.run (ys := []) .nil rfl)

/-! ### (*weir/neigh.Cache).Tick: function 21 -/
noncomputable def neigh_Cache_Tick.B : Code := (Try.f21.body).getD .skip
noncomputable def neigh_Cache_Tick.cx : Fx := ⟨Try.prog, 21, Try.f21⟩
noncomputable def neigh_Cache_Tick.out (r_ : (Sl × Sl)) : Value := .tuple #[Sl.v r_.1, Sl.v r_.2]
noncomputable def neigh_Cache_Tick.F0 (r_ : (Sl × Sl)) : Reach := .ret (neigh_Cache_Tick.out r_)
noncomputable def neigh_Cache_Tick.F1 (a0 : (Option Addr)) (r1 : Sl) : (LS (Sl × Sl × Int) (Sl × Sl)) → Reach := loopF [.inLoop (c1 (c1 (c2 (c1 (c2 (c2 (c2 neigh_Cache_Tick.B))))))), .inBlock 0, .code (c2 (c2 (c2 (c2 neigh_Cache_Tick.B))))] (fun s_ : (Sl × Sl × Int) => [(0, .pointer a0), (4, Sl.v s_.1), (5, Sl.v s_.2.1), (9, Sl.v r1), (10, .int .i64 (r1.len : Int)), (11, .int .i64 s_.2.2)]) (fun s_ : (Sl × Sl × Int) => []) neigh_Cache_Tick.F0
noncomputable def neigh_Cache_Tick.K1 (a0 : (Option Addr)) (s2 : Sl) (s3 : Sl) (s4 : Int) (x243 : (Option Addr)) : M (LS (Sl × Sl × Int) (Sl × Sl)) :=
  draw >>= fun _ =>
  nilck x243 >>= fun p252 =>
  ld (cI .i64) (Addr.add p252 24) >>= fun x253 =>
  (if x253 = 2 then
      nilck x243 >>= fun p254 =>
      ld (cI .i64) (Addr.add p254 25) >>= fun x255 =>
      nilck a0 >>= fun p256 =>
      ld (cI .i64) (Addr.add p256 4) >>= fun x257 =>
      pure (x255 == x257)
    else
      pure false) >>= fun y258 =>
  if y258 = true then
    nilck x243 >>= fun p366 =>
    st (cI .i64) (Addr.add p366 24) 3 >>= fun _ =>
    nilck x243 >>= fun p367 =>
    st (cI .i64) (Addr.add p367 25) 0 >>= fun _ =>
    pure (LS.next (s2, s3, IntKind.wrap .i64 (s4 + 1)))
  else
    draw >>= fun _ =>
    nilck x243 >>= fun p368 =>
    ld (cI .i64) (Addr.add p368 24) >>= fun x369 =>
    (if x369 ≠ 1 then
        nilck x243 >>= fun p370 =>
        ld (cI .i64) (Addr.add p370 24) >>= fun x371 =>
        pure (x371 != 4)
      else
        pure false) >>= fun y372 =>
    (if y372 = true then
        pure true
      else
        nilck x243 >>= fun p373 =>
        ld (cI .i64) (Addr.add p373 25) >>= fun x374 =>
        nilck a0 >>= fun p375 =>
        ld (cI .i64) (Addr.add p375 2) >>= fun x376 =>
        pure (decide (x374 < x376))) >>= fun y377 =>
    if y377 = true then
      pure (LS.next (s2, s3, IntKind.wrap .i64 (s4 + 1)))
    else
      draw >>= fun _ =>
      nilck x243 >>= fun p425 =>
      ld (cI .i64) (Addr.add p425 26) >>= fun x426 =>
      nilck a0 >>= fun p427 =>
      ld (cI .i64) (Addr.add p427 3) >>= fun x428 =>
      if x426 < x428 then
        nilck x243 >>= fun p450 =>
        ld (cI .i64) (Addr.add p450 26) >>= fun x451 =>
        nilck x243 >>= fun p452 =>
        st (cI .i64) (Addr.add p452 26) (IntKind.wrap .i64 (x451 + 1)) >>= fun _ =>
        nilck x243 >>= fun p453 =>
        st (cI .i64) (Addr.add p453 25) 0 >>= fun _ =>
        draw >>= fun _ =>
        nilck x243 >>= fun p454 =>
        ld (cI .i64) p454 >>= fun x455 =>
        nilck x243 >>= fun p456 =>
        ld c_api_IP (Addr.add p456 1) >>= fun x457 =>
        nilck x243 >>= fun p458 =>
        ld ((cI .u8).arr 6) (Addr.add p458 18) >>= fun x459 =>
        nilck x243 >>= fun p460 =>
        ld (cI .i64) (Addr.add p460 26) >>= fun x461 =>
        slot 111 >>= fun b462 =>
        appl c_api_Ask 111 48 z_api_Ask s2 [(⟨x455, x457, x459, x461⟩ : api_Ask)] >>= fun r463 =>
        pure (LS.next (r463, s3, IntKind.wrap .i64 (s4 + 1)))
      else
        draw >>= fun _ =>
        nilck a0 >>= fun p464 =>
        ld cM (Addr.add p464 5) >>= fun x465 =>
        nilck x243 >>= fun p466 =>
        ld c_neigh_key p466 >>= fun x467 =>
        mdel c_neigh_key cP x465 x467 >>= fun _ =>
        nilck x243 >>= fun p468 =>
        ld cL (Addr.add p468 27) >>= fun x469 =>
        appS (cI .i64) 3 8 0 s3 x469 >>= fun r470 =>
        pure (LS.next (s2, r470, IntKind.wrap .i64 (s4 + 1)))
theorem neigh_Cache_Tick.K1_ok (a0 : (Option Addr)) (r1 : Sl) (s2 : Sl) (s3 : Sl) (s4 : Int) (x243 : (Option Addr)) :
    SJ neigh_Cache_Tick.cx [.code (c2 (c2 (c1 (c1 (c2 (c2 (c1 (c1 (c2 (c1 (c2 (c2 (c2 neigh_Cache_Tick.B))))))))))))), .inBlock 1, .code (c2 (c2 (c2 (c1 (c1 (c2 (c1 (c2 (c2 (c2 neigh_Cache_Tick.B)))))))))), .inLoop (c1 (c1 (c2 (c1 (c2 (c2 (c2 neigh_Cache_Tick.B))))))), .inBlock 0, .code (c2 (c2 (c2 (c2 neigh_Cache_Tick.B))))] [(0, .pointer a0), (4, Sl.v s2), (5, Sl.v s3), (9, Sl.v r1), (10, .int .i64 (r1.len : Int)), (11, .int .i64 s4), (7, .pointer x243)] [] (neigh_Cache_Tick.K1 a0 s2 s3 s4 x243) (neigh_Cache_Tick.F1 a0 r1) := by
  unfold neigh_Cache_Tick.K1
  refine SJ.block (id := 2) ?_
  refine SJ.seq ?_
  refine SJ.draw (id := 10) (kd := [0, 0, 0, 1, 0, 0, 0, 0, 0, 1, 0, 0, 0, 0, 1, 0, 0, 0]) (bef := [0, 1, 3, 7, 15, 31, 63, 127, 255, 511, 63, 1087, 3135, 7231, 15423, 32767, 65535, 131071]) (ord := [0, 1, 2, 3, 4, 5, 6, 7, 8, 9, 10, 11, 12, 13, 14, 15, 16, 17]) mixed ?_
  refine OJ.go 1 [(49, .pointer x243)] ?_
  refine OJ.nilck (d := 50) (y := .tmp 49) (fun p252 => ?_)
  refine OJ.go 1 [(51, .pointer (some (Addr.add p252 24)))] ?_
  refine OJ.ld (d := 52) (y := .tmp 51) (pend2 := fun x253 => [⟨3, 3, (Addr.add p252 24), (cI .i64).val x253⟩]) Ty3 (fun _ => rfl) (fun x253 => ?_)
  refine OJ.go 2 [(54, .bool (x253 == 2)), (53, .bool (x253 == 2))] ?_
  refine OJ.join (b := (x253 == 2)) [6, 7, 8, 9, 10, 11, 12, 13, 14, 15, 16] [17] [0, 4, 5, 9, 10, 11, 7, 65] (fun y258 => [(0, .pointer a0), (4, Sl.v s2), (5, Sl.v s3), (9, Sl.v r1), (10, .int .i64 (r1.len : Int)), (11, .int .i64 s4), (7, .pointer x243), (65, .bool y258)]) [⟨3, 3, (Addr.add p252 24), (cI .i64).val x253⟩] [9, 14] (t := 54) beq_iff_eq (fun hp_ => ?_) (fun hp_ => ?_) (fun _ _ _ _ _ _ h_ => h_) (fun y258 => ?_)
  · refine OJ.go 1 [(55, .pointer x243)] ?_
    refine OJ.nilck (d := 56) (y := .tmp 55) (fun p254 => ?_)
    refine OJ.go 1 [(57, .pointer (some (Addr.add p254 25)))] ?_
    refine OJ.ld (d := 58) (y := .tmp 57) (pend2 := fun x255 => [⟨9, 3, (Addr.add p254 25), (cI .i64).val x255⟩, ⟨3, 3, (Addr.add p252 24), (cI .i64).val x253⟩]) Ty3 (fun _ => rfl) (fun x255 => ?_)
    refine OJ.go 1 [(59, .pointer a0)] ?_
    refine OJ.nilck (d := 60) (y := .tmp 59) (fun p256 => ?_)
    refine OJ.go 2 [(62, .pointer (some (Addr.add p256 4))), (61, .pointer (some p256))] ?_
    refine OJ.ld (d := 63) (y := .tmp 62) (pend2 := fun x257 => [⟨14, 3, (Addr.add p256 4), (cI .i64).val x257⟩, ⟨9, 3, (Addr.add p254 25), (cI .i64).val x255⟩, ⟨3, 3, (Addr.add p252 24), (cI .i64).val x253⟩]) Ty3 (fun _ => rfl) (fun x257 => ?_)
    refine OJ.go 2 [(65, .bool (x255 == x257)), (64, .bool (x255 == x257))] ?_
    exact OJ.nil ⟨(Cov.mem (Cov.drop (List.mem_of_getElem? (i := 1) rfl) (Cov.drop (List.mem_of_getElem? (i := 0) rfl) (Cov.keep (List.mem_of_getElem? (i := 0) rfl) Cov.nil)))), rfl, _, rfl, by kernel_rfl⟩
  · refine OJ.go 11 [(65, .bool false), (64, undef), (63, undef), (62, undef), (61, undef), (60, undef), (59, undef), (58, undef), (57, undef), (56, undef), (55, undef)] ?_
    exact OJ.nil ⟨(Cov.mem (Cov.keep (List.mem_of_getElem? (i := 0) rfl) Cov.nil)), rfl, _, rfl, by kernel_rfl⟩
  · refine OJ.go 1 [(48, .bool y258)] ?_
    refine OJ.nil ?_
    refine SJ.cond (t := (.tmp 48)) (b := y258) Iff.rfl (fun hc473 => ?_) (fun hc473 => ?_)
    · refine SJ.rg 8 ?_
      refine OJ.go 2 [(67, .pointer x243), (66, .pointer x243)] ?_
      refine OJ.nilck (d := 68) (y := .tmp 66) (fun p366 => ?_)
      refine OJ.go 1 [(69, .pointer (some (Addr.add p366 24)))] ?_
      refine OJ.st (y := .tmp 69) (z := .const (.int .i64 3)) (owed := []) Ty3 ?_
      refine OW.nil ?_
      refine OJ.nilck (d := 70) (y := .tmp 67) (fun p367 => ?_)
      refine OJ.go 1 [(71, .pointer (some (Addr.add p367 25)))] ?_
      refine OJ.st (y := .tmp 71) (z := .const (.int .i64 0)) (owed := []) Ty3 ?_
      refine OW.nil ?_
      refine OJ.nil ?_
      refine SJ.inBlock ?_
      refine SJ.inBlock ?_
      refine SJ.rg 2 ?_
      refine OJ.go 2 [(11, .int .i64 (IntKind.wrap .i64 (s4 + 1))), (140, .int .i64 (IntKind.wrap .i64 (s4 + 1)))] ?_
      refine OJ.nil ?_
      exact SJ.at_ [0, 4, 5, 9, 10, 11] rfl
    · refine SJ.seq ?_
      refine SJ.draw (id := 12) (kd := [0, 0, 0, 1, 0, 0, 0, 0, 0, 1, 0, 0, 0, 0, 0, 0, 1, 0, 0, 0, 0, 1, 0, 0, 0]) (bef := [0, 1, 3, 7, 15, 31, 63, 127, 255, 511, 1023, 2047, 4095, 8191, 16383, 32767, 65535, 8191, 139263, 401407, 925695, 1974271, 4194303, 8388607, 16777215]) (ord := [0, 1, 2, 3, 4, 5, 6, 7, 8, 9, 10, 11, 12, 13, 14, 15, 16, 17, 18, 19, 20, 21, 22, 23, 24]) mixed ?_
      refine OJ.go 1 [(73, .pointer x243)] ?_
      refine OJ.nilck (d := 74) (y := .tmp 73) (fun p368 => ?_)
      refine OJ.go 1 [(75, .pointer (some (Addr.add p368 24)))] ?_
      refine OJ.ld (d := 76) (y := .tmp 75) (pend2 := fun x369 => [⟨3, 3, (Addr.add p368 24), (cI .i64).val x369⟩]) Ty3 (fun _ => rfl) (fun x369 => ?_)
      refine OJ.go 2 [(78, .bool (x369 != 1)), (77, .bool (x369 != 1))] ?_
      refine OJ.join (b := (x369 != 1)) [6, 7, 8, 9, 10, 11] [12, 13, 14, 15, 16, 17, 18, 19, 20, 21, 22, 23, 24] [0, 4, 5, 9, 10, 11, 7, 84] (fun y372 => [(0, .pointer a0), (4, Sl.v s2), (5, Sl.v s3), (9, Sl.v r1), (10, .int .i64 (r1.len : Int)), (11, .int .i64 s4), (7, .pointer x243), (84, .bool y372)]) [⟨3, 3, (Addr.add p368 24), (cI .i64).val x369⟩] [9] (t := 78) bne_iff_ne (fun hp_ => ?_) (fun hp_ => ?_) (fun _ _ _ _ _ _ h_ => h_) (fun y372 => ?_)
      · refine OJ.go 1 [(79, .pointer x243)] ?_
        refine OJ.nilck (d := 80) (y := .tmp 79) (fun p370 => ?_)
        refine OJ.go 1 [(81, .pointer (some (Addr.add p370 24)))] ?_
        refine OJ.ld (d := 82) (y := .tmp 81) (pend2 := fun x371 => [⟨9, 3, (Addr.add p370 24), (cI .i64).val x371⟩, ⟨3, 3, (Addr.add p368 24), (cI .i64).val x369⟩]) Ty3 (fun _ => rfl) (fun x371 => ?_)
        refine OJ.go 2 [(84, .bool (x371 != 4)), (83, .bool (x371 != 4))] ?_
        exact OJ.nil ⟨(Cov.mem (Cov.drop (List.mem_of_getElem? (i := 0) rfl) (Cov.keep (List.mem_of_getElem? (i := 0) rfl) Cov.nil))), rfl, _, rfl, by kernel_rfl⟩
      · refine OJ.go 6 [(84, .bool false), (83, undef), (82, undef), (81, undef), (80, undef), (79, undef)] ?_
        exact OJ.nil ⟨(Cov.mem (Cov.keep (List.mem_of_getElem? (i := 0) rfl) Cov.nil)), rfl, _, rfl, by kernel_rfl⟩
      · refine OJ.go 1 [(85, .bool y372)] ?_
        refine OJ.join (b := y372) [13, 14, 15, 16, 17, 18, 19, 20, 21, 22, 23] [24] [0, 4, 5, 9, 10, 11, 7, 96] (fun y377 => [(0, .pointer a0), (4, Sl.v s2), (5, Sl.v s3), (9, Sl.v r1), (10, .int .i64 (r1.len : Int)), (11, .int .i64 s4), (7, .pointer x243), (96, .bool y377)]) [⟨3, 3, (Addr.add p368 24), (cI .i64).val x369⟩] [16, 21] (t := 85) Iff.rfl (fun hp_ => ?_) (fun hp_ => ?_) (fun _ _ _ _ _ _ h_ => h_) (fun y377 => ?_)
        · refine OJ.go 11 [(96, .bool true), (95, undef), (94, undef), (93, undef), (92, undef), (91, undef), (90, undef), (89, undef), (88, undef), (87, undef), (86, undef)] ?_
          exact OJ.nil ⟨(Cov.mem (Cov.keep (List.mem_of_getElem? (i := 0) rfl) Cov.nil)), rfl, _, rfl, by kernel_rfl⟩
        · refine OJ.go 1 [(86, .pointer x243)] ?_
          refine OJ.nilck (d := 87) (y := .tmp 86) (fun p373 => ?_)
          refine OJ.go 1 [(88, .pointer (some (Addr.add p373 25)))] ?_
          refine OJ.ld (d := 89) (y := .tmp 88) (pend2 := fun x374 => [⟨16, 3, (Addr.add p373 25), (cI .i64).val x374⟩, ⟨3, 3, (Addr.add p368 24), (cI .i64).val x369⟩]) Ty3 (fun _ => rfl) (fun x374 => ?_)
          refine OJ.go 1 [(90, .pointer a0)] ?_
          refine OJ.nilck (d := 91) (y := .tmp 90) (fun p375 => ?_)
          refine OJ.go 2 [(93, .pointer (some (Addr.add p375 2))), (92, .pointer (some p375))] ?_
          refine OJ.ld (d := 94) (y := .tmp 93) (pend2 := fun x376 => [⟨21, 3, (Addr.add p375 2), (cI .i64).val x376⟩, ⟨16, 3, (Addr.add p373 25), (cI .i64).val x374⟩, ⟨3, 3, (Addr.add p368 24), (cI .i64).val x369⟩]) Ty3 (fun _ => rfl) (fun x376 => ?_)
          refine OJ.go 2 [(96, .bool (decide (x374 < x376))), (95, .bool (decide (x374 < x376)))] ?_
          exact OJ.nil ⟨(Cov.mem (Cov.drop (List.mem_of_getElem? (i := 1) rfl) (Cov.drop (List.mem_of_getElem? (i := 0) rfl) (Cov.keep (List.mem_of_getElem? (i := 0) rfl) Cov.nil)))), rfl, _, rfl, by kernel_rfl⟩
        · refine OJ.go 1 [(72, .bool y377)] ?_
          refine OJ.nil ?_
          refine SJ.cond (t := (.tmp 72)) (b := y377) Iff.rfl (fun hc472 => ?_) (fun hc472 => ?_)
          · refine SJ.skip ?_
            refine SJ.inBlock ?_
            refine SJ.inBlock ?_
            refine SJ.rg 2 ?_
            refine OJ.go 2 [(11, .int .i64 (IntKind.wrap .i64 (s4 + 1))), (140, .int .i64 (IntKind.wrap .i64 (s4 + 1)))] ?_
            refine OJ.nil ?_
            exact SJ.at_ [0, 4, 5, 9, 10, 11] rfl
          · refine SJ.seq ?_
            refine SJ.draw (id := 13) (kd := [0, 0, 0, 1, 0, 0, 0, 0, 1, 0, 0]) (bef := [0, 1, 3, 7, 0, 16, 48, 112, 240, 511, 1023]) (ord := [0, 1, 2, 3, 4, 5, 6, 7, 8, 9, 10]) mixed ?_
            refine OJ.go 1 [(98, .pointer x243)] ?_
            refine OJ.nilck (d := 99) (y := .tmp 98) (fun p425 => ?_)
            refine OJ.go 1 [(100, .pointer (some (Addr.add p425 26)))] ?_
            refine OJ.ld (d := 101) (y := .tmp 100) (pend2 := fun x426 => [⟨3, 3, (Addr.add p425 26), (cI .i64).val x426⟩]) Ty3 (fun _ => rfl) (fun x426 => ?_)
            refine OJ.go 1 [(102, .pointer a0)] ?_
            refine OJ.nilck (d := 103) (y := .tmp 102) (fun p427 => ?_)
            refine OJ.go 2 [(105, .pointer (some (Addr.add p427 3))), (104, .pointer (some p427))] ?_
            refine OJ.ld (d := 106) (y := .tmp 105) (pend2 := fun x428 => [⟨8, 3, (Addr.add p427 3), (cI .i64).val x428⟩, ⟨3, 3, (Addr.add p425 26), (cI .i64).val x426⟩]) Ty3 (fun _ => rfl) (fun x428 => ?_)
            refine OJ.go 2 [(97, .bool (decide (x426 < x428))), (107, .bool (decide (x426 < x428)))] ?_
            refine OJ.nil ?_
            refine SJ.cond (t := (.tmp 97)) (b := decide (x426 < x428)) decide_eq_true_iff (fun hc471 => ?_) (fun hc471 => ?_)
            · refine SJ.sr 8 ?_
              refine OJ.go 1 [(108, .pointer x243)] ?_
              refine OJ.nilck (d := 109) (y := .tmp 108) (fun p450 => ?_)
              refine OJ.go 1 [(110, .pointer (some (Addr.add p450 26)))] ?_
              refine OJ.ld (d := 111) (y := .tmp 110) (pend2 := fun x451 => []) Ty3 (fun _ => rfl) (fun x451 => ?_)
              refine OJ.go 1 [(112, .int .i64 (IntKind.wrap .i64 (x451 + 1)))] ?_
              refine OJ.nilck (d := 113) (y := .tmp 108) (fun p452 => ?_)
              refine OJ.go 1 [(114, .pointer (some (Addr.add p452 26)))] ?_
              refine OJ.st (y := .tmp 114) (z := .tmp 112) (owed := []) Ty3 ?_
              refine OW.nil ?_
              refine OJ.nil ?_
              refine SJ.sr 4 ?_
              refine OJ.go 1 [(115, .pointer x243)] ?_
              refine OJ.nilck (d := 116) (y := .tmp 115) (fun p453 => ?_)
              refine OJ.go 1 [(117, .pointer (some (Addr.add p453 25)))] ?_
              refine OJ.st (y := .tmp 117) (z := .const (.int .i64 0)) (owed := []) Ty3 ?_
              refine OW.nil ?_
              refine OJ.nil ?_
              refine SJ.draw (id := 16) (kd := [0, 0, 0, 0, 0, 1, 0, 0, 0, 0, 1, 0, 0, 0, 1, 0, 0, 0, 1, 0, 2, 2, 0]) (bef := [0, 0, 2, 6, 14, 30, 0, 64, 192, 448, 960, 0, 2048, 6144, 14336, 0, 32768, 98304, 229376, 524286, 1048574, 2097151, 4194303]) (ord := [0, 1, 2, 3, 4, 5, 6, 7, 8, 9, 10, 11, 12, 13, 14, 15, 16, 17, 18, 19, 20, 21, 22]) mixed ?_
              refine OJ.go 2 [(119, .pointer x243), (118, Sl.v s2)] ?_
              refine OJ.nilck (d := 120) (y := .tmp 119) (fun p454 => ?_)
              refine OJ.go 2 [(122, .pointer (some p454)), (121, .pointer (some p454))] ?_
              refine OJ.ld (d := 123) (y := .tmp 122) (pend2 := fun x455 => [⟨5, 3, p454, (cI .i64).val x455⟩]) Ty3 (fun _ => rfl) (fun x455 => ?_)
              refine OJ.go 1 [(124, .pointer x243)] ?_
              refine OJ.nilck (d := 125) (y := .tmp 124) (fun p456 => ?_)
              refine OJ.go 2 [(127, .pointer (some (Addr.add p456 1))), (126, .pointer (some p456))] ?_
              refine OJ.ld (d := 128) (y := .tmp 127) (pend2 := fun x457 => [⟨10, 32, (Addr.add p456 1), c_api_IP.val x457⟩, ⟨5, 3, p454, (cI .i64).val x455⟩]) Ty32 (fun _ => rfl) (fun x457 => ?_)
              refine OJ.go 1 [(129, .pointer x243)] ?_
              refine OJ.nilck (d := 130) (y := .tmp 129) (fun p458 => ?_)
              refine OJ.go 1 [(131, .pointer (some (Addr.add p458 18)))] ?_
              refine OJ.ld (d := 132) (y := .tmp 131) (pend2 := fun x459 => [⟨14, 34, (Addr.add p458 18), ((cI .u8).arr 6).val x459⟩, ⟨10, 32, (Addr.add p456 1), c_api_IP.val x457⟩, ⟨5, 3, p454, (cI .i64).val x455⟩]) Ty34 (fun _ => rfl) (fun x459 => ?_)
              refine OJ.go 1 [(133, .pointer x243)] ?_
              refine OJ.nilck (d := 134) (y := .tmp 133) (fun p460 => ?_)
              refine OJ.go 1 [(135, .pointer (some (Addr.add p460 26)))] ?_
              refine OJ.ld (d := 136) (y := .tmp 135) (pend2 := fun x461 => [⟨18, 3, (Addr.add p460 26), (cI .i64).val x461⟩, ⟨14, 34, (Addr.add p458 18), ((cI .u8).arr 6).val x459⟩, ⟨10, 32, (Addr.add p456 1), c_api_IP.val x457⟩, ⟨5, 3, p454, (cI .i64).val x455⟩]) Ty3 (fun _ => rfl) (fun x461 => ?_)
              refine OJ.build (d := 137) (T := 111) (parts := [(0, .tmp 123), (1, .tmp 128), (2, .tmp 132), (3, .tmp 136)]) (ps := [(0, (cI .i64).val x455), (1, c_api_IP.val x457), (2, ((cI .u8).arr 6).val x459), (3, (cI .i64).val x461)]) (cd := c_api_Ask) (z0 := z_api_Ask) (⟨x455, x457, x459, x461⟩ : api_Ask) Ty111 rfl (Filled.cons (cd := (cI .i64)) (q := x455) (o := 0) (by kernel_rfl) (Up_api_Ask_Port z_api_Ask x455) (Filled.cons (cd := c_api_IP) (q := x457) (o := 1) (by kernel_rfl) (Up_api_Ask_IP (⟨x455, z_api_Ask.IP, z_api_Ask.Mac, z_api_Ask.Try⟩ : api_Ask) x457) (Filled.cons (cd := ((cI .u8).arr 6)) (q := x459) (o := 18) (by kernel_rfl) (Up_api_Ask_Mac (⟨x455, x457, z_api_Ask.Mac, z_api_Ask.Try⟩ : api_Ask) x459) (Filled.cons (cd := (cI .i64)) (q := x461) (o := 24) (by kernel_rfl) (Up_api_Ask_Try (⟨x455, x457, x459, z_api_Ask.Try⟩ : api_Ask) x461) Filled.nil)))) ?_
              refine OJ.rowSlot (d := 138) (t := 50) (parts := [(0, .tmp 137)]) (ps := [(0, c_api_Ask.val (⟨x455, x457, x459, x461⟩ : api_Ask))]) (cd := c_api_Ask) (⟨[(⟨x455, x457, x459, x461⟩ : api_Ask)], rfl⟩ : Vec api_Ask 1) (owed := []) Ty111 (Filled.cons (cd := c_api_Ask) (q := (⟨x455, x457, x459, x461⟩ : api_Ask)) (o := 0) rfl (Upd.arr (i := 0) (by decide) (by decide)) Filled.nil) (fun b462 => ?_)
              refine OW.nil ?_
              refine OJ.appl (d := 139) (t := 50) (u := 50) (so := .tmp 118) (xo := .tmp 138) (j := 0) (b := b462) (l := (c_api_Ask.arr 1).enc (⟨[(⟨x455, x457, x459, x461⟩ : api_Ask)], rfl⟩ : Vec api_Ask 1)) (n := 1) (k := 1) [(⟨x455, x457, x459, x461⟩ : api_Ask)] (owed := []) Ty111 (by rfl) (Cod.arr_enc _ _ _) (by rfl) (fun r463 => ?_)
              refine OW.nil ?_
              refine OJ.go 1 [(4, Sl.v r463)] ?_
              refine OJ.nil ?_
              refine SJ.inBlock ?_
              refine SJ.inBlock ?_
              refine SJ.rg 2 ?_
              refine OJ.go 2 [(11, .int .i64 (IntKind.wrap .i64 (s4 + 1))), (140, .int .i64 (IntKind.wrap .i64 (s4 + 1)))] ?_
              refine OJ.nil ?_
              refine SJ.forget (List.Sublist.cons _ List.Sublist.slnil) ?_
              exact SJ.at_ [0, 4, 5, 9, 10, 11] rfl
            · refine SJ.seq ?_
              refine SJ.draw (id := 8) (kd := [0, 0, 0, 1, 0, 0, 0, 1, 2]) (bef := [0, 1, 3, 7, 0, 16, 48, 112, 255]) (ord := [0, 1, 2, 3, 4, 5, 6, 7, 8]) mixed ?_
              refine OJ.go 1 [(34, .pointer a0)] ?_
              refine OJ.nilck (d := 35) (y := .tmp 34) (fun p464 => ?_)
              refine OJ.go 1 [(36, .pointer (some (Addr.add p464 5)))] ?_
              refine OJ.ld (d := 37) (y := .tmp 36) (pend2 := fun x465 => [⟨3, 101, (Addr.add p464 5), cM.val x465⟩]) Ty101 (fun _ => rfl) (fun x465 => ?_)
              refine OJ.go 1 [(38, .pointer x243)] ?_
              refine OJ.nilck (d := 39) (y := .tmp 38) (fun p466 => ?_)
              refine OJ.go 1 [(40, .pointer (some p466))] ?_
              refine OJ.ld (d := 41) (y := .tmp 40) (pend2 := fun x467 => [⟨7, 99, p466, c_neigh_key.val x467⟩, ⟨3, 101, (Addr.add p464 5), cM.val x465⟩]) Ty99 (fun _ => rfl) (fun x467 => ?_)
              refine OJ.mdel (uT := 99) (x := .tmp 37) (y := .tmp 41) (owed := []) Kt101 ?_
              refine OW.nil ?_
              refine OJ.nil ?_
              refine SJ.rg 7 ?_
              refine OJ.go 2 [(43, .pointer x243), (42, Sl.v s3)] ?_
              refine OJ.nilck (d := 44) (y := .tmp 43) (fun p468 => ?_)
              refine OJ.go 1 [(45, .pointer (some (Addr.add p468 27)))] ?_
              refine OJ.ld (d := 46) (y := .tmp 45) (pend2 := fun x469 => []) Ty43 (fun _ => rfl) (fun x469 => ?_)
              refine OJ.appS (d := 47) (t := 43) (u := 43) (so := .tmp 42) (xo := .tmp 46) (owed := []) Ty3 (fun r470 => ?_)
              refine OW.nil ?_
              refine OJ.go 1 [(5, Sl.v r470)] ?_
              refine OJ.nil ?_
              refine SJ.inBlock ?_
              refine SJ.inBlock ?_
              refine SJ.rg 2 ?_
              refine OJ.go 2 [(11, .int .i64 (IntKind.wrap .i64 (s4 + 1))), (140, .int .i64 (IntKind.wrap .i64 (s4 + 1)))] ?_
              refine OJ.nil ?_
              exact SJ.at_ [0, 4, 5, 9, 10, 11] rfl
noncomputable def neigh_Cache_Tick.L1 (a0 : (Option Addr)) (r1 : Sl) (s2 : Sl) (s3 : Sl) (s4 : Int) : M (LS (Sl × Sl × Int) (Sl × Sl)) :=
  if s4 < (r1.len : Int) then
    idx r1.a r1.len s4 1 >>= fun p242 =>
    ld cP p242 >>= fun x243 =>
    nilck x243 >>= fun p244 =>
    ld (cI .i64) (Addr.add p244 24) >>= fun x245 =>
    (if x245 ≠ 3 then
        pure true
      else
        nilck x243 >>= fun p246 =>
        ld (cI .i64) (Addr.add p246 25) >>= fun x247 =>
        pure (decide (x247 < 1048576))) >>= fun y248 =>
    if y248 = true then
      nilck x243 >>= fun p474 =>
      ld (cI .i64) (Addr.add p474 25) >>= fun x475 =>
      nilck x243 >>= fun p476 =>
      st (cI .i64) (Addr.add p476 25) (IntKind.wrap .i64 (x475 + 1)) >>= fun _ =>
      neigh_Cache_Tick.K1 a0 s2 s3 s4 x243
    else
      neigh_Cache_Tick.K1 a0 s2 s3 s4 x243
  else
    pure (LS.done (s2, s3))
theorem neigh_Cache_Tick.L1_ok (a0 : (Option Addr)) (r1 : Sl) (s2 : Sl) (s3 : Sl) (s4 : Int) :
    SJ neigh_Cache_Tick.cx [.code (c1 (c1 (c2 (c1 (c2 (c2 (c2 neigh_Cache_Tick.B))))))), .inLoop (c1 (c1 (c2 (c1 (c2 (c2 (c2 neigh_Cache_Tick.B))))))), .inBlock 0, .code (c2 (c2 (c2 (c2 neigh_Cache_Tick.B))))] [(0, .pointer a0), (4, Sl.v s2), (5, Sl.v s3), (9, Sl.v r1), (10, .int .i64 (r1.len : Int)), (11, .int .i64 s4)] [] (neigh_Cache_Tick.L1 a0 r1 s2 s3 s4) (neigh_Cache_Tick.F1 a0 r1) := by
  unfold neigh_Cache_Tick.L1
  refine SJ.sr 1 ?_
  refine OJ.go 1 [(12, .bool (decide (s4 < (r1.len : Int))))] ?_
  refine OJ.nil ?_
  refine SJ.seq ?_
  refine SJ.cond (t := (.tmp 12)) (b := decide (s4 < (r1.len : Int))) decide_eq_true_iff (fun hc478 => ?_) (fun hc478 => ?_)
  · refine SJ.skip ?_
    refine SJ.seq ?_
    refine SJ.block (id := 1) ?_
    refine SJ.sr 3 ?_
    refine OJ.idxS (d := 13) (T := 108) (y := .tmp 9) (j := .tmp 11) (E := 100) (cap := r1.cap) (k := .i64) (fun p242 => ?_)
    refine OJ.ld (d := 14) (y := .tmp 13) (pend2 := fun x243 => []) Ty100 (fun _ => rfl) (fun x243 => ?_)
    refine OJ.go 1 [(7, .pointer x243)] ?_
    refine OJ.nil ?_
    refine SJ.seq ?_
    refine SJ.sr 12 ?_
    refine OJ.go 1 [(15, .pointer x243)] ?_
    refine OJ.nilck (d := 16) (y := .tmp 15) (fun p244 => ?_)
    refine OJ.go 1 [(17, .pointer (some (Addr.add p244 24)))] ?_
    refine OJ.ld (d := 18) (y := .tmp 17) (pend2 := fun x245 => []) Ty3 (fun _ => rfl) (fun x245 => ?_)
    refine OJ.go 2 [(20, .bool (x245 != 3)), (19, .bool (x245 != 3))] ?_
    refine OJ.join (b := (x245 != 3)) [6, 7, 8, 9, 10, 11] [] [0, 4, 5, 9, 10, 11, 7, 26] (fun y248 => [(0, .pointer a0), (4, Sl.v s2), (5, Sl.v s3), (9, Sl.v r1), (10, .int .i64 (r1.len : Int)), (11, .int .i64 s4), (7, .pointer x243), (26, .bool y248)]) [] [] (t := 20) bne_iff_ne (fun hp_ => ?_) (fun hp_ => ?_) (fun _ _ _ _ _ _ h_ => h_) (fun y248 => ?_)
    · refine OJ.go 6 [(26, .bool true), (25, undef), (24, undef), (23, undef), (22, undef), (21, undef)] ?_
      exact OJ.nil ⟨(Cov.mem Cov.nil), rfl, _, rfl, by kernel_rfl⟩
    · refine OJ.go 1 [(21, .pointer x243)] ?_
      refine OJ.nilck (d := 22) (y := .tmp 21) (fun p246 => ?_)
      refine OJ.go 1 [(23, .pointer (some (Addr.add p246 25)))] ?_
      refine OJ.ld (d := 24) (y := .tmp 23) (pend2 := fun x247 => []) Ty3 (fun _ => rfl) (fun x247 => ?_)
      refine OJ.go 2 [(26, .bool (decide (x247 < 1048576))), (25, .bool (decide (x247 < 1048576)))] ?_
      exact OJ.nil ⟨(Cov.mem Cov.nil), rfl, _, rfl, by kernel_rfl⟩
    · refine OJ.nil ?_
      refine SJ.cond (t := (.tmp 26)) (b := y248) Iff.rfl (fun hc477 => ?_) (fun hc477 => ?_)
      · refine SJ.rg 8 ?_
        refine OJ.go 1 [(27, .pointer x243)] ?_
        refine OJ.nilck (d := 28) (y := .tmp 27) (fun p474 => ?_)
        refine OJ.go 1 [(29, .pointer (some (Addr.add p474 25)))] ?_
        refine OJ.ld (d := 30) (y := .tmp 29) (pend2 := fun x475 => []) Ty3 (fun _ => rfl) (fun x475 => ?_)
        refine OJ.go 1 [(31, .int .i64 (IntKind.wrap .i64 (x475 + 1)))] ?_
        refine OJ.nilck (d := 32) (y := .tmp 27) (fun p476 => ?_)
        refine OJ.go 1 [(33, .pointer (some (Addr.add p476 25)))] ?_
        refine OJ.st (y := .tmp 33) (z := .tmp 31) (owed := []) Ty3 ?_
        refine OW.nil ?_
        refine OJ.nil ?_
        refine SJ.less [0, 4, 5, 9, 10, 11, 7] (m' := [(0, .pointer a0), (4, Sl.v s2), (5, Sl.v s3), (9, Sl.v r1), (10, .int .i64 (r1.len : Int)), (11, .int .i64 s4), (7, .pointer x243)]) ?_
        exact neigh_Cache_Tick.K1_ok a0 r1 s2 s3 s4 x243
      · refine SJ.skip ?_
        refine SJ.less [0, 4, 5, 9, 10, 11, 7] (m' := [(0, .pointer a0), (4, Sl.v s2), (5, Sl.v s3), (9, Sl.v r1), (10, .int .i64 (r1.len : Int)), (11, .int .i64 s4), (7, .pointer x243)]) ?_
        exact neigh_Cache_Tick.K1_ok a0 r1 s2 s3 s4 x243
  · refine SJ.exit (id := 0) (by rfl) ?_
    refine SJ.sr 4 ?_
    refine OJ.go 4 [(3, Sl.v s3), (2, Sl.v s2), (142, Sl.v s3), (141, Sl.v s2)] ?_
    refine OJ.nil ?_
    exact SJ.ret rfl (Res.run (ys := [Sl.v s2, Sl.v s3]) (.tmp (by kernel_rfl) (.tmp (by kernel_rfl) .nil)) rfl)
noncomputable def neigh_Cache_Tick (a0 : (Option Addr)) : M (Sl × Sl) :=
  neigh_Cache_sorted a0 >>= fun r1 =>
  loopM (fun s_ : (Sl × Sl × Int) => neigh_Cache_Tick.L1 a0 r1 s_.1 s_.2.1 s_.2.2) (Sl.nil, Sl.nil, 0)
theorem neigh_Cache_Tick_ok (a0 : (Option Addr)) : Ref Try.prog 21 [.pointer a0] (neigh_Cache_Tick a0) neigh_Cache_Tick.out := by
  refine Ref.of (cd := neigh_Cache_Tick.B) Try.func21 ?_
  show SJ neigh_Cache_Tick.cx [.code neigh_Cache_Tick.B] [(0, .pointer a0)] [] (neigh_Cache_Tick a0) neigh_Cache_Tick.F0
  unfold neigh_Cache_Tick
  refine SJ.sr 2 ?_
  refine OJ.go 2 [(3, Sl.v Sl.nil), (2, Sl.v Sl.nil)] ?_
  refine OJ.nil ?_
  refine SJ.sr 1 ?_
  refine OJ.go 1 [(4, Sl.v Sl.nil)] ?_
  refine OJ.nil ?_
  refine SJ.sr 1 ?_
  refine OJ.go 1 [(5, Sl.v Sl.nil)] ?_
  refine OJ.nil ?_
  refine SJ.seq ?_
  refine SJ.sr 4 ?_
  refine OJ.go 1 [(8, .pointer a0)] ?_
  refine OJ.call (d := 9) (g := 50) (ats := #[25]) (args := [.tmp 8]) (owed := []) F50 (neigh_Cache_sorted_ok a0) (fun r1 => ?_)
  refine OW.nil ?_
  refine OJ.go 2 [(11, .int .i64 0), (10, .int .i64 (r1.len : Int))] ?_
  refine OJ.nil ?_
  refine SJ.block (id := 0) ?_
  exact SJ.loop (fun s_ : (Sl × Sl × Int) => [(0, .pointer a0), (4, Sl.v s_.1), (5, Sl.v s_.2.1), (9, Sl.v r1), (10, .int .i64 (r1.len : Int)), (11, .int .i64 s_.2.2)]) (fun s_ : (Sl × Sl × Int) => []) [0, 4, 5, 9, 10, 11] rfl (fun _ _ => rfl) (fun s_ => neigh_Cache_Tick.L1_ok a0 r1 s_.1 s_.2.1 s_.2.2)

/-! ### weir/weirlaw15.sameAsks: function 25 -/
noncomputable def weirlaw15_sameAsks.B : Code := (Try.f25.body).getD .skip
noncomputable def weirlaw15_sameAsks.cx : Fx := ⟨Try.prog, 25, Try.f25⟩
noncomputable def weirlaw15_sameAsks.out (r_ : Bool) : Value := .bool r_
noncomputable def weirlaw15_sameAsks.F0 (r_ : Bool) : Reach := .ret (weirlaw15_sameAsks.out r_)
noncomputable def weirlaw15_sameAsks.F1 (a0 : Sl) (a1 : Sl) : (LS Int Bool) → Reach := loopF [.inLoop (c1 (c1 (c2 (c1 (c2 (c2 weirlaw15_sameAsks.B)))))), .inBlock 0, .code (c2 (c2 (c2 weirlaw15_sameAsks.B)))] (fun s_ : Int => [(0, Sl.v a0), (1, Sl.v a1), (5, .int .i64 s_)]) (fun s_ : Int => []) weirlaw15_sameAsks.F0
noncomputable def weirlaw15_sameAsks.L1 (a0 : Sl) (a1 : Sl) (s1 : Int) : M (LS Int Bool) :=
  if s1 < (a0.len : Int) then
    draw >>= fun _ =>
    idx a0.a a0.len s1 25 >>= fun p8 =>
    ld c_api_Ask p8 >>= fun x9 =>
    idx a1.a a1.len s1 25 >>= fun p10 =>
    ld c_api_Ask p10 >>= fun x11 =>
    if ¬ (x9 = x11) then
      pure (LS.done false)
    else
      pure (LS.next (IntKind.wrap .i64 (s1 + 1)))
  else
    pure (LS.done true)
theorem weirlaw15_sameAsks.L1_ok (a0 : Sl) (a1 : Sl) (s1 : Int) :
    SJ weirlaw15_sameAsks.cx [.code (c1 (c1 (c2 (c1 (c2 (c2 weirlaw15_sameAsks.B)))))), .inLoop (c1 (c1 (c2 (c1 (c2 (c2 weirlaw15_sameAsks.B)))))), .inBlock 0, .code (c2 (c2 (c2 weirlaw15_sameAsks.B)))] [(0, Sl.v a0), (1, Sl.v a1), (5, .int .i64 s1)] [] (weirlaw15_sameAsks.L1 a0 a1 s1) (weirlaw15_sameAsks.F1 a0 a1) := by
  unfold weirlaw15_sameAsks.L1
  refine SJ.seq ?_
  refine SJ.sr 4 ?_
  refine OJ.go 4 [(14, .bool (decide (s1 < (a0.len : Int)))), (13, .int .i64 (a0.len : Int)), (12, Sl.v a0), (11, .int .i64 s1)] ?_
  refine OJ.nil ?_
  refine SJ.cond (t := (.tmp 14)) (b := decide (s1 < (a0.len : Int))) decide_eq_true_iff (fun hc13 => ?_) (fun hc13 => ?_)
  · refine SJ.skip ?_
    refine SJ.seq ?_
    refine SJ.block (id := 1) ?_
    refine SJ.seq ?_
    refine SJ.draw (id := 6) (kd := [0, 0, 0, 1, 0, 0, 0, 1, 0]) (bef := [0, 0, 3, 7, 0, 0, 48, 112, 255]) (ord := [0, 1, 2, 3, 4, 5, 6, 7, 8]) mixed ?_
    refine OJ.go 2 [(18, .int .i64 s1), (17, Sl.v a0)] ?_
    refine OJ.idxS (d := 19) (T := 50) (y := .tmp 17) (j := .tmp 18) (E := 111) (cap := a0.cap) (k := .i64) (fun p8 => ?_)
    refine OJ.ld (d := 20) (y := .tmp 19) (pend2 := fun x9 => [⟨3, 111, p8, c_api_Ask.val x9⟩]) Ty111 (fun _ => rfl) (fun x9 => ?_)
    refine OJ.go 2 [(22, .int .i64 s1), (21, Sl.v a1)] ?_
    refine OJ.idxS (d := 23) (T := 50) (y := .tmp 21) (j := .tmp 22) (E := 111) (cap := a1.cap) (k := .i64) (fun p10 => ?_)
    refine OJ.ld (d := 24) (y := .tmp 23) (pend2 := fun x11 => [⟨7, 111, p10, c_api_Ask.val x11⟩, ⟨3, 111, p8, c_api_Ask.val x9⟩]) Ty111 (fun _ => rfl) (fun x11 => ?_)
    refine OJ.neq (d := 25) (T := 111) (yT := 111) (y := .tmp 20) (z := .tmp 24) (cd := c_api_Ask) (p := x9) (q := x11) rfl Eq111 ?_
    refine OJ.nil ?_
    refine SJ.cond (t := (.tmp 25)) (b := (!eqv x9 x11)) (bnot_iff eqv_iff) (fun hc12 => ?_) (fun hc12 => ?_)
    · refine SJ.sr 1 ?_
      refine OJ.go 1 [(4, .bool false)] ?_
      refine OJ.nil ?_
      exact SJ.ret rfl (Res.run (ys := [.bool false]) (.tmp (by kernel_rfl) .nil) rfl)
    · refine SJ.skip ?_
      refine SJ.inBlock ?_
      refine SJ.rg 3 ?_
      refine OJ.go 3 [(5, .int .i64 (IntKind.wrap .i64 (s1 + 1))), (16, .int .i64 (IntKind.wrap .i64 (s1 + 1))), (15, .int .i64 s1)] ?_
      refine OJ.nil ?_
      exact SJ.at_ [0, 1, 5] rfl
  · refine SJ.exit (id := 0) (by rfl) ?_
    refine SJ.sr 1 ?_
    refine OJ.go 1 [(4, .bool true)] ?_
    refine OJ.nil ?_
    exact SJ.ret rfl (Res.run (ys := [.bool true]) (.tmp (by kernel_rfl) .nil) rfl)
noncomputable def weirlaw15_sameAsks (a0 : Sl) (a1 : Sl) : M Bool :=
  if (a0.len : Int) ≠ (a1.len : Int) then
    pure false
  else
    loopM (fun s_ : Int => weirlaw15_sameAsks.L1 a0 a1 s_) 0
theorem weirlaw15_sameAsks_ok (a0 : Sl) (a1 : Sl) : Ref Try.prog 25 [Sl.v a0, Sl.v a1] (weirlaw15_sameAsks a0 a1) weirlaw15_sameAsks.out := by
  refine Ref.of (cd := weirlaw15_sameAsks.B) Try.func25 ?_
  show SJ weirlaw15_sameAsks.cx [.code weirlaw15_sameAsks.B] [(0, Sl.v a0), (1, Sl.v a1)] [] (weirlaw15_sameAsks a0 a1) weirlaw15_sameAsks.F0
  unfold weirlaw15_sameAsks
  refine SJ.sr 1 ?_
  refine OJ.go 1 [(4, .bool false)] ?_
  refine OJ.nil ?_
  refine SJ.seq ?_
  refine SJ.sr 5 ?_
  refine OJ.go 5 [(10, .bool ((a0.len : Int) != (a1.len : Int))), (9, .int .i64 (a1.len : Int)), (8, Sl.v a1), (7, .int .i64 (a0.len : Int)), (6, Sl.v a0)] ?_
  refine OJ.nil ?_
  refine SJ.cond (t := (.tmp 10)) (b := ((a0.len : Int) != (a1.len : Int))) bne_iff_ne (fun hc14 => ?_) (fun hc14 => ?_)
  · refine SJ.sr 1 ?_
    refine OJ.go 1 [(4, .bool false)] ?_
    refine OJ.nil ?_
    exact SJ.ret rfl (Res.run (ys := [.bool false]) (.tmp (by kernel_rfl) .nil) rfl)
  · refine SJ.skip ?_
    refine SJ.seq ?_
    refine SJ.sr 1 ?_
    refine OJ.go 1 [(5, .int .i64 0)] ?_
    refine OJ.nil ?_
    refine SJ.block (id := 0) ?_
    exact SJ.loop (fun s_ : Int => [(0, Sl.v a0), (1, Sl.v a1), (5, .int .i64 s_)]) (fun s_ : Int => []) [0, 1, 5] rfl (fun _ _ => rfl) (fun s_ => weirlaw15_sameAsks.L1_ok a0 a1 s_)

/-! ### (*weir/weirlaw15.Rows).KeepA: function 26 -/
noncomputable def weirlaw15_Rows_KeepA.B : Code := (Try.f26.body).getD .skip
noncomputable def weirlaw15_Rows_KeepA.cx : Fx := ⟨Try.prog, 26, Try.f26⟩
noncomputable def weirlaw15_Rows_KeepA.out (r_ : Unit) : Value := .tuple #[]
noncomputable def weirlaw15_Rows_KeepA.F0 (r_ : Unit) : Reach := .ret (weirlaw15_Rows_KeepA.out r_)
noncomputable def weirlaw15_Rows_KeepA (a0 : (Option Addr)) (a1 : Sl) : M Unit :=
  appS c_api_Ask 111 48 z_api_Ask Sl.nil a1 >>= fun r1 =>
  nilck a0 >>= fun p2 =>
  ld cL (Addr.add p2 2) >>= fun x3 =>
  slot 50 >>= fun b4 =>
  appl cL 50 24 Sl.nil x3 [a1] >>= fun r5 =>
  nilck a0 >>= fun p6 =>
  st cL (Addr.add p6 2) r5 >>= fun _ =>
  nilck a0 >>= fun p7 =>
  ld cL (Addr.add p7 3) >>= fun x8 =>
  slot 50 >>= fun b9 =>
  appl cL 50 24 Sl.nil x8 [r1] >>= fun r10 =>
  nilck a0 >>= fun p11 =>
  st cL (Addr.add p11 3) r10 >>= fun _ =>
  pure ()
theorem weirlaw15_Rows_KeepA_ok (a0 : (Option Addr)) (a1 : Sl) : Ref Try.prog 26 [.pointer a0, Sl.v a1] (weirlaw15_Rows_KeepA a0 a1) weirlaw15_Rows_KeepA.out := by
  refine Ref.of (cd := weirlaw15_Rows_KeepA.B) Try.func26 ?_
  show SJ weirlaw15_Rows_KeepA.cx [.code weirlaw15_Rows_KeepA.B] [(0, .pointer a0), (1, Sl.v a1)] [] (weirlaw15_Rows_KeepA a0 a1) weirlaw15_Rows_KeepA.F0
  unfold weirlaw15_Rows_KeepA
  refine SJ.sr 1 ?_
  refine OJ.go 1 [(4, Sl.v Sl.nil)] ?_
  refine OJ.nil ?_
  refine SJ.sr 4 ?_
  refine OJ.go 2 [(6, Sl.v a1), (5, Sl.v Sl.nil)] ?_
  refine OJ.appS (d := 7) (t := 50) (u := 50) (so := .tmp 5) (xo := .tmp 6) (owed := []) Ty111 (fun r1 => ?_)
  refine OW.nil ?_
  refine OJ.go 1 [(4, Sl.v r1)] ?_
  refine OJ.nil ?_
  refine SJ.sr 11 ?_
  refine OJ.go 2 [(9, .pointer a0), (8, .pointer a0)] ?_
  refine OJ.nilck (d := 10) (y := .tmp 9) (fun p2 => ?_)
  refine OJ.go 1 [(11, .pointer (some (Addr.add p2 2)))] ?_
  refine OJ.ld (d := 12) (y := .tmp 11) (pend2 := fun x3 => []) Ty61 (fun _ => rfl) (fun x3 => ?_)
  refine OJ.go 1 [(13, Sl.v a1)] ?_
  refine OJ.rowSlot (d := 14) (t := 61) (parts := [(0, .tmp 13)]) (ps := [(0, cL.val a1)]) (cd := cL) (⟨[a1], rfl⟩ : Vec Sl 1) (owed := []) Ty50 (Filled.cons (cd := cL) (q := a1) (o := 0) rfl (Upd.arr (i := 0) (by decide) (by decide)) Filled.nil) (fun b4 => ?_)
  refine OW.nil ?_
  refine OJ.appl (d := 15) (t := 61) (u := 61) (so := .tmp 12) (xo := .tmp 14) (j := 0) (b := b4) (l := (cL.arr 1).enc (⟨[a1], rfl⟩ : Vec Sl 1)) (n := 1) (k := 1) [a1] (owed := []) Ty50 (by rfl) (Cod.arr_enc _ _ _) (by rfl) (fun r5 => ?_)
  refine OW.nil ?_
  refine OJ.nilck (d := 16) (y := .tmp 8) (fun p6 => ?_)
  refine OJ.go 1 [(17, .pointer (some (Addr.add p6 2)))] ?_
  refine OJ.st (y := .tmp 17) (z := .tmp 15) (owed := []) Ty61 ?_
  refine OW.nil ?_
  refine OJ.nil ?_
  refine SJ.rg 11 ?_
  refine OJ.go 2 [(19, .pointer a0), (18, .pointer a0)] ?_
  refine OJ.nilck (d := 20) (y := .tmp 19) (fun p7 => ?_)
  refine OJ.go 1 [(21, .pointer (some (Addr.add p7 3)))] ?_
  refine OJ.ld (d := 22) (y := .tmp 21) (pend2 := fun x8 => []) Ty61 (fun _ => rfl) (fun x8 => ?_)
  refine OJ.go 1 [(23, Sl.v r1)] ?_
  refine OJ.rowSlot (d := 24) (t := 61) (parts := [(0, .tmp 23)]) (ps := [(0, cL.val r1)]) (cd := cL) (⟨[r1], rfl⟩ : Vec Sl 1) (owed := []) Ty50 (Filled.cons (cd := cL) (q := r1) (o := 0) rfl (Upd.arr (i := 0) (by decide) (by decide)) Filled.nil) (fun b9 => ?_)
  refine OW.nil ?_
  refine OJ.appl (d := 25) (t := 61) (u := 61) (so := .tmp 22) (xo := .tmp 24) (j := 0) (b := b9) (l := (cL.arr 1).enc (⟨[r1], rfl⟩ : Vec Sl 1)) (n := 1) (k := 1) [r1] (owed := []) Ty50 (by rfl) (Cod.arr_enc _ _ _) (by rfl) (fun r10 => ?_)
  refine OW.nil ?_
  refine OJ.nilck (d := 26) (y := .tmp 18) (fun p11 => ?_)
  refine OJ.go 1 [(27, .pointer (some (Addr.add p11 3)))] ?_
  refine OJ.st (y := .tmp 27) (z := .tmp 25) (owed := []) Ty61 ?_
  refine OW.nil ?_
  refine OJ.nil ?_
  exact SJ.end_ rfl (Res.run (ys := []) .nil rfl)

/-! ### (*weir/neigh.entry).told: function 51 -/
noncomputable def neigh_entry_told.B : Code := (Try.f51.body).getD .skip
noncomputable def neigh_entry_told.cx : Fx := ⟨Try.prog, 51, Try.f51⟩
noncomputable def neigh_entry_told.out (r_ : api_Neighbour) : Value := c_api_Neighbour.val r_
noncomputable def neigh_entry_told.F0 (r_ : api_Neighbour) : Reach := .ret (neigh_entry_told.out r_)
noncomputable def neigh_entry_told (a0 : (Option Addr)) : M api_Neighbour :=
  slot 77 >>= fun b1 =>
  draw >>= fun _ =>
  nilck a0 >>= fun p2 =>
  ld (cI .i64) p2 >>= fun x3 =>
  nilck a0 >>= fun p4 =>
  ld c_api_IP (Addr.add p4 1) >>= fun x5 =>
  nilck a0 >>= fun p6 =>
  ld ((cI .u8).arr 6) (Addr.add p6 18) >>= fun x7 =>
  nilck a0 >>= fun p8 =>
  ld (cI .i64) (Addr.add p8 24) >>= fun x9 =>
  nilck a0 >>= fun p10 =>
  ld (cI .i64) (Addr.add p10 25) >>= fun x11 =>
  nilck a0 >>= fun p12 =>
  ld (cI .i64) (Addr.add p12 26) >>= fun x13 =>
  nilck a0 >>= fun p14 =>
  ld cL (Addr.add p14 27) >>= fun x15 =>
  pure (⟨x3, x5, x7, x9, x11, x13, (x15.len : Int)⟩ : api_Neighbour)
theorem neigh_entry_told_ok (a0 : (Option Addr)) : Ref Try.prog 51 [.pointer a0] (neigh_entry_told a0) neigh_entry_told.out := by
  refine Ref.of (cd := neigh_entry_told.B) Try.func51 ?_
  show SJ neigh_entry_told.cx [.code neigh_entry_told.B] [(0, .pointer a0)] [] (neigh_entry_told a0) neigh_entry_told.F0
  unfold neigh_entry_told
  refine SJ.sr 1 ?_
  refine OJ.slotOf (d := 2) (op := (.alloc 77)) (cd := c_api_Neighbour) (u := z_api_Neighbour) (owed := []) (alloc_run Ty77) (fun b1 => ?_)
  refine OW.nil ?_
  refine OJ.nil ?_
  refine SJ.seq ?_
  refine SJ.draw (id := 1) (kd := [0, 0, 0, 0, 1, 0, 0, 0, 0, 1, 0, 0, 0, 1, 0, 0, 0, 1, 0, 0, 0, 1, 0, 0, 0, 1, 0, 0, 0, 1, 0, 0, 2]) (bef := [0, 1, 3, 7, 15, 0, 32, 96, 224, 480, 0, 1024, 3072, 7168, 0, 16384, 49152, 114688, 0, 262144, 786432, 1835008, 0, 4194304, 12582912, 29360128, 0, 67108864, 201326592, 469762048, 1006632960, 2147483647, 4294967295]) (ord := [0, 1, 2, 3, 4, 5, 6, 7, 8, 9, 10, 11, 12, 13, 14, 15, 16, 17, 18, 19, 20, 21, 22, 23, 24, 25, 26, 27, 28, 29, 30, 31, 32]) mixed ?_
  refine OJ.go 1 [(3, .pointer a0)] ?_
  refine OJ.nilck (d := 4) (y := .tmp 3) (fun p2 => ?_)
  refine OJ.go 2 [(6, .pointer (some p2)), (5, .pointer (some p2))] ?_
  refine OJ.ld (d := 7) (y := .tmp 6) (pend2 := fun x3 => [⟨4, 3, p2, (cI .i64).val x3⟩]) Ty3 (fun _ => rfl) (fun x3 => ?_)
  refine OJ.go 1 [(8, .pointer a0)] ?_
  refine OJ.nilck (d := 9) (y := .tmp 8) (fun p4 => ?_)
  refine OJ.go 2 [(11, .pointer (some (Addr.add p4 1))), (10, .pointer (some p4))] ?_
  refine OJ.ld (d := 12) (y := .tmp 11) (pend2 := fun x5 => [⟨9, 32, (Addr.add p4 1), c_api_IP.val x5⟩, ⟨4, 3, p2, (cI .i64).val x3⟩]) Ty32 (fun _ => rfl) (fun x5 => ?_)
  refine OJ.go 1 [(13, .pointer a0)] ?_
  refine OJ.nilck (d := 14) (y := .tmp 13) (fun p6 => ?_)
  refine OJ.go 1 [(15, .pointer (some (Addr.add p6 18)))] ?_
  refine OJ.ld (d := 16) (y := .tmp 15) (pend2 := fun x7 => [⟨13, 34, (Addr.add p6 18), ((cI .u8).arr 6).val x7⟩, ⟨9, 32, (Addr.add p4 1), c_api_IP.val x5⟩, ⟨4, 3, p2, (cI .i64).val x3⟩]) Ty34 (fun _ => rfl) (fun x7 => ?_)
  refine OJ.go 1 [(17, .pointer a0)] ?_
  refine OJ.nilck (d := 18) (y := .tmp 17) (fun p8 => ?_)
  refine OJ.go 1 [(19, .pointer (some (Addr.add p8 24)))] ?_
  refine OJ.ld (d := 20) (y := .tmp 19) (pend2 := fun x9 => [⟨17, 3, (Addr.add p8 24), (cI .i64).val x9⟩, ⟨13, 34, (Addr.add p6 18), ((cI .u8).arr 6).val x7⟩, ⟨9, 32, (Addr.add p4 1), c_api_IP.val x5⟩, ⟨4, 3, p2, (cI .i64).val x3⟩]) Ty3 (fun _ => rfl) (fun x9 => ?_)
  refine OJ.go 1 [(21, .pointer a0)] ?_
  refine OJ.nilck (d := 22) (y := .tmp 21) (fun p10 => ?_)
  refine OJ.go 1 [(23, .pointer (some (Addr.add p10 25)))] ?_
  refine OJ.ld (d := 24) (y := .tmp 23) (pend2 := fun x11 => [⟨21, 3, (Addr.add p10 25), (cI .i64).val x11⟩, ⟨17, 3, (Addr.add p8 24), (cI .i64).val x9⟩, ⟨13, 34, (Addr.add p6 18), ((cI .u8).arr 6).val x7⟩, ⟨9, 32, (Addr.add p4 1), c_api_IP.val x5⟩, ⟨4, 3, p2, (cI .i64).val x3⟩]) Ty3 (fun _ => rfl) (fun x11 => ?_)
  refine OJ.go 1 [(25, .pointer a0)] ?_
  refine OJ.nilck (d := 26) (y := .tmp 25) (fun p12 => ?_)
  refine OJ.go 1 [(27, .pointer (some (Addr.add p12 26)))] ?_
  refine OJ.ld (d := 28) (y := .tmp 27) (pend2 := fun x13 => [⟨25, 3, (Addr.add p12 26), (cI .i64).val x13⟩, ⟨21, 3, (Addr.add p10 25), (cI .i64).val x11⟩, ⟨17, 3, (Addr.add p8 24), (cI .i64).val x9⟩, ⟨13, 34, (Addr.add p6 18), ((cI .u8).arr 6).val x7⟩, ⟨9, 32, (Addr.add p4 1), c_api_IP.val x5⟩, ⟨4, 3, p2, (cI .i64).val x3⟩]) Ty3 (fun _ => rfl) (fun x13 => ?_)
  refine OJ.go 1 [(29, .pointer a0)] ?_
  refine OJ.nilck (d := 30) (y := .tmp 29) (fun p14 => ?_)
  refine OJ.go 1 [(31, .pointer (some (Addr.add p14 27)))] ?_
  refine OJ.ld (d := 32) (y := .tmp 31) (pend2 := fun x15 => [⟨29, 43, (Addr.add p14 27), cL.val x15⟩, ⟨25, 3, (Addr.add p12 26), (cI .i64).val x13⟩, ⟨21, 3, (Addr.add p10 25), (cI .i64).val x11⟩, ⟨17, 3, (Addr.add p8 24), (cI .i64).val x9⟩, ⟨13, 34, (Addr.add p6 18), ((cI .u8).arr 6).val x7⟩, ⟨9, 32, (Addr.add p4 1), c_api_IP.val x5⟩, ⟨4, 3, p2, (cI .i64).val x3⟩]) Ty43 (fun _ => rfl) (fun x15 => ?_)
  refine OJ.go 1 [(33, .int .i64 (x15.len : Int))] ?_
  refine OJ.build (d := 34) (T := 77) (parts := [(0, .tmp 7), (1, .tmp 12), (2, .tmp 16), (3, .tmp 20), (4, .tmp 24), (5, .tmp 28), (6, .tmp 33)]) (ps := [(0, (cI .i64).val x3), (1, c_api_IP.val x5), (2, ((cI .u8).arr 6).val x7), (3, (cI .i64).val x9), (4, (cI .i64).val x11), (5, (cI .i64).val x13), (6, (cI .i64).val (x15.len : Int))]) (cd := c_api_Neighbour) (z0 := z_api_Neighbour) (⟨x3, x5, x7, x9, x11, x13, (x15.len : Int)⟩ : api_Neighbour) Ty77 rfl (Filled.cons (cd := (cI .i64)) (q := x3) (o := 0) (by kernel_rfl) (Up_api_Neighbour_Port z_api_Neighbour x3) (Filled.cons (cd := c_api_IP) (q := x5) (o := 1) (by kernel_rfl) (Up_api_Neighbour_IP (⟨x3, z_api_Neighbour.IP, z_api_Neighbour.Mac, z_api_Neighbour.State, z_api_Neighbour.Age, z_api_Neighbour.Tries, z_api_Neighbour.Waiting⟩ : api_Neighbour) x5) (Filled.cons (cd := ((cI .u8).arr 6)) (q := x7) (o := 18) (by kernel_rfl) (Up_api_Neighbour_Mac (⟨x3, x5, z_api_Neighbour.Mac, z_api_Neighbour.State, z_api_Neighbour.Age, z_api_Neighbour.Tries, z_api_Neighbour.Waiting⟩ : api_Neighbour) x7) (Filled.cons (cd := (cI .i64)) (q := x9) (o := 24) (by kernel_rfl) (Up_api_Neighbour_State (⟨x3, x5, x7, z_api_Neighbour.State, z_api_Neighbour.Age, z_api_Neighbour.Tries, z_api_Neighbour.Waiting⟩ : api_Neighbour) x9) (Filled.cons (cd := (cI .i64)) (q := x11) (o := 25) (by kernel_rfl) (Up_api_Neighbour_Age (⟨x3, x5, x7, x9, z_api_Neighbour.Age, z_api_Neighbour.Tries, z_api_Neighbour.Waiting⟩ : api_Neighbour) x11) (Filled.cons (cd := (cI .i64)) (q := x13) (o := 26) (by kernel_rfl) (Up_api_Neighbour_Tries (⟨x3, x5, x7, x9, x11, z_api_Neighbour.Tries, z_api_Neighbour.Waiting⟩ : api_Neighbour) x13) (Filled.cons (cd := (cI .i64)) (q := (x15.len : Int)) (o := 27) (by kernel_rfl) (Up_api_Neighbour_Waiting (⟨x3, x5, x7, x9, x11, x13, z_api_Neighbour.Waiting⟩ : api_Neighbour) (x15.len : Int)) Filled.nil))))))) ?_
  refine OJ.kst (y := .tmp 2) (z := .tmp 34) (cd := c_api_Neighbour) (u := (⟨x3, x5, x7, x9, x11, x13, (x15.len : Int)⟩ : api_Neighbour)) (j := 0) (b := b1) (o := 0) (c_api_Neighbour.enc (⟨x3, x5, x7, x9, x11, x13, (x15.len : Int)⟩ : api_Neighbour)) (owed := []) Ty77 rfl (Upd.whole ((Cod.len _ _).trans (Cod.len _ _).symm)) rfl ?_
  refine OW.nil ?_
  refine OJ.nil ?_
  exact SJ.ret rfl (Res.run (ys := [c_api_Neighbour.val (⟨x3, x5, x7, x9, x11, x13, (x15.len : Int)⟩ : api_Neighbour)]) (.cell (j := 0) (b := b1) (cd := c_api_Neighbour) (q := (⟨x3, x5, x7, x9, x11, x13, (x15.len : Int)⟩ : api_Neighbour)) (by kernel_rfl) rfl Ty77 (At.whole _) .nil) rfl)

/-! ### (*weir/neigh.Cache).All: function 27 -/
noncomputable def neigh_Cache_All.B : Code := (Try.f27.body).getD .skip
noncomputable def neigh_Cache_All.cx : Fx := ⟨Try.prog, 27, Try.f27⟩
noncomputable def neigh_Cache_All.out (r_ : Sl) : Value := Sl.v r_
noncomputable def neigh_Cache_All.F0 (r_ : Sl) : Reach := .ret (neigh_Cache_All.out r_)
noncomputable def neigh_Cache_All.F1 (r1 : Sl) : (LS (Sl × Int) Sl) → Reach := loopF [.inLoop (c1 (c1 (c2 (c1 (c2 (c2 neigh_Cache_All.B)))))), .inBlock 0, .code (c2 (c2 (c2 neigh_Cache_All.B)))] (fun s_ : (Sl × Int) => [(3, Sl.v s_.1), (7, Sl.v r1), (8, .int .i64 (r1.len : Int)), (9, .int .i64 s_.2)]) (fun s_ : (Sl × Int) => []) neigh_Cache_All.F0
noncomputable def neigh_Cache_All.L1 (r1 : Sl) (s2 : Sl) (s3 : Int) : M (LS (Sl × Int) Sl) :=
  if s3 < (r1.len : Int) then
    idx r1.a r1.len s3 1 >>= fun p10 =>
    ld cP p10 >>= fun x11 =>
    neigh_entry_told x11 >>= fun r12 =>
    slot 77 >>= fun b13 =>
    appl c_api_Neighbour 77 72 z_api_Neighbour s2 [r12] >>= fun r14 =>
    pure (LS.next (r14, IntKind.wrap .i64 (s3 + 1)))
  else
    pure (LS.done s2)
theorem neigh_Cache_All.L1_ok (r1 : Sl) (s2 : Sl) (s3 : Int) :
    SJ neigh_Cache_All.cx [.code (c1 (c1 (c2 (c1 (c2 (c2 neigh_Cache_All.B)))))), .inLoop (c1 (c1 (c2 (c1 (c2 (c2 neigh_Cache_All.B)))))), .inBlock 0, .code (c2 (c2 (c2 neigh_Cache_All.B)))] [(3, Sl.v s2), (7, Sl.v r1), (8, .int .i64 (r1.len : Int)), (9, .int .i64 s3)] [] (neigh_Cache_All.L1 r1 s2 s3) (neigh_Cache_All.F1 r1) := by
  unfold neigh_Cache_All.L1
  refine SJ.sr 1 ?_
  refine OJ.go 1 [(10, .bool (decide (s3 < (r1.len : Int))))] ?_
  refine OJ.nil ?_
  refine SJ.seq ?_
  refine SJ.cond (t := (.tmp 10)) (b := decide (s3 < (r1.len : Int))) decide_eq_true_iff (fun hc15 => ?_) (fun hc15 => ?_)
  · refine SJ.skip ?_
    refine SJ.seq ?_
    refine SJ.block (id := 1) ?_
    refine SJ.sr 3 ?_
    refine OJ.idxS (d := 11) (T := 108) (y := .tmp 7) (j := .tmp 9) (E := 100) (cap := r1.cap) (k := .i64) (fun p10 => ?_)
    refine OJ.ld (d := 12) (y := .tmp 11) (pend2 := fun x11 => []) Ty100 (fun _ => rfl) (fun x11 => ?_)
    refine OJ.go 1 [(5, .pointer x11)] ?_
    refine OJ.nil ?_
    refine SJ.rg 6 ?_
    refine OJ.go 2 [(14, .pointer x11), (13, Sl.v s2)] ?_
    refine OJ.call (d := 15) (g := 51) (ats := #[100]) (args := [.tmp 14]) (owed := []) F51 (neigh_entry_told_ok x11) (fun r12 => ?_)
    refine OW.nil ?_
    refine OJ.rowSlot (d := 16) (t := 68) (parts := [(0, .tmp 15)]) (ps := [(0, c_api_Neighbour.val r12)]) (cd := c_api_Neighbour) (⟨[r12], rfl⟩ : Vec api_Neighbour 1) (owed := []) Ty77 (Filled.cons (cd := c_api_Neighbour) (q := r12) (o := 0) rfl (Upd.arr (i := 0) (by decide) (by decide)) Filled.nil) (fun b13 => ?_)
    refine OW.nil ?_
    refine OJ.appl (d := 17) (t := 68) (u := 68) (so := .tmp 13) (xo := .tmp 16) (j := 0) (b := b13) (l := (c_api_Neighbour.arr 1).enc (⟨[r12], rfl⟩ : Vec api_Neighbour 1)) (n := 1) (k := 1) [r12] (owed := []) Ty77 (by rfl) (Cod.arr_enc _ _ _) (by rfl) (fun r14 => ?_)
    refine OW.nil ?_
    refine OJ.go 1 [(3, Sl.v r14)] ?_
    refine OJ.nil ?_
    refine SJ.inBlock ?_
    refine SJ.rg 2 ?_
    refine OJ.go 2 [(9, .int .i64 (IntKind.wrap .i64 (s3 + 1))), (18, .int .i64 (IntKind.wrap .i64 (s3 + 1)))] ?_
    refine OJ.nil ?_
    refine SJ.forget (List.Sublist.cons _ List.Sublist.slnil) ?_
    exact SJ.at_ [3, 7, 8, 9] rfl
  · refine SJ.exit (id := 0) (by rfl) ?_
    refine SJ.sr 2 ?_
    refine OJ.go 2 [(2, Sl.v s2), (19, Sl.v s2)] ?_
    refine OJ.nil ?_
    exact SJ.ret rfl (Res.run (ys := [Sl.v s2]) (.tmp (by kernel_rfl) .nil) rfl)
noncomputable def neigh_Cache_All (a0 : (Option Addr)) : M Sl :=
  neigh_Cache_sorted a0 >>= fun r1 =>
  loopM (fun s_ : (Sl × Int) => neigh_Cache_All.L1 r1 s_.1 s_.2) (Sl.nil, 0)
theorem neigh_Cache_All_ok (a0 : (Option Addr)) : Ref Try.prog 27 [.pointer a0] (neigh_Cache_All a0) neigh_Cache_All.out := by
  refine Ref.of (cd := neigh_Cache_All.B) Try.func27 ?_
  show SJ neigh_Cache_All.cx [.code neigh_Cache_All.B] [(0, .pointer a0)] [] (neigh_Cache_All a0) neigh_Cache_All.F0
  unfold neigh_Cache_All
  refine SJ.sr 1 ?_
  refine OJ.go 1 [(2, Sl.v Sl.nil)] ?_
  refine OJ.nil ?_
  refine SJ.sr 1 ?_
  refine OJ.go 1 [(3, Sl.v Sl.nil)] ?_
  refine OJ.nil ?_
  refine SJ.seq ?_
  refine SJ.sr 4 ?_
  refine OJ.go 1 [(6, .pointer a0)] ?_
  refine OJ.call (d := 7) (g := 50) (ats := #[25]) (args := [.tmp 6]) (owed := []) F50 (neigh_Cache_sorted_ok a0) (fun r1 => ?_)
  refine OW.nil ?_
  refine OJ.go 2 [(9, .int .i64 0), (8, .int .i64 (r1.len : Int))] ?_
  refine OJ.nil ?_
  refine SJ.block (id := 0) ?_
  exact SJ.loop (fun s_ : (Sl × Int) => [(3, Sl.v s_.1), (7, Sl.v r1), (8, .int .i64 (r1.len : Int)), (9, .int .i64 s_.2)]) (fun s_ : (Sl × Int) => []) [3, 7, 8, 9] rfl (fun _ _ => rfl) (fun s_ => neigh_Cache_All.L1_ok r1 s_.1 s_.2)

/-! ### weir/weirlaw15.sameAll: function 28 -/
noncomputable def weirlaw15_sameAll.B : Code := (Try.f28.body).getD .skip
noncomputable def weirlaw15_sameAll.cx : Fx := ⟨Try.prog, 28, Try.f28⟩
noncomputable def weirlaw15_sameAll.out (r_ : Bool) : Value := .bool r_
noncomputable def weirlaw15_sameAll.F0 (r_ : Bool) : Reach := .ret (weirlaw15_sameAll.out r_)
noncomputable def weirlaw15_sameAll.F1 (a0 : Sl) (a1 : Sl) : (LS Int Bool) → Reach := loopF [.inLoop (c1 (c1 (c2 (c1 (c2 (c2 weirlaw15_sameAll.B)))))), .inBlock 0, .code (c2 (c2 (c2 weirlaw15_sameAll.B)))] (fun s_ : Int => [(0, Sl.v a0), (1, Sl.v a1), (5, .int .i64 s_)]) (fun s_ : Int => []) weirlaw15_sameAll.F0
noncomputable def weirlaw15_sameAll.L1 (a0 : Sl) (a1 : Sl) (s1 : Int) : M (LS Int Bool) :=
  if s1 < (a0.len : Int) then
    draw >>= fun _ =>
    idx a0.a a0.len s1 28 >>= fun p8 =>
    ld c_api_Neighbour p8 >>= fun x9 =>
    idx a1.a a1.len s1 28 >>= fun p10 =>
    ld c_api_Neighbour p10 >>= fun x11 =>
    if ¬ (x9 = x11) then
      pure (LS.done false)
    else
      pure (LS.next (IntKind.wrap .i64 (s1 + 1)))
  else
    pure (LS.done true)
theorem weirlaw15_sameAll.L1_ok (a0 : Sl) (a1 : Sl) (s1 : Int) :
    SJ weirlaw15_sameAll.cx [.code (c1 (c1 (c2 (c1 (c2 (c2 weirlaw15_sameAll.B)))))), .inLoop (c1 (c1 (c2 (c1 (c2 (c2 weirlaw15_sameAll.B)))))), .inBlock 0, .code (c2 (c2 (c2 weirlaw15_sameAll.B)))] [(0, Sl.v a0), (1, Sl.v a1), (5, .int .i64 s1)] [] (weirlaw15_sameAll.L1 a0 a1 s1) (weirlaw15_sameAll.F1 a0 a1) := by
  unfold weirlaw15_sameAll.L1
  refine SJ.seq ?_
  refine SJ.sr 4 ?_
  refine OJ.go 4 [(14, .bool (decide (s1 < (a0.len : Int)))), (13, .int .i64 (a0.len : Int)), (12, Sl.v a0), (11, .int .i64 s1)] ?_
  refine OJ.nil ?_
  refine SJ.cond (t := (.tmp 14)) (b := decide (s1 < (a0.len : Int))) decide_eq_true_iff (fun hc13 => ?_) (fun hc13 => ?_)
  · refine SJ.skip ?_
    refine SJ.seq ?_
    refine SJ.block (id := 1) ?_
    refine SJ.seq ?_
    refine SJ.draw (id := 6) (kd := [0, 0, 0, 1, 0, 0, 0, 1, 0]) (bef := [0, 0, 3, 7, 0, 0, 48, 112, 255]) (ord := [0, 1, 2, 3, 4, 5, 6, 7, 8]) mixed ?_
    refine OJ.go 2 [(18, .int .i64 s1), (17, Sl.v a0)] ?_
    refine OJ.idxS (d := 19) (T := 68) (y := .tmp 17) (j := .tmp 18) (E := 77) (cap := a0.cap) (k := .i64) (fun p8 => ?_)
    refine OJ.ld (d := 20) (y := .tmp 19) (pend2 := fun x9 => [⟨3, 77, p8, c_api_Neighbour.val x9⟩]) Ty77 (fun _ => rfl) (fun x9 => ?_)
    refine OJ.go 2 [(22, .int .i64 s1), (21, Sl.v a1)] ?_
    refine OJ.idxS (d := 23) (T := 68) (y := .tmp 21) (j := .tmp 22) (E := 77) (cap := a1.cap) (k := .i64) (fun p10 => ?_)
    refine OJ.ld (d := 24) (y := .tmp 23) (pend2 := fun x11 => [⟨7, 77, p10, c_api_Neighbour.val x11⟩, ⟨3, 77, p8, c_api_Neighbour.val x9⟩]) Ty77 (fun _ => rfl) (fun x11 => ?_)
    refine OJ.neq (d := 25) (T := 77) (yT := 77) (y := .tmp 20) (z := .tmp 24) (cd := c_api_Neighbour) (p := x9) (q := x11) rfl Eq77 ?_
    refine OJ.nil ?_
    refine SJ.cond (t := (.tmp 25)) (b := (!eqv x9 x11)) (bnot_iff eqv_iff) (fun hc12 => ?_) (fun hc12 => ?_)
    · refine SJ.sr 1 ?_
      refine OJ.go 1 [(4, .bool false)] ?_
      refine OJ.nil ?_
      exact SJ.ret rfl (Res.run (ys := [.bool false]) (.tmp (by kernel_rfl) .nil) rfl)
    · refine SJ.skip ?_
      refine SJ.inBlock ?_
      refine SJ.rg 3 ?_
      refine OJ.go 3 [(5, .int .i64 (IntKind.wrap .i64 (s1 + 1))), (16, .int .i64 (IntKind.wrap .i64 (s1 + 1))), (15, .int .i64 s1)] ?_
      refine OJ.nil ?_
      exact SJ.at_ [0, 1, 5] rfl
  · refine SJ.exit (id := 0) (by rfl) ?_
    refine SJ.sr 1 ?_
    refine OJ.go 1 [(4, .bool true)] ?_
    refine OJ.nil ?_
    exact SJ.ret rfl (Res.run (ys := [.bool true]) (.tmp (by kernel_rfl) .nil) rfl)
noncomputable def weirlaw15_sameAll (a0 : Sl) (a1 : Sl) : M Bool :=
  if (a0.len : Int) ≠ (a1.len : Int) then
    pure false
  else
    loopM (fun s_ : Int => weirlaw15_sameAll.L1 a0 a1 s_) 0
theorem weirlaw15_sameAll_ok (a0 : Sl) (a1 : Sl) : Ref Try.prog 28 [Sl.v a0, Sl.v a1] (weirlaw15_sameAll a0 a1) weirlaw15_sameAll.out := by
  refine Ref.of (cd := weirlaw15_sameAll.B) Try.func28 ?_
  show SJ weirlaw15_sameAll.cx [.code weirlaw15_sameAll.B] [(0, Sl.v a0), (1, Sl.v a1)] [] (weirlaw15_sameAll a0 a1) weirlaw15_sameAll.F0
  unfold weirlaw15_sameAll
  refine SJ.sr 1 ?_
  refine OJ.go 1 [(4, .bool false)] ?_
  refine OJ.nil ?_
  refine SJ.seq ?_
  refine SJ.sr 5 ?_
  refine OJ.go 5 [(10, .bool ((a0.len : Int) != (a1.len : Int))), (9, .int .i64 (a1.len : Int)), (8, Sl.v a1), (7, .int .i64 (a0.len : Int)), (6, Sl.v a0)] ?_
  refine OJ.nil ?_
  refine SJ.cond (t := (.tmp 10)) (b := ((a0.len : Int) != (a1.len : Int))) bne_iff_ne (fun hc14 => ?_) (fun hc14 => ?_)
  · refine SJ.sr 1 ?_
    refine OJ.go 1 [(4, .bool false)] ?_
    refine OJ.nil ?_
    exact SJ.ret rfl (Res.run (ys := [.bool false]) (.tmp (by kernel_rfl) .nil) rfl)
  · refine SJ.skip ?_
    refine SJ.seq ?_
    refine SJ.sr 1 ?_
    refine OJ.go 1 [(5, .int .i64 0)] ?_
    refine OJ.nil ?_
    refine SJ.block (id := 0) ?_
    exact SJ.loop (fun s_ : Int => [(0, Sl.v a0), (1, Sl.v a1), (5, .int .i64 s_)]) (fun s_ : Int => []) [0, 1, 5] rfl (fun _ _ => rfl) (fun s_ => weirlaw15_sameAll.L1_ok a0 a1 s_)

/-! ### (*weir/weirlaw15.Rows).KeepN: function 29 -/
noncomputable def weirlaw15_Rows_KeepN.B : Code := (Try.f29.body).getD .skip
noncomputable def weirlaw15_Rows_KeepN.cx : Fx := ⟨Try.prog, 29, Try.f29⟩
noncomputable def weirlaw15_Rows_KeepN.out (r_ : Unit) : Value := .tuple #[]
noncomputable def weirlaw15_Rows_KeepN.F0 (r_ : Unit) : Reach := .ret (weirlaw15_Rows_KeepN.out r_)
noncomputable def weirlaw15_Rows_KeepN (a0 : (Option Addr)) (a1 : Sl) : M Unit :=
  appS c_api_Neighbour 77 72 z_api_Neighbour Sl.nil a1 >>= fun r1 =>
  nilck a0 >>= fun p2 =>
  ld cL p2 >>= fun x3 =>
  slot 68 >>= fun b4 =>
  appl cL 68 24 Sl.nil x3 [a1] >>= fun r5 =>
  nilck a0 >>= fun p6 =>
  st cL p6 r5 >>= fun _ =>
  nilck a0 >>= fun p7 =>
  ld cL (Addr.add p7 1) >>= fun x8 =>
  slot 68 >>= fun b9 =>
  appl cL 68 24 Sl.nil x8 [r1] >>= fun r10 =>
  nilck a0 >>= fun p11 =>
  st cL (Addr.add p11 1) r10 >>= fun _ =>
  pure ()
theorem weirlaw15_Rows_KeepN_ok (a0 : (Option Addr)) (a1 : Sl) : Ref Try.prog 29 [.pointer a0, Sl.v a1] (weirlaw15_Rows_KeepN a0 a1) weirlaw15_Rows_KeepN.out := by
  refine Ref.of (cd := weirlaw15_Rows_KeepN.B) Try.func29 ?_
  show SJ weirlaw15_Rows_KeepN.cx [.code weirlaw15_Rows_KeepN.B] [(0, .pointer a0), (1, Sl.v a1)] [] (weirlaw15_Rows_KeepN a0 a1) weirlaw15_Rows_KeepN.F0
  unfold weirlaw15_Rows_KeepN
  refine SJ.sr 1 ?_
  refine OJ.go 1 [(4, Sl.v Sl.nil)] ?_
  refine OJ.nil ?_
  refine SJ.sr 4 ?_
  refine OJ.go 2 [(6, Sl.v a1), (5, Sl.v Sl.nil)] ?_
  refine OJ.appS (d := 7) (t := 68) (u := 68) (so := .tmp 5) (xo := .tmp 6) (owed := []) Ty77 (fun r1 => ?_)
  refine OW.nil ?_
  refine OJ.go 1 [(4, Sl.v r1)] ?_
  refine OJ.nil ?_
  refine SJ.sr 11 ?_
  refine OJ.go 2 [(9, .pointer a0), (8, .pointer a0)] ?_
  refine OJ.nilck (d := 10) (y := .tmp 9) (fun p2 => ?_)
  refine OJ.go 1 [(11, .pointer (some p2))] ?_
  refine OJ.ld (d := 12) (y := .tmp 11) (pend2 := fun x3 => []) Ty60 (fun _ => rfl) (fun x3 => ?_)
  refine OJ.go 1 [(13, Sl.v a1)] ?_
  refine OJ.rowSlot (d := 14) (t := 60) (parts := [(0, .tmp 13)]) (ps := [(0, cL.val a1)]) (cd := cL) (⟨[a1], rfl⟩ : Vec Sl 1) (owed := []) Ty68 (Filled.cons (cd := cL) (q := a1) (o := 0) rfl (Upd.arr (i := 0) (by decide) (by decide)) Filled.nil) (fun b4 => ?_)
  refine OW.nil ?_
  refine OJ.appl (d := 15) (t := 60) (u := 60) (so := .tmp 12) (xo := .tmp 14) (j := 0) (b := b4) (l := (cL.arr 1).enc (⟨[a1], rfl⟩ : Vec Sl 1)) (n := 1) (k := 1) [a1] (owed := []) Ty68 (by rfl) (Cod.arr_enc _ _ _) (by rfl) (fun r5 => ?_)
  refine OW.nil ?_
  refine OJ.nilck (d := 16) (y := .tmp 8) (fun p6 => ?_)
  refine OJ.go 1 [(17, .pointer (some p6))] ?_
  refine OJ.st (y := .tmp 17) (z := .tmp 15) (owed := []) Ty60 ?_
  refine OW.nil ?_
  refine OJ.nil ?_
  refine SJ.rg 11 ?_
  refine OJ.go 2 [(19, .pointer a0), (18, .pointer a0)] ?_
  refine OJ.nilck (d := 20) (y := .tmp 19) (fun p7 => ?_)
  refine OJ.go 1 [(21, .pointer (some (Addr.add p7 1)))] ?_
  refine OJ.ld (d := 22) (y := .tmp 21) (pend2 := fun x8 => []) Ty60 (fun _ => rfl) (fun x8 => ?_)
  refine OJ.go 1 [(23, Sl.v r1)] ?_
  refine OJ.rowSlot (d := 24) (t := 60) (parts := [(0, .tmp 23)]) (ps := [(0, cL.val r1)]) (cd := cL) (⟨[r1], rfl⟩ : Vec Sl 1) (owed := []) Ty68 (Filled.cons (cd := cL) (q := r1) (o := 0) rfl (Upd.arr (i := 0) (by decide) (by decide)) Filled.nil) (fun b9 => ?_)
  refine OW.nil ?_
  refine OJ.appl (d := 25) (t := 60) (u := 60) (so := .tmp 22) (xo := .tmp 24) (j := 0) (b := b9) (l := (cL.arr 1).enc (⟨[r1], rfl⟩ : Vec Sl 1)) (n := 1) (k := 1) [r1] (owed := []) Ty68 (by rfl) (Cod.arr_enc _ _ _) (by rfl) (fun r10 => ?_)
  refine OW.nil ?_
  refine OJ.nilck (d := 26) (y := .tmp 18) (fun p11 => ?_)
  refine OJ.go 1 [(27, .pointer (some (Addr.add p11 1)))] ?_
  refine OJ.st (y := .tmp 27) (z := .tmp 25) (owed := []) Ty60 ?_
  refine OW.nil ?_
  refine OJ.nil ?_
  exact SJ.end_ rfl (Res.run (ys := []) .nil rfl)
end Go.Proofs.Ytlkhijflgbobjaa.Lx
