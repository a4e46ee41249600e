/- Programs of the M-world for Go functions, each with the proof that the Go text does what it says. Printed by lxgen.py. -/
import Derived.Test.YtlkhijflgbobjaaLxT
import Derived.Test.YtlkhijflgbobjaaLxP0
import Derived.Test.YtlkhijflgbobjaaLxP1
set_option linter.unusedVariables false
set_option linter.unusedSimpArgs false
namespace Go.Proofs.Ytlkhijflgbobjaa.Lx
open Go Go.Proofs
/-! ### (*weir/neigh.Cache).room: function 47 -/
noncomputable def neigh_Cache_room.B : Code := (Try.f47.body).getD .skip
noncomputable def neigh_Cache_room.cx : Fx := ⟨Try.prog, 47, Try.f47⟩
noncomputable def neigh_Cache_room.out (r_ : Bool) : Value := .bool r_
noncomputable def neigh_Cache_room.F0 (r_ : Bool) : Reach := .ret (neigh_Cache_room.out r_)
noncomputable def neigh_Cache_room.K1 (a0 : (Option Addr)) (s7 : (Option Addr)) : M Bool :=
  if s7 = none then
    pure false
  else
    draw >>= fun _ =>
    nilck a0 >>= fun p21 =>
    ld cM (Addr.add p21 5) >>= fun x22 =>
    nilck s7 >>= fun p23 =>
    ld c_neigh_key p23 >>= fun x24 =>
    mdel c_neigh_key cP x22 x24 >>= fun _ =>
    pure true
theorem neigh_Cache_room.K1_ok (a0 : (Option Addr)) (s7 : (Option Addr)) :
    SJ neigh_Cache_room.cx [.code (c2 (c2 (c2 (c2 neigh_Cache_room.B))))] [(0, .pointer a0), (3, .pointer s7)] [] (neigh_Cache_room.K1 a0 s7) neigh_Cache_room.F0 := by
  unfold neigh_Cache_room.K1
  refine SJ.seq ?_
  refine SJ.sr 2 ?_
  refine OJ.go 2 [(47, .bool (Option.isNone s7)), (46, .pointer s7)] ?_
  refine OJ.nil ?_
  refine SJ.cond (t := (.tmp 47)) (b := (Option.isNone s7)) Option.isNone_iff_eq_none (fun hc25 => ?_) (fun hc25 => ?_)
  · refine SJ.sr 1 ?_
    refine OJ.go 1 [(2, .bool false)] ?_
    refine OJ.nil ?_
    exact SJ.ret rfl (Res.run (ys := [.bool false]) (.tmp (by kernel_rfl) .nil) rfl)
  · refine SJ.skip ?_
    refine SJ.seq ?_
    refine SJ.draw (id := 12) (kd := [0, 0, 0, 1, 0, 0, 0, 1, 2]) (bef := [0, 1, 3, 7, 0, 16, 48, 112, 255]) (ord := [0, 1, 2, 3, 4, 5, 6, 7, 8]) mixed ?_
    refine OJ.go 1 [(48, .pointer a0)] ?_
    refine OJ.nilck (d := 49) (y := .tmp 48) (fun p21 => ?_)
    refine OJ.go 1 [(50, .pointer (some (Addr.add p21 5)))] ?_
    refine OJ.ld (d := 51) (y := .tmp 50) (pend2 := fun x22 => [⟨3, 101, (Addr.add p21 5), cM.val x22⟩]) Ty101 (fun _ => rfl) (fun x22 => ?_)
    refine OJ.go 1 [(52, .pointer s7)] ?_
    refine OJ.nilck (d := 53) (y := .tmp 52) (fun p23 => ?_)
    refine OJ.go 1 [(54, .pointer (some p23))] ?_
    refine OJ.ld (d := 55) (y := .tmp 54) (pend2 := fun x24 => [⟨7, 99, p23, c_neigh_key.val x24⟩, ⟨3, 101, (Addr.add p21 5), cM.val x22⟩]) Ty99 (fun _ => rfl) (fun x24 => ?_)
    refine OJ.mdel (uT := 99) (x := .tmp 51) (y := .tmp 55) (owed := []) Kt101 ?_
    refine OW.nil ?_
    refine OJ.nil ?_
    refine SJ.sr 1 ?_
    refine OJ.go 1 [(2, .bool true)] ?_
    refine OJ.nil ?_
    exact SJ.ret rfl (Res.run (ys := [.bool true]) (.tmp (by kernel_rfl) .nil) rfl)
noncomputable def neigh_Cache_room.F1 (a0 : (Option Addr)) (r6 : Sl) : (LS ((Option Addr) × Int) Bool) → Reach := loopF [.inLoop (c1 (c1 (c2 (c1 (c2 (c2 (c2 neigh_Cache_room.B))))))), .inBlock 0, .code (c2 (c2 (c2 (c2 neigh_Cache_room.B))))] (fun s_ : ((Option Addr) × Int) => [(0, .pointer a0), (3, .pointer s_.1), (18, Sl.v r6), (19, .int .i64 (r6.len : Int)), (20, .int .i64 s_.2)]) (fun s_ : ((Option Addr) × Int) => []) neigh_Cache_room.F0
noncomputable def neigh_Cache_room.L1 (a0 : (Option Addr)) (r6 : Sl) (s7 : (Option Addr)) (s8 : Int) : M (LS ((Option Addr) × Int) Bool) :=
  if s8 < (r6.len : Int) then
    idx r6.a r6.len s8 1 >>= fun p26 =>
    ld cP p26 >>= fun x27 =>
    draw >>= fun _ =>
    nilck x27 >>= fun p28 =>
    ld (cI .i64) (Addr.add p28 24) >>= fun x29 =>
    (if x29 = 3 then
        (if s7 = none then
            pure true
          else
            nilck x27 >>= fun p30 =>
            ld (cI .i64) (Addr.add p30 25) >>= fun x31 =>
            nilck s7 >>= fun p32 =>
            ld (cI .i64) (Addr.add p32 25) >>= fun x33 =>
            pure (decide (x31 > x33))) >>= fun y34 =>
        pure y34
      else
        pure false) >>= fun y35 =>
    if y35 = true then
      pure (LS.next (x27, IntKind.wrap .i64 (s8 + 1)))
    else
      pure (LS.next (s7, IntKind.wrap .i64 (s8 + 1)))
  else
    (neigh_Cache_room.K1 a0 s7) >>= fun b => pure (LS.done b)
theorem neigh_Cache_room.L1_ok (a0 : (Option Addr)) (r6 : Sl) (s7 : (Option Addr)) (s8 : Int) :
    SJ neigh_Cache_room.cx [.code (c1 (c1 (c2 (c1 (c2 (c2 (c2 neigh_Cache_room.B))))))), .inLoop (c1 (c1 (c2 (c1 (c2 (c2 (c2 neigh_Cache_room.B))))))), .inBlock 0, .code (c2 (c2 (c2 (c2 neigh_Cache_room.B))))] [(0, .pointer a0), (3, .pointer s7), (18, Sl.v r6), (19, .int .i64 (r6.len : Int)), (20, .int .i64 s8)] [] (neigh_Cache_room.L1 a0 r6 s7 s8) (neigh_Cache_room.F1 a0 r6) := by
  unfold neigh_Cache_room.L1
  refine SJ.sr 1 ?_
  refine OJ.go 1 [(21, .bool (decide (s8 < (r6.len : Int))))] ?_
  refine OJ.nil ?_
  refine SJ.seq ?_
  refine SJ.cond (t := (.tmp 21)) (b := decide (s8 < (r6.len : Int))) decide_eq_true_iff (fun hc37 => ?_) (fun hc37 => ?_)
  · refine SJ.skip ?_
    refine SJ.seq ?_
    refine SJ.block (id := 1) ?_
    refine SJ.sr 3 ?_
    refine OJ.idxS (d := 22) (T := 108) (y := .tmp 18) (j := .tmp 20) (E := 100) (cap := r6.cap) (k := .i64) (fun p26 => ?_)
    refine OJ.ld (d := 23) (y := .tmp 22) (pend2 := fun x27 => []) Ty100 (fun _ => rfl) (fun x27 => ?_)
    refine OJ.go 1 [(5, .pointer x27)] ?_
    refine OJ.nil ?_
    refine SJ.seq ?_
    refine SJ.draw (id := 7) (kd := [0, 0, 0, 1, 0, 0, 0, 0, 0, 0, 0, 0, 1, 0, 0, 0, 1, 0, 0, 0]) (bef := [0, 1, 3, 7, 15, 31, 63, 127, 255, 511, 1023, 2047, 4095, 511, 8703, 25087, 57855, 131071, 262143, 524287]) (ord := [0, 1, 2, 3, 4, 5, 6, 7, 8, 9, 10, 11, 12, 13, 14, 15, 16, 17, 18, 19]) mixed ?_
    refine OJ.go 1 [(24, .pointer x27)] ?_
    refine OJ.nilck (d := 25) (y := .tmp 24) (fun p28 => ?_)
    refine OJ.go 1 [(26, .pointer (some (Addr.add p28 24)))] ?_
    refine OJ.ld (d := 27) (y := .tmp 26) (pend2 := fun x29 => [⟨3, 3, (Addr.add p28 24), (cI .i64).val x29⟩]) Ty3 (fun _ => rfl) (fun x29 => ?_)
    refine OJ.go 2 [(29, .bool (x29 == 3)), (28, .bool (x29 == 3))] ?_
    refine OJ.join (b := (x29 == 3)) [6, 7, 8, 9, 10, 11, 12, 13, 14, 15, 16, 17, 18, 19] [] [0, 3, 18, 19, 20, 5, 43] (fun y35 => [(0, .pointer a0), (3, .pointer s7), (18, Sl.v r6), (19, .int .i64 (r6.len : Int)), (20, .int .i64 s8), (5, .pointer x27), (43, .bool y35)]) [⟨3, 3, (Addr.add p28 24), (cI .i64).val x29⟩] [12, 16] (t := 29) beq_iff_eq (fun hp_ => ?_) (fun hp_ => ?_) (fun _ _ _ _ _ _ h_ => h_) (fun y35 => ?_)
    · refine OJ.go 3 [(32, .bool (Option.isNone s7)), (31, .bool (Option.isNone s7)), (30, .pointer s7)] ?_
      refine OJ.join (b := (Option.isNone s7)) [9, 10, 11, 12, 13, 14, 15, 16, 17, 18] [19] [0, 3, 18, 19, 20, 5, 29, 42] (fun y34 => [(0, .pointer a0), (3, .pointer s7), (18, Sl.v r6), (19, .int .i64 (r6.len : Int)), (20, .int .i64 s8), (5, .pointer x27), (29, .bool true), (42, .bool y34)]) [⟨3, 3, (Addr.add p28 24), (cI .i64).val x29⟩] [12, 16] (t := 32) Option.isNone_iff_eq_none (fun hp_ => ?_) (fun hp_ => ?_) (fun _ _ _ _ _ hq_ h_ => ⟨fun e_ he_ => by rcases hq_ e_ he_ with h | h; exact h_.1 e_ h; exact .inr ((by decide : ∀ i ∈ [12, 16], i ∈ [12, 16]) _ h), h_.2⟩) (fun y34 => ?_)
      · refine OJ.go 10 [(42, .bool true), (41, undef), (40, undef), (39, undef), (38, undef), (37, undef), (36, undef), (35, undef), (34, undef), (33, undef)] ?_
        exact OJ.nil ⟨(Cov.mem (Cov.keep (List.mem_of_getElem? (i := 0) rfl) Cov.nil)), rfl, _, rfl, by kernel_rfl⟩
      · refine OJ.go 1 [(33, .pointer x27)] ?_
        refine OJ.nilck (d := 34) (y := .tmp 33) (fun p30 => ?_)
        refine OJ.go 1 [(35, .pointer (some (Addr.add p30 25)))] ?_
        refine OJ.ld (d := 36) (y := .tmp 35) (pend2 := fun x31 => [⟨12, 3, (Addr.add p30 25), (cI .i64).val x31⟩, ⟨3, 3, (Addr.add p28 24), (cI .i64).val x29⟩]) Ty3 (fun _ => rfl) (fun x31 => ?_)
        refine OJ.go 1 [(37, .pointer s7)] ?_
        refine OJ.nilck (d := 38) (y := .tmp 37) (fun p32 => ?_)
        refine OJ.go 1 [(39, .pointer (some (Addr.add p32 25)))] ?_
        refine OJ.ld (d := 40) (y := .tmp 39) (pend2 := fun x33 => [⟨16, 3, (Addr.add p32 25), (cI .i64).val x33⟩, ⟨12, 3, (Addr.add p30 25), (cI .i64).val x31⟩, ⟨3, 3, (Addr.add p28 24), (cI .i64).val x29⟩]) Ty3 (fun _ => rfl) (fun x33 => ?_)
        refine OJ.go 2 [(42, .bool (decide (x31 > x33))), (41, .bool (decide (x31 > x33)))] ?_
        exact OJ.nil ⟨(Cov.mem (Cov.drop (List.mem_of_getElem? (i := 1) rfl) (Cov.drop (List.mem_of_getElem? (i := 0) rfl) (Cov.keep (List.mem_of_getElem? (i := 0) rfl) Cov.nil)))), rfl, _, rfl, by kernel_rfl⟩
      · refine OJ.go 1 [(43, .bool y34)] ?_
        exact OJ.nil ⟨(Cov.mem (Cov.keep (List.mem_of_getElem? (i := 0) rfl) Cov.nil)), rfl, _, rfl, by kernel_rfl⟩
    · refine OJ.go 14 [(43, .bool false), (42, undef), (41, undef), (40, undef), (39, undef), (38, undef), (37, undef), (36, undef), (35, undef), (34, undef), (33, undef), (32, undef), (31, undef), (30, undef)] ?_
      exact OJ.nil ⟨(Cov.mem (Cov.keep (List.mem_of_getElem? (i := 0) rfl) Cov.nil)), rfl, _, rfl, by kernel_rfl⟩
    · refine OJ.nil ?_
      refine SJ.cond (t := (.tmp 43)) (b := y35) Iff.rfl (fun hc36 => ?_) (fun hc36 => ?_)
      · refine SJ.rg 2 ?_
        refine OJ.go 2 [(3, .pointer x27), (44, .pointer x27)] ?_
        refine OJ.nil ?_
        refine SJ.inBlock ?_
        refine SJ.rg 2 ?_
        refine OJ.go 2 [(20, .int .i64 (IntKind.wrap .i64 (s8 + 1))), (45, .int .i64 (IntKind.wrap .i64 (s8 + 1)))] ?_
        refine OJ.nil ?_
        exact SJ.at_ [0, 3, 18, 19, 20] rfl
      · refine SJ.skip ?_
        refine SJ.inBlock ?_
        refine SJ.rg 2 ?_
        refine OJ.go 2 [(20, .int .i64 (IntKind.wrap .i64 (s8 + 1))), (45, .int .i64 (IntKind.wrap .i64 (s8 + 1)))] ?_
        refine OJ.nil ?_
        exact SJ.at_ [0, 3, 18, 19, 20] rfl
  · refine SJ.exit (id := 0) (by rfl) ?_
    refine SJ.less [0, 3] (m' := [(0, .pointer a0), (3, .pointer s7)]) ?_
    refine SJ.done ?_
    exact neigh_Cache_room.K1_ok a0 s7
noncomputable def neigh_Cache_room (a0 : (Option Addr)) : M Bool :=
  draw >>= fun _ =>
  nilck a0 >>= fun p1 =>
  ld cM (Addr.add p1 5) >>= fun x2 =>
  nilck a0 >>= fun p3 =>
  ld (cI .i64) p3 >>= fun x4 =>
  mlen x2 >>= fun r5 =>
  same (cI .i64) p3 x4 >>= fun _ =>
  if r5 < x4 then
    pure true
  else
    neigh_Cache_sorted a0 >>= fun r6 =>
    loopM (fun s_ : ((Option Addr) × Int) => neigh_Cache_room.L1 a0 r6 s_.1 s_.2) (none, 0)
theorem neigh_Cache_room_ok (a0 : (Option Addr)) : Ref Try.prog 47 [.pointer a0] (neigh_Cache_room a0) neigh_Cache_room.out := by
  refine Ref.of (cd := neigh_Cache_room.B) Try.func47 ?_
  show SJ neigh_Cache_room.cx [.code neigh_Cache_room.B] [(0, .pointer a0)] [] (neigh_Cache_room a0) neigh_Cache_room.F0
  unfold neigh_Cache_room
  refine SJ.sr 1 ?_
  refine OJ.go 1 [(2, .bool false)] ?_
  refine OJ.nil ?_
  refine SJ.seq ?_
  refine SJ.seq ?_
  refine SJ.draw (id := 1) (kd := [0, 0, 0, 1, 2, 0, 0, 0, 0, 1, 0]) (bef := [0, 1, 3, 7, 15, 0, 32, 96, 224, 480, 1023]) (ord := [0, 1, 2, 3, 5, 6, 7, 8, 9, 4, 10]) mixed ?_
  refine OJ.go 1 [(6, .pointer a0)] ?_
  refine OJ.nilck (d := 7) (y := .tmp 6) (fun p1 => ?_)
  refine OJ.go 1 [(8, .pointer (some (Addr.add p1 5)))] ?_
  refine OJ.ld (d := 9) (y := .tmp 8) (pend2 := fun x2 => [⟨3, 101, (Addr.add p1 5), cM.val x2⟩]) Ty101 (fun _ => rfl) (fun x2 => ?_)
  refine OJ.go 1 [(11, .pointer a0)] ?_
  refine OJ.nilck (d := 12) (y := .tmp 11) (fun p3 => ?_)
  refine OJ.go 2 [(14, .pointer (some p3)), (13, .pointer (some p3))] ?_
  refine OJ.ld (d := 15) (y := .tmp 14) (pend2 := fun x4 => [⟨9, 3, p3, (cI .i64).val x4⟩, ⟨3, 101, (Addr.add p1 5), cM.val x2⟩]) Ty3 (fun _ => rfl) (fun x4 => ?_)
  refine OJ.mlen (d := 10) (T := 101) (kT := 99) (vT := 100) (x := .tmp 9) (owed := [⟨9, 3, p3, (cI .i64).val x4⟩]) (fun r5 => ?_)
  refine OW.same Ty3 ?_
  refine OW.nil ?_
  refine OJ.go 1 [(16, .bool (decide (r5 < x4)))] ?_
  refine OJ.nil ?_
  refine SJ.cond (t := (.tmp 16)) (b := decide (r5 < x4)) decide_eq_true_iff (fun hc38 => ?_) (fun hc38 => ?_)
  · refine SJ.sr 1 ?_
    refine OJ.go 1 [(2, .bool true)] ?_
    refine OJ.nil ?_
    exact SJ.ret rfl (Res.run (ys := [.bool true]) (.tmp (by kernel_rfl) .nil) rfl)
  · refine SJ.skip ?_
    refine SJ.sr 1 ?_
    refine OJ.go 1 [(3, .pointer none)] ?_
    refine OJ.nil ?_
    refine SJ.seq ?_
    refine SJ.sr 4 ?_
    refine OJ.go 1 [(17, .pointer a0)] ?_
    refine OJ.call (d := 18) (g := 50) (ats := #[25]) (args := [.tmp 17]) (owed := []) F50 (neigh_Cache_sorted_ok a0) (fun r6 => ?_)
    refine OW.nil ?_
    refine OJ.go 2 [(20, .int .i64 0), (19, .int .i64 (r6.len : Int))] ?_
    refine OJ.nil ?_
    refine SJ.block (id := 0) ?_
    exact SJ.loop (fun s_ : ((Option Addr) × Int) => [(0, .pointer a0), (3, .pointer s_.1), (18, Sl.v r6), (19, .int .i64 (r6.len : Int)), (20, .int .i64 s_.2)]) (fun s_ : ((Option Addr) × Int) => []) [0, 3, 18, 19, 20] rfl (fun _ _ => rfl) (fun s_ => neigh_Cache_room.L1_ok a0 r6 s_.1 s_.2)

/-! ### (*weir/neigh.Cache).Want: function 15 -/
noncomputable def neigh_Cache_Want.B : Code := (Try.f15.body).getD .skip
noncomputable def neigh_Cache_Want.cx : Fx := ⟨Try.prog, 15, Try.f15⟩
noncomputable def neigh_Cache_Want.out (r_ : ((Vec Int 6) × Int × Int)) : Value := .tuple #[((cI .u8).arr 6).val r_.1, .int .i64 r_.2.1, .int .i64 r_.2.2]
noncomputable def neigh_Cache_Want.F0 (r_ : ((Vec Int 6) × Int × Int)) : Reach := .ret (neigh_Cache_Want.out r_)
noncomputable def neigh_Cache_Want (a0 : (Option Addr)) (a1 : Int) (a2 : api_IP) (a3 : Int) : M ((Vec Int 6) × Int × Int) :=
  slot 32 >>= fun b1 =>
  slot 34 >>= fun b2 =>
  neigh_place a1 a2 >>= fun r3 =>
  if ¬ (r3 = true) then
    pure ((⟨[0, 0, 0, 0, 0, 0], rfl⟩ : (Vec Int 6)), 5, 1)
  else
    slot 99 >>= fun b4 =>
    draw >>= fun _ =>
    nilck a0 >>= fun p5 =>
    ld cM (Addr.add p5 5) >>= fun x6 =>
    mget c_neigh_key cP none x6 (⟨a1, a2⟩ : neigh_key) >>= fun r7 =>
    (if r7.1 = none then
        neigh_Cache_room a0 >>= fun r8 =>
        pure (!r8)
      else
        pure false) >>= fun y9 =>
    if y9 = true then
      pure ((⟨[0, 0, 0, 0, 0, 0], rfl⟩ : (Vec Int 6)), 5, 151)
    else
      if r7.1 = none then
        draw >>= fun _ =>
        nilck a0 >>= fun p164 =>
        ld cM (Addr.add p164 5) >>= fun x165 =>
        newv 3 ((cI .i64).arr 1) (⟨[a3], rfl⟩ : Vec Int 1) >>= fun b166 =>
        same cM (Addr.add p164 5) x165 >>= fun _ =>
        newv 105 c_neigh_entry (⟨(⟨a1, a2⟩ : neigh_key), z_neigh_entry.mac, 1, z_neigh_entry.age, 1, (⟨some (pt b166 0), 1, 1⟩ : Sl)⟩ : neigh_entry) >>= fun b167 =>
        same cM (Addr.add p164 5) x165 >>= fun _ =>
        mset c_neigh_key cP x165 (⟨a1, a2⟩ : neigh_key) (some (pt b167 0)) >>= fun _ =>
        pure ((⟨[0, 0, 0, 0, 0, 0], rfl⟩ : (Vec Int 6)), 3, 0)
      else
        nilck r7.1 >>= fun p168 =>
        ld (cI .i64) (Addr.add p168 24) >>= fun x169 =>
        if x169 = 3 then
          nilck r7.1 >>= fun p192 =>
          st (cI .i64) (Addr.add p192 24) 4 >>= fun _ =>
          nilck r7.1 >>= fun p193 =>
          st (cI .i64) (Addr.add p193 25) 0 >>= fun _ =>
          nilck r7.1 >>= fun p194 =>
          st (cI .i64) (Addr.add p194 26) 1 >>= fun _ =>
          nilck r7.1 >>= fun p195 =>
          ld ((cI .u8).arr 6) (Addr.add p195 18) >>= fun x196 =>
          pure (x196, 2, 0)
        else
          nilck r7.1 >>= fun p197 =>
          ld (cI .i64) (Addr.add p197 24) >>= fun x198 =>
          if x198 ≠ 1 then
            nilck r7.1 >>= fun p206 =>
            ld ((cI .u8).arr 6) (Addr.add p206 18) >>= fun x207 =>
            pure (x207, 1, 0)
          else
            draw >>= fun _ =>
            nilck r7.1 >>= fun p208 =>
            ld cL (Addr.add p208 27) >>= fun x209 =>
            nilck a0 >>= fun p210 =>
            ld (cI .i64) (Addr.add p210 1) >>= fun x211 =>
            if (x209.len : Int) = x211 then
              pure ((⟨[0, 0, 0, 0, 0, 0], rfl⟩ : (Vec Int 6)), 5, 152)
            else
              nilck r7.1 >>= fun p212 =>
              ld cL (Addr.add p212 27) >>= fun x213 =>
              slot 3 >>= fun b214 =>
              appl (cI .i64) 3 8 0 x213 [a3] >>= fun r215 =>
              nilck r7.1 >>= fun p216 =>
              st cL (Addr.add p216 27) r215 >>= fun _ =>
              pure ((⟨[0, 0, 0, 0, 0, 0], rfl⟩ : (Vec Int 6)), 4, 0)
theorem neigh_Cache_Want_ok (a0 : (Option Addr)) (a1 : Int) (a2 : api_IP) (a3 : Int) : Ref Try.prog 15 [.pointer a0, .int .i64 a1, c_api_IP.val a2, .int .i64 a3] (neigh_Cache_Want a0 a1 a2 a3) neigh_Cache_Want.out := by
  refine Ref.of (cd := neigh_Cache_Want.B) Try.func15 ?_
  show SJ neigh_Cache_Want.cx [.code neigh_Cache_Want.B] [(0, .pointer a0), (1, .int .i64 a1), (2, c_api_IP.val a2), (3, .int .i64 a3)] [] (neigh_Cache_Want a0 a1 a2 a3) neigh_Cache_Want.F0
  unfold neigh_Cache_Want
  refine SJ.sr 4 ?_
  refine OJ.slotOf (d := 6) (op := (.box 32 (.tmp 2))) (cd := c_api_IP) (u := a2) (owed := []) (box_run (by kernel_rfl)) (fun b1 => ?_)
  refine OW.nil ?_
  refine OJ.slotOf (d := 8) (op := (.alloc 34)) (cd := ((cI .u8).arr 6)) (u := (Vec.rep 6 0)) (owed := []) (alloc_run Ty34) (fun b2 => ?_)
  refine OW.nil ?_
  refine OJ.go 2 [(10, .int .i64 0), (9, .int .i64 0)] ?_
  refine OJ.nil ?_
  refine SJ.seq ?_
  refine SJ.sr 4 ?_
  refine OJ.go 1 [(13, .int .i64 a1)] ?_
  refine OJ.kld (d := 14) (y := .tmp 6) (cd := c_api_IP) (j := 1) (b := b1) (o := 0) a2 (pend2 := []) Ty32 rfl (At.whole _) rfl ?_
  refine OJ.call (d := 15) (g := 46) (ats := #[3, 32]) (args := [.tmp 13, .tmp 14]) (owed := []) F46 (neigh_place_ok a1 a2) (fun r3 => ?_)
  refine OW.nil ?_
  refine OJ.go 1 [(16, .bool (!r3))] ?_
  refine OJ.nil ?_
  refine SJ.cond (t := (.tmp 16)) (b := (!r3)) (bnot_iff Iff.rfl) (fun hc222 => ?_) (fun hc222 => ?_)
  · refine SJ.sr 4 ?_
    refine OJ.build (d := 17) (T := 34) (parts := []) (ps := []) (cd := ((cI .u8).arr 6)) (z0 := (Vec.rep 6 0)) (⟨[0, 0, 0, 0, 0, 0], rfl⟩ : (Vec Int 6)) Ty34 rfl Filled.nil ?_
    refine OJ.kst (y := .tmp 8) (z := .tmp 17) (cd := ((cI .u8).arr 6)) (u := (⟨[0, 0, 0, 0, 0, 0], rfl⟩ : (Vec Int 6))) (j := 0) (b := b2) (o := 0) (((cI .u8).arr 6).enc (⟨[0, 0, 0, 0, 0, 0], rfl⟩ : (Vec Int 6))) (owed := []) Ty34 rfl (Upd.whole ((Cod.len _ _).trans (Cod.len _ _).symm)) rfl ?_
    refine OW.nil ?_
    refine OJ.go 2 [(10, .int .i64 1), (9, .int .i64 5)] ?_
    refine OJ.nil ?_
    exact SJ.ret rfl (Res.run (ys := [((cI .u8).arr 6).val (⟨[0, 0, 0, 0, 0, 0], rfl⟩ : (Vec Int 6)), .int .i64 5, .int .i64 1]) (.cell (j := 0) (b := b2) (cd := ((cI .u8).arr 6)) (q := (⟨[0, 0, 0, 0, 0, 0], rfl⟩ : (Vec Int 6))) (by kernel_rfl) rfl Ty34 (At.whole _) (.tmp (by kernel_rfl) (.tmp (by kernel_rfl) .nil))) rfl)
  · refine SJ.skip ?_
    refine SJ.sr 5 ?_
    refine OJ.go 1 [(18, .int .i64 a1)] ?_
    refine OJ.kld (d := 19) (y := .tmp 6) (cd := c_api_IP) (j := 1) (b := b1) (o := 0) a2 (pend2 := []) Ty32 rfl (At.whole _) rfl ?_
    refine OJ.build (d := 20) (T := 99) (parts := [(0, .tmp 18), (1, .tmp 19)]) (ps := [(0, (cI .i64).val a1), (1, c_api_IP.val a2)]) (cd := c_neigh_key) (z0 := z_neigh_key) (⟨a1, a2⟩ : neigh_key) Ty99 rfl (Filled.cons (cd := (cI .i64)) (q := a1) (o := 0) (by kernel_rfl) (Up_neigh_key_port z_neigh_key a1) (Filled.cons (cd := c_api_IP) (q := a2) (o := 1) (by kernel_rfl) (Up_neigh_key_ip (⟨a1, z_neigh_key.ip⟩ : neigh_key) a2) Filled.nil)) ?_
    refine OJ.slotOf (d := 11) (op := (.alloc 99)) (cd := c_neigh_key) (u := z_neigh_key) (owed := []) (alloc_run Ty99) (fun b4 => ?_)
    refine OW.nil ?_
    refine OJ.kst (y := .tmp 11) (z := .tmp 20) (cd := c_neigh_key) (u := (⟨a1, a2⟩ : neigh_key)) (j := 0) (b := b4) (o := 0) (c_neigh_key.enc (⟨a1, a2⟩ : neigh_key)) (owed := []) Ty99 rfl (Upd.whole ((Cod.len _ _).trans (Cod.len _ _).symm)) rfl ?_
    refine OW.nil ?_
    refine OJ.nil ?_
    refine SJ.seq ?_
    refine SJ.draw (id := 4) (kd := [0, 0, 0, 1, 1, 2, 0]) (bef := [0, 1, 3, 7, 0, 31, 63]) (ord := [0, 1, 2, 3, 4, 5, 6]) mixed ?_
    refine OJ.go 1 [(21, .pointer a0)] ?_
    refine OJ.nilck (d := 22) (y := .tmp 21) (fun p5 => ?_)
    refine OJ.go 1 [(23, .pointer (some (Addr.add p5 5)))] ?_
    refine OJ.ld (d := 24) (y := .tmp 23) (pend2 := fun x6 => [⟨3, 101, (Addr.add p5 5), cM.val x6⟩]) Ty101 (fun _ => rfl) (fun x6 => ?_)
    refine OJ.kld (d := 25) (y := .tmp 11) (cd := c_neigh_key) (j := 0) (b := b4) (o := 0) (⟨a1, a2⟩ : neigh_key) (pend2 := [⟨4, 99, (pt b4 0), c_neigh_key.val (⟨a1, a2⟩ : neigh_key)⟩, ⟨3, 101, (Addr.add p5 5), cM.val x6⟩]) Ty99 rfl (At.whole _) rfl ?_
    refine OJ.get0 (d := 26) (x := .tmp 24) (y := .tmp 25) (owed := []) Kt101 (fun r7 => ?_)
    refine OW.nil ?_
    refine OJ.go 1 [(12, .pointer r7.1)] ?_
    refine OJ.nil ?_
    refine SJ.seq ?_
    refine SJ.block (id := 0) ?_
    refine SJ.sr 8 ?_
    refine OJ.go 3 [(30, .bool (Option.isNone r7.1)), (29, .bool (Option.isNone r7.1)), (28, .pointer r7.1)] ?_
    refine OJ.join (b := (Option.isNone r7.1)) [3, 4, 5, 6] [7] [0, 3, 8, 11, 12, 34] (fun y9 => [(0, .pointer a0), (3, .int .i64 a3), (8, .pointer (some (pt b2 0))), (11, .pointer (some (pt b4 0))), (12, .pointer r7.1), (34, .bool y9)]) [] [] (t := 30) Option.isNone_iff_eq_none (fun hp_ => ?_) (fun hp_ => ?_) (fun _ _ _ _ _ _ h_ => h_) (fun y9 => ?_)
    · refine OJ.go 1 [(31, .pointer a0)] ?_
      refine OJ.call (d := 32) (g := 47) (ats := #[25]) (args := [.tmp 31]) (owed := []) F47 (neigh_Cache_room_ok a0) (fun r8 => ?_)
      refine OW.nil ?_
      refine OJ.go 2 [(34, .bool (!r8)), (33, .bool (!r8))] ?_
      exact OJ.nil ⟨(Cov.mem Cov.nil), rfl, _, rfl, by kernel_rfl⟩
    · refine OJ.go 4 [(34, .bool false), (33, undef), (32, undef), (31, undef)] ?_
      exact OJ.nil ⟨(Cov.mem Cov.nil), rfl, _, rfl, by kernel_rfl⟩
    · refine OJ.go 1 [(27, .bool y9)] ?_
      refine OJ.nil ?_
      refine SJ.cond (t := (.tmp 27)) (b := y9) Iff.rfl (fun hc221 => ?_) (fun hc221 => ?_)
      · refine SJ.sr 4 ?_
        refine OJ.build (d := 35) (T := 34) (parts := []) (ps := []) (cd := ((cI .u8).arr 6)) (z0 := (Vec.rep 6 0)) (⟨[0, 0, 0, 0, 0, 0], rfl⟩ : (Vec Int 6)) Ty34 rfl Filled.nil ?_
        refine OJ.kst (y := .tmp 8) (z := .tmp 35) (cd := ((cI .u8).arr 6)) (u := (⟨[0, 0, 0, 0, 0, 0], rfl⟩ : (Vec Int 6))) (j := 1) (b := b2) (o := 0) (((cI .u8).arr 6).enc (⟨[0, 0, 0, 0, 0, 0], rfl⟩ : (Vec Int 6))) (owed := []) Ty34 rfl (Upd.whole ((Cod.len _ _).trans (Cod.len _ _).symm)) rfl ?_
        refine OW.nil ?_
        refine OJ.go 2 [(10, .int .i64 151), (9, .int .i64 5)] ?_
        refine OJ.nil ?_
        exact SJ.ret rfl (Res.run (ys := [((cI .u8).arr 6).val (⟨[0, 0, 0, 0, 0, 0], rfl⟩ : (Vec Int 6)), .int .i64 5, .int .i64 151]) (.cell (j := 1) (b := b2) (cd := ((cI .u8).arr 6)) (q := (⟨[0, 0, 0, 0, 0, 0], rfl⟩ : (Vec Int 6))) (by kernel_rfl) rfl Ty34 (At.whole _) (.tmp (by kernel_rfl) (.tmp (by kernel_rfl) .nil))) rfl)
      · refine SJ.sr 3 ?_
        refine OJ.go 3 [(36, .bool (Option.isNone r7.1)), (38, .bool (Option.isNone r7.1)), (37, .pointer r7.1)] ?_
        refine OJ.nil ?_
        refine SJ.cond (t := (.tmp 36)) (b := (Option.isNone r7.1)) Option.isNone_iff_eq_none (fun hc220 => ?_) (fun hc220 => ?_)
        · refine SJ.seq ?_
          refine SJ.draw (id := 8) (kd := [0, 0, 0, 1, 1, 1, 0, 2, 0, 2, 2]) (bef := [0, 1, 3, 7, 0, 0, 0, 64, 224, 480, 1023]) (ord := [0, 1, 2, 3, 4, 5, 6, 7, 8, 9, 10]) mixed ?_
          refine OJ.go 1 [(39, .pointer a0)] ?_
          refine OJ.nilck (d := 40) (y := .tmp 39) (fun p164 => ?_)
          refine OJ.go 1 [(41, .pointer (some (Addr.add p164 5)))] ?_
          refine OJ.ld (d := 42) (y := .tmp 41) (pend2 := fun x165 => [⟨3, 101, (Addr.add p164 5), cM.val x165⟩]) Ty101 (fun _ => rfl) (fun x165 => ?_)
          refine OJ.kld (d := 43) (y := .tmp 11) (cd := c_neigh_key) (j := 0) (b := b4) (o := 0) (⟨a1, a2⟩ : neigh_key) (pend2 := [⟨4, 99, (pt b4 0), c_neigh_key.val (⟨a1, a2⟩ : neigh_key)⟩, ⟨3, 101, (Addr.add p164 5), cM.val x165⟩]) Ty99 rfl (At.whole _) rfl ?_
          refine OJ.kld (d := 44) (y := .tmp 11) (cd := c_neigh_key) (j := 0) (b := b4) (o := 0) (⟨a1, a2⟩ : neigh_key) (pend2 := [⟨5, 99, (pt b4 0), c_neigh_key.val (⟨a1, a2⟩ : neigh_key)⟩, ⟨4, 99, (pt b4 0), c_neigh_key.val (⟨a1, a2⟩ : neigh_key)⟩, ⟨3, 101, (Addr.add p164 5), cM.val x165⟩]) Ty99 rfl (At.whole _) rfl ?_
          refine OJ.go 1 [(45, .int .i64 a3)] ?_
          refine OJ.rowNew (d := 46) (t := 43) (parts := [(0, .tmp 45)]) (ps := [(0, (cI .i64).val a3)]) (cd := (cI .i64)) (owed := [⟨5, 99, (pt b4 0), c_neigh_key.val (⟨a1, a2⟩ : neigh_key)⟩, ⟨4, 99, (pt b4 0), c_neigh_key.val (⟨a1, a2⟩ : neigh_key)⟩, ⟨3, 101, (Addr.add p164 5), cM.val x165⟩]) Ty3 (Filled.cons (cd := (cI .i64)) (q := a3) (o := 0) rfl (Upd.arr (i := 0) (by decide) (by decide)) Filled.nil) (fun b166 => ?_)
          refine OW.known (j := 0) (q := (⟨a1, a2⟩ : neigh_key)) Ty99 rfl (At.whole _) ?_
          refine OW.known (j := 0) (q := (⟨a1, a2⟩ : neigh_key)) Ty99 rfl (At.whole _) ?_
          refine OW.same Ty101 ?_
          refine OW.nil ?_
          refine OJ.build (d := 47) (T := 105) (parts := [(0, .tmp 44), (2, .const (.int .i64 1)), (4, .const (.int .i64 1)), (5, .tmp 46)]) (ps := [(0, c_neigh_key.val (⟨a1, a2⟩ : neigh_key)), (2, (cI .i64).val 1), (4, (cI .i64).val 1), (5, cL.val (⟨some (pt b166 0), 1, 1⟩ : Sl))]) (cd := c_neigh_entry) (z0 := z_neigh_entry) (⟨(⟨a1, a2⟩ : neigh_key), z_neigh_entry.mac, 1, z_neigh_entry.age, 1, (⟨some (pt b166 0), 1, 1⟩ : Sl)⟩ : neigh_entry) Ty105 rfl (Filled.cons (cd := c_neigh_key) (q := (⟨a1, a2⟩ : neigh_key)) (o := 0) (by kernel_rfl) (Up_neigh_entry_key z_neigh_entry (⟨a1, a2⟩ : neigh_key)) (Filled.cons (cd := (cI .i64)) (q := 1) (o := 24) (by kernel_rfl) (Up_neigh_entry_state (⟨(⟨a1, a2⟩ : neigh_key), z_neigh_entry.mac, z_neigh_entry.state, z_neigh_entry.age, z_neigh_entry.tries, z_neigh_entry.items⟩ : neigh_entry) 1) (Filled.cons (cd := (cI .i64)) (q := 1) (o := 26) (by kernel_rfl) (Up_neigh_entry_tries (⟨(⟨a1, a2⟩ : neigh_key), z_neigh_entry.mac, 1, z_neigh_entry.age, z_neigh_entry.tries, z_neigh_entry.items⟩ : neigh_entry) 1) (Filled.cons (cd := cL) (q := (⟨some (pt b166 0), 1, 1⟩ : Sl)) (o := 27) (by kernel_rfl) (Up_neigh_entry_items (⟨(⟨a1, a2⟩ : neigh_key), z_neigh_entry.mac, 1, z_neigh_entry.age, 1, z_neigh_entry.items⟩ : neigh_entry) (⟨some (pt b166 0), 1, 1⟩ : Sl)) Filled.nil)))) ?_
          refine OJ.newOf (d := 48) (op := (.box 105 (.tmp 47))) (cd := c_neigh_entry) (u := (⟨(⟨a1, a2⟩ : neigh_key), z_neigh_entry.mac, 1, z_neigh_entry.age, 1, (⟨some (pt b166 0), 1, 1⟩ : Sl)⟩ : neigh_entry)) (owed := [⟨4, 99, (pt b4 0), c_neigh_key.val (⟨a1, a2⟩ : neigh_key)⟩, ⟨3, 101, (Addr.add p164 5), cM.val x165⟩]) (box_run (by kernel_rfl)) (fun b167 => ?_)
          refine OW.known (j := 0) (q := (⟨a1, a2⟩ : neigh_key)) Ty99 rfl (At.whole _) ?_
          refine OW.same Ty101 ?_
          refine OW.nil ?_
          refine OJ.mset (x := .tmp 42) (y := .tmp 43) (q := .tmp 48) (owed := []) Kt101 ?_
          refine OW.nil ?_
          refine OJ.nil ?_
          refine SJ.sr 4 ?_
          refine OJ.build (d := 49) (T := 34) (parts := []) (ps := []) (cd := ((cI .u8).arr 6)) (z0 := (Vec.rep 6 0)) (⟨[0, 0, 0, 0, 0, 0], rfl⟩ : (Vec Int 6)) Ty34 rfl Filled.nil ?_
          refine OJ.kst (y := .tmp 8) (z := .tmp 49) (cd := ((cI .u8).arr 6)) (u := (⟨[0, 0, 0, 0, 0, 0], rfl⟩ : (Vec Int 6))) (j := 1) (b := b2) (o := 0) (((cI .u8).arr 6).enc (⟨[0, 0, 0, 0, 0, 0], rfl⟩ : (Vec Int 6))) (owed := []) Ty34 rfl (Upd.whole ((Cod.len _ _).trans (Cod.len _ _).symm)) rfl ?_
          refine OW.nil ?_
          refine OJ.go 2 [(10, .int .i64 0), (9, .int .i64 3)] ?_
          refine OJ.nil ?_
          exact SJ.ret rfl (Res.run (ys := [((cI .u8).arr 6).val (⟨[0, 0, 0, 0, 0, 0], rfl⟩ : (Vec Int 6)), .int .i64 3, .int .i64 0]) (.cell (j := 1) (b := b2) (cd := ((cI .u8).arr 6)) (q := (⟨[0, 0, 0, 0, 0, 0], rfl⟩ : (Vec Int 6))) (by kernel_rfl) rfl Ty34 (At.whole _) (.tmp (by kernel_rfl) (.tmp (by kernel_rfl) .nil))) rfl)
        · refine SJ.sr 6 ?_
          refine OJ.go 1 [(51, .pointer r7.1)] ?_
          refine OJ.nilck (d := 52) (y := .tmp 51) (fun p168 => ?_)
          refine OJ.go 1 [(53, .pointer (some (Addr.add p168 24)))] ?_
          refine OJ.ld (d := 54) (y := .tmp 53) (pend2 := fun x169 => []) Ty3 (fun _ => rfl) (fun x169 => ?_)
          refine OJ.go 2 [(50, .bool (x169 == 3)), (55, .bool (x169 == 3))] ?_
          refine OJ.nil ?_
          refine SJ.cond (t := (.tmp 50)) (b := (x169 == 3)) beq_iff_eq (fun hc219 => ?_) (fun hc219 => ?_)
          · refine SJ.sr 12 ?_
            refine OJ.go 3 [(58, .pointer r7.1), (57, .pointer r7.1), (56, .pointer r7.1)] ?_
            refine OJ.nilck (d := 59) (y := .tmp 56) (fun p192 => ?_)
            refine OJ.go 1 [(60, .pointer (some (Addr.add p192 24)))] ?_
            refine OJ.st (y := .tmp 60) (z := .const (.int .i64 4)) (owed := []) Ty3 ?_
            refine OW.nil ?_
            refine OJ.nilck (d := 61) (y := .tmp 57) (fun p193 => ?_)
            refine OJ.go 1 [(62, .pointer (some (Addr.add p193 25)))] ?_
            refine OJ.st (y := .tmp 62) (z := .const (.int .i64 0)) (owed := []) Ty3 ?_
            refine OW.nil ?_
            refine OJ.nilck (d := 63) (y := .tmp 58) (fun p194 => ?_)
            refine OJ.go 1 [(64, .pointer (some (Addr.add p194 26)))] ?_
            refine OJ.st (y := .tmp 64) (z := .const (.int .i64 1)) (owed := []) Ty3 ?_
            refine OW.nil ?_
            refine OJ.nil ?_
            refine SJ.sr 7 ?_
            refine OJ.go 1 [(65, .pointer r7.1)] ?_
            refine OJ.nilck (d := 66) (y := .tmp 65) (fun p195 => ?_)
            refine OJ.go 1 [(67, .pointer (some (Addr.add p195 18)))] ?_
            refine OJ.ld (d := 68) (y := .tmp 67) (pend2 := fun x196 => []) Ty34 (fun _ => rfl) (fun x196 => ?_)
            refine OJ.kst (y := .tmp 8) (z := .tmp 68) (cd := ((cI .u8).arr 6)) (u := x196) (j := 1) (b := b2) (o := 0) (((cI .u8).arr 6).enc x196) (owed := []) Ty34 rfl (Upd.whole ((Cod.len _ _).trans (Cod.len _ _).symm)) rfl ?_
            refine OW.nil ?_
            refine OJ.go 2 [(10, .int .i64 0), (9, .int .i64 2)] ?_
            refine OJ.nil ?_
            exact SJ.ret rfl (Res.run (ys := [((cI .u8).arr 6).val x196, .int .i64 2, .int .i64 0]) (.cell (j := 1) (b := b2) (cd := ((cI .u8).arr 6)) (q := x196) (by kernel_rfl) rfl Ty34 (At.whole _) (.tmp (by kernel_rfl) (.tmp (by kernel_rfl) .nil))) rfl)
          · refine SJ.sr 6 ?_
            refine OJ.go 1 [(70, .pointer r7.1)] ?_
            refine OJ.nilck (d := 71) (y := .tmp 70) (fun p197 => ?_)
            refine OJ.go 1 [(72, .pointer (some (Addr.add p197 24)))] ?_
            refine OJ.ld (d := 73) (y := .tmp 72) (pend2 := fun x198 => []) Ty3 (fun _ => rfl) (fun x198 => ?_)
            refine OJ.go 2 [(69, .bool (x198 != 1)), (74, .bool (x198 != 1))] ?_
            refine OJ.nil ?_
            refine SJ.cond (t := (.tmp 69)) (b := (x198 != 1)) bne_iff_ne (fun hc218 => ?_) (fun hc218 => ?_)
            · refine SJ.sr 7 ?_
              refine OJ.go 1 [(75, .pointer r7.1)] ?_
              refine OJ.nilck (d := 76) (y := .tmp 75) (fun p206 => ?_)
              refine OJ.go 1 [(77, .pointer (some (Addr.add p206 18)))] ?_
              refine OJ.ld (d := 78) (y := .tmp 77) (pend2 := fun x207 => []) Ty34 (fun _ => rfl) (fun x207 => ?_)
              refine OJ.kst (y := .tmp 8) (z := .tmp 78) (cd := ((cI .u8).arr 6)) (u := x207) (j := 1) (b := b2) (o := 0) (((cI .u8).arr 6).enc x207) (owed := []) Ty34 rfl (Upd.whole ((Cod.len _ _).trans (Cod.len _ _).symm)) rfl ?_
              refine OW.nil ?_
              refine OJ.go 2 [(10, .int .i64 0), (9, .int .i64 1)] ?_
              refine OJ.nil ?_
              exact SJ.ret rfl (Res.run (ys := [((cI .u8).arr 6).val x207, .int .i64 1, .int .i64 0]) (.cell (j := 1) (b := b2) (cd := ((cI .u8).arr 6)) (q := x207) (by kernel_rfl) rfl Ty34 (At.whole _) (.tmp (by kernel_rfl) (.tmp (by kernel_rfl) .nil))) rfl)
            · refine SJ.seq ?_
              refine SJ.draw (id := 15) (kd := [0, 0, 0, 1, 0, 0, 0, 0, 0, 1, 0, 0]) (bef := [0, 1, 3, 7, 15, 0, 32, 96, 224, 480, 1023, 2047]) (ord := [0, 1, 2, 3, 4, 5, 6, 7, 8, 9, 10, 11]) mixed ?_
              refine OJ.go 1 [(80, .pointer r7.1)] ?_
              refine OJ.nilck (d := 81) (y := .tmp 80) (fun p208 => ?_)
              refine OJ.go 1 [(82, .pointer (some (Addr.add p208 27)))] ?_
              refine OJ.ld (d := 83) (y := .tmp 82) (pend2 := fun x209 => [⟨3, 43, (Addr.add p208 27), cL.val x209⟩]) Ty43 (fun _ => rfl) (fun x209 => ?_)
              refine OJ.go 2 [(85, .pointer a0), (84, .int .i64 (x209.len : Int))] ?_
              refine OJ.nilck (d := 86) (y := .tmp 85) (fun p210 => ?_)
              refine OJ.go 2 [(88, .pointer (some (Addr.add p210 1))), (87, .pointer (some p210))] ?_
              refine OJ.ld (d := 89) (y := .tmp 88) (pend2 := fun x211 => [⟨9, 3, (Addr.add p210 1), (cI .i64).val x211⟩, ⟨3, 43, (Addr.add p208 27), cL.val x209⟩]) Ty3 (fun _ => rfl) (fun x211 => ?_)
              refine OJ.go 2 [(79, .bool ((x209.len : Int) == x211)), (90, .bool ((x209.len : Int) == x211))] ?_
              refine OJ.nil ?_
              refine SJ.cond (t := (.tmp 79)) (b := ((x209.len : Int) == x211)) beq_iff_eq (fun hc217 => ?_) (fun hc217 => ?_)
              · refine SJ.sr 4 ?_
                refine OJ.build (d := 91) (T := 34) (parts := []) (ps := []) (cd := ((cI .u8).arr 6)) (z0 := (Vec.rep 6 0)) (⟨[0, 0, 0, 0, 0, 0], rfl⟩ : (Vec Int 6)) Ty34 rfl Filled.nil ?_
                refine OJ.kst (y := .tmp 8) (z := .tmp 91) (cd := ((cI .u8).arr 6)) (u := (⟨[0, 0, 0, 0, 0, 0], rfl⟩ : (Vec Int 6))) (j := 1) (b := b2) (o := 0) (((cI .u8).arr 6).enc (⟨[0, 0, 0, 0, 0, 0], rfl⟩ : (Vec Int 6))) (owed := []) Ty34 rfl (Upd.whole ((Cod.len _ _).trans (Cod.len _ _).symm)) rfl ?_
                refine OW.nil ?_
                refine OJ.go 2 [(10, .int .i64 152), (9, .int .i64 5)] ?_
                refine OJ.nil ?_
                exact SJ.ret rfl (Res.run (ys := [((cI .u8).arr 6).val (⟨[0, 0, 0, 0, 0, 0], rfl⟩ : (Vec Int 6)), .int .i64 5, .int .i64 152]) (.cell (j := 1) (b := b2) (cd := ((cI .u8).arr 6)) (q := (⟨[0, 0, 0, 0, 0, 0], rfl⟩ : (Vec Int 6))) (by kernel_rfl) rfl Ty34 (At.whole _) (.tmp (by kernel_rfl) (.tmp (by kernel_rfl) .nil))) rfl)
              · refine SJ.skip ?_
                refine SJ.inBlock ?_
                refine SJ.sr 11 ?_
                refine OJ.go 2 [(93, .pointer r7.1), (92, .pointer r7.1)] ?_
                refine OJ.nilck (d := 94) (y := .tmp 93) (fun p212 => ?_)
                refine OJ.go 1 [(95, .pointer (some (Addr.add p212 27)))] ?_
                refine OJ.ld (d := 96) (y := .tmp 95) (pend2 := fun x213 => []) Ty43 (fun _ => rfl) (fun x213 => ?_)
                refine OJ.go 1 [(97, .int .i64 a3)] ?_
                refine OJ.rowSlot (d := 98) (t := 43) (parts := [(0, .tmp 97)]) (ps := [(0, (cI .i64).val a3)]) (cd := (cI .i64)) (⟨[a3], rfl⟩ : Vec Int 1) (owed := []) Ty3 (Filled.cons (cd := (cI .i64)) (q := a3) (o := 0) rfl (Upd.arr (i := 0) (by decide) (by decide)) Filled.nil) (fun b214 => ?_)
                refine OW.nil ?_
                refine OJ.appl (d := 99) (t := 43) (u := 43) (so := .tmp 96) (xo := .tmp 98) (j := 0) (b := b214) (l := ((cI .i64).arr 1).enc (⟨[a3], rfl⟩ : Vec Int 1)) (n := 1) (k := 1) [a3] (owed := []) Ty3 (by rfl) (Cod.arr_enc _ _ _) (by rfl) (fun r215 => ?_)
                refine OW.nil ?_
                refine OJ.nilck (d := 100) (y := .tmp 92) (fun p216 => ?_)
                refine OJ.go 1 [(101, .pointer (some (Addr.add p216 27)))] ?_
                refine OJ.st (y := .tmp 101) (z := .tmp 99) (owed := []) Ty43 ?_
                refine OW.nil ?_
                refine OJ.nil ?_
                refine SJ.sr 4 ?_
                refine OJ.build (d := 102) (T := 34) (parts := []) (ps := []) (cd := ((cI .u8).arr 6)) (z0 := (Vec.rep 6 0)) (⟨[0, 0, 0, 0, 0, 0], rfl⟩ : (Vec Int 6)) Ty34 rfl Filled.nil ?_
                refine OJ.kst (y := .tmp 8) (z := .tmp 102) (cd := ((cI .u8).arr 6)) (u := (⟨[0, 0, 0, 0, 0, 0], rfl⟩ : (Vec Int 6))) (j := 2) (b := b2) (o := 0) (((cI .u8).arr 6).enc (⟨[0, 0, 0, 0, 0, 0], rfl⟩ : (Vec Int 6))) (owed := []) Ty34 rfl (Upd.whole ((Cod.len _ _).trans (Cod.len _ _).symm)) rfl ?_
                refine OW.nil ?_
                refine OJ.go 2 [(10, .int .i64 0), (9, .int .i64 4)] ?_
                refine OJ.nil ?_
                exact SJ.ret rfl (Res.run (ys := [((cI .u8).arr 6).val (⟨[0, 0, 0, 0, 0, 0], rfl⟩ : (Vec Int 6)), .int .i64 4, .int .i64 0]) (.cell (j := 2) (b := b2) (cd := ((cI .u8).arr 6)) (q := (⟨[0, 0, 0, 0, 0, 0], rfl⟩ : (Vec Int 6))) (by kernel_rfl) rfl Ty34 (At.whole _) (.tmp (by kernel_rfl) (.tmp (by kernel_rfl) .nil))) rfl)

/-! ### weir/weirref15.address: function 72 -/
noncomputable def weirref15_address.B : Code := (Try.f72.body).getD .skip
noncomputable def weirref15_address.cx : Fx := ⟨Try.prog, 72, Try.f72⟩
noncomputable def weirref15_address.out (r_ : Bool) : Value := .bool r_
noncomputable def weirref15_address.F0 (r_ : Bool) : Reach := .ret (weirref15_address.out r_)
noncomputable def weirref15_address.K1 (a0 : api_IP) : M Bool :=
  (if a0.V = 4 then
      pure true
    else
      pure (a0.V == 6)) >>= fun y8 =>
  pure y8
theorem weirref15_address.K1_ok (a0 : api_IP) (b1 : Nat) :
    SJ weirref15_address.cx [.code (c2 (c2 weirref15_address.B))] [(1, .pointer (some (pt b1 0)))] [(b1, c_api_IP.enc a0)] (weirref15_address.K1 a0) weirref15_address.F0 := by
  unfold weirref15_address.K1
  refine SJ.sr 9 ?_
  refine OJ.go 1 [(18, .pointer (some (pt b1 0)))] ?_
  refine OJ.kld (d := 19) (y := .tmp 18) (cd := (cI .i64)) (j := 0) (b := b1) (o := 0) a0.V (pend2 := []) Ty3 rfl (At_api_IP_V a0) rfl ?_
  refine OJ.go 2 [(21, .bool (a0.V == 4)), (20, .bool (a0.V == 4))] ?_
  refine OJ.join (b := (a0.V == 4)) [4, 5, 6, 7] [8] [25] (fun y8 => [(25, .bool y8)]) [] [] (t := 21) beq_iff_eq (fun hp_ => ?_) (fun hp_ => ?_) (fun _ _ _ _ _ _ h_ => h_) (fun y8 => ?_)
  · refine OJ.go 4 [(25, .bool true), (24, undef), (23, undef), (22, undef)] ?_
    exact OJ.nil ⟨(Cov.mem Cov.nil), rfl, _, rfl, by kernel_rfl⟩
  · refine OJ.go 1 [(22, .pointer (some (pt b1 0)))] ?_
    refine OJ.kld (d := 23) (y := .tmp 22) (cd := (cI .i64)) (j := 0) (b := b1) (o := 0) a0.V (pend2 := []) Ty3 rfl (At_api_IP_V a0) rfl ?_
    refine OJ.go 2 [(25, .bool (a0.V == 6)), (24, .bool (a0.V == 6))] ?_
    exact OJ.nil ⟨(Cov.mem Cov.nil), rfl, _, rfl, by kernel_rfl⟩
  · refine OJ.go 1 [(2, .bool y8)] ?_
    refine OJ.nil ?_
    exact SJ.ret rfl (Res.run (ys := [.bool y8]) (.tmp (by kernel_rfl) .nil) rfl)
noncomputable def weirref15_address.F1 (a0 : api_IP) (b1 : Nat) : (LS Int Bool) → Reach := loopF [.inLoop (c1 (c1 (c2 (c1 (c2 weirref15_address.B))))), .inBlock 0, .code (c2 (c2 weirref15_address.B))] (fun s_ : Int => [(1, .pointer (some (pt b1 0))), (3, .int .i64 s_)]) (fun s_ : Int => [(b1, c_api_IP.enc a0)]) weirref15_address.F0
noncomputable def weirref15_address.L1 (a0 : api_IP) (s2 : Int) : M (LS Int Bool) :=
  if s2 < 16 then
    (if a0.V = 4 then
        chk (0 ≤ s2 ∧ s2 < (16 : Nat)) >>= fun _ =>
        pure ((Vec.g a0.A s2 0) != 0)
      else
        pure false) >>= fun y11 =>
    if y11 = true then
      pure (LS.done false)
    else
      pure (LS.next (IntKind.wrap .i64 (s2 + 1)))
  else
    (weirref15_address.K1 a0) >>= fun b => pure (LS.done b)
theorem weirref15_address.L1_ok (a0 : api_IP) (b1 : Nat) (s2 : Int) :
    SJ weirref15_address.cx [.code (c1 (c1 (c2 (c1 (c2 weirref15_address.B))))), .inLoop (c1 (c1 (c2 (c1 (c2 weirref15_address.B))))), .inBlock 0, .code (c2 (c2 weirref15_address.B))] [(1, .pointer (some (pt b1 0))), (3, .int .i64 s2)] [(b1, c_api_IP.enc a0)] (weirref15_address.L1 a0 s2) (weirref15_address.F1 a0 b1) := by
  unfold weirref15_address.L1
  refine SJ.seq ?_
  refine SJ.sr 2 ?_
  refine OJ.go 2 [(5, .bool (decide (s2 < 16))), (4, .int .i64 s2)] ?_
  refine OJ.nil ?_
  refine SJ.cond (t := (.tmp 5)) (b := decide (s2 < 16)) decide_eq_true_iff (fun hc13 => ?_) (fun hc13 => ?_)
  · refine SJ.skip ?_
    refine SJ.seq ?_
    refine SJ.block (id := 1) ?_
    refine SJ.sr 10 ?_
    refine OJ.go 1 [(8, .pointer (some (pt b1 0)))] ?_
    refine OJ.kld (d := 9) (y := .tmp 8) (cd := (cI .i64)) (j := 0) (b := b1) (o := 0) a0.V (pend2 := []) Ty3 rfl (At_api_IP_V a0) rfl ?_
    refine OJ.go 2 [(11, .bool (a0.V == 4)), (10, .bool (a0.V == 4))] ?_
    refine OJ.join (b := (a0.V == 4)) [4, 5, 6, 7, 8, 9] [] [1, 3, 17] (fun y11 => [(1, .pointer (some (pt b1 0))), (3, .int .i64 s2), (17, .bool y11)]) [] [] (t := 11) beq_iff_eq (fun hp_ => ?_) (fun hp_ => ?_) (fun _ _ _ _ _ _ h_ => h_) (fun y11 => ?_)
    · refine OJ.go 2 [(13, .pointer (some (pt b1 1))), (12, .int .i64 s2)] ?_
      refine OJ.idxK (d := 14) (T := 30) (y := .tmp 13) (j := .tmp 12) (E := 5) (sz := 1) (b := b1) (o := 1) (k := .i64) (fun hb9 hb10 => ?_)
      refine OJ.kld (d := 15) (y := .tmp 14) (cd := (cI .u8)) (j := 0) (b := b1) (o := (1 + s2.toNat * 1)) (Vec.g a0.A s2 0) (pend2 := []) Ty5 rfl (At.trans (At_api_IP_A a0) (At.arr (z := 0) hb9 hb10)) rfl ?_
      refine OJ.go 2 [(17, .bool ((Vec.g a0.A s2 0) != 0)), (16, .bool ((Vec.g a0.A s2 0) != 0))] ?_
      exact OJ.nil ⟨(Cov.mem Cov.nil), rfl, _, rfl, by kernel_rfl⟩
    · refine OJ.go 6 [(17, .bool false), (16, undef), (15, undef), (14, undef), (13, undef), (12, undef)] ?_
      exact OJ.nil ⟨(Cov.mem Cov.nil), rfl, _, rfl, by kernel_rfl⟩
    · refine OJ.nil ?_
      refine SJ.cond (t := (.tmp 17)) (b := y11) Iff.rfl (fun hc12 => ?_) (fun hc12 => ?_)
      · refine SJ.sr 1 ?_
        refine OJ.go 1 [(2, .bool false)] ?_
        refine OJ.nil ?_
        exact SJ.ret rfl (Res.run (ys := [.bool false]) (.tmp (by kernel_rfl) .nil) rfl)
      · refine SJ.skip ?_
        refine SJ.inBlock ?_
        refine SJ.rg 3 ?_
        refine OJ.go 3 [(3, .int .i64 (IntKind.wrap .i64 (s2 + 1))), (7, .int .i64 (IntKind.wrap .i64 (s2 + 1))), (6, .int .i64 s2)] ?_
        refine OJ.nil ?_
        exact SJ.at_ [1, 3] rfl
  · refine SJ.exit (id := 0) (by rfl) ?_
    refine SJ.less [1] (m' := [(1, .pointer (some (pt b1 0)))]) ?_
    refine SJ.done ?_
    exact weirref15_address.K1_ok a0 b1
noncomputable def weirref15_address (a0 : api_IP) : M Bool :=
  slot 32 >>= fun b1 =>
  loopM (fun s_ : Int => weirref15_address.L1 a0 s_) 4
theorem weirref15_address_ok (a0 : api_IP) : Ref Try.prog 72 [c_api_IP.val a0] (weirref15_address a0) weirref15_address.out := by
  refine Ref.of (cd := weirref15_address.B) Try.func72 ?_
  show SJ weirref15_address.cx [.code weirref15_address.B] [(0, c_api_IP.val a0)] [] (weirref15_address a0) weirref15_address.F0
  unfold weirref15_address
  refine SJ.sr 2 ?_
  refine OJ.slotOf (d := 1) (op := (.box 32 (.tmp 0))) (cd := c_api_IP) (u := a0) (owed := []) (box_run (by kernel_rfl)) (fun b1 => ?_)
  refine OW.nil ?_
  refine OJ.go 1 [(2, .bool false)] ?_
  refine OJ.nil ?_
  refine SJ.seq ?_
  refine SJ.sr 1 ?_
  refine OJ.go 1 [(3, .int .i64 4)] ?_
  refine OJ.nil ?_
  refine SJ.block (id := 0) ?_
  exact SJ.loop (fun s_ : Int => [(1, .pointer (some (pt b1 0))), (3, .int .i64 s_)]) (fun s_ : Int => [(b1, c_api_IP.enc a0)]) [1, 3] rfl (fun _ _ => rfl) (fun s_ => weirref15_address.L1_ok a0 b1 s_)

/-! ### weir/weirref15.find: function 73 -/
noncomputable def weirref15_find.B : Code := (Try.f73.body).getD .skip
noncomputable def weirref15_find.cx : Fx := ⟨Try.prog, 73, Try.f73⟩
noncomputable def weirref15_find.out (r_ : Int) : Value := .int .i64 r_
noncomputable def weirref15_find.F0 (r_ : Int) : Reach := .ret (weirref15_find.out r_)
noncomputable def weirref15_find.F1 (a0 : weirref15_Cache) (a1 : Int) (a2 : api_IP) (b1 : Nat) (b2 : Nat) : (LS Int Int) → Reach := loopF [.inLoop (c1 (c1 (c2 (c1 (c2 weirref15_find.B))))), .inBlock 0, .code (c2 (c2 weirref15_find.B))] (fun s_ : Int => [(1, .int .i64 a1), (3, .pointer (some (pt b1 0))), (5, .pointer (some (pt b2 0))), (7, .int .i64 s_)]) (fun s_ : Int => [(b2, c_api_IP.enc a2), (b1, c_weirref15_Cache.enc a0)]) weirref15_find.F0
noncomputable def weirref15_find.L1 (a0 : weirref15_Cache) (a1 : Int) (a2 : api_IP) (s3 : Int) : M (LS Int Int) :=
  if s3 < (a0.L.len : Int) then
    draw >>= fun _ =>
    idx a0.L.a a0.L.len s3 29 >>= fun p11 =>
    ld (cI .i64) p11 >>= fun x12 =>
    (if x12 = a1 then
        idx a0.L.a a0.L.len s3 29 >>= fun p13 =>
        ld c_api_IP (Addr.add p13 1) >>= fun x14 =>
        pure (eqv x14 a2)
      else
        pure false) >>= fun y15 =>
    if y15 = true then
      pure (LS.done s3)
    else
      pure (LS.next (IntKind.wrap .i64 (s3 + 1)))
  else
    pure (LS.done (-1))
theorem weirref15_find.L1_ok (a0 : weirref15_Cache) (a1 : Int) (a2 : api_IP) (b1 : Nat) (b2 : Nat) (s3 : Int) :
    SJ weirref15_find.cx [.code (c1 (c1 (c2 (c1 (c2 weirref15_find.B))))), .inLoop (c1 (c1 (c2 (c1 (c2 weirref15_find.B))))), .inBlock 0, .code (c2 (c2 weirref15_find.B))] [(1, .int .i64 a1), (3, .pointer (some (pt b1 0))), (5, .pointer (some (pt b2 0))), (7, .int .i64 s3)] [(b2, c_api_IP.enc a2), (b1, c_weirref15_Cache.enc a0)] (weirref15_find.L1 a0 a1 a2 s3) (weirref15_find.F1 a0 a1 a2 b1 b2) := by
  unfold weirref15_find.L1
  refine SJ.seq ?_
  refine SJ.sr 5 ?_
  refine OJ.go 2 [(9, .pointer (some (pt b1 5))), (8, .int .i64 s3)] ?_
  refine OJ.kld (d := 10) (y := .tmp 9) (cd := cL) (j := 1) (b := b1) (o := 5) a0.L (pend2 := []) Ty84 rfl (At_weirref15_Cache_L a0) rfl ?_
  refine OJ.go 2 [(12, .bool (decide (s3 < (a0.L.len : Int)))), (11, .int .i64 (a0.L.len : Int))] ?_
  refine OJ.nil ?_
  refine SJ.cond (t := (.tmp 12)) (b := decide (s3 < (a0.L.len : Int))) decide_eq_true_iff (fun hc17 => ?_) (fun hc17 => ?_)
  · refine SJ.skip ?_
    refine SJ.seq ?_
    refine SJ.block (id := 1) ?_
    refine SJ.seq ?_
    refine SJ.draw (id := 4) (kd := [0, 1, 0, 0, 0, 0, 1, 0, 0, 0, 0, 1, 0, 0, 0, 0, 1, 1, 0, 0]) (bef := [0, 1, 0, 7, 15, 31, 63, 0, 255, 511, 1023, 2047, 1023, 8191, 16383, 32767, 65535, 1023, 262143, 524287]) (ord := [0, 1, 2, 3, 4, 5, 6, 7, 8, 9, 10, 11, 12, 13, 14, 15, 16, 17, 18, 19]) mixed ?_
    refine OJ.go 1 [(15, .pointer (some (pt b1 5)))] ?_
    refine OJ.kld (d := 16) (y := .tmp 15) (cd := cL) (j := 1) (b := b1) (o := 5) a0.L (pend2 := [⟨1, 84, (pt b1 5), cL.val a0.L⟩]) Ty84 rfl (At_weirref15_Cache_L a0) rfl ?_
    refine OJ.go 1 [(17, .int .i64 s3)] ?_
    refine OJ.idxS (d := 18) (T := 84) (y := .tmp 16) (j := .tmp 17) (E := 145) (cap := a0.L.cap) (k := .i64) (fun p11 => ?_)
    refine OJ.go 2 [(20, .pointer (some p11)), (19, .pointer (some p11))] ?_
    refine OJ.ld (d := 21) (y := .tmp 20) (pend2 := fun x12 => [⟨6, 3, p11, (cI .i64).val x12⟩, ⟨1, 84, (pt b1 5), cL.val a0.L⟩]) Ty3 (fun _ => rfl) (fun x12 => ?_)
    refine OJ.go 3 [(24, .bool (x12 == a1)), (23, .bool (x12 == a1)), (22, .int .i64 a1)] ?_
    refine OJ.join (b := (x12 == a1)) [10, 11, 12, 13, 14, 15, 16, 17, 18, 19] [] [1, 3, 5, 7, 34] (fun y15 => [(1, .int .i64 a1), (3, .pointer (some (pt b1 0))), (5, .pointer (some (pt b2 0))), (7, .int .i64 s3), (34, .bool y15)]) [⟨17, 32, (pt b2 0), c_api_IP.val a2⟩, ⟨11, 84, (pt b1 5), cL.val a0.L⟩, ⟨6, 3, p11, (cI .i64).val x12⟩, ⟨1, 84, (pt b1 5), cL.val a0.L⟩] [16] (t := 24) beq_iff_eq (fun hp_ => ?_) (fun hp_ => ?_) (fun _ _ _ _ _ _ h_ => h_) (fun y15 => ?_)
    · refine OJ.go 1 [(25, .pointer (some (pt b1 5)))] ?_
      refine OJ.kld (d := 26) (y := .tmp 25) (cd := cL) (j := 1) (b := b1) (o := 5) a0.L (pend2 := [⟨11, 84, (pt b1 5), cL.val a0.L⟩, ⟨6, 3, p11, (cI .i64).val x12⟩, ⟨1, 84, (pt b1 5), cL.val a0.L⟩]) Ty84 rfl (At_weirref15_Cache_L a0) rfl ?_
      refine OJ.go 1 [(27, .int .i64 s3)] ?_
      refine OJ.idxS (d := 28) (T := 84) (y := .tmp 26) (j := .tmp 27) (E := 145) (cap := a0.L.cap) (k := .i64) (fun p13 => ?_)
      refine OJ.go 2 [(30, .pointer (some (Addr.add p13 1))), (29, .pointer (some p13))] ?_
      refine OJ.ld (d := 31) (y := .tmp 30) (pend2 := fun x14 => [⟨16, 32, (Addr.add p13 1), c_api_IP.val x14⟩, ⟨11, 84, (pt b1 5), cL.val a0.L⟩, ⟨6, 3, p11, (cI .i64).val x12⟩, ⟨1, 84, (pt b1 5), cL.val a0.L⟩]) Ty32 (fun _ => rfl) (fun x14 => ?_)
      refine OJ.kld (d := 32) (y := .tmp 5) (cd := c_api_IP) (j := 0) (b := b2) (o := 0) a2 (pend2 := [⟨17, 32, (pt b2 0), c_api_IP.val a2⟩, ⟨16, 32, (Addr.add p13 1), c_api_IP.val x14⟩, ⟨11, 84, (pt b1 5), cL.val a0.L⟩, ⟨6, 3, p11, (cI .i64).val x12⟩, ⟨1, 84, (pt b1 5), cL.val a0.L⟩]) Ty32 rfl (At.whole _) rfl ?_
      refine OJ.eql (d := 33) (T := 32) (yT := 32) (y := .tmp 31) (z := .tmp 32) (cd := c_api_IP) (p := x14) (q := a2) rfl Eq32 ?_
      refine OJ.go 1 [(34, .bool (eqv x14 a2))] ?_
      exact OJ.nil ⟨(Cov.mem (Cov.keep (List.mem_of_getElem? (i := 0) rfl) (Cov.drop (List.mem_of_getElem? (i := 0) rfl) (Cov.keep (List.mem_of_getElem? (i := 1) rfl) (Cov.keep (List.mem_of_getElem? (i := 2) rfl) (Cov.keep (List.mem_of_getElem? (i := 3) rfl) Cov.nil)))))), rfl, _, rfl, by kernel_rfl⟩
    · refine OJ.go 10 [(34, .bool false), (33, undef), (32, undef), (31, undef), (30, undef), (29, undef), (28, undef), (27, undef), (26, undef), (25, undef)] ?_
      exact OJ.nil ⟨(Cov.mem (Cov.keep (List.mem_of_getElem? (i := 2) rfl) (Cov.keep (List.mem_of_getElem? (i := 3) rfl) Cov.nil))), rfl, _, rfl, by kernel_rfl⟩
    · refine OJ.nil ?_
      refine SJ.cond (t := (.tmp 34)) (b := y15) Iff.rfl (fun hc16 => ?_) (fun hc16 => ?_)
      · refine SJ.sr 2 ?_
        refine OJ.go 2 [(6, .int .i64 s3), (35, .int .i64 s3)] ?_
        refine OJ.nil ?_
        exact SJ.ret rfl (Res.run (ys := [.int .i64 s3]) (.tmp (by kernel_rfl) .nil) rfl)
      · refine SJ.skip ?_
        refine SJ.inBlock ?_
        refine SJ.rg 3 ?_
        refine OJ.go 3 [(7, .int .i64 (IntKind.wrap .i64 (s3 + 1))), (14, .int .i64 (IntKind.wrap .i64 (s3 + 1))), (13, .int .i64 s3)] ?_
        refine OJ.nil ?_
        exact SJ.at_ [1, 3, 5, 7] rfl
  · refine SJ.exit (id := 0) (by rfl) ?_
    refine SJ.sr 1 ?_
    refine OJ.go 1 [(6, .int .i64 (-1))] ?_
    refine OJ.nil ?_
    exact SJ.ret rfl (Res.run (ys := [.int .i64 (-1)]) (.tmp (by kernel_rfl) .nil) rfl)
noncomputable def weirref15_find (a0 : weirref15_Cache) (a1 : Int) (a2 : api_IP) : M Int :=
  slot 86 >>= fun b1 =>
  slot 32 >>= fun b2 =>
  loopM (fun s_ : Int => weirref15_find.L1 a0 a1 a2 s_) 0
theorem weirref15_find_ok (a0 : weirref15_Cache) (a1 : Int) (a2 : api_IP) : Ref Try.prog 73 [c_weirref15_Cache.val a0, .int .i64 a1, c_api_IP.val a2] (weirref15_find a0 a1 a2) weirref15_find.out := by
  refine Ref.of (cd := weirref15_find.B) Try.func73 ?_
  show SJ weirref15_find.cx [.code weirref15_find.B] [(0, c_weirref15_Cache.val a0), (1, .int .i64 a1), (2, c_api_IP.val a2)] [] (weirref15_find a0 a1 a2) weirref15_find.F0
  unfold weirref15_find
  refine SJ.sr 3 ?_
  refine OJ.slotOf (d := 3) (op := (.box 86 (.tmp 0))) (cd := c_weirref15_Cache) (u := a0) (owed := []) (box_run (by kernel_rfl)) (fun b1 => ?_)
  refine OW.nil ?_
  refine OJ.slotOf (d := 5) (op := (.box 32 (.tmp 2))) (cd := c_api_IP) (u := a2) (owed := []) (box_run (by kernel_rfl)) (fun b2 => ?_)
  refine OW.nil ?_
  refine OJ.go 1 [(6, .int .i64 0)] ?_
  refine OJ.nil ?_
  refine SJ.seq ?_
  refine SJ.sr 1 ?_
  refine OJ.go 1 [(7, .int .i64 0)] ?_
  refine OJ.nil ?_
  refine SJ.block (id := 0) ?_
  exact SJ.loop (fun s_ : Int => [(1, .int .i64 a1), (3, .pointer (some (pt b1 0))), (5, .pointer (some (pt b2 0))), (7, .int .i64 s_)]) (fun s_ : Int => [(b2, c_api_IP.enc a2), (b1, c_weirref15_Cache.enc a0)]) [1, 3, 5, 7] rfl (fun _ _ => rfl) (fun s_ => weirref15_find.L1_ok a0 a1 a2 b1 b2 s_)

/-! ### weir/weirref15.without: function 89 -/
noncomputable def weirref15_without.B : Code := (Try.f89.body).getD .skip
noncomputable def weirref15_without.cx : Fx := ⟨Try.prog, 89, Try.f89⟩
noncomputable def weirref15_without.out (r_ : Sl) : Value := Sl.v r_
noncomputable def weirref15_without.F0 (r_ : Sl) : Reach := .ret (weirref15_without.out r_)
noncomputable def weirref15_without (a0 : Sl) (a1 : Int) : M Sl :=
  cut 29 a0 none (some a1) none >>= fun r1 =>
  appS c_weirref15_Entry 145 96 z_weirref15_Entry Sl.nil r1 >>= fun r2 =>
  cut 29 a0 (some (IntKind.wrap .i64 (a1 + 1))) none none >>= fun r3 =>
  appS c_weirref15_Entry 145 96 z_weirref15_Entry r2 r3 >>= fun r4 =>
  pure r4
theorem weirref15_without_ok (a0 : Sl) (a1 : Int) : Ref Try.prog 89 [Sl.v a0, .int .i64 a1] (weirref15_without a0 a1) weirref15_without.out := by
  refine Ref.of (cd := weirref15_without.B) Try.func89 ?_
  show SJ weirref15_without.cx [.code weirref15_without.B] [(0, Sl.v a0), (1, .int .i64 a1)] [] (weirref15_without a0 a1) weirref15_without.F0
  unfold weirref15_without
  refine SJ.sr 1 ?_
  refine OJ.go 1 [(4, Sl.v Sl.nil)] ?_
  refine OJ.nil ?_
  refine SJ.sr 1 ?_
  refine OJ.go 1 [(5, Sl.v Sl.nil)] ?_
  refine OJ.nil ?_
  refine SJ.sr 6 ?_
  refine OJ.go 3 [(8, .int .i64 a1), (7, Sl.v a0), (6, Sl.v Sl.nil)] ?_
  refine OJ.cut (d := 9) (t := 84) (E := 145) (y := .tmp 7) (lo := none) (hi := (some (.tmp 8))) (mx := none) (lo' := none) (hi' := some (.i64, a1)) (mx' := none) (fun h => by cases h) (fun r1 => ?_)
  refine OJ.appS (d := 10) (t := 84) (u := 84) (so := .tmp 6) (xo := .tmp 9) (owed := []) Ty145 (fun r2 => ?_)
  refine OW.nil ?_
  refine OJ.go 1 [(5, Sl.v r2)] ?_
  refine OJ.nil ?_
  refine SJ.sr 7 ?_
  refine OJ.go 4 [(14, .int .i64 (IntKind.wrap .i64 (a1 + 1))), (13, .int .i64 a1), (12, Sl.v a0), (11, Sl.v r2)] ?_
  refine OJ.cut (d := 15) (t := 84) (E := 145) (y := .tmp 12) (lo := (some (.tmp 14))) (hi := none) (mx := none) (lo' := some (.i64, IntKind.wrap .i64 (a1 + 1))) (hi' := none) (mx' := none) (fun h => by cases h) (fun r3 => ?_)
  refine OJ.appS (d := 16) (t := 84) (u := 84) (so := .tmp 11) (xo := .tmp 15) (owed := []) Ty145 (fun r4 => ?_)
  refine OW.nil ?_
  refine OJ.go 1 [(5, Sl.v r4)] ?_
  refine OJ.nil ?_
  refine SJ.sr 2 ?_
  refine OJ.go 2 [(4, Sl.v r4), (17, Sl.v r4)] ?_
  refine OJ.nil ?_
  exact SJ.ret rfl (Res.run (ys := [Sl.v r4]) (.tmp (by kernel_rfl) .nil) rfl)

/-! ### weir/weirref15.room: function 74 -/
noncomputable def weirref15_room.B : Code := (Try.f74.body).getD .skip
noncomputable def weirref15_room.cx : Fx := ⟨Try.prog, 74, Try.f74⟩
noncomputable def weirref15_room.out (r_ : (weirref15_Cache × Bool)) : Value := .tuple #[c_weirref15_Cache.val r_.1, .bool r_.2]
noncomputable def weirref15_room.F0 (r_ : (weirref15_Cache × Bool)) : Reach := .ret (weirref15_room.out r_)
noncomputable def weirref15_room.K1 (a0 : weirref15_Cache) (s3 : Int) : M (weirref15_Cache × Bool) :=
  if s3 < 0 then
    pure (a0, false)
  else
    weirref15_without a0.L s3 >>= fun r15 =>
    pure ((⟨a0.C, r15⟩ : weirref15_Cache), true)
theorem weirref15_room.K1_ok (a0 : weirref15_Cache) (b1 : Nat) (b2 : Nat) (s3 : Int) :
    SJ weirref15_room.cx [.code (c2 (c2 (c2 (c2 weirref15_room.B))))] [(1, .pointer (some (pt b1 0))), (2, .pointer (some (pt b2 0))), (4, .int .i64 s3)] [(b2, c_weirref15_Cache.enc z_weirref15_Cache), (b1, c_weirref15_Cache.enc a0)] (weirref15_room.K1 a0 s3) weirref15_room.F0 := by
  unfold weirref15_room.K1
  refine SJ.seq ?_
  refine SJ.sr 2 ?_
  refine OJ.go 2 [(52, .bool (decide (s3 < 0))), (51, .int .i64 s3)] ?_
  refine OJ.nil ?_
  refine SJ.cond (t := (.tmp 52)) (b := decide (s3 < 0)) decide_eq_true_iff (fun hc16 => ?_) (fun hc16 => ?_)
  · refine SJ.sr 3 ?_
    refine OJ.kld (d := 53) (y := .tmp 1) (cd := c_weirref15_Cache) (j := 1) (b := b1) (o := 0) a0 (pend2 := []) Ty86 rfl (At.whole _) rfl ?_
    refine OJ.kst (y := .tmp 2) (z := .tmp 53) (cd := c_weirref15_Cache) (u := a0) (j := 0) (b := b2) (o := 0) (c_weirref15_Cache.enc a0) (owed := []) Ty86 rfl (Upd.whole ((Cod.len _ _).trans (Cod.len _ _).symm)) rfl ?_
    refine OW.nil ?_
    refine OJ.go 1 [(3, .bool false)] ?_
    refine OJ.nil ?_
    exact SJ.ret rfl (Res.run (ys := [c_weirref15_Cache.val a0, .bool false]) (.cell (j := 0) (b := b2) (cd := c_weirref15_Cache) (q := a0) (by kernel_rfl) rfl Ty86 (At.whole _) (.tmp (by kernel_rfl) .nil)) rfl)
  · refine SJ.skip ?_
    refine SJ.sr 6 ?_
    refine OJ.go 1 [(54, .pointer (some (pt b1 5)))] ?_
    refine OJ.kld (d := 55) (y := .tmp 54) (cd := cL) (j := 1) (b := b1) (o := 5) a0.L (pend2 := []) Ty84 rfl (At_weirref15_Cache_L a0) rfl ?_
    refine OJ.go 1 [(56, .int .i64 s3)] ?_
    refine OJ.call (d := 57) (g := 89) (ats := #[84, 3]) (args := [.tmp 55, .tmp 56]) (owed := []) F89 (weirref15_without_ok a0.L s3) (fun r15 => ?_)
    refine OW.nil ?_
    refine OJ.go 1 [(58, .pointer (some (pt b1 5)))] ?_
    refine OJ.kst (y := .tmp 58) (z := .tmp 57) (cd := cL) (u := r15) (j := 1) (b := b1) (o := 5) (c_weirref15_Cache.enc (⟨a0.C, r15⟩ : weirref15_Cache)) (owed := []) Ty84 rfl (Up_weirref15_Cache_L a0 r15) rfl ?_
    refine OW.nil ?_
    refine OJ.nil ?_
    refine SJ.sr 3 ?_
    refine OJ.kld (d := 59) (y := .tmp 1) (cd := c_weirref15_Cache) (j := 1) (b := b1) (o := 0) (⟨a0.C, r15⟩ : weirref15_Cache) (pend2 := []) Ty86 rfl (At.whole _) rfl ?_
    refine OJ.kst (y := .tmp 2) (z := .tmp 59) (cd := c_weirref15_Cache) (u := (⟨a0.C, r15⟩ : weirref15_Cache)) (j := 0) (b := b2) (o := 0) (c_weirref15_Cache.enc (⟨a0.C, r15⟩ : weirref15_Cache)) (owed := []) Ty86 rfl (Upd.whole ((Cod.len _ _).trans (Cod.len _ _).symm)) rfl ?_
    refine OW.nil ?_
    refine OJ.go 1 [(3, .bool true)] ?_
    refine OJ.nil ?_
    exact SJ.ret rfl (Res.run (ys := [c_weirref15_Cache.val (⟨a0.C, r15⟩ : weirref15_Cache), .bool true]) (.cell (j := 0) (b := b2) (cd := c_weirref15_Cache) (q := (⟨a0.C, r15⟩ : weirref15_Cache)) (by kernel_rfl) rfl Ty86 (At.whole _) (.tmp (by kernel_rfl) .nil)) rfl)
noncomputable def weirref15_room.F1 (a0 : weirref15_Cache) (b1 : Nat) (b2 : Nat) : (LS (Int × Int) (weirref15_Cache × Bool)) → Reach := loopF [.inLoop (c1 (c1 (c2 (c1 (c2 (c2 (c2 weirref15_room.B))))))), .inBlock 0, .code (c2 (c2 (c2 (c2 weirref15_room.B))))] (fun s_ : (Int × Int) => [(1, .pointer (some (pt b1 0))), (2, .pointer (some (pt b2 0))), (4, .int .i64 s_.1), (5, .int .i64 s_.2)]) (fun s_ : (Int × Int) => [(b2, c_weirref15_Cache.enc z_weirref15_Cache), (b1, c_weirref15_Cache.enc a0)]) weirref15_room.F0
noncomputable def weirref15_room.L1 (a0 : weirref15_Cache) (s3 : Int) (s4 : Int) : M (LS (Int × Int) (weirref15_Cache × Bool)) :=
  if s4 < (a0.L.len : Int) then
    draw >>= fun _ =>
    idx a0.L.a a0.L.len s4 29 >>= fun p17 =>
    ld (cI .i64) (Addr.add p17 24) >>= fun x18 =>
    (if x18 = 3 then
        (if s3 < 0 then
            pure true
          else
            idx a0.L.a a0.L.len s4 29 >>= fun p19 =>
            ld (cI .i64) (Addr.add p19 25) >>= fun x20 =>
            idx a0.L.a a0.L.len s3 29 >>= fun p21 =>
            ld (cI .i64) (Addr.add p21 25) >>= fun x22 =>
            pure (decide (x20 > x22))) >>= fun y23 =>
        pure y23
      else
        pure false) >>= fun y24 =>
    if y24 = true then
      pure (LS.next (s4, IntKind.wrap .i64 (s4 + 1)))
    else
      pure (LS.next (s3, IntKind.wrap .i64 (s4 + 1)))
  else
    (weirref15_room.K1 a0 s3) >>= fun b => pure (LS.done b)
theorem weirref15_room.L1_ok (a0 : weirref15_Cache) (b1 : Nat) (b2 : Nat) (s3 : Int) (s4 : Int) :
    SJ weirref15_room.cx [.code (c1 (c1 (c2 (c1 (c2 (c2 (c2 weirref15_room.B))))))), .inLoop (c1 (c1 (c2 (c1 (c2 (c2 (c2 weirref15_room.B))))))), .inBlock 0, .code (c2 (c2 (c2 (c2 weirref15_room.B))))] [(1, .pointer (some (pt b1 0))), (2, .pointer (some (pt b2 0))), (4, .int .i64 s3), (5, .int .i64 s4)] [(b2, c_weirref15_Cache.enc z_weirref15_Cache), (b1, c_weirref15_Cache.enc a0)] (weirref15_room.L1 a0 s3 s4) (weirref15_room.F1 a0 b1 b2) := by
  unfold weirref15_room.L1
  refine SJ.seq ?_
  refine SJ.sr 5 ?_
  refine OJ.go 2 [(15, .pointer (some (pt b1 5))), (14, .int .i64 s4)] ?_
  refine OJ.kld (d := 16) (y := .tmp 15) (cd := cL) (j := 1) (b := b1) (o := 5) a0.L (pend2 := []) Ty84 rfl (At_weirref15_Cache_L a0) rfl ?_
  refine OJ.go 2 [(18, .bool (decide (s4 < (a0.L.len : Int)))), (17, .int .i64 (a0.L.len : Int))] ?_
  refine OJ.nil ?_
  refine SJ.cond (t := (.tmp 18)) (b := decide (s4 < (a0.L.len : Int))) decide_eq_true_iff (fun hc26 => ?_) (fun hc26 => ?_)
  · refine SJ.skip ?_
    refine SJ.seq ?_
    refine SJ.block (id := 1) ?_
    refine SJ.seq ?_
    refine SJ.draw (id := 7) (kd := [0, 1, 0, 0, 0, 0, 1, 0, 0, 0, 0, 0, 0, 1, 0, 0, 0, 0, 1, 0, 1, 0, 0, 0, 0, 1, 0, 0, 0]) (bef := [0, 1, 0, 7, 15, 31, 63, 127, 255, 511, 1023, 2047, 4095, 8191, 4095, 32767, 65535, 131071, 262143, 4095, 528383, 4095, 3674111, 7868415, 16257023, 33034239, 67108863, 134217727, 268435455]) (ord := [0, 1, 2, 3, 4, 5, 6, 7, 8, 9, 10, 11, 12, 13, 14, 15, 16, 17, 18, 19, 20, 21, 22, 23, 24, 25, 26, 27, 28]) mixed ?_
    refine OJ.go 1 [(21, .pointer (some (pt b1 5)))] ?_
    refine OJ.kld (d := 22) (y := .tmp 21) (cd := cL) (j := 1) (b := b1) (o := 5) a0.L (pend2 := [⟨1, 84, (pt b1 5), cL.val a0.L⟩]) Ty84 rfl (At_weirref15_Cache_L a0) rfl ?_
    refine OJ.go 1 [(23, .int .i64 s4)] ?_
    refine OJ.idxS (d := 24) (T := 84) (y := .tmp 22) (j := .tmp 23) (E := 145) (cap := a0.L.cap) (k := .i64) (fun p17 => ?_)
    refine OJ.go 2 [(26, .pointer (some (Addr.add p17 24))), (25, .pointer (some p17))] ?_
    refine OJ.ld (d := 27) (y := .tmp 26) (pend2 := fun x18 => [⟨6, 3, (Addr.add p17 24), (cI .i64).val x18⟩, ⟨1, 84, (pt b1 5), cL.val a0.L⟩]) Ty3 (fun _ => rfl) (fun x18 => ?_)
    refine OJ.go 2 [(29, .bool (x18 == 3)), (28, .bool (x18 == 3))] ?_
    refine OJ.join (b := (x18 == 3)) [9, 10, 11, 12, 13, 14, 15, 16, 17, 18, 19, 20, 21, 22, 23, 24, 25, 26, 27, 28] [] [1, 2, 4, 5, 49] (fun y24 => [(1, .pointer (some (pt b1 0))), (2, .pointer (some (pt b2 0))), (4, .int .i64 s3), (5, .int .i64 s4), (49, .bool y24)]) [⟨20, 84, (pt b1 5), cL.val a0.L⟩, ⟨13, 84, (pt b1 5), cL.val a0.L⟩, ⟨6, 3, (Addr.add p17 24), (cI .i64).val x18⟩, ⟨1, 84, (pt b1 5), cL.val a0.L⟩] [18, 25] (t := 29) beq_iff_eq (fun hp_ => ?_) (fun hp_ => ?_) (fun _ _ _ _ _ _ h_ => h_) (fun y24 => ?_)
    · refine OJ.go 3 [(32, .bool (decide (s3 < 0))), (31, .bool (decide (s3 < 0))), (30, .int .i64 s3)] ?_
      refine OJ.join (b := decide (s3 < 0)) [12, 13, 14, 15, 16, 17, 18, 19, 20, 21, 22, 23, 24, 25, 26, 27] [28] [1, 2, 4, 5, 29, 48] (fun y23 => [(1, .pointer (some (pt b1 0))), (2, .pointer (some (pt b2 0))), (4, .int .i64 s3), (5, .int .i64 s4), (29, .bool true), (48, .bool y23)]) [⟨20, 84, (pt b1 5), cL.val a0.L⟩, ⟨13, 84, (pt b1 5), cL.val a0.L⟩, ⟨6, 3, (Addr.add p17 24), (cI .i64).val x18⟩, ⟨1, 84, (pt b1 5), cL.val a0.L⟩] [18, 25] (t := 32) decide_eq_true_iff (fun hp_ => ?_) (fun hp_ => ?_) (fun _ _ _ _ _ hq_ h_ => ⟨fun e_ he_ => by rcases hq_ e_ he_ with h | h; exact h_.1 e_ h; exact .inr ((by decide : ∀ i ∈ [18, 25], i ∈ [18, 25]) _ h), h_.2⟩) (fun y23 => ?_)
      · refine OJ.go 16 [(48, .bool true), (47, undef), (46, undef), (45, undef), (44, undef), (43, undef), (42, undef), (41, undef), (40, undef), (39, undef), (38, undef), (37, undef), (36, undef), (35, undef), (34, undef), (33, undef)] ?_
        exact OJ.nil ⟨(Cov.mem (Cov.keep (List.mem_of_getElem? (i := 2) rfl) (Cov.keep (List.mem_of_getElem? (i := 3) rfl) Cov.nil))), rfl, _, rfl, by kernel_rfl⟩
      · refine OJ.go 1 [(33, .pointer (some (pt b1 5)))] ?_
        refine OJ.kld (d := 34) (y := .tmp 33) (cd := cL) (j := 1) (b := b1) (o := 5) a0.L (pend2 := [⟨13, 84, (pt b1 5), cL.val a0.L⟩, ⟨6, 3, (Addr.add p17 24), (cI .i64).val x18⟩, ⟨1, 84, (pt b1 5), cL.val a0.L⟩]) Ty84 rfl (At_weirref15_Cache_L a0) rfl ?_
        refine OJ.go 1 [(35, .int .i64 s4)] ?_
        refine OJ.idxS (d := 36) (T := 84) (y := .tmp 34) (j := .tmp 35) (E := 145) (cap := a0.L.cap) (k := .i64) (fun p19 => ?_)
        refine OJ.go 2 [(38, .pointer (some (Addr.add p19 25))), (37, .pointer (some p19))] ?_
        refine OJ.ld (d := 39) (y := .tmp 38) (pend2 := fun x20 => [⟨18, 3, (Addr.add p19 25), (cI .i64).val x20⟩, ⟨13, 84, (pt b1 5), cL.val a0.L⟩, ⟨6, 3, (Addr.add p17 24), (cI .i64).val x18⟩, ⟨1, 84, (pt b1 5), cL.val a0.L⟩]) Ty3 (fun _ => rfl) (fun x20 => ?_)
        refine OJ.go 1 [(40, .pointer (some (pt b1 5)))] ?_
        refine OJ.kld (d := 41) (y := .tmp 40) (cd := cL) (j := 1) (b := b1) (o := 5) a0.L (pend2 := [⟨20, 84, (pt b1 5), cL.val a0.L⟩, ⟨18, 3, (Addr.add p19 25), (cI .i64).val x20⟩, ⟨13, 84, (pt b1 5), cL.val a0.L⟩, ⟨6, 3, (Addr.add p17 24), (cI .i64).val x18⟩, ⟨1, 84, (pt b1 5), cL.val a0.L⟩]) Ty84 rfl (At_weirref15_Cache_L a0) rfl ?_
        refine OJ.go 1 [(42, .int .i64 s3)] ?_
        refine OJ.idxS (d := 43) (T := 84) (y := .tmp 41) (j := .tmp 42) (E := 145) (cap := a0.L.cap) (k := .i64) (fun p21 => ?_)
        refine OJ.go 2 [(45, .pointer (some (Addr.add p21 25))), (44, .pointer (some p21))] ?_
        refine OJ.ld (d := 46) (y := .tmp 45) (pend2 := fun x22 => [⟨25, 3, (Addr.add p21 25), (cI .i64).val x22⟩, ⟨20, 84, (pt b1 5), cL.val a0.L⟩, ⟨18, 3, (Addr.add p19 25), (cI .i64).val x20⟩, ⟨13, 84, (pt b1 5), cL.val a0.L⟩, ⟨6, 3, (Addr.add p17 24), (cI .i64).val x18⟩, ⟨1, 84, (pt b1 5), cL.val a0.L⟩]) Ty3 (fun _ => rfl) (fun x22 => ?_)
        refine OJ.go 2 [(48, .bool (decide (x20 > x22))), (47, .bool (decide (x20 > x22)))] ?_
        exact OJ.nil ⟨(Cov.mem (Cov.drop (List.mem_of_getElem? (i := 1) rfl) (Cov.keep (List.mem_of_getElem? (i := 0) rfl) (Cov.drop (List.mem_of_getElem? (i := 0) rfl) (Cov.keep (List.mem_of_getElem? (i := 1) rfl) (Cov.keep (List.mem_of_getElem? (i := 2) rfl) (Cov.keep (List.mem_of_getElem? (i := 3) rfl) Cov.nil))))))), rfl, _, rfl, by kernel_rfl⟩
      · refine OJ.go 1 [(49, .bool y23)] ?_
        exact OJ.nil ⟨(Cov.mem (Cov.keep (List.mem_of_getElem? (i := 0) rfl) (Cov.keep (List.mem_of_getElem? (i := 1) rfl) (Cov.keep (List.mem_of_getElem? (i := 2) rfl) (Cov.keep (List.mem_of_getElem? (i := 3) rfl) Cov.nil))))), rfl, _, rfl, by kernel_rfl⟩
    · refine OJ.go 20 [(49, .bool false), (48, undef), (47, undef), (46, undef), (45, undef), (44, undef), (43, undef), (42, undef), (41, undef), (40, undef), (39, undef), (38, undef), (37, undef), (36, undef), (35, undef), (34, undef), (33, undef), (32, undef), (31, undef), (30, undef)] ?_
      exact OJ.nil ⟨(Cov.mem (Cov.keep (List.mem_of_getElem? (i := 2) rfl) (Cov.keep (List.mem_of_getElem? (i := 3) rfl) Cov.nil))), rfl, _, rfl, by kernel_rfl⟩
    · refine OJ.nil ?_
      refine SJ.cond (t := (.tmp 49)) (b := y24) Iff.rfl (fun hc25 => ?_) (fun hc25 => ?_)
      · refine SJ.rg 2 ?_
        refine OJ.go 2 [(4, .int .i64 s4), (50, .int .i64 s4)] ?_
        refine OJ.nil ?_
        refine SJ.inBlock ?_
        refine SJ.rg 3 ?_
        refine OJ.go 3 [(5, .int .i64 (IntKind.wrap .i64 (s4 + 1))), (20, .int .i64 (IntKind.wrap .i64 (s4 + 1))), (19, .int .i64 s4)] ?_
        refine OJ.nil ?_
        exact SJ.at_ [1, 2, 4, 5] rfl
      · refine SJ.skip ?_
        refine SJ.inBlock ?_
        refine SJ.rg 3 ?_
        refine OJ.go 3 [(5, .int .i64 (IntKind.wrap .i64 (s4 + 1))), (20, .int .i64 (IntKind.wrap .i64 (s4 + 1))), (19, .int .i64 s4)] ?_
        refine OJ.nil ?_
        exact SJ.at_ [1, 2, 4, 5] rfl
  · refine SJ.exit (id := 0) (by rfl) ?_
    refine SJ.less [1, 2, 4] (m' := [(1, .pointer (some (pt b1 0))), (2, .pointer (some (pt b2 0))), (4, .int .i64 s3)]) ?_
    refine SJ.done ?_
    exact weirref15_room.K1_ok a0 b1 b2 s3
noncomputable def weirref15_room (a0 : weirref15_Cache) : M (weirref15_Cache × Bool) :=
  slot 86 >>= fun b1 =>
  slot 86 >>= fun b2 =>
  if (a0.L.len : Int) < a0.C.Max then
    pure (a0, true)
  else
    loopM (fun s_ : (Int × Int) => weirref15_room.L1 a0 s_.1 s_.2) ((-1), 0)
theorem weirref15_room_ok (a0 : weirref15_Cache) : Ref Try.prog 74 [c_weirref15_Cache.val a0] (weirref15_room a0) weirref15_room.out := by
  refine Ref.of (cd := weirref15_room.B) Try.func74 ?_
  show SJ weirref15_room.cx [.code weirref15_room.B] [(0, c_weirref15_Cache.val a0)] [] (weirref15_room a0) weirref15_room.F0
  unfold weirref15_room
  refine SJ.sr 3 ?_
  refine OJ.slotOf (d := 1) (op := (.box 86 (.tmp 0))) (cd := c_weirref15_Cache) (u := a0) (owed := []) (box_run (by kernel_rfl)) (fun b1 => ?_)
  refine OW.nil ?_
  refine OJ.slotOf (d := 2) (op := (.alloc 86)) (cd := c_weirref15_Cache) (u := z_weirref15_Cache) (owed := []) (alloc_run Ty86) (fun b2 => ?_)
  refine OW.nil ?_
  refine OJ.go 1 [(3, .bool false)] ?_
  refine OJ.nil ?_
  refine SJ.seq ?_
  refine SJ.sr 7 ?_
  refine OJ.go 1 [(6, .pointer (some (pt b1 5)))] ?_
  refine OJ.kld (d := 7) (y := .tmp 6) (cd := cL) (j := 1) (b := b1) (o := 5) a0.L (pend2 := []) Ty84 rfl (At_weirref15_Cache_L a0) rfl ?_
  refine OJ.go 3 [(10, .pointer (some (pt b1 0))), (9, .pointer (some (pt b1 0))), (8, .int .i64 (a0.L.len : Int))] ?_
  refine OJ.kld (d := 11) (y := .tmp 10) (cd := (cI .i64)) (j := 1) (b := b1) (o := 0) a0.C.Max (pend2 := []) Ty3 rfl (At.trans (At_weirref15_Cache_C a0) (At_api_NeighConfig_Max a0.C)) rfl ?_
  refine OJ.go 1 [(12, .bool (decide ((a0.L.len : Int) < a0.C.Max)))] ?_
  refine OJ.nil ?_
  refine SJ.cond (t := (.tmp 12)) (b := decide ((a0.L.len : Int) < a0.C.Max)) decide_eq_true_iff (fun hc27 => ?_) (fun hc27 => ?_)
  · refine SJ.sr 3 ?_
    refine OJ.kld (d := 13) (y := .tmp 1) (cd := c_weirref15_Cache) (j := 1) (b := b1) (o := 0) a0 (pend2 := []) Ty86 rfl (At.whole _) rfl ?_
    refine OJ.kst (y := .tmp 2) (z := .tmp 13) (cd := c_weirref15_Cache) (u := a0) (j := 0) (b := b2) (o := 0) (c_weirref15_Cache.enc a0) (owed := []) Ty86 rfl (Upd.whole ((Cod.len _ _).trans (Cod.len _ _).symm)) rfl ?_
    refine OW.nil ?_
    refine OJ.go 1 [(3, .bool true)] ?_
    refine OJ.nil ?_
    exact SJ.ret rfl (Res.run (ys := [c_weirref15_Cache.val a0, .bool true]) (.cell (j := 0) (b := b2) (cd := c_weirref15_Cache) (q := a0) (by kernel_rfl) rfl Ty86 (At.whole _) (.tmp (by kernel_rfl) .nil)) rfl)
  · refine SJ.skip ?_
    refine SJ.sr 1 ?_
    refine OJ.go 1 [(4, .int .i64 (-1))] ?_
    refine OJ.nil ?_
    refine SJ.seq ?_
    refine SJ.sr 1 ?_
    refine OJ.go 1 [(5, .int .i64 0)] ?_
    refine OJ.nil ?_
    refine SJ.block (id := 0) ?_
    exact SJ.loop (fun s_ : (Int × Int) => [(1, .pointer (some (pt b1 0))), (2, .pointer (some (pt b2 0))), (4, .int .i64 s_.1), (5, .int .i64 s_.2)]) (fun s_ : (Int × Int) => [(b2, c_weirref15_Cache.enc z_weirref15_Cache), (b1, c_weirref15_Cache.enc a0)]) [1, 2, 4, 5] rfl (fun _ _ => rfl) (fun s_ => weirref15_room.L1_ok a0 b1 b2 s_.1 s_.2)

/-! ### weir/weirref15.Less: function 90 -/
noncomputable def weirref15_Less.B : Code := (Try.f90.body).getD .skip
noncomputable def weirref15_Less.cx : Fx := ⟨Try.prog, 90, Try.f90⟩
noncomputable def weirref15_Less.out (r_ : Bool) : Value := .bool r_
noncomputable def weirref15_Less.F0 (r_ : Bool) : Reach := .ret (weirref15_Less.out r_)
noncomputable def weirref15_Less.F1 (a0 : api_IP) (a1 : api_IP) (b1 : Nat) (b2 : Nat) : (LS Int Bool) → Reach := loopF [.inLoop (c1 (c1 (c2 (c1 (c2 (c2 weirref15_Less.B)))))), .inBlock 0, .code (c2 (c2 (c2 weirref15_Less.B)))] (fun s_ : Int => [(2, .pointer (some (pt b1 0))), (3, .pointer (some (pt b2 0))), (5, .int .i64 s_)]) (fun s_ : Int => [(b2, c_api_IP.enc a1), (b1, c_api_IP.enc a0)]) weirref15_Less.F0
noncomputable def weirref15_Less.L1 (a0 : api_IP) (a1 : api_IP) (s3 : Int) : M (LS Int Bool) :=
  if s3 < 16 then
    draw >>= fun _ =>
    chk (0 ≤ s3 ∧ s3 < (16 : Nat)) >>= fun _ =>
    chk (0 ≤ s3 ∧ s3 < (16 : Nat)) >>= fun _ =>
    if (Vec.g a0.A s3 0) ≠ (Vec.g a1.A s3 0) then
      draw >>= fun _ =>
      chk (0 ≤ s3 ∧ s3 < (16 : Nat)) >>= fun _ =>
      chk (0 ≤ s3 ∧ s3 < (16 : Nat)) >>= fun _ =>
      pure (LS.done (decide ((Vec.g a0.A s3 0) < (Vec.g a1.A s3 0))))
    else
      pure (LS.next (IntKind.wrap .i64 (s3 + 1)))
  else
    pure (LS.done false)
theorem weirref15_Less.L1_ok (a0 : api_IP) (a1 : api_IP) (b1 : Nat) (b2 : Nat) (s3 : Int) :
    SJ weirref15_Less.cx [.code (c1 (c1 (c2 (c1 (c2 (c2 weirref15_Less.B)))))), .inLoop (c1 (c1 (c2 (c1 (c2 (c2 weirref15_Less.B)))))), .inBlock 0, .code (c2 (c2 (c2 weirref15_Less.B)))] [(2, .pointer (some (pt b1 0))), (3, .pointer (some (pt b2 0))), (5, .int .i64 s3)] [(b2, c_api_IP.enc a1), (b1, c_api_IP.enc a0)] (weirref15_Less.L1 a0 a1 s3) (weirref15_Less.F1 a0 a1 b1 b2) := by
  unfold weirref15_Less.L1
  refine SJ.seq ?_
  refine SJ.sr 2 ?_
  refine OJ.go 2 [(17, .bool (decide (s3 < 16))), (16, .int .i64 s3)] ?_
  refine OJ.nil ?_
  refine SJ.cond (t := (.tmp 17)) (b := decide (s3 < 16)) decide_eq_true_iff (fun hc31 => ?_) (fun hc31 => ?_)
  · refine SJ.skip ?_
    refine SJ.seq ?_
    refine SJ.block (id := 1) ?_
    refine SJ.seq ?_
    refine SJ.draw (id := 6) (kd := [0, 0, 0, 1, 0, 0, 0, 1, 0]) (bef := [0, 0, 3, 7, 0, 0, 48, 112, 255]) (ord := [0, 1, 2, 3, 4, 5, 6, 7, 8]) mixed ?_
    refine OJ.go 2 [(21, .pointer (some (pt b1 1))), (20, .int .i64 s3)] ?_
    refine OJ.idxK (d := 22) (T := 30) (y := .tmp 21) (j := .tmp 20) (E := 5) (sz := 1) (b := b1) (o := 1) (k := .i64) (fun hb18 hb19 => ?_)
    refine OJ.kld (d := 23) (y := .tmp 22) (cd := (cI .u8)) (j := 1) (b := b1) (o := (1 + s3.toNat * 1)) (Vec.g a0.A s3 0) (pend2 := [⟨3, 5, (pt b1 (1 + s3.toNat * 1)), (cI .u8).val (Vec.g a0.A s3 0)⟩]) Ty5 rfl (At.trans (At_api_IP_A a0) (At.arr (z := 0) hb18 hb19)) rfl ?_
    refine OJ.go 2 [(25, .pointer (some (pt b2 1))), (24, .int .i64 s3)] ?_
    refine OJ.idxK (d := 26) (T := 30) (y := .tmp 25) (j := .tmp 24) (E := 5) (sz := 1) (b := b2) (o := 1) (k := .i64) (fun hb20 hb21 => ?_)
    refine OJ.kld (d := 27) (y := .tmp 26) (cd := (cI .u8)) (j := 0) (b := b2) (o := (1 + s3.toNat * 1)) (Vec.g a1.A s3 0) (pend2 := [⟨7, 5, (pt b2 (1 + s3.toNat * 1)), (cI .u8).val (Vec.g a1.A s3 0)⟩, ⟨3, 5, (pt b1 (1 + s3.toNat * 1)), (cI .u8).val (Vec.g a0.A s3 0)⟩]) Ty5 rfl (At.trans (At_api_IP_A a1) (At.arr (z := 0) hb20 hb21)) rfl ?_
    refine OJ.go 1 [(28, .bool ((Vec.g a0.A s3 0) != (Vec.g a1.A s3 0)))] ?_
    refine OJ.nil ?_
    refine SJ.cond (t := (.tmp 28)) (b := ((Vec.g a0.A s3 0) != (Vec.g a1.A s3 0))) bne_iff_ne (fun hc30 => ?_) (fun hc30 => ?_)
    · refine SJ.seq ?_
      refine SJ.draw (id := 7) (kd := [0, 0, 0, 1, 0, 0, 0, 1, 0, 0]) (bef := [0, 0, 3, 7, 0, 0, 48, 112, 255, 511]) (ord := [0, 1, 2, 3, 4, 5, 6, 7, 8, 9]) mixed ?_
      refine OJ.go 2 [(30, .pointer (some (pt b1 1))), (29, .int .i64 s3)] ?_
      refine OJ.idxK (d := 31) (T := 30) (y := .tmp 30) (j := .tmp 29) (E := 5) (sz := 1) (b := b1) (o := 1) (k := .i64) (fun hb26 hb27 => ?_)
      refine OJ.kld (d := 32) (y := .tmp 31) (cd := (cI .u8)) (j := 1) (b := b1) (o := (1 + s3.toNat * 1)) (Vec.g a0.A s3 0) (pend2 := [⟨3, 5, (pt b1 (1 + s3.toNat * 1)), (cI .u8).val (Vec.g a0.A s3 0)⟩]) Ty5 rfl (At.trans (At_api_IP_A a0) (At.arr (z := 0) hb26 hb27)) rfl ?_
      refine OJ.go 2 [(34, .pointer (some (pt b2 1))), (33, .int .i64 s3)] ?_
      refine OJ.idxK (d := 35) (T := 30) (y := .tmp 34) (j := .tmp 33) (E := 5) (sz := 1) (b := b2) (o := 1) (k := .i64) (fun hb28 hb29 => ?_)
      refine OJ.kld (d := 36) (y := .tmp 35) (cd := (cI .u8)) (j := 0) (b := b2) (o := (1 + s3.toNat * 1)) (Vec.g a1.A s3 0) (pend2 := [⟨7, 5, (pt b2 (1 + s3.toNat * 1)), (cI .u8).val (Vec.g a1.A s3 0)⟩, ⟨3, 5, (pt b1 (1 + s3.toNat * 1)), (cI .u8).val (Vec.g a0.A s3 0)⟩]) Ty5 rfl (At.trans (At_api_IP_A a1) (At.arr (z := 0) hb28 hb29)) rfl ?_
      refine OJ.go 2 [(4, .bool (decide ((Vec.g a0.A s3 0) < (Vec.g a1.A s3 0)))), (37, .bool (decide ((Vec.g a0.A s3 0) < (Vec.g a1.A s3 0))))] ?_
      refine OJ.nil ?_
      exact SJ.ret rfl (Res.run (ys := [.bool (decide ((Vec.g a0.A s3 0) < (Vec.g a1.A s3 0)))]) (.tmp (by kernel_rfl) .nil) rfl)
    · refine SJ.skip ?_
      refine SJ.inBlock ?_
      refine SJ.rg 3 ?_
      refine OJ.go 3 [(5, .int .i64 (IntKind.wrap .i64 (s3 + 1))), (19, .int .i64 (IntKind.wrap .i64 (s3 + 1))), (18, .int .i64 s3)] ?_
      refine OJ.nil ?_
      exact SJ.at_ [2, 3, 5] rfl
  · refine SJ.exit (id := 0) (by rfl) ?_
    refine SJ.sr 1 ?_
    refine OJ.go 1 [(4, .bool false)] ?_
    refine OJ.nil ?_
    exact SJ.ret rfl (Res.run (ys := [.bool false]) (.tmp (by kernel_rfl) .nil) rfl)
noncomputable def weirref15_Less (a0 : api_IP) (a1 : api_IP) : M Bool :=
  slot 32 >>= fun b1 =>
  slot 32 >>= fun b2 =>
  if a0.V ≠ a1.V then
    pure (decide (a0.V < a1.V))
  else
    loopM (fun s_ : Int => weirref15_Less.L1 a0 a1 s_) 0
theorem weirref15_Less_ok (a0 : api_IP) (a1 : api_IP) : Ref Try.prog 90 [c_api_IP.val a0, c_api_IP.val a1] (weirref15_Less a0 a1) weirref15_Less.out := by
  refine Ref.of (cd := weirref15_Less.B) Try.func90 ?_
  show SJ weirref15_Less.cx [.code weirref15_Less.B] [(0, c_api_IP.val a0), (1, c_api_IP.val a1)] [] (weirref15_Less a0 a1) weirref15_Less.F0
  unfold weirref15_Less
  refine SJ.sr 3 ?_
  refine OJ.slotOf (d := 2) (op := (.box 32 (.tmp 0))) (cd := c_api_IP) (u := a0) (owed := []) (box_run (by kernel_rfl)) (fun b1 => ?_)
  refine OW.nil ?_
  refine OJ.slotOf (d := 3) (op := (.box 32 (.tmp 1))) (cd := c_api_IP) (u := a1) (owed := []) (box_run (by kernel_rfl)) (fun b2 => ?_)
  refine OW.nil ?_
  refine OJ.go 1 [(4, .bool false)] ?_
  refine OJ.nil ?_
  refine SJ.seq ?_
  refine SJ.sr 5 ?_
  refine OJ.go 1 [(6, .pointer (some (pt b1 0)))] ?_
  refine OJ.kld (d := 7) (y := .tmp 6) (cd := (cI .i64)) (j := 1) (b := b1) (o := 0) a0.V (pend2 := []) Ty3 rfl (At_api_IP_V a0) rfl ?_
  refine OJ.go 1 [(8, .pointer (some (pt b2 0)))] ?_
  refine OJ.kld (d := 9) (y := .tmp 8) (cd := (cI .i64)) (j := 0) (b := b2) (o := 0) a1.V (pend2 := []) Ty3 rfl (At_api_IP_V a1) rfl ?_
  refine OJ.go 1 [(10, .bool (a0.V != a1.V))] ?_
  refine OJ.nil ?_
  refine SJ.cond (t := (.tmp 10)) (b := (a0.V != a1.V)) bne_iff_ne (fun hc32 => ?_) (fun hc32 => ?_)
  · refine SJ.sr 6 ?_
    refine OJ.go 1 [(11, .pointer (some (pt b1 0)))] ?_
    refine OJ.kld (d := 12) (y := .tmp 11) (cd := (cI .i64)) (j := 1) (b := b1) (o := 0) a0.V (pend2 := []) Ty3 rfl (At_api_IP_V a0) rfl ?_
    refine OJ.go 1 [(13, .pointer (some (pt b2 0)))] ?_
    refine OJ.kld (d := 14) (y := .tmp 13) (cd := (cI .i64)) (j := 0) (b := b2) (o := 0) a1.V (pend2 := []) Ty3 rfl (At_api_IP_V a1) rfl ?_
    refine OJ.go 2 [(4, .bool (decide (a0.V < a1.V))), (15, .bool (decide (a0.V < a1.V)))] ?_
    refine OJ.nil ?_
    exact SJ.ret rfl (Res.run (ys := [.bool (decide (a0.V < a1.V))]) (.tmp (by kernel_rfl) .nil) rfl)
  · refine SJ.skip ?_
    refine SJ.seq ?_
    refine SJ.sr 1 ?_
    refine OJ.go 1 [(5, .int .i64 0)] ?_
    refine OJ.nil ?_
    refine SJ.block (id := 0) ?_
    exact SJ.loop (fun s_ : Int => [(2, .pointer (some (pt b1 0))), (3, .pointer (some (pt b2 0))), (5, .int .i64 s_)]) (fun s_ : Int => [(b2, c_api_IP.enc a1), (b1, c_api_IP.enc a0)]) [2, 3, 5] rfl (fun _ _ => rfl) (fun s_ => weirref15_Less.L1_ok a0 a1 b1 b2 s_)

/-! ### weir/weirref15.with: function 75 -/
noncomputable def weirref15_with.B : Code := (Try.f75.body).getD .skip
noncomputable def weirref15_with.cx : Fx := ⟨Try.prog, 75, Try.f75⟩
noncomputable def weirref15_with.out (r_ : Sl) : Value := Sl.v r_
noncomputable def weirref15_with.F0 (r_ : Sl) : Reach := .ret (weirref15_with.out r_)
noncomputable def weirref15_with.K1 (a0 : Sl) (a1 : weirref15_Entry) (s2 : Int) : M Sl :=
  cut 29 a0 none (some s2) none >>= fun r14 =>
  appS c_weirref15_Entry 145 96 z_weirref15_Entry Sl.nil r14 >>= fun r15 =>
  slot 145 >>= fun b16 =>
  appl c_weirref15_Entry 145 96 z_weirref15_Entry r15 [a1] >>= fun r17 =>
  cut 29 a0 (some s2) none none >>= fun r18 =>
  appS c_weirref15_Entry 145 96 z_weirref15_Entry r17 r18 >>= fun r19 =>
  pure r19
theorem weirref15_with.K1_ok (a0 : Sl) (a1 : weirref15_Entry) (b1 : Nat) (s2 : Int) :
    SJ weirref15_with.cx [.code (c2 (c2 (c2 weirref15_with.B)))] [(0, Sl.v a0), (3, .pointer (some (pt b1 0))), (5, .int .i64 s2)] [(b1, c_weirref15_Entry.enc a1)] (weirref15_with.K1 a0 a1 s2) weirref15_with.F0 := by
  unfold weirref15_with.K1
  refine SJ.sr 1 ?_
  refine OJ.go 1 [(6, Sl.v Sl.nil)] ?_
  refine OJ.nil ?_
  refine SJ.sr 6 ?_
  refine OJ.go 3 [(51, .int .i64 s2), (50, Sl.v a0), (49, Sl.v Sl.nil)] ?_
  refine OJ.cut (d := 52) (t := 84) (E := 145) (y := .tmp 50) (lo := none) (hi := (some (.tmp 51))) (mx := none) (lo' := none) (hi' := some (.i64, s2)) (mx' := none) (fun h => by cases h) (fun r14 => ?_)
  refine OJ.appS (d := 53) (t := 84) (u := 84) (so := .tmp 49) (xo := .tmp 52) (owed := []) Ty145 (fun r15 => ?_)
  refine OW.nil ?_
  refine OJ.go 1 [(6, Sl.v r15)] ?_
  refine OJ.nil ?_
  refine SJ.sr 5 ?_
  refine OJ.go 1 [(54, Sl.v r15)] ?_
  refine OJ.kld (d := 55) (y := .tmp 3) (cd := c_weirref15_Entry) (j := 0) (b := b1) (o := 0) a1 (pend2 := []) Ty145 rfl (At.whole _) rfl ?_
  refine OJ.rowSlot (d := 56) (t := 84) (parts := [(0, .tmp 55)]) (ps := [(0, c_weirref15_Entry.val a1)]) (cd := c_weirref15_Entry) (⟨[a1], rfl⟩ : Vec weirref15_Entry 1) (owed := []) Ty145 (Filled.cons (cd := c_weirref15_Entry) (q := a1) (o := 0) rfl (Upd.arr (i := 0) (by decide) (by decide)) Filled.nil) (fun b16 => ?_)
  refine OW.nil ?_
  refine OJ.appl (d := 57) (t := 84) (u := 84) (so := .tmp 54) (xo := .tmp 56) (j := 0) (b := b16) (l := (c_weirref15_Entry.arr 1).enc (⟨[a1], rfl⟩ : Vec weirref15_Entry 1)) (n := 1) (k := 1) [a1] (owed := []) Ty145 (by rfl) (Cod.arr_enc _ _ _) (by rfl) (fun r17 => ?_)
  refine OW.nil ?_
  refine OJ.go 1 [(6, Sl.v r17)] ?_
  refine OJ.nil ?_
  refine SJ.sr 6 ?_
  refine OJ.go 3 [(60, .int .i64 s2), (59, Sl.v a0), (58, Sl.v r17)] ?_
  refine OJ.cut (d := 61) (t := 84) (E := 145) (y := .tmp 59) (lo := (some (.tmp 60))) (hi := none) (mx := none) (lo' := some (.i64, s2)) (hi' := none) (mx' := none) (fun h => by cases h) (fun r18 => ?_)
  refine OJ.appS (d := 62) (t := 84) (u := 84) (so := .tmp 58) (xo := .tmp 61) (owed := []) Ty145 (fun r19 => ?_)
  refine OW.nil ?_
  refine OJ.go 1 [(6, Sl.v r19)] ?_
  refine OJ.nil ?_
  refine SJ.sr 2 ?_
  refine OJ.go 2 [(4, Sl.v r19), (63, Sl.v r19)] ?_
  refine OJ.nil ?_
  exact SJ.ret rfl (Res.run (ys := [Sl.v r19]) (.tmp (by kernel_rfl) .nil) rfl)
noncomputable def weirref15_with.F1 (a0 : Sl) (a1 : weirref15_Entry) (b1 : Nat) : (LS Int Sl) → Reach := loopF [.inLoop (c1 (c1 (c1 (c2 (c2 weirref15_with.B))))), .inBlock 0, .code (c2 (c2 (c2 weirref15_with.B)))] (fun s_ : Int => [(0, Sl.v a0), (3, .pointer (some (pt b1 0))), (5, .int .i64 s_)]) (fun s_ : Int => [(b1, c_weirref15_Entry.enc a1)]) weirref15_with.F0
noncomputable def weirref15_with.L1 (a0 : Sl) (a1 : weirref15_Entry) (s2 : Int) : M (LS Int Sl) :=
  draw >>= fun _ =>
  (if s2 < (a0.len : Int) then
      idx a0.a a0.len s2 29 >>= fun p20 =>
      ld (cI .i64) p20 >>= fun x21 =>
      (if x21 < a1.N.Port then
          pure true
        else
          idx a0.a a0.len s2 29 >>= fun p22 =>
          ld (cI .i64) p22 >>= fun x23 =>
          (if x23 = a1.N.Port then
              idx a0.a a0.len s2 29 >>= fun p24 =>
              ld c_api_IP (Addr.add p24 1) >>= fun x25 =>
              weirref15_Less x25 a1.N.IP >>= fun r26 =>
              pure r26
            else
              pure false) >>= fun y27 =>
          pure y27) >>= fun y28 =>
      pure y28
    else
      pure false) >>= fun y29 =>
  if y29 = true then
    pure (LS.next (IntKind.wrap .i64 (s2 + 1)))
  else
    (weirref15_with.K1 a0 a1 s2) >>= fun b => pure (LS.done b)
theorem weirref15_with.L1_ok (a0 : Sl) (a1 : weirref15_Entry) (b1 : Nat) (s2 : Int) :
    SJ weirref15_with.cx [.code (c1 (c1 (c1 (c2 (c2 weirref15_with.B))))), .inLoop (c1 (c1 (c1 (c2 (c2 weirref15_with.B))))), .inBlock 0, .code (c2 (c2 (c2 weirref15_with.B)))] [(0, Sl.v a0), (3, .pointer (some (pt b1 0))), (5, .int .i64 s2)] [(b1, c_weirref15_Entry.enc a1)] (weirref15_with.L1 a0 a1 s2) (weirref15_with.F1 a0 a1 b1) := by
  unfold weirref15_with.L1
  refine SJ.seq ?_
  refine SJ.seq ?_
  refine SJ.draw (id := 2) (kd := [0, 0, 0, 0, 0, 0, 0, 0, 0, 0, 1, 0, 0, 1, 0, 0, 0, 0, 0, 0, 0, 1, 0, 0, 1, 0, 0, 0, 0, 0, 0, 0, 1, 0, 0, 1, 2, 0, 0, 0]) (bef := [0, 0, 2, 7, 15, 31, 31, 127, 255, 511, 1023, 31, 2079, 6175, 16383, 32767, 65535, 65535, 262143, 524287, 1048575, 2097151, 65535, 4259839, 12648447, 33554431, 67108863, 134217727, 134217727, 536870911, 1073741823, 2147483647, 4294967295, 134217727, 8724152319, 25904021503, 68719476735, 137438953471, 274877906943, 549755813887]) (ord := [0, 1, 2, 3, 4, 5, 6, 7, 8, 9, 10, 11, 12, 13, 14, 15, 16, 17, 18, 19, 20, 21, 22, 23, 24, 25, 26, 27, 28, 29, 30, 31, 32, 33, 34, 35, 36, 37, 38, 39]) mixed ?_
  refine OJ.go 5 [(11, .bool (decide (s2 < (a0.len : Int)))), (10, .bool (decide (s2 < (a0.len : Int)))), (9, .int .i64 (a0.len : Int)), (8, Sl.v a0), (7, .int .i64 s2)] ?_
  refine OJ.join (b := decide (s2 < (a0.len : Int))) [5, 6, 7, 8, 9, 10, 11, 12, 13, 14, 15, 16, 17, 18, 19, 20, 21, 22, 23, 24, 25, 26, 27, 28, 29, 30, 31, 32, 33, 34, 35, 36, 37, 38, 39] [] [0, 3, 5, 46] (fun y29 => [(0, Sl.v a0), (3, .pointer (some (pt b1 0))), (5, .int .i64 s2), (46, .bool y29)]) [⟨35, 32, (pt b1 1), c_api_IP.val a1.N.IP⟩, ⟨24, 3, (pt b1 0), (cI .i64).val a1.N.Port⟩, ⟨13, 3, (pt b1 0), (cI .i64).val a1.N.Port⟩] [10, 21, 32] (t := 11) decide_eq_true_iff (fun hp_ => ?_) (fun hp_ => ?_) (fun _ _ _ _ _ _ h_ => h_) (fun y29 => ?_)
  · refine OJ.go 2 [(13, .int .i64 s2), (12, Sl.v a0)] ?_
    refine OJ.idxS (d := 14) (T := 84) (y := .tmp 12) (j := .tmp 13) (E := 145) (cap := a0.cap) (k := .i64) (fun p20 => ?_)
    refine OJ.go 2 [(16, .pointer (some p20)), (15, .pointer (some p20))] ?_
    refine OJ.ld (d := 17) (y := .tmp 16) (pend2 := fun x21 => [⟨10, 3, p20, (cI .i64).val x21⟩]) Ty3 (fun _ => rfl) (fun x21 => ?_)
    refine OJ.go 2 [(19, .pointer (some (pt b1 0))), (18, .pointer (some (pt b1 0)))] ?_
    refine OJ.kld (d := 20) (y := .tmp 19) (cd := (cI .i64)) (j := 0) (b := b1) (o := 0) a1.N.Port (pend2 := [⟨13, 3, (pt b1 0), (cI .i64).val a1.N.Port⟩, ⟨10, 3, p20, (cI .i64).val x21⟩]) Ty3 rfl (At.trans (At_weirref15_Entry_N a1) (At_api_Neighbour_Port a1.N)) rfl ?_
    refine OJ.go 2 [(22, .bool (decide (x21 < a1.N.Port))), (21, .bool (decide (x21 < a1.N.Port)))] ?_
    refine OJ.join (b := decide (x21 < a1.N.Port)) [16, 17, 18, 19, 20, 21, 22, 23, 24, 25, 26, 27, 28, 29, 30, 31, 32, 33, 34, 35, 36, 37, 38] [39] [0, 3, 5, 11, 45] (fun y28 => [(0, Sl.v a0), (3, .pointer (some (pt b1 0))), (5, .int .i64 s2), (11, .bool true), (45, .bool y28)]) [⟨35, 32, (pt b1 1), c_api_IP.val a1.N.IP⟩, ⟨24, 3, (pt b1 0), (cI .i64).val a1.N.Port⟩, ⟨13, 3, (pt b1 0), (cI .i64).val a1.N.Port⟩, ⟨10, 3, p20, (cI .i64).val x21⟩] [21, 32] (t := 22) decide_eq_true_iff (fun hp_ => ?_) (fun hp_ => ?_) (fun _ _ _ _ _ hq_ h_ => ⟨fun e_ he_ => by rcases hq_ e_ he_ with h | h; exact h_.1 e_ h; exact .inr ((by decide : ∀ i ∈ [21, 32], i ∈ [10, 21, 32]) _ h), h_.2⟩) (fun y28 => ?_)
    · refine OJ.go 23 [(45, .bool true), (44, undef), (43, undef), (42, undef), (41, undef), (40, undef), (39, undef), (38, undef), (37, undef), (36, undef), (35, undef), (34, undef), (33, undef), (32, undef), (31, undef), (30, undef), (29, undef), (28, undef), (27, undef), (26, undef), (25, undef), (24, undef), (23, undef)] ?_
      exact OJ.nil ⟨(Cov.mem (Cov.keep (List.mem_of_getElem? (i := 2) rfl) (Cov.keep (List.mem_of_getElem? (i := 3) rfl) Cov.nil))), rfl, _, rfl, by kernel_rfl⟩
    · refine OJ.go 2 [(24, .int .i64 s2), (23, Sl.v a0)] ?_
      refine OJ.idxS (d := 25) (T := 84) (y := .tmp 23) (j := .tmp 24) (E := 145) (cap := a0.cap) (k := .i64) (fun p22 => ?_)
      refine OJ.go 2 [(27, .pointer (some p22)), (26, .pointer (some p22))] ?_
      refine OJ.ld (d := 28) (y := .tmp 27) (pend2 := fun x23 => [⟨21, 3, p22, (cI .i64).val x23⟩, ⟨13, 3, (pt b1 0), (cI .i64).val a1.N.Port⟩, ⟨10, 3, p20, (cI .i64).val x21⟩]) Ty3 (fun _ => rfl) (fun x23 => ?_)
      refine OJ.go 2 [(30, .pointer (some (pt b1 0))), (29, .pointer (some (pt b1 0)))] ?_
      refine OJ.kld (d := 31) (y := .tmp 30) (cd := (cI .i64)) (j := 0) (b := b1) (o := 0) a1.N.Port (pend2 := [⟨24, 3, (pt b1 0), (cI .i64).val a1.N.Port⟩, ⟨21, 3, p22, (cI .i64).val x23⟩, ⟨13, 3, (pt b1 0), (cI .i64).val a1.N.Port⟩, ⟨10, 3, p20, (cI .i64).val x21⟩]) Ty3 rfl (At.trans (At_weirref15_Entry_N a1) (At_api_Neighbour_Port a1.N)) rfl ?_
      refine OJ.go 2 [(33, .bool (x23 == a1.N.Port)), (32, .bool (x23 == a1.N.Port))] ?_
      refine OJ.join (b := (x23 == a1.N.Port)) [27, 28, 29, 30, 31, 32, 33, 34, 35, 36, 37] [38] [0, 3, 5, 11, 22, 44] (fun y27 => [(0, Sl.v a0), (3, .pointer (some (pt b1 0))), (5, .int .i64 s2), (11, .bool true), (22, .bool false), (44, .bool y27)]) [⟨35, 32, (pt b1 1), c_api_IP.val a1.N.IP⟩, ⟨24, 3, (pt b1 0), (cI .i64).val a1.N.Port⟩, ⟨21, 3, p22, (cI .i64).val x23⟩, ⟨13, 3, (pt b1 0), (cI .i64).val a1.N.Port⟩, ⟨10, 3, p20, (cI .i64).val x21⟩] [32] (t := 33) beq_iff_eq (fun hp_ => ?_) (fun hp_ => ?_) (fun _ _ _ _ _ hq_ h_ => ⟨fun e_ he_ => by rcases hq_ e_ he_ with h | h; exact h_.1 e_ h; exact .inr ((by decide : ∀ i ∈ [32], i ∈ [21, 32]) _ h), h_.2⟩) (fun y27 => ?_)
      · refine OJ.go 2 [(35, .int .i64 s2), (34, Sl.v a0)] ?_
        refine OJ.idxS (d := 36) (T := 84) (y := .tmp 34) (j := .tmp 35) (E := 145) (cap := a0.cap) (k := .i64) (fun p24 => ?_)
        refine OJ.go 2 [(38, .pointer (some (Addr.add p24 1))), (37, .pointer (some p24))] ?_
        refine OJ.ld (d := 39) (y := .tmp 38) (pend2 := fun x25 => [⟨32, 32, (Addr.add p24 1), c_api_IP.val x25⟩, ⟨24, 3, (pt b1 0), (cI .i64).val a1.N.Port⟩, ⟨21, 3, p22, (cI .i64).val x23⟩, ⟨13, 3, (pt b1 0), (cI .i64).val a1.N.Port⟩, ⟨10, 3, p20, (cI .i64).val x21⟩]) Ty32 (fun _ => rfl) (fun x25 => ?_)
        refine OJ.go 2 [(41, .pointer (some (pt b1 1))), (40, .pointer (some (pt b1 0)))] ?_
        refine OJ.kld (d := 42) (y := .tmp 41) (cd := c_api_IP) (j := 0) (b := b1) (o := 1) a1.N.IP (pend2 := [⟨35, 32, (pt b1 1), c_api_IP.val a1.N.IP⟩, ⟨32, 32, (Addr.add p24 1), c_api_IP.val x25⟩, ⟨24, 3, (pt b1 0), (cI .i64).val a1.N.Port⟩, ⟨21, 3, p22, (cI .i64).val x23⟩, ⟨13, 3, (pt b1 0), (cI .i64).val a1.N.Port⟩, ⟨10, 3, p20, (cI .i64).val x21⟩]) Ty32 rfl (At.trans (At_weirref15_Entry_N a1) (At_api_Neighbour_IP a1.N)) rfl ?_
        refine OJ.call (d := 43) (g := 90) (ats := #[32, 32]) (args := [.tmp 39, .tmp 42]) (owed := []) F90 (weirref15_Less_ok x25 a1.N.IP) (fun r26 => ?_)
        refine OW.nil ?_
        refine OJ.go 1 [(44, .bool r26)] ?_
        exact OJ.nil ⟨(Cov.mem (Cov.keep (List.mem_of_getElem? (i := 0) rfl) (Cov.drop (List.mem_of_getElem? (i := 0) rfl) (Cov.keep (List.mem_of_getElem? (i := 1) rfl) (Cov.keep (List.mem_of_getElem? (i := 2) rfl) (Cov.keep (List.mem_of_getElem? (i := 3) rfl) (Cov.keep (List.mem_of_getElem? (i := 4) rfl) Cov.nil))))))), rfl, _, rfl, by kernel_rfl⟩
      · refine OJ.go 11 [(44, .bool false), (43, undef), (42, undef), (41, undef), (40, undef), (39, undef), (38, undef), (37, undef), (36, undef), (35, undef), (34, undef)] ?_
        exact OJ.nil ⟨(Cov.mem (Cov.keep (List.mem_of_getElem? (i := 1) rfl) (Cov.keep (List.mem_of_getElem? (i := 2) rfl) (Cov.keep (List.mem_of_getElem? (i := 3) rfl) (Cov.keep (List.mem_of_getElem? (i := 4) rfl) Cov.nil))))), rfl, _, rfl, by kernel_rfl⟩
      · refine OJ.go 1 [(45, .bool y27)] ?_
        exact OJ.nil ⟨(Cov.mem (Cov.keep (List.mem_of_getElem? (i := 0) rfl) (Cov.keep (List.mem_of_getElem? (i := 1) rfl) (Cov.drop (List.mem_of_getElem? (i := 0) rfl) (Cov.keep (List.mem_of_getElem? (i := 2) rfl) (Cov.keep (List.mem_of_getElem? (i := 3) rfl) Cov.nil)))))), rfl, _, rfl, by kernel_rfl⟩
    · refine OJ.go 1 [(46, .bool y28)] ?_
      exact OJ.nil ⟨(Cov.mem (Cov.keep (List.mem_of_getElem? (i := 0) rfl) (Cov.keep (List.mem_of_getElem? (i := 1) rfl) (Cov.keep (List.mem_of_getElem? (i := 2) rfl) (Cov.drop (List.mem_of_getElem? (i := 0) rfl) Cov.nil))))), rfl, _, rfl, by kernel_rfl⟩
  · refine OJ.go 35 [(46, .bool false), (45, undef), (44, undef), (43, undef), (42, undef), (41, undef), (40, undef), (39, undef), (38, undef), (37, undef), (36, undef), (35, undef), (34, undef), (33, undef), (32, undef), (31, undef), (30, undef), (29, undef), (28, undef), (27, undef), (26, undef), (25, undef), (24, undef), (23, undef), (22, undef), (21, undef), (20, undef), (19, undef), (18, undef), (17, undef), (16, undef), (15, undef), (14, undef), (13, undef), (12, undef)] ?_
    exact OJ.nil ⟨(Cov.mem Cov.nil), rfl, _, rfl, by kernel_rfl⟩
  · refine OJ.nil ?_
    refine SJ.cond (t := (.tmp 46)) (b := y29) Iff.rfl (fun hc30 => ?_) (fun hc30 => ?_)
    · refine SJ.skip ?_
      refine SJ.block (id := 1) ?_
      refine SJ.rg 3 ?_
      refine OJ.go 3 [(5, .int .i64 (IntKind.wrap .i64 (s2 + 1))), (48, .int .i64 (IntKind.wrap .i64 (s2 + 1))), (47, .int .i64 s2)] ?_
      refine OJ.nil ?_
      refine SJ.inBlock ?_
      exact SJ.at_ [0, 3, 5] rfl
    · refine SJ.exit (id := 0) (by rfl) ?_
      refine SJ.less [0, 3, 5] (m' := [(0, Sl.v a0), (3, .pointer (some (pt b1 0))), (5, .int .i64 s2)]) ?_
      refine SJ.done ?_
      exact weirref15_with.K1_ok a0 a1 b1 s2
noncomputable def weirref15_with (a0 : Sl) (a1 : weirref15_Entry) : M Sl :=
  slot 145 >>= fun b1 =>
  loopM (fun s_ : Int => weirref15_with.L1 a0 a1 s_) 0
theorem weirref15_with_ok (a0 : Sl) (a1 : weirref15_Entry) : Ref Try.prog 75 [Sl.v a0, c_weirref15_Entry.val a1] (weirref15_with a0 a1) weirref15_with.out := by
  refine Ref.of (cd := weirref15_with.B) Try.func75 ?_
  show SJ weirref15_with.cx [.code weirref15_with.B] [(0, Sl.v a0), (1, c_weirref15_Entry.val a1)] [] (weirref15_with a0 a1) weirref15_with.F0
  unfold weirref15_with
  refine SJ.sr 2 ?_
  refine OJ.slotOf (d := 3) (op := (.box 145 (.tmp 1))) (cd := c_weirref15_Entry) (u := a1) (owed := []) (box_run (by kernel_rfl)) (fun b1 => ?_)
  refine OW.nil ?_
  refine OJ.go 1 [(4, Sl.v Sl.nil)] ?_
  refine OJ.nil ?_
  refine SJ.sr 1 ?_
  refine OJ.go 1 [(5, .int .i64 0)] ?_
  refine OJ.nil ?_
  refine SJ.seq ?_
  refine SJ.block (id := 0) ?_
  exact SJ.loop (fun s_ : Int => [(0, Sl.v a0), (3, .pointer (some (pt b1 0))), (5, .int .i64 s_)]) (fun s_ : Int => [(b1, c_weirref15_Entry.enc a1)]) [0, 3, 5] rfl (fun _ _ => rfl) (fun s_ => weirref15_with.L1_ok a0 a1 b1 s_)

/-! ### weir/weirref15.put: function 76 -/
noncomputable def weirref15_put.B : Code := (Try.f76.body).getD .skip
noncomputable def weirref15_put.cx : Fx := ⟨Try.prog, 76, Try.f76⟩
noncomputable def weirref15_put.out (r_ : Sl) : Value := Sl.v r_
noncomputable def weirref15_put.F0 (r_ : Sl) : Reach := .ret (weirref15_put.out r_)
noncomputable def weirref15_put (a0 : Sl) (a1 : Int) (a2 : weirref15_Entry) : M Sl :=
  slot 145 >>= fun b1 =>
  appS c_weirref15_Entry 145 96 z_weirref15_Entry Sl.nil a0 >>= fun r2 =>
  idx r2.a r2.len a1 29 >>= fun p3 =>
  st c_weirref15_Entry p3 a2 >>= fun _ =>
  pure r2
theorem weirref15_put_ok (a0 : Sl) (a1 : Int) (a2 : weirref15_Entry) : Ref Try.prog 76 [Sl.v a0, .int .i64 a1, c_weirref15_Entry.val a2] (weirref15_put a0 a1 a2) weirref15_put.out := by
  refine Ref.of (cd := weirref15_put.B) Try.func76 ?_
  show SJ weirref15_put.cx [.code weirref15_put.B] [(0, Sl.v a0), (1, .int .i64 a1), (2, c_weirref15_Entry.val a2)] [] (weirref15_put a0 a1 a2) weirref15_put.F0
  unfold weirref15_put
  refine SJ.sr 2 ?_
  refine OJ.slotOf (d := 5) (op := (.box 145 (.tmp 2))) (cd := c_weirref15_Entry) (u := a2) (owed := []) (box_run (by kernel_rfl)) (fun b1 => ?_)
  refine OW.nil ?_
  refine OJ.go 1 [(6, Sl.v Sl.nil)] ?_
  refine OJ.nil ?_
  refine SJ.sr 1 ?_
  refine OJ.go 1 [(7, Sl.v Sl.nil)] ?_
  refine OJ.nil ?_
  refine SJ.sr 4 ?_
  refine OJ.go 2 [(9, Sl.v a0), (8, Sl.v Sl.nil)] ?_
  refine OJ.appS (d := 10) (t := 84) (u := 84) (so := .tmp 8) (xo := .tmp 9) (owed := []) Ty145 (fun r2 => ?_)
  refine OW.nil ?_
  refine OJ.go 1 [(7, Sl.v r2)] ?_
  refine OJ.nil ?_
  refine SJ.sr 5 ?_
  refine OJ.go 2 [(12, .int .i64 a1), (11, Sl.v r2)] ?_
  refine OJ.kld (d := 13) (y := .tmp 5) (cd := c_weirref15_Entry) (j := 0) (b := b1) (o := 0) a2 (pend2 := []) Ty145 rfl (At.whole _) rfl ?_
  refine OJ.idxS (d := 14) (T := 84) (y := .tmp 11) (j := .tmp 12) (E := 145) (cap := r2.cap) (k := .i64) (fun p3 => ?_)
  refine OJ.st (y := .tmp 14) (z := .tmp 13) (owed := []) Ty145 ?_
  refine OW.nil ?_
  refine OJ.nil ?_
  refine SJ.sr 2 ?_
  refine OJ.go 2 [(6, Sl.v r2), (15, Sl.v r2)] ?_
  refine OJ.nil ?_
  exact SJ.ret rfl (Res.run (ys := [Sl.v r2]) (.tmp (by kernel_rfl) .nil) rfl)

/-! ### weir/weirref15.Want: function 62 -/
noncomputable def weirref15_Want.B : Code := (Try.f62.body).getD .skip
noncomputable def weirref15_Want.cx : Fx := ⟨Try.prog, 62, Try.f62⟩
noncomputable def weirref15_Want.out (r_ : (weirref15_Cache × (Vec Int 6) × Int × Int)) : Value := .tuple #[c_weirref15_Cache.val r_.1, ((cI .u8).arr 6).val r_.2.1, .int .i64 r_.2.2.1, .int .i64 r_.2.2.2]
noncomputable def weirref15_Want.F0 (r_ : (weirref15_Cache × (Vec Int 6) × Int × Int)) : Reach := .ret (weirref15_Want.out r_)
noncomputable def weirref15_Want.K1 (a0 : weirref15_Cache) (a3 : Int) (r9 : Int) (x21 : weirref15_Entry) (j23 : Bool) : M (weirref15_Cache × (Vec Int 6) × Int × Int) :=
  if j23 = true then
    draw >>= fun _ =>
    pure (a0, x21.N.Mac, 1, 0)
  else
    if x21.N.State = 3 then
      weirref15_put a0.L r9 (⟨(⟨x21.N.Port, x21.N.IP, x21.N.Mac, 4, 0, 1, x21.N.Waiting⟩ : api_Neighbour), x21.Items⟩ : weirref15_Entry) >>= fun r28 =>
      draw >>= fun _ =>
      pure ((⟨a0.C, r28⟩ : weirref15_Cache), x21.N.Mac, 2, 0)
    else
      if (x21.Items.len : Int) ≥ a0.C.Line then
        draw >>= fun _ =>
        pure (a0, (⟨[0, 0, 0, 0, 0, 0], rfl⟩ : (Vec Int 6)), 5, 152)
      else
        appS (cI .i64) 3 8 0 Sl.nil x21.Items >>= fun r29 =>
        slot 3 >>= fun b30 =>
        appl (cI .i64) 3 8 0 r29 [a3] >>= fun r31 =>
        weirref15_put a0.L r9 (⟨(⟨x21.N.Port, x21.N.IP, x21.N.Mac, x21.N.State, x21.N.Age, x21.N.Tries, (r31.len : Int)⟩ : api_Neighbour), r31⟩ : weirref15_Entry) >>= fun r32 =>
        draw >>= fun _ =>
        pure ((⟨a0.C, r32⟩ : weirref15_Cache), (⟨[0, 0, 0, 0, 0, 0], rfl⟩ : (Vec Int 6)), 4, 0)
theorem weirref15_Want.K1_ok (a0 : weirref15_Cache) (a3 : Int) (b1 : Nat) (b3 : Nat) (b4 : Nat) (b5 : Nat) (r9 : Int) (x21 : weirref15_Entry) (b22 : Nat) (j23 : Bool) :
    SJ weirref15_Want.cx [.code (c2 (c1 (c2 (c1 (c2 (c2 (c2 (c2 (c2 (c2 (c2 weirref15_Want.B))))))))))), .inBlock 0, .code (c2 (c2 (c2 (c2 (c2 (c2 (c2 (c2 weirref15_Want.B))))))))] [(3, .int .i64 a3), (4, .pointer (some (pt b1 0))), (8, .pointer (some (pt b3 0))), (9, .pointer (some (pt b4 0))), (12, .pointer (some (pt b5 0))), (14, .int .i64 r9), (17, .pointer (some (pt b22 0))), (64, .int .i64 x21.N.State), (65, .bool j23)] [(b22, c_weirref15_Entry.enc x21), (b5, ((cI .u8).arr 6).enc (⟨[0, 0, 0, 0, 0, 0], rfl⟩ : (Vec Int 6))), (b4, ((cI .u8).arr 6).enc (Vec.rep 6 0)), (b3, c_weirref15_Cache.enc z_weirref15_Cache), (b1, c_weirref15_Cache.enc a0)] (weirref15_Want.K1 a0 a3 r9 x21 j23) weirref15_Want.F0 := by
  unfold weirref15_Want.K1
  refine SJ.cond (t := (.tmp 65)) (b := j23) Iff.rfl (fun hc35 => ?_) (fun hc35 => ?_)
  · refine SJ.seq ?_
    refine SJ.draw (id := 16) (kd := [1, 0, 0, 1, 2, 2, 0, 0]) (bef := [0, 0, 2, 6, 1, 31, 63, 127]) (ord := [0, 1, 2, 3, 4, 5, 6, 7]) mixed ?_
    refine OJ.kld (d := 68) (y := .tmp 4) (cd := c_weirref15_Cache) (j := 4) (b := b1) (o := 0) a0 (pend2 := [⟨0, 86, (pt b1 0), c_weirref15_Cache.val a0⟩]) Ty86 rfl (At.whole _) rfl ?_
    refine OJ.go 2 [(70, .pointer (some (pt b22 18))), (69, .pointer (some (pt b22 0)))] ?_
    refine OJ.kld (d := 71) (y := .tmp 70) (cd := ((cI .u8).arr 6)) (j := 0) (b := b22) (o := 18) x21.N.Mac (pend2 := [⟨3, 34, (pt b22 18), ((cI .u8).arr 6).val x21.N.Mac⟩, ⟨0, 86, (pt b1 0), c_weirref15_Cache.val a0⟩]) Ty34 rfl (At.trans (At_weirref15_Entry_N x21) (At_api_Neighbour_Mac x21.N)) rfl ?_
    refine OJ.kst (y := .tmp 8) (z := .tmp 68) (cd := c_weirref15_Cache) (u := a0) (j := 3) (b := b3) (o := 0) (c_weirref15_Cache.enc a0) (owed := [⟨3, 34, (pt b22 18), ((cI .u8).arr 6).val x21.N.Mac⟩]) Ty86 rfl (Upd.whole ((Cod.len _ _).trans (Cod.len _ _).symm)) rfl ?_
    refine OW.known (j := 0) (q := x21.N.Mac) Ty34 rfl (At.trans (At_weirref15_Entry_N x21) (At_api_Neighbour_Mac x21.N)) ?_
    refine OW.nil ?_
    refine OJ.kst (y := .tmp 9) (z := .tmp 71) (cd := ((cI .u8).arr 6)) (u := x21.N.Mac) (j := 2) (b := b4) (o := 0) (((cI .u8).arr 6).enc x21.N.Mac) (owed := []) Ty34 rfl (Upd.whole ((Cod.len _ _).trans (Cod.len _ _).symm)) rfl ?_
    refine OW.nil ?_
    refine OJ.go 2 [(11, .int .i64 0), (10, .int .i64 1)] ?_
    refine OJ.nil ?_
    exact SJ.ret rfl (Res.run (ys := [c_weirref15_Cache.val a0, ((cI .u8).arr 6).val x21.N.Mac, .int .i64 1, .int .i64 0]) (.cell (j := 3) (b := b3) (cd := c_weirref15_Cache) (q := a0) (by kernel_rfl) rfl Ty86 (At.whole _) (.cell (j := 2) (b := b4) (cd := ((cI .u8).arr 6)) (q := x21.N.Mac) (by kernel_rfl) rfl Ty34 (At.whole _) (.tmp (by kernel_rfl) (.tmp (by kernel_rfl) .nil)))) rfl)
  · refine SJ.sr 2 ?_
    refine OJ.go 2 [(72, .bool (x21.N.State == 3)), (73, .bool (x21.N.State == 3))] ?_
    refine OJ.nil ?_
    refine SJ.cond (t := (.tmp 72)) (b := (x21.N.State == 3)) beq_iff_eq (fun hc34 => ?_) (fun hc34 => ?_)
    · refine SJ.sr 3 ?_
      refine OJ.go 2 [(75, .pointer (some (pt b22 24))), (74, .pointer (some (pt b22 0)))] ?_
      refine OJ.kst (y := .tmp 75) (z := .const (.int .i64 4)) (cd := (cI .i64)) (u := 4) (j := 0) (b := b22) (o := 24) (c_weirref15_Entry.enc (⟨(⟨x21.N.Port, x21.N.IP, x21.N.Mac, 4, x21.N.Age, x21.N.Tries, x21.N.Waiting⟩ : api_Neighbour), x21.Items⟩ : weirref15_Entry)) (owed := []) Ty3 rfl (Upd.trans (At_weirref15_Entry_N x21) (Up_api_Neighbour_State x21.N 4) (Up_weirref15_Entry_N x21 (⟨x21.N.Port, x21.N.IP, x21.N.Mac, 4, x21.N.Age, x21.N.Tries, x21.N.Waiting⟩ : api_Neighbour))) rfl ?_
      refine OW.nil ?_
      refine OJ.nil ?_
      refine SJ.sr 3 ?_
      refine OJ.go 2 [(77, .pointer (some (pt b22 25))), (76, .pointer (some (pt b22 0)))] ?_
      refine OJ.kst (y := .tmp 77) (z := .const (.int .i64 0)) (cd := (cI .i64)) (u := 0) (j := 0) (b := b22) (o := 25) (c_weirref15_Entry.enc (⟨(⟨x21.N.Port, x21.N.IP, x21.N.Mac, 4, 0, x21.N.Tries, x21.N.Waiting⟩ : api_Neighbour), x21.Items⟩ : weirref15_Entry)) (owed := []) Ty3 rfl (Upd.trans (At_weirref15_Entry_N (⟨(⟨x21.N.Port, x21.N.IP, x21.N.Mac, 4, x21.N.Age, x21.N.Tries, x21.N.Waiting⟩ : api_Neighbour), x21.Items⟩ : weirref15_Entry)) (Up_api_Neighbour_Age (⟨x21.N.Port, x21.N.IP, x21.N.Mac, 4, x21.N.Age, x21.N.Tries, x21.N.Waiting⟩ : api_Neighbour) 0) (Up_weirref15_Entry_N (⟨(⟨x21.N.Port, x21.N.IP, x21.N.Mac, 4, x21.N.Age, x21.N.Tries, x21.N.Waiting⟩ : api_Neighbour), x21.Items⟩ : weirref15_Entry) (⟨x21.N.Port, x21.N.IP, x21.N.Mac, 4, 0, x21.N.Tries, x21.N.Waiting⟩ : api_Neighbour))) rfl ?_
      refine OW.nil ?_
      refine OJ.nil ?_
      refine SJ.sr 3 ?_
      refine OJ.go 2 [(79, .pointer (some (pt b22 26))), (78, .pointer (some (pt b22 0)))] ?_
      refine OJ.kst (y := .tmp 79) (z := .const (.int .i64 1)) (cd := (cI .i64)) (u := 1) (j := 0) (b := b22) (o := 26) (c_weirref15_Entry.enc (⟨(⟨x21.N.Port, x21.N.IP, x21.N.Mac, 4, 0, 1, x21.N.Waiting⟩ : api_Neighbour), x21.Items⟩ : weirref15_Entry)) (owed := []) Ty3 rfl (Upd.trans (At_weirref15_Entry_N (⟨(⟨x21.N.Port, x21.N.IP, x21.N.Mac, 4, 0, x21.N.Tries, x21.N.Waiting⟩ : api_Neighbour), x21.Items⟩ : weirref15_Entry)) (Up_api_Neighbour_Tries (⟨x21.N.Port, x21.N.IP, x21.N.Mac, 4, 0, x21.N.Tries, x21.N.Waiting⟩ : api_Neighbour) 1) (Up_weirref15_Entry_N (⟨(⟨x21.N.Port, x21.N.IP, x21.N.Mac, 4, 0, x21.N.Tries, x21.N.Waiting⟩ : api_Neighbour), x21.Items⟩ : weirref15_Entry) (⟨x21.N.Port, x21.N.IP, x21.N.Mac, 4, 0, 1, x21.N.Waiting⟩ : api_Neighbour))) rfl ?_
      refine OW.nil ?_
      refine OJ.nil ?_
      refine SJ.sr 7 ?_
      refine OJ.go 1 [(80, .pointer (some (pt b1 5)))] ?_
      refine OJ.kld (d := 81) (y := .tmp 80) (cd := cL) (j := 4) (b := b1) (o := 5) a0.L (pend2 := []) Ty84 rfl (At_weirref15_Cache_L a0) rfl ?_
      refine OJ.go 1 [(82, .int .i64 r9)] ?_
      refine OJ.kld (d := 83) (y := .tmp 17) (cd := c_weirref15_Entry) (j := 0) (b := b22) (o := 0) (⟨(⟨x21.N.Port, x21.N.IP, x21.N.Mac, 4, 0, 1, x21.N.Waiting⟩ : api_Neighbour), x21.Items⟩ : weirref15_Entry) (pend2 := []) Ty145 rfl (At.whole _) rfl ?_
      refine OJ.call (d := 84) (g := 76) (ats := #[84, 3, 145]) (args := [.tmp 81, .tmp 82, .tmp 83]) (owed := []) F76 (weirref15_put_ok a0.L r9 (⟨(⟨x21.N.Port, x21.N.IP, x21.N.Mac, 4, 0, 1, x21.N.Waiting⟩ : api_Neighbour), x21.Items⟩ : weirref15_Entry)) (fun r28 => ?_)
      refine OW.nil ?_
      refine OJ.go 1 [(85, .pointer (some (pt b1 5)))] ?_
      refine OJ.kst (y := .tmp 85) (z := .tmp 84) (cd := cL) (u := r28) (j := 4) (b := b1) (o := 5) (c_weirref15_Cache.enc (⟨a0.C, r28⟩ : weirref15_Cache)) (owed := []) Ty84 rfl (Up_weirref15_Cache_L a0 r28) rfl ?_
      refine OW.nil ?_
      refine OJ.nil ?_
      refine SJ.seq ?_
      refine SJ.draw (id := 22) (kd := [1, 0, 0, 1, 2, 2, 0, 0]) (bef := [0, 0, 2, 6, 1, 31, 63, 127]) (ord := [0, 1, 2, 3, 4, 5, 6, 7]) mixed ?_
      refine OJ.kld (d := 86) (y := .tmp 4) (cd := c_weirref15_Cache) (j := 4) (b := b1) (o := 0) (⟨a0.C, r28⟩ : weirref15_Cache) (pend2 := [⟨0, 86, (pt b1 0), c_weirref15_Cache.val (⟨a0.C, r28⟩ : weirref15_Cache)⟩]) Ty86 rfl (At.whole _) rfl ?_
      refine OJ.go 2 [(88, .pointer (some (pt b22 18))), (87, .pointer (some (pt b22 0)))] ?_
      refine OJ.kld (d := 89) (y := .tmp 88) (cd := ((cI .u8).arr 6)) (j := 0) (b := b22) (o := 18) x21.N.Mac (pend2 := [⟨3, 34, (pt b22 18), ((cI .u8).arr 6).val x21.N.Mac⟩, ⟨0, 86, (pt b1 0), c_weirref15_Cache.val (⟨a0.C, r28⟩ : weirref15_Cache)⟩]) Ty34 rfl (At.trans (At_weirref15_Entry_N (⟨(⟨x21.N.Port, x21.N.IP, x21.N.Mac, 4, 0, 1, x21.N.Waiting⟩ : api_Neighbour), x21.Items⟩ : weirref15_Entry)) (At_api_Neighbour_Mac (⟨x21.N.Port, x21.N.IP, x21.N.Mac, 4, 0, 1, x21.N.Waiting⟩ : api_Neighbour))) rfl ?_
      refine OJ.kst (y := .tmp 8) (z := .tmp 86) (cd := c_weirref15_Cache) (u := (⟨a0.C, r28⟩ : weirref15_Cache)) (j := 3) (b := b3) (o := 0) (c_weirref15_Cache.enc (⟨a0.C, r28⟩ : weirref15_Cache)) (owed := [⟨3, 34, (pt b22 18), ((cI .u8).arr 6).val x21.N.Mac⟩]) Ty86 rfl (Upd.whole ((Cod.len _ _).trans (Cod.len _ _).symm)) rfl ?_
      refine OW.known (j := 0) (q := x21.N.Mac) Ty34 rfl (At.trans (At_weirref15_Entry_N (⟨(⟨x21.N.Port, x21.N.IP, x21.N.Mac, 4, 0, 1, x21.N.Waiting⟩ : api_Neighbour), x21.Items⟩ : weirref15_Entry)) (At_api_Neighbour_Mac (⟨x21.N.Port, x21.N.IP, x21.N.Mac, 4, 0, 1, x21.N.Waiting⟩ : api_Neighbour))) ?_
      refine OW.nil ?_
      refine OJ.kst (y := .tmp 9) (z := .tmp 89) (cd := ((cI .u8).arr 6)) (u := x21.N.Mac) (j := 2) (b := b4) (o := 0) (((cI .u8).arr 6).enc x21.N.Mac) (owed := []) Ty34 rfl (Upd.whole ((Cod.len _ _).trans (Cod.len _ _).symm)) rfl ?_
      refine OW.nil ?_
      refine OJ.go 2 [(11, .int .i64 0), (10, .int .i64 2)] ?_
      refine OJ.nil ?_
      exact SJ.ret rfl (Res.run (ys := [c_weirref15_Cache.val (⟨a0.C, r28⟩ : weirref15_Cache), ((cI .u8).arr 6).val x21.N.Mac, .int .i64 2, .int .i64 0]) (.cell (j := 3) (b := b3) (cd := c_weirref15_Cache) (q := (⟨a0.C, r28⟩ : weirref15_Cache)) (by kernel_rfl) rfl Ty86 (At.whole _) (.cell (j := 2) (b := b4) (cd := ((cI .u8).arr 6)) (q := x21.N.Mac) (by kernel_rfl) rfl Ty34 (At.whole _) (.tmp (by kernel_rfl) (.tmp (by kernel_rfl) .nil)))) rfl)
    · refine SJ.skip ?_
      refine SJ.inBlock ?_
      refine SJ.seq ?_
      refine SJ.sr 7 ?_
      refine OJ.go 1 [(90, .pointer (some (pt b22 28)))] ?_
      refine OJ.kld (d := 91) (y := .tmp 90) (cd := cL) (j := 0) (b := b22) (o := 28) x21.Items (pend2 := []) Ty43 rfl (At_weirref15_Entry_Items x21) rfl ?_
      refine OJ.go 3 [(94, .pointer (some (pt b1 1))), (93, .pointer (some (pt b1 0))), (92, .int .i64 (x21.Items.len : Int))] ?_
      refine OJ.kld (d := 95) (y := .tmp 94) (cd := (cI .i64)) (j := 4) (b := b1) (o := 1) a0.C.Line (pend2 := []) Ty3 rfl (At.trans (At_weirref15_Cache_C a0) (At_api_NeighConfig_Line a0.C)) rfl ?_
      refine OJ.go 1 [(96, .bool (decide ((x21.Items.len : Int) ≥ a0.C.Line)))] ?_
      refine OJ.nil ?_
      refine SJ.cond (t := (.tmp 96)) (b := decide ((x21.Items.len : Int) ≥ a0.C.Line)) decide_eq_true_iff (fun hc33 => ?_) (fun hc33 => ?_)
      · refine SJ.seq ?_
        refine SJ.draw (id := 24) (kd := [1, 1, 2, 2, 0, 0]) (bef := [0, 0, 1, 7, 15, 31]) (ord := [0, 1, 2, 3, 4, 5]) mixed ?_
        refine OJ.kld (d := 97) (y := .tmp 4) (cd := c_weirref15_Cache) (j := 4) (b := b1) (o := 0) a0 (pend2 := [⟨0, 86, (pt b1 0), c_weirref15_Cache.val a0⟩]) Ty86 rfl (At.whole _) rfl ?_
        refine OJ.kld (d := 98) (y := .tmp 12) (cd := ((cI .u8).arr 6)) (j := 1) (b := b5) (o := 0) (⟨[0, 0, 0, 0, 0, 0], rfl⟩ : (Vec Int 6)) (pend2 := [⟨1, 34, (pt b5 0), ((cI .u8).arr 6).val (⟨[0, 0, 0, 0, 0, 0], rfl⟩ : (Vec Int 6))⟩, ⟨0, 86, (pt b1 0), c_weirref15_Cache.val a0⟩]) Ty34 rfl (At.whole _) rfl ?_
        refine OJ.kst (y := .tmp 8) (z := .tmp 97) (cd := c_weirref15_Cache) (u := a0) (j := 3) (b := b3) (o := 0) (c_weirref15_Cache.enc a0) (owed := [⟨1, 34, (pt b5 0), ((cI .u8).arr 6).val (⟨[0, 0, 0, 0, 0, 0], rfl⟩ : (Vec Int 6))⟩]) Ty86 rfl (Upd.whole ((Cod.len _ _).trans (Cod.len _ _).symm)) rfl ?_
        refine OW.known (j := 1) (q := (⟨[0, 0, 0, 0, 0, 0], rfl⟩ : (Vec Int 6))) Ty34 rfl (At.whole _) ?_
        refine OW.nil ?_
        refine OJ.kst (y := .tmp 9) (z := .tmp 98) (cd := ((cI .u8).arr 6)) (u := (⟨[0, 0, 0, 0, 0, 0], rfl⟩ : (Vec Int 6))) (j := 2) (b := b4) (o := 0) (((cI .u8).arr 6).enc (⟨[0, 0, 0, 0, 0, 0], rfl⟩ : (Vec Int 6))) (owed := []) Ty34 rfl (Upd.whole ((Cod.len _ _).trans (Cod.len _ _).symm)) rfl ?_
        refine OW.nil ?_
        refine OJ.go 2 [(11, .int .i64 152), (10, .int .i64 5)] ?_
        refine OJ.nil ?_
        exact SJ.ret rfl (Res.run (ys := [c_weirref15_Cache.val a0, ((cI .u8).arr 6).val (⟨[0, 0, 0, 0, 0, 0], rfl⟩ : (Vec Int 6)), .int .i64 5, .int .i64 152]) (.cell (j := 3) (b := b3) (cd := c_weirref15_Cache) (q := a0) (by kernel_rfl) rfl Ty86 (At.whole _) (.cell (j := 2) (b := b4) (cd := ((cI .u8).arr 6)) (q := (⟨[0, 0, 0, 0, 0, 0], rfl⟩ : (Vec Int 6))) (by kernel_rfl) rfl Ty34 (At.whole _) (.tmp (by kernel_rfl) (.tmp (by kernel_rfl) .nil)))) rfl)
      · refine SJ.skip ?_
        refine SJ.sr 1 ?_
        refine OJ.go 1 [(18, Sl.v Sl.nil)] ?_
        refine OJ.nil ?_
        refine SJ.sr 5 ?_
        refine OJ.go 2 [(100, .pointer (some (pt b22 28))), (99, Sl.v Sl.nil)] ?_
        refine OJ.kld (d := 101) (y := .tmp 100) (cd := cL) (j := 0) (b := b22) (o := 28) x21.Items (pend2 := []) Ty43 rfl (At_weirref15_Entry_Items x21) rfl ?_
        refine OJ.appS (d := 102) (t := 43) (u := 43) (so := .tmp 99) (xo := .tmp 101) (owed := []) Ty3 (fun r29 => ?_)
        refine OW.nil ?_
        refine OJ.go 1 [(18, Sl.v r29)] ?_
        refine OJ.nil ?_
        refine SJ.sr 5 ?_
        refine OJ.go 2 [(104, .int .i64 a3), (103, Sl.v r29)] ?_
        refine OJ.rowSlot (d := 105) (t := 43) (parts := [(0, .tmp 104)]) (ps := [(0, (cI .i64).val a3)]) (cd := (cI .i64)) (⟨[a3], rfl⟩ : Vec Int 1) (owed := []) Ty3 (Filled.cons (cd := (cI .i64)) (q := a3) (o := 0) rfl (Upd.arr (i := 0) (by decide) (by decide)) Filled.nil) (fun b30 => ?_)
        refine OW.nil ?_
        refine OJ.appl (d := 106) (t := 43) (u := 43) (so := .tmp 103) (xo := .tmp 105) (j := 0) (b := b30) (l := ((cI .i64).arr 1).enc (⟨[a3], rfl⟩ : Vec Int 1)) (n := 1) (k := 1) [a3] (owed := []) Ty3 (by rfl) (Cod.arr_enc _ _ _) (by rfl) (fun r31 => ?_)
        refine OW.nil ?_
        refine OJ.go 1 [(18, Sl.v r31)] ?_
        refine OJ.nil ?_
        refine SJ.sr 3 ?_
        refine OJ.go 2 [(108, .pointer (some (pt b22 28))), (107, Sl.v r31)] ?_
        refine OJ.kst (y := .tmp 108) (z := .tmp 107) (cd := cL) (u := r31) (j := 1) (b := b22) (o := 28) (c_weirref15_Entry.enc (⟨x21.N, r31⟩ : weirref15_Entry)) (owed := []) Ty43 rfl (Up_weirref15_Entry_Items x21 r31) rfl ?_
        refine OW.nil ?_
        refine OJ.nil ?_
        refine SJ.sr 5 ?_
        refine OJ.go 4 [(112, .pointer (some (pt b22 27))), (111, .pointer (some (pt b22 0))), (110, .int .i64 (r31.len : Int)), (109, Sl.v r31)] ?_
        refine OJ.kst (y := .tmp 112) (z := .tmp 110) (cd := (cI .i64)) (u := (r31.len : Int)) (j := 1) (b := b22) (o := 27) (c_weirref15_Entry.enc (⟨(⟨x21.N.Port, x21.N.IP, x21.N.Mac, x21.N.State, x21.N.Age, x21.N.Tries, (r31.len : Int)⟩ : api_Neighbour), r31⟩ : weirref15_Entry)) (owed := []) Ty3 rfl (Upd.trans (At_weirref15_Entry_N (⟨x21.N, r31⟩ : weirref15_Entry)) (Up_api_Neighbour_Waiting x21.N (r31.len : Int)) (Up_weirref15_Entry_N (⟨x21.N, r31⟩ : weirref15_Entry) (⟨x21.N.Port, x21.N.IP, x21.N.Mac, x21.N.State, x21.N.Age, x21.N.Tries, (r31.len : Int)⟩ : api_Neighbour))) rfl ?_
        refine OW.nil ?_
        refine OJ.nil ?_
        refine SJ.sr 7 ?_
        refine OJ.go 1 [(113, .pointer (some (pt b1 5)))] ?_
        refine OJ.kld (d := 114) (y := .tmp 113) (cd := cL) (j := 5) (b := b1) (o := 5) a0.L (pend2 := []) Ty84 rfl (At_weirref15_Cache_L a0) rfl ?_
        refine OJ.go 1 [(115, .int .i64 r9)] ?_
        refine OJ.kld (d := 116) (y := .tmp 17) (cd := c_weirref15_Entry) (j := 1) (b := b22) (o := 0) (⟨(⟨x21.N.Port, x21.N.IP, x21.N.Mac, x21.N.State, x21.N.Age, x21.N.Tries, (r31.len : Int)⟩ : api_Neighbour), r31⟩ : weirref15_Entry) (pend2 := []) Ty145 rfl (At.whole _) rfl ?_
        refine OJ.call (d := 117) (g := 76) (ats := #[84, 3, 145]) (args := [.tmp 114, .tmp 115, .tmp 116]) (owed := []) F76 (weirref15_put_ok a0.L r9 (⟨(⟨x21.N.Port, x21.N.IP, x21.N.Mac, x21.N.State, x21.N.Age, x21.N.Tries, (r31.len : Int)⟩ : api_Neighbour), r31⟩ : weirref15_Entry)) (fun r32 => ?_)
        refine OW.nil ?_
        refine OJ.go 1 [(118, .pointer (some (pt b1 5)))] ?_
        refine OJ.kst (y := .tmp 118) (z := .tmp 117) (cd := cL) (u := r32) (j := 5) (b := b1) (o := 5) (c_weirref15_Cache.enc (⟨a0.C, r32⟩ : weirref15_Cache)) (owed := []) Ty84 rfl (Up_weirref15_Cache_L a0 r32) rfl ?_
        refine OW.nil ?_
        refine OJ.nil ?_
        refine SJ.seq ?_
        refine SJ.draw (id := 31) (kd := [1, 1, 2, 2, 0, 0]) (bef := [0, 0, 1, 7, 15, 31]) (ord := [0, 1, 2, 3, 4, 5]) mixed ?_
        refine OJ.kld (d := 119) (y := .tmp 4) (cd := c_weirref15_Cache) (j := 5) (b := b1) (o := 0) (⟨a0.C, r32⟩ : weirref15_Cache) (pend2 := [⟨0, 86, (pt b1 0), c_weirref15_Cache.val (⟨a0.C, r32⟩ : weirref15_Cache)⟩]) Ty86 rfl (At.whole _) rfl ?_
        refine OJ.kld (d := 120) (y := .tmp 12) (cd := ((cI .u8).arr 6)) (j := 2) (b := b5) (o := 0) (⟨[0, 0, 0, 0, 0, 0], rfl⟩ : (Vec Int 6)) (pend2 := [⟨1, 34, (pt b5 0), ((cI .u8).arr 6).val (⟨[0, 0, 0, 0, 0, 0], rfl⟩ : (Vec Int 6))⟩, ⟨0, 86, (pt b1 0), c_weirref15_Cache.val (⟨a0.C, r32⟩ : weirref15_Cache)⟩]) Ty34 rfl (At.whole _) rfl ?_
        refine OJ.kst (y := .tmp 8) (z := .tmp 119) (cd := c_weirref15_Cache) (u := (⟨a0.C, r32⟩ : weirref15_Cache)) (j := 4) (b := b3) (o := 0) (c_weirref15_Cache.enc (⟨a0.C, r32⟩ : weirref15_Cache)) (owed := [⟨1, 34, (pt b5 0), ((cI .u8).arr 6).val (⟨[0, 0, 0, 0, 0, 0], rfl⟩ : (Vec Int 6))⟩]) Ty86 rfl (Upd.whole ((Cod.len _ _).trans (Cod.len _ _).symm)) rfl ?_
        refine OW.known (j := 2) (q := (⟨[0, 0, 0, 0, 0, 0], rfl⟩ : (Vec Int 6))) Ty34 rfl (At.whole _) ?_
        refine OW.nil ?_
        refine OJ.kst (y := .tmp 9) (z := .tmp 120) (cd := ((cI .u8).arr 6)) (u := (⟨[0, 0, 0, 0, 0, 0], rfl⟩ : (Vec Int 6))) (j := 3) (b := b4) (o := 0) (((cI .u8).arr 6).enc (⟨[0, 0, 0, 0, 0, 0], rfl⟩ : (Vec Int 6))) (owed := []) Ty34 rfl (Upd.whole ((Cod.len _ _).trans (Cod.len _ _).symm)) rfl ?_
        refine OW.nil ?_
        refine OJ.go 2 [(11, .int .i64 0), (10, .int .i64 4)] ?_
        refine OJ.nil ?_
        exact SJ.ret rfl (Res.run (ys := [c_weirref15_Cache.val (⟨a0.C, r32⟩ : weirref15_Cache), ((cI .u8).arr 6).val (⟨[0, 0, 0, 0, 0, 0], rfl⟩ : (Vec Int 6)), .int .i64 4, .int .i64 0]) (.cell (j := 4) (b := b3) (cd := c_weirref15_Cache) (q := (⟨a0.C, r32⟩ : weirref15_Cache)) (by kernel_rfl) rfl Ty86 (At.whole _) (.cell (j := 3) (b := b4) (cd := ((cI .u8).arr 6)) (q := (⟨[0, 0, 0, 0, 0, 0], rfl⟩ : (Vec Int 6))) (by kernel_rfl) rfl Ty34 (At.whole _) (.tmp (by kernel_rfl) (.tmp (by kernel_rfl) .nil)))) rfl)
noncomputable def weirref15_Want (a0 : weirref15_Cache) (a1 : Int) (a2 : api_IP) (a3 : Int) : M (weirref15_Cache × (Vec Int 6) × Int × Int) :=
  slot 86 >>= fun b1 =>
  slot 32 >>= fun b2 =>
  slot 86 >>= fun b3 =>
  slot 34 >>= fun b4 =>
  slot 34 >>= fun b5 =>
  weirref15_address a2 >>= fun r6 =>
  (if ¬ (r6 = true) then
      pure true
    else
      weirref15_out a1 0 7 >>= fun r7 =>
      pure r7) >>= fun y8 =>
  if y8 = true then
    draw >>= fun _ =>
    pure (a0, (⟨[0, 0, 0, 0, 0, 0], rfl⟩ : (Vec Int 6)), 5, 1)
  else
    weirref15_find a0 a1 a2 >>= fun r9 =>
    if r9 < 0 then
      weirref15_room a0 >>= fun r15 =>
      slot 86 >>= fun b16 =>
      if ¬ (r15.2 = true) then
        draw >>= fun _ =>
        pure (a0, (⟨[0, 0, 0, 0, 0, 0], rfl⟩ : (Vec Int 6)), 5, 151)
      else
        newv 3 ((cI .i64).arr 1) (⟨[a3], rfl⟩ : Vec Int 1) >>= fun b17 =>
        weirref15_with r15.1.L (⟨(⟨a1, a2, z_api_Neighbour.Mac, 1, z_api_Neighbour.Age, 1, 1⟩ : api_Neighbour), (⟨some (pt b17 0), 1, 1⟩ : Sl)⟩ : weirref15_Entry) >>= fun r18 =>
        draw >>= fun _ =>
        pure ((⟨r15.1.C, r18⟩ : weirref15_Cache), (⟨[0, 0, 0, 0, 0, 0], rfl⟩ : (Vec Int 6)), 3, 0)
    else
      idx a0.L.a a0.L.len r9 29 >>= fun p20 =>
      ld c_weirref15_Entry p20 >>= fun x21 =>
      slot 145 >>= fun b22 =>
      if x21.N.State = 2 then
        weirref15_Want.K1 a0 a3 r9 x21 (x21.N.State == 2)
      else
        weirref15_Want.K1 a0 a3 r9 x21 (x21.N.State == 4)
theorem weirref15_Want_ok (a0 : weirref15_Cache) (a1 : Int) (a2 : api_IP) (a3 : Int) : Ref Try.prog 62 [c_weirref15_Cache.val a0, .int .i64 a1, c_api_IP.val a2, .int .i64 a3] (weirref15_Want a0 a1 a2 a3) weirref15_Want.out := by
  refine Ref.of (cd := weirref15_Want.B) Try.func62 ?_
  show SJ weirref15_Want.cx [.code weirref15_Want.B] [(0, c_weirref15_Cache.val a0), (1, .int .i64 a1), (2, c_api_IP.val a2), (3, .int .i64 a3)] [] (weirref15_Want a0 a1 a2 a3) weirref15_Want.F0
  unfold weirref15_Want
  refine SJ.sr 6 ?_
  refine OJ.slotOf (d := 4) (op := (.box 86 (.tmp 0))) (cd := c_weirref15_Cache) (u := a0) (owed := []) (box_run (by kernel_rfl)) (fun b1 => ?_)
  refine OW.nil ?_
  refine OJ.slotOf (d := 6) (op := (.box 32 (.tmp 2))) (cd := c_api_IP) (u := a2) (owed := []) (box_run (by kernel_rfl)) (fun b2 => ?_)
  refine OW.nil ?_
  refine OJ.slotOf (d := 8) (op := (.alloc 86)) (cd := c_weirref15_Cache) (u := z_weirref15_Cache) (owed := []) (alloc_run Ty86) (fun b3 => ?_)
  refine OW.nil ?_
  refine OJ.slotOf (d := 9) (op := (.alloc 34)) (cd := ((cI .u8).arr 6)) (u := (Vec.rep 6 0)) (owed := []) (alloc_run Ty34) (fun b4 => ?_)
  refine OW.nil ?_
  refine OJ.go 2 [(11, .int .i64 0), (10, .int .i64 0)] ?_
  refine OJ.nil ?_
  refine SJ.sr 3 ?_
  refine OJ.build (d := 19) (T := 34) (parts := []) (ps := []) (cd := ((cI .u8).arr 6)) (z0 := (Vec.rep 6 0)) (⟨[0, 0, 0, 0, 0, 0], rfl⟩ : (Vec Int 6)) Ty34 rfl Filled.nil ?_
  refine OJ.slotOf (d := 12) (op := (.alloc 34)) (cd := ((cI .u8).arr 6)) (u := (Vec.rep 6 0)) (owed := []) (alloc_run Ty34) (fun b5 => ?_)
  refine OW.nil ?_
  refine OJ.kst (y := .tmp 12) (z := .tmp 19) (cd := ((cI .u8).arr 6)) (u := (⟨[0, 0, 0, 0, 0, 0], rfl⟩ : (Vec Int 6))) (j := 0) (b := b5) (o := 0) (((cI .u8).arr 6).enc (⟨[0, 0, 0, 0, 0, 0], rfl⟩ : (Vec Int 6))) (owed := []) Ty34 rfl (Upd.whole ((Cod.len _ _).trans (Cod.len _ _).symm)) rfl ?_
  refine OW.nil ?_
  refine OJ.nil ?_
  refine SJ.sr 3 ?_
  refine OJ.kld (d := 20) (y := .tmp 6) (cd := c_api_IP) (j := 3) (b := b2) (o := 0) a2 (pend2 := []) Ty32 rfl (At.whole _) rfl ?_
  refine OJ.call (d := 21) (g := 72) (ats := #[32]) (args := [.tmp 20]) (owed := []) F72 (weirref15_address_ok a2) (fun r6 => ?_)
  refine OW.nil ?_
  refine OJ.go 1 [(13, .bool r6)] ?_
  refine OJ.nil ?_
  refine SJ.seq ?_
  refine SJ.sr 6 ?_
  refine OJ.go 3 [(24, .bool (!r6)), (23, .bool (!r6)), (22, .bool r6)] ?_
  refine OJ.join (b := (!r6)) [3, 4, 5] [] [1, 3, 4, 6, 8, 9, 12, 27] (fun y8 => [(1, .int .i64 a1), (3, .int .i64 a3), (4, .pointer (some (pt b1 0))), (6, .pointer (some (pt b2 0))), (8, .pointer (some (pt b3 0))), (9, .pointer (some (pt b4 0))), (12, .pointer (some (pt b5 0))), (27, .bool y8)]) [] [] (t := 24) (bnot_iff Iff.rfl) (fun hp_ => ?_) (fun hp_ => ?_) (fun _ _ _ _ _ _ h_ => h_) (fun y8 => ?_)
  · refine OJ.go 3 [(27, .bool true), (26, undef), (25, undef)] ?_
    exact OJ.nil ⟨(Cov.mem Cov.nil), rfl, _, rfl, by kernel_rfl⟩
  · refine OJ.go 1 [(25, .int .i64 a1)] ?_
    refine OJ.call (d := 26) (g := 68) (ats := #[3, 3, 3]) (args := [.tmp 25, .const (.int .i64 0), .const (.int .i64 7)]) (owed := []) F68 (weirref15_out_ok a1 0 7) (fun r7 => ?_)
    refine OW.nil ?_
    refine OJ.go 1 [(27, .bool r7)] ?_
    exact OJ.nil ⟨(Cov.mem Cov.nil), rfl, _, rfl, by kernel_rfl⟩
  · refine OJ.nil ?_
    refine SJ.cond (t := (.tmp 27)) (b := y8) Iff.rfl (fun hc38 => ?_) (fun hc38 => ?_)
    · refine SJ.seq ?_
      refine SJ.draw (id := 4) (kd := [1, 1, 2, 2, 0, 0]) (bef := [0, 0, 1, 7, 15, 31]) (ord := [0, 1, 2, 3, 4, 5]) mixed ?_
      refine OJ.kld (d := 28) (y := .tmp 4) (cd := c_weirref15_Cache) (j := 4) (b := b1) (o := 0) a0 (pend2 := [⟨0, 86, (pt b1 0), c_weirref15_Cache.val a0⟩]) Ty86 rfl (At.whole _) rfl ?_
      refine OJ.kld (d := 29) (y := .tmp 12) (cd := ((cI .u8).arr 6)) (j := 0) (b := b5) (o := 0) (⟨[0, 0, 0, 0, 0, 0], rfl⟩ : (Vec Int 6)) (pend2 := [⟨1, 34, (pt b5 0), ((cI .u8).arr 6).val (⟨[0, 0, 0, 0, 0, 0], rfl⟩ : (Vec Int 6))⟩, ⟨0, 86, (pt b1 0), c_weirref15_Cache.val a0⟩]) Ty34 rfl (At.whole _) rfl ?_
      refine OJ.kst (y := .tmp 8) (z := .tmp 28) (cd := c_weirref15_Cache) (u := a0) (j := 2) (b := b3) (o := 0) (c_weirref15_Cache.enc a0) (owed := [⟨1, 34, (pt b5 0), ((cI .u8).arr 6).val (⟨[0, 0, 0, 0, 0, 0], rfl⟩ : (Vec Int 6))⟩]) Ty86 rfl (Upd.whole ((Cod.len _ _).trans (Cod.len _ _).symm)) rfl ?_
      refine OW.known (j := 0) (q := (⟨[0, 0, 0, 0, 0, 0], rfl⟩ : (Vec Int 6))) Ty34 rfl (At.whole _) ?_
      refine OW.nil ?_
      refine OJ.kst (y := .tmp 9) (z := .tmp 29) (cd := ((cI .u8).arr 6)) (u := (⟨[0, 0, 0, 0, 0, 0], rfl⟩ : (Vec Int 6))) (j := 1) (b := b4) (o := 0) (((cI .u8).arr 6).enc (⟨[0, 0, 0, 0, 0, 0], rfl⟩ : (Vec Int 6))) (owed := []) Ty34 rfl (Upd.whole ((Cod.len _ _).trans (Cod.len _ _).symm)) rfl ?_
      refine OW.nil ?_
      refine OJ.go 2 [(11, .int .i64 1), (10, .int .i64 5)] ?_
      refine OJ.nil ?_
      exact SJ.ret rfl (Res.run (ys := [c_weirref15_Cache.val a0, ((cI .u8).arr 6).val (⟨[0, 0, 0, 0, 0, 0], rfl⟩ : (Vec Int 6)), .int .i64 5, .int .i64 1]) (.cell (j := 2) (b := b3) (cd := c_weirref15_Cache) (q := a0) (by kernel_rfl) rfl Ty86 (At.whole _) (.cell (j := 1) (b := b4) (cd := ((cI .u8).arr 6)) (q := (⟨[0, 0, 0, 0, 0, 0], rfl⟩ : (Vec Int 6))) (by kernel_rfl) rfl Ty34 (At.whole _) (.tmp (by kernel_rfl) (.tmp (by kernel_rfl) .nil)))) rfl)
    · refine SJ.skip ?_
      refine SJ.sr 5 ?_
      refine OJ.kld (d := 30) (y := .tmp 4) (cd := c_weirref15_Cache) (j := 4) (b := b1) (o := 0) a0 (pend2 := []) Ty86 rfl (At.whole _) rfl ?_
      refine OJ.go 1 [(31, .int .i64 a1)] ?_
      refine OJ.kld (d := 32) (y := .tmp 6) (cd := c_api_IP) (j := 3) (b := b2) (o := 0) a2 (pend2 := []) Ty32 rfl (At.whole _) rfl ?_
      refine OJ.call (d := 33) (g := 73) (ats := #[86, 3, 32]) (args := [.tmp 30, .tmp 31, .tmp 32]) (owed := []) F73 (weirref15_find_ok a0 a1 a2) (fun r9 => ?_)
      refine OW.nil ?_
      refine OJ.go 1 [(14, .int .i64 r9)] ?_
      refine OJ.nil ?_
      refine SJ.seq ?_
      refine SJ.sr 2 ?_
      refine OJ.go 2 [(35, .bool (decide (r9 < 0))), (34, .int .i64 r9)] ?_
      refine OJ.nil ?_
      refine SJ.cond (t := (.tmp 35)) (b := decide (r9 < 0)) decide_eq_true_iff (fun hc37 => ?_) (fun hc37 => ?_)
      · refine SJ.sr 8 ?_
        refine OJ.kld (d := 37) (y := .tmp 4) (cd := c_weirref15_Cache) (j := 4) (b := b1) (o := 0) a0 (pend2 := []) Ty86 rfl (At.whole _) rfl ?_
        refine OJ.call (d := 38) (g := 74) (ats := #[86]) (args := [.tmp 37]) (owed := []) F74 (weirref15_room_ok a0) (fun r15 => ?_)
        refine OW.nil ?_
        refine OJ.go 3 [(40, .bool r15.2), (39, c_weirref15_Cache.val r15.1), (36, .tuple #[c_weirref15_Cache.val r15.1, .bool r15.2])] ?_
        refine OJ.slotOf (d := 15) (op := (.alloc 86)) (cd := c_weirref15_Cache) (u := z_weirref15_Cache) (owed := []) (alloc_run Ty86) (fun b16 => ?_)
        refine OW.nil ?_
        refine OJ.kst (y := .tmp 15) (z := .tmp 39) (cd := c_weirref15_Cache) (u := r15.1) (j := 0) (b := b16) (o := 0) (c_weirref15_Cache.enc r15.1) (owed := []) Ty86 rfl (Upd.whole ((Cod.len _ _).trans (Cod.len _ _).symm)) rfl ?_
        refine OW.nil ?_
        refine OJ.go 1 [(16, .bool r15.2)] ?_
        refine OJ.nil ?_
        refine SJ.seq ?_
        refine SJ.sr 2 ?_
        refine OJ.go 2 [(42, .bool (!r15.2)), (41, .bool r15.2)] ?_
        refine OJ.nil ?_
        refine SJ.cond (t := (.tmp 42)) (b := (!r15.2)) (bnot_iff Iff.rfl) (fun hc19 => ?_) (fun hc19 => ?_)
        · refine SJ.seq ?_
          refine SJ.draw (id := 9) (kd := [1, 1, 2, 2, 0, 0]) (bef := [0, 0, 1, 7, 15, 31]) (ord := [0, 1, 2, 3, 4, 5]) mixed ?_
          refine OJ.kld (d := 43) (y := .tmp 4) (cd := c_weirref15_Cache) (j := 5) (b := b1) (o := 0) a0 (pend2 := [⟨0, 86, (pt b1 0), c_weirref15_Cache.val a0⟩]) Ty86 rfl (At.whole _) rfl ?_
          refine OJ.kld (d := 44) (y := .tmp 12) (cd := ((cI .u8).arr 6)) (j := 1) (b := b5) (o := 0) (⟨[0, 0, 0, 0, 0, 0], rfl⟩ : (Vec Int 6)) (pend2 := [⟨1, 34, (pt b5 0), ((cI .u8).arr 6).val (⟨[0, 0, 0, 0, 0, 0], rfl⟩ : (Vec Int 6))⟩, ⟨0, 86, (pt b1 0), c_weirref15_Cache.val a0⟩]) Ty34 rfl (At.whole _) rfl ?_
          refine OJ.kst (y := .tmp 8) (z := .tmp 43) (cd := c_weirref15_Cache) (u := a0) (j := 3) (b := b3) (o := 0) (c_weirref15_Cache.enc a0) (owed := [⟨1, 34, (pt b5 0), ((cI .u8).arr 6).val (⟨[0, 0, 0, 0, 0, 0], rfl⟩ : (Vec Int 6))⟩]) Ty86 rfl (Upd.whole ((Cod.len _ _).trans (Cod.len _ _).symm)) rfl ?_
          refine OW.known (j := 1) (q := (⟨[0, 0, 0, 0, 0, 0], rfl⟩ : (Vec Int 6))) Ty34 rfl (At.whole _) ?_
          refine OW.nil ?_
          refine OJ.kst (y := .tmp 9) (z := .tmp 44) (cd := ((cI .u8).arr 6)) (u := (⟨[0, 0, 0, 0, 0, 0], rfl⟩ : (Vec Int 6))) (j := 2) (b := b4) (o := 0) (((cI .u8).arr 6).enc (⟨[0, 0, 0, 0, 0, 0], rfl⟩ : (Vec Int 6))) (owed := []) Ty34 rfl (Upd.whole ((Cod.len _ _).trans (Cod.len _ _).symm)) rfl ?_
          refine OW.nil ?_
          refine OJ.go 2 [(11, .int .i64 151), (10, .int .i64 5)] ?_
          refine OJ.nil ?_
          exact SJ.ret rfl (Res.run (ys := [c_weirref15_Cache.val a0, ((cI .u8).arr 6).val (⟨[0, 0, 0, 0, 0, 0], rfl⟩ : (Vec Int 6)), .int .i64 5, .int .i64 151]) (.cell (j := 3) (b := b3) (cd := c_weirref15_Cache) (q := a0) (by kernel_rfl) rfl Ty86 (At.whole _) (.cell (j := 2) (b := b4) (cd := ((cI .u8).arr 6)) (q := (⟨[0, 0, 0, 0, 0, 0], rfl⟩ : (Vec Int 6))) (by kernel_rfl) rfl Ty34 (At.whole _) (.tmp (by kernel_rfl) (.tmp (by kernel_rfl) .nil)))) rfl)
        · refine SJ.skip ?_
          refine SJ.sr 11 ?_
          refine OJ.go 1 [(45, .pointer (some (pt b16 5)))] ?_
          refine OJ.kld (d := 46) (y := .tmp 45) (cd := cL) (j := 0) (b := b16) (o := 5) r15.1.L (pend2 := []) Ty84 rfl (At_weirref15_Cache_L r15.1) rfl ?_
          refine OJ.go 1 [(47, .int .i64 a1)] ?_
          refine OJ.kld (d := 48) (y := .tmp 6) (cd := c_api_IP) (j := 4) (b := b2) (o := 0) a2 (pend2 := []) Ty32 rfl (At.whole _) rfl ?_
          refine OJ.build (d := 49) (T := 77) (parts := [(0, .tmp 47), (1, .tmp 48), (3, .const (.int .i64 1)), (5, .const (.int .i64 1)), (6, .const (.int .i64 1))]) (ps := [(0, (cI .i64).val a1), (1, c_api_IP.val a2), (3, (cI .i64).val 1), (5, (cI .i64).val 1), (6, (cI .i64).val 1)]) (cd := c_api_Neighbour) (z0 := z_api_Neighbour) (⟨a1, a2, z_api_Neighbour.Mac, 1, z_api_Neighbour.Age, 1, 1⟩ : api_Neighbour) Ty77 rfl (Filled.cons (cd := (cI .i64)) (q := a1) (o := 0) (by kernel_rfl) (Up_api_Neighbour_Port z_api_Neighbour a1) (Filled.cons (cd := c_api_IP) (q := a2) (o := 1) (by kernel_rfl) (Up_api_Neighbour_IP (⟨a1, z_api_Neighbour.IP, z_api_Neighbour.Mac, z_api_Neighbour.State, z_api_Neighbour.Age, z_api_Neighbour.Tries, z_api_Neighbour.Waiting⟩ : api_Neighbour) a2) (Filled.cons (cd := (cI .i64)) (q := 1) (o := 24) (by kernel_rfl) (Up_api_Neighbour_State (⟨a1, a2, z_api_Neighbour.Mac, z_api_Neighbour.State, z_api_Neighbour.Age, z_api_Neighbour.Tries, z_api_Neighbour.Waiting⟩ : api_Neighbour) 1) (Filled.cons (cd := (cI .i64)) (q := 1) (o := 26) (by kernel_rfl) (Up_api_Neighbour_Tries (⟨a1, a2, z_api_Neighbour.Mac, 1, z_api_Neighbour.Age, z_api_Neighbour.Tries, z_api_Neighbour.Waiting⟩ : api_Neighbour) 1) (Filled.cons (cd := (cI .i64)) (q := 1) (o := 27) (by kernel_rfl) (Up_api_Neighbour_Waiting (⟨a1, a2, z_api_Neighbour.Mac, 1, z_api_Neighbour.Age, 1, z_api_Neighbour.Waiting⟩ : api_Neighbour) 1) Filled.nil))))) ?_
          refine OJ.go 1 [(50, .int .i64 a3)] ?_
          refine OJ.rowNew (d := 51) (t := 43) (parts := [(0, .tmp 50)]) (ps := [(0, (cI .i64).val a3)]) (cd := (cI .i64)) (owed := []) Ty3 (Filled.cons (cd := (cI .i64)) (q := a3) (o := 0) rfl (Upd.arr (i := 0) (by decide) (by decide)) Filled.nil) (fun b17 => ?_)
          refine OW.nil ?_
          refine OJ.build (d := 52) (T := 145) (parts := [(0, .tmp 49), (1, .tmp 51)]) (ps := [(0, c_api_Neighbour.val (⟨a1, a2, z_api_Neighbour.Mac, 1, z_api_Neighbour.Age, 1, 1⟩ : api_Neighbour)), (1, cL.val (⟨some (pt b17 0), 1, 1⟩ : Sl))]) (cd := c_weirref15_Entry) (z0 := z_weirref15_Entry) (⟨(⟨a1, a2, z_api_Neighbour.Mac, 1, z_api_Neighbour.Age, 1, 1⟩ : api_Neighbour), (⟨some (pt b17 0), 1, 1⟩ : Sl)⟩ : weirref15_Entry) Ty145 rfl (Filled.cons (cd := c_api_Neighbour) (q := (⟨a1, a2, z_api_Neighbour.Mac, 1, z_api_Neighbour.Age, 1, 1⟩ : api_Neighbour)) (o := 0) (by kernel_rfl) (Up_weirref15_Entry_N z_weirref15_Entry (⟨a1, a2, z_api_Neighbour.Mac, 1, z_api_Neighbour.Age, 1, 1⟩ : api_Neighbour)) (Filled.cons (cd := cL) (q := (⟨some (pt b17 0), 1, 1⟩ : Sl)) (o := 28) (by kernel_rfl) (Up_weirref15_Entry_Items (⟨(⟨a1, a2, z_api_Neighbour.Mac, 1, z_api_Neighbour.Age, 1, 1⟩ : api_Neighbour), z_weirref15_Entry.Items⟩ : weirref15_Entry) (⟨some (pt b17 0), 1, 1⟩ : Sl)) Filled.nil)) ?_
          refine OJ.call (d := 53) (g := 75) (ats := #[84, 145]) (args := [.tmp 46, .tmp 52]) (owed := []) F75 (weirref15_with_ok r15.1.L (⟨(⟨a1, a2, z_api_Neighbour.Mac, 1, z_api_Neighbour.Age, 1, 1⟩ : api_Neighbour), (⟨some (pt b17 0), 1, 1⟩ : Sl)⟩ : weirref15_Entry)) (fun r18 => ?_)
          refine OW.nil ?_
          refine OJ.go 1 [(54, .pointer (some (pt b16 5)))] ?_
          refine OJ.kst (y := .tmp 54) (z := .tmp 53) (cd := cL) (u := r18) (j := 0) (b := b16) (o := 5) (c_weirref15_Cache.enc (⟨r15.1.C, r18⟩ : weirref15_Cache)) (owed := []) Ty84 rfl (Up_weirref15_Cache_L r15.1 r18) rfl ?_
          refine OW.nil ?_
          refine OJ.nil ?_
          refine SJ.seq ?_
          refine SJ.draw (id := 11) (kd := [1, 1, 2, 2, 0, 0]) (bef := [0, 0, 1, 7, 15, 31]) (ord := [0, 1, 2, 3, 4, 5]) mixed ?_
          refine OJ.kld (d := 55) (y := .tmp 15) (cd := c_weirref15_Cache) (j := 0) (b := b16) (o := 0) (⟨r15.1.C, r18⟩ : weirref15_Cache) (pend2 := [⟨0, 86, (pt b16 0), c_weirref15_Cache.val (⟨r15.1.C, r18⟩ : weirref15_Cache)⟩]) Ty86 rfl (At.whole _) rfl ?_
          refine OJ.kld (d := 56) (y := .tmp 12) (cd := ((cI .u8).arr 6)) (j := 1) (b := b5) (o := 0) (⟨[0, 0, 0, 0, 0, 0], rfl⟩ : (Vec Int 6)) (pend2 := [⟨1, 34, (pt b5 0), ((cI .u8).arr 6).val (⟨[0, 0, 0, 0, 0, 0], rfl⟩ : (Vec Int 6))⟩, ⟨0, 86, (pt b16 0), c_weirref15_Cache.val (⟨r15.1.C, r18⟩ : weirref15_Cache)⟩]) Ty34 rfl (At.whole _) rfl ?_
          refine OJ.kst (y := .tmp 8) (z := .tmp 55) (cd := c_weirref15_Cache) (u := (⟨r15.1.C, r18⟩ : weirref15_Cache)) (j := 3) (b := b3) (o := 0) (c_weirref15_Cache.enc (⟨r15.1.C, r18⟩ : weirref15_Cache)) (owed := [⟨1, 34, (pt b5 0), ((cI .u8).arr 6).val (⟨[0, 0, 0, 0, 0, 0], rfl⟩ : (Vec Int 6))⟩]) Ty86 rfl (Upd.whole ((Cod.len _ _).trans (Cod.len _ _).symm)) rfl ?_
          refine OW.known (j := 1) (q := (⟨[0, 0, 0, 0, 0, 0], rfl⟩ : (Vec Int 6))) Ty34 rfl (At.whole _) ?_
          refine OW.nil ?_
          refine OJ.kst (y := .tmp 9) (z := .tmp 56) (cd := ((cI .u8).arr 6)) (u := (⟨[0, 0, 0, 0, 0, 0], rfl⟩ : (Vec Int 6))) (j := 2) (b := b4) (o := 0) (((cI .u8).arr 6).enc (⟨[0, 0, 0, 0, 0, 0], rfl⟩ : (Vec Int 6))) (owed := []) Ty34 rfl (Upd.whole ((Cod.len _ _).trans (Cod.len _ _).symm)) rfl ?_
          refine OW.nil ?_
          refine OJ.go 2 [(11, .int .i64 0), (10, .int .i64 3)] ?_
          refine OJ.nil ?_
          exact SJ.ret rfl (Res.run (ys := [c_weirref15_Cache.val (⟨r15.1.C, r18⟩ : weirref15_Cache), ((cI .u8).arr 6).val (⟨[0, 0, 0, 0, 0, 0], rfl⟩ : (Vec Int 6)), .int .i64 3, .int .i64 0]) (.cell (j := 3) (b := b3) (cd := c_weirref15_Cache) (q := (⟨r15.1.C, r18⟩ : weirref15_Cache)) (by kernel_rfl) rfl Ty86 (At.whole _) (.cell (j := 2) (b := b4) (cd := ((cI .u8).arr 6)) (q := (⟨[0, 0, 0, 0, 0, 0], rfl⟩ : (Vec Int 6))) (by kernel_rfl) rfl Ty34 (At.whole _) (.tmp (by kernel_rfl) (.tmp (by kernel_rfl) .nil)))) rfl)
      · refine SJ.skip ?_
        refine SJ.sr 7 ?_
        refine OJ.go 1 [(57, .pointer (some (pt b1 5)))] ?_
        refine OJ.kld (d := 58) (y := .tmp 57) (cd := cL) (j := 4) (b := b1) (o := 5) a0.L (pend2 := []) Ty84 rfl (At_weirref15_Cache_L a0) rfl ?_
        refine OJ.go 1 [(59, .int .i64 r9)] ?_
        refine OJ.idxS (d := 60) (T := 84) (y := .tmp 58) (j := .tmp 59) (E := 145) (cap := a0.L.cap) (k := .i64) (fun p20 => ?_)
        refine OJ.ld (d := 61) (y := .tmp 60) (pend2 := fun x21 => []) Ty145 (fun _ => rfl) (fun x21 => ?_)
        refine OJ.slotOf (d := 17) (op := (.alloc 145)) (cd := c_weirref15_Entry) (u := z_weirref15_Entry) (owed := []) (alloc_run Ty145) (fun b22 => ?_)
        refine OW.nil ?_
        refine OJ.kst (y := .tmp 17) (z := .tmp 61) (cd := c_weirref15_Entry) (u := x21) (j := 0) (b := b22) (o := 0) (c_weirref15_Entry.enc x21) (owed := []) Ty145 rfl (Upd.whole ((Cod.len _ _).trans (Cod.len _ _).symm)) rfl ?_
        refine OW.nil ?_
        refine OJ.nil ?_
        refine SJ.seq ?_
        refine SJ.sr 3 ?_
        refine OJ.go 2 [(63, .pointer (some (pt b22 24))), (62, .pointer (some (pt b22 0)))] ?_
        refine OJ.kld (d := 64) (y := .tmp 63) (cd := (cI .i64)) (j := 0) (b := b22) (o := 24) x21.N.State (pend2 := []) Ty3 rfl (At.trans (At_weirref15_Entry_N x21) (At_api_Neighbour_State x21.N)) rfl ?_
        refine OJ.nil ?_
        refine SJ.block (id := 0) ?_
        refine SJ.seq ?_
        refine SJ.sr 2 ?_
        refine OJ.go 2 [(65, .bool (x21.N.State == 2)), (66, .bool (x21.N.State == 2))] ?_
        refine OJ.nil ?_
        refine SJ.cond (t := (.tmp 65)) (b := (x21.N.State == 2)) beq_iff_eq (fun hc36 => ?_) (fun hc36 => ?_)
        · refine SJ.skip ?_
          refine SJ.forget (List.Sublist.cons_cons _ (List.Sublist.cons_cons _ (List.Sublist.cons_cons _ (List.Sublist.cons_cons _ (List.Sublist.cons _ (List.Sublist.cons_cons _ List.Sublist.slnil)))))) ?_
          refine SJ.less [3, 4, 8, 9, 12, 14, 17, 64, 65] (m' := [(3, .int .i64 a3), (4, .pointer (some (pt b1 0))), (8, .pointer (some (pt b3 0))), (9, .pointer (some (pt b4 0))), (12, .pointer (some (pt b5 0))), (14, .int .i64 r9), (17, .pointer (some (pt b22 0))), (64, .int .i64 x21.N.State), (65, .bool (x21.N.State == 2))]) ?_
          exact weirref15_Want.K1_ok a0 a3 b1 b3 b4 b5 r9 x21 b22 (x21.N.State == 2)
        · refine SJ.rg 2 ?_
          refine OJ.go 2 [(65, .bool (x21.N.State == 4)), (67, .bool (x21.N.State == 4))] ?_
          refine OJ.nil ?_
          refine SJ.forget (List.Sublist.cons_cons _ (List.Sublist.cons_cons _ (List.Sublist.cons_cons _ (List.Sublist.cons_cons _ (List.Sublist.cons _ (List.Sublist.cons_cons _ List.Sublist.slnil)))))) ?_
          refine SJ.less [3, 4, 8, 9, 12, 14, 17, 64, 65] (m' := [(3, .int .i64 a3), (4, .pointer (some (pt b1 0))), (8, .pointer (some (pt b3 0))), (9, .pointer (some (pt b4 0))), (12, .pointer (some (pt b5 0))), (14, .int .i64 r9), (17, .pointer (some (pt b22 0))), (64, .int .i64 x21.N.State), (65, .bool (x21.N.State == 4))]) ?_
          exact weirref15_Want.K1_ok a0 a3 b1 b3 b4 b5 r9 x21 b22 (x21.N.State == 4)

/-! ### weir/neigh.station: function 48 -/
noncomputable def neigh_station.B : Code := (Try.f48.body).getD .skip
noncomputable def neigh_station.cx : Fx := ⟨Try.prog, 48, Try.f48⟩
noncomputable def neigh_station.out (r_ : Bool) : Value := .bool r_
noncomputable def neigh_station.F0 (r_ : Bool) : Reach := .ret (neigh_station.out r_)
noncomputable def neigh_station (a0 : (Vec Int 6)) : M Bool :=
  slot 34 >>= fun b1 =>
  (if ¬ (a0 = (⟨[0, 0, 0, 0, 0, 0], rfl⟩ : (Vec Int 6))) then
      pure ((band .u8 (Vec.g a0 0 0) 1) == 0)
    else
      pure false) >>= fun y2 =>
  pure y2
theorem neigh_station_ok (a0 : (Vec Int 6)) : Ref Try.prog 48 [((cI .u8).arr 6).val a0] (neigh_station a0) neigh_station.out := by
  refine Ref.of (cd := neigh_station.B) Try.func48 ?_
  show SJ neigh_station.cx [.code neigh_station.B] [(0, ((cI .u8).arr 6).val a0)] [] (neigh_station a0) neigh_station.F0
  unfold neigh_station
  refine SJ.sr 2 ?_
  refine OJ.slotOf (d := 1) (op := (.box 34 (.tmp 0))) (cd := ((cI .u8).arr 6)) (u := a0) (owed := []) (box_run (by kernel_rfl)) (fun b1 => ?_)
  refine OW.nil ?_
  refine OJ.go 1 [(2, .bool false)] ?_
  refine OJ.nil ?_
  refine SJ.sr 10 ?_
  refine OJ.kld (d := 3) (y := .tmp 1) (cd := ((cI .u8).arr 6)) (j := 0) (b := b1) (o := 0) a0 (pend2 := []) Ty34 rfl (At.whole _) rfl ?_
  refine OJ.build (d := 4) (T := 34) (parts := []) (ps := []) (cd := ((cI .u8).arr 6)) (z0 := (Vec.rep 6 0)) (⟨[0, 0, 0, 0, 0, 0], rfl⟩ : (Vec Int 6)) Ty34 rfl Filled.nil ?_
  refine OJ.neq (d := 5) (T := 34) (yT := 34) (y := .tmp 3) (z := .tmp 4) (cd := ((cI .u8).arr 6)) (p := a0) (q := (⟨[0, 0, 0, 0, 0, 0], rfl⟩ : (Vec Int 6))) rfl Eq34 ?_
  refine OJ.go 1 [(6, .bool (!eqv a0 (⟨[0, 0, 0, 0, 0, 0], rfl⟩ : (Vec Int 6))))] ?_
  refine OJ.join (b := (!eqv a0 (⟨[0, 0, 0, 0, 0, 0], rfl⟩ : (Vec Int 6)))) [4, 5, 6, 7, 8] [9] [11] (fun y2 => [(11, .bool y2)]) [] [] (t := 6) (bnot_iff eqv_iff) (fun hp_ => ?_) (fun hp_ => ?_) (fun _ _ _ _ _ _ h_ => h_) (fun y2 => ?_)
  · refine OJ.go 1 [(7, .pointer (some (pt b1 0)))] ?_
    refine OJ.kld (d := 8) (y := .tmp 7) (cd := (cI .u8)) (j := 0) (b := b1) (o := 0) (Vec.g a0 0 0) (pend2 := []) Ty5 rfl (At.zero (At.arr (z := 0) (by decide) (by decide))) rfl ?_
    refine OJ.go 3 [(11, .bool ((band .u8 (Vec.g a0 0 0) 1) == 0)), (10, .bool ((band .u8 (Vec.g a0 0 0) 1) == 0)), (9, .int .u8 (band .u8 (Vec.g a0 0 0) 1))] ?_
    exact OJ.nil ⟨(Cov.mem Cov.nil), rfl, _, rfl, by kernel_rfl⟩
  · refine OJ.go 5 [(11, .bool false), (10, undef), (9, undef), (8, undef), (7, undef)] ?_
    exact OJ.nil ⟨(Cov.mem Cov.nil), rfl, _, rfl, by kernel_rfl⟩
  · refine OJ.go 1 [(2, .bool y2)] ?_
    refine OJ.nil ?_
    exact SJ.ret rfl (Res.run (ys := [.bool y2]) (.tmp (by kernel_rfl) .nil) rfl)

/-! ### slices.Clip[[]int,int]: function 59 -/
noncomputable def slices_Clip_int_int.B : Code := (Try.f59.body).getD .skip
noncomputable def slices_Clip_int_int.cx : Fx := ⟨Try.prog, 59, Try.f59⟩
noncomputable def slices_Clip_int_int.out (r_ : Sl) : Value := Sl.v r_
noncomputable def slices_Clip_int_int.F0 (r_ : Sl) : Reach := .ret (slices_Clip_int_int.out r_)
noncomputable def slices_Clip_int_int (a0 : Sl) : M Sl :=
  cut 1 a0 none (some (a0.len : Int)) (some (a0.len : Int)) >>= fun r1 =>
  pure r1
theorem slices_Clip_int_int_ok (a0 : Sl) : Ref Try.prog 59 [Sl.v a0] (slices_Clip_int_int a0) slices_Clip_int_int.out := by
  refine Ref.of (cd := slices_Clip_int_int.B) Try.func59 ?_
  show SJ slices_Clip_int_int.cx [.code slices_Clip_int_int.B] [(0, Sl.v a0)] [] (slices_Clip_int_int a0) slices_Clip_int_int.F0
  unfold slices_Clip_int_int
  refine SJ.sr 1 ?_
  refine OJ.go 1 [(2, Sl.v Sl.nil)] ?_
  refine OJ.nil ?_
  refine SJ.sr 7 ?_
  refine OJ.go 5 [(7, .int .i64 (a0.len : Int)), (6, Sl.v a0), (5, .int .i64 (a0.len : Int)), (4, Sl.v a0), (3, Sl.v a0)] ?_
  refine OJ.cut (d := 8) (t := 43) (E := 3) (y := .tmp 3) (lo := none) (hi := (some (.tmp 5))) (mx := (some (.tmp 7))) (lo' := none) (hi' := some (.i64, (a0.len : Int))) (mx' := some (.i64, (a0.len : Int))) (fun _ => rfl) (fun r1 => ?_)
  refine OJ.go 1 [(2, Sl.v r1)] ?_
  refine OJ.nil ?_
  exact SJ.ret rfl (Res.run (ys := [Sl.v r1]) (.tmp (by kernel_rfl) .nil) rfl)

/-! ### (*weir/neigh.entry).take: function 49 -/
noncomputable def neigh_entry_take.B : Code := (Try.f49.body).getD .skip
noncomputable def neigh_entry_take.cx : Fx := ⟨Try.prog, 49, Try.f49⟩
noncomputable def neigh_entry_take.out (r_ : Sl) : Value := Sl.v r_
noncomputable def neigh_entry_take.F0 (r_ : Sl) : Reach := .ret (neigh_entry_take.out r_)
noncomputable def neigh_entry_take (a0 : (Option Addr)) : M Sl :=
  nilck a0 >>= fun p1 =>
  ld cL (Addr.add p1 27) >>= fun x2 =>
  slices_Clip_int_int x2 >>= fun r3 =>
  nilck a0 >>= fun p4 =>
  st cL (Addr.add p4 27) Sl.nil >>= fun _ =>
  pure r3
theorem neigh_entry_take_ok (a0 : (Option Addr)) : Ref Try.prog 49 [.pointer a0] (neigh_entry_take a0) neigh_entry_take.out := by
  refine Ref.of (cd := neigh_entry_take.B) Try.func49 ?_
  show SJ neigh_entry_take.cx [.code neigh_entry_take.B] [(0, .pointer a0)] [] (neigh_entry_take a0) neigh_entry_take.F0
  unfold neigh_entry_take
  refine SJ.sr 1 ?_
  refine OJ.go 1 [(2, Sl.v Sl.nil)] ?_
  refine OJ.nil ?_
  refine SJ.sr 6 ?_
  refine OJ.go 1 [(4, .pointer a0)] ?_
  refine OJ.nilck (d := 5) (y := .tmp 4) (fun p1 => ?_)
  refine OJ.go 1 [(6, .pointer (some (Addr.add p1 27)))] ?_
  refine OJ.ld (d := 7) (y := .tmp 6) (pend2 := fun x2 => []) Ty43 (fun _ => rfl) (fun x2 => ?_)
  refine OJ.call (d := 8) (g := 59) (ats := #[43]) (args := [.tmp 7]) (owed := []) F59 (slices_Clip_int_int_ok x2) (fun r3 => ?_)
  refine OW.nil ?_
  refine OJ.go 1 [(3, Sl.v r3)] ?_
  refine OJ.nil ?_
  refine SJ.sr 4 ?_
  refine OJ.go 1 [(9, .pointer a0)] ?_
  refine OJ.nilck (d := 10) (y := .tmp 9) (fun p4 => ?_)
  refine OJ.go 1 [(11, .pointer (some (Addr.add p4 27)))] ?_
  refine OJ.st (y := .tmp 11) (z := .const (.slice none 0 0)) (owed := []) Ty43 ?_
  refine OW.nil ?_
  refine OJ.nil ?_
  refine SJ.sr 2 ?_
  refine OJ.go 2 [(2, Sl.v r3), (12, Sl.v r3)] ?_
  refine OJ.nil ?_
  exact SJ.ret rfl (Res.run (ys := [Sl.v r3]) (.tmp (by kernel_rfl) .nil) rfl)
end Go.Proofs.Ytlkhijflgbobjaa.Lx
