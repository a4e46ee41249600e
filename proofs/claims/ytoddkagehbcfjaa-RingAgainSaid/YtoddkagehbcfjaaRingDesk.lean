/- One place in memory that is lent again and again (Desk), of its programs in the M-world. -/
import Derived.Test.YtoddkagehbcfjaaRingBook
set_option linter.unusedVariables false
set_option linter.unusedSimpArgs false
namespace Go.Proofs.Ytoddkagehbcfjaa.Lx
open Go Go.Proofs Go.RowKit

def mkD (i : Int) : Int := IntKind.wrap .u8 (IntKind.wrap .i64 (203 - (IntKind.wrap .i64 (5 * i))))
def marks (n : Nat) : List Int := (List.range n).map (fun (i : Nat) => mkD (i : Int))
theorem marks_len (n : Nat) : (marks n).length = n := by unfold marks; simp
theorem marks_get {n i : Nat} (h : i < n) : (marks n)[i]? = some (mkD (i : Int)) := by
  unfold marks
  rw [List.getElem?_map, List.getElem?_range h]
  rfl
/-- the desk, with what it holds -/
def DeskHs (da : Addr) (V : Sl) (room sp : List Int) (n : Int) : List HP := [pts true da (c_weirlaw3_Desk.enc ⟨V, n⟩), vec (cI .u8) V room sp]
def DeskP (d : Option Addr) (room : List Int) (n : Int) : HP := fun h => ∃ da V sp, d = some da ∧ seps (DeskHs da V room sp n) h
section
variable {W w : World} {R : List HP} {d : Option Addr} {da : Addr} {V : Sl} {room sp : List Int} {n : Int}
theorem Ss.openD (s : Ss W (DeskP d room n :: R) w) : ∃ da V sp, d = some da ∧ Ss W (DeskHs da V room sp n ++ R) w := by
  obtain ⟨hb, k, ⟨h1, h2, e, l1, l2, ⟨da, V, sp, a1, a2⟩, b⟩, hw⟩ := s
  exact ⟨da, V, sp, a1, Ss.split ⟨hb, k, ⟨h1, h2, e, l1, l2, a2, b⟩, hw⟩⟩
theorem Ss.closeD (s : Ss W (DeskHs da V room sp n ++ R) w) (h : d = some da) : Ss W (DeskP d room n :: R) w := s.group.first (fun k hh => ⟨da, V, sp, h, hh⟩)
theorem desk_new {b : Nat} (s : Ss W (pts true (pt b 0) (c_weirlaw3_Desk.enc z_weirlaw3_Desk) :: R) w) : Ss W (DeskP (some (pt b 0)) [] 0 :: R) w := by
  have s := (s.mk0 (A := vec (cI .u8) Sl.nil [] []) vec_nil).use [1] rfl
  exact Ss.closeD (da := pt b 0) (V := Sl.nil) (sp := []) s rfl
/-- what lies in front reads the desk -/
theorem desk_rdb {xs zs : List Int} {k : Nat} : Rdb (vec (cI .u8) V (xs ++ zs) sp) (cI .u8) ⟨V.a, xs.length, k⟩ xs := by
  have := (vec_rdb (c := cI .u8) (s := V) (xs := xs ++ zs) (sp := sp)).take (k := xs.length) (n := k) (by simp)
  rwa [List.take_left] at this
theorem mark_wp {w : World} (i : Int) : WP (weirlaw3_mark i) w (fun y w' => y = mkD i ∧ w = w') := WP.ret ⟨rfl, rfl⟩
theorem lend_K2 {A : HP} {b : Sl} {xs : List Int} (s : Ss W (DeskP d room n :: R) w) (j : Nat) (e : nth R j = some A) (r : Rdb A (cI .u8) b xs) (hl : xs.length ≤ room.length) (hr : room.length ≤ 281474976710656) : WP (weirlaw3_Desk_Lend.K2 d b) w (fun y w' => ∃ da V sp, d = some da ∧ y = ⟨V.a, xs.length, V.cap⟩ ∧ Ss W (DeskHs da V (xs ++ (marks room.length).drop xs.length) sp xs.length ++ R) w') := by
  unfold weirlaw3_Desk_Lend.K2
  obtain ⟨da, V, sp, hd, sO⟩ := s.openD
  clear s
  subst hd
  have s := sO
  clear sO
  have hbl := (s.rd_len (i := j + 2) e r).1
  refine WP.loop (fun (i : Int) w' => 0 ≤ i ∧ i ≤ room.length ∧ ∃ ys : List Int, ys.length = room.length ∧ (∀ q : Nat, q < i.toNat → ys[q]? = some (mkD q)) ∧ Ss W (DeskHs da V ys sp n ++ R) w') (fun i _ => ((room.length : Int) - i).toNat) ⟨by omega, by omega, room, rfl, fun q h => absurd h (by simp), s⟩ ?_
  clear s
  rintro i w ⟨i0, i1, ys, hy, hq, s⟩
  unfold weirlaw3_Desk_Lend.L1
  have hV := s.vec_len (i := 1) rfl
  refine WP.nilck (WP.ld s 0 rfl (o := 0) (by simp [Addr.add]) (At_weirlaw3_Desk_Room _) ?_)
  simp only
  refine WP.ite (fun hi => WP.draw' s (fun w s => WP.nilck ?_)) (fun hi => ?_)
  · rw [hV.1, hy] at hi
    refine WP.ld s 0 rfl (o := 0) (by simp [Addr.add]) (At_weirlaw3_Desk_Room _) ?_
    refine WP.step (mark_wp i) ?_
    rintro _ _ ⟨rfl, rfl⟩
    refine WP.same s 0 rfl (o := 0) (by simp [Addr.add]) (At_weirlaw3_Desk_Room _) ?_
    refine WP.stx s 1 rfl i0 (by omega) rfl (fun w s => WP.next ?_)
    rw [wrap_i64 (by omega) (by omega)]
    refine ⟨⟨by omega, by omega, _, by rw [List.length_set]; exact hy, fun q hq2 => ?_, s⟩, by omega⟩
    by_cases e : q = i.toNat
    · subst e
      rw [List.getElem?_set_self (by omega)]
      exact congrArg (fun z => some (mkD z)) (by omega)
    · rw [List.getElem?_set_ne (fun h => e h.symm)]
      exact hq q (by omega)
  · rw [hV.1, hy] at hi
    have hi : i.toNat = room.length := by omega
    rw [hi] at hq
    have hym : ys = marks room.length := by
      refine List.ext_getElem? (fun q => ?_)
      by_cases hq2 : q < room.length
      · rw [hq q hq2, marks_get hq2]
      · rw [List.getElem?_eq_none (by omega), List.getElem?_eq_none (by rw [marks_len]; omega)]
    subst hym
    refine WP.step (R := fun y w' => ∃ da' V sp, some da = some da' ∧ y = ⟨V.a, xs.length, V.cap⟩ ∧ Ss W (DeskHs da' V (xs ++ (marks room.length).drop xs.length) sp xs.length ++ R) w') ?_ (fun y w h => WP.done h)
    unfold weirlaw3_Desk_Lend.K1
    refine WP.nilck (WP.ld s 0 rfl (o := 0) (by simp [Addr.add]) (At_weirlaw3_Desk_Room _) ?_)
    refine WP.cpy s 1 rfl (j + 2) e r (by decide) (fun w s => WP.nilck ?_)
    rw [marks_len, Nat.min_eq_left hl, List.take_length] at s
    refine WP.st s 0 rfl (o := 1) rfl (Up_weirlaw3_Desk_N _ _) (fun w s => WP.nilck ?_)
    refine WP.ld s 0 rfl (o := 0) (by simp [Addr.add]) (At_weirlaw3_Desk_Room _) ?_
    simp only
    rw [hbl] at s ⊢
    refine WP.cutpre (by omega) (by omega) (WP.ret ⟨da, V, sp, rfl, ?_, s⟩)
    rw [Int.toNat_natCast]
theorem lend_wp {A : HP} {b : Sl} {xs : List Int} (s : Ss W (DeskP d room n :: R) w) (j : Nat) (e : nth R j = some A) (r : Rdb A (cI .u8) b xs) (hx : xs.length ≤ 140737488351232) (hr : room.length ≤ 281474976710656) : WP (weirlaw3_Desk_Lend d b) w (fun y w' => ∃ da V sp L, L ≤ 281474976710656 ∧ xs.length ≤ L ∧ d = some da ∧ y = ⟨V.a, xs.length, V.cap⟩ ∧ Ss W (DeskHs da V (xs ++ (marks L).drop xs.length) sp xs.length ++ R) w') := by
  unfold weirlaw3_Desk_Lend
  obtain ⟨da, V, sp, hd, sO⟩ := s.openD
  clear s
  subst hd
  have s := sO
  clear sO
  have hbl := (s.rd_len (i := j + 2) e r).1
  have hV := s.vec_len (i := 1) rfl
  refine WP.nilck (WP.ld s 0 rfl (o := 0) (by simp [Addr.add]) (At_weirlaw3_Desk_Room _) ?_)
  simp only
  rw [hbl, hV.1, wrap_i64 (n := 2 * (xs.length : Int)) (by omega) (by omega), wrap_i64 (n := 2 * (xs.length : Int) + 70) (by omega) (by omega), wrap_i64 (n := 2 * (xs.length : Int) + 512) (by omega) (by omega)]
  refine WP.ite (fun h => ?_) (fun h => ?_)
  · refine WP.mkS s (by omega) (Int.le_refl _) (by omega) (by omega) (fun r2 w s _ => WP.nilck ?_)
    rw [Int.sub_self, show Int.toNat 0 = 0 from rfl, List.replicate_zero] at s
    refine WP.st s 1 rfl (o := 0) (by simp [Addr.add]) (Up_weirlaw3_Desk_Room _ _) (fun w s => ?_)
    have s1 : Ss W (pts true da (c_weirlaw3_Desk.enc ⟨r2, n⟩) :: vec (cI .u8) r2 (List.replicate (2 * (xs.length : Int) + 512).toNat 0) [] :: vec (cI .u8) V room sp :: R) w := s.use [1] rfl
    have s : Ss W (DeskHs da r2 (List.replicate (2 * (xs.length : Int) + 512).toNat 0) [] n ++ R) w := (s1.use [2] rfl).drop
    have s := Ss.closeD (d := some da) s rfl
    refine (lend_K2 s j e r (by rw [List.length_replicate]; omega) (by rw [List.length_replicate]; omega)).mono ?_
    rintro y w ⟨da', V', sp', h1, h2, s⟩
    exact ⟨da', V', sp', _, by rw [List.length_replicate]; omega, by rw [List.length_replicate]; omega, h1, h2, s⟩
  · have s := Ss.closeD (d := some da) s rfl
    refine (lend_K2 s j e r (by omega) hr).mono ?_
    rintro y w ⟨da', V', sp', h1, h2, s⟩
    exact ⟨da', V', sp', _, hr, by omega, h1, h2, s⟩
theorem back_wp {A : HP} {b : Sl} {xs : List Int} {L : Nat} (s : Ss W (DeskHs da V (xs ++ (marks L).drop xs.length) sp xs.length ++ R) w) (j : Nat) (e : nth R j = some A) (r : Rdb A (cI .u8) b xs) (hx : Bytes xs) (hl : xs.length ≤ L) (hL : L ≤ 281474976710656) : WP (weirlaw3_Desk_Back (some da) b) w (fun y w' => y = true ∧ Ss W (DeskHs da V (xs ++ (marks L).drop xs.length) sp xs.length ++ R) w') := by
  unfold weirlaw3_Desk_Back
  have hbl := (s.rd_len (i := j + 2) e r).1
  have hV := s.vec_len (i := 1) rfl
  have hlen : (xs ++ (marks L).drop xs.length).length = L := by rw [List.length_append, List.length_drop, marks_len]; omega
  rw [hlen] at hV
  refine WP.draw' s (fun w s => WP.nilck (WP.ld s 0 rfl (o := 1) rfl (At_weirlaw3_Desk_N _) ?_))
  refine WP.step (R := fun y w' => y = false ∧ Ss W (DeskHs da V (xs ++ (marks L).drop xs.length) sp xs.length ++ R) w') (WP.ite (fun h => absurd (by rw [hbl]) h) (fun _ => WP.nilck ?_)) ?_
  · refine WP.ld s 0 rfl (o := 0) (by simp [Addr.add]) (At_weirlaw3_Desk_Room _) (WP.nilck ?_)
    refine WP.ld s 0 rfl (o := 1) rfl (At_weirlaw3_Desk_N _) ?_
    simp only
    refine WP.cutpre (by omega) (by omega) ?_
    rw [Int.toNat_natCast]
    refine WP.step (alike_wp s 1 rfl desk_rdb (j + 2) e r hx hx) ?_
    rintro _ w ⟨rfl, s⟩
    exact WP.ret ⟨by simp, s⟩
  rintro _ w ⟨rfl, s⟩
  refine WP.ite (fun h => by cases h) (fun _ => WP.nilck (WP.ld s 0 rfl (o := 1) rfl (At_weirlaw3_Desk_N _) ?_))
  simp only
  refine WP.loop (fun (i : Int) w' => xs.length ≤ i ∧ i ≤ L ∧ Ss W (DeskHs da V (xs ++ (marks L).drop xs.length) sp xs.length ++ R) w') (fun i _ => ((L : Int) - i).toNat) ⟨by omega, by omega, s⟩ ?_
  clear s
  rintro i w ⟨i0, i1, s⟩
  unfold weirlaw3_Desk_Back.L1
  refine WP.nilck (WP.ld s 0 rfl (o := 0) (by simp [Addr.add]) (At_weirlaw3_Desk_Room _) ?_)
  simp only
  refine WP.ite (fun hi => WP.draw' s (fun w s => WP.nilck ?_)) (fun hi => WP.done ⟨rfl, s⟩)
  rw [hV.1] at hi
  refine WP.ld s 0 rfl (o := 0) (by simp [Addr.add]) (At_weirlaw3_Desk_Room _) ?_
  have hget : (xs ++ (marks L).drop xs.length)[i.toNat]? = some (mkD i) := by
    rw [List.getElem?_append_right (by omega), List.getElem?_drop, show xs.length + (i.toNat - xs.length) = i.toNat by omega, marks_get (by omega)]
    exact congrArg (fun z => some (mkD z)) (by omega)
  refine WP.idxr s 1 rfl vec_rdb (by omega) hget rfl (fun a ha => ?_)
  refine WP.ldr s 1 rfl vec_rdb hget ha rfl ?_
  refine WP.step (mark_wp i) ?_
  rintro _ _ ⟨rfl, rfl⟩
  refine WP.samer s 1 rfl vec_rdb hget ha rfl ?_
  refine WP.same s 0 rfl (o := 0) (by simp [Addr.add]) (At_weirlaw3_Desk_Room _) ?_
  refine WP.ite (fun h => absurd rfl h) (fun _ => WP.next ?_)
  rw [wrap_i64 (by omega) (by omega)]
  exact ⟨⟨by omega, by omega, s⟩, by omega⟩
theorem wipe_wp {q : Nat} (s : Ss W (DeskHs da V room sp (q : Int) ++ R) w) (hq : q ≤ room.length) (hr : room.length ≤ 281474976710656) : WP (weirlaw3_Desk_Wipe (some da)) w (fun _ w' => ∃ room', room'.length = room.length ∧ Ss W (DeskP (some da) room' (q : Int) :: R) w') := by
  unfold weirlaw3_Desk_Wipe
  refine WP.loop (fun (i : Int) w' => 0 ≤ i ∧ i ≤ q ∧ ∃ ys : List Int, ys.length = room.length ∧ Ss W (DeskHs da V ys sp (q : Int) ++ R) w') (fun i _ => ((q : Int) - i).toNat) ⟨by omega, by omega, room, rfl, s⟩ ?_
  clear s
  rintro i w ⟨i0, i1, ys, hy, s⟩
  unfold weirlaw3_Desk_Wipe.L1
  refine WP.nilck (WP.ld s 0 rfl (o := 1) rfl (At_weirlaw3_Desk_N _) ?_)
  simp only
  refine WP.ite (fun hi => WP.draw' s (fun w s => WP.nilck ?_)) (fun hi => WP.done ⟨ys, hy, Ss.closeD s rfl⟩)
  refine WP.ld s 0 rfl (o := 0) (by simp [Addr.add]) (At_weirlaw3_Desk_Room _) (WP.nilck ?_)
  refine WP.ld s 0 rfl (o := 0) (by simp [Addr.add]) (At_weirlaw3_Desk_Room _) ?_
  refine WP.rdx s 1 rfl vec_rdb i0 (List.getElem?_eq_getElem (show i.toNat < ys.length by omega)) rfl ?_
  refine WP.stx s 1 rfl i0 (by omega) rfl (fun w s => WP.next ?_)
  rw [wrap_i64 (by omega) (by omega)]
  exact ⟨⟨by omega, by omega, _, by rw [List.length_set]; exact hy, s⟩, by omega⟩
end
end Go.Proofs.Ytoddkagehbcfjaa.Lx
