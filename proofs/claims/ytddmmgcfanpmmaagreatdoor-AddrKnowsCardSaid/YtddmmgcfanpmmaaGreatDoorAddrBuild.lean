/- strings.Builder and strings.Join of Go's library, of their programs in the M-world. -/
import Derived.Test.YtddmmgcfanpmmaaGreatDoorLxSh
import Derived.Test.YtddmmgcfanpmmaaGreatDoorAddrByt
set_option linter.unusedVariables false
set_option linter.unusedSimpArgs false
namespace Go.Proofs.YtddmmgcfanpmmaaGreatDoor.Lx
open Go Go.Proofs Go.RowKit
abbrev cBd := c_strings_Builder
def BldHs (b : Nat) (p : Option Addr) (buf : Sl) (bs sp : List Int) : List HP :=
  [pts true (pt b 0) (cBd.enc ⟨p, buf⟩), shp b 113 2, vec (cI .u8) buf bs sp, shpO buf 5 (bs.length + sp.length)]
def BldP (b : Nat) (bs : List Int) : HP := fun h => ∃ p buf sp, (p = none ∨ p = some (pt b 0)) ∧ (buf.a = none ∨ buf.cap ≠ 0) ∧ seps (BldHs b p buf bs sp) h
section
variable {W w : World} {R Hs : List HP} {b : Nat} {p : Option Addr} {buf : Sl} {bs sp : List Int}
theorem Ss.openB (s : Ss W (BldP b bs :: R) w) : ∃ p buf sp, (p = none ∨ p = some (pt b 0)) ∧ (buf.a = none ∨ buf.cap ≠ 0) ∧ Ss W (BldHs b p buf bs sp ++ R) w := by
  obtain ⟨hb, k, ⟨h1, h2, e, l1, l2, ⟨p, buf, sp, a1, a2, a3⟩, b⟩, hw⟩ := s
  exact ⟨p, buf, sp, a1, a2, Ss.split ⟨hb, k, ⟨h1, h2, e, l1, l2, a3, b⟩, hw⟩⟩
theorem Ss.closeB (s : Ss W (BldHs b p buf bs sp ++ R) w) (h1 : p = none ∨ p = some (pt b 0)) (h2 : buf.a = none ∨ buf.cap ≠ 0) : Ss W (BldP b bs :: R) w := s.group.first (fun h hh => ⟨p, buf, sp, h1, h2, hh⟩)
theorem copyCheck_wp (s : Ss W (BldHs b p buf bs sp ++ R) w) (h1 : p = none ∨ p = some (pt b 0)) : WP (strings_Builder_copyCheck (some (pt b 0))) w (fun _ w' => Ss W (BldHs b (some (pt b 0)) buf bs sp ++ R) w') := by
  unfold strings_Builder_copyCheck
  refine WP.nilck (WP.ld s 0 rfl (o := 0) (by simp [Addr.add]) (At_strings_Builder_addr _) ?_)
  rcases h1 with rfl | rfl
  · refine WP.ite (fun _ => ?_) (fun h => absurd rfl h)
    refine WP.upOf s 1 rfl (by decide) (WP.noesc (WP.ptOf s 1 rfl (by decide) (WP.nilck ?_)))
    exact WP.st s 0 rfl (o := 0) (by simp [Addr.add]) (Up_strings_Builder_addr _ _) (fun w s => WP.ret s)
  · refine WP.ite (fun h => by cases h) (fun _ => WP.nilck (WP.ld s 0 rfl (o := 0) (by simp [Addr.add]) (At_strings_Builder_addr _) ?_))
    refine WP.ptrEq1 ?_
    exact WP.ite (fun h => absurd rfl h) (fun _ => WP.ret s)
theorem bld_app {β : Type} {xs : List Int} {f : Unit → M β} {Q : β → World → Prop} (s : Ss W (BldHs b p buf bs sp ++ R) w) (h2 : buf.a = none ∨ buf.cap ≠ 0) (hl : bs.length + xs.length ≤ 140737488355328)
    (k : ∀ r sp' w', (r.a = none ∨ r.cap ≠ 0) → Ss W (BldHs b p r (bs ++ xs) sp' ++ R) w' → WP (f ()) w' Q) : WP (appl (cI .u8) 5 1 0 buf xs >>= fun r => nilck (some (pt b 0)) >>= fun q => st cL (Addr.add q 1) r >>= f) w Q := by
  refine WP.applB (Hs := pts true (pt b 0) (cBd.enc ⟨p, buf⟩) :: shp b 113 2 :: R) (s.use [2, 2] (r := _ :: _ :: R) rfl) hl h2 (fun r w sp' hz s => WP.nilck ?_)
  have s := s.use [2, 2, 0, 0] (r := R) rfl
  exact WP.st s 0 rfl (o := 1) rfl (Up_strings_Builder_buf _ _) (fun w s => k r sp' w hz s)
theorem WriteString_wp (s : Ss W (BldP b bs :: R) w) (t : ByteArray) (hl : bs.length + t.size ≤ 1000000) : WP (strings_Builder_WriteString (some (pt b 0)) t) w (fun _ w' => Ss W (BldP b (bs ++ strI t) :: R) w') := by
  obtain ⟨p, buf, sp, h1, h2, s⟩ := s.openB
  unfold strings_Builder_WriteString
  refine WP.step (copyCheck_wp s h1) ?_
  rintro _ w s
  refine WP.nilck (WP.ld s 0 rfl (o := 1) rfl (At_strings_Builder_buf _) ?_)
  exact bld_app s h2 (by rw [strI_len]; omega) (fun r sp' w hz s => WP.ret (s.closeB (.inr rfl) hz))
theorem String_wp (s : Ss W (BldP b bs :: R) w) (hb : Byt bs) (hl : bs.length ≤ 1000000) : WP (strings_Builder_String (some (pt b 0))) w (fun r w' => r = bstr bs ∧ Ss W R w') := by
  obtain ⟨p, buf, sp, h1, h2, s⟩ := s.openB
  unfold strings_Builder_String
  refine WP.draw' s (fun w s => WP.nilck (WP.ld s 0 rfl (o := 1) rfl (At_strings_Builder_buf _) (WP.nilck (WP.ld s 0 rfl (o := 1) rfl (At_strings_Builder_buf _) ?_))))
  refine WP.sdata h2 (WP.same s 0 rfl (o := 1) rfl (At_strings_Builder_buf _) ?_)
  exact WP.ustr (Hs := pts true (pt b 0) (cBd.enc ⟨p, buf⟩) :: shp b 113 2 :: R) (s.use [2, 2] (r := _ :: _ :: R) rfl) hb (by omega) (fun w s => WP.ret ⟨rfl, s.drop.drop⟩)
theorem Grow_wp (s : Ss W (pts true (pt b 0) (cBd.enc z_strings_Builder) :: shp b 113 2 :: R) w) {n : Int} (h0 : 0 ≤ n) (hn : n ≤ 1000000) : WP (strings_Builder_Grow (some (pt b 0)) n) w (fun _ w' => Ss W (BldP b [] :: R) w') := by
  have s := ((s.mk0 (A := shpO Sl.nil 5 (([] : List Int).length + ([] : List Int).length)) shpO_nil).mk0 (A := vec (cI .u8) Sl.nil [] []) vec_nil).use [2, 2, 0, 0] (r := R) rfl
  have s : Ss W (BldHs b none Sl.nil [] [] ++ R) w := s
  unfold strings_Builder_Grow
  refine WP.step (copyCheck_wp s (.inl rfl)) ?_
  rintro _ w s
  refine WP.ite (fun h => absurd h (by omega)) (fun _ => WP.draw' s (fun w s => ?_))
  refine WP.nilck (WP.ld s 0 rfl (o := 1) rfl (At_strings_Builder_buf _) (WP.nilck (WP.ld s 0 rfl (o := 1) rfl (At_strings_Builder_buf _) ?_)))
  refine WP.ite (fun h => ?_) (fun h => WP.ret (s.closeB (.inr rfl) (.inl rfl)))
  unfold strings_Builder_grow
  refine WP.step (R := fun _ w' => Ss W (BldP b [] :: R) w') ?_ (fun _ w s => WP.ret s)
  refine WP.draw' s (fun w s => WP.nilck (WP.ld s 0 rfl (o := 1) rfl (At_strings_Builder_buf _) (WP.nilck (WP.ld s 0 rfl (o := 1) rfl (At_strings_Builder_buf _) ?_))))
  have e : IntKind.wrap .i64 (IntKind.wrap .i64 (2 * (Sl.nil.cap : Int)) + n) = n := by
    show IntKind.wrap .i64 (IntKind.wrap .i64 (2 * 0) + n) = n
    rw [wrap_i64 (n := 2 * 0) (by omega) (by omega), wrap_i64 (by omega) (by omega)]
    omega
  have e0 : IntKind.wrap .i64 ((Sl.nil.cap : Int) - (Sl.nil.len : Int)) = 0 := by
    show IntKind.wrap .i64 (0 - 0) = 0
    rw [wrap_i64 (by omega) (by omega)]
    omega
  simp only [e0] at h
  simp only [e]
  refine WP.mkNZ s h0 (by omega) (fun a cap xs w hcap hxl ha1 ha2 s => ?_)
  have s : Ss W (pts true a (xs.flatMap (cI .u8).enc) :: shp a.block 5 cap :: pts true (pt b 0) (cBd.enc ⟨some (pt b 0), Sl.nil⟩) :: shp b 113 2 :: vec (cI .u8) Sl.nil [] [] :: shpO Sl.nil 5 0 :: R) w := s
  refine WP.same s 2 rfl (o := 1) rfl (At_strings_Builder_buf _) ?_
  refine WP.cutpre (by simp [Sl.nil]) (by simp only [Sl.nil]; omega) (WP.nilck (WP.ld s 2 rfl (o := 1) rfl (At_strings_Builder_buf _) ?_))
  have s := s.first (B := vec (cI .u8) ⟨some a, 0, cap⟩ [] xs) (fun h hp => ⟨rfl, by simp [hxl], hp⟩)
  refine WP.cpy s 0 rfl 4 rfl vec_rdb (by decide) (fun w s => WP.nilck ?_)
  have s : Ss W (vec (cI .u8) ⟨some a, 0, cap⟩ [] xs :: shp a.block 5 cap :: pts true (pt b 0) (cBd.enc ⟨some (pt b 0), Sl.nil⟩) :: shp b 113 2 :: vec (cI .u8) Sl.nil [] [] :: shpO Sl.nil 5 0 :: R) w := s
  refine WP.st s 2 rfl (o := 1) rfl (Up_strings_Builder_buf _ _) (fun w s => WP.ret ?_)
  have s : Ss W (vec (cI .u8) ⟨some a, 0, cap⟩ [] xs :: shp a.block 5 cap :: pts true (pt b 0) (cBd.enc ⟨some (pt b 0), ⟨some a, 0, cap⟩⟩) :: shp b 113 2 :: vec (cI .u8) Sl.nil [] [] :: shpO Sl.nil 5 0 :: R) w := s
  have s := (s.use [1] (s := [_]) (r := _ :: _ :: _ :: _ :: _ :: R) rfl).first (B := shpO ⟨some a, 0, cap⟩ 5 (([] : List Int).length + xs.length)) (fun h hp a' ha' => by
    cases ha'
    refine ⟨ha1, ha2, ?_⟩
    rw [hxl, List.length_nil, Nat.zero_add]
    exact hp)
  have s := s.use [2, 2, 1, 0] (r := _ :: _ :: R) rfl
  have s : Ss W (BldHs b (some (pt b 0)) ⟨some a, 0, cap⟩ [] xs ++ (vec (cI .u8) Sl.nil [] [] :: shpO Sl.nil 5 0 :: R)) w := s
  have s := s.closeB (.inr rfl) (.inr (by simp only; omega))
  exact (s.use [1, 1] (s := [_, _]) (r := _ :: R) rfl).drop.drop
end
end Go.Proofs.YtddmmgcfanpmmaaGreatDoor.Lx
