/- The reading of addresses of version 6 (package addr), of its programs in the M-world. -/
import Derived.Test.YtddmmgcfanpmmaaGreatDoorAddrScan
import Derived.Test.YtddmmgcfanpmmaaGreatDoorAddrPrint2
set_option linter.unusedVariables false
set_option linter.unusedSimpArgs false
namespace Go.Proofs.YtddmmgcfanpmmaaGreatDoor.Lx
open Go Go.Proofs Go.RowKit
structure S6 where
  at_ : Nat
  gs : List Nat
  gap : Int
def S6.room (st : S6) : Int := if st.gap ≥ 0 then 7 - st.gs.length else 8 - st.gs.length
def hexN (l : List Int) : Nat := l.foldl (fun v c => v * 16 % 1048576 + (hexV c).toNat) 0
def pairs : List Nat → List Nat
  | [a, b, c, d] => [256 * a + b, 256 * c + d]
  | _ => []
def groupM (l : List Int) (st : S6) : Except Flt (Bool × S6) :=
  if runE isHex l st.at_ = st.at_ then .error (missM l st.at_)
  else if runE isHex l st.at_ < l.length ∧ l.getD (runE isHex l st.at_) 0 = 46 ∧ (st.gs ≠ [] ∨ st.gap ≥ 0) then
    if st.room < 2 then .error (44, st.at_) else match fourM l st.at_ with
      | .error f => .error f
      | .ok a => .ok (true, ⟨st.at_, st.gs ++ pairs a, st.gap⟩)
  else if st.room < 1 then .error (44, st.at_)
  else if runE isHex l st.at_ - st.at_ > 4 then .error (43, st.at_)
  else .ok (false, ⟨runE isHex l st.at_, st.gs ++ [hexN ((l.drop st.at_).take (runE isHex l st.at_ - st.at_))], st.gap⟩)
def dblAt (l : List Int) (i : Nat) : Prop := (l.drop i).take 2 = [58, 58]
instance (l : List Int) (i : Nat) : Decidable (dblAt l i) := inferInstanceAs (Decidable (_ = _))
def doubleM (l : List Int) (st : S6) : Except Flt (Bool × S6) :=
  if ¬ dblAt l st.at_ then .ok (false, st)
  else if st.gap ≥ 0 ∨ st.gs.length = 8 then .error (44, st.at_)
  else .ok (true, ⟨st.at_ + 2, st.gs, st.gs.length⟩)
theorem strI_extract (s : ByteArray) (a b : Nat) : strI (s.extract a b) = ((strI s).drop a).take (b - a) := by
  unfold strI
  rw [ByteArray.data_extract, Array.toList_extract, List.extract_eq_take_drop, List.map_take, List.map_drop]
theorem strI_inj {a b : ByteArray} : a.toList = b.toList ↔ strI a = strI b := by
  rw [toList_data, toList_data]
  unfold strI
  constructor
  · intro h
    rw [h]
  · intro h
    have hi : Function.Injective (fun x : UInt8 => (x.toNat : Int)) := fun x y h => UInt8.toNat_inj.1 (by have h : (x.toNat : Int) = (y.toNat : Int) := h; omega)
    exact (List.map_inj_right (fun x y h => hi h)).1 h
section
variable {W w : World} {Hs : List HP}
theorem HasPrefix_wp (a p : ByteArray) : WP (strings_HasPrefix a p) w (fun r w' => r = decide ((strI a).take p.size = strI p) ∧ w = w') := by
  unfold strings_HasPrefix stringslite_HasPrefix
  refine WP.step (R := fun r w' => r = decide ((strI a).take p.size = strI p) ∧ w = w') ?_ (fun r w h => WP.ret h)
  refine WP.step (R := fun r w' => r = decide ((strI a).take p.size = strI p) ∧ w = w') (WP.ite (fun h => WP.chk ⟨by omega, by omega, h⟩ (WP.ret ⟨?_, rfl⟩)) (fun h => WP.ret ⟨?_, rfl⟩)) (fun r w h => WP.ret h)
  · rw [Bool.eq_iff_iff, beq_iff_eq, decide_eq_true_iff, strI_inj, strI_extract]
    simp
  · refine (decide_eq_false fun h' => ?_).symm
    have := congrArg List.length h'
    rw [List.length_take, strI_len, strI_len] at this
    omega
abbrev cSix := c_addr_six
def SixHs (b : Nat) (t : ByteArray) (g : Sl) (st : S6) (sp : List Int) : List HP := [pts true (pt b 0) (cSix.enc ⟨t, (st.at_ : Int), g, st.gap⟩), vec (cI .i64) g (st.gs.map fun n : Nat => (n : Int)) sp]
def SixP (b : Nat) (t : ByteArray) (st : S6) : HP := fun h => ∃ g sp, seps (SixHs b t g st sp) h
theorem Ss.openX {b : Nat} {t : ByteArray} {st : S6} (s : Ss W (SixP b t st :: Hs) w) : ∃ g sp, Ss W (SixHs b t g st sp ++ Hs) w := by
  obtain ⟨hb, k, ⟨h1, h2, e, l1, l2, ⟨g, sp, a3⟩, b⟩, hw⟩ := s
  exact ⟨g, sp, Ss.split ⟨hb, k, ⟨h1, h2, e, l1, l2, a3, b⟩, hw⟩⟩
theorem Ss.closeX {b : Nat} {t : ByteArray} {st : S6} {g : Sl} {sp : List Int} (s : Ss W (SixHs b t g st sp ++ Hs) w) : Ss W (SixP b t st :: Hs) w := s.group.first (fun h hh => ⟨g, sp, hh⟩)
theorem room_wp {b : Nat} {t : ByteArray} {st : S6} (s : Ss W (SixP b t st :: Hs) w) (hg : st.gs.length ≤ 100) : WP (addr_six_room (some (pt b 0))) w (fun r w' => r = st.room ∧ Ss W (SixP b t st :: Hs) w') := by
  obtain ⟨g, sp, s⟩ := s.openX
  have hl := (s.vec_len (i := 1) rfl).1
  rw [List.length_map] at hl
  unfold addr_six_room S6.room
  refine WP.nilck (WP.ld s 0 rfl (o := 3) rfl (At_addr_six_gap _) ?_)
  refine WP.ite (fun h => WP.nilck (WP.ld s 0 rfl (o := 2) rfl (At_addr_six_groups _) (WP.ret ⟨?_, s.closeX⟩))) (fun h => WP.nilck (WP.ld s 0 rfl (o := 2) rfl (At_addr_six_groups _) (WP.ret ⟨?_, s.closeX⟩)))
  · rw [if_pos h]
    simp only
    rw [wrap_i64 (by omega) (by omega)]
    omega
  · rw [if_neg h]
    simp only
    rw [wrap_i64 (by omega) (by omega)]
    omega
def StepA (W : World) (Hs : List HP) (b : Nat) (t : ByteArray) (x : Except Flt (Bool × S6)) (r : Bool × Option Addr) (w : World) : Prop :=
  match x with
  | .ok (y, st) => r = (y, none) ∧ Ss W (SixP b t st :: Hs) w
  | .error f => ∃ b', r.2 = some (pt b' 0) ∧ Ss W (pts true (pt b' 0) (flt f) :: Hs) w
theorem double_wp {b : Nat} {t : ByteArray} {st : S6} (s : Ss W (SixP b t st :: Hs) w) (hg : st.gs.length ≤ 100) (ht : t.size ≤ 1000) (ha : st.at_ ≤ t.size) : WP (addr_six_double (some (pt b 0))) w (StepA W Hs b t (doubleM (strI t) st)) := by
  obtain ⟨g, sp, s⟩ := s.openX
  have hl := (s.vec_len (i := 1) rfl).1
  rw [List.length_map] at hl
  unfold addr_six_double doubleM
  refine WP.draw' s (fun w s => WP.nilck (WP.ld s 0 rfl (o := 0) (by simp [Addr.add]) (At_addr_six_s _) (WP.nilck (WP.ld s 0 rfl (o := 1) rfl (At_addr_six_at_ _) (WP.chk ⟨by simp only; omega, by simp only; omega, by omega⟩ (WP.step (HasPrefix_wp _ _) ?_))))))
  rintro _ _ ⟨rfl, rfl⟩
  have hd : (strI (t.extract (Int.toNat (st.at_ : Int)) (Int.toNat (t.size : Int)))).take (str0).size = strI str0 ↔ dblAt (strI t) st.at_ := by
    have e1 : (str0).size = 2 := by decide +kernel
    have e2 : strI str0 = [58, 58] := by decide +kernel
    rw [e1, e2, strI_extract, Int.toNat_natCast, Int.toNat_natCast]
    unfold dblAt
    rw [List.take_take]
    have e3 : ((strI t).drop st.at_).take (min 2 (t.size - st.at_)) = ((strI t).drop st.at_).take 2 := by
      by_cases h : 2 ≤ t.size - st.at_
      · rw [Nat.min_eq_left h]
      · rw [Nat.min_eq_right (by omega), List.take_of_length_le (by rw [List.length_drop, strI_len]; omega), List.take_of_length_le (by rw [List.length_drop, strI_len]; omega)]
    rw [e3]
  refine WP.ite (fun h => WP.ret ?_) (fun h => ?_)
  · have : ¬ dblAt (strI t) st.at_ := fun h' => h (decide_eq_true (hd.2 h'))
    rw [if_pos this]
    exact ⟨rfl, s.closeX⟩
  have hdd : dblAt (strI t) st.at_ := hd.1 (of_decide_eq_true (Decidable.not_not.1 h))
  rw [if_neg (fun h' => h' hdd)]
  refine WP.nilck (WP.ld s 0 rfl (o := 3) rfl (At_addr_six_gap _) ?_)
  refine WP.step (R := fun y w' => y = decide (st.gap ≥ 0 ∨ st.gs.length = 8) ∧ w = w') (WP.ite (fun h => WP.ret ⟨(decide_eq_true (.inl h)).symm, rfl⟩) (fun h => WP.nilck (WP.ld s 0 rfl (o := 2) rfl (At_addr_six_groups _) (WP.ret ⟨?_, rfl⟩)))) ?_
  · rw [hl, Bool.eq_iff_iff, decide_eq_true_iff, beq_iff_eq]
    exact ⟨fun h' => .inr (by omega), fun h' => by have := h'.resolve_left h; omega⟩
  rintro _ _ ⟨rfl, rfl⟩
  refine WP.ite (fun h => WP.draw' s (fun w s => WP.nilck (WP.ld s 0 rfl (o := 1) rfl (At_addr_six_at_ _) (WP.newv s (fun b' w s => WP.ret ?_))))) (fun h => ?_)
  · rw [if_pos (of_decide_eq_true h)]
    exact ⟨b', rfl, (s.use [0] (s := [_]) (r := _ :: _ :: Hs) rfl).perm (List.Perm.refl _) |> fun s => ((s.use [1, 1] (s := [_, _]) (r := _ :: Hs) rfl).drop.drop)⟩
  · have hn : ¬ (st.gap ≥ 0 ∨ st.gs.length = 8) := fun h' => h (decide_eq_true h')
    rw [if_neg hn]
    refine WP.nilck (WP.ld s 0 rfl (o := 2) rfl (At_addr_six_groups _) (WP.nilck (WP.st s 0 rfl (o := 3) rfl (Up_addr_six_gap _ _) (fun w s => WP.nilck (WP.ld s 0 rfl (o := 1) rfl (At_addr_six_at_ _) (WP.nilck (WP.st s 0 rfl (o := 1) rfl (Up_addr_six_at_ _ _) (fun w s => WP.ret ?_))))))))
    refine ⟨rfl, Ss.closeX (g := g) (sp := sp) ?_⟩
    have e1 : IntKind.wrap .i64 ((st.at_ : Int) + 2) = ((st.at_ + 2 : Nat) : Int) := by
      rw [wrap_i64 (by omega) (by omega)]
      simp
    rw [e1, hl] at s
    exact s
end
end Go.Proofs.YtddmmgcfanpmmaaGreatDoor.Lx
