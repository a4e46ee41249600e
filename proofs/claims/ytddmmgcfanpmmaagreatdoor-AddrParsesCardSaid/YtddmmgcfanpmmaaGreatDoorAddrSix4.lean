/- The reading of addresses of version 6 (package addr): its bytes. -/
import Derived.Test.YtddmmgcfanpmmaaGreatDoorAddrSix3
set_option linter.unusedVariables false
set_option linter.unusedSimpArgs false
namespace Go.Proofs.YtddmmgcfanpmmaaGreatDoor.Lx
open Go Go.Proofs Go.RowKit
def two (l : List Nat) : List Int := (l.map fun n => [((n / 256 : Nat) : Int), ((n % 256 : Nat) : Int)]).flatten
theorem two_cons (n : Nat) (l : List Nat) : two (n :: l) = ((n / 256 : Nat) : Int) :: ((n % 256 : Nat) : Int) :: two l := rfl
theorem two_len : ∀ l : List Nat, (two l).length = 2 * l.length
  | [] => rfl
  | n :: l => by rw [two_cons, List.length_cons, List.length_cons, two_len l, List.length_cons]; omega
theorem two_set (v : Nat) : ∀ (l : List Nat) (j : Nat), ((two l).set (2 * j) ((v / 256 : Nat) : Int)).set (2 * j + 1) ((v % 256 : Nat) : Int) = two (l.set j v)
  | [], j => rfl
  | n :: l, 0 => rfl
  | n :: l, j + 1 => by
    rw [List.set_cons_succ, two_cons, two_cons, ← two_set v l j]
    rfl
def S6.pos (st : S6) (i : Nat) : Nat := if st.gap ≥ 0 ∧ (i : Int) ≥ st.gap then i + (8 - st.gs.length) else i
def S6.words (st : S6) : Nat → List Nat
  | 0 => List.replicate 8 0
  | i + 1 => (st.words i).set (st.pos i) (st.gs.getD i 0)
theorem S6.words_len (st : S6) : ∀ i, (st.words i).length = 8
  | 0 => rfl
  | i + 1 => by rw [S6.words, List.length_set, st.words_len i]
theorem S6.bytes_len (st : S6) (i : Nat) : (two (st.words i)).length = 16 := by rw [two_len, st.words_len]
def S6.bytes (st : S6) : Vec Int 16 := ⟨two (st.words st.gs.length), st.bytes_len _⟩
section
variable {W w : World} {Hs : List HP}
theorem fdiv256 (n : Nat) : Int.fdiv (n : Int) (2 ^ 8) = ((n / 256 : Nat) : Int) := fdiv_nat n 256
theorem wrap_u8_mod (n : Nat) : IntKind.wrap .u8 (n : Int) = ((n % 256 : Nat) : Int) := by
  show (n : Int) % 256 = _
  omega
theorem bytes_wp {b : Nat} {t : ByteArray} {st : S6} {l : List Int} (s : Ss W (SixP b t st :: Hs) w) (ok : Ok6 l st) : WP (addr_six_bytes (some (pt b 0))) w (fun r w' => r = st.bytes ∧ Ss W (SixP b t st :: Hs) w') := by
  have o1 := ok.g
  have o2 := ok.p1
  have o3 := ok.p2
  have o4 := ok.p3
  obtain ⟨g, sp, s⟩ := s.openX
  have hl := (s.vec_len (i := 1) rfl).1
  rw [List.length_map] at hl
  unfold addr_six_bytes
  refine WP.slot' s (fun _ w s => WP.slot' s (fun _ w s => WP.nilck (WP.ld s 0 rfl (o := 2) rfl (At_addr_six_groups _) ?_)))
  refine WP.loopG (γ := Nat) (fun i (p : Int × Vec Int 16) w => p.1 = (i : Int) ∧ p.2.l = two (st.words i) ∧ i ≤ st.gs.length ∧ Ss W (SixHs b t g st sp ++ Hs) w) (fun i _ => st.gs.length - i) 0 ⟨rfl, rfl, Nat.zero_le _, s⟩ ?_
  clear s
  rintro i ⟨_, v⟩ w ⟨rfl, hv, hi, s⟩
  simp only at hv
  show WP (addr_six_bytes.L1 (some (pt b 0)) g (i : Int) v) w _
  unfold addr_six_bytes.L1
  have K1 : ∀ {w : World} (j : Nat), j = st.pos i → i < st.gs.length → Ss W (SixHs b t g st sp ++ Hs) w → WP (addr_six_bytes.K1 (i : Int) v ((st.gs.getD i 0 : Nat) : Int) (j : Int)) w (WP.Rd (fun p w => ∃ g' : Nat, (p.1 = (g' : Int) ∧ p.2.l = two (st.words g') ∧ g' ≤ st.gs.length ∧ Ss W (SixHs b t g st sp ++ Hs) w) ∧ st.gs.length - g' < st.gs.length - i) (fun r w' => r = st.bytes ∧ Ss W (SixP b t st :: Hs) w')) := by
    intro w j hj hil s
    have hj8 : j < 8 := by
      rw [hj]
      unfold S6.pos
      split <;> omega
    unfold addr_six_bytes.K1
    have e1 : IntKind.wrap .i64 (2 * (j : Int)) = ((2 * j : Nat) : Int) := by
      rw [wrap_i64 (by omega) (by omega)]
      omega
    have e2 : IntKind.wrap .i64 (((2 * j : Nat) : Int) + 1) = ((2 * j + 1 : Nat) : Int) := by
      rw [wrap_i64 (by omega) (by omega)]
      omega
    rw [e1, e2]
    have hx : (st.gs.getD i 0) < 65536 := by
      rw [List.getD, List.getElem?_eq_getElem hil]
      exact ok.v _ (List.getElem_mem _)
    refine WP.chk ⟨by omega, by omega⟩ (WP.chk ⟨by omega, by omega⟩ (WP.next ⟨i + 1, ⟨?_, ?_, by omega, s⟩, by omega⟩))
    · show IntKind.wrap .i64 ((i : Int) + 1) = _
      rw [wrap_i64 (by omega) (by omega)]
      omega
    · show ((v.l.set _ _).set _ _) = _
      rw [hv, fdiv256, wrap_u8_mod, wrap_u8_mod, Int.toNat_natCast, Int.toNat_natCast, show st.gs.getD i 0 / 256 % 256 = st.gs.getD i 0 / 256 by omega, two_set, hj]
      rfl
  refine WP.ite (fun h => ?_) (fun h => WP.done ⟨Vec.eq ?_, s.closeX⟩)
  · have hil : i < st.gs.length := by
      rw [hl] at h
      omega
    have hx : (st.gs.map fun n : Nat => (n : Int))[Int.toNat (i : Int)]? = some ((st.gs.getD i 0 : Nat) : Int) := by
      rw [Int.toNat_natCast, List.getElem?_map, List.getD, List.getElem?_eq_getElem hil]
      rfl
    refine WP.rdx s 1 rfl vec_rdb (by omega) hx rfl ?_
    have o5 : i < st.gs.length := hil
    refine WP.nilck (WP.ld s 0 rfl (o := 3) rfl (At_addr_six_gap _) ?_)
    refine WP.step (R := fun y w' => y = decide (st.gap ≥ 0 ∧ (i : Int) ≥ st.gap) ∧ w = w') (WP.ite (fun h => WP.nilck (WP.ld s 0 rfl (o := 3) rfl (At_addr_six_gap _) (WP.ret ⟨?_, rfl⟩))) (fun h => WP.ret ⟨?_, rfl⟩)) ?_
    · rw [Bool.eq_iff_iff, decide_eq_true_iff, decide_eq_true_iff]
      exact ⟨fun h' => ⟨h, h'⟩, fun h' => h'.2⟩
    · exact (decide_eq_false fun h' => h h'.1).symm
    rintro _ _ ⟨rfl, rfl⟩
    refine WP.ite (fun h => ?_) (fun h => ?_)
    · have h := of_decide_eq_true h
      refine WP.nilck (WP.ld s 0 rfl (o := 2) rfl (At_addr_six_groups _) ?_)
      have e1 : IntKind.wrap .i64 ((i : Int) + IntKind.wrap .i64 (8 - (g.len : Int))) = ((i + (8 - st.gs.length) : Nat) : Int) := by
        rw [wrap_i64 (n := 8 - _) (by omega) (by omega), wrap_i64 (by omega) (by omega)]
        omega
      simp only
      rw [e1]
      exact K1 _ (by unfold S6.pos; rw [if_pos h]) hil s
    · exact K1 _ (by unfold S6.pos; rw [if_neg (fun h' => h (decide_eq_true h'))]) hil s
  · have : i = st.gs.length := by
      rw [hl] at h
      omega
    subst this
    exact hv
end
end Go.Proofs.YtddmmgcfanpmmaaGreatDoor.Lx
