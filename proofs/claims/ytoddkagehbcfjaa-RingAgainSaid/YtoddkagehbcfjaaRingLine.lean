/- Package ring's lines, of their programs in the M-world: a line of places holds buffers' numbers, in order. -/
import Derived.Test.YtoddkagehbcfjaaLxT
import Derived.Test.YtoddkagehbcfjaaLxP
import Derived.Test.YtoddkagehbcfjaaLxY
set_option linter.unusedVariables false
set_option linter.unusedSimpArgs false
namespace Go.Proofs.Ytoddkagehbcfjaa.Lx
open Go Go.Proofs Go.RowKit

theorem tmod_nat {a b : Int} (ha : 0 ≤ a) (hb : 0 < b) : Int.tmod a b = ((a.toNat % b.toNat : Nat) : Int) := by
  obtain ⟨m, rfl⟩ := Int.eq_ofNat_of_zero_le ha
  obtain ⟨n, rfl⟩ := Int.eq_ofNat_of_zero_le (Int.le_of_lt hb)
  simp [Int.tmod]
/-- places that lie apart stay apart -/
theorem mod_ne {f c i j : Nat} (hij : j < i) (hi : i - j < c) : (f + i) % c ≠ (f + j) % c := by
  intro hmod
  have e1 := Nat.div_add_mod (f + i) c
  have e2 := Nat.div_add_mod (f + j) c
  rw [hmod] at e1
  have : c * ((f + i) / c) = c * ((f + j) / c) + (i - j) := by omega
  generalize (f + i) / c = A at this
  generalize (f + j) / c = B at this
  rcases Nat.lt_or_ge B A with h | h
  · have := Nat.mul_le_mul_left c (show B + 1 ≤ A by omega)
    rw [Nat.mul_add, Nat.mul_one] at this
    omega
  · have := Nat.mul_le_mul_left c h
    omega
/-- a line of so many places: what stands in it, in order -/
def LineOk (ln : ring_line) (cap : Nat) (q : List Nat) (rg : List Int) : Prop :=
  rg.length = cap ∧ 0 < cap ∧ cap ≤ 1000000 ∧ 0 ≤ ln.first ∧ ln.first < cap ∧ ln.n = q.length ∧ q.length ≤ cap ∧ ∀ (j x : Nat), q[j]? = some x → rg[(ln.first.toNat + j) % cap]? = some (x : Int)
def LineH (ln : ring_line) (cap : Nat) (q : List Nat) : HP := ex (LineOk ln cap q) (fun rg => vec (cI .i64) ln.at_ rg [])
theorem LineH.n {ln : ring_line} {cap : Nat} {q : List Nat} {h : PH} (hr : LineH ln cap q h) : ln.n = q.length ∧ q.length ≤ cap ∧ cap ≤ 1000000 := by
  obtain ⟨rg, h1, h2⟩ := hr
  exact ⟨h1.2.2.2.2.2.1, h1.2.2.2.2.2.2.1, h1.2.2.1⟩
section
variable {W w : World} {R : List HP} {a : Addr} {L : List Value} {o : Nat} {ln : ring_line} {cap : Nat} {q : List Nat}
theorem leave_wp {x : Nat} (s : Ss W (pts true a L :: LineH ln cap (x :: q) :: R) w) (h : At L o (c_ring_line.enc ln)) :
    WP (ring_line_leave (some (a.add o))) w (fun r w' => r = (x : Int) ∧ ∃ ln' L', Upd L o (c_ring_line.enc ln') L' ∧ Ss W (pts true a L' :: LineH ln' cap q :: R) w') := by
  unfold ring_line_leave
  refine WP.draw' s (fun w s => WP.nilck ?_)
  obtain ⟨rg, ok, s⟩ := s.openx 1 rfl
  obtain ⟨h1, h2, h3, h4, h5, h6, h7, h8⟩ := id ok
  rw [List.length_cons] at h6 h7
  refine WP.ld s 0 rfl (o := o + 0) (by rw [Nat.add_zero]) (h.trans (At_ring_line_at_ ln)) (WP.nilck ?_)
  refine WP.ld s 0 rfl (o := o + 1) (by rw [add_add]) (h.trans (At_ring_line_first ln)) ?_
  have hx : rg[ln.first.toNat]? = some (x : Int) := by
    have := h8 0 x rfl
    rwa [Nat.add_zero, Nat.mod_eq_of_lt (by omega)] at this
  refine WP.rdx s 1 rfl vec_rdb h4 hx rfl (WP.draw' s (fun w s => WP.nilck ?_))
  refine WP.ld s 0 rfl (o := o + 1) (by rw [add_add]) (h.trans (At_ring_line_first ln)) (WP.nilck ?_)
  refine WP.ld s 0 rfl (o := o + 0) (by rw [Nat.add_zero]) (h.trans (At_ring_line_at_ ln)) ?_
  obtain ⟨el, _, _⟩ := s.vec_len (i := 1) rfl
  rw [el, h1]
  refine WP.chk (by omega) (WP.nilck ?_)
  obtain ⟨L1, u1, at1⟩ := h.put (⟨ln.at_, Int.tmod (IntKind.wrap .i64 (ln.first + 1)) cap, ln.n⟩ : ring_line)
  refine WP.st s 0 rfl (o := o + 1) (by rw [add_add]) (Upd.trans h (Up_ring_line_first ln _) u1) (fun w s => WP.nilck ?_)
  refine WP.ld s 0 rfl (o := o + 2) (by rw [add_add]) (at1.trans (At_ring_line_n _)) (WP.nilck ?_)
  obtain ⟨L2, u2, at2⟩ := at1.put (⟨ln.at_, Int.tmod (IntKind.wrap .i64 (ln.first + 1)) cap, IntKind.wrap .i64 (ln.n - 1)⟩ : ring_line)
  refine WP.st s 0 rfl (o := o + 2) (by rw [add_add]) (Upd.trans at1 (Up_ring_line_n _ _) u2) (fun w s => WP.ret ⟨rfl, _, L2, u1.go u2, ?_⟩)
  refine s.closex 1 rg rfl ?_
  rw [wrap_i64 (by omega) (by omega), wrap_i64 (by omega) (by omega), tmod_nat (by omega) (by omega)]
  have hm := Nat.mod_lt (ln.first + 1).toNat (y := (cap : Int).toNat) (by omega)
  refine ⟨h1, h2, h3, Int.natCast_nonneg _, by simp only; omega, by simp only; omega, by omega, fun j y hj => ?_⟩
  have := h8 (j + 1) y hj
  rw [← this]
  simp only [Int.toNat_natCast]
  rw [Nat.mod_add_mod]
  congr 2
  omega
theorem join_wp (x : Nat) (s : Ss W (pts true a L :: LineH ln cap q :: R) w) (h : At L o (c_ring_line.enc ln)) (hroom : q.length < cap) :
    WP (ring_line_join (some (a.add o)) (x : Int)) w (fun _ w' => ∃ ln' L', Upd L o (c_ring_line.enc ln') L' ∧ Ss W (pts true a L' :: LineH ln' cap (q ++ [x]) :: R) w') := by
  unfold ring_line_join
  refine WP.draw' s (fun w s => WP.nilck ?_)
  obtain ⟨rg, ok, s⟩ := s.openx 1 rfl
  obtain ⟨h1, h2, h3, h4, h5, h6, h7, h8⟩ := id ok
  refine WP.ld s 0 rfl (o := o + 0) (by rw [Nat.add_zero]) (h.trans (At_ring_line_at_ ln)) (WP.nilck ?_)
  refine WP.ld s 0 rfl (o := o + 1) (by rw [add_add]) (h.trans (At_ring_line_first ln)) (WP.nilck ?_)
  refine WP.ld s 0 rfl (o := o + 2) (by rw [add_add]) (h.trans (At_ring_line_n ln)) (WP.nilck ?_)
  refine WP.ld s 0 rfl (o := o + 0) (by rw [Nat.add_zero]) (h.trans (At_ring_line_at_ ln)) ?_
  obtain ⟨el, _, _⟩ := s.vec_len (i := 1) rfl
  have hlen : (ln.at_.len : Int) = (cap : Int) := by rw [el, h1]
  rw [hlen]
  refine WP.chk (by omega) ?_
  rw [wrap_i64 (by omega) (by omega), tmod_nat (by omega) (by omega)]
  have ht : (ln.first + ln.n).toNat % (cap : Int).toNat < cap := by
    have := Nat.mod_lt (ln.first + ln.n).toNat (y := (cap : Int).toNat) (by omega)
    omega
  have hi2 : (ln.first + ln.n).toNat % (cap : Int).toNat = (ln.first.toNat + q.length) % cap := by
    rw [Int.toNat_natCast]
    congr 1
    omega
  generalize (ln.first + ln.n).toNat % (cap : Int).toNat = i at ht hi2
  refine WP.stx s 1 rfl (by omega) (by omega) rfl (fun w s => WP.nilck ?_)
  rw [Int.toNat_natCast] at s
  refine WP.ld s 0 rfl (o := o + 2) (by rw [add_add]) (h.trans (At_ring_line_n ln)) (WP.nilck ?_)
  obtain ⟨L1, u1, at1⟩ := h.put (⟨ln.at_, ln.first, IntKind.wrap .i64 (ln.n + 1)⟩ : ring_line)
  refine WP.st s 0 rfl (o := o + 2) (by rw [add_add]) (Upd.trans h (Up_ring_line_n ln _) u1) (fun w s => WP.ret ⟨_, L1, u1, ?_⟩)
  refine s.closex 1 _ rfl ?_
  rw [wrap_i64 (by omega) (by omega)]
  refine ⟨by simpa using h1, h2, h3, h4, h5, by simp [h6], by simp; omega, fun j y hj => ?_⟩
  simp only
  by_cases ej : j = q.length
  · subst ej
    rw [List.getElem?_append_right (Nat.le_refl _), Nat.sub_self] at hj
    cases hj
    rw [← hi2]
    exact List.getElem?_set_self (by omega)
  · have hj' : j < q.length := by
      have := (List.getElem?_eq_some_iff.1 hj).1
      simp at this
      omega
    rw [List.getElem?_append_left hj'] at hj
    rw [← h8 j y hj, List.getElem?_set_ne]
    rw [hi2]
    exact mod_ne hj' (by omega)
theorem newLine_wp (s : Ss W R w) {n : Nat} (h0 : 0 < n) (h1 : n ≤ 1000000) : WP (ring_newLine (n : Int)) w (fun r w' => Ss W (LineH r n [] :: R) w') := by
  unfold ring_newLine
  refine WP.slot' s (fun _ w s => ?_)
  refine WP.mkS s (by omega) (Int.le_refl _) (by omega) (by omega) (fun r w s _ => WP.ret ?_)
  rw [Int.sub_self] at s
  exact s.first (fun h hv => ⟨_, ⟨by simp, h0, h1, by simp [z_ring_line], by simp [z_ring_line]; omega, rfl, by simp, fun j x hj => by simp at hj⟩, hv⟩)
end
end Go.Proofs.Ytoddkagehbcfjaa.Lx
