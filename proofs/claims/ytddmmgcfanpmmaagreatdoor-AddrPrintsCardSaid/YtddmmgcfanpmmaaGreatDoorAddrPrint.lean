/- Addresses as texts (package addr's printing), of its programs in the M-world. -/
import Derived.Test.YtddmmgcfanpmmaaGreatDoorAddrJoin
import Derived.Test.YtddmmgcfanpmmaaGreatDoorAddrHex
set_option linter.unusedVariables false
set_option linter.unusedSimpArgs false
namespace Go.Proofs.YtddmmgcfanpmmaaGreatDoor.Lx
open Go Go.Proofs Go.RowKit
theorem bstr_size (l : List Int) : (bstr l).size = l.length := by
  show (bstr l).data.size = _
  simp [bstr]
def dotM (xs : List Int) : List Int := joinL [46] (xs.map fun x => dec3 x.toNat)
def colM (gs : List Nat) : List Int := joinL [58] (gs.map hex4)
section
variable {W w : World} {Hs : List HP}
theorem dotted_wp (s : Ss W Hs w) (t : Nat) (et : nth Hs t = some TabN) {A : HP} {a0 : Sl} {xs : List Int} (i : Nat) (e : nth Hs i = some A) (r : Rdb A (cI .u8) a0 xs) (hb : Byt xs) (hl : xs.length ≤ 16) : WP (addr_dotted a0) w (fun y w' => y = bstr (dotM xs) ∧ Ss W Hs w') := by
  unfold addr_dotted
  have hlen := (s.rd_len e r).1
  refine WP.loopG (γ := Nat × List ByteArray) (fun g (p : Sl × Int) w => p.2 = (g.1 : Int) ∧ g.1 ≤ xs.length ∧ Ss W (vec cS p.1 ((xs.take g.1).map fun x => bstr (dec3 x.toNat)) g.2 :: Hs) w) (fun g _ => xs.length - g.1) (0, []) ⟨rfl, by simp, s.mk0 (A := vec cS Sl.nil [] []) vec_nil⟩ ?_
  clear s
  rintro ⟨k, sp⟩ ⟨sl, _⟩ w ⟨rfl, hk, s⟩
  simp only at hk s
  show WP (addr_dotted.L1 a0 sl (k : Int)) w _
  unfold addr_dotted.L1
  refine WP.ite (fun h => ?_) (fun h => ?_)
  · have hk2 : k < xs.length := by omega
    have hx := List.getElem?_eq_getElem hk2
    have hxb := hb _ (List.mem_of_getElem? hx)
    have htake : xs.take (k + 1) = xs.take k ++ [xs[k]] := by
      rw [List.take_add_one, hx]
      rfl
    generalize xs[k] = x at hx hxb htake
    refine WP.rdx s (i + 1) e r (by omega) (x := x) (by rw [Int.toNat_natCast]; exact hx) rfl ?_
    rw [wrap_i64 (n := x) (by omega) (by omega), show x = ((x.toNat : Nat) : Int) by omega]
    refine WP.step (Itoa_wp s (t + 1) et (n := x.toNat) (by omega)) ?_
    rintro _ w ⟨rfl, s⟩
    refine WP.slot' s (fun _ w s => ?_)
    refine WP.appl s 0 rfl (by simp only [List.length_map, List.length_take, List.length_cons, List.length_nil]; omega) (by decide) (fun sl' w sp' s => WP.next ⟨(k + 1, sp'), ⟨?_, by simp only; omega, ?_⟩, by simp only; omega⟩)
    · rw [wrap_i64 (by omega) (by omega)]
      simp
    · simp only
      rw [htake, List.map_append]
      exact s
  · have hk2 : k = xs.length := by omega
    subst hk2
    rw [List.take_length] at s
    have hv := s.vec_len (i := 0) rfl
    refine WP.step (Join_wp s 0 rfl vec_rdb (by omega) (by rw [List.length_map]; omega) (fun z hz => ?_) (by decide +kernel)) ?_
    · obtain ⟨x, hx, rfl⟩ := List.mem_map.1 hz
      rw [bstr_size, dec3_len]
      unfold ndig
      split
      · omega
      · split <;> omega
    rintro _ w ⟨rfl, s⟩
    refine WP.done ⟨?_, s.drop⟩
    have e1 : strI str8 = [46] := by decide +kernel
    rw [e1]
    unfold dotM
    rw [List.map_map]
    congr 2
    apply List.map_congr_left
    intro x hx
    have := hb x hx
    exact strI_bstr (dec3_byt (by omega))
theorem colons_wp (s : Ss W Hs w) (t : Nat) (et : nth Hs t = some TabN) {A : HP} {a0 : Sl} {xs : List Nat} (i : Nat) (e : nth Hs i = some A) (r : Rdb A (cI .i64) a0 (xs.map fun x : Nat => (x : Int))) (hb : ∀ x ∈ xs, x < 65536) (hl : xs.length ≤ 16) : WP (addr_colons a0) w (fun y w' => y = bstr (colM xs) ∧ Ss W Hs w') := by
  unfold addr_colons
  have hlen := (s.rd_len e r).1
  rw [List.length_map] at hlen
  refine WP.loopG (γ := Nat × List ByteArray) (fun g (p : Sl × Int) w => p.2 = (g.1 : Int) ∧ g.1 ≤ xs.length ∧ Ss W (vec cS p.1 ((xs.take g.1).map fun x => bstr (hex4 x)) g.2 :: Hs) w) (fun g _ => xs.length - g.1) (0, []) ⟨rfl, by simp, s.mk0 (A := vec cS Sl.nil [] []) vec_nil⟩ ?_
  clear s
  rintro ⟨k, sp⟩ ⟨sl, _⟩ w ⟨rfl, hk, s⟩
  simp only at hk s
  show WP (addr_colons.L1 a0 sl (k : Int)) w _
  unfold addr_colons.L1
  refine WP.ite (fun h => ?_) (fun h => ?_)
  · have hk2 : k < xs.length := by omega
    have hx := List.getElem?_eq_getElem hk2
    have hxb := hb _ (List.mem_of_getElem? hx)
    have htake : xs.take (k + 1) = xs.take k ++ [xs[k]] := by
      rw [List.take_add_one, hx]
      rfl
    generalize xs[k] = x at hx hxb htake
    refine WP.rdx s (i + 1) e r (by omega) (x := (x : Int)) (by rw [Int.toNat_natCast, List.getElem?_map, hx]; rfl) rfl ?_
    refine WP.step (FormatHex_wp s (t + 1) et hxb) ?_
    rintro _ w ⟨rfl, s⟩
    refine WP.slot' s (fun _ w s => ?_)
    refine WP.appl s 0 rfl (by simp only [List.length_map, List.length_take, List.length_cons, List.length_nil]; omega) (by decide) (fun sl' w sp' s => WP.next ⟨(k + 1, sp'), ⟨?_, by simp only; omega, ?_⟩, by simp only; omega⟩)
    · rw [wrap_i64 (by omega) (by omega)]
      simp
    · simp only
      rw [htake, List.map_append]
      exact s
  · have hk2 : k = xs.length := by omega
    subst hk2
    rw [List.take_length] at s
    have hv := s.vec_len (i := 0) rfl
    refine WP.step (Join_wp s 0 rfl vec_rdb (by omega) (by rw [List.length_map]; omega) (fun z hz => ?_) (by decide +kernel)) ?_
    · obtain ⟨x, hx, rfl⟩ := List.mem_map.1 hz
      rw [bstr_size]
      have := (hexL_len 3 x).2
      unfold hex4
      omega
    rintro _ w ⟨rfl, s⟩
    refine WP.done ⟨?_, s.drop⟩
    have e1 : strI str1 = [58] := by decide +kernel
    rw [e1]
    unfold colM
    rw [List.map_map]
    congr 2
    apply List.map_congr_left
    intro x hx
    exact strI_bstr (hexL_byt 3 x)
end
end Go.Proofs.YtddmmgcfanpmmaaGreatDoor.Lx
