/- Numbers as texts (strconv of Go's library), of their programs in the M-world: at most three decimal digits, at most four hexadecimal ones. -/
import Derived.Test.YtddmmgcfanpmmaaGreatDoorAddrByt
set_option linter.unusedVariables false
set_option linter.unusedSimpArgs false
namespace Go.Proofs.YtddmmgcfanpmmaaGreatDoor.Lx
open Go Go.Proofs Go.RowKit
def pow10V : Vec Int 20 := ⟨[1, 10, 100, 1000, 10000, 100000, 1000000, 10000000, 100000000, 1000000000, 10000000000, 100000000000, 1000000000000, 10000000000000, 100000000000000, 1000000000000000, 10000000000000000, 100000000000000000, 1000000000000000000, 10000000000000000000], rfl⟩
def dbV : Vec Int 64 := ⟨[0, 1, 56, 2, 57, 49, 28, 3, 61, 58, 42, 50, 38, 29, 17, 4, 62, 47, 59, 36, 45, 43, 51, 22, 53, 39, 33, 30, 24, 18, 12, 5, 63, 55, 48, 27, 60, 41, 37, 16, 46, 35, 44, 21, 52, 32, 23, 11, 54, 26, 40, 15, 34, 20, 31, 10, 25, 14, 19, 9, 13, 8, 7, 6], rfl⟩
def TabN : HP := fun h => pts false ⟨2, 0, none⟩ (((cI .u64).arr 20).enc pow10V) h ∧ pts false ⟨4, 0, none⟩ (((cI .u8).arr 64).enc dbV) h
theorem TabN.pow : Holds TabN ⟨2, 0, none⟩ (((cI .u64).arr 20).enc pow10V) := fun h hh => Holds.pts h hh.1
theorem TabN.db : Holds TabN ⟨4, 0, none⟩ (((cI .u8).arr 64).enc dbV) := fun h hh => Holds.pts h hh.2
def dec3 (n : Nat) : List Int := if n < 10 then [48 + (n : Int)] else if n < 100 then [48 + (n / 10 : Nat), 48 + (n % 10 : Nat)] else [48 + (n / 100 : Nat), 48 + (n / 10 % 10 : Nat), 48 + (n % 10 : Nat)]
def ndig (n : Nat) : Nat := if n < 10 then 1 else if n < 100 then 2 else 3
theorem dec3_len (n : Nat) : (dec3 n).length = ndig n := by
  unfold dec3 ndig
  split
  · rfl
  · split <;> rfl
theorem dec3_byt {n : Nat} (h : n < 1000) : Byt (dec3 n) := by
  unfold dec3
  intro x hx
  split at hx
  · simp only [List.mem_cons, List.not_mem_nil, or_false] at hx
    omega
  · split at hx <;> simp only [List.mem_cons, List.not_mem_nil, or_false] at hx <;> omega
theorem smalls : ∀ k : _root_.Fin 100, sb str3 (2 * (k.val : Int)) = 48 + ((k.val / 10 : Nat) : Int) ∧ sb str3 (2 * (k.val : Int) + 1) = 48 + ((k.val % 10 : Nat) : Int) := by decide +kernel
theorem smalls_size : (str3).size = 200 := by decide +kernel
theorem digs_size : (str2).size = 36 := by decide +kernel
section
variable {W w : World} {Hs : List HP}
def len64 (n : Nat) : Int := if n ≥ 256 then 8 + sb str4 ((n / 256 : Nat) : Int) else sb str4 (n : Int)
def l10 (n : Nat) : Int := Int.fdiv (len64 n * 78913) (2 ^ 18)
theorem len_tab : ∀ k : _root_.Fin 1000, 0 ≤ len64 k.val ∧ len64 k.val ≤ 64 ∧ 0 ≤ l10 k.val ∧ l10 k.val < 20 ∧ l10 k.val + (if (k.val : Int) ≥ pow10V.l.getD (l10 k.val).toNat 0 then 1 else 0) = (ndig k.val : Int) ∨ k.val = 0 := by decide +kernel
theorem wrap_u8 {n : Int} (h : 0 ≤ n) (h' : n ≤ 255) : IntKind.wrap .u8 n = n := by
  simp [IntKind.wrap, IntKind.bits, IntKind.signed]
  omega
theorem wrap_u32 {n : Int} (h : 0 ≤ n) (h' : n ≤ 4294967295) : IntKind.wrap .u32 n = n := by
  simp [IntKind.wrap, IntKind.bits, IntKind.signed]
  omega
theorem wrap_u64 {n : Int} (h : 0 ≤ n) (h' : n ≤ 18446744073709551615) : IntKind.wrap .u64 n = n := by
  simp [IntKind.wrap, IntKind.bits, IntKind.signed]
  omega
theorem fdiv_nat (n k : Nat) : Int.fdiv (n : Int) (k : Int) = ((n / k : Nat) : Int) := by
  rw [Int.fdiv_eq_ediv_of_nonneg _ (by omega)]
  rfl
theorem sb_range (s : ByteArray) (i : Int) : 0 ≤ sb s i ∧ sb s i ≤ 255 := by
  unfold sb
  have := (s.data.toList.getD i.toNat 0).toNat_lt
  constructor <;> omega
theorem Len64_wp {n : Nat} (h : n < 1000) : WP (bits_Len64 (n : Int)) w (fun r w' => r = len64 n ∧ w = w') := by
  have hs : (str4).size = 256 := by decide +kernel
  unfold bits_Len64
  refine WP.ite (fun h => absurd h (by omega)) (fun _ => ?_)
  unfold bits_Len64.K2
  refine WP.ite (fun h => absurd h (by omega)) (fun _ => ?_)
  unfold bits_Len64.K1 len64
  have hd : Int.fdiv (n : Int) (2 ^ 8) = ((n / 256 : Nat) : Int) := fdiv_nat n 256
  refine WP.ite (fun h => ?_) (fun h => ?_)
  · rw [hd, wrap_u8 (n := ((n / 256 : Nat) : Int)) (by omega) (by omega), hs]
    refine WP.chk ⟨by omega, by omega⟩ (WP.ret ⟨?_, rfl⟩)
    have := sb_range str4 ((n / 256 : Nat) : Int)
    rw [if_pos (by omega), wrap_i64 (n := 0 + 8) (by omega) (by omega), wrap_i64 (n := sb _ _) (by omega) (by omega), wrap_i64 (by omega) (by omega)]
    omega
  · rw [wrap_u8 (n := (n : Int)) (by omega) (by omega), hs]
    refine WP.chk ⟨by omega, by omega⟩ (WP.ret ⟨?_, rfl⟩)
    have := sb_range str4 (n : Int)
    rw [if_neg (by omega), wrap_i64 (n := sb _ _) (by omega) (by omega), wrap_i64 (by omega) (by omega)]
    omega
theorem numDigits_wp (s : Ss W Hs w) (i : Nat) (e : nth Hs i = some TabN) {n : Nat} (h0 : 0 < n) (h : n < 1000) : WP (strconv_numDigits (n : Int)) w (fun r w' => r = (ndig n : Int) ∧ w = w') := by
  unfold strconv_numDigits
  refine WP.step (Len64_wp h) ?_
  rintro _ _ ⟨rfl, rfl⟩
  obtain ⟨t1, t2, t3, t4, t5⟩ | t := len_tab ⟨n, h⟩
  rotate_left
  · simp only at t
    omega
  simp only at t1 t2 t3 t4 t5
  refine WP.step (R := fun r w' => r = l10 n ∧ w = w') ?_ ?_
  · unfold strconv_log10Pow2
    refine WP.ret ⟨?_, rfl⟩
    rw [wrap_i64 (by omega) (by omega)]
    rfl
  rintro _ _ ⟨rfl, rfl⟩
  refine WP.idx t3 (by omega) ?_
  have hat : At (((cI .u64).arr 20).enc pow10V) ((l10 n).toNat * (cI .u64).n) ((cI .u64).enc (pow10V.g (l10 n) 0)) := At.arr t3 t4
  refine WP.ldh s i e (TabN.pow.at_ hat) rfl ?_
  refine WP.step (R := fun r w' => r = (if (n : Int) ≥ pow10V.l.getD (l10 n).toNat 0 then 1 else 0) ∧ w = w') ?_ ?_
  · unfold strconv_bool2_int
    refine WP.ite (fun h => WP.ret ⟨?_, rfl⟩) (fun h => WP.ret ⟨?_, rfl⟩)
    · exact (if_pos (show (n : Int) ≥ pow10V.l.getD (l10 n).toNat 0 from of_decide_eq_true h)).symm
    · exact (if_neg (show ¬ (n : Int) ≥ pow10V.l.getD (l10 n).toNat 0 from fun h' => h (decide_eq_true h'))).symm
  rintro _ _ ⟨rfl, rfl⟩
  refine WP.ret ⟨?_, rfl⟩
  have : (ndig n : Int) ≤ 3 := by
    unfold ndig
    split
    · omega
    · split <;> omega
  rw [t5]
  exact wrap_i64 (by omega) (by omega)
theorem tmod_nat (n k : Nat) : Int.tmod (n : Int) (k : Int) = ((n % k : Nat) : Int) := by
  rw [Int.tmod_eq_emod_of_nonneg (by omega)]
  rfl
theorem tdiv_nat (n k : Nat) : Int.tdiv (n : Int) (k : Int) = ((n / k : Nat) : Int) := by
  rw [Int.tdiv_eq_ediv_of_nonneg (by omega)]
  rfl
theorem base10_wp {a : Addr} {cap : Nat} {pre suf : List Int} (n : Nat) (h : n < 1000) {xs : List Int} (hx : xs.length = ndig n) (s : Ss W (pts true a ((pre ++ xs ++ suf).flatMap (cI .u8).enc) :: Hs) w) :
    WP (strconv_formatBase10 ⟨some (a.add pre.length), ndig n, cap⟩ (n : Int)) w (fun _ w' => Ss W (pts true a ((pre ++ dec3 n ++ suf).flatMap (cI .u8).enc) :: Hs) w') := by
  have stc : ∀ {β : Type} {w : World} {k : Int} {ys : List Int} {v : Int} {f : Unit → M β} {Q : β → World → Prop}, Ss W (pts true a ((pre ++ ys ++ suf).flatMap (cI .u8).enc) :: Hs) w → ys.length = ndig n → 0 ≤ k → k < ndig n →
      (∀ w', Ss W (pts true a ((pre ++ ys.set k.toNat v ++ suf).flatMap (cI .u8).enc) :: Hs) w' → WP (f ()) w' Q) → WP (idx (some (a.add pre.length)) (ndig n) k 1 >>= fun p => st (cI .u8) p v >>= f) w Q := by
    intro β w k ys v f Q s hl k0 k1 g
    refine WP.idx k0 (by omega) ?_
    have hk : pre.length + k.toNat < (pre ++ ys ++ suf).length := by simp only [List.length_append]; omega
    refine WP.st s 0 rfl (o := (pre.length + k.toNat) * 1) (by rw [add_add]; congr 1; omega) (upd_r (c := cI .u8) v hk) (fun w s => g w ?_)
    have e : (pre ++ ys ++ suf).set (pre.length + k.toNat) v = pre ++ ys.set k.toNat v ++ suf := by
      rw [List.append_assoc, List.set_append_right _ _ (by omega), Nat.add_sub_cancel_left, List.set_append_left _ _ (by omega), ← List.append_assoc]
    rw [e] at s
    exact s
  unfold strconv_formatBase10
  refine WP.loop (fun (p : Int × Int) w' => p = ((n : Int), ((ndig n : Nat) : Int)) ∧ Ss W (pts true a ((pre ++ xs ++ suf).flatMap (cI .u8).enc) :: Hs) w') (fun _ _ => 0) ⟨rfl, s⟩ ?_
  clear s
  rintro _ w ⟨rfl, s⟩
  have hnd : ndig n ≤ 3 := by
    unfold ndig
    split
    · omega
    · split <;> omega
  show WP (strconv_formatBase10.L1 _ (n : Int) ((ndig n : Nat) : Int)) w _
  unfold strconv_formatBase10.L1
  refine WP.ite (fun h => absurd h (by omega)) (fun _ => ?_)
  refine WP.step ?_ (fun r w h => WP.done h)
  unfold strconv_formatBase10.K2
  refine WP.ite (fun h => absurd h (by omega)) (fun _ => ?_)
  rw [wrap_u32 (n := (n : Int)) (by omega) (by omega)]
  have K1 : ∀ {w : World} {j : Nat} {ys : List Int} (k : Int), j < 10 → k = 1 ∨ k = 0 → (k = 0 → ys = dec3 n) → (k = 1 → ys.set 0 (48 + (j : Int)) = dec3 n) → ys.length = ndig n → Ss W (pts true a ((pre ++ ys ++ suf).flatMap (cI .u8).enc) :: Hs) w →
      WP (strconv_formatBase10.K1 ⟨some (a.add pre.length), ndig n, cap⟩ k (j : Int)) w (fun _ w' => Ss W (pts true a ((pre ++ dec3 n ++ suf).flatMap (cI .u8).enc) :: Hs) w') := by
    intro w j ys k hj hk h0 h1 hl s
    unfold strconv_formatBase10.K1
    refine WP.ite (fun h => ?_) (fun h => ?_)
    · have hk1 : k = 1 := by omega
      have e : IntKind.wrap .u8 (IntKind.wrap .u32 (48 + (j : Int))) = 48 + (j : Int) := by
        rw [wrap_u32 (by omega) (by omega), wrap_u8 (by omega) (by omega)]
      rw [e]
      refine stc s hl (by omega) (by unfold ndig; split; omega; split <;> omega) (fun w s => WP.ret ?_)
      have h1 := h1 hk1
      rw [← h1]
      exact s
    · have h0 := h0 (by omega)
      subst h0
      exact WP.ret s
  by_cases hn : n < 10
  · have e1 : ndig n = 1 := by unfold ndig; rw [if_pos hn]
    have e2 : dec3 n = [48 + (n : Int)] := by unfold dec3; rw [if_pos hn]
    refine WP.ite (fun h => absurd h (by omega)) (fun _ => ?_)
    rw [e1] at hx
    obtain ⟨x, rfl⟩ : ∃ x, xs = [x] := by
      match xs, hx with
      | [x], _ => exact ⟨x, rfl⟩
    exact K1 (j := n) (ys := [x]) _ hn (.inl (by rw [e1]; rfl)) (fun h => by rw [e1] at h; cases h) (fun _ => by rw [e2]; rfl) (by rw [e1]; rfl) s
  · have hm : Int.tmod (n : Int) 100 = ((n % 100 : Nat) : Int) := tmod_nat n 100
    have hd : Int.tdiv (n : Int) 100 = ((n / 100 : Nat) : Int) := tdiv_nat n 100
    obtain ⟨q1, q2⟩ := smalls ⟨n % 100, by omega⟩
    simp only at q1 q2
    have hw2 : IntKind.wrap .u32 (((n % 100 : Nat) : Int) * 2) = 2 * ((n % 100 : Nat) : Int) := by
      rw [wrap_u32 (by omega) (by omega)]
      omega
    have hnd2 : 2 ≤ ndig n := by
      unfold ndig
      rw [if_neg hn]
      split <;> omega
    refine WP.ite (fun _ => WP.draw' s (fun w s => ?_)) (fun h => absurd (by omega) h)
    rw [hm, hd, hw2, wrap_u32 (n := 2 * ((n % 100 : Nat) : Int) + 1) (by omega) (by omega), smalls_size, q1, q2]
    refine WP.chk ⟨by omega, by omega⟩ (WP.chk ⟨by omega, by omega⟩ ?_)
    rw [wrap_i64 (n := ((ndig n : Nat) : Int) - 1) (by omega) (by omega), wrap_i64 (n := ((ndig n : Nat) : Int) - 2) (by omega) (by omega)]
    refine stc s hx (by omega) (by omega) (fun w s => ?_)
    refine stc s (by rw [List.length_set]; exact hx) (by omega) (by omega) (fun w s => ?_)
    rw [wrap_u32 (by omega) (by omega)]
    by_cases hn2 : n < 100
    · have e1 : ndig n = 2 := by unfold ndig; rw [if_neg hn, if_pos hn2]
      have e2 : dec3 n = [48 + ((n / 10 : Nat) : Int), 48 + ((n % 10 : Nat) : Int)] := by unfold dec3; rw [if_neg hn, if_pos hn2]
      have hx2 := hx
      rw [e1] at hx2
      obtain ⟨x, y, rfl⟩ : ∃ x y, xs = [x, y] := by
        match xs, hx2 with
        | [x, y], _ => exact ⟨x, y, rfl⟩
      refine K1 (j := n / 100) _ (by omega) (.inr (by rw [e1]; rfl)) (fun _ => ?_) (fun h => by rw [e1] at h; cases h) (by simp only [List.length_set]; exact hx) s
      rw [e1, e2]
      have h5 : n % 100 / 10 = n / 10 := by omega
      have h6 : n % 100 % 10 = n % 10 := by omega
      rw [h5, h6]
      rfl
    · have e1 : ndig n = 3 := by unfold ndig; rw [if_neg hn, if_neg hn2]
      have e2 : dec3 n = [48 + ((n / 100 : Nat) : Int), 48 + ((n / 10 % 10 : Nat) : Int), 48 + ((n % 10 : Nat) : Int)] := by unfold dec3; rw [if_neg hn, if_neg hn2]
      have hx2 := hx
      rw [e1] at hx2
      obtain ⟨x, y, z, rfl⟩ : ∃ x y z, xs = [x, y, z] := by
        match xs, hx2 with
        | [x, y, z], _ => exact ⟨x, y, z, rfl⟩
      refine K1 (j := n / 100) _ (by omega) (.inl (by rw [e1]; rfl)) (fun h => by rw [e1] at h; cases h) (fun _ => ?_) (by simp only [List.length_set]; exact hx) s
      rw [e1, e2]
      have h5 : n % 100 / 10 = n / 10 % 10 := by omega
      have h6 : n % 100 % 10 = n % 10 := by omega
      rw [h5, h6]
      rfl
end
end Go.Proofs.YtddmmgcfanpmmaaGreatDoor.Lx
