/- FormatInt in hexadecimal digits (strconv of Go's library), of its program in the M-world. -/
import Derived.Test.YtddmmgcfanpmmaaGreatDoorAddrItoa
set_option linter.unusedVariables false
set_option linter.unusedSimpArgs false
namespace Go.Proofs.YtddmmgcfanpmmaaGreatDoor.Lx
open Go Go.Proofs Go.RowKit
section
variable {W w : World} {Hs : List HP}
def hexd (k : Nat) : Int := if k < 10 then 48 + (k : Int) else 87 + (k : Int)
def hexL : Nat → Nat → List Int
  | 0, n => [hexd (n % 16)]
  | f + 1, n => if n < 16 then [hexd n] else hexL f (n / 16) ++ [hexd (n % 16)]
def hex4 (n : Nat) : List Int := hexL 3 n
theorem digs_tab : ∀ k : _root_.Fin 16, sb str2 (k.val : Int) = hexd k.val := by decide +kernel
theorem hexd_byt (k : Nat) (h : k < 16) : 0 ≤ hexd k ∧ hexd k ≤ 255 := by
  unfold hexd
  split <;> omega
theorem hexL_byt : ∀ (f n : Nat), Byt (hexL f n)
  | 0, n => fun x hx => by
    simp only [hexL, List.mem_singleton] at hx
    subst hx
    exact hexd_byt _ (Nat.mod_lt _ (by omega))
  | f + 1, n => fun x hx => by
    unfold hexL at hx
    split at hx
    · rename_i h
      simp only [List.mem_singleton] at hx
      subst hx
      exact hexd_byt _ h
    · rcases List.mem_append.1 hx with hx | hx
      · exact hexL_byt f _ x hx
      · simp only [List.mem_singleton] at hx
        subst hx
        exact hexd_byt _ (Nat.mod_lt _ (by omega))
theorem hexL_len : ∀ (f n : Nat), 0 < (hexL f n).length ∧ (hexL f n).length ≤ f + 1
  | 0, n => by simp [hexL]
  | f + 1, n => by
    unfold hexL
    have := hexL_len f (n / 16)
    split
    · simp
    · simp only [List.length_append, List.length_cons, List.length_nil]
      omega
theorem band15 (n : Nat) (h : n < 18446744073709551616) : band .u64 (n : Int) 15 = ((n % 16 : Nat) : Int) := by
  have e : (BitVec.ofInt 64 (n : Int) &&& BitVec.ofInt 64 15).toNat = n % 16 := by
    rw [BitVec.toNat_and, BitVec.toNat_ofInt, BitVec.toNat_ofInt]
    have h1 : (((n : Int) % ((2 ^ 64 : Nat) : Int)).toNat) = n := by omega
    have h2 : (((15 : Int) % ((2 ^ 64 : Nat) : Int)).toNat) = 2 ^ 4 - 1 := by decide
    rw [h1, h2, Nat.and_two_pow_sub_one_eq_mod]
  show IntKind.wrap .u64 (((BitVec.ofInt 64 (n : Int) &&& BitVec.ofInt 64 15).toNat : Nat) : Int) = _
  rw [e]
  exact wrap_u64 (by omega) (by omega)
theorem FormatHex_wp (s : Ss W Hs w) (i : Nat) (e : nth Hs i = some TabN) {n : Nat} (h : n < 65536) : WP (strconv_FormatInt_ (n : Int) 16) w (fun r w' => r = bstr (hex4 n) ∧ Ss W Hs w') := by
  unfold strconv_FormatInt_
  refine WP.step (R := fun r w' => r = bstr (hex4 n) ∧ Ss W Hs w') ?_ (fun r w h => WP.ret h)
  unfold strconv_FormatInt
  refine WP.ite (fun h => absurd h (by omega)) (fun _ => ?_)
  refine WP.step (R := fun r w' => r.2 = bstr (hex4 n) ∧ Ss W Hs w') ?_ (fun r w h => WP.ret h)
  have hneg : decide ((n : Int) < 0) = false := decide_eq_false (by omega)
  rw [wrap_u64 (by omega) (by omega), hneg]
  unfold strconv_formatBits
  refine WP.step (R := fun y w' => y = false ∧ w = w') (WP.ite (fun h => absurd h (by omega)) (fun _ => WP.ret ⟨rfl, rfl⟩)) ?_
  rintro _ _ ⟨rfl, rfl⟩
  refine WP.step (R := fun y w' => y = false ∧ w = w') (WP.ite (fun h => by cases h) (fun _ => WP.ret ⟨rfl, rfl⟩)) ?_
  rintro _ _ ⟨rfl, rfl⟩
  refine WP.ite (fun h => by cases h) (fun _ => WP.newv s (fun b w s => ?_))
  refine WP.ite (fun h => by cases h) (fun _ => ?_)
  refine WP.step (R := fun y w' => y = true ∧ w = w') ?_ ?_
  · unfold strconv_isPowerOfTwo
    exact WP.ret ⟨by decide +kernel, rfl⟩
  rintro _ _ ⟨rfl, rfl⟩
  refine WP.ite (fun _ => ?_) (fun h => absurd rfl h)
  have e16 : IntKind.wrap .u64 16 = 16 := by decide +kernel
  have e15 : IntKind.wrap .u64 (16 - 1) = 15 := by decide +kernel
  rw [e16]
  refine WP.step (R := fun y w' => y = 4 ∧ w = w') ?_ ?_
  · unfold bits_TrailingZeros
    refine WP.step (R := fun y w' => y = 4 ∧ w = w') ?_ (fun r w h => WP.ret h)
    unfold bits_TrailingZeros64
    refine WP.ite (fun h => absurd h (by decide)) (fun _ => ?_)
    have ej : Int.fdiv (IntKind.wrap .u64 ((band .u64 16 (IntKind.wrap .u64 (0 - 16))) * 285870213051353865)) (2 ^ 58) = 15 := by decide +kernel
    rw [ej]
    refine WP.idx (by omega) (by omega) ?_
    have hat : At (((cI .u8).arr 64).enc dbV) ((15 : Int).toNat * (cI .u8).n) ((cI .u8).enc (dbV.g 15 0)) := At.arr (by omega) (by omega)
    refine WP.ldh s (i + 1) e (TabN.db.at_ hat) rfl (WP.ret ⟨?_, rfl⟩)
    decide +kernel
  rintro _ _ ⟨rfl, rfl⟩
  have hs : Ss W (pts true (pt b 0) ((List.replicate 65 (0 : Int)).flatMap (cI .u8).enc) :: Hs) w := by
    rw [Cod.arr_enc] at s
    exact s
  -- a byte written ahead of those that stand
  have stc : ∀ {β : Type} {w : World} {D : List Int} {k : Nat} {v : Int} {f : Unit → M β} {Q : β → World → Prop}, D.length + (k + 1) = 65 → Ss W (pts true (pt b 0) ((List.replicate (k + 1) (0 : Int) ++ D).flatMap (cI .u8).enc) :: Hs) w →
      (∀ w', Ss W (pts true (pt b 0) ((List.replicate k (0 : Int) ++ v :: D).flatMap (cI .u8).enc) :: Hs) w' → WP (f ()) w' Q) → WP (idx (some (pt b 0)) 65 (k : Int) 1 >>= fun p => st (cI .u8) p v >>= f) w Q := by
    intro β w D k v f Q hl s g
    refine WP.idx (by omega) (by omega) ?_
    refine WP.st s 0 rfl (o := k * 1) (by rw [Int.toNat_natCast]) (upd_r (c := cI .u8) v (by simp only [List.length_append, List.length_replicate]; omega)) (fun w s => g w ?_)
    have e : (List.replicate (k + 1) (0 : Int) ++ D).set k v = List.replicate k 0 ++ v :: D := by
      rw [List.set_append_left _ _ (by simp), List.replicate_succ']
      rw [List.set_append_right _ _ (by simp)]
      simp
    rw [e] at s
    exact s
  refine WP.loopG (γ := Nat × Nat × List Int) (fun g (p : Int × Int) w => p.1 = (g.2.1 : Int) ∧ g.2.1 < 16 ^ (g.1 + 1) ∧ g.1 ≤ 3 ∧ hexL g.1 g.2.1 ++ g.2.2 = hex4 n ∧ p.2 = ((65 - g.2.2.length : Nat) : Int) ∧ g.2.2.length + g.1 ≤ 3 ∧ Ss W (pts true (pt b 0) ((List.replicate (65 - g.2.2.length) (0 : Int) ++ g.2.2).flatMap (cI .u8).enc) :: Hs) w) (fun g _ => g.1) (3, n, []) ⟨rfl, by simpa using h, by simp, by simp [hex4], rfl, by simp, by simpa using hs⟩ ?_
  clear s hs
  rintro ⟨f, u, D⟩ ⟨_, _⟩ w ⟨rfl, hu, hf, hD, rfl, hl, s⟩
  simp only at hu hf hD hl s
  show WP (strconv_formatBits.L1 16 false false b 4 (u : Int) ((65 - D.length : Nat) : Int)) w _
  have hu2 : u < 65536 := Nat.lt_of_lt_of_le hu (by
    have : 16 ^ (f + 1) ≤ 16 ^ 4 := Nat.pow_le_pow_right (by omega) (by omega)
    simpa using this)
  obtain ⟨k, hk⟩ : ∃ k, 65 - D.length = k + 1 := ⟨64 - D.length, by omega⟩
  have hk2 : IntKind.wrap .i64 (((k + 1 : Nat) : Int) - 1) = (k : Int) := by
    rw [wrap_i64 (by omega) (by omega)]
    omega
  unfold strconv_formatBits.L1
  rw [e16, e15, hk, hk2]
  rw [hk] at s
  refine WP.ite (fun h => ?_) (fun h => ?_)
  · have hd := digs_tab ⟨u % 16, Nat.mod_lt _ (by omega)⟩
    simp only at hd
    rw [band15 u (by omega), digs_size, hd]
    refine WP.chk ⟨by omega, by omega⟩ (stc (by omega) s (fun w s => ?_))
    have e4 : IntKind.wrap .u64 4 = 4 := by decide +kernel
    rw [e4]
    refine WP.chk (by omega) (WP.next ?_)
    have ed : Int.fdiv (u : Int) (2 ^ min (Int.toNat 4) 64) = ((u / 16 : Nat) : Int) := fdiv_nat u 16
    rw [ed]
    cases f with
    | zero => simp at hu; omega
    | succ f =>
      refine ⟨(f, u / 16, hexd (u % 16) :: D), ⟨rfl, ?_, by simp only; omega, ?_, ?_, by simp only [List.length_cons]; omega, ?_⟩, by simp only; omega⟩
      · simp only
        rw [Nat.pow_succ] at hu
        exact Nat.div_lt_of_lt_mul (by omega)
      · simp only
        rw [← hD]
        conv => rhs; unfold hexL
        rw [if_neg (by omega)]
        simp
      · simp only [List.length_cons]
        omega
      · have e6 : 65 - (hexd (u % 16) :: D).length = k := by simp only [List.length_cons]; omega
        rw [e6]
        exact s
  · refine WP.step ?_ (fun r w h => WP.done h)
    unfold strconv_formatBits.K1
    have hd := digs_tab ⟨u, by omega⟩
    simp only at hd
    rw [digs_size, hd, hk2]
    refine WP.chk ⟨by omega, by omega⟩ (stc (by omega) s (fun w s => ?_))
    have hfin : hexd u :: D = hex4 n := by
      rw [← hD]
      cases f with
      | zero =>
        unfold hexL
        rw [Nat.mod_eq_of_lt (by omega)]
        rfl
      | succ f =>
        unfold hexL
        rw [if_pos (by omega)]
        rfl
    refine WP.ite (fun h => by cases h) (fun _ => WP.ite (fun h => by cases h) (fun _ => ?_))
    refine WP.cutsuf (by omega) (by simp only; omega) (by simp only; omega) ?_
    have hlen : (hex4 n).length = 65 - k := by
      rw [← hfin, List.length_cons]
      omega
    have hat : At ((List.replicate k (0 : Int) ++ hexd u :: D).flatMap (cI .u8).enc) ((k : Int).toNat * 1) ((hex4 n).flatMap (cI .u8).enc) := by
      refine ⟨(List.replicate k (0 : Int)).flatMap (cI .u8).enc, [], by rw [hfin, List.flatMap_append, List.append_nil], ?_⟩
      rw [flat_len, List.length_replicate, Int.toNat_natCast]
      rfl
    have hr := ((Holds.pts (q := true) (a := pt b 0)).at_ hat).rdb (c := cI .u8) (k := 65 - (k : Int).toNat)
    have hq : (⟨if 65 = (k : Int).toNat then some (pt b 0) else (some (pt b 0)).map (·.add ((k : Int).toNat * 1)), 65 - (k : Int).toNat, 65 - (k : Int).toNat⟩ : Sl) = ⟨some ((pt b 0).add ((k : Int).toNat * 1)), (hex4 n).length, 65 - (k : Int).toNat⟩ := by
      rw [if_neg (by omega), hlen, Int.toNat_natCast]
      rfl
    rw [hq]
    exact WP.toStr s 0 rfl hr (WP.ret ⟨rfl, s.drop⟩)
end
end Go.Proofs.YtddmmgcfanpmmaaGreatDoor.Lx
