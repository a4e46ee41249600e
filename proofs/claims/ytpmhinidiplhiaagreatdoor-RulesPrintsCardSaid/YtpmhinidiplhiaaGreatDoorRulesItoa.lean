
import Derived.Test.YtpmhinidiplhiaaGreatDoorRulesCheck
set_option linter.unusedVariables false
set_option linter.unusedSimpArgs false
namespace Go.Proofs.YtpmhinidiplhiaaGreatDoor.Lx
open Go Go.Proofs Go.RowKit
def dec5 (n : Nat) : List Int := (if n < 10000 then [] else [48 + ((n / 10000 : Nat) : Int)]) ++ [48 + ((n % 10000 / 100 / 10 : Nat) : Int), 48 + ((n % 10000 / 100 % 10 : Nat) : Int), 48 + ((n % 10000 % 100 / 10 : Nat) : Int), 48 + ((n % 10000 % 100 % 10 : Nat) : Int)]
def nd5 (n : Nat) : Nat := if n < 10000 then 4 else 5
theorem ZlR (n : Nat) : (dec5 n).length = nd5 n := by
 unfold dec5 nd5
 split <;> rfl
theorem Zlb {n : Nat} (h : n < 1000) : decM (n : Int) = dec3 n := by
 unfold decM dec3
 rw [Int.toNat_natCast]
 by_cases h1 : n < 10
 ·rw [if_pos h1, decF, if_pos h1]
 rw [if_neg h1, decF, if_neg h1]
 by_cases h2 : n < 100
 ·rw [if_pos h2, decF, if_pos (by omega)]
  rfl
 ·rw [if_neg h2, decF, if_neg (by omega), decF, if_pos (by omega), Nat.div_div_eq_div_mul]
  rfl
theorem ZoE {n : Nat} (h0 : 1000 ≤ n) (h : n < 65536) : decM (n : Int) = dec5 n := by
 unfold decM dec5
 rw [Int.toNat_natCast]
 rw [decF, if_neg (by omega), decF, if_neg (by omega), decF, if_neg (by omega)]
 by_cases h1 : n < 10000
 ·rw [if_pos h1, decF, if_pos (by omega)]
  simp only [List.nil_append, List.cons_append, List.cons.injEq, and_true, true_and, Nat.div_div_eq_div_mul]
  omega
 ·rw [if_neg h1, decF, if_neg (by omega), decF, if_pos (by omega)]
  simp only [List.nil_append, List.cons_append, List.cons.injEq, and_true, true_and, Nat.div_div_eq_div_mul]
  omega
theorem Zry : ∀ q : _root_.Fin 256, 3 ≤ q.val → 8 + sb str2 (q.val : Int) ≤ 64 ∧ (((8 + sb str2 (q.val : Int)) * 78913).fdiv (2 ^ 18) = 3 ∧ q.val < 32 ∨ ((8 + sb str2 (q.val : Int)) * 78913).fdiv (2 ^ 18) = 4) := by decide +kernel
section
variable {W w : World} {Hs : List HP}
theorem Zq0 {n : Nat} (h0 : 1000 ≤ n) (h : n < 65536) : WP (Zbd (n : Int)) w (fun r w' => r = Zky n ∧ w = w') := by
 have hs : (str2).size = 256 := by decide +kernel
 unfold Zbd
 refine WP.ite (fun h => absurd h (by omega)) (fun _ => ?_)
 unfold Zbd.K2
 refine WP.ite (fun h => absurd h (by omega)) (fun _ => ?_)
 unfold Zbd.K1 Zky
 have hd : Int.fdiv (n : Int) (2 ^ 8) = ((n / 256 : Nat) : Int) := Zjq n 256
 refine WP.ite (fun h => ?_) (fun h => absurd (by omega) h)
 rw [hd, ZdU (n := ((n / 256 : Nat) : Int)) (by omega) (by omega), hs]
 refine WP.chk ⟨by omega, by omega⟩ (WP.ret ⟨?_, rfl⟩)
 have := ZhV str2 ((n / 256 : Nat) : Int)
 rw [if_pos (by omega), Zah (n := 0 + 8) (by omega) (by omega), Zah (n := sb _ _) (by omega) (by omega), Zah (by omega) (by omega)]
 omega
theorem ZlE (s : Ss W Hs w) (i : Nat) (e : nth Hs i = some TabN) {n : Nat} (h0 : 1000 ≤ n) (h : n < 65536) : WP (Zb1 (n : Int)) w (fun r w' => r = (nd5 n : Int) ∧ w = w') := by
 unfold Zb1
 refine WP.step (Zq0 h0 h) ?_
 rintro _ _ ⟨rfl, rfl⟩
 have hlen : Zky n = 8 + sb str2 ((n / 256 : Nat) : Int) := by unfold Zky; rw [if_pos (by omega)]
 obtain ⟨t2, t5⟩ := Zry ⟨n / 256, by omega⟩ (by simp only; omega)
 have t1 := ZhV str2 ((n / 256 : Nat) : Int)
 simp only at t2 t5
 rw [← hlen] at t2 t5
 have hl : 0 ≤ Zky n := by rw [hlen]; omega
 have hd : l10 n = 3 ∧ n < 10000 ∨ l10 n = 4 := by
  unfold l10
  rcases t5 with ⟨t5, t6⟩ | t5
  ·exact .inl ⟨t5, by omega⟩
  ·exact .inr t5
 refine WP.step (R := fun r w' => r = l10 n ∧ w = w') ?_ ?_
 ·unfold Zcx
  refine WP.ret ⟨?_, rfl⟩
  rw [Zah (by omega) (by omega)]
  rfl
 rintro _ _ ⟨rfl, rfl⟩
 have t3 : 0 ≤ l10 n := by omega
 have t4 : l10 n < 20 := by omega
 refine WP.idx t3 (by omega) ?_
 have hat : At (((cI .u64).arr 20).enc Ze7) ((l10 n).toNat * (cI .u64).n) ((cI .u64).enc (Ze7.g (l10 n) 0)) := At.arr t3 t4
 refine WP.ldh s i e (TabN.pow.at_ hat) rfl ?_
 have hg : (l10 n = 3 → Ze7.g (l10 n) 0 = 1000) ∧ (l10 n = 4 → Ze7.g (l10 n) 0 = 10000) := ⟨fun h => by rw [h]; rfl, fun h => by rw [h]; rfl⟩
 refine WP.step (R := fun r w' => r = (if (n : Int) ≥ Ze7.g (l10 n) 0 then 1 else 0) ∧ w = w') ?_ ?_
 ·unfold Zcy
  refine WP.ite (fun h => WP.ret ⟨?_, rfl⟩) (fun h => WP.ret ⟨?_, rfl⟩)
  ·exact (if_pos (of_decide_eq_true h)).symm
  ·exact (if_neg (fun h' => h (decide_eq_true h'))).symm
 rintro _ _ ⟨rfl, rfl⟩
 refine WP.ret ⟨?_, rfl⟩
 unfold nd5
 rcases hd with ⟨h1, h2⟩ | h1
 ·rw [hg.1 h1, h1, if_pos (by omega), if_pos h2]
  rfl
 ·rw [hg.2 h1, h1]
  by_cases h2 : n < 10000
  ·rw [if_neg (by omega), if_pos h2]
   rfl
  ·rw [if_pos (by omega), if_neg h2]
   rfl
theorem stcW {β : Type} {a : Addr} {pre suf : List Int} {N : Nat} {k : Int} {ys : List Int} {v : Int} {f : Unit → M β} {Q : β → World → Prop} (s : Ss W (pts true a ((pre ++ ys ++ suf).flatMap (cI .u8).enc) :: Hs) w) (hl : ys.length = N) (k0 : 0 ≤ k) (k1 : k < N)
  (g : ∀ w', Ss W (pts true a ((pre ++ ys.set k.toNat v ++ suf).flatMap (cI .u8).enc) :: Hs) w' → WP (f ()) w' Q) : WP (idx (some (a.add pre.length)) N k 1 >>= fun p => st (cI .u8) p v >>= f) w Q := by
 refine WP.idx k0 (by omega) ?_
 have hk : pre.length + k.toNat < (pre ++ ys ++ suf).length := by simp only [List.length_append]; omega
 refine WP.st s 0 rfl (o := (pre.length + k.toNat) * 1) (by rw [Zei]; congr 1; omega) (Zrc (c := cI .u8) v hk) (fun w s => g w ?_)
 have e : (pre ++ ys ++ suf).set (pre.length + k.toNat) v = pre ++ ys.set k.toNat v ++ suf := by
  rw [List.append_assoc, List.set_append_right _ _ (by omega), Nat.add_sub_cancel_left, List.set_append_left _ _ (by omega), ← List.append_assoc]
 rw [e] at s
 exact s
theorem Zpm {a : Addr} {cap : Nat} {pre suf : List Int} (n : Nat) (h0 : 1000 ≤ n) (h : n < 65536) {xs : List Int} (hx : xs.length = nd5 n) (s : Ss W (pts true a ((pre ++ xs ++ suf).flatMap (cI .u8).enc) :: Hs) w) :
  WP (Zab ⟨some (a.add pre.length), nd5 n, cap⟩ (n : Int)) w (fun _ w' => Ss W (pts true a ((pre ++ dec5 n ++ suf).flatMap (cI .u8).enc) :: Hs) w') := by
 unfold Zab
 refine WP.loop (fun (p : Int × Int) w' => p = ((n : Int), ((nd5 n : Nat) : Int)) ∧ Ss W (pts true a ((pre ++ xs ++ suf).flatMap (cI .u8).enc) :: Hs) w') (fun _ _ => 0) ⟨rfl, s⟩ ?_
 clear s
 rintro _ w ⟨rfl, s⟩
 have hnd : nd5 n = 4 ∧ n < 10000 ∨ nd5 n = 5 ∧ ¬ n < 10000 := by
  unfold nd5
  split
  ·exact .inl ⟨rfl, ‹_›⟩
  ·exact .inr ⟨rfl, ‹_›⟩
 show WP (Zab.L1 _ (n : Int) ((nd5 n : Nat) : Int)) w _
 unfold Zab.L1
 refine WP.ite (fun h => absurd h (by omega)) (fun _ => ?_)
 refine WP.step ?_ (fun r w h => WP.done h)
 unfold Zab.K3
 have hw : IntKind.wrap .u32 (n : Int) = (n : Int) := Zen (by omega) (by omega)
 have hm : Int.tmod (n : Int) 10000 = ((n % 10000 : Nat) : Int) := Zlm n 10000
 have hd : Int.tdiv (n : Int) 10000 = ((n / 10000 : Nat) : Int) := Zln n 10000
 have hm2 : Int.tmod ((n % 10000 : Nat) : Int) 100 = ((n % 10000 % 100 : Nat) : Int) := Zlm (n % 10000) 100
 have hd2 : Int.tdiv ((n % 10000 : Nat) : Int) 100 = ((n % 10000 / 100 : Nat) : Int) := Zln (n % 10000) 100
 have dbl : ∀ k : Nat, k < 100 → IntKind.wrap .u32 ((k : Int) * 2) = 2 * (k : Int) ∧ IntKind.wrap .u32 (2 * (k : Int) + 1) = 2 * (k : Int) + 1 := fun k hk => ⟨by rw [Zen (by omega) (by omega)]; omega, Zen (by omega) (by omega)⟩
 obtain ⟨b1, b2⟩ := dbl (n % 10000 % 100) (by omega)
 obtain ⟨c1, c2⟩ := dbl (n % 10000 / 100) (by omega)
 obtain ⟨q1, q2⟩ := ZpF ⟨n % 10000 % 100, by omega⟩
 obtain ⟨r1, r2⟩ := ZpF ⟨n % 10000 / 100, by omega⟩
 simp only at q1 q2 r1 r2
 refine WP.ite (fun _ => WP.draw' s (fun w s => ?_)) (fun h => absurd (by omega) h)
 rw [hw, hm, hm2, hd2, hd, b1, b2, Zen (n := ((n % 10000 / 100 : Nat) : Int)) (by omega) (by omega), c1, c2, q1, q2, r1, r2, Zhw]
 refine WP.chk ⟨by omega, by omega⟩ (WP.chk ⟨by omega, by omega⟩ ?_)
 rw [Zah (n := ((nd5 n : Nat) : Int) - 1) (by omega) (by omega), Zah (n := ((nd5 n : Nat) : Int) - 2) (by omega) (by omega), Zah (n := ((nd5 n : Nat) : Int) - 3) (by omega) (by omega), Zah (n := ((nd5 n : Nat) : Int) - 4) (by omega) (by omega)]
 refine stcW (N := nd5 n) s hx (by omega) (by omega) (fun w s => ?_)
 refine stcW (N := nd5 n) s (by rw [List.length_set]; exact hx) (by omega) (by omega) (fun w s => WP.draw' s (fun w s => ?_))
 refine WP.chk ⟨by omega, by omega⟩ (WP.chk ⟨by omega, by omega⟩ ?_)
 refine stcW (N := nd5 n) s (by rw [List.length_set, List.length_set]; exact hx) (by omega) (by omega) (fun w s => ?_)
 refine stcW (N := nd5 n) s (by rw [List.length_set, List.length_set, List.length_set]; exact hx) (by omega) (by omega) (fun w s => ?_)
 unfold Zab.K2
 refine WP.ite (fun h => absurd h (by omega)) (fun _ => ?_)
 unfold Zab.K1
 rcases hnd with ⟨h1, h2⟩ | ⟨h1, h2⟩
 ·rw [h1] at s hx ⊢
  obtain ⟨x1, x2, x3, x4, rfl⟩ : ∃ x1 x2 x3 x4, xs = [x1, x2, x3, x4] := by
   match xs, hx with
   | [x1, x2, x3, x4], _ => exact ⟨x1, x2, x3, x4, rfl⟩
  refine WP.ite (fun h => absurd h (by decide)) (fun _ => WP.ret ?_)
  have e : dec5 n = [48 + ((n % 10000 / 100 / 10 : Nat) : Int), 48 + ((n % 10000 / 100 % 10 : Nat) : Int), 48 + ((n % 10000 % 100 / 10 : Nat) : Int), 48 + ((n % 10000 % 100 % 10 : Nat) : Int)] := by unfold dec5; rw [if_pos h2]; rfl
  rw [e]
  exact s
 ·rw [h1] at s hx ⊢
  obtain ⟨x1, x2, x3, x4, x5, rfl⟩ : ∃ x1 x2 x3 x4 x5, xs = [x1, x2, x3, x4, x5] := by
   match xs, hx with
   | [x1, x2, x3, x4, x5], _ => exact ⟨x1, x2, x3, x4, x5, rfl⟩
  have e : dec5 n = [48 + ((n / 10000 : Nat) : Int), 48 + ((n % 10000 / 100 / 10 : Nat) : Int), 48 + ((n % 10000 / 100 % 10 : Nat) : Int), 48 + ((n % 10000 % 100 / 10 : Nat) : Int), 48 + ((n % 10000 % 100 % 10 : Nat) : Int)] := by unfold dec5; rw [if_neg h2]; rfl
  refine WP.ite (fun _ => ?_) (fun h => absurd (by decide) h)
  have e1 : IntKind.wrap .u8 (IntKind.wrap .u32 (48 + IntKind.wrap .u32 ((n / 10000 : Nat) : Int))) = 48 + ((n / 10000 : Nat) : Int) := by
   rw [Zen (n := ((n / 10000 : Nat) : Int)) (by omega) (by omega), Zen (by omega) (by omega), ZdU (by omega) (by omega)]
  rw [e1]
  refine stcW (N := 5) s rfl (by omega) (by decide) (fun w s => WP.ret ?_)
  rw [e]
  exact s
theorem Zl3 (s : Ss W Hs w) (i : Nat) (e : nth Hs i = some TabN) {n : Nat} (h0 : 1000 ≤ n) (h : n < 65536) : WP (ZaU (n : Int) 10) w (fun r w' => r = bstr (dec5 n) ∧ Ss W Hs w') := by
 unfold ZaU
 refine WP.ite (fun _ => ?_) (fun h => absurd rfl h)
 refine WP.step (R := fun y w' => y = decide (n < 100) ∧ w = w') (WP.ite (fun _ => WP.ret ⟨?_, rfl⟩) (fun h => absurd (by omega) h)) ?_
 ·exact decide_eq_decide.2 ⟨fun h => by omega, fun h => by omega⟩
 rintro _ _ ⟨rfl, rfl⟩
 refine WP.ite (fun h' => absurd (of_decide_eq_true h') (by omega)) (fun h' => ?_)
 refine WP.newv s (fun b w s => ?_)
 refine WP.ite (fun h => absurd h (by omega)) (fun _ => ?_)
 rw [Zfh (by omega) (by omega)]
 unfold ZaU.K1
 refine WP.step (ZlE s (i + 1) e h0 h) ?_
 rintro _ _ ⟨rfl, rfl⟩
 have hnd : nd5 n = 4 ∨ nd5 n = 5 := by
  unfold nd5
  split
  ·exact .inl rfl
  ·exact .inr rfl
 rw [Zah (by omega) (by omega)]
 have hs : Ss W (pts true (pt b 0) (([0] ++ List.replicate (nd5 n) 0 ++ List.replicate (23 - nd5 n) 0 : List Int).flatMap (cI .u8).enc) :: Hs) w := by
  rw [Cod.arr_enc] at s
  rcases hnd with h | h <;> rw [h] <;> exact s
 refine WP.cutlh (by omega) (by omega) (by omega) (by omega) ?_
 have e1 : (1 + ((nd5 n : Nat) : Int)).toNat - (1 : Int).toNat = nd5 n := by omega
 rw [e1]
 refine WP.step (Zpm (a := pt b 0) (cap := 24 - (1 : Int).toNat) (pre := [0]) (suf := List.replicate (23 - nd5 n) 0) n h0 h (xs := List.replicate (nd5 n) 0) (by simp) hs) ?_
 rintro _ w s
 refine WP.ite (fun h => absurd h (by omega)) (fun _ => ?_)
 refine WP.cutlh (by omega) (by omega) (by omega) (by omega) ?_
 rw [e1]
 have hat : At (([0] ++ dec5 n ++ List.replicate (23 - nd5 n) 0 : List Int).flatMap (cI .u8).enc) ((1 : Int).toNat * 1) ((dec5 n).flatMap (cI .u8).enc) := by
  refine ⟨([0] : List Int).flatMap (cI .u8).enc, (List.replicate (23 - nd5 n) (0 : Int)).flatMap (cI .u8).enc, ?_, rfl⟩
  rw [List.flatMap_append, List.flatMap_append]
 have hr : Rdb (pts true (pt b 0) (([0] ++ dec5 n ++ List.replicate (23 - nd5 n) 0 : List Int).flatMap (cI .u8).enc)) (cI .u8) ⟨some ((pt b 0).add ((1 : Int).toNat * 1)), nd5 n, 24 - (1 : Int).toNat⟩ (dec5 n) := by
  have := ((Zec.pts (q := true) (a := pt b 0)).at_ hat).rdb (c := cI .u8) (k := 24 - (1 : Int).toNat)
  rw [ZlR] at this
  exact this
 refine WP.toStr s 0 rfl hr (WP.ret ⟨rfl, s.drop⟩)
theorem Zga (s : Ss W Hs w) (i : Nat) (e : nth Hs i = some TabN) {v : Int} (h0 : 0 ≤ v) (h : v < 65536) : WP (ZbH v) w (fun r w' => r = bstr (decM v) ∧ Ss W Hs w') := by
 obtain ⟨n, rfl⟩ : ∃ n : Nat, v = (n : Int) := ⟨v.toNat, by omega⟩
 by_cases hn : n < 1000
 ·rw [Zlb hn]
  exact ZnW s i e hn
 ·rw [ZoE (by omega) (by omega)]
  unfold ZbH
  refine WP.step (R := fun r w' => r = bstr (dec5 n) ∧ Ss W Hs w') ?_ (fun r w h => WP.ret h)
  unfold ZdV
  exact WP.step (Zl3 s i e (by omega) (by omega)) (fun r w h => WP.ret h)
end
end Go.Proofs.YtpmhinidiplhiaaGreatDoor.Lx
