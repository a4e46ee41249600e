/- Plain words, put together. -/
import Derived.Test.YtpmhinidiplhiaaGreatDoorLxMs
import Derived.Test.YtpmhinidiplhiaaGreatDoorLxSh
import Derived.Test.YtpmhinidiplhiaaGreatDoorLxP
set_option linter.unusedVariables false
set_option linter.unusedSimpArgs false
namespace Go.Proofs.YtpmhinidiplhiaaGreatDoor.Lx
open Go Go.Proofs Go.RowKit
def Byt (l : List Int) : Prop := ∀ x ∈ l, 0 ≤ x ∧ x ≤ 255
theorem Byt.strI (s : ByteArray) : Byt (strI s) := fun x hx => by
 obtain ⟨y, _, rfl⟩ := List.mem_map.1 hx
 have := y.toNat_lt
 constructor <;> omega
theorem Byt.app {a b : List Int} (ha : Byt a) (hb : Byt b) : Byt (a ++ b) := fun x hx => (List.mem_append.1 hx).elim (ha x) (hb x)
theorem Zgt {l : List Int} (h : Byt l) : strI (bstr l) = l := by
 unfold strI bstr
 rw [List.map_map]
 conv => rhs; rw [← List.map_id l]
 apply List.map_congr_left
 intro x hx
 have := h x hx
 show ((UInt8.ofNat x.toNat).toNat : Int) = x
 rw [UInt8.toNat_ofNat']
 omega
theorem Zkk (s : ByteArray) : bstr (strI s) = s := by
 obtain ⟨⟨l⟩⟩ := s
 unfold strI bstr
 rw [List.map_map]
 have : ((fun n : Int => UInt8.ofNat n.toNat) ∘ fun x : UInt8 => (x.toNat : Int)) = id := by
  funext x
  show UInt8.ofNat ((x.toNat : Int).toNat) = x
  rw [Int.toNat_natCast, UInt8.ofNat_toNat]
 rw [this, List.map_id]
theorem Zfh {n : Int} (h : 0 ≤ n) (h' : n ≤ 18446744073709551615) : IntKind.wrap .u64 n = n := by
 simp [IntKind.wrap, IntKind.bits, IntKind.signed]
 omega
def Ze7 : Vec Int 20 := ⟨[1, 10, 100, 1000, 10000, 100000, 1000000, 10000000, 100000000, 1000000000, 10000000000, 100000000000, 1000000000000, 10000000000000, 100000000000000, 1000000000000000, 10000000000000000, 100000000000000000, 1000000000000000000, 10000000000000000000], rfl⟩
def dbV : Vec Int 64 := ⟨[0, 1, 56, 2, 57, 49, 28, 3, 61, 58, 42, 50, 38, 29, 17, 4, 62, 47, 59, 36, 45, 43, 51, 22, 53, 39, 33, 30, 24, 18, 12, 5, 63, 55, 48, 27, 60, 41, 37, 16, 46, 35, 44, 21, 52, 32, 23, 11, 54, 26, 40, 15, 34, 20, 31, 10, 25, 14, 19, 9, 13, 8, 7, 6], rfl⟩
def TabN : HP := fun h => pts false ⟨5, 0, none⟩ (((cI .u64).arr 20).enc Ze7) h ∧ pts false ⟨8, 0, none⟩ (((cI .u8).arr 64).enc dbV) h
theorem TabN.pow : Zec TabN ⟨5, 0, none⟩ (((cI .u64).arr 20).enc Ze7) := fun h hh => Zec.pts h hh.1
theorem TabN.db : Zec TabN ⟨8, 0, none⟩ (((cI .u8).arr 64).enc dbV) := fun h hh => Zec.pts h hh.2
def dec3 (n : Nat) : List Int := if n < 10 then [48 + (n : Int)] else if n < 100 then [48 + (n / 10 : Nat), 48 + (n % 10 : Nat)] else [48 + (n / 100 : Nat), 48 + (n / 10 % 10 : Nat), 48 + (n % 10 : Nat)]
def ndig (n : Nat) : Nat := if n < 10 then 1 else if n < 100 then 2 else 3
theorem Zfv (n : Nat) : (dec3 n).length = ndig n := by
 unfold dec3 ndig
 split
 ·rfl
 ·split <;> rfl
theorem Zjr {n : Nat} (h : n < 1000) : Byt (dec3 n) := by
 unfold dec3
 intro x hx
 split at hx
 ·simp only [List.mem_cons, List.not_mem_nil, or_false] at hx
  omega
 ·split at hx <;> simp only [List.mem_cons, List.not_mem_nil, or_false] at hx <;> omega
theorem ZpF : ∀ k : _root_.Fin 100, sb str1 (2 * (k.val : Int)) = 48 + ((k.val / 10 : Nat) : Int) ∧ sb str1 (2 * (k.val : Int) + 1) = 48 + ((k.val % 10 : Nat) : Int) := by decide +kernel
theorem Zhw : (str1).size = 200 := by decide +kernel
theorem Zkd : (str0).size = 36 := by decide +kernel
section
variable {W w : World} {Hs : List HP}
def Zky (n : Nat) : Int := if n ≥ 256 then 8 + sb str2 ((n / 256 : Nat) : Int) else sb str2 (n : Int)
def l10 (n : Nat) : Int := Int.fdiv (Zky n * 78913) (2 ^ 18)
theorem ZsV : ∀ k : _root_.Fin 1000, 0 ≤ Zky k.val ∧ Zky k.val ≤ 64 ∧ 0 ≤ l10 k.val ∧ l10 k.val < 20 ∧ l10 k.val + (if (k.val : Int) ≥ Ze7.l.getD (l10 k.val).toNat 0 then 1 else 0) = (ndig k.val : Int) ∨ k.val = 0 := by decide +kernel
theorem ZdU {n : Int} (h : 0 ≤ n) (h' : n ≤ 255) : IntKind.wrap .u8 n = n := by
 simp [IntKind.wrap, IntKind.bits, IntKind.signed]
 omega
theorem Zen {n : Int} (h : 0 ≤ n) (h' : n ≤ 4294967295) : IntKind.wrap .u32 n = n := by
 simp [IntKind.wrap, IntKind.bits, IntKind.signed]
 omega
theorem Zjq (n k : Nat) : Int.fdiv (n : Int) (k : Int) = ((n / k : Nat) : Int) := by
 rw [Int.fdiv_eq_ediv_of_nonneg _ (by omega)]
 rfl
theorem ZhV (s : ByteArray) (i : Int) : 0 ≤ sb s i ∧ sb s i ≤ 255 := by
 unfold sb
 have := (s.data.toList.getD i.toNat 0).toNat_lt
 constructor <;> omega
theorem Zr2 {n : Nat} (h : n < 1000) : WP (Zbd (n : Int)) w (fun r w' => r = Zky n ∧ w = w') := by
 have hs : (str2).size = 256 := by decide +kernel
 unfold Zbd
 refine WP.ite (fun h => absurd h (by omega)) (fun _ => ?_)
 unfold Zbd.K2
 refine WP.ite (fun h => absurd h (by omega)) (fun _ => ?_)
 unfold Zbd.K1 Zky
 have hd : Int.fdiv (n : Int) (2 ^ 8) = ((n / 256 : Nat) : Int) := Zjq n 256
 refine WP.ite (fun h => ?_) (fun h => ?_)
 ·rw [hd, ZdU (n := ((n / 256 : Nat) : Int)) (by omega) (by omega), hs]
  refine WP.chk ⟨by omega, by omega⟩ (WP.ret ⟨?_, rfl⟩)
  have := ZhV str2 ((n / 256 : Nat) : Int)
  rw [if_pos (by omega), Zah (n := 0 + 8) (by omega) (by omega), Zah (n := sb _ _) (by omega) (by omega), Zah (by omega) (by omega)]
  omega
 ·rw [ZdU (n := (n : Int)) (by omega) (by omega), hs]
  refine WP.chk ⟨by omega, by omega⟩ (WP.ret ⟨?_, rfl⟩)
  have := ZhV str2 (n : Int)
  rw [if_neg (by omega), Zah (n := sb _ _) (by omega) (by omega), Zah (by omega) (by omega)]
  omega
theorem Zmz (s : Ss W Hs w) (i : Nat) (e : nth Hs i = some TabN) {n : Nat} (h0 : 0 < n) (h : n < 1000) : WP (Zb1 (n : Int)) w (fun r w' => r = (ndig n : Int) ∧ w = w') := by
 unfold Zb1
 refine WP.step (Zr2 h) ?_
 rintro _ _ ⟨rfl, rfl⟩
 obtain ⟨t1, t2, t3, t4, t5⟩ | t := ZsV ⟨n, h⟩
 rotate_left
 ·simp only at t
  omega
 simp only at t1 t2 t3 t4 t5
 refine WP.step (R := fun r w' => r = l10 n ∧ w = w') ?_ ?_
 ·unfold Zcx
  refine WP.ret ⟨?_, rfl⟩
  rw [Zah (by omega) (by omega)]
  rfl
 rintro _ _ ⟨rfl, rfl⟩
 refine WP.idx t3 (by omega) ?_
 have hat : At (((cI .u64).arr 20).enc Ze7) ((l10 n).toNat * (cI .u64).n) ((cI .u64).enc (Ze7.g (l10 n) 0)) := At.arr t3 t4
 refine WP.ldh s i e (TabN.pow.at_ hat) rfl ?_
 refine WP.step (R := fun r w' => r = (if (n : Int) ≥ Ze7.l.getD (l10 n).toNat 0 then 1 else 0) ∧ w = w') ?_ ?_
 ·unfold Zcy
  refine WP.ite (fun h => WP.ret ⟨?_, rfl⟩) (fun h => WP.ret ⟨?_, rfl⟩)
  ·exact (if_pos (show (n : Int) ≥ Ze7.l.getD (l10 n).toNat 0 from of_decide_eq_true h)).symm
  ·exact (if_neg (show ¬ (n : Int) ≥ Ze7.l.getD (l10 n).toNat 0 from fun h' => h (decide_eq_true h'))).symm
 rintro _ _ ⟨rfl, rfl⟩
 refine WP.ret ⟨?_, rfl⟩
 have : (ndig n : Int) ≤ 3 := by
  unfold ndig
  split
  ·omega
  ·split <;> omega
 rw [t5]
 exact Zah (by omega) (by omega)
theorem Zlm (n k : Nat) : Int.tmod (n : Int) (k : Int) = ((n % k : Nat) : Int) := by
 rw [Int.tmod_eq_emod_of_nonneg (by omega)]
 rfl
theorem Zln (n k : Nat) : Int.tdiv (n : Int) (k : Int) = ((n / k : Nat) : Int) := by
 rw [Int.tdiv_eq_ediv_of_nonneg (by omega)]
 rfl
theorem ZqU {a : Addr} {cap : Nat} {pre suf : List Int} (n : Nat) (h : n < 1000) {xs : List Int} (hx : xs.length = ndig n) (s : Ss W (pts true a ((pre ++ xs ++ suf).flatMap (cI .u8).enc) :: Hs) w) :
  WP (Zab ⟨some (a.add pre.length), ndig n, cap⟩ (n : Int)) w (fun _ w' => Ss W (pts true a ((pre ++ dec3 n ++ suf).flatMap (cI .u8).enc) :: Hs) w') := by
 have stc : ∀ {β : Type} {w : World} {k : Int} {ys : List Int} {v : Int} {f : Unit → M β} {Q : β → World → Prop}, Ss W (pts true a ((pre ++ ys ++ suf).flatMap (cI .u8).enc) :: Hs) w → ys.length = ndig n → 0 ≤ k → k < ndig n →
   (∀ w', Ss W (pts true a ((pre ++ ys.set k.toNat v ++ suf).flatMap (cI .u8).enc) :: Hs) w' → WP (f ()) w' Q) → WP (idx (some (a.add pre.length)) (ndig n) k 1 >>= fun p => st (cI .u8) p v >>= f) w Q := by
  intro β w k ys v f Q s hl k0 k1 g
  refine WP.idx k0 (by omega) ?_
  have hk : pre.length + k.toNat < (pre ++ ys ++ suf).length := by simp only [List.length_append]; omega
  refine WP.st s 0 rfl (o := (pre.length + k.toNat) * 1) (by rw [Zei]; congr 1; omega) (Zrc (c := cI .u8) v hk) (fun w s => g w ?_)
  have e : (pre ++ ys ++ suf).set (pre.length + k.toNat) v = pre ++ ys.set k.toNat v ++ suf := by
   rw [List.append_assoc, List.set_append_right _ _ (by omega), Nat.add_sub_cancel_left, List.set_append_left _ _ (by omega), ← List.append_assoc]
  rw [e] at s
  exact s
 unfold Zab
 refine WP.loop (fun (p : Int × Int) w' => p = ((n : Int), ((ndig n : Nat) : Int)) ∧ Ss W (pts true a ((pre ++ xs ++ suf).flatMap (cI .u8).enc) :: Hs) w') (fun _ _ => 0) ⟨rfl, s⟩ ?_
 clear s
 rintro _ w ⟨rfl, s⟩
 have hnd : ndig n ≤ 3 := by
  unfold ndig
  split
  ·omega
  ·split <;> omega
 show WP (Zab.L1 _ (n : Int) ((ndig n : Nat) : Int)) w _
 unfold Zab.L1
 refine WP.ite (fun h => absurd h (by omega)) (fun _ => ?_)
 refine WP.step ?_ (fun r w h => WP.done h)
 unfold Zab.K3
 refine WP.ite (fun h => absurd h (by omega)) (fun _ => ?_)
 rw [Zen (n := (n : Int)) (by omega) (by omega)]
 unfold Zab.K2
 have K1 : ∀ {w : World} {j : Nat} {ys : List Int} (k : Int), j < 10 → k = 1 ∨ k = 0 → (k = 0 → ys = dec3 n) → (k = 1 → ys.set 0 (48 + (j : Int)) = dec3 n) → ys.length = ndig n → Ss W (pts true a ((pre ++ ys ++ suf).flatMap (cI .u8).enc) :: Hs) w →
   WP (Zab.K1 ⟨some (a.add pre.length), ndig n, cap⟩ k (j : Int)) w (fun _ w' => Ss W (pts true a ((pre ++ dec3 n ++ suf).flatMap (cI .u8).enc) :: Hs) w') := by
  intro w j ys k hj hk h0 h1 hl s
  unfold Zab.K1
  refine WP.ite (fun h => ?_) (fun h => ?_)
  ·have hk1 : k = 1 := by omega
   have e : IntKind.wrap .u8 (IntKind.wrap .u32 (48 + (j : Int))) = 48 + (j : Int) := by
    rw [Zen (by omega) (by omega), ZdU (by omega) (by omega)]
   rw [e]
   refine stc s hl (by omega) (by unfold ndig; split; omega; split <;> omega) (fun w s => WP.ret ?_)
   have h1 := h1 hk1
   rw [← h1]
   exact s
  ·have h0 := h0 (by omega)
   subst h0
   exact WP.ret s
 by_cases hn : n < 10
 ·have e1 : ndig n = 1 := by unfold ndig; rw [if_pos hn]
  have e2 : dec3 n = [48 + (n : Int)] := by unfold dec3; rw [if_pos hn]
  refine WP.ite (fun h => absurd h (by omega)) (fun _ => ?_)
  rw [e1] at hx
  obtain ⟨x, rfl⟩ : ∃ x, xs = [x] := by
   match xs, hx with
   | [x], _ => exact ⟨x, rfl⟩
  exact K1 (j := n) (ys := [x]) _ hn (.inl (by rw [e1]; rfl)) (fun h => by rw [e1] at h; cases h) (fun _ => by rw [e2]; rfl) (by rw [e1]; rfl) s
 ·have hm : Int.tmod (n : Int) 100 = ((n % 100 : Nat) : Int) := Zlm n 100
  have hd : Int.tdiv (n : Int) 100 = ((n / 100 : Nat) : Int) := Zln n 100
  obtain ⟨q1, q2⟩ := ZpF ⟨n % 100, by omega⟩
  simp only at q1 q2
  have hw2 : IntKind.wrap .u32 (((n % 100 : Nat) : Int) * 2) = 2 * ((n % 100 : Nat) : Int) := by
   rw [Zen (by omega) (by omega)]
   omega
  have hnd2 : 2 ≤ ndig n := by
   unfold ndig
   rw [if_neg hn]
   split <;> omega
  refine WP.ite (fun _ => WP.draw' s (fun w s => ?_)) (fun h => absurd (by omega) h)
  rw [hm, hd, hw2, Zen (n := 2 * ((n % 100 : Nat) : Int) + 1) (by omega) (by omega), Zhw, q1, q2]
  refine WP.chk ⟨by omega, by omega⟩ (WP.chk ⟨by omega, by omega⟩ ?_)
  rw [Zah (n := ((ndig n : Nat) : Int) - 1) (by omega) (by omega), Zah (n := ((ndig n : Nat) : Int) - 2) (by omega) (by omega)]
  refine stc s hx (by omega) (by omega) (fun w s => ?_)
  refine stc s (by rw [List.length_set]; exact hx) (by omega) (by omega) (fun w s => ?_)
  rw [Zen (by omega) (by omega)]
  by_cases hn2 : n < 100
  ·have e1 : ndig n = 2 := by unfold ndig; rw [if_neg hn, if_pos hn2]
   have e2 : dec3 n = [48 + ((n / 10 : Nat) : Int), 48 + ((n % 10 : Nat) : Int)] := by unfold dec3; rw [if_neg hn, if_pos hn2]
   have hx2 := hx
   rw [e1] at hx2
   obtain ⟨x, y, rfl⟩ : ∃ x y, xs = [x, y] := by
    match xs, hx2 with
    | [x, y], _ => exact ⟨x, y, rfl⟩
   refine K1 (j := n / 100) _ (by omega) (.inr (by rw [e1]; rfl)) (fun _ => ?_) (fun h => by rw [e1] at h; cases h) (by simp only [List.length_set]; exact hx) s
   rw [e1, e2]
   have h5 : n % 100 / 10 = n / 10 := by omega
   have h6 : n % 100 % 10 = n % 10 := by omega
   rw [h5, h6]
   rfl
  ·have e1 : ndig n = 3 := by unfold ndig; rw [if_neg hn, if_neg hn2]
   have e2 : dec3 n = [48 + ((n / 100 : Nat) : Int), 48 + ((n / 10 % 10 : Nat) : Int), 48 + ((n % 10 : Nat) : Int)] := by unfold dec3; rw [if_neg hn, if_neg hn2]
   have hx2 := hx
   rw [e1] at hx2
   obtain ⟨x, y, z, rfl⟩ : ∃ x y z, xs = [x, y, z] := by
    match xs, hx2 with
    | [x, y, z], _ => exact ⟨x, y, z, rfl⟩
   refine K1 (j := n / 100) _ (by omega) (.inl (by rw [e1]; rfl)) (fun h => by rw [e1] at h; cases h) (fun _ => ?_) (by simp only [List.length_set]; exact hx) s
   rw [e1, e2]
   have h5 : n % 100 / 10 = n / 10 % 10 := by omega
   have h6 : n % 100 % 10 = n % 10 := by omega
   rw [h5, h6]
   rfl
end
def Zew (c : Int) : Bool := decide (48 ≤ c ∧ c ≤ 57)
def hexV (c : Int) : Int := if 48 ≤ c ∧ c ≤ 57 then c - 48 else if 97 ≤ c ∧ c ≤ 102 then c - 87 else if 65 ≤ c ∧ c ≤ 70 then c - 55 else -1
def ZfQ (c : Int) : Bool := decide (hexV c ≥ 0)
def runE (p : Int → Bool) (l : List Int) (i : Nat) : Nat := i + ((l.drop i).takeWhile p).length
abbrev Flt := Int × Nat
def ZnE (l : List Int) (i : Nat) : Flt := if i = l.length then (42, i) else (41, i)
def valD (l : List Int) : Nat := l.foldl (fun n c => 10 * n + (c - 48).toNat) 0
def numM (l : List Int) (i : Nat) (most wrong : Int) : Except Flt (Nat × Nat) :=
 if runE Zew l i = i then .error (ZnE l i)
 else if runE Zew l i - i > 3 ∨ (runE Zew l i - i > 1 ∧ l.getD i 0 = 48) then .error (wrong, i)
 else if (valD ((l.drop i).take (runE Zew l i - i)) : Int) > most then .error (wrong, i)
 else .ok (valD ((l.drop i).take (runE Zew l i - i)), runE Zew l i)
def sepM (l : List Int) (i : Nat) (first : Bool) : Except Flt Nat := if first = true then .ok i else if i = l.length ∨ l.getD i 0 ≠ 46 then .error (ZnE l i) else .ok (i + 1)
def Zhj (l : List Int) : Nat → Nat → List Nat → Except Flt (List Nat × Nat)
 | 0, i, acc => .ok (acc, i)
 | k + 1, i, acc => match sepM l i acc.isEmpty with
  | .error f => .error f
  | .ok j => match numM l j 255 43 with
   | .error f => .error f
   | .ok (n, e) => Zhj l k e (acc ++ [n])
def Zgp (l : List Int) (i : Nat) : Except Flt (List Nat) := match Zhj l 4 i [] with
 | .error f => .error f
 | .ok (a, e) => if e < l.length then .error (41, e) else .ok a
theorem Zer {s : ByteArray} {i : Nat} : sb s (i : Int) = (strI s).getD i 0 := by
 unfold sb strI
 rw [Int.toNat_natCast, List.getD, List.getD, List.getElem?_map]
 cases s.data.toList[i]? <;> rfl
theorem ZjI {p : Int → Bool} {l : List Int} {i : Nat} (h : i ≤ l.length) : i ≤ runE p l i ∧ runE p l i ≤ l.length := by
 unfold runE
 have := (List.takeWhile_sublist p (l := l.drop i)).length_le
 rw [List.length_drop] at this
 omega
theorem Zlx {p : Int → Bool} {l : List Int} {i k : Nat} (h1 : i ≤ k) (h2 : k ≤ runE p l i) : (k < l.length ∧ p (l.getD k 0) = true) ↔ k < runE p l i := by
 have hd : ∀ (l : List Int) (n : Nat), n ≤ (l.takeWhile p).length → ((n < l.length ∧ p (l.getD n 0) = true) ↔ n < (l.takeWhile p).length) := by
  intro l
  induction l with
  | nil => intro n hn; simp
  | cons x l ih =>
   intro n hn
   by_cases hx : p x = true
   ·simp only [List.takeWhile_cons, hx, if_true, List.length_cons] at hn ⊢
    cases n with
    | zero => simp [hx]
    | succ n =>
     have := ih n (by omega)
     simp only [List.getD_cons_succ]
     constructor
     ·rintro ⟨a, b⟩
      have := this.1 ⟨by omega, b⟩
      omega
     ·intro h
      have := this.2 (by omega)
      exact ⟨by omega, this.2⟩
   ·simp only [List.takeWhile_cons, hx, Bool.false_eq_true, if_false, List.length_nil] at hn ⊢
    have : n = 0 := by omega
    subst this
    simp [hx]
 unfold runE at h2 ⊢
 have := hd (l.drop i) (k - i) (by omega)
 have e : (l.drop i).getD (k - i) 0 = l.getD k 0 := by
  rw [List.getD, List.getD, List.getElem?_drop, show i + (k - i) = k by omega]
 rw [e, List.length_drop] at this
 constructor
 ·intro h
  have := this.1 ⟨by omega, h.2⟩
  omega
 ·intro h
  have := this.2 (by omega)
  exact ⟨by omega, this.2⟩
theorem Zji {p : Int → Bool} {l : List Int} {i k : Nat} (h1 : i ≤ k) (h2 : k < runE p l i) : p (l.getD k 0) = true := ((Zlx h1 (by omega)).2 h2).2
section
variable {W w : World} {Hs : List HP}
abbrev flt (f : Flt) : List Value := Zbt.enc ⟨f.1, (f.2 : Int)⟩
theorem ZoD (c : Int) : WP (Zem c) w (fun r w' => r = Zew c ∧ w = w') := by
 unfold Zem
 refine WP.step (R := fun r w' => r = Zew c ∧ w = w') (WP.ite (fun h => WP.ret ⟨?_, rfl⟩) (fun h => WP.ret ⟨?_, rfl⟩)) (fun r w h => WP.ret h)
 ·unfold Zew
  exact decide_eq_decide.2 ⟨fun h' => ⟨h, h'⟩, fun h' => h'.2⟩
 ·unfold Zew
  exact (decide_eq_false fun h' => h h'.1).symm
theorem Zqm (c : Int) : WP (ZeR c) w (fun r w' => r = hexV c ∧ w = w') := by
 unfold ZeR
 refine WP.step (ZoD c) ?_
 rintro _ _ ⟨rfl, rfl⟩
 unfold Zew hexV
 refine WP.ite (fun h => WP.ret ⟨?_, rfl⟩) (fun h => ?_)
 ·have h := of_decide_eq_true h
  rw [if_pos h, ZdU (by omega) (by omega), Zah (by omega) (by omega)]
 have h1 : ¬ (48 ≤ c ∧ c ≤ 57) := fun h' => h (decide_eq_true h')
 rw [if_neg h1]
 refine WP.step (R := fun y w' => y = decide (97 ≤ c ∧ c ≤ 102) ∧ w = w') (WP.ite (fun h => WP.ret ⟨decide_eq_decide.2 ⟨fun h' => ⟨h, h'⟩, fun h' => h'.2⟩, rfl⟩) (fun h => WP.ret ⟨(decide_eq_false fun h' => h h'.1).symm, rfl⟩)) ?_
 rintro _ _ ⟨rfl, rfl⟩
 refine WP.ite (fun h => WP.ret ⟨?_, rfl⟩) (fun h => ?_)
 ·have h := of_decide_eq_true h
  rw [if_pos h, ZdU (by omega) (by omega), Zah (n := c - 97) (by omega) (by omega), Zah (by omega) (by omega)]
  omega
 have h2 : ¬ (97 ≤ c ∧ c ≤ 102) := fun h' => h (decide_eq_true h')
 rw [if_neg h2]
 refine WP.step (R := fun y w' => y = decide (65 ≤ c ∧ c ≤ 70) ∧ w = w') (WP.ite (fun h => WP.ret ⟨decide_eq_decide.2 ⟨fun h' => ⟨h, h'⟩, fun h' => h'.2⟩, rfl⟩) (fun h => WP.ret ⟨(decide_eq_false fun h' => h h'.1).symm, rfl⟩)) ?_
 rintro _ _ ⟨rfl, rfl⟩
 refine WP.ite (fun h => WP.ret ⟨?_, rfl⟩) (fun h => WP.ret ⟨?_, rfl⟩)
 ·have h := of_decide_eq_true h
  rw [if_pos h, ZdU (by omega) (by omega), Zah (n := c - 65) (by omega) (by omega), Zah (by omega) (by omega)]
  omega
 ·rw [if_neg fun h' => h (decide_eq_true h')]
theorem ZiB (s : Ss W Hs w) (t : ByteArray) (i : Nat) : WP (Zdk t (i : Int)) w (fun r w' => ∃ b, r = some (pt b 0) ∧ Ss W (pts true (pt b 0) (flt (ZnE (strI t) i)) :: Hs) w') := by
 unfold Zdk ZnE
 rw [ZbJ]
 refine WP.ite (fun h => WP.newv s (fun b w s => WP.ret ⟨b, rfl, ?_⟩)) (fun h => WP.newv s (fun b w s => WP.ret ⟨b, rfl, ?_⟩))
 ·rw [if_pos (by omega)]
  exact s
 ·rw [if_neg (by omega)]
  exact s
theorem Zjz (l : List Int) (c : Int) : valD (l ++ [c]) = 10 * valD l + (c - 48).toNat := by
 unfold valD
 rw [List.foldl_append]
 rfl
theorem Zpx : ∀ (k : Nat) (l : List Int), l.length ≤ k → (∀ c ∈ l, Zew c = true) → valD l < 10 ^ k := by
 intro k
 induction k with
 | zero =>
  intro l hl _
  have : l = [] := List.eq_nil_of_length_eq_zero (by omega)
  subst this
  decide
 | succ k ih =>
  intro l hl hd
  rcases List.eq_nil_or_concat l with rfl | ⟨l', c, rfl⟩
  ·exact Nat.pow_pos (by omega)
  ·rw [List.concat_eq_append] at hl hd ⊢
   rw [Zjz, Nat.pow_succ]
   have h1 := ih l' (by simp at hl; omega) (fun c hc => hd c (by simp [hc]))
   have h2 := hd c (by simp)
   unfold Zew at h2
   have h2 := of_decide_eq_true h2
   omega
def NumA (W : World) (Hs : List HP) (x : Except Flt (Nat × Nat)) (r : Int × Int × Option Addr) (w : World) : Prop :=
 match x with
 | .ok (n, e) => r = ((n : Int), (e : Int), none) ∧ Ss W Hs w
 | .error f => ∃ b, r = (0, 0, some (pt b 0)) ∧ Ss W (pts true (pt b 0) (flt f) :: Hs) w
theorem Zmy (s : Ss W Hs w) (t : ByteArray) (ht : t.size ≤ 1000) (i : Nat) (hi : i ≤ t.size) (most wrong : Int) : WP (ZaS t (i : Int) most wrong) w (NumA W Hs (numM (strI t) i most wrong)) := by
 unfold ZaS
 have hl := ZbJ t
 obtain ⟨r1, r2⟩ := ZjI (p := Zew) (l := strI t) (i := i) (by omega)
 refine WP.loopG (γ := Nat) (fun k (p : Int) w => p = (k : Int) ∧ i ≤ k ∧ k ≤ runE Zew (strI t) i ∧ Ss W Hs w) (fun k _ => t.size - k) i ⟨rfl, Nat.le_refl _, r1, s⟩ ?_
 clear s
 rintro k _ w ⟨rfl, k1, k2, s⟩
 show WP (ZaS.L2 t (i : Int) most wrong (k : Int)) w _
 unfold ZaS.L2
 have hgo := Zlx k1 k2
 rw [hl] at hgo
 refine WP.step (R := fun y w' => y = decide (k < runE Zew (strI t) i) ∧ w = w') (WP.ite (fun h => WP.chk ⟨by omega, by omega⟩ (WP.step (ZoD _) ?_)) (fun h => WP.ret ⟨?_, rfl⟩)) ?_
 ·rintro _ _ ⟨rfl, rfl⟩
  refine WP.ret ⟨?_, rfl⟩
  rw [Zer, Bool.eq_iff_iff, decide_eq_true_iff, ← hgo]
  exact ⟨fun h' => ⟨by omega, h'⟩, fun h' => h'.2⟩
 ·refine (decide_eq_false fun h' => ?_).symm
  have := hgo.2 h'
  omega
 rintro _ _ ⟨rfl, rfl⟩
 refine WP.ite (fun h => WP.next ⟨k + 1, ⟨?_, by omega, by have := of_decide_eq_true h; omega, s⟩, by have := of_decide_eq_true h; omega⟩) (fun h => ?_)
 ·rw [Zah (by omega) (by omega)]
  simp
 have hk : k = runE Zew (strI t) i := by
  have : ¬ k < runE Zew (strI t) i := fun h' => h (decide_eq_true h')
  omega
 refine WP.step ?_ (fun r w h => WP.done h)
 unfold ZaS.K1 numM
 rw [← hk]
 refine WP.ite (fun h => ?_) (fun h => ?_)
 ·rw [if_pos (by omega)]
  refine WP.step (ZiB s t i) ?_
  rintro _ w ⟨b, rfl, s⟩
  exact WP.ret ⟨b, rfl, s⟩
 have hne : ¬ k = i := by omega
 rw [if_neg hne]
 have ew : IntKind.wrap .i64 ((k : Int) - (i : Int)) = ((k - i : Nat) : Int) := by
  rw [Zah (by omega) (by omega)]
  omega
 rw [ew]
 refine WP.step (R := fun y w' => y = decide (k - i > 3 ∨ (k - i > 1 ∧ (strI t).getD i 0 = 48)) ∧ w = w') (WP.ite (fun h => WP.ret ⟨?_, rfl⟩) (fun h => ?_)) ?_
 ·exact (decide_eq_true (.inl (by omega))).symm
 ·refine WP.step (R := fun y w' => y = decide (k - i > 3 ∨ (k - i > 1 ∧ (strI t).getD i 0 = 48)) ∧ w = w') (WP.ite (fun h1 => WP.chk ⟨by omega, by omega⟩ (WP.ret ⟨?_, rfl⟩)) (fun h1 => WP.ret ⟨?_, rfl⟩)) (fun r w h => WP.ret h)
  ·rw [Zer, Bool.eq_iff_iff, decide_eq_true_iff, beq_iff_eq]
   exact ⟨fun h' => .inr ⟨by omega, h'⟩, fun h' => h'.resolve_left (by omega) |>.2⟩
  ·exact (decide_eq_false fun h' => by omega).symm
 rintro _ _ ⟨rfl, rfl⟩
 refine WP.ite (fun h => ?_) (fun h => ?_)
 ·rw [if_pos (of_decide_eq_true h)]
  exact WP.newv s (fun b w s => WP.ret ⟨b, rfl, s⟩)
 have h3 : ¬ (k - i > 3 ∨ (k - i > 1 ∧ (strI t).getD i 0 = 48)) := fun h' => h (decide_eq_true h')
 rw [if_neg h3]
 have hdig : ∀ n, ∀ c ∈ ((strI t).drop i).take n, n ≤ k - i → Zew c = true := by
  intro n c hc hn
  obtain ⟨j, hj, rfl⟩ := List.mem_iff_getElem.1 hc
  rw [List.length_take, List.length_drop] at hj
  rw [List.getElem_take, List.getElem_drop]
  have := Zji (p := Zew) (l := strI t) (i := i) (k := i + j) (by omega) (by omega)
  rw [List.getD, List.getElem?_eq_getElem (by omega)] at this
  exact this
 refine WP.loopG (γ := Nat) (fun j (p : Int × Int) w => p = ((valD (((strI t).drop i).take (j - i)) : Int), (j : Int)) ∧ i ≤ j ∧ j ≤ k ∧ Ss W Hs w) (fun j _ => k - j) i ⟨by simp [valD], Nat.le_refl _, k1, s⟩ ?_
 clear s
 rintro j _ w ⟨rfl, j1, j2, s⟩
 show WP (ZaS.L1 t (i : Int) most wrong (k : Int) (valD (((strI t).drop i).take (j - i)) : Int) (j : Int)) w _
 unfold ZaS.L1
 have hlt := Zpx 3 (((strI t).drop i).take (j - i)) (by rw [List.length_take]; omega) (fun c hc => hdig (j - i) c hc (by omega))
 refine WP.ite (fun h => WP.chk ⟨by omega, by omega⟩ (WP.next ⟨j + 1, ⟨?_, by omega, by omega, s⟩, by omega⟩)) (fun h => ?_)
 ·have hd := Zji (p := Zew) (l := strI t) (i := i) (k := j) j1 (by omega)
  have htk : ((strI t).drop i).take (j + 1 - i) = ((strI t).drop i).take (j - i) ++ [(strI t).getD j 0] := by
   rw [show j + 1 - i = (j - i) + 1 by omega, List.take_add_one, List.getElem?_drop, show i + (j - i) = j by omega, List.getD, List.getElem?_eq_getElem (by omega)]
   rfl
  rw [Zer, htk, Zjz]
  unfold Zew at hd
  have hd := of_decide_eq_true hd
  generalize (strI t).getD j 0 = c at hd
  rw [ZdU (by omega) (by omega), Zah (n := c - 48) (by omega) (by omega), Zah (n := 10 * _) (by omega) (by omega), Zah (n := 10 * _ + _) (by omega) (by omega), Zah (n := (j : Int) + 1) (by omega) (by omega)]
  refine Prod.ext ?_ ?_
  ·simp only
   omega
  ·simp
 ·have hj : j = k := by omega
  subst hj
  refine WP.ite (fun h => ?_) (fun h => ?_)
  ·rw [if_pos h]
   exact WP.newv s (fun b w s => WP.done ⟨b, rfl, s⟩)
  ·rw [if_neg h]
   exact WP.done ⟨rfl, s⟩
theorem ZlD {l : List Int} {i n e : Nat} {most wrong : Int} (h : numM l i most wrong = .ok (n, e)) (hi : i ≤ l.length) : (n : Int) ≤ most ∧ i < e ∧ e ≤ l.length := by
 obtain ⟨r1, r2⟩ := ZjI (p := Zew) hi
 unfold numM at h
 split at h
 ·cases h
 ·split at h
  ·cases h
  ·split at h
   ·cases h
   ·cases h
    exact ⟨by omega, by omega, r2⟩
def Zq1 (W : World) (Hs : List HP) (x : Except Flt (List Nat)) (r : Vec Int 4 × Option Addr) (w : World) : Prop :=
 match x with
 | .ok a => r.1.l = a.map (fun n : Nat => (n : Int)) ∧ r.2 = none ∧ Ss W Hs w
 | .error f => ∃ b, r.2 = some (pt b 0) ∧ Ss W (pts true (pt b 0) (flt f) :: Hs) w
theorem Zqt (s : Ss W Hs w) (t : ByteArray) (ht : t.size ≤ 1000) (i : Nat) (hi : i ≤ t.size) : WP (Za4 t (i : Int)) w (Zq1 W Hs (Zgp (strI t) i)) := by
 unfold Za4
 have hl := ZbJ t
 refine WP.slot' s (fun _ w s => WP.slot' s (fun _ w s => ?_))
 refine WP.loopG (γ := Nat × Nat × List Nat) (fun g (p : Int × Int × Vec Int 4 × Vec Int 4) w => p.1 = (g.2.1 : Int) ∧ p.2.1 = (g.2.2.length : Int) ∧ g.1 + g.2.2.length = 4 ∧ g.2.1 ≤ t.size ∧ p.2.2.1.l = g.2.2.map (fun n : Nat => (n : Int)) ++ List.replicate g.1 0 ∧ (∀ n ∈ g.2.2, n ≤ 255) ∧ Zhj (strI t) g.1 g.2.1 g.2.2 = Zhj (strI t) 4 i [] ∧ Ss W Hs w) (fun g _ => g.1) (4, i, []) ⟨rfl, rfl, rfl, hi, rfl, by simp, rfl, s⟩ ?_
 clear s
 rintro ⟨k, j, acc⟩ ⟨_, _, v, v2⟩ w ⟨rfl, rfl, hk, hj, hv, hn, hF, s⟩
 simp only at hk hj hv hn hF s
 show WP (Za4.L1 t (j : Int) (acc.length : Int) v v2) w _
 unfold Za4.L1
 cases k with
 | zero =>
  refine WP.ite (fun h => absurd h (by omega)) (fun _ => ?_)
  refine WP.step ?_ (fun r w h => WP.done h)
  unfold Za4.K1
  have e1 : Zgp (strI t) i = if j < (strI t).length then .error (41, j) else .ok acc := by
   unfold Zgp
   rw [← hF]
   rfl
  rw [e1, hl]
  refine WP.ite (fun h => ?_) (fun h => ?_)
  ·rw [if_pos (by omega)]
   exact WP.newv s (fun b w s => WP.ret ⟨b, rfl, s⟩)
  ·rw [if_neg (by omega)]
   exact WP.ret ⟨by simpa using hv, rfl, s⟩
 | succ k =>
  have hfin : ∀ {f : Flt} {b : Nat} {w : World} {v : Vec Int 4}, Zhj (strI t) (k + 1) j acc = .error f → Ss W (pts true (pt b 0) (flt f) :: Hs) w → Zq1 W Hs (Zgp (strI t) i) (v, some (pt b 0)) w := by
   intro f b w v hf s
   rw [hF] at hf
   unfold Zgp Zq1
   rw [hf]
   exact ⟨b, rfl, s⟩
  have K2 : ∀ {w : World} (j' : Nat), j' ≤ t.size → sepM (strI t) j acc.isEmpty = .ok j' → Ss W Hs w → WP (Za4.K2 t (acc.length : Int) v v2 (j' : Int)) w (WP.Rd (fun p w => ∃ g : Nat × Nat × List Nat, (p.1 = (g.2.1 : Int) ∧ p.2.1 = (g.2.2.length : Int) ∧ g.1 + g.2.2.length = 4 ∧ g.2.1 ≤ t.size ∧ p.2.2.1.l = g.2.2.map (fun n : Nat => (n : Int)) ++ List.replicate g.1 0 ∧ (∀ n ∈ g.2.2, n ≤ 255) ∧ Zhj (strI t) g.1 g.2.1 g.2.2 = Zhj (strI t) 4 i [] ∧ Ss W Hs w) ∧ g.1 < k + 1) (Zq1 W Hs (Zgp (strI t) i))) := by
   intro w j' hj' hsep s
   unfold Za4.K2
   refine WP.step (Zmy s t ht j' hj' 255 43) ?_
   intro r w hr
   cases hnum : numM (strI t) j' 255 43 with
   | error f =>
    rw [hnum] at hr
    obtain ⟨b, rfl, s⟩ := hr
    refine WP.ite (fun _ => WP.done ?_) (fun h => absurd (by simp) h)
    refine hfin ?_ s
    unfold Zhj
    rw [hsep]
    simp only [hnum]
   | ok x =>
    obtain ⟨n, e⟩ := x
    rw [hnum] at hr
    obtain ⟨rfl, s⟩ := hr
    obtain ⟨o1, o2, o3⟩ := ZlD hnum (by omega)
    refine WP.ite (fun h => absurd rfl h) (fun _ => WP.chk ⟨by omega, by omega⟩ (WP.next ⟨(k, e, acc ++ [n]), ⟨rfl, ?_, ?_, by simp only; omega, ?_, ?_, ?_, s⟩, by simp only; omega⟩))
    ·simp only
     rw [Zah (by omega) (by omega)]
     simp
    ·simp only [List.length_append, List.length_cons, List.length_nil]
     omega
    ·simp only
     rw [ZdU (by omega) (by omega)]
     show v.l.set (Int.toNat (acc.length : Int)) (n : Int) = _
     rw [Int.toNat_natCast, hv, List.set_append_right _ _ (by rw [List.length_map]; exact Nat.le_refl _), List.length_map, Nat.sub_self, List.replicate_succ, List.set_cons_zero]
     simp
    ·intro x hx
     rcases List.mem_append.1 hx with hx | hx
     ·exact hn x hx
     ·rw [List.mem_singleton] at hx
      omega
    ·simp only
     rw [← hF]
     conv => rhs; unfold Zhj
     rw [hsep]
     simp only [hnum]
  refine WP.ite (fun _ => ?_) (fun h => absurd (by omega) h)
  refine WP.ite (fun h0 => ?_) (fun h0 => ?_)
  ·have he : acc.isEmpty = false := by
    cases acc with
    | nil => simp at h0
    | cons x r => rfl
   refine WP.step (R := fun y w' => y = decide (j = (strI t).length ∨ (strI t).getD j 0 ≠ 46) ∧ w = w') (WP.ite (fun h => WP.ret ⟨(decide_eq_true (.inl (by omega))).symm, rfl⟩) (fun h => WP.chk ⟨by omega, by omega⟩ (WP.ret ⟨?_, rfl⟩))) ?_
   ·rw [Zer, Bool.eq_iff_iff, decide_eq_true_iff, bne_iff_ne]
    exact ⟨fun h' => .inr h', fun h' => h'.resolve_left (by omega)⟩
   rintro _ _ ⟨rfl, rfl⟩
   refine WP.ite (fun h => WP.draw' s (fun w s => WP.step (ZiB s t j) ?_)) (fun h => ?_)
   ·rintro _ w ⟨b, rfl, s⟩
    refine WP.done (hfin ?_ s)
    unfold Zhj sepM
    rw [he, if_neg (by simp), if_pos (of_decide_eq_true h)]
   ·have hc : ¬ (j = (strI t).length ∨ (strI t).getD j 0 ≠ 46) := fun h' => h (decide_eq_true h')
    have ew : IntKind.wrap .i64 ((j : Int) + 1) = ((j + 1 : Nat) : Int) := by
     rw [Zah (by omega) (by omega)]
     simp
    rw [ew]
    refine K2 (j + 1) (by omega) ?_ s
    unfold sepM
    rw [he, if_neg (by simp), if_neg hc]
  ·have he : acc.isEmpty = true := by
    cases acc with
    | nil => rfl
    | cons x r => simp at h0
   refine K2 j hj ?_ s
   unfold sepM
   rw [he, if_pos rfl]
end
abbrev cBd := Zb2
def Zl5 (b : Nat) (p : Option Addr) (buf : Sl) (bs sp : List Int) : List HP :=
 [pts true (pt b 0) (cBd.enc ⟨p, buf⟩), shp b 237 2, vec (cI .u8) buf bs sp, shpO buf 5 (bs.length + sp.length)]
def BldP (b : Nat) (bs : List Int) : HP := fun h => ∃ p buf sp, (p = none ∨ p = some (pt b 0)) ∧ (buf.a = none ∨ buf.cap ≠ 0) ∧ seps (Zl5 b p buf bs sp) h
section
variable {W w : World} {R Hs : List HP} {b : Nat} {p : Option Addr} {buf : Sl} {bs sp : List Int}
theorem Ss.openB (s : Ss W (BldP b bs :: R) w) : ∃ p buf sp, (p = none ∨ p = some (pt b 0)) ∧ (buf.a = none ∨ buf.cap ≠ 0) ∧ Ss W (Zl5 b p buf bs sp ++ R) w := by
 obtain ⟨hb, k, ⟨h1, h2, e, l1, l2, ⟨p, buf, sp, a1, a2, a3⟩, b⟩, hw⟩ := s
 exact ⟨p, buf, sp, a1, a2, Ss.split ⟨hb, k, ⟨h1, h2, e, l1, l2, a3, b⟩, hw⟩⟩
theorem Ss.closeB (s : Ss W (Zl5 b p buf bs sp ++ R) w) (h1 : p = none ∨ p = some (pt b 0)) (h2 : buf.a = none ∨ buf.cap ≠ 0) : Ss W (BldP b bs :: R) w := s.group.first (fun h hh => ⟨p, buf, sp, h1, h2, hh⟩)
theorem Zi2 (s : Ss W (Zl5 b p buf bs sp ++ R) w) (h1 : p = none ∨ p = some (pt b 0)) : WP (ZbD (some (pt b 0))) w (fun _ w' => Ss W (Zl5 b (some (pt b 0)) buf bs sp ++ R) w') := by
 unfold ZbD
 refine WP.nilck (WP.ld s 0 rfl (o := 0) (by simp [Addr.add]) (Zez _) ?_)
 rcases h1 with rfl | rfl
 ·refine WP.ite (fun _ => ?_) (fun h => absurd rfl h)
  refine WP.upOf s 1 rfl (by decide) (WP.noesc (WP.ptOf s 1 rfl (by decide) (WP.nilck ?_)))
  exact WP.st s 0 rfl (o := 0) (by simp [Addr.add]) (Zf8 _ _) (fun w s => WP.ret s)
 ·refine WP.ite (fun h => by cases h) (fun _ => WP.nilck (WP.ld s 0 rfl (o := 0) (by simp [Addr.add]) (Zez _) ?_))
  refine WP.ptrEq1 ?_
  exact WP.ite (fun h => absurd rfl h) (fun _ => WP.ret s)
theorem Ztc {β : Type} {xs : List Int} {f : Unit → M β} {Q : β → World → Prop} (s : Ss W (Zl5 b p buf bs sp ++ R) w) (h2 : buf.a = none ∨ buf.cap ≠ 0) (hl : bs.length + xs.length ≤ 140737488355328)
  (k : ∀ r sp' w', (r.a = none ∨ r.cap ≠ 0) → Ss W (Zl5 b p r (bs ++ xs) sp' ++ R) w' → WP (f ()) w' Q) : WP (appl (cI .u8) 5 1 0 buf xs >>= fun r => nilck (some (pt b 0)) >>= fun q => st cL (Addr.add q 1) r >>= f) w Q := by
 refine WP.applB (Hs := pts true (pt b 0) (cBd.enc ⟨p, buf⟩) :: shp b 237 2 :: R) (s.use [2, 2] (r := _ :: _ :: R) rfl) hl h2 (fun r w sp' hz s => WP.nilck ?_)
 have s := s.use [2, 2, 0, 0] (r := R) rfl
 exact WP.st s 0 rfl (o := 1) rfl (ZeC _ _) (fun w s => k r sp' w hz s)
theorem ZfF (s : Ss W (BldP b bs :: R) w) (t : ByteArray) (hl : bs.length + t.size ≤ 1000000) : WP (Zbn (some (pt b 0)) t) w (fun _ w' => Ss W (BldP b (bs ++ strI t) :: R) w') := by
 obtain ⟨p, buf, sp, h1, h2, s⟩ := s.openB
 unfold Zbn
 refine WP.step (Zi2 s h1) ?_
 rintro _ w s
 refine WP.nilck (WP.ld s 0 rfl (o := 1) rfl (ZbA _) ?_)
 exact Ztc s h2 (by rw [ZbJ]; omega) (fun r sp' w hz s => WP.ret (s.closeB (.inr rfl) hz))
theorem ZqX (s : Ss W (BldP b bs :: R) w) (hb : Byt bs) (hl : bs.length ≤ 1000000) : WP (ZbV (some (pt b 0))) w (fun r w' => r = bstr bs ∧ Ss W R w') := by
 obtain ⟨p, buf, sp, h1, h2, s⟩ := s.openB
 unfold ZbV
 refine WP.draw' s (fun w s => WP.nilck (WP.ld s 0 rfl (o := 1) rfl (ZbA _) (WP.nilck (WP.ld s 0 rfl (o := 1) rfl (ZbA _) ?_))))
 refine WP.sdata h2 (WP.same s 0 rfl (o := 1) rfl (ZbA _) ?_)
 exact WP.ustr (Hs := pts true (pt b 0) (cBd.enc ⟨p, buf⟩) :: shp b 237 2 :: R) (s.use [2, 2] (r := _ :: _ :: R) rfl) hb (by omega) (fun w s => WP.ret ⟨rfl, s.drop.drop⟩)
theorem Ztl (s : Ss W (pts true (pt b 0) (cBd.enc Zd0) :: shp b 237 2 :: R) w) {n : Int} (h0 : 0 ≤ n) (hn : n ≤ 1000000) : WP (Zb7 (some (pt b 0)) n) w (fun _ w' => Ss W (BldP b [] :: R) w') := by
 have s := ((s.mk0 (A := shpO Sl.nil 5 (([] : List Int).length + ([] : List Int).length)) Zrk).mk0 (A := vec (cI .u8) Sl.nil [] []) Zdo).use [2, 2, 0, 0] (r := R) rfl
 have s : Ss W (Zl5 b none Sl.nil [] [] ++ R) w := s
 unfold Zb7
 refine WP.step (Zi2 s (.inl rfl)) ?_
 rintro _ w s
 refine WP.ite (fun h => absurd h (by omega)) (fun _ => WP.draw' s (fun w s => ?_))
 refine WP.nilck (WP.ld s 0 rfl (o := 1) rfl (ZbA _) (WP.nilck (WP.ld s 0 rfl (o := 1) rfl (ZbA _) ?_)))
 refine WP.ite (fun h => ?_) (fun h => WP.ret (s.closeB (.inr rfl) (.inl rfl)))
 unfold Zcr
 refine WP.step (R := fun _ w' => Ss W (BldP b [] :: R) w') ?_ (fun _ w s => WP.ret s)
 refine WP.draw' s (fun w s => WP.nilck (WP.ld s 0 rfl (o := 1) rfl (ZbA _) (WP.nilck (WP.ld s 0 rfl (o := 1) rfl (ZbA _) ?_))))
 have e : IntKind.wrap .i64 (IntKind.wrap .i64 (2 * (Sl.nil.cap : Int)) + n) = n := by
  show IntKind.wrap .i64 (IntKind.wrap .i64 (2 * 0) + n) = n
  rw [Zah (n := 2 * 0) (by omega) (by omega), Zah (by omega) (by omega)]
  omega
 have e0 : IntKind.wrap .i64 ((Sl.nil.cap : Int) - (Sl.nil.len : Int)) = 0 := by
  show IntKind.wrap .i64 (0 - 0) = 0
  rw [Zah (by omega) (by omega)]
  omega
 simp only [e0] at h
 simp only [e]
 refine WP.mkNZ s h0 (by omega) (fun a cap xs w hcap hxl ha1 ha2 s => ?_)
 have s : Ss W (pts true a (xs.flatMap (cI .u8).enc) :: shp a.block 5 cap :: pts true (pt b 0) (cBd.enc ⟨some (pt b 0), Sl.nil⟩) :: shp b 237 2 :: vec (cI .u8) Sl.nil [] [] :: shpO Sl.nil 5 0 :: R) w := s
 refine WP.same s 2 rfl (o := 1) rfl (ZbA _) ?_
 refine WP.cutpre (by simp [Sl.nil]) (by simp only [Sl.nil]; omega) (WP.nilck (WP.ld s 2 rfl (o := 1) rfl (ZbA _) ?_))
 have s := s.first (B := vec (cI .u8) ⟨some a, 0, cap⟩ [] xs) (fun h hp => ⟨rfl, by simp [hxl], hp⟩)
 refine WP.cpy s 0 rfl 4 rfl Zc9 (by decide) (fun w s => WP.nilck ?_)
 have s : Ss W (vec (cI .u8) ⟨some a, 0, cap⟩ [] xs :: shp a.block 5 cap :: pts true (pt b 0) (cBd.enc ⟨some (pt b 0), Sl.nil⟩) :: shp b 237 2 :: vec (cI .u8) Sl.nil [] [] :: shpO Sl.nil 5 0 :: R) w := s
 refine WP.st s 2 rfl (o := 1) rfl (ZeC _ _) (fun w s => WP.ret ?_)
 have s : Ss W (vec (cI .u8) ⟨some a, 0, cap⟩ [] xs :: shp a.block 5 cap :: pts true (pt b 0) (cBd.enc ⟨some (pt b 0), ⟨some a, 0, cap⟩⟩) :: shp b 237 2 :: vec (cI .u8) Sl.nil [] [] :: shpO Sl.nil 5 0 :: R) w := s
 have s := (s.use [1] (s := [_]) (r := _ :: _ :: _ :: _ :: _ :: R) rfl).first (B := shpO ⟨some a, 0, cap⟩ 5 (([] : List Int).length + xs.length)) (fun h hp a' ha' => by
  cases ha'
  refine ⟨ha1, ha2, ?_⟩
  rw [hxl, List.length_nil, Nat.zero_add]
  exact hp)
 have s := s.use [2, 2, 1, 0] (r := _ :: _ :: R) rfl
 have s : Ss W (Zl5 b (some (pt b 0)) ⟨some a, 0, cap⟩ [] xs ++ (vec (cI .u8) Sl.nil [] [] :: shpO Sl.nil 5 0 :: R)) w := s
 have s := s.closeB (.inr rfl) (.inr (by simp only; omega))
 exact (s.use [1, 1] (s := [_, _]) (r := _ :: R) rfl).drop.drop
end
def ZcS (sep : List Int) : List (List Int) → List Int
 | [] => []
 | x :: r => x ++ r.flatMap (fun y => sep ++ y)
theorem ZmJ {sep : List Int} {l : List (List Int)} (hs : Byt sep) (h : ∀ x ∈ l, Byt x) : Byt (ZcS sep l) := by
 cases l with
 | nil => exact fun x hx => by cases hx
 | cons x r =>
  refine (h x (by simp)).app fun y hy => ?_
  obtain ⟨z, hz, hy⟩ := List.mem_flatMap.1 hy
  exact (hs.app (h z (by simp [hz]))) y hy
section
variable {W w : World} {R Hs : List HP}
theorem Zj8 {α : Type} {f : α → List Int} {l : List α} {k : Nat} (h : ∀ x ∈ l, (f x).length ≤ k) : (l.flatMap f).length ≤ l.length * k := by
 induction l with
 | nil => simp
 | cons x r ih =>
  have h1 := ih (fun y hy => h y (by simp [hy]))
  have h2 := h x (by simp)
  simp only [List.flatMap_cons, List.length_append, List.length_cons, Nat.succ_mul]
  omega
theorem ZnV {A : HP} {a0 : Sl} {strs : List ByteArray} {sep : ByteArray} (s : Ss W Hs w) (i : Nat) (e : nth Hs i = some A) (r : Rdb A cS a0 strs) (hcap : a0.len ≤ a0.cap) (h1 : strs.length ≤ 100) (h2 : ∀ x ∈ strs, x.size ≤ 100) (h3 : sep.size ≤ 100) :
  WP (Zav a0 sep) w (fun y w' => y = bstr (ZcS (strI sep) (strs.map strI)) ∧ Ss W Hs w') := by
 unfold Zav
 have hl := (s.rd_len e r).1
 rw [hl]
 match strs, h1, h2, r, hl with
 | [], h1, h2, r, hl => exact WP.ite (fun _ => WP.ret ⟨rfl, s⟩) (fun h => absurd rfl h)
 | [x], h1, h2, r, hl =>
  refine WP.ite (fun h => by simp at h) (fun _ => WP.ite (fun _ => ?_) (fun h => absurd rfl h))
  rw [← hl]
  refine WP.rdx s i e r (by omega) (x := x) rfl rfl (WP.ret ⟨?_, s⟩)
  show x = bstr (strI x ++ [])
  rw [List.append_nil, Zkk]
 | x :: y :: rest, h1, h2, r, hl =>
  have hn : (x :: y :: rest).length = rest.length + 2 := rfl
  rw [hn]
  rw [hn] at h1
  refine WP.ite (fun h => by omega) (fun _ => WP.ite (fun h => by omega) (fun _ => ?_))
  -- what is behind the reckoning of the room
  have K2 : ∀ (n : Int), 0 ≤ n → n ≤ 10000 → WP (Zav.K2 a0 sep n) w (fun y' w' => y' = bstr (ZcS (strI sep) ((x :: y :: rest).map strI)) ∧ Ss W Hs w') := by
   intro n n0 n1
   unfold Zav.K2
   refine WP.loop (fun (p : Int × Int) w' => 0 ≤ p.1 ∧ p.1 ≤ 10000 + 100 * p.2 ∧ 0 ≤ p.2 ∧ p.2 ≤ rest.length + 2 ∧ Ss W Hs w') (fun p _ => ((rest.length + 2 : Int) - p.2).toNat) ⟨n0, by simp only; omega, by simp, by simp only; omega, s⟩ ?_
   clear s
   rintro ⟨t, k⟩ w ⟨t0, t1, k0, k1, s⟩
   simp only at t0 t1 k0 k1
   show WP (Zav.L2 a0 sep t k) w _
   unfold Zav.L2
   rw [hl, hn]
   refine WP.ite (fun h => ?_) (fun h => ?_)
   ·have hx := List.getElem?_eq_getElem (show k.toNat < (x :: y :: rest).length by rw [hn]; omega)
    have hsz := h2 _ (List.mem_of_getElem? hx)
    generalize (x :: y :: rest)[k.toNat]'(by rw [hn]; omega) = z at hx hsz
    rw [← hn, ← hl]
    refine WP.rdx s i e r k0 hx rfl ?_
    rw [Zah (n := 9223372036854775807 - t) (by omega) (by omega)]
    refine WP.ite (fun h => absurd h (by omega)) (fun _ => WP.next ⟨?_, ?_⟩)
    ·rw [Zah (n := t + _) (by omega) (by omega), Zah (n := k + 1) (by omega) (by omega)]
     exact ⟨by simp only; omega, by simp only; omega, by simp only; omega, by simp only; omega, s⟩
    ·rw [Zah (n := k + 1) (by omega) (by omega)]
     simp only
     omega
   ·refine WP.step ?_ (fun r w h => WP.done h)
    unfold Zav.K1
    refine WP.newvS s (fun b w s => ?_)
    refine WP.step (Ztl s t0 (by omega)) ?_
    rintro _ w s
    refine WP.rdx s (i + 1) e r (by omega) (x := x) rfl rfl ?_
    have hx := h2 x (by simp)
    refine WP.step (ZfF s x (by simp only [List.length_nil]; omega)) ?_
    rintro _ w s
    refine WP.cutsuf (by omega) (by rw [hl, hn]; omega) hcap ?_
    have rd := r.drop (k := 1) (by simp) hcap
    generalize hq : (⟨if a0.cap = (1 : Int).toNat then a0.a else a0.a.map (·.add ((1 : Int).toNat * 1)), a0.len - (1 : Int).toNat, a0.cap - (1 : Int).toNat⟩ : Sl) = q
    have rd : Rdb A cS q (y :: rest) := hq ▸ rd
    have ql := (s.rd_len (i := i + 1) e rd).1
    have ql : q.len = rest.length + 1 := ql
    refine WP.loopG (γ := Nat) (fun j (p : Int) w' => p = (j : Int) ∧ j ≤ rest.length + 1 ∧ Ss W (BldP b (strI x ++ ((y :: rest).take j).flatMap (fun z => strI sep ++ strI z)) :: Hs) w') (fun j _ => rest.length + 1 - j) 0 ⟨rfl, by omega, by simpa using s⟩ ?_
    clear s
    rintro j _ w ⟨rfl, hj, s⟩
    show WP (Zav.L1 sep b q (j : Int)) w _
    unfold Zav.L1
    have hpre : (strI x ++ ((y :: rest).take j).flatMap (fun z => strI sep ++ strI z)).length ≤ 100 + 100 * 200 := by
     have := Zj8 (f := fun z : ByteArray => strI sep ++ strI z) (l := (y :: rest).take j) (k := 200) (fun z hz => by
      have := h2 z (List.mem_cons_of_mem _ (List.mem_of_mem_take hz))
      rw [List.length_append, ZbJ, ZbJ]
      omega)
     have h4 : ((y :: rest).take j).length ≤ 100 := by
      rw [List.length_take]
      omega
     have h5 := Nat.mul_le_mul_right 200 h4
     rw [List.length_append, ZbJ]
     omega
    refine WP.ite (fun h => ?_) (fun h => ?_)
    ·have hj2 : j < (y :: rest).length := by
      show j < rest.length + 1
      omega
     have hz := List.getElem?_eq_getElem hj2
     have hsz := h2 _ (List.mem_cons_of_mem _ (List.mem_of_getElem? hz))
     have htake : (y :: rest).take (j + 1) = (y :: rest).take j ++ [(y :: rest)[j]] := by
      rw [List.take_add_one, hz]
      rfl
     generalize (y :: rest)[j] = z at hz hsz htake
     refine WP.rdx s (i + 1) e rd (by omega) (x := z) (by rw [Int.toNat_natCast]; exact hz) rfl ?_
     refine WP.step (ZfF s sep (by omega)) ?_
     rintro _ w s
     refine WP.step (ZfF s z (by rw [List.length_append, ZbJ]; omega)) ?_
     rintro _ w s
     refine WP.next ⟨j + 1, ⟨?_, by omega, ?_⟩, by omega⟩
     ·rw [Zah (by omega) (by omega)]
      simp
     ·rw [htake, List.flatMap_append]
      simpa [List.append_assoc] using s
    ·have hj2 : j = rest.length + 1 := by omega
     subst hj2
     have ht : (y :: rest).take (rest.length + 1) = y :: rest := by
      apply List.take_of_length_le
      simp
     rw [ht] at s hpre
     refine WP.step (ZqX s ((Byt.strI x).app fun v hv => ?_) (by omega)) ?_
     ·obtain ⟨z, _, hv⟩ := List.mem_flatMap.1 hv
      exact ((Byt.strI sep).app (Byt.strI z)) v hv
     ·rintro _ w ⟨rfl, s⟩
      refine WP.done ⟨?_, s⟩
      simp only [List.map_cons, ZcS, List.flatMap_cons, List.flatMap_map]
  have hw1 : IntKind.wrap .i64 (((rest.length + 2 : Nat) : Int) - 1) = (rest.length : Int) + 1 := by
   rw [Zah (by omega) (by omega)]
   omega
  refine WP.ite (fun h => ?_) (fun _ => K2 0 (by omega) (by omega))
  rw [hw1]
  refine WP.chk (by omega) ?_
  have hdiv : (92233720368547758 : Int) ≤ IntKind.wrap .i64 (Int.tdiv 9223372036854775807 ((rest.length : Int) + 1)) := by
   rw [Int.tdiv_eq_ediv_of_nonneg (by omega)]
   have h6 : (92233720368547758 : Int) ≤ 9223372036854775807 / ((rest.length : Int) + 1) := by
    rw [Int.le_ediv_iff_mul_le (by omega)]
    have : (rest.length : Int) + 1 ≤ 100 := by omega
    have := Int.mul_le_mul_of_nonneg_left this (show (0 : Int) ≤ 92233720368547758 by omega)
    omega
   have h7 : 9223372036854775807 / ((rest.length : Int) + 1) ≤ 9223372036854775807 := Int.ediv_le_self _ (by omega)
   rw [Zah (by omega) h7]
   exact h6
  refine WP.ite (fun h => absurd h (by omega)) (fun _ => ?_)
  have hm := Zp2 (a := (sep.size : Int)) (b := (rest.length : Int) + 1) (A := 100) (B := 99) (by omega) (by omega) (by omega) (by omega)
  rw [Zah (n := (sep.size : Int) * ((rest.length : Int) + 1)) (by omega) (by omega), Zah (by omega) (by omega)]
  exact K2 _ (by omega) (by omega)
end
theorem ZpG : ∀ k : _root_.Fin 100, (if k.val < 10 then (str0).extract k.val (k.val + 1) else (str1).extract (k.val * 2) (k.val * 2 + 2)) = bstr (dec3 k.val) := by decide +kernel
section
variable {W w : World} {Hs : List HP}
theorem WP.cutlh {β : Type} {a : Addr} {L C n : Nat} {lo hi : Int} {f : Sl → M β} {Q : β → World → Prop} (h0 : 0 ≤ lo) (h1 : lo ≤ hi) (h2 : hi ≤ C) (h3 : lo ≠ C) (g : WP (f ⟨some (a.add (lo.toNat * n)), hi.toNat - lo.toNat, C - lo.toNat⟩) w Q) : WP (Lx.cut n ⟨some a, L, C⟩ (some lo) (some hi) none >>= f) w Q := by
 refine WP.bind ⟨_, w, ?_, g⟩
 unfold Lx.cut
 simp only [Option.getD_none, Option.getD_some]
 rw [if_pos (by omega)]
 have : ¬ ((C : Int).toNat = lo.toNat) := by omega
 simp only [if_neg this, Option.map_some]
 congr 2
theorem Zri {n : Nat} (h : n < 100) : WP (ZdE (n : Int)) w (fun r w' => r = bstr (dec3 n) ∧ w = w') := by
 have ht := ZpG ⟨n, h⟩
 simp only at ht
 unfold ZdE
 refine WP.ite (fun h => ?_) (fun h => ?_)
 ·rw [Zah (by omega) (by omega), Zkd]
  refine WP.chk ⟨by omega, by omega, by omega⟩ (WP.ret ⟨?_, rfl⟩)
  rw [if_pos (by omega)] at ht
  rw [← ht]
  congr 1
 ·rw [Zah (n := (n : Int) * 2) (by omega) (by omega), Zah (by omega) (by omega), Zhw]
  refine WP.chk ⟨by omega, by omega, by omega⟩ (WP.ret ⟨?_, rfl⟩)
  rw [if_neg (by omega)] at ht
  rw [← ht]
  congr 1
theorem ZkG (s : Ss W Hs w) (i : Nat) (e : nth Hs i = some TabN) {n : Nat} (h : n < 1000) : WP (ZaU (n : Int) 10) w (fun r w' => r = bstr (dec3 n) ∧ Ss W Hs w') := by
 unfold ZaU
 refine WP.ite (fun _ => ?_) (fun h => absurd rfl h)
 refine WP.step (R := fun y w' => y = decide (n < 100) ∧ w = w') (WP.ite (fun _ => WP.ret ⟨?_, rfl⟩) (fun h => absurd (by omega) h)) ?_
 ·exact decide_eq_decide.2 ⟨fun h => by omega, fun h => by omega⟩
 rintro _ _ ⟨rfl, rfl⟩
 refine WP.ite (fun h' => ?_) (fun h' => ?_)
 ·refine WP.step (Zri (of_decide_eq_true h')) ?_
  rintro _ _ ⟨rfl, rfl⟩
  exact WP.ret ⟨rfl, s⟩
 have hn : ¬ n < 100 := fun h2 => h' (decide_eq_true h2)
 refine WP.newv s (fun b w s => ?_)
 refine WP.ite (fun h => absurd h (by omega)) (fun _ => ?_)
 rw [Zfh (by omega) (by omega)]
 unfold ZaU.K1
 refine WP.step (Zmz s (i + 1) e (by omega) h) ?_
 rintro _ _ ⟨rfl, rfl⟩
 have hnd : ndig n = 3 := by unfold ndig; rw [if_neg (by omega), if_neg hn]
 rw [Zah (by omega) (by omega)]
 have hs : Ss W (pts true (pt b 0) (([0] ++ [0, 0, 0] ++ List.replicate 20 0 : List Int).flatMap (cI .u8).enc) :: Hs) w := by
  rw [Cod.arr_enc] at s
  exact s
 refine WP.cutlh (by omega) (by omega) (by omega) (by omega) ?_
 have e1 : (1 + ((ndig n : Nat) : Int)).toNat - (1 : Int).toNat = ndig n := by omega
 rw [e1]
 refine WP.step (ZqU (a := pt b 0) (cap := 24 - (1 : Int).toNat) (pre := [0]) (suf := List.replicate 20 0) n h (xs := [0, 0, 0]) (by rw [hnd]; rfl) hs) ?_
 rintro _ w s
 refine WP.ite (fun h => absurd h (by omega)) (fun _ => ?_)
 refine WP.cutlh (by omega) (by omega) (by omega) (by omega) ?_
 rw [e1]
 have hat : At (([0] ++ dec3 n ++ List.replicate 20 0 : List Int).flatMap (cI .u8).enc) ((1 : Int).toNat * 1) ((dec3 n).flatMap (cI .u8).enc) := by
  refine ⟨([0] : List Int).flatMap (cI .u8).enc, (List.replicate 20 (0 : Int)).flatMap (cI .u8).enc, ?_, rfl⟩
  rw [List.flatMap_append, List.flatMap_append]
 have hr : Rdb (pts true (pt b 0) (([0] ++ dec3 n ++ List.replicate 20 0 : List Int).flatMap (cI .u8).enc)) (cI .u8) ⟨some ((pt b 0).add ((1 : Int).toNat * 1)), ndig n, 24 - (1 : Int).toNat⟩ (dec3 n) := by
  have := ((Zec.pts (q := true) (a := pt b 0)).at_ hat).rdb (c := cI .u8) (k := 24 - (1 : Int).toNat)
  rw [Zfv] at this
  exact this
 refine WP.toStr s 0 rfl hr (WP.ret ⟨rfl, s.drop⟩)
theorem ZnW (s : Ss W Hs w) (i : Nat) (e : nth Hs i = some TabN) {n : Nat} (h : n < 1000) : WP (ZbH (n : Int)) w (fun r w' => r = bstr (dec3 n) ∧ Ss W Hs w') := by
 unfold ZbH
 refine WP.step (R := fun r w' => r = bstr (dec3 n) ∧ Ss W Hs w') ?_ (fun r w h => WP.ret h)
 unfold ZdV
 exact WP.step (ZkG s i e h) (fun r w h => WP.ret h)
end
section
variable {W w : World} {Hs : List HP}
def hexd (k : Nat) : Int := if k < 10 then 48 + (k : Int) else 87 + (k : Int)
def hexL : Nat → Nat → List Int
 | 0, n => [hexd (n % 16)]
 | f + 1, n => if n < 16 then [hexd n] else hexL f (n / 16) ++ [hexd (n % 16)]
def hex4 (n : Nat) : List Int := hexL 3 n
theorem ZoC : ∀ k : _root_.Fin 16, sb str0 (k.val : Int) = hexd k.val := by decide +kernel
theorem ZlK (k : Nat) (h : k < 16) : 0 ≤ hexd k ∧ hexd k ≤ 255 := by
 unfold hexd
 split <;> omega
theorem Zow : ∀ (f n : Nat), Byt (hexL f n)
 | 0, n => fun x hx => by
  simp only [hexL, List.mem_singleton] at hx
  subst hx
  exact ZlK _ (Nat.mod_lt _ (by omega))
 | f + 1, n => fun x hx => by
  unfold hexL at hx
  split at hx
  ·rename_i h
   simp only [List.mem_singleton] at hx
   subst hx
   exact ZlK _ h
  ·rcases List.mem_append.1 hx with hx | hx
   ·exact Zow f _ x hx
   ·simp only [List.mem_singleton] at hx
    subst hx
    exact ZlK _ (Nat.mod_lt _ (by omega))
theorem Zg5 : ∀ (f n : Nat), 0 < (hexL f n).length ∧ (hexL f n).length ≤ f + 1
 | 0, n => by simp [hexL]
 | f + 1, n => by
  unfold hexL
  have := Zg5 f (n / 16)
  split
  ·simp
  ·simp only [List.length_append, List.length_cons, List.length_nil]
   omega
theorem Zt6 (n : Nat) (h : n < 18446744073709551616) : band .u64 (n : Int) 15 = ((n % 16 : Nat) : Int) := by
 have e : (BitVec.ofInt 64 (n : Int) &&& BitVec.ofInt 64 15).toNat = n % 16 := by
  rw [BitVec.toNat_and, BitVec.toNat_ofInt, BitVec.toNat_ofInt]
  have h1 : (((n : Int) % ((2 ^ 64 : Nat) : Int)).toNat) = n := by omega
  have h2 : (((15 : Int) % ((2 ^ 64 : Nat) : Int)).toNat) = 2 ^ 4 - 1 := by decide
  rw [h1, h2, Nat.and_two_pow_sub_one_eq_mod]
 show IntKind.wrap .u64 (((BitVec.ofInt 64 (n : Int) &&& BitVec.ofInt 64 15).toNat : Nat) : Int) = _
 rw [e]
 exact Zfh (by omega) (by omega)
theorem Zm7 (s : Ss W Hs w) (i : Nat) (e : nth Hs i = some TabN) {n : Nat} (h : n < 65536) : WP (Zcn (n : Int) 16) w (fun r w' => r = bstr (hex4 n) ∧ Ss W Hs w') := by
 unfold Zcn
 refine WP.step (R := fun r w' => r = bstr (hex4 n) ∧ Ss W Hs w') ?_ (fun r w h => WP.ret h)
 unfold ZaU
 refine WP.ite (fun h => absurd h (by omega)) (fun _ => ?_)
 refine WP.step (R := fun r w' => r.2 = bstr (hex4 n) ∧ Ss W Hs w') ?_ (fun r w h => WP.ret h)
 have hneg : decide ((n : Int) < 0) = false := decide_eq_false (by omega)
 rw [Zfh (by omega) (by omega), hneg]
 unfold Zaa
 refine WP.step (R := fun y w' => y = false ∧ w = w') (WP.ite (fun h => absurd h (by omega)) (fun _ => WP.ret ⟨rfl, rfl⟩)) ?_
 rintro _ _ ⟨rfl, rfl⟩
 refine WP.step (R := fun y w' => y = false ∧ w = w') (WP.ite (fun h => by cases h) (fun _ => WP.ret ⟨rfl, rfl⟩)) ?_
 rintro _ _ ⟨rfl, rfl⟩
 refine WP.ite (fun h => by cases h) (fun _ => WP.newv s (fun b w s => ?_))
 refine WP.ite (fun h => by cases h) (fun _ => ?_)
 unfold Zaa.K4
 refine WP.step (R := fun y w' => y = true ∧ w = w') ?_ ?_
 ·unfold Zcs
  exact WP.ret ⟨by decide +kernel, rfl⟩
 rintro _ _ ⟨rfl, rfl⟩
 refine WP.ite (fun _ => ?_) (fun h => absurd rfl h)
 have e16 : IntKind.wrap .u64 16 = 16 := by decide +kernel
 have e15 : IntKind.wrap .u64 (16 - 1) = 15 := by decide +kernel
 rw [e16]
 refine WP.step (R := fun y w' => y = 4 ∧ w = w') ?_ ?_
 ·unfold ZcK
  refine WP.step (R := fun y w' => y = 4 ∧ w = w') ?_ (fun r w h => WP.ret h)
  unfold Zct
  refine WP.ite (fun h => absurd h (by decide)) (fun _ => ?_)
  have ej : Int.fdiv (IntKind.wrap .u64 ((band .u64 16 (IntKind.wrap .u64 (0 - 16))) * 285870213051353865)) (2 ^ 58) = 15 := by decide +kernel
  rw [ej]
  refine WP.idx (by omega) (by omega) ?_
  have hat : At (((cI .u8).arr 64).enc dbV) ((15 : Int).toNat * (cI .u8).n) ((cI .u8).enc (dbV.g 15 0)) := At.arr (by omega) (by omega)
  refine WP.ldh s (i + 1) e (TabN.db.at_ hat) rfl (WP.ret ⟨?_, rfl⟩)
  decide +kernel
 rintro _ _ ⟨rfl, rfl⟩
 have hs : Ss W (pts true (pt b 0) ((List.replicate 65 (0 : Int)).flatMap (cI .u8).enc) :: Hs) w := by
  rw [Cod.arr_enc] at s
  exact s
 -- a byte written ahead of those that stand
 have stc : ∀ {β : Type} {w : World} {D : List Int} {k : Nat} {v : Int} {f : Unit → M β} {Q : β → World → Prop}, D.length + (k + 1) = 65 → Ss W (pts true (pt b 0) ((List.replicate (k + 1) (0 : Int) ++ D).flatMap (cI .u8).enc) :: Hs) w →
   (∀ w', Ss W (pts true (pt b 0) ((List.replicate k (0 : Int) ++ v :: D).flatMap (cI .u8).enc) :: Hs) w' → WP (f ()) w' Q) → WP (idx (some (pt b 0)) 65 (k : Int) 1 >>= fun p => st (cI .u8) p v >>= f) w Q := by
  intro β w D k v f Q hl s g
  refine WP.idx (by omega) (by omega) ?_
  refine WP.st s 0 rfl (o := k * 1) (by rw [Int.toNat_natCast]) (Zrc (c := cI .u8) v (by simp only [List.length_append, List.length_replicate]; omega)) (fun w s => g w ?_)
  have e : (List.replicate (k + 1) (0 : Int) ++ D).set k v = List.replicate k 0 ++ v :: D := by
   rw [List.set_append_left _ _ (by simp), List.replicate_succ']
   rw [List.set_append_right _ _ (by simp)]
   simp
  rw [e] at s
  exact s
 refine WP.loopG (γ := Nat × Nat × List Int) (fun g (p : Int × Int) w => p.1 = (g.2.1 : Int) ∧ g.2.1 < 16 ^ (g.1 + 1) ∧ g.1 ≤ 3 ∧ hexL g.1 g.2.1 ++ g.2.2 = hex4 n ∧ p.2 = ((65 - g.2.2.length : Nat) : Int) ∧ g.2.2.length + g.1 ≤ 3 ∧ Ss W (pts true (pt b 0) ((List.replicate (65 - g.2.2.length) (0 : Int) ++ g.2.2).flatMap (cI .u8).enc) :: Hs) w) (fun g _ => g.1) (3, n, []) ⟨rfl, by simpa using h, by simp, by simp [hex4], rfl, by simp, by simpa using hs⟩ ?_
 clear s hs
 rintro ⟨f, u, D⟩ ⟨_, _⟩ w ⟨rfl, hu, hf, hD, rfl, hl, s⟩
 simp only at hu hf hD hl s
 show WP (Zaa.L1 Sl.nil 16 false false b 4 (u : Int) ((65 - D.length : Nat) : Int)) w _
 have hu2 : u < 65536 := Nat.lt_of_lt_of_le hu (by
  have : 16 ^ (f + 1) ≤ 16 ^ 4 := Nat.pow_le_pow_right (by omega) (by omega)
  simpa using this)
 obtain ⟨k, hk⟩ : ∃ k, 65 - D.length = k + 1 := ⟨64 - D.length, by omega⟩
 have hk2 : IntKind.wrap .i64 (((k + 1 : Nat) : Int) - 1) = (k : Int) := by
  rw [Zah (by omega) (by omega)]
  omega
 unfold Zaa.L1
 rw [e16, e15, hk, hk2]
 rw [hk] at s
 refine WP.ite (fun h => ?_) (fun h => ?_)
 ·have hd := ZoC ⟨u % 16, Nat.mod_lt _ (by omega)⟩
  simp only at hd
  rw [Zt6 u (by omega), Zkd, hd]
  refine WP.chk ⟨by omega, by omega⟩ (stc (by omega) s (fun w s => ?_))
  have e4 : IntKind.wrap .u64 4 = 4 := by decide +kernel
  rw [e4]
  refine WP.chk (by omega) (WP.next ?_)
  have ed : Int.fdiv (u : Int) (2 ^ min (Int.toNat 4) 64) = ((u / 16 : Nat) : Int) := Zjq u 16
  rw [ed]
  cases f with
  | zero => simp at hu; omega
  | succ f =>
   refine ⟨(f, u / 16, hexd (u % 16) :: D), ⟨rfl, ?_, by simp only; omega, ?_, ?_, by simp only [List.length_cons]; omega, ?_⟩, by simp only; omega⟩
   ·simp only
    rw [Nat.pow_succ] at hu
    exact Nat.div_lt_of_lt_mul (by omega)
   ·simp only
    rw [← hD]
    conv => rhs; unfold hexL
    rw [if_neg (by omega)]
    simp
   ·simp only [List.length_cons]
    omega
   ·have e6 : 65 - (hexd (u % 16) :: D).length = k := by simp only [List.length_cons]; omega
    rw [e6]
    exact s
 ·refine WP.step ?_ (fun r w h => WP.done h)
  unfold Zaa.K2
  have hd := ZoC ⟨u, by omega⟩
  simp only at hd
  rw [Zkd, hd, hk2]
  refine WP.chk ⟨by omega, by omega⟩ (stc (by omega) s (fun w s => ?_))
  have hfin : hexd u :: D = hex4 n := by
   rw [← hD]
   cases f with
   | zero =>
    unfold hexL
    rw [Nat.mod_eq_of_lt (by omega)]
    rfl
   | succ f =>
    unfold hexL
    rw [if_pos (by omega)]
    rfl
  unfold Zaa.K1
  refine WP.ite (fun h => by cases h) (fun _ => WP.ite (fun h => by cases h) (fun _ => ?_))
  refine WP.cutsuf (by omega) (by simp only; omega) (by simp only; omega) ?_
  have hlen : (hex4 n).length = 65 - k := by
   rw [← hfin, List.length_cons]
   omega
  have hat : At ((List.replicate k (0 : Int) ++ hexd u :: D).flatMap (cI .u8).enc) ((k : Int).toNat * 1) ((hex4 n).flatMap (cI .u8).enc) := by
   refine ⟨(List.replicate k (0 : Int)).flatMap (cI .u8).enc, [], by rw [hfin, List.flatMap_append, List.append_nil], ?_⟩
   rw [Zdh, List.length_replicate, Int.toNat_natCast]
   rfl
  have hr := ((Zec.pts (q := true) (a := pt b 0)).at_ hat).rdb (c := cI .u8) (k := 65 - (k : Int).toNat)
  have hq : (⟨if 65 = (k : Int).toNat then some (pt b 0) else (some (pt b 0)).map (·.add ((k : Int).toNat * 1)), 65 - (k : Int).toNat, 65 - (k : Int).toNat⟩ : Sl) = ⟨some ((pt b 0).add ((k : Int).toNat * 1)), (hex4 n).length, 65 - (k : Int).toNat⟩ := by
   rw [if_neg (by omega), hlen, Int.toNat_natCast]
   rfl
  rw [hq]
  exact WP.toStr s 0 rfl hr (WP.ret ⟨rfl, s.drop⟩)
end
theorem Zbs (l : List Int) : (bstr l).size = l.length := by
 show (bstr l).data.size = _
 simp [bstr]
def dotM (xs : List Int) : List Int := ZcS [46] (xs.map fun x => dec3 x.toNat)
def colM (gs : List Nat) : List Int := ZcS [58] (gs.map hex4)
section
variable {W w : World} {Hs : List HP}
theorem ZmW (s : Ss W Hs w) (t : Nat) (et : nth Hs t = some TabN) {A : HP} {a0 : Sl} {xs : List Int} (i : Nat) (e : nth Hs i = some A) (r : Rdb A (cI .u8) a0 xs) (hb : Byt xs) (hl : xs.length ≤ 16) : WP (ZbB a0) w (fun y w' => y = bstr (dotM xs) ∧ Ss W Hs w') := by
 unfold ZbB
 have hlen := (s.rd_len e r).1
 refine WP.loopG (γ := Nat × List ByteArray) (fun g (p : Sl × Int) w => p.2 = (g.1 : Int) ∧ g.1 ≤ xs.length ∧ Ss W (vec cS p.1 ((xs.take g.1).map fun x => bstr (dec3 x.toNat)) g.2 :: Hs) w) (fun g _ => xs.length - g.1) (0, []) ⟨rfl, by simp, s.mk0 (A := vec cS Sl.nil [] []) Zdo⟩ ?_
 clear s
 rintro ⟨k, sp⟩ ⟨sl, _⟩ w ⟨rfl, hk, s⟩
 simp only at hk s
 show WP (ZbB.L1 a0 sl (k : Int)) w _
 unfold ZbB.L1
 refine WP.ite (fun h => ?_) (fun h => ?_)
 ·have hk2 : k < xs.length := by omega
  have hx := List.getElem?_eq_getElem hk2
  have hxb := hb _ (List.mem_of_getElem? hx)
  have htake : xs.take (k + 1) = xs.take k ++ [xs[k]] := by
   rw [List.take_add_one, hx]
   rfl
  generalize xs[k] = x at hx hxb htake
  refine WP.rdx s (i + 1) e r (by omega) (x := x) (by rw [Int.toNat_natCast]; exact hx) rfl ?_
  rw [Zah (n := x) (by omega) (by omega), show x = ((x.toNat : Nat) : Int) by omega]
  refine WP.step (ZnW s (t + 1) et (n := x.toNat) (by omega)) ?_
  rintro _ w ⟨rfl, s⟩
  refine WP.slot' s (fun _ w s => ?_)
  refine WP.appl s 0 rfl (by simp only [List.length_map, List.length_take, List.length_cons, List.length_nil]; omega) (by decide) (fun sl' w sp' s => WP.next ⟨(k + 1, sp'), ⟨?_, by simp only; omega, ?_⟩, by simp only; omega⟩)
  ·rw [Zah (by omega) (by omega)]
   simp
  ·simp only
   rw [htake, List.map_append]
   exact s
 ·have hk2 : k = xs.length := by omega
  subst hk2
  rw [List.take_length] at s
  have hv := s.vec_len (i := 0) rfl
  refine WP.step (ZnV s 0 rfl Zc9 (by omega) (by rw [List.length_map]; omega) (fun z hz => ?_) (by decide +kernel)) ?_
  ·obtain ⟨x, hx, rfl⟩ := List.mem_map.1 hz
   rw [Zbs, Zfv]
   unfold ndig
   split
   ·omega
   ·split <;> omega
  rintro _ w ⟨rfl, s⟩
  refine WP.done ⟨?_, s.drop⟩
  have e1 : strI Zgl = [46] := by decide +kernel
  rw [e1]
  unfold dotM
  rw [List.map_map]
  congr 2
  apply List.map_congr_left
  intro x hx
  have := hb x hx
  exact Zgt (Zjr (by omega))
theorem Zkf (s : Ss W Hs w) (t : Nat) (et : nth Hs t = some TabN) {A : HP} {a0 : Sl} {xs : List Nat} (i : Nat) (e : nth Hs i = some A) (r : Rdb A (cI .i64) a0 (xs.map fun x : Nat => (x : Int))) (hb : ∀ x ∈ xs, x < 65536) (hl : xs.length ≤ 16) : WP (Zbu a0) w (fun y w' => y = bstr (colM xs) ∧ Ss W Hs w') := by
 unfold Zbu
 have hlen := (s.rd_len e r).1
 rw [List.length_map] at hlen
 refine WP.loopG (γ := Nat × List ByteArray) (fun g (p : Sl × Int) w => p.2 = (g.1 : Int) ∧ g.1 ≤ xs.length ∧ Ss W (vec cS p.1 ((xs.take g.1).map fun x => bstr (hex4 x)) g.2 :: Hs) w) (fun g _ => xs.length - g.1) (0, []) ⟨rfl, by simp, s.mk0 (A := vec cS Sl.nil [] []) Zdo⟩ ?_
 clear s
 rintro ⟨k, sp⟩ ⟨sl, _⟩ w ⟨rfl, hk, s⟩
 simp only at hk s
 show WP (Zbu.L1 a0 sl (k : Int)) w _
 unfold Zbu.L1
 refine WP.ite (fun h => ?_) (fun h => ?_)
 ·have hk2 : k < xs.length := by omega
  have hx := List.getElem?_eq_getElem hk2
  have hxb := hb _ (List.mem_of_getElem? hx)
  have htake : xs.take (k + 1) = xs.take k ++ [xs[k]] := by
   rw [List.take_add_one, hx]
   rfl
  generalize xs[k] = x at hx hxb htake
  refine WP.rdx s (i + 1) e r (by omega) (x := (x : Int)) (by rw [Int.toNat_natCast, List.getElem?_map, hx]; rfl) rfl ?_
  refine WP.step (Zm7 s (t + 1) et hxb) ?_
  rintro _ w ⟨rfl, s⟩
  refine WP.slot' s (fun _ w s => ?_)
  refine WP.appl s 0 rfl (by simp only [List.length_map, List.length_take, List.length_cons, List.length_nil]; omega) (by decide) (fun sl' w sp' s => WP.next ⟨(k + 1, sp'), ⟨?_, by simp only; omega, ?_⟩, by simp only; omega⟩)
  ·rw [Zah (by omega) (by omega)]
   simp
  ·simp only
   rw [htake, List.map_append]
   exact s
 ·have hk2 : k = xs.length := by omega
  subst hk2
  rw [List.take_length] at s
  have hv := s.vec_len (i := 0) rfl
  refine WP.step (ZnV s 0 rfl Zc9 (by omega) (by rw [List.length_map]; omega) (fun z hz => ?_) (by decide +kernel)) ?_
  ·obtain ⟨x, hx, rfl⟩ := List.mem_map.1 hz
   rw [Zbs]
   have := (Zg5 3 x).2
   unfold hex4
   omega
  rintro _ w ⟨rfl, s⟩
  refine WP.done ⟨?_, s.drop⟩
  have e1 : strI Znm = [58] := by decide +kernel
  rw [e1]
  unfold colM
  rw [List.map_map]
  congr 2
  apply List.map_congr_left
  intro x hx
  exact Zgt (Zow 3 x)
end
def Zdq (ip : Zbe) : Int := if ip.V = 6 then 128 else if ip.V = 4 ∧ ip.A.l.drop 4 = List.replicate 12 0 then 32 else 0
def Zfc (k : Int) : Nat := (min 8 (max 0 k)).toNat
def ZmC (c : Int) (k : Int) : Int := c / 2 ^ (8 - Zfc k) * 2 ^ (8 - Zfc k)
def ZmE (a : List Int) (n : Int) : List Int := (List.range 16).map fun i => ZmC (a.getD i 0) (n - 8 * (i : Int))
def Zp6 (a : Vec Int 16) (n : Int) : Vec Int 16 := ⟨ZmE a.l n, by simp [ZmE]⟩
def vpM (p : Zap) : Int := if Zdq p.IP = 0 then 40 else if p.Len < 0 ∨ p.Len > Zdq p.IP then 45 else if Zp6 p.IP.A p.Len = p.IP.A then 0 else 46
theorem Zg1 (ip : Zbe) : 0 ≤ Zdq ip ∧ Zdq ip ≤ 128 := by
 unfold Zdq
 split
 ·omega
 ·split <;> omega
theorem Zrw : ∀ (c : _root_.Fin 256) (k : _root_.Fin 9), band .u8 (c.val : Int) (IntKind.wrap .u8 (Int.fdiv 65280 (2 ^ k.val))) = (c.val : Int) / 2 ^ (8 - k.val) * 2 ^ (8 - k.val) := by decide +kernel
theorem ZnG {c : Int} (k : Int) (h : 0 ≤ c ∧ c ≤ 255) : 0 ≤ ZmC c k ∧ ZmC c k ≤ 255 := by
 unfold ZmC
 have h1 : (0 : Int) < 2 ^ (8 - Zfc k) := Int.pow_pos (by omega)
 constructor
 ·exact Int.mul_nonneg (Int.ediv_nonneg h.1 (by omega)) (by omega)
 ·have := Int.ediv_mul_le c (b := 2 ^ (8 - Zfc k)) (by omega)
  omega
theorem Zp7 {a : List Int} (n : Int) (h : Byt a) : Byt (ZmE a n) := fun x hx => by
 obtain ⟨i, _, rfl⟩ := List.mem_map.1 hx
 refine ZnG _ ?_
 rw [List.getD]
 cases hi : a[i]? with
 | none => simp
 | some y => exact h y (List.mem_of_getElem? hi)
section
variable {W w : World} {Hs : List HP}
theorem Zno (s : Ss W Hs w) (ip : Zbe) : WP (Zex ip) w (fun r w' => r = Zdq ip ∧ Ss W Hs w') := by
 unfold Zex
 refine WP.newv s (fun b w s => WP.ld s 0 rfl (o := 0) (by simp [Addr.add]) (Zcp _) ?_)
 refine WP.ite (fun h => WP.ret ⟨by unfold Zdq; rw [if_pos h], s.drop⟩) (fun h6 => ?_)
 refine WP.ld s 0 rfl (o := 0) (by simp [Addr.add]) (Zcp _) ?_
 refine WP.step (R := fun y w' => y = decide (¬ (ip.V = 4 ∧ ip.A.l.drop 4 = List.replicate 12 0)) ∧ Ss W (pts true (pt b 0) (Zbo.enc ip) :: Hs) w') (WP.ite (fun h => WP.ret ⟨?_, s⟩) (fun h => ?_)) ?_
 ·simp [show ¬ ip.V = 4 from h]
 ·refine WP.cutsuf (by omega) (by simp) (by simp) ?_
  refine WP.bind (WP.chk (by simp) ?_)
  have hq : (if 16 = (4 : Int).toNat then some (Addr.add (pt b 0) 1) else (some (Addr.add (pt b 0) 1)).map (·.add ((4 : Int).toNat * 1))) = some ((pt b 0).add 5) := rfl
  simp only [hq]
  refine ⟨(pt b 0).add 5, w, rfl, ?_⟩
  have hl : (ip.A.l.drop 4).length = 12 := by rw [List.length_drop, ip.A.h]
  have hat : At (Zbo.enc ip) 5 (((cI .u8).arr 12).enc ⟨ip.A.l.drop 4, hl⟩) := by
   have h1 : At (((cI .u8).arr 16).enc ip.A) 4 (((cI .u8).arr 12).enc ⟨ip.A.l.drop 4, hl⟩) := by
    rw [Cod.arr_enc, Cod.arr_enc]
    refine ⟨(ip.A.l.take 4).flatMap (cI .u8).enc, [], ?_, ?_⟩
    ·rw [List.append_nil, ← List.flatMap_append, List.take_append_drop]
    ·rw [Zdh, List.length_take, ip.A.h]
     rfl
   exact (ZbZ ip).trans h1
  refine WP.ld s 0 rfl (o := 5) rfl hat (WP.ret ⟨?_, s⟩)
  have h4 : ip.V = 4 := by
   rcases Decidable.em (ip.V = 4) with h' | h'
   ·exact h'
   ·exact absurd h' h
  have e1 : eqv (⟨ip.A.l.drop 4, hl⟩ : Vec Int 12) (⟨[0, 0, 0, 0, 0, 0, 0, 0, 0, 0, 0, 0], rfl⟩ : Vec Int 12) = decide (ip.A.l.drop 4 = List.replicate 12 0) := by
   refine ZtU ?_
   rw [decide_eq_true_iff]
   exact ⟨fun h => Vec.eq h, fun h => congrArg Vec.l h⟩
  rw [e1]
  simp [h4]
 rintro _ w ⟨rfl, s⟩
 refine WP.ite (fun h => WP.ret ⟨?_, s.drop⟩) (fun h => WP.ret ⟨?_, s.drop⟩)
 ·unfold Zdq
  rw [if_neg h6, if_neg (of_decide_eq_true h)]
 ·unfold Zdq
  rw [if_neg h6, if_pos (Decidable.not_not.1 fun h' => h (decide_eq_true h'))]
theorem ZrZ (s : Ss W Hs w) (ip : Zbe) : WP (ZeH ip) w (fun r w' => r = decide (Zdq ip > 0) ∧ Ss W Hs w') := by
 unfold ZeH
 refine WP.slot' s (fun _ w s => WP.step (Zno s ip) ?_)
 rintro _ w ⟨rfl, s⟩
 exact WP.ret ⟨rfl, s⟩
theorem Zp5 (s : Ss W Hs w) (a : Vec Int 16) (hb : Byt a.l) {n : Int} (n0 : 0 ≤ n) (n1 : n ≤ 128) : WP (ZbC a n) w (fun r w' => r = Zp6 a n ∧ Ss W Hs w') := by
 unfold ZbC
 refine WP.slot' s (fun _ w s => WP.slot' s (fun _ w s => WP.slot' s (fun _ w s => ?_)))
 refine WP.loopG (γ := Nat) (fun i (p : Int × Vec Int 16) w => p.1 = (i : Int) ∧ i ≤ 16 ∧ (∀ j, j < i → p.2.l[j]? = some (ZmC (a.l.getD j 0) (n - 8 * (j : Int)))) ∧ Ss W Hs w) (fun i _ => 16 - i) 0 ⟨rfl, by omega, fun j h => absurd h (by omega), s⟩ ?_
 clear s
 rintro i ⟨_, v⟩ w ⟨rfl, hi, hv, s⟩
 simp only at hv
 show WP (ZbC.L1 a n (i : Int) v) w _
 unfold ZbC.L1
 refine WP.ite (fun h => ?_) (fun h => WP.done ⟨?_, s⟩)
 ·have e8 : IntKind.wrap .i64 (8 * (i : Int)) = 8 * (i : Int) := Zah (by omega) (by omega)
  have en : IntKind.wrap .i64 (n - 8 * (i : Int)) = n - 8 * (i : Int) := Zah (by omega) (by omega)
  have ek : (if (if 0 < n - 8 * (i : Int) then n - 8 * (i : Int) else 0) < 8 then (if 0 < n - 8 * (i : Int) then n - 8 * (i : Int) else 0) else 8) = ((Zfc (n - 8 * (i : Int)) : Nat) : Int) := by
   unfold Zfc
   split <;> split <;> omega
  have hk : Zfc (n - 8 * (i : Int)) ≤ 8 := by
   unfold Zfc
   omega
  rw [e8, en, ek, Zfh (by omega) (by omega)]
  refine WP.chk ⟨by omega, by omega⟩ (WP.chk (by omega) (WP.chk ⟨by omega, by omega⟩ (WP.next ⟨i + 1, ⟨?_, by omega, ?_, s⟩, by omega⟩)))
  ·simp only
   rw [Zah (by omega) (by omega)]
   simp
  ·intro j hj
   have hc : 0 ≤ a.l.getD i 0 ∧ a.l.getD i 0 ≤ 255 := by
    rw [List.getD]
    cases hx : a.l[i]? with
    | none => simp
    | some y => exact hb y (List.mem_of_getElem? hx)
   have ht := Zrw ⟨(a.l.getD i 0).toNat, by omega⟩ ⟨Zfc (n - 8 * (i : Int)), by omega⟩
   simp only at ht
   rw [show (((a.l.getD i 0).toNat : Nat) : Int) = a.l.getD i 0 by omega] at ht
   have hmin : min (Int.toNat ((Zfc (n - 8 * (i : Int)) : Nat) : Int)) 64 = Zfc (n - 8 * (i : Int)) := by omega
   show (v.l.set (Int.toNat (i : Int)) (band .u8 (a.l.getD (Int.toNat (i : Int)) 0) _))[j]? = _
   rw [hmin, Int.toNat_natCast, ht]
   by_cases ej : j = i
   ·subst ej
    rw [List.getElem?_set_self (by rw [v.h]; omega)]
    rfl
   ·rw [List.getElem?_set_ne (fun h => ej h.symm)]
    exact hv j (by omega)
 ·have hi : i = 16 := by omega
  subst hi
  refine Vec.eq ?_
  show v.l = ZmE a.l n
  apply List.ext_getElem?
  intro j
  unfold ZmE
  rw [List.getElem?_map]
  by_cases hj : j < 16
  ·rw [hv j hj, List.getElem?_range hj]
   rfl
  ·rw [List.getElem?_eq_none (by rw [v.h]; omega), List.getElem?_eq_none (by simp; omega)]
   rfl
theorem ZfG (s : Ss W Hs w) (p : Zap) (hb : Byt p.IP.A.l) : WP (Zcg p) w (fun r w' => r = vpM p ∧ Ss W Hs w') := by
 unfold Zcg
 have hz := Zg1 p.IP
 refine WP.slot' s (fun _ w s => WP.step (Zno s p.IP) ?_)
 rintro _ w ⟨rfl, s⟩
 refine WP.ite (fun h => WP.ret ⟨by unfold vpM; rw [if_pos h], s⟩) (fun h0 => ?_)
 refine WP.step (R := fun y w' => y = decide (p.Len < 0 ∨ p.Len > Zdq p.IP) ∧ Ss W Hs w') (WP.ite (fun h => WP.ret ⟨by simp [h], s⟩) (fun h => WP.ret ⟨by simp [h], s⟩)) ?_
 rintro _ w ⟨rfl, s⟩
 refine WP.ite (fun h => WP.ret ⟨by unfold vpM; rw [if_neg h0, if_pos (of_decide_eq_true h)], s⟩) (fun h => WP.draw' s (fun w s => ?_))
 have hn : ¬ (p.Len < 0 ∨ p.Len > Zdq p.IP) := fun h' => h (decide_eq_true h')
 refine WP.step (Zp5 s p.IP.A hb (by omega) (by omega)) ?_
 rintro _ w ⟨rfl, s⟩
 refine WP.ite (fun h => WP.ret ⟨by unfold vpM; rw [if_neg h0, if_neg hn, if_neg h], s⟩) (fun h => WP.ret ⟨by unfold vpM; rw [if_neg h0, if_neg hn, if_pos (Decidable.not_not.1 h)], s⟩)
theorem Zjy {p : Zap} (h : vpM p = 0) : Zdq p.IP ≠ 0 ∧ 0 ≤ p.Len ∧ p.Len ≤ Zdq p.IP ∧ Zp6 p.IP.A p.Len = p.IP.A := by
 unfold vpM at h
 split at h
 ·cases h
 ·rename_i h0
  split at h
  ·cases h
  ·rename_i h1
   split at h
   ·rename_i h2
    exact ⟨h0, by omega, by omega, h2⟩
   ·cases h
end
def grp (a : List Int) (i : Nat) : Nat := 256 * (a.getD (2 * i) 0).toNat + (a.getD (2 * i + 1) 0).toNat
def grps (a : List Int) : List Nat := (List.range 8).map (grp a)
def zrun (g : List Nat) : Nat := (g.takeWhile (· == 0)).length
def ZdG (g : List Nat) : Nat → Int × Nat
 | 0 => (-1, 1)
 | i + 1 => if zrun (g.drop i) > (ZdG g i).2 then ((i : Int), zrun (g.drop i)) else ZdG g i
def Zd9 (g : List Nat) : Int × Nat := ZdG g 8
def prIP (ip : Zbe) : List Int :=
 if ip.V = 4 then dotM (ip.A.l.take 4)
 else if ip.A.l.take 12 = [0, 0, 0, 0, 0, 0, 0, 0, 0, 0, 255, 255] then [58, 58, 102, 102, 102, 102, 58] ++ dotM (ip.A.l.drop 12)
 else if (Zd9 (grps ip.A.l)).1 < 0 then colM (grps ip.A.l)
 else colM ((grps ip.A.l).take (Zd9 (grps ip.A.l)).1.toNat) ++ [58, 58] ++ colM ((grps ip.A.l).drop ((Zd9 (grps ip.A.l)).1.toNat + (Zd9 (grps ip.A.l)).2))
def piM (ip : Zbe) : ByteArray × Int := if Zdq ip > 0 then (bstr (prIP ip), 0) else (ByteArray.empty, 40)
def ppM (p : Zap) : ByteArray × Int := if vpM p = 0 then (bstr (prIP p.IP ++ 47 :: dec3 p.Len.toNat), 0) else (ByteArray.empty, vpM p)
theorem Zlj (g : List Nat) : zrun g ≤ g.length := (List.takeWhile_sublist _).length_le
theorem Zg6 (a : List Int) : (grps a).length = 8 := by simp [grps]
theorem Zjo {a : List Int} (h : Byt a) (i : Nat) : 0 ≤ a.getD i 0 ∧ a.getD i 0 ≤ 255 := by
 rw [List.getD]
 cases hx : a[i]? with
 | none => simp
 | some y => exact h y (List.mem_of_getElem? hx)
theorem Zqr {a : List Int} (h : Byt a) : ∀ x ∈ grps a, x < 65536 := fun x hx => by
 obtain ⟨i, _, rfl⟩ := List.mem_map.1 hx
 unfold grp
 have h1 := Zjo h (2 * i)
 have h2 := Zjo h (2 * i + 1)
 omega
theorem ZgH {g : List Nat} (hg : g.length = 8) : ∀ i, i ≤ 8 → -1 ≤ (ZdG g i).1 ∧ (ZdG g i).1 ≤ 7 ∧ 1 ≤ (ZdG g i).2 ∧ (ZdG g i).2 ≤ 8 ∧ (0 ≤ (ZdG g i).1 → (ZdG g i).1 + (ZdG g i).2 ≤ 8)
 | 0, _ => by simp [ZdG]
 | i + 1, h => by
  have ih := ZgH hg i (by omega)
  have hz := Zlj (g.drop i)
  rw [List.length_drop, hg] at hz
  unfold ZdG
  split
  ·simp only
   omega
  ·exact ih
theorem catb (a b : List Int) : bstr a ++ bstr b = bstr (a ++ b) := by
 unfold bstr
 apply ByteArray.ext
 simp
section
variable {W w : World} {Hs : List HP}
theorem Zpa (s : Ss W Hs w) (g : List Nat) (hg : g.length = 8) (v : Vec Int 8) (hv : v.l = g.map fun x : Nat => (x : Int)) : WP (ZaV v) w (fun r w' => r = ((Zd9 g).1, ((Zd9 g).2 : Int)) ∧ Ss W Hs w') := by
 unfold ZaV
 refine WP.slot' s (fun _ w s => ?_)
 refine WP.loopG (γ := Nat) (fun i (p : Int × Int × Int) w => p = ((ZdG g i).1, ((ZdG g i).2 : Int), (i : Int)) ∧ i ≤ 8 ∧ Ss W Hs w) (fun i _ => 8 - i) 0 ⟨rfl, by omega, s⟩ ?_
 clear s
 rintro i _ w ⟨rfl, hi, s⟩
 show WP (ZaV.L1 v (ZdG g i).1 ((ZdG g i).2 : Int) (i : Int)) w _
 unfold ZaV.L1
 have hinv := ZgH hg i hi
 refine WP.ite (fun h => ?_) (fun h => WP.done ⟨?_, s⟩)
 rotate_left
 ·have : i = 8 := by omega
  subst this
  rfl
 have hget : ∀ k, v.g (k : Nat) 0 = ((g.getD k 0 : Nat) : Int) := fun k => by
  show v.l.getD (Int.toNat (k : Int)) 0 = _
  rw [hv, Int.toNat_natCast, List.getD, List.getD, List.getElem?_map]
  cases g[k]? <;> rfl
 refine WP.loopG (γ := Nat) (fun n (p : Int) w => p = (n : Int) ∧ n ≤ zrun (g.drop i) ∧ Ss W Hs w) (fun n _ => zrun (g.drop i) - n) 0 ⟨rfl, by omega, s⟩ ?_
 clear s
 rintro n _ w ⟨rfl, hn, s⟩
 show WP (ZaV.L2 v (ZdG g i).1 ((ZdG g i).2 : Int) (i : Int) (n : Int)) w _
 unfold ZaV.L2
 have hz := Zlj (g.drop i)
 rw [List.length_drop, hg] at hz
 have ein : IntKind.wrap .i64 ((i : Int) + (n : Int)) = ((i + n : Nat) : Int) := by
  rw [Zah (by omega) (by omega)]
  omega
 rw [ein]
 -- the run goes on just where a zero stands
 have hgo : (i + n < 8 ∧ g.getD (i + n) 0 = 0) ↔ n < zrun (g.drop i) := by
  unfold zrun at hn ⊢
  have hd : ∀ (l : List Nat) (n : Nat), n ≤ (l.takeWhile (· == 0)).length → ((n < l.length ∧ l.getD n 0 = 0) ↔ n < (l.takeWhile (· == 0)).length) := by
   intro l
   induction l with
   | nil => intro n hn; simp
   | cons x l ih =>
    intro n hn
    by_cases hx : x = 0
    ·subst hx
     simp only [List.takeWhile_cons, beq_self_eq_true, if_true, List.length_cons] at hn ⊢
     cases n with
     | zero => simp
     | succ n =>
      have := ih n (by omega)
      simp only [List.getD_cons_succ]
      omega
    ·have hx' : (x == 0) = false := by simpa using hx
     simp only [List.takeWhile_cons, hx', Bool.false_eq_true, if_false, List.length_nil] at hn ⊢
     have : n = 0 := by omega
     subst this
     simp [hx]
  have := hd (g.drop i) n hn
  rw [← this, List.length_drop, hg]
  have e : (g.drop i).getD n 0 = g.getD (i + n) 0 := by
   rw [List.getD, List.getD, List.getElem?_drop]
  rw [e]
  constructor
  ·exact fun h => ⟨by omega, h.2⟩
  ·exact fun h => ⟨by omega, h.2⟩
 refine WP.step (R := fun y w' => y = decide (n < zrun (g.drop i)) ∧ Ss W Hs w') (WP.ite (fun h => WP.chk ⟨by omega, by omega⟩ (WP.ret ⟨?_, s⟩)) (fun h => WP.ret ⟨?_, s⟩)) ?_
 ·rw [hget, Bool.eq_iff_iff]
  simp only [beq_iff_eq, decide_eq_true_eq]
  rw [← hgo]
  omega
 ·rw [eq_comm, decide_eq_false_iff_not, ← hgo]
  omega
 rintro _ w ⟨rfl, s⟩
 refine WP.ite (fun h => WP.next ⟨n + 1, ⟨?_, by have := of_decide_eq_true h; omega, s⟩, by have := of_decide_eq_true h; omega⟩) (fun h => ?_)
 ·rw [Zah (by omega) (by omega)]
  simp
 have hn2 : ¬ n < zrun (g.drop i) := fun h' => h (decide_eq_true h')
 have hn3 : n = zrun (g.drop i) := by omega
 have ei : IntKind.wrap .i64 ((i : Int) + 1) = ((i + 1 : Nat) : Int) := by
  rw [Zah (by omega) (by omega)]
  simp
 rw [ei]
 refine WP.ite (fun h => WP.done ⟨i + 1, ⟨?_, by omega, s⟩, by omega⟩) (fun h => WP.done ⟨i + 1, ⟨?_, by omega, s⟩, by omega⟩)
 ·conv => rhs; unfold ZdG
  rw [if_pos (by omega), hn3]
 ·conv => rhs; unfold ZdG
  rw [if_neg (by omega)]
theorem Zh3 {sep : List Int} {l : List (List Int)} {k : Nat} (h : ∀ x ∈ l, x.length ≤ k) : (ZcS sep l).length ≤ l.length * (sep.length + k) := by
 cases l with
 | nil => simp [ZcS]
 | cons x r =>
  have h1 := Zj8 (f := fun y => sep ++ y) (l := r) (k := sep.length + k) (fun y hy => by
   have := h y (by simp [hy])
   rw [List.length_append]
   omega)
  have h2 := h x (by simp)
  simp only [ZcS, List.length_append, List.length_cons, Nat.succ_mul]
  omega
theorem Zha {xs : List Int} (hl : xs.length ≤ 16) : (dotM xs).length ≤ 64 := by
 have := Zh3 (sep := [46]) (l := xs.map fun x => dec3 x.toNat) (k := 3) (fun x hx => by
  obtain ⟨y, _, rfl⟩ := List.mem_map.1 hx
  rw [Zfv]
  unfold ndig
  split
  ·omega
  ·split <;> omega)
 rw [List.length_map] at this
 unfold dotM
 simp only [List.length_cons, List.length_nil] at this
 omega
theorem Zfw {gs : List Nat} (hl : gs.length ≤ 16) : (colM gs).length ≤ 80 := by
 have := Zh3 (sep := [58]) (l := gs.map hex4) (k := 4) (fun x hx => by
  obtain ⟨y, _, rfl⟩ := List.mem_map.1 hx
  exact (Zg5 3 y).2)
 rw [List.length_map] at this
 unfold colM
 simp only [List.length_cons, List.length_nil] at this
 omega
theorem ZlV (x y : Nat) (hx : x < 256) (hy : y < 256) : bor .i64 (IntKind.wrap .i64 (IntKind.wrap .i64 (x : Int) * 2 ^ 8)) (IntKind.wrap .i64 (y : Int)) = ((256 * x + y : Nat) : Int) := by
 have e1 : IntKind.wrap .i64 (x : Int) = x := Zah (by omega) (by omega)
 have e2 : IntKind.wrap .i64 (y : Int) = y := Zah (by omega) (by omega)
 have e3 : IntKind.wrap .i64 ((x : Int) * 2 ^ 8) = ((256 * x : Nat) : Int) := by
  rw [Zah (by omega) (by omega)]
  omega
 rw [e1, e2, e3]
 have e : (BitVec.ofInt 64 ((256 * x : Nat) : Int) ||| BitVec.ofInt 64 (y : Int)).toNat = 256 * x + y := by
  rw [BitVec.toNat_or, BitVec.toNat_ofInt, BitVec.toNat_ofInt]
  have h1 : ((((256 * x : Nat) : Int) % ((2 ^ 64 : Nat) : Int)).toNat) = x <<< 8 := by
   rw [Nat.shiftLeft_eq]
   omega
  have h2 : (((y : Int) % ((2 ^ 64 : Nat) : Int)).toNat) = y := by omega
  rw [h1, h2, ← Nat.shiftLeft_add_eq_or_of_lt (by omega), Nat.shiftLeft_eq]
  omega
 show IntKind.wrap .i64 (((BitVec.ofInt 64 ((256 * x : Nat) : Int) ||| BitVec.ofInt 64 (y : Int)).toNat : Nat) : Int) = _
 rw [e]
 exact Zah (by omega) (by omega)
theorem WP.cutall {β : Type} {a : Addr} {C n : Nat} {f : Sl → M β} {Q : β → World → Prop} (g : WP (f ⟨some a, C, C⟩) w Q) : WP (Lx.cut n ⟨some a, C, C⟩ none none none >>= f) w Q := by
 refine WP.bind ⟨_, w, ?_, g⟩
 unfold Lx.cut
 simp only [Option.getD_none]
 rw [if_pos (by omega)]
 simp [Addr.add]
theorem Zlg (s : Ss W Hs w) (t : Nat) (et : nth Hs t = some TabN) (ip : Zbe) (hb : Byt ip.A.l) : WP (Za3 ip) w (fun r w' => r = piM ip ∧ Ss W Hs w') := by
 unfold Za3
 refine WP.newv s (fun b w s => WP.ld s 0 rfl (o := 0) (by simp [Addr.add]) (At.whole _) (WP.step (ZrZ s ip) ?_))
 rintro _ w ⟨rfl, s⟩
 refine WP.ite (fun h => WP.ret ⟨?_, s.drop⟩) (fun h => ?_)
 ·unfold piM
  rw [if_neg (fun h' => h (decide_eq_true h'))]
 have hv : Zdq ip > 0 := of_decide_eq_true (Decidable.not_not.1 h)
 have fin : ∀ {r : ByteArray × Int}, r = (bstr (prIP ip), 0) → r = piM ip := fun h => by
  unfold piM
  rw [if_pos hv]
  exact h
 have rdA : Rdb (pts true (pt b 0) (Zbo.enc ip)) (cI .u8) ⟨some ((pt b 0).add 1), ip.A.l.length, 16⟩ ip.A.l := by
  refine Zec.rdb ((Zec.pts (q := true) (a := pt b 0)).at_ ?_)
  rw [← Cod.arr_enc]
  exact ZbZ ip
 have hl16 := ip.A.h
 refine WP.ld s 0 rfl (o := 0) (by simp [Addr.add]) (Zcp _) ?_
 refine WP.ite (fun h4 => ?_) (fun h4 => ?_)
 ·refine WP.cutpre (by omega) (by simp only; omega) (WP.step (ZmW s (t + 1) et 0 rfl (rdA.take (k := 4) (n := 16) (by omega)) (fun x hx => hb x (List.mem_of_mem_take hx)) (by rw [List.length_take]; omega)) ?_)
  rintro _ w ⟨rfl, s⟩
  refine WP.ret ⟨fin ?_, s.drop⟩
  unfold prIP
  rw [if_pos h4]
 refine WP.cutpre (by omega) (by simp only; omega) (WP.bind (WP.chk (by simp) ?_))
 have hl12 : (ip.A.l.take 12).length = 12 := by rw [List.length_take]; omega
 have hat : At (Zbo.enc ip) 1 (((cI .u8).arr 12).enc ⟨ip.A.l.take 12, hl12⟩) := by
  have h1 : At (((cI .u8).arr 16).enc ip.A) 0 (((cI .u8).arr 12).enc ⟨ip.A.l.take 12, hl12⟩) := by
   rw [Cod.arr_enc, Cod.arr_enc]
   refine ⟨[], (ip.A.l.drop 12).flatMap (cI .u8).enc, ?_, rfl⟩
   rw [List.nil_append, ← List.flatMap_append, List.take_append_drop]
  exact (ZbZ ip).trans h1
 refine ⟨(pt b 0).add 1, w, rfl, ?_⟩
 refine WP.ld s 0 rfl (o := 1) rfl hat ?_
 have hm : (⟨ip.A.l.take 12, hl12⟩ : Vec Int 12) = (⟨[0, 0, 0, 0, 0, 0, 0, 0, 0, 0, 255, 255], rfl⟩ : Vec Int 12) ↔ ip.A.l.take 12 = [0, 0, 0, 0, 0, 0, 0, 0, 0, 0, 255, 255] := ⟨fun h => congrArg Vec.l h, fun h => Vec.eq h⟩
 refine WP.ite (fun hf => ?_) (fun hf => ?_)
 ·refine WP.cutsuf (by omega) (by simp) (by simp) ?_
  have rd := rdA.drop (k := 12) (by omega) (by simp only; omega)
  have rd : Rdb (pts true (pt b 0) (Zbo.enc ip)) (cI .u8) ⟨if 16 = 12 then some ((pt b 0).add 1) else (some ((pt b 0).add 1)).map (·.add (12 * 1)), ip.A.l.length - 12, 16 - 12⟩ (ip.A.l.drop 12) := rd
  rw [hl16] at rd
  refine WP.step (ZmW s (t + 1) et 0 rfl rd (fun x hx => hb x (List.mem_of_mem_drop hx)) (by rw [List.length_drop]; omega)) ?_
  rintro _ w ⟨rfl, s⟩
  have hsz : (Znl).size = 7 := by decide +kernel
  have hlen := Zha (xs := ip.A.l.drop 12) (by rw [List.length_drop]; omega)
  refine WP.chk (by rw [Zbs, hsz]; omega) (WP.ret ⟨fin ?_, s.drop⟩)
  have e : Znl = bstr [58, 58, 102, 102, 102, 102, 58] := by decide +kernel
  rw [e, catb]
  unfold prIP
  rw [if_neg h4, if_pos (hm.1 hf)]
 have hf' := fun h => hf (hm.2 h)
 have hg := Zg6 ip.A.l
 refine WP.newv s (fun b2 w s => ?_)
 have s : Ss W (pts true (pt b2 0) ((((grps ip.A.l).take 0).map (fun x : Nat => (x : Int)) ++ List.replicate 8 (0 : Int)).flatMap (cI .i64).enc) :: pts true (pt b 0) (Zbo.enc ip) :: Hs) w := by
  rw [Cod.arr_enc] at s
  exact s
 refine WP.loopG (γ := Nat) (fun i (p : Int) w => p = (i : Int) ∧ i ≤ 8 ∧ Ss W (pts true (pt b2 0) ((((grps ip.A.l).take i).map (fun x : Nat => (x : Int)) ++ List.replicate (8 - i) (0 : Int)).flatMap (cI .i64).enc) :: pts true (pt b 0) (Zbo.enc ip) :: Hs) w) (fun i _ => 8 - i) 0 ⟨rfl, by omega, s⟩ ?_
 clear s
 rintro i _ w ⟨rfl, hi, s⟩
 show WP (Za3.L1 b b2 (i : Int)) w _
 unfold Za3.L1
 refine WP.ite (fun h => WP.draw' s (fun w s => ?_)) (fun h => ?_)
 ·have hi8 : i < 8 := by omega
  have ei : IntKind.wrap .i64 (2 * (i : Int)) = ((2 * i : Nat) : Int) := by
   rw [Zah (by omega) (by omega)]
   omega
  have ei2 : IntKind.wrap .i64 (((2 * i : Nat) : Int) + 1) = ((2 * i + 1 : Nat) : Int) := by
   rw [Zah (by omega) (by omega)]
   omega
  rw [ei, ei2]
  have gx : ∀ k, k < 16 → At (Zbo.enc ip) (1 + k * 1) ((cI .u8).enc (ip.A.l.getD k 0)) := fun k hk => by
   have h1 : At (((cI .u8).arr 16).enc ip.A) ((k : Int).toNat * (cI .u8).n) ((cI .u8).enc (ip.A.g (k : Int) 0)) := At.arr (by omega) (by omega)
   rw [Int.toNat_natCast] at h1
   exact (ZbZ ip).trans h1
  refine WP.idx (by omega) (by omega) (WP.ld s 1 rfl (o := 1 + 2 * i * 1) (by rw [Int.toNat_natCast, Zei]) (gx _ (by omega)) ?_)
  refine WP.idx (by omega) (by omega) (WP.ld s 1 rfl (o := 1 + (2 * i + 1) * 1) (by rw [Int.toNat_natCast, Zei]) (gx _ (by omega)) ?_)
  have c1 := Zjo hb (2 * i)
  have c2 := Zjo hb (2 * i + 1)
  have eb := ZlV (ip.A.l.getD (2 * i) 0).toNat (ip.A.l.getD (2 * i + 1) 0).toNat (by omega) (by omega)
  rw [show (((ip.A.l.getD (2 * i) 0).toNat : Nat) : Int) = ip.A.l.getD (2 * i) 0 by omega, show (((ip.A.l.getD (2 * i + 1) 0).toNat : Nat) : Int) = ip.A.l.getD (2 * i + 1) 0 by omega] at eb
  rw [eb]
  have hlt : ((grps ip.A.l).take i).length = i := by rw [List.length_take]; omega
  refine WP.idx (by omega) (by omega) (WP.st s 0 rfl (o := i * 1) (by rw [Int.toNat_natCast]) (Zrc (c := cI .i64) _ (by simp only [List.length_append, List.length_map, List.length_replicate, hlt]; omega)) (fun w s => WP.next ⟨i + 1, ⟨?_, by omega, ?_⟩, by omega⟩))
  ·rw [Zah (by omega) (by omega)]
   simp
  ·have hgi : (grps ip.A.l)[i]? = some (grp ip.A.l i) := by
    unfold grps
    rw [List.getElem?_map, List.getElem?_range hi8]
    rfl
   have e : (((grps ip.A.l).take i).map (fun x : Nat => (x : Int)) ++ List.replicate (8 - i) (0 : Int)).set i ((256 * (ip.A.l.getD (2 * i) 0).toNat + (ip.A.l.getD (2 * i + 1) 0).toNat : Nat) : Int) = ((grps ip.A.l).take (i + 1)).map (fun x : Nat => (x : Int)) ++ List.replicate (8 - (i + 1)) (0 : Int) := by
    rw [List.set_append_right _ _ (by rw [List.length_map, hlt]; exact Nat.le_refl _), List.length_map, hlt, Nat.sub_self, show 8 - i = (8 - (i + 1)) + 1 by omega, List.replicate_succ, List.set_cons_zero, List.take_add_one, hgi]
    simp [grp]
   rw [e] at s
   exact s
 ·have hi8 : i = 8 := by omega
  subst hi8
  refine WP.step ?_ (fun r w h => WP.done h)
  have ht8 : (grps ip.A.l).take 8 = grps ip.A.l := List.take_of_length_le (by omega)
  have s : Ss W (pts true (pt b2 0) (((grps ip.A.l).map (fun x : Nat => (x : Int))).flatMap (cI .i64).enc) :: pts true (pt b 0) (Zbo.enc ip) :: Hs) w := by
   rw [ht8] at s
   simpa using s
  have hlv : ((grps ip.A.l).map (fun x : Nat => (x : Int))).length = 8 := by rw [List.length_map, hg]
  unfold Za3.K1
  refine WP.ld s 0 rfl (o := 0) (by simp [Addr.add]) (x := (⟨(grps ip.A.l).map (fun x : Nat => (x : Int)), hlv⟩ : Vec Int 8)) (by rw [Cod.arr_enc]; exact At.whole _) ?_
  refine WP.step (Zpa s (grps ip.A.l) hg _ rfl) ?_
  rintro _ w ⟨rfl, s⟩
  have hinv := ZgH hg 8 (Nat.le_refl _)
  have hinv : -1 ≤ (Zd9 (grps ip.A.l)).1 ∧ (Zd9 (grps ip.A.l)).1 ≤ 7 ∧ 1 ≤ (Zd9 (grps ip.A.l)).2 ∧ (Zd9 (grps ip.A.l)).2 ≤ 8 ∧ (0 ≤ (Zd9 (grps ip.A.l)).1 → (Zd9 (grps ip.A.l)).1 + (Zd9 (grps ip.A.l)).2 ≤ 8) := hinv
  have hgb := Zqr hb
  have rdG : Rdb (pts true (pt b2 0) (((grps ip.A.l).map (fun x : Nat => (x : Int))).flatMap (cI .i64).enc)) (cI .i64) ⟨some (pt b2 0), 8, 8⟩ ((grps ip.A.l).map (fun x : Nat => (x : Int))) := by
   have := (Zec.pts (q := true) (a := pt b2 0) (L := ((grps ip.A.l).map (fun x : Nat => (x : Int))).flatMap (cI .i64).enc)).rdb (c := cI .i64) (k := 8)
   rw [hlv] at this
   exact this
  refine WP.ite (fun hn => ?_) (fun hn => ?_)
  ·refine WP.cutall (WP.step (Zkf s (t + 2) et (xs := grps ip.A.l) 0 rfl rdG hgb (by omega)) ?_)
   rintro _ w ⟨rfl, s⟩
   refine WP.ret ⟨fin ?_, s.drop.drop⟩
   unfold prIP
   rw [if_neg h4, if_neg hf', if_pos hn]
  ·obtain ⟨at_, hat_⟩ : ∃ k : Nat, (Zd9 (grps ip.A.l)).1 = (k : Int) := ⟨(Zd9 (grps ip.A.l)).1.toNat, by omega⟩
   simp only
   have hat8 : at_ + (Zd9 (grps ip.A.l)).2 ≤ 8 := by omega
   rw [hat_]
   refine WP.draw' s (fun w s => WP.cutpre (by omega) (by simp only; omega) ?_)
   have r1 := rdG.take (k := at_) (n := 8) (by omega)
   rw [← List.map_take] at r1
   refine WP.step (Zkf s (t + 2) et (xs := (grps ip.A.l).take at_) 0 rfl r1 (fun x hx => hgb x (List.mem_of_mem_take hx)) (by rw [List.length_take]; omega)) ?_
   rintro _ w ⟨rfl, s⟩
   have l1 := Zfw (gs := (grps ip.A.l).take at_) (by rw [List.length_take]; omega)
   have hsz : (Ziv).size = 2 := by decide +kernel
   refine WP.chk (by rw [Zbs, hsz]; omega) ?_
   have ew : IntKind.wrap .i64 ((at_ : Int) + ((Zd9 (grps ip.A.l)).2 : Int)) = ((at_ + (Zd9 (grps ip.A.l)).2 : Nat) : Int) := by
    rw [Zah (by omega) (by omega)]
    omega
   rw [ew]
   refine WP.cutsuf (by omega) (by simp only; omega) (by simp) ?_
   have r2 := rdG.drop (k := at_ + (Zd9 (grps ip.A.l)).2) (by omega) (by simp)
   rw [← List.map_drop] at r2
   refine WP.step (Zkf s (t + 2) et (xs := (grps ip.A.l).drop (at_ + (Zd9 (grps ip.A.l)).2)) 0 rfl r2 (fun x hx => hgb x (List.mem_of_mem_drop hx)) (by rw [List.length_drop]; omega)) ?_
   rintro _ w ⟨rfl, s⟩
   have l2 := Zfw (gs := (grps ip.A.l).drop (at_ + (Zd9 (grps ip.A.l)).2)) (by rw [List.length_drop]; omega)
   have e3 : Ziv = bstr [58, 58] := by decide +kernel
   rw [e3, catb]
   refine WP.chk (by rw [Zbs, Zbs, List.length_append]; simp only [List.length_cons, List.length_nil]; omega) (WP.ret ⟨fin ?_, s.drop.drop⟩)
   rw [catb]
   unfold prIP
   rw [if_neg h4, if_neg hf', if_neg hn, hat_, Int.toNat_natCast]
end
structure S6 where
 at_ : Nat
 gs : List Nat
 gap : Int
def S6.room (st : S6) : Int := if st.gap ≥ 0 then 7 - st.gs.length else 8 - st.gs.length
def hexN (l : List Int) : Nat := l.foldl (fun v c => v * 16 % 1048576 + (hexV c).toNat) 0
def ZpY : List Nat → List Nat
 | [a, b, c, d] => [256 * a + b, 256 * c + d]
 | _ => []
def ZgI (l : List Int) (st : S6) : Except Flt (Bool × S6) :=
 if runE ZfQ l st.at_ = st.at_ then .error (ZnE l st.at_)
 else if runE ZfQ l st.at_ < l.length ∧ l.getD (runE ZfQ l st.at_) 0 = 46 ∧ (st.gs ≠ [] ∨ st.gap ≥ 0) then
  if st.room < 2 then .error (44, st.at_) else match Zgp l st.at_ with
   | .error f => .error f
   | .ok a => .ok (true, ⟨st.at_, st.gs ++ ZpY a, st.gap⟩)
 else if st.room < 1 then .error (44, st.at_)
 else if runE ZfQ l st.at_ - st.at_ > 4 then .error (43, st.at_)
 else .ok (false, ⟨runE ZfQ l st.at_, st.gs ++ [hexN ((l.drop st.at_).take (runE ZfQ l st.at_ - st.at_))], st.gap⟩)
def ZnR (l : List Int) (i : Nat) : Prop := (l.drop i).take 2 = [58, 58]
instance (l : List Int) (i : Nat) : Decidable (ZnR l i) := inferInstanceAs (Decidable (_ = _))
def Zeg (l : List Int) (st : S6) : Except Flt (Bool × S6) :=
 if ¬ ZnR l st.at_ then .ok (false, st)
 else if st.gap ≥ 0 ∨ st.gs.length = 8 then .error (44, st.at_)
 else .ok (true, ⟨st.at_ + 2, st.gs, st.gs.length⟩)
theorem Zdc (s : ByteArray) (a b : Nat) : strI (s.extract a b) = ((strI s).drop a).take (b - a) := by
 unfold strI
 rw [ByteArray.data_extract, Array.toList_extract, List.extract_eq_take_drop, List.map_take, List.map_drop]
theorem ZbX {a b : ByteArray} : a.toList = b.toList ↔ strI a = strI b := by
 rw [ZjB, ZjB]
 unfold strI
 constructor
 ·intro h
  rw [h]
 ·intro h
  have hi : Function.Injective (fun x : UInt8 => (x.toNat : Int)) := fun x y h => UInt8.toNat_inj.1 (by have h : (x.toNat : Int) = (y.toNat : Int) := h; omega)
  exact (List.map_inj_right (fun x y h => hi h)).1 h
section
variable {W w : World} {Hs : List HP}
theorem Zm6 (a p : ByteArray) : WP (Zcw a p) w (fun r w' => r = decide ((strI a).take p.size = strI p) ∧ w = w') := by
 unfold Zcw ZbP
 refine WP.step (R := fun r w' => r = decide ((strI a).take p.size = strI p) ∧ w = w') ?_ (fun r w h => WP.ret h)
 refine WP.step (R := fun r w' => r = decide ((strI a).take p.size = strI p) ∧ w = w') (WP.ite (fun h => WP.chk ⟨by omega, by omega, h⟩ (WP.ret ⟨?_, rfl⟩)) (fun h => WP.ret ⟨?_, rfl⟩)) (fun r w h => WP.ret h)
 ·rw [Bool.eq_iff_iff, beq_iff_eq, decide_eq_true_iff, ZbX, Zdc]
  simp
 ·refine (decide_eq_false fun h' => ?_).symm
  have := congrArg List.length h'
  rw [List.length_take, ZbJ, ZbJ] at this
  omega
abbrev cSix := ZcA
def ZkD (b : Nat) (t : ByteArray) (g : Sl) (st : S6) (sp : List Int) : List HP := [pts true (pt b 0) (cSix.enc ⟨t, (st.at_ : Int), g, st.gap⟩), vec (cI .i64) g (st.gs.map fun n : Nat => (n : Int)) sp]
def SixP (b : Nat) (t : ByteArray) (st : S6) : HP := fun h => ∃ g sp, seps (ZkD b t g st sp) h
theorem Ss.openX {b : Nat} {t : ByteArray} {st : S6} (s : Ss W (SixP b t st :: Hs) w) : ∃ g sp, Ss W (ZkD b t g st sp ++ Hs) w := by
 obtain ⟨hb, k, ⟨h1, h2, e, l1, l2, ⟨g, sp, a3⟩, b⟩, hw⟩ := s
 exact ⟨g, sp, Ss.split ⟨hb, k, ⟨h1, h2, e, l1, l2, a3, b⟩, hw⟩⟩
theorem Ss.closeX {b : Nat} {t : ByteArray} {st : S6} {g : Sl} {sp : List Int} (s : Ss W (ZkD b t g st sp ++ Hs) w) : Ss W (SixP b t st :: Hs) w := s.group.first (fun h hh => ⟨g, sp, hh⟩)
theorem ZpJ {b : Nat} {t : ByteArray} {st : S6} (s : Ss W (SixP b t st :: Hs) w) (hg : st.gs.length ≤ 100) : WP (Zdj (some (pt b 0))) w (fun r w' => r = st.room ∧ Ss W (SixP b t st :: Hs) w') := by
 obtain ⟨g, sp, s⟩ := s.openX
 have hl := (s.vec_len (i := 1) rfl).1
 rw [List.length_map] at hl
 unfold Zdj S6.room
 refine WP.nilck (WP.ld s 0 rfl (o := 3) rfl (Zc6 _) ?_)
 refine WP.ite (fun h => WP.nilck (WP.ld s 0 rfl (o := 2) rfl (Zbz _) (WP.ret ⟨?_, s.closeX⟩))) (fun h => WP.nilck (WP.ld s 0 rfl (o := 2) rfl (Zbz _) (WP.ret ⟨?_, s.closeX⟩)))
 ·rw [if_pos h]
  simp only
  rw [Zah (by omega) (by omega)]
  omega
 ·rw [if_neg h]
  simp only
  rw [Zah (by omega) (by omega)]
  omega
def Zpo (W : World) (Hs : List HP) (b : Nat) (t : ByteArray) (x : Except Flt (Bool × S6)) (r : Bool × Option Addr) (w : World) : Prop :=
 match x with
 | .ok (y, st) => r = (y, none) ∧ Ss W (SixP b t st :: Hs) w
 | .error f => ∃ b', r.2 = some (pt b' 0) ∧ Ss W (pts true (pt b' 0) (flt f) :: Hs) w
theorem ZmV {b : Nat} {t : ByteArray} {st : S6} (s : Ss W (SixP b t st :: Hs) w) (hg : st.gs.length ≤ 100) (ht : t.size ≤ 1000) (ha : st.at_ ≤ t.size) : WP (ZcI (some (pt b 0))) w (Zpo W Hs b t (Zeg (strI t) st)) := by
 obtain ⟨g, sp, s⟩ := s.openX
 have hl := (s.vec_len (i := 1) rfl).1
 rw [List.length_map] at hl
 unfold ZcI Zeg
 refine WP.draw' s (fun w s => WP.nilck (WP.ld s 0 rfl (o := 0) (by simp [Addr.add]) (Zch _) (WP.nilck (WP.ld s 0 rfl (o := 1) rfl (Zcq _) (WP.chk ⟨by simp only; omega, by simp only; omega, by omega⟩ (WP.step (Zm6 _ _) ?_))))))
 rintro _ _ ⟨rfl, rfl⟩
 have hd : (strI (t.extract (Int.toNat (st.at_ : Int)) (Int.toNat (t.size : Int)))).take (Ziv).size = strI Ziv ↔ ZnR (strI t) st.at_ := by
  have e1 : (Ziv).size = 2 := by decide +kernel
  have e2 : strI Ziv = [58, 58] := by decide +kernel
  rw [e1, e2, Zdc, Int.toNat_natCast, Int.toNat_natCast]
  unfold ZnR
  rw [List.take_take]
  have e3 : ((strI t).drop st.at_).take (min 2 (t.size - st.at_)) = ((strI t).drop st.at_).take 2 := by
   by_cases h : 2 ≤ t.size - st.at_
   ·rw [Nat.min_eq_left h]
   ·rw [Nat.min_eq_right (by omega), List.take_of_length_le (by rw [List.length_drop, ZbJ]; omega), List.take_of_length_le (by rw [List.length_drop, ZbJ]; omega)]
  rw [e3]
 refine WP.ite (fun h => WP.ret ?_) (fun h => ?_)
 ·have : ¬ ZnR (strI t) st.at_ := fun h' => h (decide_eq_true (hd.2 h'))
  rw [if_pos this]
  exact ⟨rfl, s.closeX⟩
 have hdd : ZnR (strI t) st.at_ := hd.1 (of_decide_eq_true (Decidable.not_not.1 h))
 rw [if_neg (fun h' => h' hdd)]
 refine WP.nilck (WP.ld s 0 rfl (o := 3) rfl (Zc6 _) ?_)
 refine WP.step (R := fun y w' => y = decide (st.gap ≥ 0 ∨ st.gs.length = 8) ∧ w = w') (WP.ite (fun h => WP.ret ⟨(decide_eq_true (.inl h)).symm, rfl⟩) (fun h => WP.nilck (WP.ld s 0 rfl (o := 2) rfl (Zbz _) (WP.ret ⟨?_, rfl⟩)))) ?_
 ·rw [hl, Bool.eq_iff_iff, decide_eq_true_iff, beq_iff_eq]
  exact ⟨fun h' => .inr (by omega), fun h' => by have := h'.resolve_left h; omega⟩
 rintro _ _ ⟨rfl, rfl⟩
 refine WP.ite (fun h => WP.draw' s (fun w s => WP.nilck (WP.ld s 0 rfl (o := 1) rfl (Zcq _) (WP.newv s (fun b' w s => WP.ret ?_))))) (fun h => ?_)
 ·rw [if_pos (of_decide_eq_true h)]
  exact ⟨b', rfl, (s.use [0] (s := [_]) (r := _ :: _ :: Hs) rfl).perm (List.Perm.refl _) |> fun s => ((s.use [1, 1] (s := [_, _]) (r := _ :: Hs) rfl).drop.drop)⟩
 ·have hn : ¬ (st.gap ≥ 0 ∨ st.gs.length = 8) := fun h' => h (decide_eq_true h')
  rw [if_neg hn]
  refine WP.nilck (WP.ld s 0 rfl (o := 2) rfl (Zbz _) (WP.nilck (WP.st s 0 rfl (o := 3) rfl (ZgX _ _) (fun w s => WP.nilck (WP.ld s 0 rfl (o := 1) rfl (Zcq _) (WP.nilck (WP.st s 0 rfl (o := 1) rfl (Zfe _ _) (fun w s => WP.ret ?_))))))))
  refine ⟨rfl, Ss.closeX (g := g) (sp := sp) ?_⟩
  have e1 : IntKind.wrap .i64 ((st.at_ : Int) + 2) = ((st.at_ + 2 : Nat) : Int) := by
   rw [Zah (by omega) (by omega)]
   simp
  rw [e1, hl] at s
  exact s
end
theorem ZlM {l : List Int} : ∀ (k i : Nat) (acc a : List Nat) (e : Nat), i ≤ l.length → (∀ n ∈ acc, n ≤ 255) → Zhj l k i acc = .ok (a, e) → a.length = acc.length + k ∧ (∀ n ∈ a, n ≤ 255) ∧ i ≤ e ∧ e ≤ l.length
 | 0, i, acc, a, e, hi, hacc, h => by
  cases h
  exact ⟨rfl, hacc, Nat.le_refl _, hi⟩
 | k + 1, i, acc, a, e, hi, hacc, h => by
  unfold Zhj at h
  cases hs : sepM l i acc.isEmpty with
  | error f => rw [hs] at h; cases h
  | ok j =>
   have hj : i ≤ j ∧ j ≤ l.length := by
    unfold sepM at hs
    split at hs
    ·cases hs; omega
    ·split at hs
     ·cases hs
     ·rename_i h2
      cases hs
      have : ¬ i = l.length := fun h' => h2 (.inl h')
      omega
   rw [hs] at h
   simp only at h
   cases hn : numM l j 255 43 with
   | error f => rw [hn] at h; cases h
   | ok x =>
    obtain ⟨n, e'⟩ := x
    rw [hn] at h
    simp only at h
    obtain ⟨o1, o2, o3⟩ := ZlD hn hj.2
    obtain ⟨p1, p2, p3, p4⟩ := ZlM k e' (acc ++ [n]) a e o3 (fun m hm => by
     rcases List.mem_append.1 hm with hm | hm
     ·exact hacc m hm
     ·rw [List.mem_singleton] at hm
      omega) h
    refine ⟨?_, p2, by omega, p4⟩
    rw [p1, List.length_append]
    simp only [List.length_cons, List.length_nil]
    omega
theorem Zjp {l : List Int} {i : Nat} {a : List Nat} (hi : i ≤ l.length) (h : Zgp l i = .ok a) : a.length = 4 ∧ ∀ n ∈ a, n ≤ 255 := by
 unfold Zgp at h
 cases hf : Zhj l 4 i [] with
 | error f => rw [hf] at h; cases h
 | ok x =>
  obtain ⟨b, e⟩ := x
  rw [hf] at h
  simp only at h
  split at h
  ·cases h
  ·cases h
   obtain ⟨p1, p2, _, _⟩ := ZlM 4 i [] _ _ hi (fun n hn => by cases hn) hf
   exact ⟨p1, p2⟩
theorem Zh5 (l : List Int) (c : Int) : hexN (l ++ [c]) = hexN l * 16 % 1048576 + (hexV c).toNat := by
 unfold hexN
 rw [List.foldl_append]
 rfl
theorem ZnN (c : Int) : -1 ≤ hexV c ∧ hexV c ≤ 15 := by
 unfold hexV
 split
 ·omega
 ·split
  ·omega
  ·split <;> omega
theorem Zs1 (l : List Int) : hexN l < 1048576 := by
 rcases List.eq_nil_or_concat l with rfl | ⟨l', c, rfl⟩
 ·decide
 ·rw [List.concat_eq_append, Zh5]
  have := ZnN c
  omega
theorem Zt5 (n : Nat) (h : n < 1000000000) : band .i64 (n : Int) 1048575 = ((n % 1048576 : Nat) : Int) := by
 have e : (BitVec.ofInt 64 (n : Int) &&& BitVec.ofInt 64 1048575).toNat = n % 1048576 := by
  rw [BitVec.toNat_and, BitVec.toNat_ofInt, BitVec.toNat_ofInt]
  have h1 : (((n : Int) % ((2 ^ 64 : Nat) : Int)).toNat) = n := by omega
  have h2 : (((1048575 : Int) % ((2 ^ 64 : Nat) : Int)).toNat) = 2 ^ 20 - 1 := by decide
  rw [h1, h2, Nat.and_two_pow_sub_one_eq_mod]
 show IntKind.wrap .i64 (((BitVec.ofInt 64 (n : Int) &&& BitVec.ofInt 64 1048575).toNat : Nat) : Int) = _
 rw [e]
 exact Zah (by omega) (by omega)
theorem Zus (x y : Nat) (hx : x < 1000000000) (hy : y < 16) : bor .i64 ((16 * x : Nat) : Int) (y : Int) = ((16 * x + y : Nat) : Int) := by
 have e : (BitVec.ofInt 64 ((16 * x : Nat) : Int) ||| BitVec.ofInt 64 (y : Int)).toNat = 16 * x + y := by
  rw [BitVec.toNat_or, BitVec.toNat_ofInt, BitVec.toNat_ofInt]
  have h1 : ((((16 * x : Nat) : Int) % ((2 ^ 64 : Nat) : Int)).toNat) = x <<< 4 := by
   rw [Nat.shiftLeft_eq]
   omega
  have h2 : (((y : Int) % ((2 ^ 64 : Nat) : Int)).toNat) = y := by omega
  rw [h1, h2, ← Nat.shiftLeft_add_eq_or_of_lt (by omega), Nat.shiftLeft_eq]
  omega
 show IntKind.wrap .i64 (((BitVec.ofInt 64 ((16 * x : Nat) : Int) ||| BitVec.ofInt 64 (y : Int)).toNat : Nat) : Int) = _
 rw [e]
 exact Zah (by omega) (by omega)
section
variable {W w : World} {Hs : List HP}
theorem ZrI {b : Nat} {t : ByteArray} {st : S6} (s : Ss W (SixP b t st :: Hs) w) (hg : st.gs.length ≤ 100) (ht : t.size ≤ 1000) (ha : st.at_ ≤ t.size) : WP (ZaW (some (pt b 0))) w (Zpo W Hs b t (ZgI (strI t) st)) := by
 have hl := ZbJ t
 obtain ⟨r1, r2⟩ := ZjI (p := ZfQ) (l := strI t) (i := st.at_) (by omega)
 obtain ⟨g, sp, s⟩ := s.openX
 unfold ZaW
 refine WP.nilck (WP.ld s 0 rfl (o := 1) rfl (Zcq _) ?_)
 refine WP.loopG (γ := Nat) (fun k (p : Int × Int) w => p = ((hexN (((strI t).drop st.at_).take (k - st.at_)) : Int), (k : Int)) ∧ st.at_ ≤ k ∧ k ≤ runE ZfQ (strI t) st.at_ ∧ Ss W (ZkD b t g st sp ++ Hs) w) (fun k _ => t.size - k) st.at_ ⟨by simp [hexN], Nat.le_refl _, r1, s⟩ ?_
 clear s
 rintro k _ w ⟨rfl, k1, k2, s⟩
 show WP (ZaW.L1 (some (pt b 0)) (st.at_ : Int) (hexN (((strI t).drop st.at_).take (k - st.at_)) : Int) (k : Int)) w _
 unfold ZaW.L1
 have hgo := Zlx k1 k2
 rw [hl] at hgo
 refine WP.nilck (WP.ld s 0 rfl (o := 0) (by simp [Addr.add]) (Zch _) ?_)
 refine WP.step (R := fun y w' => y = decide (k < runE ZfQ (strI t) st.at_) ∧ w = w') (WP.ite (fun h => WP.nilck (WP.ld s 0 rfl (o := 0) (by simp [Addr.add]) (Zch _) (WP.chk ⟨by omega, h⟩ (WP.step (Zqm _) ?_)))) (fun h => WP.ret ⟨?_, rfl⟩)) ?_
 ·rintro _ _ ⟨rfl, rfl⟩
  have h : (k : Int) < (t.size : Int) := h
  refine WP.ret ⟨?_, rfl⟩
  rw [Zer, Bool.eq_iff_iff, decide_eq_true_iff, decide_eq_true_iff, ← hgo]
  exact ⟨fun h' => ⟨by omega, decide_eq_true h'⟩, fun h' => of_decide_eq_true h'.2⟩
 ·have h : ¬ (k : Int) < (t.size : Int) := h
  refine (decide_eq_false fun h' => ?_).symm
  have := hgo.2 h'
  omega
 rintro _ _ ⟨rfl, rfl⟩
 refine WP.ite (fun h => ?_) (fun h => ?_)
 ·have hk := of_decide_eq_true h
  have hh := hgo.2 hk
  refine WP.nilck (WP.ld s 0 rfl (o := 0) (by simp [Addr.add]) (Zch _) (WP.chk ⟨by omega, by simp only; omega⟩ (WP.step (Zqm _) ?_)))
  rintro _ _ ⟨rfl, rfl⟩
  have hv := of_decide_eq_true hh.2
  have htk : ((strI t).drop st.at_).take (k + 1 - st.at_) = ((strI t).drop st.at_).take (k - st.at_) ++ [(strI t).getD k 0] := by
   rw [show k + 1 - st.at_ = (k - st.at_) + 1 by omega, List.take_add_one, List.getElem?_drop, show st.at_ + (k - st.at_) = k by omega, List.getD, List.getElem?_eq_getElem (by omega)]
   rfl
  refine WP.next ⟨k + 1, ⟨?_, by omega, by omega, s⟩, by omega⟩
  rw [htk, Zh5, Zer]
  have hN := Zs1 (((strI t).drop st.at_).take (k - st.at_))
  have hx := ZnN ((strI t).getD k 0)
  generalize hexN (((strI t).drop st.at_).take (k - st.at_)) = N at hN
  generalize hexV ((strI t).getD k 0) = x at hv hx
  have e1 : IntKind.wrap .i64 ((N : Int) * 2 ^ 4) = ((N * 16 : Nat) : Int) := by
   rw [Zah (by omega) (by omega)]
   omega
  have e2 : N * 16 % 1048576 = 16 * (N % 65536) := by omega
  have e3 := Zus (N % 65536) x.toNat (by omega) (by omega)
  rw [e1, Zt5 _ (by omega), e2, show x = ((x.toNat : Nat) : Int) by omega, e3, Zah (by omega) (by omega)]
  refine Prod.ext ?_ ?_
  ·simp
  ·simp
 have hk : k = runE ZfQ (strI t) st.at_ := by
  have : ¬ k < runE ZfQ (strI t) st.at_ := fun h' => h (decide_eq_true h')
  omega
 refine WP.step ?_ (fun r w h => WP.done h)
 unfold ZaW.K1 ZgI
 rw [← hk]
 have hgl := (s.vec_len (i := 1) rfl).1
 rw [List.length_map] at hgl
 refine WP.ite (fun h => ?_) (fun h => ?_)
 ·rw [if_pos (by omega)]
  refine WP.nilck (WP.ld s 0 rfl (o := 0) (by simp [Addr.add]) (Zch _) (WP.step (ZiB s t st.at_) ?_))
  rintro _ w ⟨b', rfl, s⟩
  exact WP.ret ⟨b', rfl, (s.use [1, 1] (s := [_, _]) (r := _ :: Hs) rfl).drop.drop⟩
 have hne : ¬ k = st.at_ := by omega
 rw [if_neg hne]
 refine WP.nilck (WP.ld s 0 rfl (o := 0) (by simp [Addr.add]) (Zch _) ?_)
 refine WP.step (R := fun y w' => y = decide (k < (strI t).length ∧ (strI t).getD k 0 = 46) ∧ w = w') (WP.ite (fun h => WP.nilck (WP.ld s 0 rfl (o := 0) (by simp [Addr.add]) (Zch _) (WP.chk ⟨by omega, h⟩ (WP.ret ⟨?_, rfl⟩)))) (fun h => WP.ret ⟨?_, rfl⟩)) ?_
 ·have h : (k : Int) < (t.size : Int) := h
  rw [Zer, Bool.eq_iff_iff, decide_eq_true_iff, beq_iff_eq]
  exact ⟨fun h' => ⟨by omega, h'⟩, fun h' => h'.2⟩
 ·have h : ¬ (k : Int) < (t.size : Int) := h
  exact (decide_eq_false fun h' => by omega).symm
 rintro _ _ ⟨rfl, rfl⟩
 refine WP.step (R := fun y w' => y = decide (k < (strI t).length ∧ (strI t).getD k 0 = 46 ∧ (st.gs ≠ [] ∨ st.gap ≥ 0)) ∧ w = w') (WP.ite (fun h1 => WP.nilck (WP.ld s 0 rfl (o := 2) rfl (Zbz _) ?_)) (fun h1 => WP.ret ⟨?_, rfl⟩)) ?_
 ·have h1 := of_decide_eq_true h1
  refine WP.step (R := fun y w' => y = decide (k < (strI t).length ∧ (strI t).getD k 0 = 46 ∧ (st.gs ≠ [] ∨ st.gap ≥ 0)) ∧ w = w') (WP.ite (fun h2 => WP.ret ⟨?_, rfl⟩) (fun h2 => WP.nilck (WP.ld s 0 rfl (o := 3) rfl (Zc6 _) (WP.ret ⟨?_, rfl⟩)))) (fun r w h => WP.ret h)
  ·have h2 : (g.len : Int) > 0 := h2
   refine (decide_eq_true ⟨h1.1, h1.2, .inl fun e => ?_⟩).symm
   rw [e] at hgl
   simp at hgl
   omega
  ·have h2 : ¬ (g.len : Int) > 0 := h2
   have e : st.gs = [] := List.eq_nil_of_length_eq_zero (by omega)
   exact decide_eq_decide.2 ⟨fun h' => ⟨h1.1, h1.2, .inr h'⟩, fun h' => h'.2.2.resolve_left (fun h3 => h3 e)⟩
 ·exact (decide_eq_false fun h' => h1 (decide_eq_true ⟨h'.1, h'.2.1⟩)).symm
 rintro _ _ ⟨rfl, rfl⟩
 have newf : ∀ {w : World} (f : Flt) (y : Bool), Ss W (SixP b t st :: Hs) w → WP (newv 304 Zbt (⟨f.1, (f.2 : Int)⟩ : ZbK) >>= fun b' => pure (y, some (pt b' 0))) w (Zpo W Hs b t (.error f)) := fun f y s =>
  WP.newv s (fun b' w s => WP.ret ⟨b', rfl, (s.use [1] (s := [_]) (r := _ :: Hs) rfl).drop⟩)
 refine WP.ite (fun h => ?_) (fun h => ?_)
 ·rw [if_pos (of_decide_eq_true h)]
  refine WP.step (ZpJ s.closeX hg) ?_
  rintro _ w ⟨rfl, s⟩
  refine WP.ite (fun h => ?_) (fun h => ?_)
  ·rw [if_pos h]
   exact newf (44, st.at_) false s
  rw [if_neg h]
  obtain ⟨g, sp, s⟩ := s.openX
  refine WP.nilck (WP.ld s 0 rfl (o := 0) (by simp [Addr.add]) (Zch _) (WP.step (Zqt s t ht st.at_ (by omega)) ?_))
  rintro ⟨v, p⟩ w hr
  unfold Zq1 at hr
  cases hfm : Zgp (strI t) st.at_ with
  | error f =>
   rw [hfm] at hr
   obtain ⟨b', rfl, s⟩ := hr
   have s : Ss W (pts true (pt b' 0) (flt f) :: (ZkD b t g st sp ++ Hs)) w := s
   refine WP.slot' s (fun _ w s => WP.draw' s (fun w s => WP.nilck (WP.ld s 1 rfl (o := 2) rfl (Zbz _) (WP.slot' s (fun _ w s => WP.same s 1 rfl (o := 2) rfl (Zbz _) ?_)))))
   refine WP.appl s 2 rfl (by simp only [List.length_map, List.length_cons, List.length_nil]; omega) (by decide) (fun g' w sp' s => WP.nilck ?_)
   refine WP.st s 1 rfl (o := 2) rfl (Zey _ _) (fun w s => WP.ret ⟨b', rfl, ?_⟩)
   exact (s.use [1, 1] (s := [_, _]) (r := _ :: Hs) rfl).drop.drop
  | ok a =>
   rw [hfm] at hr
   obtain ⟨hv, rfl, s⟩ := hr
   obtain ⟨a4, a5⟩ := Zjp (by omega) hfm
   obtain ⟨n1, n2, n3, n4, rfl⟩ : ∃ n1 n2 n3 n4, a = [n1, n2, n3, n4] := by
    match a, a4 with
    | [n1, n2, n3, n4], _ => exact ⟨n1, n2, n3, n4, rfl⟩
   have b1 := a5 n1 (by simp)
   have b2 := a5 n2 (by simp)
   have b3 := a5 n3 (by simp)
   have b4 := a5 n4 (by simp)
   have g0 : Vec.g v 0 0 = (n1 : Int) := by show v.l.getD 0 0 = _; rw [hv]; rfl
   have g1 : Vec.g v 1 0 = (n2 : Int) := by show v.l.getD 1 0 = _; rw [hv]; rfl
   have g2 : Vec.g v 2 0 = (n3 : Int) := by show v.l.getD 2 0 = _; rw [hv]; rfl
   have g3 : Vec.g v 3 0 = (n4 : Int) := by show v.l.getD 3 0 = _; rw [hv]; rfl
   simp only
   rw [g0, g1, g2, g3, ZlV n1 n2 (by omega) (by omega), ZlV n3 n4 (by omega) (by omega)]
   refine WP.slot' s (fun _ w s => WP.draw' s (fun w s => WP.nilck (WP.ld s 0 rfl (o := 2) rfl (Zbz _) (WP.slot' s (fun _ w s => WP.same s 0 rfl (o := 2) rfl (Zbz _) ?_)))))
   refine WP.appl s 1 rfl (by simp only [List.length_map, List.length_cons, List.length_nil]; omega) (by decide) (fun g' w sp' s => WP.nilck ?_)
   refine WP.st s 0 rfl (o := 2) rfl (Zey _ _) (fun w s => WP.ret ⟨rfl, ?_⟩)
   refine Ss.closeX (g := g') (sp := sp') ?_
   unfold ZkD
   rw [List.map_append]
   exact s
 ·rw [if_neg (fun h' => h (decide_eq_true h'))]
  refine WP.step (ZpJ s.closeX hg) ?_
  rintro _ w ⟨rfl, s⟩
  refine WP.ite (fun h => ?_) (fun h => ?_)
  ·rw [if_pos h]
   exact newf (44, st.at_) false s
  rw [if_neg h]
  have ew : IntKind.wrap .i64 ((k : Int) - (st.at_ : Int)) = ((k - st.at_ : Nat) : Int) := by
   rw [Zah (by omega) (by omega)]
   omega
  rw [ew]
  refine WP.ite (fun h => ?_) (fun h => ?_)
  ·rw [if_pos (by omega)]
   exact newf (43, st.at_) false s
  rw [if_neg (by omega)]
  obtain ⟨g, sp, s⟩ := s.openX
  refine WP.nilck (WP.ld s 0 rfl (o := 2) rfl (Zbz _) (WP.slot' s (fun _ w s => ?_)))
  refine WP.appl s 1 rfl (by simp only [List.length_map, List.length_cons, List.length_nil]; omega) (by decide) (fun g' w sp' s => WP.nilck ?_)
  refine WP.st s 0 rfl (o := 2) rfl (Zey _ _) (fun w s => WP.nilck ?_)
  refine WP.st s 0 rfl (o := 1) rfl (Zfe _ _) (fun w s => WP.ret ⟨rfl, ?_⟩)
  refine Ss.closeX (g := g') (sp := sp') ?_
  unfold ZkD
  rw [List.map_append]
  exact s
end
def Zfg (l : List Int) : Nat → Bool → S6 → Except Flt S6
 | 0, _, _ => .error (0, 0)
 | f + 1, op, st => if st.at_ = l.length ∧ op = true then .ok st else match ZgI l st with
  | .error e => .error e
  | .ok (done, st1) => if done = true ∨ st1.at_ = l.length then (if st1.gap < 0 ∧ st1.gs.length ≠ 8 then .error (42, l.length) else .ok st1) else match Zeg l st1 with
   | .error e => .error e
   | .ok (y, st2) => if y = true then Zfg l f true st2 else if l.getD st2.at_ 0 ≠ 58 then .error (41, st2.at_) else Zfg l f false ⟨st2.at_ + 1, st2.gs, st2.gap⟩
def Zkw (l : List Int) : Except Flt S6 := match Zeg l ⟨0, [], -1⟩ with
 | .error e => .error e
 | .ok (_, st) => Zfg l (l.length + 1) (decide (st.gap ≥ 0)) st
structure Ok6 (l : List Int) (st : S6) : Prop where
 a : st.at_ ≤ l.length
 g : st.gs.length ≤ 8
 p1 : -1 ≤ st.gap
 p2 : st.gap ≤ st.gs.length
 p3 : 0 ≤ st.gap → st.gs.length ≤ 7
 v : ∀ x ∈ st.gs, x < 65536
theorem ZrE {l : List Int} (h : ∀ c ∈ l, ZfQ c = true) (k : Nat) (hk : l.length ≤ k) (h5 : k ≤ 4) : hexN l < 16 ^ k := by
 induction k generalizing l with
 | zero =>
  have : l = [] := List.eq_nil_of_length_eq_zero (by omega)
  subst this
  decide
 | succ k ih =>
  rcases List.eq_nil_or_concat l with rfl | ⟨l', c, rfl⟩
  ·exact Nat.pow_pos (by omega)
  ·rw [List.concat_eq_append] at h hk ⊢
   rw [Zh5, Nat.pow_succ]
   have h1 := ih (l := l') (fun c hc => h c (by simp [hc])) (by simp at hk; omega) (by omega)
   have h2 := ZnN c
   have h3 : 16 ^ k ≤ 16 ^ 3 := Nat.pow_le_pow_right (by omega) (by omega)
   omega
theorem Zj3 {l : List Int} {st st1 : S6} {y : Bool} (ok : Ok6 l st) (h : ZgI l st = .ok (y, st1)) : Ok6 l st1 ∧ st1.gap = st.gap ∧ (y = false → st.at_ < st1.at_) := by
 obtain ⟨r1, r2⟩ := ZjI (p := ZfQ) ok.a
 have hp := ok.p3
 unfold ZgI at h
 split at h
 ·cases h
 ·rename_i hne
  split at h
  ·split at h
   ·cases h
   ·rename_i hroom
    have hlen : st.gs.length + 2 ≤ 8 ∧ (0 ≤ st.gap → st.gs.length + 2 ≤ 7) := by
     unfold S6.room at hroom
     split at hroom <;> omega
    cases hf : Zgp l st.at_ with
    | error f => rw [hf] at h; cases h
    | ok a =>
     rw [hf] at h
     simp only [Except.ok.injEq, Prod.mk.injEq] at h
     obtain ⟨rfl, rfl⟩ := h
     obtain ⟨a4, a5⟩ := Zjp ok.a hf
     obtain ⟨n1, n2, n3, n4, rfl⟩ : ∃ n1 n2 n3 n4, a = [n1, n2, n3, n4] := by
      match a, a4 with
      | [n1, n2, n3, n4], _ => exact ⟨n1, n2, n3, n4, rfl⟩
     have b1 := a5 n1 (by simp)
     have b2 := a5 n2 (by simp)
     have b3 := a5 n3 (by simp)
     have b4 := a5 n4 (by simp)
     refine ⟨⟨ok.a, by simp [ZpY]; omega, ok.p1, by simp [ZpY]; have := ok.p2; omega, fun h => by simp [ZpY]; have := hlen.2 h; omega, fun x hx => ?_⟩, rfl, fun h => by cases h⟩
     rcases List.mem_append.1 hx with hx | hx
     ·exact ok.v x hx
     ·simp only [ZpY, List.mem_cons, List.not_mem_nil, or_false] at hx
      omega
  ·split at h
   ·cases h
   ·rename_i hroom
    have hlen : st.gs.length + 1 ≤ 8 ∧ (0 ≤ st.gap → st.gs.length + 1 ≤ 7) := by
     unfold S6.room at hroom
     split at hroom <;> omega
    split at h
    ·cases h
    ·rename_i h4
     simp only [Except.ok.injEq, Prod.mk.injEq] at h
     obtain ⟨rfl, rfl⟩ := h
     refine ⟨⟨r2, by simp; omega, ok.p1, by simp; have := ok.p2; omega, fun h => by simp; have := hlen.2 h; omega, fun x hx => ?_⟩, rfl, fun _ => by simp only; omega⟩
     rcases List.mem_append.1 hx with hx | hx
     ·exact ok.v x hx
     ·rw [List.mem_singleton] at hx
      subst hx
      refine ZrE (k := 4) (fun c hc => ?_) (by rw [List.length_take]; omega) (by omega)
      obtain ⟨j, hj, rfl⟩ := List.mem_iff_getElem.1 hc
      rw [List.length_take, List.length_drop] at hj
      rw [List.getElem_take, List.getElem_drop]
      have := Zji (p := ZfQ) (l := l) (i := st.at_) (k := st.at_ + j) (by omega) (by omega)
      rw [List.getD, List.getElem?_eq_getElem (by omega)] at this
      exact this
theorem Ze3 {l : List Int} {st st1 : S6} {y : Bool} (ok : Ok6 l st) (h : Zeg l st = .ok (y, st1)) : Ok6 l st1 ∧ (y = false → st1 = st) ∧ (y = true → st1.at_ = st.at_ + 2 ∧ 0 ≤ st1.gap) := by
 unfold Zeg at h
 split at h
 ·simp only [Except.ok.injEq, Prod.mk.injEq] at h
  obtain ⟨rfl, rfl⟩ := h
  exact ⟨ok, fun _ => rfl, fun h => by cases h⟩
 ·rename_i hd
  split at h
  ·cases h
  ·rename_i hg
   simp only [Except.ok.injEq, Prod.mk.injEq] at h
   obtain ⟨rfl, rfl⟩ := h
   have hd := Decidable.not_not.1 hd
   unfold ZnR at hd
   have hlen := congrArg List.length hd
   rw [List.length_take, List.length_drop] at hlen
   simp only [List.length_cons, List.length_nil] at hlen
   have := ok.g
   refine ⟨⟨by simp only; omega, ok.g, by simp only; omega, by simp, fun _ => by simp only; omega, ok.v⟩, (fun h => by cases h), (fun _ => ⟨rfl, by simp⟩)⟩
theorem Ziy {l : List Int} {f : Nat} {op y done : Bool} {st st1 st2 : S6} (h : ¬ (st.at_ = l.length ∧ op = true)) (hg : ZgI l st = .ok (done, st1)) (hn : ¬ (done = true ∨ st1.at_ = l.length)) (hd : Zeg l st1 = .ok (y, st2)) :
  Zfg l (f + 1) op st = if y = true then Zfg l f true st2 else if l.getD st2.at_ 0 ≠ 58 then .error (41, st2.at_) else Zfg l f false ⟨st2.at_ + 1, st2.gs, st2.gap⟩ := by
 conv => lhs; unfold Zfg
 rw [if_neg h, hg]
 show (if done = true ∨ st1.at_ = l.length then _ else _) = _
 rw [if_neg hn, hd]
section
variable {W w : World} {Hs : List HP}
def Zti (W : World) (Hs : List HP) (b : Nat) (t : ByteArray) (x : Except Flt S6) (r : Option Addr) (w : World) : Prop :=
 match x with
 | .ok st => r = none ∧ Ss W (SixP b t st :: Hs) w
 | .error f => ∃ b', r = some (pt b' 0) ∧ Ss W (pts true (pt b' 0) (flt f) :: Hs) w
theorem ZsO {b : Nat} {t : ByteArray} (s : Ss W (SixP b t ⟨0, [], -1⟩ :: Hs) w) (ht : t.size ≤ 1000) : WP (Zbp (some (pt b 0))) w (Zti W Hs b t (Zkw (strI t))) := by
 have hl := ZbJ t
 have ok0 : Ok6 (strI t) ⟨0, [], -1⟩ := ⟨by simp, by simp, by simp, by simp, fun h => by simp, fun x h => by cases h⟩
 unfold Zbp
 refine WP.step (ZmV s (by simp) ht (by simp)) ?_
 intro r w hr
 unfold Zpo at hr
 unfold Zkw
 cases hd : Zeg (strI t) ⟨0, [], -1⟩ with
 | error f =>
  rw [hd] at hr
  obtain ⟨b', hr2, s⟩ := hr
  refine WP.ite (fun _ => WP.ret ⟨b', hr2, s⟩) (fun h => absurd (by rw [hr2]; simp) h)
 | ok x =>
  obtain ⟨y, st0⟩ := x
  rw [hd] at hr
  obtain ⟨rfl, s⟩ := hr
  obtain ⟨ok1, -, -⟩ := Ze3 ok0 hd
  refine WP.ite (fun h => absurd rfl h) (fun _ => ?_)
  obtain ⟨g, sp, s⟩ := s.openX
  refine WP.nilck (WP.ld s 0 rfl (o := 3) rfl (Zc6 _) ?_)
  simp only
  generalize hX : Zfg (strI t) ((strI t).length + 1) (decide (st0.gap ≥ 0)) st0 = X
  refine WP.loopG (γ := Nat × S6) (fun q (op : Bool) w => Ok6 (strI t) q.2 ∧ (strI t).length - q.2.at_ < q.1 ∧ Zfg (strI t) q.1 op q.2 = X ∧ Ss W (SixP b t q.2 :: Hs) w) (fun q _ => q.1) ((strI t).length + 1, st0) ⟨ok1, by omega, hX, s.closeX⟩ ?_
  clear s hX
  rintro ⟨f, st⟩ op w ⟨ok, hf, hF, s⟩
  simp only at ok hf hF s
  show WP (Zbp.L1 (some (pt b 0)) op) w _
  obtain ⟨f, rfl⟩ : ∃ f', f = f' + 1 := ⟨f - 1, by omega⟩
  have fin : ∀ {e : Except Flt S6} {r : Option Addr} {w : World}, Zfg (strI t) (f + 1) op st = e → Zti W Hs b t e r w → Zti W Hs b t X r w := fun h1 h2 => by
   rw [← hF, h1]
   exact h2
  have oka := ok.a
  have okg := ok.g
  unfold Zbp.L1
  obtain ⟨g, sp, s⟩ := s.openX
  refine WP.draw' s (fun w s => WP.nilck (WP.ld s 0 rfl (o := 1) rfl (Zcq _) (WP.nilck (WP.ld s 0 rfl (o := 0) (by simp [Addr.add]) (Zch _) ?_))))
  refine WP.step (R := fun y w' => y = decide (st.at_ = (strI t).length ∧ op = true) ∧ w = w') (WP.ite (fun h => WP.ret ⟨?_, rfl⟩) (fun h => WP.ret ⟨?_, rfl⟩)) ?_
  ·have h : (st.at_ : Int) = (t.size : Int) := h
   rw [Bool.eq_iff_iff, decide_eq_true_iff]
   exact ⟨fun h' => ⟨by omega, h'⟩, fun h' => h'.2⟩
  ·have h : ¬ (st.at_ : Int) = (t.size : Int) := h
   exact (decide_eq_false fun h' => h (by omega)).symm
  rintro _ _ ⟨rfl, rfl⟩
  refine WP.ite (fun h => WP.done (fin (e := .ok st) ?_ ⟨rfl, s.closeX⟩)) (fun h => ?_)
  ·unfold Zfg
   rw [if_pos (of_decide_eq_true h)]
  have hno : ¬ (st.at_ = (strI t).length ∧ op = true) := fun h' => h (decide_eq_true h')
  refine WP.step (ZrI s.closeX (by omega) ht (by omega)) ?_
  intro r w hr
  unfold Zpo at hr
  cases hgm : ZgI (strI t) st with
  | error e =>
   rw [hgm] at hr
   obtain ⟨b', hr2, s⟩ := hr
   exact WP.ite (fun _ => WP.done (fin (e := .error e) (by unfold Zfg; rw [if_neg hno, hgm]) ⟨b', hr2, s⟩)) (fun h => absurd (by rw [hr2]; simp) h)
  | ok x =>
   obtain ⟨done, st1⟩ := x
   rw [hgm] at hr
   obtain ⟨rfl, s⟩ := hr
   obtain ⟨k1, k2, k3⟩ := Zj3 ok hgm
   have k1a := k1.a
   have k1g := k1.g
   obtain ⟨g, sp, s⟩ := s.openX
   have hgl := (s.vec_len (i := 1) rfl).1
   rw [List.length_map] at hgl
   refine WP.ite (fun h => absurd rfl h) (fun _ => WP.draw' s (fun w s => ?_))
   simp only
   refine WP.step (R := fun y w' => y = decide (done = true ∨ st1.at_ = (strI t).length) ∧ w = w') (WP.ite (fun h => WP.ret ⟨(decide_eq_true (.inl h)).symm, rfl⟩) (fun h => WP.nilck (WP.ld s 0 rfl (o := 1) rfl (Zcq _) (WP.nilck (WP.ld s 0 rfl (o := 0) (by simp [Addr.add]) (Zch _) (WP.ret ⟨?_, rfl⟩)))))) ?_
   ·rw [Bool.eq_iff_iff, decide_eq_true_iff, beq_iff_eq]
    simp only
    exact ⟨fun h' => .inr (by omega), fun h' => by have := h'.resolve_left h; omega⟩
   rintro _ _ ⟨rfl, rfl⟩
   refine WP.ite (fun h => ?_) (fun h => ?_)
   ·have e0 : Zfg (strI t) (f + 1) op st = if st1.gap < 0 ∧ st1.gs.length ≠ 8 then .error (42, (strI t).length) else .ok st1 := by
     unfold Zfg
     rw [if_neg hno, hgm]
     show (if done = true ∨ st1.at_ = (strI t).length then _ else _) = _
     rw [if_pos (of_decide_eq_true h)]
    refine WP.nilck (WP.ld s 0 rfl (o := 3) rfl (Zc6 _) ?_)
    simp only
    refine WP.step (R := fun y w' => y = decide (st1.gap < 0 ∧ st1.gs.length ≠ 8) ∧ w = w') (WP.ite (fun h => WP.nilck (WP.ld s 0 rfl (o := 2) rfl (Zbz _) (WP.ret ⟨?_, rfl⟩))) (fun h => WP.ret ⟨(decide_eq_false fun h' => h h'.1).symm, rfl⟩)) ?_
    ·rw [Bool.eq_iff_iff, decide_eq_true_iff, bne_iff_ne]
     simp only
     exact ⟨fun h' => ⟨h, by omega⟩, fun h' => by have := h'.2; omega⟩
    rintro _ _ ⟨rfl, rfl⟩
    refine WP.ite (fun h => WP.nilck (WP.ld s 0 rfl (o := 0) (by simp [Addr.add]) (Zch _) (WP.newv s (fun b' w s => WP.done ?_)))) (fun h => WP.done ?_)
    ·rw [if_pos (of_decide_eq_true h)] at e0
     refine fin e0 ⟨b', rfl, ?_⟩
     rw [hl]
     exact (s.use [1, 1] (s := [_, _]) (r := _ :: Hs) rfl).drop.drop
    ·rw [if_neg (fun h' => h (decide_eq_true h'))] at e0
     exact fin e0 ⟨rfl, s.closeX⟩
   ·have hn : ¬ (done = true ∨ st1.at_ = (strI t).length) := fun h' => h (decide_eq_true h')
    have hdone : done = false := by
     cases done with
     | false => rfl
     | true => exact absurd (.inl rfl) hn
    have hat1 := k3 hdone
    have hne1 : st1.at_ ≠ (strI t).length := fun h' => hn (.inr h')
    refine WP.step (ZmV s.closeX (by omega) ht (by omega)) ?_
    intro r w hr
    unfold Zpo at hr
    cases hdm : Zeg (strI t) st1 with
    | error e =>
     rw [hdm] at hr
     obtain ⟨b', hr2, s⟩ := hr
     have e0 : Zfg (strI t) (f + 1) op st = .error e := by
      unfold Zfg
      rw [if_neg hno, hgm]
      show (if done = true ∨ st1.at_ = (strI t).length then _ else _) = _
      rw [if_neg hn, hdm]
     exact WP.ite (fun _ => WP.done (fin e0 ⟨b', hr2, s⟩)) (fun h => absurd (by rw [hr2]; simp) h)
    | ok x =>
     obtain ⟨y, st2⟩ := x
     rw [hdm] at hr
     obtain ⟨rfl, s5⟩ := hr
     obtain ⟨m1, m2, m3⟩ := Ze3 k1 hdm
     refine WP.ite (fun h => absurd rfl h) (fun _ => ?_)
     simp only
     cases y with
     | true =>
      have m3 := m3 rfl
      refine WP.ite (fun h => absurd rfl h) (fun _ => WP.next ⟨(f, st2), ⟨m1, by simp only; omega, ?_, s5⟩, by simp only; omega⟩)
      simp only
      rw [← hF, Ziy hno hgm hn hdm]
      rfl
     | false =>
      have m2 := m2 rfl
      subst m2
      obtain ⟨g, sp, s⟩ := s5.openX
      refine WP.ite (fun _ => WP.draw' s (fun w s => WP.nilck (WP.ld s 0 rfl (o := 0) (by simp [Addr.add]) (Zch _) (WP.nilck (WP.ld s 0 rfl (o := 1) rfl (Zcq _) (WP.chk ⟨by simp only; omega, by simp only; omega⟩ ?_)))))) (fun h => absurd (by simp) h)
      simp only
      rw [Zer]
      refine WP.ite (fun h => WP.nilck (WP.ld s 0 rfl (o := 1) rfl (Zcq _) (WP.newv s (fun b' w s => WP.done ?_)))) (fun h => ?_)
      ·have e1 : (if false = true then Zfg (strI t) f true st2 else if (strI t).getD st2.at_ 0 ≠ 58 then .error (41, st2.at_) else Zfg (strI t) f false ⟨st2.at_ + 1, st2.gs, st2.gap⟩) = (.error (41, st2.at_) : Except Flt S6) := by
        rw [if_neg (by simp), if_pos h]
       exact fin ((Ziy hno hgm hn hdm).trans e1) ⟨b', rfl, (s.use [1, 1] (s := [_, _]) (r := _ :: Hs) rfl).drop.drop⟩
      ·refine WP.nilck (WP.ld s 0 rfl (o := 1) rfl (Zcq _) (WP.nilck (WP.st s 0 rfl (o := 1) rfl (Zfe _ _) (fun w s => WP.next ⟨(f, ⟨st2.at_ + 1, st2.gs, st2.gap⟩), ⟨⟨by simp only; omega, m1.g, m1.p1, m1.p2, m1.p3, m1.v⟩, by simp only; omega, ?_, Ss.closeX (g := g) (sp := sp) ?_⟩, by simp only; omega⟩))))
       ·simp only
        rw [← hF, Ziy hno hgm hn hdm, if_neg (by simp), if_neg h]
       ·simp only at s
        have e1 : IntKind.wrap .i64 ((st2.at_ : Int) + 1) = ((st2.at_ + 1 : Nat) : Int) := by
         rw [Zah (by omega) (by omega)]
         simp
        rw [e1] at s
        exact s
end
def two (l : List Nat) : List Int := (l.map fun n => [((n / 256 : Nat) : Int), ((n % 256 : Nat) : Int)]).flatten
theorem Zll (n : Nat) (l : List Nat) : two (n :: l) = ((n / 256 : Nat) : Int) :: ((n % 256 : Nat) : Int) :: two l := rfl
theorem ZpD : ∀ l : List Nat, (two l).length = 2 * l.length
 | [] => rfl
 | n :: l => by rw [Zll, List.length_cons, List.length_cons, ZpD l, List.length_cons]; omega
theorem ZpC (v : Nat) : ∀ (l : List Nat) (j : Nat), ((two l).set (2 * j) ((v / 256 : Nat) : Int)).set (2 * j + 1) ((v % 256 : Nat) : Int) = two (l.set j v)
 | [], j => rfl
 | n :: l, 0 => rfl
 | n :: l, j + 1 => by
  rw [List.set_cons_succ, Zll, Zll, ← ZpC v l j]
  rfl
def S6.pos (st : S6) (i : Nat) : Nat := if st.gap ≥ 0 ∧ (i : Int) ≥ st.gap then i + (8 - st.gs.length) else i
def S6.words (st : S6) : Nat → List Nat
 | 0 => List.replicate 8 0
 | i + 1 => (st.words i).set (st.pos i) (st.gs.getD i 0)
theorem S6.words_len (st : S6) : ∀ i, (st.words i).length = 8
 | 0 => rfl
 | i + 1 => by rw [S6.words, List.length_set, st.words_len i]
theorem S6.bytes_len (st : S6) (i : Nat) : (two (st.words i)).length = 16 := by rw [ZpD, st.words_len]
def S6.bytes (st : S6) : Vec Int 16 := ⟨two (st.words st.gs.length), st.bytes_len _⟩
section
variable {W w : World} {Hs : List HP}
theorem Zs4 (n : Nat) : Int.fdiv (n : Int) (2 ^ 8) = ((n / 256 : Nat) : Int) := Zjq n 256
theorem Zju (n : Nat) : IntKind.wrap .u8 (n : Int) = ((n % 256 : Nat) : Int) := by
 show (n : Int) % 256 = _
 omega
theorem ZrQ {b : Nat} {t : ByteArray} {st : S6} {l : List Int} (s : Ss W (SixP b t st :: Hs) w) (ok : Ok6 l st) : WP (ZaK (some (pt b 0))) w (fun r w' => r = st.bytes ∧ Ss W (SixP b t st :: Hs) w') := by
 have o1 := ok.g
 have o2 := ok.p1
 have o3 := ok.p2
 have o4 := ok.p3
 obtain ⟨g, sp, s⟩ := s.openX
 have hl := (s.vec_len (i := 1) rfl).1
 rw [List.length_map] at hl
 unfold ZaK
 refine WP.slot' s (fun _ w s => WP.slot' s (fun _ w s => WP.nilck (WP.ld s 0 rfl (o := 2) rfl (Zbz _) ?_)))
 refine WP.loopG (γ := Nat) (fun i (p : Int × Vec Int 16) w => p.1 = (i : Int) ∧ p.2.l = two (st.words i) ∧ i ≤ st.gs.length ∧ Ss W (ZkD b t g st sp ++ Hs) w) (fun i _ => st.gs.length - i) 0 ⟨rfl, rfl, Nat.zero_le _, s⟩ ?_
 clear s
 rintro i ⟨_, v⟩ w ⟨rfl, hv, hi, s⟩
 simp only at hv
 show WP (ZaK.L1 (some (pt b 0)) g (i : Int) v) w _
 unfold ZaK.L1
 have K1 : ∀ {w : World} (j : Nat), j = st.pos i → i < st.gs.length → Ss W (ZkD b t g st sp ++ Hs) w → WP (ZaK.K1 (i : Int) v ((st.gs.getD i 0 : Nat) : Int) (j : Int)) w (WP.Rd (fun p w => ∃ g' : Nat, (p.1 = (g' : Int) ∧ p.2.l = two (st.words g') ∧ g' ≤ st.gs.length ∧ Ss W (ZkD b t g st sp ++ Hs) w) ∧ st.gs.length - g' < st.gs.length - i) (fun r w' => r = st.bytes ∧ Ss W (SixP b t st :: Hs) w')) := by
  intro w j hj hil s
  have hj8 : j < 8 := by
   rw [hj]
   unfold S6.pos
   split <;> omega
  unfold ZaK.K1
  have e1 : IntKind.wrap .i64 (2 * (j : Int)) = ((2 * j : Nat) : Int) := by
   rw [Zah (by omega) (by omega)]
   omega
  have e2 : IntKind.wrap .i64 (((2 * j : Nat) : Int) + 1) = ((2 * j + 1 : Nat) : Int) := by
   rw [Zah (by omega) (by omega)]
   omega
  rw [e1, e2]
  have hx : (st.gs.getD i 0) < 65536 := by
   rw [List.getD, List.getElem?_eq_getElem hil]
   exact ok.v _ (List.getElem_mem _)
  refine WP.chk ⟨by omega, by omega⟩ (WP.chk ⟨by omega, by omega⟩ (WP.next ⟨i + 1, ⟨?_, ?_, by omega, s⟩, by omega⟩))
  ·show IntKind.wrap .i64 ((i : Int) + 1) = _
   rw [Zah (by omega) (by omega)]
   omega
  ·show ((v.l.set _ _).set _ _) = _
   rw [hv, Zs4, Zju, Zju, Int.toNat_natCast, Int.toNat_natCast, show st.gs.getD i 0 / 256 % 256 = st.gs.getD i 0 / 256 by omega, ZpC, hj]
   rfl
 refine WP.ite (fun h => ?_) (fun h => WP.done ⟨Vec.eq ?_, s.closeX⟩)
 ·have hil : i < st.gs.length := by
   rw [hl] at h
   omega
  have hx : (st.gs.map fun n : Nat => (n : Int))[Int.toNat (i : Int)]? = some ((st.gs.getD i 0 : Nat) : Int) := by
   rw [Int.toNat_natCast, List.getElem?_map, List.getD, List.getElem?_eq_getElem hil]
   rfl
  refine WP.rdx s 1 rfl Zc9 (by omega) hx rfl ?_
  have o5 : i < st.gs.length := hil
  refine WP.nilck (WP.ld s 0 rfl (o := 3) rfl (Zc6 _) ?_)
  refine WP.step (R := fun y w' => y = decide (st.gap ≥ 0 ∧ (i : Int) ≥ st.gap) ∧ w = w') (WP.ite (fun h => WP.nilck (WP.ld s 0 rfl (o := 3) rfl (Zc6 _) (WP.ret ⟨?_, rfl⟩))) (fun h => WP.ret ⟨?_, rfl⟩)) ?_
  ·rw [Bool.eq_iff_iff, decide_eq_true_iff, decide_eq_true_iff]
   exact ⟨fun h' => ⟨h, h'⟩, fun h' => h'.2⟩
  ·exact (decide_eq_false fun h' => h h'.1).symm
  rintro _ _ ⟨rfl, rfl⟩
  refine WP.ite (fun h => ?_) (fun h => ?_)
  ·have h := of_decide_eq_true h
   refine WP.nilck (WP.ld s 0 rfl (o := 2) rfl (Zbz _) ?_)
   have e1 : IntKind.wrap .i64 ((i : Int) + IntKind.wrap .i64 (8 - (g.len : Int))) = ((i + (8 - st.gs.length) : Nat) : Int) := by
    rw [Zah (n := 8 - _) (by omega) (by omega), Zah (by omega) (by omega)]
    omega
   simp only
   rw [e1]
   exact K1 _ (by unfold S6.pos; rw [if_pos h]) hil s
  ·exact K1 _ (by unfold S6.pos; rw [if_neg (fun h' => h (decide_eq_true h'))]) hil s
 ·have : i = st.gs.length := by
   rw [hl] at h
   omega
  subst this
  exact hv
end
def ZbE (l : List Int) (q : Int) : Nat := runE (fun c => decide (c ≠ q)) l 0
theorem Zqy (l : List Int) (q : Int) : ZbE l q ≤ l.length := (ZjI (Nat.zero_le _)).2
theorem Zqx {l : List Int} {q : Int} {j : Nat} (h : j < ZbE l q) : l.getD j 0 ≠ q := of_decide_eq_true (Zji (Nat.zero_le _) h)
theorem ZmR {l : List Int} {q : Int} (h : ZbE l q < l.length) : l.getD (ZbE l q) 0 = q := by
 have h1 := Zlx (p := fun c => decide (c ≠ q)) (l := l) (i := 0) (k := ZbE l q) (Nat.zero_le _) (Nat.le_refl _)
 by_cases e : l.getD (ZbE l q) 0 = q
 ·exact e
 ·exact absurd (h1.1 ⟨h, decide_eq_true e⟩) (Nat.lt_irrefl _)
theorem Zsr {s : ByteArray} {i : Nat} (h : i < s.size) : ((s[i]!).toNat : Int) = (strI s).getD i 0 := by
 unfold strI
 rw [List.getD, List.getElem?_map, List.getElem?_eq_getElem (by rw [Array.length_toList]; exact h)]
 show ((s[i]!).toNat : Int) = ((s.data.toList[i]).toNat : Int)
 rw [getElem!_pos s i h]
 rfl
theorem ZnQ (s : ByteArray) (q : Nat) (hq : q < 256) : firstIdx s q.toUInt8 = if ZbE (strI s) q < s.size then (ZbE (strI s) q : Int) else -1 := by
 have hl := ZbJ s
 have hc : ∀ {i : Nat}, i < s.size → (s[i]! = q.toUInt8 ↔ (strI s).getD i 0 = q) := by
  intro i hi
  rw [← Zsr hi, ← UInt8.toNat_inj]
  have : (q.toUInt8).toNat = q := by
   show q % 256 = q
   omega
  rw [this]
  omega
 unfold firstIdx
 cases hf : (List.range s.size).find? fun i => s[i]! == q.toUInt8 with
 | none =>
  rw [List.find?_eq_none] at hf
  rw [if_neg]
  intro h
  have := hf _ (List.mem_range.2 h)
  exact this (beq_iff_eq.2 ((hc h).2 (ZmR (by omega))))
 | some i =>
  rw [List.find?_range_eq_some] at hf
  obtain ⟨h1, h2, h3⟩ := hf
  rw [List.mem_range] at h2
  have h1 := (hc h2).1 (beq_iff_eq.1 h1)
  have a1 : ¬ i < ZbE (strI s) q := fun h => Zqx h h1
  have a2 : ¬ ZbE (strI s) q < i := by
   intro h
   have := h3 _ h
   rw [Bool.not_eq_true', beq_eq_false_iff_ne] at this
   exact this ((hc (by omega)).2 (ZmR (by omega)))
  have a3 : ZbE (strI s) q = i := by omega
  rw [a3, if_pos h2]
section
variable {W w : World} {Hs : List HP}
theorem Zl2 (s : ByteArray) {p : ByteArray} {q : Nat} (hq : q < 256) (hp : strI p = [(q : Int)]) : WP (ZaD s p) w (fun r w' => r = (if ZbE (strI s) q < s.size then (ZbE (strI s) q : Int) else -1) ∧ w = w') := by
 have hn : p.size = 1 := by
  rw [← ZbJ, hp]
  rfl
 have hsb : sb p 0 = q := by
  have := Zer (s := p) (i := 0)
  rw [hp] at this
  exact this
 unfold ZaD
 have hl := ZbJ s
 refine WP.step (R := fun y w' => y = decide (strI p = strI s) ∧ w = w') (WP.ite (fun h => absurd h (by omega)) (fun h => WP.ret ⟨?_, rfl⟩)) ?_
 ·rw [Bool.eq_iff_iff, beq_iff_eq, decide_eq_true_iff, ZbX]
 rintro _ _ ⟨rfl, rfl⟩
 refine WP.ite (fun h => WP.ret ⟨?_, rfl⟩) (fun h => WP.ite (fun _ => WP.chk ⟨by omega, by omega⟩ (WP.step (R := fun r w' => r = (if ZbE (strI s) q < s.size then (ZbE (strI s) q : Int) else -1) ∧ w = w') ?_ (fun r w h => WP.ret h))) (fun h => absurd (by omega) h))
 ·have h := of_decide_eq_true h
  have e1 : ZbE (strI s) q = 0 := by
   rw [← h, hp]
   simp [ZbE, runE]
  rw [e1, if_pos]
  ·rfl
  ·rw [← hl, ← h, hp]
   exact Nat.zero_lt_one
 ·unfold ZbY
  refine WP.idxB ?_
  refine WP.ret ⟨?_, rfl⟩
  rw [hsb, Int.toNat_natCast]
  exact ZnQ s q hq
theorem Zm8 (s : ByteArray) {p : ByteArray} {q : Nat} (hq : q < 256) (hp : strI p = [(q : Int)]) : WP (ZcM s p) w (fun r w' => r = decide (ZbE (strI s) q < s.size) ∧ w = w') := by
 unfold ZcM Zd1
 refine WP.step (WP.step (Zl2 s hq hp) (fun r w h => WP.ret h)) ?_
 rintro _ _ ⟨rfl, rfl⟩
 refine WP.ret ⟨?_, rfl⟩
 split
 ·rw [decide_eq_true (by omega), decide_eq_true (by assumption)]
 ·rw [decide_eq_false (by omega), decide_eq_false (by assumption)]
def CutA (s : ByteArray) (q : Nat) (r : ByteArray × ByteArray × Bool) : Prop :=
 r.2.2 = decide (ZbE (strI s) q < s.size) ∧ (ZbE (strI s) q < s.size → strI r.1 = (strI s).take (ZbE (strI s) q) ∧ strI r.2.1 = (strI s).drop (ZbE (strI s) q + 1))
theorem Zug (s : Ss W Hs w) (t : ByteArray) (ht : t.size ≤ 1000000) {p : ByteArray} {q : Nat} (hq : q < 256) (hp : strI p = [(q : Int)]) : WP (Zc3 t p) w (fun r w' => CutA t q r ∧ Ss W Hs w') := by
 have hn : p.size = 1 := by
  rw [← ZbJ, hp]
  rfl
 have hl := ZbJ t
 unfold Zc3 Zc2
 refine WP.step (R := fun r w' => CutA t q r ∧ Ss W Hs w') (WP.step (Zl2 t hq hp) ?_) (fun r w h => WP.ret h)
 rintro _ _ ⟨rfl, rfl⟩
 by_cases hf : ZbE (strI t) q < t.size
 ·rw [if_pos hf]
  have e1 : IntKind.wrap .i64 (((ZbE (strI t) q : Nat) : Int) + (p.size : Int)) = ((ZbE (strI t) q + 1 : Nat) : Int) := by
   rw [hn, Zah (by omega) (by omega)]
   rfl
  rw [e1]
  refine WP.ite (fun _ => WP.draw' s (fun w s => WP.chk ⟨by omega, by omega, by omega⟩ (WP.chk ⟨by omega, by omega, by omega⟩ (WP.ret ⟨⟨(decide_eq_true hf).symm, fun _ => ⟨?_, ?_⟩⟩, s⟩)))) (fun h => absurd (by omega) h)
  ·simp only
   rw [Zdc]
   simp
  ·simp only
   rw [Zdc]
   simp only [Int.toNat_natCast]
   rw [List.take_of_length_le (by rw [List.length_drop]; omega)]
 ·rw [if_neg hf]
  exact WP.ite (fun h => absurd h (by omega)) (fun _ => WP.ret ⟨⟨(decide_eq_false hf).symm, fun h => absurd h hf⟩, s⟩)
end
theorem Zlz {l : List Int} : ∀ (f : Nat) (op : Bool) (st r : S6), Ok6 l st → Zfg l f op st = .ok r → Ok6 l r
 | 0, _, _, _, _, h => by cases h
 | f + 1, op, st, r, ok, h => by
  unfold Zfg at h
  split at h
  ·cases h
   exact ok
  ·cases hg : ZgI l st with
   | error e =>
    rw [hg] at h
    cases h
   | ok x =>
    obtain ⟨done, st1⟩ := x
    rw [hg] at h
    obtain ⟨k1, -, -⟩ := Zj3 ok hg
    simp only at h
    split at h
    ·split at h
     ·cases h
     ·cases h
      exact k1
    ·rename_i hn
     cases hd : Zeg l st1 with
     | error e =>
      rw [hd] at h
      cases h
     | ok x =>
      obtain ⟨y, st2⟩ := x
      rw [hd] at h
      obtain ⟨m1, m2, m3⟩ := Ze3 k1 hd
      simp only at h
      split at h
      ·exact Zlz f true st2 r m1 h
      ·rename_i hy
       split at h
       ·cases h
       ·have e2 := m2 (by simpa using hy)
        have h3 := k1.a
        have h4 : st1.at_ ≠ l.length := fun h' => hn (.inr h')
        refine Zlz f false ⟨st2.at_ + 1, st2.gs, st2.gap⟩ r ⟨?_, m1.g, m1.p1, m1.p2, m1.p3, m1.v⟩ h
        show st2.at_ + 1 ≤ l.length
        rw [e2]
        omega
theorem Zoe {l : List Int} {r : S6} (h : Zkw l = .ok r) : Ok6 l r := by
 have ok0 : Ok6 l ⟨0, [], -1⟩ := ⟨by simp, by simp, by simp, by simp, fun h => by simp, fun x h => by cases h⟩
 unfold Zkw at h
 cases hd : Zeg l ⟨0, [], -1⟩ with
 | error e =>
  rw [hd] at h
  cases h
 | ok x =>
  obtain ⟨y, st⟩ := x
  rw [hd] at h
  exact Zlz _ _ _ _ (Ze3 ok0 hd).1 h
def v4V (a : List Nat) : Vec Int 16 := ⟨((a.map fun n : Nat => (n : Int)) ++ List.replicate 16 0).take 16, by simp⟩
def Zfp (l : List Int) : Except Flt Zbe :=
 if l.length > 45 then .error (2, 45)
 else if ZbE l 58 < l.length then match Zkw l with
  | .error f => .error f
  | .ok st => .ok ⟨6, st.bytes⟩
 else match Zgp l 0 with
  | .error f => .error f
  | .ok a => .ok ⟨4, v4V a⟩
theorem Zsp {l : List Nat} (h : ∀ x ∈ l, x < 65536) : Byt (two l) := by
 intro x hx
 unfold two at hx
 rw [List.mem_flatten] at hx
 obtain ⟨p, hp, hx⟩ := hx
 rw [List.mem_map] at hp
 obtain ⟨n, hn, rfl⟩ := hp
 have := h n hn
 simp only [List.mem_cons, List.not_mem_nil, or_false] at hx
 constructor <;> rcases hx with rfl | rfl <;> omega
theorem Zn0 {st : S6} {l : List Int} (ok : Ok6 l st) : ∀ i, ∀ x ∈ st.words i, x < 65536
 | 0, x, hx => by
  have := List.eq_of_mem_replicate hx
  omega
 | i + 1, x, hx => by
  rcases List.mem_or_eq_of_mem_set hx with h | rfl
  ·exact Zn0 ok i x h
  ·rw [List.getD]
   cases hy : st.gs[i]? with
   | none => simp
   | some y => exact ok.v y (List.mem_of_getElem? hy)
theorem Zg2 {l : List Int} {ip : Zbe} (h : Zfp l = .ok ip) : Byt ip.A.l := by
 unfold Zfp at h
 split at h
 ·cases h
 ·split at h
  ·cases hr : Zkw l with
   | error f =>
    rw [hr] at h
    cases h
   | ok st =>
    rw [hr] at h
    cases h
    exact Zsp (Zn0 (Zoe hr) _)
  ·cases hr : Zgp l 0 with
   | error f =>
    rw [hr] at h
    cases h
   | ok a =>
    rw [hr] at h
    cases h
    obtain ⟨h4, h5⟩ := Zjp (Nat.zero_le _) hr
    intro x hx
    have hx := List.mem_of_mem_take hx
    rw [List.mem_append, List.mem_map] at hx
    rcases hx with ⟨n, hn, rfl⟩ | hx
    ·have := h5 n hn
     constructor <;> omega
    ·have := List.eq_of_mem_replicate hx
     omega
def ipM (l : List Int) : Zbe × Int × Int := match Zfp l with
 | .error f => (ZdR, f.1, (f.2 : Int))
 | .ok ip => (ip, 0, 0)
def Zmu (l : List Int) : Except Flt Zap :=
 if l.length > 49 then .error (2, 49)
 else if ZbE l 47 < l.length then match Zfp (l.take (ZbE l 47)) with
  | .error f => .error f
  | .ok ip => match numM l (ZbE l 47 + 1) (Zdq ip) 45 with
   | .error f => .error f
   | .ok (n, e) => if e < l.length then .error (41, e) else if vpM ⟨ip, (n : Int)⟩ ≠ 0 then .error (46, 0) else .ok ⟨ip, (n : Int)⟩
 else .error (42, l.length)
def Znx (l : List Int) : Zap × Int × Int := match Zmu l with
 | .error f => (Zbl, f.1, (f.2 : Int))
 | .ok p => (p, 0, 0)
section
variable {W w : World} {Hs : List HP}
def Zub (W : World) (Hs : List HP) (x : Except Flt Zbe) (r : Zbe × Option Addr) (w : World) : Prop :=
 match x with
 | .ok ip => r = (ip, none) ∧ Ss W Hs w
 | .error f => ∃ b, r.2 = some (pt b 0) ∧ Ss W (pts true (pt b 0) (flt f) :: Hs) w
theorem Zok (s : Ss W Hs w) (t : ByteArray) : WP (Zel t) w (Zub W Hs (Zfp (strI t))) := by
 have hl := ZbJ t
 unfold Zel Zfp
 refine WP.slot' s (fun _ w s => WP.ite (fun h => WP.newv s (fun b w s => WP.ret ?_)) (fun h => ?_))
 ·rw [if_pos (by omega)]
  exact ⟨b, rfl, s⟩
 rw [if_neg (by omega)]
 refine WP.step (Zm8 t (q := 58) (by omega) (by decide)) ?_
 rintro _ _ ⟨rfl, rfl⟩
 refine WP.ite (fun h => ?_) (fun h => ?_)
 ·have h : ¬ ZbE (strI t) 58 < (strI t).length := fun h' => h (decide_eq_true (by rw [← hl]; exact h'))
  rw [if_neg h]
  refine WP.step (Zqt s t (by omega) 0 (by omega)) ?_
  intro r w hr
  cases hm : Zgp (strI t) 0 with
  | error f =>
   rw [hm] at hr
   obtain ⟨b, hb, s⟩ := hr
   exact WP.slot' s (fun _ w s => WP.ite (fun _ => WP.ret ⟨b, hb, s⟩) (fun h => absurd (by rw [hb]; simp) h))
  | ok a =>
   rw [hm] at hr
   obtain ⟨ha, hb, s⟩ := hr
   refine WP.slot' s (fun _ w s => WP.ite (fun h => absurd hb h) (fun _ => WP.ret ⟨?_, s⟩))
   obtain ⟨h4, -⟩ := Zjp (Nat.zero_le _) hm
   match a, h4 with
   | [a, b, c, d], _ =>
    have e : (⟨[r.1.g 0 0, r.1.g 1 0, r.1.g 2 0, r.1.g 3 0, 0, 0, 0, 0, 0, 0, 0, 0, 0, 0, 0, 0], rfl⟩ : Vec Int 16) = v4V [a, b, c, d] := by
     refine Vec.eq ?_
     unfold Vec.g
     rw [ha]
     rfl
    rw [e]
 ·have h : ZbE (strI t) 58 < (strI t).length := by
   rw [hl]
   exact of_decide_eq_true (by simpa using h)
  rw [if_pos h]
  refine WP.newv s (fun b w s => ?_)
  have s1 : Ss W (SixP b t ⟨0, [], -1⟩ :: Hs) w := Ss.closeX (g := Sl.nil) (sp := []) ((s.mk0 (A := vec (cI .i64) Sl.nil [] []) Zdo).use [1, 0] (s := [_, _]) (r := Hs) rfl)
  refine WP.step (ZsO s1 (by omega)) ?_
  intro r w hr
  cases hm : Zkw (strI t) with
  | error f =>
   rw [hm] at hr
   obtain ⟨b, rfl, s⟩ := hr
   exact WP.ite (fun _ => WP.ret ⟨b, rfl, s⟩) (fun h => absurd (by simp) h)
  | ok st =>
   rw [hm] at hr
   obtain ⟨rfl, s⟩ := hr
   refine WP.ite (fun h => absurd rfl h) (fun _ => WP.step (ZrQ s (Zoe hm)) ?_)
   rintro _ w ⟨rfl, s⟩
   exact WP.ret ⟨rfl, s.drop⟩
theorem Zlh (s : Ss W Hs w) (t : ByteArray) : WP (ZdC t) w (fun r w' => r = ipM (strI t) ∧ Ss W Hs w') := by
 unfold ZdC ipM
 refine WP.slot' s (fun _ w s => WP.step (Zok s t) ?_)
 intro r w hr
 cases hm : Zfp (strI t) with
 | error f =>
  rw [hm] at hr
  obtain ⟨b, hb, s⟩ := hr
  refine WP.slot' s (fun _ w s => ?_)
  rw [hb]
  exact WP.ite (fun _ => WP.draw' s (fun w s => WP.nilck (WP.ld s 0 rfl (o := 0) (by simp [Addr.add]) (Zd4 _) (WP.nilck (WP.ld s 0 rfl (o := 1) rfl (Zd5 _) (WP.same s 0 rfl (o := 1) rfl (Zd5 _) (WP.same s 0 rfl (o := 0) (by simp [Addr.add]) (Zd4 _) (WP.ret ⟨rfl, s.drop⟩)))))))) (fun h => absurd (by simp) h)
 | ok ip =>
  rw [hm] at hr
  obtain ⟨rfl, s⟩ := hr
  exact WP.slot' s (fun _ w s => WP.ite (fun h => absurd rfl h) (fun _ => WP.ret ⟨rfl, s⟩))
end
theorem Zoj {ip : Zbe} : (prIP ip).length ≤ 200 := by
 have hl := ip.A.h
 unfold prIP
 split
 ·have := Zha (xs := ip.A.l.take 4) (by rw [List.length_take]; omega)
  omega
 ·split
  ·have := Zha (xs := ip.A.l.drop 12) (by rw [List.length_drop]; omega)
   rw [List.length_append]
   simp only [List.length_cons, List.length_nil]
   omega
  ·have hg := Zg6 ip.A.l
   split
   ·have := Zfw (gs := grps ip.A.l) (by omega)
    omega
   ·have h1 := Zfw (gs := (grps ip.A.l).take (Zd9 (grps ip.A.l)).1.toNat) (by rw [List.length_take]; omega)
    have h2 := Zfw (gs := (grps ip.A.l).drop ((Zd9 (grps ip.A.l)).1.toNat + (Zd9 (grps ip.A.l)).2)) (by rw [List.length_drop]; omega)
    rw [List.length_append, List.length_append]
    simp only [List.length_cons, List.length_nil]
    omega
section
variable {W w : World} {Hs : List HP}
theorem ZkF (s : Ss W Hs w) (t : Nat) (et : nth Hs t = some TabN) (p : Zap) (hb : Byt p.IP.A.l) : WP (ZcO p) w (fun r w' => r = ppM p ∧ Ss W Hs w') := by
 unfold ZcO
 refine WP.slot' s (fun _ w s => WP.step (ZfG s p hb) ?_)
 rintro _ w ⟨rfl, s⟩
 refine WP.ite (fun h => WP.ret ⟨by unfold ppM; rw [if_neg h], s⟩) (fun h => ?_)
 have hv : vpM p = 0 := Decidable.not_not.1 h
 obtain ⟨v0, v1, v2, v3⟩ := Zjy hv
 have hz := Zg1 p.IP
 refine WP.step (Zlg s t et p.IP hb) ?_
 rintro _ w ⟨rfl, s⟩
 have hp : piM p.IP = (bstr (prIP p.IP), 0) := by
  unfold piM
  rw [if_pos (by omega)]
 rw [hp]
 have hlen := Zoj (ip := p.IP)
 have hs1 : (Zkt).size = 1 := by decide +kernel
 refine WP.chk (by rw [Zbs, hs1]; omega) ?_
 rw [show p.Len = ((p.Len.toNat : Nat) : Int) by omega]
 refine WP.step (ZnW s t et (n := p.Len.toNat) (by omega)) ?_
 rintro _ w ⟨rfl, s⟩
 have e : Zkt = bstr [47] := by decide +kernel
 simp only
 rw [e, catb]
 have hd : (dec3 p.Len.toNat).length ≤ 3 := by
  rw [Zfv]
  unfold ndig
  split
  ·omega
  ·split <;> omega
 refine WP.chk (by rw [Zbs, Zbs, List.length_append]; simp only [List.length_cons, List.length_nil]; omega) (WP.ret ⟨?_, s⟩)
 rw [catb]
 unfold ppM
 rw [if_pos hv, List.append_assoc]
 rfl
end
end Go.Proofs.YtpmhinidiplhiaaGreatDoor.Lx
