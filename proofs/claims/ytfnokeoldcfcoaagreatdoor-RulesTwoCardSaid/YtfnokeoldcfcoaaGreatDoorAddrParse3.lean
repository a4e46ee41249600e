/- Plain words, put together. -/
import Derived.Test.YtfnokeoldcfcoaaGreatDoorLxMs
import Derived.Test.YtfnokeoldcfcoaaGreatDoorLxSh
import Derived.Test.YtfnokeoldcfcoaaGreatDoorLxP
set_option linter.unusedSimpArgs false
set_option linter.unusedVariables false
namespace Go.Proofs.YtfnokeoldcfcoaaGreatDoor.Lx
open WP (ret)
open Go.IntKind (wrap)
section
open Go Go.Proofs Go.RowKit
def Byt (l : List Int) : Prop := ∀ x ∈ l, 0 ≤ x ∧ x ≤ 255
theorem Byt.strI (s : ByteArray) : Byt (strI s) := fun x hx => by
 obtain ⟨y, _, rfl⟩ := List.mem_map.1 hx
 have := y.toNat_lt
 constructor <;> omega
theorem Byt.app {a b : List Int} (ha : Byt a) (hb : Byt b) : Byt (a ++ b) := fun x hx => (List.mem_append.1 hx).elim (ha x) (hb x)
theorem Zim {l : List Int} (h : Byt l) : strI (bstr l) = l := by
 unfold strI bstr
 rw [List.map_map]
 conv => rhs; rw [← List.map_id l]
 apply List.map_congr_left
 intro x hx
 have := h x hx
 show ((UInt8.ofNat x.toNat).toNat : Int) = x
 rw [UInt8.toNat_ofNat']
 omega
theorem ZmS (s : ByteArray) : bstr (strI s) = s := by
 obtain ⟨⟨l⟩⟩ := s
 unfold strI bstr
 rw [List.map_map]
 have : ((fun n : Int => UInt8.ofNat n.toNat) ∘ fun x : UInt8 => (x.toNat : Int)) = id := by
  funext x
  show UInt8.ofNat ((x.toNat : Int).toNat) = x
  rw [zg, UInt8.ofNat_toNat]
 rw [this, List.map_id]
theorem ZgH {n : Int} (h : 0 ≤ n) (h' : n ≤ 18446744073709551615) : wrap .u64 n = n := by
 simp [wrap, IntKind.bits, IntKind.signed]
 omega
def Zgv : Vec Int 20 := ⟨[1, 10, 100, 1000, 10000, 100000, 1000000, 10000000, 100000000, 1000000000, 10000000000, 100000000000, 1000000000000, 10000000000000, 100000000000000, 1000000000000000, 10000000000000000, 100000000000000000, 1000000000000000000, 10000000000000000000], rfl⟩
def dbV : Vec Int 64 := ⟨[0, 1, 56, 2, 57, 49, 28, 3, 61, 58, 42, 50, 38, 29, 17, 4, 62, 47, 59, 36, 45, 43, 51, 22, 53, 39, 33, 30, 24, 18, 12, 5, 63, 55, 48, 27, 60, 41, 37, 16, 46, 35, 44, 21, 52, 32, 23, 11, 54, 26, 40, 15, 34, 20, 31, 10, 25, 14, 19, 9, 13, 8, 7, 6], rfl⟩
def TabN : HP := fun h => pts false ⟨6, 0, none⟩ (((cI .u64).arr 20).enc Zgv) h ∧ pts false ⟨8, 0, none⟩ (((cI .u8).arr 64).enc dbV) h
theorem TabN.pow : ZdI TabN ⟨6, 0, none⟩ (((cI .u64).arr 20).enc Zgv) := fun h hh => ZdI.pts h hh.1
theorem TabN.db : ZdI TabN ⟨8, 0, none⟩ (((cI .u8).arr 64).enc dbV) := fun h hh => ZdI.pts h hh.2
def dec3 (n : Nat) : List Int := if n < 10 then [48 + (n : Int)] else if n < 100 then [48 + (n / 10 : Nat), 48 + (n % 10 : Nat)] else [48 + (n / 100 : Nat), 48 + (n / 10 % 10 : Nat), 48 + (n % 10 : Nat)]
def ndig (n : Nat) : Nat := if n < 10 then 1 else if n < 100 then 2 else 3
theorem ZhP (n : Nat) : (dec3 n).length = ndig n := by
 unfold dec3 ndig
 split
 ·rfl
 ·split <;> rfl
theorem ZlW {n : Nat} (h : n < 1000) : Byt (dec3 n) := by
 unfold dec3
 intro x hx
 split at hx
 ·simp only [zU, List.not_mem_nil, or_false] at hx
  omega
 ·split at hx <;> simp only [zU, List.not_mem_nil, or_false] at hx <;> omega
theorem Ztb : ∀ k : _root_.Fin 100, sb ZeU (2 * (k.val : Int)) = 48 + ((k.val / 10 : Nat) : Int) ∧ sb ZeU (2 * (k.val : Int) + 1) = 48 + ((k.val % 10 : Nat) : Int) := by decide +kernel
theorem Zjz : (ZeU).size = 200 := by decide +kernel
theorem ZmL : (ZkF).size = 36 := by decide +kernel
section
variable {W w : World} {Hs : List HP}
def Znw (n : Nat) : Int := if n ≥ 256 then 8 + sb Zi6 ((n / 256 : Nat) : Int) else sb Zi6 (n : Int)
def l10 (n : Nat) : Int := Int.fdiv (Znw n * 78913) (2 ^ 18)
theorem Zwh : ∀ k : _root_.Fin 1000, 0 ≤ Znw k.val ∧ Znw k.val ≤ 64 ∧ 0 ≤ l10 k.val ∧ l10 k.val < 20 ∧ l10 k.val + (if (k.val : Int) ≥ Zgv.l.getD (l10 k.val).toNat 0 then 1 else 0) = (ndig k.val : Int) ∨ k.val = 0 := by decide +kernel
theorem Zgo {n : Int} (h : 0 ≤ n) (h' : n ≤ 255) : wrap .u8 n = n := by
 simp [wrap, IntKind.bits, IntKind.signed]
 omega
theorem Zfp {n : Int} (h : 0 ≤ n) (h' : n ≤ 4294967295) : wrap .u32 n = n := by
 simp [wrap, IntKind.bits, IntKind.signed]
 omega
theorem ZlV (n k : Nat) : Int.fdiv (n : Int) (k : Int) = ((n / k : Nat) : Int) := by
 rw [Int.fdiv_eq_ediv_of_nonneg _ (by omega)]
 rfl
theorem Zj3 (s : ByteArray) (i : Int) : 0 ≤ sb s i ∧ sb s i ≤ 255 := by
 unfold sb
 have := (s.data.toList.getD i.toNat 0).toNat_lt
 constructor <;> omega
theorem Zvz {n : Nat} (h : n < 1000) : WP (Zbj (n : Int)) w (fun r w' => r = Znw n ∧ w = w') := by
 have hs : (Zi6).size = 256 := by decide +kernel
 unfold Zbj
 refine WP.ite (fun h => absurd h (by omega)) (fun _ => ?_)
 unfold Zbj.K2
 refine WP.ite (fun h => absurd h (by omega)) (fun _ => ?_)
 unfold Zbj.K1 Znw
 have hd : Int.fdiv (n : Int) (2 ^ 8) = ((n / 256 : Nat) : Int) := ZlV n 256
 refine WP.ite (fun h => ?_) (fun h => ?_)
 ·rw [hd, Zgo (n := ((n / 256 : Nat) : Int)) (by omega) (by omega), hs]
  refine WP.chk ⟨by omega, by omega⟩ (ret ⟨?_, rfl⟩)
  have := Zj3 Zi6 ((n / 256 : Nat) : Int)
  rw [if_pos (by omega), Zau (n := 0 + 8) (by omega) (by omega), Zau (n := sb _ _) (by omega) (by omega), Zau (by omega) (by omega)]
  omega
 ·rw [Zgo (n := (n : Int)) (by omega) (by omega), hs]
  refine WP.chk ⟨by omega, by omega⟩ (ret ⟨?_, rfl⟩)
  have := Zj3 Zi6 (n : Int)
  rw [if_neg (by omega), Zau (n := sb _ _) (by omega) (by omega), Zau (by omega) (by omega)]
  omega
theorem ZpE (s : Ss W Hs w) (i : Nat) (e : nth Hs i = some TabN) {n : Nat} (h0 : 0 < n) (h : n < 1000) : WP (Zcq (n : Int)) w (fun r w' => r = (ndig n : Int) ∧ w = w') := by
 unfold Zcq
 refine WP.step (Zvz h) ?_
 rintro _ _ ⟨rfl, rfl⟩
 obtain ⟨t1, t2, t3, t4, t5⟩ | t := Zwh ⟨n, h⟩
 rotate_left
 ·simp only at t
  omega
 simp only at t1 t2 t3 t4 t5
 refine WP.step (R := fun r w' => r = l10 n ∧ w = w') ?_ ?_
 ·unfold Zc8
  refine ret ⟨?_, rfl⟩
  rw [Zau (by omega) (by omega)]
  rfl
 rintro _ _ ⟨rfl, rfl⟩
 refine WP.idx t3 (by omega) ?_
 have hat : At (((cI .u64).arr 20).enc Zgv) ((l10 n).toNat * (cI .u64).n) ((cI .u64).enc (Zgv.g (l10 n) 0)) := At.arr t3 t4
 refine WP.ldh s i e (TabN.pow.at_ hat) rfl ?_
 refine WP.step (R := fun r w' => r = (if (n : Int) ≥ Zgv.l.getD (l10 n).toNat 0 then 1 else 0) ∧ w = w') ?_ ?_
 ·unfold Zc9
  refine WP.ite (fun h => ret ⟨?_, rfl⟩) (fun h => ret ⟨?_, rfl⟩)
  ·exact (if_pos (show (n : Int) ≥ Zgv.l.getD (l10 n).toNat 0 from zd h)).symm
  ·exact (if_neg (show ¬ (n : Int) ≥ Zgv.l.getD (l10 n).toNat 0 from fun h' => h (zb h'))).symm
 rintro _ _ ⟨rfl, rfl⟩
 refine ret ⟨?_, rfl⟩
 have : (ndig n : Int) ≤ 3 := by
  unfold ndig
  split
  ·omega
  ·split <;> omega
 rw [t5]
 exact Zau (by omega) (by omega)
theorem Zop (n k : Nat) : Int.tmod (n : Int) (k : Int) = ((n % k : Nat) : Int) := by
 rw [Int.tmod_eq_emod_of_nonneg (by omega)]
 rfl
theorem Zoq (n k : Nat) : Int.tdiv (n : Int) (k : Int) = ((n / k : Nat) : Int) := by
 rw [Int.tdiv_eq_ediv_of_nonneg (by omega)]
 rfl
theorem Zun {a : Addr} {cap : Nat} {pre suf : List Int} (n : Nat) (h : n < 1000) {xs : List Int} (hx : xs.length = ndig n) (s : Ss W (pts true a ((pre ++ xs ++ suf).flatMap (cI .u8).enc) :: Hs) w) :
  WP (Zab ⟨some (a.add pre.length), ndig n, cap⟩ (n : Int)) w (fun _ w' => Ss W (pts true a ((pre ++ dec3 n ++ suf).flatMap (cI .u8).enc) :: Hs) w') := by
 have stc : ∀ {β : Type} {w : World} {k : Int} {ys : List Int} {v : Int} {f : Unit → M β} {Q : β → World → Prop}, Ss W (pts true a ((pre ++ ys ++ suf).flatMap (cI .u8).enc) :: Hs) w → ys.length = ndig n → 0 ≤ k → k < ndig n →
   (∀ w', Ss W (pts true a ((pre ++ ys.set k.toNat v ++ suf).flatMap (cI .u8).enc) :: Hs) w' → WP (f ()) w' Q) → WP (idx (some (a.add pre.length)) (ndig n) k 1 >>= fun p => st (cI .u8) p v >>= f) w Q := by
  intro β w k ys v f Q s hl k0 k1 g
  refine WP.idx k0 (by omega) ?_
  have hk : pre.length + k.toNat < (pre ++ ys ++ suf).length := by simp only [zc]; omega
  refine WP.st s 0 rfl (o := (pre.length + k.toNat) * 1) (by rw [Zd4]; congr 1; omega) (ZuC (c := cI .u8) v hk) (fun w s => g w ?_)
  have e : (pre ++ ys ++ suf).set (pre.length + k.toNat) v = pre ++ ys.set k.toNat v ++ suf := by
   rw [zu, List.set_append_right _ _ (by omega), Nat.add_sub_cancel_left, List.set_append_left _ _ (by omega), ← zu]
  rw [e] at s
  exact s
 unfold Zab
 refine WP.loop (fun (p : Int × Int) w' => p = ((n : Int), ((ndig n : Nat) : Int)) ∧ Ss W (pts true a ((pre ++ xs ++ suf).flatMap (cI .u8).enc) :: Hs) w') (fun _ _ => 0) ⟨rfl, s⟩ ?_
 clear s
 rintro _ w ⟨rfl, s⟩
 have hnd : ndig n ≤ 3 := by
  unfold ndig
  split
  ·omega
  ·split <;> omega
 show WP (Zab.L1 _ (n : Int) ((ndig n : Nat) : Int)) w _
 unfold Zab.L1
 refine WP.ite (fun h => absurd h (by omega)) (fun _ => ?_)
 refine WP.step ?_ (fun r w h => WP.done h)
 unfold Zab.K3
 refine WP.ite (fun h => absurd h (by omega)) (fun _ => ?_)
 rw [Zfp (n := (n : Int)) (by omega) (by omega)]
 unfold Zab.K2
 have K1 : ∀ {w : World} {j : Nat} {ys : List Int} (k : Int), j < 10 → k = 1 ∨ k = 0 → (k = 0 → ys = dec3 n) → (k = 1 → ys.set 0 (48 + (j : Int)) = dec3 n) → ys.length = ndig n → Ss W (pts true a ((pre ++ ys ++ suf).flatMap (cI .u8).enc) :: Hs) w →
   WP (Zab.K1 ⟨some (a.add pre.length), ndig n, cap⟩ k (j : Int)) w (fun _ w' => Ss W (pts true a ((pre ++ dec3 n ++ suf).flatMap (cI .u8).enc) :: Hs) w') := by
  intro w j ys k hj hk h0 h1 hl s
  unfold Zab.K1
  refine WP.ite (fun h => ?_) (fun h => ?_)
  ·have hk1 : k = 1 := by omega
   have e : wrap .u8 (wrap .u32 (48 + (j : Int))) = 48 + (j : Int) := by
    rw [Zfp (by omega) (by omega), Zgo (by omega) (by omega)]
   rw [e]
   refine stc s hl (by omega) (by unfold ndig; split; omega; split <;> omega) (fun w s => ret ?_)
   have h1 := h1 hk1
   rw [← h1]
   exact s
  ·have h0 := h0 (by omega)
   subst h0
   exact ret s
 by_cases hn : n < 10
 ·have e1 : ndig n = 1 := by unfold ndig; rw [if_pos hn]
  have e2 : dec3 n = [48 + (n : Int)] := by unfold dec3; rw [if_pos hn]
  refine WP.ite (fun h => absurd h (by omega)) (fun _ => ?_)
  rw [e1] at hx
  obtain ⟨x, rfl⟩ : ∃ x, xs = [x] := by
   match xs, hx with
   | [x], _ => exact ⟨x, rfl⟩
  exact K1 (j := n) (ys := [x]) _ hn (.inl (by rw [e1]; rfl)) (fun h => by rw [e1] at h; cases h) (fun _ => by rw [e2]; rfl) (by rw [e1]; rfl) s
 ·have hm : Int.tmod (n : Int) 100 = ((n % 100 : Nat) : Int) := Zop n 100
  have hd : Int.tdiv (n : Int) 100 = ((n / 100 : Nat) : Int) := Zoq n 100
  obtain ⟨q1, q2⟩ := Ztb ⟨n % 100, by omega⟩
  simp only at q1 q2
  have hw2 : wrap .u32 (((n % 100 : Nat) : Int) * 2) = 2 * ((n % 100 : Nat) : Int) := by
   rw [Zfp (by omega) (by omega)]
   omega
  have hnd2 : 2 ≤ ndig n := by
   unfold ndig
   rw [if_neg hn]
   split <;> omega
  refine WP.ite (fun _ => WP.draw' s (fun w s => ?_)) (fun h => absurd (by omega) h)
  rw [hm, hd, hw2, Zfp (n := 2 * ((n % 100 : Nat) : Int) + 1) (by omega) (by omega), Zjz, q1, q2]
  refine WP.chk ⟨by omega, by omega⟩ (WP.chk ⟨by omega, by omega⟩ ?_)
  rw [Zau (n := ((ndig n : Nat) : Int) - 1) (by omega) (by omega), Zau (n := ((ndig n : Nat) : Int) - 2) (by omega) (by omega)]
  refine stc s hx (by omega) (by omega) (fun w s => ?_)
  refine stc s (by rw [zS]; exact hx) (by omega) (by omega) (fun w s => ?_)
  rw [Zfp (by omega) (by omega)]
  by_cases hn2 : n < 100
  ·have e1 : ndig n = 2 := by unfold ndig; rw [if_neg hn, if_pos hn2]
   have e2 : dec3 n = [48 + ((n / 10 : Nat) : Int), 48 + ((n % 10 : Nat) : Int)] := by unfold dec3; rw [if_neg hn, if_pos hn2]
   have hx2 := hx
   rw [e1] at hx2
   obtain ⟨x, y, rfl⟩ : ∃ x y, xs = [x, y] := by
    match xs, hx2 with
    | [x, y], _ => exact ⟨x, y, rfl⟩
   refine K1 (j := n / 100) _ (by omega) (.inr (by rw [e1]; rfl)) (fun _ => ?_) (fun h => by rw [e1] at h; cases h) (by simp only [zS]; exact hx) s
   rw [e1, e2]
   have h5 : n % 100 / 10 = n / 10 := by omega
   have h6 : n % 100 % 10 = n % 10 := by omega
   rw [h5, h6]
   rfl
  ·have e1 : ndig n = 3 := by unfold ndig; rw [if_neg hn, if_neg hn2]
   have e2 : dec3 n = [48 + ((n / 100 : Nat) : Int), 48 + ((n / 10 % 10 : Nat) : Int), 48 + ((n % 10 : Nat) : Int)] := by unfold dec3; rw [if_neg hn, if_neg hn2]
   have hx2 := hx
   rw [e1] at hx2
   obtain ⟨x, y, z, rfl⟩ : ∃ x y z, xs = [x, y, z] := by
    match xs, hx2 with
    | [x, y, z], _ => exact ⟨x, y, z, rfl⟩
   refine K1 (j := n / 100) _ (by omega) (.inl (by rw [e1]; rfl)) (fun h => by rw [e1] at h; cases h) (fun _ => ?_) (by simp only [zS]; exact hx) s
   rw [e1, e2]
   have h5 : n % 100 / 10 = n / 10 % 10 := by omega
   have h6 : n % 100 % 10 = n % 10 := by omega
   rw [h5, h6]
   rfl
end
def Zfy (c : Int) : Bool := decide (48 ≤ c ∧ c ≤ 57)
def hexV (c : Int) : Int := if 48 ≤ c ∧ c ≤ 57 then c - 48 else if 97 ≤ c ∧ c ≤ 102 then c - 87 else if 65 ≤ c ∧ c ≤ 70 then c - 55 else -1
def Zhl (c : Int) : Bool := decide (hexV c ≥ 0)
def runE (p : Int → Bool) (l : List Int) (i : Nat) : Nat := i + ((l.drop i).takeWhile p).length
abbrev Flt := Int × Nat
def ZqI (l : List Int) (i : Nat) : Flt := if i = l.length then (42, i) else (41, i)
def valD (l : List Int) : Nat := l.foldl (fun n c => 10 * n + (c - 48).toNat) 0
def numM (l : List Int) (i : Nat) (most wrong : Int) : Except Flt (Nat × Nat) :=
 if runE Zfy l i = i then .error (ZqI l i)
 else if runE Zfy l i - i > 3 ∨ (runE Zfy l i - i > 1 ∧ l.getD i 0 = 48) then .error (wrong, i)
 else if (valD ((l.drop i).take (runE Zfy l i - i)) : Int) > most then .error (wrong, i)
 else .ok (valD ((l.drop i).take (runE Zfy l i - i)), runE Zfy l i)
def sepM (l : List Int) (i : Nat) (first : Bool) : Except Flt Nat := if first = true then .ok i else if i = l.length ∨ l.getD i 0 ≠ 46 then .error (ZqI l i) else .ok (i + 1)
def Zjc (l : List Int) : Nat → Nat → List Nat → Except Flt (List Nat × Nat)
 | 0, i, acc => .ok (acc, i)
 | k + 1, i, acc => match sepM l i acc.isEmpty with
  | .error f => .error f
  | .ok j => match numM l j 255 43 with
   | .error f => .error f
   | .ok (n, e) => Zjc l k e (acc ++ [n])
def Zie (l : List Int) (i : Nat) : Except Flt (List Nat) := match Zjc l 4 i [] with
 | .error f => .error f
 | .ok (a, e) => if e < l.length then .error (41, e) else .ok a
theorem Zfh {s : ByteArray} {i : Nat} : sb s (i : Int) = (strI s).getD i 0 := by
 unfold sb strI
 rw [zg, List.getD, List.getD, zD]
 cases s.data.toList[i]? <;> rfl
theorem Zme {p : Int → Bool} {l : List Int} {i : Nat} (h : i ≤ l.length) : i ≤ runE p l i ∧ runE p l i ≤ l.length := by
 unfold runE
 have := (List.takeWhile_sublist p (l := l.drop i)).length_le
 rw [zw] at this
 omega
theorem Zov {p : Int → Bool} {l : List Int} {i k : Nat} (h1 : i ≤ k) (h2 : k ≤ runE p l i) : (k < l.length ∧ p (l.getD k 0) = true) ↔ k < runE p l i := by
 have hd : ∀ (l : List Int) (n : Nat), n ≤ (l.takeWhile p).length → ((n < l.length ∧ p (l.getD n 0) = true) ↔ n < (l.takeWhile p).length) := by
  intro l
  induction l with
  | nil => intro n hn; simp
  | cons x l ih =>
   intro n hn
   by_cases hx : p x = true
   ·simp only [List.takeWhile_cons, hx, if_true, zf] at hn ⊢
    cases n with
    | zero => simp [hx]
    | succ n =>
     have := ih n (by omega)
     simp only [List.getD_cons_succ]
     constructor
     ·rintro ⟨a, b⟩
      have := this.1 ⟨by omega, b⟩
      omega
     ·intro h
      have := this.2 (by omega)
      exact ⟨by omega, this.2⟩
   ·simp only [List.takeWhile_cons, hx, Bool.false_eq_true, if_false, zi] at hn ⊢
    have : n = 0 := by omega
    subst this
    simp [hx]
 unfold runE at h2 ⊢
 have := hd (l.drop i) (k - i) (by omega)
 have e : (l.drop i).getD (k - i) 0 = l.getD k 0 := by
  rw [List.getD, List.getD, List.getElem?_drop, show i + (k - i) = k by omega]
 rw [e, zw] at this
 constructor
 ·intro h
  have := this.1 ⟨by omega, h.2⟩
  omega
 ·intro h
  have := this.2 (by omega)
  exact ⟨by omega, this.2⟩
theorem ZlN {p : Int → Bool} {l : List Int} {i k : Nat} (h1 : i ≤ k) (h2 : k < runE p l i) : p (l.getD k 0) = true := ((Zov h1 (by omega)).2 h2).2
section
variable {W w : World} {Hs : List HP}
abbrev flt (f : Flt) : List Value := Zby.enc ⟨f.1, (f.2 : Int)⟩
theorem ZrL (c : Int) : WP (Zfk c) w (fun r w' => r = Zfy c ∧ w = w') := by
 unfold Zfk
 refine WP.step (R := fun r w' => r = Zfy c ∧ w = w') (WP.ite (fun h => ret ⟨?_, rfl⟩) (fun h => ret ⟨?_, rfl⟩)) (fun r w h => ret h)
 ·unfold Zfy
  exact decide_eq_decide.2 ⟨fun h' => ⟨h, h'⟩, fun h' => h'.2⟩
 ·unfold Zfy
  exact (zh fun h' => h h'.1).symm
theorem ZtS (c : Int) : WP (Zf1 c) w (fun r w' => r = hexV c ∧ w = w') := by
 unfold Zf1
 refine WP.step (ZrL c) ?_
 rintro _ _ ⟨rfl, rfl⟩
 unfold Zfy hexV
 refine WP.ite (fun h => ret ⟨?_, rfl⟩) (fun h => ?_)
 ·have h := zd h
  rw [if_pos h, Zgo (by omega) (by omega), Zau (by omega) (by omega)]
 have h1 : ¬ (48 ≤ c ∧ c ≤ 57) := fun h' => h (zb h')
 rw [if_neg h1]
 refine WP.step (R := fun y w' => y = decide (97 ≤ c ∧ c ≤ 102) ∧ w = w') (WP.ite (fun h => ret ⟨decide_eq_decide.2 ⟨fun h' => ⟨h, h'⟩, fun h' => h'.2⟩, rfl⟩) (fun h => ret ⟨(zh fun h' => h h'.1).symm, rfl⟩)) ?_
 rintro _ _ ⟨rfl, rfl⟩
 refine WP.ite (fun h => ret ⟨?_, rfl⟩) (fun h => ?_)
 ·have h := zd h
  rw [if_pos h, Zgo (by omega) (by omega), Zau (n := c - 97) (by omega) (by omega), Zau (by omega) (by omega)]
  omega
 have h2 : ¬ (97 ≤ c ∧ c ≤ 102) := fun h' => h (zb h')
 rw [if_neg h2]
 refine WP.step (R := fun y w' => y = decide (65 ≤ c ∧ c ≤ 70) ∧ w = w') (WP.ite (fun h => ret ⟨decide_eq_decide.2 ⟨fun h' => ⟨h, h'⟩, fun h' => h'.2⟩, rfl⟩) (fun h => ret ⟨(zh fun h' => h h'.1).symm, rfl⟩)) ?_
 rintro _ _ ⟨rfl, rfl⟩
 refine WP.ite (fun h => ret ⟨?_, rfl⟩) (fun h => ret ⟨?_, rfl⟩)
 ·have h := zd h
  rw [if_pos h, Zgo (by omega) (by omega), Zau (n := c - 65) (by omega) (by omega), Zau (by omega) (by omega)]
  omega
 ·rw [if_neg fun h' => h (zb h')]
theorem ZkM (s : Ss W Hs w) (t : ByteArray) (i : Nat) : WP (Zd0 t (i : Int)) w (fun r w' => ∃ b, r = some (pt b 0) ∧ Ss W (pts true (pt b 0) (flt (ZqI (strI t) i)) :: Hs) w') := by
 unfold Zd0 ZqI
 rw [ZbI]
 refine WP.ite (fun h => WP.newv s (fun b w s => ret ⟨b, rfl, ?_⟩)) (fun h => WP.newv s (fun b w s => ret ⟨b, rfl, ?_⟩))
 ·rw [if_pos (by omega)]
  exact s
 ·rw [if_neg (by omega)]
  exact s
theorem Zl6 (l : List Int) (c : Int) : valD (l ++ [c]) = 10 * valD l + (c - 48).toNat := by
 unfold valD
 rw [List.foldl_append]
 rfl
theorem ZsU : ∀ (k : Nat) (l : List Int), l.length ≤ k → (∀ c ∈ l, Zfy c = true) → valD l < 10 ^ k := by
 intro k
 induction k with
 | zero =>
  intro l hl _
  have : l = [] := List.eq_nil_of_length_eq_zero (by omega)
  subst this
  decide
 | succ k ih =>
  intro l hl hd
  rcases List.eq_nil_or_concat l with rfl | ⟨l', c, rfl⟩
  ·exact Nat.pow_pos (by omega)
  ·rw [List.concat_eq_append] at hl hd ⊢
   rw [Zl6, Nat.pow_succ]
   have h1 := ih l' (by simp at hl; omega) (fun c hc => hd c (by simp [hc]))
   have h2 := hd c (by simp)
   unfold Zfy at h2
   have h2 := zd h2
   omega
def NumA (W : World) (Hs : List HP) (x : Except Flt (Nat × Nat)) (r : Int × Int × Option Addr) (w : World) : Prop :=
 match x with
 | .ok (n, e) => r = ((n : Int), (e : Int), none) ∧ Ss W Hs w
 | .error f => ∃ b, r = (0, 0, some (pt b 0)) ∧ Ss W (pts true (pt b 0) (flt f) :: Hs) w
theorem ZpC (s : Ss W Hs w) (t : ByteArray) (ht : t.size ≤ 1000) (i : Nat) (hi : i ≤ t.size) (most wrong : Int) : WP (ZaT t (i : Int) most wrong) w (NumA W Hs (numM (strI t) i most wrong)) := by
 unfold ZaT
 have hl := ZbI t
 obtain ⟨r1, r2⟩ := Zme (p := Zfy) (l := strI t) (i := i) (by omega)
 refine WP.loopG (γ := Nat) (fun k (p : Int) w => p = (k : Int) ∧ i ≤ k ∧ k ≤ runE Zfy (strI t) i ∧ Ss W Hs w) (fun k _ => t.size - k) i ⟨rfl, zB _, r1, s⟩ ?_
 clear s
 rintro k _ w ⟨rfl, k1, k2, s⟩
 show WP (ZaT.L2 t (i : Int) most wrong (k : Int)) w _
 unfold ZaT.L2
 have hgo := Zov k1 k2
 rw [hl] at hgo
 refine WP.step (R := fun y w' => y = decide (k < runE Zfy (strI t) i) ∧ w = w') (WP.ite (fun h => WP.chk ⟨by omega, by omega⟩ (WP.step (ZrL _) ?_)) (fun h => ret ⟨?_, rfl⟩)) ?_
 ·rintro _ _ ⟨rfl, rfl⟩
  refine ret ⟨?_, rfl⟩
  rw [Zfh, zj, ze, ← hgo]
  exact ⟨fun h' => ⟨by omega, h'⟩, fun h' => h'.2⟩
 ·refine (zh fun h' => ?_).symm
  have := hgo.2 h'
  omega
 rintro _ _ ⟨rfl, rfl⟩
 refine WP.ite (fun h => WP.next ⟨k + 1, ⟨?_, by omega, by have := zd h; omega, s⟩, by have := zd h; omega⟩) (fun h => ?_)
 ·rw [Zau (by omega) (by omega)]
  simp
 have hk : k = runE Zfy (strI t) i := by
  have : ¬ k < runE Zfy (strI t) i := fun h' => h (zb h')
  omega
 refine WP.step ?_ (fun r w h => WP.done h)
 unfold ZaT.K1 numM
 rw [← hk]
 refine WP.ite (fun h => ?_) (fun h => ?_)
 ·rw [if_pos (by omega)]
  refine WP.step (ZkM s t i) ?_
  rintro _ w ⟨b, rfl, s⟩
  exact ret ⟨b, rfl, s⟩
 have hne : ¬ k = i := by omega
 rw [if_neg hne]
 have ew : wrap .i64 ((k : Int) - (i : Int)) = ((k - i : Nat) : Int) := by
  rw [Zau (by omega) (by omega)]
  omega
 rw [ew]
 refine WP.step (R := fun y w' => y = decide (k - i > 3 ∨ (k - i > 1 ∧ (strI t).getD i 0 = 48)) ∧ w = w') (WP.ite (fun h => ret ⟨?_, rfl⟩) (fun h => ?_)) ?_
 ·exact (zb (.inl (by omega))).symm
 ·refine WP.step (R := fun y w' => y = decide (k - i > 3 ∨ (k - i > 1 ∧ (strI t).getD i 0 = 48)) ∧ w = w') (WP.ite (fun h1 => WP.chk ⟨by omega, by omega⟩ (ret ⟨?_, rfl⟩)) (fun h1 => ret ⟨?_, rfl⟩)) (fun r w h => ret h)
  ·rw [Zfh, zj, ze, zq]
   exact ⟨fun h' => .inr ⟨by omega, h'⟩, fun h' => h'.resolve_left (by omega) |>.2⟩
  ·exact (zh fun h' => by omega).symm
 rintro _ _ ⟨rfl, rfl⟩
 refine WP.ite (fun h => ?_) (fun h => ?_)
 ·rw [if_pos (zd h)]
  exact WP.newv s (fun b w s => ret ⟨b, rfl, s⟩)
 have h3 : ¬ (k - i > 3 ∨ (k - i > 1 ∧ (strI t).getD i 0 = 48)) := fun h' => h (zb h')
 rw [if_neg h3]
 have hdig : ∀ n, ∀ c ∈ ((strI t).drop i).take n, n ≤ k - i → Zfy c = true := by
  intro n c hc hn
  obtain ⟨j, hj, rfl⟩ := List.mem_iff_getElem.1 hc
  rw [zm, zw] at hj
  rw [List.getElem_take, List.getElem_drop]
  have := ZlN (p := Zfy) (l := strI t) (i := i) (k := i + j) (by omega) (by omega)
  rw [List.getD, za (by omega)] at this
  exact this
 refine WP.loopG (γ := Nat) (fun j (p : Int × Int) w => p = ((valD (((strI t).drop i).take (j - i)) : Int), (j : Int)) ∧ i ≤ j ∧ j ≤ k ∧ Ss W Hs w) (fun j _ => k - j) i ⟨by simp [valD], zB _, k1, s⟩ ?_
 clear s
 rintro j _ w ⟨rfl, j1, j2, s⟩
 show WP (ZaT.L1 t (i : Int) most wrong (k : Int) (valD (((strI t).drop i).take (j - i)) : Int) (j : Int)) w _
 unfold ZaT.L1
 have hlt := ZsU 3 (((strI t).drop i).take (j - i)) (by rw [zm]; omega) (fun c hc => hdig (j - i) c hc (by omega))
 refine WP.ite (fun h => WP.chk ⟨by omega, by omega⟩ (WP.next ⟨j + 1, ⟨?_, by omega, by omega, s⟩, by omega⟩)) (fun h => ?_)
 ·have hd := ZlN (p := Zfy) (l := strI t) (i := i) (k := j) j1 (by omega)
  have htk : ((strI t).drop i).take (j + 1 - i) = ((strI t).drop i).take (j - i) ++ [(strI t).getD j 0] := by
   rw [show j + 1 - i = (j - i) + 1 by omega, zy, List.getElem?_drop, show i + (j - i) = j by omega, List.getD, za (by omega)]
   rfl
  rw [Zfh, htk, Zl6]
  unfold Zfy at hd
  have hd := zd hd
  generalize (strI t).getD j 0 = c at hd
  rw [Zgo (by omega) (by omega), Zau (n := c - 48) (by omega) (by omega), Zau (n := 10 * _) (by omega) (by omega), Zau (n := 10 * _ + _) (by omega) (by omega), Zau (n := (j : Int) + 1) (by omega) (by omega)]
  refine Prod.ext ?_ ?_
  ·simp only
   omega
  ·simp
 ·have hj : j = k := by omega
  subst hj
  refine WP.ite (fun h => ?_) (fun h => ?_)
  ·rw [if_pos h]
   exact WP.newv s (fun b w s => WP.done ⟨b, rfl, s⟩)
  ·rw [if_neg h]
   exact WP.done ⟨rfl, s⟩
theorem ZoA {l : List Int} {i n e : Nat} {most wrong : Int} (h : numM l i most wrong = .ok (n, e)) (hi : i ≤ l.length) : (n : Int) ≤ most ∧ i < e ∧ e ≤ l.length := by
 obtain ⟨r1, r2⟩ := Zme (p := Zfy) hi
 unfold numM at h
 split at h
 ·cases h
 ·split at h
  ·cases h
  ·split at h
   ·cases h
   ·cases h
    exact ⟨by omega, by omega, r2⟩
def Zuw (W : World) (Hs : List HP) (x : Except Flt (List Nat)) (r : Vec Int 4 × Option Addr) (w : World) : Prop :=
 match x with
 | .ok a => r.1.l = a.map (fun n : Nat => (n : Int)) ∧ r.2 = none ∧ Ss W Hs w
 | .error f => ∃ b, r.2 = some (pt b 0) ∧ Ss W (pts true (pt b 0) (flt f) :: Hs) w
theorem Zt0 (s : Ss W Hs w) (t : ByteArray) (ht : t.size ≤ 1000) (i : Nat) (hi : i ≤ t.size) : WP (Zbb t (i : Int)) w (Zuw W Hs (Zie (strI t) i)) := by
 unfold Zbb
 have hl := ZbI t
 refine WP.slot' s (fun _ w s => WP.slot' s (fun _ w s => ?_))
 refine WP.loopG (γ := Nat × Nat × List Nat) (fun g (p : Int × Int × Vec Int 4 × Vec Int 4) w => p.1 = (g.2.1 : Int) ∧ p.2.1 = (g.2.2.length : Int) ∧ g.1 + g.2.2.length = 4 ∧ g.2.1 ≤ t.size ∧ p.2.2.1.l = g.2.2.map (fun n : Nat => (n : Int)) ++ List.replicate g.1 0 ∧ (∀ n ∈ g.2.2, n ≤ 255) ∧ Zjc (strI t) g.1 g.2.1 g.2.2 = Zjc (strI t) 4 i [] ∧ Ss W Hs w) (fun g _ => g.1) (4, i, []) ⟨rfl, rfl, rfl, hi, rfl, by simp, rfl, s⟩ ?_
 clear s
 rintro ⟨k, j, acc⟩ ⟨_, _, v, v2⟩ w ⟨rfl, rfl, hk, hj, hv, hn, hF, s⟩
 simp only at hk hj hv hn hF s
 show WP (Zbb.L1 t (j : Int) (acc.length : Int) v v2) w _
 unfold Zbb.L1
 cases k with
 | zero =>
  refine WP.ite (fun h => absurd h (by omega)) (fun _ => ?_)
  refine WP.step ?_ (fun r w h => WP.done h)
  unfold Zbb.K1
  have e1 : Zie (strI t) i = if j < (strI t).length then .error (41, j) else .ok acc := by
   unfold Zie
   rw [← hF]
   rfl
  rw [e1, hl]
  refine WP.ite (fun h => ?_) (fun h => ?_)
  ·rw [if_pos (by omega)]
   exact WP.newv s (fun b w s => ret ⟨b, rfl, s⟩)
  ·rw [if_neg (by omega)]
   exact ret ⟨by simpa using hv, rfl, s⟩
 | succ k =>
  have hfin : ∀ {f : Flt} {b : Nat} {w : World} {v : Vec Int 4}, Zjc (strI t) (k + 1) j acc = .error f → Ss W (pts true (pt b 0) (flt f) :: Hs) w → Zuw W Hs (Zie (strI t) i) (v, some (pt b 0)) w := by
   intro f b w v hf s
   rw [hF] at hf
   unfold Zie Zuw
   rw [hf]
   exact ⟨b, rfl, s⟩
  have K2 : ∀ {w : World} (j' : Nat), j' ≤ t.size → sepM (strI t) j acc.isEmpty = .ok j' → Ss W Hs w → WP (Zbb.K2 t (acc.length : Int) v v2 (j' : Int)) w (WP.Rd (fun p w => ∃ g : Nat × Nat × List Nat, (p.1 = (g.2.1 : Int) ∧ p.2.1 = (g.2.2.length : Int) ∧ g.1 + g.2.2.length = 4 ∧ g.2.1 ≤ t.size ∧ p.2.2.1.l = g.2.2.map (fun n : Nat => (n : Int)) ++ List.replicate g.1 0 ∧ (∀ n ∈ g.2.2, n ≤ 255) ∧ Zjc (strI t) g.1 g.2.1 g.2.2 = Zjc (strI t) 4 i [] ∧ Ss W Hs w) ∧ g.1 < k + 1) (Zuw W Hs (Zie (strI t) i))) := by
   intro w j' hj' hsep s
   unfold Zbb.K2
   refine WP.step (ZpC s t ht j' hj' 255 43) ?_
   intro r w hr
   cases hnum : numM (strI t) j' 255 43 with
   | error f =>
    rw [hnum] at hr
    obtain ⟨b, rfl, s⟩ := hr
    refine WP.ite (fun _ => WP.done ?_) (fun h => absurd (by simp) h)
    refine hfin ?_ s
    unfold Zjc
    rw [hsep]
    simp only [hnum]
   | ok x =>
    obtain ⟨n, e⟩ := x
    rw [hnum] at hr
    obtain ⟨rfl, s⟩ := hr
    obtain ⟨o1, o2, o3⟩ := ZoA hnum (by omega)
    refine WP.ite (fun h => absurd rfl h) (fun _ => WP.chk ⟨by omega, by omega⟩ (WP.next ⟨(k, e, acc ++ [n]), ⟨rfl, ?_, ?_, by simp only; omega, ?_, ?_, ?_, s⟩, by simp only; omega⟩))
    ·simp only
     rw [Zau (by omega) (by omega)]
     simp
    ·simp only [zc, zf, zi]
     omega
    ·simp only
     rw [Zgo (by omega) (by omega)]
     show v.l.set (Int.toNat (acc.length : Int)) (n : Int) = _
     rw [zg, hv, List.set_append_right _ _ (by rw [zl]; exact zB _), zl, Nat.sub_self, List.replicate_succ, List.set_cons_zero]
     simp
    ·intro x hx
     rcases List.mem_append.1 hx with hx | hx
     ·exact hn x hx
     ·rw [zG] at hx
      omega
    ·simp only
     rw [← hF]
     conv => rhs; unfold Zjc
     rw [hsep]
     simp only [hnum]
  refine WP.ite (fun _ => ?_) (fun h => absurd (by omega) h)
  refine WP.ite (fun h0 => ?_) (fun h0 => ?_)
  ·have he : acc.isEmpty = false := by
    cases acc with
    | nil => simp at h0
    | cons x r => rfl
   refine WP.step (R := fun y w' => y = decide (j = (strI t).length ∨ (strI t).getD j 0 ≠ 46) ∧ w = w') (WP.ite (fun h => ret ⟨(zb (.inl (by omega))).symm, rfl⟩) (fun h => WP.chk ⟨by omega, by omega⟩ (ret ⟨?_, rfl⟩))) ?_
   ·rw [Zfh, zj, ze, bne_iff_ne]
    exact ⟨fun h' => .inr h', fun h' => h'.resolve_left (by omega)⟩
   rintro _ _ ⟨rfl, rfl⟩
   refine WP.ite (fun h => WP.draw' s (fun w s => WP.step (ZkM s t j) ?_)) (fun h => ?_)
   ·rintro _ w ⟨b, rfl, s⟩
    refine WP.done (hfin ?_ s)
    unfold Zjc sepM
    rw [he, if_neg (by simp), if_pos (zd h)]
   ·have hc : ¬ (j = (strI t).length ∨ (strI t).getD j 0 ≠ 46) := fun h' => h (zb h')
    have ew : wrap .i64 ((j : Int) + 1) = ((j + 1 : Nat) : Int) := by
     rw [Zau (by omega) (by omega)]
     simp
    rw [ew]
    refine K2 (j + 1) (by omega) ?_ s
    unfold sepM
    rw [he, if_neg (by simp), if_neg hc]
  ·have he : acc.isEmpty = true := by
    cases acc with
    | nil => rfl
    | cons x r => simp at h0
   refine K2 j hj ?_ s
   unfold sepM
   rw [he, if_pos rfl]
end
abbrev cBd := Zcr
def Zo4 (b : Nat) (p : Option Addr) (buf : Sl) (bs sp : List Int) : List HP :=
 [pts true (pt b 0) (cBd.enc ⟨p, buf⟩), shp b 173 2, vec (cI .u8) buf bs sp, shpO buf 5 (bs.length + sp.length)]
def BldP (b : Nat) (bs : List Int) : HP := fun h => ∃ p buf sp, (p = none ∨ p = some (pt b 0)) ∧ (buf.a = none ∨ buf.cap ≠ 0) ∧ seps (Zo4 b p buf bs sp) h
section
variable {W w : World} {R Hs : List HP} {b : Nat} {p : Option Addr} {buf : Sl} {bs sp : List Int}
theorem Ss.openB (s : Ss W (BldP b bs :: R) w) : ∃ p buf sp, (p = none ∨ p = some (pt b 0)) ∧ (buf.a = none ∨ buf.cap ≠ 0) ∧ Ss W (Zo4 b p buf bs sp ++ R) w := by
 obtain ⟨hb, k, ⟨h1, h2, e, l1, l2, ⟨p, buf, sp, a1, a2, a3⟩, b⟩, hw⟩ := s
 exact ⟨p, buf, sp, a1, a2, Ss.split ⟨hb, k, ⟨h1, h2, e, l1, l2, a3, b⟩, hw⟩⟩
theorem Ss.closeB (s : Ss W (Zo4 b p buf bs sp ++ R) w) (h1 : p = none ∨ p = some (pt b 0)) (h2 : buf.a = none ∨ buf.cap ≠ 0) : Ss W (BldP b bs :: R) w := s.group.first (fun h hh => ⟨p, buf, sp, h1, h2, hh⟩)
theorem Zlm (s : Ss W (Zo4 b p buf bs sp ++ R) w) (h1 : p = none ∨ p = some (pt b 0)) : WP (ZbK (some (pt b 0))) w (fun _ w' => Ss W (Zo4 b (some (pt b 0)) buf bs sp ++ R) w') := by
 unfold ZbK
 refine WP.nilck (WP.ld s 0 rfl (o := 0) (by simp [Addr.add]) (ZfI _) ?_)
 rcases h1 with rfl | rfl
 ·refine WP.ite (fun _ => ?_) (fun h => absurd rfl h)
  refine WP.upOf s 1 rfl (by decide) (WP.noesc (WP.ptOf s 1 rfl (by decide) (WP.nilck ?_)))
  exact WP.st s 0 rfl (o := 0) (by simp [Addr.add]) (ZhS _ _) (fun w s => ret s)
 ·refine WP.ite (fun h => by cases h) (fun _ => WP.nilck (WP.ld s 0 rfl (o := 0) (by simp [Addr.add]) (ZfI _) ?_))
  refine WP.ptrEq1 ?_
  exact WP.ite (fun h => absurd rfl h) (fun _ => ret s)
theorem ZwE {β : Type} {xs : List Int} {f : Unit → M β} {Q : β → World → Prop} (s : Ss W (Zo4 b p buf bs sp ++ R) w) (h2 : buf.a = none ∨ buf.cap ≠ 0) (hl : bs.length + xs.length ≤ 140737488355328)
  (k : ∀ r sp' w', (r.a = none ∨ r.cap ≠ 0) → Ss W (Zo4 b p r (bs ++ xs) sp' ++ R) w' → WP (f ()) w' Q) : WP (appl (cI .u8) 5 1 0 buf xs >>= fun r => nilck (some (pt b 0)) >>= fun q => st cL (Addr.add q 1) r >>= f) w Q := by
 refine WP.applB (Hs := pts true (pt b 0) (cBd.enc ⟨p, buf⟩) :: shp b 173 2 :: R) (s.use [2, 2] (r := _ :: _ :: R) rfl) hl h2 (fun r w sp' hz s => WP.nilck ?_)
 have s := s.use [2, 2, 0, 0] (r := R) rfl
 exact WP.st s 0 rfl (o := 1) rfl (ZfO _ _) (fun w s => k r sp' w hz s)
theorem Zg7 (s : Ss W (BldP b bs :: R) w) (t : ByteArray) (hl : bs.length + t.size ≤ 1000000) : WP (Zbs (some (pt b 0)) t) w (fun _ w' => Ss W (BldP b (bs ++ strI t) :: R) w') := by
 obtain ⟨p, buf, sp, h1, h2, s⟩ := s.openB
 unfold Zbs
 refine WP.step (Zlm s h1) ?_
 rintro _ w s
 refine WP.nilck (WP.ld s 0 rfl (o := 1) rfl (ZbF _) ?_)
 exact ZwE s h2 (by rw [ZbI]; omega) (fun r sp' w hz s => ret (s.closeB (.inr rfl) hz))
theorem Zuq (s : Ss W (BldP b bs :: R) w) (hb : Byt bs) (hl : bs.length ≤ 1000000) : WP (Zcd (some (pt b 0))) w (fun r w' => r = bstr bs ∧ Ss W R w') := by
 obtain ⟨p, buf, sp, h1, h2, s⟩ := s.openB
 unfold Zcd
 refine WP.draw' s (fun w s => WP.nilck (WP.ld s 0 rfl (o := 1) rfl (ZbF _) (WP.nilck (WP.ld s 0 rfl (o := 1) rfl (ZbF _) ?_))))
 refine WP.sdata h2 (WP.same s 0 rfl (o := 1) rfl (ZbF _) ?_)
 exact WP.ustr (Hs := pts true (pt b 0) (cBd.enc ⟨p, buf⟩) :: shp b 173 2 :: R) (s.use [2, 2] (r := _ :: _ :: R) rfl) hb (by omega) (fun w s => ret ⟨rfl, s.drop.drop⟩)
theorem ZwR (s : Ss W (pts true (pt b 0) (cBd.enc ZeS) :: shp b 173 2 :: R) w) {n : Int} (h0 : 0 ≤ n) (hn : n ≤ 1000000) : WP (Zcw (some (pt b 0)) n) w (fun _ w' => Ss W (BldP b [] :: R) w') := by
 have s := ((s.mk0 (A := shpO Sl.nil 5 (([] : List Int).length + ([] : List Int).length)) ZuN).mk0 (A := vec (cI .u8) Sl.nil [] []) Zcv).use [2, 2, 0, 0] (r := R) rfl
 have s : Ss W (Zo4 b none Sl.nil [] [] ++ R) w := s
 unfold Zcw
 refine WP.step (Zlm s (.inl rfl)) ?_
 rintro _ w s
 refine WP.ite (fun h => absurd h (by omega)) (fun _ => WP.draw' s (fun w s => ?_))
 refine WP.nilck (WP.ld s 0 rfl (o := 1) rfl (ZbF _) (WP.nilck (WP.ld s 0 rfl (o := 1) rfl (ZbF _) ?_)))
 refine WP.ite (fun h => ?_) (fun h => ret (s.closeB (.inr rfl) (.inl rfl)))
 unfold Zc1
 refine WP.step (R := fun _ w' => Ss W (BldP b [] :: R) w') ?_ (fun _ w s => ret s)
 refine WP.draw' s (fun w s => WP.nilck (WP.ld s 0 rfl (o := 1) rfl (ZbF _) (WP.nilck (WP.ld s 0 rfl (o := 1) rfl (ZbF _) ?_))))
 have e : wrap .i64 (wrap .i64 (2 * (Sl.nil.cap : Int)) + n) = n := by
  show wrap .i64 (wrap .i64 (2 * 0) + n) = n
  rw [Zau (n := 2 * 0) (by omega) (by omega), Zau (by omega) (by omega)]
  omega
 have e0 : wrap .i64 ((Sl.nil.cap : Int) - (Sl.nil.len : Int)) = 0 := by
  show wrap .i64 (0 - 0) = 0
  rw [Zau (by omega) (by omega)]
  omega
 simp only [e0] at h
 simp only [e]
 refine WP.mkNZ s h0 (by omega) (fun a cap xs w hcap hxl ha1 ha2 s => ?_)
 have s : Ss W (pts true a (xs.flatMap (cI .u8).enc) :: shp a.block 5 cap :: pts true (pt b 0) (cBd.enc ⟨some (pt b 0), Sl.nil⟩) :: shp b 173 2 :: vec (cI .u8) Sl.nil [] [] :: shpO Sl.nil 5 0 :: R) w := s
 refine WP.same s 2 rfl (o := 1) rfl (ZbF _) ?_
 refine WP.cutpre (by simp [Sl.nil]) (by simp only [Sl.nil]; omega) (WP.nilck (WP.ld s 2 rfl (o := 1) rfl (ZbF _) ?_))
 have s := s.first (B := vec (cI .u8) ⟨some a, 0, cap⟩ [] xs) (fun h hp => ⟨rfl, by simp [hxl], hp⟩)
 refine WP.cpy s 0 rfl 4 rfl ZcB (by decide) (fun w s => WP.nilck ?_)
 have s : Ss W (vec (cI .u8) ⟨some a, 0, cap⟩ [] xs :: shp a.block 5 cap :: pts true (pt b 0) (cBd.enc ⟨some (pt b 0), Sl.nil⟩) :: shp b 173 2 :: vec (cI .u8) Sl.nil [] [] :: shpO Sl.nil 5 0 :: R) w := s
 refine WP.st s 2 rfl (o := 1) rfl (ZfO _ _) (fun w s => ret ?_)
 have s : Ss W (vec (cI .u8) ⟨some a, 0, cap⟩ [] xs :: shp a.block 5 cap :: pts true (pt b 0) (cBd.enc ⟨some (pt b 0), ⟨some a, 0, cap⟩⟩) :: shp b 173 2 :: vec (cI .u8) Sl.nil [] [] :: shpO Sl.nil 5 0 :: R) w := s
 have s := (s.use [1] (s := [_]) (r := _ :: _ :: _ :: _ :: _ :: R) rfl).first (B := shpO ⟨some a, 0, cap⟩ 5 (([] : List Int).length + xs.length)) (fun h hp a' ha' => by
  cases ha'
  refine ⟨ha1, ha2, ?_⟩
  rw [hxl, zi, Nat.zero_add]
  exact hp)
 have s := s.use [2, 2, 1, 0] (r := _ :: _ :: R) rfl
 have s : Ss W (Zo4 b (some (pt b 0)) ⟨some a, 0, cap⟩ [] xs ++ (vec (cI .u8) Sl.nil [] [] :: shpO Sl.nil 5 0 :: R)) w := s
 have s := s.closeB (.inr rfl) (.inr (by simp only; omega))
 exact (s.use [1, 1] (s := [_, _]) (r := _ :: R) rfl).drop.drop
end
def ZgG (sep : List Int) : List (List Int) → List Int
 | [] => []
 | x :: r => x ++ r.flatMap (fun y => sep ++ y)
theorem ZpP {sep : List Int} {l : List (List Int)} (hs : Byt sep) (h : ∀ x ∈ l, Byt x) : Byt (ZgG sep l) := by
 cases l with
 | nil => exact fun x hx => by cases hx
 | cons x r =>
  refine (h x (by simp)).app fun y hy => ?_
  obtain ⟨z, hz, hy⟩ := List.mem_flatMap.1 hy
  exact (hs.app (h z (by simp [hz]))) y hy
section
variable {W w : World} {R Hs : List HP}
theorem ZmE {α : Type} {f : α → List Int} {l : List α} {k : Nat} (h : ∀ x ∈ l, (f x).length ≤ k) : (l.flatMap f).length ≤ l.length * k := by
 induction l with
 | nil => simp
 | cons x r ih =>
  have h1 := ih (fun y hy => h y (by simp [hy]))
  have h2 := h x (by simp)
  simp only [List.flatMap_cons, zc, zf, Nat.succ_mul]
  omega
theorem Zq5 {A : HP} {a0 : Sl} {strs : List ByteArray} {sep : ByteArray} (s : Ss W Hs w) (i : Nat) (e : nth Hs i = some A) (r : Rdb A cS a0 strs) (hcap : a0.len ≤ a0.cap) (h1 : strs.length ≤ 100) (h2 : ∀ x ∈ strs, x.size ≤ 100) (h3 : sep.size ≤ 100) :
  WP (Zax a0 sep) w (fun y w' => y = bstr (ZgG (strI sep) (strs.map strI)) ∧ Ss W Hs w') := by
 unfold Zax
 have hl := (s.rd_len e r).1
 rw [hl]
 match strs, h1, h2, r, hl with
 | [], h1, h2, r, hl => exact WP.ite (fun _ => ret ⟨rfl, s⟩) (fun h => absurd rfl h)
 | [x], h1, h2, r, hl =>
  refine WP.ite (fun h => by simp at h) (fun _ => WP.ite (fun _ => ?_) (fun h => absurd rfl h))
  rw [← hl]
  refine WP.rdx s i e r (by omega) (x := x) rfl rfl (ret ⟨?_, s⟩)
  show x = bstr (strI x ++ [])
  rw [zJ, ZmS]
 | x :: y :: rest, h1, h2, r, hl =>
  have hn : (x :: y :: rest).length = rest.length + 2 := rfl
  rw [hn]
  rw [hn] at h1
  refine WP.ite (fun h => by omega) (fun _ => WP.ite (fun h => by omega) (fun _ => ?_))
  -- what is behind the reckoning of the room
  have K2 : ∀ (n : Int), 0 ≤ n → n ≤ 10000 → WP (Zax.K2 a0 sep n) w (fun y' w' => y' = bstr (ZgG (strI sep) ((x :: y :: rest).map strI)) ∧ Ss W Hs w') := by
   intro n n0 n1
   unfold Zax.K2
   refine WP.loop (fun (p : Int × Int) w' => 0 ≤ p.1 ∧ p.1 ≤ 10000 + 100 * p.2 ∧ 0 ≤ p.2 ∧ p.2 ≤ rest.length + 2 ∧ Ss W Hs w') (fun p _ => ((rest.length + 2 : Int) - p.2).toNat) ⟨n0, by simp only; omega, by simp, by simp only; omega, s⟩ ?_
   clear s
   rintro ⟨t, k⟩ w ⟨t0, t1, k0, k1, s⟩
   simp only at t0 t1 k0 k1
   show WP (Zax.L2 a0 sep t k) w _
   unfold Zax.L2
   rw [hl, hn]
   refine WP.ite (fun h => ?_) (fun h => ?_)
   ·have hx := za (show k.toNat < (x :: y :: rest).length by rw [hn]; omega)
    have hsz := h2 _ (zk hx)
    generalize (x :: y :: rest)[k.toNat]'(by rw [hn]; omega) = z at hx hsz
    rw [← hn, ← hl]
    refine WP.rdx s i e r k0 hx rfl ?_
    rw [Zau (n := 9223372036854775807 - t) (by omega) (by omega)]
    refine WP.ite (fun h => absurd h (by omega)) (fun _ => WP.next ⟨?_, ?_⟩)
    ·rw [Zau (n := t + _) (by omega) (by omega), Zau (n := k + 1) (by omega) (by omega)]
     exact ⟨by simp only; omega, by simp only; omega, by simp only; omega, by simp only; omega, s⟩
    ·rw [Zau (n := k + 1) (by omega) (by omega)]
     simp only
     omega
   ·refine WP.step ?_ (fun r w h => WP.done h)
    unfold Zax.K1
    refine WP.newvS s (fun b w s => ?_)
    refine WP.step (ZwR s t0 (by omega)) ?_
    rintro _ w s
    refine WP.rdx s (i + 1) e r (by omega) (x := x) rfl rfl ?_
    have hx := h2 x (by simp)
    refine WP.step (Zg7 s x (by simp only [zi]; omega)) ?_
    rintro _ w s
    refine WP.cutsuf (by omega) (by rw [hl, hn]; omega) hcap ?_
    have rd := r.drop (k := 1) (by simp) hcap
    generalize hq : (⟨if a0.cap = (1 : Int).toNat then a0.a else a0.a.map (·.add ((1 : Int).toNat * 1)), a0.len - (1 : Int).toNat, a0.cap - (1 : Int).toNat⟩ : Sl) = q
    have rd : Rdb A cS q (y :: rest) := hq ▸ rd
    have ql := (s.rd_len (i := i + 1) e rd).1
    have ql : q.len = rest.length + 1 := ql
    refine WP.loopG (γ := Nat) (fun j (p : Int) w' => p = (j : Int) ∧ j ≤ rest.length + 1 ∧ Ss W (BldP b (strI x ++ ((y :: rest).take j).flatMap (fun z => strI sep ++ strI z)) :: Hs) w') (fun j _ => rest.length + 1 - j) 0 ⟨rfl, by omega, by simpa using s⟩ ?_
    clear s
    rintro j _ w ⟨rfl, hj, s⟩
    show WP (Zax.L1 sep b q (j : Int)) w _
    unfold Zax.L1
    have hpre : (strI x ++ ((y :: rest).take j).flatMap (fun z => strI sep ++ strI z)).length ≤ 100 + 100 * 200 := by
     have := ZmE (f := fun z : ByteArray => strI sep ++ strI z) (l := (y :: rest).take j) (k := 200) (fun z hz => by
      have := h2 z (zO _ (List.mem_of_mem_take hz))
      rw [zc, ZbI, ZbI]
      omega)
     have h4 : ((y :: rest).take j).length ≤ 100 := by
      rw [zm]
      omega
     have h5 := Nat.mul_le_mul_right 200 h4
     rw [zc, ZbI]
     omega
    refine WP.ite (fun h => ?_) (fun h => ?_)
    ·have hj2 : j < (y :: rest).length := by
      show j < rest.length + 1
      omega
     have hz := za hj2
     have hsz := h2 _ (zO _ (zk hz))
     have htake : (y :: rest).take (j + 1) = (y :: rest).take j ++ [(y :: rest)[j]] := by
      rw [zy, hz]
      rfl
     generalize (y :: rest)[j] = z at hz hsz htake
     refine WP.rdx s (i + 1) e rd (by omega) (x := z) (by rw [zg]; exact hz) rfl ?_
     refine WP.step (Zg7 s sep (by omega)) ?_
     rintro _ w s
     refine WP.step (Zg7 s z (by rw [zc, ZbI]; omega)) ?_
     rintro _ w s
     refine WP.next ⟨j + 1, ⟨?_, by omega, ?_⟩, by omega⟩
     ·rw [Zau (by omega) (by omega)]
      simp
     ·rw [htake, zv]
      simpa [zu] using s
    ·have hj2 : j = rest.length + 1 := by omega
     subst hj2
     have ht : (y :: rest).take (rest.length + 1) = y :: rest := by
      apply zC
      simp
     rw [ht] at s hpre
     refine WP.step (Zuq s ((Byt.strI x).app fun v hv => ?_) (by omega)) ?_
     ·obtain ⟨z, _, hv⟩ := List.mem_flatMap.1 hv
      exact ((Byt.strI sep).app (Byt.strI z)) v hv
     ·rintro _ w ⟨rfl, s⟩
      refine WP.done ⟨?_, s⟩
      simp only [List.map_cons, ZgG, List.flatMap_cons, List.flatMap_map]
  have hw1 : wrap .i64 (((rest.length + 2 : Nat) : Int) - 1) = (rest.length : Int) + 1 := by
   rw [Zau (by omega) (by omega)]
   omega
  refine WP.ite (fun h => ?_) (fun _ => K2 0 (by omega) (by omega))
  rw [hw1]
  refine WP.chk (by omega) ?_
  have hdiv : (92233720368547758 : Int) ≤ wrap .i64 (Int.tdiv 9223372036854775807 ((rest.length : Int) + 1)) := by
   rw [Int.tdiv_eq_ediv_of_nonneg (by omega)]
   have h6 : (92233720368547758 : Int) ≤ 9223372036854775807 / ((rest.length : Int) + 1) := by
    rw [Int.le_ediv_iff_mul_le (by omega)]
    have : (rest.length : Int) + 1 ≤ 100 := by omega
    have := Int.mul_le_mul_of_nonneg_left this (show (0 : Int) ≤ 92233720368547758 by omega)
    omega
   have h7 : 9223372036854775807 / ((rest.length : Int) + 1) ≤ 9223372036854775807 := Int.ediv_le_self _ (by omega)
   rw [Zau (by omega) h7]
   exact h6
  refine WP.ite (fun h => absurd h (by omega)) (fun _ => ?_)
  have hm := Ztz (a := (sep.size : Int)) (b := (rest.length : Int) + 1) (A := 100) (B := 99) (by omega) (by omega) (by omega) (by omega)
  rw [Zau (n := (sep.size : Int) * ((rest.length : Int) + 1)) (by omega) (by omega), Zau (by omega) (by omega)]
  exact K2 _ (by omega) (by omega)
end
theorem Ztc : ∀ k : _root_.Fin 100, (if k.val < 10 then (ZkF).extract k.val (k.val + 1) else (ZeU).extract (k.val * 2) (k.val * 2 + 2)) = bstr (dec3 k.val) := by decide +kernel
section
variable {W w : World} {Hs : List HP}
theorem WP.cutlh {β : Type} {a : Addr} {L C n : Nat} {lo hi : Int} {f : Sl → M β} {Q : β → World → Prop} (h0 : 0 ≤ lo) (h1 : lo ≤ hi) (h2 : hi ≤ C) (h3 : lo ≠ C) (g : WP (f ⟨some (a.add (lo.toNat * n)), hi.toNat - lo.toNat, C - lo.toNat⟩) w Q) : WP (Lx.cut n ⟨some a, L, C⟩ (some lo) (some hi) none >>= f) w Q := by
 refine WP.bind ⟨_, w, ?_, g⟩
 unfold Lx.cut
 simp only [Option.getD_none, Option.getD_some]
 rw [if_pos (by omega)]
 have : ¬ ((C : Int).toNat = lo.toNat) := by omega
 simp only [if_neg this, Option.map_some]
 congr 2
theorem ZuM {n : Nat} (h : n < 100) : WP (Zeo (n : Int)) w (fun r w' => r = bstr (dec3 n) ∧ w = w') := by
 have ht := Ztc ⟨n, h⟩
 simp only at ht
 unfold Zeo
 refine WP.ite (fun h => ?_) (fun h => ?_)
 ·rw [Zau (by omega) (by omega), ZmL]
  refine WP.chk ⟨by omega, by omega, by omega⟩ (ret ⟨?_, rfl⟩)
  rw [if_pos (by omega)] at ht
  rw [← ht]
  congr 1
 ·rw [Zau (n := (n : Int) * 2) (by omega) (by omega), Zau (by omega) (by omega), Zjz]
  refine WP.chk ⟨by omega, by omega, by omega⟩ (ret ⟨?_, rfl⟩)
  rw [if_neg (by omega)] at ht
  rw [← ht]
  congr 1
theorem ZnC (s : Ss W Hs w) (i : Nat) (e : nth Hs i = some TabN) {n : Nat} (h : n < 1000) : WP (ZaX (n : Int) 10) w (fun r w' => r = bstr (dec3 n) ∧ Ss W Hs w') := by
 unfold ZaX
 refine WP.ite (fun _ => ?_) (fun h => absurd rfl h)
 refine WP.step (R := fun y w' => y = decide (n < 100) ∧ w = w') (WP.ite (fun _ => ret ⟨?_, rfl⟩) (fun h => absurd (by omega) h)) ?_
 ·exact decide_eq_decide.2 ⟨fun h => by omega, fun h => by omega⟩
 rintro _ _ ⟨rfl, rfl⟩
 refine WP.ite (fun h' => ?_) (fun h' => ?_)
 ·refine WP.step (ZuM (zd h')) ?_
  rintro _ _ ⟨rfl, rfl⟩
  exact ret ⟨rfl, s⟩
 have hn : ¬ n < 100 := fun h2 => h' (zb h2)
 refine WP.newv s (fun b w s => ?_)
 refine WP.ite (fun h => absurd h (by omega)) (fun _ => ?_)
 rw [ZgH (by omega) (by omega)]
 unfold ZaX.K1
 refine WP.step (ZpE s (i + 1) e (by omega) h) ?_
 rintro _ _ ⟨rfl, rfl⟩
 have hnd : ndig n = 3 := by unfold ndig; rw [if_neg (by omega), if_neg hn]
 rw [Zau (by omega) (by omega)]
 have hs : Ss W (pts true (pt b 0) (([0] ++ [0, 0, 0] ++ List.replicate 20 0 : List Int).flatMap (cI .u8).enc) :: Hs) w := by
  rw [Cod.arr_enc] at s
  exact s
 refine WP.cutlh (by omega) (by omega) (by omega) (by omega) ?_
 have e1 : (1 + ((ndig n : Nat) : Int)).toNat - (1 : Int).toNat = ndig n := by omega
 rw [e1]
 refine WP.step (Zun (a := pt b 0) (cap := 24 - (1 : Int).toNat) (pre := [0]) (suf := List.replicate 20 0) n h (xs := [0, 0, 0]) (by rw [hnd]; rfl) hs) ?_
 rintro _ w s
 refine WP.ite (fun h => absurd h (by omega)) (fun _ => ?_)
 refine WP.cutlh (by omega) (by omega) (by omega) (by omega) ?_
 rw [e1]
 have hat : At (([0] ++ dec3 n ++ List.replicate 20 0 : List Int).flatMap (cI .u8).enc) ((1 : Int).toNat * 1) ((dec3 n).flatMap (cI .u8).enc) := by
  refine ⟨([0] : List Int).flatMap (cI .u8).enc, (List.replicate 20 (0 : Int)).flatMap (cI .u8).enc, ?_, rfl⟩
  rw [zv, zv]
 have hr : Rdb (pts true (pt b 0) (([0] ++ dec3 n ++ List.replicate 20 0 : List Int).flatMap (cI .u8).enc)) (cI .u8) ⟨some ((pt b 0).add ((1 : Int).toNat * 1)), ndig n, 24 - (1 : Int).toNat⟩ (dec3 n) := by
  have := ((ZdI.pts (q := true) (a := pt b 0)).at_ hat).rdb (c := cI .u8) (k := 24 - (1 : Int).toNat)
  rw [ZhP] at this
  exact this
 refine WP.toStr s 0 rfl hr (ret ⟨rfl, s.drop⟩)
theorem Zq6 (s : Ss W Hs w) (i : Nat) (e : nth Hs i = some TabN) {n : Nat} (h : n < 1000) : WP (ZbR (n : Int)) w (fun r w' => r = bstr (dec3 n) ∧ Ss W Hs w') := by
 unfold ZbR
 refine WP.step (R := fun r w' => r = bstr (dec3 n) ∧ Ss W Hs w') ?_ (fun r w h => ret h)
 unfold ZeM
 exact WP.step (ZnC s i e h) (fun r w h => ret h)
end
section
variable {W w : World} {Hs : List HP}
def hexd (k : Nat) : Int := if k < 10 then 48 + (k : Int) else 87 + (k : Int)
def hexL : Nat → Nat → List Int
 | 0, n => [hexd (n % 16)]
 | f + 1, n => if n < 16 then [hexd n] else hexL f (n / 16) ++ [hexd (n % 16)]
def hex4 (n : Nat) : List Int := hexL 3 n
theorem ZrK : ∀ k : _root_.Fin 16, sb ZkF (k.val : Int) = hexd k.val := by decide +kernel
theorem ZoJ (k : Nat) (h : k < 16) : 0 ≤ hexd k ∧ hexd k ≤ 255 := by
 unfold hexd
 split <;> omega
theorem ZrC : ∀ (f n : Nat), Byt (hexL f n)
 | 0, n => fun x hx => by
  simp only [hexL, zG] at hx
  subst hx
  exact ZoJ _ (Nat.mod_lt _ (by omega))
 | f + 1, n => fun x hx => by
  unfold hexL at hx
  split at hx
  ·rename_i h
   simp only [zG] at hx
   subst hx
   exact ZoJ _ h
  ·rcases List.mem_append.1 hx with hx | hx
   ·exact ZrC f _ x hx
   ·simp only [zG] at hx
    subst hx
    exact ZoJ _ (Nat.mod_lt _ (by omega))
theorem ZlS : ∀ (f n : Nat), 0 < (hexL f n).length ∧ (hexL f n).length ≤ f + 1
 | 0, n => by simp [hexL]
 | f + 1, n => by
  unfold hexL
  have := ZlS f (n / 16)
  split
  ·simp
  ·simp only [zc, zf, zi]
   omega
theorem Zxy (n : Nat) (h : n < 18446744073709551616) : band .u64 (n : Int) 15 = ((n % 16 : Nat) : Int) := by
 have e : (BitVec.ofInt 64 (n : Int) &&& BitVec.ofInt 64 15).toNat = n % 16 := by
  rw [BitVec.toNat_and, BitVec.toNat_ofInt, BitVec.toNat_ofInt]
  have h1 : (((n : Int) % ((2 ^ 64 : Nat) : Int)).toNat) = n := by omega
  have h2 : (((15 : Int) % ((2 ^ 64 : Nat) : Int)).toNat) = 2 ^ 4 - 1 := by decide
  rw [h1, h2, Nat.and_two_pow_sub_one_eq_mod]
 show wrap .u64 (((BitVec.ofInt 64 (n : Int) &&& BitVec.ofInt 64 15).toNat : Nat) : Int) = _
 rw [e]
 exact ZgH (by omega) (by omega)
theorem Zqk (s : Ss W Hs w) (i : Nat) (e : nth Hs i = some TabN) {n : Nat} (h : n < 65536) : WP (ZcU (n : Int) 16) w (fun r w' => r = bstr (hex4 n) ∧ Ss W Hs w') := by
 unfold ZcU
 refine WP.step (R := fun r w' => r = bstr (hex4 n) ∧ Ss W Hs w') ?_ (fun r w h => ret h)
 unfold ZaX
 refine WP.ite (fun h => absurd h (by omega)) (fun _ => ?_)
 refine WP.step (R := fun r w' => r.2 = bstr (hex4 n) ∧ Ss W Hs w') ?_ (fun r w h => ret h)
 have hneg : decide ((n : Int) < 0) = false := zh (by omega)
 rw [ZgH (by omega) (by omega), hneg]
 unfold Zaa
 refine WP.step (R := fun y w' => y = false ∧ w = w') (WP.ite (fun h => absurd h (by omega)) (fun _ => ret ⟨rfl, rfl⟩)) ?_
 rintro _ _ ⟨rfl, rfl⟩
 refine WP.step (R := fun y w' => y = false ∧ w = w') (WP.ite (fun h => by cases h) (fun _ => ret ⟨rfl, rfl⟩)) ?_
 rintro _ _ ⟨rfl, rfl⟩
 refine WP.ite (fun h => by cases h) (fun _ => WP.newv s (fun b w s => ?_))
 refine WP.ite (fun h => by cases h) (fun _ => ?_)
 unfold Zaa.K4
 refine WP.step (R := fun y w' => y = true ∧ w = w') ?_ ?_
 ·unfold Zc2
  exact ret ⟨by decide +kernel, rfl⟩
 rintro _ _ ⟨rfl, rfl⟩
 refine WP.ite (fun _ => ?_) (fun h => absurd rfl h)
 have e16 : wrap .u64 16 = 16 := by decide +kernel
 have e15 : wrap .u64 (16 - 1) = 15 := by decide +kernel
 rw [e16]
 refine WP.step (R := fun y w' => y = 4 ∧ w = w') ?_ ?_
 ·unfold Zdm
  refine WP.step (R := fun y w' => y = 4 ∧ w = w') ?_ (fun r w h => ret h)
  unfold Zc3
  refine WP.ite (fun h => absurd h (by decide)) (fun _ => ?_)
  have ej : Int.fdiv (wrap .u64 ((band .u64 16 (wrap .u64 (0 - 16))) * 285870213051353865)) (2 ^ 58) = 15 := by decide +kernel
  rw [ej]
  refine WP.idx (by omega) (by omega) ?_
  have hat : At (((cI .u8).arr 64).enc dbV) ((15 : Int).toNat * (cI .u8).n) ((cI .u8).enc (dbV.g 15 0)) := At.arr (by omega) (by omega)
  refine WP.ldh s (i + 1) e (TabN.db.at_ hat) rfl (ret ⟨?_, rfl⟩)
  decide +kernel
 rintro _ _ ⟨rfl, rfl⟩
 have hs : Ss W (pts true (pt b 0) ((List.replicate 65 (0 : Int)).flatMap (cI .u8).enc) :: Hs) w := by
  rw [Cod.arr_enc] at s
  exact s
 -- a byte written ahead of those that stand
 have stc : ∀ {β : Type} {w : World} {D : List Int} {k : Nat} {v : Int} {f : Unit → M β} {Q : β → World → Prop}, D.length + (k + 1) = 65 → Ss W (pts true (pt b 0) ((List.replicate (k + 1) (0 : Int) ++ D).flatMap (cI .u8).enc) :: Hs) w →
   (∀ w', Ss W (pts true (pt b 0) ((List.replicate k (0 : Int) ++ v :: D).flatMap (cI .u8).enc) :: Hs) w' → WP (f ()) w' Q) → WP (idx (some (pt b 0)) 65 (k : Int) 1 >>= fun p => st (cI .u8) p v >>= f) w Q := by
  intro β w D k v f Q hl s g
  refine WP.idx (by omega) (by omega) ?_
  refine WP.st s 0 rfl (o := k * 1) (by rw [zg]) (ZuC (c := cI .u8) v (by simp only [zc, zT]; omega)) (fun w s => g w ?_)
  have e : (List.replicate (k + 1) (0 : Int) ++ D).set k v = List.replicate k 0 ++ v :: D := by
   rw [List.set_append_left _ _ (by simp), List.replicate_succ']
   rw [List.set_append_right _ _ (by simp)]
   simp
  rw [e] at s
  exact s
 refine WP.loopG (γ := Nat × Nat × List Int) (fun g (p : Int × Int) w => p.1 = (g.2.1 : Int) ∧ g.2.1 < 16 ^ (g.1 + 1) ∧ g.1 ≤ 3 ∧ hexL g.1 g.2.1 ++ g.2.2 = hex4 n ∧ p.2 = ((65 - g.2.2.length : Nat) : Int) ∧ g.2.2.length + g.1 ≤ 3 ∧ Ss W (pts true (pt b 0) ((List.replicate (65 - g.2.2.length) (0 : Int) ++ g.2.2).flatMap (cI .u8).enc) :: Hs) w) (fun g _ => g.1) (3, n, []) ⟨rfl, by simpa using h, by simp, by simp [hex4], rfl, by simp, by simpa using hs⟩ ?_
 clear s hs
 rintro ⟨f, u, D⟩ ⟨_, _⟩ w ⟨rfl, hu, hf, hD, rfl, hl, s⟩
 simp only at hu hf hD hl s
 show WP (Zaa.L1 Sl.nil 16 false false b 4 (u : Int) ((65 - D.length : Nat) : Int)) w _
 have hu2 : u < 65536 := Nat.lt_of_lt_of_le hu (by
  have : 16 ^ (f + 1) ≤ 16 ^ 4 := Nat.pow_le_pow_right (by omega) (by omega)
  simpa using this)
 obtain ⟨k, hk⟩ : ∃ k, 65 - D.length = k + 1 := ⟨64 - D.length, by omega⟩
 have hk2 : wrap .i64 (((k + 1 : Nat) : Int) - 1) = (k : Int) := by
  rw [Zau (by omega) (by omega)]
  omega
 unfold Zaa.L1
 rw [e16, e15, hk, hk2]
 rw [hk] at s
 refine WP.ite (fun h => ?_) (fun h => ?_)
 ·have hd := ZrK ⟨u % 16, Nat.mod_lt _ (by omega)⟩
  simp only at hd
  rw [Zxy u (by omega), ZmL, hd]
  refine WP.chk ⟨by omega, by omega⟩ (stc (by omega) s (fun w s => ?_))
  have e4 : wrap .u64 4 = 4 := by decide +kernel
  rw [e4]
  refine WP.chk (by omega) (WP.next ?_)
  have ed : Int.fdiv (u : Int) (2 ^ min (Int.toNat 4) 64) = ((u / 16 : Nat) : Int) := ZlV u 16
  rw [ed]
  cases f with
  | zero => simp at hu; omega
  | succ f =>
   refine ⟨(f, u / 16, hexd (u % 16) :: D), ⟨rfl, ?_, by simp only; omega, ?_, ?_, by simp only [zf]; omega, ?_⟩, by simp only; omega⟩
   ·simp only
    rw [Nat.pow_succ] at hu
    exact Nat.div_lt_of_lt_mul (by omega)
   ·simp only
    rw [← hD]
    conv => rhs; unfold hexL
    rw [if_neg (by omega)]
    simp
   ·simp only [zf]
    omega
   ·have e6 : 65 - (hexd (u % 16) :: D).length = k := by simp only [zf]; omega
    rw [e6]
    exact s
 ·refine WP.step ?_ (fun r w h => WP.done h)
  unfold Zaa.K2
  have hd := ZrK ⟨u, by omega⟩
  simp only at hd
  rw [ZmL, hd, hk2]
  refine WP.chk ⟨by omega, by omega⟩ (stc (by omega) s (fun w s => ?_))
  have hfin : hexd u :: D = hex4 n := by
   rw [← hD]
   cases f with
   | zero =>
    unfold hexL
    rw [Nat.mod_eq_of_lt (by omega)]
    rfl
   | succ f =>
    unfold hexL
    rw [if_pos (by omega)]
    rfl
  unfold Zaa.K1
  refine WP.ite (fun h => by cases h) (fun _ => WP.ite (fun h => by cases h) (fun _ => ?_))
  refine WP.cutsuf (by omega) (by simp only; omega) (by simp only; omega) ?_
  have hlen : (hex4 n).length = 65 - k := by
   rw [← hfin, zf]
   omega
  have hat : At ((List.replicate k (0 : Int) ++ hexd u :: D).flatMap (cI .u8).enc) ((k : Int).toNat * 1) ((hex4 n).flatMap (cI .u8).enc) := by
   refine ⟨(List.replicate k (0 : Int)).flatMap (cI .u8).enc, [], by rw [hfin, zv, zJ], ?_⟩
   rw [ZdW, zT, zg]
   rfl
  have hr := ((ZdI.pts (q := true) (a := pt b 0)).at_ hat).rdb (c := cI .u8) (k := 65 - (k : Int).toNat)
  have hq : (⟨if 65 = (k : Int).toNat then some (pt b 0) else (some (pt b 0)).map (·.add ((k : Int).toNat * 1)), 65 - (k : Int).toNat, 65 - (k : Int).toNat⟩ : Sl) = ⟨some ((pt b 0).add ((k : Int).toNat * 1)), (hex4 n).length, 65 - (k : Int).toNat⟩ := by
   rw [if_neg (by omega), hlen, zg]
   rfl
  rw [hq]
  exact WP.toStr s 0 rfl hr (ret ⟨rfl, s.drop⟩)
end
theorem ZeA (l : List Int) : (bstr l).size = l.length := by
 show (bstr l).data.size = _
 simp [bstr]
def dotM (xs : List Int) : List Int := ZgG [46] (xs.map fun x => dec3 x.toNat)
def colM (gs : List Nat) : List Int := ZgG [58] (gs.map hex4)
section
variable {W w : World} {Hs : List HP}
theorem Zp5 (s : Ss W Hs w) (t : Nat) (et : nth Hs t = some TabN) {A : HP} {a0 : Sl} {xs : List Int} (i : Nat) (e : nth Hs i = some A) (r : Rdb A (cI .u8) a0 xs) (hb : Byt xs) (hl : xs.length ≤ 16) : WP (ZbH a0) w (fun y w' => y = bstr (dotM xs) ∧ Ss W Hs w') := by
 unfold ZbH
 have hlen := (s.rd_len e r).1
 refine WP.loopG (γ := Nat × List ByteArray) (fun g (p : Sl × Int) w => p.2 = (g.1 : Int) ∧ g.1 ≤ xs.length ∧ Ss W (vec cS p.1 ((xs.take g.1).map fun x => bstr (dec3 x.toNat)) g.2 :: Hs) w) (fun g _ => xs.length - g.1) (0, []) ⟨rfl, by simp, s.mk0 (A := vec cS Sl.nil [] []) Zcv⟩ ?_
 clear s
 rintro ⟨k, sp⟩ ⟨sl, _⟩ w ⟨rfl, hk, s⟩
 simp only at hk s
 show WP (ZbH.L1 a0 sl (k : Int)) w _
 unfold ZbH.L1
 refine WP.ite (fun h => ?_) (fun h => ?_)
 ·have hk2 : k < xs.length := by omega
  have hx := za hk2
  have hxb := hb _ (zk hx)
  have htake : xs.take (k + 1) = xs.take k ++ [xs[k]] := by
   rw [zy, hx]
   rfl
  generalize xs[k] = x at hx hxb htake
  refine WP.rdx s (i + 1) e r (by omega) (x := x) (by rw [zg]; exact hx) rfl ?_
  rw [Zau (n := x) (by omega) (by omega), show x = ((x.toNat : Nat) : Int) by omega]
  refine WP.step (Zq6 s (t + 1) et (n := x.toNat) (by omega)) ?_
  rintro _ w ⟨rfl, s⟩
  refine WP.slot' s (fun _ w s => ?_)
  refine WP.appl s 0 rfl (by simp only [zl, zm, zf, zi]; omega) (by decide) (fun sl' w sp' s => WP.next ⟨(k + 1, sp'), ⟨?_, by simp only; omega, ?_⟩, by simp only; omega⟩)
  ·rw [Zau (by omega) (by omega)]
   simp
  ·simp only
   rw [htake, zE]
   exact s
 ·have hk2 : k = xs.length := by omega
  subst hk2
  rw [zI] at s
  have hv := s.vec_len (i := 0) rfl
  refine WP.step (Zq5 s 0 rfl ZcB (by omega) (by rw [zl]; omega) (fun z hz => ?_) (by decide +kernel)) ?_
  ·obtain ⟨x, hx, rfl⟩ := List.mem_map.1 hz
   rw [ZeA, ZhP]
   unfold ndig
   split
   ·omega
   ·split <;> omega
  rintro _ w ⟨rfl, s⟩
  refine WP.done ⟨?_, s.drop⟩
  have e1 : strI ZwW = [46] := by decide +kernel
  rw [e1]
  unfold dotM
  rw [List.map_map]
  congr 2
  apply List.map_congr_left
  intro x hx
  have := hb x hx
  exact Zim (ZlW (by omega))
theorem ZmN (s : Ss W Hs w) (t : Nat) (et : nth Hs t = some TabN) {A : HP} {a0 : Sl} {xs : List Nat} (i : Nat) (e : nth Hs i = some A) (r : Rdb A (cI .i64) a0 (xs.map fun x : Nat => (x : Int))) (hb : ∀ x ∈ xs, x < 65536) (hl : xs.length ≤ 16) : WP (Zbz a0) w (fun y w' => y = bstr (colM xs) ∧ Ss W Hs w') := by
 unfold Zbz
 have hlen := (s.rd_len e r).1
 rw [zl] at hlen
 refine WP.loopG (γ := Nat × List ByteArray) (fun g (p : Sl × Int) w => p.2 = (g.1 : Int) ∧ g.1 ≤ xs.length ∧ Ss W (vec cS p.1 ((xs.take g.1).map fun x => bstr (hex4 x)) g.2 :: Hs) w) (fun g _ => xs.length - g.1) (0, []) ⟨rfl, by simp, s.mk0 (A := vec cS Sl.nil [] []) Zcv⟩ ?_
 clear s
 rintro ⟨k, sp⟩ ⟨sl, _⟩ w ⟨rfl, hk, s⟩
 simp only at hk s
 show WP (Zbz.L1 a0 sl (k : Int)) w _
 unfold Zbz.L1
 refine WP.ite (fun h => ?_) (fun h => ?_)
 ·have hk2 : k < xs.length := by omega
  have hx := za hk2
  have hxb := hb _ (zk hx)
  have htake : xs.take (k + 1) = xs.take k ++ [xs[k]] := by
   rw [zy, hx]
   rfl
  generalize xs[k] = x at hx hxb htake
  refine WP.rdx s (i + 1) e r (by omega) (x := (x : Int)) (by rw [zg, zD, hx]; rfl) rfl ?_
  refine WP.step (Zqk s (t + 1) et hxb) ?_
  rintro _ w ⟨rfl, s⟩
  refine WP.slot' s (fun _ w s => ?_)
  refine WP.appl s 0 rfl (by simp only [zl, zm, zf, zi]; omega) (by decide) (fun sl' w sp' s => WP.next ⟨(k + 1, sp'), ⟨?_, by simp only; omega, ?_⟩, by simp only; omega⟩)
  ·rw [Zau (by omega) (by omega)]
   simp
  ·simp only
   rw [htake, zE]
   exact s
 ·have hk2 : k = xs.length := by omega
  subst hk2
  rw [zI] at s
  have hv := s.vec_len (i := 0) rfl
  refine WP.step (Zq5 s 0 rfl ZcB (by omega) (by rw [zl]; omega) (fun z hz => ?_) (by decide +kernel)) ?_
  ·obtain ⟨x, hx, rfl⟩ := List.mem_map.1 hz
   rw [ZeA]
   have := (ZlS 3 x).2
   unfold hex4
   omega
  rintro _ w ⟨rfl, s⟩
  refine WP.done ⟨?_, s.drop⟩
  have e1 : strI Zv4 = [58] := by decide +kernel
  rw [e1]
  unfold colM
  rw [List.map_map]
  congr 2
  apply List.map_congr_left
  intro x hx
  exact Zim (ZrC 3 x)
end
def ZfZ (ip : Zbw) : Int := if ip.V = 6 then 128 else if ip.V = 4 ∧ ip.A.l.drop 4 = List.replicate 12 0 then 32 else 0
def Zkp (k : Int) : Nat := (min 8 (max 0 k)).toNat
def Zw8 (c : Int) (k : Int) : Int := c / 2 ^ (8 - Zkp k) * 2 ^ (8 - Zkp k)
def Zu0 (a : List Int) (n : Int) : List Int := (List.range 16).map fun i => Zw8 (a.getD i 0) (n - 8 * (i : Int))
def ZuZ (a : Vec Int 16) (n : Int) : Vec Int 16 := ⟨Zu0 a.l n, by simp [Zu0]⟩
def vpM (p : Zag) : Int := if ZfZ p.IP = 0 then 40 else if p.Len < 0 ∨ p.Len > ZfZ p.IP then 45 else if ZuZ p.IP.A p.Len = p.IP.A then 0 else 46
def ctM (p : Zag) (ip : Zbw) : Bool := decide (vpM p = 0 ∧ ZfZ ip > 0 ∧ p.IP.V = ip.V ∧ ZuZ ip.A p.Len = p.IP.A)
theorem Zj2 (ip : Zbw) : 0 ≤ ZfZ ip ∧ ZfZ ip ≤ 128 := by
 unfold ZfZ
 split
 ·omega
 ·split <;> omega
theorem ZuY : ∀ (c : _root_.Fin 256) (k : _root_.Fin 9), band .u8 (c.val : Int) (wrap .u8 (Int.fdiv 65280 (2 ^ k.val))) = (c.val : Int) / 2 ^ (8 - k.val) * 2 ^ (8 - k.val) := by decide +kernel
section
variable {W w : World} {Hs : List HP}
theorem Zqt (s : Ss W Hs w) (ip : Zbw) : WP (ZfD ip) w (fun r w' => r = ZfZ ip ∧ Ss W Hs w') := by
 unfold ZfD
 refine WP.newv s (fun b w s => WP.ld s 0 rfl (o := 0) (by simp [Addr.add]) (Zd7 _) ?_)
 refine WP.ite (fun h => ret ⟨by unfold ZfZ; rw [if_pos h], s.drop⟩) (fun h6 => ?_)
 refine WP.ld s 0 rfl (o := 0) (by simp [Addr.add]) (Zd7 _) ?_
 refine WP.step (R := fun y w' => y = decide (¬ (ip.V = 4 ∧ ip.A.l.drop 4 = List.replicate 12 0)) ∧ Ss W (pts true (pt b 0) (Za8.enc ip) :: Hs) w') (WP.ite (fun h => ret ⟨?_, s⟩) (fun h => ?_)) ?_
 ·simp [show ¬ ip.V = 4 from h]
 ·refine WP.cutsuf (by omega) (by simp) (by simp) ?_
  refine WP.bind (WP.chk (by simp) ?_)
  have hq : (if 16 = (4 : Int).toNat then some (Addr.add (pt b 0) 1) else (some (Addr.add (pt b 0) 1)).map (·.add ((4 : Int).toNat * 1))) = some ((pt b 0).add 5) := rfl
  simp only [hq]
  refine ⟨(pt b 0).add 5, w, rfl, ?_⟩
  have hl : (ip.A.l.drop 4).length = 12 := by rw [zw, ip.A.h]
  have hat : At (Za8.enc ip) 5 (((cI .u8).arr 12).enc ⟨ip.A.l.drop 4, hl⟩) := by
   have h1 : At (((cI .u8).arr 16).enc ip.A) 4 (((cI .u8).arr 12).enc ⟨ip.A.l.drop 4, hl⟩) := by
    rw [Cod.arr_enc, Cod.arr_enc]
    refine ⟨(ip.A.l.take 4).flatMap (cI .u8).enc, [], ?_, ?_⟩
    ·rw [zJ, ← zv, List.take_append_drop]
    ·rw [ZdW, zm, ip.A.h]
     rfl
   exact (Zds ip).trans h1
  refine WP.ld s 0 rfl (o := 5) rfl hat (ret ⟨?_, s⟩)
  have h4 : ip.V = 4 := by
   rcases Decidable.em (ip.V = 4) with h' | h'
   ·exact h'
   ·exact absurd h' h
  have e1 : eqv (⟨ip.A.l.drop 4, hl⟩ : Vec Int 12) (⟨[0, 0, 0, 0, 0, 0, 0, 0, 0, 0, 0, 0], rfl⟩ : Vec Int 12) = decide (ip.A.l.drop 4 = List.replicate 12 0) := by
   refine ZvJ ?_
   rw [ze]
   exact ⟨fun h => Vec.eq h, fun h => congrArg Vec.l h⟩
  rw [e1]
  simp [h4]
 rintro _ w ⟨rfl, s⟩
 refine WP.ite (fun h => ret ⟨?_, s.drop⟩) (fun h => ret ⟨?_, s.drop⟩)
 ·unfold ZfZ
  rw [if_neg h6, if_neg (zd h)]
 ·unfold ZfZ
  rw [if_neg h6, if_pos (Decidable.not_not.1 fun h' => h (zb h'))]
theorem ZrW (s : Ss W Hs w) (ip : Zbw) : WP (Zfl ip) w (fun r w' => r = decide (ZfZ ip > 0) ∧ Ss W Hs w') := by
 unfold Zfl
 refine WP.slot' s (fun _ w s => WP.step (Zqt s ip) ?_)
 rintro _ w ⟨rfl, s⟩
 exact ret ⟨rfl, s⟩
theorem ZpK (s : Ss W Hs w) (a : Vec Int 16) (hb : Byt a.l) {n : Int} (n0 : 0 ≤ n) (n1 : n ≤ 128) : WP (ZbG a n) w (fun r w' => r = ZuZ a n ∧ Ss W Hs w') := by
 unfold ZbG
 refine WP.slot' s (fun _ w s => WP.slot' s (fun _ w s => WP.slot' s (fun _ w s => ?_)))
 refine WP.loopG (γ := Nat) (fun i (p : Int × Vec Int 16) w => p.1 = (i : Int) ∧ i ≤ 16 ∧ (∀ j, j < i → p.2.l[j]? = some (Zw8 (a.l.getD j 0) (n - 8 * (j : Int)))) ∧ Ss W Hs w) (fun i _ => 16 - i) 0 ⟨rfl, by omega, fun j h => absurd h (by omega), s⟩ ?_
 clear s
 rintro i ⟨_, v⟩ w ⟨rfl, hi, hv, s⟩
 simp only at hv
 show WP (ZbG.L1 a n (i : Int) v) w _
 unfold ZbG.L1
 refine WP.ite (fun h => ?_) (fun h => WP.done ⟨?_, s⟩)
 ·have e8 : wrap .i64 (8 * (i : Int)) = 8 * (i : Int) := Zau (by omega) (by omega)
  have en : wrap .i64 (n - 8 * (i : Int)) = n - 8 * (i : Int) := Zau (by omega) (by omega)
  have ek : (if (if 0 < n - 8 * (i : Int) then n - 8 * (i : Int) else 0) < 8 then (if 0 < n - 8 * (i : Int) then n - 8 * (i : Int) else 0) else 8) = ((Zkp (n - 8 * (i : Int)) : Nat) : Int) := by
   unfold Zkp
   split <;> split <;> omega
  have hk : Zkp (n - 8 * (i : Int)) ≤ 8 := by
   unfold Zkp
   omega
  rw [e8, en, ek, ZgH (by omega) (by omega)]
  refine WP.chk ⟨by omega, by omega⟩ (WP.chk (by omega) (WP.chk ⟨by omega, by omega⟩ (WP.next ⟨i + 1, ⟨?_, by omega, ?_, s⟩, by omega⟩)))
  ·simp only
   rw [Zau (by omega) (by omega)]
   simp
  ·intro j hj
   have hc : 0 ≤ a.l.getD i 0 ∧ a.l.getD i 0 ≤ 255 := by
    rw [List.getD]
    cases hx : a.l[i]? with
    | none => simp
    | some y => exact hb y (zk hx)
   have ht := ZuY ⟨(a.l.getD i 0).toNat, by omega⟩ ⟨Zkp (n - 8 * (i : Int)), by omega⟩
   simp only at ht
   rw [show (((a.l.getD i 0).toNat : Nat) : Int) = a.l.getD i 0 by omega] at ht
   have hmin : min (Int.toNat ((Zkp (n - 8 * (i : Int)) : Nat) : Int)) 64 = Zkp (n - 8 * (i : Int)) := by omega
   show (v.l.set (Int.toNat (i : Int)) (band .u8 (a.l.getD (Int.toNat (i : Int)) 0) _))[j]? = _
   rw [hmin, zg, ht]
   by_cases ej : j = i
   ·subst ej
    rw [List.getElem?_set_self (by rw [v.h]; omega)]
    rfl
   ·rw [List.getElem?_set_ne (fun h => ej h.symm)]
    exact hv j (by omega)
 ·have hi : i = 16 := by omega
  subst hi
  refine Vec.eq ?_
  show v.l = Zu0 a.l n
  apply List.ext_getElem?
  intro j
  unfold Zu0
  rw [zD]
  by_cases hj : j < 16
  ·rw [hv j hj, List.getElem?_range hj]
   rfl
  ·rw [List.getElem?_eq_none (by rw [v.h]; omega), List.getElem?_eq_none (by simp; omega)]
   rfl
theorem ZfX (s : Ss W Hs w) (p : Zag) (hb : Byt p.IP.A.l) : WP (Zcm p) w (fun r w' => r = vpM p ∧ Ss W Hs w') := by
 unfold Zcm
 have hz := Zj2 p.IP
 refine WP.slot' s (fun _ w s => WP.step (Zqt s p.IP) ?_)
 rintro _ w ⟨rfl, s⟩
 refine WP.ite (fun h => ret ⟨by unfold vpM; rw [if_pos h], s⟩) (fun h0 => ?_)
 refine WP.step (R := fun y w' => y = decide (p.Len < 0 ∨ p.Len > ZfZ p.IP) ∧ Ss W Hs w') (WP.ite (fun h => ret ⟨by simp [h], s⟩) (fun h => ret ⟨by simp [h], s⟩)) ?_
 rintro _ w ⟨rfl, s⟩
 refine WP.ite (fun h => ret ⟨by unfold vpM; rw [if_neg h0, if_pos (zd h)], s⟩) (fun h => WP.draw' s (fun w s => ?_))
 have hn : ¬ (p.Len < 0 ∨ p.Len > ZfZ p.IP) := fun h' => h (zb h')
 refine WP.step (ZpK s p.IP.A hb (by omega) (by omega)) ?_
 rintro _ w ⟨rfl, s⟩
 refine WP.ite (fun h => ret ⟨by unfold vpM; rw [if_neg h0, if_neg hn, if_neg h], s⟩) (fun h => ret ⟨by unfold vpM; rw [if_neg h0, if_neg hn, if_pos (Decidable.not_not.1 h)], s⟩)
theorem Zom {p : Zag} (h : vpM p = 0) : ZfZ p.IP ≠ 0 ∧ 0 ≤ p.Len ∧ p.Len ≤ ZfZ p.IP ∧ ZuZ p.IP.A p.Len = p.IP.A := by
 unfold vpM at h
 split at h
 ·cases h
 ·rename_i h0
  split at h
  ·cases h
  ·rename_i h1
   split at h
   ·rename_i h2
    exact ⟨h0, by omega, by omega, h2⟩
   ·cases h
end
def grp (a : List Int) (i : Nat) : Nat := 256 * (a.getD (2 * i) 0).toNat + (a.getD (2 * i + 1) 0).toNat
def grps (a : List Int) : List Nat := (List.range 8).map (grp a)
def zrun (g : List Nat) : Nat := (g.takeWhile (· == 0)).length
def Zhj (g : List Nat) : Nat → Int × Nat
 | 0 => (-1, 1)
 | i + 1 => if zrun (g.drop i) > (Zhj g i).2 then ((i : Int), zrun (g.drop i)) else Zhj g i
def ZfP (g : List Nat) : Int × Nat := Zhj g 8
def prIP (ip : Zbw) : List Int :=
 if ip.V = 4 then dotM (ip.A.l.take 4)
 else if ip.A.l.take 12 = [0, 0, 0, 0, 0, 0, 0, 0, 0, 0, 255, 255] then [58, 58, 102, 102, 102, 102, 58] ++ dotM (ip.A.l.drop 12)
 else if (ZfP (grps ip.A.l)).1 < 0 then colM (grps ip.A.l)
 else colM ((grps ip.A.l).take (ZfP (grps ip.A.l)).1.toNat) ++ [58, 58] ++ colM ((grps ip.A.l).drop ((ZfP (grps ip.A.l)).1.toNat + (ZfP (grps ip.A.l)).2))
def piM (ip : Zbw) : ByteArray × Int := if ZfZ ip > 0 then (bstr (prIP ip), 0) else (ByteArray.empty, 40)
def ppM (p : Zag) : ByteArray × Int := if vpM p = 0 then (bstr (prIP p.IP ++ 47 :: dec3 p.Len.toNat), 0) else (ByteArray.empty, vpM p)
theorem ZsJ (g : List Nat) : zrun g ≤ g.length := (List.takeWhile_sublist _).length_le
theorem ZoL (a : List Int) : (grps a).length = 8 := by simp [grps]
theorem ZlT {a : List Int} (h : Byt a) (i : Nat) : 0 ≤ a.getD i 0 ∧ a.getD i 0 ≤ 255 := by
 rw [List.getD]
 cases hx : a[i]? with
 | none => simp
 | some y => exact h y (zk hx)
theorem ZtY {a : List Int} (h : Byt a) : ∀ x ∈ grps a, x < 65536 := fun x hx => by
 obtain ⟨i, _, rfl⟩ := List.mem_map.1 hx
 unfold grp
 have h1 := ZlT h (2 * i)
 have h2 := ZlT h (2 * i + 1)
 omega
theorem Zmw {g : List Nat} (hg : g.length = 8) : ∀ i, i ≤ 8 → -1 ≤ (Zhj g i).1 ∧ (Zhj g i).1 ≤ 7 ∧ 1 ≤ (Zhj g i).2 ∧ (Zhj g i).2 ≤ 8 ∧ (0 ≤ (Zhj g i).1 → (Zhj g i).1 + (Zhj g i).2 ≤ 8)
 | 0, _ => by simp [Zhj]
 | i + 1, h => by
  have ih := Zmw hg i (by omega)
  have hz := ZsJ (g.drop i)
  rw [zw, hg] at hz
  unfold Zhj
  split
  ·simp only
   omega
  ·exact ih
theorem catb (a b : List Int) : bstr a ++ bstr b = bstr (a ++ b) := by
 unfold bstr
 apply ByteArray.ext
 simp
section
variable {W w : World} {Hs : List HP}
theorem Zsr (s : Ss W Hs w) (g : List Nat) (hg : g.length = 8) (v : Vec Int 8) (hv : v.l = g.map fun x : Nat => (x : Int)) : WP (ZaY v) w (fun r w' => r = ((ZfP g).1, ((ZfP g).2 : Int)) ∧ Ss W Hs w') := by
 unfold ZaY
 refine WP.slot' s (fun _ w s => ?_)
 refine WP.loopG (γ := Nat) (fun i (p : Int × Int × Int) w => p = ((Zhj g i).1, ((Zhj g i).2 : Int), (i : Int)) ∧ i ≤ 8 ∧ Ss W Hs w) (fun i _ => 8 - i) 0 ⟨rfl, by omega, s⟩ ?_
 clear s
 rintro i _ w ⟨rfl, hi, s⟩
 show WP (ZaY.L1 v (Zhj g i).1 ((Zhj g i).2 : Int) (i : Int)) w _
 unfold ZaY.L1
 have hinv := Zmw hg i hi
 refine WP.ite (fun h => ?_) (fun h => WP.done ⟨?_, s⟩)
 rotate_left
 ·have : i = 8 := by omega
  subst this
  rfl
 have hget : ∀ k, v.g (k : Nat) 0 = ((g.getD k 0 : Nat) : Int) := fun k => by
  show v.l.getD (Int.toNat (k : Int)) 0 = _
  rw [hv, zg, List.getD, List.getD, zD]
  cases g[k]? <;> rfl
 refine WP.loopG (γ := Nat) (fun n (p : Int) w => p = (n : Int) ∧ n ≤ zrun (g.drop i) ∧ Ss W Hs w) (fun n _ => zrun (g.drop i) - n) 0 ⟨rfl, by omega, s⟩ ?_
 clear s
 rintro n _ w ⟨rfl, hn, s⟩
 show WP (ZaY.L2 v (Zhj g i).1 ((Zhj g i).2 : Int) (i : Int) (n : Int)) w _
 unfold ZaY.L2
 have hz := ZsJ (g.drop i)
 rw [zw, hg] at hz
 have ein : wrap .i64 ((i : Int) + (n : Int)) = ((i + n : Nat) : Int) := by
  rw [Zau (by omega) (by omega)]
  omega
 rw [ein]
 -- the run goes on just where a zero stands
 have hgo : (i + n < 8 ∧ g.getD (i + n) 0 = 0) ↔ n < zrun (g.drop i) := by
  unfold zrun at hn ⊢
  have hd : ∀ (l : List Nat) (n : Nat), n ≤ (l.takeWhile (· == 0)).length → ((n < l.length ∧ l.getD n 0 = 0) ↔ n < (l.takeWhile (· == 0)).length) := by
   intro l
   induction l with
   | nil => intro n hn; simp
   | cons x l ih =>
    intro n hn
    by_cases hx : x = 0
    ·subst hx
     simp only [List.takeWhile_cons, beq_self_eq_true, if_true, zf] at hn ⊢
     cases n with
     | zero => simp
     | succ n =>
      have := ih n (by omega)
      simp only [List.getD_cons_succ]
      omega
    ·have hx' : (x == 0) = false := by simpa using hx
     simp only [List.takeWhile_cons, hx', Bool.false_eq_true, if_false, zi] at hn ⊢
     have : n = 0 := by omega
     subst this
     simp [hx]
  have := hd (g.drop i) n hn
  rw [← this, zw, hg]
  have e : (g.drop i).getD n 0 = g.getD (i + n) 0 := by
   rw [List.getD, List.getD, List.getElem?_drop]
  rw [e]
  constructor
  ·exact fun h => ⟨by omega, h.2⟩
  ·exact fun h => ⟨by omega, h.2⟩
 refine WP.step (R := fun y w' => y = decide (n < zrun (g.drop i)) ∧ Ss W Hs w') (WP.ite (fun h => WP.chk ⟨by omega, by omega⟩ (ret ⟨?_, s⟩)) (fun h => ret ⟨?_, s⟩)) ?_
 ·rw [hget, zj]
  simp only [zq, decide_eq_true_eq]
  rw [← hgo]
  omega
 ·rw [eq_comm, zX, ← hgo]
  omega
 rintro _ w ⟨rfl, s⟩
 refine WP.ite (fun h => WP.next ⟨n + 1, ⟨?_, by have := zd h; omega, s⟩, by have := zd h; omega⟩) (fun h => ?_)
 ·rw [Zau (by omega) (by omega)]
  simp
 have hn2 : ¬ n < zrun (g.drop i) := fun h' => h (zb h')
 have hn3 : n = zrun (g.drop i) := by omega
 have ei : wrap .i64 ((i : Int) + 1) = ((i + 1 : Nat) : Int) := by
  rw [Zau (by omega) (by omega)]
  simp
 rw [ei]
 refine WP.ite (fun h => WP.done ⟨i + 1, ⟨?_, by omega, s⟩, by omega⟩) (fun h => WP.done ⟨i + 1, ⟨?_, by omega, s⟩, by omega⟩)
 ·conv => rhs; unfold Zhj
  rw [if_pos (by omega), hn3]
 ·conv => rhs; unfold Zhj
  rw [if_neg (by omega)]
theorem Zkd {sep : List Int} {l : List (List Int)} {k : Nat} (h : ∀ x ∈ l, x.length ≤ k) : (ZgG sep l).length ≤ l.length * (sep.length + k) := by
 cases l with
 | nil => simp [ZgG]
 | cons x r =>
  have h1 := ZmE (f := fun y => sep ++ y) (l := r) (k := sep.length + k) (fun y hy => by
   have := h y (by simp [hy])
   rw [zc]
   omega)
  have h2 := h x (by simp)
  simp only [ZgG, zc, zf, Nat.succ_mul]
  omega
theorem Zkl {xs : List Int} (hl : xs.length ≤ 16) : (dotM xs).length ≤ 64 := by
 have := Zkd (sep := [46]) (l := xs.map fun x => dec3 x.toNat) (k := 3) (fun x hx => by
  obtain ⟨y, _, rfl⟩ := List.mem_map.1 hx
  rw [ZhP]
  unfold ndig
  split
  ·omega
  ·split <;> omega)
 rw [zl] at this
 unfold dotM
 simp only [zf, zi] at this
 omega
theorem Zko {gs : List Nat} (hl : gs.length ≤ 16) : (colM gs).length ≤ 80 := by
 have := Zkd (sep := [58]) (l := gs.map hex4) (k := 4) (fun x hx => by
  obtain ⟨y, _, rfl⟩ := List.mem_map.1 hx
  exact (ZlS 3 y).2)
 rw [zl] at this
 unfold colM
 simp only [zf, zi] at this
 omega
theorem ZoS (x y : Nat) (hx : x < 256) (hy : y < 256) : bor .i64 (wrap .i64 (wrap .i64 (x : Int) * 2 ^ 8)) (wrap .i64 (y : Int)) = ((256 * x + y : Nat) : Int) := by
 have e1 : wrap .i64 (x : Int) = x := Zau (by omega) (by omega)
 have e2 : wrap .i64 (y : Int) = y := Zau (by omega) (by omega)
 have e3 : wrap .i64 ((x : Int) * 2 ^ 8) = ((256 * x : Nat) : Int) := by
  rw [Zau (by omega) (by omega)]
  omega
 rw [e1, e2, e3]
 have e : (BitVec.ofInt 64 ((256 * x : Nat) : Int) ||| BitVec.ofInt 64 (y : Int)).toNat = 256 * x + y := by
  rw [BitVec.toNat_or, BitVec.toNat_ofInt, BitVec.toNat_ofInt]
  have h1 : ((((256 * x : Nat) : Int) % ((2 ^ 64 : Nat) : Int)).toNat) = x <<< 8 := by
   rw [Nat.shiftLeft_eq]
   omega
  have h2 : (((y : Int) % ((2 ^ 64 : Nat) : Int)).toNat) = y := by omega
  rw [h1, h2, ← Nat.shiftLeft_add_eq_or_of_lt (by omega), Nat.shiftLeft_eq]
  omega
 show wrap .i64 (((BitVec.ofInt 64 ((256 * x : Nat) : Int) ||| BitVec.ofInt 64 (y : Int)).toNat : Nat) : Int) = _
 rw [e]
 exact Zau (by omega) (by omega)
theorem WP.cutall {β : Type} {a : Addr} {C n : Nat} {f : Sl → M β} {Q : β → World → Prop} (g : WP (f ⟨some a, C, C⟩) w Q) : WP (Lx.cut n ⟨some a, C, C⟩ none none none >>= f) w Q := by
 refine WP.bind ⟨_, w, ?_, g⟩
 unfold Lx.cut
 simp only [Option.getD_none]
 rw [if_pos (by omega)]
 simp [Addr.add]
theorem Zoi (s : Ss W Hs w) (t : Nat) (et : nth Hs t = some TabN) (ip : Zbw) (hb : Byt ip.A.l) : WP (Za5 ip) w (fun r w' => r = piM ip ∧ Ss W Hs w') := by
 unfold Za5
 refine WP.newv s (fun b w s => WP.ld s 0 rfl (o := 0) (by simp [Addr.add]) (At.whole _) (WP.step (ZrW s ip) ?_))
 rintro _ w ⟨rfl, s⟩
 refine WP.ite (fun h => ret ⟨?_, s.drop⟩) (fun h => ?_)
 ·unfold piM
  rw [if_neg (fun h' => h (zb h'))]
 have hv : ZfZ ip > 0 := zd (Decidable.not_not.1 h)
 have fin : ∀ {r : ByteArray × Int}, r = (bstr (prIP ip), 0) → r = piM ip := fun h => by
  unfold piM
  rw [if_pos hv]
  exact h
 have rdA : Rdb (pts true (pt b 0) (Za8.enc ip)) (cI .u8) ⟨some ((pt b 0).add 1), ip.A.l.length, 16⟩ ip.A.l := by
  refine ZdI.rdb ((ZdI.pts (q := true) (a := pt b 0)).at_ ?_)
  rw [← Cod.arr_enc]
  exact Zds ip
 have hl16 := ip.A.h
 refine WP.ld s 0 rfl (o := 0) (by simp [Addr.add]) (Zd7 _) ?_
 refine WP.ite (fun h4 => ?_) (fun h4 => ?_)
 ·refine WP.cutpre (by omega) (by simp only; omega) (WP.step (Zp5 s (t + 1) et 0 rfl (rdA.take (k := 4) (n := 16) (by omega)) (fun x hx => hb x (List.mem_of_mem_take hx)) (by rw [zm]; omega)) ?_)
  rintro _ w ⟨rfl, s⟩
  refine ret ⟨fin ?_, s.drop⟩
  unfold prIP
  rw [if_pos h4]
 refine WP.cutpre (by omega) (by simp only; omega) (WP.bind (WP.chk (by simp) ?_))
 have hl12 : (ip.A.l.take 12).length = 12 := by rw [zm]; omega
 have hat : At (Za8.enc ip) 1 (((cI .u8).arr 12).enc ⟨ip.A.l.take 12, hl12⟩) := by
  have h1 : At (((cI .u8).arr 16).enc ip.A) 0 (((cI .u8).arr 12).enc ⟨ip.A.l.take 12, hl12⟩) := by
   rw [Cod.arr_enc, Cod.arr_enc]
   refine ⟨[], (ip.A.l.drop 12).flatMap (cI .u8).enc, ?_, rfl⟩
   rw [zN, ← zv, List.take_append_drop]
  exact (Zds ip).trans h1
 refine ⟨(pt b 0).add 1, w, rfl, ?_⟩
 refine WP.ld s 0 rfl (o := 1) rfl hat ?_
 have hm : (⟨ip.A.l.take 12, hl12⟩ : Vec Int 12) = (⟨[0, 0, 0, 0, 0, 0, 0, 0, 0, 0, 255, 255], rfl⟩ : Vec Int 12) ↔ ip.A.l.take 12 = [0, 0, 0, 0, 0, 0, 0, 0, 0, 0, 255, 255] := ⟨fun h => congrArg Vec.l h, fun h => Vec.eq h⟩
 refine WP.ite (fun hf => ?_) (fun hf => ?_)
 ·refine WP.cutsuf (by omega) (by simp) (by simp) ?_
  have rd := rdA.drop (k := 12) (by omega) (by simp only; omega)
  have rd : Rdb (pts true (pt b 0) (Za8.enc ip)) (cI .u8) ⟨if 16 = 12 then some ((pt b 0).add 1) else (some ((pt b 0).add 1)).map (·.add (12 * 1)), ip.A.l.length - 12, 16 - 12⟩ (ip.A.l.drop 12) := rd
  rw [hl16] at rd
  refine WP.step (Zp5 s (t + 1) et 0 rfl rd (fun x hx => hb x (List.mem_of_mem_drop hx)) (by rw [zw]; omega)) ?_
  rintro _ w ⟨rfl, s⟩
  have hsz : (ZuK).size = 7 := by decide +kernel
  have hlen := Zkl (xs := ip.A.l.drop 12) (by rw [zw]; omega)
  refine WP.chk (by rw [ZeA, hsz]; omega) (ret ⟨fin ?_, s.drop⟩)
  have e : ZuK = bstr [58, 58, 102, 102, 102, 102, 58] := by decide +kernel
  rw [e, catb]
  unfold prIP
  rw [if_neg h4, if_pos (hm.1 hf)]
 have hf' := fun h => hf (hm.2 h)
 have hg := ZoL ip.A.l
 refine WP.newv s (fun b2 w s => ?_)
 have s : Ss W (pts true (pt b2 0) ((((grps ip.A.l).take 0).map (fun x : Nat => (x : Int)) ++ List.replicate 8 (0 : Int)).flatMap (cI .i64).enc) :: pts true (pt b 0) (Za8.enc ip) :: Hs) w := by
  rw [Cod.arr_enc] at s
  exact s
 refine WP.loopG (γ := Nat) (fun i (p : Int) w => p = (i : Int) ∧ i ≤ 8 ∧ Ss W (pts true (pt b2 0) ((((grps ip.A.l).take i).map (fun x : Nat => (x : Int)) ++ List.replicate (8 - i) (0 : Int)).flatMap (cI .i64).enc) :: pts true (pt b 0) (Za8.enc ip) :: Hs) w) (fun i _ => 8 - i) 0 ⟨rfl, by omega, s⟩ ?_
 clear s
 rintro i _ w ⟨rfl, hi, s⟩
 show WP (Za5.L1 b b2 (i : Int)) w _
 unfold Za5.L1
 refine WP.ite (fun h => WP.draw' s (fun w s => ?_)) (fun h => ?_)
 ·have hi8 : i < 8 := by omega
  have ei : wrap .i64 (2 * (i : Int)) = ((2 * i : Nat) : Int) := by
   rw [Zau (by omega) (by omega)]
   omega
  have ei2 : wrap .i64 (((2 * i : Nat) : Int) + 1) = ((2 * i + 1 : Nat) : Int) := by
   rw [Zau (by omega) (by omega)]
   omega
  rw [ei, ei2]
  have gx : ∀ k, k < 16 → At (Za8.enc ip) (1 + k * 1) ((cI .u8).enc (ip.A.l.getD k 0)) := fun k hk => by
   have h1 : At (((cI .u8).arr 16).enc ip.A) ((k : Int).toNat * (cI .u8).n) ((cI .u8).enc (ip.A.g (k : Int) 0)) := At.arr (by omega) (by omega)
   rw [zg] at h1
   exact (Zds ip).trans h1
  refine WP.idx (by omega) (by omega) (WP.ld s 1 rfl (o := 1 + 2 * i * 1) (by rw [zg, Zd4]) (gx _ (by omega)) ?_)
  refine WP.idx (by omega) (by omega) (WP.ld s 1 rfl (o := 1 + (2 * i + 1) * 1) (by rw [zg, Zd4]) (gx _ (by omega)) ?_)
  have c1 := ZlT hb (2 * i)
  have c2 := ZlT hb (2 * i + 1)
  have eb := ZoS (ip.A.l.getD (2 * i) 0).toNat (ip.A.l.getD (2 * i + 1) 0).toNat (by omega) (by omega)
  rw [show (((ip.A.l.getD (2 * i) 0).toNat : Nat) : Int) = ip.A.l.getD (2 * i) 0 by omega, show (((ip.A.l.getD (2 * i + 1) 0).toNat : Nat) : Int) = ip.A.l.getD (2 * i + 1) 0 by omega] at eb
  rw [eb]
  have hlt : ((grps ip.A.l).take i).length = i := by rw [zm]; omega
  refine WP.idx (by omega) (by omega) (WP.st s 0 rfl (o := i * 1) (by rw [zg]) (ZuC (c := cI .i64) _ (by simp only [zc, zl, zT, hlt]; omega)) (fun w s => WP.next ⟨i + 1, ⟨?_, by omega, ?_⟩, by omega⟩))
  ·rw [Zau (by omega) (by omega)]
   simp
  ·have hgi : (grps ip.A.l)[i]? = some (grp ip.A.l i) := by
    unfold grps
    rw [zD, List.getElem?_range hi8]
    rfl
   have e : (((grps ip.A.l).take i).map (fun x : Nat => (x : Int)) ++ List.replicate (8 - i) (0 : Int)).set i ((256 * (ip.A.l.getD (2 * i) 0).toNat + (ip.A.l.getD (2 * i + 1) 0).toNat : Nat) : Int) = ((grps ip.A.l).take (i + 1)).map (fun x : Nat => (x : Int)) ++ List.replicate (8 - (i + 1)) (0 : Int) := by
    rw [List.set_append_right _ _ (by rw [zl, hlt]; exact zB _), zl, hlt, Nat.sub_self, show 8 - i = (8 - (i + 1)) + 1 by omega, List.replicate_succ, List.set_cons_zero, zy, hgi]
    simp [grp]
   rw [e] at s
   exact s
 ·have hi8 : i = 8 := by omega
  subst hi8
  refine WP.step ?_ (fun r w h => WP.done h)
  have ht8 : (grps ip.A.l).take 8 = grps ip.A.l := zC (by omega)
  have s : Ss W (pts true (pt b2 0) (((grps ip.A.l).map (fun x : Nat => (x : Int))).flatMap (cI .i64).enc) :: pts true (pt b 0) (Za8.enc ip) :: Hs) w := by
   rw [ht8] at s
   simpa using s
  have hlv : ((grps ip.A.l).map (fun x : Nat => (x : Int))).length = 8 := by rw [zl, hg]
  unfold Za5.K1
  refine WP.ld s 0 rfl (o := 0) (by simp [Addr.add]) (x := (⟨(grps ip.A.l).map (fun x : Nat => (x : Int)), hlv⟩ : Vec Int 8)) (by rw [Cod.arr_enc]; exact At.whole _) ?_
  refine WP.step (Zsr s (grps ip.A.l) hg _ rfl) ?_
  rintro _ w ⟨rfl, s⟩
  have hinv := Zmw hg 8 (zB _)
  have hinv : -1 ≤ (ZfP (grps ip.A.l)).1 ∧ (ZfP (grps ip.A.l)).1 ≤ 7 ∧ 1 ≤ (ZfP (grps ip.A.l)).2 ∧ (ZfP (grps ip.A.l)).2 ≤ 8 ∧ (0 ≤ (ZfP (grps ip.A.l)).1 → (ZfP (grps ip.A.l)).1 + (ZfP (grps ip.A.l)).2 ≤ 8) := hinv
  have hgb := ZtY hb
  have rdG : Rdb (pts true (pt b2 0) (((grps ip.A.l).map (fun x : Nat => (x : Int))).flatMap (cI .i64).enc)) (cI .i64) ⟨some (pt b2 0), 8, 8⟩ ((grps ip.A.l).map (fun x : Nat => (x : Int))) := by
   have := (ZdI.pts (q := true) (a := pt b2 0) (L := ((grps ip.A.l).map (fun x : Nat => (x : Int))).flatMap (cI .i64).enc)).rdb (c := cI .i64) (k := 8)
   rw [hlv] at this
   exact this
  refine WP.ite (fun hn => ?_) (fun hn => ?_)
  ·refine WP.cutall (WP.step (ZmN s (t + 2) et (xs := grps ip.A.l) 0 rfl rdG hgb (by omega)) ?_)
   rintro _ w ⟨rfl, s⟩
   refine ret ⟨fin ?_, s.drop.drop⟩
   unfold prIP
   rw [if_neg h4, if_neg hf', if_pos hn]
  ·obtain ⟨at_, hat_⟩ : ∃ k : Nat, (ZfP (grps ip.A.l)).1 = (k : Int) := ⟨(ZfP (grps ip.A.l)).1.toNat, by omega⟩
   simp only
   have hat8 : at_ + (ZfP (grps ip.A.l)).2 ≤ 8 := by omega
   rw [hat_]
   refine WP.draw' s (fun w s => WP.cutpre (by omega) (by simp only; omega) ?_)
   have r1 := rdG.take (k := at_) (n := 8) (by omega)
   rw [← List.map_take] at r1
   refine WP.step (ZmN s (t + 2) et (xs := (grps ip.A.l).take at_) 0 rfl r1 (fun x hx => hgb x (List.mem_of_mem_take hx)) (by rw [zm]; omega)) ?_
   rintro _ w ⟨rfl, s⟩
   have l1 := Zko (gs := (grps ip.A.l).take at_) (by rw [zm]; omega)
   have hsz : (str9).size = 2 := by decide +kernel
   refine WP.chk (by rw [ZeA, hsz]; omega) ?_
   have ew : wrap .i64 ((at_ : Int) + ((ZfP (grps ip.A.l)).2 : Int)) = ((at_ + (ZfP (grps ip.A.l)).2 : Nat) : Int) := by
    rw [Zau (by omega) (by omega)]
    omega
   rw [ew]
   refine WP.cutsuf (by omega) (by simp only; omega) (by simp) ?_
   have r2 := rdG.drop (k := at_ + (ZfP (grps ip.A.l)).2) (by omega) (by simp)
   rw [← List.map_drop] at r2
   refine WP.step (ZmN s (t + 2) et (xs := (grps ip.A.l).drop (at_ + (ZfP (grps ip.A.l)).2)) 0 rfl r2 (fun x hx => hgb x (List.mem_of_mem_drop hx)) (by rw [zw]; omega)) ?_
   rintro _ w ⟨rfl, s⟩
   have l2 := Zko (gs := (grps ip.A.l).drop (at_ + (ZfP (grps ip.A.l)).2)) (by rw [zw]; omega)
   have e3 : str9 = bstr [58, 58] := by decide +kernel
   rw [e3, catb]
   refine WP.chk (by rw [ZeA, ZeA, zc]; simp only [zf, zi]; omega) (ret ⟨fin ?_, s.drop.drop⟩)
   rw [catb]
   unfold prIP
   rw [if_neg h4, if_neg hf', if_neg hn, hat_, zg]
end
structure S6 where
 at_ : Nat
 gs : List Nat
 gap : Int
def S6.room (st : S6) : Int := if st.gap ≥ 0 then 7 - st.gs.length else 8 - st.gs.length
def hexN (l : List Int) : Nat := l.foldl (fun v c => v * 16 % 1048576 + (hexV c).toNat) 0
def Ztu : List Nat → List Nat
 | [a, b, c, d] => [256 * a + b, 256 * c + d]
 | _ => []
def ZiB (l : List Int) (st : S6) : Except Flt (Bool × S6) :=
 if runE Zhl l st.at_ = st.at_ then .error (ZqI l st.at_)
 else if runE Zhl l st.at_ < l.length ∧ l.getD (runE Zhl l st.at_) 0 = 46 ∧ (st.gs ≠ [] ∨ st.gap ≥ 0) then
  if st.room < 2 then .error (44, st.at_) else match Zie l st.at_ with
   | .error f => .error f
   | .ok a => .ok (true, ⟨st.at_, st.gs ++ Ztu a, st.gap⟩)
 else if st.room < 1 then .error (44, st.at_)
 else if runE Zhl l st.at_ - st.at_ > 4 then .error (43, st.at_)
 else .ok (false, ⟨runE Zhl l st.at_, st.gs ++ [hexN ((l.drop st.at_).take (runE Zhl l st.at_ - st.at_))], st.gap⟩)
def ZqX (l : List Int) (i : Nat) : Prop := (l.drop i).take 2 = [58, 58]
instance (l : List Int) (i : Nat) : Decidable (ZqX l i) := inferInstanceAs (Decidable (_ = _))
def Zfc (l : List Int) (st : S6) : Except Flt (Bool × S6) :=
 if ¬ ZqX l st.at_ then .ok (false, st)
 else if st.gap ≥ 0 ∨ st.gs.length = 8 then .error (44, st.at_)
 else .ok (true, ⟨st.at_ + 2, st.gs, st.gs.length⟩)
theorem Zdx (s : ByteArray) (a b : Nat) : strI (s.extract a b) = ((strI s).drop a).take (b - a) := by
 unfold strI
 rw [ByteArray.data_extract, Array.toList_extract, List.extract_eq_take_drop, List.map_take, List.map_drop]
theorem Zch {a b : ByteArray} : a.toList = b.toList ↔ strI a = strI b := by
 rw [Zhy, Zhy]
 unfold strI
 constructor
 ·intro h
  rw [h]
 ·intro h
  have hi : Function.Injective (fun x : UInt8 => (x.toNat : Int)) := fun x y h => UInt8.toNat_inj.1 (by have h : (x.toNat : Int) = (y.toNat : Int) := h; omega)
  exact (List.map_inj_right (fun x y h => hi h)).1 h
section
variable {W w : World} {Hs : List HP}
theorem Zqj (a p : ByteArray) : WP (Zc7 a p) w (fun r w' => r = decide ((strI a).take p.size = strI p) ∧ w = w') := by
 unfold Zc7 Zb1
 refine WP.step (R := fun r w' => r = decide ((strI a).take p.size = strI p) ∧ w = w') ?_ (fun r w h => ret h)
 refine WP.step (R := fun r w' => r = decide ((strI a).take p.size = strI p) ∧ w = w') (WP.ite (fun h => WP.chk ⟨by omega, by omega, h⟩ (ret ⟨?_, rfl⟩)) (fun h => ret ⟨?_, rfl⟩)) (fun r w h => ret h)
 ·rw [zj, zq, ze, Zch, Zdx]
  simp
 ·refine (zh fun h' => ?_).symm
  have := congrArg List.length h'
  rw [zm, ZbI, ZbI] at this
  omega
abbrev cSix := Zdb
def ZnA (b : Nat) (t : ByteArray) (g : Sl) (st : S6) (sp : List Int) : List HP := [pts true (pt b 0) (cSix.enc ⟨t, (st.at_ : Int), g, st.gap⟩), vec (cI .i64) g (st.gs.map fun n : Nat => (n : Int)) sp]
def SixP (b : Nat) (t : ByteArray) (st : S6) : HP := fun h => ∃ g sp, seps (ZnA b t g st sp) h
theorem Ss.openX {b : Nat} {t : ByteArray} {st : S6} (s : Ss W (SixP b t st :: Hs) w) : ∃ g sp, Ss W (ZnA b t g st sp ++ Hs) w := by
 obtain ⟨hb, k, ⟨h1, h2, e, l1, l2, ⟨g, sp, a3⟩, b⟩, hw⟩ := s
 exact ⟨g, sp, Ss.split ⟨hb, k, ⟨h1, h2, e, l1, l2, a3, b⟩, hw⟩⟩
theorem Ss.closeX {b : Nat} {t : ByteArray} {st : S6} {g : Sl} {sp : List Int} (s : Ss W (ZnA b t g st sp ++ Hs) w) : Ss W (SixP b t st :: Hs) w := s.group.first (fun h hh => ⟨g, sp, hh⟩)
theorem Ztf {b : Nat} {t : ByteArray} {st : S6} (s : Ss W (SixP b t st :: Hs) w) (hg : st.gs.length ≤ 100) : WP (ZdZ (some (pt b 0))) w (fun r w' => r = st.room ∧ Ss W (SixP b t st :: Hs) w') := by
 obtain ⟨g, sp, s⟩ := s.openX
 have hl := (s.vec_len (i := 1) rfl).1
 rw [zl] at hl
 unfold ZdZ S6.room
 refine WP.nilck (WP.ld s 0 rfl (o := 3) rfl (ZdM _) ?_)
 refine WP.ite (fun h => WP.nilck (WP.ld s 0 rfl (o := 2) rfl (ZbE _) (ret ⟨?_, s.closeX⟩))) (fun h => WP.nilck (WP.ld s 0 rfl (o := 2) rfl (ZbE _) (ret ⟨?_, s.closeX⟩)))
 ·rw [if_pos h]
  simp only
  rw [Zau (by omega) (by omega)]
  omega
 ·rw [if_neg h]
  simp only
  rw [Zau (by omega) (by omega)]
  omega
def ZsF (W : World) (Hs : List HP) (b : Nat) (t : ByteArray) (x : Except Flt (Bool × S6)) (r : Bool × Option Addr) (w : World) : Prop :=
 match x with
 | .ok (y, st) => r = (y, none) ∧ Ss W (SixP b t st :: Hs) w
 | .error f => ∃ b', r.2 = some (pt b' 0) ∧ Ss W (pts true (pt b' 0) (flt f) :: Hs) w
theorem Zp4 {b : Nat} {t : ByteArray} {st : S6} (s : Ss W (SixP b t st :: Hs) w) (hg : st.gs.length ≤ 100) (ht : t.size ≤ 1000) (ha : st.at_ ≤ t.size) : WP (Zdk (some (pt b 0))) w (ZsF W Hs b t (Zfc (strI t) st)) := by
 obtain ⟨g, sp, s⟩ := s.openX
 have hl := (s.vec_len (i := 1) rfl).1
 rw [zl] at hl
 unfold Zdk Zfc
 refine WP.draw' s (fun w s => WP.nilck (WP.ld s 0 rfl (o := 0) (by simp [Addr.add]) (ZcJ _) (WP.nilck (WP.ld s 0 rfl (o := 1) rfl (Zc0 _) (WP.chk ⟨by simp only; omega, by simp only; omega, by omega⟩ (WP.step (Zqj _ _) ?_))))))
 rintro _ _ ⟨rfl, rfl⟩
 have hd : (strI (t.extract (Int.toNat (st.at_ : Int)) (Int.toNat (t.size : Int)))).take (str9).size = strI str9 ↔ ZqX (strI t) st.at_ := by
  have e1 : (str9).size = 2 := by decide +kernel
  have e2 : strI str9 = [58, 58] := by decide +kernel
  rw [e1, e2, Zdx, zg, zg]
  unfold ZqX
  rw [List.take_take]
  have e3 : ((strI t).drop st.at_).take (min 2 (t.size - st.at_)) = ((strI t).drop st.at_).take 2 := by
   by_cases h : 2 ≤ t.size - st.at_
   ·rw [Nat.min_eq_left h]
   ·rw [Nat.min_eq_right (by omega), zC (by rw [zw, ZbI]; omega), zC (by rw [zw, ZbI]; omega)]
  rw [e3]
 refine WP.ite (fun h => ret ?_) (fun h => ?_)
 ·have : ¬ ZqX (strI t) st.at_ := fun h' => h (zb (hd.2 h'))
  rw [if_pos this]
  exact ⟨rfl, s.closeX⟩
 have hdd : ZqX (strI t) st.at_ := hd.1 (zd (Decidable.not_not.1 h))
 rw [if_neg (fun h' => h' hdd)]
 refine WP.nilck (WP.ld s 0 rfl (o := 3) rfl (ZdM _) ?_)
 refine WP.step (R := fun y w' => y = decide (st.gap ≥ 0 ∨ st.gs.length = 8) ∧ w = w') (WP.ite (fun h => ret ⟨(zb (.inl h)).symm, rfl⟩) (fun h => WP.nilck (WP.ld s 0 rfl (o := 2) rfl (ZbE _) (ret ⟨?_, rfl⟩)))) ?_
 ·rw [hl, zj, ze, zq]
  exact ⟨fun h' => .inr (by omega), fun h' => by have := h'.resolve_left h; omega⟩
 rintro _ _ ⟨rfl, rfl⟩
 refine WP.ite (fun h => WP.draw' s (fun w s => WP.nilck (WP.ld s 0 rfl (o := 1) rfl (Zc0 _) (WP.newv s (fun b' w s => ret ?_))))) (fun h => ?_)
 ·rw [if_pos (zd h)]
  exact ⟨b', rfl, (s.use [0] (s := [_]) (r := _ :: _ :: Hs) rfl).perm (List.Perm.refl _) |> fun s => ((s.use [1, 1] (s := [_, _]) (r := _ :: Hs) rfl).drop.drop)⟩
 ·have hn : ¬ (st.gap ≥ 0 ∨ st.gs.length = 8) := fun h' => h (zb h')
  rw [if_neg hn]
  refine WP.nilck (WP.ld s 0 rfl (o := 2) rfl (ZbE _) (WP.nilck (WP.st s 0 rfl (o := 3) rfl (ZiP _ _) (fun w s => WP.nilck (WP.ld s 0 rfl (o := 1) rfl (Zc0 _) (WP.nilck (WP.st s 0 rfl (o := 1) rfl (ZgB _ _) (fun w s => ret ?_))))))))
  refine ⟨rfl, Ss.closeX (g := g) (sp := sp) ?_⟩
  have e1 : wrap .i64 ((st.at_ : Int) + 2) = ((st.at_ + 2 : Nat) : Int) := by
   rw [Zau (by omega) (by omega)]
   simp
  rw [e1, hl] at s
  exact s
end
theorem ZoM {l : List Int} : ∀ (k i : Nat) (acc a : List Nat) (e : Nat), i ≤ l.length → (∀ n ∈ acc, n ≤ 255) → Zjc l k i acc = .ok (a, e) → a.length = acc.length + k ∧ (∀ n ∈ a, n ≤ 255) ∧ i ≤ e ∧ e ≤ l.length
 | 0, i, acc, a, e, hi, hacc, h => by
  cases h
  exact ⟨rfl, hacc, zB _, hi⟩
 | k + 1, i, acc, a, e, hi, hacc, h => by
  unfold Zjc at h
  cases hs : sepM l i acc.isEmpty with
  | error f => rw [hs] at h; cases h
  | ok j =>
   have hj : i ≤ j ∧ j ≤ l.length := by
    unfold sepM at hs
    split at hs
    ·cases hs; omega
    ·split at hs
     ·cases hs
     ·rename_i h2
      cases hs
      have : ¬ i = l.length := fun h' => h2 (.inl h')
      omega
   rw [hs] at h
   simp only at h
   cases hn : numM l j 255 43 with
   | error f => rw [hn] at h; cases h
   | ok x =>
    obtain ⟨n, e'⟩ := x
    rw [hn] at h
    simp only at h
    obtain ⟨o1, o2, o3⟩ := ZoA hn hj.2
    obtain ⟨p1, p2, p3, p4⟩ := ZoM k e' (acc ++ [n]) a e o3 (fun m hm => by
     rcases List.mem_append.1 hm with hm | hm
     ·exact hacc m hm
     ·rw [zG] at hm
      omega) h
    refine ⟨?_, p2, by omega, p4⟩
    rw [p1, zc]
    simp only [zf, zi]
    omega
theorem ZlU {l : List Int} {i : Nat} {a : List Nat} (hi : i ≤ l.length) (h : Zie l i = .ok a) : a.length = 4 ∧ ∀ n ∈ a, n ≤ 255 := by
 unfold Zie at h
 cases hf : Zjc l 4 i [] with
 | error f => rw [hf] at h; cases h
 | ok x =>
  obtain ⟨b, e⟩ := x
  rw [hf] at h
  simp only at h
  split at h
  ·cases h
  ·cases h
   obtain ⟨p1, p2, _, _⟩ := ZoM 4 i [] _ _ hi (fun n hn => by cases hn) hf
   exact ⟨p1, p2⟩
theorem Zkf (l : List Int) (c : Int) : hexN (l ++ [c]) = hexN l * 16 % 1048576 + (hexV c).toNat := by
 unfold hexN
 rw [List.foldl_append]
 rfl
theorem ZqS (c : Int) : -1 ≤ hexV c ∧ hexV c ≤ 15 := by
 unfold hexV
 split
 ·omega
 ·split
  ·omega
  ·split <;> omega
theorem Zwp (l : List Int) : hexN l < 1048576 := by
 rcases List.eq_nil_or_concat l with rfl | ⟨l', c, rfl⟩
 ·decide
 ·rw [List.concat_eq_append, Zkf]
  have := ZqS c
  omega
theorem Zxx (n : Nat) (h : n < 1000000000) : band .i64 (n : Int) 1048575 = ((n % 1048576 : Nat) : Int) := by
 have e : (BitVec.ofInt 64 (n : Int) &&& BitVec.ofInt 64 1048575).toNat = n % 1048576 := by
  rw [BitVec.toNat_and, BitVec.toNat_ofInt, BitVec.toNat_ofInt]
  have h1 : (((n : Int) % ((2 ^ 64 : Nat) : Int)).toNat) = n := by omega
  have h2 : (((1048575 : Int) % ((2 ^ 64 : Nat) : Int)).toNat) = 2 ^ 20 - 1 := by decide
  rw [h1, h2, Nat.and_two_pow_sub_one_eq_mod]
 show wrap .i64 (((BitVec.ofInt 64 (n : Int) &&& BitVec.ofInt 64 1048575).toNat : Nat) : Int) = _
 rw [e]
 exact Zau (by omega) (by omega)
theorem ZxV (x y : Nat) (hx : x < 1000000000) (hy : y < 16) : bor .i64 ((16 * x : Nat) : Int) (y : Int) = ((16 * x + y : Nat) : Int) := by
 have e : (BitVec.ofInt 64 ((16 * x : Nat) : Int) ||| BitVec.ofInt 64 (y : Int)).toNat = 16 * x + y := by
  rw [BitVec.toNat_or, BitVec.toNat_ofInt, BitVec.toNat_ofInt]
  have h1 : ((((16 * x : Nat) : Int) % ((2 ^ 64 : Nat) : Int)).toNat) = x <<< 4 := by
   rw [Nat.shiftLeft_eq]
   omega
  have h2 : (((y : Int) % ((2 ^ 64 : Nat) : Int)).toNat) = y := by omega
  rw [h1, h2, ← Nat.shiftLeft_add_eq_or_of_lt (by omega), Nat.shiftLeft_eq]
  omega
 show wrap .i64 (((BitVec.ofInt 64 ((16 * x : Nat) : Int) ||| BitVec.ofInt 64 (y : Int)).toNat : Nat) : Int) = _
 rw [e]
 exact Zau (by omega) (by omega)
section
variable {W w : World} {Hs : List HP}
theorem Zvf {b : Nat} {t : ByteArray} {st : S6} (s : Ss W (SixP b t st :: Hs) w) (hg : st.gs.length ≤ 100) (ht : t.size ≤ 1000) (ha : st.at_ ≤ t.size) : WP (ZaZ (some (pt b 0))) w (ZsF W Hs b t (ZiB (strI t) st)) := by
 have hl := ZbI t
 obtain ⟨r1, r2⟩ := Zme (p := Zhl) (l := strI t) (i := st.at_) (by omega)
 obtain ⟨g, sp, s⟩ := s.openX
 unfold ZaZ
 refine WP.nilck (WP.ld s 0 rfl (o := 1) rfl (Zc0 _) ?_)
 refine WP.loopG (γ := Nat) (fun k (p : Int × Int) w => p = ((hexN (((strI t).drop st.at_).take (k - st.at_)) : Int), (k : Int)) ∧ st.at_ ≤ k ∧ k ≤ runE Zhl (strI t) st.at_ ∧ Ss W (ZnA b t g st sp ++ Hs) w) (fun k _ => t.size - k) st.at_ ⟨by simp [hexN], zB _, r1, s⟩ ?_
 clear s
 rintro k _ w ⟨rfl, k1, k2, s⟩
 show WP (ZaZ.L1 (some (pt b 0)) (st.at_ : Int) (hexN (((strI t).drop st.at_).take (k - st.at_)) : Int) (k : Int)) w _
 unfold ZaZ.L1
 have hgo := Zov k1 k2
 rw [hl] at hgo
 refine WP.nilck (WP.ld s 0 rfl (o := 0) (by simp [Addr.add]) (ZcJ _) ?_)
 refine WP.step (R := fun y w' => y = decide (k < runE Zhl (strI t) st.at_) ∧ w = w') (WP.ite (fun h => WP.nilck (WP.ld s 0 rfl (o := 0) (by simp [Addr.add]) (ZcJ _) (WP.chk ⟨by omega, h⟩ (WP.step (ZtS _) ?_)))) (fun h => ret ⟨?_, rfl⟩)) ?_
 ·rintro _ _ ⟨rfl, rfl⟩
  have h : (k : Int) < (t.size : Int) := h
  refine ret ⟨?_, rfl⟩
  rw [Zfh, zj, ze, ze, ← hgo]
  exact ⟨fun h' => ⟨by omega, zb h'⟩, fun h' => zd h'.2⟩
 ·have h : ¬ (k : Int) < (t.size : Int) := h
  refine (zh fun h' => ?_).symm
  have := hgo.2 h'
  omega
 rintro _ _ ⟨rfl, rfl⟩
 refine WP.ite (fun h => ?_) (fun h => ?_)
 ·have hk := zd h
  have hh := hgo.2 hk
  refine WP.nilck (WP.ld s 0 rfl (o := 0) (by simp [Addr.add]) (ZcJ _) (WP.chk ⟨by omega, by simp only; omega⟩ (WP.step (ZtS _) ?_)))
  rintro _ _ ⟨rfl, rfl⟩
  have hv := zd hh.2
  have htk : ((strI t).drop st.at_).take (k + 1 - st.at_) = ((strI t).drop st.at_).take (k - st.at_) ++ [(strI t).getD k 0] := by
   rw [show k + 1 - st.at_ = (k - st.at_) + 1 by omega, zy, List.getElem?_drop, show st.at_ + (k - st.at_) = k by omega, List.getD, za (by omega)]
   rfl
  refine WP.next ⟨k + 1, ⟨?_, by omega, by omega, s⟩, by omega⟩
  rw [htk, Zkf, Zfh]
  have hN := Zwp (((strI t).drop st.at_).take (k - st.at_))
  have hx := ZqS ((strI t).getD k 0)
  generalize hexN (((strI t).drop st.at_).take (k - st.at_)) = N at hN
  generalize hexV ((strI t).getD k 0) = x at hv hx
  have e1 : wrap .i64 ((N : Int) * 2 ^ 4) = ((N * 16 : Nat) : Int) := by
   rw [Zau (by omega) (by omega)]
   omega
  have e2 : N * 16 % 1048576 = 16 * (N % 65536) := by omega
  have e3 := ZxV (N % 65536) x.toNat (by omega) (by omega)
  rw [e1, Zxx _ (by omega), e2, show x = ((x.toNat : Nat) : Int) by omega, e3, Zau (by omega) (by omega)]
  refine Prod.ext ?_ ?_
  ·simp
  ·simp
 have hk : k = runE Zhl (strI t) st.at_ := by
  have : ¬ k < runE Zhl (strI t) st.at_ := fun h' => h (zb h')
  omega
 refine WP.step ?_ (fun r w h => WP.done h)
 unfold ZaZ.K1 ZiB
 rw [← hk]
 have hgl := (s.vec_len (i := 1) rfl).1
 rw [zl] at hgl
 refine WP.ite (fun h => ?_) (fun h => ?_)
 ·rw [if_pos (by omega)]
  refine WP.nilck (WP.ld s 0 rfl (o := 0) (by simp [Addr.add]) (ZcJ _) (WP.step (ZkM s t st.at_) ?_))
  rintro _ w ⟨b', rfl, s⟩
  exact ret ⟨b', rfl, (s.use [1, 1] (s := [_, _]) (r := _ :: Hs) rfl).drop.drop⟩
 have hne : ¬ k = st.at_ := by omega
 rw [if_neg hne]
 refine WP.nilck (WP.ld s 0 rfl (o := 0) (by simp [Addr.add]) (ZcJ _) ?_)
 refine WP.step (R := fun y w' => y = decide (k < (strI t).length ∧ (strI t).getD k 0 = 46) ∧ w = w') (WP.ite (fun h => WP.nilck (WP.ld s 0 rfl (o := 0) (by simp [Addr.add]) (ZcJ _) (WP.chk ⟨by omega, h⟩ (ret ⟨?_, rfl⟩)))) (fun h => ret ⟨?_, rfl⟩)) ?_
 ·have h : (k : Int) < (t.size : Int) := h
  rw [Zfh, zj, ze, zq]
  exact ⟨fun h' => ⟨by omega, h'⟩, fun h' => h'.2⟩
 ·have h : ¬ (k : Int) < (t.size : Int) := h
  exact (zh fun h' => by omega).symm
 rintro _ _ ⟨rfl, rfl⟩
 refine WP.step (R := fun y w' => y = decide (k < (strI t).length ∧ (strI t).getD k 0 = 46 ∧ (st.gs ≠ [] ∨ st.gap ≥ 0)) ∧ w = w') (WP.ite (fun h1 => WP.nilck (WP.ld s 0 rfl (o := 2) rfl (ZbE _) ?_)) (fun h1 => ret ⟨?_, rfl⟩)) ?_
 ·have h1 := zd h1
  refine WP.step (R := fun y w' => y = decide (k < (strI t).length ∧ (strI t).getD k 0 = 46 ∧ (st.gs ≠ [] ∨ st.gap ≥ 0)) ∧ w = w') (WP.ite (fun h2 => ret ⟨?_, rfl⟩) (fun h2 => WP.nilck (WP.ld s 0 rfl (o := 3) rfl (ZdM _) (ret ⟨?_, rfl⟩)))) (fun r w h => ret h)
  ·have h2 : (g.len : Int) > 0 := h2
   refine (zb ⟨h1.1, h1.2, .inl fun e => ?_⟩).symm
   rw [e] at hgl
   simp at hgl
   omega
  ·have h2 : ¬ (g.len : Int) > 0 := h2
   have e : st.gs = [] := List.eq_nil_of_length_eq_zero (by omega)
   exact decide_eq_decide.2 ⟨fun h' => ⟨h1.1, h1.2, .inr h'⟩, fun h' => h'.2.2.resolve_left (fun h3 => h3 e)⟩
 ·exact (zh fun h' => h1 (zb ⟨h'.1, h'.2.1⟩)).symm
 rintro _ _ ⟨rfl, rfl⟩
 have newf : ∀ {w : World} (f : Flt) (y : Bool), Ss W (SixP b t st :: Hs) w → WP (newv 227 Zby (⟨f.1, (f.2 : Int)⟩ : ZbW) >>= fun b' => pure (y, some (pt b' 0))) w (ZsF W Hs b t (.error f)) := fun f y s =>
  WP.newv s (fun b' w s => ret ⟨b', rfl, (s.use [1] (s := [_]) (r := _ :: Hs) rfl).drop⟩)
 refine WP.ite (fun h => ?_) (fun h => ?_)
 ·rw [if_pos (zd h)]
  refine WP.step (Ztf s.closeX hg) ?_
  rintro _ w ⟨rfl, s⟩
  refine WP.ite (fun h => ?_) (fun h => ?_)
  ·rw [if_pos h]
   exact newf (44, st.at_) false s
  rw [if_neg h]
  obtain ⟨g, sp, s⟩ := s.openX
  refine WP.nilck (WP.ld s 0 rfl (o := 0) (by simp [Addr.add]) (ZcJ _) (WP.step (Zt0 s t ht st.at_ (by omega)) ?_))
  rintro ⟨v, p⟩ w hr
  unfold Zuw at hr
  cases hfm : Zie (strI t) st.at_ with
  | error f =>
   rw [hfm] at hr
   obtain ⟨b', rfl, s⟩ := hr
   have s : Ss W (pts true (pt b' 0) (flt f) :: (ZnA b t g st sp ++ Hs)) w := s
   refine WP.slot' s (fun _ w s => WP.draw' s (fun w s => WP.nilck (WP.ld s 1 rfl (o := 2) rfl (ZbE _) (WP.slot' s (fun _ w s => WP.same s 1 rfl (o := 2) rfl (ZbE _) ?_)))))
   refine WP.appl s 2 rfl (by simp only [zl, zf, zi]; omega) (by decide) (fun g' w sp' s => WP.nilck ?_)
   refine WP.st s 1 rfl (o := 2) rfl (ZfH _ _) (fun w s => ret ⟨b', rfl, ?_⟩)
   exact (s.use [1, 1] (s := [_, _]) (r := _ :: Hs) rfl).drop.drop
  | ok a =>
   rw [hfm] at hr
   obtain ⟨hv, rfl, s⟩ := hr
   obtain ⟨a4, a5⟩ := ZlU (by omega) hfm
   obtain ⟨n1, n2, n3, n4, rfl⟩ : ∃ n1 n2 n3 n4, a = [n1, n2, n3, n4] := by
    match a, a4 with
    | [n1, n2, n3, n4], _ => exact ⟨n1, n2, n3, n4, rfl⟩
   have b1 := a5 n1 (by simp)
   have b2 := a5 n2 (by simp)
   have b3 := a5 n3 (by simp)
   have b4 := a5 n4 (by simp)
   have g0 : Vec.g v 0 0 = (n1 : Int) := by show v.l.getD 0 0 = _; rw [hv]; rfl
   have g1 : Vec.g v 1 0 = (n2 : Int) := by show v.l.getD 1 0 = _; rw [hv]; rfl
   have g2 : Vec.g v 2 0 = (n3 : Int) := by show v.l.getD 2 0 = _; rw [hv]; rfl
   have g3 : Vec.g v 3 0 = (n4 : Int) := by show v.l.getD 3 0 = _; rw [hv]; rfl
   simp only
   rw [g0, g1, g2, g3, ZoS n1 n2 (by omega) (by omega), ZoS n3 n4 (by omega) (by omega)]
   refine WP.slot' s (fun _ w s => WP.draw' s (fun w s => WP.nilck (WP.ld s 0 rfl (o := 2) rfl (ZbE _) (WP.slot' s (fun _ w s => WP.same s 0 rfl (o := 2) rfl (ZbE _) ?_)))))
   refine WP.appl s 1 rfl (by simp only [zl, zf, zi]; omega) (by decide) (fun g' w sp' s => WP.nilck ?_)
   refine WP.st s 0 rfl (o := 2) rfl (ZfH _ _) (fun w s => ret ⟨rfl, ?_⟩)
   refine Ss.closeX (g := g') (sp := sp') ?_
   unfold ZnA
   rw [zE]
   exact s
 ·rw [if_neg (fun h' => h (zb h'))]
  refine WP.step (Ztf s.closeX hg) ?_
  rintro _ w ⟨rfl, s⟩
  refine WP.ite (fun h => ?_) (fun h => ?_)
  ·rw [if_pos h]
   exact newf (44, st.at_) false s
  rw [if_neg h]
  have ew : wrap .i64 ((k : Int) - (st.at_ : Int)) = ((k - st.at_ : Nat) : Int) := by
   rw [Zau (by omega) (by omega)]
   omega
  rw [ew]
  refine WP.ite (fun h => ?_) (fun h => ?_)
  ·rw [if_pos (by omega)]
   exact newf (43, st.at_) false s
  rw [if_neg (by omega)]
  obtain ⟨g, sp, s⟩ := s.openX
  refine WP.nilck (WP.ld s 0 rfl (o := 2) rfl (ZbE _) (WP.slot' s (fun _ w s => ?_)))
  refine WP.appl s 1 rfl (by simp only [zl, zf, zi]; omega) (by decide) (fun g' w sp' s => WP.nilck ?_)
  refine WP.st s 0 rfl (o := 2) rfl (ZfH _ _) (fun w s => WP.nilck ?_)
  refine WP.st s 0 rfl (o := 1) rfl (ZgB _ _) (fun w s => ret ⟨rfl, ?_⟩)
  refine Ss.closeX (g := g') (sp := sp') ?_
  unfold ZnA
  rw [zE]
  exact s
end
def ZgF (l : List Int) : Nat → Bool → S6 → Except Flt S6
 | 0, _, _ => .error (0, 0)
 | f + 1, op, st => if st.at_ = l.length ∧ op = true then .ok st else match ZiB l st with
  | .error e => .error e
  | .ok (done, st1) => if done = true ∨ st1.at_ = l.length then (if st1.gap < 0 ∧ st1.gs.length ≠ 8 then .error (42, l.length) else .ok st1) else match Zfc l st1 with
   | .error e => .error e
   | .ok (y, st2) => if y = true then ZgF l f true st2 else if l.getD st2.at_ 0 ≠ 58 then .error (41, st2.at_) else ZgF l f false ⟨st2.at_ + 1, st2.gs, st2.gap⟩
def Znt (l : List Int) : Except Flt S6 := match Zfc l ⟨0, [], -1⟩ with
 | .error e => .error e
 | .ok (_, st) => ZgF l (l.length + 1) (decide (st.gap ≥ 0)) st
structure Ok6 (l : List Int) (st : S6) : Prop where
 a : st.at_ ≤ l.length
 g : st.gs.length ≤ 8
 p1 : -1 ≤ st.gap
 p2 : st.gap ≤ st.gs.length
 p3 : 0 ≤ st.gap → st.gs.length ≤ 7
 v : ∀ x ∈ st.gs, x < 65536
theorem Zvb {l : List Int} (h : ∀ c ∈ l, Zhl c = true) (k : Nat) (hk : l.length ≤ k) (h5 : k ≤ 4) : hexN l < 16 ^ k := by
 induction k generalizing l with
 | zero =>
  have : l = [] := List.eq_nil_of_length_eq_zero (by omega)
  subst this
  decide
 | succ k ih =>
  rcases List.eq_nil_or_concat l with rfl | ⟨l', c, rfl⟩
  ·exact Nat.pow_pos (by omega)
  ·rw [List.concat_eq_append] at h hk ⊢
   rw [Zkf, Nat.pow_succ]
   have h1 := ih (l := l') (fun c hc => h c (by simp [hc])) (by simp at hk; omega) (by omega)
   have h2 := ZqS c
   have h3 : 16 ^ k ≤ 16 ^ 3 := Nat.pow_le_pow_right (by omega) (by omega)
   omega
theorem Zmz {l : List Int} {st st1 : S6} {y : Bool} (ok : Ok6 l st) (h : ZiB l st = .ok (y, st1)) : Ok6 l st1 ∧ st1.gap = st.gap ∧ (y = false → st.at_ < st1.at_) := by
 obtain ⟨r1, r2⟩ := Zme (p := Zhl) ok.a
 have hp := ok.p3
 unfold ZiB at h
 split at h
 ·cases h
 ·rename_i hne
  split at h
  ·split at h
   ·cases h
   ·rename_i hroom
    have hlen : st.gs.length + 2 ≤ 8 ∧ (0 ≤ st.gap → st.gs.length + 2 ≤ 7) := by
     unfold S6.room at hroom
     split at hroom <;> omega
    cases hf : Zie l st.at_ with
    | error f => rw [hf] at h; cases h
    | ok a =>
     rw [hf] at h
     simp only [Except.ok.injEq, zA] at h
     obtain ⟨rfl, rfl⟩ := h
     obtain ⟨a4, a5⟩ := ZlU ok.a hf
     obtain ⟨n1, n2, n3, n4, rfl⟩ : ∃ n1 n2 n3 n4, a = [n1, n2, n3, n4] := by
      match a, a4 with
      | [n1, n2, n3, n4], _ => exact ⟨n1, n2, n3, n4, rfl⟩
     have b1 := a5 n1 (by simp)
     have b2 := a5 n2 (by simp)
     have b3 := a5 n3 (by simp)
     have b4 := a5 n4 (by simp)
     refine ⟨⟨ok.a, by simp [Ztu]; omega, ok.p1, by simp [Ztu]; have := ok.p2; omega, fun h => by simp [Ztu]; have := hlen.2 h; omega, fun x hx => ?_⟩, rfl, fun h => by cases h⟩
     rcases List.mem_append.1 hx with hx | hx
     ·exact ok.v x hx
     ·simp only [Ztu, zU, List.not_mem_nil, or_false] at hx
      omega
  ·split at h
   ·cases h
   ·rename_i hroom
    have hlen : st.gs.length + 1 ≤ 8 ∧ (0 ≤ st.gap → st.gs.length + 1 ≤ 7) := by
     unfold S6.room at hroom
     split at hroom <;> omega
    split at h
    ·cases h
    ·rename_i h4
     simp only [Except.ok.injEq, zA] at h
     obtain ⟨rfl, rfl⟩ := h
     refine ⟨⟨r2, by simp; omega, ok.p1, by simp; have := ok.p2; omega, fun h => by simp; have := hlen.2 h; omega, fun x hx => ?_⟩, rfl, fun _ => by simp only; omega⟩
     rcases List.mem_append.1 hx with hx | hx
     ·exact ok.v x hx
     ·rw [zG] at hx
      subst hx
      refine Zvb (k := 4) (fun c hc => ?_) (by rw [zm]; omega) (by omega)
      obtain ⟨j, hj, rfl⟩ := List.mem_iff_getElem.1 hc
      rw [zm, zw] at hj
      rw [List.getElem_take, List.getElem_drop]
      have := ZlN (p := Zhl) (l := l) (i := st.at_) (k := st.at_ + j) (by omega) (by omega)
      rw [List.getD, za (by omega)] at this
      exact this
theorem Zgm {l : List Int} {st st1 : S6} {y : Bool} (ok : Ok6 l st) (h : Zfc l st = .ok (y, st1)) : Ok6 l st1 ∧ (y = false → st1 = st) ∧ (y = true → st1.at_ = st.at_ + 2 ∧ 0 ≤ st1.gap) := by
 unfold Zfc at h
 split at h
 ·simp only [Except.ok.injEq, zA] at h
  obtain ⟨rfl, rfl⟩ := h
  exact ⟨ok, fun _ => rfl, fun h => by cases h⟩
 ·rename_i hd
  split at h
  ·cases h
  ·rename_i hg
   simp only [Except.ok.injEq, zA] at h
   obtain ⟨rfl, rfl⟩ := h
   have hd := Decidable.not_not.1 hd
   unfold ZqX at hd
   have hlen := congrArg List.length hd
   rw [zm, zw] at hlen
   simp only [zf, zi] at hlen
   have := ok.g
   refine ⟨⟨by simp only; omega, ok.g, by simp only; omega, by simp, fun _ => by simp only; omega, ok.v⟩, (fun h => by cases h), (fun _ => ⟨rfl, by simp⟩)⟩
theorem ZkI {l : List Int} {f : Nat} {op y done : Bool} {st st1 st2 : S6} (h : ¬ (st.at_ = l.length ∧ op = true)) (hg : ZiB l st = .ok (done, st1)) (hn : ¬ (done = true ∨ st1.at_ = l.length)) (hd : Zfc l st1 = .ok (y, st2)) :
  ZgF l (f + 1) op st = if y = true then ZgF l f true st2 else if l.getD st2.at_ 0 ≠ 58 then .error (41, st2.at_) else ZgF l f false ⟨st2.at_ + 1, st2.gs, st2.gap⟩ := by
 conv => lhs; unfold ZgF
 rw [if_neg h, hg]
 show (if done = true ∨ st1.at_ = l.length then _ else _) = _
 rw [if_neg hn, hd]
section
variable {W w : World} {Hs : List HP}
def ZwN (W : World) (Hs : List HP) (b : Nat) (t : ByteArray) (x : Except Flt S6) (r : Option Addr) (w : World) : Prop :=
 match x with
 | .ok st => r = none ∧ Ss W (SixP b t st :: Hs) w
 | .error f => ∃ b', r = some (pt b' 0) ∧ Ss W (pts true (pt b' 0) (flt f) :: Hs) w
theorem Zv8 {b : Nat} {t : ByteArray} (s : Ss W (SixP b t ⟨0, [], -1⟩ :: Hs) w) (ht : t.size ≤ 1000) : WP (Zbt (some (pt b 0))) w (ZwN W Hs b t (Znt (strI t))) := by
 have hl := ZbI t
 have ok0 : Ok6 (strI t) ⟨0, [], -1⟩ := ⟨by simp, by simp, by simp, by simp, fun h => by simp, fun x h => by cases h⟩
 unfold Zbt
 refine WP.step (Zp4 s (by simp) ht (by simp)) ?_
 intro r w hr
 unfold ZsF at hr
 unfold Znt
 cases hd : Zfc (strI t) ⟨0, [], -1⟩ with
 | error f =>
  rw [hd] at hr
  obtain ⟨b', hr2, s⟩ := hr
  refine WP.ite (fun _ => ret ⟨b', hr2, s⟩) (fun h => absurd (by rw [hr2]; simp) h)
 | ok x =>
  obtain ⟨y, st0⟩ := x
  rw [hd] at hr
  obtain ⟨rfl, s⟩ := hr
  obtain ⟨ok1, -, -⟩ := Zgm ok0 hd
  refine WP.ite (fun h => absurd rfl h) (fun _ => ?_)
  obtain ⟨g, sp, s⟩ := s.openX
  refine WP.nilck (WP.ld s 0 rfl (o := 3) rfl (ZdM _) ?_)
  simp only
  generalize hX : ZgF (strI t) ((strI t).length + 1) (decide (st0.gap ≥ 0)) st0 = X
  refine WP.loopG (γ := Nat × S6) (fun q (op : Bool) w => Ok6 (strI t) q.2 ∧ (strI t).length - q.2.at_ < q.1 ∧ ZgF (strI t) q.1 op q.2 = X ∧ Ss W (SixP b t q.2 :: Hs) w) (fun q _ => q.1) ((strI t).length + 1, st0) ⟨ok1, by omega, hX, s.closeX⟩ ?_
  clear s hX
  rintro ⟨f, st⟩ op w ⟨ok, hf, hF, s⟩
  simp only at ok hf hF s
  show WP (Zbt.L1 (some (pt b 0)) op) w _
  obtain ⟨f, rfl⟩ : ∃ f', f = f' + 1 := ⟨f - 1, by omega⟩
  have fin : ∀ {e : Except Flt S6} {r : Option Addr} {w : World}, ZgF (strI t) (f + 1) op st = e → ZwN W Hs b t e r w → ZwN W Hs b t X r w := fun h1 h2 => by
   rw [← hF, h1]
   exact h2
  have oka := ok.a
  have okg := ok.g
  unfold Zbt.L1
  obtain ⟨g, sp, s⟩ := s.openX
  refine WP.draw' s (fun w s => WP.nilck (WP.ld s 0 rfl (o := 1) rfl (Zc0 _) (WP.nilck (WP.ld s 0 rfl (o := 0) (by simp [Addr.add]) (ZcJ _) ?_))))
  refine WP.step (R := fun y w' => y = decide (st.at_ = (strI t).length ∧ op = true) ∧ w = w') (WP.ite (fun h => ret ⟨?_, rfl⟩) (fun h => ret ⟨?_, rfl⟩)) ?_
  ·have h : (st.at_ : Int) = (t.size : Int) := h
   rw [zj, ze]
   exact ⟨fun h' => ⟨by omega, h'⟩, fun h' => h'.2⟩
  ·have h : ¬ (st.at_ : Int) = (t.size : Int) := h
   exact (zh fun h' => h (by omega)).symm
  rintro _ _ ⟨rfl, rfl⟩
  refine WP.ite (fun h => WP.done (fin (e := .ok st) ?_ ⟨rfl, s.closeX⟩)) (fun h => ?_)
  ·unfold ZgF
   rw [if_pos (zd h)]
  have hno : ¬ (st.at_ = (strI t).length ∧ op = true) := fun h' => h (zb h')
  refine WP.step (Zvf s.closeX (by omega) ht (by omega)) ?_
  intro r w hr
  unfold ZsF at hr
  cases hgm : ZiB (strI t) st with
  | error e =>
   rw [hgm] at hr
   obtain ⟨b', hr2, s⟩ := hr
   exact WP.ite (fun _ => WP.done (fin (e := .error e) (by unfold ZgF; rw [if_neg hno, hgm]) ⟨b', hr2, s⟩)) (fun h => absurd (by rw [hr2]; simp) h)
  | ok x =>
   obtain ⟨done, st1⟩ := x
   rw [hgm] at hr
   obtain ⟨rfl, s⟩ := hr
   obtain ⟨k1, k2, k3⟩ := Zmz ok hgm
   have k1a := k1.a
   have k1g := k1.g
   obtain ⟨g, sp, s⟩ := s.openX
   have hgl := (s.vec_len (i := 1) rfl).1
   rw [zl] at hgl
   refine WP.ite (fun h => absurd rfl h) (fun _ => WP.draw' s (fun w s => ?_))
   simp only
   refine WP.step (R := fun y w' => y = decide (done = true ∨ st1.at_ = (strI t).length) ∧ w = w') (WP.ite (fun h => ret ⟨(zb (.inl h)).symm, rfl⟩) (fun h => WP.nilck (WP.ld s 0 rfl (o := 1) rfl (Zc0 _) (WP.nilck (WP.ld s 0 rfl (o := 0) (by simp [Addr.add]) (ZcJ _) (ret ⟨?_, rfl⟩)))))) ?_
   ·rw [zj, ze, zq]
    simp only
    exact ⟨fun h' => .inr (by omega), fun h' => by have := h'.resolve_left h; omega⟩
   rintro _ _ ⟨rfl, rfl⟩
   refine WP.ite (fun h => ?_) (fun h => ?_)
   ·have e0 : ZgF (strI t) (f + 1) op st = if st1.gap < 0 ∧ st1.gs.length ≠ 8 then .error (42, (strI t).length) else .ok st1 := by
     unfold ZgF
     rw [if_neg hno, hgm]
     show (if done = true ∨ st1.at_ = (strI t).length then _ else _) = _
     rw [if_pos (zd h)]
    refine WP.nilck (WP.ld s 0 rfl (o := 3) rfl (ZdM _) ?_)
    simp only
    refine WP.step (R := fun y w' => y = decide (st1.gap < 0 ∧ st1.gs.length ≠ 8) ∧ w = w') (WP.ite (fun h => WP.nilck (WP.ld s 0 rfl (o := 2) rfl (ZbE _) (ret ⟨?_, rfl⟩))) (fun h => ret ⟨(zh fun h' => h h'.1).symm, rfl⟩)) ?_
    ·rw [zj, ze, bne_iff_ne]
     simp only
     exact ⟨fun h' => ⟨h, by omega⟩, fun h' => by have := h'.2; omega⟩
    rintro _ _ ⟨rfl, rfl⟩
    refine WP.ite (fun h => WP.nilck (WP.ld s 0 rfl (o := 0) (by simp [Addr.add]) (ZcJ _) (WP.newv s (fun b' w s => WP.done ?_)))) (fun h => WP.done ?_)
    ·rw [if_pos (zd h)] at e0
     refine fin e0 ⟨b', rfl, ?_⟩
     rw [hl]
     exact (s.use [1, 1] (s := [_, _]) (r := _ :: Hs) rfl).drop.drop
    ·rw [if_neg (fun h' => h (zb h'))] at e0
     exact fin e0 ⟨rfl, s.closeX⟩
   ·have hn : ¬ (done = true ∨ st1.at_ = (strI t).length) := fun h' => h (zb h')
    have hdone : done = false := by
     cases done with
     | false => rfl
     | true => exact absurd (.inl rfl) hn
    have hat1 := k3 hdone
    have hne1 : st1.at_ ≠ (strI t).length := fun h' => hn (.inr h')
    refine WP.step (Zp4 s.closeX (by omega) ht (by omega)) ?_
    intro r w hr
    unfold ZsF at hr
    cases hdm : Zfc (strI t) st1 with
    | error e =>
     rw [hdm] at hr
     obtain ⟨b', hr2, s⟩ := hr
     have e0 : ZgF (strI t) (f + 1) op st = .error e := by
      unfold ZgF
      rw [if_neg hno, hgm]
      show (if done = true ∨ st1.at_ = (strI t).length then _ else _) = _
      rw [if_neg hn, hdm]
     exact WP.ite (fun _ => WP.done (fin e0 ⟨b', hr2, s⟩)) (fun h => absurd (by rw [hr2]; simp) h)
    | ok x =>
     obtain ⟨y, st2⟩ := x
     rw [hdm] at hr
     obtain ⟨rfl, s5⟩ := hr
     obtain ⟨m1, m2, m3⟩ := Zgm k1 hdm
     refine WP.ite (fun h => absurd rfl h) (fun _ => ?_)
     simp only
     cases y with
     | true =>
      have m3 := m3 rfl
      refine WP.ite (fun h => absurd rfl h) (fun _ => WP.next ⟨(f, st2), ⟨m1, by simp only; omega, ?_, s5⟩, by simp only; omega⟩)
      simp only
      rw [← hF, ZkI hno hgm hn hdm]
      rfl
     | false =>
      have m2 := m2 rfl
      subst m2
      obtain ⟨g, sp, s⟩ := s5.openX
      refine WP.ite (fun _ => WP.draw' s (fun w s => WP.nilck (WP.ld s 0 rfl (o := 0) (by simp [Addr.add]) (ZcJ _) (WP.nilck (WP.ld s 0 rfl (o := 1) rfl (Zc0 _) (WP.chk ⟨by simp only; omega, by simp only; omega⟩ ?_)))))) (fun h => absurd (by simp) h)
      simp only
      rw [Zfh]
      refine WP.ite (fun h => WP.nilck (WP.ld s 0 rfl (o := 1) rfl (Zc0 _) (WP.newv s (fun b' w s => WP.done ?_)))) (fun h => ?_)
      ·have e1 : (if false = true then ZgF (strI t) f true st2 else if (strI t).getD st2.at_ 0 ≠ 58 then .error (41, st2.at_) else ZgF (strI t) f false ⟨st2.at_ + 1, st2.gs, st2.gap⟩) = (.error (41, st2.at_) : Except Flt S6) := by
        rw [if_neg (by simp), if_pos h]
       exact fin ((ZkI hno hgm hn hdm).trans e1) ⟨b', rfl, (s.use [1, 1] (s := [_, _]) (r := _ :: Hs) rfl).drop.drop⟩
      ·refine WP.nilck (WP.ld s 0 rfl (o := 1) rfl (Zc0 _) (WP.nilck (WP.st s 0 rfl (o := 1) rfl (ZgB _ _) (fun w s => WP.next ⟨(f, ⟨st2.at_ + 1, st2.gs, st2.gap⟩), ⟨⟨by simp only; omega, m1.g, m1.p1, m1.p2, m1.p3, m1.v⟩, by simp only; omega, ?_, Ss.closeX (g := g) (sp := sp) ?_⟩, by simp only; omega⟩))))
       ·simp only
        rw [← hF, ZkI hno hgm hn hdm, if_neg (by simp), if_neg h]
       ·simp only at s
        have e1 : wrap .i64 ((st2.at_ : Int) + 1) = ((st2.at_ + 1 : Nat) : Int) := by
         rw [Zau (by omega) (by omega)]
         simp
        rw [e1] at s
        exact s
end
def two (l : List Nat) : List Int := (l.map fun n => [((n / 256 : Nat) : Int), ((n % 256 : Nat) : Int)]).flatten
theorem Zoo (n : Nat) (l : List Nat) : two (n :: l) = ((n / 256 : Nat) : Int) :: ((n % 256 : Nat) : Int) :: two l := rfl
theorem Zs0 : ∀ l : List Nat, (two l).length = 2 * l.length
 | [] => rfl
 | n :: l => by rw [Zoo, zf, zf, Zs0 l, zf]; omega
theorem ZsZ (v : Nat) : ∀ (l : List Nat) (j : Nat), ((two l).set (2 * j) ((v / 256 : Nat) : Int)).set (2 * j + 1) ((v % 256 : Nat) : Int) = two (l.set j v)
 | [], j => rfl
 | n :: l, 0 => rfl
 | n :: l, j + 1 => by
  rw [List.set_cons_succ, Zoo, Zoo, ← ZsZ v l j]
  rfl
def S6.pos (st : S6) (i : Nat) : Nat := if st.gap ≥ 0 ∧ (i : Int) ≥ st.gap then i + (8 - st.gs.length) else i
def S6.words (st : S6) : Nat → List Nat
 | 0 => List.replicate 8 0
 | i + 1 => (st.words i).set (st.pos i) (st.gs.getD i 0)
theorem S6.words_len (st : S6) : ∀ i, (st.words i).length = 8
 | 0 => rfl
 | i + 1 => by rw [S6.words, zS, st.words_len i]
theorem S6.bytes_len (st : S6) (i : Nat) : (two (st.words i)).length = 16 := by rw [Zs0, st.words_len]
def S6.bytes (st : S6) : Vec Int 16 := ⟨two (st.words st.gs.length), st.bytes_len _⟩
section
variable {W w : World} {Hs : List HP}
theorem Zwu (n : Nat) : Int.fdiv (n : Int) (2 ^ 8) = ((n / 256 : Nat) : Int) := ZlV n 256
theorem Zl2 (n : Nat) : wrap .u8 (n : Int) = ((n % 256 : Nat) : Int) := by
 show (n : Int) % 256 = _
 omega
theorem Zvo {b : Nat} {t : ByteArray} {st : S6} {l : List Int} (s : Ss W (SixP b t st :: Hs) w) (ok : Ok6 l st) : WP (ZaJ (some (pt b 0))) w (fun r w' => r = st.bytes ∧ Ss W (SixP b t st :: Hs) w') := by
 have o1 := ok.g
 have o2 := ok.p1
 have o3 := ok.p2
 have o4 := ok.p3
 obtain ⟨g, sp, s⟩ := s.openX
 have hl := (s.vec_len (i := 1) rfl).1
 rw [zl] at hl
 unfold ZaJ
 refine WP.slot' s (fun _ w s => WP.slot' s (fun _ w s => WP.nilck (WP.ld s 0 rfl (o := 2) rfl (ZbE _) ?_)))
 refine WP.loopG (γ := Nat) (fun i (p : Int × Vec Int 16) w => p.1 = (i : Int) ∧ p.2.l = two (st.words i) ∧ i ≤ st.gs.length ∧ Ss W (ZnA b t g st sp ++ Hs) w) (fun i _ => st.gs.length - i) 0 ⟨rfl, rfl, zF _, s⟩ ?_
 clear s
 rintro i ⟨_, v⟩ w ⟨rfl, hv, hi, s⟩
 simp only at hv
 show WP (ZaJ.L1 (some (pt b 0)) g (i : Int) v) w _
 unfold ZaJ.L1
 have K1 : ∀ {w : World} (j : Nat), j = st.pos i → i < st.gs.length → Ss W (ZnA b t g st sp ++ Hs) w → WP (ZaJ.K1 (i : Int) v ((st.gs.getD i 0 : Nat) : Int) (j : Int)) w (WP.Rd (fun p w => ∃ g' : Nat, (p.1 = (g' : Int) ∧ p.2.l = two (st.words g') ∧ g' ≤ st.gs.length ∧ Ss W (ZnA b t g st sp ++ Hs) w) ∧ st.gs.length - g' < st.gs.length - i) (fun r w' => r = st.bytes ∧ Ss W (SixP b t st :: Hs) w')) := by
  intro w j hj hil s
  have hj8 : j < 8 := by
   rw [hj]
   unfold S6.pos
   split <;> omega
  unfold ZaJ.K1
  have e1 : wrap .i64 (2 * (j : Int)) = ((2 * j : Nat) : Int) := by
   rw [Zau (by omega) (by omega)]
   omega
  have e2 : wrap .i64 (((2 * j : Nat) : Int) + 1) = ((2 * j + 1 : Nat) : Int) := by
   rw [Zau (by omega) (by omega)]
   omega
  rw [e1, e2]
  have hx : (st.gs.getD i 0) < 65536 := by
   rw [List.getD, za hil]
   exact ok.v _ (List.getElem_mem _)
  refine WP.chk ⟨by omega, by omega⟩ (WP.chk ⟨by omega, by omega⟩ (WP.next ⟨i + 1, ⟨?_, ?_, by omega, s⟩, by omega⟩))
  ·show wrap .i64 ((i : Int) + 1) = _
   rw [Zau (by omega) (by omega)]
   omega
  ·show ((v.l.set _ _).set _ _) = _
   rw [hv, Zwu, Zl2, Zl2, zg, zg, show st.gs.getD i 0 / 256 % 256 = st.gs.getD i 0 / 256 by omega, ZsZ, hj]
   rfl
 refine WP.ite (fun h => ?_) (fun h => WP.done ⟨Vec.eq ?_, s.closeX⟩)
 ·have hil : i < st.gs.length := by
   rw [hl] at h
   omega
  have hx : (st.gs.map fun n : Nat => (n : Int))[Int.toNat (i : Int)]? = some ((st.gs.getD i 0 : Nat) : Int) := by
   rw [zg, zD, List.getD, za hil]
   rfl
  refine WP.rdx s 1 rfl ZcB (by omega) hx rfl ?_
  have o5 : i < st.gs.length := hil
  refine WP.nilck (WP.ld s 0 rfl (o := 3) rfl (ZdM _) ?_)
  refine WP.step (R := fun y w' => y = decide (st.gap ≥ 0 ∧ (i : Int) ≥ st.gap) ∧ w = w') (WP.ite (fun h => WP.nilck (WP.ld s 0 rfl (o := 3) rfl (ZdM _) (ret ⟨?_, rfl⟩))) (fun h => ret ⟨?_, rfl⟩)) ?_
  ·rw [zj, ze, ze]
   exact ⟨fun h' => ⟨h, h'⟩, fun h' => h'.2⟩
  ·exact (zh fun h' => h h'.1).symm
  rintro _ _ ⟨rfl, rfl⟩
  refine WP.ite (fun h => ?_) (fun h => ?_)
  ·have h := zd h
   refine WP.nilck (WP.ld s 0 rfl (o := 2) rfl (ZbE _) ?_)
   have e1 : wrap .i64 ((i : Int) + wrap .i64 (8 - (g.len : Int))) = ((i + (8 - st.gs.length) : Nat) : Int) := by
    rw [Zau (n := 8 - _) (by omega) (by omega), Zau (by omega) (by omega)]
    omega
   simp only
   rw [e1]
   exact K1 _ (by unfold S6.pos; rw [if_pos h]) hil s
  ·exact K1 _ (by unfold S6.pos; rw [if_neg (fun h' => h (zb h'))]) hil s
 ·have : i = st.gs.length := by
   rw [hl] at h
   omega
  subst this
  exact hv
end
def ZbL (l : List Int) (q : Int) : Nat := runE (fun c => decide (c ≠ q)) l 0
theorem Zt5 (l : List Int) (q : Int) : ZbL l q ≤ l.length := (Zme (zF _)).2
theorem Zt4 {l : List Int} {q : Int} {j : Nat} (h : j < ZbL l q) : l.getD j 0 ≠ q := zd (ZlN (zF _) h)
theorem Zp0 {l : List Int} {q : Int} (h : ZbL l q < l.length) : l.getD (ZbL l q) 0 = q := by
 have h1 := Zov (p := fun c => decide (c ≠ q)) (l := l) (i := 0) (k := ZbL l q) (zF _) (zB _)
 by_cases e : l.getD (ZbL l q) 0 = q
 ·exact e
 ·exact absurd (h1.1 ⟨h, zb e⟩) (Nat.lt_irrefl _)
theorem ZvZ {s : ByteArray} {i : Nat} (h : i < s.size) : ((s[i]!).toNat : Int) = (strI s).getD i 0 := by
 unfold strI
 rw [List.getD, zD, za (by rw [Array.length_toList]; exact h)]
 show ((s[i]!).toNat : Int) = ((s.data.toList[i]).toNat : Int)
 rw [getElem!_pos s i h]
 rfl
theorem ZqW (s : ByteArray) (q : Nat) (hq : q < 256) : firstIdx s q.toUInt8 = if ZbL (strI s) q < s.size then (ZbL (strI s) q : Int) else -1 := by
 have hl := ZbI s
 have hc : ∀ {i : Nat}, i < s.size → (s[i]! = q.toUInt8 ↔ (strI s).getD i 0 = q) := by
  intro i hi
  rw [← ZvZ hi, ← UInt8.toNat_inj]
  have : (q.toUInt8).toNat = q := by
   show q % 256 = q
   omega
  rw [this]
  omega
 unfold firstIdx
 cases hf : (List.range s.size).find? fun i => s[i]! == q.toUInt8 with
 | none =>
  rw [List.find?_eq_none] at hf
  rw [if_neg]
  intro h
  have := hf _ (List.mem_range.2 h)
  exact this (beq_iff_eq.2 ((hc h).2 (Zp0 (by omega))))
 | some i =>
  rw [List.find?_range_eq_some] at hf
  obtain ⟨h1, h2, h3⟩ := hf
  rw [List.mem_range] at h2
  have h1 := (hc h2).1 (beq_iff_eq.1 h1)
  have a1 : ¬ i < ZbL (strI s) q := fun h => Zt4 h h1
  have a2 : ¬ ZbL (strI s) q < i := by
   intro h
   have := h3 _ h
   rw [Bool.not_eq_true', beq_eq_false_iff_ne] at this
   exact this ((hc (by omega)).2 (Zp0 (by omega)))
  have a3 : ZbL (strI s) q = i := by omega
  rw [a3, if_pos h2]
section
variable {W w : World} {Hs : List HP}
theorem ZoZ (s : ByteArray) {p : ByteArray} {q : Nat} (hq : q < 256) (hp : strI p = [(q : Int)]) : WP (ZaD s p) w (fun r w' => r = (if ZbL (strI s) q < s.size then (ZbL (strI s) q : Int) else -1) ∧ w = w') := by
 have hn : p.size = 1 := by
  rw [← ZbI, hp]
  rfl
 have hsb : sb p 0 = q := by
  have := Zfh (s := p) (i := 0)
  rw [hp] at this
  exact this
 unfold ZaD
 have hl := ZbI s
 refine WP.step (R := fun y w' => y = decide (strI p = strI s) ∧ w = w') (WP.ite (fun h => absurd h (by omega)) (fun h => ret ⟨?_, rfl⟩)) ?_
 ·rw [zj, zq, ze, Zch]
 rintro _ _ ⟨rfl, rfl⟩
 refine WP.ite (fun h => ret ⟨?_, rfl⟩) (fun h => WP.ite (fun _ => WP.chk ⟨by omega, by omega⟩ (WP.step (R := fun r w' => r = (if ZbL (strI s) q < s.size then (ZbL (strI s) q : Int) else -1) ∧ w = w') ?_ (fun r w h => ret h))) (fun h => absurd (by omega) h))
 ·have h := zd h
  have e1 : ZbL (strI s) q = 0 := by
   rw [← h, hp]
   simp [ZbL, runE]
  rw [e1, if_pos]
  ·rfl
  ·rw [← hl, ← h, hp]
   exact Nat.zero_lt_one
 ·unfold Zci
  refine WP.idxB ?_
  refine ret ⟨?_, rfl⟩
  rw [hsb, zg]
  exact ZqW s q hq
theorem Zql (s : ByteArray) {p : ByteArray} {q : Nat} (hq : q < 256) (hp : strI p = [(q : Int)]) : WP (Zdp s p) w (fun r w' => r = decide (ZbL (strI s) q < s.size) ∧ w = w') := by
 unfold Zdp ZeT
 refine WP.step (WP.step (ZoZ s hq hp) (fun r w h => ret h)) ?_
 rintro _ _ ⟨rfl, rfl⟩
 refine ret ⟨?_, rfl⟩
 split
 ·rw [zb (by omega), zb (by assumption)]
 ·rw [zh (by omega), zh (by assumption)]
def CutA (s : ByteArray) (q : Nat) (r : ByteArray × ByteArray × Bool) : Prop :=
 r.2.2 = decide (ZbL (strI s) q < s.size) ∧ (ZbL (strI s) q < s.size → strI r.1 = (strI s).take (ZbL (strI s) q) ∧ strI r.2.1 = (strI s).drop (ZbL (strI s) q + 1))
theorem ZxG (s : Ss W Hs w) (t : ByteArray) (ht : t.size ≤ 1000000) {p : ByteArray} {q : Nat} (hq : q < 256) (hp : strI p = [(q : Int)]) : WP (ZdE t p) w (fun r w' => CutA t q r ∧ Ss W Hs w') := by
 have hn : p.size = 1 := by
  rw [← ZbI, hp]
  rfl
 have hl := ZbI t
 unfold ZdE ZdD
 refine WP.step (R := fun r w' => CutA t q r ∧ Ss W Hs w') (WP.step (ZoZ t hq hp) ?_) (fun r w h => ret h)
 rintro _ _ ⟨rfl, rfl⟩
 by_cases hf : ZbL (strI t) q < t.size
 ·rw [if_pos hf]
  have e1 : wrap .i64 (((ZbL (strI t) q : Nat) : Int) + (p.size : Int)) = ((ZbL (strI t) q + 1 : Nat) : Int) := by
   rw [hn, Zau (by omega) (by omega)]
   rfl
  rw [e1]
  refine WP.ite (fun _ => WP.draw' s (fun w s => WP.chk ⟨by omega, by omega, by omega⟩ (WP.chk ⟨by omega, by omega, by omega⟩ (ret ⟨⟨(zb hf).symm, fun _ => ⟨?_, ?_⟩⟩, s⟩)))) (fun h => absurd (by omega) h)
  ·simp only
   rw [Zdx]
   simp
  ·simp only
   rw [Zdx]
   simp only [zg]
   rw [zC (by rw [zw]; omega)]
 ·rw [if_neg hf]
  exact WP.ite (fun h => absurd h (by omega)) (fun _ => ret ⟨⟨(zh hf).symm, fun h => absurd h hf⟩, s⟩)
end
theorem Zox {l : List Int} : ∀ (f : Nat) (op : Bool) (st r : S6), Ok6 l st → ZgF l f op st = .ok r → Ok6 l r
 | 0, _, _, _, _, h => by cases h
 | f + 1, op, st, r, ok, h => by
  unfold ZgF at h
  split at h
  ·cases h
   exact ok
  ·cases hg : ZiB l st with
   | error e =>
    rw [hg] at h
    cases h
   | ok x =>
    obtain ⟨done, st1⟩ := x
    rw [hg] at h
    obtain ⟨k1, -, -⟩ := Zmz ok hg
    simp only at h
    split at h
    ·split at h
     ·cases h
     ·cases h
      exact k1
    ·rename_i hn
     cases hd : Zfc l st1 with
     | error e =>
      rw [hd] at h
      cases h
     | ok x =>
      obtain ⟨y, st2⟩ := x
      rw [hd] at h
      obtain ⟨m1, m2, m3⟩ := Zgm k1 hd
      simp only at h
      split at h
      ·exact Zox f true st2 r m1 h
      ·rename_i hy
       split at h
       ·cases h
       ·have e2 := m2 (by simpa using hy)
        have h3 := k1.a
        have h4 : st1.at_ ≠ l.length := fun h' => hn (.inr h')
        refine Zox f false ⟨st2.at_ + 1, st2.gs, st2.gap⟩ r ⟨?_, m1.g, m1.p1, m1.p2, m1.p3, m1.v⟩ h
        show st2.at_ + 1 ≤ l.length
        rw [e2]
        omega
theorem Zrj {l : List Int} {r : S6} (h : Znt l = .ok r) : Ok6 l r := by
 have ok0 : Ok6 l ⟨0, [], -1⟩ := ⟨by simp, by simp, by simp, by simp, fun h => by simp, fun x h => by cases h⟩
 unfold Znt at h
 cases hd : Zfc l ⟨0, [], -1⟩ with
 | error e =>
  rw [hd] at h
  cases h
 | ok x =>
  obtain ⟨y, st⟩ := x
  rw [hd] at h
  exact Zox _ _ _ _ (Zgm ok0 hd).1 h
def v4V (a : List Nat) : Vec Int 16 := ⟨((a.map fun n : Nat => (n : Int)) ++ List.replicate 16 0).take 16, by simp⟩
def ZgO (l : List Int) : Except Flt Zbw :=
 if l.length > 45 then .error (2, 45)
 else if ZbL l 58 < l.length then match Znt l with
  | .error f => .error f
  | .ok st => .ok ⟨6, st.bytes⟩
 else match Zie l 0 with
  | .error f => .error f
  | .ok a => .ok ⟨4, v4V a⟩
theorem ZvW {l : List Nat} (h : ∀ x ∈ l, x < 65536) : Byt (two l) := by
 intro x hx
 unfold two at hx
 rw [List.mem_flatten] at hx
 obtain ⟨p, hp, hx⟩ := hx
 rw [List.mem_map] at hp
 obtain ⟨n, hn, rfl⟩ := hp
 have := h n hn
 simp only [zU, List.not_mem_nil, or_false] at hx
 constructor <;> rcases hx with rfl | rfl <;> omega
theorem Zrb {st : S6} {l : List Int} (ok : Ok6 l st) : ∀ i, ∀ x ∈ st.words i, x < 65536
 | 0, x, hx => by
  have := List.eq_of_mem_replicate hx
  omega
 | i + 1, x, hx => by
  rcases List.mem_or_eq_of_mem_set hx with h | rfl
  ·exact Zrb ok i x h
  ·rw [List.getD]
   cases hy : st.gs[i]? with
   | none => simp
   | some y => exact ok.v y (zk hy)
theorem Zhh {l : List Int} {ip : Zbw} (h : ZgO l = .ok ip) : Byt ip.A.l := by
 unfold ZgO at h
 split at h
 ·cases h
 ·split at h
  ·cases hr : Znt l with
   | error f =>
    rw [hr] at h
    cases h
   | ok st =>
    rw [hr] at h
    cases h
    exact ZvW (Zrb (Zrj hr) _)
  ·cases hr : Zie l 0 with
   | error f =>
    rw [hr] at h
    cases h
   | ok a =>
    rw [hr] at h
    cases h
    obtain ⟨h4, h5⟩ := ZlU (zF _) hr
    intro x hx
    have hx := List.mem_of_mem_take hx
    rw [zW, List.mem_map] at hx
    rcases hx with ⟨n, hn, rfl⟩ | hx
    ·have := h5 n hn
     constructor <;> omega
    ·have := List.eq_of_mem_replicate hx
     omega
def ipM (l : List Int) : Zbw × Int × Int := match ZgO l with
 | .error f => (ZcF, f.1, (f.2 : Int))
 | .ok ip => (ip, 0, 0)
def Zpx (l : List Int) : Except Flt Zag :=
 if l.length > 49 then .error (2, 49)
 else if ZbL l 47 < l.length then match ZgO (l.take (ZbL l 47)) with
  | .error f => .error f
  | .ok ip => match numM l (ZbL l 47 + 1) (ZfZ ip) 45 with
   | .error f => .error f
   | .ok (n, e) => if e < l.length then .error (41, e) else if vpM ⟨ip, (n : Int)⟩ ≠ 0 then .error (46, 0) else .ok ⟨ip, (n : Int)⟩
 else .error (42, l.length)
def ZqC (l : List Int) : Zag × Int × Int := match Zpx l with
 | .error f => (ZbP, f.1, (f.2 : Int))
 | .ok p => (p, 0, 0)
section
variable {W w : World} {Hs : List HP}
def ZxD (W : World) (Hs : List HP) (x : Except Flt Zbw) (r : Zbw × Option Addr) (w : World) : Prop :=
 match x with
 | .ok ip => r = (ip, none) ∧ Ss W Hs w
 | .error f => ∃ b, r.2 = some (pt b 0) ∧ Ss W (pts true (pt b 0) (flt f) :: Hs) w
theorem Zro (s : Ss W Hs w) (t : ByteArray) : WP (Zfj t) w (ZxD W Hs (ZgO (strI t))) := by
 have hl := ZbI t
 unfold Zfj ZgO
 refine WP.slot' s (fun _ w s => WP.ite (fun h => WP.newv s (fun b w s => ret ?_)) (fun h => ?_))
 ·rw [if_pos (by omega)]
  exact ⟨b, rfl, s⟩
 rw [if_neg (by omega)]
 refine WP.step (Zql t (q := 58) (by omega) (by decide)) ?_
 rintro _ _ ⟨rfl, rfl⟩
 refine WP.ite (fun h => ?_) (fun h => ?_)
 ·have h : ¬ ZbL (strI t) 58 < (strI t).length := fun h' => h (zb (by rw [← hl]; exact h'))
  rw [if_neg h]
  refine WP.step (Zt0 s t (by omega) 0 (by omega)) ?_
  intro r w hr
  cases hm : Zie (strI t) 0 with
  | error f =>
   rw [hm] at hr
   obtain ⟨b, hb, s⟩ := hr
   exact WP.slot' s (fun _ w s => WP.ite (fun _ => ret ⟨b, hb, s⟩) (fun h => absurd (by rw [hb]; simp) h))
  | ok a =>
   rw [hm] at hr
   obtain ⟨ha, hb, s⟩ := hr
   refine WP.slot' s (fun _ w s => WP.ite (fun h => absurd hb h) (fun _ => ret ⟨?_, s⟩))
   obtain ⟨h4, -⟩ := ZlU (zF _) hm
   match a, h4 with
   | [a, b, c, d], _ =>
    have e : (⟨[r.1.g 0 0, r.1.g 1 0, r.1.g 2 0, r.1.g 3 0, 0, 0, 0, 0, 0, 0, 0, 0, 0, 0, 0, 0], rfl⟩ : Vec Int 16) = v4V [a, b, c, d] := by
     refine Vec.eq ?_
     unfold Vec.g
     rw [ha]
     rfl
    rw [e]
 ·have h : ZbL (strI t) 58 < (strI t).length := by
   rw [hl]
   exact zd (by simpa using h)
  rw [if_pos h]
  refine WP.newv s (fun b w s => ?_)
  have s1 : Ss W (SixP b t ⟨0, [], -1⟩ :: Hs) w := Ss.closeX (g := Sl.nil) (sp := []) ((s.mk0 (A := vec (cI .i64) Sl.nil [] []) Zcv).use [1, 0] (s := [_, _]) (r := Hs) rfl)
  refine WP.step (Zv8 s1 (by omega)) ?_
  intro r w hr
  cases hm : Znt (strI t) with
  | error f =>
   rw [hm] at hr
   obtain ⟨b, rfl, s⟩ := hr
   exact WP.ite (fun _ => ret ⟨b, rfl, s⟩) (fun h => absurd (by simp) h)
  | ok st =>
   rw [hm] at hr
   obtain ⟨rfl, s⟩ := hr
   refine WP.ite (fun h => absurd rfl h) (fun _ => WP.step (Zvo s (Zrj hm)) ?_)
   rintro _ w ⟨rfl, s⟩
   exact ret ⟨rfl, s.drop⟩
theorem Zoj (s : Ss W Hs w) (t : ByteArray) : WP (Zem t) w (fun r w' => r = ipM (strI t) ∧ Ss W Hs w') := by
 unfold Zem ipM
 refine WP.slot' s (fun _ w s => WP.step (Zro s t) ?_)
 intro r w hr
 cases hm : ZgO (strI t) with
 | error f =>
  rw [hm] at hr
  obtain ⟨b, hb, s⟩ := hr
  refine WP.slot' s (fun _ w s => ?_)
  rw [hb]
  exact WP.ite (fun _ => WP.draw' s (fun w s => WP.nilck (WP.ld s 0 rfl (o := 0) (by simp [Addr.add]) (Ze1 _) (WP.nilck (WP.ld s 0 rfl (o := 1) rfl (Ze2 _) (WP.same s 0 rfl (o := 1) rfl (Ze2 _) (WP.same s 0 rfl (o := 0) (by simp [Addr.add]) (Ze1 _) (ret ⟨rfl, s.drop⟩)))))))) (fun h => absurd (by simp) h)
 | ok ip =>
  rw [hm] at hr
  obtain ⟨rfl, s⟩ := hr
  exact WP.slot' s (fun _ w s => WP.ite (fun h => absurd rfl h) (fun _ => ret ⟨rfl, s⟩))
end
theorem ZuR {ip : Zbw} : (prIP ip).length ≤ 200 := by
 have hl := ip.A.h
 unfold prIP
 split
 ·have := Zkl (xs := ip.A.l.take 4) (by rw [zm]; omega)
  omega
 ·split
  ·have := Zkl (xs := ip.A.l.drop 12) (by rw [zw]; omega)
   rw [zc]
   simp only [zf, zi]
   omega
  ·have hg := ZoL ip.A.l
   split
   ·have := Zko (gs := grps ip.A.l) (by omega)
    omega
   ·have h1 := Zko (gs := (grps ip.A.l).take (ZfP (grps ip.A.l)).1.toNat) (by rw [zm]; omega)
    have h2 := Zko (gs := (grps ip.A.l).drop ((ZfP (grps ip.A.l)).1.toNat + (ZfP (grps ip.A.l)).2)) (by rw [zw]; omega)
    rw [zc, zc]
    simp only [zf, zi]
    omega
section
variable {W w : World} {Hs : List HP}
theorem ZnB (s : Ss W Hs w) (t : Nat) (et : nth Hs t = some TabN) (p : Zag) (hb : Byt p.IP.A.l) : WP (Zdr p) w (fun r w' => r = ppM p ∧ Ss W Hs w') := by
 unfold Zdr
 refine WP.slot' s (fun _ w s => WP.step (ZfX s p hb) ?_)
 rintro _ w ⟨rfl, s⟩
 refine WP.ite (fun h => ret ⟨by unfold ppM; rw [if_neg h], s⟩) (fun h => ?_)
 have hv : vpM p = 0 := Decidable.not_not.1 h
 obtain ⟨v0, v1, v2, v3⟩ := Zom hv
 have hz := Zj2 p.IP
 refine WP.step (Zoi s t et p.IP hb) ?_
 rintro _ w ⟨rfl, s⟩
 have hp : piM p.IP = (bstr (prIP p.IP), 0) := by
  unfold piM
  rw [if_pos (by omega)]
 rw [hp]
 have hlen := ZuR (ip := p.IP)
 have hs1 : (Zr8).size = 1 := by decide +kernel
 refine WP.chk (by rw [ZeA, hs1]; omega) ?_
 rw [show p.Len = ((p.Len.toNat : Nat) : Int) by omega]
 refine WP.step (Zq6 s t et (n := p.Len.toNat) (by omega)) ?_
 rintro _ w ⟨rfl, s⟩
 have e : Zr8 = bstr [47] := by decide +kernel
 simp only
 rw [e, catb]
 have hd : (dec3 p.Len.toNat).length ≤ 3 := by
  rw [ZhP]
  unfold ndig
  split
  ·omega
  ·split <;> omega
 refine WP.chk (by rw [ZeA, ZeA, zc]; simp only [zf, zi]; omega) (ret ⟨?_, s⟩)
 rw [catb]
 unfold ppM
 rw [if_pos hv, zu]
 rfl
end
structure Zek where
 Not : Bool
 nets : List Zag
 ports : List ZaH
 deriving DecidableEq
structure ZaR where
 Act : Int
 Class : Int
 Kind : Int
 Proto : Int
 In : Int
 Vid : Int
 From : Zek
 To : Zek
 Set : Int
 Clear : Int
 Type_ : Int
 Pieces : Bool
 deriving DecidableEq
def zSd : Zek := ⟨false, [], []⟩
def zRl : ZaR := ⟨0, 0, 0, 0, 0, 0, zSd, zSd, 0, 0, 0, false⟩
def tx (s : String) : List Int := s.toList.map fun c => ((c.toNat : Nat) : Int)
def Zfv (n : Int) : Bool := decide (n = 6 ∨ n = 17)
def Zgp (n : Int) : Bool := decide (n = 1 ∨ n = 58)
def verM (kind : Int) : Int := if kind = 1 ∨ kind = 2 then 4 else if kind = 3 then 6 else 0
def Zg2 (p : Zag) (kind : Int) : Bool := decide (vpM p = 0 ∧ (verM kind = 0 ∨ p.IP.V = verM kind))
def Zfb (r : ZaH) : Bool := decide (0 ≤ r.Lo ∧ r.Hi ≤ 65535 ∧ r.Lo ≤ r.Hi)
def ZdX (s : Zek) (kind proto : Int) : Int :=
 if s.nets.length > 16 ∨ (s.Not = true ∧ s.nets = []) then 163
 else if ¬ (∀ p ∈ s.nets, Zg2 p kind = true) then 163
 else if s.ports.length > 16 then 164
 else if ¬ (∀ r ∈ s.ports, Zfb r = true) then 164
 else if s.ports ≠ [] ∧ Zfv proto = false then 165 else 0
def hasB (n : Int) (k : Nat) : Bool := decide (n / 2 ^ k % 2 = 1)
def Zji (a b : Int) : Bool := (List.range 8).any fun k => hasB a k && hasB b k
def inR (n lo hi : Int) : Bool := decide (lo ≤ n ∧ n ≤ hi)
def Znx (m : ZaR) : Bool := inR m.Act 1 3 && inR m.Class 0 7 && inR m.Kind 0 3 && inR m.Proto 0 255 && inR m.In 0 8 && inR m.Vid 0 4094 && inR m.Set 0 255 && inR m.Clear 0 255 && inR m.Type_ 0 256 && !Zji m.Set m.Clear
def ZmQ (m : ZaR) : Bool := decide ((m.Class ≠ 0 ∧ m.Act ≠ 1) ∨ (m.Proto ≠ 0 ∧ m.Kind = 1) ∨ ((m.Set ≠ 0 ∨ m.Clear ≠ 0) ∧ m.Proto ≠ 6) ∨ (m.Type_ ≠ 0 ∧ Zgp m.Proto = false))
def ckM (m : ZaR) : Int := if Znx m = false then 166 else if ZmQ m = true then 165 else if ZdX m.From m.Kind m.Proto ≠ 0 then ZdX m.From m.Kind m.Proto else ZdX m.To m.Kind m.Proto
abbrev Wd := List Int × Int
def Zh8 (c : Int) : Bool := decide (32 < c ∧ c < 127 ∧ c ≠ 44)
def lexM (cur : List Int) (p : Int) : List Int → Except Int (List Wd)
 | [] => .ok (if cur = [] then [] else [(cur, p - cur.length)])
 | c :: cs => if Zh8 c = true then lexM (cur ++ [c]) (p + 1) cs
  else match (if c = 44 then (match lexM [] (p + 1) cs with
    | .error q => .error q
    | .ok r => .ok (([44], p) :: r))
   else if c = 32 ∨ c = 9 then lexM [] (p + 1) cs else .error p) with
   | .error q => .error q
   | .ok r => .ok (if cur = [] then r else (cur, p - cur.length) :: r)
abbrev PF := Int × Int
abbrev PE (α : Type) := Except PF α
def comma : List Int := [44]
def numR (t : List Int) (lo hi : Int) : Option Int :=
 if t = [] ∨ t.length > 9 ∨ (t.getD 0 0 = 48 ∧ t.length > 1) ∨ t.all Zfy = false then none
 else if lo ≤ (valD t : Int) ∧ (valD t : Int) ≤ hi then some (valD t) else none
def numP (e lo hi : Int) : List Wd → PE (Int × List Wd)
 | [] => .error (161, e)
 | w :: ws => if w.1 = comma then .error (160, w.2) else match numR w.1 lo hi with
  | none => .error (162, w.2)
  | some n => .ok (n, ws)
def netR (t : List Int) : Option Zag := match Zpx t with
 | .ok p => some p
 | .error _ => match ZgO t with
  | .ok ip => some ⟨ip, if ip.V = 6 then 128 else 32⟩
  | .error _ => none
def Zjb (e kind : Int) : List Zag → List Wd → PE (List Zag × List Wd)
 | acc, [] => .error (161, e)
 | acc, w :: ws => if w.1 = comma then .error (160, w.2) else match netR w.1 with
  | none => .error (163, w.2)
  | some p => if acc.length = 16 ∨ Zg2 p kind = false then .error (163, w.2) else match ws with
   | [] => .ok (acc ++ [p], [])
   | c :: ws => if c.1 = comma then Zjb e kind (acc ++ [p]) ws else .ok (acc ++ [p], c :: ws)
def Zmi (t : List Int) : Option ZaH := match numR (t.take (ZbL t 45)) 0 65535, numR (if ZbL t 45 < t.length then t.drop (ZbL t 45 + 1) else t.take (ZbL t 45)) 0 65535 with
 | some a, some b => if a ≤ b then some ⟨a, b⟩ else none
 | _, _ => none
def Zgw (e : Int) : List ZaH → List Wd → PE (List ZaH × List Wd)
 | acc, [] => .error (161, e)
 | acc, w :: ws => if w.1 = comma then .error (160, w.2) else match Zmi w.1 with
  | none => .error (164, w.2)
  | some p => if acc.length = 16 then .error (164, w.2) else match ws with
   | [] => .ok (acc ++ [p], [])
   | c :: ws => if c.1 = comma then Zgw e (acc ++ [p]) ws else .ok (acc ++ [p], c :: ws)
def Zd9 (t : List Int) : List Wd → Option (List Wd)
 | [] => none
 | w :: ws => if w.1 = t then some ws else none
def ZvD (e kind : Int) (ws : List Wd) : PE ((Bool × List Zag) × List Wd) := match Zd9 (tx "any") ws with
 | some r => .ok ((false, []), r)
 | none => match Zjb e kind [] ((Zd9 (tx "not") ws).getD ws) with
  | .error f => .error f
  | .ok (l, r) => .ok (((Zd9 (tx "not") ws).isSome, l), r)
def Ze3 (e proto : Int) : List Wd → PE (List ZaH × List Wd)
 | [] => .ok ([], [])
 | w :: ws => if w.1 = tx "port" then (if Zfv proto = true then Zgw e [] ws else .error (165, w.2)) else .ok ([], w :: ws)
def Zma (e kind proto : Int) (ws : List Wd) : PE (Zek × List Wd) := match ZvD e kind ws with
 | .error f => .error f
 | .ok (a, r) => match Ze3 e proto r with
  | .error f => .error f
  | .ok (ps, r) => .ok (⟨a.1, a.2, ps⟩, r)
def ZhO : List (List Int) := [tx "fin", tx "syn", tx "rst", tx "psh", tx "ack", tx "urg", tx "ece", tx "cwr"]
def actN : List (List Int) := [tx "permit", tx "deny", tx "reject"]
def ZlB : List (List Int) := [tx "arp", tx "ip4", tx "ip6"]
def idxT (l : List (List Int)) (t : List Int) : Option Nat := l.findIdx? fun x => decide (x = t)
def Zif (t : List Int) : Bool × Option Nat := if t.head? = some 33 then (true, idxT ZhO t.tail) else (false, idxT ZhO t)
def Zge (e : Int) : Int → Int → List Wd → PE ((Int × Int) × List Wd)
 | s, c, [] => .error (161, e)
 | s, c, w :: ws => if w.1 = comma then .error (160, w.2) else match (Zif w.1).2 with
  | none => .error (160, w.2)
  | some k => if (hasB s k || hasB c k) = true then .error (165, w.2) else match ws with
   | [] => .ok ((if (Zif w.1).1 = true then (s, c + 2 ^ k) else (s + 2 ^ k, c)), [])
   | d :: ws => if d.1 = comma then (if (Zif w.1).1 = true then Zge e s (c + 2 ^ k) ws else Zge e (s + 2 ^ k) c ws)
    else .ok ((if (Zif w.1).1 = true then (s, c + 2 ^ k) else (s + 2 ^ k, c)), d :: ws)
def Znu (e : Int) : List Wd → PE (Int × List Wd)
 | [] => .error (161, e)
 | w :: ws => if w.1 = comma then .error (160, w.2) else match (if w.1.head? = some 112 then numR w.1.tail 0 7 else none) with
  | none => .error (162, w.2)
  | some n => .ok (n, ws)
def ZfQ (e : Int) (t : List Int) (m : ZaR) (ws : List Wd) : Option (PE (ZaR × List Wd)) :=
 if t = tx "on" then some (match Znu e ws with
  | .error f => .error f
  | .ok (n, r) => .ok ({ m with In := n + 1 }, r))
 else if t = tx "vid" then some (match numP e 1 4094 ws with
  | .error f => .error f
  | .ok (n, r) => .ok ({ m with Vid := n }, r))
 else if t = tx "from" then some (match Zma e m.Kind m.Proto ws with
  | .error f => .error f
  | .ok (n, r) => .ok ({ m with From := n }, r))
 else if t = tx "to" then some (match Zma e m.Kind m.Proto ws with
  | .error f => .error f
  | .ok (n, r) => .ok ({ m with To := n }, r))
 else if t = tx "flags" then some (match Zge e m.Set m.Clear ws with
  | .error f => .error f
  | .ok (n, r) => .ok ({ m with Set := n.1, Clear := n.2 }, r))
 else if t = tx "type" then some (match numP e 0 255 ws with
  | .error f => .error f
  | .ok (n, r) => .ok ({ m with Type_ := n + 1 }, r))
 else if t = tx "pieces" then some (.ok ({ m with Pieces := true }, ws))
 else none
def mayM (seen : List (List Int)) (m : ZaR) (t : List Int) : Bool := decide (t ∉ seen ∧ (t = tx "flags" → m.Proto = 6) ∧ (t = tx "type" → Zgp m.Proto = true))
def ZjH (e : Int) : Nat → List (List Int) → ZaR → List Wd → PE ZaR
 | 0, _, m, _ => .ok m
 | f + 1, seen, m, [] => .ok m
 | f + 1, seen, m, w :: ws => if mayM seen m w.1 = false then .error (165, w.2) else match ZfQ e w.1 m ws with
  | none => .error (160, w.2)
  | some (.error q) => .error q
  | some (.ok (m', r)) => ZjH e f (w.1 :: seen) m' r
def Zml (t : List Int) : Option Int := if t = tx "tcp" then some 6 else if t = tx "udp" then some 17 else if t = tx "icmp" then some 1 else if t = tx "icmp6" then some 58 else none
def Zf4 (t : List Int) : Bool := (Zml t).isSome || decide (t = tx "proto")
def Zgu (e kind : Int) (w : Wd) (ws : List Wd) : PE (Int × List Wd) := if kind = 1 then .error (165, w.2) else match Zml w.1 with
 | some n => .ok (n, ws)
 | none => numP e 1 255 ws
def Zhr (e : Int) (a : Nat) (ws : List Wd) : PE (Int × List Wd) := if a = 0 then (match Zd9 (tx "class") ws with
  | none => .ok (0, ws)
  | some r => numP e 0 7 r) else .ok (0, ws)
def Zl5 (e : Int) : List Wd → PE ((Int × Int) × List Wd)
 | [] => .error (161, e)
 | w :: ws => if w.1 = tx "any" then .ok ((0, 0), ws) else match idxT ZlB w.1 with
  | none => if Zf4 w.1 = true then (match Zgu e 0 w ws with
    | .error f => .error f
    | .ok (n, r) => .ok ((0, n), r)) else .error (160, w.2)
  | some k => match ws with
   | [] => .ok (((k : Int) + 1, 0), [])
   | v :: r => if Zf4 v.1 = true then (match Zgu e ((k : Int) + 1) v r with
    | .error f => .error f
    | .ok (n, r) => .ok (((k : Int) + 1, n), r)) else .ok (((k : Int) + 1, 0), v :: r)
def ZlC (e : Int) : List Wd → PE (ZaR × List Wd)
 | [] => .error (161, e)
 | w :: ws => match idxT actN w.1 with
  | none => .error (160, w.2)
  | some a => match Zhr e a ws with
   | .error f => .error f
   | .ok (c, r) => match Zl5 e r with
    | .error f => .error f
    | .ok (k, r) => .ok ({ zRl with Act := (a : Int) + 1, Class := c, Kind := k.1, Proto := k.2 }, r)
def Ziv (t : List Int) : PE ZaR := if t.length > 1024 then .error (2, 1024) else match lexM [] 0 t with
 | .error p => .error (160, p)
 | .ok ws => match ZlC t.length ws with
  | .error f => .error f
  | .ok (m, r) => ZjH t.length (ws.length + 1) [] m r
def decF : Nat → Nat → List Int
 | 0, n => [48 + ((n % 10 : Nat) : Int)]
 | f + 1, n => if n < 10 then [48 + (n : Int)] else decF f (n / 10) ++ [48 + ((n % 10 : Nat) : Int)]
def decM (n : Int) : List Int := decF 5 n.toNat
def netT (p : Zag) : List Int := if (p.Len = 32 ∧ p.IP.V = 4) ∨ p.Len = 128 then prIP p.IP else prIP p.IP ++ 47 :: dec3 p.Len.toNat
def Zgd (r : ZaH) : List Int := if r.Hi ≠ r.Lo then decM r.Lo ++ 45 :: decM r.Hi else decM r.Lo
def Zgt (n : Int) : List Int := if n = 6 then tx "tcp" else if n = 17 then tx "udp" else if n = 1 then tx "icmp" else if n = 58 then tx "icmp6" else []
def Zpg (name : List Int) (s : Zek) : List Int :=
 if s.nets = [] ∧ s.ports = [] then [] else
  [32] ++ name ++ [32] ++ (if s.nets = [] then tx "any" else (if s.Not = true then tx "not " else []) ++ ZgG [44] (s.nets.map netT)) ++ (if s.ports = [] then [] else tx " port " ++ ZgG [44] (s.ports.map Zgd))
def Zjn (m : ZaR) : List (List Int) := (List.range 8).flatMap fun k => (if hasB m.Set k = true then [ZhO.getD k []] else []) ++ (if hasB m.Clear k = true then [33 :: ZhO.getD k []] else [])
def Zqm (m : ZaR) : List Int :=
 (if m.Kind > 0 then [32] ++ ZlB.getD (m.Kind - 1).toNat [] else []) ++ (if Zgt m.Proto ≠ [] then [32] ++ Zgt m.Proto else if m.Proto > 0 then tx " proto " ++ decM m.Proto else if m.Kind = 0 then tx " any" else [])
def ZpN (m : ZaR) : List Int :=
 actN.getD (m.Act - 1).toNat [] ++ (if m.Class > 0 then tx " class " ++ decM m.Class else []) ++ Zqm m ++ (if m.In > 0 then tx " on p" ++ decM (m.In - 1) else []) ++ (if m.Vid > 0 then tx " vid " ++ decM m.Vid else [])
  ++ (Zpg (tx "from") m.From ++ Zpg (tx "to") m.To) ++ (if Zjn m = [] then [] else tx " flags " ++ ZgG [44] (Zjn m)) ++ (if m.Type_ > 0 then tx " type " ++ decM (m.Type_ - 1) else []) ++ (if m.Pieces = true then tx " pieces" else [])
def Zss : List Int := tx "permit tcp from 10.0.0.0/8 to any port 80"
def Zsc : ZaR := { zRl with Act := 1, Proto := 6, From := ⟨false, [⟨⟨4, ⟨[10, 0, 0, 0, 0, 0, 0, 0, 0, 0, 0, 0, 0, 0, 0, 0], rfl⟩⟩, 8⟩], []⟩, To := ⟨false, [], [⟨80, 80⟩]⟩ }
instance exceptDec {ε α : Type} [DecidableEq ε] [DecidableEq α] : DecidableEq (Except ε α)
 | .error a, .error b => if h : a = b then .isTrue (by rw [h]) else .isFalse (fun e => h (by cases e; rfl))
 | .ok a, .ok b => if h : a = b then .isTrue (by rw [h]) else .isFalse (fun e => h (by cases e; rfl))
 | .error _, .ok _ => .isFalse (fun e => by cases e)
 | .ok _, .error _ => .isFalse (fun e => by cases e)
theorem Zw3 : Ziv Zss = .ok Zsc := by decide +kernel
theorem Zxc : ZpN Zsc = Zss := by decide +kernel
theorem ck_x : ckM Zsc = 0 := by decide +kernel
def LxC (cur l : List Int) (ts : List (List Int)) : Prop := ∀ p : Int, ∃ ws, lexM cur p l = .ok ws ∧ ws.map (·.1) = ts
def Cont (l : List Int) (ts : List (List Int)) : Prop := ∀ cur : List Int, cur ≠ [] → LxC cur l (cur :: ts)
def Seg (S : List Int) (T : List (List Int)) : Prop := ∀ l ts, Cont l ts → Cont (S ++ l) (T ++ ts)
def Wrd (t : List Int) : Prop := t ≠ [] ∧ t.all Zh8 = true
theorem LxC.word {t : List Int} : ∀ {cur l : List Int} {ts : List (List Int)}, t.all Zh8 = true → LxC (cur ++ t) l ts → LxC cur (t ++ l) ts := by
 induction t with
 | nil =>
  intro cur l ts _ h
  rw [zJ] at h
  exact h
 | cons c t ih =>
  intro cur l ts hw h p
  rw [List.all_cons, Bool.and_eq_true] at hw
  obtain ⟨ws, h1, h2⟩ := ih (cur := cur ++ [c]) hw.2 (by rw [zu]; exact h) (p + 1)
  refine ⟨ws, ?_, h2⟩
  rw [zV, lexM, if_pos hw.1]
  exact h1
theorem Cont.nil : Cont [] [] := fun cur hc p => ⟨[(cur, p - cur.length)], by rw [lexM, if_neg hc], rfl⟩
theorem Cont.sp {l : List Int} {ts : List (List Int)} (h : LxC [] l ts) : Cont (32 :: l) ts := fun cur hc p => by
 obtain ⟨ws, h1, h2⟩ := h (p + 1)
 refine ⟨(cur, p - cur.length) :: ws, ?_, by rw [List.map_cons, h2]⟩
 rw [lexM, if_neg (by decide), if_neg (by decide), if_pos (by decide), h1]
 simp only
 rw [if_neg hc]
theorem Cont.comma {l : List Int} {ts : List (List Int)} (h : LxC [] l ts) : Cont (44 :: l) ([44] :: ts) := fun cur hc p => by
 obtain ⟨ws, h1, h2⟩ := h (p + 1)
 refine ⟨(cur, p - cur.length) :: ([44], p) :: ws, ?_, by rw [List.map_cons, List.map_cons, h2]⟩
 rw [lexM, if_neg (by decide), if_pos rfl, h1]
 simp only
 rw [if_neg hc]
theorem Cont.begin {t l : List Int} {ts : List (List Int)} (ht : Wrd t) (h : Cont l ts) : LxC [] (t ++ l) (t :: ts) := by
 refine LxC.word ht.2 ?_
 rw [zN]
 exact h t ht.1
theorem Seg.nil : Seg [] [] := fun l ts h => h
theorem Seg.app {S S' : List Int} {T T' : List (List Int)} (h : Seg S T) (h' : Seg S' T') : Seg (S ++ S') (T ++ T') := fun l ts hc => by
 rw [zu, zu]
 exact h _ _ (h' _ _ hc)
theorem Seg.sp {t : List Int} (ht : Wrd t) : Seg (32 :: t) [t] := fun l ts h => Cont.sp (Cont.begin ht h)
theorem Seg.comma {t : List Int} (ht : Wrd t) : Seg (44 :: t) [[44], t] := fun l ts h => Cont.comma (Cont.begin ht h)
def Zu8 : List (List Int) → List (List Int)
 | [] => []
 | x :: r => x :: r.flatMap (fun y => [[44], y])
theorem Seg.commas : ∀ {l : List (List Int)}, (∀ x ∈ l, Wrd x) → Seg (l.flatMap fun y => [44] ++ y) (l.flatMap fun y => [[44], y])
 | [], _ => Seg.nil
 | x :: r, h => by
  rw [List.flatMap_cons, List.flatMap_cons]
  exact Seg.app (Seg.comma (h x (by simp))) (Seg.commas (fun y hy => h y (by simp [hy])))
theorem Seg.join {l : List (List Int)} (h0 : l ≠ []) (h : ∀ x ∈ l, Wrd x) : Seg (32 :: ZgG [44] l) (Zu8 l) := by
 cases l with
 | nil => exact absurd rfl h0
 | cons x r => exact Seg.app (Seg.sp (h x (by simp))) (Seg.commas (fun y hy => h y (by simp [hy])))
theorem Seg.one {S : List Int} {T : List (List Int)} (t : List Int) (ht : Wrd t) (h : Seg S T) : Seg (32 :: t ++ S) (t :: T) := Seg.app (Seg.sp ht) h
abbrev cWd := Zbr
def wdOf (w : ZaG) : Wd := (strI w.s, w.at_)
theorem Zrw {cur : List Int} {p c : Int} {cs : List Int} (h : Zh8 c = true) : lexM cur p (c :: cs) = lexM (cur ++ [c]) (p + 1) cs := by
 rw [lexM, if_pos h]
theorem Zrx {cur : List Int} {p c : Int} {cs : List Int} (h : Zh8 c = false) : lexM cur p (c :: cs) = match (if c = 44 then (match lexM [] (p + 1) cs with
    | .error q => .error q
    | .ok r => .ok (([44], p) :: r))
   else if c = 32 ∨ c = 9 then lexM [] (p + 1) cs else .error p : Except Int (List Wd)) with
   | .error q => .error q
   | .ok r => .ok (if cur = [] then r else (cur, p - cur.length) :: r) := by
 rw [lexM, if_neg (by rw [h]; decide)]
 try rfl
theorem ZtG {cur : List Int} {p : Int} {l : List Int} (hc : cur ≠ []) (hl : ∀ c cs, l = c :: cs → Zh8 c = false) : lexM cur p l = match lexM [] p l with
  | .error q => .error q
  | .ok r => .ok ((cur, p - cur.length) :: r) := by
 cases l with
 | nil => simp [lexM, hc]
 | cons c cs =>
  have := hl c cs rfl
  rw [Zrx this, Zrx this]
  generalize (if c = 44 then (match lexM [] (p + 1) cs with
    | .error q => .error q
    | .ok r => .ok (([44], p) :: r))
   else if c = 32 ∨ c = 9 then lexM [] (p + 1) cs else .error p : Except Int (List Wd)) = X
  cases X with
  | error q => rfl
  | ok r => simp [hc]
theorem Zxd {p c : Int} {cs : List Int} (h : Zh8 c = false) : lexM [] p (c :: cs) = if c = 44 then (match lexM [] (p + 1) cs with
    | .error q => .error q
    | .ok r => .ok (([44], p) :: r))
   else if c = 32 ∨ c = 9 then lexM [] (p + 1) cs else .error p := by
 rw [Zrx h]
 generalize (if c = 44 then (match lexM [] (p + 1) cs with
    | .error q => .error q
    | .ok r => .ok (([44], p) :: r))
   else if c = 32 ∨ c = 9 then lexM [] (p + 1) cs else .error p : Except Int (List Wd)) = X
 cases X with
 | error q => rfl
 | ok r => simp
theorem ZoH : ∀ (l cur : List Int) (p q : Int), 0 ≤ p → lexM cur p l = .error q → p ≤ q
 | [], cur, p, q, hp, h => by simp [lexM] at h
 | c :: cs, cur, p, q, hp, h => by
  rw [lexM] at h
  split at h
  ·have := ZoH cs _ _ _ (by omega) h
   omega
  ·split at h
   ·rename_i q' hq
    have : q' = q := by cases h; rfl
    subst this
    split at hq
    ·split at hq
     ·rename_i q2 h2
      have := ZoH cs _ _ _ (by omega) h2
      cases hq
      omega
     ·cases hq
    ·split at hq
     ·have := ZoH cs _ _ _ (by omega) hq
      omega
     ·cases hq
      omega
   ·cases h
def Zq8 (acc : List Wd) (X Y : Except Int (List Wd)) : Prop := X = match Y with
 | .error q => .error q
 | .ok r => .ok (acc ++ r)
section
variable {W w : World} {Hs : List HP}
def ZrV (W : World) (Hs : List HP) (X : Except Int (List Wd)) (r : Sl × Int) (w : World) : Prop := match X with
 | .ok ws => r.2 = -1 ∧ ∃ wl sp, wl.map wdOf = ws ∧ Ss W (vec cWd r.1 wl sp :: Hs) w
 | .error p => r.2 = p ∧ Ss W Hs w
theorem Zuy (s : Ss W Hs w) (t : ByteArray) (ht : t.size ≤ 1024) : WP (ZaP t) w (ZrV W Hs (lexM [] 0 (strI t))) := by
 unfold ZaP
 have hl := ZbI t
 have s := s.mk0 (A := vec cWd Sl.nil [] []) Zcv
 refine WP.loopG (γ := Nat × List ZaG × List ZaG) (fun g (z : Sl × Int) w => z.2 = (g.1 : Int) ∧ g.1 ≤ (strI t).length ∧ g.2.1.length ≤ g.1 ∧ Zq8 (g.2.1.map wdOf) (lexM [] 0 (strI t)) (lexM [] g.1 ((strI t).drop g.1)) ∧ Ss W (vec cWd z.1 g.2.1 g.2.2 :: Hs) w) (fun g _ => (strI t).length - g.1) (0, [], []) ⟨rfl, by simp, by simp, ?_, s⟩ ?_
 ·unfold Zq8
  have e0 : ((0 : Nat) : Int) = 0 := rfl
  simp only [List.map_nil, zN, List.drop_zero, e0]
  cases lexM [] 0 (strI t) <;> rfl
 clear s
 rintro ⟨k, wl, sp⟩ ⟨a, _⟩ w ⟨rfl, hk, hlen, ha, s⟩
 simp only at hk hlen ha s
 show WP (ZaP.L1 t a (k : Int)) w _
 unfold ZaP.L1
 refine WP.ite (fun h => ?_) (fun h => ?_)
 rotate_left
 ·have : k = (strI t).length := by omega
  subst this
  rw [zY] at ha
  refine WP.done ?_
  unfold Zq8 at ha
  simp only [lexM, if_true, zJ] at ha
  unfold ZrV
  rw [ha]
  exact ⟨rfl, wl, sp, rfl, s⟩
 have hk1 : k < (strI t).length := by omega
 refine WP.loopG (γ := Nat) (fun q (z : Int) w => z = (q : Int) ∧ k ≤ q ∧ q ≤ (strI t).length ∧ lexM [] k ((strI t).drop k) = lexM (((strI t).drop k).take (q - k)) q ((strI t).drop q) ∧ Ss W (vec cWd a wl sp :: Hs) w) (fun q _ => (strI t).length - q) k ⟨rfl, zB _, hk, by simp, s⟩ ?_
 clear s
 rintro q _ w ⟨rfl, hq1, hq2, hq, s⟩
 show WP (ZaP.L2 t a (k : Int) (q : Int)) w _
 unfold ZaP.L2
 refine WP.step (R := fun y w' => y = decide (q < (strI t).length ∧ (strI t).getD q 0 > 32) ∧ w = w') (WP.ite (fun h => WP.chk ⟨by omega, h⟩ (ret ⟨?_, rfl⟩)) (fun h => ret ⟨(zh (by omega)).symm, rfl⟩)) ?_
 ·rw [Zfh]
  exact decide_eq_decide.2 ⟨fun h' => ⟨by omega, h'⟩, fun h' => h'.2⟩
 rintro _ _ ⟨rfl, rfl⟩
 refine WP.step (R := fun y w' => y = decide (q < (strI t).length ∧ (strI t).getD q 0 > 32 ∧ (strI t).getD q 0 < 127) ∧ w = w') (WP.ite (fun h => WP.chk ⟨by omega, by have := zd h; omega⟩ (ret ⟨?_, rfl⟩)) (fun h => ret ⟨(zh (fun h' => h (zb ⟨h'.1, h'.2.1⟩))).symm, rfl⟩)) ?_
 ·rw [Zfh]
  have := zd h
  exact decide_eq_decide.2 ⟨fun h' => ⟨this.1, this.2, h'⟩, fun h' => h'.2.2⟩
 rintro _ _ ⟨rfl, rfl⟩
 refine WP.step (R := fun y w' => y = decide (q < (strI t).length ∧ Zh8 ((strI t).getD q 0) = true) ∧ w = w') (WP.ite (fun h => WP.chk ⟨by omega, by have := zd h; omega⟩ (ret ⟨?_, rfl⟩)) (fun h => ret ⟨(zh (fun h' => h (zb ?_))).symm, rfl⟩)) ?_
 ·rw [Zfh]
  have := zd h
  unfold Zh8
  rw [zj, bne_iff_ne]
  simp only [ze]
  exact ⟨fun h' => ⟨this.1, by omega, by omega, h'⟩, fun h' => h'.2.2.2⟩
 ·have := h'.2
  unfold Zh8 at this
  have := zd this
  exact ⟨h'.1, by omega, by omega⟩
 rintro _ _ ⟨rfl, rfl⟩
 have hd : q < (strI t).length → (strI t).drop q = (strI t).getD q 0 :: (strI t).drop (q + 1) := fun h => by
  rw [zQ h, List.getD, za h]
  rfl
 refine WP.ite (fun h => ?_) (fun h => ?_)
 ·obtain ⟨h1, h2⟩ := zd h
  refine WP.next ⟨q + 1, ⟨?_, by omega, h1, ?_, s⟩, by omega⟩
  ·rw [Zau (by omega) (by omega)]
   omega
  ·rw [hq, hd h1, Zrw h2]
   have e : ((strI t).drop k).take (q + 1 - k) = ((strI t).drop k).take (q - k) ++ [(strI t).getD q 0] := by
    rw [show q + 1 - k = (q - k) + 1 by omega, zy, List.getElem?_drop, show k + (q - k) = q by omega, List.getD, za h1]
    rfl
   rw [e]
   rfl
 refine WP.step (R := WP.Rd (fun (z : Sl × Int) w => ∃ g : Nat × List ZaG × List ZaG, (z.2 = (g.1 : Int) ∧ g.1 ≤ (strI t).length ∧ g.2.1.length ≤ g.1 ∧ Zq8 (g.2.1.map wdOf) (lexM [] 0 (strI t)) (lexM [] g.1 ((strI t).drop g.1)) ∧ Ss W (vec cWd z.1 g.2.1 g.2.2 :: Hs) w) ∧ (strI t).length - g.1 < (strI t).length - k) (ZrV W Hs (lexM [] 0 (strI t)))) ?_ (fun r w h => WP.done h)
 have hnb : ∀ c cs, (strI t).drop q = c :: cs → Zh8 c = false := fun c cs e => by
  have h1 : q < (strI t).length := zL fun hn => by
   rw [List.drop_of_length_le (by omega)] at e
   cases e
  rw [hd h1] at e
  cases e
  cases hb : Zh8 ((strI t).getD q 0) with
  | false => rfl
  | true => exact absurd (zb ⟨h1, hb⟩) h
 have hx : ∀ {j : Nat}, k ≤ j → j ≤ (strI t).length → strI (ByteArray.extract t k j) = ((strI t).drop k).take (j - k) := fun h1 h2 => Zdx _ _ _
 unfold ZaP.K1
 refine WP.chk ⟨by omega, by omega⟩ (WP.ite (fun h2 => ?_) (fun h2 => ?_))
 ·refine WP.chk ⟨by omega, by omega, by omega⟩ (WP.slot' s (fun _ w s => WP.appl s 0 rfl (by simp only [zo]; omega) (by decide) (fun a' w sp' s => ?_)))
  have hcur : ((strI t).drop k).take (q - k) ≠ [] := fun e => by
   have := congrArg List.length e
   simp at this
   omega
  refine WP.next ⟨(q, _, sp'), ⟨rfl, hq2, ?_, ?_, s⟩, by simp only; omega⟩
  ·simp only [zc, zo]
   omega
  ·unfold Zq8 at ha ⊢
   rw [ha, hq, ZtG hcur hnb]
   have el : ((((strI t).drop k).take (q - k)).length : Int) = q - k := by
    rw [zm, zw]
    omega
   cases lexM [] (q : Int) ((strI t).drop q) with
   | error p => rfl
   | ok r =>
    simp only [zE, List.map_cons, List.map_nil, zu, zV, zN, wdOf, zg]
    rw [hx hq1 hq2, el]
    simp only [Except.ok.injEq, List.append_cancel_left_eq, List.cons.injEq, zA, true_and, and_true]
    omega
 have hqk : q = k := by omega
 subst hqk
 have hc := hnb _ _ (hd hk1)
 have ha' := ha
 rw [hd hk1, Zxd hc] at ha'
 refine WP.ite (fun h3 => ?_) (fun h3 => ?_)
 ·rw [Zfh] at h3
  rw [if_pos h3] at ha'
  have hw : wrap .i64 ((q : Int) + 1) = ((q + 1 : Nat) : Int) := by
   rw [Zau (by omega) (by omega)]
   omega
  rw [hw]
  refine WP.chk ⟨by omega, by omega, by omega⟩ (WP.slot' s (fun _ w s => WP.appl s 0 rfl (by simp only [zo]; omega) (by decide) (fun a' w sp' s => ?_)))
  refine WP.next ⟨(q + 1, _, sp'), ⟨rfl, by simp only; omega, ?_, ?_, s⟩, by simp only; omega⟩
  ·simp only [zc, zo]
   omega
  ·unfold Zq8 at ha' ⊢
   rw [ha']
   have e : ((q + 1 : Nat) : Int) = (q : Int) + 1 := by omega
   simp only [e]
   have e2 : strI (ByteArray.extract t q (q + 1)) = [44] := by
    rw [hx (by omega) (by omega), show q + 1 - q = 0 + 1 by omega, hd hk1, h3]
    rfl
   cases lexM [] ((q : Int) + 1) ((strI t).drop (q + 1)) with
   | error p => rfl
   | ok r =>
    simp only [zE, List.map_cons, List.map_nil, zu, zV, zN, wdOf, zg]
    rw [show ((q : Int) + 1).toNat = q + 1 by omega, e2]
 ·rw [Zfh] at h3
  rw [if_neg h3] at ha'
  refine WP.step (R := fun y w' => y = decide ((strI t).getD q 0 = 32 ∨ (strI t).getD q 0 = 9) ∧ w = w') (WP.ite (fun h4 => ret ⟨?_, rfl⟩) (fun h4 => ret ⟨?_, rfl⟩)) ?_
  ·rw [Zfh] at h4
   exact (zb (.inl h4)).symm
  ·rw [Zfh] at h4 ⊢
   rw [zj, zq, ze]
   exact ⟨fun h => .inr h, fun h => h.elim (fun h => absurd h h4) id⟩
  rintro _ _ ⟨rfl, rfl⟩
  refine WP.ite (fun h4 => ?_) (fun h4 => ?_)
  ·rw [if_pos (zd h4)] at ha'
   refine WP.next ⟨(q + 1, wl, sp), ⟨?_, by simp only; omega, by simp only; omega, ?_, s⟩, by simp only; omega⟩
   ·simp only
    rw [Zau (by omega) (by omega)]
    omega
   ·have e : ((q + 1 : Nat) : Int) = (q : Int) + 1 := by omega
    simp only [e]
    exact ha'
  ·rw [if_neg (fun h => h4 (zb h))] at ha'
   refine WP.done ?_
   unfold Zq8 at ha'
   simp only at ha'
   unfold ZrV
   rw [ha']
   exact ⟨rfl, s.drop⟩
theorem Zli (t : ByteArray) (lo hi : Int) : WP (Zbg t lo hi) w (fun r w' => r.2 = (numR (strI t) lo hi).isSome ∧ (∀ v, numR (strI t) lo hi = some v → r.1 = v) ∧ w = w') := by
 unfold Zbg
 have hl := ZbI t
 refine WP.step (R := fun y w' => y = decide (strI t = [] ∨ (strI t).length > 9) ∧ w = w') (WP.ite (fun h => ret ⟨?_, rfl⟩) (fun h => ret ⟨?_, rfl⟩)) ?_
 ·rw [Zch] at h
  exact (zb (.inl h)).symm
 ·rw [Zch] at h
  exact decide_eq_decide.2 ⟨fun h' => .inr (by omega), fun h' => h'.elim (fun h' => absurd h' h) (fun h' => by omega)⟩
 rintro _ _ ⟨rfl, rfl⟩
 have h0 : ¬ (strI t = [] ∨ (strI t).length > 9) → 0 < (strI t).length := fun h => by
  cases e : strI t with
  | nil => exact absurd (.inl e) h
  | cons a l => simp
 refine WP.step (R := fun y w' => y = decide (strI t = [] ∨ (strI t).length > 9 ∨ ((strI t).getD 0 0 = 48 ∧ (strI t).length > 1)) ∧ w = w') (WP.ite (fun h => ret ⟨?_, rfl⟩) (fun h => WP.chk ⟨by omega, ?_⟩ ?_)) ?_
 ·have := zd h
  exact (zb (this.elim .inl (fun h => .inr (.inl h)))).symm
 ·have := h0 (fun h' => h (zb h'))
  omega
 ·have hn : ¬ (strI t = [] ∨ (strI t).length > 9) := fun h' => h (zb h')
  have hs0 : sb t 0 = (strI t).getD 0 0 := Zfh (i := 0)
  rw [hs0]
  refine WP.step (R := fun y w' => y = decide ((strI t).getD 0 0 = 48 ∧ (strI t).length > 1) ∧ w = w') (WP.ite (fun h2 => ret ⟨decide_eq_decide.2 ⟨fun h' => ⟨h2, by omega⟩, fun h' => by omega⟩, rfl⟩) (fun h2 => ret ⟨(zh (fun h' => h2 h'.1)).symm, rfl⟩)) ?_
  rintro _ _ ⟨rfl, rfl⟩
  exact ret ⟨decide_eq_decide.2 ⟨fun h' => .inr (.inr h'), fun h' => by
   rcases h' with h' | h' | h'
   ·exact absurd (.inl h') hn
   ·exact absurd (.inr h') hn
   ·exact h'⟩, rfl⟩
 rintro _ _ ⟨rfl, rfl⟩
 refine WP.ite (fun h => ret ?_) (fun h => ?_)
 ·have h' := zd h
  have e : numR (strI t) lo hi = none := by
   unfold numR
   rw [if_pos (by rcases h' with h' | h' | h'; exact .inl h'; exact .inr (.inl h'); exact .inr (.inr (.inl h')))]
  rw [e]
  exact ⟨rfl, (fun v hv => by cases hv), rfl⟩
 have hn : ¬ (strI t = [] ∨ (strI t).length > 9 ∨ ((strI t).getD 0 0 = 48 ∧ (strI t).length > 1)) := fun h' => h (zb h')
 have h9 : (strI t).length ≤ 9 := zL fun h' => hn (.inr (.inl (by omega)))
 refine WP.loopG (γ := Nat) (fun k (z : Int × Int) w' => z = ((valD ((strI t).take k) : Int), (k : Int)) ∧ k ≤ (strI t).length ∧ (∀ c ∈ (strI t).take k, Zfy c = true) ∧ w = w') (fun k _ => (strI t).length - k) 0 ⟨rfl, zF _, by simp, rfl⟩ ?_
 rintro k _ _ ⟨rfl, hk, hd, rfl⟩
 show WP (Zbg.L1 t lo hi (valD ((strI t).take k) : Int) (k : Int)) w _
 unfold Zbg.L1
 have hb : ∀ j, 0 ≤ (strI t).getD j 0 ∧ (strI t).getD j 0 ≤ 255 := fun j => by
  have := Zj3 t j
  rw [Zfh] at this
  exact this
 have hv := ZsU 9 ((strI t).take k) (by rw [zm]; omega) hd
 refine WP.ite (fun h1 => ?_) (fun h1 => ?_)
 ·have hk1 : k < (strI t).length := by omega
  refine WP.chk ⟨by omega, h1⟩ ?_
  rw [Zfh]
  have ht : (strI t).take (k + 1) = (strI t).take k ++ [(strI t).getD k 0] := by
   rw [zy, List.getD, za hk1]
   rfl
  refine WP.step (R := fun y w' => y = !Zfy ((strI t).getD k 0) ∧ w = w') (WP.ite (fun h2 => ret ⟨?_, rfl⟩) (fun h2 => WP.chk ⟨by omega, h1⟩ (ret ⟨?_, rfl⟩))) ?_
  ·unfold Zfy
   rw [zh (by omega)]
   rfl
  ·unfold Zfy
   rw [zj, Bool.not_eq_true', ze, zX]
   omega
  rintro _ _ ⟨rfl, rfl⟩
  refine WP.ite (fun h2 => WP.done ?_) (fun h2 => WP.chk ⟨by omega, h1⟩ (WP.next ⟨k + 1, ⟨?_, hk1, ?_, rfl⟩, by omega⟩))
  ·have e : numR (strI t) lo hi = none := by
    unfold numR
    rw [if_pos]
    refine .inr (.inr (.inr ?_))
    rw [← Bool.not_eq_true, List.all_eq_true]
    intro hall
    have := hall ((strI t).getD k 0) (by rw [List.getD, za hk1]; exact List.getElem_mem hk1)
    rw [this] at h2
    cases h2
   rw [e]
   exact ⟨rfl, (fun v hv => by cases hv), rfl⟩
  ·have hdg : 48 ≤ (strI t).getD k 0 ∧ (strI t).getD k 0 ≤ 57 := by
    have : Zfy ((strI t).getD k 0) = true := by simpa using h2
    exact zd this
   rw [ht, Zl6, Zgo (by omega) (by omega), Zau (n := 10 * (valD ((strI t).take k) : Int)) (by omega) (by omega), Zau (n := (strI t).getD k 0 - 48) (by omega) (by omega), Zau (by omega) (by omega), Zau (by omega) (by omega)]
   refine Prod.ext ?_ ?_
   ·simp only
    omega
   ·simp only
    omega
  ·intro c hc
   rw [ht] at hc
   rcases List.mem_append.1 hc with hc | hc
   ·exact hd c hc
   ·rw [List.mem_singleton.1 hc]
    simpa using h2
 ·have : k = (strI t).length := by omega
  subst this
  rw [zI] at hd ⊢
  have e : numR (strI t) lo hi = if lo ≤ (valD (strI t) : Int) ∧ (valD (strI t) : Int) ≤ hi then some (valD (strI t) : Int) else none := by
   unfold numR
   rw [if_neg]
   rintro (h' | h' | h' | h')
   ·exact hn (.inl h')
   ·exact hn (.inr (.inl h'))
   ·exact hn (.inr (.inr h'))
   ·rw [← Bool.not_eq_true, List.all_eq_true] at h'
    exact h' hd
  refine WP.step (R := fun y w' => y = decide (lo ≤ (valD (strI t) : Int) ∧ (valD (strI t) : Int) ≤ hi) ∧ w = w') ?_ ?_
  ·unfold ZbT
   refine WP.step (R := fun y w' => y = decide (lo ≤ (valD (strI t) : Int) ∧ (valD (strI t) : Int) ≤ hi) ∧ w = w') (WP.ite (fun h2 => ret ⟨decide_eq_decide.2 ⟨fun h' => ⟨h2, h'⟩, fun h' => h'.2⟩, rfl⟩) (fun h2 => ret ⟨(zh (fun h' => h2 h'.1)).symm, rfl⟩)) (fun y w h => ret h)
  rintro _ _ ⟨rfl, rfl⟩
  refine WP.done ?_
  rw [e]
  by_cases hh : lo ≤ (valD (strI t) : Int) ∧ (valD (strI t) : Int) ≤ hi
  ·rw [if_pos hh]
   exact ⟨zb hh, (fun v hv => by cases hv; rfl), rfl⟩
  ·rw [if_neg hh]
   exact ⟨zh hh, (fun v hv => by cases hv), rfl⟩
end
theorem At.trans' {l m k m' l' : List Value} {o o' : Nat} (h : At l o m) (h' : Upd m o' k m') (hl : Upd l o m' l') : Upd l (o + o') k l' := Upd.trans h h' hl
abbrev cRr := Zbm
abbrev cRg := Zbd
abbrev cPfx := ZaI
theorem ZwU : strI str1 = tx "tcp" := by decide +kernel
theorem ZwT : strI str2 = tx "udp" := by decide +kernel
theorem ZvU : strI str3 = tx "icmp" := by decide +kernel
theorem ZuF : strI str4 = tx "icmp6" := by decide +kernel
theorem ZuE : strI str5 = tx "proto" := by decide +kernel
theorem ZiT : strI str0 = comma := by decide +kernel
def RSc (r : Zaf) (m : ZaR) : Prop := r.Act = m.Act ∧ r.Class = m.Class ∧ r.Kind = m.Kind ∧ r.Proto = m.Proto ∧ r.In = m.In ∧ r.Vid = m.Vid ∧ r.Set = m.Set ∧ r.Clear = m.Clear ∧ r.Type_ = m.Type_ ∧ r.Pieces = m.Pieces
def ZjW (sd : Zar) (m : Zek) : HP := ex (fun _ : List Zag × List ZaH => sd.Not = m.Not) (fun q => seps [vec cPfx sd.Nets m.nets q.1, vec cRg sd.Ports m.ports q.2])
def WlOk (wl : List ZaG) : Prop := wl.length ≤ 2000 ∧ ∀ r ∈ wl, r.s.size ≤ 2000
def RrFs (e : Int) (wl : List ZaG) (m : ZaR) (ws : List Wd) (q : Zbp × Nat) : Prop := q.1.i = (q.2 : Int) ∧ q.1.end_ = e ∧ q.1.err = 0 ∧ q.2 ≤ wl.length ∧ WlOk wl ∧ ws = (wl.drop q.2).map wdOf ∧ RSc q.1.rule m
def RrHs (b : Nat) (wl : List ZaG) (m : ZaR) (rr : Zbp) : List HP := [pts true (pt b 0) (cRr.enc rr), rdS cWd false rr.l wl, ZjW rr.rule.From m.From, ZjW rr.rule.To m.To]
def RrA (b : Nat) (wl : List ZaG) (e : Int) (m : ZaR) (ws : List Wd) : HP := ex (RrFs e wl m ws) (fun q => seps (RrHs b wl m q.1))
def RrD (b : Nat) (f : PF) : HP := ex (fun rr : Zbp => rr.err = f.1 ∧ rr.at_ = f.2 ∧ f.1 ≠ 0) (fun rr => pts true (pt b 0) (cRr.enc rr))
section
variable {W w : World} {Hs : List HP} {b : Nat} {wl : List ZaG} {e : Int} {m : ZaR} {ws : List Wd} {f : PF}
theorem Zid (s : Ss W (RrA b wl e m ws :: Hs) w) : ∃ q, RrFs e wl m ws q ∧ Ss W (RrHs b wl m q.1 ++ Hs) w := by
 obtain ⟨q, hq, s⟩ := s.openx 0 rfl
 exact ⟨q, hq, Ss.split s⟩
theorem Zln {q : Zbp × Nat} (hq : RrFs e wl m ws q) (s : Ss W (RrHs b wl m q.1 ++ Hs) w) : Ss W (RrA b wl e m ws :: Hs) w := s.group.first (fun h hh => ⟨q, hq, hh⟩)
theorem ZvL {rr : Zbp} (h1 : rr.err = f.1) (h2 : rr.at_ = f.2) (h3 : f.1 ≠ 0) (s : Ss W (pts true (pt b 0) (cRr.enc rr) :: Hs) w) : Ss W (RrD b f :: Hs) w := s.first (fun h hh => ⟨rr, ⟨h1, h2, h3⟩, hh⟩)
theorem wsOk (s : Ss W (RrA b wl e m ws :: Hs) w) : ∀ x ∈ ws, x.1.length ≤ 2000 := by
 obtain ⟨q, hq, s⟩ := Zid s
 intro x hx
 rw [hq.2.2.2.2.2.1] at hx
 obtain ⟨r, hr, rfl⟩ := List.mem_map.1 hx
 have := hq.2.2.2.2.1.2 r (List.mem_of_mem_drop hr)
 show (strI r.s).length ≤ 2000
 rw [ZbI]
 exact this
theorem errA {β : Type} {g : Int → M β} {Q : β → World → Prop} (s : Ss W (RrA b wl e m ws :: Hs) w) (k : WP (g 0) w Q) : WP (ld (cI .i64) (Addr.add (pt b 0) 19) >>= g) w Q := by
 obtain ⟨q, hq, s1⟩ := Zid s
 refine WP.ld (x := q.1.err) s1 0 rfl (o := 19) rfl (Zew _) ?_
 rw [hq.2.2.1]
 exact k
theorem errD {β : Type} {g : Int → M β} {Q : β → World → Prop} (s : Ss W (RrD b f :: Hs) w) (k : f.1 ≠ 0 → WP (g f.1) w Q) : WP (ld (cI .i64) (Addr.add (pt b 0) 19) >>= g) w Q := by
 obtain ⟨rr, hq, s1⟩ := s.openx 0 rfl
 refine WP.ld (x := rr.err) s1 0 rfl (o := 19) rfl (Zew _) ?_
 rw [hq.1]
 exact k hq.2.2
theorem ZqO {β : Type} {g : Int → M β} {Q : β → World → Prop} (s : Ss W (RrA b wl e m ws :: Hs) w) (k : WP (g m.Kind) w Q) : WP (ld (cI .i64) (Addr.add (Addr.add (pt b 0) 3) 2) >>= g) w Q := by
 obtain ⟨q, hq, s1⟩ := Zid s
 refine WP.ld (x := q.1.rule.Kind) s1 0 rfl (o := 5) rfl ((ZbX _).trans (ZbY _)) ?_
 rw [hq.2.2.2.2.2.2.2.2.1]
 exact k
theorem Ztn {β : Type} {g : Int → M β} {Q : β → World → Prop} (s : Ss W (RrA b wl e m ws :: Hs) w) (k : WP (g m.Proto) w Q) : WP (ld (cI .i64) (Addr.add (Addr.add (pt b 0) 3) 3) >>= g) w Q := by
 obtain ⟨q, hq, s1⟩ := Zid s
 refine WP.ld (x := q.1.rule.Proto) s1 0 rfl (o := 6) rfl ((ZbX _).trans (ZbD _)) ?_
 rw [hq.2.2.2.2.2.2.2.2.2.1]
 exact k
def Zx8 (W : World) (Hs : List HP) (b : Nat) (wl : List ZaG) (e : Int) (m : ZaR) (r : ZaG) (w : World) : List Wd → Prop
 | [] => r = Zdf ∧ Ss W (RrD b (161, e) :: Hs) w
 | x :: xs => wdOf r = x ∧ Ss W (RrA b wl e m xs :: Hs) w
def Zx9 (W : World) (Hs : List HP) (b : Nat) (wl : List ZaG) (e : Int) (m : ZaR) (r : ZaG) (w : World) : List Wd → Prop
 | [] => r = Zdf ∧ Ss W (RrD b (161, e) :: Hs) w
 | x :: xs => wdOf r = x ∧ Ss W ((if x.1 = comma then RrD b (160, x.2) else RrA b wl e m xs) :: Hs) w
def ZxC (W : World) (Hs : List HP) (b : Nat) (wl : List ZaG) (e : Int) (m : ZaR) (ws : List Wd) (r : Bool) (w : World) : Option (List Wd) → Prop
 | some xs => r = true ∧ Ss W (RrA b wl e m xs :: Hs) w
 | none => r = false ∧ Ss W (RrA b wl e m ws :: Hs) w
def ResR {α : Type} (W : World) (Hs : List HP) (b : Nat) (wl : List ZaG) (e : Int) (m : ZaR) (r : α) (w : World) : PE (α × List Wd) → Prop
 | .ok q => r = q.1 ∧ Ss W (RrA b wl e m q.2 :: Hs) w
 | .error f => Ss W (RrD b f :: Hs) w
def RulR (W : World) (Hs : List HP) (b : Nat) (wl : List ZaG) (e : Int) (w : World) : PE (ZaR × List Wd) → Prop
 | .ok q => Ss W (RrA b wl e q.1 q.2 :: Hs) w
 | .error f => Ss W (RrD b f :: Hs) w
theorem ZdV (s : Ss W (RrA b wl e m ws :: Hs) w) {e' : Int} (he : e' ≠ 0) (a' : Int) : WP (Za0 (some (pt b 0)) e' a') w (fun _ w' => Ss W (RrD b (e', a') :: Hs) w') := by
 unfold Za0
 refine WP.nilck (errA s (WP.ite (fun _ => ?_) (fun h => absurd rfl h)))
 obtain ⟨q, hq, s⟩ := Zid s
 have s : Ss W (pts true (pt b 0) (cRr.enc q.1) :: Hs) w := by
  have s := (s.use [1, 1, 1] rfl).drop.drop.drop
  exact s
 refine WP.nilck (WP.st s 0 rfl (o := 19) rfl (ZjS _ _) (fun w s => WP.nilck (WP.st s 0 rfl (o := 20) rfl (ZjT _ _) (fun w s => ret ?_))))
 exact ZvL rfl rfl he s
theorem Zkk {i : Nat} {x : Wd} {xs : List Wd} (h : x :: xs = (wl.drop i).map wdOf) : ∃ r, wl[i]? = some r ∧ wdOf r = x ∧ xs = (wl.drop (i + 1)).map wdOf ∧ i < wl.length := by
 have h1 : i < wl.length := zL fun hn => by
  rw [List.drop_of_length_le (by omega)] at h
  cases h
 rw [zQ h1, List.map_cons] at h
 injection h with h2 h3
 exact ⟨wl[i], za h1, h2.symm, h3, h1⟩
theorem ZoN {i : Nat} (h : ([] : List Wd) = (wl.drop i).map wdOf) (hi : i ≤ wl.length) : i = wl.length := by
 have := congrArg List.length h
 simp at this
 omega
theorem Ziw (s : Ss W (RrA b wl e m ws :: Hs) w) : WP (ZaO (some (pt b 0))) w (fun r w' => Zx8 W Hs b wl e m r w' ws) := by
 unfold ZaO
 refine WP.slot' s (fun _ w s => WP.draw' s (fun w s => WP.nilck (errA s ?_)))
 refine WP.step (R := fun y w' => y = decide (ws = []) ∧ w = w') (WP.ite (fun _ => ?_) (fun h => absurd rfl h)) ?_
 ·obtain ⟨q, hq, s⟩ := Zid s
  have hl := (s.rd_cap (i := 1) rfl).1
  refine WP.nilck (WP.ld (x := q.1.i) s 0 rfl (o := 1) rfl (ZbC _) (WP.nilck (WP.ld (x := q.1.l) s 0 rfl (o := 0) (by simp [Addr.add]) (Zcs _) (ret ⟨?_, rfl⟩))))
  rw [hq.1, hl, zj, zq, ze, hq.2.2.2.2.2.1]
  have := hq.2.2.2.1
  constructor
  ·intro h
   rw [List.drop_of_length_le (by omega)]
   rfl
  ·intro h
   have := ZoN h.symm hq.2.2.2.1
   omega
 rintro _ _ ⟨rfl, rfl⟩
 cases ws with
 | nil =>
  refine WP.ite (fun _ => ?_) (fun h => absurd (zb rfl) h)
  have he : ∀ {β : Type} {g : Int → M β} {Q : β → World → Prop}, WP (g e) w Q → WP (ld (cI .i64) (Addr.add (pt b 0) 2) >>= g) w Q := by
   intro β g Q k
   obtain ⟨q, hq, s⟩ := Zid s
   refine WP.ld (x := q.1.end_) s 0 rfl (o := 2) rfl (Zjg _) ?_
   rw [hq.2.1]
   exact k
  refine WP.nilck (he (WP.step (ZdV s (by decide) e) ?_))
  intro _ w s
  unfold ZaO.K1
  exact WP.nilck (errD s (fun h => WP.ite (fun _ => ret ⟨rfl, s⟩) (fun h' => absurd h h')))
 | cons x xs =>
  refine WP.ite (fun h => by simp at h) (fun _ => ?_)
  unfold ZaO.K1
  refine WP.nilck (errA s (WP.ite (fun h => absurd rfl h) (fun _ => ?_)))
  obtain ⟨⟨rr, i⟩, hq, s⟩ := Zid s
  obtain ⟨h1, h2, h3, h4, h5, h6, h7⟩ := hq
  have h50 := h5.1
  simp only at h1 h2 h3 h4 h5 h6 h7 s
  obtain ⟨r, hr, hx, hxs, hi⟩ := Zkk h6
  have hw : wrap .i64 ((i : Int) + 1) = ((i + 1 : Nat) : Int) := by
   rw [Zau (by omega) (by omega)]
   omega
  have hw2 : wrap .i64 (((i + 1 : Nat) : Int) - 1) = (i : Int) := by
   rw [Zau (by omega) (by omega)]
   omega
  refine WP.nilck (WP.ld (x := rr.i) s 0 rfl (o := 1) rfl (ZbC _) (WP.nilck ?_))
  rw [h1, hw]
  refine WP.st s 0 rfl (o := 1) rfl (ZfR _ _) (fun w s => WP.draw' s (fun w s => WP.nilck (WP.ld (x := rr.l) s 0 rfl (o := 0) (by simp [Addr.add]) (Zcs _) (WP.nilck (WP.ld (x := ((i + 1 : Nat) : Int)) s 0 rfl (o := 1) rfl (ZbC _) ?_)))))
  rw [hw2]
  refine WP.rdx s 1 rfl ZbM (by omega) (x := r) (by rw [zg]; exact hr) rfl (ret ⟨hx, ?_⟩)
  exact Zln (q := (⟨rr.l, ((i + 1 : Nat) : Int), rr.end_, rr.rule, rr.err, rr.at_⟩, i + 1)) ⟨rfl, h2, h3, hi, h5, hxs, h7⟩ s
theorem Zqy (s : Ss W (RrD b f :: Hs) w) : WP (ZaO (some (pt b 0))) w (fun r w' => r = Zdf ∧ Ss W (RrD b f :: Hs) w') := by
 unfold ZaO
 refine WP.slot' s (fun _ w s => WP.draw' s (fun w s => WP.nilck (errD s (fun h => ?_))))
 refine WP.step (R := fun y w' => y = false ∧ w = w') (WP.ite (fun h' => absurd h' h) (fun _ => ret ⟨rfl, rfl⟩)) ?_
 rintro _ _ ⟨rfl, rfl⟩
 refine WP.ite (fun h => by cases h) (fun _ => ?_)
 unfold ZaO.K1
 exact WP.nilck (errD s (fun h => WP.ite (fun _ => ret ⟨rfl, s⟩) (fun h' => absurd h h')))
theorem Zix (s : Ss W (RrA b wl e m ws :: Hs) w) : WP (Zb0 (some (pt b 0))) w (fun r w' => Zx9 W Hs b wl e m r w' ws) := by
 unfold Zb0
 refine WP.slot' s (fun _ w s => WP.step (Ziw s) ?_)
 intro r w h
 cases ws with
 | nil =>
  obtain ⟨hx, s1⟩ := h
  subst hx
  refine WP.slot' s1 (fun _ w s => WP.ite (fun h => ?_) (fun h => ret ⟨rfl, s⟩))
  rw [Zch, ZiT] at h
  cases h
 | cons x xs =>
  obtain ⟨hx, s1⟩ := h
  subst hx
  refine WP.slot' s1 (fun _ w s => WP.ite (fun h => WP.step (ZdV s (by decide) r.at_) ?_) (fun h => ret ⟨rfl, ?_⟩))
  ·intro _ w s
   rw [Zch, ZiT] at h
   refine ret ⟨rfl, ?_⟩
   rw [if_pos (show (wdOf r).1 = comma from h)]
   exact s
  ·rw [Zch, ZiT] at h
   rw [if_neg (show ¬ (wdOf r).1 = comma from h)]
   exact s
theorem Zgq (s : Ss W (RrA b wl e m ws :: Hs) w) {t : ByteArray} {t' : List Int} (ht : strI t = t') : WP (Zbo (some (pt b 0)) t) w (fun r w' => ZxC W Hs b wl e m ws r w' (Zd9 t' ws)) := by
 subst ht
 unfold Zbo
 refine WP.draw' s (fun w s => WP.nilck (errA s ?_))
 refine WP.step (R := fun y w' => y = decide (ws = []) ∧ w = w') (WP.ite (fun h => absurd rfl h) (fun _ => ?_)) ?_
 ·obtain ⟨q, hq, s⟩ := Zid s
  have hl := (s.rd_cap (i := 1) rfl).1
  refine WP.nilck (WP.ld (x := q.1.i) s 0 rfl (o := 1) rfl (ZbC _) (WP.nilck (WP.ld (x := q.1.l) s 0 rfl (o := 0) (by simp [Addr.add]) (Zcs _) (ret ⟨?_, rfl⟩))))
  rw [hq.1, hl, zj, zq, ze, hq.2.2.2.2.2.1]
  have := hq.2.2.2.1
  constructor
  ·intro h
   rw [List.drop_of_length_le (by omega)]
   rfl
  ·intro h
   have := ZoN h.symm hq.2.2.2.1
   omega
 rintro _ _ ⟨rfl, rfl⟩
 cases ws with
 | nil =>
  refine WP.step (R := fun y w' => y = true ∧ w = w') (WP.ite (fun _ => ret ⟨rfl, rfl⟩) (fun h => absurd (zb rfl) h)) ?_
  rintro _ _ ⟨rfl, rfl⟩
  exact WP.ite (fun _ => ret ⟨rfl, s⟩) (fun h => absurd rfl h)
 | cons x xs =>
  obtain ⟨⟨rr, i⟩, hq, s1⟩ := Zid s
  obtain ⟨h1, h2, h3, h4, h5, h6, h7⟩ := hq
  have h50 := h5.1
  simp only at h1 h2 h3 h4 h5 h6 h7 s1
  obtain ⟨r, hr, hx, hxs, hi⟩ := Zkk h6
  have hr' : wl[(i : Int).toNat]? = some r := by rw [zg]; exact hr
  have hw : wrap .i64 ((i : Int) + 1) = ((i + 1 : Nat) : Int) := by
   rw [Zau (by omega) (by omega)]
   omega
  refine WP.step (R := fun y w' => y = !decide (x.1 = strI t) ∧ w = w') (WP.ite (fun h => by simp at h) (fun _ => ?_)) ?_
  ·refine WP.nilck (WP.ld (x := rr.l) s1 0 rfl (o := 0) (by simp [Addr.add]) (Zcs _) (WP.nilck (WP.ld (x := rr.i) s1 0 rfl (o := 1) rfl (ZbC _) ?_)))
   rw [h1]
   refine WP.rdxp0 s1 1 rfl ZbM (by omega) hr' rfl (Zbq _) (ret ⟨?_, rfl⟩)
   congr 1
   rw [zj, zq, ze, Zch, ← hx]
   exact Iff.rfl
  rintro _ _ ⟨rfl, rfl⟩
  rw [show Zd9 (strI t) (x :: xs) = if x.1 = strI t then some xs else none from rfl]
  by_cases hc : x.1 = strI t
  ·rw [if_pos hc]
   refine WP.ite (fun h => by simp [hc] at h) (fun _ => ?_)
   refine WP.nilck (WP.ld (x := rr.i) s1 0 rfl (o := 1) rfl (ZbC _) (WP.nilck ?_))
   rw [h1, hw]
   refine WP.st s1 0 rfl (o := 1) rfl (ZfR _ _) (fun w s => ret ⟨rfl, ?_⟩)
   exact Zln (q := (⟨rr.l, ((i + 1 : Nat) : Int), rr.end_, rr.rule, rr.err, rr.at_⟩, i + 1)) ⟨rfl, h2, h3, hi, h5, hxs, h7⟩ s
  ·rw [if_neg hc]
   exact WP.ite (fun _ => ret ⟨rfl, s⟩) (fun h => by simp [hc] at h)
theorem Zgr (s : Ss W (RrD b f :: Hs) w) (t : ByteArray) : WP (Zbo (some (pt b 0)) t) w (fun r w' => r = false ∧ Ss W (RrD b f :: Hs) w') := by
 unfold Zbo
 refine WP.draw' s (fun w s => WP.nilck (errD s (fun h => ?_)))
 refine WP.step (R := fun y w' => y = true ∧ w = w') (WP.ite (fun _ => ret ⟨rfl, rfl⟩) (fun h' => absurd h h')) ?_
 rintro _ _ ⟨rfl, rfl⟩
 refine WP.step (R := fun y w' => y = true ∧ w = w') (WP.ite (fun _ => ret ⟨rfl, rfl⟩) (fun h => absurd rfl h)) ?_
 rintro _ _ ⟨rfl, rfl⟩
 exact WP.ite (fun _ => ret ⟨rfl, s⟩) (fun h => absurd rfl h)
theorem ZlO (s : Ss W (RrA b wl e m ws :: Hs) w) (lo hi : Int) : WP (ZbU (some (pt b 0)) lo hi) w (fun r w' => ResR W Hs b wl e m r w' (numP e lo hi ws)) := by
 unfold ZbU
 refine WP.step (Zix s) ?_
 intro r w h
 have dead : ∀ {w : World} {f : PF}, Ss W (RrD b f :: Hs) w → WP (slot 90 >>= fun b2 => Zbg r.s lo hi >>= fun r3 => nilck (some (pt b 0)) >>= fun p4 => ld (cI .i64) (Addr.add p4 19) >>= fun x5 =>
   (if x5 = 0 then pure (!r3.2) else pure false) >>= fun y6 => if y6 = true then Za0 (some (pt b 0)) 162 r.at_ >>= fun r8 => pure r3.1 else pure r3.1) w (fun _ w' => Ss W (RrD b f :: Hs) w') := by
  intro w f s
  refine WP.slot' s (fun _ w s => WP.step (Zli r.s lo hi) ?_)
  rintro q _ ⟨-, -, rfl⟩
  refine WP.nilck (errD s (fun h => ?_))
  refine WP.step (R := fun y w' => y = false ∧ w = w') (WP.ite (fun h' => absurd h' h) (fun _ => ret ⟨rfl, rfl⟩)) ?_
  rintro _ _ ⟨rfl, rfl⟩
  exact WP.ite (fun h => by cases h) (fun _ => ret s)
 cases ws with
 | nil => exact dead h.2
 | cons x xs =>
  obtain ⟨hx, s1⟩ := h
  clear s
  have s := s1
  clear s1
  subst hx
  rw [show numP e lo hi (wdOf r :: xs) = if (wdOf r).1 = comma then .error (160, (wdOf r).2) else match numR (wdOf r).1 lo hi with
   | none => .error (162, (wdOf r).2)
   | some n => .ok (n, xs) from rfl]
  by_cases hc : (wdOf r).1 = comma
  ·rw [if_pos hc] at s ⊢
   exact dead s
  ·rw [if_neg hc] at s ⊢
   refine WP.slot' s (fun _ w s => WP.step (Zli r.s lo hi) ?_)
   rintro q _ ⟨h1, h2, rfl⟩
   have hr : (wdOf r).1 = strI r.s := rfl
   rw [hr]
   refine WP.nilck (errA s ?_)
   refine WP.step (R := fun y w' => y = !q.2 ∧ w = w') (WP.ite (fun _ => ret ⟨rfl, rfl⟩) (fun h => absurd rfl h)) ?_
   rintro _ _ ⟨rfl, rfl⟩
   rw [h1]
   cases hn : numR (strI r.s) lo hi with
   | none =>
    refine WP.ite (fun _ => WP.step (ZdV s (by decide) r.at_) ?_) (fun h => absurd rfl h)
    intro _ w s
    exact ret s
   | some v => exact WP.ite (fun h => by cases h) (fun _ => ret ⟨h2 v hn, s⟩)
theorem setA {β α : Type} {c : Cod α} {v : α} {o : Nat} {m' : ZaR} {g : Unit → M β} {Q : β → World → Prop} (s : Ss W (RrA b wl e m ws :: Hs) w) (r' : Zaf → Zaf) (up : ∀ r, Upd (Zah.enc r) o (c.enc v) (Zah.enc (r' r))) (hs : ∀ r, RSc r m → RSc (r' r) m') (hf : ∀ r, (r' r).From = r.From ∧ (r' r).To = r.To)
  (hm : m'.From = m.From ∧ m'.To = m.To) (k : ∀ w, Ss W (RrA b wl e m' ws :: Hs) w → WP (g ()) w Q) : WP (st c (Addr.add (Addr.add (pt b 0) 3) o) v >>= g) w Q := by
 obtain ⟨⟨rr, i⟩, hq, s⟩ := Zid s
 obtain ⟨h1, h2, h3, h4, h5, h6, h7⟩ := hq
 refine WP.st s 0 rfl (o := 3 + o) (by rw [Zd4]) ((ZbX rr).trans' (up rr.rule) (Zeb rr _)) (fun w s => k w ?_)
 refine Zln (q := (⟨rr.l, rr.i, rr.end_, r' rr.rule, rr.err, rr.at_⟩, i)) ⟨h1, h2, h3, h4, h5, h6, hs _ h7⟩ ?_
 unfold RrHs
 simp only
 rw [(hf rr.rule).1, (hf rr.rule).2, hm.1, hm.2]
 exact s
theorem setD {β α : Type} {c : Cod α} {v : α} {o : Nat} {g : Unit → M β} {Q : β → World → Prop} (s : Ss W (RrD b f :: Hs) w) (r' : Zaf → Zaf) (up : ∀ r, Upd (Zah.enc r) o (c.enc v) (Zah.enc (r' r))) (k : ∀ w, Ss W (RrD b f :: Hs) w → WP (g ()) w Q) : WP (st c (Addr.add (Addr.add (pt b 0) 3) o) v >>= g) w Q := by
 obtain ⟨rr, hq, s⟩ := s.openx 0 rfl
 refine WP.st s 0 rfl (o := 3 + o) (by rw [Zd4]) ((ZbX rr).trans' (up rr.rule) (Zeb rr _)) (fun w s => k w ?_)
 exact ZvL (rr := ⟨rr.l, rr.i, rr.end_, r' rr.rule, rr.err, rr.at_⟩) hq.1 hq.2.1 hq.2.2 s
theorem ZnV (t : ByteArray) : WP (ZdR t) w (fun r w' => r = (match Zml (strI t) with
  | some n => (n, true)
  | none => (0, false)) ∧ w = w') := by
 unfold ZdR Zml
 have e1 : t.toList = (str1).toList ↔ strI t = tx "tcp" := by rw [Zch, ZwU]
 have e2 : t.toList = (str2).toList ↔ strI t = tx "udp" := by rw [Zch, ZwT]
 have e3 : t.toList = (str3).toList ↔ strI t = tx "icmp" := by rw [Zch, ZvU]
 have e4 : t.toList = (str4).toList ↔ strI t = tx "icmp6" := by rw [Zch, ZuF]
 refine WP.ite (fun h => ret ⟨by rw [if_pos (e1.1 h)], rfl⟩) (fun h => WP.ite (fun h2 => ret ⟨by rw [if_neg (fun h' => h (e1.2 h')), if_pos (e2.1 h2)], rfl⟩) (fun h2 => WP.ite (fun h3 => ret ⟨by rw [if_neg (fun h' => h (e1.2 h')), if_neg (fun h' => h2 (e2.2 h')), if_pos (e3.1 h3)], rfl⟩) (fun h3 => WP.ite (fun h4 => ret ⟨by rw [if_neg (fun h' => h (e1.2 h')), if_neg (fun h' => h2 (e2.2 h')), if_neg (fun h' => h3 (e3.2 h')), if_pos (e4.1 h4)], rfl⟩) (fun h4 => ret ⟨by rw [if_neg (fun h' => h (e1.2 h')), if_neg (fun h' => h2 (e2.2 h')), if_neg (fun h' => h3 (e3.2 h')), if_neg (fun h' => h4 (e4.2 h'))], rfl⟩))))
theorem Zqd (s : Ss W Hs w) (r : ZaG) : WP (ZdT r) w (fun y w' => y = Zf4 (strI r.s) ∧ Ss W Hs w') := by
 unfold ZdT Zf4
 refine WP.slot' s (fun _ w s => WP.step (ZnV r.s) ?_)
 rintro _ _ ⟨rfl, rfl⟩
 cases Zml (strI r.s) with
 | some n =>
  refine WP.step (R := fun y w' => y = true ∧ w = w') (WP.ite (fun _ => ret ⟨rfl, rfl⟩) (fun h => absurd rfl h)) ?_
  rintro _ _ ⟨rfl, rfl⟩
  exact ret ⟨rfl, s⟩
 | none =>
  refine WP.step (R := fun y w' => y = decide (strI r.s = tx "proto") ∧ w = w') (WP.ite (fun h => by cases h) (fun _ => ret ⟨?_, rfl⟩)) ?_
  ·rw [zj, zq, ze, Zch, ZuE]
  rintro _ _ ⟨rfl, rfl⟩
  exact ret ⟨rfl, s⟩
theorem ZnT (s : Ss W (RrA b wl e m ws :: Hs) w) (r : ZaG) : WP (Zce (some (pt b 0)) r) w (fun _ w' => RulR W Hs b wl e w' (match Zgu e m.Kind (wdOf r) ws with
  | .ok q => .ok ({ m with Proto := q.1 }, q.2)
  | .error f => .error f)) := by
 unfold Zce Zgu
 have set : ∀ {w : World} {xs : List Wd} {n : Int}, Ss W (RrA b wl e m xs :: Hs) w → WP (nilck (some (pt b 0)) >>= fun p => st (cI .i64) (Addr.add (Addr.add p 3) 3) n >>= fun _ => pure ()) w (fun _ w' => Ss W (RrA b wl e { m with Proto := n } xs :: Hs) w') := by
  intro w xs n s
  exact WP.nilck (setA (m' := { m with Proto := n }) s (fun r => { r with Proto := n }) (fun r => ZeY r n) (fun r h => ⟨h.1, h.2.1, h.2.2.1, rfl, h.2.2.2.2⟩) (fun r => ⟨rfl, rfl⟩) ⟨rfl, rfl⟩ (fun w s => ret s))
 refine WP.slot' s (fun _ w s => WP.nilck (ZqO s (WP.ite (fun h => ?_) (fun h => ?_))))
 ·rw [if_pos h]
  refine WP.step (ZdV s (by decide) r.at_) ?_
  intro _ w s
  exact ret s
 rw [if_neg h]
 refine WP.step (ZnV r.s) ?_
 rintro _ _ ⟨rfl, rfl⟩
 have hr : (wdOf r).1 = strI r.s := rfl
 rw [hr]
 cases hp : Zml (strI r.s) with
 | some n => exact WP.ite (fun h => absurd rfl h) (fun _ => set s)
 | none =>
  refine WP.ite (fun _ => WP.step (ZlO s 1 255) ?_) (fun h => absurd (by simp) h)
  intro v w h
  cases hn : numP e 1 255 ws with
  | ok q =>
   rw [hn] at h
   obtain ⟨rfl, s⟩ := h
   exact set s
  | error f =>
   rw [hn] at h
   exact WP.nilck (setD h (fun r => { r with Proto := v }) (fun r => ZeY r v) (fun w s => ret s))
end
def NmP (g : Nat) (l : List ByteArray) : HP := ex (fun _ : Sl => True) (fun sl => seps [pts false ⟨g, 0, none⟩ (cL.enc sl), rdS cS false sl l])
theorem Ro.nmP {g : Nat} {l : List ByteArray} : Ro (NmP g l) := Ro.ex fun sl => Ro.seps fun A hA => by
 simp only [zU, List.not_mem_nil, or_false] at hA
 rcases hA with rfl | rfl
 ·exact Ro.pts
 ·exact Ro.rdS
def idxI (l : List (List Int)) (t : List Int) : Int := match idxT l t with
 | none => -1
 | some k => (k : Int)
theorem ZtQ (x : List Int) (l : List (List Int)) (t : List Int) : idxT (x :: l) t = if x = t then some 0 else (idxT l t).map (· + 1) := by
 unfold idxT
 rw [List.findIdx?_cons]
 by_cases h : x = t
 ·simp [h]
 ·simp [h]
theorem ZhL {l : List (List Int)} {t : List Int} {k : Nat} (h : idxT l t = some k) : k < l.length := by
 unfold idxT at h
 exact (List.findIdx?_eq_some_iff_getElem.1 h).1
def actB : List ByteArray := actN.map bstr
def ZjJ : List ByteArray := ZlB.map bstr
theorem Zup : actB.map strI = actN := by decide +kernel
theorem Zu7 : ZjJ.map strI = ZlB := by decide +kernel
theorem ZvB : strI str7 = tx "any" := by decide +kernel
theorem ZuG : strI str6 = tx "class" := by decide +kernel
section
variable {W w : World} {Hs : List HP}
theorem Zvc {A : HP} {sl : Sl} {l : List ByteArray} (s : Ss W Hs w) (i : Nat) (e : nth Hs i = some A) (rd : Rdb A cS sl l) (hl : l.length ≤ 1000) (t : ByteArray) : WP (Zav sl t) w (fun r w' => r = idxI (l.map strI) (strI t) ∧ w = w') := by
 unfold Zav
 have hn := (s.rd_len e rd).1
 refine WP.loopG (γ := Nat) (fun k (x : Int) w' => x = (k : Int) ∧ k ≤ l.length ∧ idxI (l.map strI) (strI t) = (match idxT ((l.drop k).map strI) (strI t) with
  | none => -1
  | some j => ((k + j : Nat) : Int)) ∧ w = w') (fun k _ => l.length - k) 0 ⟨rfl, zF _, by unfold idxI; simp, rfl⟩ ?_
 rintro k _ _ ⟨rfl, hk, hi, rfl⟩
 show WP (Zav.L1 sl t (k : Int)) w _
 unfold Zav.L1
 refine WP.ite (fun h => ?_) (fun h => WP.done ⟨?_, rfl⟩)
 ·have h1 : k < l.length := by omega
  have hd : (l.drop k).map strI = strI l[k] :: (l.drop (k + 1)).map strI := by rw [zQ h1, List.map_cons]
  rw [hd, ZtQ] at hi
  refine WP.rdx s i e rd (by omega) (x := l[k]) (by rw [zg, za h1]) rfl (WP.ite (fun h2 => WP.done ⟨?_, rfl⟩) (fun h2 => WP.next ⟨k + 1, ⟨?_, h1, ?_, rfl⟩, by omega⟩))
  ·rw [Zch] at h2
   rw [hi, if_pos h2.symm]
   rfl
  ·rw [Zau (by omega) (by omega)]
   omega
  ·rw [Zch] at h2
   rw [hi, if_neg (fun h => h2 h.symm)]
   cases idxT ((l.drop (k + 1)).map strI) (strI t) with
   | none => rfl
   | some j =>
    simp only [Option.map_some]
    congr 1
    omega
 ·have : k = l.length := by omega
  subst this
  rw [hi, zY]
  rfl
theorem ZiV {β : Type} {g : Nat} {l : List ByteArray} {t : ByteArray} {F : Int → M β} {Q : β → World → Prop} (s : Ss W Hs w) (i : Nat) (e : nth Hs i = some (NmP g l)) (hl : l.length ≤ 1000) (k : WP (F (idxI (l.map strI) (strI t))) w Q) : WP (ld cL ⟨g, 0, none⟩ >>= fun x => Zav x t >>= F) w Q := by
 obtain ⟨sl, -, s1⟩ := (s.dup e Ro.nmP).openx 0 rfl
 have s1 : Ss W (pts false ⟨g, 0, none⟩ (cL.enc sl) :: rdS cS false sl l :: Hs) w := Ss.split (l := [_, _]) s1
 refine WP.ld (x := sl) s1 0 rfl (o := 0) (by simp [Addr.add]) (At.whole _) (WP.step (Zvc s1 1 rfl ZbM hl t) ?_)
 rintro _ _ ⟨rfl, rfl⟩
 exact k
variable {b : Nat} {wl : List ZaG} {e : Int} {m : ZaR} {ws : List Wd} {f : PF}
theorem ldD {β α : Type} {c : Cod α} {o : Nat} {F : α → M β} {Q : β → World → Prop} (s : Ss W (RrD b f :: Hs) w) (g : Zaf → α) (ha : ∀ r, At (Zah.enc r) o (c.enc (g r))) (k : ∀ x, WP (F x) w Q) : WP (ld c (Addr.add (Addr.add (pt b 0) 3) o) >>= F) w Q := by
 obtain ⟨rr, hq, s1⟩ := s.openx 0 rfl
 exact WP.ld (x := g rr.rule) s1 0 rfl (o := 3 + o) (by rw [Zd4]) ((ZbX rr).trans (ha rr.rule)) (k _)
theorem ldA {β α : Type} {c : Cod α} {o : Nat} {v : α} {F : α → M β} {Q : β → World → Prop} (s : Ss W (RrA b wl e m ws :: Hs) w) (g : Zaf → α) (ha : ∀ r, At (Zah.enc r) o (c.enc (g r))) (hv : ∀ r, RSc r m → g r = v) (k : WP (F v) w Q) : WP (ld c (Addr.add (Addr.add (pt b 0) 3) o) >>= F) w Q := by
 obtain ⟨⟨rr, i⟩, hq, s1⟩ := Zid s
 refine WP.ld (x := g rr.rule) s1 0 rfl (o := 3 + o) (by rw [Zd4]) ((ZbX rr).trans (ha rr.rule)) ?_
 rw [hv rr.rule hq.2.2.2.2.2.2]
 exact k
def Zv9 : List Wd → Bool
 | [] => false
 | v :: _ => Zf4 v.1
def ZsO (e : Int) (k : Nat) : List Wd → PE ((Int × Int) × List Wd)
 | [] => .ok (((k : Int) + 1, 0), [])
 | v :: r => if Zf4 v.1 = true then (match Zgu e ((k : Int) + 1) v r with
  | .error f => .error f
  | .ok (n, r) => .ok (((k : Int) + 1, n), r)) else .ok (((k : Int) + 1, 0), v :: r)
theorem ZxO {β : Type} {F : Bool → M β} {Q : β → World → Prop} (s : Ss W (RrA b wl e m ws :: Hs) w) (k : WP (F (Zv9 ws)) w Q) (hk : ∀ w', Ss W (RrA b wl e m ws :: Hs) w' → WP (F (Zv9 ws)) w' Q) :
  WP ((nilck (some (pt b 0)) >>= fun p102 => ld (cI .i64) (Addr.add p102 1) >>= fun x103 => nilck (some (pt b 0)) >>= fun p104 => ld cL p104 >>= fun x105 => pure (decide (x103 < (x105.len : Int)))) >>= fun y106 =>
   (if y106 = true then nilck (some (pt b 0)) >>= fun p107 => ld cL p107 >>= fun x108 => nilck (some (pt b 0)) >>= fun p109 => ld (cI .i64) (Addr.add p109 1) >>= fun x110 => idx x108.a x108.len x110 2 >>= fun p111 => ld Zbr p111 >>= fun x112 => ZdT x112 >>= fun r113 => pure r113 else pure false) >>= F) w Q := by
 obtain ⟨⟨rr, i⟩, hq, s1⟩ := Zid s
 obtain ⟨h1, h2, h3, h4, h5, h6, h7⟩ := id hq
 simp only at h1 h2 h3 h4 h5 h6 h7 s1
 have hl := (s1.rd_cap (i := 1) rfl).1
 refine WP.step (R := fun y w' => y = decide (i < wl.length) ∧ w = w') (WP.nilck (WP.ld (x := rr.i) s1 0 rfl (o := 1) rfl (ZbC _) (WP.nilck (WP.ld (x := rr.l) s1 0 rfl (o := 0) (by simp [Addr.add]) (Zcs _) (ret ⟨?_, rfl⟩))))) ?_
 ·rw [h1, hl]
  exact decide_eq_decide.2 (by omega)
 rintro _ _ ⟨rfl, rfl⟩
 cases ws with
 | nil =>
  have := ZoN h6 h4
  refine WP.step (R := fun y w' => y = false ∧ w = w') (WP.ite (fun h => absurd (zd h) (by omega)) (fun _ => ret ⟨rfl, rfl⟩)) ?_
  rintro _ _ ⟨rfl, rfl⟩
  exact k
 | cons v r =>
  obtain ⟨d, hd, hx, hxs, hi⟩ := Zkk h6
  refine WP.step (R := fun y w' => y = Zf4 v.1 ∧ Ss W (RrA b wl e m (v :: r) :: Hs) w') (WP.ite (fun _ => ?_) (fun h => absurd (zb hi) h)) ?_
  ·refine WP.nilck (WP.ld (x := rr.l) s1 0 rfl (o := 0) (by simp [Addr.add]) (Zcs _) (WP.nilck (WP.ld (x := rr.i) s1 0 rfl (o := 1) rfl (ZbC _) ?_)))
   rw [h1]
   refine WP.rdx s1 1 rfl ZbM (by omega) (x := d) (by rw [zg]; exact hd) rfl (WP.step (Zqd s d) ?_)
   rintro _ w ⟨rfl, s⟩
   refine ret ⟨?_, s⟩
   rw [← hx]
   rfl
  rintro _ w ⟨rfl, s⟩
  exact hk w s
theorem ZkB (w : Wd) (ws : List Wd) : Zl5 e (w :: ws) = if w.1 = tx "any" then .ok ((0, 0), ws) else match idxT ZlB w.1 with
  | none => if Zf4 w.1 = true then (match Zgu e 0 w ws with
    | .error f => .error f
    | .ok (n, r) => .ok ((0, n), r)) else .error (160, w.2)
  | some k => ZsO e k ws := rfl
def ZsM (m : ZaR) (X : PE ((Int × Int) × List Wd)) : PE (ZaR × List Wd) := match X with
 | .error f => .error f
 | .ok (k, r) => .ok ({ m with Kind := k.1, Proto := k.2 }, r)
theorem ZtW (s : Ss W (RrA b wl e m ws :: Hs) w) (h0 : m.Kind = 0 ∧ m.Proto = 0) (ik : Nat) (ek : nth Hs ik = some (NmP 1 ZjJ)) :
  WP (ZaA.K1 (some (pt b 0))) w (fun _ w' => RulR W Hs b wl e w' (ZsM m (Zl5 e ws))) := by
 unfold ZaA.K1
 have hm : ({ m with Kind := 0, Proto := 0 } : ZaR) = m := by
  obtain ⟨h1, h2⟩ := h0
  cases m
  simp only at h1 h2
  subst h1
  subst h2
  rfl
 refine WP.step (Ziw s) ?_
 intro r w h
 cases ws with
 | nil =>
  obtain ⟨rfl, s1⟩ := h
  refine WP.nilck (errD s1 (fun h => ?_))
  refine WP.step (R := fun y w' => y = true ∧ w = w') (WP.ite (fun _ => ret ⟨rfl, rfl⟩) (fun h' => absurd h h')) ?_
  rintro _ _ ⟨rfl, rfl⟩
  exact WP.ite (fun _ => ret s1) (fun h => absurd rfl h)
 | cons x xs =>
  obtain ⟨hx, s1⟩ := h
  clear s
  have s := s1
  clear s1
  subst hx
  have hr : (wdOf r).1 = strI r.s := rfl
  rw [ZkB, hr]
  refine WP.nilck (errA s ?_)
  refine WP.step (R := fun y w' => y = decide (strI r.s = tx "any") ∧ w = w') (WP.ite (fun h => absurd rfl h) (fun _ => ret ⟨?_, rfl⟩)) ?_
  ·rw [zj, zq, ze, Zch, ZvB]
  rintro _ _ ⟨rfl, rfl⟩
  refine WP.ite (fun h => ?_) (fun h => ?_)
  ·rw [if_pos (zd h)]
   show WP _ w (fun _ w' => Ss W (RrA b wl e { m with Kind := 0, Proto := 0 } xs :: Hs) w')
   rw [hm]
   exact ret s
  rw [if_neg (fun h' => h (zb h'))]
  refine ZiV s (ik + 1) ek (by decide) ?_
  rw [Zu7]
  have hlt : ∀ k, idxT ZlB (strI r.s) = some k → k < 3 := fun k h => ZhL h
  unfold idxI
  cases hk : idxT ZlB (strI r.s) with
  | none =>
   refine WP.nilck (setA (m' := m) s (fun r => { r with Kind := 0 }) (fun r => Zh4 r _) (fun r h => ⟨h.1, h.2.1, h0.1.symm, h.2.2.2⟩) (fun r => ⟨rfl, rfl⟩) ⟨rfl, rfl⟩ (fun w s => WP.nilck (ZqO s ?_)))
   rw [h0.1]
   refine WP.step (R := fun y w' => y = Zf4 (strI r.s) ∧ Ss W (RrA b wl e m xs :: Hs) w') (WP.ite (fun _ => WP.step (Zqd s r) (fun y w h => ret h)) (fun h => absurd rfl h)) ?_
   rintro _ w ⟨rfl, s⟩
   refine WP.ite (fun h2 => ?_) (fun h2 => ?_)
   ·rw [if_pos h2]
    refine WP.step (ZnT s r) ?_
    intro _ w h
    refine ret ?_
    rw [h0.1] at h
    cases hp : Zgu e 0 (wdOf r) xs with
    | error f =>
     rw [hp] at h
     exact h
    | ok q =>
     rw [hp] at h
     exact h
   ·rw [if_neg h2]
    refine WP.nilck (ZqO s ?_)
    rw [h0.1]
    refine WP.ite (fun _ => WP.step (ZdV s (by decide) r.at_) ?_) (fun h => absurd rfl h)
    intro _ w s
    exact ret s
  | some k =>
   have hk3 := hlt k hk
   have hw : wrap .i64 ((k : Int) + 1) = (k : Int) + 1 := Zau (by omega) (by omega)
   simp only
   rw [hw]
   refine WP.nilck (setA (m' := { m with Kind := (k : Int) + 1 }) s (fun r => { r with Kind := (k : Int) + 1 }) (fun r => Zh4 r _) (fun r h => ⟨h.1, h.2.1, rfl, h.2.2.2⟩) (fun r => ⟨rfl, rfl⟩) ⟨rfl, rfl⟩ (fun w s => WP.nilck (ZqO s ?_)))
   simp only
   refine WP.step (R := fun y w' => y = false ∧ w = w') (WP.ite (fun h => absurd h (by omega)) (fun _ => ret ⟨rfl, rfl⟩)) ?_
   rintro _ _ ⟨rfl, rfl⟩
   refine WP.ite (fun h => by cases h) (fun _ => WP.nilck (ZqO s ?_))
   simp only
   refine WP.ite (fun h => absurd h (by omega)) (fun _ => WP.draw' s (fun w s => WP.nilck (ZqO s ?_)))
   simp only
   rw [if_pos (by omega)]
   have hmp : m.Proto = 0 := h0.2
   have fin : ∀ {w : World}, Ss W (RrA b wl e { m with Kind := (k : Int) + 1 } xs :: Hs) w → WP (if Zv9 xs = true then ZaO (some (pt b 0)) >>= fun r117 => Zce (some (pt b 0)) r117 >>= fun r118 => pure () else pure ()) w (fun _ w' => RulR W Hs b wl e w' (ZsM m (ZsO e k xs))) := by
    intro w s
    have hm3 : ({ m with Kind := (k : Int) + 1 } : ZaR) = { m with Kind := (k : Int) + 1, Proto := 0 } := by
     cases m
     simp only at hmp
     rw [hmp]
    cases xs with
    | nil =>
     rw [hm3] at s
     exact WP.ite (fun h => by cases h) (fun _ => ret s)
    | cons v r2 =>
     rw [show ZsO e k (v :: r2) = if Zf4 v.1 = true then (match Zgu e ((k : Int) + 1) v r2 with
      | .error f => .error f
      | .ok (n, r) => .ok (((k : Int) + 1, n), r)) else .ok (((k : Int) + 1, 0), v :: r2) from rfl]
     refine WP.ite (fun h2 => ?_) (fun h2 => ?_)
     ·rw [if_pos (show Zf4 v.1 = true from h2)]
      refine WP.step (Ziw s) ?_
      rintro d w ⟨hd, s1⟩
      subst hd
      refine WP.step (ZnT s1 d) ?_
      intro _ w h
      refine ret ?_
      simp only at h
      cases hp : Zgu e ((k : Int) + 1) (wdOf d) r2 with
      | error f =>
       rw [hp] at h
       exact h
      | ok q =>
       rw [hp] at h
       exact h
     ·rw [if_neg (show ¬ Zf4 v.1 = true from h2)]
      rw [hm3] at s
      exact ret s
   exact ZxO s (fin s) (fun w s => fin s)
end
section
variable {W w : World} {Hs : List HP} {b : Nat} {wl : List ZaG} {e : Int} {m : ZaR} {ws : List Wd} {f : PF}
theorem Zmy (s : Ss W (RrD b f :: Hs) w) : WP (ZaA.K1 (some (pt b 0))) w (fun _ w' => Ss W (RrD b f :: Hs) w') := by
 unfold ZaA.K1
 refine WP.step (Zqy s) ?_
 rintro _ w ⟨rfl, s⟩
 refine WP.nilck (errD s (fun h => ?_))
 refine WP.step (R := fun y w' => y = true ∧ w = w') (WP.ite (fun _ => ret ⟨rfl, rfl⟩) (fun h' => absurd h h')) ?_
 rintro _ _ ⟨rfl, rfl⟩
 exact WP.ite (fun _ => ret s) (fun h => absurd rfl h)
theorem Zmx (s : Ss W (RrD b f :: Hs) w) : WP (ZaA.K2 (some (pt b 0))) w (fun _ w' => Ss W (RrD b f :: Hs) w') := by
 unfold ZaA.K2
 refine WP.nilck (ldD (o := 0) s (fun r => r.Act) (fun r => ZcE r) (fun x => ?_))
 refine WP.step (R := fun y w' => y = false ∧ Ss W (RrD b f :: Hs) w') (WP.ite (fun _ => WP.step (Zgr s _) ?_) (fun _ => ret ⟨rfl, s⟩)) ?_
 ·rintro _ w ⟨rfl, s⟩
  exact ret ⟨rfl, s⟩
 rintro _ w ⟨rfl, s⟩
 exact WP.ite (fun h => by cases h) (fun _ => Zmy s)
def ZvR (m : ZaR) (X : PE (Int × List Wd)) (e : Int) : PE (ZaR × List Wd) := match X with
 | .error f => .error f
 | .ok (c, r) => ZsM { m with Class := c } (Zl5 e r)
theorem ZtV (s : Ss W (RrA b wl e m ws :: Hs) w) (h0 : m.Class = 0 ∧ m.Kind = 0 ∧ m.Proto = 0) (ik : Nat) (ek : nth Hs ik = some (NmP 1 ZjJ)) {a : Nat} (ha : m.Act = (a : Int) + 1) :
  WP (ZaA.K2 (some (pt b 0))) w (fun _ w' => RulR W Hs b wl e w' (ZvR m (Zhr e a ws) e)) := by
 unfold ZaA.K2
 have hm : ({ m with Class := 0 } : ZaR) = m := by
  obtain ⟨h1, -⟩ := h0
  cases m
  simp only at h1
  subst h1
  rfl
 refine WP.nilck (ldA (o := 0) (v := m.Act) s (fun r => r.Act) (fun r => ZcE r) (fun r h => h.1) ?_)
 have k1 : ∀ {w : World} {c : Int} {xs : List Wd}, Ss W (RrA b wl e { m with Class := c } xs :: Hs) w → WP (ZaA.K1 (some (pt b 0))) w (fun _ w' => RulR W Hs b wl e w' (ZsM { m with Class := c } (Zl5 e xs))) := fun s => ZtW s h0.2 ik ek
 by_cases h1 : a = 0
 rotate_left
 ·have hc : Zhr e a ws = .ok (0, ws) := by unfold Zhr; rw [if_neg h1]
  rw [hc]
  refine WP.step (R := fun y w' => y = false ∧ w = w') (WP.ite (fun h => absurd h (by omega)) (fun _ => ret ⟨rfl, rfl⟩)) ?_
  rintro _ _ ⟨rfl, rfl⟩
  exact WP.ite (fun h => by cases h) (fun _ => k1 (c := 0) (hm.symm ▸ s))
 refine WP.step (R := fun y w' => ZxC W Hs b wl e m ws y w' (Zd9 (tx "class") ws)) (WP.ite (fun _ => WP.step (Zgq s ZuG) (fun y w h => ret h)) (fun h => absurd (by omega) h)) ?_
 intro y w h
 unfold Zhr
 rw [if_pos h1]
 cases ht : Zd9 (tx "class") ws with
 | none =>
  rw [ht] at h
  obtain ⟨rfl, s⟩ := h
  exact WP.ite (fun h => by cases h) (fun _ => k1 (c := 0) (hm.symm ▸ s))
 | some xs =>
  rw [ht] at h
  obtain ⟨rfl, s⟩ := h
  refine WP.ite (fun _ => WP.step (ZlO s 0 7) ?_) (fun h => absurd rfl h)
  intro v w h
  show WP _ w (fun _ w' => RulR W Hs b wl e w' (ZvR m (numP e 0 7 xs) e))
  cases hn : numP e 0 7 xs with
  | error f =>
   rw [hn] at h
   exact WP.nilck (setD (o := 1) h (fun r => { r with Class := v }) (fun r => Zhu r v) (fun w s => Zmy s))
  | ok q =>
   rw [hn] at h
   obtain ⟨rfl, s⟩ := h
   exact WP.nilck (setA (o := 1) (m' := { m with Class := q.1 }) s (fun r => { r with Class := q.1 }) (fun r => Zhu r _) (fun r h => ⟨h.1, rfl, h.2.2⟩) (fun r => ⟨rfl, rfl⟩) ⟨rfl, rfl⟩ (fun w s => k1 (c := q.1) s))
theorem Zwr (s : Ss W (RrA b wl e zRl ws :: Hs) w) (ia : Nat) (ea : nth Hs ia = some (NmP 0 actB)) (ik : Nat) (ek : nth Hs ik = some (NmP 1 ZjJ)) :
  WP (ZaA (some (pt b 0))) w (fun _ w' => RulR W Hs b wl e w' (ZlC e ws)) := by
 unfold ZaA
 refine WP.step (Ziw s) ?_
 intro r w h
 cases ws with
 | nil =>
  obtain ⟨rfl, s1⟩ := h
  refine WP.slot' s1 (fun _ w s => ZiV s (ia + 1) ea (by decide) ?_)
  rw [Zup]
  have hi : idxI actN (strI Zdf.s) = -1 := by decide +kernel
  rw [hi]
  refine WP.nilck (setD (o := 0) s (fun r => { r with Act := 0 }) (fun r => ZeR r 0) (fun w s => WP.nilck (errD s (fun h => ?_))))
  refine WP.step (R := fun y w' => y = false ∧ w = w') (WP.ite (fun h' => absurd h' h) (fun _ => ret ⟨rfl, rfl⟩)) ?_
  rintro _ _ ⟨rfl, rfl⟩
  exact WP.ite (fun h => by cases h) (fun _ => Zmx s)
 | cons x xs =>
  obtain ⟨hx, s1⟩ := h
  clear s
  have s := s1
  clear s1
  subst hx
  have hr : ZlC e (wdOf r :: xs) = match idxT actN (strI r.s) with
   | none => .error (160, r.at_)
   | some a => match Zhr e a xs with
    | .error f => .error f
    | .ok (c, r) => match Zl5 e r with
     | .error f => .error f
     | .ok (k, r) => .ok ({ zRl with Act := (a : Int) + 1, Class := c, Kind := k.1, Proto := k.2 }, r) := rfl
  rw [hr]
  refine WP.slot' s (fun _ w s => ZiV s (ia + 1) ea (by decide) ?_)
  rw [Zup]
  unfold idxI
  cases hk : idxT actN (strI r.s) with
  | none =>
   refine WP.nilck (setA (o := 0) (m' := zRl) s (fun r => { r with Act := 0 }) (fun r => ZeR r _) (fun r h => ⟨rfl, h.2⟩) (fun r => ⟨rfl, rfl⟩) ⟨rfl, rfl⟩ (fun w s => WP.nilck (errA s ?_)))
   refine WP.step (R := fun y w' => y = true ∧ w = w') (WP.ite (fun _ => WP.nilck (ldA (o := 0) (v := 0) s (fun r => r.Act) (fun r => ZcE r) (fun r h => h.1) (ret ⟨rfl, rfl⟩))) (fun h => absurd rfl h)) ?_
   rintro _ _ ⟨rfl, rfl⟩
   refine WP.ite (fun _ => WP.step (ZdV s (by decide) r.at_) ?_) (fun h => absurd rfl h)
   intro _ w s
   exact Zmx s
  | some a =>
   have ha3 := ZhL hk
   have ha3 : a < 3 := ha3
   have hw : wrap .i64 ((a : Int) + 1) = (a : Int) + 1 := Zau (by omega) (by omega)
   simp only
   rw [hw]
   refine WP.nilck (setA (o := 0) (m' := { zRl with Act := (a : Int) + 1 }) s (fun r => { r with Act := (a : Int) + 1 }) (fun r => ZeR r _) (fun r h => ⟨rfl, h.2⟩) (fun r => ⟨rfl, rfl⟩) ⟨rfl, rfl⟩ (fun w s => WP.nilck (errA s ?_)))
   refine WP.step (R := fun y w' => y = false ∧ w = w') (WP.ite (fun _ => WP.nilck (ldA (o := 0) (v := (a : Int) + 1) s (fun r => r.Act) (fun r => ZcE r) (fun r h => h.1) (ret ⟨beq_eq_false_iff_ne.2 (by omega), rfl⟩))) (fun h => absurd rfl h)) ?_
   rintro _ _ ⟨rfl, rfl⟩
   refine WP.ite (fun h => by cases h) (fun _ => (ZtV s ⟨rfl, rfl, rfl⟩ ik ek rfl).mono ?_)
   intro _ w h
   unfold ZvR at h
   cases hc : Zhr e a xs with
   | error f => rw [hc] at h; exact h
   | ok q =>
    rw [hc] at h
    simp only [ZsM] at h ⊢
    cases hq : Zl5 e q.2 with
    | error f => rw [hq] at h; exact h
    | ok q2 => rw [hq] at h; exact h
end
section
variable {W w : World} {Hs : List HP}
theorem pfK1 {r3 : Zbw × Option Addr} {j8 : Int} {b : Nat} {f : Flt} (s : Ss W (pts true (pt b 0) (flt f) :: Hs) w) : WP (Zas.K1 r3 j8 (some (pt b 0))) w (fun r w' => r = (ZbP, f.1, (f.2 : Int)) ∧ Ss W Hs w') := by
 unfold Zas.K1
 exact WP.ite (fun _ => WP.draw' s (fun w s => WP.nilck (WP.ld s 0 rfl (o := 0) (by simp [Addr.add]) (Ze1 _) (WP.nilck (WP.ld s 0 rfl (o := 1) rfl (Ze2 _) (WP.same s 0 rfl (o := 1) rfl (Ze2 _) (WP.same s 0 rfl (o := 0) (by simp [Addr.add]) (Ze1 _) (ret ⟨rfl, s.drop⟩)))))))) (fun h => absurd (by simp) h)
theorem pfK2 {r3 : Zbw × Option Addr} {j8 : Int} {b : Nat} {f : Flt} (s : Ss W (pts true (pt b 0) (flt f) :: Hs) w) : WP (Zas.K2 r3 j8 (some (pt b 0))) w (fun r w' => r = (ZbP, f.1, (f.2 : Int)) ∧ Ss W Hs w') := by
 unfold Zas.K2
 refine WP.slot' s (fun _ w s => WP.step (R := fun y w' => y = false ∧ w = w') (WP.ite (fun h => by cases h) (fun _ => ret ⟨rfl, rfl⟩)) ?_)
 rintro _ _ ⟨rfl, rfl⟩
 exact WP.ite (fun h => by cases h) (fun _ => pfK1 s)
theorem pfK3 {t : ByteArray} {r3 : Zbw × Option Addr} {j8 j9 : Int} {b : Nat} {f : Flt} (s : Ss W (pts true (pt b 0) (flt f) :: Hs) w) : WP (Zas.K3 t r3 (some (pt b 0)) j8 j9) w (fun r w' => r = (ZbP, f.1, (f.2 : Int)) ∧ Ss W Hs w') := by
 unfold Zas.K3
 refine WP.step (R := fun y w' => y = false ∧ w = w') (WP.ite (fun h => by cases h) (fun _ => ret ⟨rfl, rfl⟩)) ?_
 rintro _ _ ⟨rfl, rfl⟩
 exact WP.ite (fun h => by cases h) (fun _ => pfK2 s)
theorem Zjt (s : Ss W Hs w) (t : ByteArray) : WP (Zas t) w (fun r w' => r = ZqC (strI t) ∧ Ss W Hs w') := by
 have hl := ZbI t
 unfold Zas ZqC Zpx
 refine WP.slot' s (fun _ w s => WP.ite (fun h => ret ⟨?_, s⟩) (fun h => ?_))
 ·rw [if_pos (by omega)]
  rfl
 rw [if_neg (by omega)]
 refine WP.step (ZxG s t (by omega) (q := 47) (by omega) (by decide)) ?_
 rintro ⟨ta, tb, y⟩ w ⟨⟨c1, c2⟩, s⟩
 simp only at c1 c2 ⊢
 subst c1
 refine WP.ite (fun h => ret ⟨?_, s⟩) (fun h => ?_)
 ·have h : ¬ ZbL (strI t) 47 < (strI t).length := fun h' => h (zb (by rw [← hl]; exact h'))
  rw [if_neg h, ← hl]
 have h : ZbL (strI t) 47 < t.size := zd (by simpa using h)
 have h' : ZbL (strI t) 47 < (strI t).length := by omega
 rw [if_pos h']
 have c2 : strI ta = (strI t).take (ZbL (strI t) 47) := (c2 h).1
 rw [← c2]
 have hta : ta.size = ZbL (strI t) 47 := by
  rw [← ZbI, c2, zm]
  omega
 refine WP.step (Zro s ta) ?_
 intro r w hr
 cases hm : ZgO (strI ta) with
 | error f =>
  rw [hm] at hr
  obtain ⟨b, hb, s⟩ := hr
  refine WP.slot' s (fun _ w s => ?_)
  rw [hb]
  exact WP.ite (fun h => by cases h) (fun _ => pfK3 s)
 | ok ip =>
  have hbyt := Zhh hm
  rw [hm] at hr
  obtain ⟨rfl, s⟩ := hr
  refine WP.slot' s (fun _ w s => WP.ite (fun _ => WP.step (Zqt s ip) ?_) (fun h => absurd rfl h))
  rintro _ w ⟨rfl, s⟩
  have e1 : wrap .i64 ((ta.size : Int) + 1) = ((ZbL (strI t) 47 + 1 : Nat) : Int) := by
   rw [hta, Zau (by omega) (by omega)]
   rfl
  simp only
  rw [e1]
  refine WP.step (ZpC s t (by omega) (ZbL (strI t) 47 + 1) (by omega) (ZfZ ip) 45) ?_
  intro r w hr
  cases hn : numM (strI t) (ZbL (strI t) 47 + 1) (ZfZ ip) 45 with
  | error f =>
   rw [hn] at hr
   obtain ⟨b, rfl, s⟩ := hr
   exact pfK3 s
  | ok x =>
   obtain ⟨n, e⟩ := x
   rw [hn] at hr
   obtain ⟨rfl, s⟩ := hr
   unfold Zas.K3
   refine WP.step (R := fun y w' => y = decide (e < (strI t).length) ∧ w = w') (WP.ite (fun _ => ret ⟨?_, rfl⟩) (fun h => absurd rfl h)) ?_
   ·rw [zj, ze, ze]
    simp only
    omega
   rintro _ _ ⟨rfl, rfl⟩
   refine WP.ite (fun h => WP.newv s (fun b w s => ?_)) (fun h => ?_)
   ·simp only
    rw [if_pos (zd h)]
    exact pfK2 (f := (41, e)) s
   ·simp only
    rw [if_neg (fun h' => h (zb h'))]
    unfold Zas.K2
    refine WP.slot' s (fun _ w s => WP.step (R := fun y w' => y = decide (vpM ⟨ip, (n : Int)⟩ ≠ 0) ∧ Ss W Hs w') (WP.ite (fun _ => WP.step (ZfX s ⟨ip, (n : Int)⟩ hbyt) ?_) (fun h => absurd rfl h)) ?_)
    ·rintro _ w ⟨rfl, s⟩
     refine ret ⟨?_, s⟩
     rw [zj, bne_iff_ne, ze]
    rintro _ w ⟨rfl, s⟩
    refine WP.ite (fun h => WP.newv s (fun b w s => ?_)) (fun h => ?_)
    ·rw [if_pos (zd h)]
     exact pfK1 (f := (46, 0)) s
    ·rw [if_neg (fun h' => h (zb h'))]
     unfold Zas.K1
     exact WP.ite (fun h => absurd rfl h) (fun _ => ret ⟨rfl, s⟩)
end
end
end Go.Proofs.YtfnokeoldcfcoaaGreatDoor.Lx
