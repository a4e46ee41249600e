
import Derived.Test.YtpmhinidiplhiaaGreatDoorAddrRefA
import Derived.Test.YtpmhinidiplhiaaGreatDoorAddrPrint3
set_option linter.unusedVariables false
set_option linter.unusedSimpArgs false
namespace Go.Proofs.YtpmhinidiplhiaaGreatDoor.Lx
open Go Go.Proofs Go.RowKit
theorem ZoH {n : Nat} (h : n < 1000) : (dec3 n).length ≤ 3 := by
 rw [Zfv]
 unfold ndig
 split
 ·omega
 ·split <;> omega
def decL : Nat → Nat → List Int
 | 0, n => [48 + ((n % 10 : Nat) : Int)]
 | f + 1, n => if n < 10 then [48 + (n : Int)] else decL f (n / 10) ++ [48 + ((n % 10 : Nat) : Int)]
theorem ZrM : ∀ k : _root_.Fin 1000, decL 2 k.val = dec3 k.val := by decide +kernel
theorem Zna : ∀ (l : List Nat) (n : Nat), n ≤ zrun l → ((n < l.length ∧ l.getD n 0 = 0) ↔ n < zrun l)
 | [], n, h => by simp [zrun]
 | x :: r, n, h => by
  unfold zrun at h ⊢
  by_cases hx : x = 0
  ·have e : (x :: r).takeWhile (· == 0) = x :: r.takeWhile (· == 0) := by
    rw [List.takeWhile_cons, if_pos (beq_iff_eq.2 hx)]
   rw [e, List.length_cons] at h ⊢
   cases n with
   | zero => simp [hx]
   | succ n =>
    have := Zna r n (by unfold zrun; omega)
    unfold zrun at this
    simp only [List.length_cons, List.getD_cons_succ]
    omega
  ·have e : (x :: r).takeWhile (· == 0) = [] := by
    rw [List.takeWhile_cons, if_neg (fun h => hx (beq_iff_eq.1 h))]
   rw [e, List.length_nil] at h ⊢
   have : n = 0 := by omega
   subst this
   simp [hx]
theorem ZhF {a : List Int} {k : Nat} (h : k < 8) : (grps a).getD k 0 = grp a k := by
 unfold grps
 rw [List.getD, List.getElem?_map, List.getElem?_range h]
 rfl
theorem Zh6 {a : List Int} (hb : Byt a) {k : Nat} : grp a k = 0 ↔ (a.getD (2 * k) 0 = 0 ∧ a.getD (2 * k + 1) 0 = 0) := by
 have h1 := Zhp hb (2 * k)
 have h2 := Zhp hb (2 * k + 1)
 unfold grp
 omega
theorem ZqE (l : List Nat) (i n : Nat) : (l.drop i).getD n 0 = l.getD (i + n) 0 := by
 rw [List.getD, List.getD, List.getElem?_drop]
theorem Zsb {a : List Int} (h : a.length = 16) : a = (List.range 16).map fun i => a.getD i 0 := by
 apply List.ext_getElem?
 intro i
 by_cases hi : i < 16
 ·rw [List.getElem?_map, List.getElem?_range hi, List.getElem?_eq_getElem (by omega)]
  show _ = some (a.getD i 0)
  rw [List.getD, List.getElem?_eq_getElem (by omega)]
  rfl
 ·rw [List.getElem?_eq_none (by omega), List.getElem?_eq_none (by simp; omega)]
theorem Zo7 {a : List Int} (hb : Byt a) (hl : a.length = 16) : (zrun (grps a) = 5 ∧ a.getD 10 0 = 255 ∧ a.getD 11 0 = 255) ↔ a.take 12 = [0, 0, 0, 0, 0, 0, 0, 0, 0, 0, 255, 255] := by
 have e12 : a.take 12 = [a.getD 0 0, a.getD 1 0, a.getD 2 0, a.getD 3 0, a.getD 4 0, a.getD 5 0, a.getD 6 0, a.getD 7 0, a.getD 8 0, a.getD 9 0, a.getD 10 0, a.getD 11 0] := by
  conv => lhs; rw [Zsb hl]
  rfl
 have hg := Zna (grps a)
 have h8 := Zg6 a
 have hzl := Zlj (grps a)
 constructor
 ·rintro ⟨h5, h10, h11⟩
  have z : ∀ k, k < 5 → a.getD (2 * k) 0 = 0 ∧ a.getD (2 * k + 1) 0 = 0 := fun k hk => by
   have := ((hg k (by omega)).2 (by omega)).2
   rw [ZhF (by omega)] at this
   exact (Zh6 hb).1 this
  rw [e12, (z 0 (by omega)).1, (z 0 (by omega)).2, (z 1 (by omega)).1, (z 1 (by omega)).2, (z 2 (by omega)).1, (z 2 (by omega)).2, (z 3 (by omega)).1, (z 3 (by omega)).2, (z 4 (by omega)).1, (z 4 (by omega)).2, h10, h11]
 ·intro h
  rw [e12] at h
  simp only [List.cons.injEq, and_true] at h
  obtain ⟨a0, a1, a2, a3, a4, a5, a6, a7, a8, a9, a10, a11⟩ := h
  refine ⟨?_, a10, a11⟩
  have z : ∀ k, k < 5 → (grps a).getD k 0 = 0 := fun k hk => by
   rw [ZhF (by omega), Zh6 hb]
   match k, hk with
   | 0, _ => exact ⟨a0, a1⟩
   | 1, _ => exact ⟨a2, a3⟩
   | 2, _ => exact ⟨a4, a5⟩
   | 3, _ => exact ⟨a6, a7⟩
   | 4, _ => exact ⟨a8, a9⟩
  have n5 : (grps a).getD 5 0 ≠ 0 := by
   rw [ZhF (by omega)]
   intro h
   have := ((Zh6 hb).1 h).1
   rw [show 2 * 5 = 10 from rfl, a10] at this
   cases this
  have up : ∀ k, k ≤ 5 → k ≤ zrun (grps a) := by
   intro k
   induction k with
   | zero => intro _; exact Nat.zero_le _
   | succ k ih =>
    intro hk
    have := (hg k (ih (by omega))).1 ⟨by omega, z k (by omega)⟩
    omega
  have h5 := up 5 (Nat.le_refl _)
  have hn : ¬ 5 < zrun (grps a) := fun h => n5 ((hg 5 h5).2 h).2
  omega
theorem ZmX (l : List Nat) (x : Nat) : colM (l ++ [x]) = if l = [] then hex4 x else colM l ++ 58 :: hex4 x := by
 cases l with
 | nil => simp [colM, ZcS]
 | cons y r => simp [colM, ZcS]
def Pri (g : List Nat) (at_ : Int) (long k : Nat) : List Int :=
 if at_ < 0 ∨ (k : Int) ≤ at_ then colM (g.take k) else colM (g.take at_.toNat) ++ [58, 58] ++ colM ((g.take k).drop (at_.toNat + long))
theorem Ztj {g : List Nat} (hg : g.length = 8) (at_ : Int) (long k : Nat) : (Pri g at_ long k).length ≤ 200 := by
 unfold Pri
 split
 ·have := Zfw (gs := g.take k) (by rw [List.length_take]; omega)
  omega
 ·have h1 := Zfw (gs := g.take at_.toNat) (by rw [List.length_take]; omega)
  have h2 := Zfw (gs := (g.take k).drop (at_.toNat + long)) (by rw [List.length_drop, List.length_take]; omega)
  simp only [List.length_append, List.length_cons, List.length_nil]
  omega
theorem ZoR {g : List Nat} {k : Nat} (h : k < g.length) : g.take (k + 1) = g.take k ++ [g.getD k 0] := by
 rw [List.take_add_one, List.getElem?_eq_getElem h, List.getD, List.getElem?_eq_getElem h]
 rfl
section
variable {W w : World} {Hs : List HP}
theorem Zgf {β : Type} {T : TypeId} {x : Int} {f : ByteArray → M β} {Q : β → World → Prop} (s : Ss W Hs w) (k : ∀ w', Ss W Hs w' → WP (f (bstr [x])) w' Q) : WP (newv T ((cI .u8).arr 1) (⟨[x], rfl⟩ : Vec Int 1) >>= fun b => toStr (⟨some (pt b 0), 1, 1⟩ : Sl) >>= f) w Q :=
 WP.newv s (fun b w s => WP.toStr s 0 rfl (Zec.rdb (xs := [x]) Zec.pts) (k _ s.drop))
theorem ZoF : ∀ (f n : Nat), (decL f n).length ≤ f + 1
 | 0, n => by simp [decL]
 | f + 1, n => by
  unfold decL
  have := ZoF f (n / 10)
  split
  ·simp
  ·simp only [List.length_append, List.length_cons, List.length_nil]
   omega
theorem ZpZ : ∀ (f N n : Nat) {Hs : List HP} {w : World}, f < N → f < 10 → n < 10 ^ (f + 1) → Ss W Hs w → WP (ZaJ.go N (n : Int)) w (fun r w' => r = bstr (decL f n) ∧ Ss W Hs w') := by
 intro f
 induction f with
 | zero =>
  intro N n Hs w hN _ hn s
  obtain ⟨N, rfl⟩ : ∃ m, N = m + 1 := ⟨N - 1, by omega⟩
  show WP (ZaJ.body (ZaJ.go N) (n : Int)) w _
  unfold ZaJ.body
  have hn : n < 10 := by simpa using hn
  rw [Zah (n := 48 + (n : Int)) (by omega) (by omega), ZdU (n := 48 + (n : Int)) (by omega) (by omega)]
  refine WP.ite (fun h => Zgf s (fun w s => WP.ret ⟨?_, s⟩)) (fun h => absurd (by omega) h)
  unfold decL
  rw [show n % 10 = n by omega]
 | succ f ih =>
  intro N n Hs w hN hf hn s
  obtain ⟨N, rfl⟩ : ∃ m, N = m + 1 := ⟨N - 1, by omega⟩
  show WP (ZaJ.body (ZaJ.go N) (n : Int)) w _
  unfold ZaJ.body
  have hbig : n < 10 ^ 10 := Nat.lt_of_lt_of_le hn (Nat.pow_le_pow_right (by omega) (by omega))
  have hbig : n < 10000000000 := hbig
  have hlen := ZoF f (n / 10)
  have hdiv : n / 10 < 10 ^ (f + 1) := by
   rw [Nat.div_lt_iff_lt_mul (by omega), ← Nat.pow_succ]
   exact hn
  refine WP.ite (fun h => ?_) (fun h => ?_)
  ·rw [Zah (n := 48 + (n : Int)) (by omega) (by omega), ZdU (n := 48 + (n : Int)) (by omega) (by omega)]
   refine Zgf s (fun w s => WP.ret ⟨?_, s⟩)
   unfold decL
   rw [if_pos (by omega)]
  ·have e1 : IntKind.wrap .i64 (Int.tdiv (n : Int) 10) = ((n / 10 : Nat) : Int) := by
    rw [show Int.tdiv (n : Int) 10 = ((n / 10 : Nat) : Int) from rfl, Zah (by omega) (by omega)]
   have e2 : IntKind.wrap .u8 (IntKind.wrap .i64 (48 + Int.tmod (n : Int) 10)) = 48 + ((n % 10 : Nat) : Int) := by
    rw [show Int.tmod (n : Int) 10 = ((n % 10 : Nat) : Int) from rfl, Zah (by omega) (by omega), ZdU (by omega) (by omega)]
   have e3 : bstr (decL f (n / 10)) ++ bstr [48 + ((n % 10 : Nat) : Int)] = bstr (decL (f + 1) n) := by
    rw [catb]
    conv => rhs; unfold decL
    rw [if_neg (by omega)]
   rw [e1, e2]
   have hsz : (((bstr (decL f (n / 10))).size + (bstr [48 + ((n % 10 : Nat) : Int)]).size : Nat) : Int) ≤ 9223372036854775807 := by
    rw [Zbs, Zbs]
    simp only [List.length_cons, List.length_nil]
    omega
   refine WP.draws s (fun σ w s => WP.ite (fun _ => ?_) (fun _ => WP.ite (fun _ => ?_) (fun _ => ?_)))
   ·refine WP.step (ih N (n / 10) (by omega) (by omega) hdiv s) ?_
    rintro _ w ⟨rfl, s⟩
    exact Zgf s (fun w s => WP.chk hsz (WP.ret ⟨e3, s⟩))
   ·refine WP.newv s (fun b w s => WP.step (ih N (n / 10) (by omega) (by omega) hdiv s) ?_)
    rintro _ w ⟨rfl, s⟩
    exact WP.toStr s 0 rfl (Zec.rdb (xs := [48 + ((n % 10 : Nat) : Int)]) Zec.pts) (WP.chk hsz (WP.ret ⟨e3, s.drop⟩))
   ·refine Zgf s (fun w s => WP.step (ih N (n / 10) (by omega) (by omega) hdiv s) ?_)
    rintro _ w ⟨rfl, s⟩
    exact WP.chk hsz (WP.ret ⟨e3, s⟩)
theorem ZkP (s : Ss W Hs w) {n : Nat} (h : n < 1000) : WP (ZaJ (n : Int)) w (fun r w' => r = bstr (dec3 n) ∧ Ss W Hs w') := by
 unfold ZaJ
 refine (ZpZ 2 1000000000000 n (by omega) (by omega) h s).mono ?_
 rintro r w ⟨rfl, s⟩
 exact ⟨congrArg bstr (ZrM ⟨n, h⟩), s⟩
theorem Znn : ∀ k : _root_.Fin 16, sb Ziu (k.val : Int) = hexd k.val := by decide +kernel
theorem ZtT : ∀ (f N n : Nat) {Hs : List HP} {w : World}, f < N → f < 8 → n < 16 ^ (f + 1) → Ss W Hs w → WP (Za6.go N (n : Int)) w (fun r w' => r = bstr (hexL f n) ∧ Ss W Hs w') := by
 have hs16 : (Ziu).size = 16 := by decide +kernel
 intro f
 induction f with
 | zero =>
  intro N n Hs w hN _ hn s
  obtain ⟨N, rfl⟩ : ∃ m, N = m + 1 := ⟨N - 1, by omega⟩
  show WP (Za6.body (Za6.go N) (n : Int)) w _
  unfold Za6.body
  have hn : n < 16 := by simpa using hn
  have e : sb Ziu (n : Int) = hexd n := Znn ⟨n, hn⟩
  rw [e, hs16]
  refine WP.ite (fun h => WP.chk ⟨by omega, by omega⟩ (Zgf s (fun w s => WP.ret ⟨?_, s⟩))) (fun h => absurd (by omega) h)
  unfold hexL
  rw [show n % 16 = n by omega]
 | succ f ih =>
  intro N n Hs w hN hf hn s
  obtain ⟨N, rfl⟩ : ∃ m, N = m + 1 := ⟨N - 1, by omega⟩
  show WP (Za6.body (Za6.go N) (n : Int)) w _
  unfold Za6.body
  have hbig : n < 16 ^ 9 := Nat.lt_of_lt_of_le hn (Nat.pow_le_pow_right (by omega) (by omega))
  have hbig : n < 68719476736 := hbig
  have hlen := (Zg5 f (n / 16)).2
  have hdiv : n / 16 < 16 ^ (f + 1) := by
   rw [Nat.div_lt_iff_lt_mul (by omega), ← Nat.pow_succ]
   exact hn
  rw [hs16]
  refine WP.ite (fun h => ?_) (fun h => ?_)
  ·have e : sb Ziu (n : Int) = hexd n := Znn ⟨n, by omega⟩
   rw [e]
   refine WP.chk ⟨by omega, by omega⟩ (Zgf s (fun w s => WP.ret ⟨?_, s⟩))
   unfold hexL
   rw [if_pos (by omega)]
  ·have e1 : IntKind.wrap .i64 (Int.tdiv (n : Int) 16) = ((n / 16 : Nat) : Int) := by
    rw [show Int.tdiv (n : Int) 16 = ((n / 16 : Nat) : Int) from rfl, Zah (by omega) (by omega)]
   have e0 : Int.tmod (n : Int) 16 = ((n % 16 : Nat) : Int) := rfl
   have e2 : sb Ziu ((n % 16 : Nat) : Int) = hexd (n % 16) := Znn ⟨n % 16, by omega⟩
   have e3 : bstr (hexL f (n / 16)) ++ bstr [hexd (n % 16)] = bstr (hexL (f + 1) n) := by
    rw [catb]
    conv => rhs; unfold hexL
    rw [if_neg (by omega)]
   rw [e1, e0, e2]
   have hsz : (((bstr (hexL f (n / 16))).size + (bstr [hexd (n % 16)]).size : Nat) : Int) ≤ 9223372036854775807 := by
    rw [Zbs, Zbs]
    simp only [List.length_cons, List.length_nil]
    omega
   refine WP.draws s (fun σ w s => WP.ite (fun _ => ?_) (fun _ => WP.ite (fun _ => ?_) (fun _ => ?_)))
   ·refine WP.step (ih N (n / 16) (by omega) (by omega) hdiv s) ?_
    rintro _ w ⟨rfl, s⟩
    exact WP.chk ⟨by omega, by omega⟩ (Zgf s (fun w s => WP.chk hsz (WP.ret ⟨e3, s⟩)))
   ·refine WP.chk ⟨by omega, by omega⟩ (WP.newv s (fun b w s => WP.step (ih N (n / 16) (by omega) (by omega) hdiv s) ?_))
    rintro _ w ⟨rfl, s⟩
    exact WP.toStr s 0 rfl (Zec.rdb (xs := [hexd (n % 16)]) Zec.pts) (WP.chk hsz (WP.ret ⟨e3, s.drop⟩))
   ·refine WP.chk ⟨by omega, by omega⟩ (Zgf s (fun w s => WP.step (ih N (n / 16) (by omega) (by omega) hdiv s) ?_))
    rintro _ w ⟨rfl, s⟩
    exact WP.chk hsz (WP.ret ⟨e3, s⟩)
theorem ZsN (s : Ss W Hs w) {n : Nat} (h : n < 65536) : WP (Za6 (n : Int)) w (fun r w' => r = bstr (hex4 n) ∧ Ss W Hs w') := by
 unfold Za6
 exact ZtT 3 1000000000000 n (by omega) (by omega) h s
theorem Zof (s : Ss W Hs w) (a : Vec Int 16) (hb : Byt a.l) {i : Nat} (hi : i + 3 < 16) : WP (Zdb a (i : Int)) w (fun r w' => r = bstr (dotM [a.l.getD i 0, a.l.getD (i + 1) 0, a.l.getD (i + 2) 0, a.l.getD (i + 3) 0]) ∧ Ss W Hs w') := by
 have hdot : Zgl = bstr [46] := by decide +kernel
 have num : ∀ k {w : World}, Ss W Hs w → WP (ZaJ (IntKind.wrap .i64 (a.l.getD k 0))) w (fun r w' => r = bstr (dec3 (a.l.getD k 0).toNat) ∧ Ss W Hs w') := by
  intro k w s
  have h := Zhp hb k
  rw [Zah (by omega) (by omega)]
  have := ZkP s (n := (a.l.getD k 0).toNat) (by omega)
  rwa [show (((a.l.getD k 0).toNat : Nat) : Int) = a.l.getD k 0 by omega] at this
 have hl : ∀ k, (dec3 (a.l.getD k 0).toNat).length ≤ 3 := fun k => ZoH (by have := Zhp hb k; omega)
 have l0 := hl i
 have l1 := hl (i + 1)
 have l2 := hl (i + 2)
 have l3 := hl (i + 3)
 unfold Zdb
 rw [show IntKind.wrap .i64 ((i : Int) + 1) = ((i + 1 : Nat) : Int) by rw [Zah (by omega) (by omega)]; omega, show IntKind.wrap .i64 ((i : Int) + 2) = ((i + 2 : Nat) : Int) by rw [Zah (by omega) (by omega)]; omega, show IntKind.wrap .i64 ((i : Int) + 3) = ((i + 3 : Nat) : Int) by rw [Zah (by omega) (by omega)]; omega, vecg, vecg, vecg, vecg, hdot]
 refine WP.slot' s (fun _ w s => WP.draw' s (fun w s => WP.chk ⟨by omega, by omega⟩ (WP.chk ⟨by omega, by omega⟩ (WP.chk ⟨by omega, by omega⟩ (WP.chk ⟨by omega, by omega⟩ (WP.step (num i s) ?_))))))
 rintro _ w ⟨rfl, s⟩
 refine WP.chk (by simp only [catb, Zbs, List.length_append, List.length_cons, List.length_nil]; omega) (WP.step (num (i + 1) s) ?_)
 rintro _ w ⟨rfl, s⟩
 refine WP.chk (by simp only [catb, Zbs, List.length_append, List.length_cons, List.length_nil]; omega) (WP.chk (by simp only [catb, Zbs, List.length_append, List.length_cons, List.length_nil]; omega) (WP.step (num (i + 2) s) ?_))
 rintro _ w ⟨rfl, s⟩
 refine WP.chk (by simp only [catb, Zbs, List.length_append, List.length_cons, List.length_nil]; omega) (WP.chk (by simp only [catb, Zbs, List.length_append, List.length_cons, List.length_nil]; omega) (WP.step (num (i + 3) s) ?_))
 rintro _ w ⟨rfl, s⟩
 refine WP.chk (by simp only [catb, Zbs, List.length_append, List.length_cons, List.length_nil]; omega) (WP.ret ⟨?_, s⟩)
 simp only [catb]
 congr 1
 simp [dotM, ZcS]
theorem ZnZ (s : Ss W Hs w) (a : Vec Int 16) (hb : Byt a.l) {i : Nat} (hi : i ≤ 8) : WP (Za7 a (i : Int)) w (fun r w' => r = (zrun ((grps a.l).drop i) : Int) ∧ Ss W Hs w') := by
 have h8 := Zg6 a.l
 have hzl := Zlj ((grps a.l).drop i)
 rw [List.length_drop, h8] at hzl
 unfold Za7
 refine WP.slot' s (fun _ w s => ?_)
 refine WP.loopG (γ := Nat) (fun n (x : Int) w => x = (n : Int) ∧ n ≤ zrun ((grps a.l).drop i) ∧ Ss W Hs w) (fun n _ => 8 - n) 0 ⟨rfl, Nat.zero_le _, s⟩ ?_
 clear s
 rintro n _ w ⟨rfl, hn, s⟩
 show WP (Za7.L1 a (i : Int) (n : Int)) w _
 unfold Za7.L1
 have hgo := Zna ((grps a.l).drop i) n hn
 rw [List.length_drop, h8, ZqE] at hgo
 rw [show IntKind.wrap .i64 ((i : Int) + (n : Int)) = ((i + n : Nat) : Int) by rw [Zah (by omega) (by omega)]; omega, show IntKind.wrap .i64 (2 * ((i + n : Nat) : Int)) = ((2 * (i + n) : Nat) : Int) by rw [Zah (by omega) (by omega)]; omega, show IntKind.wrap .i64 (((2 * (i + n) : Nat) : Int) + 1) = ((2 * (i + n) + 1 : Nat) : Int) by rw [Zah (by omega) (by omega)]; omega, vecg, vecg]
 refine WP.step (R := fun y w' => y = decide (i + n < 8 ∧ a.l.getD (2 * (i + n)) 0 = 0) ∧ w = w') (WP.ite (fun h => WP.chk ⟨by omega, by omega⟩ (WP.ret ⟨?_, rfl⟩)) (fun h => WP.ret ⟨?_, rfl⟩)) ?_
 ·rw [Bool.eq_iff_iff, beq_iff_eq, decide_eq_true_iff]
  exact ⟨fun h' => ⟨by omega, h'⟩, And.right⟩
 ·exact (decide_eq_false fun h' => h (by omega)).symm
 rintro _ _ ⟨rfl, rfl⟩
 refine WP.step (R := fun y w' => y = decide (n < zrun ((grps a.l).drop i)) ∧ w = w') (WP.ite (fun h => ?_) (fun h => WP.ret ⟨?_, rfl⟩)) ?_
 ·obtain ⟨h1, h2⟩ := of_decide_eq_true h
  refine WP.chk ⟨by omega, by omega⟩ (WP.ret ⟨?_, rfl⟩)
  rw [Bool.eq_iff_iff, beq_iff_eq, decide_eq_true_iff, ← hgo, ZhF h1, Zh6 hb]
  exact ⟨fun h' => ⟨by omega, h2, h'⟩, fun h' => h'.2.2⟩
 ·refine (decide_eq_false fun h' => h (decide_eq_true ?_)).symm
  have := hgo.2 h'
  have h1 : i + n < 8 := by omega
  rw [ZhF h1, Zh6 hb] at this
  exact ⟨h1, this.2.1⟩
 rintro _ _ ⟨rfl, rfl⟩
 refine WP.ite (fun h => ?_) (fun h => WP.done ⟨?_, s⟩)
 ·have h := of_decide_eq_true h
  rw [Zah (by omega) (by omega)]
  exact WP.next ⟨n + 1, ⟨by simp, h, s⟩, by omega⟩
 ·have : ¬ n < zrun ((grps a.l).drop i) := fun h' => h (decide_eq_true h')
  omega
theorem Zp8 (s : Ss W Hs w) (a : Vec Int 16) (hb : Byt a.l) : WP (Zc0 a) w (fun r w' => r = decide (a.l.take 12 = [0, 0, 0, 0, 0, 0, 0, 0, 0, 0, 255, 255]) ∧ Ss W Hs w') := by
 have hm := Zo7 hb a.h
 unfold Zc0
 refine WP.slot' s (fun _ w s => WP.step (ZnZ s a hb (i := 0) (by omega)) ?_)
 rintro _ w ⟨rfl, s⟩
 rw [List.drop_zero]
 have g10 : Vec.g a 10 0 = a.l.getD 10 0 := rfl
 have g11 : Vec.g a 11 0 = a.l.getD 11 0 := rfl
 rw [g10, g11]
 refine WP.step (R := fun y w' => y = decide (zrun (grps a.l) = 5 ∧ a.l.getD 10 0 = 255) ∧ w = w') (WP.ite (fun h => WP.ret ⟨?_, rfl⟩) (fun h => WP.ret ⟨?_, rfl⟩)) ?_
 ·rw [Bool.eq_iff_iff, beq_iff_eq, decide_eq_true_iff]
  exact ⟨fun h' => ⟨by omega, h'⟩, And.right⟩
 ·exact (decide_eq_false fun h' => h (by omega)).symm
 rintro _ _ ⟨rfl, rfl⟩
 refine WP.step (R := fun y w' => y = decide (a.l.take 12 = [0, 0, 0, 0, 0, 0, 0, 0, 0, 0, 255, 255]) ∧ w = w') (WP.ite (fun h => WP.ret ⟨?_, rfl⟩) (fun h => WP.ret ⟨?_, rfl⟩)) (fun r w h => by obtain ⟨h1, rfl⟩ := h; exact WP.ret ⟨h1, s⟩)
 ·have h := of_decide_eq_true h
  rw [Bool.eq_iff_iff, beq_iff_eq, decide_eq_true_iff, ← hm]
  exact ⟨fun h' => ⟨h.1, h.2, h'⟩, fun h' => h'.2.2⟩
 ·refine (decide_eq_false fun h' => h (decide_eq_true ?_)).symm
  have := hm.2 h'
  exact ⟨this.1, this.2.1⟩
theorem ZjM (s : Ss W Hs w) (ip : Zbe) (hb : Byt ip.A.l) : WP (Zaf ip) w (fun r w' => r = piM ip ∧ Ss W Hs w') := by
 have hlen := ip.A.h
 have h8 := Zg6 ip.A.l
 have e16 := Zsb hlen
 unfold Zaf piM
 refine WP.slot' s (fun _ w s => WP.step (Zmq s ip) ?_)
 rintro _ w ⟨rfl, s⟩
 refine WP.ite (fun h => WP.ret ⟨?_, s⟩) (fun h => ?_)
 ·rw [if_neg (fun h' => h (decide_eq_true h'))]
 rw [if_pos (of_decide_eq_true (Decidable.not_not.1 h))]
 unfold prIP
 refine WP.ite (fun h4 => WP.step (Zof s ip.A hb (i := 0) (by omega)) ?_) (fun h4 => WP.step (Zp8 s ip.A hb) ?_)
 ·rintro _ w ⟨rfl, s⟩
  refine WP.ret ⟨?_, s⟩
  rw [if_pos h4]
  have : ip.A.l.take 4 = [ip.A.l.getD 0 0, ip.A.l.getD 1 0, ip.A.l.getD 2 0, ip.A.l.getD 3 0] := by
   conv => lhs; rw [e16]
   rfl
  rw [this]
 rintro _ w ⟨rfl, s⟩
 rw [if_neg h4]
 refine WP.ite (fun hm => WP.step (Zof s ip.A hb (i := 12) (by omega)) ?_) (fun hm => ?_)
 ·rintro _ w ⟨rfl, s⟩
  have hff : Znl = bstr [58, 58, 102, 102, 102, 102, 58] := by decide +kernel
  have h64 := Zha (xs := [ip.A.l.getD 12 0, ip.A.l.getD (12 + 1) 0, ip.A.l.getD (12 + 2) 0, ip.A.l.getD (12 + 3) 0]) (by simp)
  rw [hff]
  refine WP.chk (by rw [Zbs, Zbs]; simp only [List.length_cons, List.length_nil]; omega) (WP.ret ⟨?_, s⟩)
  rw [if_pos (of_decide_eq_true hm), catb]
  have : ip.A.l.drop 12 = [ip.A.l.getD 12 0, ip.A.l.getD 13 0, ip.A.l.getD 14 0, ip.A.l.getD 15 0] := by
   conv => lhs; rw [e16]
   rfl
  rw [this]
 rw [if_neg (fun h => hm (decide_eq_true h))]
 generalize hg : grps ip.A.l = g at h8
 have fin : (if (Zd9 g).1 < 0 then colM g else colM (g.take (Zd9 g).1.toNat) ++ [58, 58] ++ colM (g.drop ((Zd9 g).1.toNat + (Zd9 g).2))) = Pri g (ZdG g 8).1 (ZdG g 8).2 8 := by
  have hi := ZgH h8 8 (Nat.le_refl _)
  unfold Pri Zd9
  by_cases hn : (ZdG g 8).1 < 0
  ·rw [if_pos hn, if_pos (.inl hn), List.take_of_length_le (by omega)]
  ·rw [if_neg hn, if_neg (by omega), List.take_of_length_le (show g.length ≤ 8 by omega)]
 rw [fin]
 refine WP.loopG (γ := Nat) (fun i (x : Int × Int × Int) w => x.1 = (ZdG g i).1 ∧ x.2.1 = ((ZdG g i).2 : Int) ∧ x.2.2 = (i : Int) ∧ i ≤ 8 ∧ Ss W Hs w) (fun i _ => 8 - i) 0 ⟨rfl, rfl, rfl, by omega, s⟩ ?_
 clear s
 rintro i ⟨_, _, _⟩ w ⟨rfl, rfl, rfl, hi, s⟩
 show WP (Zaf.L2 ip (ZdG g i).1 ((ZdG g i).2 : Int) (i : Int)) w _
 unfold Zaf.L2
 refine WP.ite (fun h => WP.step (ZnZ s ip.A hb hi) ?_) (fun h => ?_)
 ·rintro _ w ⟨rfl, s⟩
  rw [hg, Zah (by omega) (by omega)]
  refine WP.ite (fun h1 => WP.next ⟨i + 1, ⟨?_, ?_, by simp, by omega, s⟩, by omega⟩) (fun h1 => WP.next ⟨i + 1, ⟨?_, ?_, by simp, by omega, s⟩, by omega⟩)
  ·show (i : Int) = (ZdG g (i + 1)).1
   unfold ZdG
   rw [if_pos (by omega)]
  ·show ((zrun (g.drop i) : Nat) : Int) = ((ZdG g (i + 1)).2 : Int)
   conv => rhs; unfold ZdG
   rw [if_pos (by omega)]
  ·show (ZdG g i).1 = (ZdG g (i + 1)).1
   conv => rhs; unfold ZdG
   rw [if_neg (by omega)]
  ·show ((ZdG g i).2 : Int) = ((ZdG g (i + 1)).2 : Int)
   conv => rhs; unfold ZdG
   rw [if_neg (by omega)]
 have hi8 : i = 8 := by omega
 subst hi8
 refine WP.step ?_ (fun r w h => WP.done h)
 obtain ⟨i1, i2, i3, i4, i5⟩ := ZgH h8 8 (Nat.le_refl _)
 generalize (ZdG g 8).1 = at_ at i1 i2 i5 ⊢
 generalize (ZdG g 8).2 = long at i3 i4 i5 ⊢
 unfold Zaf.K2
 refine WP.loopG (γ := Nat) (fun k (x : ByteArray × Int) w => x.1 = bstr (Pri g at_ long k) ∧ x.2 = (k : Int) ∧ k ≤ 8 ∧ Ss W Hs w) (fun k _ => 8 - k) 0 ⟨?_, rfl, by omega, s⟩ ?_
 ·unfold Pri
  rw [if_pos (by omega)]
  rfl
 clear s
 rintro k ⟨_, _⟩ w ⟨rfl, rfl, hk, s⟩
 show WP (Zaf.L1 ip at_ (long : Int) (bstr (Pri g at_ long k)) (k : Int)) w _
 unfold Zaf.L1
 have hpl := Ztj h8 at_ long k
 have c1 : Znm = bstr [58] := by decide +kernel
 have c2 : Ziv = bstr [58, 58] := by decide +kernel
 rw [c1, c2]
 refine WP.ite (fun h => ?_) (fun h => ?_)
 ·have hk8 : k < 8 := by omega
  have ek : IntKind.wrap .i64 ((k : Int) + 1) = ((k + 1 : Nat) : Int) := by rw [Zah (by omega) (by omega)]; omega
  have el : IntKind.wrap .i64 (at_ + (long : Int)) = at_ + (long : Int) := Zah (by omega) (by omega)
  have hsn := ZoR (g := g) (k := k) (by omega)
  rw [ek, el]
  refine WP.ite (fun h1 => ?_) (fun h1 => ?_)
  ·refine WP.chk (by rw [Zbs, Zbs]; simp only [List.length_cons, List.length_nil]; omega) ?_
   rw [catb]
   refine WP.next ⟨k + 1, ⟨?_, rfl, by omega, s⟩, by omega⟩
   simp only
   congr 1
   unfold Pri
   rw [if_pos (by omega), if_neg (by omega), List.drop_of_length_le (by rw [List.length_take]; omega), show at_.toNat = k by omega]
   simp [colM, ZcS]
  refine WP.step (R := fun y w' => y = decide (at_ ≥ 0 ∧ (k : Int) > at_) ∧ w = w') (WP.ite (fun h => WP.ret ⟨decide_eq_decide.2 ⟨fun h' => ⟨h, h'⟩, And.right⟩, rfl⟩) (fun h => WP.ret ⟨(decide_eq_false fun h' => h h'.1).symm, rfl⟩)) ?_
  rintro _ _ ⟨rfl, rfl⟩
  refine WP.step (R := fun y w' => y = decide (at_ ≥ 0 ∧ (k : Int) > at_ ∧ (k : Int) < at_ + (long : Int)) ∧ w = w') (WP.ite (fun h => WP.ret ⟨?_, rfl⟩) (fun h => WP.ret ⟨?_, rfl⟩)) ?_
  ·have h := of_decide_eq_true h
   exact decide_eq_decide.2 ⟨fun h' => ⟨h.1, h.2, h'⟩, fun h' => h'.2.2⟩
  ·exact (decide_eq_false fun h' => h (decide_eq_true ⟨h'.1, h'.2.1⟩)).symm
  rintro _ _ ⟨rfl, rfl⟩
  refine WP.ite (fun h2 => ?_) (fun h2 => ?_)
  ·obtain ⟨a1, a2, a3⟩ := of_decide_eq_true h2
   refine WP.next ⟨k + 1, ⟨?_, rfl, by omega, s⟩, by omega⟩
   simp only
   congr 1
   unfold Pri
   rw [if_neg (by omega), if_neg (by omega), List.drop_of_length_le (by rw [List.length_take]; omega), List.drop_of_length_le (by rw [List.length_take]; omega)]
  have h2 : ¬ (at_ ≥ 0 ∧ (k : Int) > at_ ∧ (k : Int) < at_ + (long : Int)) := fun h' => h2 (decide_eq_true h')
  -- a group
  have hstep : Pri g at_ long (k + 1) = (if 0 < k ∧ ((k : Int) ≠ at_ + (long : Int) ∨ at_ < 0) then Pri g at_ long k ++ [58] else Pri g at_ long k) ++ hex4 (g.getD k 0) := by
   by_cases hc : at_ < 0 ∨ (k : Int) < at_
   ·have e1 : Pri g at_ long (k + 1) = colM (g.take (k + 1)) := by
     unfold Pri
     rw [if_pos (show at_ < 0 ∨ ((k + 1 : Nat) : Int) ≤ at_ by omega)]
    have e0 : Pri g at_ long k = colM (g.take k) := by
     unfold Pri
     rw [if_pos (show at_ < 0 ∨ (k : Int) ≤ at_ by omega)]
    rw [e1, e0, hsn, ZmX]
    by_cases h0 : k = 0
    ·subst h0
     rw [if_pos (show g.take 0 = [] from rfl), if_neg (show ¬ (0 < 0 ∧ (((0 : Nat) : Int) ≠ at_ + (long : Int) ∨ at_ < 0)) by omega)]
     rfl
    ·have hne : g.take k ≠ [] := by
      intro h'
      have := congrArg List.length h'
      rw [List.length_take] at this
      simp only [List.length_nil] at this
      omega
     rw [if_neg hne, if_pos (show 0 < k ∧ ((k : Int) ≠ at_ + (long : Int) ∨ at_ < 0) by omega), List.append_assoc]
     rfl
   ·have e1 : Pri g at_ long (k + 1) = colM (g.take at_.toNat) ++ [58, 58] ++ colM ((g.take (k + 1)).drop (at_.toNat + long)) := by
     unfold Pri
     rw [if_neg (show ¬ (at_ < 0 ∨ ((k + 1 : Nat) : Int) ≤ at_) by omega)]
    have e0 : Pri g at_ long k = colM (g.take at_.toNat) ++ [58, 58] ++ colM ((g.take k).drop (at_.toNat + long)) := by
     unfold Pri
     rw [if_neg (show ¬ (at_ < 0 ∨ (k : Int) ≤ at_) by omega)]
    rw [e1, e0, hsn, List.drop_append_of_le_length (by rw [List.length_take]; omega), ZmX]
    by_cases h0 : (k : Int) = at_ + (long : Int)
    ·have e2 : (g.take k).drop (at_.toNat + long) = [] := List.drop_of_length_le (by rw [List.length_take]; omega)
     rw [e2, if_pos rfl, if_neg (show ¬ (0 < k ∧ ((k : Int) ≠ at_ + (long : Int) ∨ at_ < 0)) by omega)]
     simp [colM, ZcS]
    ·have hne : (g.take k).drop (at_.toNat + long) ≠ [] := by
      intro h'
      have := congrArg List.length h'
      rw [List.length_drop, List.length_take] at this
      simp only [List.length_nil] at this
      omega
     rw [if_neg hne, if_pos (show 0 < k ∧ ((k : Int) ≠ at_ + (long : Int) ∨ at_ < 0) by omega)]
     simp
  have K1 : ∀ {l : List Int} {w : World}, l.length ≤ 300 → l ++ hex4 (g.getD k 0) = Pri g at_ long (k + 1) → Ss W Hs w → WP (Zaf.K1 ip (k : Int) (bstr l)) w (WP.Rd (fun (x : ByteArray × Int) w' => ∃ k' : Nat, (x.1 = bstr (Pri g at_ long k') ∧ x.2 = (k' : Int) ∧ k' ≤ 8 ∧ Ss W Hs w') ∧ 8 - k' < 8 - k) (fun r w' => r = (bstr (Pri g at_ long 8), 0) ∧ Ss W Hs w')) := by
   intro l w hl he s
   unfold Zaf.K1
   have b1 := Zhp hb (2 * k)
   have b2 := Zhp hb (2 * k + 1)
   rw [show IntKind.wrap .i64 (2 * (k : Int)) = ((2 * k : Nat) : Int) by rw [Zah (by omega) (by omega)]; omega, show IntKind.wrap .i64 (((2 * k : Nat) : Int) + 1) = ((2 * k + 1 : Nat) : Int) by rw [Zah (by omega) (by omega)]; omega, vecg, vecg, ek]
   have eg : IntKind.wrap .i64 (IntKind.wrap .i64 (256 * IntKind.wrap .i64 (ip.A.l.getD (2 * k) 0)) + IntKind.wrap .i64 (ip.A.l.getD (2 * k + 1) 0)) = ((g.getD k 0 : Nat) : Int) := by
    rw [Zah (n := ip.A.l.getD (2 * k) 0) (by omega) (by omega), Zah (n := ip.A.l.getD (2 * k + 1) 0) (by omega) (by omega), Zah (n := 256 * _) (by omega) (by omega), Zah (by omega) (by omega), ← hg, ZhF hk8]
    unfold grp
    omega
   rw [eg]
   have hlt : g.getD k 0 < 65536 := by
    rw [← hg, ZhF hk8]
    unfold grp
    omega
   refine WP.draw' s (fun w s => WP.chk ⟨by omega, by omega⟩ (WP.chk ⟨by omega, by omega⟩ (WP.step (ZsN s hlt) ?_)))
   rintro _ w ⟨rfl, s⟩
   have := (Zg5 3 (g.getD k 0)).2
   refine WP.chk (by rw [Zbs, Zbs]; unfold hex4; omega) ?_
   rw [catb, he]
   exact WP.next ⟨k + 1, ⟨rfl, rfl, by omega, s⟩, by omega⟩
  refine WP.step (R := fun y w' => y = decide (0 < k ∧ (k : Int) ≠ at_ + (long : Int)) ∧ w = w') (WP.ite (fun h => WP.ret ⟨?_, rfl⟩) (fun h => WP.ret ⟨(decide_eq_false fun h' => h (by omega)).symm, rfl⟩)) ?_
  ·rw [Bool.eq_iff_iff, bne_iff_ne, decide_eq_true_iff]
   exact ⟨fun h' => ⟨by omega, h'⟩, And.right⟩
  rintro _ _ ⟨rfl, rfl⟩
  refine WP.step (R := fun y w' => y = decide (0 < k ∧ ((k : Int) ≠ at_ + (long : Int) ∨ at_ < 0)) ∧ w = w') (WP.ite (fun h => WP.ret ⟨?_, rfl⟩) (fun h => WP.step (R := fun y w' => y = decide (0 < k ∧ ((k : Int) ≠ at_ + (long : Int) ∨ at_ < 0)) ∧ w = w') (WP.ite (fun h' => WP.ret ⟨?_, rfl⟩) (fun h' => WP.ret ⟨?_, rfl⟩)) (fun r w h => WP.ret h))) ?_
  ·have h := of_decide_eq_true h
   exact (decide_eq_true ⟨h.1, .inl h.2⟩).symm
  ·have h : ¬ (0 < k ∧ (k : Int) ≠ at_ + (long : Int)) := fun h' => h (decide_eq_true h')
   exact decide_eq_decide.2 ⟨fun x => ⟨by omega, .inr x⟩, fun x => by omega⟩
  ·exact (decide_eq_false fun x => h' (by omega)).symm
  rintro _ _ ⟨rfl, rfl⟩
  refine WP.ite (fun h3 => ?_) (fun h3 => ?_)
  ·rw [if_pos (of_decide_eq_true h3)] at hstep
   refine WP.chk (by rw [Zbs, Zbs]; simp only [List.length_cons, List.length_nil]; omega) ?_
   rw [catb]
   exact K1 (by simp only [List.length_append, List.length_cons, List.length_nil]; omega) hstep.symm s
  ·rw [if_neg (fun h' => h3 (decide_eq_true h'))] at hstep
   exact K1 (by omega) hstep.symm s
 ·have : k = 8 := by omega
  subst this
  exact WP.done ⟨rfl, s⟩
theorem ZjL (s : Ss W Hs w) (p : Zap) (hb : Byt p.IP.A.l) : WP (Zb5 p) w (fun r w' => r = ppM p ∧ Ss W Hs w') := by
 unfold Zb5
 refine WP.slot' s (fun _ w s => WP.step (ZgD s p hb) ?_)
 rintro _ w ⟨rfl, s⟩
 refine WP.ite (fun h => WP.ret ⟨by unfold ppM; rw [if_neg h], s⟩) (fun h => ?_)
 have hv : vpM p = 0 := Decidable.not_not.1 h
 obtain ⟨v0, v1, v2, v3⟩ := Zjy hv
 have hz := Zg1 p.IP
 refine WP.step (ZjM s p.IP hb) ?_
 rintro _ w ⟨rfl, s⟩
 have hp : piM p.IP = (bstr (prIP p.IP), 0) := by
  unfold piM
  rw [if_pos (by omega)]
 rw [hp]
 have hlen := Zoj (ip := p.IP)
 have e : Zkt = bstr [47] := by decide +kernel
 rw [e]
 refine WP.chk (by rw [Zbs, Zbs]; simp only [List.length_cons, List.length_nil]; omega) ?_
 rw [show p.Len = ((p.Len.toNat : Nat) : Int) by omega]
 refine WP.step (ZkP s (n := p.Len.toNat) (by omega)) ?_
 rintro _ w ⟨rfl, s⟩
 simp only
 rw [catb]
 have hd := ZoH (n := p.Len.toNat) (by omega)
 refine WP.chk (by rw [Zbs, Zbs, List.length_append]; simp only [List.length_cons, List.length_nil]; omega) (WP.ret ⟨?_, s⟩)
 rw [catb]
 unfold ppM
 rw [if_pos hv, List.append_assoc]
 rfl
end
end Go.Proofs.YtpmhinidiplhiaaGreatDoor.Lx
