
import Derived.Test.YtfgcobigollfjaaDoorRouteLex
import Derived.Test.YtfgcobigollfjaaDoorRouteSort5
set_option linter.unusedVariables false
set_option linter.unusedSimpArgs false
namespace Go.Proofs.YtfgcobigollfjaaDoor.Lx
open Go Go.Proofs Go.RowKit
section
variable {W w : World} {Hs : List HP}
theorem ZiK (a b : Int) : WP (Zb5 a b) w (fun r w' => r = cmpI a b ∧ w = w') := by
 unfold Zb5 ZcJ cmpI
 refine WP.step (R := fun r w' => r = false ∧ w = w') (WP.ret ⟨by simp, rfl⟩) ?_
 rintro _ _ ⟨rfl, rfl⟩
 refine WP.step (R := fun r w' => r = false ∧ w = w') (WP.ret ⟨by simp, rfl⟩) ?_
 rintro _ _ ⟨rfl, rfl⟩
 refine WP.ite (fun h => by cases h) (fun _ => WP.ite (fun h => by cases h) (fun _ => WP.ite (fun h => WP.ret ⟨by rw [if_pos h], rfl⟩) (fun h => WP.ite (fun h2 => WP.ret ⟨by rw [if_neg h, if_pos h2], rfl⟩) (fun h2 => WP.ret ⟨by rw [if_neg h, if_neg h2], rfl⟩))))
theorem Zkl (a b : Int) : WP (Zb9 a b) w (fun r w' => r = cmpI a b ∧ w = w') := by
 unfold Zb9 Zcz cmpI
 refine WP.step (R := fun r w' => r = false ∧ w = w') (WP.ret ⟨by simp, rfl⟩) ?_
 rintro _ _ ⟨rfl, rfl⟩
 refine WP.step (R := fun r w' => r = false ∧ w = w') (WP.ret ⟨by simp, rfl⟩) ?_
 rintro _ _ ⟨rfl, rfl⟩
 refine WP.ite (fun h => by cases h) (fun _ => WP.ite (fun h => by cases h) (fun _ => WP.ite (fun h => WP.ret ⟨by rw [if_pos h], rfl⟩) (fun h => WP.ite (fun h2 => WP.ret ⟨by rw [if_neg h, if_pos h2], rfl⟩) (fun h2 => WP.ret ⟨by rw [if_neg h, if_neg h2], rfl⟩))))
theorem Zkk {A B : HP} {x y : Sl} {xs ys : List Int} (s : Ss W Hs w) (i : Nat) (ei : nth Hs i = some A) (rx : Rdb A (cI .u8) x xs) (j : Nat) (ej : nth Hs j = some B) (ry : Rdb B (cI .u8) y ys) (hxy : xs.length = ys.length) (hs : xs.length < 1000000) :
  WP (ZaG x y) w (fun r w' => r = lexL xs ys ∧ w = w') := by
 have hx := (s.rd_len ei rx).1
 have hy := (s.rd_len ej ry).1
 unfold ZaG
 refine WP.loopG (γ := Nat) (fun k (z : Int) w' => z = (k : Int) ∧ k ≤ xs.length ∧ lexL xs ys = lexL (xs.drop k) (ys.drop k) ∧ w = w') (fun k _ => xs.length - k) 0 ⟨rfl, Nat.zero_le _, rfl, rfl⟩ ?_
 rintro k _ _ ⟨rfl, hk, hl, rfl⟩
 show WP (ZaG.L1 x y (k : Int)) w _
 unfold ZaG.L1
 refine WP.ite (fun h => ?_) (fun h => WP.ite (fun h2 => by omega) (fun _ => WP.done ⟨?_, rfl⟩))
 ·have h1 : k < xs.length := by omega
  have h2 : k < ys.length := by omega
  refine WP.rdx s i ei rx (by omega) (x := xs[k]) (by rw [Int.toNat_natCast, List.getElem?_eq_getElem h1]) rfl (WP.ite (fun h3 => by omega) (fun _ => WP.rdx s j ej ry (by omega) (x := ys[k]) (by rw [Int.toNat_natCast, List.getElem?_eq_getElem h2]) rfl (WP.step (Zkl _ _) ?_)))
  rintro _ _ ⟨rfl, rfl⟩
  rw [List.drop_eq_getElem_cons h1, List.drop_eq_getElem_cons h2] at hl
  have e : lexL (xs[k] :: xs.drop (k + 1)) (ys[k] :: ys.drop (k + 1)) = if cmpI xs[k] ys[k] ≠ 0 then cmpI xs[k] ys[k] else lexL (xs.drop (k + 1)) (ys.drop (k + 1)) := by
   rw [← ZfI]
   exact Ze0 (x := [xs[k]]) (y := [ys[k]]) rfl
  rw [e] at hl
  refine WP.ite (fun h3 => WP.done ⟨by rw [hl, if_pos h3], rfl⟩) (fun h3 => WP.next ⟨k + 1, ⟨?_, h1, by rw [hl, if_neg h3], rfl⟩, by omega⟩)
  rw [ZaP (by omega) (by omega)]
  omega
 ·rw [hl, List.drop_of_length_le (by omega), List.drop_of_length_le (by omega)]
  rfl
def orL : List Int → Int
 | [] => 0
 | x :: l => if x ≠ 0 then x else orL l
theorem Zgt (x : Int) (l : List Int) : orL (x :: l) = if x ≠ 0 then x else orL l := rfl
theorem ZnS {A : HP} {x : Sl} {xs : List Int} (s : Ss W Hs w) (i : Nat) (ei : nth Hs i = some A) (rx : Rdb A (cI .i64) x xs) (hs : xs.length < 1000000) : WP (Zbu x) w (fun r w' => r = orL xs ∧ w = w') := by
 have hx := (s.rd_len ei rx).1
 unfold Zbu
 refine WP.loopG (γ := Nat) (fun k (z : Int) w' => z = (k : Int) ∧ k ≤ xs.length ∧ orL xs = orL (xs.drop k) ∧ w = w') (fun k _ => xs.length - k) 0 ⟨rfl, Nat.zero_le _, rfl, rfl⟩ ?_
 rintro k _ _ ⟨rfl, hk, hl, rfl⟩
 show WP (Zbu.L1 x (k : Int)) w _
 unfold Zbu.L1
 refine WP.ite (fun h => ?_) (fun h => WP.done ⟨?_, rfl⟩)
 ·have h1 : k < xs.length := by omega
  refine WP.rdx s i ei rx (by omega) (x := xs[k]) (by rw [Int.toNat_natCast, List.getElem?_eq_getElem h1]) rfl ?_
  rw [List.drop_eq_getElem_cons h1, Zgt] at hl
  refine WP.ite (fun h3 => WP.done ⟨by rw [hl, if_pos h3], rfl⟩) (fun h3 => WP.next ⟨k + 1, ⟨?_, h1, by rw [hl, if_neg h3], rfl⟩, by omega⟩)
  rw [ZaP (by omega) (by omega)]
  omega
 ·rw [hl, List.drop_of_length_le (by omega)]
  rfl
theorem Zlt {β : Type} {a : Addr} {n sz : Nat} {f : Sl → M β} {Q : β → World → Prop} (h0 : n ≠ 0) (g : WP (f ⟨some a, n, n⟩) w Q) : WP (cut sz ⟨some a, n, n⟩ none none none >>= f) w Q := by
 refine WP.bind ⟨_, w, ?_, g⟩
 unfold cut
 simp [h0, Addr.add]
theorem ZhG (r : Zab) : At (Zac.enc r) 0 ((cI .i64).enc r.Prefix.IP.V) := (ZaT r).trans ((Za6 r.Prefix).trans (Zbp r.Prefix.IP))
theorem ZhH (r : Zab) : At (Zac.enc r) 1 (r.Prefix.IP.A.l.flatMap (cI .u8).enc) := by
 have := (ZaT r).trans ((Za6 r.Prefix).trans (ZbW r.Prefix.IP))
 rw [Cod.arr_enc] at this
 exact this
theorem ZdK (r : Zab) : At (Zac.enc r) 17 ((cI .i64).enc r.Prefix.Len) := (ZaT r).trans (Zbl r.Prefix)
theorem ZlX (s : Ss W Hs w) (x y : Zab) : WP (Zcw x y) w (fun r w' => decide (r < 0) = olt x y ∧ Ss W Hs w') := by
 unfold Zcw
 refine WP.newv s (fun b1 w s => WP.newv s (fun b2 w s => WP.draw' s (fun w s => ?_)))
 refine WP.ld s 1 rfl (o := 0) (by simp [Addr.add]) (ZhG x) (WP.ld s 0 rfl (o := 0) (by simp [Addr.add]) (ZhG y) (WP.ld s 1 rfl (o := 17) rfl (ZdK x) (WP.ld s 0 rfl (o := 17) rfl (ZdK y) (WP.step (ZiK _ _) ?_))))
 rintro _ _ ⟨rfl, rfl⟩
 refine WP.same s 0 rfl (o := 17) rfl (ZdK y) (WP.same s 1 rfl (o := 17) rfl (ZdK x) (Zlt (by decide) (Zlt (by decide) ?_)))
 have r1 : Rdb (pts true (pt b1 0) (Zac.enc x)) (cI .u8) ⟨some (Addr.add (pt b1 0) 1), 16, 16⟩ x.Prefix.IP.A.l := by
  have := (Zfa.pts (q := true) (a := pt b1 0) (L := Zac.enc x)).at_ (ZhH x) |>.rdb (k := 16)
  rw [x.Prefix.IP.A.h] at this
  exact this
 have r2 : Rdb (pts true (pt b2 0) (Zac.enc y)) (cI .u8) ⟨some (Addr.add (pt b2 0) 1), 16, 16⟩ y.Prefix.IP.A.l := by
  have := (Zfa.pts (q := true) (a := pt b2 0) (L := Zac.enc y)).at_ (ZhH y) |>.rdb (k := 16)
  rw [y.Prefix.IP.A.h] at this
  exact this
 refine WP.step (Zkk s 1 rfl r1 0 rfl r2 (by rw [x.Prefix.IP.A.h, y.Prefix.IP.A.h]) (by rw [x.Prefix.IP.A.h]; omega)) ?_
 rintro _ _ ⟨rfl, rfl⟩
 refine WP.same s 0 rfl (o := 17) rfl (ZdK y) (WP.same s 1 rfl (o := 17) rfl (ZdK x) (WP.step (ZiK _ _) ?_))
 rintro _ _ ⟨rfl, rfl⟩
 refine WP.newv s (fun b3 w s => ?_)
 have r3 : Rdb (pts true (pt b3 0) (((cI .i64).arr 3).enc ⟨[cmpI x.Prefix.IP.V y.Prefix.IP.V, lexL x.Prefix.IP.A.l y.Prefix.IP.A.l, cmpI x.Prefix.Len y.Prefix.Len], rfl⟩)) (cI .i64) ⟨some (pt b3 0), 3, 3⟩ [cmpI x.Prefix.IP.V y.Prefix.IP.V, lexL x.Prefix.IP.A.l y.Prefix.IP.A.l, cmpI x.Prefix.Len y.Prefix.Len] := by
  rw [Cod.arr_enc]
  exact ZmN (k := 3) (xs := [cmpI x.Prefix.IP.V y.Prefix.IP.V, lexL x.Prefix.IP.A.l y.Prefix.IP.A.l, cmpI x.Prefix.Len y.Prefix.Len])
 refine WP.step (ZnS s 0 rfl r3 (by simp)) ?_
 rintro _ _ ⟨rfl, rfl⟩
 refine WP.ret ⟨?_, s.drop.drop.drop⟩
 have e : lexL (keyP x.Prefix) (keyP y.Prefix) = orL [cmpI x.Prefix.IP.V y.Prefix.IP.V, lexL x.Prefix.IP.A.l y.Prefix.IP.A.l, cmpI x.Prefix.Len y.Prefix.Len] := by
  unfold keyP
  rw [Ze0 (x := [x.Prefix.IP.V]) (y := [y.Prefix.IP.V]) rfl, Ze0 (x := x.Prefix.IP.A.l) (y := y.Prefix.IP.A.l) (by rw [x.Prefix.IP.A.h, y.Prefix.IP.A.h]), ZfI, ZfI]
  rw [Zgt, Zgt, Zgt]
  by_cases h1 : cmpI x.Prefix.IP.V y.Prefix.IP.V ≠ 0
  ·rw [if_pos h1, if_pos h1]
  ·rw [if_neg h1, if_neg h1]
   by_cases h2 : lexL x.Prefix.IP.A.l y.Prefix.IP.A.l ≠ 0
   ·rw [if_pos h2, if_pos h2]
   ·rw [if_neg h2, if_neg h2]
    by_cases h3 : cmpI x.Prefix.Len y.Prefix.Len ≠ 0
    ·rw [if_pos h3]
    ·rw [if_neg h3]
     have : cmpI x.Prefix.Len y.Prefix.Len = 0 := Decidable.not_not.1 h3
     rw [this]
     rfl
 unfold olt
 rw [e]
theorem ZlY (W : World) (R : List HP) : Srt.SCmp W R (fun _ => True) (fun q5 q6 => Zcw q5 q6) olt := fun L w x y s _ _ => ZlX s x y
end
end Go.Proofs.YtfgcobigollfjaaDoor.Lx
