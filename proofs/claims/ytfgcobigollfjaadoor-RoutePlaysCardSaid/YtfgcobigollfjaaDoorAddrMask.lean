
import Derived.Test.YtfgcobigollfjaaDoorAddrByt
set_option linter.unusedVariables false
set_option linter.unusedSimpArgs false
namespace Go.Proofs.YtfgcobigollfjaaDoor.Lx
open Go Go.Proofs Go.RowKit
def Zbo (ip : ZaH) : Int := if ip.V = 6 then 128 else if ip.V = 4 ∧ ip.A.l.drop 4 = List.replicate 12 0 then 32 else 0
def ZdT (k : Int) : Nat := (min 8 (max 0 k)).toNat
def Zip (c : Int) (k : Int) : Int := c / 2 ^ (8 - ZdT k) * 2 ^ (8 - ZdT k)
def Zit (a : List Int) (n : Int) : List Int := (List.range 16).map fun i => Zip (a.getD i 0) (n - 8 * (i : Int))
def ZeQ (a : Vec Int 16) (n : Int) : Vec Int 16 := ⟨Zit a.l n, by simp [Zit]⟩
def vpM (p : Zar) : Int := if Zbo p.IP = 0 then 40 else if p.Len < 0 ∨ p.Len > Zbo p.IP then 45 else if ZeQ p.IP.A p.Len = p.IP.A then 0 else 46
def mkM (ip : ZaH) (n : Int) : ZaH × Int := if Zbo ip = 0 then (Zby, 40) else if n < 0 ∨ n > Zbo ip then (Zby, 45) else (⟨ip.V, ZeQ ip.A n⟩, 0)
def ctM (p : Zar) (ip : ZaH) : Bool := decide (vpM p = 0 ∧ Zbo ip > 0 ∧ p.IP.V = ip.V ∧ ZeQ ip.A p.Len = p.IP.A)
theorem Zd2 (ip : ZaH) : 0 ≤ Zbo ip ∧ Zbo ip ≤ 128 := by
 unfold Zbo
 split
 ·omega
 ·split <;> omega
theorem Zl1 : ∀ (c : _root_.Fin 256) (k : _root_.Fin 9), band .u8 (c.val : Int) (IntKind.wrap .u8 (Int.fdiv 65280 (2 ^ k.val))) = (c.val : Int) / 2 ^ (8 - k.val) * 2 ^ (8 - k.val) := by decide +kernel
theorem Zjb {c : Int} (k : Int) (h : 0 ≤ c ∧ c ≤ 255) : 0 ≤ Zip c k ∧ Zip c k ≤ 255 := by
 unfold Zip
 have h1 : (0 : Int) < 2 ^ (8 - ZdT k) := Int.pow_pos (by omega)
 constructor
 ·exact Int.mul_nonneg (Int.ediv_nonneg h.1 (by omega)) (by omega)
 ·have := Int.ediv_mul_le c (b := 2 ^ (8 - ZdT k)) (by omega)
  omega
theorem ZgV {a : List Int} (n : Int) (h : Byt a) : Byt (Zit a n) := fun x hx => by
 obtain ⟨i, _, rfl⟩ := List.mem_map.1 hx
 refine Zjb _ ?_
 rw [List.getD]
 cases hi : a[i]? with
 | none => simp
 | some y => exact h y (List.mem_of_getElem? hi)
section
variable {W w : World} {Hs : List HP}
theorem ZkB (s : Ss W Hs w) (ip : ZaH) : WP (ZdB ip) w (fun r w' => r = Zbo ip ∧ Ss W Hs w') := by
 unfold ZdB
 refine WP.newv s (fun b w s => WP.ld s 0 rfl (o := 0) (by simp [Addr.add]) (Zbp _) ?_)
 refine WP.ite (fun h => WP.ret ⟨by unfold Zbo; rw [if_pos h], s.drop⟩) (fun h6 => ?_)
 refine WP.ld s 0 rfl (o := 0) (by simp [Addr.add]) (Zbp _) ?_
 refine WP.step (R := fun y w' => y = decide (¬ (ip.V = 4 ∧ ip.A.l.drop 4 = List.replicate 12 0)) ∧ Ss W (pts true (pt b 0) (ZaI.enc ip) :: Hs) w') (WP.ite (fun h => WP.ret ⟨?_, s⟩) (fun h => ?_)) ?_
 ·simp [show ¬ ip.V = 4 from h]
 ·refine WP.cutsuf (by omega) (by simp) (by simp) ?_
  refine WP.bind (WP.chk (by simp) ?_)
  have hq : (if 16 = (4 : Int).toNat then some (Addr.add (pt b 0) 1) else (some (Addr.add (pt b 0) 1)).map (·.add ((4 : Int).toNat * 1))) = some ((pt b 0).add 5) := rfl
  simp only [hq]
  refine ⟨(pt b 0).add 5, w, rfl, ?_⟩
  have hl : (ip.A.l.drop 4).length = 12 := by rw [List.length_drop, ip.A.h]
  have hat : At (ZaI.enc ip) 5 (((cI .u8).arr 12).enc ⟨ip.A.l.drop 4, hl⟩) := by
   have h1 : At (((cI .u8).arr 16).enc ip.A) 4 (((cI .u8).arr 12).enc ⟨ip.A.l.drop 4, hl⟩) := by
    rw [Cod.arr_enc, Cod.arr_enc]
    refine ⟨(ip.A.l.take 4).flatMap (cI .u8).enc, [], ?_, ?_⟩
    ·rw [List.append_nil, ← List.flatMap_append, List.take_append_drop]
    ·rw [Zdx, List.length_take, ip.A.h]
     rfl
   exact (ZbW ip).trans h1
  refine WP.ld s 0 rfl (o := 5) rfl hat (WP.ret ⟨?_, s⟩)
  have h4 : ip.V = 4 := by
   rcases Decidable.em (ip.V = 4) with h' | h'
   ·exact h'
   ·exact absurd h' h
  have e1 : eqv (⟨ip.A.l.drop 4, hl⟩ : Vec Int 12) (⟨[0, 0, 0, 0, 0, 0, 0, 0, 0, 0, 0, 0], rfl⟩ : Vec Int 12) = decide (ip.A.l.drop 4 = List.replicate 12 0) := by
   refine Zlm ?_
   rw [decide_eq_true_iff]
   exact ⟨fun h => Vec.eq h, fun h => congrArg Vec.l h⟩
  rw [e1]
  simp [h4]
 rintro _ w ⟨rfl, s⟩
 refine WP.ite (fun h => WP.ret ⟨?_, s.drop⟩) (fun h => WP.ret ⟨?_, s.drop⟩)
 ·unfold Zbo
  rw [if_neg h6, if_neg (of_decide_eq_true h)]
 ·unfold Zbo
  rw [if_neg h6, if_pos (Decidable.not_not.1 fun h' => h (decide_eq_true h'))]
theorem Zgx (s : Ss W Hs w) (ip : ZaH) : WP (ZcQ ip) w (fun r w' => r = decide (Zbo ip > 0) ∧ Ss W Hs w') := by
 unfold ZcQ
 refine WP.slot' s (fun _ w s => WP.step (ZkB s ip) ?_)
 rintro _ w ⟨rfl, s⟩
 exact WP.ret ⟨rfl, s⟩
theorem Zir (s : Ss W Hs w) (a : Vec Int 16) (hb : Byt a.l) {n : Int} (n0 : 0 ≤ n) (n1 : n ≤ 128) : WP (Zbm a n) w (fun r w' => r = ZeQ a n ∧ Ss W Hs w') := by
 unfold Zbm
 refine WP.slot' s (fun _ w s => WP.slot' s (fun _ w s => WP.slot' s (fun _ w s => ?_)))
 refine WP.loopG (γ := Nat) (fun i (p : Int × Vec Int 16) w => p.1 = (i : Int) ∧ i ≤ 16 ∧ (∀ j, j < i → p.2.l[j]? = some (Zip (a.l.getD j 0) (n - 8 * (j : Int)))) ∧ Ss W Hs w) (fun i _ => 16 - i) 0 ⟨rfl, by omega, fun j h => absurd h (by omega), s⟩ ?_
 clear s
 rintro i ⟨_, v⟩ w ⟨rfl, hi, hv, s⟩
 simp only at hv
 show WP (Zbm.L1 a n (i : Int) v) w _
 unfold Zbm.L1
 refine WP.ite (fun h => ?_) (fun h => WP.done ⟨?_, s⟩)
 ·have e8 : IntKind.wrap .i64 (8 * (i : Int)) = 8 * (i : Int) := ZaP (by omega) (by omega)
  have en : IntKind.wrap .i64 (n - 8 * (i : Int)) = n - 8 * (i : Int) := ZaP (by omega) (by omega)
  have ek : (if (if 0 < n - 8 * (i : Int) then n - 8 * (i : Int) else 0) < 8 then (if 0 < n - 8 * (i : Int) then n - 8 * (i : Int) else 0) else 8) = ((ZdT (n - 8 * (i : Int)) : Nat) : Int) := by
   unfold ZdT
   split <;> split <;> omega
  have hk : ZdT (n - 8 * (i : Int)) ≤ 8 := by
   unfold ZdT
   omega
  rw [e8, en, ek, ZlJ (by omega) (by omega)]
  refine WP.chk ⟨by omega, by omega⟩ (WP.chk (by omega) (WP.chk ⟨by omega, by omega⟩ (WP.next ⟨i + 1, ⟨?_, by omega, ?_, s⟩, by omega⟩)))
  ·simp only
   rw [ZaP (by omega) (by omega)]
   simp
  ·intro j hj
   have hc : 0 ≤ a.l.getD i 0 ∧ a.l.getD i 0 ≤ 255 := by
    rw [List.getD]
    cases hx : a.l[i]? with
    | none => simp
    | some y => exact hb y (List.mem_of_getElem? hx)
   have ht := Zl1 ⟨(a.l.getD i 0).toNat, by omega⟩ ⟨ZdT (n - 8 * (i : Int)), by omega⟩
   simp only at ht
   rw [show (((a.l.getD i 0).toNat : Nat) : Int) = a.l.getD i 0 by omega] at ht
   have hmin : min (Int.toNat ((ZdT (n - 8 * (i : Int)) : Nat) : Int)) 64 = ZdT (n - 8 * (i : Int)) := by omega
   show (v.l.set (Int.toNat (i : Int)) (band .u8 (a.l.getD (Int.toNat (i : Int)) 0) _))[j]? = _
   rw [hmin, Int.toNat_natCast, ht]
   by_cases ej : j = i
   ·subst ej
    rw [List.getElem?_set_self (by rw [v.h]; omega)]
    rfl
   ·rw [List.getElem?_set_ne (fun h => ej h.symm)]
    exact hv j (by omega)
 ·have hi : i = 16 := by omega
  subst hi
  refine Vec.eq ?_
  show v.l = Zit a.l n
  apply List.ext_getElem?
  intro j
  unfold Zit
  rw [List.getElem?_map]
  by_cases hj : j < 16
  ·rw [hv j hj, List.getElem?_range hj]
   rfl
  ·rw [List.getElem?_eq_none (by rw [v.h]; omega), List.getElem?_eq_none (by simp; omega)]
   rfl
theorem ZhI {p : Zar} (h : vpM p = 0) : Zbo p.IP ≠ 0 ∧ 0 ≤ p.Len ∧ p.Len ≤ Zbo p.IP ∧ ZeQ p.IP.A p.Len = p.IP.A := by
 unfold vpM at h
 split at h
 ·cases h
 ·rename_i h0
  split at h
  ·cases h
  ·rename_i h1
   split at h
   ·rename_i h2
    exact ⟨h0, by omega, by omega, h2⟩
   ·cases h
end
end Go.Proofs.YtfgcobigollfjaaDoor.Lx
