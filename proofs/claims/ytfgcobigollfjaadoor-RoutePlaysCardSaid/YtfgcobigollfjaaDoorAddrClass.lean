
import Derived.Test.YtfgcobigollfjaaDoorAddrMask
set_option linter.unusedVariables false
set_option linter.unusedSimpArgs false
namespace Go.Proofs.YtfgcobigollfjaaDoor.Lx
open Go Go.Proofs Go.RowKit
def v16 (l : List Int) : Vec Int 16 := ⟨(l ++ List.replicate 16 0).take 16, by simp⟩
def ZeP : Vec Zb3 12 := ⟨[⟨4, v16 [], 32, 1⟩, ⟨6, v16 [], 128, 1⟩, ⟨4, v16 [127], 8, 2⟩, ⟨6, v16 (List.replicate 15 0 ++ [1]), 128, 2⟩, ⟨4, v16 [224], 4, 3⟩, ⟨6, v16 [255], 8, 3⟩,
 ⟨4, v16 [169, 254], 16, 4⟩, ⟨6, v16 [254, 128], 10, 4⟩, ⟨4, v16 [255, 255, 255, 255], 32, 5⟩, ⟨4, v16 [], 8, 6⟩, ⟨4, v16 [240], 4, 6⟩, ⟨6, v16 [], 8, 6⟩], rfl⟩
def TabC : HP := fun h => pts false ⟨0, 0, none⟩ ((Zcf.arr 12).enc ZeP) h
def Zdn (ip : ZaH) (n : Zb3) : Bool := decide (n.v = ip.V ∧ ZeQ ip.A n.bits = n.a)
def ZiM (ip : ZaH) : List Zb3 → Int
 | [] => 7
 | n :: l => if Zdn ip n = true then n.class_ else ZiM ip l
def ZcB (ip : ZaH) : Int := if Zbo ip > 0 then ZiM ip ZeP.l else 0
theorem ZmS : ∀ n ∈ ZeP.l, 0 ≤ n.bits ∧ n.bits ≤ 128 := by decide +kernel
section
variable {W w : World} {Hs : List HP}
theorem Zmp (s : Ss W Hs w) (t : Nat) (et : nth Hs t = some TabC) (ip : ZaH) (hb : Byt ip.A.l) : WP (Zbv ip) w (fun r w' => r = ZcB ip ∧ Ss W Hs w') := by
 unfold Zbv
 refine WP.slot' s (fun _ w s => WP.step (Zgx s ip) ?_)
 rintro _ w ⟨rfl, s⟩
 refine WP.ite (fun h => WP.ret ⟨by unfold ZcB; rw [if_neg (fun h' => h (decide_eq_true h'))], s⟩) (fun h => ?_)
 have hv : Zbo ip > 0 := of_decide_eq_true (Decidable.not_not.1 h)
 have hh : Zfa TabC ⟨0, 0, none⟩ ((Zcf.arr 12).enc ZeP) := Zfa.pts
 refine WP.ldh s t et hh rfl ?_
 have hnl := ZeP.h
 refine WP.loopG (γ := Nat) (fun i (p : Int) w => p = (i : Int) ∧ i ≤ 12 ∧ ZiM ip ZeP.l = ZiM ip (ZeP.l.drop i) ∧ Ss W Hs w) (fun i _ => 12 - i) 0 ⟨rfl, by omega, rfl, s⟩ ?_
 clear s
 rintro i _ w ⟨rfl, hi, hc, s⟩
 show WP (Zbv.L1 ip ZeP (i : Int)) w _
 unfold Zbv.L1
 refine WP.ite (fun h => WP.chk ⟨by omega, by omega⟩ (WP.slot' s (fun _ w s => WP.draw' s (fun w s => ?_)))) (fun h => WP.done ⟨?_, s⟩)
 ·have hi2 : i < ZeP.l.length := by omega
  have hg : ZeP.g (i : Int) Zb6 = ZeP.l[i] := by
   show ZeP.l.getD (Int.toNat (i : Int)) _ = _
   rw [Int.toNat_natCast, List.getD, List.getElem?_eq_getElem hi2]
   rfl
  have hd : ZeP.l.drop i = ZeP.l[i] :: ZeP.l.drop (i + 1) := List.drop_eq_getElem_cons hi2
  have hok := ZmS _ (List.getElem_mem hi2)
  rw [hg]
  generalize ZeP.l[i] = n at hd hok
  refine WP.step (R := fun y w' => y = Zdn ip n ∧ Ss W Hs w') (WP.ite (fun h => WP.step (Zir s ip.A hb hok.1 hok.2) ?_) (fun h => WP.ret ⟨?_, s⟩)) ?_
  ·rintro _ w ⟨rfl, s⟩
   refine WP.ret ⟨Zlm ?_, s⟩
   unfold Zdn
   rw [decide_eq_true_iff]
   exact ⟨fun h' => h'.2, fun h' => ⟨h, h'⟩⟩
  ·unfold Zdn
   exact (decide_eq_false fun h' => h h'.1).symm
  rintro _ w ⟨rfl, s⟩
  rw [hd] at hc
  unfold ZiM at hc
  refine WP.ite (fun h => WP.done ⟨?_, s⟩) (fun h => WP.next ⟨i + 1, ⟨?_, by omega, ?_, s⟩, by omega⟩)
  ·unfold ZcB
   rw [if_pos hv]
   rw [if_pos h] at hc
   exact hc.symm
  ·rw [ZaP (by omega) (by omega)]
   simp
  ·rw [if_neg h] at hc
   exact hc
 ·have hi2 : i = 12 := by omega
  subst hi2
  unfold ZcB
  rw [if_pos hv, hc]
  rfl
end
end Go.Proofs.YtfgcobigollfjaaDoor.Lx
