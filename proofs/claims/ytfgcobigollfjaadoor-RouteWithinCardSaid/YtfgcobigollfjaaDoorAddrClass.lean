
import Derived.Test.YtfgcobigollfjaaDoorAddrMask
set_option linter.unusedVariables false
set_option linter.unusedSimpArgs false
namespace Go.Proofs.YtfgcobigollfjaaDoor.Lx
open Go Go.Proofs Go.RowKit
def v16 (l : List Int) : Vec Int 16 := ⟨(l ++ List.replicate 16 0).take 16, by simp⟩
def netsV : Vec addr_net 12 := ⟨[⟨4, v16 [], 32, 1⟩, ⟨6, v16 [], 128, 1⟩, ⟨4, v16 [127], 8, 2⟩, ⟨6, v16 (List.replicate 15 0 ++ [1]), 128, 2⟩, ⟨4, v16 [224], 4, 3⟩, ⟨6, v16 [255], 8, 3⟩,
 ⟨4, v16 [169, 254], 16, 4⟩, ⟨6, v16 [254, 128], 10, 4⟩, ⟨4, v16 [255, 255, 255, 255], 32, 5⟩, ⟨4, v16 [], 8, 6⟩, ⟨4, v16 [240], 4, 6⟩, ⟨6, v16 [], 8, 6⟩], rfl⟩
def TabC : HP := fun h => pts false ⟨0, 0, none⟩ ((c_addr_net.arr 12).enc netsV) h
def inNet (ip : api_IP) (n : addr_net) : Bool := decide (n.v = ip.V ∧ maskM ip.A n.bits = n.a)
def classF (ip : api_IP) : List addr_net → Int
 | [] => 7
 | n :: l => if inNet ip n = true then n.class_ else classF ip l
def classM (ip : api_IP) : Int := if sizeM ip > 0 then classF ip netsV.l else 0
theorem nets_ok : ∀ n ∈ netsV.l, 0 ≤ n.bits ∧ n.bits ≤ 128 := by decide +kernel
section
variable {W w : World} {Hs : List HP}
theorem Class_wp (s : Ss W Hs w) (t : Nat) (et : nth Hs t = some TabC) (ip : api_IP) (hb : Byt ip.A.l) : WP (addr_Class ip) w (fun r w' => r = classM ip ∧ Ss W Hs w') := by
 unfold addr_Class
 refine WP.slot' s (fun _ w s => WP.step (Valid_wp s ip) ?_)
 rintro _ w ⟨rfl, s⟩
 refine WP.ite (fun h => WP.ret ⟨by unfold classM; rw [if_neg (fun h' => h (decide_eq_true h'))], s⟩) (fun h => ?_)
 have hv : sizeM ip > 0 := of_decide_eq_true (Decidable.not_not.1 h)
 have hh : Holds TabC ⟨0, 0, none⟩ ((c_addr_net.arr 12).enc netsV) := Holds.pts
 refine WP.ldh s t et hh rfl ?_
 have hnl := netsV.h
 refine WP.loopG (γ := Nat) (fun i (p : Int) w => p = (i : Int) ∧ i ≤ 12 ∧ classF ip netsV.l = classF ip (netsV.l.drop i) ∧ Ss W Hs w) (fun i _ => 12 - i) 0 ⟨rfl, by omega, rfl, s⟩ ?_
 clear s
 rintro i _ w ⟨rfl, hi, hc, s⟩
 show WP (addr_Class.L1 ip netsV (i : Int)) w _
 unfold addr_Class.L1
 refine WP.ite (fun h => WP.chk ⟨by omega, by omega⟩ (WP.slot' s (fun _ w s => WP.draw' s (fun w s => ?_)))) (fun h => WP.done ⟨?_, s⟩)
 ·have hi2 : i < netsV.l.length := by omega
  have hg : netsV.g (i : Int) z_addr_net = netsV.l[i] := by
   show netsV.l.getD (Int.toNat (i : Int)) _ = _
   rw [Int.toNat_natCast, List.getD, List.getElem?_eq_getElem hi2]
   rfl
  have hd : netsV.l.drop i = netsV.l[i] :: netsV.l.drop (i + 1) := List.drop_eq_getElem_cons hi2
  have hok := nets_ok _ (List.getElem_mem hi2)
  rw [hg]
  generalize netsV.l[i] = n at hd hok
  refine WP.step (R := fun y w' => y = inNet ip n ∧ Ss W Hs w') (WP.ite (fun h => WP.step (masked_wp s ip.A hb hok.1 hok.2) ?_) (fun h => WP.ret ⟨?_, s⟩)) ?_
  ·rintro _ w ⟨rfl, s⟩
   refine WP.ret ⟨eqv_of ?_, s⟩
   unfold inNet
   rw [decide_eq_true_iff]
   exact ⟨fun h' => h'.2, fun h' => ⟨h, h'⟩⟩
  ·unfold inNet
   exact (decide_eq_false fun h' => h h'.1).symm
  rintro _ w ⟨rfl, s⟩
  rw [hd] at hc
  unfold classF at hc
  refine WP.ite (fun h => WP.done ⟨?_, s⟩) (fun h => WP.next ⟨i + 1, ⟨?_, by omega, ?_, s⟩, by omega⟩)
  ·unfold classM
   rw [if_pos hv]
   rw [if_pos h] at hc
   exact hc.symm
  ·rw [wrap_i64 (by omega) (by omega)]
   simp
  ·rw [if_neg h] at hc
   exact hc
 ·have hi2 : i = 12 := by omega
  subst hi2
  unfold classM
  rw [if_pos hv, hc]
  rfl
end
end Go.Proofs.YtfgcobigollfjaaDoor.Lx
