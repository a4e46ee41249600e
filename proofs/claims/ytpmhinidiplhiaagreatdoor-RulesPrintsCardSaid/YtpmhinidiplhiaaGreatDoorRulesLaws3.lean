
import Derived.Test.YtpmhinidiplhiaaGreatDoorRulesLaid
import Derived.Test.YtpmhinidiplhiaaGreatDoorRulesRefB
set_option linter.unusedVariables false
set_option linter.unusedSimpArgs false
namespace Go.Proofs.YtpmhinidiplhiaaGreatDoor.Lx
open Go Go.Proofs Go.RowKit
def ArgR (W : World) (x : Zag) : Prop := ∀ {Hs : List HP} {w : World}, Ss W Hs w → ∃ (m : Za9) (A B C D : HP), Ss W (A :: B :: C :: D :: Hs) w ∧ RdR (A :: B :: C :: D :: Hs) x m ∧ BndR m
def prL (m : Za9) : ByteArray × Int := if ckM m ≠ 0 then (ByteArray.empty, ckM m) else (bstr (ZmH m), 0)
theorem Zup (m : Za9) : (prL m).2 = ckM m := by
 unfold prL
 split
 ·rfl
 ·rename_i h
  exact (Decidable.not_not.1 h).symm
section
variable {W w : World} {Hs : List HP}
theorem ZkE {u : Sl} {xs : List Zag} (s : Ss W Hs w) (T : RTab Hs) (i : Nat) (e : nth Hs i = some (rdS Zak false u xs)) (hxs : xs.length < 9000000000000000000) (arg : ∀ x ∈ xs, ArgR W x) : WP (ZaL u) w (fun y w' => y = true ∧ ∃ L, Ss W L w') := by
 unfold ZaL
 have hl := (s.rd_len e ZdQ).1
 refine WP.loopG (γ := Nat) (fun k (x : Int) w => x = (k : Int) ∧ k ≤ xs.length ∧ Ss W Hs w) (fun k _ => xs.length - k) 0 ⟨rfl, Nat.zero_le _, s⟩ ?_
 clear s
 rintro k _ w ⟨rfl, hk, s⟩
 show WP (ZaL.L1 u (k : Int)) w _
 unfold ZaL.L1
 refine WP.ite (fun h => ?_) (fun h => WP.step (ZoT s T) (fun y w h => WP.done ⟨h.1, _, h.2⟩))
 have hk2 : k < xs.length := by omega
 have hx := List.getElem?_eq_getElem hk2
 have hmem := List.mem_of_getElem? hx
 generalize xs[k] = x at hx hmem
 have h0 : (0 : Int) ≤ (k : Int) := by omega
 have hx' : xs[(k : Int).toNat]? = some x := by rw [Int.toNat_natCast]; exact hx
 refine WP.rdx s i e ZdQ h0 hx' rfl ?_
 obtain ⟨m, A, B, C, D, s4, rr, bb⟩ := arg x hmem s
 clear s
 refine WP.step (ZsW s4 rr bb) ?_
 rintro r w ⟨A', B', C', D', s, lr⟩
 clear s4
 have T8 : RTab (A' :: B' :: C' :: D' :: A :: B :: C :: D :: Hs) := T.push.push.push.push.push.push.push.push
 have rr8 : RdR (A' :: B' :: C' :: D' :: A :: B :: C :: D :: Hs) x m := rr.push.push.push.push
 have e8 : nth (A' :: B' :: C' :: D' :: A :: B :: C :: D :: Hs) (i + 8) = some (rdS Zak false u xs) := e
 refine WP.slot' s (fun _ w s => WP.step (Zl4 s lr.rd) ?_)
 rintro _ w ⟨rfl, s⟩
 refine WP.step (Zmt s T8 lr.rd) ?_
 rintro p w ⟨hp, s⟩
 have hp : p = prL m := hp
 refine WP.rdx s (i + 8) e8 ZdQ h0 hx' rfl (WP.step (ZlB s rr8) ?_)
 rintro q w ⟨hq, s⟩
 have hq : q = prL m := hq
 rw [hp, hq, Zup]
 refine WP.draw' s (fun w s => WP.idxr s (i + 8) e8 ZdQ h0 hx' rfl (fun a ha => WP.ldr s (i + 8) e8 ZdQ hx' ha rfl (WP.step (ZjX _) ?_)))
 rintro _ _ ⟨rfl, rfl⟩
 refine WP.samer s (i + 8) e8 ZdQ hx' ha rfl (WP.step (Zmr s rr8) ?_)
 rintro _ w ⟨rfl, s⟩
 refine WP.step (R := fun y w' => y = false ∧ w = w') (WP.ite (fun h => absurd rfl h) (fun _ => WP.step (ZjX _) ?_)) ?_
 ·rintro _ _ ⟨rfl, rfl⟩
  exact WP.ret ⟨by simp, rfl⟩
 rintro _ _ ⟨rfl, rfl⟩
 refine WP.step (R := fun y w' => y = false ∧ w = w') (WP.ite (fun h => by cases h) (fun _ => WP.ret ⟨?_, rfl⟩)) ?_
 ·rw [beq_self_eq_true]
  rfl
 rintro _ _ ⟨rfl, rfl⟩
 refine WP.step (R := fun y w' => y = false ∧ Ss W (A' :: B' :: C' :: D' :: A :: B :: C :: D :: Hs) w') (WP.ite (fun h => by cases h) (fun _ => WP.rdx s (i + 8) e8 ZdQ h0 hx' rfl (WP.step (Zq7 s lr rr8 bb) ?_))) ?_
 ·rintro _ w ⟨rfl, s⟩
  exact WP.ret ⟨rfl, s⟩
 rintro _ w ⟨rfl, s⟩
 refine WP.ite (fun h => by cases h) (fun _ => WP.next ⟨k + 1, ⟨?_, hk2, s.drop.drop.drop.drop.drop.drop.drop.drop⟩, by omega⟩)
 rw [Zah (by omega) (by omega)]
 simp
end
end Go.Proofs.YtpmhinidiplhiaaGreatDoor.Lx
