
import Derived.Test.YtfgcobigollfjaaDoorLxSh
import Derived.Test.YtfgcobigollfjaaDoorAddrMaskC
set_option linter.unusedVariables false
set_option linter.unusedSimpArgs false
namespace Go.Proofs.YtfgcobigollfjaaDoor.Lx
open Go Go.Proofs Go.RowKit
theorem ZkZ {L R : List HP} {i : Nat} : nth (L ++ R) (L.length + i) = nth R i := by
 induction L with
 | nil => simp
 | cons x L ih =>
  rw [List.length_cons, Nat.add_right_comm]
  exact ih
def Zmf (v : Int) : Int := if v = 4 then 32 else 128
def isPx (p : Zar) : Bool := decide (vpM p = 0)
def rkv (r : Zab) : Zar × Zab := (r.Prefix, r)
abbrev cPx := ZaA
abbrev cRt := Zac
def Zbr (p b : Nat) (L : List Zab) : List HP := [pts true (pt p 0) (Zcs.enc ⟨some b⟩), mapH cPx cRt b (L.map rkv)]
def known (L : List Zab) (k : Zar) : Bool := L.any fun q => decide (q.Prefix = k)
def addE (L : List Zab) (r : Zab) : Int := if known L r.Prefix = true then 143 else if L.length = 256 then 144 else 0
def addM (ok : Bool) (L : List Zab) (r : Zab) : Int := if isPx r.Prefix = false then 140 else if r.Port < 0 ∨ r.Port ≥ 8 then 141 else if ok = false then 142 else addE L r
def putR (L : List Zab) (r : Zab) (e : Int) : List Zab := if e = 0 then L ++ [r] else L
def Zei (L : List Zab) (k : Zar) : List Zab := L.filter fun q => decide (q.Prefix ≠ k)
theorem Zc5 {L : List Zab} {k : Zar} {x : Zab} : (k, x) ∈ L.map rkv ↔ x ∈ L ∧ x.Prefix = k := by
 simp only [List.mem_map, rkv, Prod.mk.injEq]
 constructor
 ·rintro ⟨y, hy, rfl, rfl⟩
  exact ⟨hy, rfl⟩
 ·rintro ⟨h, rfl⟩
  exact ⟨x, h, rfl, rfl⟩
theorem ZcA {L : List Zab} {k : Zar} : known L k = true ↔ ∃ x ∈ L, x.Prefix = k := by simp [known]
theorem Zjz {L : List Zab} : (L.map rkv).map (·.1) = L.map (·.Prefix) := by rw [List.map_map]; rfl
theorem ZeY {ip : ZaH} (h : Zbo ip > 0) : Zmf ip.V = Zbo ip := by
 unfold Zbo at h ⊢
 unfold Zmf
 by_cases h6 : ip.V = 6
 ·rw [if_pos h6, if_neg (by omega)]
 ·rw [if_neg h6] at h ⊢
  by_cases h4 : ip.V = 4 ∧ ip.A.l.drop 4 = List.replicate 12 0
  ·rw [if_pos h4, if_pos h4.1]
  ·rw [if_neg h4] at h
   omega
def pxs (ip : ZaH) : List Zar := if Zbo ip > 0 then (List.range ((Zbo ip).toNat + 1)).map (fun (j : Nat) => (⟨⟨ip.V, ZeQ ip.A (Zbo ip - (j : Int))⟩, Zbo ip - (j : Int)⟩ : Zar)) else []
section
variable {W w : World} {Hs : List HP}
theorem Zlx (s : Ss W Hs w) (v : Int) : WP (Zdj v) w (fun r w' => r = Zmf v ∧ Ss W Hs w') := by
 unfold Zdj Zmf
 exact WP.ite (fun h => WP.ret ⟨by rw [if_pos h], s⟩) (fun h => WP.ret ⟨by rw [if_neg h], s⟩)
theorem Zji (s : Ss W Hs w) (p : Zar) (hb : Byt p.IP.A.l) : WP (Zcx p) w (fun r w' => r = isPx p ∧ Ss W Hs w') := by
 unfold Zcx
 refine WP.slot' s (fun _ w s => WP.draw' s (fun w s => WP.step (Zgx s p.IP) ?_))
 rintro _ w ⟨rfl, s⟩
 have hz := Zd2 p.IP
 refine WP.step (R := fun y w' => y = decide (¬ Zbo p.IP > 0 ∨ p.Len < 0) ∧ Ss W Hs w') (WP.ite (fun h => WP.ret ⟨?_, s⟩) (fun h => WP.ret ⟨?_, s⟩)) ?_
 ·simp only [decide_eq_true_eq] at h
  exact (decide_eq_true (.inl h)).symm
 ·simp only [decide_eq_true_eq, Decidable.not_not] at h
  simp [h]
 rintro _ w ⟨rfl, s⟩
 refine WP.step (R := fun y w' => y = decide (¬ Zbo p.IP > 0 ∨ p.Len < 0 ∨ p.Len > Zbo p.IP) ∧ Ss W Hs w') (WP.ite (fun h => WP.ret ⟨?_, s⟩) (fun h => WP.step (Zlx s p.IP.V) ?_)) ?_
 ·have := of_decide_eq_true h
  refine (decide_eq_true ?_).symm
  rcases this with h | h
  ·exact .inl h
  ·exact .inr (.inl h)
 ·rintro _ w ⟨rfl, s⟩
  have hn : ¬ (¬ Zbo p.IP > 0 ∨ p.Len < 0) := fun h' => h (decide_eq_true h')
  have hv : Zbo p.IP > 0 := Decidable.not_not.1 fun h' => hn (.inl h')
  refine WP.ret ⟨?_, s⟩
  rw [ZeY hv, Bool.eq_iff_iff]
  simp only [decide_eq_true_eq]
  exact ⟨fun h => .inr (.inr h), fun h => by
   rcases h with h | h | h
   ·exact absurd hv h
   ·exact absurd (.inr h) hn
   ·exact h⟩
 rintro _ w ⟨rfl, s⟩
 refine WP.ite (fun h => WP.ret ⟨?_, s⟩) (fun h => WP.step (ZlH s p.IP hb p.Len) ?_)
 ·have := of_decide_eq_true h
  refine (decide_eq_false fun h0 => ?_).symm
  obtain ⟨g1, g2, g3, _⟩ := ZhI h0
  omega
 rintro _ w ⟨rfl, s⟩
 have hn : ¬ (¬ Zbo p.IP > 0 ∨ p.Len < 0 ∨ p.Len > Zbo p.IP) := fun h' => h (decide_eq_true h')
 have hv : Zbo p.IP > 0 := Decidable.not_not.1 fun h' => hn (.inl h')
 have hl : ¬ (p.Len < 0 ∨ p.Len > Zbo p.IP) := fun h' => hn (.inr h')
 have e1 : mkM p.IP p.Len = (⟨p.IP.V, ZeQ p.IP.A p.Len⟩, 0) := by
  unfold mkM
  rw [if_neg (by omega), if_neg hl]
 have e2 : isPx p = decide ((⟨p.IP.V, ZeQ p.IP.A p.Len⟩ : ZaH) = p.IP) := by
  unfold isPx vpM
  rw [if_neg (by omega), if_neg hl, Bool.eq_iff_iff]
  simp only [decide_eq_true_eq]
  constructor
  ·intro h
   split at h
   ·rename_i hm
    obtain ⟨ip, ln⟩ := p
    obtain ⟨v, a⟩ := ip
    simp only at hm ⊢
    rw [hm]
   ·omega
  ·intro h
   rw [if_pos (congrArg ZaH.A h)]
 rw [e1, e2]
 refine WP.slot' s (fun _ w s => ?_)
 refine WP.step (R := fun y w' => y = decide ((⟨p.IP.V, ZeQ p.IP.A p.Len⟩ : ZaH) = p.IP) ∧ Ss W Hs w') (WP.ite (fun _ => WP.ret ⟨Zlm (by rw [decide_eq_true_iff]), s⟩) (fun h => absurd rfl h)) ?_
 rintro _ w ⟨rfl, s⟩
 exact WP.ret ⟨rfl, s⟩
theorem ZmG (s : Ss W Hs w) : WP ZdA w (fun r w' => ∃ p b, r = some (pt p 0) ∧ Ss W (Zbr p b [] ++ Hs) w') := by
 unfold ZdA
 exact WP.mkMap (ck := cPx) (cv := cRt) s (fun b w s => WP.newv s (fun p w s => WP.ret ⟨p, b, rfl, s⟩))
variable {p b : Nat} {L : List Zab}
theorem Zbr.nd (s : Ss W (Zbr p b L ++ Hs) w) : (L.map (·.Prefix)).Nodup := by
 have := s.map_keys (i := 1) (e := rfl)
 rwa [Zjz] at this
theorem ZnM (s : Ss W (Zbr p b L ++ Hs) w) : WP (Zck (some (pt p 0))) w (fun r w' => r = (L.length : Int) ∧ Ss W (Zbr p b L ++ Hs) w') := by
 unfold Zck
 refine WP.nilck (WP.ld s 0 rfl (o := 0) (by simp [Addr.add]) (ZaK _) (WP.mlen (ck := cPx) (cv := cRt) s 1 rfl (WP.ret ⟨by simp, s⟩)))
theorem Zgy (s : Ss W (Zbr p b L ++ Hs) w) (r : Zab) : WP (ZaM.K1 (some (pt p 0)) r (known L r.Prefix)) w (fun e w' => e = addE L r ∧ Ss W (Zbr p b (putR L r e) ++ Hs) w') := by
 unfold ZaM.K1
 refine WP.ite (fun h => WP.ret ⟨by unfold addE; rw [if_pos h], s⟩) (fun h => ?_)
 refine WP.nilck (WP.ld s 0 rfl (o := 0) (by simp [Addr.add]) (ZaK _) (WP.mlen (ck := cPx) (cv := cRt) s 1 rfl ?_))
 refine WP.ite (fun h2 => WP.ret ⟨?_, s⟩) (fun h2 => ?_)
 ·unfold addE
  have h3 : (L.length : Int) = 256 := by simpa using h2
  rw [if_neg h, if_pos (by omega)]
 refine WP.draw' s (fun w s => WP.nilck (WP.ld s 0 rfl (o := 0) (by simp [Addr.add]) (ZaK _) ?_))
 refine WP.mset (ck := cPx) (cv := cRt) s 1 rfl (fun y hy => h (ZcA.2 ⟨y, (Zc5.1 hy).1, (Zc5.1 hy).2⟩)) (fun w s => WP.ret ⟨?_, ?_⟩)
 ·unfold addE
  have h3 : ¬ (L.length : Int) = 256 := by simpa using h2
  rw [if_neg h, if_neg (by omega)]
 ·have e : Zbr p b (putR L r 0) = up (Zbr p b L) 1 (mapH cPx cRt b (L.map rkv ++ [(r.Prefix, r)])) := by
   unfold putR Zbr
   simp [up, rkv]
  rw [e]
  exact s
theorem ZjZ (s : Ss W (Zbr p b L ++ Hs) w) (r : Zab) : WP (ZaM.K2 (some (pt p 0)) r) w (fun e w' => e = addE L r ∧ Ss W (Zbr p b (putR L r e) ++ Hs) w') := by
 unfold ZaM.K2
 have k1 : ∀ x : Zab, (r.Prefix, x) ∈ L.map rkv → known L r.Prefix = true := fun x hx => ZcA.2 ⟨x, (Zc5.1 hx).1, (Zc5.1 hx).2⟩
 have k0 : (∀ x : Zab, (r.Prefix, x) ∉ L.map rkv) → known L r.Prefix = false := fun h => by
  rw [Bool.eq_false_iff]
  intro hk
  obtain ⟨x, hx, e⟩ := ZcA.1 hk
  exact h x (Zc5.2 ⟨hx, e⟩)
 refine WP.draws s (fun σ w s => WP.ite (fun _ => ?_) (fun _ => ?_))
 ·refine WP.nilck (WP.ld s 0 rfl (o := 0) (by simp [Addr.add]) (ZaK _) (WP.mget (ck := cPx) (cv := cRt) s 1 rfl (fun x hx => ?_) (fun h0 => ?_)))
  ·refine WP.slot' s (fun _ w s => WP.same s 0 rfl (o := 0) (by simp [Addr.add]) (ZaK _) ?_)
   have := Zgy s r
   rw [k1 x hx] at this
   exact this
  ·refine WP.slot' s (fun _ w s => WP.same s 0 rfl (o := 0) (by simp [Addr.add]) (ZaK _) ?_)
   have := Zgy s r
   rw [k0 h0] at this
   exact this
 ·refine WP.nilck (WP.ld s 0 rfl (o := 0) (by simp [Addr.add]) (ZaK _) (WP.slot' s (fun _ w s => WP.same s 0 rfl (o := 0) (by simp [Addr.add]) (ZaK _) (WP.mget (ck := cPx) (cv := cRt) s 1 rfl (fun x hx => ?_) (fun h0 => ?_)))))
  ·have := Zgy s r
   rw [k1 x hx] at this
   exact this
  ·have := Zgy s r
   rw [k0 h0] at this
   exact this
theorem Znh (s : Ss W (Zbr p b L ++ Hs) w) (k : Zar) : WP (Za1 (some (pt p 0)) k) w (fun r w' => r = known L k ∧ Ss W (Zbr p b (Zei L k) ++ Hs) w') := by
 have hK : ∀ {w}, Ss W (Zbr p b L ++ Hs) w → WP (Za1.K1 (some (pt p 0)) k (known L k)) w (fun r w' => r = known L k ∧ Ss W (Zbr p b (Zei L k) ++ Hs) w') := by
  intro w s
  unfold Za1.K1
  refine WP.draw' s (fun w s => WP.nilck (WP.ld s 0 rfl (o := 0) (by simp [Addr.add]) (ZaK _) ?_))
  have hnd := Zbr.nd s
  by_cases hk : known L k = true
  ·obtain ⟨x, hx, rfl⟩ := ZcA.1 hk
   obtain ⟨l1, l2, rfl⟩ := List.append_of_mem hx
   have hd : Zei (l1 ++ x :: l2) x.Prefix = l1 ++ l2 := by
    unfold Zei
    rw [List.filter_append, List.filter_cons_of_neg (by simp)]
    have hn : ∀ y, y ∈ l1 ∨ y ∈ l2 → y.Prefix ≠ x.Prefix := by
     intro y hy e
     have hp : ((l1 ++ x :: l2).map (·.Prefix)).Perm (x.Prefix :: (l1 ++ l2).map (·.Prefix)) := List.perm_middle.map _
     refine (List.nodup_cons.1 (hp.nodup_iff.1 hnd)).1 ?_
     rw [List.mem_map]
     exact ⟨y, by simpa using hy, e⟩
    rw [List.filter_eq_self.2 (fun y hy => by simpa using hn y (.inl hy)), List.filter_eq_self.2 (fun y hy => by simpa using hn y (.inr hy))]
   refine WP.mdel (ck := cPx) (cv := cRt) (kvs' := (l1 ++ l2).map rkv) s 1 rfl (k := x.Prefix) (x := x) (List.perm_middle.map rkv) (fun w s => WP.ret ⟨rfl, ?_⟩)
   rw [hd]
   exact s
  ·have hn : ∀ y ∈ L, y.Prefix ≠ k := fun y hy e => hk (ZcA.2 ⟨y, hy, e⟩)
   have hd : Zei L k = L := by
    unfold Zei
    exact List.filter_eq_self.2 (fun y hy => by simpa using hn y hy)
   rw [hd]
   exact WP.mdel0 (ck := cPx) (cv := cRt) s 1 rfl (fun y hy => hn y (Zc5.1 hy).1 (Zc5.1 hy).2) (fun w s => WP.ret ⟨rfl, s⟩)
 have k1 : ∀ x : Zab, (k, x) ∈ L.map rkv → known L k = true := fun x hx => ZcA.2 ⟨x, (Zc5.1 hx).1, (Zc5.1 hx).2⟩
 have k0 : (∀ x : Zab, (k, x) ∉ L.map rkv) → known L k = false := fun h => by
  rw [Bool.eq_false_iff]
  intro hk
  obtain ⟨x, hx, e⟩ := ZcA.1 hk
  exact h x (Zc5.2 ⟨hx, e⟩)
 unfold Za1
 refine WP.slot' s (fun _ w s => WP.draws s (fun σ w s => WP.ite (fun _ => ?_) (fun _ => ?_)))
 ·refine WP.nilck (WP.ld s 0 rfl (o := 0) (by simp [Addr.add]) (ZaK _) (WP.mget (ck := cPx) (cv := cRt) s 1 rfl (fun x hx => ?_) (fun h0 => ?_)))
  ·refine WP.slot' s (fun _ w s => WP.same s 0 rfl (o := 0) (by simp [Addr.add]) (ZaK _) ?_)
   have := hK s
   rw [k1 x hx] at this ⊢
   exact this
  ·refine WP.slot' s (fun _ w s => WP.same s 0 rfl (o := 0) (by simp [Addr.add]) (ZaK _) ?_)
   have := hK s
   rw [k0 h0] at this ⊢
   exact this
 ·refine WP.nilck (WP.ld s 0 rfl (o := 0) (by simp [Addr.add]) (ZaK _) (WP.slot' s (fun _ w s => WP.same s 0 rfl (o := 0) (by simp [Addr.add]) (ZaK _) (WP.mget (ck := cPx) (cv := cRt) s 1 rfl (fun x hx => ?_) (fun h0 => ?_)))))
  ·have := hK s
   rw [k1 x hx] at this ⊢
   exact this
  ·have := hK s
   rw [k0 h0] at this ⊢
   exact this
end
end Go.Proofs.YtfgcobigollfjaaDoor.Lx
