
import Derived.Test.YtfgcobigollfjaaDoorRouteTab
set_option linter.unusedVariables false
set_option linter.unusedSimpArgs false
namespace Go.Proofs.YtfgcobigollfjaaDoor.Lx
open Go Go.Proofs Go.RowKit
theorem ZkN {ip : ZaH} {i : Nat} (hv : Zbo ip > 0) (hi : (i : Int) ≤ Zbo ip) : (pxs ip)[i]? = some ⟨⟨ip.V, ZeQ ip.A (Zbo ip - (i : Int))⟩, Zbo ip - (i : Int)⟩ := by
 unfold pxs
 rw [if_pos hv, List.getElem?_map, List.getElem?_range (by omega)]
 rfl
theorem ZkM {ip : ZaH} (hv : Zbo ip > 0) : (pxs ip).length = (Zbo ip).toNat + 1 := by
 unfold pxs
 rw [if_pos hv, List.length_map, List.length_range]
theorem ZfG (W : World) (a : Addr) (ip : ZaH) (hb : Byt ip.A.l) : Goes W (fun y => ZaR y a) (pxs ip) [pts true a (ZaI.enc ip)] := by
 intro y R Rx w hy s
 have hz := Zd2 ip
 have hat : ∀ i, nth (R i ++ [pts true a (ZaI.enc ip)]) ((R i).length + 0) = some (pts true a (ZaI.enc ip)) := fun i => ZkZ
 show WP (ZaR y a) w _
 unfold ZaR
 refine WP.ld s _ (hat 0) (o := 0) (by simp [Addr.add]) (At.whole _) (WP.step (Zgx s ip) ?_)
 rintro _ w ⟨rfl, s⟩
 refine WP.ite (fun h => WP.ret (.inl ?_)) (fun h => ?_)
 ·have : ¬ Zbo ip > 0 := by simpa using h
  have e : (pxs ip).length = 0 := by
   unfold pxs
   rw [if_neg this]
   rfl
  rw [e]
  exact s
 have hv : Zbo ip > 0 := by simpa using h
 refine WP.ld s _ (hat 0) (o := 0) (by simp [Addr.add]) (Zbp _) (WP.step (Zlx s ip.V) ?_)
 rintro _ w ⟨rfl, s⟩
 rw [ZeY hv]
 refine WP.loop (fun (n : Int) w => ∃ i : Nat, n = Zbo ip - (i : Int) ∧ (i : Int) ≤ Zbo ip + 1 ∧ Ss W (R i ++ [pts true a (ZaI.enc ip)]) w) (fun n _ => (n + 1).toNat) ⟨0, by omega, by omega, s⟩ ?_
 rintro n w ⟨i, rfl, hi, s⟩
 unfold ZaR.L1
 refine WP.ite (fun h1 => ?_) (fun h1 => WP.done (.inl ?_))
 ·refine WP.ld s _ (hat i) (o := 0) (by simp [Addr.add]) (At.whole _) (WP.step (ZlH s ip hb _) ?_)
  rintro _ w ⟨rfl, s⟩
  have e1 : mkM ip (Zbo ip - (i : Int)) = (⟨ip.V, ZeQ ip.A (Zbo ip - (i : Int))⟩, 0) := by
   unfold mkM
   rw [if_neg (by omega), if_neg (by omega)]
  rw [e1]
  refine WP.slot' s (fun _ w s => ?_)
  refine WP.step (R := fun yy w' => (yy = false ∧ Ss W (R (i + 1) ++ [pts true a (ZaI.enc ip)]) w') ∨ (yy = true ∧ Ss W (Rx i ++ [pts true a (ZaI.enc ip)]) w')) (WP.ite (fun h => absurd rfl h) (fun _ => WP.step (hy i _ w (ZkN hv (by omega)) s) ?_)) ?_
  ·rintro _ w (⟨rfl, s⟩ | ⟨rfl, s⟩)
   ·exact WP.ret (.inl ⟨rfl, s⟩)
   ·exact WP.ret (.inr ⟨rfl, s⟩)
  rintro _ w (⟨rfl, s⟩ | ⟨rfl, s⟩)
  ·refine WP.ite (fun h => by cases h) (fun _ => WP.next ⟨⟨i + 1, ?_, by omega, s⟩, ?_⟩)
   ·rw [ZaP (by omega) (by omega)]; omega
   ·rw [ZaP (by omega) (by omega)]; omega
  ·exact WP.ite (fun _ => WP.done (.inr ⟨i, by rw [ZkM hv]; omega, s⟩)) (fun h => absurd rfl h)
 ·have e : (pxs ip).length = i := by rw [ZkM hv]; omega
  rw [e]
  exact s
def ZcN (L : List Zab) (k : Zar) : Option Zab := L.find? fun q => decide (q.Prefix = k)
def ZeB (L : List Zab) (ip : ZaH) : Zab × Bool := match (pxs ip).findSome? (ZcN L) with
 | some r => (r, true)
 | none => (Zaa, false)
theorem Zep {L : List Zab} {x : Zab} {k : Zar} (nd : (L.map (·.Prefix)).Nodup) (h : x ∈ L) (e : x.Prefix = k) : ZcN L k = some x := by
 subst e
 induction L with
 | nil => cases h
 | cons y L ih =>
  unfold ZcN
  rw [List.map_cons, List.nodup_cons] at nd
  rcases List.mem_cons.1 h with rfl | h
  ·rw [List.find?_cons_of_pos (by simp)]
  ·have hne : y.Prefix ≠ x.Prefix := fun e => nd.1 (by rw [e]; exact List.mem_map.2 ⟨x, h, rfl⟩)
   rw [List.find?_cons_of_neg (by simpa using hne)]
   exact ih nd.2 h
theorem ZeR {L : List Zab} {x : Zab} {k : Zar} (h : ZcN L k = some x) : x ∈ L ∧ x.Prefix = k := by
 have h1 := List.find?_some h
 exact ⟨List.mem_of_find?_eq_some h, by simpa using h1⟩
theorem ZdJ {L : List Zab} {k : Zar} : ZcN L k = none ↔ ∀ x ∈ L, x.Prefix ≠ k := by
 unfold ZcN
 rw [List.find?_eq_none]
 simp
theorem Zg6 {α β : Type} {f : α → Option β} : ∀ {xs : List α} {i : Nat} {x : α} {r : β}, xs[i]? = some x → (∀ j y, j < i → xs[j]? = some y → f y = none) → f x = some r → xs.findSome? f = some r
 | [], i, x, r, h, _, _ => by simp at h
 | a :: xs, 0, x, r, h, _, hr => by
  simp only [List.getElem?_cons_zero, Option.some.injEq] at h
  subst h
  simp [hr]
 | a :: xs, i + 1, x, r, h, hn, hr => by
  have h0 := hn 0 a (by omega) rfl
  rw [List.findSome?_cons, h0]
  exact Zg6 (xs := xs) (i := i) (by simpa using h) (fun j y hj hy => hn (j + 1) y (by omega) (by simpa using hy)) hr
theorem ZhZ {α β : Type} {f : α → Option β} {xs : List α} (h : ∀ (j : Nat) y, xs[j]? = some y → f y = none) : xs.findSome? f = none := by
 rw [List.findSome?_eq_none_iff]
 intro x hx
 obtain ⟨j, hj⟩ := List.getElem?_of_mem hx
 exact h j x hj
section
variable {W w : World} {Hs : List HP} {p b : Nat} {L : List Zab}
def ZiR (L : List Zab) (ip : ZaH) (i : Nat) : Prop := ∀ j y, j < i → (pxs ip)[j]? = some y → ZcN L y = none
def rAt (L : List Zab) (ip : ZaH) (i : Nat) : Zab := (((pxs ip)[i]?).bind (ZcN L)).getD Zaa
theorem Zi5 (s : Ss W Hs w) (ip : ZaH) : WP (ZbT ip) w (fun r w' => ∃ a, (∀ y, ZaS.it r y = ZaR y a) ∧ Ss W (pts true a (ZaI.enc ip) :: Hs) w') := by
 unfold ZbT
 exact WP.newv s (fun b w s => WP.ret ⟨_, fun y => rfl, s⟩)
theorem Zng (s : Ss W (Zbr p b L ++ Hs) w) (ip : ZaH) (hb : Byt ip.A.l) : WP (ZaS (some (pt p 0)) ip) w (fun r w' => r = ZeB L ip ∧ Ss W (Zbr p b L ++ Hs) w') := by
 unfold ZaS
 have hnd := Zbr.nd s
 refine WP.newv s (fun b1 w s => WP.slot' s (fun _ w s => WP.newv s (fun b3 w s => WP.newv s (fun b4 w s => WP.step (Zi5 s ip) ?_))))
 rintro r w ⟨a, hr, s⟩
 have hit : ZaS.it r = fun y => ZaR y a := funext hr
 rw [hit]
 have s0 : Ss W ((fact (ZiR L ip 0) :: pts true (pt b1 0) (cP.enc (some (pt p 0))) :: pts true (pt b3 0) (cRt.enc Zaa) :: pts true (pt b4 0) (cB.enc false) :: (Zbr p b L ++ Hs)) ++ [pts true a (ZaI.enc ip)]) w := by
  have s1 := (Ss.mkfact (p := ZiR L ip 0) (fun j y h => absurd h (by omega)) s)
  refine s1.perm ?_
  refine List.Perm.cons _ ?_
  refine (List.perm_append_comm (l₁ := [pts true a (ZaI.enc ip)])).trans ?_
  refine List.Perm.append_right _ ?_
  exact (List.Perm.cons _ (List.Perm.swap _ _ _)).trans ((List.Perm.swap _ _ _).trans (List.Perm.cons _ (List.Perm.swap _ _ _)))
 refine WP.rangeM (fun i => fact (ZiR L ip i) :: pts true (pt b1 0) (cP.enc (some (pt p 0))) :: pts true (pt b3 0) (cRt.enc Zaa) :: pts true (pt b4 0) (cB.enc false) :: (Zbr p b L ++ Hs))
  (fun i c => fact (c = .ret ∧ ZiR L ip i ∧ ∃ x, (pxs ip)[i]? = some x ∧ ZcN L x = some (rAt L ip i)) :: pts true (pt b1 0) (cP.enc (some (pt p 0))) :: pts true (pt b3 0) (cRt.enc (rAt L ip i)) :: pts true (pt b4 0) (cB.enc true) :: (Zbr p b L ++ Hs))
  (ZfG W a ip hb) s0 ?_ ?_ ?_
 ·clear s s0
  intro l i x w hx s
  obtain ⟨hN, s⟩ := (s.use [1] rfl).fact
  unfold ZaS.R1
  have fin0 : ∀ {w}, ZcN L x = none → Ss W (lpH l .busy none :: pts true (pt b1 0) (cP.enc (some (pt p 0))) :: pts true (pt b3 0) (cRt.enc Zaa) :: pts true (pt b4 0) (cB.enc false) :: (Zbr p b L ++ Hs ++ [pts true a (ZaI.enc ip)])) w →
    Ss W (lpH l .busy none :: ((fact (ZiR L ip (i + 1)) :: pts true (pt b1 0) (cP.enc (some (pt p 0))) :: pts true (pt b3 0) (cRt.enc Zaa) :: pts true (pt b4 0) (cB.enc false) :: (Zbr p b L ++ Hs)) ++ [pts true a (ZaI.enc ip)])) w := by
   intro w hn s
   refine (Ss.mkfact (p := ZiR L ip (i + 1)) (fun j y hj hy => ?_) s).perm (List.Perm.swap _ _ _)
   by_cases e : j = i
   ·subst e
    rw [hx] at hy
    cases hy
    exact hn
   ·exact hN j y (by omega) hy
  have fin1 : ∀ {w} {q : Zab}, ZcN L x = some q → Ss W (lpH l .busy none :: pts true (pt b1 0) (cP.enc (some (pt p 0))) :: pts true (pt b3 0) (cRt.enc q) :: pts true (pt b4 0) (cB.enc true) :: (Zbr p b L ++ Hs ++ [pts true a (ZaI.enc ip)])) w →
    Ss W (lpH l .busy none :: ((fact (Code.ret = .ret ∧ ZiR L ip i ∧ ∃ x, (pxs ip)[i]? = some x ∧ ZcN L x = some (rAt L ip i)) :: pts true (pt b1 0) (cP.enc (some (pt p 0))) :: pts true (pt b3 0) (cRt.enc (rAt L ip i)) :: pts true (pt b4 0) (cB.enc true) :: (Zbr p b L ++ Hs)) ++ [pts true a (ZaI.enc ip)])) w := by
   intro w q hq s
   have e : rAt L ip i = q := by
    unfold rAt
    rw [hx]
    show (ZcN L x).getD _ = q
    rw [hq]
    rfl
   rw [e]
   exact (Ss.mkfact (p := Code.ret = .ret ∧ ZiR L ip i ∧ ∃ x, (pxs ip)[i]? = some x ∧ ZcN L x = some q) ⟨rfl, hN, x, hx, hq⟩ s).perm (List.Perm.swap _ _ _)
  have nk : (∀ y : Zab, (x, y) ∉ L.map rkv) → ZcN L x = none := fun h => ZdJ.2 fun y hy e => h y (Zc5.2 ⟨hy, e⟩)
  have sk : ∀ y : Zab, (x, y) ∈ L.map rkv → ZcN L x = some y := fun y hy => Zep hnd (Zc5.1 hy).1 (Zc5.1 hy).2
  refine WP.slot' s (fun _ w s => WP.begM s (fun w s => WP.draws s (fun σ w s => WP.ite (fun _ => ?_) (fun _ => ?_))))
  ·refine WP.ld s 1 rfl (o := 0) (by simp [Addr.add]) (At.whole _) (WP.nilck (WP.ld s 4 rfl (o := 0) (by simp [Addr.add]) (ZaK _) (WP.mget (ck := cPx) (cv := cRt) s 5 rfl (fun q hq => ?_) (fun h0 => ?_))))
   ·refine WP.slot' s (fun _ w s => WP.same s 4 rfl (o := 0) (by simp [Addr.add]) (ZaK _) (WP.same s 1 rfl (o := 0) (by simp [Addr.add]) (At.whole _) ?_))
    refine WP.ite (fun _ => ?_) (fun h => absurd rfl h)
    exact WP.st s 2 rfl (o := 0) (by simp [Addr.add]) (Upd.whole rfl) (fun w s => WP.st s 3 rfl (o := 0) (by simp [Addr.add]) (Upd.whole rfl) (fun w s => WP.ret (.inr ⟨.ret, rfl, fin1 (sk q hq) s⟩)))
   ·refine WP.slot' s (fun _ w s => WP.same s 4 rfl (o := 0) (by simp [Addr.add]) (ZaK _) (WP.same s 1 rfl (o := 0) (by simp [Addr.add]) (At.whole _) ?_))
    exact WP.ite (fun h => by cases h) (fun _ => WP.ret (.inl ⟨rfl, fin0 (nk h0) s⟩))
  ·refine WP.ld s 1 rfl (o := 0) (by simp [Addr.add]) (At.whole _) (WP.nilck (WP.ld s 4 rfl (o := 0) (by simp [Addr.add]) (ZaK _) (WP.slot' s (fun _ w s => WP.same s 4 rfl (o := 0) (by simp [Addr.add]) (ZaK _) (WP.same s 1 rfl (o := 0) (by simp [Addr.add]) (At.whole _) (WP.mget (ck := cPx) (cv := cRt) s 5 rfl (fun q hq => ?_) (fun h0 => ?_)))))))
   ·refine WP.ite (fun _ => ?_) (fun h => absurd rfl h)
    exact WP.st s 2 rfl (o := 0) (by simp [Addr.add]) (Upd.whole rfl) (fun w s => WP.st s 3 rfl (o := 0) (by simp [Addr.add]) (Upd.whole rfl) (fun w s => WP.ret (.inr ⟨.ret, rfl, fin1 (sk q hq) s⟩)))
   ·exact WP.ite (fun h => by cases h) (fun _ => WP.ret (.inl ⟨rfl, fin0 (nk h0) s⟩))
 ·clear s s0
  intro w s
  obtain ⟨hN, s⟩ := Ss.fact s
  have e : ZeB L ip = (Zaa, false) := by
   unfold ZeB
   rw [ZhZ (fun j y hy => hN j y (List.getElem?_eq_some_iff.1 hy).1 hy)]
  show WP (st _ _ _ >>= _) w _
  refine WP.st s 1 rfl (o := 0) (by simp [Addr.add]) (Upd.whole rfl) (fun w s => WP.st s 2 rfl (o := 0) (by simp [Addr.add]) (Upd.whole rfl) (fun w s => ?_))
  refine WP.ld s 1 rfl (o := 0) (by simp [Addr.add]) (At.whole _) (WP.ld s 2 rfl (o := 0) (by simp [Addr.add]) (At.whole _) (WP.ret ⟨e.symm, ?_⟩))
  exact (Ss.drop (Ss.drop (Ss.drop s))).perm (List.perm_append_comm (l₁ := Zbr p b L ++ Hs)) |>.drop
 ·clear s s0
  intro i x c w hx s
  obtain ⟨hc, s1⟩ := Ss.fact s
  clear s
  obtain ⟨rfl, hN, y, hy, hl⟩ := hc
  have s := s1
  have e : ZeB L ip = (rAt L ip i, true) := by
   unfold ZeB
   rw [Zg6 hy hN hl]
  show WP (ld _ _ >>= _) w _
  refine WP.ld s 1 rfl (o := 0) (by simp [Addr.add]) (At.whole _) (WP.ld s 2 rfl (o := 0) (by simp [Addr.add]) (At.whole _) (WP.ret ⟨e.symm, ?_⟩))
  exact (Ss.drop (Ss.drop (Ss.drop s))).perm (List.perm_append_comm (l₁ := Zbr p b L ++ Hs)) |>.drop
end
def Zbz (L : List Zab) (ip : ZaH) : List Zab := (pxs ip).filterMap (ZcN L)
theorem Zmx (ip : ZaH) : (pxs ip).length ≤ 129 := by
 have := Zd2 ip
 unfold pxs
 split
 ·rw [List.length_map, List.length_range]; omega
 ·simp
def MHs (b3 : Nat) (l : List Zab) : HP := ex (fun _ : Sl × List Zab => True) (fun q => seps [pts true (pt b3 0) (cL.enc q.1), vec cRt q.1 l q.2])
end Go.Proofs.YtfgcobigollfjaaDoor.Lx
