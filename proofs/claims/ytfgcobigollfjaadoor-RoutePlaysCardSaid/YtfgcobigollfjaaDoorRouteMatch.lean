
import Derived.Test.YtfgcobigollfjaaDoorRouteFind
set_option linter.unusedVariables false
set_option linter.unusedSimpArgs false
namespace Go.Proofs.YtfgcobigollfjaaDoor.Lx
open Go Go.Proofs Go.RowKit
section
variable {W w : World} {Hs : List HP} {p b : Nat} {L : List Zab}
theorem Zii (s : Ss W Hs w) (ip : ZaH) : WP (ZbT ip) w (fun r w' => ∃ a, (∀ y, Zaz.it r y = ZaR y a) ∧ Ss W (pts true a (ZaI.enc ip) :: Hs) w') := by
 unfold ZbT
 exact WP.newv s (fun b w s => WP.ret ⟨_, fun y => rfl, s⟩)
theorem ZfR {b3 b5 l : Nat} {M : List Zab} {Own : List HP} {x : Zar} {j : Bool} {q : Zab} (hm : M.length ≤ 129) (hj : ZcN L x = if j then some q else none)
  (s : Ss W (lpH l .busy none :: MHs b3 M :: Own) w) : WP (Zaz.K1 b3 b5 j q) w (fun r w' => r = none ∧ Ss W (lpH l .busy none :: MHs b3 (M ++ (ZcN L x).toList) :: Own) w') := by
 unfold Zaz.K1
 refine WP.ite (fun h => ?_) (fun h => WP.ret ⟨rfl, ?_⟩)
 ·rw [h, if_pos rfl] at hj
  obtain ⟨⟨sl, sp⟩, -, s1⟩ := s.openx 1 rfl
  have s2 := Ss.split (l := [pts true (pt b3 0) (cL.enc sl), vec cRt sl M sp]) (s1.use [1] rfl)
  refine WP.ld s2 0 rfl (o := 0) (by simp [Addr.add]) (At.whole _) (WP.slot' s2 (fun _ w s2 => WP.appl s2 1 rfl (by simp only [List.length_singleton]; omega) (by omega) (fun r w sp' s3 => ?_)))
  refine WP.st s3 0 rfl (o := 0) (by simp [Addr.add]) (Upd.whole rfl) (fun w s4 => WP.ret ⟨rfl, ?_⟩)
  have s5 := Ss.group (l := [pts true (pt b3 0) (cL.enc r), vec cRt r (M ++ [q]) sp']) s4
  have s6 : Ss W (MHs b3 (M ++ [q]) :: lpH l .busy none :: Own) w := s5.first (fun h hh => ⟨(r, sp'), trivial, hh⟩)
  rw [hj]
  exact s6.perm (List.Perm.swap _ _ _)
 ·rw [if_neg (by simpa using h)] at hj
  rw [hj]
  simpa using s
theorem Zkr (s : Ss W (Zbr p b L ++ Hs) w) (ip : ZaH) (hb : Byt ip.A.l) : WP (Zaz (some (pt p 0)) ip) w (fun r w' => ∃ sp, Ss W (vec cRt r (Zbz L ip) sp :: (Zbr p b L ++ Hs)) w') := by
 unfold Zaz
 have hnd := Zbr.nd s
 refine WP.newv s (fun b1 w s => WP.slot' s (fun _ w s => WP.newv s (fun b3 w s => WP.step (Zii s ip) ?_)))
 rintro r w ⟨a, hr, s⟩
 have hit : Zaz.it r = fun y => ZaR y a := funext hr
 rw [hit]
 have s0 : Ss W ((MHs b3 [] :: pts true (pt b1 0) (cP.enc (some (pt p 0))) :: (Zbr p b L ++ Hs)) ++ [pts true a (ZaI.enc ip)]) w := by
  have s1 := (s.use [1] rfl).mk0 (A := vec cRt Sl.nil [] []) Zed
  have s2 := Ss.group (l := [pts true (pt b3 0) (cL.enc Sl.nil), vec cRt Sl.nil [] []]) (s1.use [1, 0] rfl)
  have s3 : Ss W (MHs b3 [] :: pts true a (ZaI.enc ip) :: pts true (pt b1 0) (cP.enc (some (pt p 0))) :: (Zbr p b L ++ Hs)) w := s2.first (fun h hh => ⟨(Sl.nil, []), trivial, hh⟩)
  refine s3.perm (List.Perm.cons _ ?_)
  exact (List.perm_append_comm (l₁ := [pts true a (ZaI.enc ip)]))
 refine WP.rangeM (fun i => MHs b3 (((pxs ip).take i).filterMap (ZcN L)) :: pts true (pt b1 0) (cP.enc (some (pt p 0))) :: (Zbr p b L ++ Hs))
  (fun i c => [fact False]) (ZfG W a ip hb) (by simpa using s0) ?_ ?_ ?_
 ·clear s s0
  intro l i x w hx s
  have hi : i < (pxs ip).length := (List.getElem?_eq_some_iff.1 hx).1
  have hlen : (((pxs ip).take i).filterMap (ZcN L)).length ≤ 129 := by
   have h1 := List.length_filterMap_le (ZcN L) ((pxs ip).take i)
   have h2 := Zmx ip
   rw [List.length_take] at h1
   omega
  have e1 : ((pxs ip).take (i + 1)).filterMap (ZcN L) = ((pxs ip).take i).filterMap (ZcN L) ++ (ZcN L x).toList := by
   rw [List.take_add_one, hx, List.filterMap_append]
   cases h : ZcN L x <;> simp [h]
  have fin : ∀ {w} {r : Option Code}, r = none ∧ Ss W (lpH l .busy none :: MHs b3 (((pxs ip).take i).filterMap (ZcN L) ++ (ZcN L x).toList) :: (pts true (pt b1 0) (cP.enc (some (pt p 0))) :: (Zbr p b L ++ Hs) ++ [pts true a (ZaI.enc ip)])) w →
    (r = none ∧ Ss W (lpH l .busy none :: ((MHs b3 (((pxs ip).take (i + 1)).filterMap (ZcN L)) :: pts true (pt b1 0) (cP.enc (some (pt p 0))) :: (Zbr p b L ++ Hs)) ++ [pts true a (ZaI.enc ip)])) w) ∨ ∃ c, r = some c ∧ Ss W (lpH l .busy none :: ([fact False] ++ [pts true a (ZaI.enc ip)])) w := by
   intro w r h
   rw [e1]
   exact .inl h
  unfold Zaz.R1
  have nk : (∀ y : Zab, (x, y) ∉ L.map rkv) → ZcN L x = none := fun h => ZdJ.2 fun y hy e => h y (Zc5.2 ⟨hy, e⟩)
  have sk : ∀ y : Zab, (x, y) ∈ L.map rkv → ZcN L x = some y := fun y hy => Zep hnd (Zc5.1 hy).1 (Zc5.1 hy).2
  refine WP.slot' s (fun _ w s => WP.begM s (fun w s => WP.draws s (fun σ w s => WP.ite (fun _ => ?_) (fun _ => ?_))))
  ·refine WP.ld s 2 rfl (o := 0) (by simp [Addr.add]) (At.whole _) (WP.nilck (WP.ld s 3 rfl (o := 0) (by simp [Addr.add]) (ZaK _) (WP.mget (ck := cPx) (cv := cRt) s 4 rfl (fun q hq => ?_) (fun h0 => ?_))))
   ·exact WP.slot' s (fun _ w s => WP.same s 3 rfl (o := 0) (by simp [Addr.add]) (ZaK _) (WP.same s 2 rfl (o := 0) (by simp [Addr.add]) (At.whole _) ((ZfR (L := L) (x := x) hlen (by simpa using sk q hq) s).mono fun r w h => fin h)))
   ·exact WP.slot' s (fun _ w s => WP.same s 3 rfl (o := 0) (by simp [Addr.add]) (ZaK _) (WP.same s 2 rfl (o := 0) (by simp [Addr.add]) (At.whole _) ((ZfR (L := L) (x := x) hlen (by simpa using nk h0) s).mono fun r w h => fin h)))
  ·refine WP.ld s 2 rfl (o := 0) (by simp [Addr.add]) (At.whole _) (WP.nilck (WP.ld s 3 rfl (o := 0) (by simp [Addr.add]) (ZaK _) (WP.slot' s (fun _ w s => WP.same s 3 rfl (o := 0) (by simp [Addr.add]) (ZaK _) (WP.same s 2 rfl (o := 0) (by simp [Addr.add]) (At.whole _) (WP.mget (ck := cPx) (cv := cRt) s 4 rfl (fun q hq => ?_) (fun h0 => ?_)))))))
   ·exact (ZfR (L := L) (x := x) hlen (by simpa using sk q hq) s).mono fun r w h => fin h
   ·exact (ZfR (L := L) (x := x) hlen (by simpa using nk h0) s).mono fun r w h => fin h
 ·clear s s0
  intro w s
  rw [List.take_length] at s
  obtain ⟨⟨sl, sp⟩, -, s1⟩ := s.openx 0 rfl
  have s2 := Ss.split (l := [pts true (pt b3 0) (cL.enc sl), vec cRt sl ((pxs ip).filterMap (ZcN L)) sp]) s1
  show WP (ld _ _ >>= _) w _
  refine WP.ld s2 0 rfl (o := 0) (by simp [Addr.add]) (At.whole _) (WP.ret ⟨sp, ?_⟩)
  have s3 := (s2.drop).use [0, 0] rfl
  have s4 : Ss W ((vec cRt sl (Zbz L ip) sp :: (Zbr p b L ++ Hs)) ++ [pts true a (ZaI.enc ip)]) w := (s3.use [1] rfl).drop
  exact Ss.weak (s4.perm (List.perm_append_comm (l₁ := vec cRt sl (Zbz L ip) sp :: (Zbr p b L ++ Hs))))
 ·intro i x c w hx s
  exact absurd (Ss.fact s).1 (fun h => h)
end
end Go.Proofs.YtfgcobigollfjaaDoor.Lx
