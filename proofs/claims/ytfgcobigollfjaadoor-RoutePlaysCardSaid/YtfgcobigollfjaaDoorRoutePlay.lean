
import Derived.Test.YtfgcobigollfjaaDoorRouteRange
import Derived.Test.YtfgcobigollfjaaDoorRouteBook
import Derived.Test.YtfgcobigollfjaaDoorRoutePlain2
import Derived.Test.YtfgcobigollfjaaDoorRouteMatch
set_option linter.unusedVariables false
set_option linter.unusedSimpArgs false
namespace Go.Proofs.YtfgcobigollfjaaDoor.Lx
open Go Go.Proofs Go.RowKit
section
variable {W w : World} {Hs : List HP} {p b : Nat} {L : List Zab} {sl : Sl} {kp : Any}
theorem ZhQ {Z : List HP} : ∀ {H : List HP} {j : Nat} {B : HP}, nth H j = some B → nth (H ++ Z) j = some B
 | [], j, B, h => by cases h
 | C :: H, 0, B, h => h
 | C :: H, j + 1, B, h => ZhQ (H := H) (j := j) h
theorem ZnL {β : Type} {b1 : Nat} {l : List Zab} {f : Sl → M β} {Q : β → World → Prop} (s : Ss W Hs w) (i : Nat) (e : nth Hs i = some (MHs b1 l)) (k : ∀ q, q.len = l.length → WP (f q) w Q) : WP (ld cL (pt b1 0) >>= f) w Q := by
 obtain ⟨⟨q, sp⟩, -, s1⟩ := (s.perm (ZcH e)).openx 0 rfl
 have s2 : Ss W (pts true (pt b1 0) (cL.enc q) :: vec cRt q l sp :: wo Hs i) w := Ss.split (l := [pts true (pt b1 0) (cL.enc q), vec cRt q l sp]) s1
 exact WP.ld s2 0 rfl (o := 0) (by simp [Addr.add]) (At.whole _) (k q (s2.vec_len (i := 1) rfl).1)
theorem ZlM (hL : TOk L) (s : Ss W (Two p b sl L ++ Hs) w) : WP (Za0 ⟨some (pt p 0), sl, kp⟩) w (fun r w' => r = true ∧ Ss W (Two p b sl L ++ Hs) w') := by
 unfold Za0
 have hsl : (Zbd L).length = L.length := (ZbK L).length_eq
 have h256 := hL.len
 refine WP.newv (c := Zau) s (fun b1 w s => WP.newv s (fun b2 w s => WP.ld s 1 rfl (o := 0) (by simp [Addr.add]) (ZbH ⟨some (pt p 0), sl, kp⟩) (WP.step (Zhc s p) ?_)))
 rintro it w ⟨a, hit, s⟩
 refine WP.newv s (fun b5 w s => WP.st s 0 rfl (o := 0) (by simp [Addr.add]) (Upd.whole rfl) (fun w s => WP.ld s 0 rfl (o := 0) (by simp [Addr.add]) (At.whole _) ?_))
 rw [hit.2]
 refine WP.step (R := fun y w' => y = false ∧ w = w') (WP.ret ⟨rfl, rfl⟩) ?_
 rintro _ _ ⟨rfl, rfl⟩
 refine WP.ite (fun h => by cases h) (fun _ => WP.newv s (fun b10 w s => WP.st s 0 rfl (o := 0) (by simp [Addr.add]) (Upd.whole rfl) (fun w s => WP.ld s 1 rfl (o := 0) (by simp [Addr.add]) (At.whole _) ?_)))
 have s : Ss W (([pts true (pt b10 0) ((cI .i64).enc 0)] ++ (Zbr p b L ++ (rdS cRt false sl (Zbd L) :: pts true (pt b5 0) (cV.enc it) :: Clo a p :: pts true (pt b2 0) (cB.enc false) :: pts true (pt b1 0) (Zau.enc ⟨some (pt p 0), sl, kp⟩) :: Hs)))) w := by
  have s := s.use [0, 4, 4, 4, 0, 0, 0, 0] rfl
  exact s
 have s0 := (s.dup (i := 5) rfl Ro.clo).toEnd
 refine WP.rangeAll (p := p) (b := b) (L := L) (Hs := rdS cRt false sl (Zbd L) :: pts true (pt b5 0) (cV.enc it) :: Clo a p :: pts true (pt b2 0) (cB.enc false) :: pts true (pt b1 0) (Zau.enc ⟨some (pt p 0), sl, kp⟩) :: Hs) hit.1 h256 [pts true (pt b10 0) ((cI .i64).enc 0)]
  (fun i => [pts true (pt b10 0) ((cI .i64).enc (i : Int))] ++ (Zbr p b L ++ (rdS cRt false sl (Zbd L) :: pts true (pt b5 0) (cV.enc it) :: Clo a p :: pts true (pt b2 0) (cB.enc false) :: pts true (pt b1 0) (Zau.enc ⟨some (pt p 0), sl, kp⟩) :: Hs))) (fun i c => [fact False]) (fun w Z s => s) s0 ?_ ?_ ?_
 ·clear s s0
  intro ll i x w Z hx s
  have hlt := (List.getElem?_eq_some_iff.1 hx).1
  have hw : IntKind.wrap .i64 ((i : Int) + 1) = ((i + 1 : Nat) : Int) := by
   rw [ZaP (by omega) (by omega)]
   omega
  unfold Za0.R1
  refine WP.begM s (fun w s => WP.ld s 1 rfl (o := 0) (by simp [Addr.add]) (At.whole _) ?_)
  rw [hw]
  refine WP.st s 1 rfl (o := 0) (by simp [Addr.add]) (Upd.whole rfl) (fun w s => WP.ld s 1 rfl (o := 0) (by simp [Addr.add]) (At.whole _) ?_)
  have s : Ss W (lpH ll .busy none :: ([pts true (pt b10 0) ((cI .i64).enc ((i + 1 : Nat) : Int))] ++ (Zbr p b L ++ (rdS cRt false sl (Zbd L) :: pts true (pt b5 0) (cV.enc it) :: Clo a p :: pts true (pt b2 0) (cB.enc false) :: pts true (pt b1 0) (Zau.enc ⟨some (pt p 0), sl, kp⟩) :: (Hs ++ Z))))) w := s
  refine WP.step (R := fun y w' => y = false ∧ Ss W (lpH ll .busy none :: ([pts true (pt b10 0) ((cI .i64).enc ((i + 1 : Nat) : Int))] ++ (Zbr p b L ++ (rdS cRt false sl (Zbd L) :: pts true (pt b5 0) (cV.enc it) :: Clo a p :: pts true (pt b2 0) (cB.enc false) :: pts true (pt b1 0) (Zau.enc ⟨some (pt p 0), sl, kp⟩) :: (Hs ++ Z))))) w') (WP.ite (fun h => ?_) (fun h => WP.ret ⟨rfl, s⟩)) ?_
  ·refine WP.ld s 5 rfl (o := 0) (by simp [Addr.add]) (At.whole _) (WP.ld s 1 rfl (o := 0) (by simp [Addr.add]) (At.whole _) (WP.ld s 8 rfl (o := 1) rfl (Zbk ⟨some (pt p 0), sl, kp⟩) ?_))
   have s : Ss W (Zbr p b L ++ (lpH ll .busy none :: pts true (pt b10 0) ((cI .i64).enc ((i + 1 : Nat) : Int)) :: rdS cRt false sl (Zbd L) :: pts true (pt b5 0) (cV.enc it) :: Clo a p :: pts true (pt b2 0) (cB.enc false) :: pts true (pt b1 0) (Zau.enc ⟨some (pt p 0), sl, kp⟩) :: (Hs ++ Z))) w := s.use [2, 2] rfl
   refine WP.step (ZgI hit s h256 4 rfl 2 rfl _) ?_
   rintro _ w ⟨rfl, s⟩
   have s := s.use [2, 2] rfl
   exact WP.ret ⟨rfl, s⟩
  rintro _ w ⟨rfl, s⟩
  exact WP.ite (fun h => by cases h) (fun _ => WP.ret (.inl ⟨rfl, s⟩))
 ·clear s s0
  intro w Z s
  have s := s.cutZ
  show WP (ld _ _ >>= _) w _
  have hls := (s.rd_cap (i := 3) rfl).1
  refine WP.ld s 0 rfl (o := 0) (by simp [Addr.add]) (At.whole _) (WP.ld s 7 rfl (o := 1) rfl (Zbk ⟨some (pt p 0), sl, kp⟩) ?_)
  have e : (((Zbd L).length : Nat) : Int) == (sl.len : Int) := by rw [hls]; simp
  rw [e]
  refine WP.st s 6 rfl (o := 0) (by simp [Addr.add]) (Upd.whole rfl) (fun w s => WP.ld s 6 rfl (o := 0) (by simp [Addr.add]) (At.whole _) (WP.ret ⟨rfl, ?_⟩))
  exact ((s.use [0] rfl).drop.use [3, 3, 3, 3] rfl).drop.drop.drop.drop
 ·intro i x c w Z hx s
  exact absurd (Ss.fact s).1 (fun h => h)
def InHs (p b : Nat) (sl : Sl) (L : List Zab) (kp : Any) (b1 b10 b11 : Nat) (got : List Zab) : List HP := Two p b sl L ++ [pts true (pt b1 0) (Zau.enc ⟨some (pt p 0), sl, kp⟩), MHs b10 got, pts true (pt b11 0) (cB.enc true)]
theorem Zl5 (hL : TOk L) (t : Nat) (et : nth Hs t = some TabC) (st : ZaO) (hb : RByt st.R) (hip : Byt st.IP.A.l) (s : Ss W (Two p b sl L ++ Hs) w) :
  WP (ZaD ⟨some (pt p 0), sl, kp⟩ st) w (fun r w' => ∃ sl' L', r = (⟨some (pt p 0), sl', kp⟩, true) ∧ TOk L' ∧ Ss W (Two p b sl' L' ++ Hs) w') := by
 unfold ZaD
 have h256 := hL.len
 have hsl : (Zbd L).length ≤ 256 := by rw [(ZbK L).length_eq]; exact h256
 refine WP.newv (c := Zau) s (fun b1 w s => WP.newv (c := ZaF) s (fun b2 w s => WP.slot' s (fun _ w s => ?_)))
 refine WP.ld s 1 rfl (o := 1) rfl (Zbk ⟨some (pt p 0), sl, kp⟩) (WP.ld s 1 rfl (o := 0) (by simp [Addr.add]) (ZbH ⟨some (pt p 0), sl, kp⟩) (WP.step (Zhc s p) ?_))
 rintro it w ⟨a, hit, s⟩
 rw [hit.2]
 refine WP.step (R := fun y w' => y = false ∧ w = w') (WP.ret ⟨rfl, rfl⟩) ?_
 rintro _ _ ⟨rfl, rfl⟩
 refine WP.ite (fun h => by cases h) (fun _ => WP.newv s (fun b10 w s => ?_))
 have s := ZlI s
 refine WP.newv s (fun b11 w s => WP.st s 0 rfl (o := 0) (by simp [Addr.add]) (Upd.whole rfl) (fun w s => ?_))
 have s : Ss W (Zbr p b L ++ (rdS cRt false sl (Zbd L) :: pts true (pt b1 0) (Zau.enc ⟨some (pt p 0), sl, kp⟩) :: MHs b10 [] :: pts true (pt b11 0) (cB.enc true) :: Clo a p :: pts true (pt b2 0) (ZaF.enc st) :: Hs)) w := by
  have s := s.use [5, 5, 5, 4, 1, 0, 0, 0] rfl
  exact s
 have s := s.dup (i := 2) rfl Ro.rdS
 have s : Ss W ([] ++ (Zbr p b L ++ (rdS cRt false sl (Zbd L) :: pts true (pt b1 0) (Zau.enc ⟨some (pt p 0), sl, kp⟩) :: MHs b10 [] :: pts true (pt b11 0) (cB.enc true) :: rdS cRt false sl (Zbd L) :: Clo a p :: pts true (pt b2 0) (ZaF.enc st) :: Hs))) w := by
  have s := s.use [1, 1, 1, 1, 1, 1, 0] rfl
  exact s
 have s0 := (s.dup (i := 7) rfl Ro.clo).toEnd
 refine WP.rangeAll (p := p) (b := b) (L := L) (Hs := rdS cRt false sl (Zbd L) :: pts true (pt b1 0) (Zau.enc ⟨some (pt p 0), sl, kp⟩) :: MHs b10 [] :: pts true (pt b11 0) (cB.enc true) :: rdS cRt false sl (Zbd L) :: Clo a p :: pts true (pt b2 0) (ZaF.enc st) :: Hs) hit.1 h256 []
  (fun i => ZiZ (fun q : Sl × List Zab => seps (fact (TOk q.2) :: InHs p b q.1 q.2 kp b1 b10 b11 ((Zbd L).take i))) :: rdS cRt false sl (Zbd L) :: Clo a p :: pts true (pt b2 0) (ZaF.enc st) :: Hs) (fun i c => [fact False]) (fun w Z s => ?_) s0 ?_ ?_ ?_
 ·have s := Ss.mkfact hL s
  exact (Ss.group (l := fact (TOk L) :: InHs p b sl L kp b1 b10 b11 []) s).first (fun h hh => ⟨(sl, L), hh⟩)
 ·clear s s0
  intro ll i x w Z hx s
  have hlt := (List.getElem?_eq_some_iff.1 hx).1
  obtain ⟨⟨sl', L'⟩, s⟩ := Ss.ex (s.use [1] (s := [_]) (r := lpH ll .ready none :: rdS cRt false sl (Zbd L) :: Clo a p :: pts true (pt b2 0) (ZaF.enc st) :: (Hs ++ Z)) rfl)
  obtain ⟨hL', s⟩ := Ss.fact (Ss.split s)
  simp only at hL' s
  have s : Ss W (lpH ll .ready none :: (InHs p b sl' L' kp b1 b10 b11 ((Zbd L).take i) ++ (rdS cRt false sl (Zbd L) :: Clo a p :: pts true (pt b2 0) (ZaF.enc st) :: (Hs ++ Z)))) w := by
   have s := s.use [6] rfl
   exact s
  unfold ZaD.R1
  refine WP.slot' s (fun _ w s => WP.begM s (fun w s => ?_))
  have s : Ss W (InHs p b sl' L' kp b1 b10 b11 ((Zbd L).take i) ++ (lpH ll .busy none :: rdS cRt false sl (Zbd L) :: Clo a p :: pts true (pt b2 0) (ZaF.enc st) :: (Hs ++ Z))) w := s.perm List.perm_middle.symm
  -- the end of one round
  have fin : ∀ {w : World} {sl2 : Sl} {L2 : List Zab}, TOk L2 → Ss W (InHs p b sl2 L2 kp b1 b10 b11 ((Zbd L).take i) ++ (lpH ll .busy none :: rdS cRt false sl (Zbd L) :: Clo a p :: pts true (pt b2 0) (ZaF.enc st) :: (Hs ++ Z))) w →
    WP (ZaD.K1 b10 x) w (fun j w' => j = none ∧ Ss W (lpH ll .busy none :: (ZiZ (fun q : Sl × List Zab => seps (fact (TOk q.2) :: InHs p b q.1 q.2 kp b1 b10 b11 ((Zbd L).take (i + 1)))) :: rdS cRt false sl (Zbd L) :: Clo a p :: pts true (pt b2 0) (ZaF.enc st) :: (Hs ++ Z))) w') := by
   intro w sl2 L2 hL2 s
   unfold ZaD.K1
   have s : Ss W (MHs b10 ((Zbd L).take i) :: (Two p b sl2 L2 ++ (pts true (pt b1 0) (Zau.enc ⟨some (pt p 0), sl2, kp⟩) :: pts true (pt b11 0) (cB.enc true) :: lpH ll .busy none :: rdS cRt false sl (Zbd L) :: Clo a p :: pts true (pt b2 0) (ZaF.enc st) :: (Hs ++ Z)))) w := by
    have s := s.use [4] rfl
    exact s
   refine ZmD (x := x) (by rw [List.length_take]; omega) s (fun w s => WP.ret ⟨rfl, ?_⟩)
   have e2 : (Zbd L).take i ++ [x] = (Zbd L).take (i + 1) := by rw [List.take_add_one, hx]; rfl
   rw [e2] at s
   have s : Ss W (InHs p b sl2 L2 kp b1 b10 b11 ((Zbd L).take (i + 1)) ++ (lpH ll .busy none :: rdS cRt false sl (Zbd L) :: Clo a p :: pts true (pt b2 0) (ZaF.enc st) :: (Hs ++ Z))) w := by
    have s := s.use [1, 1, 1, 1, 0, 0] rfl
    exact s
   have s := Ss.mkfact hL2 s
   have s := (Ss.group (l := fact (TOk L2) :: InHs p b sl2 L2 kp b1 b10 b11 ((Zbd L).take (i + 1))) s).first (B := ZiZ (fun q : Sl × List Zab => seps (fact (TOk q.2) :: InHs p b q.1 q.2 kp b1 b10 b11 ((Zbd L).take (i + 1))))) (fun h hh => ⟨(sl2, L2), hh⟩)
   exact s.perm (List.Perm.swap _ _ _)
  have hgot : ((Zbd L).take i).length = i := by rw [List.length_take]; omega
  refine ZnL s 4 rfl (fun q hq => ?_)
  refine WP.mono (Q := fun j w' => j = none ∧ Ss W (lpH ll .busy none :: (ZiZ (fun q : Sl × List Zab => seps (fact (TOk q.2) :: InHs p b q.1 q.2 kp b1 b10 b11 ((Zbd L).take (i + 1)))) :: rdS cRt false sl (Zbd L) :: Clo a p :: pts true (pt b2 0) (ZaF.enc st) :: (Hs ++ Z))) w') ?_ (fun j w h => .inl h)
  refine WP.ite (fun h => ?_) (fun h => fin hL' s)
  refine WP.ld s 3 rfl (o := 0) (by simp [Addr.add]) (At.whole _) (WP.ld s 9 rfl (o := 2) rfl (Zco st) ?_)
  refine WP.step (ZeL (p := p) (b := b) (sl := sl') (L := L') (Hs := pts true (pt b1 0) (Zau.enc ⟨some (pt p 0), sl', kp⟩) :: MHs b10 ((Zbd L).take i) :: pts true (pt b11 0) (cB.enc true) :: lpH ll .busy none :: rdS cRt false sl (Zbd L) :: Clo a p :: pts true (pt b2 0) (ZaF.enc st) :: (Hs ++ Z)) s (t + 7) (ZhQ et) hL' kp (⟨1, ZaJ.Obj, st.R, ZaJ.IP, ZaJ.N⟩ : ZaO) hb) ?_
  rintro _ w ⟨sl2, L2, rfl, hL2, -, s⟩
  refine WP.st s 3 rfl (o := 0) (by simp [Addr.add]) (Upd.whole rfl) (fun w s => WP.st s 5 rfl (o := 0) (by simp [Addr.add]) (Upd.whole rfl) (fun w s => ?_))
  have s : Ss W (Two p b sl2 L2 ++ (pts true (pt b1 0) (Zau.enc ⟨some (pt p 0), sl2, kp⟩) :: MHs b10 ((Zbd L).take i) :: pts true (pt b11 0) (cB.enc true) :: lpH ll .busy none :: rdS cRt false sl (Zbd L) :: Clo a p :: pts true (pt b2 0) (ZaF.enc st) :: (Hs ++ Z))) w := s
  obtain ⟨hD2, ndD2, nd2⟩ := Two.ok s hL2
  refine WP.ld s 3 rfl (o := 1) rfl (Zbk ⟨some (pt p 0), sl2, kp⟩) (WP.ld s 9 rfl (o := 38) rfl (Zca st) (WP.step (ZjA s 2 rfl Zdg hD2 ndD2 st.IP hip) ?_))
  rintro _ w ⟨rfl, s⟩
  refine WP.slot' s (fun _ w s => ?_)
  refine WP.step (R := fun y w' => y = (ZeB (Zbd L2) st.IP).2 ∧ w = w') (WP.ite (fun h => WP.ld s 5 rfl (o := 0) (by simp [Addr.add]) (At.whole _) (WP.ret ⟨h.symm, rfl⟩)) (fun h => WP.ret ⟨by simpa using h, rfl⟩)) ?_
  rintro _ _ ⟨rfl, rfl⟩
  refine WP.ite (fun h => ?_) (fun h => fin hL2 s)
  have hbm : RByt (ZeB (Zbd L2) st.IP).1 := by
   have h1 : ZeB (Zbd L2) st.IP = ((ZeB (Zbd L2) st.IP).1, true) := by rw [← h]
   have h2 := List.mem_of_getElem? (Zlh h1)
   exact hD2.byt _ ((Ziq ndD2 hD2.px).1 h2).1
  refine WP.ld s 3 rfl (o := 0) (by simp [Addr.add]) (At.whole _) (WP.step (ZeL (p := p) (b := b) (sl := sl2) (L := L2) (Hs := pts true (pt b1 0) (Zau.enc ⟨some (pt p 0), sl2, kp⟩) :: MHs b10 ((Zbd L).take i) :: pts true (pt b11 0) (cB.enc true) :: lpH ll .busy none :: rdS cRt false sl (Zbd L) :: Clo a p :: pts true (pt b2 0) (ZaF.enc st) :: (Hs ++ Z)) s (t + 7) (ZhQ et) hL2 kp (⟨2, ZaJ.Obj, (ZeB (Zbd L2) st.IP).1, ZaJ.IP, ZaJ.N⟩ : ZaO) hbm) ?_)
  rintro _ w ⟨sl3, L3, rfl, hL3, -, s⟩
  exact WP.st s 3 rfl (o := 0) (by simp [Addr.add]) (Upd.whole rfl) (fun w s => WP.st s 5 rfl (o := 0) (by simp [Addr.add]) (Upd.whole rfl) (fun w s => fin hL3 s))
 ·clear s s0
  intro w Z s
  rw [List.take_length] at s
  obtain ⟨⟨sl', L'⟩, s⟩ := Ss.ex s.cutZ
  obtain ⟨hL', s⟩ := Ss.fact (Ss.split s)
  simp only at hL' s
  show WP (draw >>= _) w _
  refine WP.draw' s (fun w s => WP.ld s 3 rfl (o := 0) (by simp [Addr.add]) (At.whole _) (WP.ld s 5 rfl (o := 0) (by simp [Addr.add]) (At.whole _) ?_))
  refine WP.step (R := fun y w' => y = true ∧ Ss W (Two p b sl' L' ++ Hs) w') (WP.ite (fun _ => ?_) (fun h => absurd rfl h)) ?_
  ·have s : Ss W (MHs b10 (Zbd L) :: (Two p b sl' L' ++ (pts true (pt b1 0) (Zau.enc ⟨some (pt p 0), sl', kp⟩) :: pts true (pt b11 0) (cB.enc true) :: rdS cRt false sl (Zbd L) :: Clo a p :: pts true (pt b2 0) (ZaF.enc st) :: Hs))) w := by
    have s := s.use [4] rfl
    exact s
   obtain ⟨⟨q, sp⟩, -, s1⟩ := s.openx 0 rfl
   have s2 : Ss W (pts true (pt b10 0) (cL.enc q) :: vec cRt q (Zbd L) sp :: (Two p b sl' L' ++ (pts true (pt b1 0) (Zau.enc ⟨some (pt p 0), sl', kp⟩) :: pts true (pt b11 0) (cB.enc true) :: rdS cRt false sl (Zbd L) :: Clo a p :: pts true (pt b2 0) (ZaF.enc st) :: Hs))) w := Ss.split (l := [pts true (pt b10 0) (cL.enc q), vec cRt q (Zbd L) sp]) s1
   refine WP.ld s2 0 rfl (o := 0) (by simp [Addr.add]) (At.whole _) (WP.step (Zi1 s2 1 rfl ZcG 7 rfl Zdg (by omega)) ?_)
   rintro _ w ⟨rfl, s⟩
   refine WP.same s 5 rfl (o := 0) (by simp [Addr.add]) (At.whole _) (WP.ret ⟨decide_eq_true rfl, ?_⟩)
   have s := s.drop.drop
   have s := (s.use [3, 3, 3, 3, 3] rfl).drop.drop.drop.drop.drop
   exact s
  rintro _ w ⟨rfl, s⟩
  exact WP.ret ⟨sl', L', rfl, hL', s⟩
 ·intro i x c w Z hx s
  exact absurd (Ss.fact s).1 (fun h => h)
theorem Zgv {a : Addr} {bb n : Nat} (hk : Zmo kp a) (hL : TOk L) (hn : n < 1000) (st : ZaO) (hip : Byt st.IP.A.l) (s : Ss W (Two p b sl L ++ (Clo a p :: BkP bb n :: Hs)) w) :
  WP (ZbP ⟨some (pt p 0), sl, kp⟩ st (some (pt bb 0))) w (fun r w' => r = true ∧ ∃ n', n' ≤ n + 1 ∧ Ss W (Two p b sl L ++ (Clo a p :: BkP bb n' :: Hs)) w') := by
 unfold ZbP
 obtain ⟨hD, ndD, nd⟩ := Two.ok s hL
 have h256 := hL.len
 have hm : Zbz (Zbd L) st.IP = Zbz L st.IP := Zka ndD (ZbK L) _
 have hf : ZeB (Zbd L) st.IP = ZeB L st.IP := Zli ndD (ZbK L) _
 have hls := (s.rd_cap (i := 2) rfl).1
 rw [(ZbK L).length_eq] at hls
 have hml : (Zbz L st.IP).length ≤ 129 := by
  have := List.length_filterMap_le (ZcN L) (pxs st.IP)
  have := Zmx st.IP
  unfold Zbz
  omega
 refine WP.slot' s (fun _ w s => WP.slot' s (fun _ w s => WP.ite (fun h => ?_) (fun h => WP.ite (fun h => ?_) (fun h => WP.ite (fun h => ?_) (fun h => WP.ite (fun h => ?_) (fun h => WP.ite (fun h => ?_) (fun h => WP.ite (fun h => ?_) (fun h => WP.ret ⟨rfl, n, by omega, s⟩))))))))
 ·refine WP.step (Zng (p := p) (b := b) (L := L) s st.IP hip) ?_
  rintro _ w ⟨rfl, s⟩
  refine WP.slot' s (fun _ w s => WP.step (ZjA s 2 rfl Zdg hD ndD st.IP hip) ?_)
  rintro _ w ⟨rfl, s⟩
  rw [hf]
  refine WP.slot' s (fun _ w s => ?_)
  refine WP.step (R := fun y w' => y = true ∧ w = w') (WP.ite (fun _ => WP.ret ⟨beq_self_eq_true _, rfl⟩) (fun h => absurd rfl h)) ?_
  rintro _ _ ⟨rfl, rfl⟩
  exact WP.ret ⟨rfl, n, by omega, s⟩
 ·refine WP.step (Zkr (p := p) (b := b) (L := L) s st.IP hip) ?_
  rintro q1 w ⟨sp1, s⟩
  refine WP.step (ZgE s 3 rfl Zdg hD ndD st.IP hip) ?_
  rintro q2 w ⟨sp2, s⟩
  rw [hm] at s
  refine WP.step (Zi1 s 1 rfl ZcG 0 rfl ZcG (by omega)) ?_
  rintro _ w ⟨rfl, s⟩
  refine WP.ite (fun h => absurd (decide_eq_true rfl) h) (fun _ => ?_)
  have s : Ss W (vec cRt q1 (Zbz L st.IP) sp1 :: BkP bb n :: (vec cRt q2 (Zbz L st.IP) sp2 :: (Two p b sl L ++ (Clo a p :: Hs)))) w := by
   have s := s.use [1, 5] rfl
   exact s
  refine WP.step (ZmJ (by omega) hn s) ?_
  intro _ w s
  refine WP.ret ⟨rfl, n + 1, by omega, ?_⟩
  have s := (s.use [1] rfl).drop
  have s := s.use [1, 1, 1, 1, 0] rfl
  exact s
 ·refine WP.draw' s (fun w s => WP.step (Zhc s p) ?_)
  rintro it2 w ⟨a2, hit2, s⟩
  have s : Ss W (Zbr p b L ++ (Clo a2 p :: rdS cRt false sl (Zbd L) :: (Clo a p :: BkP bb n :: Hs))) w := by
   have s := s.use [1, 1] rfl
   exact s
  refine WP.step (ZgI hit2 s h256 0 rfl 1 rfl _) ?_
  rintro _ w ⟨rfl, s⟩
  exact WP.ret ⟨rfl, n, by omega, (s.use [2] rfl).drop⟩
 ·refine WP.step (ZgI (Hs := rdS cRt false sl (Zbd L) :: Clo a p :: BkP bb n :: Hs) hk s h256 1 rfl 0 rfl _) ?_
  rintro _ w ⟨rfl, s⟩
  exact WP.ret ⟨rfl, n, by omega, s⟩
 ·refine WP.step (ZlM hL s) ?_
  rintro _ w ⟨rfl, s⟩
  exact WP.ret ⟨rfl, n, by omega, s⟩
 ·refine WP.draw' s (fun w s => WP.step (ZnM (p := p) (b := b) (L := L) s) ?_)
  rintro _ w ⟨rfl, s⟩
  refine WP.ret ⟨?_, n, by omega, s⟩
  show ((L.length : Int) == (sl.len : Int)) = true
  rw [hls]
  simp
end
end Go.Proofs.YtfgcobigollfjaaDoor.Lx
