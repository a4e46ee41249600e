
import Derived.Test.YtfgcobigollfjaaDoorRouteRange
set_option linter.unusedVariables false
set_option linter.unusedSimpArgs false
namespace Go.Proofs.YtfgcobigollfjaaDoor.Lx
open Go Go.Proofs Go.RowKit
abbrev cAct := c_weirlaw14_Act
abbrev cPr := c_weirlaw14_Pair
def WiHs (p b : Nat) (sl : Sl) (L : List api_Route) (kp : Any) (b1 b2 b3 b9 b10 b12 : Nat) (sa : Sl) (stop : Int) (it : Any) : List HP :=
 Two p b sl L ++ [pts true (pt b9 0) (cPr.enc ⟨some (pt p 0), sl, kp⟩), pts true (pt b1 0) (cL.enc sa), pts true (pt b2 0) ((cI .i64).enc stop), pts true (pt b3 0) (cB.enc false), pts true (pt b10 0) (cB.enc true), pts true (pt b12 0) (cV.enc it)]
def WiX (b122 b123 b124 : Nat) (sw : Sl) (Wt wsp : List api_Route) (i : Int) (lf : Bool) : List HP := [pts true (pt b122 0) (cL.enc sw), vec cRt sw Wt wsp, pts true (pt b123 0) ((cI .i64).enc i), pts true (pt b124 0) (cB.enc lf)]
section
variable {W w : World} {Hs : List HP} {p b b1 b2 b3 b9 b10 b12 b122 b123 b124 : Nat} {L Wt wsp : List api_Route} {a : Addr} {it kp : Any} {sl sa sw : Sl} {stop : Int} {acts : List weirlaw14_Act} {A : HP}
theorem withinL2_wp (hit : IsAll it a) (ia : Nat) (ea : nth Hs ia = some A) (ra : Rdb A cAct sa acts) (hb : ∀ x ∈ acts, RByt x.R) (t : Nat) (et : nth Hs t = some TabC) (ic : Nat) (ec : nth Hs ic = some (Clo a p)) {i : Nat} (hi : i < 300)
  (hL : TOk L) (s : Ss W (WiHs p b sl L kp b1 b2 b3 b9 b10 b12 sa stop it ++ (WiX b122 b123 b124 sw Wt wsp i false ++ Hs)) w) :
  WP (loopM (fun s_ : Int => weirlaw14_RouteWithin.L2 b1 b2 b3 b9 b10 b12 b123 b124 s_) 0) w (fun j w' => ∃ sl' L', TOk L' ∧ ((j = none ∧ Ss W (WiHs p b sl' L' kp b1 b2 b3 b9 b10 b12 sa stop it ++ (WiX b122 b123 b124 sw Wt wsp ((i + 1 : Nat) : Int) false ++ Hs)) w') ∨
   (j = some (.exit 4) ∧ Ss W (WiHs p b sl' L' kp b1 b2 b3 b9 b10 b12 sa stop it ++ (WiX b122 b123 b124 sw Wt wsp ((i + 1 : Nat) : Int) true ++ Hs)) w'))) := by
 refine WP.loopG (γ := Nat × Sl × List api_Route) (fun g (x : Int) w => x = (g.1 : Int) ∧ g.1 ≤ 40 ∧ TOk g.2.2 ∧ Ss W (WiHs p b g.2.1 g.2.2 kp b1 b2 b3 b9 b10 b12 sa stop it ++ (WiX b122 b123 b124 sw Wt wsp i false ++ Hs)) w) (fun g _ => 40 - g.1) (0, sl, L) ⟨rfl, by simp, hL, s⟩ ?_
 clear s hL
 rintro ⟨k, sl, L⟩ _ w ⟨rfl, hk, hL, s⟩
 simp only at hk hL s
 show WP (weirlaw14_RouteWithin.L2 b1 b2 b3 b9 b10 b12 b123 b124 (k : Int)) w _
 unfold weirlaw14_RouteWithin.L2
 have eA : nth (WiHs p b sl L kp b1 b2 b3 b9 b10 b12 sa stop it ++ (WiX b122 b123 b124 sw Wt wsp i false ++ Hs)) (ia + 13) = some A := ea
 have hla := (s.rd_len eA ra).1
 refine WP.ld s 4 rfl (o := 0) (by simp [Addr.add]) (At.whole _) ?_
 refine WP.step (R := fun y w' => y = decide (k < acts.length ∧ k < 40) ∧ w = w') (WP.ite (fun h => WP.ret ⟨?_, rfl⟩) (fun h => WP.ret ⟨(decide_eq_false (by omega)).symm, rfl⟩)) ?_
 ·exact decide_eq_decide.2 ⟨fun h' => by omega, fun h' => by omega⟩
 rintro _ _ ⟨rfl, rfl⟩
 refine WP.ite (fun h => ?_) (fun h => ?_)
 rotate_left
 ·refine WP.step (R := fun j w' => ∃ sl' L', TOk L' ∧ ((j = none ∧ Ss W (WiHs p b sl' L' kp b1 b2 b3 b9 b10 b12 sa stop it ++ (WiX b122 b123 b124 sw Wt wsp ((i + 1 : Nat) : Int) false ++ Hs)) w') ∨
   (j = some (.exit 4) ∧ Ss W (WiHs p b sl' L' kp b1 b2 b3 b9 b10 b12 sa stop it ++ (WiX b122 b123 b124 sw Wt wsp ((i + 1 : Nat) : Int) true ++ Hs)) w'))) ?_ (fun j w h => WP.done h)
  unfold weirlaw14_RouteWithin.K2
  have hw : IntKind.wrap .i64 ((i : Int) + 1) = ((i + 1 : Nat) : Int) := by
   rw [wrap_i64 (by omega) (by omega)]
   omega
  refine WP.ld s 11 rfl (o := 0) (by simp [Addr.add]) (At.whole _) ?_
  rw [hw]
  refine WP.st s 11 rfl (o := 0) (by simp [Addr.add]) (Upd.whole rfl) (fun w s => ?_)
  refine WP.ld s 11 rfl (o := 0) (by simp [Addr.add]) (At.whole _) (WP.ld s 5 rfl (o := 0) (by simp [Addr.add]) (At.whole _) (WP.ite (fun h => ?_) (fun h => WP.ret ⟨sl, L, hL, .inl ⟨rfl, s⟩⟩)))
  exact WP.st s 12 rfl (o := 0) (by simp [Addr.add]) (Upd.whole rfl) (fun w s => WP.ret ⟨sl, L, hL, .inr ⟨rfl, s⟩⟩)
 obtain ⟨h1, h2⟩ := of_decide_eq_true h
 have hx : acts[(k : Int).toNat]? = some acts[k] := by rw [Int.toNat_natCast, List.getElem?_eq_getElem h1]
 have hw : IntKind.wrap .i64 ((k : Int) + 1) = ((k + 1 : Nat) : Int) := by
  rw [wrap_i64 (by omega) (by omega)]
  omega
 rw [hw]
 refine WP.draw' s (fun w s => WP.ld s 4 rfl (o := 0) (by simp [Addr.add]) (At.whole _) (WP.rdxp0 s (ia + 13) ea ra (by omega) hx rfl (At_weirlaw14_Act_At _) (WP.ld s 11 rfl (o := 0) (by simp [Addr.add]) (At.whole _) ?_)))
 refine WP.ite (fun h3 => ?_) (fun h3 => WP.next ⟨(k + 1, sl, L), ⟨rfl, h2, hL, s⟩, by simp only; omega⟩)
 refine WP.draw' s (fun w s => WP.ld s 3 rfl (o := 0) (by simp [Addr.add]) (At.whole _) (WP.ld s 8 rfl (o := 0) (by simp [Addr.add]) (At.whole _) (WP.ld s 4 rfl (o := 0) (by simp [Addr.add]) (At.whole _) (WP.rdx s (ia + 13) ea ra (by omega) hx rfl ?_))))
 refine WP.step (does_wp (p := p) (b := b) (sl := sl) (L := L) hit s hL (t + 10) et (ic + 10) ec acts[k] (hb _ (List.getElem_mem h1))) ?_
 rintro _ w ⟨sl', L', rfl, hL', s⟩
 refine WP.st s 3 rfl (o := 0) (by simp [Addr.add]) (Upd.whole rfl) (fun w s => WP.st s 7 rfl (o := 0) (by simp [Addr.add]) (Upd.whole rfl) (fun w s => WP.ld s 7 rfl (o := 0) (by simp [Addr.add]) (At.whole _) ?_))
 exact WP.ite (fun h => absurd rfl h) (fun _ => WP.next ⟨(k + 1, sl', L'), ⟨rfl, h2, hL', s⟩, by simp only; omega⟩)
theorem withinK1_wp {s31 : Int} {n : Int} {lf : Bool} (hnl : lf = true ∨ n = Wt.length) (hL : TOk L) (s : Ss W (WiHs p b sl L kp b1 b2 b3 b9 b10 b12 sa stop it ++ (WiX b122 b123 b124 sw Wt wsp n lf ++ Hs)) w) :
  WP (weirlaw14_RouteWithin.K1 b3 (some (pt p 0)) b9 s31 b122 b123 b124) w (fun r w' => r = LS.next (IntKind.wrap .i64 (s31 + 1)) ∧ Ss W (WiHs p b sl L kp b1 b2 b3 b9 b10 b12 sa stop it ++ (WiX b122 b123 b124 sw Wt wsp n lf ++ Hs)) w') := by
 unfold weirlaw14_RouteWithin.K1
 have hlw := (s.vec_len (i := 10) rfl).1
 have hls := (s.rd_cap (i := 2) rfl).1
 rw [(sortR_perm L).length_eq] at hls
 refine WP.draw' s (fun w s => WP.ld s 12 rfl (o := 0) (by simp [Addr.add]) (At.whole _) ?_)
 refine WP.step (R := fun y w' => y = false ∧ w = w') (WP.ite (fun h => WP.ld s 11 rfl (o := 0) (by simp [Addr.add]) (At.whole _) (WP.ld s 9 rfl (o := 0) (by simp [Addr.add]) (At.whole _) (WP.ret ⟨?_, rfl⟩))) (fun h => WP.ret ⟨rfl, rfl⟩)) ?_
 ·rcases hnl with h' | h'
  ·exact absurd h' h
  ·rw [hlw, h']
   simp
 rintro _ _ ⟨rfl, rfl⟩
 refine WP.step (R := fun y w' => y = false ∧ Ss W (WiHs p b sl L kp b1 b2 b3 b9 b10 b12 sa stop it ++ (WiX b122 b123 b124 sw Wt wsp n lf ++ Hs)) w') (WP.ite (fun h => by cases h) (fun _ => WP.ld s 3 rfl (o := 1) rfl (At_weirlaw14_Pair_L _) (WP.step (Len_wp (p := p) (b := b) s) ?_))) ?_
 ·rintro _ w ⟨rfl, s⟩
  refine WP.same s 3 rfl (o := 1) rfl (At_weirlaw14_Pair_L _) (WP.ret ⟨?_, s⟩)
  rw [hls]
  simp
 rintro _ w ⟨rfl, s⟩
 refine WP.step (R := fun y w' => y = false ∧ Ss W (WiHs p b sl L kp b1 b2 b3 b9 b10 b12 sa stop it ++ (WiX b122 b123 b124 sw Wt wsp n lf ++ Hs)) w') (WP.ite (fun h => by cases h) (fun _ => WP.ld s 3 rfl (o := 1) rfl (At_weirlaw14_Pair_L _) (WP.step (AllF_wp s p) ?_))) ?_
 ·rintro it2 w ⟨a2, hit2, s⟩
  refine WP.same s 4 rfl (o := 1) rfl (At_weirlaw14_Pair_L _) ?_
  have s : Ss W (TblHs p b L ++ (Clo a2 p :: rdS cRt false sl (sortR L) :: ([pts true (pt b9 0) (cPr.enc ⟨some (pt p 0), sl, kp⟩), pts true (pt b1 0) (cL.enc sa), pts true (pt b2 0) ((cI .i64).enc stop), pts true (pt b3 0) (cB.enc false), pts true (pt b10 0) (cB.enc true), pts true (pt b12 0) (cV.enc it)] ++ (WiX b122 b123 b124 sw Wt wsp n lf ++ Hs)))) w := s.use [1, 1] rfl
  refine WP.step (ranged_wp hit2 s hL.len 0 rfl 1 rfl 0) ?_
  rintro _ w ⟨rfl, s⟩
  exact WP.ret ⟨rfl, (s.use [2] rfl).drop⟩
 rintro _ w ⟨rfl, s⟩
 exact WP.ite (fun h => by cases h) (fun _ => WP.ret ⟨rfl, s⟩)
theorem withinL1_wp (hit : IsAll it a) (ia : Nat) (ea : nth Hs ia = some A) (ra : Rdb A cAct sa acts) (hb : ∀ x ∈ acts, RByt x.R) (t : Nat) (et : nth Hs t = some TabC) (ic : Nat) (ec : nth Hs ic = some (Clo a p))
  (hL : TOk L) (s : Ss W (WiHs p b sl L kp b1 b2 b3 b9 b10 b12 sa stop it ++ Hs) w) :
  WP (loopM (fun s_ : Int => weirlaw14_RouteWithin.L1 b1 b2 b3 (some (pt p 0)) b9 b10 b12 s_) 0) w (fun r w' => r = true ∧ ∃ Hs', Ss W Hs' w') := by
 refine WP.loopG (γ := Nat × Sl × List api_Route) (fun g (x : Int) w => x = (g.1 : Int) ∧ g.1 ≤ 3 ∧ TOk g.2.2 ∧ Ss W (WiHs p b g.2.1 g.2.2 kp b1 b2 b3 b9 b10 b12 sa stop it ++ Hs) w) (fun g _ => 3 - g.1) (0, sl, L) ⟨rfl, by simp, hL, s⟩ ?_
 clear s hL
 rintro ⟨k, sl, L⟩ _ w ⟨rfl, hk, hL, s⟩
 simp only at hk hL s
 show WP (weirlaw14_RouteWithin.L1 b1 b2 b3 (some (pt p 0)) b9 b10 b12 (k : Int)) w _
 unfold weirlaw14_RouteWithin.L1
 have h256 := hL.len
 have hsl : (sortR L).length ≤ 256 := by rw [(sortR_perm L).length_eq]; exact h256
 refine WP.ite (fun h => ?_) (fun h => ?_)
 rotate_left
 ·exact WP.st s 6 rfl (o := 0) (by simp [Addr.add]) (Upd.whole rfl) (fun w s => WP.ld s 6 rfl (o := 0) (by simp [Addr.add]) (At.whole _) (WP.done ⟨rfl, _, s⟩))
 refine WP.ld s 3 rfl (o := 1) rfl (At_weirlaw14_Pair_L _) (WP.appS s 2 rfl rdS_rdb (by decide) (WP.appl0 s (by omega) (by decide) (fun sw w wsp s => ?_)))
 refine WP.newv s (fun b122 w s => WP.st s 0 rfl (o := 0) (by simp [Addr.add]) (Upd.whole rfl) (fun w s => ?_))
 refine WP.newv s (fun b123 w s => WP.st s 0 rfl (o := 0) (by simp [Addr.add]) (Upd.whole rfl) (fun w s => ?_))
 refine WP.newv s (fun b124 w s => WP.st s 0 rfl (o := 0) (by simp [Addr.add]) (Upd.whole rfl) (fun w s => ?_))
 have s : Ss W ((TblHs p b L ++ (rdS cRt false sl (sortR L) :: ([pts true (pt b9 0) (cPr.enc ⟨some (pt p 0), sl, kp⟩), pts true (pt b1 0) (cL.enc sa), pts true (pt b2 0) ((cI .i64).enc stop), pts true (pt b3 0) (cB.enc false), pts true (pt b10 0) (cB.enc true), pts true (pt b12 0) (cV.enc it)] ++ (WiX b122 b123 b124 sw (sortR L) wsp 0 false ++ Hs))))) w :=
  Ss.use (s := WiHs p b sl L kp b1 b2 b3 b9 b10 b12 sa stop it ++ WiX b122 b123 b124 sw (sortR L) wsp 0 false) (r := Hs) s [4, 4, 4, 4, 4, 4, 4, 4, 4, 2, 2, 1, 0] rfl
 refine WP.ld s 8 rfl (o := 0) (by simp [Addr.add]) (At.whole _) ?_
 have s0 : Ss W (([] ++ (TblHs p b L ++ (rdS cRt false sl (sortR L) :: ([pts true (pt b9 0) (cPr.enc ⟨some (pt p 0), sl, kp⟩), pts true (pt b1 0) (cL.enc sa), pts true (pt b2 0) ((cI .i64).enc stop), pts true (pt b3 0) (cB.enc false), pts true (pt b10 0) (cB.enc true), pts true (pt b12 0) (cV.enc it)] ++ (WiX b122 b123 b124 sw (sortR L) wsp 0 false ++ Hs))))) ++ [Clo a p]) w := (s.dup (i := ic + 13) ec Ro.clo).toEnd
 have fin : ∀ {w : World} {sl' : Sl} {L' : List api_Route} {n : Int} {lf : Bool}, lf = true ∨ n = ((sortR L).length : Nat) → TOk L' → Ss W (WiHs p b sl' L' kp b1 b2 b3 b9 b10 b12 sa stop it ++ (WiX b122 b123 b124 sw (sortR L) wsp n lf ++ Hs)) w →
   WP (weirlaw14_RouteWithin.K1 b3 (some (pt p 0)) b9 (k : Int) b122 b123 b124) w (WP.Rd (fun (x : Int) w => ∃ g : Nat × Sl × List api_Route, (x = (g.1 : Int) ∧ g.1 ≤ 3 ∧ TOk g.2.2 ∧ Ss W (WiHs p b g.2.1 g.2.2 kp b1 b2 b3 b9 b10 b12 sa stop it ++ Hs) w) ∧ 3 - g.1 < 3 - k) (fun r w' => r = true ∧ ∃ Hs', Ss W Hs' w')) := by
  intro w sl' L' n lf hnl hL' s
  refine (withinK1_wp hnl hL' s).mono ?_
  rintro _ w ⟨rfl, s⟩
  exact ⟨(k + 1, sl', L'), ⟨by simp only; rw [wrap_i64 (by omega) (by omega)]; omega, by simp only; omega, hL', (s.use [9, 9, 9, 9] rfl).drop.drop.drop.drop⟩, by simp only; omega⟩
 refine WP.rangeAll (p := p) (b := b) (L := L) (Hs := rdS cRt false sl (sortR L) :: ([pts true (pt b9 0) (cPr.enc ⟨some (pt p 0), sl, kp⟩), pts true (pt b1 0) (cL.enc sa), pts true (pt b2 0) ((cI .i64).enc stop), pts true (pt b3 0) (cB.enc false), pts true (pt b10 0) (cB.enc true), pts true (pt b12 0) (cV.enc it)] ++ (WiX b122 b123 b124 sw (sortR L) wsp 0 false ++ Hs))) hit.1 h256 []
  (fun i => some' (fun q : Sl × List api_Route => seps (fact (TOk q.2) :: (WiHs p b q.1 q.2 kp b1 b2 b3 b9 b10 b12 sa stop it ++ WiX b122 b123 b124 sw (sortR L) wsp (i : Int) false))) :: Hs)
  (fun i c => some' (fun q : Sl × List api_Route => seps (fact (c = .exit 4 ∧ TOk q.2) :: (WiHs p b q.1 q.2 kp b1 b2 b3 b9 b10 b12 sa stop it ++ WiX b122 b123 b124 sw (sortR L) wsp ((i + 1 : Nat) : Int) true))) :: Hs)
  (fun w Z s => ?_) s0 ?_ ?_ ?_
 ·have s := Ss.mkfact hL s
  exact (Ss.group (l := fact (TOk L) :: (WiHs p b sl L kp b1 b2 b3 b9 b10 b12 sa stop it ++ WiX b122 b123 b124 sw (sortR L) wsp 0 false)) s).first (fun h hh => ⟨(sl, L), hh⟩)
 ·clear s s0 fin
  intro ll i x w Z hx s
  have hlt := (List.getElem?_eq_some_iff.1 hx).1
  obtain ⟨⟨sl', L'⟩, s⟩ := Ss.ex (s.use [1] (s := [_]) (r := lpH ll .ready none :: (Hs ++ Z)) rfl)
  obtain ⟨hL', s⟩ := Ss.fact (Ss.split s)
  simp only at hL' s
  have s : Ss W (lpH ll .ready none :: (WiHs p b sl' L' kp b1 b2 b3 b9 b10 b12 sa stop it ++ (WiX b122 b123 b124 sw (sortR L) wsp (i : Int) false ++ (Hs ++ Z)))) w := s.use [13] rfl
  unfold weirlaw14_RouteWithin.R1
  refine WP.slot' s (fun _ w s => WP.begM s (fun w s => WP.draw' s (fun w s => ?_)))
  have s : Ss W (WiHs p b sl' L' kp b1 b2 b3 b9 b10 b12 sa stop it ++ (WiX b122 b123 b124 sw (sortR L) wsp (i : Int) false ++ (lpH ll .busy none :: (Hs ++ Z)))) w :=
   s.perm ((List.perm_middle.symm).trans (List.Perm.append_left _ List.perm_middle.symm))
  have hlw := (s.vec_len (i := 10) rfl).1
  refine WP.ld s 11 rfl (o := 0) (by simp [Addr.add]) (At.whole _) (WP.ld s 9 rfl (o := 0) (by simp [Addr.add]) (At.whole _) ?_)
  refine WP.step (R := fun y w' => y = false ∧ w = w') (WP.ite (fun h => absurd h (by omega)) (fun _ => WP.ld s 9 rfl (o := 0) (by simp [Addr.add]) (At.whole _) (WP.ld s 11 rfl (o := 0) (by simp [Addr.add]) (At.whole _) (WP.rdx s 10 rfl vec_rdb (by omega) (x := x) (by rw [Int.toNat_natCast]; exact hx) rfl (WP.ret ⟨?_, rfl⟩))))) ?_
  ·rw [eqv_refl]
   rfl
  rintro _ _ ⟨rfl, rfl⟩
  refine WP.ite (fun h => by cases h) (fun _ => ?_)
  have app : ∀ {H : List HP} {j : Nat} {B : HP}, nth H j = some B → nth (H ++ Z) j = some B := by
   intro H
   induction H with
   | nil => intro j B h; cases h
   | cons C H ih =>
    intro j B h
    cases j with
    | zero => exact h
    | succ j => exact ih (j := j) h
  refine (withinL2_wp (Hs := lpH ll .busy none :: (Hs ++ Z)) hit (ia + 1) (app ea) ra hb (t + 1) (app et) (ic + 1) (app ec) (show i < 300 by omega) hL' s).mono ?_
  rintro j w ⟨sl2, L2, hL2, ⟨rfl, s⟩ | ⟨rfl, s⟩⟩
  ·refine .inl ⟨rfl, ?_⟩
   have s := Ss.mkfact hL2 s
   have s := (Ss.group (l := fact (TOk L2) :: (WiHs p b sl2 L2 kp b1 b2 b3 b9 b10 b12 sa stop it ++ WiX b122 b123 b124 sw (sortR L) wsp ((i + 1 : Nat) : Int) false)) s).first (B := some' (fun q : Sl × List api_Route => seps (fact (TOk q.2) :: (WiHs p b q.1 q.2 kp b1 b2 b3 b9 b10 b12 sa stop it ++ WiX b122 b123 b124 sw (sortR L) wsp ((i + 1 : Nat) : Int) false)))) (fun h hh => ⟨(sl2, L2), hh⟩)
   exact s.use [1] rfl
  ·refine .inr ⟨_, rfl, ?_⟩
   have s := Ss.mkfact (p := Code.exit 4 = Code.exit 4 ∧ TOk L2) ⟨rfl, hL2⟩ s
   have s := (Ss.group (l := fact (Code.exit 4 = Code.exit 4 ∧ TOk L2) :: (WiHs p b sl2 L2 kp b1 b2 b3 b9 b10 b12 sa stop it ++ WiX b122 b123 b124 sw (sortR L) wsp ((i + 1 : Nat) : Int) true)) s).first (B := some' (fun q : Sl × List api_Route => seps (fact (Code.exit 4 = Code.exit 4 ∧ TOk q.2) :: (WiHs p b q.1 q.2 kp b1 b2 b3 b9 b10 b12 sa stop it ++ WiX b122 b123 b124 sw (sortR L) wsp ((i + 1 : Nat) : Int) true)))) (fun h hh => ⟨(sl2, L2), hh⟩)
   exact s.use [1] rfl
 ·clear s s0
  intro w Z s
  obtain ⟨⟨sl', L'⟩, s⟩ := Ss.ex s.cutZ
  obtain ⟨hL', s⟩ := Ss.fact (Ss.split s)
  exact fin (.inr rfl) hL' s
 ·clear s s0
  intro i x c w Z hx s
  obtain ⟨⟨sl', L'⟩, s1⟩ := Ss.ex s.cutZ
  obtain ⟨hh, s2⟩ := Ss.fact (Ss.split s1)
  clear s s1
  obtain ⟨rfl, hL'⟩ := hh
  exact fin (.inl rfl) hL' s2
theorem RouteWithin_wp {R : List HP} {sx : Sl} {B : HP} {xs : List api_Route} (s : Ss W R w) (ix : Nat) (ex : nth R ix = some B) (rx : Rdb B cRt sx xs) (hx : ∀ x ∈ xs, RByt x) (ia : Nat) (ea : nth R ia = some A) (ra : Rdb A cAct sa acts) (hb : ∀ x ∈ acts, RByt x.R) (t : Nat) (et : nth R t = some TabC) :
  WP (weirlaw14_RouteWithin sx sa stop) w (fun r w' => r = true ∧ ∃ Hs', Ss W Hs' w') := by
 unfold weirlaw14_RouteWithin
 refine WP.newv s (fun b1 w s => WP.newv s (fun b2 w s => WP.newv s (fun b3 w s => WP.step (New_wp s) ?_)))
 rintro _ w ⟨p, b, rfl, s⟩
 refine WP.ite (fun h => by cases h) (fun _ => WP.step (route0_wp s) ?_)
 rintro _ w ⟨rfl, s⟩
 have s := (s.mk0 (A := rdS cRt false Sl.nil (sortR [])) rdS_nil).use [1, 1, 0] rfl
 have byt0 : RByt route0M := ⟨show ∀ x ∈ route0M.Prefix.IP.A.l, 0 ≤ x ∧ x ≤ 255 by decide +kernel, show ∀ x ∈ route0M.Via.A.l, 0 ≤ x ∧ x ≤ 255 by decide +kernel⟩
 have s : Ss W (Two p b Sl.nil [] ++ (pts true (pt b3 0) (cB.enc false) :: pts true (pt b2 0) ((cI .i64).enc stop) :: pts true (pt b1 0) (cL.enc sa) :: R)) w := s
 refine WP.step (turned_wp s (t + 3) et TOk.nil z_weirlaw14_Pair.Kept (⟨1, z_weirlaw14_Step.Obj, route0M, z_weirlaw14_Step.IP, z_weirlaw14_Step.N⟩ : weirlaw14_Step) byt0) ?_
 rintro _ w ⟨sl, L, rfl, hL, -, s⟩
 refine WP.newv s (fun b9 w s => WP.newv s (fun b10 w s => WP.st s 1 rfl (o := 0) (by simp [Addr.add]) (Upd.whole rfl) (fun w s => WP.st s 0 rfl (o := 0) (by simp [Addr.add]) (Upd.whole rfl) (fun w s => WP.step (AllF_wp s p) ?_))))
 rintro it w ⟨a, hit, s⟩
 refine WP.newv s (fun b12 w s => WP.st s 0 rfl (o := 0) (by simp [Addr.add]) (Upd.whole rfl) (fun w s => ?_))
 have s : Ss W (WiHs p b sl L z_weirlaw14_Pair.Kept b1 b2 b3 b9 b10 b12 sa stop it ++ (Clo a p :: R)) w :=
  Ss.use (s := WiHs p b sl L z_weirlaw14_Pair.Kept b1 b2 b3 b9 b10 b12 sa stop it ++ [Clo a p]) (r := R) s [4, 4, 4, 3, 5, 4, 3, 2, 0, 0] rfl
 refine WP.loopG (γ := Nat × Sl × List api_Route) (fun g (x : Int) w => x = (g.1 : Int) ∧ g.1 ≤ 300 ∧ TOk g.2.2 ∧ Ss W (WiHs p b g.2.1 g.2.2 z_weirlaw14_Pair.Kept b1 b2 b3 b9 b10 b12 sa stop it ++ (Clo a p :: R)) w) (fun g _ => 300 - g.1) (0, sl, L) ⟨rfl, by simp, hL, s⟩ ?_
 clear s hL
 rintro ⟨k, sl, L⟩ _ w ⟨rfl, hk, hL, s⟩
 simp only at hk hL s
 show WP (weirlaw14_RouteWithin.L3 sx b1 b2 b3 (some (pt p 0)) b9 b10 b12 (k : Int)) w _
 unfold weirlaw14_RouteWithin.L3
 have eX : nth (WiHs p b sl L z_weirlaw14_Pair.Kept b1 b2 b3 b9 b10 b12 sa stop it ++ (Clo a p :: R)) (ix + 10) = some B := ex
 have hlx := (s.rd_len eX rx).1
 refine WP.step (R := fun y w' => y = decide (k < xs.length ∧ k < 300) ∧ w = w') (WP.ite (fun h => WP.ret ⟨?_, rfl⟩) (fun h => WP.ret ⟨(decide_eq_false (by omega)).symm, rfl⟩)) ?_
 ·exact decide_eq_decide.2 ⟨fun h' => by omega, fun h' => by omega⟩
 rintro _ _ ⟨rfl, rfl⟩
 refine WP.step (R := fun y w' => y = decide (k < xs.length ∧ k < 300) ∧ w = w') (WP.ite (fun h => WP.ld s 7 rfl (o := 0) (by simp [Addr.add]) (At.whole _) (WP.ret ⟨h.symm, rfl⟩)) (fun h => WP.ret ⟨by simpa using h, rfl⟩)) ?_
 rintro _ _ ⟨rfl, rfl⟩
 refine WP.ite (fun h => ?_) (fun h => ?_)
 ·obtain ⟨h1, h2⟩ := of_decide_eq_true h
  have hxk : xs[(k : Int).toNat]? = some xs[k] := by rw [Int.toNat_natCast, List.getElem?_eq_getElem h1]
  refine WP.draw' s (fun w s => WP.ld s 3 rfl (o := 0) (by simp [Addr.add]) (At.whole _) (WP.rdx s (ix + 10) ex rx (by omega) hxk rfl ?_))
  refine WP.step (turned_wp (p := p) (b := b) (sl := sl) (L := L) s (t + 7) et hL z_weirlaw14_Pair.Kept (⟨1, z_weirlaw14_Step.Obj, xs[k], z_weirlaw14_Step.IP, z_weirlaw14_Step.N⟩ : weirlaw14_Step) (hx _ (List.getElem_mem h1))) ?_
  rintro _ w ⟨sl', L', rfl, hL', -, s⟩
  refine WP.st s 3 rfl (o := 0) (by simp [Addr.add]) (Upd.whole rfl) (fun w s => WP.st s 7 rfl (o := 0) (by simp [Addr.add]) (Upd.whole rfl) (fun w s => WP.next ⟨(k + 1, sl', L'), ⟨?_, h2, hL', s⟩, by simp only; omega⟩))
  rw [wrap_i64 (by omega) (by omega)]
  simp
 ·refine WP.step (R := fun r w' => r = true ∧ ∃ Hs', Ss W Hs' w') ?_ (fun r w h => WP.done h)
  unfold weirlaw14_RouteWithin.K3
  have hls := (s.rd_cap (i := 2) rfl).1
  rw [(sortR_perm L).length_eq] at hls
  refine WP.draw' s (fun w s => WP.ld s 7 rfl (o := 0) (by simp [Addr.add]) (At.whole _) ?_)
  refine WP.step (R := fun y w' => y = false ∧ w = w') (WP.ite (fun h => absurd rfl h) (fun _ => WP.ld s 8 rfl (o := 0) (by simp [Addr.add]) (At.whole _) (by rw [hit.2]; exact WP.step (R := fun y w' => y = false ∧ w = w') (WP.ret ⟨rfl, rfl⟩) (by rintro _ _ ⟨rfl, rfl⟩; exact WP.ret ⟨rfl, rfl⟩)))) ?_
  rintro _ _ ⟨rfl, rfl⟩
  refine WP.step (R := fun y w' => y = false ∧ Ss W (WiHs p b sl L z_weirlaw14_Pair.Kept b1 b2 b3 b9 b10 b12 sa stop it ++ (Clo a p :: R)) w') (WP.ite (fun h => by cases h) (fun _ => WP.ld s 3 rfl (o := 1) rfl (At_weirlaw14_Pair_L _) (WP.step (Len_wp (p := p) (b := b) s) ?_))) ?_
  ·rintro _ w ⟨rfl, s⟩
   refine WP.same s 3 rfl (o := 1) rfl (At_weirlaw14_Pair_L _) (WP.ret ⟨?_, s⟩)
   rw [hls]
   simp
  rintro _ w ⟨rfl, s⟩
  exact WP.ite (fun h => by cases h) (fun _ => withinL1_wp hit (ia + 1) ea ra hb (t + 1) et 0 rfl hL s)
end
end Go.Proofs.YtfgcobigollfjaaDoor.Lx
