
import Derived.Test.YtfgcobigollfjaaDoorRouteAll
import Derived.Test.YtfgcobigollfjaaDoorRouteSame
import Derived.Test.YtfgcobigollfjaaDoorRouteRef2
set_option linter.unusedVariables false
set_option linter.unusedSimpArgs false
namespace Go.Proofs.YtfgcobigollfjaaDoor.Lx
open Go Go.Proofs Go.RowKit
theorem Ss.cutZ {W w : World} {A Z : List HP} (s : Ss W (A ++ Z) w) : Ss W A w := (s.perm List.perm_append_comm).weak
theorem Ss.toEnd {W w : World} {A : HP} {Z : List HP} (s : Ss W (A :: Z) w) : Ss W (Z ++ [A]) w := s.perm (List.perm_append_comm (l₁ := [A]))
theorem pts_frz {W w : World} {Hs : List HP} {a : Addr} {l : List Value} (s : Ss W (pts true a l :: Hs) w) : Ss W (pts false a l :: Hs) w :=
 s.freeze (fun h hh => ⟨hh.1, fun i x hx => by
  show (h a.block (a.off + i)).map _ = _
  rw [hh.2 i x hx]
  rfl⟩)
def IsAll (r : Any) (a : Addr) : Prop := (∀ y, weirlaw14_ranged.it r y = route_Table_All_1 y a) ∧ fnil r.v = pure false
def Clo (a : Addr) (p : Nat) : HP := pts false a (cP.enc (some (pt p 0)))
theorem Ro.clo {a : Addr} {p : Nat} : Ro (Clo a p) := Ro.pts
section
variable {W w : World} {Hs : List HP} {p b : Nat} {L : List api_Route} {a : Addr} {it : Any}
theorem AllF_wp (s : Ss W Hs w) (p : Nat) : WP (route_Table_All (some (pt p 0))) w (fun r w' => ∃ a, IsAll r a ∧ Ss W (Clo a p :: Hs) w') := by
 unfold route_Table_All
 exact WP.newv s (fun b w s => WP.ret ⟨_, ⟨fun y => rfl, rfl⟩, pts_frz s⟩)
theorem MHs_new {b1 : Nat} (s : Ss W (pts true (pt b1 0) (cL.enc Sl.nil) :: Hs) w) : Ss W (MHs b1 [] :: Hs) w := by
 have s1 := (s.mk0 (A := vec cRt Sl.nil [] []) vec_nil).use [1, 0] rfl
 exact (Ss.group (l := [pts true (pt b1 0) (cL.enc Sl.nil), vec cRt Sl.nil [] []]) s1).first (fun h hh => ⟨(Sl.nil, []), trivial, hh⟩)
theorem got_wp {b1 : Nat} {l : List api_Route} {x : api_Route} {T T' : TypeId} {β : Type} {f : M β} {Q : β → World → Prop} (hl : l.length < 300) (s : Ss W (MHs b1 l :: Hs) w) (k : ∀ w, Ss W (MHs b1 (l ++ [x]) :: Hs) w → WP f w Q) :
  WP (ld cL (pt b1 0) >>= fun y => slot T >>= fun _ => appl cRt T' 64 z_api_Route y [x] >>= fun r => st cL (pt b1 0) r >>= fun _ => f) w Q := by
 obtain ⟨⟨sl, sp⟩, -, s1⟩ := s.openx 0 rfl
 have s2 : Ss W (pts true (pt b1 0) (cL.enc sl) :: vec cRt sl l sp :: Hs) w := Ss.split (l := [pts true (pt b1 0) (cL.enc sl), vec cRt sl l sp]) s1
 refine WP.ld s2 0 rfl (o := 0) (by simp [Addr.add]) (At.whole _) (WP.slot' s2 (fun _ w s => WP.appl s 1 rfl (by simp only [List.length_singleton]; omega) (by decide) (fun r w sp' s => WP.st s 0 rfl (o := 0) (by simp [Addr.add]) (Upd.whole rfl) (fun w s => k w ?_))))
 exact (Ss.group (l := [pts true (pt b1 0) (cL.enc r), vec cRt r (l ++ [x]) sp']) s).first (fun h hh => ⟨(r, sp'), trivial, hh⟩)
theorem ranged_wp (hit : IsAll it a) (s : Ss W (TblHs p b L ++ Hs) w) (hL : L.length ≤ 256) (ic : Nat) (ec : nth Hs ic = some (Clo a p)) {sw : Sl} (iw : Nat) (ew : nth Hs iw = some (rdS cRt false sw (sortR L))) (n : Int) :
  WP (weirlaw14_ranged it n sw) w (fun r w' => r = true ∧ Ss W (TblHs p b L ++ Hs) w') := by
 unfold weirlaw14_ranged
 refine WP.newv s (fun b1 w s => ?_)
 rw [hit.2]
 refine WP.step (R := fun y w' => y = false ∧ w = w') (WP.ret ⟨rfl, rfl⟩) ?_
 rintro _ _ ⟨rfl, rfl⟩
 refine WP.ite (fun h => by cases h) (fun _ => WP.newv s (fun b3 w s => ?_))
 have s := MHs_new s
 have hsl : (sortR L).length ≤ 256 := by rw [(sortR_perm L).length_eq]; exact hL
 have fin : ∀ {w : World} {l : List api_Route}, (l = sortR L ∧ ¬ (n > 0 ∧ n < (sortR L).length)) ∨ (l = (sortR L).take n.toNat ∧ n > 0) → Ss W ([MHs b3 l, pts true (pt b1 0) ((cI .i64).enc n)] ++ (TblHs p b L ++ Hs)) w → WP (weirlaw14_ranged.K1 sw b1 b3) w (fun r w' => r = true ∧ Ss W (TblHs p b L ++ Hs) w') := by
  intro w l hl s
  unfold weirlaw14_ranged.K1
  have hc := s.rd_cap (i := 4 + iw) (by rw [Nat.add_comm]; exact ew)
  refine WP.ld s 1 rfl (o := 0) (by simp [Addr.add]) (At.whole _) ?_
  refine WP.step (R := fun y w' => y = decide (n > 0 ∧ n < (sortR L).length) ∧ w = w') (WP.ite (fun h => WP.ld s 1 rfl (o := 0) (by simp [Addr.add]) (At.whole _) (WP.ret ⟨?_, rfl⟩)) (fun h => WP.ret ⟨(decide_eq_false (fun h' => h h'.1)).symm, rfl⟩)) ?_
  ·rw [hc.1]
   exact decide_eq_decide.2 ⟨fun h' => ⟨h, h'⟩, fun h' => h'.2⟩
  rintro _ _ ⟨rfl, rfl⟩
  have same : ∀ {w : World} {sw' : Sl} {k : Nat}, l = (sortR L).take k → Rdb (rdS cRt false sw (sortR L)) cRt sw' ((sortR L).take k) → Ss W ([MHs b3 l, pts true (pt b1 0) ((cI .i64).enc n)] ++ (TblHs p b L ++ Hs)) w → WP (ld cL (pt b3 0) >>= fun x => weirlaw14_same x sw' >>= fun r => pure r) w (fun r w' => r = true ∧ Ss W (TblHs p b L ++ Hs) w') := by
   intro w sw' k e rd s
   obtain ⟨⟨sl, sp⟩, -, s1⟩ := s.openx 0 rfl
   have s2 : Ss W (pts true (pt b3 0) (cL.enc sl) :: vec cRt sl l sp :: ([pts true (pt b1 0) ((cI .i64).enc n)] ++ (TblHs p b L ++ Hs))) w := Ss.split (l := [pts true (pt b3 0) (cL.enc sl), vec cRt sl l sp]) s1
   refine WP.ld s2 0 rfl (o := 0) (by simp [Addr.add]) (At.whole _) (WP.step (same_wp s2 1 rfl vec_rdb (5 + iw) (by rw [Nat.add_comm]; exact ew) rd (by rw [e, List.length_take]; omega)) ?_)
   rintro _ w ⟨rfl, s⟩
   exact WP.ret ⟨decide_eq_true e, s.weak (l := [_, _, _])⟩
  refine WP.ite (fun h => ?_) (fun h => ?_)
  ·obtain ⟨h1, h2⟩ := of_decide_eq_true h
   refine WP.ld s 1 rfl (o := 0) (by simp [Addr.add]) (At.whole _) (WP.cutpre (by omega) (by omega) ?_)
   refine same (k := n.toNat) ?_ (rdS_rdb.take (by omega)) s
   rcases hl with ⟨rfl, h3⟩ | ⟨rfl, -⟩
   ·exact absurd ⟨h1, h2⟩ h3
   ·rfl
  ·have h' : ¬ (n > 0 ∧ n < (sortR L).length) := fun h' => h (decide_eq_true h')
   have e : l = (sortR L).take (sortR L).length := by
    rw [List.take_length]
    rcases hl with ⟨rfl, -⟩ | ⟨rfl, h3⟩
    ·rfl
    ·exact List.take_of_length_le (by omega)
   refine same e ?_ s
   rw [List.take_length]
   exact rdS_rdb
 have s0 : Ss W (([MHs b3 [], pts true (pt b1 0) ((cI .i64).enc n)] ++ (TblHs p b L ++ Hs)) ++ [Clo a p]) w := (s.dup (i := 4 + ic) (by rw [Nat.add_comm]; exact ec) Ro.clo).toEnd
 refine WP.rangeAll (p := p) (b := b) (L := L) (Hs := Hs) hit.1 hL [MHs b3 [], pts true (pt b1 0) ((cI .i64).enc n)] (fun i => fact (¬ (n > 0 ∧ n ≤ i)) :: ([MHs b3 ((sortR L).take i), pts true (pt b1 0) ((cI .i64).enc n)] ++ (TblHs p b L ++ Hs))) (fun i c => fact (c = .exit 0 ∧ n = ((i + 1 : Nat) : Int)) :: ([MHs b3 ((sortR L).take (i + 1)), pts true (pt b1 0) ((cI .i64).enc n)] ++ (TblHs p b L ++ Hs))) (fun w Z s => Ss.mkfact (by omega) s) s0 ?_ ?_ ?_
 ·clear s s0
  intro ll i x w Z hx s
  have hlt := (List.getElem?_eq_some_iff.1 hx).1
  obtain ⟨hn, s⟩ := Ss.fact (s.use [1] rfl)
  have s : Ss W (lpH ll .ready none :: MHs b3 ((sortR L).take i) :: (pts true (pt b1 0) ((cI .i64).enc n) :: ((TblHs p b L ++ Hs) ++ Z))) w := s
  unfold weirlaw14_ranged.R1
  refine WP.slot' s (fun _ w s => WP.begM s (fun w s => got_wp (x := x) (by rw [List.length_take]; omega) (s.use [1] rfl) (fun w s => ?_)))
  have et : (sortR L).take i ++ [x] = (sortR L).take (i + 1) := by rw [List.take_add_one, hx]; rfl
  rw [et] at s
  have hlen : ((sortR L).take (i + 1)).length = i + 1 := by rw [List.length_take]; omega
  obtain ⟨⟨sl, sp⟩, -, s1⟩ := s.openx 0 rfl
  have s2 : Ss W (pts true (pt b3 0) (cL.enc sl) :: vec cRt sl ((sortR L).take (i + 1)) sp :: (lpH ll .busy none :: (pts true (pt b1 0) ((cI .i64).enc n) :: ((TblHs p b L ++ Hs) ++ Z)))) w := Ss.split (l := [pts true (pt b3 0) (cL.enc sl), vec cRt sl ((sortR L).take (i + 1)) sp]) s1
  have hl2 := (s2.vec_len (i := 1) rfl).1
  rw [hlen] at hl2
  refine WP.ld s2 0 rfl (o := 0) (by simp [Addr.add]) (At.whole _) (WP.ld s2 3 rfl (o := 0) (by simp [Addr.add]) (At.whole _) ?_)
  have s3 : Ss W (MHs b3 ((sortR L).take (i + 1)) :: (lpH ll .busy none :: (pts true (pt b1 0) ((cI .i64).enc n) :: ((TblHs p b L ++ Hs) ++ Z)))) w := s
  refine WP.ite (fun h => WP.ret (.inr ⟨.exit 0, rfl, ?_⟩)) (fun h => WP.ret (.inl ⟨rfl, ?_⟩))
  ·exact (Ss.mkfact (p := (Code.exit 0 = Code.exit 0 ∧ n = ((i + 1 : Nat) : Int))) ⟨rfl, by omega⟩ s3).use [2] rfl
  ·exact (Ss.mkfact (p := ¬ (n > 0 ∧ n ≤ ((i + 1 : Nat) : Int))) (by omega) s3).use [2] rfl
 ·clear s s0
  intro w Z s
  obtain ⟨hn, s⟩ := Ss.fact s
  rw [List.take_length] at s
  exact fin (.inl ⟨rfl, by omega⟩) s.cutZ
 ·clear s s0
  intro i x c w Z hx s
  obtain ⟨hh, s1⟩ := Ss.fact s
  clear s
  obtain ⟨rfl, hn⟩ := hh
  refine fin (.inr ⟨?_, by omega⟩) s1.cutZ
  rw [hn, Int.toNat_natCast]
theorem does_wp (hit : IsAll it a) {sl : Sl} {kp : Any} (s : Ss W (Two p b sl L ++ Hs) w) (hL : TOk L) (t : Nat) (et : nth Hs t = some TabC) (ic : Nat) (ec : nth Hs ic = some (Clo a p)) (ac : weirlaw14_Act) (hb : RByt ac.R) :
  WP (weirlaw14_does ⟨some (pt p 0), sl, kp⟩ it ac) w (fun r w' => ∃ sl' L', r = (⟨some (pt p 0), sl', kp⟩, true) ∧ TOk L' ∧ Ss W (Two p b sl' L' ++ Hs) w') := by
 unfold weirlaw14_does
 have rg : ∀ {w : World} (n : Int), Ss W (Two p b sl L ++ Hs) w → WP (weirlaw14_ranged it n sl >>= fun r => pure ((⟨some (pt p 0), sl, kp⟩ : weirlaw14_Pair), r)) w (fun r w' => ∃ sl' L', r = (⟨some (pt p 0), sl', kp⟩, true) ∧ TOk L' ∧ Ss W (Two p b sl' L' ++ Hs) w') := by
  intro w n s
  have s : Ss W (TblHs p b L ++ (rdS cRt false sl (sortR L) :: Hs)) w := s
  refine WP.step (ranged_wp hit s hL.len (1 + ic) (by rw [Nat.add_comm]; exact ec) 0 rfl n) ?_
  rintro _ w ⟨rfl, s⟩
  exact WP.ret ⟨sl, L, rfl, hL, s⟩
 refine WP.slot' s (fun _ w s => WP.slot' s (fun _ w s => WP.slot' s (fun _ w s => WP.ite (fun h => ?_) (fun h => WP.ite (fun h => ?_) (fun h => WP.ite (fun h => WP.draw' s (fun w s => rg _ s)) (fun h => WP.ite (fun h => WP.draw' s (fun w s => rg _ s)) (fun h => WP.ret ⟨sl, L, rfl, hL, s⟩)))))))
 ·refine WP.step (turned_wp s t et hL kp _ hb) ?_
  rintro _ w ⟨sl', L', rfl, h1, -, s⟩
  exact WP.ret ⟨sl', L', rfl, h1, s⟩
 ·refine WP.step (turned_wp s t et hL kp _ hb) ?_
  rintro _ w ⟨sl', L', rfl, h1, -, s⟩
  exact WP.ret ⟨sl', L', rfl, h1, s⟩
end
end Go.Proofs.YtfgcobigollfjaaDoor.Lx
