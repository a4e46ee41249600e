
import Derived.Test.YtfgcobigollfjaaDoorRouteAll
import Derived.Test.YtfgcobigollfjaaDoorRouteSame
import Derived.Test.YtfgcobigollfjaaDoorRouteRef2
set_option linter.unusedVariables false
set_option linter.unusedSimpArgs false
namespace Go.Proofs.YtfgcobigollfjaaDoor.Lx
open Go Go.Proofs Go.RowKit
theorem Ss.cutZ {W w : World} {A Z : List HP} (s : Ss W (A ++ Z) w) : Ss W A w := (s.perm List.perm_append_comm).weak
theorem Ss.toEnd {W w : World} {A : HP} {Z : List HP} (s : Ss W (A :: Z) w) : Ss W (Z ++ [A]) w := s.perm (List.perm_append_comm (l₁ := [A]))
theorem ZmO {W w : World} {Hs : List HP} {a : Addr} {l : List Value} (s : Ss W (pts true a l :: Hs) w) : Ss W (pts false a l :: Hs) w :=
 s.freeze (fun h hh => ⟨hh.1, fun i x hx => by
  show (h a.block (a.off + i)).map _ = _
  rw [hh.2 i x hx]
  rfl⟩)
def Zmo (r : Any) (a : Addr) : Prop := (∀ y, ZaE.it r y = ZaQ y a) ∧ fnil r.v = pure false
def Clo (a : Addr) (p : Nat) : HP := pts false a (cP.enc (some (pt p 0)))
theorem Ro.clo {a : Addr} {p : Nat} : Ro (Clo a p) := Ro.pts
section
variable {W w : World} {Hs : List HP} {p b : Nat} {L : List Zab} {a : Addr} {it : Any}
theorem Zhc (s : Ss W Hs w) (p : Nat) : WP (ZbF (some (pt p 0))) w (fun r w' => ∃ a, Zmo r a ∧ Ss W (Clo a p :: Hs) w') := by
 unfold ZbF
 exact WP.newv s (fun b w s => WP.ret ⟨_, ⟨fun y => rfl, rfl⟩, ZmO s⟩)
theorem ZlI {b1 : Nat} (s : Ss W (pts true (pt b1 0) (cL.enc Sl.nil) :: Hs) w) : Ss W (MHs b1 [] :: Hs) w := by
 have s1 := (s.mk0 (A := vec cRt Sl.nil [] []) Zed).use [1, 0] rfl
 exact (Ss.group (l := [pts true (pt b1 0) (cL.enc Sl.nil), vec cRt Sl.nil [] []]) s1).first (fun h hh => ⟨(Sl.nil, []), trivial, hh⟩)
theorem ZmD {b1 : Nat} {l : List Zab} {x : Zab} {T T' : TypeId} {β : Type} {f : M β} {Q : β → World → Prop} (hl : l.length < 300) (s : Ss W (MHs b1 l :: Hs) w) (k : ∀ w, Ss W (MHs b1 (l ++ [x]) :: Hs) w → WP f w Q) :
  WP (ld cL (pt b1 0) >>= fun y => slot T >>= fun _ => appl cRt T' 64 Zaa y [x] >>= fun r => st cL (pt b1 0) r >>= fun _ => f) w Q := by
 obtain ⟨⟨sl, sp⟩, -, s1⟩ := s.openx 0 rfl
 have s2 : Ss W (pts true (pt b1 0) (cL.enc sl) :: vec cRt sl l sp :: Hs) w := Ss.split (l := [pts true (pt b1 0) (cL.enc sl), vec cRt sl l sp]) s1
 refine WP.ld s2 0 rfl (o := 0) (by simp [Addr.add]) (At.whole _) (WP.slot' s2 (fun _ w s => WP.appl s 1 rfl (by simp only [List.length_singleton]; omega) (by decide) (fun r w sp' s => WP.st s 0 rfl (o := 0) (by simp [Addr.add]) (Upd.whole rfl) (fun w s => k w ?_))))
 exact (Ss.group (l := [pts true (pt b1 0) (cL.enc r), vec cRt r (l ++ [x]) sp']) s).first (fun h hh => ⟨(r, sp'), trivial, hh⟩)
theorem ZgI (hit : Zmo it a) (s : Ss W (Zbr p b L ++ Hs) w) (hL : L.length ≤ 256) (ic : Nat) (ec : nth Hs ic = some (Clo a p)) {sw : Sl} (iw : Nat) (ew : nth Hs iw = some (rdS cRt false sw (Zbd L))) (n : Int) :
  WP (ZaE it n sw) w (fun r w' => r = true ∧ Ss W (Zbr p b L ++ Hs) w') := by
 unfold ZaE
 refine WP.newv s (fun b1 w s => ?_)
 rw [hit.2]
 refine WP.step (R := fun y w' => y = false ∧ w = w') (WP.ret ⟨rfl, rfl⟩) ?_
 rintro _ _ ⟨rfl, rfl⟩
 refine WP.ite (fun h => by cases h) (fun _ => WP.newv s (fun b3 w s => ?_))
 have s := ZlI s
 have hsl : (Zbd L).length ≤ 256 := by rw [(ZbK L).length_eq]; exact hL
 have fin : ∀ {w : World} {l : List Zab}, (l = Zbd L ∧ ¬ (n > 0 ∧ n < (Zbd L).length)) ∨ (l = (Zbd L).take n.toNat ∧ n > 0) → Ss W ([MHs b3 l, pts true (pt b1 0) ((cI .i64).enc n)] ++ (Zbr p b L ++ Hs)) w → WP (ZaE.K1 sw b1 b3) w (fun r w' => r = true ∧ Ss W (Zbr p b L ++ Hs) w') := by
  intro w l hl s
  unfold ZaE.K1
  have hc := s.rd_cap (i := 4 + iw) (by rw [Nat.add_comm]; exact ew)
  refine WP.ld s 1 rfl (o := 0) (by simp [Addr.add]) (At.whole _) ?_
  refine WP.step (R := fun y w' => y = decide (n > 0 ∧ n < (Zbd L).length) ∧ w = w') (WP.ite (fun h => WP.ld s 1 rfl (o := 0) (by simp [Addr.add]) (At.whole _) (WP.ret ⟨?_, rfl⟩)) (fun h => WP.ret ⟨(decide_eq_false (fun h' => h h'.1)).symm, rfl⟩)) ?_
  ·rw [hc.1]
   exact decide_eq_decide.2 ⟨fun h' => ⟨h, h'⟩, fun h' => h'.2⟩
  rintro _ _ ⟨rfl, rfl⟩
  have same : ∀ {w : World} {sw' : Sl} {k : Nat}, l = (Zbd L).take k → Rdb (rdS cRt false sw (Zbd L)) cRt sw' ((Zbd L).take k) → Ss W ([MHs b3 l, pts true (pt b1 0) ((cI .i64).enc n)] ++ (Zbr p b L ++ Hs)) w → WP (ld cL (pt b3 0) >>= fun x => ZaZ x sw' >>= fun r => pure r) w (fun r w' => r = true ∧ Ss W (Zbr p b L ++ Hs) w') := by
   intro w sw' k e rd s
   obtain ⟨⟨sl, sp⟩, -, s1⟩ := s.openx 0 rfl
   have s2 : Ss W (pts true (pt b3 0) (cL.enc sl) :: vec cRt sl l sp :: ([pts true (pt b1 0) ((cI .i64).enc n)] ++ (Zbr p b L ++ Hs))) w := Ss.split (l := [pts true (pt b3 0) (cL.enc sl), vec cRt sl l sp]) s1
   refine WP.ld s2 0 rfl (o := 0) (by simp [Addr.add]) (At.whole _) (WP.step (Zi1 s2 1 rfl ZcG (5 + iw) (by rw [Nat.add_comm]; exact ew) rd (by rw [e, List.length_take]; omega)) ?_)
   rintro _ w ⟨rfl, s⟩
   exact WP.ret ⟨decide_eq_true e, s.weak (l := [_, _, _])⟩
  refine WP.ite (fun h => ?_) (fun h => ?_)
  ·obtain ⟨h1, h2⟩ := of_decide_eq_true h
   refine WP.ld s 1 rfl (o := 0) (by simp [Addr.add]) (At.whole _) (WP.cutpre (by omega) (by omega) ?_)
   refine same (k := n.toNat) ?_ (Zdg.take (by omega)) s
   rcases hl with ⟨rfl, h3⟩ | ⟨rfl, -⟩
   ·exact absurd ⟨h1, h2⟩ h3
   ·rfl
  ·have h' : ¬ (n > 0 ∧ n < (Zbd L).length) := fun h' => h (decide_eq_true h')
   have e : l = (Zbd L).take (Zbd L).length := by
    rw [List.take_length]
    rcases hl with ⟨rfl, -⟩ | ⟨rfl, h3⟩
    ·rfl
    ·exact List.take_of_length_le (by omega)
   refine same e ?_ s
   rw [List.take_length]
   exact Zdg
 have s0 : Ss W (([MHs b3 [], pts true (pt b1 0) ((cI .i64).enc n)] ++ (Zbr p b L ++ Hs)) ++ [Clo a p]) w := (s.dup (i := 4 + ic) (by rw [Nat.add_comm]; exact ec) Ro.clo).toEnd
 refine WP.rangeAll (p := p) (b := b) (L := L) (Hs := Hs) hit.1 hL [MHs b3 [], pts true (pt b1 0) ((cI .i64).enc n)] (fun i => fact (¬ (n > 0 ∧ n ≤ i)) :: ([MHs b3 ((Zbd L).take i), pts true (pt b1 0) ((cI .i64).enc n)] ++ (Zbr p b L ++ Hs))) (fun i c => fact (c = .exit 0 ∧ n = ((i + 1 : Nat) : Int)) :: ([MHs b3 ((Zbd L).take (i + 1)), pts true (pt b1 0) ((cI .i64).enc n)] ++ (Zbr p b L ++ Hs))) (fun w Z s => Ss.mkfact (by omega) s) s0 ?_ ?_ ?_
 ·clear s s0
  intro ll i x w Z hx s
  have hlt := (List.getElem?_eq_some_iff.1 hx).1
  obtain ⟨hn, s⟩ := Ss.fact (s.use [1] rfl)
  have s : Ss W (lpH ll .ready none :: MHs b3 ((Zbd L).take i) :: (pts true (pt b1 0) ((cI .i64).enc n) :: ((Zbr p b L ++ Hs) ++ Z))) w := s
  unfold ZaE.R1
  refine WP.slot' s (fun _ w s => WP.begM s (fun w s => ZmD (x := x) (by rw [List.length_take]; omega) (s.use [1] rfl) (fun w s => ?_)))
  have et : (Zbd L).take i ++ [x] = (Zbd L).take (i + 1) := by rw [List.take_add_one, hx]; rfl
  rw [et] at s
  have hlen : ((Zbd L).take (i + 1)).length = i + 1 := by rw [List.length_take]; omega
  obtain ⟨⟨sl, sp⟩, -, s1⟩ := s.openx 0 rfl
  have s2 : Ss W (pts true (pt b3 0) (cL.enc sl) :: vec cRt sl ((Zbd L).take (i + 1)) sp :: (lpH ll .busy none :: (pts true (pt b1 0) ((cI .i64).enc n) :: ((Zbr p b L ++ Hs) ++ Z)))) w := Ss.split (l := [pts true (pt b3 0) (cL.enc sl), vec cRt sl ((Zbd L).take (i + 1)) sp]) s1
  have hl2 := (s2.vec_len (i := 1) rfl).1
  rw [hlen] at hl2
  refine WP.ld s2 0 rfl (o := 0) (by simp [Addr.add]) (At.whole _) (WP.ld s2 3 rfl (o := 0) (by simp [Addr.add]) (At.whole _) ?_)
  have s3 : Ss W (MHs b3 ((Zbd L).take (i + 1)) :: (lpH ll .busy none :: (pts true (pt b1 0) ((cI .i64).enc n) :: ((Zbr p b L ++ Hs) ++ Z)))) w := s
  refine WP.ite (fun h => WP.ret (.inr ⟨.exit 0, rfl, ?_⟩)) (fun h => WP.ret (.inl ⟨rfl, ?_⟩))
  ·exact (Ss.mkfact (p := (Code.exit 0 = Code.exit 0 ∧ n = ((i + 1 : Nat) : Int))) ⟨rfl, by omega⟩ s3).use [2] rfl
  ·exact (Ss.mkfact (p := ¬ (n > 0 ∧ n ≤ ((i + 1 : Nat) : Int))) (by omega) s3).use [2] rfl
 ·clear s s0
  intro w Z s
  obtain ⟨hn, s⟩ := Ss.fact s
  rw [List.take_length] at s
  exact fin (.inl ⟨rfl, by omega⟩) s.cutZ
 ·clear s s0
  intro i x c w Z hx s
  obtain ⟨hh, s1⟩ := Ss.fact s
  clear s
  obtain ⟨rfl, hn⟩ := hh
  refine fin (.inr ⟨?_, by omega⟩) s1.cutZ
  rw [hn, Int.toNat_natCast]
end
end Go.Proofs.YtfgcobigollfjaaDoor.Lx
