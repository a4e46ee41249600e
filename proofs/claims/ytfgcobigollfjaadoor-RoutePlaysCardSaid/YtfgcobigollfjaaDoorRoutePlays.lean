
import Derived.Test.YtfgcobigollfjaaDoorRoutePlay
set_option linter.unusedVariables false
set_option linter.unusedSimpArgs false
namespace Go.Proofs.YtfgcobigollfjaaDoor.Lx
open Go Go.Proofs Go.RowKit
abbrev PV := Vec Zas 2
section
variable {W w : World} {Hs : List HP} {p b p2 b2 bb n : Nat} {L L2 : List Zab} {sl sl2 : Sl} {kp kp2 : Any} {a a2 : Addr}
theorem Zj4 {s14 : Int} {v : PV} (hn : n ≤ 1000) (s : Ss W (BkP bb n :: Hs) w) :
  WP (Zai.K2 bb s14 true v) w (fun r w' => r = LS.next (IntKind.wrap .i64 (s14 + 1), v) ∧ Ss W (BkP bb n :: Hs) w') := by
 unfold Zai.K2
 refine WP.step (R := fun y w' => y = false ∧ Ss W (BkP bb n :: Hs) w') (WP.ite (fun h => absurd rfl h) (fun _ => WP.step (ZlK hn s) ?_)) ?_
 ·rintro _ w ⟨rfl, s⟩
  exact WP.ret ⟨rfl, s⟩
 rintro _ w ⟨rfl, s⟩
 exact WP.ite (fun h => by cases h) (fun _ => WP.ret ⟨rfl, s⟩)
theorem Zmz {Q : LS (Int × PV) Bool → World → Prop} {s14 : Int} {v0 : PV} {F : Sl → PV} {st : ZaO} (hg : Vec.g v0 (band .i64 st.Obj 1) ZaC = ⟨some (pt p 0), sl, kp⟩) (hF : ∀ sl', Vec.s v0 (band .i64 st.Obj 1) ⟨some (pt p 0), sl', kp⟩ = F sl') (h0 : v0 = F sl)
  (hk : Zmo kp a) (hL : TOk L) (hn : n < 999) (t : Nat) (et : nth Hs t = some TabC) (hb : RByt st.R) (hip : Byt st.IP.A.l) (j : Bool) (s : Ss W (Two p b sl L ++ (Clo a p :: BkP bb n :: Hs)) w)
  (k : ∀ sl' L' n' w, n' ≤ n + 1 → TOk L' → Ss W (Two p b sl' L' ++ (Clo a p :: BkP bb n' :: Hs)) w → Q (LS.next (IntKind.wrap .i64 (s14 + 1), F sl')) w) :
  WP (Zai.K4 bb s14 v0 st j) w Q := by
 unfold Zai.K4
 have ho := ZiP st.Obj (m := 1) (by decide) (by decide)
 have hc : (0 : Int) ≤ band .i64 st.Obj 1 ∧ band .i64 st.Obj 1 < (2 : Nat) := ⟨ho.1, by omega⟩
 have fin : ∀ {w : World} {sl' : Sl} {L' : List Zab} {n' : Nat}, n' ≤ n + 1 → TOk L' → Ss W (Two p b sl' L' ++ (Clo a p :: BkP bb n' :: Hs)) w → WP (Zai.K2 bb s14 true (F sl')) w Q := by
  intro w sl' L' n' hn' hL' s
  have s : Ss W (BkP bb n' :: (Two p b sl' L' ++ (Clo a p :: Hs))) w := by
   have s := s.use [4] rfl
   exact s
  refine (Zj4 (by omega) s).mono ?_
  rintro _ w ⟨rfl, s⟩
  refine k sl' L' n' w hn' hL' ?_
  have s := s.use [1, 1, 1, 1, 0] rfl
  exact s
 refine WP.ite (fun h => ?_) (fun h => WP.ite (fun h2 => ?_) (fun h2 => ?_))
 ·refine WP.draw' s (fun w s => WP.chk hc ?_)
  rw [hg]
  refine WP.step (ZeL s (t + 2) et hL kp st hb) ?_
  rintro _ w ⟨sl', L', rfl, hL', -, s⟩
  refine WP.chk hc ?_
  simp only [hF]
  exact fin (by omega) hL' s
 ·refine WP.draw' s (fun w s => WP.chk hc ?_)
  rw [hg]
  refine WP.step (Zl5 hL (t + 2) et st hb hip s) ?_
  rintro _ w ⟨sl', L', rfl, hL', s⟩
  refine WP.chk hc ?_
  simp only [hF]
  exact fin (by omega) hL' s
 ·refine WP.draw' s (fun w s => WP.chk hc ?_)
  rw [hg]
  refine WP.step (Zgv hk hL (by omega) st hip s) ?_
  rintro _ w ⟨rfl, n', hn', s⟩
  show WP (Zai.K2 bb s14 true v0) w Q
  rw [h0]
  exact fin hn' hL s
def PlHs (p b : Nat) (sl : Sl) (L : List Zab) (a : Addr) (bb n : Nat) (p2 b2 : Nat) (sl2 : Sl) (L2 : List Zab) (a2 : Addr) : List HP := Two p b sl L ++ (Clo a p :: BkP bb n :: (Two p2 b2 sl2 L2 ++ [Clo a2 p2]))
theorem PlHs.swap (s : Ss W (PlHs p b sl L a bb n p2 b2 sl2 L2 a2 ++ Hs) w) : Ss W (PlHs p2 b2 sl2 L2 a2 bb n p b sl L a ++ Hs) w := by
 have s := s.use [5, 5, 5, 5, 4, 0, 0, 0, 0] rfl
 exact s
theorem Zh6 {R : List HP} {sx : Sl} {B : HP} {xs : List ZaO} (s : Ss W R w) (ix : Nat) (ex : nth R ix = some B) (rx : Rdb B ZaF sx xs) (hx : ∀ x ∈ xs, RByt x.R ∧ Byt x.IP.A.l) (t : Nat) (et : nth R t = some TabC) :
  WP (Zai sx) w (fun r w' => r = true ∧ ∃ Hs', Ss W Hs' w') := by
 unfold Zai
 refine WP.step (ZmG s) ?_
 rintro _ w ⟨p, b, rfl, s⟩
 refine WP.step (ZmG s) ?_
 rintro _ w ⟨p2, b2, rfl, s⟩
 refine WP.step (R := fun y w' => y = false ∧ w = w') (WP.ite (fun h => by cases h) (fun _ => WP.ret ⟨rfl, rfl⟩)) ?_
 rintro _ _ ⟨rfl, rfl⟩
 refine WP.ite (fun h => by cases h) (fun _ => WP.step (Zhc s p) ?_)
 rintro kp w ⟨a, hk, s⟩
 refine WP.step (Zhc s p2) ?_
 rintro kp2 w ⟨a2, hk2, s⟩
 refine WP.slot' s (fun _ w s => WP.draw' s (fun w s => WP.step (ZkE s) ?_))
 rintro _ w ⟨rfl, s⟩
 have s := (s.mk0 (A := rdS cRt false Sl.nil (Zbd [])) ZkH).mk0 (A := rdS cRt false Sl.nil (Zbd [])) ZkH
 have s : Ss W (Two p2 b2 Sl.nil [] ++ (Clo a2 p2 :: (Two p b Sl.nil [] ++ (Clo a p :: R)))) w := by
  have s := s.use [4, 4, 0, 1, 2, 2, 0, 0] rfl
  exact s
 have byt0 : RByt ZgD := ⟨show ∀ x ∈ ZgD.Prefix.IP.A.l, 0 ≤ x ∧ x ≤ 255 by decide +kernel, show ∀ x ∈ ZgD.Via.A.l, 0 ≤ x ∧ x ≤ 255 by decide +kernel⟩
 refine WP.step (ZeL s (t + 5) et TOk.nil kp2 (⟨1, ZaJ.Obj, ZgD, ZaJ.IP, ZaJ.N⟩ : ZaO) byt0) ?_
 rintro _ w ⟨sl2, L2, rfl, hL2, -, s⟩
 have hz : ZcL = ⟨Sl.nil, Sl.nil⟩ := rfl
 refine WP.step (R := fun y w' => y = false ∧ Ss W (Two p2 b2 sl2 L2 ++ (Clo a2 p2 :: (Two p b Sl.nil [] ++ (Clo a p :: R)))) w') (WP.ite (fun h => absurd rfl h) (fun _ => WP.newv s (fun b9 w s => ?_))) ?_
 ·have s := ZmF (by rw [hz]) s
  have s : Ss W (Two p2 b2 sl2 L2 ++ (Clo a2 p2 :: BkP b9 0 :: (Two p b Sl.nil [] ++ (Clo a p :: R)))) w := by
   have s := s.use [1, 1, 1, 1, 0] rfl
   exact s
  refine WP.step (Zgv (bb := b9) hk2 hL2 (by decide) _ (show ∀ x ∈ ([10, 9, 0, 0, 0, 0, 0, 0, 0, 0, 0, 0, 0, 0, 0, 0] : List Int), 0 ≤ x ∧ x ≤ 255 by decide) s) ?_
  rintro _ w ⟨rfl, n', -, s⟩
  exact WP.ret ⟨rfl, (s.use [4] rfl).drop⟩
 rintro _ w ⟨rfl, s⟩
 refine WP.ite (fun h => by cases h) (fun _ => ?_)
 refine WP.step (ZeL s (t + 5) et hL2 kp2 _ ⟨show ∀ x ∈ (List.replicate 16 0 : List Int), 0 ≤ x ∧ x ≤ 255 by decide, show ∀ x ∈ (List.replicate 16 0 : List Int), 0 ≤ x ∧ x ≤ 255 by decide⟩) ?_
 clear hL2 s
 rintro _ w ⟨sl2', L2', rfl, hL2, -, s⟩
 refine WP.ite (fun h => absurd rfl h) (fun _ => WP.newv s (fun bb w s => ?_))
 have s := ZmF (by rw [hz]) s
 have s : Ss W (PlHs p b Sl.nil [] a bb 0 p2 b2 sl2' L2' a2 ++ R) w := by
  have s := s.use [5, 5, 5, 5, 0, 0, 0, 0, 0] rfl
  exact s
 refine WP.loopG (γ := Nat × (Sl × List Zab) × (Sl × List Zab) × Nat) (fun g (x : Int × PV) w => x = ((g.1 : Int), ⟨[⟨some (pt p 0), g.2.1.1, kp⟩, ⟨some (pt p2 0), g.2.2.1.1, kp2⟩], rfl⟩) ∧ g.1 ≤ 600 ∧ g.2.2.2 ≤ g.1 ∧ TOk g.2.1.2 ∧ TOk g.2.2.1.2 ∧ Ss W (PlHs p b g.2.1.1 g.2.1.2 a bb g.2.2.2 p2 b2 g.2.2.1.1 g.2.2.1.2 a2 ++ R) w) (fun g _ => 600 - g.1)
  (0, (Sl.nil, []), (sl2', L2'), 0) ⟨rfl, by simp, by simp, TOk.nil, hL2, s⟩ ?_
 clear s hL2
 rintro ⟨k, ⟨sl, L⟩, ⟨sl2, L2⟩, n⟩ _ w ⟨rfl, hk6, hn, hL, hL2, s⟩
 simp only at hk6 hn hL hL2 s
 show WP (Zai.L1 sx bb (k : Int) ⟨[⟨some (pt p 0), sl, kp⟩, ⟨some (pt p2 0), sl2, kp2⟩], rfl⟩) w _
 unfold Zai.L1
 have eX : nth (PlHs p b sl L a bb n p2 b2 sl2 L2 a2 ++ R) (ix + 9) = some B := ex
 have hlx := (s.rd_len eX rx).1
 refine WP.step (R := fun y w' => y = decide (k < xs.length ∧ k < 600) ∧ w = w') (WP.ite (fun h => WP.ret ⟨?_, rfl⟩) (fun h => WP.ret ⟨(decide_eq_false (by omega)).symm, rfl⟩)) ?_
 ·exact decide_eq_decide.2 ⟨fun h' => by omega, fun h' => by omega⟩
 rintro _ _ ⟨rfl, rfl⟩
 refine WP.ite (fun h => ?_) (fun h => ?_)
 rotate_left
 ·refine WP.step (R := fun r w' => r = true ∧ ∃ Hs', Ss W Hs' w') ?_ (fun r w h => WP.done h)
  unfold Zai.K1
  have hz0 : Byt ZaJ.IP.A.l := show ∀ x ∈ (List.replicate 16 0 : List Int), 0 ≤ x ∧ x ≤ 255 by decide
  refine WP.step (Zgv (p := p) (b := b) (sl := sl) (L := L) (kp := kp) (bb := bb) (n := n) (Hs := Two p2 b2 sl2 L2 ++ (Clo a2 p2 :: R)) hk hL (by omega) _ hz0 s) ?_
  rintro _ w ⟨rfl, n', hn', s⟩
  have s : Ss W (PlHs p b sl L a bb n' p2 b2 sl2 L2 a2 ++ R) w := s
  have s := PlHs.swap s
  refine WP.step (R := fun y w' => y = true ∧ ∃ Hs', Ss W Hs' w') (WP.ite (fun _ => WP.step (Zgv (p := p2) (b := b2) (sl := sl2) (L := L2) (kp := kp2) (bb := bb) (n := n') (Hs := Two p b sl L ++ (Clo a p :: R)) hk2 hL2 (by omega) _ hz0 s) ?_) (fun h => absurd rfl h)) ?_
  ·rintro _ w ⟨rfl, n2, -, s⟩
   exact WP.ret ⟨rfl, _, s⟩
  rintro _ w ⟨rfl, h⟩
  exact WP.ret ⟨rfl, h⟩
 obtain ⟨h1, h2⟩ := of_decide_eq_true h
 have hxk : xs[(k : Int).toNat]? = some xs[k] := by rw [Int.toNat_natCast, List.getElem?_eq_getElem h1]
 obtain ⟨hb, hip⟩ := hx _ (List.getElem_mem h1)
 refine WP.rdx s (ix + 9) ex rx (by omega) hxk rfl (WP.slot' s (fun _ w s => ?_))
 generalize xs[k] = st at hb hip
 have hw : IntKind.wrap .i64 ((k : Int) + 1) = ((k + 1 : Nat) : Int) := by
  rw [ZaP (by omega) (by omega)]
  omega
 have ho := ZiP st.Obj (m := 1) (by decide) (by decide)
 have go : ∀ (j : Bool), WP (Zai.K4 bb (k : Int) ⟨[⟨some (pt p 0), sl, kp⟩, ⟨some (pt p2 0), sl2, kp2⟩], rfl⟩ st j) w (WP.Rd (fun (x : Int × PV) w => ∃ g : Nat × (Sl × List Zab) × (Sl × List Zab) × Nat, (x = ((g.1 : Int), ⟨[⟨some (pt p 0), g.2.1.1, kp⟩, ⟨some (pt p2 0), g.2.2.1.1, kp2⟩], rfl⟩) ∧ g.1 ≤ 600 ∧ g.2.2.2 ≤ g.1 ∧ TOk g.2.1.2 ∧ TOk g.2.2.1.2 ∧ Ss W (PlHs p b g.2.1.1 g.2.1.2 a bb g.2.2.2 p2 b2 g.2.2.1.1 g.2.2.1.2 a2 ++ R) w) ∧ 600 - g.1 < 600 - k) (fun r w' => r = true ∧ ∃ Hs', Ss W Hs' w')) := by
  intro j
  rcases (show band .i64 st.Obj 1 = 0 ∨ band .i64 st.Obj 1 = 1 by omega) with e | e
  ·refine Zmz (p := p) (b := b) (sl := sl) (L := L) (kp := kp) (bb := bb) (n := n) (F := fun sl' => ⟨[⟨some (pt p 0), sl', kp⟩, ⟨some (pt p2 0), sl2, kp2⟩], rfl⟩) (by rw [e]; rfl) (fun sl' => by rw [e]; rfl) rfl hk hL (by omega) (t + 4) et hb hip j s ?_
   intro sl' L' n' w hn' hL' s
   exact ⟨(k + 1, (sl', L'), (sl2, L2), n'), ⟨by rw [hw], by simp only; omega, by simp only; omega, hL', hL2, s⟩, by simp only; omega⟩
  ·refine Zmz (p := p2) (b := b2) (sl := sl2) (L := L2) (kp := kp2) (bb := bb) (n := n) (F := fun sl' => ⟨[⟨some (pt p 0), sl, kp⟩, ⟨some (pt p2 0), sl', kp2⟩], rfl⟩) (by rw [e]; rfl) (fun sl' => by rw [e]; rfl) rfl hk2 hL2 (by omega) (t + 4) et hb hip j (PlHs.swap s) ?_
   intro sl' L' n' w hn' hL' s
   exact ⟨(k + 1, (sl, L), (sl', L'), n'), ⟨by rw [hw], by simp only; omega, by simp only; omega, hL, hL', PlHs.swap s⟩, by simp only; omega⟩
 exact WP.ite (fun _ => go _) (fun _ => go _)
end
end Go.Proofs.YtfgcobigollfjaaDoor.Lx
