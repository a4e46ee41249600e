
import Derived.Test.YtfgcobigollfjaaDoorRouteTab
import Derived.Test.YtfgcobigollfjaaDoorAddrClass
set_option linter.unusedVariables false
set_option linter.unusedSimpArgs false
namespace Go.Proofs.YtfgcobigollfjaaDoor.Lx
open Go Go.Proofs Go.RowKit
def viaOk (r : api_Route) : Bool := decide (r.Via = z_api_IP ∨ (sizeM r.Via > 0 ∧ r.Via.V = r.Prefix.IP.V ∧ (classM r.Via = 7 ∨ classM r.Via = 4)))
def RByt (r : api_Route) : Prop := Byt r.Prefix.IP.A.l ∧ Byt r.Via.A.l
def addR (L : List api_Route) (r : api_Route) : Int := addM (viaOk r) L r
def fillR (L : List api_Route) : List api_Route → List api_Route
 | [] => L
 | r :: l => fillR (putR L r (addR L r)) l
theorem fillR_app {L : List api_Route} : ∀ {l m : List api_Route}, fillR L (l ++ m) = fillR (fillR L l) m := by
 intro l
 induction l generalizing L with
 | nil => intro m; rfl
 | cons r l ih => intro m; exact ih
section
variable {W w : World} {Hs : List HP} {p b : Nat} {L : List api_Route}
theorem Add_wp (s : Ss W (TblHs p b L ++ Hs) w) (t : Nat) (et : nth (TblHs p b L ++ Hs) t = some TabC) (r : api_Route) (hb : RByt r) : WP (route_Table_Add (some (pt p 0)) r) w (fun e w' => e = addR L r ∧ Ss W (TblHs p b (putR L r e) ++ Hs) w') := by
 unfold route_Table_Add addR
 refine WP.slot' s (fun _ w s => WP.step (isPrefix_wp s r.Prefix hb.1) ?_)
 rintro _ w ⟨rfl, s⟩
 refine WP.ite (fun h => WP.ret ⟨?_, s⟩) (fun h => ?_)
 ·unfold addM
  rw [if_pos (by simpa using h)]
 have h' : ¬ isPx r.Prefix = false := by simpa using h
 refine WP.step (R := fun y w' => y = decide (r.Port < 0 ∨ r.Port ≥ 8) ∧ Ss W (TblHs p b L ++ Hs) w') (WP.ite (fun h => WP.ret ⟨by simp [h], s⟩) (fun h => WP.ret ⟨by simp [h], s⟩)) ?_
 rintro _ w ⟨rfl, s⟩
 refine WP.ite (fun h2 => WP.ret ⟨?_, s⟩) (fun h2 => ?_)
 ·unfold addM
  rw [if_neg h', if_pos (of_decide_eq_true h2)]
 have h2' : ¬ (r.Port < 0 ∨ r.Port ≥ 8) := fun h => h2 (decide_eq_true h)
 have e1 : viaOk r = true → addM (viaOk r) L r = addE L r := fun hv => by
  unfold addM
  rw [if_neg h', if_neg h2', if_neg (by rw [hv]; decide)]
 have e0 : viaOk r = false → addM (viaOk r) L r = 142 := fun hv => by
  unfold addM
  rw [if_neg h', if_neg h2', if_pos hv]
 refine WP.ite (fun h3 => ?_) (fun h3 => ?_)
 ·refine WP.step (Class_wp s t et r.Via hb.2) ?_
  rintro _ w ⟨rfl, s⟩
  refine WP.step (Valid_wp s r.Via) ?_
  rintro _ w ⟨rfl, s⟩
  refine WP.step (R := fun y w' => y = decide (¬ sizeM r.Via > 0 ∨ r.Via.V ≠ r.Prefix.IP.V) ∧ Ss W (TblHs p b L ++ Hs) w') (WP.ite (fun h => WP.ret ⟨?_, s⟩) (fun h => WP.ret ⟨?_, s⟩)) ?_
  ·simp only [decide_eq_true_eq] at h
   exact (decide_eq_true (.inl h)).symm
  ·simp only [decide_eq_true_eq, Decidable.not_not] at h
   rw [bne, Bool.eq_iff_iff]
   simp [h]
  rintro _ w ⟨rfl, s⟩
  refine WP.step (R := fun y w' => y = decide (¬ sizeM r.Via > 0 ∨ r.Via.V ≠ r.Prefix.IP.V ∨ (classM r.Via ≠ 7 ∧ classM r.Via ≠ 4)) ∧ Ss W (TblHs p b L ++ Hs) w') (WP.ite (fun h => WP.ret ⟨?_, s⟩) (fun h => ?_)) ?_
  ·refine (decide_eq_true ?_).symm
   rcases of_decide_eq_true h with h | h
   ·exact .inl h
   ·exact .inr (.inl h)
  ·have hn : ¬ (¬ sizeM r.Via > 0 ∨ r.Via.V ≠ r.Prefix.IP.V) := fun h' => h (decide_eq_true h')
   have e5 : decide (¬ sizeM r.Via > 0 ∨ r.Via.V ≠ r.Prefix.IP.V ∨ (classM r.Via ≠ 7 ∧ classM r.Via ≠ 4)) = decide (classM r.Via ≠ 7 ∧ classM r.Via ≠ 4) := by
    rw [Bool.eq_iff_iff]
    simp only [decide_eq_true_eq]
    exact ⟨fun h => by
     rcases h with h | h | h
     ·exact absurd (.inl h) hn
     ·exact absurd (.inr h) hn
     ·exact h, fun h => .inr (.inr h)⟩
   rw [e5]
   refine WP.step (R := fun y w' => y = decide (classM r.Via ≠ 7 ∧ classM r.Via ≠ 4) ∧ Ss W (TblHs p b L ++ Hs) w') (WP.ite (fun h => WP.ret ⟨?_, s⟩) (fun h => WP.ret ⟨by simp [h], s⟩)) (fun y w h => WP.ret h)
   rw [bne, Bool.eq_iff_iff]
   simp [h]
  rintro _ w ⟨rfl, s⟩
  refine WP.ite (fun h => WP.ret ⟨?_, s⟩) (fun h => ?_)
  ·refine (e0 (decide_eq_false fun hv => ?_)).symm
   have h4 := of_decide_eq_true h
   rcases hv with hv | ⟨g1, g2, g3⟩
   ·exact h3 hv
   ·rcases h4 with h4 | h4 | h4
    ·exact h4 g1
    ·exact h4 g2
    ·omega
  ·have hn : ¬ (¬ sizeM r.Via > 0 ∨ r.Via.V ≠ r.Prefix.IP.V ∨ (classM r.Via ≠ 7 ∧ classM r.Via ≠ 4)) := fun h' => h (decide_eq_true h')
   rw [e1 (decide_eq_true (.inr ⟨Decidable.not_not.1 fun h' => hn (.inl h'), Decidable.not_not.1 fun h' => hn (.inr (.inl h')), Decidable.or_iff_not_imp_left.2 fun h7 => Decidable.not_not.1 fun h4 => hn (.inr (.inr ⟨h7, h4⟩))⟩))]
   exact AddK2_wp s r
 ·rw [e1 (decide_eq_true (.inl (Decidable.not_not.1 h3)))]
  exact AddK2_wp s r
def route0M : api_Route := ⟨⟨⟨4, v16 [10]⟩, 8⟩, 1, z_api_IP⟩
theorem putR_fill {L : List api_Route} {r : api_Route} : putR L r (addR L r) = if addR L r = 0 then L ++ [r] else L := rfl
theorem addR_le {L : List api_Route} {r : api_Route} (h : L.length ≤ 256) : (putR L r (addR L r)).length ≤ 256 := by
 unfold putR
 split
 ·rename_i h0
  have : L.length ≠ 256 := by
   intro e
   unfold addR addM addE at h0
   rw [if_pos e] at h0
   repeat' split at h0
   all_goals omega
  simp
  omega
 ·exact h
theorem fillR_le : ∀ {l L : List api_Route}, L.length ≤ 256 → (fillR L l).length ≤ 256
 | [], L, h => h
 | r :: l, L, h => fillR_le (l := l) (addR_le h)
theorem filled_wp {A : HP} {sl : Sl} {xs : List api_Route} (s : Ss W Hs w) (i : Nat) (e : nth Hs i = some A) (rd : Rdb A cRt sl xs) (t : Nat) (et : nth Hs t = some TabC) (hb : ∀ x ∈ xs, RByt x) : WP (weirlaw14_filled sl) w (fun r w' => ∃ p b sp, r.1 = some (pt p 0) ∧ Ss W (vec cRt r.2 (fillR [] (xs.take 600)) sp :: (TblHs p b (fillR [] (xs.take 600)) ++ Hs)) w') := by
 unfold weirlaw14_filled
 refine WP.step (New_wp s) ?_
 rintro _ w ⟨p, b, rfl, s⟩
 refine WP.ite (fun h => by cases h) (fun _ => ?_)
 obtain ⟨hl, -⟩ := s.rd_len (i := 2 + i) (show nth (TblHs p b [] ++ Hs) (2 + i) = some A by rw [Nat.add_comm]; exact e) rd
 have s0 : Ss W (vec cRt Sl.nil [] [] :: (TblHs p b [] ++ Hs)) w := s.mk0 (A := vec cRt Sl.nil [] []) vec_nil
 refine WP.loopG (γ := Nat) (fun k (x : Sl × Int) w => x.2 = (k : Int) ∧ k ≤ xs.length ∧ k ≤ 600 ∧ ∃ sp, Ss W (vec cRt x.1 (fillR [] (xs.take k)) sp :: (TblHs p b (fillR [] (xs.take k)) ++ Hs)) w) (fun k _ => 600 - k) 0 ⟨rfl, Nat.zero_le _, by omega, [], s0⟩ ?_
 clear s s0
 rintro k ⟨sl2, _⟩ w ⟨rfl, hk, h600, sp, s⟩
 show WP (weirlaw14_filled.L1 sl (some (pt p 0)) sl2 (k : Int)) w _
 unfold weirlaw14_filled.L1
 refine WP.step (R := fun y w' => y = decide (k < xs.length ∧ k < 600) ∧ w = w') (WP.ite (fun h => WP.ret ⟨?_, rfl⟩) (fun h => WP.ret ⟨?_, rfl⟩)) ?_
 ·rw [hl] at h
  rw [Bool.eq_iff_iff]
  simp only [decide_eq_true_eq]
  omega
 ·rw [hl] at h
  exact (decide_eq_false (by omega)).symm
 rintro _ _ ⟨rfl, rfl⟩
 refine WP.ite (fun h => ?_) (fun h => WP.done ?_)
 ·obtain ⟨h1, h2⟩ := of_decide_eq_true h
  have hx : xs[(k : Int).toNat]? = some xs[k] := by rw [Int.toNat_natCast, List.getElem?_eq_getElem h1]
  have eA : ∀ Z : HP, nth (Z :: (TblHs p b (fillR [] (xs.take k)) ++ Hs)) (3 + i) = some A := fun Z => by rw [Nat.add_comm]; exact e
  have eT : nth (TblHs p b (fillR [] (xs.take k)) ++ (vec cRt sl2 (fillR [] (xs.take k)) sp :: Hs)) (3 + t) = some TabC := by rw [Nat.add_comm]; exact et
  refine WP.rdx s (3 + i) (eA _) rd (by omega) hx rfl ?_
  have s1 : Ss W (TblHs p b (fillR [] (xs.take k)) ++ (vec cRt sl2 (fillR [] (xs.take k)) sp :: Hs)) w := s.use [1, 1] rfl
  refine WP.step (Add_wp s1 _ eT xs[k] (hb _ (List.getElem_mem h1))) ?_
  rintro _ w ⟨rfl, s⟩
  have e2 : xs.take (k + 1) = xs.take k ++ [xs[k]] := by rw [List.take_add_one, List.getElem?_eq_getElem h1]; rfl
  have e3 : fillR [] (xs.take (k + 1)) = putR (fillR [] (xs.take k)) xs[k] (addR (fillR [] (xs.take k)) xs[k]) := by rw [e2, fillR_app]; rfl
  have e4 : IntKind.wrap .i64 ((k : Int) + 1) = ((k + 1 : Nat) : Int) := by rw [wrap_i64 (by omega) (by omega)]; omega
  have hle := fillR_le (l := xs.take k) (L := []) (by simp)
  have s2 : Ss W (vec cRt sl2 (fillR [] (xs.take k)) sp :: (TblHs p b (putR (fillR [] (xs.take k)) xs[k] (addR (fillR [] (xs.take k)) xs[k])) ++ Hs)) w := s.use [2] rfl
  rw [e4]
  refine WP.ite (fun h0 => ?_) (fun h0 => ?_)
  ·refine WP.rdx s2 (3 + i) (by rw [Nat.add_comm]; exact e) rd (by omega) hx rfl (WP.slot' s2 (fun _ w s2 => ?_))
   refine WP.appl s2 0 rfl (by simp only [List.length_singleton]; omega) (by omega) (fun r w sp' s => WP.next ⟨k + 1, ⟨rfl, h1, h2, sp', ?_⟩, by omega⟩)
   have e5 : fillR [] (xs.take (k + 1)) = fillR [] (xs.take k) ++ [xs[k]] := by rw [e3, putR_fill, if_pos h0]
   have e6 : putR (fillR [] (xs.take k)) xs[k] (addR (fillR [] (xs.take k)) xs[k]) = fillR [] (xs.take k) ++ [xs[k]] := by rw [putR_fill, if_pos h0]
   rw [e6] at s
   rw [e5]
   exact s
  ·refine WP.next ⟨k + 1, ⟨rfl, h1, h2, sp, ?_⟩, by omega⟩
   have e6 : putR (fillR [] (xs.take k)) xs[k] (addR (fillR [] (xs.take k)) xs[k]) = fillR [] (xs.take k) := by rw [putR_fill, if_neg h0]
   rw [e6] at s2 e3
   rw [e3]
   exact s2
 ·have hn : ¬ (k < xs.length ∧ k < 600) := fun h' => h (decide_eq_true h')
  have e7 : xs.take 600 = xs.take k := by
   by_cases hk6 : k = 600
   ·rw [hk6]
   ·have : k = xs.length := by omega
    rw [this, List.take_length, List.take_of_length_le (by omega)]
  rw [e7]
  exact ⟨p, b, sp, rfl, s⟩
theorem route0_wp (s : Ss W Hs w) : WP weirlaw14_route0 w (fun r w' => r = route0M ∧ Ss W Hs w') := by
 unfold weirlaw14_route0
 refine WP.slot' s (fun _ w s => WP.ret ⟨?_, s⟩)
 rfl
end
end Go.Proofs.YtfgcobigollfjaaDoor.Lx
