
import Derived.Test.YtfgcobigollfjaaDoorLxSh
import Derived.Test.YtfgcobigollfjaaDoorLxP
import Derived.Sort.AssemblyPlain
set_option linter.unusedVariables false
set_option linter.unusedSimpArgs false
namespace Go.Proofs.YtfgcobigollfjaaDoor.Lx.Srt
open Go Go.Proofs Go.RowKit Go.Sort Lx
abbrev T := api_Route
abbrev C : Cod T := c_api_Route
def SCmp (W : World) (R : List HP) (D : T → Prop) (f : T → T → M Int) (lt : T → T → Bool) : Prop :=
 ∀ (L : List HP) (w : World) (x y : T), Ss W (L ++ R) w → D x → D y → WP (f x y) w (fun r w' => decide (r < 0) = lt x y ∧ Ss W (L ++ R) w')
structure St (W : World) (L R : List HP) (a0 : Sl) (sp : List T) (D : T → Prop) (n : Nat) (d : Array T) (w : World) : Prop where
 sz : d.size = n
 al : ∀ i, i < n → D d[i]!
 ss : Ss W (L ++ vec C a0 d.toList sp :: R) w
theorem nth_mid (L R : List HP) (A : HP) : nth (L ++ A :: R) L.length = some A := by
 induction L with
 | nil => rfl
 | cons x L ih => exact ih
theorem up_mid (L R : List HP) (A B : HP) : up (L ++ A :: R) L.length B = L ++ B :: R := by
 induction L with
 | nil => rfl
 | cons x L ih => exact congrArg (x :: ·) ih
theorem get_bang {d : Array T} {i : Nat} (h : i < d.size) : d.toList[i]? = some d[i]! := by
 rw [Array.getElem?_toList, getElem!_pos d i h, Array.getElem?_eq_getElem h]
theorem swp_list (d : Array T) (i j : Nat) : (swp d i j).toList = (d.toList.set i d[j]!).set j d[i]! := by
 unfold swp
 simp
section
variable {W w : World} {L R : List HP} {a0 : Sl} {sp : List T} {D : T → Prop} {n : Nat} {d : Array T} {β : Type} {Q : β → World → Prop} {f : T → T → M Int} {lt : T → T → Bool}
theorem St.draw {g : Unit → M β} (s : St W L R a0 sp D n d w) (k : ∀ w', St W L R a0 sp D n d w' → WP (g ()) w' Q) : WP (Lx.draw >>= g) w Q := WP.draw' s.ss (fun w' h => k w' ⟨s.sz, s.al, h⟩)
theorem St.get {g : T → M β} {I : Int} (s : St W L R a0 sp D n d w) (i : Nat) (hI : I = (i : Int)) (hi : i < n) (k : WP (g d[i]!) w Q) : WP (Lx.idx a0.a a0.len I 36 >>= fun p => Lx.ld C p >>= g) w Q := by
 subst hI
 refine WP.rdx s.ss L.length (nth_mid _ _ _) vec_rdb (by omega) (x := d[i]!) ?_ rfl k
 rw [Int.toNat_natCast]
 exact get_bang (by rw [s.sz]; exact hi)
theorem St.cmp {g : Int → M β} {I J : Int} (s : St W L R a0 sp D n d w) (cm : SCmp W R D f lt) (i j : Nat) (hI : I = (i : Int)) (hJ : J = (j : Int)) (hi : i < n) (hj : j < n) (k : ∀ r w', decide (r < 0) = lt d[i]! d[j]! → St W L R a0 sp D n d w' → WP (g r) w' Q) :
  WP (Lx.idx a0.a a0.len I 36 >>= fun p => Lx.ld C p >>= fun x => Lx.idx a0.a a0.len J 36 >>= fun q => Lx.ld C q >>= fun y => f x y >>= g) w Q := by
 refine s.get i hI hi (s.get j hJ hj ?_)
 have s1 : Ss W ((L ++ [vec C a0 d.toList sp]) ++ R) w := by rw [List.append_assoc]; exact s.ss
 refine WP.step (cm _ w _ _ s1 (s.al i hi) (s.al j hj)) (fun r w' h => k r w' h.1 ⟨s.sz, s.al, ?_⟩)
 have := h.2
 rwa [List.append_assoc] at this
theorem swp_al (hs : d.size = n) (ha : ∀ i, i < n → D d[i]!) {i j : Nat} (hi : i < n) (hj : j < n) : ∀ k, k < n → D (swp d i j)[k]! := by
 intro k hk
 rw [swp_get d (by omega) (by omega) k]
 split
 ·exact ha _ hi
 ·split
  ·exact ha _ hj
  ·exact ha _ hk
theorem St.swap {g : Unit → M β} {I J : Int} (s : St W L R a0 sp D n d w) (i j : Nat) (hI : I = (i : Int)) (hJ : J = (j : Int)) (hi : i < n) (hj : j < n) (k : ∀ w', St W L R a0 sp D n (swp d i j) w' → WP (g ()) w' Q) :
  WP (Lx.idx a0.a a0.len J 36 >>= fun p => Lx.ld C p >>= fun x => Lx.idx a0.a a0.len I 36 >>= fun q => Lx.ld C q >>= fun y => Lx.idx a0.a a0.len I 36 >>= fun p => Lx.st C p x >>= fun _ => Lx.idx a0.a a0.len J 36 >>= fun p => Lx.st C p y >>= g) w Q := by
 refine s.get j hJ hj (s.get i hI hi ?_)
 subst hI hJ
 have hl : d.toList.length = n := by rw [Array.length_toList, s.sz]
 refine WP.stx s.ss L.length (nth_mid _ _ _) (by omega) (by omega) rfl (fun w s1 => ?_)
 rw [up_mid, Int.toNat_natCast] at s1
 refine WP.stx s1 L.length (nth_mid _ _ _) (by omega) (by rw [List.length_set]; omega) rfl (fun w s2 => ?_)
 rw [up_mid, Int.toNat_natCast, ← swp_list] at s2
 exact k w ⟨by rw [swp_size, s.sz], swp_al s.sz s.al hi hj, s2⟩
theorem St.to {d' : Array T} (s : St W L R a0 sp D n d w) (e : d = d') : St W L R a0 sp D n d' w := e ▸ s
theorem wr {x : Int} {i : Nat} (h : x = (i : Int)) (h' : i < 9223372036854775808) : IntKind.wrap .i64 x = (i : Int) := by rw [h]; exact wrap_i64 (by omega) (by omega)
theorem ins_wp (cm : SCmp W R D f lt) (hn : n < 4611686018427387904) (a b : Nat) (hab : a ≤ b) (hb : b ≤ n) (s : St W L R a0 sp D n d w) : WP (slices_insertionSortCmpFunc_api_Route a0 a b f) w (fun _ w' => St W L R a0 sp D n (insertionSort lt d a b) w') := by
 unfold slices_insertionSortCmpFunc_api_Route
 refine WP.loopG (γ := Nat × Array T) (fun g i w => i = (g.1 : Int) ∧ a + 1 ≤ g.1 ∧ g.1 ≤ max b (a + 1) ∧ St W L R a0 sp D n g.2 w ∧ insOuter lt a b g.1 g.2 = insertionSort lt d a b) (fun g _ => max b (a + 1) - g.1) (a + 1, d) ⟨wr (by simp) (by omega), by simp, by simp; omega, s, rfl⟩ ?_
 clear s
 rintro ⟨i, d1⟩ _ w ⟨rfl, h1, h2, s, he⟩
 simp only at h1 h2 s he
 show WP (slices_insertionSortCmpFunc_api_Route.L1 a0 a b f (i : Int)) w _
 unfold slices_insertionSortCmpFunc_api_Route.L1
 refine WP.ite (fun hi => ?_) (fun hi => WP.done ?_)
 ·have hi : i < b := by omega
  refine WP.loopG (γ := Nat × Array T) (fun g j w => j = (g.1 : Int) ∧ g.1 ≤ i ∧ a ≤ g.1 ∧ St W L R a0 sp D n g.2 w ∧ insInner lt a g.1 g.2 = insInner lt a i d1) (fun g _ => g.1) (i, d1) ⟨rfl, by simp, by simp; omega, s, rfl⟩ ?_
  clear s
  rintro ⟨j, d2⟩ _ w ⟨rfl, k1, k2, s, hk⟩
  simp only at k1 k2 s hk
  show WP (slices_insertionSortCmpFunc_api_Route.L2 a0 a f (i : Int) (j : Int)) w _
  unfold slices_insertionSortCmpFunc_api_Route.L2
  refine s.draw (fun w s => ?_)
  have fin : ∀ w, St W L R a0 sp D n d2 w → insInner lt a j d2 = d2 → WP.Rd (fun i' w' => ∃ g' : Nat × Array T, (i' = (g'.1 : Int) ∧ a + 1 ≤ g'.1 ∧ g'.1 ≤ max b (a + 1) ∧ St W L R a0 sp D n g'.2 w' ∧ insOuter lt a b g'.1 g'.2 = insertionSort lt d a b) ∧ max b (a + 1) - g'.1 < max b (a + 1) - i) (fun _ w' => St W L R a0 sp D n (insertionSort lt d a b) w') (LS.next (IntKind.wrap .i64 ((i : Int) + 1)) : LS Int Unit) w := by
   intro w s hd
   refine ⟨(i + 1, d2), ⟨wr (by simp) (by omega), by simp only; omega, by simp only; omega, s, ?_⟩, by simp only; omega⟩
   rw [← he]
   conv => rhs; rw [insOuter]
   rw [if_pos hi, ← hk, hd]
  by_cases hja : j = a
  ·subst hja
   rw [if_neg (show ¬ (j : Int) > (j : Int) by omega)]
   refine WP.done (fin w s ?_)
   cases j with
   | zero => rfl
   | succ j => rw [insInner]; simp
  ·obtain ⟨j, rfl⟩ : ∃ j', j = j' + 1 := ⟨j - 1, by omega⟩
   have hjm : (((j + 1 : Nat) : Int) - 1) = (j : Int) := by omega
   rw [if_pos (show ((j + 1 : Nat) : Int) > (a : Int) by omega)]
   refine WP.step (R := fun y w' => y = lt d2[j + 1]! d2[j]! ∧ St W L R a0 sp D n d2 w') (s.cmp cm (j + 1) j rfl (wr hjm (by omega)) (by omega) (by omega) (fun r w h s => WP.ret ⟨h, s⟩)) ?_
   rintro y w ⟨rfl, s⟩
   have hun : insInner lt a (j + 1) d2 = if lt d2[j + 1]! d2[j]! then insInner lt a j (swp d2 (j + 1) j) else d2 := by
    rw [insInner]
    simp only [gt_iff_lt, show a < j + 1 by omega, decide_true, Bool.true_and]
   refine WP.ite (fun hy => ?_) (fun hy => WP.done (fin w s ?_))
   ·rw [hy, if_pos rfl] at hun
    refine s.draw (fun w s => s.swap (j + 1) j rfl (wr hjm (by omega)) (by omega) (by omega) (fun w s => WP.next ?_))
    exact ⟨(j, swp d2 (j + 1) j), ⟨wr hjm (by omega), by simp only; omega, by simp only; omega, s, by rw [← hun]; exact hk⟩, by simp only; omega⟩
   ·rw [hun, if_neg hy]
 ·have : ¬ i < b := by omega
  rw [insOuter, if_neg this] at he
  exact he ▸ s
end
end Go.Proofs.YtfgcobigollfjaaDoor.Lx.Srt
