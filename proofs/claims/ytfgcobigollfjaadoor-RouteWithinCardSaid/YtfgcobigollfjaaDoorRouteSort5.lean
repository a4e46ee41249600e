
import Derived.Test.YtfgcobigollfjaaDoorRouteSort4
set_option linter.unusedVariables false
set_option linter.unusedSimpArgs false
namespace Go.Proofs.YtfgcobigollfjaaDoor.Lx.Srt
open Go Go.Proofs Go.RowKit Go.Sort Lx
section
variable {W w : World} {L R : List HP} {a0 : Sl} {sp : List T} {D : T → Prop} {n : Nat} {d : Array T} {β : Type} {Q : β → World → Prop} {f : T → T → M Int} {lt : T → T → Bool}
def Does (lt : T → T → Bool) (a b : Nat) (d : Array T) (a' b' : Nat) (d' : Array T) : Prop := ∀ S, PermIn a' b' d' S → SortedIn lt a' b' S → PermIn a b d S ∧ SortedIn lt a b S
theorem Does.perm {a b a' b' : Nat} {d d' d'' : Array T} (h : Does lt a b d a' b' d') (p : PermIn a' b' d' d'') : Does lt a b d a' b' d'' := fun S hp hs => h S (permIn_trans _ _ _ _ _ p hp) hs
theorem pdq_wp (cm : SCmp W R D f lt) (swo : SWO lt) (hn : n < 65536) : ∀ (m a b : Nat) (lim : Int) (d : Array T) (w : World), b - a < m → a ≤ b → b ≤ n → Below lt a b d → St W [] R a0 sp D n d w →
  WP (slices_pdqsortCmpFunc_api_Route.go f m a0 a b lim) w (fun _ w' => ∃ d', PermIn a b d d' ∧ SortedIn lt a b d' ∧ St W [] R a0 sp D n d' w')
 | 0, a, b, lim, d, w, hm, _, _, _, _ => absurd hm (by omega)
 | m + 1, a, b, lim, d, w, hm, hab, hb, hB, s => by
  have ih := pdq_wp cm swo hn m
  unfold slices_pdqsortCmpFunc_api_Route.go slices_pdqsortCmpFunc_api_Route.body
  generalize slices_pdqsortCmpFunc_api_Route.go f m = rc at ih
  refine WP.loopG (γ := (Nat × Nat) × Array T) (fun g x w => x.1 = (g.1.1 : Int) ∧ x.2.1 = (g.1.2 : Int) ∧ g.1.1 ≤ g.1.2 ∧ g.1.2 ≤ n ∧ g.1.2 - g.1.1 ≤ b - a ∧ Below lt g.1.1 g.1.2 g.2 ∧ Does lt a b d g.1.1 g.1.2 g.2 ∧ St W [] R a0 sp D n g.2 w) (fun g _ => g.1.2 - g.1.1) ((a, b), d) ⟨rfl, rfl, hab, hb, Nat.le_refl _, hB, fun S h1 h2 => ⟨h1, h2⟩, s⟩ ?_
  clear s hB
  rintro ⟨⟨x, y⟩, d1⟩ ⟨x', y', lim, wb, wp⟩ w ⟨h1, h2, h3, h4, h5, hB, hD, s⟩
  simp only at h1 h2 h3 h4 h5 hB hD s
  subst h1 h2
  show WP (slices_pdqsortCmpFunc_api_Route.L1 a0 f rc (x : Int) (y : Int) lim wb wp) w _
  unfold slices_pdqsortCmpFunc_api_Route.L1
  have e0 : IntKind.wrap .i64 ((y : Int) - (x : Int)) = ((y - x : Nat) : Int) := wr (by omega) (by omega)
  rw [e0]
  refine WP.ite (fun h12 => ?_) (fun h12 => ?_)
  ·obtain ⟨p1, p2⟩ := insertionSort_holds swo d1 x y h3 (by rw [s.sz]; exact h4)
   obtain ⟨q1, q2⟩ := hD _ p1 p2
   exact WP.step (ins_wp cm (by omega) x y h3 h4 s) (fun _ w s => WP.done ⟨_, q1, q2, s⟩)
  have hxy : x < y := by omega
  refine WP.ite (fun h0 => ?_) (fun h0 => ?_)
  ·obtain ⟨p1, p2⟩ := heapSort_holds swo d1 x y h3 (by rw [s.sz]; exact h4)
   obtain ⟨q1, q2⟩ := hD _ p1 p2
   exact WP.step (heap_wp cm (by omega) x y h3 h4 (by omega) s) (fun _ w s => WP.done ⟨_, q1, q2, s⟩)
  -- behind the patterns, the pivot, the reversal and the insertions
  have k1 : ∀ (lim : Int) (pv : Nat) (d2 : Array T) (w : World), x ≤ pv → pv < y → Below lt x y d2 → Does lt a b d x y d2 → St W [] R a0 sp D n d2 w →
    WP (slices_pdqsortCmpFunc_api_Route.K1 a0 f rc (x : Int) (y : Int) wb wp lim (pv : Int)) w (WP.Rd (fun x' w' => ∃ g' : (Nat × Nat) × Array T, (x'.1 = (g'.1.1 : Int) ∧ x'.2.1 = (g'.1.2 : Int) ∧ g'.1.1 ≤ g'.1.2 ∧ g'.1.2 ≤ n ∧ g'.1.2 - g'.1.1 ≤ b - a ∧ Below lt g'.1.1 g'.1.2 g'.2 ∧ Does lt a b d g'.1.1 g'.1.2 g'.2 ∧ St W [] R a0 sp D n g'.2 w') ∧ g'.1.2 - g'.1.1 < y - x) (fun (_ : Unit) w' => ∃ d', PermIn a b d d' ∧ SortedIn lt a b d' ∧ St W [] R a0 sp D n d' w')) := by
   clear s hB hD
   intro lim pv d2 w hp1 hp2 hB hD s
   unfold slices_pdqsortCmpFunc_api_Route.K1
   refine s.test (fun r => !(decide (r < 0))) (!lt d2[x - 1]! d2[pv]!) cm (x - 1) pv (fun h => wr (by omega) (by omega)) (fun _ => rfl) (fun h => by omega) (fun _ => by omega) (fun r hr => by rw [hr]) (fun hc hv w s => ?_) (fun hv w s => ?_)
   ·obtain ⟨g1, g2, g3, g4, g5⟩ := round_eq swo (partitionEqual_holds lt) (by omega) hp1 hp2 (by rw [s.sz]; exact h4) hB (by simpa using hv) (pivot := pv) (mid := (partitionEqual lt d2 x y pv).1) (d4 := (partitionEqual lt d2 x y pv).2) rfl
    refine WP.step (partEq_wp cm (by omega) x y pv hp1 hp2 h4 s) ?_
    rintro r w ⟨rfl, s⟩
    generalize (partitionEqual lt d2 x y pv).2 = d4 at g3 g4 g5 s
    generalize (partitionEqual lt d2 x y pv).1 = mid at g1 g2 g4 g5 s ⊢
    exact WP.next ⟨((mid, y), d4), ⟨rfl, rfl, g2, h4, by simp only; omega, g4, fun S q1 q2 => hD S (g5 S q1 q2).1 (g5 S q1 q2).2, s⟩, by simp only; omega⟩
   ·obtain ⟨g1, g2, g3, g4, g5, g6, g7⟩ := round_part swo (partition_holds lt) hp1 hp2 (by rw [s.sz]; exact h4) hB (mid := (partition lt d2 x y pv).1) (ap := (partition lt d2 x y pv).2.1) (d4 := (partition lt d2 x y pv).2.2) rfl
    refine WP.step (part_wp cm (by omega) x y pv hp1 hp2 h4 s) ?_
    rintro ⟨r, al⟩ w ⟨hr, s⟩
    simp only at hr
    subst hr
    generalize (partition lt d2 x y pv).2.2 = d4 at g3 g4 g5 g6 g7 s
    generalize (partition lt d2 x y pv).1 = mid at g1 g2 g4 g5 g6 g7 s ⊢
    simp only
    rw [wr (x := (mid : Int) - (x : Int)) (i := mid - x) (by omega) (by omega), wr (x := (y : Int) - (mid : Int)) (i := y - mid) (by omega) (by omega), wr (x := (mid : Int) + 1) (i := mid + 1) (by omega) (by omega)]
    refine WP.ite (fun hh => ?_) (fun hh => ?_)
    ·refine WP.step (ih x mid lim d4 w (by omega) g1 (by omega) g4 s) ?_
     rintro _ w ⟨S, p1, p2, s⟩
     obtain ⟨q1, q2⟩ := g6 S p1 p2
     exact WP.next ⟨((mid + 1, y), S), ⟨rfl, rfl, by simp only; omega, h4, by simp only; omega, q1, fun S' r1 r2 => hD S' (q2 S' r1 r2).1 (q2 S' r1 r2).2, s⟩, by simp only; omega⟩
    ·refine WP.step (ih (mid + 1) y lim d4 w (by omega) (by omega) h4 g5 s) ?_
     rintro _ w ⟨S, p1, p2, s⟩
     obtain ⟨q1, q2⟩ := g7 S p1 p2
     exact WP.next ⟨((x, mid), S), ⟨rfl, rfl, g1, by simp only; omega, by simp only; omega, q1, fun S' r1 r2 => hD S' (q2 S' r1 r2).1 (q2 S' r1 r2).2, s⟩, by simp only; omega⟩
  have k2 : ∀ (lim : Int) (pv : Nat) (hint : Int) (d2 : Array T) (w : World), x ≤ pv → pv < y → Below lt x y d2 → Does lt a b d x y d2 → St W [] R a0 sp D n d2 w →
    WP (slices_pdqsortCmpFunc_api_Route.K2 a0 f rc (x : Int) (y : Int) wb wp lim (pv : Int) hint) w (WP.Rd (fun x' w' => ∃ g' : (Nat × Nat) × Array T, (x'.1 = (g'.1.1 : Int) ∧ x'.2.1 = (g'.1.2 : Int) ∧ g'.1.1 ≤ g'.1.2 ∧ g'.1.2 ≤ n ∧ g'.1.2 - g'.1.1 ≤ b - a ∧ Below lt g'.1.1 g'.1.2 g'.2 ∧ Does lt a b d g'.1.1 g'.1.2 g'.2 ∧ St W [] R a0 sp D n g'.2 w') ∧ g'.1.2 - g'.1.1 < y - x) (fun (_ : Unit) w' => ∃ d', PermIn a b d d' ∧ SortedIn lt a b d' ∧ St W [] R a0 sp D n d' w')) := by
   clear s hB hD
   intro lim pv hint d2 w hp1 hp2 hB hD s
   unfold slices_pdqsortCmpFunc_api_Route.K2
   refine WP.step (R := fun _ w' => w = w') (WP.ite (fun _ => WP.ret rfl) (fun _ => WP.ret rfl)) ?_
   rintro u _ rfl
   refine WP.step (R := fun _ w' => w = w') (WP.ite (fun _ => WP.ret rfl) (fun _ => WP.ret rfl)) ?_
   rintro u' _ rfl
   refine WP.ite (fun _ => ?_) (fun _ => k1 lim pv d2 w hp1 hp2 hB hD s)
   obtain ⟨p1, p2⟩ := partialInsertionSort_holds swo d2 x y hxy (by rw [s.sz]; exact h4) hB
   refine WP.step (partIns_wp cm (by omega) x y hxy h4 s) ?_
   rintro r w ⟨rfl, s⟩
   refine WP.ite (fun hr => WP.done ?_) (fun hr => ?_)
   ·obtain ⟨q1, q2⟩ := hD _ p1 (p2 hr)
    exact ⟨_, q1, q2, s⟩
   ·exact k1 lim pv _ w hp1 hp2 (hB.perm (by rw [show d2.size = n by rw [← p1.1, s.sz]]; exact h4) p1) (hD.perm p1) s
  have k3 : ∀ (lim : Int) (d2 : Array T) (w : World), Below lt x y d2 → Does lt a b d x y d2 → St W [] R a0 sp D n d2 w →
    WP (slices_pdqsortCmpFunc_api_Route.K3 a0 f rc (x : Int) (y : Int) wb wp lim) w (WP.Rd (fun x' w' => ∃ g' : (Nat × Nat) × Array T, (x'.1 = (g'.1.1 : Int) ∧ x'.2.1 = (g'.1.2 : Int) ∧ g'.1.1 ≤ g'.1.2 ∧ g'.1.2 ≤ n ∧ g'.1.2 - g'.1.1 ≤ b - a ∧ Below lt g'.1.1 g'.1.2 g'.2 ∧ Does lt a b d g'.1.1 g'.1.2 g'.2 ∧ St W [] R a0 sp D n g'.2 w') ∧ g'.1.2 - g'.1.1 < y - x) (fun (_ : Unit) w' => ∃ d', PermIn a b d d' ∧ SortedIn lt a b d' ∧ St W [] R a0 sp D n d' w')) := by
   clear s hB hD
   intro lim d2 w hB hD s
   unfold slices_pdqsortCmpFunc_api_Route.K3
   refine WP.step (pivot_wp cm (by omega) x y hxy h4 s) ?_
   rintro ⟨r, hint⟩ w ⟨⟨pv, hr, hp1, hp2⟩, s⟩
   simp only at hr
   subst hr
   simp only
   refine WP.ite (fun hx => ?_) (fun hx => k2 lim pv _ d2 w hp1 hp2 hB hD s)
   refine WP.step (rev_wp (by omega) x y hxy h4 s) ?_
   rintro _ w ⟨d3, p, s⟩
   have e1 : IntKind.wrap .i64 (IntKind.wrap .i64 ((y : Int) - 1) - IntKind.wrap .i64 ((pv : Int) - (x : Int))) = (((y - 1) - (pv - x) : Nat) : Int) := by
    rw [wr (x := (y : Int) - 1) (i := y - 1) (by omega) (by omega), wr (x := (pv : Int) - (x : Int)) (i := pv - x) (by omega) (by omega)]
    exact wr (by omega) (by omega)
   rw [e1]
   exact k2 lim _ _ d3 w (by omega) (by omega) (hB.perm (by rw [show d2.size = n by rw [← p.1, s.sz]]; exact h4) p) (hD.perm p) s
  refine WP.ite (fun _ => ?_) (fun _ => k3 lim d1 w hB hD s)
  refine WP.step (break_wp hn x y h3 h4 s) ?_
  rintro _ w ⟨d2, p, s⟩
  exact k3 _ d2 w (hB.perm (by rw [show d1.size = n by rw [← p.1, s.sz]]; exact h4) p) (hD.perm p) s
theorem sort_wp (cm : SCmp W R D f lt) (swo : SWO lt) {l : List T} (hn : l.length < 65536) (hD : ∀ x ∈ l, D x) (s : Ss W (vec C a0 l sp :: R) w) :
  WP (slices_SortFunc_api_Route_api_Route a0 f) w (fun _ w' => ∃ l', l'.Perm l ∧ l'.Pairwise (fun x y => lt y x = false) ∧ Ss W (vec C a0 l' sp :: R) w') := by
 unfold slices_SortFunc_api_Route_api_Route slices_pdqsortCmpFunc_api_Route
 have hl := (s.vec_len (i := 0) rfl).1
 have s0 : St W [] R a0 sp D l.length l.toArray w := ⟨by simp, fun i hi => by
  rw [getElem!_pos _ _ (by simpa using hi)]
  exact hD _ (by simp), s⟩
 rw [hl, wrap_u64' (by omega) (by omega)]
 refine WP.step (len_wp l.length hn) ?_
 rintro _ w ⟨rfl, k, rfl, -, -⟩
 refine WP.step (pdq_wp cm swo hn _ 0 l.length _ l.toArray w (by omega) (Nat.zero_le _) (Nat.le_refl _) (.inl rfl) s0) ?_
 rintro _ w ⟨d', p, hs, s⟩
 refine WP.ret ⟨d'.toList, ?_, ?_, s.ss⟩
 ·have h1 := p.2.2
  have h2 : d'.extract 0 l.length = d' := by
   rw [← s.sz]
   simp
  have h3 : l.toArray.extract 0 l.length = l.toArray := by
   have : l.length = l.toArray.size := by simp
   rw [this]
   simp
  rw [h2, h3] at h1
  exact h1
 ·rw [List.pairwise_iff_getElem]
  intro i j hi hj hij
  have hsz : d'.size = l.length := s.sz
  have hj' : j < l.length := by rw [← hsz, ← Array.length_toList]; exact hj
  have := hs i j (Nat.zero_le _) hij hj'
  rw [getElem!_pos d' j (by omega), getElem!_pos d' i (by omega)] at this
  simpa using this
end
end Go.Proofs.YtfgcobigollfjaaDoor.Lx.Srt
