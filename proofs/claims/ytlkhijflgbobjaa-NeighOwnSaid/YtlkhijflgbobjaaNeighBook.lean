/- Lists that were handed out, written full and lengthened (the outright laws' Book), of its programs in the M-world. -/
import Derived.Test.YtlkhijflgbobjaaNeighHeld
import Derived.Test.YtlkhijflgbobjaaNeighRefN
set_option linter.unusedVariables false
set_option linter.unusedSimpArgs false
namespace Go.Proofs.Ytlkhijflgbobjaa.Lx
open Go Go.Proofs Go.RowKit
abbrev cAk := c_api_Ask
def MarkZ {α : Type} (f : α → Int) (z : List (Sl × List α)) : Prop := ∀ (i : Nat) p, z[i]? = some p → p.2.length ≤ 1000000 ∧ ∀ y ∈ p.2, f y = -100 - 3 * ((i / 3 : Nat) : Int)
def OwnHs (ba : Addr) (I N A : Sl) (z1 : List (Sl × List Int)) (z2 : List (Sl × List api_Neighbour)) (z3 : List (Sl × List api_Ask)) (s1 s2 s3 : List Sl) : List HP :=
  [pts true ba (c_weirlaw15_Book.enc ⟨I, N, A⟩), vec cL I (z1.map (·.1)) s1, vec cL N (z2.map (·.1)) s2, vec cL A (z3.map (·.1)) s3, Held (cI .i64) z1, Held cN z2, Held cAk z3]
structure OwnOk (t : Nat) (z1 : List (Sl × List Int)) (z2 : List (Sl × List api_Neighbour)) (z3 : List (Sl × List api_Ask)) : Prop where
  t0 : t ≤ 1000
  l1 : z1.length = 3 * t
  l2 : z2.length = 3 * t
  l3 : z3.length = 3 * t
  m1 : MarkZ id z1
  m2 : MarkZ api_Neighbour.Port z2
  m3 : MarkZ api_Ask.Port z3
def OwnP (b : Option Addr) (t : Nat) : HP := fun h => ∃ ba I N A z1 z2 z3 s1 s2 s3, b = some ba ∧ OwnOk t z1 z2 z3 ∧ seps (OwnHs ba I N A z1 z2 z3 s1 s2 s3) h
theorem MarkZ.snoc {α : Type} {f : α → Int} {z : List (Sl × List α)} {t : Nat} {a b c : Sl × List α} {m : Int} (h : MarkZ f z) (hl : z.length = 3 * t) (hm : m = -100 - 3 * (t : Int)) (ha : a.2.length ≤ 1000000 ∧ ∀ y ∈ a.2, f y = m) (hb : b.2.length ≤ 1000000 ∧ ∀ y ∈ b.2, f y = m) (hc : c.2.length ≤ 1000000 ∧ ∀ y ∈ c.2, f y = m) : MarkZ f (z ++ [a, b, c]) := by
  intro i p hp
  by_cases hi : i < z.length
  · rw [List.getElem?_append_left hi] at hp
    exact h i p hp
  · rw [List.getElem?_append_right (by omega)] at hp
    have hlt := (List.getElem?_eq_some_iff.1 hp).1
    simp only [List.length_cons, List.length_nil] at hlt
    have hd : i / 3 = t := by omega
    rw [hd, ← hm]
    have hmem := List.mem_of_getElem? hp
    simp only [List.mem_cons, List.not_mem_nil, or_false] at hmem
    rcases hmem with rfl | rfl | rfl
    · exact ha
    · exact hb
    · exact hc
section
variable {W w : World} {R Hs : List HP} {b : Option Addr} {t : Nat} {ba : Addr} {I N A : Sl} {z1 : List (Sl × List Int)} {z2 : List (Sl × List api_Neighbour)} {z3 : List (Sl × List api_Ask)} {s1 s2 s3 : List Sl}
theorem Ss.openO (s : Ss W (OwnP b t :: R) w) : ∃ ba I N A z1 z2 z3 s1 s2 s3, b = some ba ∧ OwnOk t z1 z2 z3 ∧ Ss W (OwnHs ba I N A z1 z2 z3 s1 s2 s3 ++ R) w := by
  obtain ⟨hb, k, ⟨h1, h2, e, l1, l2, ⟨ba, I, N, A, z1, z2, z3, s1, s2, s3, a1, a2, a3⟩, b⟩, hw⟩ := s
  exact ⟨ba, I, N, A, z1, z2, z3, s1, s2, s3, a1, a2, Ss.split ⟨hb, k, ⟨h1, h2, e, l1, l2, a3, b⟩, hw⟩⟩
theorem Ss.closeO (s : Ss W (OwnHs ba I N A z1 z2 z3 s1 s2 s3 ++ R) w) (h1 : b = some ba) (h2 : OwnOk t z1 z2 z3) : Ss W (OwnP b t :: R) w := s.group.first (fun h hh => ⟨ba, I, N, A, z1, z2, z3, s1, s2, s3, h1, h2, hh⟩)
theorem own_new {b : Nat} (s : Ss W (pts true (pt b 0) (c_weirlaw15_Book.enc z_weirlaw15_Book) :: R) w) : Ss W (OwnP (some (pt b 0)) 0 :: R) w := by
  have s := ((((((s.mk0 (A := Held cAk []) (by intro p hp; cases hp)).mk0 (A := Held cN []) (by intro p hp; cases hp)).mk0 (A := Held (cI .i64) []) (by intro p hp; cases hp)).mk0 (A := vec cL Sl.nil [] []) vec_nil).mk0 (A := vec cL Sl.nil [] []) vec_nil).mk0 (A := vec cL Sl.nil [] []) vec_nil).use [6] rfl
  exact Ss.closeO (ba := pt b 0) (I := Sl.nil) (N := Sl.nil) (A := Sl.nil) (z1 := []) (z2 := []) (z3 := []) (s1 := []) (s2 := []) (s3 := []) s rfl ⟨by omega, rfl, rfl, rfl, fun i p h => by simp at h, fun i p h => by simp at h, fun i p h => by simp at h⟩
theorem all_snoc {α : Type} {f : α → Int} {m : Int} {l : List α} {x : α} (h : ∀ y ∈ l, f y = m) (hx : f x = m) : (∀ y ∈ l ++ [x], f y = m) ∧ ∀ y ∈ l ++ [x, x], f y = m := by
  constructor
  · intro y hy
    rcases List.mem_append.1 hy with hy | hy
    · exact h y hy
    · simp only [List.mem_cons, List.not_mem_nil, or_false] at hy
      rw [hy, hx]
  · intro y hy
    rcases List.mem_append.1 hy with hy | hy
    · exact h y hy
    · simp only [List.mem_cons, List.not_mem_nil, or_false, or_self] at hy
      rw [hy, hx]
theorem keep_K1 {x2 l n a : Sl} {xs sx : _} {ns sn : _} {az sa : _} {m : Int}
    (s : Ss W (vec (cI .i64) l xs sx :: vec cN n ns sn :: vec cAk a az sa :: (OwnHs ba I N A z1 z2 z3 s1 s2 s3 ++ R)) w) (ok : OwnOk t z1 z2 z3) (ht : t < 1000)
    (hx2 : x2.len = 3 * t) (hm : m = -100 - 3 * (t : Int)) (h1 : xs.length ≤ 65536) (h2 : ns.length ≤ 65536) (h3 : az.length ≤ 65536) (q1 : ∀ y ∈ xs, id y = m) (q2 : ∀ y ∈ ns, y.Port = m) (q3 : ∀ y ∈ az, y.Port = m) :
    WP (weirlaw15_Book_keep.K1 (some ba) l n a x2) w (fun _ w' => Ss W (OwnP (some ba) (t + 1) :: R) w') := by
  have ht3 : (z1.map (·.1)).length = 3 * t ∧ (z2.map (·.1)).length = 3 * t ∧ (z3.map (·.1)).length = 3 * t := by
    simp only [List.length_map]
    exact ⟨ok.l1, ok.l2, ok.l3⟩
  obtain ⟨k1, k2, k3⟩ := ht3
  unfold weirlaw15_Book_keep.K1
  rw [hx2, show IntKind.wrap .i64 ((-100) - ((3 * t : Nat) : Int)) = m by rw [wrap_i64 (by omega) (by omega)]; omega]
  refine WP.app2 s 0 rfl (by omega) (by decide) (by decide) (fun r1 r2 w s => ?_)
  refine WP.app2 s 1 rfl (by omega) (by decide) (by decide) (fun r3 r4 w s => ?_)
  refine WP.app2 s 2 rfl (by omega) (by decide) (by decide) (fun r5 r6 w s => ?_)
  have s := s.use [3] rfl
  refine WP.nilck (WP.ld s 0 rfl (o := 0) (by simp [Addr.add]) (At_weirlaw15_Book_I _) (WP.slot' s (fun _ w s => ?_)))
  have s := s.use [0, 3, 3, 3, 3, 3, 3, 2, 1, 0] rfl
  refine WP.appl s 1 rfl (by simp only [List.length_cons, List.length_nil, k1]; omega) (by decide) (fun I' w i' s => WP.nilck ?_)
  refine WP.st s 0 rfl (o := 0) (by simp [Addr.add]) (Up_weirlaw15_Book_I _ _) (fun w s => WP.nilck ?_)
  refine WP.ld s 0 rfl (o := 1) rfl (At_weirlaw15_Book_N _) (WP.slot' s (fun _ w s => ?_))
  refine WP.appl s 2 rfl (by simp only [List.length_cons, List.length_nil, k2]; omega) (by decide) (fun N' w n' s => WP.nilck ?_)
  refine WP.st s 0 rfl (o := 1) rfl (Up_weirlaw15_Book_N _ _) (fun w s => WP.nilck ?_)
  refine WP.ld s 0 rfl (o := 2) rfl (At_weirlaw15_Book_A _) (WP.slot' s (fun _ w s => ?_))
  refine WP.appl s 3 rfl (by simp only [List.length_cons, List.length_nil, k3]; omega) (by decide) (fun A' w a' s => WP.nilck ?_)
  refine WP.st s 0 rfl (o := 2) rfl (Up_weirlaw15_Book_A _ _) (fun w s => WP.ret ?_)
  have s : Ss W (pts true ba (c_weirlaw15_Book.enc ⟨I', N', A'⟩) :: vec cL I' (z1.map (·.1) ++ [l, r1, r2]) i' :: vec cL N' (z2.map (·.1) ++ [n, r3, r4]) n' :: vec cL A' (z3.map (·.1) ++ [a, r5, r6]) a' :: Held (cI .i64) z1 :: Held cN z2 :: Held cAk z3 ::
    Held (cI .i64) [(l, xs), (r1, xs ++ [m]), (r2, xs ++ [m, m])] :: Held cN [(n, ns), (r3, ns ++ [_]), (r4, ns ++ [_, _])] :: Held cAk [(a, az), (r5, az ++ [_]), (r6, az ++ [_, _])] :: R) w := s
  have s := s.use [4, 6, 4, 5, 4, 4] rfl
  have s := Held.app s
  have s := Held.app (s.use [1, 1] rfl)
  have s := Held.app (s.use [2, 2] rfl)
  have s := s.use [3, 3, 3, 3, 2, 1, 0] rfl
  obtain ⟨p1, p2⟩ := all_snoc (f := id) q1 (x := m) rfl
  obtain ⟨p3, p4⟩ := all_snoc (f := api_Neighbour.Port) q2 (x := (⟨m, z_api_Neighbour.IP, z_api_Neighbour.Mac, z_api_Neighbour.State, z_api_Neighbour.Age, z_api_Neighbour.Tries, z_api_Neighbour.Waiting⟩ : api_Neighbour)) rfl
  obtain ⟨p5, p6⟩ := all_snoc (f := api_Ask.Port) q3 (x := (⟨m, z_api_Ask.IP, z_api_Ask.Mac, z_api_Ask.Try⟩ : api_Ask)) rfl
  have hl : ∀ {α : Type} (l : List α) (x : α), l.length ≤ 65536 → l.length ≤ 1000000 ∧ (l ++ [x]).length ≤ 1000000 ∧ (l ++ [x, x]).length ≤ 1000000 := fun l x h => ⟨by omega, by simp only [List.length_append, List.length_cons, List.length_nil]; omega, by simp only [List.length_append, List.length_cons, List.length_nil]; omega⟩
  have g1 := hl xs m h1
  have g2 := hl ns (⟨m, z_api_Neighbour.IP, z_api_Neighbour.Mac, z_api_Neighbour.State, z_api_Neighbour.Age, z_api_Neighbour.Tries, z_api_Neighbour.Waiting⟩ : api_Neighbour) h2
  have g3 := hl az (⟨m, z_api_Ask.IP, z_api_Ask.Mac, z_api_Ask.Try⟩ : api_Ask) h3
  have o1 := ok.m1.snoc (a := (l, xs)) (b := (r1, xs ++ [m])) (c := (r2, xs ++ [m, m])) ok.l1 hm ⟨g1.1, q1⟩ ⟨g1.2.1, p1⟩ ⟨g1.2.2, p2⟩
  have o2 := ok.m2.snoc (a := (n, ns)) (b := (r3, ns ++ [(⟨m, z_api_Neighbour.IP, z_api_Neighbour.Mac, z_api_Neighbour.State, z_api_Neighbour.Age, z_api_Neighbour.Tries, z_api_Neighbour.Waiting⟩ : api_Neighbour)])) (c := (r4, ns ++ [(⟨m, z_api_Neighbour.IP, z_api_Neighbour.Mac, z_api_Neighbour.State, z_api_Neighbour.Age, z_api_Neighbour.Tries, z_api_Neighbour.Waiting⟩ : api_Neighbour), (⟨m, z_api_Neighbour.IP, z_api_Neighbour.Mac, z_api_Neighbour.State, z_api_Neighbour.Age, z_api_Neighbour.Tries, z_api_Neighbour.Waiting⟩ : api_Neighbour)])) ok.l2 hm ⟨g2.1, q2⟩ ⟨g2.2.1, p3⟩ ⟨g2.2.2, p4⟩
  have o3 := ok.m3.snoc (a := (a, az)) (b := (r5, az ++ [(⟨m, z_api_Ask.IP, z_api_Ask.Mac, z_api_Ask.Try⟩ : api_Ask)])) (c := (r6, az ++ [(⟨m, z_api_Ask.IP, z_api_Ask.Mac, z_api_Ask.Try⟩ : api_Ask), (⟨m, z_api_Ask.IP, z_api_Ask.Mac, z_api_Ask.Try⟩ : api_Ask)])) ok.l3 hm ⟨g3.1, q3⟩ ⟨g3.2.1, p5⟩ ⟨g3.2.2, p6⟩
  have e1 : ∀ {α : Type} (z : List (Sl × List α)) (p q r : Sl × List α), z.map (·.1) ++ [p.1, q.1, r.1] = (z ++ [p, q, r]).map (·.1) := fun z p q r => by simp
  have e2 : ∀ {α : Type} (z : List (Sl × List α)) (p q r : Sl × List α), z.length = 3 * t → (z ++ [p, q, r]).length = 3 * (t + 1) := fun z p q r h => by rw [List.length_append, h]; simp only [List.length_cons, List.length_nil]; omega
  have f1 := e1 z1 (l, xs) (r1, xs ++ [m]) (r2, xs ++ [m, m])
  have f2 := e1 z2 (n, ns) (r3, ns ++ [(⟨m, z_api_Neighbour.IP, z_api_Neighbour.Mac, z_api_Neighbour.State, z_api_Neighbour.Age, z_api_Neighbour.Tries, z_api_Neighbour.Waiting⟩ : api_Neighbour)]) (r4, ns ++ [(⟨m, z_api_Neighbour.IP, z_api_Neighbour.Mac, z_api_Neighbour.State, z_api_Neighbour.Age, z_api_Neighbour.Tries, z_api_Neighbour.Waiting⟩ : api_Neighbour), (⟨m, z_api_Neighbour.IP, z_api_Neighbour.Mac, z_api_Neighbour.State, z_api_Neighbour.Age, z_api_Neighbour.Tries, z_api_Neighbour.Waiting⟩ : api_Neighbour)])
  have f3 := e1 z3 (a, az) (r5, az ++ [(⟨m, z_api_Ask.IP, z_api_Ask.Mac, z_api_Ask.Try⟩ : api_Ask)]) (r6, az ++ [(⟨m, z_api_Ask.IP, z_api_Ask.Mac, z_api_Ask.Try⟩ : api_Ask), (⟨m, z_api_Ask.IP, z_api_Ask.Mac, z_api_Ask.Try⟩ : api_Ask)])
  simp only at f1 f2 f3
  rw [f1, f2, f3] at s
  exact Ss.closeO (ba := ba) s rfl ⟨by omega, e2 _ _ _ _ ok.l1, e2 _ _ _ _ ok.l2, e2 _ _ _ _ ok.l3, o1, o2, o3⟩
def Upto {α : Type} (f : α → Int) (m : Int) (n k : Nat) (xs : List α) : Prop := xs.length = n ∧ ∀ i y, i < k → xs[i]? = some y → f y = m
theorem Upto.set {α : Type} {f : α → Int} {m : Int} {n k : Nat} {xs : List α} {x : α} (h : Upto f m n k xs) (hx : f x = m) : Upto f m n (k + 1) (xs.set k x) := by
  refine ⟨by rw [List.length_set]; exact h.1, fun i y hi hy => ?_⟩
  by_cases e : i = k
  · subst e
    have hlt := (List.getElem?_eq_some_iff.1 hy).1
    rw [List.length_set] at hlt
    rw [List.getElem?_set_self hlt] at hy
    cases hy
    exact hx
  · rw [List.getElem?_set_ne (fun h => e h.symm)] at hy
    exact h.2 i y (by omega) hy
theorem Upto.all {α : Type} {f : α → Int} {m : Int} {n k : Nat} {xs : List α} (h : Upto f m n k xs) (hk : n ≤ k) : ∀ y ∈ xs, f y = m := fun y hy => by
  obtain ⟨i, hi, rfl⟩ := List.mem_iff_getElem.1 hy
  exact h.2 i _ (by have := h.1; omega) (List.getElem?_eq_getElem hi)
theorem keep_wp {l n a : Sl} {xs sx : _} {ns sn : _} {az sa : _}
    (s : Ss W (vec (cI .i64) l xs sx :: vec cN n ns sn :: vec cAk a az sa :: OwnP b t :: R) w) (ht : t < 1000)
    (h1 : xs.length ≤ 65536) (h2 : ns.length ≤ 65536) (h3 : az.length ≤ 65536) :
    WP (weirlaw15_Book_keep b l n a) w (fun _ w' => Ss W (OwnP b (t + 1) :: R) w') := by
  obtain ⟨ba, I, N, A, z1, z2, z3, s1, s2, s3, rfl, ok, s⟩ := (s.use [3] rfl).openO
  have s : Ss W (vec (cI .i64) l xs sx :: vec cN n ns sn :: vec cAk a az sa :: (OwnHs ba I N A z1 z2 z3 s1 s2 s3 ++ R)) w := s.use [7, 7, 7] rfl
  have hI := (s.vec_len (i := 4) rfl).1
  rw [List.length_map, ok.l1] at hI
  have e1 := (s.vec_len (i := 0) rfl).1
  have e2 := (s.vec_len (i := 1) rfl).1
  have e3 := (s.vec_len (i := 2) rfl).1
  have hm : IntKind.wrap .i64 ((-100) - ((3 * t : Nat) : Int)) = -100 - 3 * (t : Int) := by rw [wrap_i64 (by omega) (by omega)]; omega
  unfold weirlaw15_Book_keep
  refine WP.nilck (WP.ld s 3 rfl (o := 0) (by simp [Addr.add]) (At_weirlaw15_Book_I _) ?_)
  simp only
  refine WP.loopG (γ := Nat × List Int) (fun g (x : Int) w => x = (g.1 : Int) ∧ g.1 ≤ xs.length ∧ Upto id (-100 - 3 * (t : Int)) xs.length g.1 g.2 ∧ Ss W (vec (cI .i64) l g.2 sx :: vec cN n ns sn :: vec cAk a az sa :: (OwnHs ba I N A z1 z2 z3 s1 s2 s3 ++ R)) w) (fun g _ => xs.length - g.1) (0, xs) ⟨rfl, Nat.zero_le _, ⟨rfl, fun i y h => absurd h (by omega)⟩, s⟩ ?_
  clear s
  rintro ⟨i, ys⟩ _ w ⟨rfl, hi, hu, s⟩
  simp only at hi hu s
  show WP (weirlaw15_Book_keep.L3 _ _ _ _ _ (i : Int)) w _
  unfold weirlaw15_Book_keep.L3
  have hul := hu.1
  refine WP.ite (fun h => ?_) (fun h => ?_)
  · rw [hI, hm]
    refine WP.stx (c := cI .i64) s 0 rfl (by omega) (by omega) rfl (fun w s => WP.next ⟨(i + 1, ys.set i (-100 - 3 * (t : Int))), ⟨?_, by simp only; omega, hu.set rfl, ?_⟩, by simp only; omega⟩)
    · rw [wrap_i64 (by omega) (by omega)]
      simp
    · rw [Int.toNat_natCast] at s
      exact s
  have q1 := hu.all (by omega)
  unfold weirlaw15_Book_keep.K3
  refine WP.step ?_ (fun r w h => WP.done h)
  rw [← hul] at h1
  refine WP.loopG (γ := Nat × List api_Neighbour) (fun g (x : Int) w => x = (g.1 : Int) ∧ g.1 ≤ ns.length ∧ Upto api_Neighbour.Port (-100 - 3 * (t : Int)) ns.length g.1 g.2 ∧ Ss W (vec (cI .i64) l ys sx :: vec cN n g.2 sn :: vec cAk a az sa :: (OwnHs ba I N A z1 z2 z3 s1 s2 s3 ++ R)) w) (fun g _ => ns.length - g.1) (0, ns) ⟨rfl, Nat.zero_le _, ⟨rfl, fun i y h => absurd h (by omega)⟩, s⟩ ?_
  clear s
  rintro ⟨i, zs⟩ _ w ⟨rfl, hi, hu, s⟩
  simp only at hi hu s
  show WP (weirlaw15_Book_keep.L2 _ _ _ _ _ (i : Int)) w _
  unfold weirlaw15_Book_keep.L2
  have hul := hu.1
  refine WP.ite (fun h => ?_) (fun h => ?_)
  · rw [hI, hm]
    have hx := List.getElem?_eq_getElem (show i < zs.length by omega)
    generalize zs[i] = y at hx
    refine WP.stxp0 (c := cN) (d := cI .i64) s 1 rfl (by omega) (by rw [Int.toNat_natCast]; exact hx) rfl (Up_api_Neighbour_Port _ _) (fun w s => WP.next ⟨(i + 1, zs.set i ⟨-100 - 3 * (t : Int), y.IP, y.Mac, y.State, y.Age, y.Tries, y.Waiting⟩), ⟨?_, by simp only; omega, hu.set rfl, ?_⟩, by simp only; omega⟩)
    · rw [wrap_i64 (by omega) (by omega)]
      simp
    · rw [Int.toNat_natCast] at s
      exact s
  have q2 := hu.all (by omega)
  unfold weirlaw15_Book_keep.K2
  refine WP.step ?_ (fun r w h => WP.done h)
  rw [← hul] at h2
  refine WP.loopG (γ := Nat × List api_Ask) (fun g (x : Int) w => x = (g.1 : Int) ∧ g.1 ≤ az.length ∧ Upto api_Ask.Port (-100 - 3 * (t : Int)) az.length g.1 g.2 ∧ Ss W (vec (cI .i64) l ys sx :: vec cN n zs sn :: vec cAk a g.2 sa :: (OwnHs ba I N A z1 z2 z3 s1 s2 s3 ++ R)) w) (fun g _ => az.length - g.1) (0, az) ⟨rfl, Nat.zero_le _, ⟨rfl, fun i y h => absurd h (by omega)⟩, s⟩ ?_
  clear s
  rintro ⟨i, as'⟩ _ w ⟨rfl, hi, hu, s⟩
  simp only at hi hu s
  show WP (weirlaw15_Book_keep.L1 _ _ _ _ _ (i : Int)) w _
  unfold weirlaw15_Book_keep.L1
  have hul := hu.1
  refine WP.ite (fun h => ?_) (fun h => ?_)
  · rw [hI, hm]
    have hx := List.getElem?_eq_getElem (show i < as'.length by omega)
    generalize as'[i] = y at hx
    refine WP.stxp0 (c := cAk) (d := cI .i64) s 2 rfl (by omega) (by rw [Int.toNat_natCast]; exact hx) rfl (Up_api_Ask_Port _ _) (fun w s => WP.next ⟨(i + 1, as'.set i ⟨-100 - 3 * (t : Int), y.IP, y.Mac, y.Try⟩), ⟨?_, by simp only; omega, hu.set rfl, ?_⟩, by simp only; omega⟩)
    · rw [wrap_i64 (by omega) (by omega)]
      simp
    · rw [Int.toNat_natCast] at s
      exact s
  have q3 := hu.all (by omega)
  rw [← hul] at h3
  exact WP.step (keep_K1 s ok ht hI rfl h1 h2 h3 q1 q2 q3) (fun r w h => WP.done h)
theorem stands_wp (s : Ss W (OwnP b t :: R) w) : WP (weirlaw15_Book_stands b) w (fun y w' => y = true ∧ Ss W (OwnP b t :: R) w') := by
  obtain ⟨ba, I, N, A, z1, z2, z3, s1, s2, s3, rfl, ok, s⟩ := s.openO
  have ht := ok.t0
  have k1 : (z1.map (·.1)).length = 3 * t := by rw [List.length_map, ok.l1]
  have k2 : (z2.map (·.1)).length = 3 * t := by rw [List.length_map, ok.l2]
  have k3 : (z3.map (·.1)).length = 3 * t := by rw [List.length_map, ok.l3]
  unfold weirlaw15_Book_stands
  refine WP.loopG (γ := Nat) (fun i (x : Int) w => x = (i : Int) ∧ i ≤ 3 * t ∧ Ss W (OwnHs ba I N A z1 z2 z3 s1 s2 s3 ++ R) w) (fun i _ => 3 * t - i) 0 ⟨rfl, by omega, s⟩ ?_
  clear s
  rintro i _ w ⟨rfl, hi, s⟩
  show WP (weirlaw15_Book_stands.L1 _ (i : Int)) w _
  unfold weirlaw15_Book_stands.L1
  have hI := (s.vec_len (i := 1) rfl).1
  rw [k1] at hI
  refine WP.nilck (WP.ld s 0 rfl (o := 0) (by simp [Addr.add]) (At_weirlaw15_Book_I _) ?_)
  refine WP.ite (fun h => ?_) (fun h => WP.done ⟨rfl, s.closeO rfl ok⟩)
  have hi : i < 3 * t := by
    have h : (i : Int) < (I.len : Int) := h
    omega
  obtain ⟨p1, hp1⟩ : ∃ p, z1[i]? = some p := ⟨_, List.getElem?_eq_getElem (by rw [ok.l1]; exact hi)⟩
  obtain ⟨p2, hp2⟩ : ∃ p, z2[i]? = some p := ⟨_, List.getElem?_eq_getElem (by rw [ok.l2]; exact hi)⟩
  obtain ⟨p3, hp3⟩ : ∃ p, z3[i]? = some p := ⟨_, List.getElem?_eq_getElem (by rw [ok.l3]; exact hi)⟩
  have g1 : (z1.map (·.1))[i]? = some p1.1 := by rw [List.getElem?_map, hp1]; rfl
  have g2 : (z2.map (·.1))[i]? = some p2.1 := by rw [List.getElem?_map, hp2]; rfl
  have g3 : (z3.map (·.1))[i]? = some p3.1 := by rw [List.getElem?_map, hp3]; rfl
  obtain ⟨b1, m1⟩ := ok.m1 i p1 hp1
  obtain ⟨b2, m2⟩ := ok.m2 i p2 hp2
  obtain ⟨b3, m3⟩ := ok.m3 i p3 hp3
  have hm : IntKind.wrap .i64 ((-100) - (IntKind.wrap .i64 ((IntKind.wrap .i64 (Int.tdiv (i : Int) 3)) * 3))) = -100 - 3 * ((i / 3 : Nat) : Int) := by
    have e : Int.tdiv (i : Int) 3 = ((i / 3 : Nat) : Int) := by
      rw [Int.tdiv_eq_ediv_of_nonneg (by omega)]
      rfl
    rw [e, wrap_i64 (n := ((i / 3 : Nat) : Int)) (by omega) (by omega), wrap_i64 (n := ((i / 3 : Nat) : Int) * 3) (by omega) (by omega), wrap_i64 (by omega) (by omega)]
    omega
  generalize -100 - 3 * ((i / 3 : Nat) : Int) = m at hm m1 m2 m3
  refine WP.loopG (γ := Nat) (fun j (x : Int) w => x = (j : Int) ∧ j ≤ p1.2.length ∧ Ss W (OwnHs ba I N A z1 z2 z3 s1 s2 s3 ++ R) w) (fun j _ => p1.2.length - j) 0 ⟨rfl, by omega, s⟩ ?_
  clear s
  rintro j _ w ⟨rfl, hj, s⟩
  show WP (weirlaw15_Book_stands.L4 _ (i : Int) (j : Int)) w _
  unfold weirlaw15_Book_stands.L4
  have e1 := (s.rd_len (i := 4) rfl (Held.rdb (c := cI .i64) (List.mem_of_getElem? hp1))).1
  refine WP.nilck (WP.ld s 0 rfl (o := 0) (by simp [Addr.add]) (At_weirlaw15_Book_I _) ?_)
  refine WP.rdx s 1 rfl vec_rdb (by omega) (by rw [Int.toNat_natCast]; exact g1) rfl ?_
  refine WP.ite (fun h => WP.nilck (WP.ld s 0 rfl (o := 0) (by simp [Addr.add]) (At_weirlaw15_Book_I _) ?_)) (fun h => ?_)
  · refine WP.rdx s 1 rfl vec_rdb (by omega) (by rw [Int.toNat_natCast]; exact g1) rfl ?_
    have hx := List.getElem?_eq_getElem (show j < p1.2.length by omega)
    generalize p1.2[j]'(by omega) = y at hx
    refine WP.rdx s 4 rfl (Held.rdb (c := cI .i64) (List.mem_of_getElem? hp1)) (by omega) (by rw [Int.toNat_natCast]; exact hx) rfl ?_
    rw [hm]
    refine WP.ite (fun h => absurd (m1 y (List.mem_of_getElem? hx)) h) (fun _ => WP.next ⟨j + 1, ⟨by rw [wrap_i64 (by omega) (by omega)]; simp, by omega, s⟩, by omega⟩)
  unfold weirlaw15_Book_stands.K2
  refine WP.step ?_ (fun r w h => WP.done h)
  refine WP.loopG (γ := Nat) (fun j (x : Int) w => x = (j : Int) ∧ j ≤ p2.2.length ∧ Ss W (OwnHs ba I N A z1 z2 z3 s1 s2 s3 ++ R) w) (fun j _ => p2.2.length - j) 0 ⟨rfl, by omega, s⟩ ?_
  clear s
  rintro j _ w ⟨rfl, hj, s⟩
  show WP (weirlaw15_Book_stands.L3 _ (i : Int) (j : Int)) w _
  unfold weirlaw15_Book_stands.L3
  have e2 := (s.rd_len (i := 5) rfl (Held.rdb (c := cN) (List.mem_of_getElem? hp2))).1
  refine WP.nilck (WP.ld s 0 rfl (o := 1) rfl (At_weirlaw15_Book_N _) ?_)
  refine WP.rdx s 2 rfl vec_rdb (by omega) (by rw [Int.toNat_natCast]; exact g2) rfl ?_
  refine WP.ite (fun h => WP.nilck (WP.ld s 0 rfl (o := 1) rfl (At_weirlaw15_Book_N _) ?_)) (fun h => ?_)
  · refine WP.rdx s 2 rfl vec_rdb (by omega) (by rw [Int.toNat_natCast]; exact g2) rfl ?_
    have hx := List.getElem?_eq_getElem (show j < p2.2.length by omega)
    generalize p2.2[j]'(by omega) = y at hx
    refine WP.rdxp0 s 5 rfl (Held.rdb (c := cN) (List.mem_of_getElem? hp2)) (by omega) (by rw [Int.toNat_natCast]; exact hx) rfl (At_api_Neighbour_Port _) ?_
    rw [hm]
    refine WP.ite (fun h => absurd (m2 y (List.mem_of_getElem? hx)) h) (fun _ => WP.next ⟨j + 1, ⟨by rw [wrap_i64 (by omega) (by omega)]; simp, by omega, s⟩, by omega⟩)
  unfold weirlaw15_Book_stands.K1
  refine WP.step ?_ (fun r w h => WP.done h)
  refine WP.loopG (γ := Nat) (fun j (x : Int) w => x = (j : Int) ∧ j ≤ p3.2.length ∧ Ss W (OwnHs ba I N A z1 z2 z3 s1 s2 s3 ++ R) w) (fun j _ => p3.2.length - j) 0 ⟨rfl, by omega, s⟩ ?_
  clear s
  rintro j _ w ⟨rfl, hj, s⟩
  show WP (weirlaw15_Book_stands.L2 _ (i : Int) (j : Int)) w _
  unfold weirlaw15_Book_stands.L2
  have e3 := (s.rd_len (i := 6) rfl (Held.rdb (c := cAk) (List.mem_of_getElem? hp3))).1
  refine WP.nilck (WP.ld s 0 rfl (o := 2) rfl (At_weirlaw15_Book_A _) ?_)
  refine WP.rdx s 3 rfl vec_rdb (by omega) (by rw [Int.toNat_natCast]; exact g3) rfl ?_
  refine WP.ite (fun h => WP.nilck (WP.ld s 0 rfl (o := 2) rfl (At_weirlaw15_Book_A _) ?_)) (fun h => ?_)
  · refine WP.rdx s 3 rfl vec_rdb (by omega) (by rw [Int.toNat_natCast]; exact g3) rfl ?_
    have hx := List.getElem?_eq_getElem (show j < p3.2.length by omega)
    generalize p3.2[j]'(by omega) = y at hx
    refine WP.rdxp0 s 6 rfl (Held.rdb (c := cAk) (List.mem_of_getElem? hp3)) (by omega) (by rw [Int.toNat_natCast]; exact hx) rfl (At_api_Ask_Port _) ?_
    rw [hm]
    refine WP.ite (fun h => absurd (m3 y (List.mem_of_getElem? hx)) h) (fun _ => WP.next ⟨j + 1, ⟨by rw [wrap_i64 (by omega) (by omega)]; simp, by omega, s⟩, by omega⟩)
  · refine WP.done ?_
    exact ⟨i + 1, ⟨by rw [wrap_i64 (by omega) (by omega)]; simp, by omega, s⟩, by omega⟩
end
end Go.Proofs.Ytlkhijflgbobjaa.Lx
