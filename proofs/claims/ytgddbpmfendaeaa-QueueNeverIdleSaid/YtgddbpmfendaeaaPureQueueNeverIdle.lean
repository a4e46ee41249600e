/- The law QueueNeverIdle, of its program in the M-world: an item comes just when a class waits that is not held up, and a shaped class keeps to its tokens: it answers true, and nothing that was there is turned. -/
import Derived.Test.YtgddbpmfendaeaaQueuePurse
import Derived.Test.YtgddbpmfendaeaaLxQ
set_option linter.unusedVariables false
set_option linter.unusedSimpArgs false
namespace Go.Proofs.Ytgddbpmfendaeaa.Lx
open Go Go.Proofs Go.RowKit

/-- what was served to a shaped class, and its tokens, against what it was given -/
def SVok (tk : Int) (sv : List Int) (m : QM) : Prop := tk < 1000000 → ∀ (i : Nat) (k : Cl) (v : Int), m.cl[i]? = some k → k.c.Rate > 0 → sv[i]? = some v → 0 ≤ v ∧ v + k.tok ≤ k.c.Burst + tk * k.c.Rate
theorem SVok.same {tk : Int} {sv : List Int} {m m' : QM} (p : SVok tk sv m) (h : m'.cl.map ct = m.cl.map ct) : SVok tk sv m' := by
  intro ht i k' v hk hr hv
  obtain ⟨k, hk2, e1, e2⟩ := ct_get h hk
  rw [← e1, ← e2]
  exact p ht i k v hk2 (by rw [e1]; exact hr) hv
theorem SVok.tick {tk : Int} {sv : List Int} {m : QM} (p : SVok tk sv m) : SVok (tk + 1) sv m.tick := by
  intro ht i k' v hj hr hv
  unfold QM.tick at hj
  simp only [List.getElem?_map, Option.map_eq_some_iff] at hj
  obtain ⟨k, hk, rfl⟩ := hj
  have hr' : k.c.Rate > 0 := by
    split at hr
    · assumption
    · exact hr
  have := p (by omega) i k v hk hr' hv
  rw [if_pos hr', Int.add_mul, Int.one_mul]
  simp only
  omega
theorem SVok.pop {tk : Int} {sv : List Int} {m m2 : QM} (p : SVok tk sv m) (ok : m.Ok) {i : Nat} {k : Cl} {x : queue_item} (hk : m.cl[i]? = some k) (h : m2.cl.map ct = (m.cl.map ct).set i (k.c, if k.c.Rate > 0 then k.tok - x.size else k.tok)) (hx : 1 ≤ x.size) (hxt : k.c.Rate > 0 → x.size ≤ k.tok) (hl : sv.length = m.n) (h0 : 0 ≤ tk) : SVok tk (sv.set i (IntKind.wrap .i64 (sv.getD i 0 + x.size))) m2 := by
  intro ht j k' v hj hr hv
  have hi := (List.getElem?_eq_some_iff.1 hk).1
  have e := congrArg (fun l => l[j]?) h
  simp only [List.getElem?_map, hj, Option.map_some] at e
  by_cases hij : j = i
  · subst hij
    rw [List.getElem?_set_self (by simpa using hi)] at e
    simp only [Option.some.injEq] at e
    have e1 : k'.c = k.c := congrArg Prod.fst e
    have e2 : k'.tok = if k.c.Rate > 0 then k.tok - x.size else k.tok := congrArg Prod.snd e
    rw [e1] at hr ⊢
    rw [if_pos hr] at e2
    have hsv : sv[j]? = some (sv.getD j 0) := getD_get (by rw [hl]; exact hi)
    have hp := p ht j k _ hk hr hsv
    have hcl := okClass_iff.1 (ok.cl k (List.mem_of_getElem? hk)).c
    have hmul : tk * k.c.Rate ≤ 1000000 * 67108864 := Int.mul_le_mul (by omega) (by omega) (by omega) (by omega)
    have hxt := hxt hr
    have htk := (ok.cl k (List.mem_of_getElem? hk)).tok hr
    rw [List.getElem?_set_self (by rw [hl]; exact hi), Option.some.injEq] at hv
    generalize tk * k.c.Rate = M at *
    rw [wrap_i64 (by omega) (by omega)] at hv
    omega
  · rw [List.getElem?_set_ne (fun h => hij h.symm), List.getElem?_map] at e
    cases hc : m.cl[j]? with
    | none => rw [hc] at e; cases e
    | some k2 =>
      rw [hc] at e
      simp only [Option.map_some, Option.some.injEq] at e
      have e1 : k'.c = k2.c := congrArg Prod.fst e
      have e2 : k'.tok = k2.tok := congrArg Prod.snd e
      rw [List.getElem?_set_ne (fun h => hij h.symm)] at hv
      rw [e1] at hr ⊢
      rw [e2]
      exact p ht j k2 v hc hr hv
theorem Pops.is {m m2 : QM} {y d : Int} {is : Bool} (h : Pops m (y, d, is) m2) : is = m.some_ := by
  cases h with
  | none h => exact h.symm
  | item h _ _ => exact h.symm
theorem rdy_tok {k : Cl} {x : queue_item} {q' : List queue_item} (h : k.rdy = true) (hx : k.q = x :: q') (hr : k.c.Rate > 0) : x.size ≤ k.tok := by
  unfold Cl.rdy at h
  rw [hx] at h
  simp only [rdy, Bool.or_eq_true, beq_iff_eq, decide_eq_true_eq] at h
  omega
abbrev NIs (q1 : Addr) (bk pu : Option Addr) (l1 : Sl) (ys : List api_Class) (R : List HP) (m : QM) (sv ts : List Int) : List HP := Queue (some q1) m :: Book bk m.qs sv :: Purse pu ts :: rdS c_api_Class false l1 ys :: R
structure NIJ (ys : List api_Class) (tk : Int) (m : QM) (sv ts : List Int) : Prop where
  c : m.cl.map (·.c) = ys
  p : PT ts m
  s : SVok tk sv m
  t0 : 0 ≤ tk
  t1 : tk ≤ 1000000
section
variable {W w : World} {R : List HP} {q1 : Addr} {bk pu : Option Addr} {l1 : Sl} {ys : List api_Class} {m m2 : QM} {sv ts : List Int} {tk s9 : Int} {L : Nat} {Q : Bool → World → Prop}
def NIN (W : World) (R : List HP) (q1 : Addr) (bk pu : Option Addr) (l1 : Sl) (ys : List api_Class) (L : Nat) (x : Int × Int) (w : World) : Prop := 0 ≤ x.2 ∧ x.2 ≤ L + 1 ∧ ∃ m sv ts, NIJ ys x.1 m sv ts ∧ Ss W (NIs q1 bk pu l1 ys R m sv ts) w
abbrev NIR (W : World) (R : List HP) (q1 : Addr) (bk pu : Option Addr) (l1 : Sl) (ys : List api_Class) (L : Nat) (s9 : Int) (Q : Bool → World → Prop) : LS (Int × Int) Bool → World → Prop :=
  WP.Rd (fun x w' => NIN W R q1 bk pu l1 ys L x w' ∧ ((L : Int) + 1 - x.2).toNat < ((L : Int) + 1 - s9).toNat) Q
theorem Ni1_wp (h0 : 0 ≤ s9) (h1 : s9 ≤ L) (hL : L ≤ 1000000000000000) (J : NIJ ys tk m sv ts) (s : Ss W (NIs q1 bk pu l1 ys R m sv ts) w) : WP (weirlaw18_QueueNeverIdle.K1 s9 tk) w (NIR W R q1 bk pu l1 ys L s9 Q) := by
  unfold weirlaw18_QueueNeverIdle.K1
  refine WP.next ?_
  rw [wrap_i64 (by omega) (by omega)]
  exact ⟨⟨by simp only; omega, by simp only; omega, m, sv, ts, J, s⟩, by simp only; omega⟩
theorem Ni2_wp (h0 : 0 ≤ s9) (h1 : s9 ≤ L) (hL : L ≤ 1000000000000000) (J : NIJ ys tk m sv ts) (s : Ss W (NIs q1 bk pu l1 ys R m sv ts) w) {i : Nat} (hi : i < m.n) (y : Int) :
    WP (weirlaw18_QueueNeverIdle.K2 (some q1, l1) bk tk s9 (y, (i : Int), true)) w (NIR W R q1 bk pu l1 ys L s9 Q) := by
  unfold weirlaw18_QueueNeverIdle.K2
  have ok := s.len_ge
  have hk := getD_get (z := default) (l := m.cl) (i := i) hi
  generalize m.cl.getD i default = k at hk
  have hi0 : (0 : Int) ≤ (i : Int) := by omega
  have hxk : ys[(i : Int).toNat]? = some k.c := by rw [Int.toNat_natCast, ← J.c, List.getElem?_map, hk]; rfl
  have hcl := okClass_iff.1 (ok.cl k (List.mem_of_getElem? hk)).c
  refine WP.draw' s (fun w s => ?_)
  refine WP.rdxp s 3 rfl rdS_rdb hi0 hxk rfl (At_api_Class_Rate _) ?_
  refine WP.step (R := fun y w' => y = decide (k.c.Rate > 0 ∧ tk < 1000000) ∧ w = w') (WP.ite (fun h => WP.ret ⟨by simp [h], rfl⟩) (fun h => WP.ret ⟨by simp [h], rfl⟩)) ?_
  rintro _ _ ⟨rfl, rfl⟩
  refine WP.step (R := fun y w' => y = false ∧ w = w') (WP.ite (fun h => ?_) (fun h => WP.ret ⟨rfl, rfl⟩)) ?_
  · obtain ⟨hr, ht⟩ := of_decide_eq_true h
    obtain ⟨ba, xl, yl, z, ls, lsp, bsp, ssp, rfl, g1, g2, sB⟩ := (s.use [1] rfl).openB
    have hqn : m.qs.length = m.n := by unfold QM.qs QM.n; simp
    have hsv : sv[(i : Int).toNat]? = some (sv.getD i 0) := by rw [Int.toNat_natCast]; exact getD_get (by omega)
    have hS := J.s ht i k _ hk hr (by rwa [Int.toNat_natCast] at hsv)
    have htk := (ok.cl k (List.mem_of_getElem? hk)).tok hr
    have t0 := J.t0
    have hmul : tk * k.c.Rate ≤ 1000000 * 67108864 := Int.mul_le_mul (by omega) (by omega) (by omega) (by omega)
    have hmul0 : 0 ≤ tk * k.c.Rate := Int.mul_nonneg (by omega) (by omega)
    refine WP.nilck (WP.ld sB 0 rfl (o := 2) rfl (At_weirlaw18_Book_Served _) ?_)
    refine WP.rdx sB 3 rfl vec_rdb (by omega) hsv rfl ?_
    refine WP.rdxp s 3 rfl rdS_rdb hi0 hxk rfl (At_api_Class_Burst _) ?_
    refine WP.rdxp s 3 rfl rdS_rdb hi0 hxk rfl (At_api_Class_Rate _) (WP.ret ⟨?_, rfl⟩)
    generalize tk * k.c.Rate = M at *
    rw [wrap_i64 (n := M) (by omega) (by omega), wrap_i64 (by omega) (by omega)]
    generalize sv.getD i 0 = v at *
    rw [decide_eq_false_iff_not]
    omega
  rintro _ _ ⟨rfl, rfl⟩
  exact WP.ite (fun h => by cases h) (fun _ => Ni1_wp h0 h1 hL J s)
theorem Ni3_wp (h0 : 0 ≤ s9) (h1 : s9 ≤ L) (hL : L ≤ 1000000000000000) (J : NIJ ys tk m sv ts) (ok : m.Ok) {y d : Int} (hp : Pops m (y, d, true) m2) {n : Int} (hn : ∀ (k : Cl) (x : queue_item) (q' : List queue_item), m.cl[d.toNat]? = some k → k.q = x :: q' → n = x.size) (s : Ss W (Queue (some q1) m2 :: Book bk m.qs sv :: Purse pu ts :: rdS c_api_Class false l1 ys :: R) w) :
    WP (weirlaw18_QueueNeverIdle.K3 (some q1, l1) bk pu tk s9 (y, d, true) n) w (NIR W R q1 bk pu l1 ys L s9 Q) := by
  unfold weirlaw18_QueueNeverIdle.K3
  obtain ⟨i, k, x, q', rfl, rfl, hk, hkq, hkr, hqs, hct⟩ := hp.what ok
  have hn := hn k x q' hk hkq
  subst hn
  have okk := ok.cl k (List.mem_of_getElem? hk)
  have hcl := okClass_iff.1 okk.c
  have hsz := okk.size x (by rw [hkq]; simp)
  have hb := okk.bytes
  have hs0 := sizes_nonneg (l := q') (fun y hy => okk.size y (by rw [hkq]; simp [hy]))
  rw [hkq, sizes_cons] at hb
  have hq := qs_get hk
  rw [hkq] at hq
  have hi := (List.getElem?_eq_some_iff.1 hk).1
  have hi0 : (0 : Int) ≤ (i : Int) := by omega
  have hxk : ys[(i : Int).toNat]? = some k.c := by rw [Int.toNat_natCast, ← J.c, List.getElem?_map, hk]; rfl
  have hn2 : m2.n = m.n := by
    have := congrArg List.length hct
    simpa [QM.n] using this
  have hsvl : sv.length = m.n := by
    obtain ⟨_, _, _, _, _, _, _, _, _, _, g2, _⟩ := (s.use [1] rfl).openB
    rw [g2]
    unfold QM.qs QM.n
    simp
  have J2 : ∀ ts', (k.c.Rate > 0 → ts' = ts.set i (k.tok - x.size)) → (¬ k.c.Rate > 0 → ts' = ts) → NIJ ys tk m2 (sv.set i (IntKind.wrap .i64 (sv.getD i 0 + x.size))) ts' := fun ts' g1 g2 => by
    refine ⟨(hp.c ok).trans J.c, J.p.pop hk hct (fun hr => by rw [g1 hr, if_pos hr]) g2, J.s.pop ok hk hct hsz.1 (fun hr => rdy_tok hkr hkq hr) hsvl J.t0, J.t0, J.t1⟩
  refine WP.step (popped_wp (s.use [1] rfl) hq hsz.1 hsz.2 hs0 (by omega)) ?_
  rintro _ w ⟨rfl, s⟩
  rw [← hqs] at s
  refine WP.ite (fun h => absurd rfl h) (fun _ => ?_)
  refine WP.rdxp s 3 rfl rdS_rdb hi0 hxk rfl (At_api_Class_Rate _) ?_
  refine WP.ite (fun hr => WP.draw' s (fun w s => ?_)) (fun hr => Ni2_wp h0 h1 hL (J2 ts (fun h => absurd h hr) (fun _ => rfl)) (s.use [1] rfl) (by rw [hn2]; exact hi) x.id)
  obtain ⟨pa, yl, sp, rfl, sP⟩ := (s.use [2] rfl).openP
  have htk := J.p.2 i k hk hr
  have htk' : ts[(i : Int).toNat]? = some k.tok := htk
  have htl := J.p.1
  have h3 := okk.tok hr
  have h4 := rdy_tok hkr hkq hr
  refine WP.nilck (WP.ld sP 0 rfl (o := 0) (by simp [Addr.add]) (At_weirlaw18_Purse_T _) (WP.nilck ?_))
  refine WP.ld sP 0 rfl (o := 0) (by simp [Addr.add]) (At_weirlaw18_Purse_T _) ?_
  refine WP.rdx sP 1 rfl vec_rdb hi0 htk' rfl ?_
  rw [wrap_i64 (by omega) (by omega)]
  refine WP.stx sP 1 rfl hi0 (show (i : Int) < ts.length by unfold QM.n at htl; omega) rfl (fun w s => ?_)
  rw [Int.toNat_natCast] at s
  have s := Ss.closeP (p := some pa) s rfl
  exact Ni2_wp h0 h1 hL (J2 _ (fun _ => rfl) (fun h => absurd hr h)) (s.use [2, 1] rfl) (by rw [hn2]; exact hi) x.id
theorem Ni4_wp (h0 : 0 ≤ s9) (h1 : s9 ≤ L) (hL : L ≤ 1000000000000000) (J : NIJ ys tk m sv ts) (s : Ss W (NIs q1 bk pu l1 ys R m sv ts) w) : WP (weirlaw18_QueueNeverIdle.K4 (some q1, l1) bk pu tk s9 m.some_) w (NIR W R q1 bk pu l1 ys L s9 Q) := by
  unfold weirlaw18_QueueNeverIdle.K4
  have ok := s.len_ge
  have h8 := ok.n8
  obtain ⟨⟨y, d, is⟩, m2, hp⟩ := Pops.exist ok
  have his := hp.is
  refine WP.step (Peek_wp s hp) ?_
  rintro _ w ⟨rfl, s⟩
  refine WP.step (R := fun y w' => y = false ∧ Ss W (NIs q1 bk pu l1 ys R m sv ts) w') (WP.ite (fun h => absurd his h) (fun _ => WP.step (R := fun y w' => y = false ∧ Ss W (NIs q1 bk pu l1 ys R m sv ts) w') (WP.ite (fun h => ?_) (fun h => WP.ret ⟨rfl, s⟩)) (fun y w h => WP.ret h))) ?_
  · simp only at h
    subst h
    obtain ⟨i, k, x, q', rfl, rfl, hk, hkq, hkr, hqs, hct⟩ := hp.what ok
    refine WP.step (ready_wp' s (ip := 2) (ib := 1) (i := 3) rfl rfl rfl ok J.c J.p (by omega) (j := (i : Int)) (k := k) hk) ?_
    rintro _ w ⟨rfl, s⟩
    exact WP.ret ⟨by rw [hkr]; rfl, s⟩
  rintro _ w ⟨rfl, s⟩
  refine WP.ite (fun h => by cases h) (fun _ => WP.step (Pop_wp s hp) ?_)
  rintro _ w ⟨rfl, s⟩
  refine WP.step (R := fun y w' => y = !is ∧ w = w') (WP.ite (fun h => absurd rfl h) (fun _ => WP.ret ⟨rfl, rfl⟩)) ?_
  rintro _ _ ⟨rfl, rfl⟩
  refine WP.ite (fun h => WP.ite (fun h => absurd rfl h) (fun _ => ?_)) (fun h => ?_)
  · have : is = false := by simpa using h
    subst this
    have hm : m2 = m := by
      cases hp with
      | none _ => rfl
    subst hm
    exact Ni1_wp h0 h1 hL J s
  · have : is = true := by simpa using h
    subst this
    obtain ⟨i, k, x, q', rfl, rfl, hk, hkq, hkr, hqs, hct⟩ := hp.what ok
    have hi := (List.getElem?_eq_some_iff.1 hk).1
    have hi0 : (0 : Int) ≤ (i : Int) := by omega
    have hl := (s.rd_len (i := 3) rfl rdS_rdb).1
    have hyl : ys.length = m.n := by rw [← J.c]; unfold QM.n; simp
    refine WP.step (R := fun y w' => y = true ∧ w = w') (WP.ite (fun h => WP.ret ⟨by unfold QM.n at hyl; simp; omega, rfl⟩) (fun h => absurd (show (0 : Int) ≤ (i : Int) by omega) h)) ?_
    rintro _ _ ⟨rfl, rfl⟩
    obtain ⟨ba, xl, yl, z, ls, lsp, bsp, ssp, rfl, g1, g2, sB⟩ := (s.use [1] rfl).openB
    have hq := qs_get hk
    obtain ⟨sl, hsl⟩ := get_of g1 hq
    have hsl' : ls[(i : Int).toNat]? = some sl := hsl
    have hll := BookHs.len sB hsl hq
    rw [hkq] at hll
    refine WP.step (R := fun y w' => y = true ∧ w = w') (WP.ite (fun _ => WP.nilck ?_) (fun h => absurd rfl h)) ?_
    · refine WP.ld sB 0 rfl (o := 0) (by simp [Addr.add]) (At_weirlaw18_Book_L _) ?_
      refine WP.rdx sB 1 rfl vec_rdb hi0 hsl' rfl (WP.ret ⟨by simp [hll], rfl⟩)
    rintro _ _ ⟨rfl, rfl⟩
    refine WP.ite (fun _ => WP.nilck ?_) (fun h => absurd rfl h)
    refine WP.ld sB 0 rfl (o := 0) (by simp [Addr.add]) (At_weirlaw18_Book_L _) ?_
    refine WP.rdx sB 1 rfl vec_rdb hi0 hsl' rfl ?_
    have s2 := sB.out 4 rfl (zipH_nth (P := lineH) hsl hq)
    obtain ⟨sp, _, s3⟩ := s2.openx 0 rfl
    rw [hkq] at s3
    refine WP.rdxp0 s3 0 rfl vec_rdb (by omega) (x := toItem x) rfl rfl (At_weirlaw18_Item_Size _) ?_
    refine Ni3_wp h0 h1 hL J ok hp (fun k' x' q'' hk' hx' => ?_) s
    rw [Int.toNat_natCast, hk] at hk'
    cases hk'
    rw [hkq] at hx'
    cases hx'
    rfl
theorem Ni5_wp (h0 : 0 ≤ s9) (h1 : s9 ≤ L) (hL : L ≤ 1000000000000000) (J : NIJ ys tk m sv ts) (s : Ss W (NIs q1 bk pu l1 ys R m sv ts) w) (o : weirlaw18_Op) : WP (weirlaw18_QueueNeverIdle.K5 (some q1, l1) bk pu tk s9 o) w (NIR W R q1 bk pu l1 ys L s9 Q) := by
  unfold weirlaw18_QueueNeverIdle.K5
  have ok := s.len_ge
  have h8 := ok.n8
  have hl := (s.rd_len (i := 3) rfl rdS_rdb).1
  have hyl : ys.length = m.n := by rw [← J.c]; unfold QM.n; simp
  refine WP.ite (fun _ => WP.draw' s (fun w s => WP.step (Push_wp s _ _ _) ?_)) (fun _ => WP.ite (fun _ => WP.step (Tick_wp s) ?_) (fun _ => WP.ite (fun _ => ?_) (fun _ => Ni1_wp h0 h1 hL J s)))
  · rintro _ w ⟨rfl, s⟩
    unfold weirlaw18_num
    refine WP.step (R := fun y w' => y = (m.push o.Class o.Size o.Item).2 ∧ w = w') (WP.ret ⟨rfl, rfl⟩) ?_
    rintro _ _ ⟨rfl, rfl⟩
    refine WP.step (pushed_wp (s.use [1] rfl) 2 rfl ok J.c _ _) ?_
    rintro _ w ⟨rfl, s⟩
    exact Ni1_wp h0 h1 hL ⟨(push_c _ _ _ _).trans J.c, J.p.same (push_ct _ _ _ _), J.s.same (push_ct _ _ _ _), J.t0, J.t1⟩ (s.use [1] rfl)
  · intro _ w s
    refine WP.step (ptick_wp (s.use [2] rfl) 2 rfl (by omega) (by rw [J.p.1, hyl])) ?_
    rintro _ w ⟨ts', t1, t2, s⟩
    have hP : PT ts' m.tick := J.p.tick ok t1 (fun j k t hk ht => t2 j k.c t (by rw [← J.c, List.getElem?_map, hk]; rfl) ht)
    have s : Ss W (NIs q1 bk pu l1 ys R m.tick sv ts') w := by
      show Ss W (Queue (some q1) m.tick :: Book bk m.tick.qs sv :: Purse pu ts' :: rdS c_api_Class false l1 ys :: R) w
      rw [tick_qs]
      exact s.use [1, 1] rfl
    have t0 := J.t0
    have t1 := J.t1
    refine WP.ite (fun h => ?_) (fun h => ?_)
    · rw [wrap_i64 (by omega) (by omega)]
      exact Ni1_wp h0 h1 hL ⟨(tick_c m).trans J.c, hP, J.s.tick, by omega, by omega⟩ s
    · exact Ni1_wp h0 h1 hL ⟨(tick_c m).trans J.c, hP, fun h2 => by omega, t0, t1⟩ s
  · refine WP.loop (fun (x : Bool × Int) w' => 0 ≤ x.2 ∧ x.2 ≤ m.n ∧ x.1 = (m.cl.take x.2.toNat).any Cl.rdy ∧ Ss W (NIs q1 bk pu l1 ys R m sv ts) w') (fun x _ => ((m.n : Int) - x.2).toNat) ⟨by simp, by simp, by simp, s⟩ ?_
    rintro ⟨b, j⟩ w ⟨j0, j1, hb, s⟩
    simp only at j0 j1 hb
    show WP (weirlaw18_QueueNeverIdle.L2 (some q1, l1) bk pu tk s9 b j) w _
    unfold weirlaw18_QueueNeverIdle.L2
    refine WP.ite (fun hj => ?_) (fun hj => ?_)
    · simp only [hl, hyl] at hj
      have hil : j.toNat < m.cl.length := by unfold QM.n at hj; omega
      have hk : m.cl[j.toNat]? = some m.cl[j.toNat] := List.getElem?_eq_getElem hil
      refine WP.step (R := fun y w' => y = (m.cl.take (j.toNat + 1)).any Cl.rdy ∧ Ss W (NIs q1 bk pu l1 ys R m sv ts) w') ?_ ?_
      · rw [List.take_add_one, hk, List.any_append, ← hb]
        refine WP.ite (fun h => WP.ret ⟨by simp [h], s⟩) (fun h => ?_)
        refine WP.step (ready_wp' s (ip := 2) (ib := 1) (i := 3) rfl rfl rfl ok J.c J.p j0 hk) ?_
        rintro _ w ⟨rfl, s⟩
        have : b = false := by simpa using h
        exact WP.ret ⟨by simp [this], s⟩
      · rintro _ w ⟨rfl, s⟩
        refine WP.next ?_
        rw [wrap_i64 (by omega) (by omega)]
        refine ⟨⟨by simp only; omega, by simp only; omega, ?_, s⟩, by simp only; omega⟩
        simp only
        rw [show (j + 1).toNat = j.toNat + 1 by omega]
    · simp only [hl, hyl] at hj
      have hjn : j.toNat = m.n := by omega
      rw [hjn, show m.cl.take m.n = m.cl from List.take_length] at hb
      have hb' : b = m.some_ := hb
      subst hb'
      exact WP.step (Ni4_wp h0 h1 hL J s) (fun r w h => WP.done h)
end
theorem QueueNeverIdle_true : ∀ (W : World) (u0 : Sl) (u1 : Sl), (GSl c_api_Class (Try.prog.bytesOf 41) (fun W u => G41 W u) W u0) → (GSl c_weirlaw18_Op (Try.prog.bytesOf 48) (fun W u => G48 W u) W u1) → ∃ W', weirlaw18_QueueNeverIdle u0 u1 W = some (true, W') ∧ Below W.heap.size W W' := by
  intro W u0 u1 g0 g1
  have b41 : Try.prog.bytesOf 41 = 40 := by kernel_rfl
  have b48 : Try.prog.bytesOf 48 = 40 := by kernel_rfl
  have hr : reachBytes = 140737488351232 := rfl
  obtain ⟨os, _, ho, s⟩ := (Ss.start W).args g1 (by decide)
  obtain ⟨xs, _, hx, s⟩ := s.args g0 (by decide)
  rw [b48, hr] at ho
  have main : WP (weirlaw18_QueueNeverIdle u0 u1) W (fun r W' => r = true ∧ Below W.heap.size W W') := by
    unfold weirlaw18_QueueNeverIdle
    refine WP.step (queueOf_wp s 0 rfl) ?_
    rintro ⟨_, l1⟩ w ⟨q1, rfl, s⟩
    refine WP.ite (fun h => by cases h) (fun _ => ?_)
    have okL := ofL_ok xs
    simp only at s
    generalize ofL xs = ys at s okL
    have hn : (newQ ys).n = ys.length := by unfold QM.n newQ; simp
    have ok0 := newQ_ok okL
    have h8 := ok0.n8
    have hl1 := (s.rd_len (i := 1) rfl rdS_rdb).1
    simp only
    rw [hl1]
    refine WP.step (book_wp s (by omega)) ?_
    intro bk w s
    rw [← newQ_qs] at s
    refine WP.step (purse_wp s 2 rfl (by omega)) ?_
    intro pu w s
    refine WP.slot' s (fun _ w s => WP.draw' s (fun w s => WP.step (Push_wp (s.use [2] rfl) 0 1 (-4)) ?_))
    rintro _ w ⟨rfl, s⟩
    unfold weirlaw18_num
    refine WP.step (R := fun y w' => y = ((newQ ys).push 0 1 (-4)).2 ∧ w = w') (WP.ret ⟨rfl, rfl⟩) ?_
    rintro _ _ ⟨rfl, rfl⟩
    refine WP.step (pushed_wp (s.use [2] rfl) 2 rfl ok0 (newQ_c ys) _ _) ?_
    rintro _ w ⟨rfl, s⟩
    refine WP.ite (fun h => absurd (by simp [z_weirlaw18_Op]) h) (fun _ => ?_)
    have s : Ss W (NIs q1 bk pu l1 ys [rdS c_api_Class false u0 xs, rdS c_weirlaw18_Op false u1 os] ((newQ ys).push 0 1 (-4)).1 (List.replicate ys.length 0) (ys.map (·.Burst))) w := s.use [1] rfl
    have hlo := (s.rd_len (i := 5) rfl rdS_rdb).1
    have hct := push_ct (newQ ys) 0 1 (-4)
    have J : NIJ ys 0 ((newQ ys).push 0 1 (-4)).1 (List.replicate ys.length 0) (ys.map (·.Burst)) := by
      have base : ∀ (i : Nat) (k : Cl), (newQ ys).cl[i]? = some k → ys[i]? = some k.c ∧ k.tok = k.c.Burst := by
        intro i k hk
        unfold newQ at hk
        simp only [List.getElem?_map, Option.map_eq_some_iff] at hk
        obtain ⟨c, hc, rfl⟩ := hk
        exact ⟨hc, rfl⟩
      refine ⟨(push_c _ _ _ _).trans (newQ_c ys), PT.same ⟨by simp [hn], fun i k hk _ => ?_⟩ hct, SVok.same (fun _ i k v hk _ hv => ?_) hct, by omega, by omega⟩
      · obtain ⟨h1, h2⟩ := base i k hk
        rw [List.getElem?_map, h1, h2]
        rfl
      · obtain ⟨h1, h2⟩ := base i k hk
        have : v = 0 := List.eq_of_mem_replicate (List.mem_of_getElem? hv)
        subst this
        omega
    refine WP.loop (NIN W [rdS c_api_Class false u0 xs, rdS c_weirlaw18_Op false u1 os] q1 bk pu l1 ys os.length) (fun x _ => ((os.length : Int) + 1 - x.2).toNat) ⟨by simp, by simp only; omega, _, _, _, J, s⟩ ?_
    rintro ⟨tk, k⟩ w ⟨k0, k1, m, sv, ts, J, s⟩
    simp only at k0 k1 J
    show WP (weirlaw18_QueueNeverIdle.L1 u1 (some q1, l1) bk pu tk k) w _
    unfold weirlaw18_QueueNeverIdle.L1
    rw [hlo, wrap_i64 (by omega) (by omega)]
    refine WP.ite (fun hk => WP.slot' s (fun b w s => ?_)) (fun hk => WP.done ⟨rfl, s.below⟩)
    refine WP.ite (fun hk2 => ?_) (fun hk2 => ?_)
    · have hkl : k.toNat < os.length := by omega
      have hx := List.getElem?_eq_getElem hkl
      generalize os[k.toNat] = o at hx
      rw [← hlo]
      exact WP.rdx s 5 rfl rdS_rdb k0 hx rfl (Ni5_wp k0 (by omega) (by omega) J s o)
    · exact Ni5_wp k0 (by omega) (by omega) J s _
  obtain ⟨r, W', h1, rfl, h2⟩ := main
  exact ⟨W', h1, h2⟩
end Go.Proofs.Ytgddbpmfendaeaa.Lx
