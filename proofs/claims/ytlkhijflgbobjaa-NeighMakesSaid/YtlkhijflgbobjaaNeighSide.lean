/- The laws' sides: a cache, and what the document says of it; a step of both. -/
import Derived.Test.YtlkhijflgbobjaaNeighRef4
set_option linter.unusedVariables false
set_option linter.unusedSimpArgs false
namespace Go.Proofs.Ytlkhijflgbobjaa.Lx
open Go Go.Proofs Go.RowKit
section
variable {W w : World} {R Hs : List HP}
theorem sameInts_wp {A B : HP} {a b : Sl} {xs ys : List Int} (s : Ss W Hs w) (i : Nat) (e : nth Hs i = some A) (r : Rdb A (cI .i64) a xs) (j : Nat) (e2 : nth Hs j = some B) (r2 : Rdb B (cI .i64) b ys) (hb : xs.length ≤ 4611686018427387904) : WP (weirlaw15_sameInts a b) w (fun r w' => r = decide (xs = ys) ∧ Ss W Hs w') := by
  unfold weirlaw15_sameInts
  have h1 := (s.rd_len e r).1
  have h2 := (s.rd_len e2 r2).1
  refine WP.ite (fun h => WP.ret ⟨(decide_eq_false (fun he => h (by rw [h1, h2, he]))).symm, s⟩) (fun h => ?_)
  have hl : xs.length = ys.length := by omega
  refine WP.loopG (γ := Nat) (fun i x w => x = (i : Int) ∧ i ≤ xs.length ∧ (∀ j, j < i → xs[j]? = ys[j]?) ∧ Ss W Hs w) (fun i _ => xs.length - i) 0 ⟨rfl, by omega, fun j hj => absurd hj (by omega), s⟩ ?_
  clear s
  rintro k _ w ⟨rfl, hk, he, s⟩
  show WP (weirlaw15_sameInts.L1 a b (k : Int)) w _
  unfold weirlaw15_sameInts.L1
  refine WP.ite (fun h => WP.draw' s (fun w s => ?_)) (fun h => WP.done ⟨?_, s⟩)
  · have hk2 : k < xs.length := by omega
    have hx := List.getElem?_eq_getElem hk2
    have hy := List.getElem?_eq_getElem (show k < ys.length by omega)
    generalize xs[k] = x at hx
    generalize ys[k]'(by omega) = y at hy
    refine WP.rdx s i e r (by omega) (x := x) (by rw [Int.toNat_natCast]; exact hx) rfl (WP.rdx s j e2 r2 (by omega) (x := y) (by rw [Int.toNat_natCast]; exact hy) rfl ?_)
    refine WP.ite (fun hne => WP.done ⟨(decide_eq_false (fun hxy => hne ?_)).symm, s⟩) (fun heq => WP.next ?_)
    · subst hxy
      rw [hx] at hy
      exact Option.some.inj hy
    · refine ⟨k + 1, ⟨by rw [wrap_i64 (by omega) (by omega)]; simp, by omega, fun j' hj' => ?_, s⟩, by omega⟩
      by_cases ej : j' = k
      · subst ej
        rw [hx, hy, show x = y from Decidable.not_not.1 heq]
      · exact he j' (by omega)
  · refine (decide_eq_true (List.ext_getElem? fun j' => ?_)).symm
    by_cases hj : j' < k
    · exact he j' hj
    · rw [List.getElem?_eq_none (by omega), List.getElem?_eq_none (by omega)]
theorem sameAll_wp {A B : HP} {a b : Sl} {xs ys : List api_Neighbour} (s : Ss W Hs w) (i : Nat) (e : nth Hs i = some A) (r : Rdb A cN a xs) (j : Nat) (e2 : nth Hs j = some B) (r2 : Rdb B cN b ys) (hb : xs.length ≤ 4611686018427387904) : WP (weirlaw15_sameAll a b) w (fun r w' => r = decide (xs = ys) ∧ Ss W Hs w') := by
  unfold weirlaw15_sameAll
  have h1 := (s.rd_len e r).1
  have h2 := (s.rd_len e2 r2).1
  refine WP.ite (fun h => WP.ret ⟨(decide_eq_false (fun he => h (by rw [h1, h2, he]))).symm, s⟩) (fun h => ?_)
  have hl : xs.length = ys.length := by omega
  refine WP.loopG (γ := Nat) (fun i x w => x = (i : Int) ∧ i ≤ xs.length ∧ (∀ j, j < i → xs[j]? = ys[j]?) ∧ Ss W Hs w) (fun i _ => xs.length - i) 0 ⟨rfl, by omega, fun j hj => absurd hj (by omega), s⟩ ?_
  clear s
  rintro k _ w ⟨rfl, hk, he, s⟩
  show WP (weirlaw15_sameAll.L1 a b (k : Int)) w _
  unfold weirlaw15_sameAll.L1
  refine WP.ite (fun h => WP.draw' s (fun w s => ?_)) (fun h => WP.done ⟨?_, s⟩)
  · have hk2 : k < xs.length := by omega
    have hx := List.getElem?_eq_getElem hk2
    have hy := List.getElem?_eq_getElem (show k < ys.length by omega)
    generalize xs[k] = x at hx
    generalize ys[k]'(by omega) = y at hy
    refine WP.rdx s i e r (by omega) (x := x) (by rw [Int.toNat_natCast]; exact hx) rfl (WP.rdx s j e2 r2 (by omega) (x := y) (by rw [Int.toNat_natCast]; exact hy) rfl ?_)
    refine WP.ite (fun hne => WP.done ⟨(decide_eq_false (fun hxy => hne ?_)).symm, s⟩) (fun heq => WP.next ?_)
    · subst hxy
      rw [hx] at hy
      exact Option.some.inj hy
    · refine ⟨k + 1, ⟨by rw [wrap_i64 (by omega) (by omega)]; simp, by omega, fun j' hj' => ?_, s⟩, by omega⟩
      by_cases ej : j' = k
      · subst ej
        rw [hx, hy, show x = y from Decidable.not_not.1 heq]
      · exact he j' (by omega)
  · refine (decide_eq_true (List.ext_getElem? fun j' => ?_)).symm
    by_cases hj : j' < k
    · exact he j' hj
    · rw [List.getElem?_eq_none (by omega), List.getElem?_eq_none (by omega)]
theorem sameAsks_wp {A B : HP} {a b : Sl} {xs ys : List api_Ask} (s : Ss W Hs w) (i : Nat) (e : nth Hs i = some A) (r : Rdb A c_api_Ask a xs) (j : Nat) (e2 : nth Hs j = some B) (r2 : Rdb B c_api_Ask b ys) (hb : xs.length ≤ 4611686018427387904) : WP (weirlaw15_sameAsks a b) w (fun r w' => r = decide (xs = ys) ∧ Ss W Hs w') := by
  unfold weirlaw15_sameAsks
  have h1 := (s.rd_len e r).1
  have h2 := (s.rd_len e2 r2).1
  refine WP.ite (fun h => WP.ret ⟨(decide_eq_false (fun he => h (by rw [h1, h2, he]))).symm, s⟩) (fun h => ?_)
  have hl : xs.length = ys.length := by omega
  refine WP.loopG (γ := Nat) (fun i x w => x = (i : Int) ∧ i ≤ xs.length ∧ (∀ j, j < i → xs[j]? = ys[j]?) ∧ Ss W Hs w) (fun i _ => xs.length - i) 0 ⟨rfl, by omega, fun j hj => absurd hj (by omega), s⟩ ?_
  clear s
  rintro k _ w ⟨rfl, hk, he, s⟩
  show WP (weirlaw15_sameAsks.L1 a b (k : Int)) w _
  unfold weirlaw15_sameAsks.L1
  refine WP.ite (fun h => WP.draw' s (fun w s => ?_)) (fun h => WP.done ⟨?_, s⟩)
  · have hk2 : k < xs.length := by omega
    have hx := List.getElem?_eq_getElem hk2
    have hy := List.getElem?_eq_getElem (show k < ys.length by omega)
    generalize xs[k] = x at hx
    generalize ys[k]'(by omega) = y at hy
    refine WP.rdx s i e r (by omega) (x := x) (by rw [Int.toNat_natCast]; exact hx) rfl (WP.rdx s j e2 r2 (by omega) (x := y) (by rw [Int.toNat_natCast]; exact hy) rfl ?_)
    refine WP.ite (fun hne => WP.done ⟨(decide_eq_false (fun hxy => hne ?_)).symm, s⟩) (fun heq => WP.next ?_)
    · subst hxy
      rw [hx] at hy
      exact Option.some.inj hy
    · refine ⟨k + 1, ⟨by rw [wrap_i64 (by omega) (by omega)]; simp, by omega, fun j' hj' => ?_, s⟩, by omega⟩
      by_cases ej : j' = k
      · subst ej
        rw [hx, hy, show x = y from Decidable.not_not.1 heq]
      · exact he j' (by omega)
  · refine (decide_eq_true (List.ext_getElem? fun j' => ?_)).symm
    by_cases hj : j' < k
    · exact he j' hj
    · rw [List.getElem?_eq_none (by omega), List.getElem?_eq_none (by omega)]
theorem lnum_wp {w : World} (e : Int) : WP (weirlaw15_num e) w (fun r w' => r = e ∧ w = w') := WP.ret ⟨rfl, rfl⟩
def Sd (sd : weirlaw15_Side) (m : NM) : HP := seps [Cache sd.C m, RefC sd.R m]
def NM.next (m : NM) (o : weirlaw15_Op) : NM := if o.Kind = 1 then (m.want o.Port o.IP o.N).1 else if o.Kind = 2 then (m.learn o.Port o.IP o.Mac o.N).1 else if o.Kind = 3 then m.tick.1 else m
theorem Ss.openS {sd : weirlaw15_Side} {m : NM} (s : Ss W (Sd sd m :: R) w) : m.Ok ∧ Ss W (Cache sd.C m :: RefC sd.R m :: R) w := by
  have := Ss.split s
  exact ⟨Ss.okC this, this⟩
theorem Ss.closeS {sd : weirlaw15_Side} {m : NM} (s : Ss W (Cache sd.C m :: RefC sd.R m :: R) w) : Ss W (Sd sd m :: R) w := Ss.group (l := [_, _]) s
theorem tick_len {m : NM} (ok : m.Ok) : m.tick.2.1.length ≤ 1024 ∧ m.tick.2.2.length ≤ 65536 := by
  have h1 := ok.n
  have h2 := ok.c.m1
  constructor
  · have := flm_len (l := m.l) (g := fun e => (NM.stepE m.c e).2.1) (k := 1) (fun e _ => ask_len m.c (none, e))
    show (m.l.flatMap _).length ≤ _
    omega
  · have := flm_len (l := m.l) (g := fun e => (NM.stepE m.c e).2.2) (k := 64) (fun e he => lost_len ok.c (x := (none, e)) (ok.e e he))
    show (m.l.flatMap _).length ≤ _
    omega
theorem learn_len {m : NM} (ok : m.Ok) (port : Int) (ip : api_IP) (mac : Vec Int 6) (how : Int) : (m.learn port ip mac how).2.1.length ≤ 64 := by
  have hc := ok.c.l1
  unfold NM.learn
  split
  · simp
  split
  · split
    · simp
    · split <;> simp
  · split
    · simp
    · rename_i e he
      have h := (ok.e e (List.mem_of_getElem? he)).i
      split
      · simp only; omega
      · split
        · simp only; omega
        · simp
theorem step_wp {sd : weirlaw15_Side} {m : NM} (s : Ss W (Sd sd m :: R) w) (o : weirlaw15_Op) (hb : Bts o.IP.A.l) (hm : Bts o.Mac.l) : WP (weirlaw15_step sd o) w (fun x w' => x.2 = true ∧ Ss W (Sd x.1 (m.next o) :: R) w') := by
  unfold weirlaw15_step NM.next
  obtain ⟨ok, s⟩ := s.openS
  refine WP.slot' s (fun _ w s => WP.slot' s (fun _ w s => WP.slot' s (fun _ w s => ?_)))
  refine WP.ite (fun h1 => ?_) (fun h1 => ?_)
  · rw [if_pos h1]
    refine WP.step (Want_wp s _ _ hb _) ?_
    rintro ⟨q1, q2, q3⟩ w ⟨hq, s⟩
    refine WP.slot' s (fun _ w s => WP.step (refWant_wp (s.perm (List.Perm.swap _ _ _)) ok _ _ _) ?_)
    rintro ⟨r0, r1, r2, r3⟩ w ⟨hq', s⟩
    have hq' : (r1, r2, r3) = (q1, q2, q3) := hq'.trans hq.symm
    cases hq'
    refine WP.slot' s (fun _ w s => WP.slot' s (fun _ w s => WP.draw' s (fun w s => ?_)))
    refine WP.step (R := fun y w' => y = true ∧ w = w') (WP.ite (fun _ => WP.ret ⟨by simp, rfl⟩) (fun h => absurd rfl h)) ?_
    rintro _ _ ⟨rfl, rfl⟩
    refine WP.step (R := fun y w' => y = true ∧ w = w') (WP.ite (fun _ => WP.step (lnum_wp _) ?_) (fun h => absurd rfl h)) ?_
    · rintro _ _ ⟨rfl, rfl⟩
      exact WP.ret ⟨by simp, rfl⟩
    rintro _ _ ⟨rfl, rfl⟩
    exact WP.ret ⟨rfl, Ss.closeS (sd := ⟨sd.C, r0⟩) (s.perm (List.Perm.swap _ _ _))⟩
  rw [if_neg h1]
  refine WP.ite (fun h2 => ?_) (fun h2 => ?_)
  · rw [if_pos h2]
    refine WP.step (Learn_wp s _ _ hb _ hm _) ?_
    rintro q w ⟨hq, s⟩
    refine WP.step (refLearn_wp (s.use [2, 0, 0] (s := [_, _, _]) (r := R) rfl) ok _ _ _ hm _) ?_
    rintro q' w ⟨hq', s⟩
    refine WP.slot' s (fun _ w s => WP.draw' s (fun w s => ?_))
    have hlen := learn_len ok o.Port o.IP o.Mac o.N
    refine WP.step (sameInts_wp s 2 rfl vec_rdb 0 rfl rdS_rdb (by omega)) ?_
    rintro _ w ⟨rfl, s⟩
    refine WP.step (R := fun y w' => y = true ∧ w = w') (WP.ite (fun _ => WP.step (lnum_wp _) ?_) (fun h => absurd (by simp) h)) ?_
    · rintro _ _ ⟨rfl, rfl⟩
      exact WP.ret ⟨by rw [hq, hq']; simp, rfl⟩
    rintro _ _ ⟨rfl, rfl⟩
    have s2 := (s.drop).use [1] (s := [_]) (r := [_, _] ++ R) rfl
    exact WP.ret ⟨rfl, Ss.closeS (sd := ⟨sd.C, q'.1⟩) (s2.drop.perm (List.Perm.swap _ _ _))⟩
  rw [if_neg h2]
  refine WP.ite (fun h3 => ?_) (fun h3 => ?_)
  · rw [if_pos h3]
    refine WP.step (Tick_wp s) ?_
    rintro q w ⟨sp1, sp2, s⟩
    refine WP.step (refTick_wp (s.use [3, 0, 0, 0] (s := [_, _, _, _]) (r := R) rfl) ok) ?_
    rintro q' w ⟨sp3, sp4, s⟩
    refine WP.slot' s (fun _ w s => WP.draw' s (fun w s => ?_))
    obtain ⟨l1, l2⟩ := tick_len ok
    refine WP.step (sameAsks_wp s 3 rfl vec_rdb 0 rfl vec_rdb (by omega)) ?_
    rintro _ w ⟨rfl, s⟩
    refine WP.step (R := fun y w' => y = true ∧ Ss W (vec c_api_Ask q'.2.1 m.tick.2.1 sp3 :: vec (cI .i64) q'.2.2 m.tick.2.2 sp4 :: RefC q'.1 m.tick.1 :: vec c_api_Ask q.1 m.tick.2.1 sp1 :: vec (cI .i64) q.2 m.tick.2.2 sp2 :: Cache sd.C m.tick.1 :: R) w') (WP.ite (fun _ => WP.step (sameInts_wp s 4 rfl vec_rdb 1 rfl vec_rdb (by omega)) ?_) (fun h => absurd (by simp) h)) ?_
    · rintro _ w ⟨rfl, s⟩
      exact WP.ret ⟨by simp, s⟩
    rintro _ w ⟨rfl, s⟩
    have s2 := s.use [0, 0, 1, 1] (s := [_, _, _, _]) (r := [_, _] ++ R) rfl
    exact WP.ret ⟨rfl, Ss.closeS (sd := ⟨sd.C, q'.1⟩) (s2.drop.drop.drop.drop.perm (List.Perm.swap _ _ _))⟩
  rw [if_neg h3]
  refine WP.ite (fun h4 => ?_) (fun h4 => ?_)
  · refine WP.step (Get_wp s _ _) ?_
    rintro q w ⟨rfl, s⟩
    refine WP.slot' s (fun _ w s => WP.step (refGet_wp (s.perm (List.Perm.swap _ _ _)) ok _ _) ?_)
    rintro q' w ⟨rfl, s⟩
    refine WP.slot' s (fun _ w s => WP.draw' s (fun w s => ?_))
    refine WP.step (R := fun y w' => y = true ∧ w = w') (WP.ite (fun _ => WP.ret ⟨by simp, rfl⟩) (fun h => absurd rfl h)) ?_
    rintro _ _ ⟨rfl, rfl⟩
    exact WP.ret ⟨rfl, Ss.closeS (s.perm (List.Perm.swap _ _ _))⟩
  refine WP.ite (fun h5 => ?_) (fun h5 => ?_)
  · refine WP.draw' s (fun w s => WP.step (All_wp s) ?_)
    rintro q w ⟨sp, s⟩
    refine WP.step (refAll_wp (s.use [2] (s := [_]) (r := [_, _] ++ R) rfl) ok) ?_
    rintro q' w ⟨sp', s⟩
    have hlen : m.all.length ≤ 1024 := by
      have h1 := ok.n
      have h2 := ok.c.m1
      unfold NM.all
      rw [List.length_map]
      omega
    refine WP.step (sameAll_wp s 2 rfl vec_rdb 0 rfl vec_rdb (by omega)) ?_
    rintro _ w ⟨rfl, s⟩
    have s2 := (s.drop).use [1] (s := [_]) (r := [_, _] ++ R) rfl
    exact WP.ret ⟨by simp, Ss.closeS (s2.drop.perm (List.Perm.swap _ _ _))⟩
  refine WP.ite (fun h6 => ?_) (fun h6 => WP.ret ⟨rfl, Ss.closeS s⟩)
  · refine WP.draw' s (fun w s => WP.step (Waiting_wp s) ?_)
    rintro _ w ⟨rfl, s⟩
    refine WP.step (refWaiting_wp (s.perm (List.Perm.swap _ _ _)) ok) ?_
    rintro _ w ⟨rfl, s⟩
    exact WP.ret ⟨by simp, Ss.closeS (s.perm (List.Perm.swap _ _ _))⟩
theorem made_wp (s : Ss W R w) (c : api_NeighConfig) : WP (weirlaw15_made c) w (fun x w' => x.2 = true ∧ ∃ c', CfgOk c' ∧ (CfgOk c → c' = c) ∧ Ss W (Sd x.1 ⟨c', []⟩ :: R) w') := by
  unfold weirlaw15_made
  refine WP.slot' s (fun _ w s => WP.slot' s (fun _ w s => WP.step (New_wp s c) ?_))
  rintro ⟨p, e⟩ w (⟨hc, he, s⟩ | ⟨hc, he, s⟩)
  · simp only at he s
    subst he
    refine WP.step (refNew_wp s c) ?_
    rintro ⟨r, e⟩ w (⟨_, he, s⟩ | ⟨hn, _⟩)
    · simp only at he s
      subst he
      refine WP.slot' s (fun _ w s => WP.step (lnum_wp _) ?_)
      rintro _ _ ⟨rfl, rfl⟩
      obtain ⟨pa, b, pl, hp, _⟩ := (s.perm (List.Perm.swap _ _ _)).openC
      have hp : p = some pa := hp
      subst hp
      refine WP.step (R := fun y w' => y = false ∧ w = w') (WP.ite (fun h => absurd rfl h) (fun _ => WP.ret ⟨rfl, rfl⟩)) ?_
      rintro _ _ ⟨rfl, rfl⟩
      refine WP.ite (fun h => by cases h) (fun _ => WP.ite (fun _ => WP.ret ⟨rfl, c, hc, fun _ => rfl, Ss.closeS (sd := ⟨some pa, r⟩) (s.perm (List.Perm.swap _ _ _))⟩) (fun h => absurd rfl h))
    · exact absurd hc hn
  · cases he
    refine WP.step (refNew_wp s c) ?_
    rintro ⟨r, e⟩ w (⟨hn, _⟩ | ⟨_, he, s⟩)
    · exact absurd hn hc
    · simp only at he
      subst he
      refine WP.slot' s (fun _ w s => WP.step (lnum_wp _) ?_)
      rintro _ _ ⟨rfl, rfl⟩
      refine WP.step (R := fun y w' => y = false ∧ w = w') (WP.ite (fun h => absurd rfl h) (fun _ => WP.ret ⟨rfl, rfl⟩)) ?_
      rintro _ _ ⟨rfl, rfl⟩
      refine WP.ite (fun h => by cases h) (fun _ => WP.ite (fun h => by cases h) (fun _ => ?_))
      have small : CfgOk ⟨2, 1, 1, 1, 1⟩ := (cfg_iff _).2 (by decide)
      refine WP.slot' s (fun _ w s => WP.step (New_wp s _) ?_)
      rintro ⟨p, e⟩ w (⟨_, he, s⟩ | ⟨hn, _⟩)
      · simp only at he s
        subst he
        refine WP.step (refNew_wp s _) ?_
        rintro ⟨r, e⟩ w (⟨_, he, s⟩ | ⟨hn, _⟩)
        · simp only at he s
          subst he
          obtain ⟨pa, b, pl, hp, _⟩ := (s.perm (List.Perm.swap _ _ _)).openC
          have hp : p = some pa := hp
          subst hp
          refine WP.draw' s (fun w s => ?_)
          refine WP.step (R := fun y w' => y = true ∧ w = w') (WP.ite (fun _ => WP.step (lnum_wp _) ?_) (fun h => absurd (by simp) h)) ?_
          · rintro _ _ ⟨rfl, rfl⟩
            exact WP.ret ⟨rfl, rfl⟩
          rintro _ _ ⟨rfl, rfl⟩
          exact WP.ret ⟨rfl, _, small, fun h => absurd h hc, Ss.closeS (sd := ⟨some pa, r⟩) (s.perm (List.Perm.swap _ _ _))⟩
        · exact absurd small hn
      · exact absurd small hn
theorem ip_wp (s : Ss W R w) (d : Int) : WP (weirlaw15_ip d) w (fun r w' => r = ⟨4, ⟨[10, 0, 0, d, 0, 0, 0, 0, 0, 0, 0, 0, 0, 0, 0, 0], rfl⟩⟩ ∧ Ss W R w') := by
  unfold weirlaw15_ip
  exact WP.slot' s (fun _ w s => WP.ret ⟨rfl, s⟩)
end
end Go.Proofs.Ytlkhijflgbobjaa.Lx
