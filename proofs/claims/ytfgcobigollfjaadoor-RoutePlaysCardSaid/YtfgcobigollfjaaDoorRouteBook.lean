
import Derived.Test.YtfgcobigollfjaaDoorRoutePlain
import Derived.Test.YtfgcobigollfjaaDoorLxSh
set_option linter.unusedVariables false
set_option linter.unusedSimpArgs false
namespace Go.Proofs.YtfgcobigollfjaaDoor.Lx
open Go Go.Proofs Go.RowKit
def ApSt {α : Type} (c : Cod α) (sl : Sl) (l : List α) (m : α) (rs : List (Sl × Nat)) : HP := ex
 (fun q : Nat × List α × List (Sl × List α) => sl.len = l.length ∧ ∀ r ∈ rs, (r.1 = ⟨sl.a, l.length + r.2, sl.cap⟩ ∧ r.2 ≤ q.1) ∨ (r.1, l ++ List.replicate r.2 m) ∈ q.2.2)
 (fun q => seps [vec c sl l (List.replicate q.1 m ++ q.2.1), Held c q.2.2])
section
variable {α β : Type} {c : Cod α} {W w : World} {R : List HP} {sl : Sl} {l : List α} {m : α} {rs : List (Sl × Nat)}
theorem Zmk {sp : List α} (s : Ss W (vec c sl l sp :: R) w) (m : α) : Ss W (ApSt c sl l m [] :: R) w := by
 have h1 := (s.vec_len (i := 0) rfl).1
 have s := (s.mk0 (A := Held c []) (by intro p hp; cases hp)).use [1, 0] rfl
 exact (Ss.group (l := [vec c sl l sp, Held c []]) s).first (fun h hh => ⟨(0, sp, []), ⟨h1, by simp⟩, hh⟩)
theorem ZlS {k q : Nat} {sp : List α} : List.replicate q m ++ (List.replicate k m ++ sp).drop q = List.replicate (max k q) m ++ sp.drop (q - k) := by
 rw [List.drop_append, List.drop_replicate, List.length_replicate, ← List.append_assoc, List.replicate_append_replicate]
 congr 2
 omega
theorem Zjo {E : TypeId} {by_ : Nat} {z : α} {f : Sl → M β} {Q : β → World → Prop} (s : Ss W R w) (i : Nat) (e : nth R i = some (ApSt c sl l m rs)) (xs : List α) (q : Nat) (hxs : xs = List.replicate q m) (hq : 0 < q) (hb : (l.length + q) * by_ ≤ 140737488355328) (h0 : 0 < by_) (h1 : 0 < c.n)
  (k : ∀ r w', Ss W (up R i (ApSt c sl l m (rs ++ [(r, q)]))) w' → WP (f r) w' Q) : WP (Lx.appl c E by_ z sl xs >>= f) w Q := by
 subst hxs
 have s := s.perm (ZcH e)
 have back : ∀ {r : Sl} {w' : World}, Ss W (ApSt c sl l m (rs ++ [(r, q)]) :: wo R i) w' → WP (f r) w' Q := fun s => k _ _ (s.perm (ZcW e).symm)
 obtain ⟨⟨n, sp, zs⟩, ⟨hl, hr⟩, s⟩ := s.openx 0 rfl
 simp only at hr
 have s : Ss W (vec c sl l (List.replicate n m ++ sp) :: Held c zs :: wo R i) w := Ss.split (l := [_, _]) s
 obtain ⟨e1, e2, e3⟩ := s.vec_len (i := 0) rfl
 by_cases hc : q ≤ (List.replicate n m ++ sp).length
 ·refine WP.applI s 0 rfl (by intro h; have := congrArg List.length h; simp at this; omega) (by simpa using hc) (fun w s => ?_)
  have s : Ss W (vec c sl l (List.replicate q m ++ (List.replicate n m ++ sp).drop (List.replicate q m).length) :: Held c zs :: wo R i) w := s
  rw [List.length_replicate, ZlS] at s
  refine back ((Ss.group (l := [vec c sl l (List.replicate (max n q) m ++ sp.drop (q - n)), Held c zs]) s).first (fun h hh => ⟨(max n q, sp.drop (q - n), zs), ⟨hl, fun r hm => ?_⟩, hh⟩))
  rcases List.mem_append.1 hm with hm | hm
  ·rcases hr r hm with h | h
   ·exact .inl ⟨h.1, by simp only; omega⟩
   ·exact .inr h
  ·rw [List.mem_singleton.1 hm]
   exact .inl ⟨by rw [List.length_replicate], by simp only; omega⟩
 ·refine WP.applR s 0 rfl ZcG (by rw [e2, List.length_replicate]; omega) (by simpa using hb) h0 h1 (fun r w sp2 s => ?_)
  have s := Held.app ((Held.one s.vec_freeze).use [2, 0, 0] (s := [Held c zs, Held c [(r, l ++ List.replicate q m)], vec c sl l (List.replicate n m ++ sp)]) (r := wo R i) rfl)
  have s : Ss W ([vec c sl l (List.replicate n m ++ sp), Held c (zs ++ [(r, l ++ List.replicate q m)])] ++ wo R i) w := s.use [1, 0] rfl
  refine back (s.group.first (fun h hh => ⟨(n, sp, zs ++ [(r, l ++ List.replicate q m)]), ⟨hl, fun r' hm => ?_⟩, hh⟩))
  rcases List.mem_append.1 hm with hm | hm
  ·rcases hr r' hm with h | h
   ·exact .inl h
   ·exact .inr (List.mem_append_left _ h)
  ·rw [List.mem_singleton.1 hm]
   exact .inr (by simp)
theorem ZnI (s : Ss W (ApSt c sl l m rs :: R) w) : Ss W (Held c ((sl, l) :: rs.map fun r => (r.1, l ++ List.replicate r.2 m)) :: R) w := by
 obtain ⟨⟨n, sp, zs⟩, ⟨hl, hr⟩, s⟩ := s.openx 0 rfl
 simp only at hr
 have s : Ss W (vec c sl l (List.replicate n m ++ sp) :: Held c zs :: R) w := Ss.split (l := [_, _]) s
 have s : Ss W (Held c ((sl, l) :: (List.range (n + 1)).map fun q => ((⟨sl.a, l.length + q, sl.cap⟩ : Sl), l ++ List.replicate q m)) :: Held c zs :: R) w := s.freeze (fun h hv p hp => by
  rcases List.mem_cons.1 hp with rfl | hp
  ·exact Zkv hv
  ·obtain ⟨q, hq, rfl⟩ := List.mem_map.1 hp
   rw [List.mem_range] at hq
   have hv' : vec c sl l (List.replicate q m ++ (List.replicate (n - q) m ++ sp)) h := by
    rw [← List.append_assoc, List.replicate_append_replicate, show q + (n - q) = n by omega]
    exact hv
   have := Zkv (Zku hv')
   rw [List.length_replicate] at this
   exact this)
 refine Held.less (Held.app s) (fun p hp => ?_)
 rcases List.mem_cons.1 hp with rfl | hp
 ·exact List.mem_append_left _ (List.mem_cons_self ..)
 ·obtain ⟨r, hm, rfl⟩ := List.mem_map.1 hp
  rcases hr r hm with ⟨h1, h2⟩ | h
  ·refine List.mem_append_left _ (List.mem_cons_of_mem _ (List.mem_map.2 ⟨r.2, List.mem_range.2 (by omega), ?_⟩))
   rw [← h1]
  ·exact List.mem_append_right _ h
end
abbrev cBk := ZbJ
def mkR (n : Int) : Zab := ⟨Zaa.Prefix, n, Zaa.Via⟩
def BkOk (zs : List (Sl × List Zab)) (ms : List Int) (n : Nat) : Prop := zs.length = 4 * n ∧ ms.length = 4 * n ∧ ∀ (i : Nat) p m, zs[i]? = some p → ms[i]? = some m → p.2.length ≤ 200 ∧ p.2 = List.replicate p.2.length (mkR m)
def BkHs (bb : Nat) (L V : Sl) (zs : List (Sl × List Zab)) (ms : List Int) (l1 : List Sl) (l2 : List Int) : List HP := [pts true (pt bb 0) (cBk.enc ⟨L, V⟩), vec cL L (zs.map (·.1)) l1, vec (cI .i64) V ms l2, Held cRt zs]
def BkP (bb n : Nat) : HP := fun h => ∃ L V zs ms l1 l2, BkOk zs ms n ∧ seps (BkHs bb L V zs ms l1 l2) h
section
variable {W w : World} {R : List HP} {bb n : Nat}
theorem Ss.openBk (s : Ss W (BkP bb n :: R) w) : ∃ L V zs ms l1 l2, BkOk zs ms n ∧ Ss W (BkHs bb L V zs ms l1 l2 ++ R) w := by
 obtain ⟨hb, k, ⟨h1, h2, e, l1, l2, ⟨L, V, zs, ms, a1, a2, a3, a6⟩, b⟩, hw⟩ := s
 exact ⟨L, V, zs, ms, a1, a2, a3, Ss.split ⟨hb, k, ⟨h1, h2, e, l1, l2, a6, b⟩, hw⟩⟩
theorem ZmF {Z : List Value} (hZ : Z = cBk.enc ⟨Sl.nil, Sl.nil⟩) (s : Ss W (pts true (pt bb 0) Z :: R) w) : Ss W (BkP bb 0 :: R) w := by
 subst hZ
 have s := ((s.mk0 (A := Held cRt []) (by intro p hp; cases hp)).mk0 (A := vec (cI .i64) Sl.nil [] []) Zed).mk0 (A := vec cL Sl.nil [] []) Zed
 have s : Ss W (BkHs bb Sl.nil Sl.nil [] [] [] [] ++ R) w := s.use [3, 0, 0, 0] rfl
 exact s.group.first (fun h hh => ⟨_, _, _, _, _, _, ⟨rfl, rfl, fun i p m h => by simp at h⟩, hh⟩)
theorem ZlK (hn : n ≤ 1000) (s : Ss W (BkP bb n :: R) w) : WP (Zax (some (pt bb 0))) w (fun r w' => r = true ∧ Ss W (BkP bb n :: R) w') := by
 obtain ⟨L, V, zs, ms, l1, l2, ⟨hz, hm, ho⟩, s⟩ := s.openBk
 unfold Zax
 refine WP.loopG (γ := Nat) (fun i (x : Int) w => x = (i : Int) ∧ i ≤ 4 * n ∧ Ss W (BkHs bb L V zs ms l1 l2 ++ R) w) (fun i _ => 4 * n - i) 0 ⟨rfl, by omega, s⟩ ?_
 clear s
 rintro i _ w ⟨rfl, hi, s⟩
 show WP (Zax.L1 (some (pt bb 0)) (i : Int)) w _
 unfold Zax.L1
 have hL := (s.vec_len (i := 1) rfl).1
 rw [List.length_map, hz] at hL
 refine WP.nilck (WP.ld (x := L) s 0 rfl (o := 0) (by simp [Addr.add]) (ZbZ _) (WP.ite (fun h => ?_) (fun h => WP.done ⟨rfl, s.group.first (fun h hh => ⟨_, _, _, _, _, _, ⟨hz, hm, ho⟩, hh⟩)⟩)))
 obtain ⟨p, hp⟩ : ∃ p, zs[i]? = some p := ⟨_, List.getElem?_eq_getElem (by omega)⟩
 obtain ⟨m, hmm⟩ : ∃ m, ms[i]? = some m := ⟨_, List.getElem?_eq_getElem (by omega)⟩
 obtain ⟨p1, p2⟩ := ho i p m hp hmm
 have rp : Rdb (Held cRt zs) cRt p.1 p.2 := Held.rdb (List.mem_of_getElem? hp)
 have hpx : (zs.map (·.1))[(i : Int).toNat]? = some p.1 := by rw [Int.toNat_natCast, List.getElem?_map, hp]; rfl
 have hpl := (s.rd_len (i := 3) rfl rp).1
 refine WP.loopG (γ := Nat) (fun k (x : Int) w => x = (k : Int) ∧ k ≤ p.2.length ∧ Ss W (BkHs bb L V zs ms l1 l2 ++ R) w) (fun k _ => p.2.length - k) 0 ⟨rfl, by omega, s⟩ ?_
 clear s
 rintro k _ w ⟨rfl, hk, s⟩
 show WP (Zax.L2 (some (pt bb 0)) (i : Int) (k : Int)) w _
 unfold Zax.L2
 refine WP.nilck (WP.ld (x := L) s 0 rfl (o := 0) (by simp [Addr.add]) (ZbZ _) (WP.rdx s 1 rfl ZcG (by omega) hpx rfl (WP.ite (fun h2 => ?_) (fun h2 => WP.done ⟨i + 1, ⟨by rw [ZaP (by omega) (by omega)]; omega, by omega, s⟩, by omega⟩))))
 have hpk : p.2[(k : Int).toNat]? = some (mkR m) := by
  rw [Int.toNat_natCast, p2]
  exact List.getElem?_replicate.trans (if_pos (by omega))
 refine WP.draw' s (fun w s => WP.nilck (WP.ld (x := L) s 0 rfl (o := 0) (by simp [Addr.add]) (ZbZ _) (WP.rdx s 1 rfl ZcG (by omega) hpx rfl (WP.rdx s 3 rfl rp (by omega) hpk rfl ?_))))
 refine WP.nilck (WP.ld (x := V) s 0 rfl (o := 1) rfl (ZdZ _) (WP.rdx s 2 rfl ZcG (by omega) (x := m) (by rw [Int.toNat_natCast]; exact hmm) rfl ?_))
 exact WP.ite (fun h => absurd rfl h) (fun _ => WP.next ⟨k + 1, ⟨by rw [ZaP (by omega) (by omega)]; omega, by omega, s⟩, by omega⟩)
theorem Zkz {L L' V sl : Sl} {zs : List (Sl × List Zab)} {ms : List Int} {l1' : List Sl} {l2 : List Int} {xs : List Zab} {me : Int} (hx : xs.length ≤ 150) (hn : n < 1000) (hz : zs.length = 4 * n) (hm : ms.length = 4 * n)
  (ho : ∀ (i : Nat) p m, zs[i]? = some p → ms[i]? = some m → p.2.length ≤ 200 ∧ p.2 = List.replicate p.2.length (mkR m)) (hme : IntKind.wrap .i64 ((IntKind.wrap .i64 (0 - (L.len : Int))) - 7) = me) {r1 r2 r3 : Sl} {zs' : List (Sl × List Zab)}
  (e : zs' = zs ++ [(sl, List.replicate xs.length (mkR me)), (r1, List.replicate (xs.length + 1) (mkR me)), (r2, List.replicate (xs.length + 2) (mkR me)), (r3, List.replicate (xs.length + 3) (mkR me))])
  (s : Ss W ([pts true (pt bb 0) (cBk.enc ⟨L', V⟩), vec cL L' (zs'.map (·.1)) l1', vec (cI .i64) V ms l2, Held cRt zs'] ++ R) w) : WP (Zam.K1 (some (pt bb 0)) L) w (fun _ w' => Ss W (BkP bb (n + 1) :: R) w') := by
 subst e
 unfold Zam.K1
 rw [hme]
 refine WP.nilck (WP.ld (x := V) s 0 rfl (o := 1) rfl (ZdZ _) (WP.slot' s (fun _ w s => WP.appl s 2 rfl (by simp only [List.length_cons, List.length_nil]; omega) (by decide) (fun V' w l2' s => WP.nilck (WP.st s 0 rfl (o := 1) rfl (Zfv _ _) (fun w s => WP.ret ?_))))))
 have s : Ss W (BkHs bb L' V' (zs ++ [(sl, List.replicate xs.length (mkR me)), (r1, List.replicate (xs.length + 1) (mkR me)), (r2, List.replicate (xs.length + 2) (mkR me)), (r3, List.replicate (xs.length + 3) (mkR me))]) (ms ++ [me, me, me, me]) l1' l2' ++ R) w := s
 refine s.group.first (fun h hh => ⟨_, _, _, _, _, _, ⟨by simp only [List.length_append, List.length_cons, List.length_nil, hz]; omega, by simp only [List.length_append, List.length_cons, List.length_nil, hm]; omega, fun i p m hp hmm => ?_⟩, hh⟩)
 by_cases hi : i < 4 * n
 ·rw [List.getElem?_append_left (by omega)] at hp hmm
  exact ho i p m hp hmm
 ·rw [List.getElem?_append_right (by omega)] at hp hmm
  rw [hz] at hp
  rw [hm] at hmm
  have hd : i - 4 * n < 4 := by
   have := (List.getElem?_eq_some_iff.1 hp).1
   simpa using this
  generalize i - 4 * n = d at hp hmm hd
  match d, hd with
  | 0, _ | 1, _ | 2, _ | 3, _ =>
   simp only [List.getElem?_cons_zero, List.getElem?_cons_succ, Option.some.injEq] at hp hmm
   subst hp
   subst hmm
   simp only [List.length_replicate]
   exact ⟨by omega, trivial⟩
theorem ZlN {L V sl : Sl} {zs : List (Sl × List Zab)} {ms : List Int} {l1 : List Sl} {l2 : List Int} {xs : List Zab} {me : Int} (hx : xs.length ≤ 150) (hn : n < 1000) (hz : zs.length = 4 * n) (hm : ms.length = 4 * n)
  (ho : ∀ (i : Nat) p m, zs[i]? = some p → ms[i]? = some m → p.2.length ≤ 200 ∧ p.2 = List.replicate p.2.length (mkR m)) (hme : IntKind.wrap .i64 ((IntKind.wrap .i64 (0 - (L.len : Int))) - 7) = me) {r1 r2 r3 : Sl}
  (s : Ss W (ApSt cRt sl (List.replicate xs.length (mkR me)) (mkR me) [(r1, 1), (r2, 2), (r3, 3)] :: (BkHs bb L V zs ms l1 l2 ++ R)) w) :
  WP (appl cL 39 24 Sl.nil L [sl, r1, r2, r3] >>= fun r => nilck (some (pt bb 0)) >>= fun p => st cL p r >>= fun _ => Zam.K1 (some (pt bb 0)) L) w (fun _ w' => Ss W (BkP bb (n + 1) :: R) w') := by
 have s := ZnI s
 simp only [List.map_cons, List.map_nil, List.replicate_append_replicate] at s
 refine WP.appl s 2 rfl (by simp only [List.length_cons, List.length_nil, List.length_map]; omega) (by decide) (fun L' w l1' s => WP.nilck (WP.st s 1 rfl (o := 0) (by simp [Addr.add]) (Zfw _ _) (fun w s => ?_)))
 have s := Held.app (s.use [4, 0] (s := [Held cRt zs, Held cRt [(sl, List.replicate xs.length (mkR me)), (r1, List.replicate (xs.length + 1) (mkR me)), (r2, List.replicate (xs.length + 2) (mkR me)), (r3, List.replicate (xs.length + 3) (mkR me))]]) (r := pts true (pt bb 0) (cBk.enc ⟨L', V⟩) :: vec cL L' (zs.map (·.1) ++ [sl, r1, r2, r3]) l1' :: vec (cI .i64) V ms l2 :: R) rfl)
 refine Zkz (L' := L') (l1' := l1') (sl := sl) (r1 := r1) (r2 := r2) (r3 := r3) (V := V) (l2 := l2) hx hn hz hm ho hme rfl ?_
 rw [List.map_append]
 exact s.use [1, 1, 1, 0] rfl
theorem Zky {L V sl : Sl} {zs : List (Sl × List Zab)} {ms : List Int} {l1 : List Sl} {l2 : List Int} {xs : List Zab} {me : Int} (hx : xs.length ≤ 150) (hn : n < 1000) (hz : zs.length = 4 * n) (hm : ms.length = 4 * n)
  (ho : ∀ (i : Nat) p m, zs[i]? = some p → ms[i]? = some m → p.2.length ≤ 200 ∧ p.2 = List.replicate p.2.length (mkR m)) (hme : IntKind.wrap .i64 ((IntKind.wrap .i64 (0 - (L.len : Int))) - 7) = me)
  (s : Ss W (ApSt cRt sl (List.replicate xs.length (mkR me)) (mkR me) [] :: (BkHs bb L V zs ms l1 l2 ++ R)) w) : WP (Zam.K2 (some (pt bb 0)) sl L) w (fun _ w' => Ss W (BkP bb (n + 1) :: R) w') := by
 unfold Zam.K2
 rw [hme]
 refine WP.draws s (fun σ w s => ?_)
 have hb1 : ∀ {q : Nat}, ((List.replicate xs.length (mkR me)).length + (q % 4)) * 64 ≤ 140737488355328 := by intro q; rw [List.length_replicate]; omega
 have T1 : ∀ {β : Type} {w : World} {rs : List (Sl × Nat)} {f : Sl → M β} {Q : β → World → Prop}, Ss W (ApSt cRt sl (List.replicate xs.length (mkR me)) (mkR me) rs :: (BkHs bb L V zs ms l1 l2 ++ R)) w → (∀ r w, Ss W (ApSt cRt sl (List.replicate xs.length (mkR me)) (mkR me) (rs ++ [(r, 1)]) :: (BkHs bb L V zs ms l1 l2 ++ R)) w → WP (f r) w Q) → WP (appl cRt 32 64 Zaa sl [⟨Zaa.Prefix, me, Zaa.Via⟩] >>= f) w Q :=
  fun s k => Zjo s 0 rfl _ 1 rfl (by decide) (hb1 (q := 1)) (by decide) (by decide) (fun r w s => k r w s)
 have T2 : ∀ {β : Type} {w : World} {rs : List (Sl × Nat)} {f : Sl → M β} {Q : β → World → Prop}, Ss W (ApSt cRt sl (List.replicate xs.length (mkR me)) (mkR me) rs :: (BkHs bb L V zs ms l1 l2 ++ R)) w → (∀ r w, Ss W (ApSt cRt sl (List.replicate xs.length (mkR me)) (mkR me) (rs ++ [(r, 2)]) :: (BkHs bb L V zs ms l1 l2 ++ R)) w → WP (f r) w Q) → WP (appl cRt 32 64 Zaa sl [⟨Zaa.Prefix, me, Zaa.Via⟩, ⟨Zaa.Prefix, me, Zaa.Via⟩] >>= f) w Q :=
  fun s k => Zjo s 0 rfl _ 2 rfl (by decide) (hb1 (q := 2)) (by decide) (by decide) (fun r w s => k r w s)
 have T3 : ∀ {β : Type} {w : World} {rs : List (Sl × Nat)} {f : Sl → M β} {Q : β → World → Prop}, Ss W (ApSt cRt sl (List.replicate xs.length (mkR me)) (mkR me) rs :: (BkHs bb L V zs ms l1 l2 ++ R)) w → (∀ r w, Ss W (ApSt cRt sl (List.replicate xs.length (mkR me)) (mkR me) (rs ++ [(r, 3)]) :: (BkHs bb L V zs ms l1 l2 ++ R)) w → WP (f r) w Q) → WP (appl cRt 32 64 Zaa sl [⟨Zaa.Prefix, me, Zaa.Via⟩, ⟨Zaa.Prefix, me, Zaa.Via⟩, ⟨Zaa.Prefix, me, Zaa.Via⟩] >>= f) w Q :=
  fun s k => Zjo s 0 rfl _ 3 rfl (by decide) (hb1 (q := 3)) (by decide) (by decide) (fun r w s => k r w s)
 have Sm : ∀ {β : Type} {w : World} {rs : List (Sl × Nat)} {f : Unit → M β} {Q : β → World → Prop}, Ss W (ApSt cRt sl (List.replicate xs.length (mkR me)) (mkR me) rs :: (BkHs bb L V zs ms l1 l2 ++ R)) w → WP (f ()) w Q → WP (same cL (pt bb 0) L >>= f) w Q :=
  fun s k => WP.same (x := L) s 1 rfl (o := 0) (by simp [Addr.add]) (ZbZ _) k
 have Ld : ∀ {β : Type} {w : World} {rs : List (Sl × Nat)} {f : Sl → M β} {Q : β → World → Prop}, Ss W (ApSt cRt sl (List.replicate xs.length (mkR me)) (mkR me) rs :: (BkHs bb L V zs ms l1 l2 ++ R)) w → WP (f L) w Q → WP (ld cL (pt bb 0) >>= f) w Q :=
  fun s k => WP.ld (x := L) s 1 rfl (o := 0) (by simp [Addr.add]) (ZbZ _) k
 have En : ∀ {w : World} {r1 r2 r3 : Sl}, Ss W (ApSt cRt sl (List.replicate xs.length (mkR me)) (mkR me) ([] ++ [(r1, 1)] ++ [(r2, 2)] ++ [(r3, 3)]) :: (BkHs bb L V zs ms l1 l2 ++ R)) w →
   WP (appl cL 39 24 Sl.nil L [sl, r1, r2, r3] >>= fun r => nilck (some (pt bb 0)) >>= fun p => st cL p r >>= fun _ => Zam.K1 (some (pt bb 0)) L) w (fun _ w' => Ss W (BkP bb (n + 1) :: R) w') := fun s => ZlN hx hn hz hm ho hme s
 repeat' with_reducible refine WP.ite (fun _ => ?_) (fun _ => ?_)
 all_goals
  with_reducible refine WP.nilck (Ld s ?_)
  repeat' first
   | with_reducible refine WP.slot' s (fun _ w s => ?_)
   | with_reducible refine Sm s ?_
   | with_reducible refine T1 s (fun r w s => ?_)
   | with_reducible refine T2 s (fun r w s => ?_)
   | with_reducible refine T3 s (fun r w s => ?_)
   | with_reducible exact En s
theorem ZmJ {sl : Sl} {xs sp : List Zab} (hx : xs.length ≤ 150) (hn : n < 1000) (s : Ss W (vec cRt sl xs sp :: BkP bb n :: R) w) : WP (Zam (some (pt bb 0)) sl) w (fun _ w' => Ss W (BkP bb (n + 1) :: R) w') := by
 obtain ⟨L, V, zs, ms, l1, l2, ⟨hz, hm, ho⟩, s⟩ := Ss.openBk (s.use [1] (s := [_]) (r := _ :: R) rfl)
 have s : Ss W (vec cRt sl xs sp :: (BkHs bb L V zs ms l1 l2 ++ R)) w := s.use [4] rfl
 unfold Zam
 have hL := (s.vec_len (i := 2) rfl).1
 rw [List.length_map, hz] at hL
 generalize hme : IntKind.wrap .i64 ((IntKind.wrap .i64 (0 - (L.len : Int))) - 7) = me
 refine WP.nilck (WP.ld (x := L) s 1 rfl (o := 0) (by simp [Addr.add]) (ZbZ _) (WP.slot' s (fun _ w s => ?_)))
 refine WP.loopG (γ := Nat × List Zab) (fun g (x : Int) w => x = (g.1 : Int) ∧ g.1 ≤ xs.length ∧ g.2.length = xs.length ∧ (∀ q : Nat, q < g.1 → g.2[q]? = some (mkR me)) ∧ Ss W (vec cRt sl g.2 sp :: (BkHs bb L V zs ms l1 l2 ++ R)) w) (fun g _ => xs.length - g.1) (0, xs) ⟨rfl, by simp, rfl, fun q h => absurd h (by simp), s⟩ ?_
 clear s
 rintro ⟨k, ys⟩ _ w ⟨rfl, hk, hy, hq, s⟩
 simp only at hk hy hq s
 show WP (Zam.L1 (some (pt bb 0)) sl L (k : Int)) w _
 unfold Zam.L1
 rw [hme]
 have hsl := (s.vec_len (i := 0) rfl).1
 refine WP.ite (fun h => ?_) (fun h => ?_)
 ·refine WP.stx (c := cRt) (x := mkR me) s 0 rfl (by omega) (by omega) rfl (fun w s => WP.next ⟨(k + 1, ys.set k (mkR me)), ⟨by simp only; rw [ZaP (by omega) (by omega)]; omega, by simp only; omega, by simp only [List.length_set]; exact hy, fun q hq' => ?_, ?_⟩, by simp only; omega⟩)
  ·simp only at hq' ⊢
   by_cases eq : q = k
   ·subst eq
    exact List.getElem?_set_self (by omega)
   ·rw [List.getElem?_set_ne (fun h => eq h.symm)]
    exact hq q (by omega)
  ·rw [Int.toNat_natCast] at s
   exact s
 have ey : ys = List.replicate xs.length (mkR me) := ZnT hy (fun q h' => hq q (by omega))
 refine WP.step (R := fun _ w' => Ss W (BkP bb (n + 1) :: R) w') ?_ (fun r w h => WP.done h)
 subst ey
 have s := Zmk s (mkR me)
 clear hq hy
 exact Zky hx hn hz hm ho hme s
end
end Go.Proofs.YtfgcobigollfjaaDoor.Lx
