
import Derived.Test.YtfgcobigollfjaaDoorRouteRef
import Derived.Test.YtfgcobigollfjaaDoorRoutePlain
set_option linter.unusedVariables false
set_option linter.unusedSimpArgs false
namespace Go.Proofs.YtfgcobigollfjaaDoor.Lx
open Go Go.Proofs Go.RowKit
def docF (D : List api_Route) (ip : api_IP) (n : Int) : List api_Route := D.filter fun q => decide (q.Prefix.Len = n) && ctM q.Prefix ip
def docA (D : List api_Route) (ip : api_IP) : Nat → List api_Route
 | 0 => []
 | k + 1 => docA D ip k ++ docF D ip (128 - (k : Int))
theorem docA_len {D : List api_Route} {ip : api_IP} : ∀ {k : Nat}, (docA D ip k).length ≤ k * D.length
 | 0 => by simp [docA]
 | k + 1 => by
  have h1 := docA_len (D := D) (ip := ip) (k := k)
  have h2 : (docF D ip (128 - (k : Int))).length ≤ D.length := List.length_filter_le ..
  unfold docA
  rw [List.length_append, Nat.succ_mul]
  omega
theorem docA_mem {D : List api_Route} {ip : api_IP} {x : api_Route} : ∀ {k : Nat}, x ∈ docA D ip k ↔ x ∈ D ∧ ctM x.Prefix ip = true ∧ 128 - (k : Int) < x.Prefix.Len ∧ x.Prefix.Len ≤ 128
 | 0 => by
  unfold docA
  constructor
  ·intro h; cases h
  ·rintro ⟨_, _, h1, h2⟩; omega
 | k + 1 => by
  unfold docA docF
  rw [List.mem_append, docA_mem (k := k), List.mem_filter, Bool.and_eq_true, decide_eq_true_iff]
  constructor
  ·rintro (⟨a, b, c, d⟩ | ⟨a, b, c⟩)
   ·exact ⟨a, b, by omega, d⟩
   ·exact ⟨a, c, by omega, by omega⟩
  ·rintro ⟨a, b, c, d⟩
   by_cases e : x.Prefix.Len = 128 - (k : Int)
   ·exact .inr ⟨a, e, b⟩
   ·exact .inl ⟨a, b, by omega, d⟩
theorem docA_srt {D : List api_Route} {ip : api_IP} (hn : D.Nodup) : ∀ {k : Nat}, (docA D ip k).Pairwise fun x y => y.Prefix.Len ≤ x.Prefix.Len ∧ x ≠ y
 | 0 => List.Pairwise.nil
 | k + 1 => by
  unfold docA
  refine List.pairwise_append.2 ⟨docA_srt hn, ?_, fun x hx y hy => ?_⟩
  ·have h1 : (docF D ip (128 - (k : Int))).Nodup := hn.filter _
   refine List.Pairwise.imp_of_mem (fun {x y} hx hy h => ⟨?_, h⟩) h1
   unfold docF at hx hy
   rw [List.mem_filter, Bool.and_eq_true, decide_eq_true_iff] at hx hy
   omega
  ·have h1 := (docA_mem.1 hx).2.2.1
   unfold docF at hy
   rw [List.mem_filter, Bool.and_eq_true, decide_eq_true_iff] at hy
   exact ⟨by omega, fun e => by rw [e] at h1; omega⟩
theorem docA_all {D : List api_Route} {ip : api_IP} (nd : (D.map (·.Prefix)).Nodup) (hv : ∀ r ∈ D, isPx r.Prefix = true) : docA D ip 129 = matchesM D ip := by
 have h2 : D.Nodup := by
  have : D.Pairwise fun a b => a.Prefix ≠ b.Prefix := List.pairwise_map.1 nd
  exact this.imp fun h e => h (by rw [e])
 have s1 := docA_srt (ip := ip) h2 (k := 129)
 have s2 := match_falls (L := D) (ip := ip)
 have inj : ∀ x ∈ matchesM D ip, ∀ y ∈ matchesM D ip, x.Prefix.Len = y.Prefix.Len → x = y := by
  intro x hx y hy e
  obtain ⟨i, hi, rfl⟩ := List.getElem_of_mem hx
  obtain ⟨j, hj, rfl⟩ := List.getElem_of_mem hy
  rw [List.pairwise_iff_getElem] at s2
  rcases Nat.lt_trichotomy i j with h | h | h
  ·have := s2 i j hi hj h
   omega
  ·subst h; rfl
  ·have := s2 j i hj hi h
   omega
 have mem : ∀ x, x ∈ docA D ip 129 ↔ x ∈ matchesM D ip := by
  intro x
  rw [docA_mem, match_mem nd hv]
  constructor
  ·exact fun h => ⟨h.1, h.2.1⟩
  ·intro h
   have hp : vpM x.Prefix = 0 := of_decide_eq_true (hv x h.1)
   obtain ⟨g1, g2, g3, _⟩ := vpM_len hp
   have := sizeM_le x.Prefix.IP
   exact ⟨h.1, h.2, by omega, by omega⟩
 have n1 : (docA D ip 129).Nodup := s1.imp fun h => h.2
 have n2 : (matchesM D ip).Nodup := s2.imp fun h e => by rw [e] at h; omega
 refine List.Perm.eq_of_pairwise (le := fun x y => y.Prefix.Len ≤ x.Prefix.Len) (fun x y hx hy hxy hyx => ?_) (s1.imp fun h => h.1) (s2.imp fun h => by omega) ((List.perm_ext_iff_of_nodup n1 n2).2 mem)
 exact inj x ((mem x).1 hx) y hy (by omega)
structure TOk (L : List api_Route) : Prop where
 len : L.length ≤ 256
 px : ∀ r ∈ L, isPx r.Prefix = true
 byt : ∀ r ∈ L, RByt r
theorem TOk.nil : TOk [] := ⟨by simp, by simp, by simp⟩
theorem TOk.put {L : List api_Route} (h : TOk L) {r : api_Route} (hr : RByt r) : TOk (putR L r (addR L r)) :=
 ⟨addR_le h.len, fun x hx => (putR_ok hx).elim (h.px x) (fun e => e.1 ▸ e.2), fun x hx => (putR_ok hx).elim (h.byt x) (fun e => e.1 ▸ hr)⟩
theorem TOk.drop {L : List api_Route} (h : TOk L) (k : api_Prefix) : TOk (dropR L k) :=
 ⟨Nat.le_trans (List.length_filter_le ..) h.len, fun x hx => h.px x (List.mem_filter.1 hx).1, fun x hx => h.byt x (List.mem_filter.1 hx).1⟩
theorem TOk.perm {L M : List api_Route} (h : TOk L) (p : M.Perm L) : TOk M := ⟨by rw [p.length_eq]; exact h.len, fun x hx => h.px x (p.mem_iff.1 hx), fun x hx => h.byt x (p.mem_iff.1 hx)⟩
theorem known_perm {L M : List api_Route} (p : M.Perm L) (k : api_Prefix) : known M k = known L k := by
 rw [Bool.eq_iff_iff, known_iff, known_iff]
 exact ⟨fun ⟨x, h, e⟩ => ⟨x, p.mem_iff.1 h, e⟩, fun ⟨x, h, e⟩ => ⟨x, p.mem_iff.2 h, e⟩⟩
theorem addR_perm {L M : List api_Route} (p : M.Perm L) (r : api_Route) : addR M r = addR L r := by
 unfold addR addM addE
 rw [known_perm p, p.length_eq]
theorem addR_known {L : List api_Route} {r : api_Route} (h : addR L r = 0) : known L r.Prefix = false := by
 cases hk : known L r.Prefix with
 | false => rfl
 | true =>
  unfold addR addM addE at h
  rw [if_pos hk] at h
  split at h
  ·omega
  ·split at h
   ·omega
   ·split at h <;> omega
theorem nd_snoc {L : List api_Route} {r : api_Route} (nd : (L.map (·.Prefix)).Nodup) (h : known L r.Prefix = false) : ((L ++ [r]).map (·.Prefix)).Nodup := by
 have p : ((L ++ [r]).map (·.Prefix)).Perm ((r :: L).map (·.Prefix)) := (List.perm_append_comm).map _
 rw [p.nodup_iff, List.map_cons, List.nodup_cons]
 refine ⟨fun hm => ?_, nd⟩
 obtain ⟨x, hx, e⟩ := List.mem_map.1 hm
 have := known_iff.2 ⟨x, hx, e⟩
 rw [h] at this
 cases this
theorem putD_sort {L : List api_Route} {r : api_Route} (nd : (L.map (·.Prefix)).Nodup) : putD (sortR L) r = sortR (putR L r (addR L r)) := by
 unfold putD
 rw [addR_perm (sortR_perm L), putR_fill]
 split
 ·rename_i h
  exact sortR_eq (l := r :: L) (((List.perm_append_comm (l₁ := [r]) (l₂ := L)).map (·.Prefix)).nodup_iff.2 (nd_snoc nd (addR_known h))) (List.perm_append_comm (l₁ := [r]) (l₂ := L))
 ·rfl
theorem match_perm {L M : List api_Route} (nd : (L.map (·.Prefix)).Nodup) (p : L.Perm M) (ip : api_IP) : matchesM L ip = matchesM M ip := by
 unfold matchesM
 congr 1
 funext k
 have nd2 : (M.map (·.Prefix)).Nodup := ((p.map _).nodup_iff).1 nd
 cases h : lookR L k with
 | none => exact (lookR_none.2 fun x hx => lookR_none.1 h x (p.mem_iff.2 hx)).symm
 | some x =>
  obtain ⟨h1, h2⟩ := lookR_mem h
  exact (lookR_some nd2 (p.mem_iff.1 h1) h2).symm
section
variable {W w : World} {Hs : List HP} {sl : Sl} {D : List api_Route}
theorem rmatches_wp (s : Ss W Hs w) (i : Nat) {A : HP} (e : nth Hs i = some A) (rd : Rdb A cRt sl D) (hD : TOk D) (nd : (D.map (·.Prefix)).Nodup) (ip : api_IP) (hb : Byt ip.A.l) :
  WP (weirref14_Matches sl ip) w (fun q w' => ∃ sp, Ss W (vec cRt q (matchesM D ip) sp :: Hs) w') := by
 unfold weirref14_Matches
 have hl := (s.rd_len e rd).1
 have h256 := hD.len
 refine WP.slot' s (fun _ w s => ?_)
 have s := s.mk0 (A := vec cRt Sl.nil (docA D ip 0) []) vec_nil
 refine WP.loopG (γ := Nat × List api_Route) (fun g (z : Sl × Int) w => z.2 = 128 - (g.1 : Int) ∧ g.1 ≤ 129 ∧ Ss W (vec cRt z.1 (docA D ip g.1) g.2 :: Hs) w) (fun g _ => 129 - g.1) (0, []) ⟨rfl, by simp, s⟩ ?_
 clear s
 rintro ⟨k, sp⟩ ⟨a, _⟩ w ⟨rfl, hk, s⟩
 simp only at hk s
 show WP (weirref14_Matches.L1 sl ip a (128 - (k : Int))) w _
 unfold weirref14_Matches.L1
 refine WP.ite (fun h => ?_) (fun h => ?_)
 rotate_left
 ·have : k = 129 := by omega
  subst this
  rw [docA_all nd hD.px] at s
  exact WP.done ⟨sp, s⟩
 have hAl := docA_len (D := D) (ip := ip) (k := k)
 have hAl2 : (docA D ip k).length ≤ 129 * 256 := Nat.le_trans hAl (Nat.mul_le_mul hk h256)
 have hf : ∀ j, ((D.take j).filter fun q => decide (q.Prefix.Len = 128 - (k : Int)) && ctM q.Prefix ip).length ≤ 256 := fun j => Nat.le_trans (List.length_filter_le ..) (by rw [List.length_take]; omega)
 refine WP.loopG (γ := Nat × List api_Route) (fun g (z : Sl × Int) w => z.2 = (g.1 : Int) ∧ g.1 ≤ D.length ∧ Ss W (vec cRt z.1 (docA D ip k ++ (D.take g.1).filter fun q => decide (q.Prefix.Len = 128 - (k : Int)) && ctM q.Prefix ip) g.2 :: Hs) w) (fun g _ => D.length - g.1) (0, sp) ⟨rfl, by simp, by simpa using s⟩ ?_
 clear s
 rintro ⟨j, sp⟩ ⟨a, _⟩ w ⟨rfl, hj, s⟩
 simp only at hj s
 show WP (weirref14_Matches.L2 sl ip (128 - (k : Int)) a (j : Int)) w _
 unfold weirref14_Matches.L2
 refine WP.ite (fun h => ?_) (fun h => ?_)
 rotate_left
 ·have : j = D.length := by omega
  subst this
  rw [List.take_length] at s
  refine WP.done ⟨(k + 1, sp), ⟨?_, by simp only; omega, s⟩, by simp only; omega⟩
  simp only
  rw [wrap_i64 (by omega) (by omega)]
  omega
 have h1 : j < D.length := by omega
 have hx : D[j]? = some D[j] := List.getElem?_eq_getElem h1
 have hx' : D[((j : Nat) : Int).toNat]? = some D[j] := by rw [Int.toNat_natCast]; exact hx
 have hm := List.getElem_mem h1
 refine WP.draw' s (fun w s => ?_)
 refine WP.rdxp s (i + 1) e rd (by omega) hx' rfl (At_api_Route_Prefix _ |>.trans (At_api_Prefix_Len _)) ?_
 refine WP.step (R := fun y w' => y = (decide (D[j].Prefix.Len = 128 - (k : Int)) && ctM D[j].Prefix ip) ∧ Ss W (vec cRt a (docA D ip k ++ (D.take j).filter fun q => decide (q.Prefix.Len = 128 - (k : Int)) && ctM q.Prefix ip) sp :: Hs) w') (WP.ite (fun h => ?_) (fun h => WP.ret ⟨by simp [h], s⟩)) ?_
 ·refine WP.rdxp0 s (i + 1) e rd (by omega) hx' rfl (At_api_Route_Prefix _) (WP.step (rContains_wp s _ (hD.byt _ hm).1 ip hb) ?_)
  rintro _ w ⟨rfl, s⟩
  exact WP.ret ⟨by simp [h], s⟩
 rintro _ w ⟨rfl, s⟩
 have ht : (D.take (j + 1)).filter (fun q => decide (q.Prefix.Len = 128 - (k : Int)) && ctM q.Prefix ip) = (D.take j).filter (fun q => decide (q.Prefix.Len = 128 - (k : Int)) && ctM q.Prefix ip) ++ [D[j]].filter (fun q => decide (q.Prefix.Len = 128 - (k : Int)) && ctM q.Prefix ip) := by
  rw [List.take_add_one, hx, List.filter_append]
  rfl
 have hw : IntKind.wrap .i64 ((j : Int) + 1) = ((j + 1 : Nat) : Int) := by
  rw [wrap_i64 (by omega) (by omega)]
  omega
 rw [hw]
 refine WP.ite (fun h => ?_) (fun h => WP.next ⟨(j + 1, sp), ⟨rfl, h1, ?_⟩, by simp only; omega⟩)
 ·refine WP.rdx s (i + 1) e rd (by omega) hx' rfl (WP.slot' s (fun _ w s => WP.appl s 0 rfl ?_ (by decide) (fun a' w sp' s => WP.next ⟨(j + 1, sp'), ⟨rfl, h1, ?_⟩, by simp only; omega⟩)))
  ·have := hf j
   simp only [List.length_append, List.length_singleton]
   omega
  ·simp only
   rw [ht]
   simp only [List.filter_cons, List.filter_nil, h, if_true]
   rw [← List.append_assoc]
   exact s
 ·simp only
  rw [ht]
  simp only [List.filter_cons, List.filter_nil, h, if_false, List.append_nil, Bool.false_eq_true]
  exact s
theorem rfind_wp (s : Ss W Hs w) (i : Nat) {A : HP} (e : nth Hs i = some A) (rd : Rdb A cRt sl D) (hD : TOk D) (nd : (D.map (·.Prefix)).Nodup) (ip : api_IP) (hb : Byt ip.A.l) :
  WP (weirref14_Find sl ip) w (fun q w' => q = findM D ip ∧ Ss W Hs w') := by
 unfold weirref14_Find
 refine WP.slot' s (fun _ w s => WP.slot' s (fun _ w s => WP.step (rmatches_wp s i e rd hD nd ip hb) ?_))
 rintro q w ⟨sp, s⟩
 have hl := (s.vec_len (i := 0) rfl).1
 rw [find_head]
 refine WP.ite (fun h => WP.ret ⟨?_, s.drop⟩) (fun h => ?_)
 ·have : matchesM D ip = [] := List.length_eq_zero_iff.1 (by omega)
  rw [this]
  rfl
 ·have h1 : 0 < (matchesM D ip).length := by omega
  have hx : (matchesM D ip)[0]? = some (matchesM D ip)[0] := List.getElem?_eq_getElem h1
  refine WP.rdx s 0 rfl vec_rdb (by omega) (x := (matchesM D ip)[0]) (by simp) rfl (WP.ret ⟨?_, s.drop⟩)
  rw [List.head?_eq_getElem?, hx]
def Two (p b : Nat) (sl : Sl) (L : List api_Route) : List HP := TblHs p b L ++ [rdS cRt false sl (sortR L)]
variable {p b : Nat} {L : List api_Route}
theorem Two.ok (s : Ss W (Two p b sl L ++ Hs) w) (hL : TOk L) : TOk (sortR L) ∧ ((sortR L).map (·.Prefix)).Nodup ∧ (L.map (·.Prefix)).Nodup := by
 have nd : (L.map (·.Prefix)).Nodup := TblHs.nd (p := p) (Hs := rdS cRt false sl (sortR L) :: Hs) s
 exact ⟨hL.perm (sortR_perm L), (((sortR_perm L).map _).nodup_iff).2 nd, nd⟩
end
end Go.Proofs.YtfgcobigollfjaaDoor.Lx
