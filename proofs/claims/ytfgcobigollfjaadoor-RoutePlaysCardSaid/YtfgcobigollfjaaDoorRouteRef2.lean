
import Derived.Test.YtfgcobigollfjaaDoorRouteRef
import Derived.Test.YtfgcobigollfjaaDoorRoutePlain
set_option linter.unusedVariables false
set_option linter.unusedSimpArgs false
namespace Go.Proofs.YtfgcobigollfjaaDoor.Lx
open Go Go.Proofs Go.RowKit
def docF (D : List Zab) (ip : ZaH) (n : Int) : List Zab := D.filter fun q => decide (q.Prefix.Len = n) && ctM q.Prefix ip
def docA (D : List Zab) (ip : ZaH) : Nat → List Zab
 | 0 => []
 | k + 1 => docA D ip k ++ docF D ip (128 - (k : Int))
theorem ZjU {D : List Zab} {ip : ZaH} : ∀ {k : Nat}, (docA D ip k).length ≤ k * D.length
 | 0 => by simp [docA]
 | k + 1 => by
  have h1 := ZjU (D := D) (ip := ip) (k := k)
  have h2 : (docF D ip (128 - (k : Int))).length ≤ D.length := List.length_filter_le ..
  unfold docA
  rw [List.length_append, Nat.succ_mul]
  omega
theorem Zh2 {D : List Zab} {ip : ZaH} {x : Zab} : ∀ {k : Nat}, x ∈ docA D ip k ↔ x ∈ D ∧ ctM x.Prefix ip = true ∧ 128 - (k : Int) < x.Prefix.Len ∧ x.Prefix.Len ≤ 128
 | 0 => by
  unfold docA
  constructor
  ·intro h; cases h
  ·rintro ⟨_, _, h1, h2⟩; omega
 | k + 1 => by
  unfold docA docF
  rw [List.mem_append, Zh2 (k := k), List.mem_filter, Bool.and_eq_true, decide_eq_true_iff]
  constructor
  ·rintro (⟨a, b, c, d⟩ | ⟨a, b, c⟩)
   ·exact ⟨a, b, by omega, d⟩
   ·exact ⟨a, c, by omega, by omega⟩
  ·rintro ⟨a, b, c, d⟩
   by_cases e : x.Prefix.Len = 128 - (k : Int)
   ·exact .inr ⟨a, e, b⟩
   ·exact .inl ⟨a, b, by omega, d⟩
theorem ZjT {D : List Zab} {ip : ZaH} (hn : D.Nodup) : ∀ {k : Nat}, (docA D ip k).Pairwise fun x y => y.Prefix.Len ≤ x.Prefix.Len ∧ x ≠ y
 | 0 => List.Pairwise.nil
 | k + 1 => by
  unfold docA
  refine List.pairwise_append.2 ⟨ZjT hn, ?_, fun x hx y hy => ?_⟩
  ·have h1 : (docF D ip (128 - (k : Int))).Nodup := hn.filter _
   refine List.Pairwise.imp_of_mem (fun {x y} hx hy h => ⟨?_, h⟩) h1
   unfold docF at hx hy
   rw [List.mem_filter, Bool.and_eq_true, decide_eq_true_iff] at hx hy
   omega
  ·have h1 := (Zh2.1 hx).2.2.1
   unfold docF at hy
   rw [List.mem_filter, Bool.and_eq_true, decide_eq_true_iff] at hy
   exact ⟨by omega, fun e => by rw [e] at h1; omega⟩
theorem Zl9 {D : List Zab} {ip : ZaH} (nd : (D.map (·.Prefix)).Nodup) (hv : ∀ r ∈ D, isPx r.Prefix = true) : docA D ip 129 = Zbz D ip := by
 have h2 : D.Nodup := by
  have : D.Pairwise fun a b => a.Prefix ≠ b.Prefix := List.pairwise_map.1 nd
  exact this.imp fun h e => h (by rw [e])
 have s1 := ZjT (ip := ip) h2 (k := 129)
 have s2 := Zjc (L := D) (ip := ip)
 have inj : ∀ x ∈ Zbz D ip, ∀ y ∈ Zbz D ip, x.Prefix.Len = y.Prefix.Len → x = y := by
  intro x hx y hy e
  obtain ⟨i, hi, rfl⟩ := List.getElem_of_mem hx
  obtain ⟨j, hj, rfl⟩ := List.getElem_of_mem hy
  rw [List.pairwise_iff_getElem] at s2
  rcases Nat.lt_trichotomy i j with h | h | h
  ·have := s2 i j hi hj h
   omega
  ·subst h; rfl
  ·have := s2 j i hj hi h
   omega
 have mem : ∀ x, x ∈ docA D ip 129 ↔ x ∈ Zbz D ip := by
  intro x
  rw [Zh2, Ziq nd hv]
  constructor
  ·exact fun h => ⟨h.1, h.2.1⟩
  ·intro h
   have hp : vpM x.Prefix = 0 := of_decide_eq_true (hv x h.1)
   obtain ⟨g1, g2, g3, _⟩ := ZhI hp
   have := Zd2 x.Prefix.IP
   exact ⟨h.1, h.2, by omega, by omega⟩
 have n1 : (docA D ip 129).Nodup := s1.imp fun h => h.2
 have n2 : (Zbz D ip).Nodup := s2.imp fun h e => by rw [e] at h; omega
 refine List.Perm.eq_of_pairwise (le := fun x y => y.Prefix.Len ≤ x.Prefix.Len) (fun x y hx hy hxy hyx => ?_) (s1.imp fun h => h.1) (s2.imp fun h => by omega) ((List.perm_ext_iff_of_nodup n1 n2).2 mem)
 exact inj x ((mem x).1 hx) y hy (by omega)
structure TOk (L : List Zab) : Prop where
 len : L.length ≤ 256
 px : ∀ r ∈ L, isPx r.Prefix = true
 byt : ∀ r ∈ L, RByt r
theorem TOk.nil : TOk [] := ⟨by simp, by simp, by simp⟩
theorem TOk.put {L : List Zab} (h : TOk L) {r : Zab} (hr : RByt r) : TOk (putR L r (addR L r)) :=
 ⟨Znc h.len, fun x hx => (ZkP hx).elim (h.px x) (fun e => e.1 ▸ e.2), fun x hx => (ZkP hx).elim (h.byt x) (fun e => e.1 ▸ hr)⟩
theorem TOk.drop {L : List Zab} (h : TOk L) (k : Zar) : TOk (Zei L k) :=
 ⟨Nat.le_trans (List.length_filter_le ..) h.len, fun x hx => h.px x (List.mem_filter.1 hx).1, fun x hx => h.byt x (List.mem_filter.1 hx).1⟩
theorem TOk.perm {L M : List Zab} (h : TOk L) (p : M.Perm L) : TOk M := ⟨by rw [p.length_eq]; exact h.len, fun x hx => h.px x (p.mem_iff.1 hx), fun x hx => h.byt x (p.mem_iff.1 hx)⟩
theorem Zht {L M : List Zab} (p : M.Perm L) (k : Zar) : known M k = known L k := by
 rw [Bool.eq_iff_iff, ZcA, ZcA]
 exact ⟨fun ⟨x, h, e⟩ => ⟨x, p.mem_iff.1 h, e⟩, fun ⟨x, h, e⟩ => ⟨x, p.mem_iff.2 h, e⟩⟩
theorem ZiQ {L M : List Zab} (p : M.Perm L) (r : Zab) : addR M r = addR L r := by
 unfold addR addM addE
 rw [Zht p, p.length_eq]
theorem Zkq {L : List Zab} {r : Zab} (h : addR L r = 0) : known L r.Prefix = false := by
 cases hk : known L r.Prefix with
 | false => rfl
 | true =>
  unfold addR addM addE at h
  rw [if_pos hk] at h
  split at h
  ·omega
  ·split at h
   ·omega
   ·split at h <;> omega
theorem ZmT {L : List Zab} {r : Zab} (nd : (L.map (·.Prefix)).Nodup) (h : known L r.Prefix = false) : ((L ++ [r]).map (·.Prefix)).Nodup := by
 have p : ((L ++ [r]).map (·.Prefix)).Perm ((r :: L).map (·.Prefix)) := (List.perm_append_comm).map _
 rw [p.nodup_iff, List.map_cons, List.nodup_cons]
 refine ⟨fun hm => ?_, nd⟩
 obtain ⟨x, hx, e⟩ := List.mem_map.1 hm
 have := ZcA.2 ⟨x, hx, e⟩
 rw [h] at this
 cases this
theorem ZkQ {L : List Zab} {r : Zab} (nd : (L.map (·.Prefix)).Nodup) : putD (Zbd L) r = Zbd (putR L r (addR L r)) := by
 unfold putD
 rw [ZiQ (ZbK L), Zih]
 split
 ·rename_i h
  exact ZlP (l := r :: L) (((List.perm_append_comm (l₁ := [r]) (l₂ := L)).map (·.Prefix)).nodup_iff.2 (ZmT nd (Zkq h))) (List.perm_append_comm (l₁ := [r]) (l₂ := L))
 ·rfl
theorem Zkh {L : List Zab} {k : Zar} (nd : (L.map (·.Prefix)).Nodup) : Zei (Zbd L) k = Zbd (Zei L k) := by
 have p1 : (Zei (Zbd L) k).Perm (Zei L k) := (ZbK L).filter _
 refine ZiY ?_ ((ZdI L).filter _) (ZdI _) (p1.trans (ZbK _).symm)
 have : (Zei L k).Sublist L := List.filter_sublist
 exact ((p1.map _).nodup_iff).2 (nd.sublist (this.map _))
theorem Zka {L M : List Zab} (nd : (L.map (·.Prefix)).Nodup) (p : L.Perm M) (ip : ZaH) : Zbz L ip = Zbz M ip := by
 unfold Zbz
 congr 1
 funext k
 have nd2 : (M.map (·.Prefix)).Nodup := ((p.map _).nodup_iff).1 nd
 cases h : ZcN L k with
 | none => exact (ZdJ.2 fun x hx => ZdJ.1 h x (p.mem_iff.2 hx)).symm
 | some x =>
  obtain ⟨h1, h2⟩ := ZeR h
  exact (Zep nd2 (p.mem_iff.1 h1) h2).symm
section
variable {W w : World} {Hs : List HP} {sl : Sl} {D : List Zab}
theorem ZgE (s : Ss W Hs w) (i : Nat) {A : HP} (e : nth Hs i = some A) (rd : Rdb A cRt sl D) (hD : TOk D) (nd : (D.map (·.Prefix)).Nodup) (ip : ZaH) (hb : Byt ip.A.l) :
  WP (ZaB sl ip) w (fun q w' => ∃ sp, Ss W (vec cRt q (Zbz D ip) sp :: Hs) w') := by
 unfold ZaB
 have hl := (s.rd_len e rd).1
 have h256 := hD.len
 refine WP.slot' s (fun _ w s => ?_)
 have s := s.mk0 (A := vec cRt Sl.nil (docA D ip 0) []) Zed
 refine WP.loopG (γ := Nat × List Zab) (fun g (z : Sl × Int) w => z.2 = 128 - (g.1 : Int) ∧ g.1 ≤ 129 ∧ Ss W (vec cRt z.1 (docA D ip g.1) g.2 :: Hs) w) (fun g _ => 129 - g.1) (0, []) ⟨rfl, by simp, s⟩ ?_
 clear s
 rintro ⟨k, sp⟩ ⟨a, _⟩ w ⟨rfl, hk, s⟩
 simp only at hk s
 show WP (ZaB.L1 sl ip a (128 - (k : Int))) w _
 unfold ZaB.L1
 refine WP.ite (fun h => ?_) (fun h => ?_)
 rotate_left
 ·have : k = 129 := by omega
  subst this
  rw [Zl9 nd hD.px] at s
  exact WP.done ⟨sp, s⟩
 have hAl := ZjU (D := D) (ip := ip) (k := k)
 have hAl2 : (docA D ip k).length ≤ 129 * 256 := Nat.le_trans hAl (Nat.mul_le_mul hk h256)
 have hf : ∀ j, ((D.take j).filter fun q => decide (q.Prefix.Len = 128 - (k : Int)) && ctM q.Prefix ip).length ≤ 256 := fun j => Nat.le_trans (List.length_filter_le ..) (by rw [List.length_take]; omega)
 refine WP.loopG (γ := Nat × List Zab) (fun g (z : Sl × Int) w => z.2 = (g.1 : Int) ∧ g.1 ≤ D.length ∧ Ss W (vec cRt z.1 (docA D ip k ++ (D.take g.1).filter fun q => decide (q.Prefix.Len = 128 - (k : Int)) && ctM q.Prefix ip) g.2 :: Hs) w) (fun g _ => D.length - g.1) (0, sp) ⟨rfl, by simp, by simpa using s⟩ ?_
 clear s
 rintro ⟨j, sp⟩ ⟨a, _⟩ w ⟨rfl, hj, s⟩
 simp only at hj s
 show WP (ZaB.L2 sl ip (128 - (k : Int)) a (j : Int)) w _
 unfold ZaB.L2
 refine WP.ite (fun h => ?_) (fun h => ?_)
 rotate_left
 ·have : j = D.length := by omega
  subst this
  rw [List.take_length] at s
  refine WP.done ⟨(k + 1, sp), ⟨?_, by simp only; omega, s⟩, by simp only; omega⟩
  simp only
  rw [ZaP (by omega) (by omega)]
  omega
 have h1 : j < D.length := by omega
 have hx : D[j]? = some D[j] := List.getElem?_eq_getElem h1
 have hx' : D[((j : Nat) : Int).toNat]? = some D[j] := by rw [Int.toNat_natCast]; exact hx
 have hm := List.getElem_mem h1
 refine WP.draw' s (fun w s => ?_)
 refine WP.rdxp s (i + 1) e rd (by omega) hx' rfl (ZaT _ |>.trans (Zbl _)) ?_
 refine WP.step (R := fun y w' => y = (decide (D[j].Prefix.Len = 128 - (k : Int)) && ctM D[j].Prefix ip) ∧ Ss W (vec cRt a (docA D ip k ++ (D.take j).filter fun q => decide (q.Prefix.Len = 128 - (k : Int)) && ctM q.Prefix ip) sp :: Hs) w') (WP.ite (fun h => ?_) (fun h => WP.ret ⟨by simp [h], s⟩)) ?_
 ·refine WP.rdxp0 s (i + 1) e rd (by omega) hx' rfl (ZaT _) (WP.step (Zgg s _ (hD.byt _ hm).1 ip hb) ?_)
  rintro _ w ⟨rfl, s⟩
  exact WP.ret ⟨by simp [h], s⟩
 rintro _ w ⟨rfl, s⟩
 have ht : (D.take (j + 1)).filter (fun q => decide (q.Prefix.Len = 128 - (k : Int)) && ctM q.Prefix ip) = (D.take j).filter (fun q => decide (q.Prefix.Len = 128 - (k : Int)) && ctM q.Prefix ip) ++ [D[j]].filter (fun q => decide (q.Prefix.Len = 128 - (k : Int)) && ctM q.Prefix ip) := by
  rw [List.take_add_one, hx, List.filter_append]
  rfl
 have hw : IntKind.wrap .i64 ((j : Int) + 1) = ((j + 1 : Nat) : Int) := by
  rw [ZaP (by omega) (by omega)]
  omega
 rw [hw]
 refine WP.ite (fun h => ?_) (fun h => WP.next ⟨(j + 1, sp), ⟨rfl, h1, ?_⟩, by simp only; omega⟩)
 ·refine WP.rdx s (i + 1) e rd (by omega) hx' rfl (WP.slot' s (fun _ w s => WP.appl s 0 rfl ?_ (by decide) (fun a' w sp' s => WP.next ⟨(j + 1, sp'), ⟨rfl, h1, ?_⟩, by simp only; omega⟩)))
  ·have := hf j
   simp only [List.length_append, List.length_singleton]
   omega
  ·simp only
   rw [ht]
   simp only [List.filter_cons, List.filter_nil, h, if_true]
   rw [← List.append_assoc]
   exact s
 ·simp only
  rw [ht]
  simp only [List.filter_cons, List.filter_nil, h, if_false, List.append_nil, Bool.false_eq_true]
  exact s
theorem ZjA (s : Ss W Hs w) (i : Nat) {A : HP} (e : nth Hs i = some A) (rd : Rdb A cRt sl D) (hD : TOk D) (nd : (D.map (·.Prefix)).Nodup) (ip : ZaH) (hb : Byt ip.A.l) :
  WP (Zcd sl ip) w (fun q w' => q = ZeB D ip ∧ Ss W Hs w') := by
 unfold Zcd
 refine WP.slot' s (fun _ w s => WP.slot' s (fun _ w s => WP.step (ZgE s i e rd hD nd ip hb) ?_))
 rintro q w ⟨sp, s⟩
 have hl := (s.vec_len (i := 0) rfl).1
 rw [ZiF]
 refine WP.ite (fun h => WP.ret ⟨?_, s.drop⟩) (fun h => ?_)
 ·have : Zbz D ip = [] := List.length_eq_zero_iff.1 (by omega)
  rw [this]
  rfl
 ·have h1 : 0 < (Zbz D ip).length := by omega
  have hx : (Zbz D ip)[0]? = some (Zbz D ip)[0] := List.getElem?_eq_getElem h1
  refine WP.rdx s 0 rfl ZcG (by omega) (x := (Zbz D ip)[0]) (by simp) rfl (WP.ret ⟨?_, s.drop⟩)
  rw [List.head?_eq_getElem?, hx]
def Two (p b : Nat) (sl : Sl) (L : List Zab) : List HP := Zbr p b L ++ [rdS cRt false sl (Zbd L)]
variable {p b : Nat} {L : List Zab}
theorem Two.ok (s : Ss W (Two p b sl L ++ Hs) w) (hL : TOk L) : TOk (Zbd L) ∧ ((Zbd L).map (·.Prefix)).Nodup ∧ (L.map (·.Prefix)).Nodup := by
 have nd : (L.map (·.Prefix)).Nodup := Zbr.nd (p := p) (Hs := rdS cRt false sl (Zbd L) :: Hs) s
 exact ⟨hL.perm (ZbK L), (((ZbK L).map _).nodup_iff).2 nd, nd⟩
theorem ZeL (s : Ss W (Two p b sl L ++ Hs) w) (t : Nat) (et : nth Hs t = some TabC) (hL : TOk L) (kp : Any) (st : ZaO) (hb : RByt st.R) :
  WP (ZbA ⟨some (pt p 0), sl, kp⟩ st) w (fun r w' => ∃ sl' L', r = (⟨some (pt p 0), sl', kp⟩, true) ∧ TOk L' ∧ (L' = if st.Kind = 1 then putR L st.R (addR L st.R) else Zei L st.R.Prefix) ∧ Ss W (Two p b sl' L' ++ Hs) w') := by
 unfold ZbA
 obtain ⟨hD, ndD, nd⟩ := Two.ok s hL
 refine WP.slot' s (fun _ w s => WP.slot' s (fun _ w s => WP.slot' s (fun _ w s => WP.ite (fun h => ?_) (fun h => ?_))))
 ·have s : Ss W (Zbr p b L ++ (rdS cRt false sl (Zbd L) :: Hs)) w := s
  refine WP.step (ZnP s (t + 3) et st.R hb) ?_
  rintro _ w ⟨rfl, s⟩
  have s : Ss W (Zbr p b (putR L st.R (addR L st.R)) ++ (rdS cRt false sl (Zbd L) :: Hs)) w := s
  refine WP.step (ZmM s 2 rfl hD.len st.R hb) ?_
  rintro ⟨sl', e⟩ w ⟨h1, s⟩
  simp only at h1 s
  rw [ZkQ nd] at s
  rw [if_pos h]
  have s : Ss W (rdS cRt false sl' (Zbd (putR L st.R (addR L st.R))) :: (Zbr p b (putR L st.R (addR L st.R)) ++ (rdS cRt false sl (Zbd L) :: Hs))) w := s
  refine WP.ret ⟨sl', _, ?_, hL.put hb, rfl, ?_⟩
  ·rw [h1, ZiQ (ZbK L)]
   simp
  ·exact (s.use [3] rfl).drop.use [1, 1, 0] rfl
 ·have s : Ss W (Zbr p b L ++ (rdS cRt false sl (Zbd L) :: Hs)) w := s
  refine WP.step (Znh s st.R.Prefix) ?_
  rintro _ w ⟨rfl, s⟩
  have s : Ss W (Zbr p b (Zei L st.R.Prefix) ++ (rdS cRt false sl (Zbd L) :: Hs)) w := s
  refine WP.step (ZlU s 2 rfl hD.len ndD st.R.Prefix) ?_
  rintro ⟨sl', e⟩ w ⟨h1, s⟩
  simp only at h1 s
  rw [Zkh nd] at s
  rw [if_neg h]
  have s : Ss W (rdS cRt false sl' (Zbd (Zei L st.R.Prefix)) :: (Zbr p b (Zei L st.R.Prefix) ++ (rdS cRt false sl (Zbd L) :: Hs))) w := s
  refine WP.ret ⟨sl', _, ?_, hL.drop _, rfl, ?_⟩
  ·rw [h1, Zht (ZbK L)]
   simp
  ·exact (s.use [3] rfl).drop.use [1, 1, 0] rfl
end
end Go.Proofs.YtfgcobigollfjaaDoor.Lx
