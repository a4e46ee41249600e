
import Derived.Test.YtfgcobigollfjaaDoorLxSh
import Derived.Test.YtfgcobigollfjaaDoorAddrMaskC
set_option linter.unusedVariables false
set_option linter.unusedSimpArgs false
namespace Go.Proofs.YtfgcobigollfjaaDoor.Lx
open Go Go.Proofs Go.RowKit
theorem nth_app {L R : List HP} {i : Nat} : nth (L ++ R) (L.length + i) = nth R i := by
 induction L with
 | nil => simp
 | cons x L ih =>
  rw [List.length_cons, Nat.add_right_comm]
  exact ih
def bitsM (v : Int) : Int := if v = 4 then 32 else 128
def isPx (p : api_Prefix) : Bool := decide (vpM p = 0)
def rkv (r : api_Route) : api_Prefix × api_Route := (r.Prefix, r)
abbrev cPx := c_api_Prefix
abbrev cRt := c_api_Route
def TblHs (p b : Nat) (L : List api_Route) : List HP := [pts true (pt p 0) (c_route_Table.enc ⟨some b⟩), mapH cPx cRt b (L.map rkv)]
def known (L : List api_Route) (k : api_Prefix) : Bool := L.any fun q => decide (q.Prefix = k)
def addE (L : List api_Route) (r : api_Route) : Int := if known L r.Prefix = true then 143 else if L.length = 256 then 144 else 0
def addM (ok : Bool) (L : List api_Route) (r : api_Route) : Int := if isPx r.Prefix = false then 140 else if r.Port < 0 ∨ r.Port ≥ 8 then 141 else if ok = false then 142 else addE L r
def putR (L : List api_Route) (r : api_Route) (e : Int) : List api_Route := if e = 0 then L ++ [r] else L
def dropR (L : List api_Route) (k : api_Prefix) : List api_Route := L.filter fun q => decide (q.Prefix ≠ k)
theorem rkv_mem {L : List api_Route} {k : api_Prefix} {x : api_Route} : (k, x) ∈ L.map rkv ↔ x ∈ L ∧ x.Prefix = k := by
 simp only [List.mem_map, rkv, Prod.mk.injEq]
 constructor
 ·rintro ⟨y, hy, rfl, rfl⟩
  exact ⟨hy, rfl⟩
 ·rintro ⟨h, rfl⟩
  exact ⟨x, h, rfl, rfl⟩
theorem known_iff {L : List api_Route} {k : api_Prefix} : known L k = true ↔ ∃ x ∈ L, x.Prefix = k := by simp [known]
theorem rkv_keys {L : List api_Route} : (L.map rkv).map (·.1) = L.map (·.Prefix) := by rw [List.map_map]; rfl
theorem sizeM_bits {ip : api_IP} (h : sizeM ip > 0) : bitsM ip.V = sizeM ip := by
 unfold sizeM at h ⊢
 unfold bitsM
 by_cases h6 : ip.V = 6
 ·rw [if_pos h6, if_neg (by omega)]
 ·rw [if_neg h6] at h ⊢
  by_cases h4 : ip.V = 4 ∧ ip.A.l.drop 4 = List.replicate 12 0
  ·rw [if_pos h4, if_pos h4.1]
  ·rw [if_neg h4] at h
   omega
section
variable {W w : World} {Hs : List HP}
theorem bits_wp (s : Ss W Hs w) (v : Int) : WP (route_bits v) w (fun r w' => r = bitsM v ∧ Ss W Hs w') := by
 unfold route_bits bitsM
 exact WP.ite (fun h => WP.ret ⟨by rw [if_pos h], s⟩) (fun h => WP.ret ⟨by rw [if_neg h], s⟩)
theorem isPrefix_wp (s : Ss W Hs w) (p : api_Prefix) (hb : Byt p.IP.A.l) : WP (route_isPrefix p) w (fun r w' => r = isPx p ∧ Ss W Hs w') := by
 unfold route_isPrefix
 refine WP.slot' s (fun _ w s => WP.draw' s (fun w s => WP.step (Valid_wp s p.IP) ?_))
 rintro _ w ⟨rfl, s⟩
 have hz := sizeM_le p.IP
 refine WP.step (R := fun y w' => y = decide (¬ sizeM p.IP > 0 ∨ p.Len < 0) ∧ Ss W Hs w') (WP.ite (fun h => WP.ret ⟨?_, s⟩) (fun h => WP.ret ⟨?_, s⟩)) ?_
 ·simp only [decide_eq_true_eq] at h
  exact (decide_eq_true (.inl h)).symm
 ·simp only [decide_eq_true_eq, Decidable.not_not] at h
  simp [h]
 rintro _ w ⟨rfl, s⟩
 refine WP.step (R := fun y w' => y = decide (¬ sizeM p.IP > 0 ∨ p.Len < 0 ∨ p.Len > sizeM p.IP) ∧ Ss W Hs w') (WP.ite (fun h => WP.ret ⟨?_, s⟩) (fun h => WP.step (bits_wp s p.IP.V) ?_)) ?_
 ·have := of_decide_eq_true h
  refine (decide_eq_true ?_).symm
  rcases this with h | h
  ·exact .inl h
  ·exact .inr (.inl h)
 ·rintro _ w ⟨rfl, s⟩
  have hn : ¬ (¬ sizeM p.IP > 0 ∨ p.Len < 0) := fun h' => h (decide_eq_true h')
  have hv : sizeM p.IP > 0 := Decidable.not_not.1 fun h' => hn (.inl h')
  refine WP.ret ⟨?_, s⟩
  rw [sizeM_bits hv, Bool.eq_iff_iff]
  simp only [decide_eq_true_eq]
  exact ⟨fun h => .inr (.inr h), fun h => by
   rcases h with h | h | h
   ·exact absurd hv h
   ·exact absurd (.inr h) hn
   ·exact h⟩
 rintro _ w ⟨rfl, s⟩
 refine WP.ite (fun h => WP.ret ⟨?_, s⟩) (fun h => WP.step (Mask_wp s p.IP hb p.Len) ?_)
 ·have := of_decide_eq_true h
  refine (decide_eq_false fun h0 => ?_).symm
  obtain ⟨g1, g2, g3, _⟩ := vpM_len h0
  omega
 rintro _ w ⟨rfl, s⟩
 have hn : ¬ (¬ sizeM p.IP > 0 ∨ p.Len < 0 ∨ p.Len > sizeM p.IP) := fun h' => h (decide_eq_true h')
 have hv : sizeM p.IP > 0 := Decidable.not_not.1 fun h' => hn (.inl h')
 have hl : ¬ (p.Len < 0 ∨ p.Len > sizeM p.IP) := fun h' => hn (.inr h')
 have e1 : mkM p.IP p.Len = (⟨p.IP.V, maskM p.IP.A p.Len⟩, 0) := by
  unfold mkM
  rw [if_neg (by omega), if_neg hl]
 have e2 : isPx p = decide ((⟨p.IP.V, maskM p.IP.A p.Len⟩ : api_IP) = p.IP) := by
  unfold isPx vpM
  rw [if_neg (by omega), if_neg hl, Bool.eq_iff_iff]
  simp only [decide_eq_true_eq]
  constructor
  ·intro h
   split at h
   ·rename_i hm
    obtain ⟨ip, ln⟩ := p
    obtain ⟨v, a⟩ := ip
    simp only at hm ⊢
    rw [hm]
   ·omega
  ·intro h
   rw [if_pos (congrArg api_IP.A h)]
 rw [e1, e2]
 refine WP.slot' s (fun _ w s => ?_)
 refine WP.step (R := fun y w' => y = decide ((⟨p.IP.V, maskM p.IP.A p.Len⟩ : api_IP) = p.IP) ∧ Ss W Hs w') (WP.ite (fun _ => WP.ret ⟨eqv_of (by rw [decide_eq_true_iff]), s⟩) (fun h => absurd rfl h)) ?_
 rintro _ w ⟨rfl, s⟩
 exact WP.ret ⟨rfl, s⟩
theorem New_wp (s : Ss W Hs w) : WP route_New w (fun r w' => ∃ p b, r = some (pt p 0) ∧ Ss W (TblHs p b [] ++ Hs) w') := by
 unfold route_New
 exact WP.mkMap (ck := cPx) (cv := cRt) s (fun b w s => WP.newv s (fun p w s => WP.ret ⟨p, b, rfl, s⟩))
variable {p b : Nat} {L : List api_Route}
theorem TblHs.nd (s : Ss W (TblHs p b L ++ Hs) w) : (L.map (·.Prefix)).Nodup := by
 have := s.map_keys (i := 1) (e := rfl)
 rwa [rkv_keys] at this
theorem Len_wp (s : Ss W (TblHs p b L ++ Hs) w) : WP (route_Table_Len (some (pt p 0))) w (fun r w' => r = (L.length : Int) ∧ Ss W (TblHs p b L ++ Hs) w') := by
 unfold route_Table_Len
 refine WP.nilck (WP.ld s 0 rfl (o := 0) (by simp [Addr.add]) (At_route_Table_routes _) (WP.mlen (ck := cPx) (cv := cRt) s 1 rfl (WP.ret ⟨by simp, s⟩)))
theorem AddK1_wp (s : Ss W (TblHs p b L ++ Hs) w) (r : api_Route) : WP (route_Table_Add.K1 (some (pt p 0)) r (known L r.Prefix)) w (fun e w' => e = addE L r ∧ Ss W (TblHs p b (putR L r e) ++ Hs) w') := by
 unfold route_Table_Add.K1
 refine WP.ite (fun h => WP.ret ⟨by unfold addE; rw [if_pos h], s⟩) (fun h => ?_)
 refine WP.nilck (WP.ld s 0 rfl (o := 0) (by simp [Addr.add]) (At_route_Table_routes _) (WP.mlen (ck := cPx) (cv := cRt) s 1 rfl ?_))
 refine WP.ite (fun h2 => WP.ret ⟨?_, s⟩) (fun h2 => ?_)
 ·unfold addE
  have h3 : (L.length : Int) = 256 := by simpa using h2
  rw [if_neg h, if_pos (by omega)]
 refine WP.draw' s (fun w s => WP.nilck (WP.ld s 0 rfl (o := 0) (by simp [Addr.add]) (At_route_Table_routes _) ?_))
 refine WP.mset (ck := cPx) (cv := cRt) s 1 rfl (fun y hy => h (known_iff.2 ⟨y, (rkv_mem.1 hy).1, (rkv_mem.1 hy).2⟩)) (fun w s => WP.ret ⟨?_, ?_⟩)
 ·unfold addE
  have h3 : ¬ (L.length : Int) = 256 := by simpa using h2
  rw [if_neg h, if_neg (by omega)]
 ·have e : TblHs p b (putR L r 0) = up (TblHs p b L) 1 (mapH cPx cRt b (L.map rkv ++ [(r.Prefix, r)])) := by
   unfold putR TblHs
   simp [up, rkv]
  rw [e]
  exact s
theorem AddK2_wp (s : Ss W (TblHs p b L ++ Hs) w) (r : api_Route) : WP (route_Table_Add.K2 (some (pt p 0)) r) w (fun e w' => e = addE L r ∧ Ss W (TblHs p b (putR L r e) ++ Hs) w') := by
 unfold route_Table_Add.K2
 have k1 : ∀ x : api_Route, (r.Prefix, x) ∈ L.map rkv → known L r.Prefix = true := fun x hx => known_iff.2 ⟨x, (rkv_mem.1 hx).1, (rkv_mem.1 hx).2⟩
 have k0 : (∀ x : api_Route, (r.Prefix, x) ∉ L.map rkv) → known L r.Prefix = false := fun h => by
  rw [Bool.eq_false_iff]
  intro hk
  obtain ⟨x, hx, e⟩ := known_iff.1 hk
  exact h x (rkv_mem.2 ⟨hx, e⟩)
 refine WP.draws s (fun σ w s => WP.ite (fun _ => ?_) (fun _ => ?_))
 ·refine WP.nilck (WP.ld s 0 rfl (o := 0) (by simp [Addr.add]) (At_route_Table_routes _) (WP.mget (ck := cPx) (cv := cRt) s 1 rfl (fun x hx => ?_) (fun h0 => ?_)))
  ·refine WP.slot' s (fun _ w s => WP.same s 0 rfl (o := 0) (by simp [Addr.add]) (At_route_Table_routes _) ?_)
   have := AddK1_wp s r
   rw [k1 x hx] at this
   exact this
  ·refine WP.slot' s (fun _ w s => WP.same s 0 rfl (o := 0) (by simp [Addr.add]) (At_route_Table_routes _) ?_)
   have := AddK1_wp s r
   rw [k0 h0] at this
   exact this
 ·refine WP.nilck (WP.ld s 0 rfl (o := 0) (by simp [Addr.add]) (At_route_Table_routes _) (WP.slot' s (fun _ w s => WP.same s 0 rfl (o := 0) (by simp [Addr.add]) (At_route_Table_routes _) (WP.mget (ck := cPx) (cv := cRt) s 1 rfl (fun x hx => ?_) (fun h0 => ?_)))))
  ·have := AddK1_wp s r
   rw [k1 x hx] at this
   exact this
  ·have := AddK1_wp s r
   rw [k0 h0] at this
   exact this
theorem Drop_wp (s : Ss W (TblHs p b L ++ Hs) w) (k : api_Prefix) : WP (route_Table_Drop (some (pt p 0)) k) w (fun r w' => r = known L k ∧ Ss W (TblHs p b (dropR L k) ++ Hs) w') := by
 have hK : ∀ {w}, Ss W (TblHs p b L ++ Hs) w → WP (route_Table_Drop.K1 (some (pt p 0)) k (known L k)) w (fun r w' => r = known L k ∧ Ss W (TblHs p b (dropR L k) ++ Hs) w') := by
  intro w s
  unfold route_Table_Drop.K1
  refine WP.draw' s (fun w s => WP.nilck (WP.ld s 0 rfl (o := 0) (by simp [Addr.add]) (At_route_Table_routes _) ?_))
  have hnd := TblHs.nd s
  by_cases hk : known L k = true
  ·obtain ⟨x, hx, rfl⟩ := known_iff.1 hk
   obtain ⟨l1, l2, rfl⟩ := List.append_of_mem hx
   have hd : dropR (l1 ++ x :: l2) x.Prefix = l1 ++ l2 := by
    unfold dropR
    rw [List.filter_append, List.filter_cons_of_neg (by simp)]
    have hn : ∀ y, y ∈ l1 ∨ y ∈ l2 → y.Prefix ≠ x.Prefix := by
     intro y hy e
     have hp : ((l1 ++ x :: l2).map (·.Prefix)).Perm (x.Prefix :: (l1 ++ l2).map (·.Prefix)) := List.perm_middle.map _
     refine (List.nodup_cons.1 (hp.nodup_iff.1 hnd)).1 ?_
     rw [List.mem_map]
     exact ⟨y, by simpa using hy, e⟩
    rw [List.filter_eq_self.2 (fun y hy => by simpa using hn y (.inl hy)), List.filter_eq_self.2 (fun y hy => by simpa using hn y (.inr hy))]
   refine WP.mdel (ck := cPx) (cv := cRt) (kvs' := (l1 ++ l2).map rkv) s 1 rfl (k := x.Prefix) (x := x) (List.perm_middle.map rkv) (fun w s => WP.ret ⟨rfl, ?_⟩)
   rw [hd]
   exact s
  ·have hn : ∀ y ∈ L, y.Prefix ≠ k := fun y hy e => hk (known_iff.2 ⟨y, hy, e⟩)
   have hd : dropR L k = L := by
    unfold dropR
    exact List.filter_eq_self.2 (fun y hy => by simpa using hn y hy)
   rw [hd]
   exact WP.mdel0 (ck := cPx) (cv := cRt) s 1 rfl (fun y hy => hn y (rkv_mem.1 hy).1 (rkv_mem.1 hy).2) (fun w s => WP.ret ⟨rfl, s⟩)
 have k1 : ∀ x : api_Route, (k, x) ∈ L.map rkv → known L k = true := fun x hx => known_iff.2 ⟨x, (rkv_mem.1 hx).1, (rkv_mem.1 hx).2⟩
 have k0 : (∀ x : api_Route, (k, x) ∉ L.map rkv) → known L k = false := fun h => by
  rw [Bool.eq_false_iff]
  intro hk
  obtain ⟨x, hx, e⟩ := known_iff.1 hk
  exact h x (rkv_mem.2 ⟨hx, e⟩)
 unfold route_Table_Drop
 refine WP.slot' s (fun _ w s => WP.draws s (fun σ w s => WP.ite (fun _ => ?_) (fun _ => ?_)))
 ·refine WP.nilck (WP.ld s 0 rfl (o := 0) (by simp [Addr.add]) (At_route_Table_routes _) (WP.mget (ck := cPx) (cv := cRt) s 1 rfl (fun x hx => ?_) (fun h0 => ?_)))
  ·refine WP.slot' s (fun _ w s => WP.same s 0 rfl (o := 0) (by simp [Addr.add]) (At_route_Table_routes _) ?_)
   have := hK s
   rw [k1 x hx] at this ⊢
   exact this
  ·refine WP.slot' s (fun _ w s => WP.same s 0 rfl (o := 0) (by simp [Addr.add]) (At_route_Table_routes _) ?_)
   have := hK s
   rw [k0 h0] at this ⊢
   exact this
 ·refine WP.nilck (WP.ld s 0 rfl (o := 0) (by simp [Addr.add]) (At_route_Table_routes _) (WP.slot' s (fun _ w s => WP.same s 0 rfl (o := 0) (by simp [Addr.add]) (At_route_Table_routes _) (WP.mget (ck := cPx) (cv := cRt) s 1 rfl (fun x hx => ?_) (fun h0 => ?_)))))
  ·have := hK s
   rw [k1 x hx] at this ⊢
   exact this
  ·have := hK s
   rw [k0 h0] at this ⊢
   exact this
end
end Go.Proofs.YtfgcobigollfjaaDoor.Lx
