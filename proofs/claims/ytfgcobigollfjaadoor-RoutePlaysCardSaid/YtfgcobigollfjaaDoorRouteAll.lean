
import Derived.Test.YtfgcobigollfjaaDoorRouteOrder
set_option linter.unusedVariables false
set_option linter.unusedSimpArgs false
namespace Go.Proofs.YtfgcobigollfjaaDoor.Lx
open Go Go.Proofs Go.RowKit
section
variable {W w : World} {Hs : List HP} {p b : Nat} {L : List Zab}
theorem ZlF (s : Ss W Hs w) (m : Option Nat) : WP (ZaN m) w (fun r w' => ∃ a, (∀ y, Zap.it r y = Zah y a) ∧ Ss W (pts true a (cM.enc m) :: Hs) w') := by
 unfold ZaN
 exact WP.newv s (fun b w s => WP.ret ⟨_, fun y => rfl, s⟩)
theorem Zmj {sl : Sl} {l sp : List Zab} {b1 ll : Nat} {x : Zab} (hl : l.length < 300) (s : Ss W (lpH ll .ready none :: pts true (pt b1 0) (cL.enc sl) :: vec cRt sl l sp :: Hs) w) :
  WP (Zap.R1 b1 ll x) w (fun j w' => j = none ∧ ∃ sl' sp', Ss W (lpH ll .busy none :: pts true (pt b1 0) (cL.enc sl') :: vec cRt sl' (l ++ [x]) sp' :: Hs) w') := by
 unfold Zap.R1
 refine WP.slot' s (fun _ w s => WP.begM s (fun w s => WP.ld s 1 rfl (o := 0) (by simp [Addr.add]) (At.whole _) (WP.slot' s (fun _ w s => ?_))))
 refine WP.appl s 2 rfl (by simp only [List.length_singleton]; omega) (by decide) (fun r w sp' s => ?_)
 exact WP.st s 1 rfl (o := 0) (by simp [Addr.add]) (Upd.whole rfl) (fun w s => WP.ret ⟨rfl, r, sp', s⟩)
theorem ZiT (s : Ss W (Zbr p b L ++ Hs) w) (hL : L.length ≤ 256) {r : Any} {a : Addr} (hr : ∀ y, Zap.it r y = Zah y a) (t : Nat) (et : nth Hs t = some (pts true a (cM.enc (some b)))) :
  WP (Zap Sl.nil r) w (fun x w' => ∃ l sp, l.Perm L ∧ Ss W (vec cRt x l sp :: (Zbr p b L ++ Hs)) w') := by
 unfold Zap
 refine WP.newv s (fun b1 w s => ?_)
 have s1 := (s.mk0 (A := vec cRt Sl.nil [] []) Zed).use [1, 0] rfl
 have hit : Zap.it r = fun y => Zah y a := funext hr
 rw [hit]
 unfold Lx.rangeM
 refine WP.newLoop s1 fun ll w s => ?_
 have nd := Zbr.nd (s.use [3, 3] rfl)
 -- the iterator, with what it calls
 refine WP.step (R := fun _ w' => ∃ l sl sp, l.Perm L ∧ Ss W (lpH ll .ready none :: pts true (pt b1 0) (cL.enc sl) :: vec cRt sl l sp :: (Zbr p b L ++ Hs)) w') ?_ ?_
 ·show WP (Zah _ a) w _
  unfold Zah
  refine WP.ld s (5 + t) (by rw [Nat.add_comm]; exact et) (o := 0) (by simp [Addr.add]) (At.whole _) (WP.mrange (ck := cPx) (cv := cRt) s 4 rfl (fun it w s => ?_))
  have hkd : (L.map rkv).Nodup := by
   have : (L.map rkv).Pairwise fun a b => a.1 ≠ b.1 := by
    have h1 : ((L.map rkv).map (·.1)).Nodup := by rw [Zjz]; exact nd
    exact List.pairwise_map.1 h1
   exact this.imp fun h e => h (by rw [e])
  refine WP.loopG (γ := List (Zar × Zab)) (fun done (_ : Unit) w => (∀ e ∈ done, e ∈ L.map rkv) ∧ done.Nodup ∧ ∃ sl sp, Ss W (lpH ll .ready none :: pts true (pt b1 0) (cL.enc sl) :: vec cRt sl (done.map (·.2)) sp :: pts true (pt p 0) (Zcs.enc ⟨some b⟩) :: itH cPx cRt b it (L.map rkv) done :: Hs) w) (fun done _ => L.length - done.length) [] ⟨by simp, List.nodup_nil, Sl.nil, [], s⟩ ?_
  clear s s1
  rintro done _ w ⟨h1, h2, sl, sp, s⟩
  show WP (Zah.L1 _ it) w _
  unfold Zah.L1
  have hlen : done.length ≤ L.length := by
   have := h2.length_le_of_subset h1
   simpa using this
  refine WP.mnext s 4 rfl (fun k y w hk hnk hnd s => ?_) (fun w hp s => ?_)
  ·refine WP.ite (fun _ => WP.mentry s 4 rfl (WP.slot' s (fun _ w s => ?_))) (fun h => absurd rfl h)
   have hk2 := hnd.length_le_of_subset (l₂ := L.map rkv) (fun e he => by
    rcases List.mem_append.1 he with he | he
    ·exact h1 e he
    ·rw [List.mem_singleton.1 he]; exact hk)
   rw [List.length_append, List.length_singleton, List.length_map] at hk2
   refine WP.step (WP.step (Zmj (x := y) (by rw [List.length_map]; omega) s) ?_) (R := fun q w' => q = true ∧ ∃ sl sp, Ss W (lpH ll .ready none :: pts true (pt b1 0) (cL.enc sl) :: vec cRt sl ((done ++ [(k, y)]).map (·.2)) sp :: pts true (pt p 0) (Zcs.enc ⟨some b⟩) :: itH cPx cRt b it (L.map rkv) (done ++ [(k, y)]) :: Hs) w') ?_
   ·rintro _ w ⟨rfl, sl', sp', s⟩
    refine WP.endR s fun w s => ⟨rfl, sl', sp', ?_⟩
    rw [List.map_append]
    exact s
   rintro _ w ⟨rfl, sl', sp', s⟩
   refine WP.ite (fun h => absurd rfl h) (fun _ => WP.next ⟨done ++ [(k, y)], ⟨fun e he => ?_, hnd, sl', sp', s⟩, by simp; omega⟩)
   rcases List.mem_append.1 he with he | he
   ·exact h1 e he
   ·rw [List.mem_singleton.1 he]; exact hk
  ·have s' : Ss W (lpH ll .ready none :: pts true (pt b1 0) (cL.enc sl) :: vec cRt sl (done.map (·.2)) sp :: (Zbr p b L ++ Hs)) w := s
   refine WP.ite (fun h => by cases h) (fun _ => WP.done ⟨done.map (·.2), sl, sp, ?_, s'⟩)
   have h3 := hp.map (·.2)
   rw [List.map_map] at h3
   have e : L.map ((fun x : Zar × Zab => x.2) ∘ rkv) = L := by
    have : ((fun x : Zar × Zab => x.2) ∘ rkv) = id := rfl
    rw [this, List.map_id]
   rw [e] at h3
   exact h3
 ·rintro _ w ⟨l, sl, sp, hp, s⟩
  refine WP.endL (by decide) s fun w s => ?_
  show WP (ld _ _ >>= _) w _
  exact WP.ld s 0 rfl (o := 0) (by simp [Addr.add]) (At.whole _) (WP.ret ⟨l, sp, hp, s.drop⟩)
theorem ZlG (s : Ss W (Zbr p b L ++ Hs) w) (hL : L.length ≤ 256) {r : Any} {a : Addr} (hr : ∀ y, Zap.it r y = Zah y a) (t : Nat) (et : nth Hs t = some (pts true a (cM.enc (some b)))) :
  WP (Zbs r (fun q5 q6 => Zcw q5 q6)) w (fun x w' => ∃ sp, Ss W (vec cRt x (Zbd L) sp :: (Zbr p b L ++ Hs)) w') := by
 unfold Zbs ZbD
 have nd := Zbr.nd s
 refine WP.step (WP.step (ZiT s hL hr t et) (fun x w h => WP.ret h)) ?_
 rintro x w ⟨l, sp, hp, s⟩
 refine WP.step (Srt.sort_wp (ZlY W _) ZkA (by rw [hp.length_eq]; omega) (fun _ _ => trivial) s) ?_
 rintro _ w ⟨l', hp', hs', s⟩
 have e : l' = Zbd L := ZiY ((((hp'.trans hp).map _).nodup_iff).2 nd) hs' (ZdI L) ((hp'.trans hp).trans (ZbK L).symm)
 subst e
 exact WP.ret ⟨sp, s⟩
theorem Zni {a : Addr} {q : Bool} (hL : L.length ≤ 256) (E : List HP) (y : Zab → M Bool) (R Rx : Nat → List HP)
  (hy : ∀ i (x : Zab) w Z, (Zbd L)[i]? = some x → Ss W (R i ++ Z) w → WP (y x) w (fun q w' => (q = true ∧ Ss W (R (i + 1) ++ Z) w') ∨ (q = false ∧ Ss W (Rx i ++ Z) w')))
  (h0 : ∀ w Z, Ss W ((E ++ (Zbr p b L ++ Hs)) ++ Z) w → Ss W (R 0 ++ Z) w) (s : Ss W ((E ++ (Zbr p b L ++ Hs)) ++ [pts q a (cP.enc (some (pt p 0)))]) w) :
  WP (ZaQ y a) w (fun _ w' => ∃ Z, Ss W (R (Zbd L).length ++ Z) w' ∨ ∃ i, i < (Zbd L).length ∧ Ss W (Rx i ++ Z) w') := by
 have s0 : Ss W (Zbr p b L ++ (pts q a (cP.enc (some (pt p 0))) :: (E ++ Hs))) w := by
  refine s.perm ?_
  refine (List.perm_append_comm (l₁ := E ++ (Zbr p b L ++ Hs))).trans ?_
  refine (List.Perm.append_left _ (List.perm_append_comm_assoc E (Zbr p b L) Hs)).trans ?_
  exact (List.perm_append_comm_assoc [pts q a (cP.enc (some (pt p 0)))] (Zbr p b L) (E ++ Hs))
 unfold ZaQ
 refine WP.ld s0 2 rfl (o := 0) (by simp [Addr.add]) (At.whole _) (WP.nilck (WP.ld s0 0 rfl (o := 0) (by simp [Addr.add]) (ZaK _) (WP.step (ZlF s0 (some b)) ?_)))
 rintro r w ⟨a2, hr, s1⟩
 have s2 : Ss W (Zbr p b L ++ (pts true a2 (cM.enc (some b)) :: pts q a (cP.enc (some (pt p 0))) :: (E ++ Hs))) w := s1.use [1, 1] rfl
 refine WP.step (ZlG s2 hL hr 0 rfl) ?_
 rintro r7 w ⟨sp, s3⟩
 have s4 : Ss W (R 0 ++ (vec cRt r7 (Zbd L) sp :: [pts true a2 (cM.enc (some b)), pts q a (cP.enc (some (pt p 0)))])) w := by
  refine h0 _ _ (s3.perm ?_)
  refine (List.Perm.cons _ (List.perm_append_comm_assoc (Zbr p b L) [pts true a2 (cM.enc (some b)), pts q a (cP.enc (some (pt p 0)))] (E ++ Hs))).trans ?_
  refine (List.Perm.trans ?_ (List.perm_append_comm (l₁ := vec cRt r7 (Zbd L) sp :: [pts true a2 (cM.enc (some b)), pts q a (cP.enc (some (pt p 0)))])))
  exact List.Perm.cons _ (List.Perm.append_left _ (List.perm_append_comm_assoc (Zbr p b L) E Hs))
 have hat : ∀ (X : List HP), nth (X ++ (vec cRt r7 (Zbd L) sp :: [pts true a2 (cM.enc (some b)), pts q a (cP.enc (some (pt p 0)))])) (X.length + 0) = some (vec cRt r7 (Zbd L) sp) := fun X => ZkZ
 have hl := (s4.rd_len (hat _) ZcG).1
 have hn : (Zbd L).length ≤ 256 := by rw [(ZbK L).length_eq]; exact hL
 refine WP.loopG (γ := Nat) (fun k (x : Int) w => x = (k : Int) ∧ k ≤ (Zbd L).length ∧ Ss W (R k ++ (vec cRt r7 (Zbd L) sp :: [pts true a2 (cM.enc (some b)), pts q a (cP.enc (some (pt p 0)))])) w) (fun k _ => (Zbd L).length - k) 0 ⟨rfl, Nat.zero_le _, s4⟩ ?_
 clear s s0 s1 s2 s3 s4
 rintro k _ w ⟨rfl, hk, s⟩
 show WP (ZaQ.L1 y r7 (k : Int)) w _
 unfold ZaQ.L1
 refine WP.ite (fun h => ?_) (fun h => ?_)
 ·have h1 : k < (Zbd L).length := by omega
  have hx : (Zbd L)[k]? = some (Zbd L)[k] := List.getElem?_eq_getElem h1
  refine WP.rdx s _ (hat _) ZcG (by omega) (x := (Zbd L)[k]) (by rw [Int.toNat_natCast]; exact hx) rfl (WP.slot' s (fun _ w s => WP.step (hy k _ w _ hx s) ?_))
  rintro _ w (⟨rfl, s⟩ | ⟨rfl, s⟩)
  ·refine WP.ite (fun h => absurd rfl h) (fun _ => WP.next ⟨k + 1, ⟨?_, h1, s⟩, by omega⟩)
   rw [ZaP (by omega) (by omega)]
   omega
  ·exact WP.ite (fun _ => WP.done ⟨_, .inr ⟨k, h1, s⟩⟩) (fun h => absurd (by decide) h)
 ·have : k = (Zbd L).length := by omega
  subst this
  exact WP.done ⟨_, .inl s⟩
end
namespace WP
theorem rangeAll {β : Type} {W w : World} {Hs : List HP} {p b : Nat} {L : List Zab} {a : Addr} {q : Bool} {it : (Zab → M Bool) → M Unit} (hit : ∀ y, it y = ZaQ y a) (hL : L.length ≤ 256) {G : Nat → Zab → M (Option Code)} {K : Option Code → M β} {Q : β → World → Prop} (E : List HP) (R : Nat → List HP) (Rx : Nat → Code → List HP) (h0 : ∀ w Z, Ss W ((E ++ (Zbr p b L ++ Hs)) ++ Z) w → Ss W (R 0 ++ Z) w) (s : Ss W ((E ++ (Zbr p b L ++ Hs)) ++ [pts q a (cP.enc (some (pt p 0)))]) w)
  (hb : ∀ l i x w Z, (Zbd L)[i]? = some x → Ss W (lpH l .ready none :: (R i ++ Z)) w → WP (G l x) w (fun j w' => (j = none ∧ Ss W (lpH l .busy none :: (R (i + 1) ++ Z)) w') ∨ ∃ c, j = some c ∧ Ss W (lpH l .busy none :: (Rx i c ++ Z)) w'))
  (hn : ∀ w Z, Ss W (R (Zbd L).length ++ Z) w → WP (K none) w Q) (hx : ∀ i x c w Z, (Zbd L)[i]? = some x → Ss W (Rx i c ++ Z) w → WP (K (some c)) w Q) : WP (Lx.rangeM it G K) w Q := by
 unfold Lx.rangeM
 refine newLoop s fun l w1 s1 => ?_
 rw [hit]
 refine step (Zni (Hs := Hs) hL (lpH l .ready none :: E) _ (fun i => lpH l .ready none :: R i) (fun i => [ZiZ (fun c => seps (lpH l .done (some c) :: Rx i c))]) (fun i x w Z hx s => ?_) (fun w Z s => ?_) s1) fun _ w2 h => ?_
 ·refine step (hb l i x w Z hx s) fun j w' h => ?_
  rcases h with ⟨rfl, h⟩ | ⟨c, rfl, h⟩
  ·exact endR h fun w' s => .inl ⟨rfl, s⟩
  ·refine endR h fun w' s => .inr ⟨rfl, ?_⟩
   have s2 : Ss W (seps (lpH l .done (some c) :: Rx i c) :: Z) w' := Ss.group (l := lpH l .done (some c) :: Rx i c) s
   exact s2.first fun h hh => ⟨c, hh⟩
 ·have s2 : Ss W ((E ++ (Zbr p b L ++ Hs)) ++ (Z ++ [lpH l .ready none])) w := by
   rw [← List.append_assoc]
   refine s.perm (List.Perm.trans (l₂ := [lpH l .ready none] ++ ((E ++ (Zbr p b L ++ Hs)) ++ Z)) ?_ List.perm_append_comm)
   simp only [List.cons_append, List.nil_append, List.append_assoc]
   exact List.Perm.refl _
  refine (h0 _ _ s2).perm ?_
  rw [← List.append_assoc]
  exact List.perm_append_comm (l₂ := [lpH l .ready none])
 ·obtain ⟨Z, h | ⟨i, hi, h⟩⟩ := h
  ·exact endL (by decide) h fun w' s => hn w' Z s
  ·obtain ⟨c, h⟩ := Ss.ex (l := Z) h
   have h2 := Ss.split (l := lpH l .done (some c) :: Rx i c) h
   exact endL (by decide) h2 fun w' s => hx i ((Zbd L)[i]'hi) c w' Z (by simp [hi]) s
end WP
end Go.Proofs.YtfgcobigollfjaaDoor.Lx
