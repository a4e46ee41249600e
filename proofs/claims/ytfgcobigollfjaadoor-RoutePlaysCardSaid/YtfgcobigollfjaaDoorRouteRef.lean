
import Derived.Test.YtfgcobigollfjaaDoorRouteLex
import Derived.Test.YtfgcobigollfjaaDoorRouteAdd
import Derived.Test.YtfgcobigollfjaaDoorAddrRefG
import Derived.Test.YtfgcobigollfjaaDoorAddrRefA3
set_option linter.unusedVariables false
set_option linter.unusedSimpArgs false
namespace Go.Proofs.YtfgcobigollfjaaDoor.Lx
open Go Go.Proofs Go.RowKit
theorem Ziv : ∀ (f i : Nat) (a b : List Int), a.length = i + f → b.length = i + f → Zjf a b f i = decide (lexL (a.drop i) (b.drop i) < 0)
 | 0, i, a, b, ha, hb => by
  rw [List.drop_of_length_le (by omega), List.drop_of_length_le (by omega)]
  rfl
 | f + 1, i, a, b, ha, hb => by
  have h1 : i < a.length := by omega
  have h2 : i < b.length := by omega
  rw [List.drop_eq_getElem_cons h1, List.drop_eq_getElem_cons h2, ZgY]
  unfold Zjf
  rw [Ziv f (i + 1) a b (by omega) (by omega)]
  simp only [List.getD, List.getElem?_eq_getElem h1, List.getElem?_eq_getElem h2, Option.getD_some]
  by_cases h : a[i] = b[i]
  ·rw [if_neg (by simpa using h), if_neg (by omega), if_neg (by omega)]
  ·rw [if_pos (by simpa using h)]
   by_cases h3 : a[i] < b[i]
   ·rw [if_pos h3, decide_eq_true h3]
    rfl
   ·rw [if_neg h3, if_pos (by omega), decide_eq_false h3]
    rfl
def ZjX (a b : Zar) : Bool := decide (lexL (keyP a) (keyP b) < 0)
theorem ZjV (a b : Int) : cmpI a b < 0 ↔ a < b := by
 unfold cmpI
 split
 ·simp [*]
 ·split
  ·simp [*]
  ·simp [*]
theorem ZiL (a b : Int) : cmpI a b = 0 ↔ a = b := by
 unfold cmpI
 split
 ·constructor <;> intro h <;> omega
 ·split
  ·constructor <;> intro h <;> omega
  ·constructor <;> intro h <;> omega
theorem ZlD (a b : Zar) : ZjX a b = if ¬ (a.IP = b.IP) then Zk4 a.IP b.IP else decide (a.Len < b.Len) := by
 have hA : lexL (keyP a) (keyP b) = if cmpI a.IP.V b.IP.V ≠ 0 then cmpI a.IP.V b.IP.V else if lexL a.IP.A.l b.IP.A.l ≠ 0 then lexL a.IP.A.l b.IP.A.l else cmpI a.Len b.Len := by
  unfold keyP
  rw [Ze0 (x := [a.IP.V]) (y := [b.IP.V]) rfl, ZfI, Ze0 (x := a.IP.A.l) (y := b.IP.A.l) (by rw [a.IP.A.h, b.IP.A.h]), ZfI]
 unfold ZjX
 rw [hA]
 by_cases hv : a.IP.V = b.IP.V
 ·rw [if_neg (by rw [(ZiL _ _).2 hv]; simp)]
  by_cases ha : a.IP.A.l = b.IP.A.l
  ·have e : a.IP = b.IP := by
    obtain ⟨⟨v, ⟨l, h⟩⟩, n⟩ := a
    obtain ⟨⟨v', ⟨l', h'⟩⟩, n'⟩ := b
    simp only at hv ha
    subst hv
    subst ha
    rfl
   rw [if_neg (by rw [ha, ZgX]; simp), if_neg (by simp [e])]
   exact decide_eq_decide.2 (ZjV _ _)
  ·have e : ¬ (a.IP = b.IP) := fun e => ha (by rw [e])
   rw [if_pos (fun h => ha (ZgW h)), if_pos e]
   unfold Zk4
   rw [if_neg (by simpa using hv), Ziv 16 0 _ _ (by rw [a.IP.A.h]) (by rw [b.IP.A.h])]
   rfl
 ·have e : ¬ (a.IP = b.IP) := fun e => hv (by rw [e])
  rw [if_pos (fun h => hv ((ZiL _ _).1 h)), if_pos e]
  unfold Zk4
  rw [if_pos (by simpa using hv)]
  exact decide_eq_decide.2 (ZjV _ _)
theorem ZkX (x y : Zab) : olt x y = ZjX x.Prefix y.Prefix := rfl
def posR (D : List Zab) (k : Zar) : Nat := (D.takeWhile fun q => decide (¬ q.Prefix = k)).length
theorem ZhO {k : Zar} : ∀ {D : List Zab}, posR D k < D.length ↔ known D k = true
 | [] => by simp [posR, known]
 | x :: D => by
  unfold posR known
  by_cases h : x.Prefix = k
  ·simp [List.takeWhile_cons, h]
  ·have := ZhO (D := D) (k := k)
   unfold posR known at this
   simp only [List.takeWhile_cons, h, ne_eq, not_false_eq_true, decide_true, if_true, List.length_cons, List.any_cons, decide_false, Bool.false_or]
   rw [← this]
   omega
theorem ZmQ {k : Zar} {D : List Zab} : posR D k ≤ D.length := (List.takeWhile_sublist _).length_le
theorem ZkS {k : Zar} : ∀ {D : List Zab} {i : Nat} {x : Zab}, i ≤ posR D k → D[i]? = some x → (i < posR D k ↔ ¬ x.Prefix = k)
 | [], i, x, _, h => by simp at h
 | y :: D, 0, x, hi, h => by
  simp only [List.getElem?_cons_zero, Option.some.injEq] at h
  subst h
  unfold posR
  by_cases e : y.Prefix = k
  ·simp [List.takeWhile_cons, e]
  ·simp [List.takeWhile_cons, e]
 | y :: D, i + 1, x, hi, h => by
  simp only [List.getElem?_cons_succ] at h
  unfold posR at hi ⊢
  by_cases e : y.Prefix = k
  ·simp [List.takeWhile_cons, e] at hi
  ·simp only [List.takeWhile_cons, e, ne_eq, not_false_eq_true, decide_true, if_true, List.length_cons] at hi ⊢
   have := ZkS (D := D) (k := k) (i := i) (x := x) (by unfold posR; omega) h
   unfold posR at this
   rw [← this]
   omega
theorem Zij {k : Zar} : ∀ {D : List Zab}, (D.map (·.Prefix)).Nodup → known D k = true → D.take (posR D k) ++ D.drop (posR D k + 1) = Zei D k
 | [], _, h => by simp [known] at h
 | x :: D, nd, h => by
  rw [List.map_cons, List.nodup_cons] at nd
  unfold posR Zei
  by_cases e : x.Prefix = k
  ·subst e
   have hn : ∀ y ∈ D, y.Prefix ≠ x.Prefix := fun y hy e => nd.1 (List.mem_map.2 ⟨y, hy, e⟩)
   simp only [List.takeWhile_cons, ne_eq, not_true_eq_false, decide_false, Bool.false_eq_true, if_false, List.length_nil, List.take_zero, List.nil_append, Nat.zero_add, List.drop_one, List.tail_cons, List.filter_cons]
   exact (List.filter_eq_self.2 (fun y hy => by simpa using hn y hy)).symm
  ·have h' : known D k = true := by
    obtain ⟨y, hy, e'⟩ := ZcA.1 h
    rcases List.mem_cons.1 hy with rfl | hy
    ·exact absurd e' e
    ·exact ZcA.2 ⟨y, hy, e'⟩
   have ih := Zij nd.2 h'
   unfold posR Zei at ih
   simp only [List.takeWhile_cons, e, ne_eq, not_false_eq_true, decide_true, if_true, List.length_cons, List.take_succ_cons, List.drop_succ_cons, List.cons_append, List.filter_cons]
   rw [ih]
def insP (D : List Zab) (r : Zab) : Nat := (D.takeWhile fun q => olt q r).length
theorem Zm3 {D : List Zab} {r : Zab} : insP D r ≤ D.length := (List.takeWhile_sublist _).length_le
theorem Zk8 {r : Zab} : ∀ {D : List Zab} {i : Nat} {x : Zab}, i ≤ insP D r → D[i]? = some x → (i < insP D r ↔ olt x r = true)
 | [], i, x, _, h => by simp at h
 | y :: D, 0, x, hi, h => by
  simp only [List.getElem?_cons_zero, Option.some.injEq] at h
  subst h
  unfold insP
  cases e : olt y r <;> simp [List.takeWhile_cons, e]
 | y :: D, i + 1, x, hi, h => by
  simp only [List.getElem?_cons_succ] at h
  unfold insP at hi ⊢
  cases e : olt y r with
  | false => simp [List.takeWhile_cons, e] at hi
  | true =>
   simp only [List.takeWhile_cons, e, if_true, List.length_cons] at hi ⊢
   have := Zk8 (D := D) (r := r) (i := i) (x := x) (by unfold insP; omega) h
   unfold insP at this
   rw [← this]
   omega
theorem ZjM {r : Zab} : ∀ {D : List Zab}, D.take (insP D r) ++ [r] ++ D.drop (insP D r) = insR r D
 | [] => rfl
 | x :: D => by
  have ih := ZjM (D := D) (r := r)
  unfold insP at ih ⊢
  unfold insR
  cases e : olt x r with
  | false => simp [List.takeWhile_cons, e]
  | true =>
   simp only [List.takeWhile_cons, e, if_true, List.length_cons, List.take_succ_cons, List.drop_succ_cons, List.cons_append]
   rw [ih]
def putD (D : List Zab) (r : Zab) : List Zab := if addR D r = 0 then insR r D else D
section
variable {W w : World} {Hs : List HP} {sl : Sl} {D : List Zab}
theorem Zmw (s : Ss W Hs w) (i : Nat) {A : HP} (e : nth Hs i = some A) (rd : Rdb A cRt sl D) (hD : D.length ≤ 1000) (k : Zar) : WP (Zbh sl k) w (fun r w' => r = (if known D k = true then (posR D k : Int) else -1) ∧ Ss W Hs w') := by
 unfold Zbh
 have hl := (s.rd_len e rd).1
 refine WP.slot' s (fun _ w s => WP.loopG (γ := Nat) (fun j (z : Int) w => z = (j : Int) ∧ j ≤ posR D k ∧ Ss W Hs w) (fun j _ => D.length - j) 0 ⟨rfl, Nat.zero_le _, s⟩ ?_)
 clear s
 rintro j _ w ⟨rfl, hj, s⟩
 show WP (Zbh.L1 sl k (j : Int)) w _
 unfold Zbh.L1
 have hle := ZmQ (D := D) (k := k)
 refine WP.ite (fun h => WP.draw' s (fun w s => ?_)) (fun h => WP.done ⟨?_, s⟩)
 ·have h1 : j < D.length := by omega
  have hx : D[j]? = some D[j] := List.getElem?_eq_getElem h1
  have hp := ZkS hj hx
  refine WP.rdxp0 s i e rd (by omega) (x := D[j]) (y := D[j].Prefix) (by rw [Int.toNat_natCast]; exact hx) rfl (ZaT _) ?_
  refine WP.ite (fun h3 => WP.done ⟨?_, s⟩) (fun h3 => WP.next ⟨j + 1, ⟨?_, ?_, s⟩, by omega⟩)
  ·have : ¬ j < posR D k := fun h => hp.1 h h3
   have e1 : posR D k = j := by omega
   rw [if_pos (ZhO.1 (by omega)), e1]
  ·rw [ZaP (by omega) (by omega)]
   omega
  ·exact hp.2 h3
 ·have : ¬ known D k = true := fun h' => by
   have := ZhO.2 h'
   omega
  rw [if_neg this]
theorem Zmm (s : Ss W Hs w) (a b : Zar) : WP (Zch a b) w (fun r w' => r = ZjX a b ∧ Ss W Hs w') := by
 unfold Zch
 rw [ZlD]
 refine WP.slot' s (fun _ w s => WP.slot' s (fun _ w s => WP.ite (fun h => WP.step (ZlV s _ _) ?_) (fun h => WP.ret ⟨by rw [if_neg h], s⟩)))
 rintro _ w ⟨rfl, s⟩
 exact WP.ret ⟨by rw [if_pos h], s⟩
theorem ZmK (s : Ss W Hs w) (r : Zab) (hb : RByt r) : WP (ZcF r) w (fun x w' => x = ZiW r ∧ Ss W Hs w') := by
 unfold ZcF ZiW
 refine WP.slot' s (fun _ w s => WP.ite (fun h => WP.ret ⟨(decide_eq_true (.inl h)).symm, s⟩) (fun h => WP.step (ZkL s r.Via hb.2) ?_))
 rintro _ w ⟨rfl, s⟩
 have hc : (ZcB r.Via = 7 ∨ ZcB r.Via = 4) → Zbo r.Via > 0 := fun h' => Decidable.byContradiction fun hn => by
  unfold ZcB at h'
  rw [if_neg hn] at h'
  omega
 refine WP.step (R := fun y w' => y = decide (r.Via.V = r.Prefix.IP.V ∧ (ZcB r.Via = 7 ∨ ZcB r.Via = 4)) ∧ Ss W Hs w') (WP.ite (fun h1 => ?_) (fun h1 => WP.ret ⟨by simp [h1], s⟩)) ?_
 ·refine WP.step (R := fun y w' => y = decide (ZcB r.Via = 7 ∨ ZcB r.Via = 4) ∧ Ss W Hs w') (WP.ite (fun h2 => WP.ret ⟨by simp [h2], s⟩) (fun h2 => WP.ret ⟨?_, s⟩)) ?_
  ·rw [Bool.eq_iff_iff]
   simp [h2]
  rintro _ w ⟨rfl, s⟩
  exact WP.ret ⟨by simp [h1], s⟩
 rintro _ w ⟨rfl, s⟩
 refine WP.ret ⟨?_, s⟩
 rw [decide_eq_decide]
 exact ⟨fun x => .inr ⟨hc x.2, x⟩, fun x => x.elim (fun h' => absurd h' h) (·.2)⟩
theorem ZmM (s : Ss W Hs w) (i : Nat) (e : nth Hs i = some (rdS cRt false sl D)) (hD : D.length ≤ 256) (r : Zab) (hb : RByt r) :
  WP (ZaV sl r) w (fun q w' => q.2 = addR D r ∧ Ss W (rdS cRt false q.1 (putD D r) :: Hs) w') := by
 unfold ZaV
 have hl := s.rd_cap e
 have ro : Ro (rdS cRt false sl D) := Ro.rdS
 have no : ∀ {w : World} {n : Int}, Ss W Hs w → addR D r = n → n ≠ 0 → WP (pure (sl, n) : M (Sl × Int)) w (fun q w' => q.2 = addR D r ∧ Ss W (rdS cRt false q.1 (putD D r) :: Hs) w') := by
  intro w n s h1 h2
  refine WP.ret ⟨h1.symm, ?_⟩
  unfold putD
  rw [if_neg (by rw [h1]; exact h2)]
  exact s.dup e ro
 refine WP.slot' s (fun _ w s => WP.step (ZdQ s r.Prefix hb.1) ?_)
 rintro _ w ⟨rfl, s⟩
 refine WP.ite (fun h => no s (by unfold addR addM isPx; rw [if_pos (decide_eq_false h)]) (by decide)) (fun h => ?_)
 have h0 : isPx r.Prefix = true := decide_eq_true (Decidable.not_not.1 h)
 refine WP.step (R := fun y w' => y = decide (r.Port < 0 ∨ r.Port ≥ 8) ∧ Ss W Hs w') (WP.ite (fun h => WP.ret ⟨by simp [h], s⟩) (fun h => WP.ret ⟨by simp [h], s⟩)) ?_
 rintro _ w ⟨rfl, s⟩
 refine WP.ite (fun h2 => no s (by unfold addR addM; rw [if_neg (by rw [h0]; decide), if_pos (of_decide_eq_true h2)]) (by decide)) (fun h2 => ?_)
 have h2' : ¬ (r.Port < 0 ∨ r.Port ≥ 8) := fun h => h2 (decide_eq_true h)
 refine WP.step (ZmK s r hb) ?_
 rintro _ w ⟨rfl, s⟩
 refine WP.ite (fun h3 => no s (by unfold addR addM; rw [if_neg (by rw [h0]; decide), if_neg h2', if_pos (by simpa using h3)]) (by decide)) (fun h3 => ?_)
 have e1 : addR D r = addE D r := by
  unfold addR addM
  rw [if_neg (by rw [h0]; decide), if_neg h2', if_neg (by simpa using h3)]
 refine WP.step (Zmw s i e Zdg (by omega) r.Prefix) ?_
 rintro _ w ⟨rfl, s⟩
 by_cases hk : known D r.Prefix = true
 ·rw [if_pos hk]
  exact WP.ite (fun _ => no s (by rw [e1]; unfold addE; rw [if_pos hk]) (by decide)) (fun h => absurd (by omega) h)
 rw [if_neg hk]
 refine WP.ite (fun h => absurd h (by decide)) (fun _ => ?_)
 refine WP.ite (fun h => no s (by rw [e1]; unfold addE; rw [if_neg hk, if_pos (by omega)]) (by decide)) (fun h5 => ?_)
 have e2 : addR D r = 0 := by
  rw [e1]
  unfold addE
  rw [if_neg hk, if_neg (by omega)]
 refine WP.loopG (γ := Nat) (fun j (z : Int) w => z = (j : Int) ∧ j ≤ insP D r ∧ Ss W Hs w) (fun j _ => D.length - j) 0 ⟨rfl, Nat.zero_le _, s⟩ ?_
 clear s
 rintro j _ w ⟨rfl, hj, s⟩
 show WP (ZaV.L1 sl r (j : Int)) w _
 unfold ZaV.L1
 have hle := Zm3 (D := D) (r := r)
 refine WP.draw' s (fun w s => ?_)
 refine WP.step (R := fun y w' => y = decide (j < insP D r) ∧ Ss W Hs w') (WP.ite (fun h => ?_) (fun h => WP.ret ⟨(decide_eq_false (by omega)).symm, s⟩)) ?_
 ·have h1 : j < D.length := by omega
  have hx : D[j]? = some D[j] := List.getElem?_eq_getElem h1
  refine WP.rdxp0 s i e Zdg (by omega) (x := D[j]) (y := D[j].Prefix) (by rw [Int.toNat_natCast]; exact hx) rfl (ZaT _) (WP.step (Zmm s _ _) ?_)
  rintro _ w ⟨rfl, s⟩
  refine WP.ret ⟨?_, s⟩
  rw [← ZkX, Bool.eq_iff_iff, decide_eq_true_iff]
  exact (Zk8 hj hx).symm
 rintro _ w ⟨rfl, s⟩
 refine WP.ite (fun h => WP.next ⟨j + 1, ⟨?_, of_decide_eq_true h, s⟩, ?_⟩) (fun h => ?_)
 ·rw [ZaP (by omega) (by omega)]
  omega
 ·have := of_decide_eq_true h
  omega
 have hji : j = insP D r := by
  have : ¬ j < insP D r := fun h' => h (decide_eq_true h')
  omega
 refine WP.step (R := fun q w' => q.2 = addR D r ∧ Ss W (rdS cRt false q.1 (putD D r) :: Hs) w') ?_ (fun r w h => WP.done h)
 unfold ZaV.K1
 have hc : (insP D r : Int).toNat = insP D r := Int.toNat_natCast _
 rw [hji]
 refine WP.cutpre (by omega) (by omega) ?_
 rw [hc]
 refine WP.appS s i e (Zdg.take hle) (by decide) (WP.appl0 s (by rw [List.length_take]; omega) (by decide) (fun q1 w sp1 s => ?_))
 refine WP.slot' s (fun _ w s => WP.appl s 0 rfl (by simp only [List.length_take, List.length_singleton]; omega) (by decide) (fun q2 w sp2 s => ?_))
 refine WP.cutsuf (by omega) (by omega) hl.2 ?_
 rw [hc]
 refine WP.appS s (i + 1) e (Zdg.drop hle hl.2) (by decide) (WP.appl s 0 rfl (by simp only [List.length_append, List.length_take, List.length_drop, List.length_singleton]; omega) (by decide) (fun q3 w sp3 s => ?_))
 have s : Ss W (vec cRt q3 (D.take (insP D r) ++ [r] ++ D.drop (insP D r)) sp3 :: Hs) w := s
 rw [ZjM] at s
 refine WP.ret ⟨e2.symm, ?_⟩
 unfold putD
 rw [if_pos e2]
 exact s.vec_freeze
theorem ZlU (s : Ss W Hs w) (i : Nat) (e : nth Hs i = some (rdS cRt false sl D)) (hD : D.length ≤ 256) (nd : (D.map (·.Prefix)).Nodup) (k : Zar) :
  WP (Zcu sl k) w (fun q w' => q.2 = known D k ∧ Ss W (rdS cRt false q.1 (Zei D k) :: Hs) w') := by
 unfold Zcu
 have hl := s.rd_cap e
 have ro : Ro (rdS cRt false sl D) := Ro.rdS
 refine WP.slot' s (fun _ w s => WP.step (Zmw s i e Zdg (by omega) k) ?_)
 rintro _ w ⟨rfl, s⟩
 by_cases hk : known D k = true
 rotate_left
 ·rw [if_neg hk]
  refine WP.ite (fun _ => WP.ret ⟨by simpa using hk, ?_⟩) (fun h => absurd (by decide) h)
  have hd : Zei D k = D := List.filter_eq_self.2 (fun y hy => by
   have : y.Prefix ≠ k := fun e => hk (ZcA.2 ⟨y, hy, e⟩)
   simpa using this)
  rw [hd]
  exact s.dup e ro
 rw [if_pos hk]
 have hp := ZhO.2 hk
 have hc : (posR D k : Int).toNat = posR D k := Int.toNat_natCast _
 have hc2 : (((posR D k + 1 : Nat) : Int)).toNat = posR D k + 1 := Int.toNat_natCast _
 refine WP.ite (fun h => absurd h (by omega)) (fun _ => WP.cutpre (by omega) (by omega) ?_)
 rw [hc]
 refine WP.appS s i e (Zdg.take (by omega)) (by decide) (WP.appl0 s (by rw [List.length_take]; omega) (by decide) (fun q1 w sp1 s => ?_))
 rw [ZaP (by omega) (by omega)]
 have e3 : (posR D k : Int) + 1 = ((posR D k + 1 : Nat) : Int) := by omega
 rw [e3]
 refine WP.cutsuf (by omega) (by omega) hl.2 ?_
 rw [hc2]
 refine WP.appS s (i + 1) e (Zdg.drop (by omega) hl.2) (by decide) (WP.appl s 0 rfl (by simp only [List.length_take, List.length_drop]; omega) (by decide) (fun q3 w sp3 s => ?_))
 have s : Ss W (vec cRt q3 (D.take (posR D k) ++ D.drop (posR D k + 1)) sp3 :: Hs) w := s
 rw [Zij nd hk] at s
 exact WP.ret ⟨hk.symm, s.vec_freeze⟩
end
end Go.Proofs.YtfgcobigollfjaaDoor.Lx
