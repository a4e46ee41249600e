
import Derived.Test.YtpmhinidiplhiaaGreatDoorRulesItoa
import Derived.Test.YtpmhinidiplhiaaGreatDoorAddrBack14
set_option linter.unusedVariables false
set_option linter.unusedSimpArgs false
namespace Go.Proofs.YtpmhinidiplhiaaGreatDoor.Lx
open Go Go.Proofs Go.RowKit
theorem Zhq {l : List Int} (h : l.all (fun x => decide (0 ≤ x ∧ x ≤ 255)) = true) : Byt l := fun x hx => of_decide_eq_true (List.all_eq_true.1 h x hx)
theorem Zc8 {v : Int} (h0 : 0 ≤ v) (h : v < 65536) : (decM v).length ≤ 5 ∧ 0 < (decM v).length ∧ Byt (decM v) := by
 obtain ⟨n, rfl⟩ : ∃ n : Nat, v = (n : Int) := ⟨v.toNat, by omega⟩
 by_cases hn : n < 1000
 ·rw [Zlb hn]
  refine ⟨?_, ?_, Zjr hn⟩
  ·rw [Zfv]
   unfold ndig
   split
   ·omega
   ·split <;> omega
  ·rw [Zfv]
   unfold ndig
   split
   ·omega
   ·split <;> omega
 ·rw [ZoE (by omega) (by omega)]
  refine ⟨?_, ?_, ?_⟩
  ·rw [ZlR]
   unfold nd5
   split <;> omega
  ·rw [ZlR]
   unfold nd5
   split <;> omega
  ·unfold dec5
   refine Byt.app ?_ ?_
   ·split
    ·intro x hx
     cases hx
    ·intro x hx
     rw [List.mem_singleton.1 hx]
     omega
   ·intro x hx
    simp only [List.mem_cons, List.not_mem_nil, or_false] at hx
    omega
theorem Zkg {gs : List Nat} (hl : gs.length ≤ 8) : (colM gs).length ≤ 40 := by
 have := Zh3 (sep := [58]) (l := gs.map hex4) (k := 4) (fun x hx => by
  obtain ⟨y, _, rfl⟩ := List.mem_map.1 hx
  exact (Zg5 3 y).2)
 rw [List.length_map] at this
 unfold colM
 simp only [List.length_cons, List.length_nil] at this
 omega
theorem Zo0 {ip : Zbe} : (prIP ip).length ≤ 82 := by
 have hl := ip.A.h
 unfold prIP
 split
 ·have := Zha (xs := ip.A.l.take 4) (by rw [List.length_take]; omega)
  omega
 ·split
  ·have := Zha (xs := ip.A.l.drop 12) (by rw [List.length_drop]; omega)
   rw [List.length_append]
   simp only [List.length_cons, List.length_nil]
   omega
  ·have hg := Zg6 ip.A.l
   split
   ·have := Zkg (gs := grps ip.A.l) (by omega)
    omega
   ·have h1 := Zkg (gs := (grps ip.A.l).take (Zd9 (grps ip.A.l)).1.toNat) (by rw [List.length_take]; omega)
    have h2 := Zkg (gs := (grps ip.A.l).drop ((Zd9 (grps ip.A.l)).1.toNat + (Zd9 (grps ip.A.l)).2)) (by rw [List.length_drop]; omega)
    rw [List.length_append, List.length_append]
    simp only [List.length_cons, List.length_nil]
    omega
theorem Zmv {ip : Zbe} (hb : Byt ip.A.l) : Byt (prIP ip) := by
 have dot : ∀ {a : List Int}, Byt a → Byt (dotM a) := fun {a} hb => ZmJ (Zhq (by decide)) (fun x hx => by
  obtain ⟨y, hy, rfl⟩ := List.mem_map.1 hx
  have := hb y hy
  exact Zjr (by omega))
 have col : ∀ {gs : List Nat}, (∀ g ∈ gs, g < 65536) → Byt (colM gs) := fun {gs} hg => ZmJ (Zhq (by decide)) (fun x hx => by
  obtain ⟨y, hy, rfl⟩ := List.mem_map.1 hx
  intro c hc
  have := (Zs2 (hg y hy)).1 c hc
  unfold ZfQ hexV at this
  have := of_decide_eq_true this
  split at this
  ·omega
  ·split at this
   ·omega
   ·split at this <;> omega)
 have hlt := Zqr hb
 unfold prIP
 split
 ·exact dot (fun x hx => hb x (List.mem_of_mem_take hx))
 ·split
  ·exact Byt.app (Zhq (by decide)) (dot (fun x hx => hb x (List.mem_of_mem_drop hx)))
  ·split
   ·exact col hlt
   ·exact Byt.app (Byt.app (col (fun g hg => hlt g (List.mem_of_mem_take hg))) (Zhq (by decide))) (col (fun g hg => hlt g (List.mem_of_mem_drop hg)))
theorem ZqF (n : Nat) : (dec3 n).length ≤ 3 := by
 rw [Zfv]
 unfold ndig
 split
 ·omega
 ·split <;> omega
theorem ZsQ {p : Zap} (hb : Byt p.IP.A.l) (h : vpM p = 0) : (netT p).length ≤ 86 ∧ Byt (netT p) := by
 have hl := Zo0 (ip := p.IP)
 obtain ⟨h1, h2, h3, h4⟩ := Zjy h
 have h5 := Zg1 p.IP
 have h6 := ZqF p.Len.toNat
 unfold netT
 split
 ·exact ⟨by omega, Zmv hb⟩
 ·refine ⟨by rw [List.length_append, List.length_cons]; omega, Byt.app (Zmv hb) ?_⟩
  intro x hx
  rcases List.mem_cons.1 hx with rfl | hx
  ·omega
  ·exact Zjr (by omega) x hx
theorem ZpP {r : ZaZ} (h : Zef r = true) : (ZcV r).length ≤ 11 ∧ Byt (ZcV r) := by
 have h := of_decide_eq_true h
 obtain ⟨a1, -, a3⟩ := Zc8 (v := r.Lo) (by omega) (by omega)
 obtain ⟨b1, -, b3⟩ := Zc8 (v := r.Hi) (by omega) (by omega)
 unfold ZcV
 split
 ·refine ⟨by rw [List.length_append, List.length_cons]; omega, Byt.app a3 ?_⟩
  intro x hx
  rcases List.mem_cons.1 hx with rfl | hx
  ·omega
  ·exact b3 x hx
 ·exact ⟨by omega, a3⟩
theorem ZtI {l : List (List Int)} (h : ∀ x ∈ l, Byt x) : (l.map bstr).map strI = l := by
 rw [List.map_map]
 conv => rhs; rw [← List.map_id l]
 exact List.map_congr_left (fun x hx => Zgt (h x hx))
theorem ZdP {l : List (List Int)} (hl : l.length ≤ 100) (h : ∀ x ∈ l, x.length ≤ 100) : (ZcS [44] l).length ≤ 10100 := by
 have := Zh3 (sep := [44]) h
 simp only [List.length_cons, List.length_nil] at this
 have : l.length * 101 ≤ 100 * 101 := Nat.mul_le_mul_right _ hl
 omega
section
variable {W w : World} {Hs : List HP}
theorem Zjn {sl : Sl} {ts : List (List Int)} {sp : List ByteArray} (s : Ss W Hs w) (i : Nat) (e : nth Hs i = some (vec cS sl (ts.map bstr) sp)) (hl : ts.length ≤ 100) (ht : ∀ x ∈ ts, x.length ≤ 100 ∧ Byt x) :
  WP (Zav sl ZeE) w (fun y w' => y = bstr (ZcS [44] ts) ∧ Ss W Hs w') := by
 have hv := s.vec_len (i := i) e
 refine (ZnV s i e Zc9 (by omega) (by rw [List.length_map]; exact hl) (fun x hx => ?_) (by decide +kernel)).mono ?_
 ·obtain ⟨y, hy, rfl⟩ := List.mem_map.1 hx
  rw [Zbs]
  exact (ht y hy).1
 ·rintro y w ⟨rfl, s⟩
  rw [ZtI (fun x hx => (ht x hx).2), show strI ZeE = [44] by decide +kernel]
  exact ⟨rfl, s⟩
theorem chkb {β : Type} {a b : List Int} {f : Unit → M β} {Q : β → World → Prop} (ha : a.length ≤ 1000000) (hb : b.length ≤ 1000000) (k : WP (f ()) w Q) : WP (chk ((((bstr a).size + (bstr b).size : Nat) : Int) ≤ 9223372036854775807) >>= f) w Q :=
 WP.chk (by rw [Zbs, Zbs]; omega) k
theorem Zse : Znj = bstr (tx " port ") := by decide +kernel
theorem c_sp : str8 = bstr [32] := by decide +kernel
theorem ZqK : Zlt = bstr (tx "any") := by decide +kernel
theorem ZtY : Znk = bstr (tx "not ") := by decide +kernel
theorem Zsh : ZjF = bstr [45] := by decide +kernel
def ZkW (ts : List (List Int)) : List Int := if ts = [] then [] else tx " port " ++ ZcS [44] ts
theorem Ziw {sl : Sl} {ts : List (List Int)} {sp : List ByteArray} {J : List Int} (s : Ss W Hs w) (i : Nat) (e : nth Hs i = some (vec cS sl (ts.map bstr) sp)) (hl : ts.length ≤ 16) (ht : ∀ x ∈ ts, x.length ≤ 100 ∧ Byt x) (hJ : J.length ≤ 100000) :
  WP (Zau.K1 sl (bstr J)) w (fun y w' => y = bstr (J ++ ZkW ts) ∧ Ss W Hs w') := by
 unfold Zau.K1 ZkW
 have hv := (s.vec_len (i := i) e).1
 rw [List.length_map] at hv
 refine WP.ite (fun h => ?_) (fun h => WP.ret ⟨?_, s⟩)
 ·rw [if_neg (fun h' => by rw [h'] at hv; simp only [List.length_nil] at hv; omega)]
  refine WP.step (Zjn s i e (by omega) ht) ?_
  rintro _ w ⟨rfl, s⟩
  have hj := ZdP (l := ts) (by omega) (fun x hx => (ht x hx).1)
  rw [Zse]
  refine chkb (by decide) (by omega) ?_
  rw [catb]
  refine chkb (by omega) (by rw [List.length_append]; have : (tx " port ").length = 6 := rfl; omega) (WP.ret ⟨?_, s⟩)
  rw [catb]
 ·rw [if_pos (List.length_eq_zero_iff.1 (by omega)), List.append_nil]
theorem ZoV {a1 : Zae} {m : ZcT} {nm : List Int} {s2 s18 : Sl} {ns ts : List (List Int)} {sp sp2 : List ByteArray} (s : Ss W Hs w) (hno : a1.Not = m.Not) (i : Nat) (e : nth Hs i = some (vec cS s2 (ns.map bstr) sp)) (j : Nat) (e2 : nth Hs j = some (vec cS s18 (ts.map bstr) sp2))
  (hn : ns.length ≤ 16) (hl : ts.length ≤ 16) (hns : ∀ x ∈ ns, x.length ≤ 100 ∧ Byt x) (ht : ∀ x ∈ ts, x.length ≤ 100 ∧ Byt x) (hnm : nm.length ≤ 10) :
  WP (Zau.K3 (bstr nm) a1 s2 s18) w (fun y w' => y = bstr ([32] ++ nm ++ [32] ++ (if ns = [] then tx "any" else (if m.Not = true then tx "not " else []) ++ ZcS [44] ns) ++ ZkW ts) ∧ Ss W Hs w') := by
 unfold Zau.K3
 have hv := (s.vec_len (i := i) e).1
 rw [List.length_map] at hv
 rw [c_sp]
 refine chkb (by decide) (by omega) ?_
 rw [catb]
 refine chkb (by rw [List.length_append]; simp only [List.length_cons, List.length_nil]; omega) (by decide) ?_
 rw [catb]
 have hh : ([32] ++ nm ++ [32]).length ≤ 12 := by simp only [List.length_append, List.length_cons, List.length_nil]; omega
 have hj := ZdP (l := ns) (by omega) (fun x hx => (hns x hx).1)
 refine WP.ite (fun h => ?_) (fun h => ?_)
 ·rw [if_pos (List.length_eq_zero_iff.1 (by omega)), ZqK]
  refine chkb (by omega) (by decide) ?_
  rw [catb]
  exact Ziw s j e2 hl ht (by rw [List.length_append]; have : (tx "any").length = 3 := rfl; omega)
 ·rw [if_neg (show ¬ ns = [] from fun h' => by rw [h'] at hv; simp only [List.length_nil] at hv; omega), hno]
  refine WP.ite (fun h2 => WP.step (Zjn s i e (by omega) hns) ?_) (fun h2 => WP.step (Zjn s i e (by omega) hns) ?_)
  ·rintro _ w ⟨rfl, s⟩
   have h4 : (tx "not ").length = 4 := rfl
   rw [if_pos h2, ZtY]
   refine chkb (by decide) (by omega) ?_
   rw [catb]
   refine chkb (by omega) (by rw [List.length_append]; omega) ?_
   rw [catb]
   unfold Zau.K2
   exact Ziw s j e2 hl ht (by simp only [List.length_append, List.length_cons, List.length_nil] at hh ⊢; omega)
  ·rintro _ w ⟨rfl, s⟩
   rw [if_neg h2, List.nil_append]
   refine chkb (by omega) (by omega) ?_
   rw [catb]
   unfold Zau.K2
   exact Ziw s j e2 hl ht (by rw [List.length_append]; omega)
structure SdOk (m : ZcT) : Prop where
 nets : ∀ p ∈ m.nets, Byt p.IP.A.l ∧ vpM p = 0
 ports : ∀ r ∈ m.ports, Zef r = true
 n16 : m.nets.length ≤ 16
 p16 : m.ports.length ≤ 16
theorem SdOk.ns {m : ZcT} (h : SdOk m) : ∀ x ∈ m.nets.map netT, x.length ≤ 100 ∧ Byt x := fun x hx => by
 obtain ⟨p, hp, rfl⟩ := List.mem_map.1 hx
 have := ZsQ (h.nets p hp).1 (h.nets p hp).2
 exact ⟨by omega, this.2⟩
theorem SdOk.ps {m : ZcT} (h : SdOk m) : ∀ x ∈ m.ports.map ZcV, x.length ≤ 100 ∧ Byt x := fun x hx => by
 obtain ⟨p, hp, rfl⟩ := List.mem_map.1 hx
 have := ZpP (h.ports p hp)
 exact ⟨by omega, this.2⟩
theorem ZoU {a1 : Zae} {m : ZcT} {nm : List Int} {s2 : Sl} {sp : List ByteArray} (s : Ss W (vec cS s2 ((m.nets.map netT).map bstr) sp :: Hs) w) (r : RdSd Hs a1 m) (ok : SdOk m) (hnm : nm.length ≤ 10) (t : Nat) (et : nth Hs t = some TabN) :
  WP (Zau.K4 (bstr nm) a1 s2) w (fun y w' => y = bstr ([32] ++ nm ++ [32] ++ (if m.nets.map netT = [] then tx "any" else (if m.Not = true then tx "not " else []) ++ ZcS [44] (m.nets.map netT)) ++ ZkW (m.ports.map ZcV)) ∧ Ss W Hs w') := by
 obtain ⟨hno, hb, ⟨i, A, e, ra⟩, ⟨j, B, e2, rb⟩⟩ := r
 have hp := (s.rd_len (i := j + 1) e2 rb).1
 have h16 := ok.p16
 unfold Zau.K4
 refine WP.loopG (γ := Nat × List ByteArray) (fun g (p : Sl × Int) w => p.2 = (g.1 : Int) ∧ g.1 ≤ m.ports.length ∧ Ss W (vec cS p.1 (((m.ports.take g.1).map ZcV).map bstr) g.2 :: vec cS s2 ((m.nets.map netT).map bstr) sp :: Hs) w) (fun g _ => m.ports.length - g.1) (0, []) ⟨rfl, by simp, s.mk0 (A := vec cS Sl.nil [] []) Zdo⟩ ?_
 clear s
 rintro ⟨k, sp2⟩ ⟨sl, _⟩ w ⟨rfl, hk, s⟩
 simp only at hk s
 show WP (Zau.L1 (bstr nm) a1 s2 sl (k : Int)) w _
 unfold Zau.L1
 refine WP.ite (fun h => ?_) (fun h => ?_)
 ·have hk2 : k < m.ports.length := by omega
  have hx := List.getElem?_eq_getElem hk2
  have hok := ok.ports _ (List.mem_of_getElem? hx)
  have htake : m.ports.take (k + 1) = m.ports.take k ++ [m.ports[k]] := by
   rw [List.take_add_one, hx]
   rfl
  generalize m.ports[k] = x at hx hok htake
  have hr := of_decide_eq_true hok
  have next : ∀ {w : World}, Ss W (vec cS sl (((m.ports.take k).map ZcV).map bstr) sp2 :: vec cS s2 ((m.nets.map netT).map bstr) sp :: Hs) w → ∀ (T : TypeId) (t : List Int), t = ZcV x → WP (slot T >>= fun b55 => appl cS 9 16 ByteArray.empty sl [bstr t] >>= fun r56 => pure (LS.next (r56, IntKind.wrap .i64 ((k : Int) + 1)))) w (WP.Rd (fun s' w' => ∃ g' : Nat × List ByteArray, (s'.2 = (g'.1 : Int) ∧ g'.1 ≤ m.ports.length ∧ Ss W (vec cS s'.1 (((m.ports.take g'.1).map ZcV).map bstr) g'.2 :: vec cS s2 ((m.nets.map netT).map bstr) sp :: Hs) w') ∧ m.ports.length - g'.1 < m.ports.length - k) (fun y w' => y = bstr ([32] ++ nm ++ [32] ++ (if m.nets.map netT = [] then tx "any" else (if m.Not = true then tx "not " else []) ++ ZcS [44] (m.nets.map netT)) ++ ZkW (m.ports.map ZcV)) ∧ Ss W Hs w')) := by
   intro w s T t ht
   refine WP.slot' s (fun _ w s => ?_)
   refine WP.appl s 0 rfl (by simp only [List.length_map, List.length_take, List.length_cons, List.length_nil]; omega) (by decide) (fun sl' w sp' s => WP.next ⟨(k + 1, sp'), ⟨?_, by simp only; omega, ?_⟩, by simp only; omega⟩)
   ·rw [Zah (by omega) (by omega)]
    simp
   ·simp only
    rw [htake, List.map_append, List.map_append]
    subst ht
    exact s
  refine WP.rdx s (j + 2) e2 rb (by omega) (x := x) (by rw [Int.toNat_natCast]; exact hx) rfl (WP.slot' s (fun _ w s => ?_))
  refine WP.step (Zga s (t + 2) et (v := x.Lo) (by omega) (by omega)) ?_
  rintro _ w ⟨rfl, s⟩
  have b1 := (Zc8 (v := x.Lo) (by omega) (by omega)).1
  have b2 := (Zc8 (v := x.Hi) (by omega) (by omega)).1
  refine WP.ite (fun h => ?_) (fun h => ?_)
  ·refine WP.step (Zga s (t + 2) et (v := x.Hi) (by omega) (by omega)) ?_
   rintro _ w ⟨rfl, s⟩
   rw [Zsh]
   refine chkb (by decide) (by omega) ?_
   rw [catb]
   refine chkb (by omega) (by rw [List.length_append]; simp only [List.length_cons, List.length_nil]; omega) ?_
   rw [catb]
   exact next s _ _ (by unfold ZcV; rw [if_pos h]; rfl)
  ·exact next s _ _ (by unfold ZcV; rw [if_neg h])
 ·have hk2 : k = m.ports.length := by omega
  subst hk2
  rw [List.take_length] at s
  refine WP.step (ZoV s hno 1 rfl 0 rfl (by rw [List.length_map]; exact ok.n16) (by rw [List.length_map]; exact ok.p16) ok.ns ok.ps hnm) (fun y w h => WP.done ?_)
  exact ⟨h.1, h.2.drop.drop⟩
theorem Zn3 {a1 : Zae} {m : ZcT} {nm : List Int} (s : Ss W Hs w) (r : RdSd Hs a1 m) (ok : SdOk m) (hnm : nm.length ≤ 10) (t : Nat) (et : nth Hs t = some TabN) :
  WP (Zau (bstr nm) a1) w (fun y w' => y = bstr (Zgm nm m) ∧ Ss W Hs w') := by
 have r0 := r
 obtain ⟨hno, hb, ⟨i, A, e, ra⟩, ⟨j, B, e2, rb⟩⟩ := r
 have hn := (s.rd_len e ra).1
 have hp := (s.rd_len e2 rb).1
 have h16 := ok.n16
 have p16 := ok.p16
 unfold Zau
 refine WP.slot' s (fun _ w s => ?_)
 rw [Zah (by omega) (by omega)]
 have hz : (m.nets = [] ∧ m.ports = []) ↔ ((a1.Nets.len : Int) + (a1.Ports.len : Int) = 0) := by
  rw [hn, hp, ← List.length_eq_zero_iff, ← List.length_eq_zero_iff]
  omega
 unfold Zgm
 refine WP.ite (fun h => WP.ret ⟨by rw [if_pos (hz.2 h)]; rfl, s⟩) (fun h => ?_)
 rw [if_neg (fun h' => h (hz.1 h'))]
 refine WP.loopG (γ := Nat × List ByteArray) (fun g (p : Sl × Int) w => p.2 = (g.1 : Int) ∧ g.1 ≤ m.nets.length ∧ Ss W (vec cS p.1 (((m.nets.take g.1).map netT).map bstr) g.2 :: Hs) w) (fun g _ => m.nets.length - g.1) (0, []) ⟨rfl, by simp, s.mk0 (A := vec cS Sl.nil [] []) Zdo⟩ ?_
 clear s
 rintro ⟨k, sp⟩ ⟨sl, _⟩ w ⟨rfl, hk, s⟩
 simp only at hk s
 show WP (Zau.L2 (bstr nm) a1 sl (k : Int)) w _
 unfold Zau.L2
 refine WP.ite (fun h => ?_) (fun h => ?_)
 ·have hk2 : k < m.nets.length := by omega
  have hx := List.getElem?_eq_getElem hk2
  have hok := ok.nets _ (List.mem_of_getElem? hx)
  have htake : m.nets.take (k + 1) = m.nets.take k ++ [m.nets[k]] := by
   rw [List.take_add_one, hx]
   rfl
  generalize m.nets[k] = x at hx hok htake
  obtain ⟨hxb, hv⟩ := hok
  obtain ⟨v0, v1, v2, v3⟩ := Zjy hv
  have hz := Zg1 x.IP
  refine WP.rdx s (i + 1) e ra (by omega) (x := x) (by rw [Int.toNat_natCast]; exact hx) rfl (WP.slot' s (fun _ w s => ?_))
  refine WP.step (ZkF s (t + 1) et x hxb) ?_
  rintro _ w ⟨rfl, s⟩
  have hpp : ppM x = (bstr (prIP x.IP ++ 47 :: dec3 x.Len.toNat), 0) := by unfold ppM; rw [if_pos hv]
  have hpi : piM x.IP = (bstr (prIP x.IP), 0) := by unfold piM; rw [if_pos (by omega)]
  rw [hpp]
  refine WP.step (R := fun y w' => y = decide (x.Len = 32 ∧ x.IP.V = 4) ∧ w = w') (WP.ite (fun h => WP.ret ⟨?_, rfl⟩) (fun h => WP.ret ⟨(decide_eq_false (fun h' => h h'.1)).symm, rfl⟩)) ?_
  ·rw [Bool.eq_iff_iff, beq_iff_eq, decide_eq_true_iff]
   exact ⟨fun h' => ⟨h, h'⟩, fun h' => h'.2⟩
  rintro _ _ ⟨rfl, rfl⟩
  refine WP.step (R := fun y w' => y = decide ((x.Len = 32 ∧ x.IP.V = 4) ∨ x.Len = 128) ∧ w = w') (WP.ite (fun h => WP.ret ⟨(decide_eq_true (.inl (of_decide_eq_true h))).symm, rfl⟩) (fun h => WP.ret ⟨?_, rfl⟩)) ?_
  ·rw [Bool.eq_iff_iff, beq_iff_eq, decide_eq_true_iff]
   exact ⟨.inr, fun h' => h'.elim (fun h' => absurd (decide_eq_true h') h) id⟩
  rintro _ _ ⟨rfl, rfl⟩
  refine WP.ite (fun h => WP.step (Zlg s (t + 1) et x.IP hxb) ?_) (fun h => ?_)
  ·rintro _ w ⟨rfl, s⟩
   rw [hpi]
   refine WP.slot' s (fun _ w s => ?_)
   refine WP.appl s 0 rfl (by simp only [List.length_map, List.length_take, List.length_cons, List.length_nil]; omega) (by decide) (fun sl' w sp' s => WP.next ⟨(k + 1, sp'), ⟨?_, by simp only; omega, ?_⟩, by simp only; omega⟩)
   ·rw [Zah (by omega) (by omega)]
    simp
   ·simp only
    rw [htake, List.map_append, List.map_append]
    have : netT x = prIP x.IP := by unfold netT; rw [if_pos (of_decide_eq_true h)]
    simp only [List.map_cons, List.map_nil]
    rw [this]
    exact s
  ·refine WP.slot' s (fun _ w s => ?_)
   refine WP.appl s 0 rfl (by simp only [List.length_map, List.length_take, List.length_cons, List.length_nil]; omega) (by decide) (fun sl' w sp' s => WP.next ⟨(k + 1, sp'), ⟨?_, by simp only; omega, ?_⟩, by simp only; omega⟩)
   ·rw [Zah (by omega) (by omega)]
    simp
   ·simp only
    rw [htake, List.map_append, List.map_append]
    have : netT x = prIP x.IP ++ 47 :: dec3 x.Len.toNat := by unfold netT; rw [if_neg (fun h' => h (decide_eq_true h'))]
    simp only [List.map_cons, List.map_nil]
    rw [this]
    exact s
 ·have hk2 : k = m.nets.length := by omega
  subst hk2
  rw [List.take_length] at s
  refine WP.step (ZoU s r0 ok hnm t et) (fun y w h => WP.done ⟨?_, h.2⟩)
  rw [h.1]
  unfold ZkW
  simp only [List.map_eq_nil_iff]
end
end Go.Proofs.YtpmhinidiplhiaaGreatDoor.Lx
