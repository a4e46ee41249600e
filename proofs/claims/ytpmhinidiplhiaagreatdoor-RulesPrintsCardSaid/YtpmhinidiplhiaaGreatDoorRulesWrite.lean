
import Derived.Test.YtpmhinidiplhiaaGreatDoorRulesSideT
set_option linter.unusedVariables false
set_option linter.unusedSimpArgs false
namespace Go.Proofs.YtpmhinidiplhiaaGreatDoor.Lx
open Go Go.Proofs Go.RowKit
theorem Zie {m : ZcT} {kind proto : Int} (hb : Byts m.nets) (h : Zd6 m kind proto = 0) : SdOk m := by
 unfold Zd6 at h
 split at h
 ·cases h
 ·rename_i h1
  split at h
  ·cases h
  ·rename_i h2
   split at h
   ·cases h
   ·rename_i h3
    split at h
    ·cases h
    ·rename_i h4
     refine ⟨fun p hp => ⟨hb p hp, ?_⟩, Decidable.not_not.1 h4, by omega, by omega⟩
     exact (of_decide_eq_true (Decidable.not_not.1 h2 p hp)).1
theorem ZqG {m : Za9} (h : ckM m = 0) : Zjf m = true ∧ Zi4 m = false ∧ Zd6 m.From m.Kind m.Proto = 0 ∧ Zd6 m.To m.Kind m.Proto = 0 := by
 unfold ckM at h
 split at h
 ·cases h
 ·rename_i h1
  split at h
  ·cases h
  ·rename_i h2
   split at h
   ·rename_i h3
    exact absurd h h3
   ·rename_i h3
    refine ⟨?_, ?_, Decidable.not_not.1 h3, h⟩
    ·cases hf : Zjf m with
     | true => rfl
     | false => exact absurd hf h1
    ·cases hf : Zi4 m with
     | false => rfl
     | true => exact absurd hf h2
structure Zkq (m : Za9) : Prop where
 act : 1 ≤ m.Act ∧ m.Act ≤ 3
 cls : 0 ≤ m.Class ∧ m.Class ≤ 7
 kind : 0 ≤ m.Kind ∧ m.Kind ≤ 3
 proto : 0 ≤ m.Proto ∧ m.Proto ≤ 255
 in_ : 0 ≤ m.In ∧ m.In ≤ 8
 vid : 0 ≤ m.Vid ∧ m.Vid ≤ 4094
 set_ : 0 ≤ m.Set ∧ m.Set ≤ 255
 clr : 0 ≤ m.Clear ∧ m.Clear ≤ 255
 typ : 0 ≤ m.Type_ ∧ m.Type_ ≤ 256
 apart : Zgu m.Set m.Clear = false
theorem Zoy {m : Za9} (h : Zjf m = true) : Zkq m := by
 unfold Zjf at h
 simp only [Bool.and_eq_true, inR, decide_eq_true_iff] at h
 obtain ⟨⟨⟨⟨⟨⟨⟨⟨⟨h1, h2⟩, h3⟩, h4⟩, h5⟩, h6⟩, h7⟩, h8⟩, h9⟩, h10⟩ := h
 refine ⟨h1, h2, h3, h4, h5, h6, h7, h8, h9, ?_⟩
 cases hs : Zgu m.Set m.Clear with
 | false => rfl
 | true => rw [hs] at h10; cases h10
theorem ZhU {m : ZcT} {nm : List Int} (ok : SdOk m) (hnm : nm.length ≤ 10) : (Zgm nm m).length ≤ 30000 := by
 unfold Zgm
 have h1 := ZdP (l := m.nets.map netT) (by rw [List.length_map]; have := ok.n16; omega) (fun x hx => (ok.ns x hx).1)
 have h2 := ZdP (l := m.ports.map ZcV) (by rw [List.length_map]; have := ok.p16; omega) (fun x hx => (ok.ps x hx).1)
 have a1 : (tx "any").length = 3 := rfl
 have a2 : (tx "not ").length = 4 := rfl
 have a3 : (tx " port ").length = 6 := rfl
 split
 ·simp
 ·simp only [List.length_append, List.length_cons, List.length_nil]
  have b1 : (if m.nets = [] then tx "any" else (if m.Not = true then tx "not " else []) ++ ZcS [44] (m.nets.map netT)).length ≤ 11000 := by
   split
   ·omega
   ·rw [List.length_append]
    split
    ·omega
    ·simp only [List.length_nil]
     omega
  have b2 : (if m.ports = [] then [] else tx " port " ++ ZcS [44] (m.ports.map ZcV)).length ≤ 11000 := by
   split
   ·simp
   ·rw [List.length_append]
    omega
  omega
def ZlP (m : Za9) (k : Nat) : List (List Int) := (if hasB m.Set k = true then [ZeG.getD k []] else []) ++ (if hasB m.Clear k = true then [33 :: ZeG.getD k []] else [])
def ZdT (m : Za9) (k : Nat) : List (List Int) := (List.range k).flatMap (ZlP m)
theorem Zfa (m : Za9) (k : Nat) : ZdT m (k + 1) = ZdT m k ++ ZlP m k := by
 unfold ZdT
 rw [List.range_succ, List.flatMap_append]
 simp
theorem ZlN (m : Za9) : ZdT m 8 = ZgM m := rfl
theorem ZlO : ∀ k : _root_.Fin 8, (ZeG.getD k.val []).length = 3 ∧ (ZeG.getD k.val []).all (fun x => decide (97 ≤ x ∧ x ≤ 122)) = true := by decide +kernel
theorem ZrJ {m : Za9} {k : Nat} (hk : k < 8) : (ZlP m k).length ≤ 2 ∧ ∀ x ∈ ZlP m k, x.length ≤ 100 ∧ Byt x := by
 obtain ⟨h1, h2⟩ := ZlO ⟨k, hk⟩
 simp only at h1 h2
 have hb : Byt (ZeG.getD k []) := fun x hx => by
  have := of_decide_eq_true (List.all_eq_true.1 h2 x hx)
  omega
 have hb2 : Byt (33 :: ZeG.getD k []) := fun x hx => by
  rcases List.mem_cons.1 hx with rfl | hx
  ·omega
  ·exact hb x hx
 unfold ZlP
 refine ⟨?_, fun x hx => ?_⟩
 ·rw [List.length_append]
  split <;> split <;> simp
 ·rcases List.mem_append.1 hx with hx | hx
  ·split at hx
   ·rw [List.mem_singleton.1 hx]
    exact ⟨by omega, hb⟩
   ·cases hx
  ·split at hx
   ·rw [List.mem_singleton.1 hx]
    exact ⟨by rw [List.length_cons]; omega, hb2⟩
   ·cases hx
theorem ZgL {m : Za9} : ∀ k, k ≤ 8 → (ZdT m k).length ≤ 2 * k ∧ ∀ x ∈ ZdT m k, x.length ≤ 100 ∧ Byt x
 | 0, _ => ⟨by simp [ZdT], fun x hx => by simp [ZdT] at hx⟩
 | k + 1, h => by
  obtain ⟨a1, a2⟩ := ZgL (m := m) k (by omega)
  obtain ⟨b1, b2⟩ := ZrJ (m := m) (k := k) (by omega)
  rw [Zfa]
  refine ⟨by rw [List.length_append]; omega, fun x hx => ?_⟩
  rcases List.mem_append.1 hx with hx | hx
  ·exact a2 x hx
  ·exact b2 x hx
theorem Zs9 : str9 = bstr (tx " proto ") := by decide +kernel
theorem ZtZ : ZtB = bstr (tx " any") := by decide +kernel
theorem ZtX : str4 = bstr (tx "tcp") := by decide +kernel
theorem ZtW : str5 = bstr (tx "udp") := by decide +kernel
theorem Zsf : str6 = bstr (tx "icmp") := by decide +kernel
theorem ZqH : str7 = bstr (tx "icmp6") := by decide +kernel
theorem ZqJ : Zls = bstr (tx " class ") := by decide +kernel
theorem c_on : Zlr = bstr (tx " on p") := by decide +kernel
theorem ZtV : Zlq = bstr (tx " vid ") := by decide +kernel
theorem Zsg : Zks = bstr (tx "from") := by decide +kernel
theorem c_to : Zmd = bstr (tx "to") := by decide +kernel
theorem ZqI : Zni = bstr (tx " flags ") := by decide +kernel
theorem Zsd : ZjE = bstr (tx " type ") := by decide +kernel
theorem Zjs : Zlo = bstr (tx " pieces") := by decide +kernel
theorem Zsi : Zlp = bstr [33] := by decide +kernel
theorem Zki : ByteArray.empty = bstr [] := by decide +kernel
theorem Zqi {i : Nat} (h : i < 3) : ZhE[i]? = some (bstr (ZeS.getD i [])) := by
 unfold ZhE
 rw [List.getElem?_map]
 match i, h with
 | 0, _ => rfl
 | 1, _ => rfl
 | 2, _ => rfl
theorem ZrY {i : Nat} (h : i < 3) : actB[i]? = some (bstr (actN.getD i [])) := by
 unfold actB
 rw [List.getElem?_map]
 match i, h with
 | 0, _ => rfl
 | 1, _ => rfl
 | 2, _ => rfl
theorem Zqu {i : Nat} (h : i < 8) : ZfC[i]? = some (bstr (ZeG.getD i [])) := by
 unfold ZfC
 rw [List.getElem?_map]
 match i, h with
 | 0, _ => rfl
 | 1, _ => rfl
 | 2, _ => rfl
 | 3, _ => rfl
 | 4, _ => rfl
 | 5, _ => rfl
 | 6, _ => rfl
 | 7, _ => rfl
section
variable {W w : World} {Hs : List HP}
theorem Zr8 {β : Type} {g : Nat} {l : List ByteArray} {k : Int} {x : ByteArray} {F : ByteArray → M β} {Q : β → World → Prop} (s : Ss W Hs w) (i : Nat) (e : nth Hs i = some (NmP g l)) (h0 : 0 ≤ k) (hx : l[k.toNat]? = some x) (K : WP (F x) w Q) :
  WP (ld cL ⟨g, 0, none⟩ >>= fun y => idx y.a y.len k 1 >>= fun p => ld cS p >>= F) w Q := by
 obtain ⟨sl, -, s1⟩ := (s.dup e Ro.nmP).openx 0 rfl
 have s1 : Ss W (pts false ⟨g, 0, none⟩ (cL.enc sl) :: rdS cS false sl l :: Hs) w := Ss.split (l := [_, _]) s1
 exact WP.ld (x := sl) s1 0 rfl (o := 0) (by simp [Addr.add]) (At.whole _) (WP.rdx s1 1 rfl ZdQ h0 hx rfl K)
theorem Zms (n : Int) : WP (Zc4 n) w (fun y w' => y = bstr (Zet n) ∧ w = w') := by
 unfold Zc4 Zet
 refine WP.ite (fun h => WP.ret ⟨by rw [if_pos h]; exact ZtX, rfl⟩) (fun h => ?_)
 rw [if_neg h]
 refine WP.ite (fun h => WP.ret ⟨by rw [if_pos h]; exact ZtW, rfl⟩) (fun h => ?_)
 rw [if_neg h]
 refine WP.ite (fun h => WP.ret ⟨by rw [if_pos h]; exact Zsf, rfl⟩) (fun h => ?_)
 rw [if_neg h]
 refine WP.ite (fun h => WP.ret ⟨by rw [if_pos h]; exact ZqH, rfl⟩) (fun h => ?_)
 rw [if_neg h]
 exact WP.ret ⟨Zki, rfl⟩
theorem ZjN (n : Int) : (Zet n).length ≤ 5 ∧ Byt (Zet n) := by
 unfold Zet
 split
 ·exact ⟨by decide, Zhq (by decide)⟩
 ·split
  ·exact ⟨by decide, Zhq (by decide)⟩
  ·split
   ·exact ⟨by decide, Zhq (by decide)⟩
   ·split
    ·exact ⟨by decide, Zhq (by decide)⟩
    ·exact ⟨by decide, fun x hx => by cases hx⟩
theorem Zmc {r : Zag} {m : Za9} {J : List Int} (s : Ss W Hs w) (sc : RSc r m) (hp : 0 ≤ m.Proto ∧ m.Proto ≤ 255) (hJ : J.length ≤ 100) (hk : m.Kind = 0 → J = []) (t : Nat) (et : nth Hs t = some TabN) :
  WP (ZbQ.K1 r (bstr J)) w (fun y w' => y = bstr (J ++ (if Zet m.Proto ≠ [] then [32] ++ Zet m.Proto else if m.Proto > 0 then tx " proto " ++ decM m.Proto else if m.Kind = 0 then tx " any" else [])) ∧ Ss W Hs w') := by
 obtain ⟨-, -, h3, h4, -⟩ := sc
 unfold ZbQ.K1
 rw [h3, h4]
 refine WP.step (Zms m.Proto) ?_
 rintro _ _ ⟨rfl, rfl⟩
 obtain ⟨pl, pb⟩ := ZjN m.Proto
 have he : (bstr (Zet m.Proto)).toList = ByteArray.empty.toList ↔ Zet m.Proto = [] := by
  rw [ZbX, Zgt pb]
  exact Iff.rfl
 refine WP.ite (fun h => ?_) (fun h => ?_)
 ·have h' : Zet m.Proto ≠ [] := fun h' => h (he.2 h')
  rw [if_pos h', c_sp]
  refine chkb (by decide) (by omega) ?_
  rw [catb]
  refine chkb (by omega) (by rw [List.length_append]; simp only [List.length_cons, List.length_nil]; omega) (WP.ret ⟨?_, s⟩)
  rw [catb]
 ·have h' : ¬ Zet m.Proto ≠ [] := fun h' => h (fun h2 => h' (he.1 h2))
  rw [if_neg h']
  refine WP.ite (fun h2 => WP.step (Zga s t et (v := m.Proto) (by omega) (by omega)) ?_) (fun h2 => ?_)
  ·rintro _ w ⟨rfl, s⟩
   have hd := (Zc8 (v := m.Proto) (by omega) (by omega)).1
   have hc : (tx " proto ").length = 7 := rfl
   rw [if_pos h2, Zs9]
   refine chkb (by decide) (by omega) ?_
   rw [catb]
   refine chkb (by omega) (by rw [List.length_append]; omega) (WP.ret ⟨?_, s⟩)
   rw [catb]
  ·rw [if_neg h2]
   refine WP.ite (fun h3 => WP.ret ⟨?_, s⟩) (fun h3 => WP.ret ⟨?_, s⟩)
   ·rw [if_pos h3, hk h3, List.nil_append]
    exact ZtZ
   ·rw [if_neg h3, List.append_nil]
theorem Zsm {r : Zag} {m : Za9} (s : Ss W Hs w) (sc : RSc r m) (hp : 0 ≤ m.Proto ∧ m.Proto ≤ 255) (hk : 0 ≤ m.Kind ∧ m.Kind ≤ 3) (t : Nat) (et : nth Hs t = some TabN) (ik : Nat) (ek : nth Hs ik = some (NmP 1 ZhE)) :
  WP (ZbQ r) w (fun y w' => y = bstr (Zkr m) ∧ Ss W Hs w') := by
 unfold ZbQ Zkr
 have sc0 := sc
 obtain ⟨-, -, h3, h4, -⟩ := sc
 rw [h3]
 refine WP.slot' s (fun _ w s => WP.ite (fun h => ?_) (fun h => ?_))
 ·rw [if_pos h, Zah (by omega) (by omega)]
  refine Zr8 s ik ek (by omega) (Zqi (by omega)) ?_
  have hl : (ZeS.getD (m.Kind - 1).toNat []).length ≤ 3 := by
   have : ∀ k : _root_.Fin 3, (ZeS.getD k.val []).length ≤ 3 := by decide +kernel
   exact this ⟨(m.Kind - 1).toNat, by omega⟩
  rw [c_sp]
  refine chkb (by decide) (by omega) ?_
  rw [catb]
  exact Zmc s sc0 hp (by rw [List.length_append]; simp only [List.length_cons, List.length_nil]; omega) (fun h' => absurd h' (by omega)) t et
 ·rw [if_neg h, Zki]
  exact Zmc s sc0 hp (by simp) (fun _ => rfl) t et
theorem Zl9 {m : Za9} (hp : 0 ≤ m.Proto ∧ m.Proto ≤ 255) (hk : 0 ≤ m.Kind ∧ m.Kind ≤ 3) : (Zkr m).length ≤ 100 := by
 unfold Zkr
 have h1 := (ZjN m.Proto).1
 have hd := (Zc8 (v := m.Proto) (by omega) (by omega)).1
 have hc : (tx " proto ").length = 7 := rfl
 have hc2 : (tx " any").length = 4 := rfl
 rw [List.length_append]
 have b1 : (if m.Kind > 0 then [32] ++ ZeS.getD (m.Kind - 1).toNat [] else []).length ≤ 4 := by
  split
  ·have : ∀ k : _root_.Fin 3, (ZeS.getD k.val []).length ≤ 3 := by decide +kernel
   have := this ⟨(m.Kind - 1).toNat, by omega⟩
   simp only at this
   rw [List.length_append]
   simp only [List.length_cons, List.length_nil]
   omega
  ·simp
 have b2 : (if Zet m.Proto ≠ [] then [32] ++ Zet m.Proto else if m.Proto > 0 then tx " proto " ++ decM m.Proto else if m.Kind = 0 then tx " any" else []).length ≤ 12 := by
  split
  ·rw [List.length_append]
   simp only [List.length_cons, List.length_nil]
   omega
  ·split
   ·rw [List.length_append]
    omega
   ·split
    ·omega
    ·simp
 omega
def pT (m : Za9) : List Int := (if m.Type_ > 0 then tx " type " ++ decM (m.Type_ - 1) else []) ++ (if m.Pieces = true then tx " pieces" else [])
theorem ZkL {r : Zag} {m : Za9} {J : List Int} (s : Ss W Hs w) (sc : RSc r m) (f : Zkq m) (hJ : J.length ≤ 200000) (t : Nat) (et : nth Hs t = some TabN) :
  WP (Zai.K1 r (bstr J)) w (fun y w' => y = bstr (J ++ pT m) ∧ Ss W Hs w') := by
 obtain ⟨-, -, -, -, -, -, -, -, h9, h10⟩ := sc
 unfold Zai.K1 pT
 rw [h9, h10]
 have ht := f.typ
 have hc : (tx " type ").length = 6 := rfl
 have hc2 : (tx " pieces").length = 7 := rfl
 refine WP.ite (fun h => ?_) (fun h => ?_)
 ·rw [Zah (by omega) (by omega)]
  have hd := (Zc8 (v := m.Type_ - 1) (by omega) (by omega)).1
  refine WP.step (Zga s t et (v := m.Type_ - 1) (by omega) (by omega)) ?_
  rintro _ w ⟨rfl, s⟩
  rw [if_pos h, Zsd]
  refine chkb (by decide) (by omega) ?_
  rw [catb]
  refine chkb (by omega) (by rw [List.length_append]; omega) ?_
  rw [catb]
  refine WP.ite (fun h2 => ?_) (fun h2 => WP.ret ⟨?_, s⟩)
  ·rw [if_pos h2, Zjs]
   refine chkb (by rw [List.length_append, List.length_append]; omega) (by decide) (WP.ret ⟨?_, s⟩)
   rw [catb, List.append_assoc]
  ·rw [if_neg h2, List.append_nil]
 ·rw [if_neg h]
  refine WP.ite (fun h2 => ?_) (fun h2 => WP.ret ⟨?_, s⟩)
  ·rw [if_pos h2, Zjs]
   refine chkb (by omega) (by decide) (WP.ret ⟨?_, s⟩)
   rw [catb]
   rfl
  ·rw [if_neg h2]
   simp
def pF (m : Za9) : List Int := if ZgM m = [] then [] else tx " flags " ++ ZcS [44] (ZgM m)
theorem ZoP {r : Zag} {m : Za9} {J A B : List Int} {sl : Sl} {sp : List ByteArray} (s : Ss W (vec cS sl ((ZgM m).map bstr) sp :: Hs) w) (sc : RSc r m) (f : Zkq m) (hJ : J.length ≤ 10000) (hA : A.length ≤ 30000) (hB : B.length ≤ 30000) (t : Nat) (et : nth Hs t = some TabN) :
  WP (Zai.K2 r (bstr J) (bstr A) (bstr B) sl) w (fun y w' => y = bstr (J ++ (A ++ B) ++ pF m ++ pT m) ∧ Ss W Hs w') := by
 unfold Zai.K2 pF
 have hv := (s.vec_len (i := 0) rfl).1
 rw [List.length_map] at hv
 obtain ⟨g1, g2⟩ := ZgL (m := m) 8 (Nat.le_refl _)
 rw [ZlN] at g1 g2
 have hc : (tx " flags ").length = 7 := rfl
 refine WP.ite (fun h => WP.step (Zjn s 0 rfl (by omega) g2) ?_) (fun h => ?_)
 ·rintro _ w ⟨rfl, s⟩
  have hj := ZdP (l := ZgM m) (by omega) (fun x hx => (g2 x hx).1)
  rw [if_neg (show ¬ ZgM m = [] from fun h' => by rw [h'] at hv; simp only [List.length_nil] at hv; omega), ZqI]
  refine chkb (by decide) (by omega) ?_
  rw [catb, catb, catb]
  refine chkb (by rw [List.length_append, List.length_append]; omega) (by rw [List.length_append]; omega) ?_
  rw [catb]
  exact ZkL s.drop sc f (by simp only [List.length_append]; omega) t et
 ·rw [if_pos (List.length_eq_zero_iff.1 (by omega)), List.append_nil, catb, catb]
  exact ZkL s.drop sc f (by simp only [List.length_append]; omega) t et
theorem ZoO {r : Zag} {m : Za9} {J A B : List Int} {g : Nat} (s : Ss W Hs w) (sc : RSc r m) (f : Zkq m) (hJ : J.length ≤ 10000) (hA : A.length ≤ 30000) (hB : B.length ≤ 30000) (t : Nat) (et : nth Hs t = some TabN) {x14 : Sl} (i : Nat) {C : HP} (e : nth Hs i = some C) (rd : Rdb C cS x14 ZfC) :
  WP (Zb9 (fun s_ : (Sl × Int) => Zai.L1 r (bstr J) (bstr A) (bstr B) x14 s_.1 s_.2) (Sl.nil, 0)) w (fun y w' => y = bstr (J ++ (A ++ B) ++ pF m ++ pT m) ∧ Ss W Hs w') := by
 have hl := (s.rd_len e rd).1
 have h8 : ZfC.length = 8 := rfl
 refine WP.loopG (γ := Nat × List ByteArray) (fun g (p : Sl × Int) w => p.2 = (g.1 : Int) ∧ g.1 ≤ 8 ∧ Ss W (vec cS p.1 ((ZdT m g.1).map bstr) g.2 :: Hs) w) (fun g _ => 8 - g.1) (0, []) ⟨rfl, by simp, s.mk0 (A := vec cS Sl.nil [] []) Zdo⟩ ?_
 clear s
 rintro ⟨k, sp⟩ ⟨sl, _⟩ w ⟨rfl, hk, s⟩
 simp only at hk s
 show WP (Zai.L1 r (bstr J) (bstr A) (bstr B) x14 sl (k : Int)) w _
 unfold Zai.L1
 have sc0 := sc
 obtain ⟨-, -, -, -, -, -, h7, h8', -, -⟩ := sc
 rw [h7]
 refine WP.ite (fun h => ?_) (fun h => ?_)
 ·have hk8 : k < 8 := by omega
  obtain ⟨u1, u2⟩ := ZgL (m := m) k hk
  have hu : (0 : Int) ≤ IntKind.wrap .u64 (k : Int) := by rw [Zfh (by omega) (by omega)]; omega
  have hfl : (ZeG.getD k []).length = 3 := (ZlO ⟨k, hk8⟩).1
  refine WP.rdx s (i + 1) e rd (by omega) (by rw [Int.toNat_natCast]; exact Zqu hk8) rfl (WP.chk hu ?_)
  have k3 : ∀ {w : World} {sl : Sl} {sp : List ByteArray} {l : List (List Int)}, l.length ≤ 20 → ZdT m (k + 1) = l ++ (if hasB m.Clear k = true then [33 :: ZeG.getD k []] else []) → Ss W (vec cS sl (l.map bstr) sp :: Hs) w →
    WP (Zai.K3 r (k : Int) (bstr (ZeG.getD k [])) sl) w (WP.Rd (fun s' w' => ∃ g' : Nat × List ByteArray, (s'.2 = (g'.1 : Int) ∧ g'.1 ≤ 8 ∧ Ss W (vec cS s'.1 ((ZdT m g'.1).map bstr) g'.2 :: Hs) w') ∧ 8 - g'.1 < 8 - k) (fun y w' => y = bstr (J ++ (A ++ B) ++ pF m ++ pT m) ∧ Ss W Hs w')) := by
   intro w sl sp l hll hl s
   unfold Zai.K3
   rw [h8']
   refine WP.chk hu (WP.ite (fun h => ?_) (fun h => WP.next ⟨(k + 1, sp), ⟨?_, hk8, ?_⟩, by simp only; omega⟩))
   ·rw [Zsi]
    refine chkb (by decide) (by omega) (WP.slot' s (fun _ w s => ?_))
    rw [catb]
    refine WP.appl s 0 rfl (by simp only [List.length_map, List.length_cons, List.length_nil]; omega) (by decide) (fun sl' w sp' s => WP.next ⟨(k + 1, sp'), ⟨?_, hk8, ?_⟩, by simp only; omega⟩)
    ·rw [Zah (by omega) (by omega)]
     simp
    ·simp only
     rw [hl, if_pos ((ZlY f.clr hk8).1 h), List.map_append]
     exact s
   ·rw [Zah (by omega) (by omega)]
    simp
   ·simp only
    rw [hl, if_neg (fun h' => h ((ZlY f.clr hk8).2 h')), List.append_nil]
    exact s
  refine WP.ite (fun h => WP.slot' s (fun _ w s => ?_)) (fun h => ?_)
  ·refine WP.appl s 0 rfl (by simp only [List.length_map, List.length_cons, List.length_nil]; omega) (by decide) (fun sl' w sp' s => ?_)
   refine k3 (sp := sp') (l := ZdT m k ++ [ZeG.getD k []]) (by rw [List.length_append]; simp only [List.length_cons, List.length_nil]; omega) ?_ ?_
   ·rw [Zfa, List.append_assoc]
    unfold ZlP
    rw [if_pos ((ZlY f.set_ hk8).1 h)]
   ·rw [List.map_append]
    exact s
  ·refine k3 (l := ZdT m k) (by omega) ?_ s
   rw [Zfa]
   unfold ZlP
   rw [if_neg (fun h' => h ((ZlY f.set_ hk8).2 h')), List.nil_append]
 ·have hk2 : k = 8 := by omega
  subst hk2
  rw [ZlN] at s
  exact WP.step (ZoP s sc0 f hJ hA hB t et) (fun y w h => WP.done h)
def pSd (m : Za9) : List Int := Zgm (tx "from") m.From ++ Zgm (tx "to") m.To
theorem ZkK {r : Zag} {m : Za9} {J : List Int} (s : Ss W Hs w) (rr : RdR Hs r m) (f : Zkq m) (ok1 : SdOk m.From) (ok2 : SdOk m.To) (hJ : J.length ≤ 1000) (t : Nat) (et : nth Hs t = some TabN) (fi : Nat) (ef : nth Hs fi = some (NmP 2 ZfC)) :
  WP (Zai.K4 r (bstr J)) w (fun y w' => y = bstr (J ++ pSd m ++ pF m ++ pT m) ∧ Ss W Hs w') := by
 unfold Zai.K4 pSd
 have h1 := ZhU (nm := tx "from") ok1 (by decide)
 have h2 := ZhU (nm := tx "to") ok2 (by decide)
 rw [Zsg, c_to]
 refine WP.draw' s (fun w s => WP.step (Zn3 s rr.from_ ok1 (by decide) t et) ?_)
 rintro _ w ⟨rfl, s⟩
 refine WP.step (Zn3 s rr.to_ ok2 (by decide) t et) ?_
 rintro _ w ⟨rfl, s⟩
 refine chkb (by omega) (by omega) ?_
 rw [catb]
 refine chkb (by omega) (by rw [List.length_append]; omega) ?_
 obtain ⟨sl, -, s1⟩ := (s.dup ef Ro.nmP).openx 0 rfl
 have s1 : Ss W (pts false ⟨2, 0, none⟩ (cL.enc sl) :: rdS cS false sl ZfC :: Hs) w := Ss.split (l := [_, _]) s1
 refine WP.ld (x := sl) s1 0 rfl (o := 0) (by simp [Addr.add]) (At.whole _) ((ZoO (g := 0) s1 rr.sc f (by omega) h1 h2 (t + 2) et 1 rfl ZdQ).mono ?_)
 rintro y w ⟨rfl, s⟩
 exact ⟨rfl, s.drop.drop⟩
def pV (m : Za9) : List Int := if m.Vid > 0 then tx " vid " ++ decM m.Vid else []
theorem ZkJ {r : Zag} {m : Za9} {J : List Int} (s : Ss W Hs w) (rr : RdR Hs r m) (f : Zkq m) (ok1 : SdOk m.From) (ok2 : SdOk m.To) (hJ : J.length ≤ 500) (t : Nat) (et : nth Hs t = some TabN) (fi : Nat) (ef : nth Hs fi = some (NmP 2 ZfC)) :
  WP (Zai.K5 r (bstr J)) w (fun y w' => y = bstr (J ++ pV m ++ pSd m ++ pF m ++ pT m) ∧ Ss W Hs w') := by
 unfold Zai.K5 pV
 have hv := f.vid
 have hc : (tx " vid ").length = 5 := rfl
 rw [rr.sc.2.2.2.2.2.1]
 refine WP.ite (fun h => WP.step (Zga s t et (v := m.Vid) (by omega) (by omega)) ?_) (fun h => ?_)
 ·rintro _ w ⟨rfl, s⟩
  have hd := (Zc8 (v := m.Vid) (by omega) (by omega)).1
  rw [if_pos h, ZtV]
  refine chkb (by decide) (by omega) ?_
  rw [catb]
  refine chkb (by omega) (by rw [List.length_append]; omega) ?_
  rw [catb]
  exact ZkK s rr f ok1 ok2 (by simp only [List.length_append]; omega) t et fi ef
 ·rw [if_neg h, List.append_nil]
  exact ZkK s rr f ok1 ok2 (by omega) t et fi ef
def pO (m : Za9) : List Int := if m.In > 0 then tx " on p" ++ decM (m.In - 1) else []
theorem ZkI {r : Zag} {m : Za9} {J : List Int} (s : Ss W Hs w) (rr : RdR Hs r m) (f : Zkq m) (ok1 : SdOk m.From) (ok2 : SdOk m.To) (hJ : J.length ≤ 200) (t : Nat) (et : nth Hs t = some TabN) (fi : Nat) (ef : nth Hs fi = some (NmP 2 ZfC)) (ik : Nat) (ek : nth Hs ik = some (NmP 1 ZhE)) :
  WP (Zai.K6 r (bstr J)) w (fun y w' => y = bstr (J ++ Zkr m ++ pO m ++ pV m ++ pSd m ++ pF m ++ pT m) ∧ Ss W Hs w') := by
 unfold Zai.K6 pO
 have hv := f.in_
 have hc : (tx " on p").length = 5 := rfl
 have hw := Zl9 f.proto f.kind
 rw [rr.sc.2.2.2.2.1]
 refine WP.step (Zsm s rr.sc f.proto f.kind t et ik ek) ?_
 rintro _ w ⟨rfl, s⟩
 refine chkb (by omega) (by omega) ?_
 rw [catb]
 refine WP.ite (fun h => ?_) (fun h => ?_)
 ·rw [Zah (by omega) (by omega)]
  refine WP.step (Zga s t et (v := m.In - 1) (by omega) (by omega)) ?_
  rintro _ w ⟨rfl, s⟩
  have hd := (Zc8 (v := m.In - 1) (by omega) (by omega)).1
  rw [if_pos h, c_on]
  refine chkb (by decide) (by omega) ?_
  rw [catb]
  refine chkb (by rw [List.length_append]; omega) (by rw [List.length_append]; omega) ?_
  rw [catb]
  exact ZkJ s rr f ok1 ok2 (by simp only [List.length_append]; omega) t et fi ef
 ·rw [if_neg h, List.append_nil]
  exact ZkJ s rr f ok1 ok2 (by simp only [List.length_append]; omega) t et fi ef
theorem Zor (m : Za9) : ZmH m = actN.getD (m.Act - 1).toNat [] ++ (if m.Class > 0 then tx " class " ++ decM m.Class else []) ++ Zkr m ++ pO m ++ pV m ++ pSd m ++ pF m ++ pT m := by
 unfold ZmH pT pF pSd pV pO
 simp only [List.append_assoc]
theorem Zq3 {r : Zag} {m : Za9} (s : Ss W Hs w) (rr : RdR Hs r m) (ck : ckM m = 0) (t : Nat) (et : nth Hs t = some TabN) (ia : Nat) (ea : nth Hs ia = some (NmP 0 actB)) (ik : Nat) (ek : nth Hs ik = some (NmP 1 ZhE)) (fi : Nat) (ef : nth Hs fi = some (NmP 2 ZfC)) :
  WP (Zai r) w (fun y w' => y = bstr (ZmH m) ∧ Ss W Hs w') := by
 obtain ⟨hf, -, k1, k2⟩ := ZqG ck
 have f := Zoy hf
 have ok1 := Zie rr.from_.byts k1
 have ok2 := Zie rr.to_.byts k2
 rw [Zor]
 unfold Zai
 have ha := f.act
 have hcl := f.cls
 have hc : (tx " class ").length = 7 := rfl
 have hl : (actN.getD (m.Act - 1).toNat []).length ≤ 6 := by
  have : ∀ k : _root_.Fin 3, (actN.getD k.val []).length ≤ 6 := by decide +kernel
  exact this ⟨(m.Act - 1).toNat, by omega⟩
 rw [rr.sc.1, rr.sc.2.1, Zah (by omega) (by omega)]
 refine WP.slot' s (fun _ w s => Zr8 s ia ea (by omega) (ZrY (by omega)) (WP.ite (fun h => WP.step (Zga s t et (v := m.Class) (by omega) (by omega)) ?_) (fun h => ?_)))
 ·rintro _ w ⟨rfl, s⟩
  have hd := (Zc8 (v := m.Class) (by omega) (by omega)).1
  rw [if_pos h, ZqJ]
  refine chkb (by decide) (by omega) ?_
  rw [catb]
  refine chkb (by omega) (by rw [List.length_append]; omega) ?_
  rw [catb]
  exact ZkI s rr f ok1 ok2 (by simp only [List.length_append]; omega) t et fi ef ik ek
 ·rw [if_neg h, List.append_nil]
  exact ZkI s rr f ok1 ok2 (by omega) t et fi ef ik ek
theorem Zm3 {r : Zag} {m : Za9} (s : Ss W Hs w) (rr : RdR Hs r m) (t : Nat) (et : nth Hs t = some TabN) (ia : Nat) (ea : nth Hs ia = some (NmP 0 actB)) (ik : Nat) (ek : nth Hs ik = some (NmP 1 ZhE)) (fi : Nat) (ef : nth Hs fi = some (NmP 2 ZfC)) :
  WP (Zco r) w (fun y w' => y = (if ckM m ≠ 0 then (ByteArray.empty, ckM m) else (bstr (ZmH m), 0)) ∧ Ss W Hs w') := by
 unfold Zco
 refine WP.slot' s (fun _ w s => WP.step (Zl4 s rr) ?_)
 rintro _ w ⟨rfl, s⟩
 refine WP.ite (fun h => WP.ret ⟨by rw [if_pos h], s⟩) (fun h => WP.step (Zq3 s rr (Decidable.not_not.1 h) t et ia ea ik ek fi ef) ?_)
 rintro _ w ⟨rfl, s⟩
 exact WP.ret ⟨by rw [if_neg h], s⟩
end
end Go.Proofs.YtpmhinidiplhiaaGreatDoor.Lx
