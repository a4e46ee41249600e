
import Derived.Test.YtpmhinidiplhiaaGreatDoorRulesRefA
import Derived.Test.YtpmhinidiplhiaaGreatDoorRulesWrite
import Derived.Test.YtpmhinidiplhiaaGreatDoorAddrRefF
set_option linter.unusedVariables false
set_option linter.unusedSimpArgs false
namespace Go.Proofs.YtpmhinidiplhiaaGreatDoor.Lx
open Go Go.Proofs Go.RowKit
theorem ZoG : ∀ (f n : Nat), (decF f n).length ≤ f + 1
  | 0, n => by simp [decF]
  | f + 1, n => by
    unfold decF
    have := ZoG f (n / 10)
    split
    · simp
    · simp only [List.length_append, List.length_cons, List.length_nil]
      omega
theorem ZiD {sep x : List Int} : ∀ {l : List (List Int)}, ZcS sep (l ++ [x]) = if l = [] then x else ZcS sep l ++ (sep ++ x)
  | [] => by simp [ZcS]
  | y :: l => by simp [ZcS]
theorem ZrP : ZsF = bstr (tx "proto ") := by decide +kernel
theorem ZlU : ZeE = bstr [44] := by decide +kernel
theorem ZlT : [ByteArray.empty, ZtA, Ztz, Zty] = ([] :: ZeS).map bstr := by decide +kernel
theorem Zt0 : [ByteArray.empty, Ztx, Ztw, Ztv] = ([] :: actN).map bstr := by decide +kernel
theorem Zta : [ZsE, ZsD, ZsC, ZsB, ZsA, Zsz, Zsy, Zsx] = ZfC := by decide +kernel
section
variable {W w : World} {Hs : List HP}
theorem Zph : ∀ (f N n : Nat) {Hs : List HP} {w : World}, f < N → f < 8 → n < 10 ^ (f + 1) → Ss W Hs w → WP (Zaz.go N (n : Int)) w (fun r w' => r = bstr (decF f n) ∧ Ss W Hs w') := by
  intro f
  induction f with
  | zero =>
    intro N n Hs w hN _ hn s
    obtain ⟨N, rfl⟩ : ∃ m, N = m + 1 := ⟨N - 1, by omega⟩
    show WP (Zaz.body (Zaz.go N) (n : Int)) w _
    unfold Zaz.body
    have hn : n < 10 := by simpa using hn
    refine WP.ite (fun h => ?_) (fun h => absurd (by omega) h)
    rw [Zah (n := 48 + (n : Int)) (by omega) (by omega), ZdU (n := 48 + (n : Int)) (by omega) (by omega)]
    refine Zgf s (fun w s => WP.ret ⟨?_, s⟩)
    unfold decF
    rw [show n % 10 = n by omega]
  | succ f ih =>
    intro N n Hs w hN hf hn s
    obtain ⟨N, rfl⟩ : ∃ m, N = m + 1 := ⟨N - 1, by omega⟩
    show WP (Zaz.body (Zaz.go N) (n : Int)) w _
    unfold Zaz.body
    have hbig : n < 10 ^ 10 := Nat.lt_of_lt_of_le hn (Nat.pow_le_pow_right (by omega) (by omega))
    have hbig : n < 10000000000 := hbig
    have hlen := ZoG f (n / 10)
    have hdiv : n / 10 < 10 ^ (f + 1) := by
      rw [Nat.div_lt_iff_lt_mul (by omega), ← Nat.pow_succ]
      exact hn
    refine WP.ite (fun h => ?_) (fun h => ?_)
    · rw [Zah (n := 48 + (n : Int)) (by omega) (by omega), ZdU (n := 48 + (n : Int)) (by omega) (by omega)]
      refine Zgf s (fun w s => WP.ret ⟨?_, s⟩)
      unfold decF
      rw [if_pos (by omega)]
    · have e1 : IntKind.wrap .i64 (Int.tdiv (n : Int) 10) = ((n / 10 : Nat) : Int) := by
        rw [show Int.tdiv (n : Int) 10 = ((n / 10 : Nat) : Int) from rfl, Zah (by omega) (by omega)]
      have e2 : IntKind.wrap .u8 (IntKind.wrap .i64 (48 + Int.tmod (n : Int) 10)) = 48 + ((n % 10 : Nat) : Int) := by
        rw [show Int.tmod (n : Int) 10 = ((n % 10 : Nat) : Int) from rfl, Zah (by omega) (by omega), ZdU (by omega) (by omega)]
      have e3 : bstr (decF f (n / 10)) ++ bstr [48 + ((n % 10 : Nat) : Int)] = bstr (decF (f + 1) n) := by
        rw [catb]
        conv => rhs; unfold decF
        rw [if_neg (by omega)]
      rw [e1, e2]
      have hsz : (((bstr (decF f (n / 10))).size + (bstr [48 + ((n % 10 : Nat) : Int)]).size : Nat) : Int) ≤ 9223372036854775807 := by
        rw [Zbs, Zbs]
        simp only [List.length_cons, List.length_nil]
        omega
      refine WP.draws s (fun σ w s => WP.ite (fun _ => ?_) (fun _ => WP.ite (fun _ => ?_) (fun _ => ?_)))
      · refine WP.step (ih N (n / 10) (by omega) (by omega) hdiv s) ?_
        rintro _ w ⟨rfl, s⟩
        exact Zgf s (fun w s => WP.chk hsz (WP.ret ⟨e3, s⟩))
      · refine WP.newv s (fun b w s => WP.step (ih N (n / 10) (by omega) (by omega) hdiv s) ?_)
        rintro _ w ⟨rfl, s⟩
        exact WP.toStr s 0 rfl (Zec.rdb (xs := [48 + ((n % 10 : Nat) : Int)]) Zec.pts) (WP.chk hsz (WP.ret ⟨e3, s.drop⟩))
      · refine Zgf s (fun w s => WP.step (ih N (n / 10) (by omega) (by omega) hdiv s) ?_)
        rintro _ w ⟨rfl, s⟩
        exact WP.chk hsz (WP.ret ⟨e3, s⟩)
theorem ZhA (s : Ss W Hs w) {v : Int} (h0 : 0 ≤ v) (h : v < 65536) : WP (Zaz v) w (fun r w' => r = bstr (decM v) ∧ Ss W Hs w') := by
  obtain ⟨n, rfl⟩ : ∃ n : Nat, v = (n : Int) := ⟨v.toNat, by omega⟩
  unfold Zaz decM
  rw [Int.toNat_natCast]
  exact Zph 5 1000000000000 n (by omega) (by omega) (Nat.lt_of_lt_of_le (show n < 65536 by omega) (by decide)) s
def ZjO (n : Int) : List Int := if Zet n ≠ [] then Zet n else tx "proto " ++ decM n
theorem ZoZ {n : Int} (h : 0 ≤ n ∧ n ≤ 255) : (ZjO n).length ≤ 20 := by
  unfold ZjO
  have h1 := (ZjN n).1
  have hd := (Zc8 (v := n) (by omega) (by omega)).1
  have hc : (tx "proto ").length = 6 := rfl
  split
  · omega
  · rw [List.length_append]
    omega
theorem Zml (s : Ss W Hs w) {n : Int} (h : 0 ≤ n ∧ n ≤ 255) : WP (ZcF n) w (fun y w' => y = bstr (ZjO n) ∧ Ss W Hs w') := by
  unfold ZcF ZjO Zet
  refine WP.ite (fun h => WP.ret ⟨by simp only [if_pos h]; exact ZtX, s⟩) (fun h => ?_)
  simp only [if_neg h]
  refine WP.ite (fun h => WP.ret ⟨by simp only [if_pos h]; exact ZtW, s⟩) (fun h => ?_)
  simp only [if_neg h]
  refine WP.ite (fun h => WP.ret ⟨by simp only [if_pos h]; exact Zsf, s⟩) (fun h => ?_)
  simp only [if_neg h]
  refine WP.ite (fun h => WP.ret ⟨by simp only [if_pos h]; exact ZqH, s⟩) (fun h => ?_)
  simp only [if_neg h]
  refine WP.step (ZhA s (v := n) (by omega) (by omega)) ?_
  rintro _ w ⟨rfl, s⟩
  have hd := (Zc8 (v := n) (by omega) (by omega)).1
  rw [ZrP]
  refine chkb (by decide) (by omega) (WP.ret ⟨?_, s⟩)
  rw [catb]
  rfl
theorem Zrn {α : Type} {c : Cod α} {n b k : Nat} {q : Bool} {v : Vec α n} {xs : List α} (hv : v.l = xs) : Rdb (pts q (pt b 0) ((c.arr n).enc v)) c ⟨some (pt b 0), n, k⟩ xs := by
  obtain ⟨l, hl⟩ := v
  simp only at hv
  subst hv
  subst hl
  rw [Cod.arr_enc]
  exact Zec.rdb Zec.pts
theorem ZsL {β : Type} {n b : Nat} {v : Vec ByteArray n} {L : List (List Int)} {k : Int} {t : List Int} {F : ByteArray → M β} {Q : β → World → Prop} (s : Ss W (pts true (pt b 0) ((cS.arr n).enc v) :: Hs) w) (hv : v.l = L.map bstr) (h0 : 0 ≤ k) (ht : L[k.toNat]? = some t) (K : WP (F (bstr t)) w Q) :
    WP (idx (⟨some (pt b 0), n, n⟩ : Sl).a (⟨some (pt b 0), n, n⟩ : Sl).len k 1 >>= fun p => ld cS p >>= F) w Q :=
  WP.rdx s 0 rfl (Zrn hv) h0 (x := bstr t) (by rw [List.getElem?_map, ht]; rfl) rfl K
def Zma (m : Za9) : List Int := if m.Kind = 0 then (if m.Proto = 0 then tx "any" else ZjO m.Proto) else if m.Proto = 0 then ZeS.getD (m.Kind - 1).toNat [] else ZeS.getD (m.Kind - 1).toNat [] ++ 32 :: ZjO m.Proto
theorem Zq8 {m : Za9} (hk : 0 ≤ m.Kind ∧ m.Kind ≤ 3) (hp : 0 ≤ m.Proto ∧ m.Proto ≤ 255) : 32 :: Zma m = Zkr m := by
  unfold Zma Zkr ZjO
  have h0 : m.Proto = 0 → Zet m.Proto = [] := fun h => by rw [h]; rfl
  by_cases hk0 : m.Kind = 0
  · rw [if_pos hk0, if_neg (show ¬ m.Kind > 0 by omega), List.nil_append]
    by_cases hp0 : m.Proto = 0
    · rw [if_pos hp0, if_neg (fun h => h (h0 hp0)), if_neg (by omega), if_pos hk0]
      rfl
    · rw [if_neg hp0]
      split
      · rfl
      · rw [if_pos (by omega)]
        rfl
  · rw [if_neg hk0, if_pos (show m.Kind > 0 by omega)]
    by_cases hp0 : m.Proto = 0
    · rw [if_pos hp0, if_neg (fun h => h (h0 hp0)), if_neg (by omega), if_neg hk0, List.append_nil]
      rfl
    · rw [if_neg hp0]
      split
      · rfl
      · rw [if_pos (by omega)]
        rfl
theorem Zrm {r : Zag} {m : Za9} (s : Ss W Hs w) (sc : RSc r m) (hk : 0 ≤ m.Kind ∧ m.Kind ≤ 3) (hp : 0 ≤ m.Proto ∧ m.Proto ≤ 255) : WP (Zdm r) w (fun y w' => y = bstr (Zma m) ∧ Ss W Hs w') := by
  obtain ⟨-, -, h3, h4, -⟩ := sc
  unfold Zdm Zma
  rw [h3, h4]
  refine WP.slot' s (fun _ w s => WP.newv s (fun b w s => ?_))
  refine WP.step (R := fun y w' => y = decide (m.Kind = 0 ∧ m.Proto = 0) ∧ w = w') (WP.ite (fun h => WP.ret ⟨?_, rfl⟩) (fun h => WP.ret ⟨(decide_eq_false (fun h' => h h'.1)).symm, rfl⟩)) ?_
  · rw [Bool.eq_iff_iff, beq_iff_eq, decide_eq_true_iff]
    exact ⟨fun h' => ⟨h, h'⟩, fun h' => h'.2⟩
  rintro _ _ ⟨rfl, rfl⟩
  have hword : ∀ {k : Int}, 0 ≤ k → k ≤ 3 → k ≠ 0 → (([] : List Int) :: ZeS)[k.toNat]? = some (ZeS.getD (k - 1).toNat []) := by
    intro k a b c
    obtain ⟨j, rfl⟩ : ∃ j : Nat, k = (j : Int) + 1 := ⟨(k - 1).toNat, by omega⟩
    rw [show ((j : Int) + 1).toNat = j + 1 by omega, show ((j : Int) + 1 - 1).toNat = j by omega]
    have : ∀ q : _root_.Fin 3, (([] : List Int) :: ZeS)[q.val + 1]? = some (ZeS.getD q.val []) := by decide +kernel
    exact this ⟨j, by omega⟩
  have hlen : ∀ {k : Int}, 0 ≤ k → k ≤ 3 → k ≠ 0 → (ZeS.getD (k - 1).toNat []).length ≤ 3 := by
    intro k a b c
    have : ∀ k : _root_.Fin 3, (ZeS.getD k.val []).length ≤ 3 := by decide +kernel
    exact this ⟨(k - 1).toNat, by omega⟩
  refine WP.ite (fun h => WP.ret ⟨?_, s.drop⟩) (fun h => ?_)
  · have h := of_decide_eq_true h
    rw [if_pos h.1, if_pos h.2]
    exact ZqK
  have h : ¬ (m.Kind = 0 ∧ m.Proto = 0) := fun h' => h (decide_eq_true h')
  refine WP.ite (fun h1 => ?_) (fun h1 => WP.ite (fun h2 => ?_) (fun h2 => ?_))
  · have h0 : m.Kind ≠ 0 := fun h' => h ⟨h', h1⟩
    refine ZsL s ZlT hk.1 (hword hk.1 hk.2 h0) (WP.ret ⟨?_, s.drop⟩)
    rw [if_neg h0, if_pos h1]
  · refine WP.step (Zml s.drop hp) ?_
    rintro _ w ⟨rfl, s⟩
    exact WP.ret ⟨by rw [if_pos h2, if_neg h1], s⟩
  · have hl := hlen hk.1 hk.2 h2
    refine WP.draw' s (fun w s => ?_)
    refine WP.idxr (c := cS) s 0 rfl (A := _) (sl := ⟨some (pt b 0), 4, 4⟩) (xs := (([] : List Int) :: ZeS).map bstr) (x := bstr (ZeS.getD (m.Kind - 1).toNat [])) ?_ hk.1 (by rw [List.getElem?_map, hword hk.1 hk.2 h2]; rfl) rfl ?_
    · exact Zrn ZlT
    intro a ha
    refine WP.ldr (c := cS) s 0 rfl (sl := ⟨some (pt b 0), 4, 4⟩) (xs := (([] : List Int) :: ZeS).map bstr) (k := m.Kind.toNat) (a := a) ?_ (by rw [List.getElem?_map, hword hk.1 hk.2 h2]; rfl) ha rfl ?_
    · exact Zrn ZlT
    rw [c_sp]
    refine chkb (by omega) (by decide) (WP.step (Zml s hp) ?_)
    rintro _ w ⟨rfl, s⟩
    refine WP.samer (c := cS) s 0 rfl (sl := ⟨some (pt b 0), 4, 4⟩) (xs := (([] : List Int) :: ZeS).map bstr) (k := m.Kind.toNat) (a := a) ?_ (by rw [List.getElem?_map, hword hk.1 hk.2 h2]; rfl) ha rfl ?_
    · exact Zrn ZlT
    have hp2 := ZoZ hp
    rw [catb]
    refine chkb (by rw [List.length_append]; simp only [List.length_cons, List.length_nil]; omega) (by omega) (WP.ret ⟨?_, s.drop⟩)
    rw [catb, if_neg h2, if_neg h1]
    simp
def ZnB (m : ZcT) : List Int := if m.nets = [] then tx "any" else (if m.Not = true then tx "not " else []) ++ ZcS [44] (m.nets.map netT)
theorem Zp1 {m : ZcT} (ok : SdOk m) : (ZnB m).length ≤ 11000 := by
  unfold ZnB
  have h1 := ZdP (l := m.nets.map netT) (by rw [List.length_map]; have := ok.n16; omega) (fun x hx => (ok.ns x hx).1)
  have a1 : (tx "any").length = 3 := rfl
  have a2 : (tx "not ").length = 4 := rfl
  split
  · omega
  · rw [List.length_append]
    split
    · omega
    · simp only [List.length_nil]
      omega
theorem ZkQ {sd : Zae} {m : ZcT} {J : List Int} (s : Ss W Hs w) (i : Nat) {A : HP} (e : nth Hs i = some A) (ra : Rdb A cPfx sd.Nets m.nets) (ok : SdOk m) (hJ : J.length ≤ 10) :
    WP (ZaQ.K1 sd (bstr J)) w (fun y w' => y = bstr (J ++ ZcS [44] (m.nets.map netT)) ∧ Ss W Hs w') := by
  unfold ZaQ.K1
  have hl := (s.rd_len e ra).1
  have h16 := ok.n16
  refine WP.loopG (γ := Nat) (fun k (p : ByteArray × Int) w => p = (bstr (J ++ ZcS [44] ((m.nets.take k).map netT)), (k : Int)) ∧ k ≤ m.nets.length ∧ Ss W Hs w) (fun k _ => m.nets.length - k) 0 ⟨by simp [ZcS], by simp, s⟩ ?_
  clear s
  rintro k _ w ⟨rfl, hk, s⟩
  show WP (ZaQ.L1 sd (bstr (J ++ ZcS [44] ((m.nets.take k).map netT))) (k : Int)) w _
  unfold ZaQ.L1
  have hjl := ZdP (l := (m.nets.take k).map netT) (by rw [List.length_map, List.length_take]; omega) (fun x hx => by
    obtain ⟨y, hy, rfl⟩ := List.mem_map.1 hx
    exact (ok.ns _ (List.mem_map_of_mem (List.mem_of_mem_take hy))).1)
  have hjl : (J ++ ZcS [44] ((m.nets.take k).map netT)).length ≤ 20000 := by rw [List.length_append]; omega
  refine WP.ite (fun h => ?_) (fun h => ?_)
  · have hk2 : k < m.nets.length := by omega
    have hx := List.getElem?_eq_getElem hk2
    have hok := ok.nets _ (List.mem_of_getElem? hx)
    have htl := (ok.ns _ (List.mem_map_of_mem (List.mem_of_getElem? hx))).1
    have htake : m.nets.take (k + 1) = m.nets.take k ++ [m.nets[k]] := by
      rw [List.take_add_one, hx]
      rfl
    generalize m.nets[k] = x at hx hok htl htake
    obtain ⟨hxb, hv⟩ := hok
    obtain ⟨v0, v1, v2, v3⟩ := Zjy hv
    have hpp : ppM x = (bstr (prIP x.IP ++ 47 :: dec3 x.Len.toNat), 0) := by unfold ppM; rw [if_pos hv]
    have hpi : piM x.IP = (bstr (prIP x.IP), 0) := by unfold piM; rw [if_pos (by omega)]
    have next : ∀ {w : World}, Ss W Hs w → ∀ (t : List Int), t = netT x → WP (if (k : Int) > 0 then
        chk ((((bstr (J ++ ZcS [44] ((m.nets.take k).map netT))).size + (ZeE).size : Nat) : Int) ≤ 9223372036854775807) >>= fun _ =>
        chk ((((bstr (J ++ ZcS [44] ((m.nets.take k).map netT)) ++ ZeE).size + (bstr t).size : Nat) : Int) ≤ 9223372036854775807) >>= fun _ =>
        pure (LS.next (((bstr (J ++ ZcS [44] ((m.nets.take k).map netT)) ++ ZeE) ++ bstr t), IntKind.wrap .i64 ((k : Int) + 1)))
       else
        chk ((((bstr (J ++ ZcS [44] ((m.nets.take k).map netT))).size + (bstr t).size : Nat) : Int) ≤ 9223372036854775807) >>= fun _ =>
        pure (LS.next ((bstr (J ++ ZcS [44] ((m.nets.take k).map netT)) ++ bstr t), IntKind.wrap .i64 ((k : Int) + 1)))) w (WP.Rd (fun s' w' => ∃ g' : Nat, (s' = (bstr (J ++ ZcS [44] ((m.nets.take g').map netT)), (g' : Int)) ∧ g' ≤ m.nets.length ∧ Ss W Hs w') ∧ m.nets.length - g' < m.nets.length - k) (fun y w' => y = bstr (J ++ ZcS [44] (m.nets.map netT)) ∧ Ss W Hs w')) := by
      intro w s t ht
      subst ht
      rw [Zah (by omega) (by omega), ZlU]
      refine WP.ite (fun h => ?_) (fun h => ?_)
      · refine chkb (by omega) (by decide) ?_
        rw [catb]
        refine chkb (by rw [List.length_append]; simp only [List.length_cons, List.length_nil]; omega) (by omega) (WP.next ⟨k + 1, ⟨?_, by omega, s⟩, by omega⟩)
        rw [catb, htake, List.map_append]
        show _ = (bstr (J ++ ZcS [44] (_ ++ [netT x])), _)
        rw [ZiD, if_neg (fun h' => by have := congrArg List.length h'; simp only [List.length_map, List.length_take, List.length_nil] at this; omega)]
        simp [List.append_assoc]
      · refine chkb (by omega) (by omega) (WP.next ⟨k + 1, ⟨?_, by omega, s⟩, by omega⟩)
        have hk0 : k = 0 := by omega
        subst hk0
        rw [catb, htake]
        simp [ZcS]
    refine WP.rdx s i e ra (by omega) (x := x) (by rw [Int.toNat_natCast]; exact hx) rfl (WP.slot' s (fun _ w s => WP.step (ZjL s x hxb) ?_))
    rintro _ w ⟨rfl, s⟩
    rw [hpp]
    refine WP.step (R := fun y w' => y = decide (x.Len = 32 ∧ x.IP.V = 4) ∧ w = w') (WP.ite (fun h => WP.ret ⟨?_, rfl⟩) (fun h => WP.ret ⟨(decide_eq_false (fun h' => h h'.2)).symm, rfl⟩)) ?_
    · rw [Bool.eq_iff_iff, beq_iff_eq, decide_eq_true_iff]
      exact ⟨fun h' => ⟨h', h⟩, fun h' => h'.1⟩
    rintro _ _ ⟨rfl, rfl⟩
    refine WP.step (R := fun y w' => y = decide ((x.Len = 32 ∧ x.IP.V = 4) ∨ x.Len = 128) ∧ w = w') (WP.ite (fun h => WP.ret ⟨(decide_eq_true (.inl (of_decide_eq_true h))).symm, rfl⟩) (fun h => WP.ret ⟨?_, rfl⟩)) ?_
    · rw [Bool.eq_iff_iff, beq_iff_eq, decide_eq_true_iff]
      exact ⟨.inr, fun h' => h'.elim (fun h' => absurd (decide_eq_true h') h) id⟩
    rintro _ _ ⟨rfl, rfl⟩
    refine WP.ite (fun h => WP.step (ZjM s x.IP hxb) ?_) (fun h => ?_)
    · rintro _ w ⟨rfl, s⟩
      rw [hpi]
      exact next s _ (by unfold netT; rw [if_pos (of_decide_eq_true h)])
    · exact next s _ (by unfold netT; rw [if_neg (fun h' => h (decide_eq_true h'))])
  · have hk2 : k = m.nets.length := by omega
    subst hk2
    exact WP.done ⟨by rw [List.take_length], s⟩
theorem Zro {sd : Zae} {m : ZcT} (s : Ss W Hs w) (r : RdSd Hs sd m) (ok : SdOk m) : WP (ZaQ sd) w (fun y w' => y = bstr (ZnB m) ∧ Ss W Hs w') := by
  obtain ⟨hno, hb, ⟨i, A, e, ra⟩, -⟩ := r
  have hl := (s.rd_len e ra).1
  unfold ZaQ ZnB
  rw [hno]
  refine WP.slot' s (fun _ w s => WP.ite (fun h => WP.ret ⟨?_, s⟩) (fun h => ?_))
  · rw [if_pos (List.length_eq_zero_iff.1 (by omega))]
    exact ZqK
  rw [if_neg (show ¬ m.nets = [] from fun h' => h (by rw [hl, h']; rfl))]
  refine WP.ite (fun h2 => ?_) (fun h2 => ?_)
  · rw [if_pos h2, ZtY]
    exact ZkQ s i e ra ok (by decide)
  · rw [if_neg h2, Zki]
    exact ZkQ s i e ra ok (by simp)
def Ze8 (ts : List (List Int)) : List Int := if ts = [] then [] else tx " port " ++ ZcS [44] ts
theorem ZjP (ts : List (List Int)) (t : List Int) : Ze8 (ts ++ [t]) = Ze8 ts ++ (if ts = [] then tx " port " else [44]) ++ t := by
  unfold Ze8
  rw [if_neg (by simp), ZiD]
  by_cases h : ts = []
  · simp [h]
  · simp [h, List.append_assoc]
theorem Zmk {sd : Zae} {m : ZcT} {nm : List Int} (s : Ss W Hs w) (r : RdSd Hs sd m) (ok : SdOk m) (hnm : nm.length ≤ 10) : WP (ZaE (bstr nm) sd) w (fun y w' => y = bstr (Zgm nm m) ∧ Ss W Hs w') := by
  have r0 := r
  obtain ⟨hno, hb, ⟨i, A, e, ra⟩, ⟨j, B, e2, rb⟩⟩ := r
  have hn := (s.rd_len e ra).1
  have hp := (s.rd_len e2 rb).1
  have h16 := ok.n16
  have p16 := ok.p16
  unfold ZaE
  refine WP.slot' s (fun _ w s => ?_)
  refine WP.step (R := fun y w' => y = decide (m.nets = [] ∧ m.ports = []) ∧ w = w') (WP.ite (fun h => WP.ret ⟨?_, rfl⟩) (fun h => WP.ret ⟨(decide_eq_false (fun h' => h (by rw [hn, h'.1]; rfl))).symm, rfl⟩)) ?_
  · rw [Bool.eq_iff_iff, beq_iff_eq, decide_eq_true_iff, ← List.length_eq_zero_iff, ← List.length_eq_zero_iff]
    omega
  rintro _ _ ⟨rfl, rfl⟩
  unfold Zgm
  refine WP.ite (fun h => WP.ret ⟨?_, s⟩) (fun h => ?_)
  · rw [if_pos (of_decide_eq_true h)]
    exact Zki
  rw [if_neg (fun h' => h (decide_eq_true h')), c_sp]
  refine chkb (by decide) (by omega) ?_
  rw [catb]
  refine chkb (by rw [List.length_append]; simp only [List.length_cons, List.length_nil]; omega) (by decide) ?_
  rw [catb]
  refine WP.step (Zro s r0 ok) ?_
  rintro _ w ⟨rfl, s⟩
  have hnl := Zp1 ok
  refine chkb (by simp only [List.length_append, List.length_cons, List.length_nil]; omega) (by omega) ?_
  rw [catb]
  have hP : ([32] ++ nm ++ [32] ++ ZnB m).length ≤ 11020 := by simp only [List.length_append, List.length_cons, List.length_nil]; omega
  show WP _ w (fun y w' => y = bstr (([32] ++ nm ++ [32] ++ ZnB m) ++ (if m.ports = [] then [] else tx " port " ++ ZcS [44] (m.ports.map ZcV))) ∧ Ss W Hs w')
  rw [show (if m.ports = [] then [] else tx " port " ++ ZcS [44] (m.ports.map ZcV)) = Ze8 (m.ports.map ZcV) by unfold Ze8; simp only [List.map_eq_nil_iff]]
  generalize [32] ++ nm ++ [32] ++ ZnB m = P at hP
  refine WP.loopG (γ := Nat) (fun k (p : ByteArray × Int) w => p = (bstr (P ++ Ze8 ((m.ports.take k).map ZcV)), (k : Int)) ∧ k ≤ m.ports.length ∧ Ss W Hs w) (fun k _ => m.ports.length - k) 0 ⟨by simp [Ze8], by simp, s⟩ ?_
  clear s
  rintro k _ w ⟨rfl, hk, s⟩
  show WP (ZaE.L1 sd (bstr (P ++ Ze8 ((m.ports.take k).map ZcV))) (k : Int)) w _
  unfold ZaE.L1
  have hjl := ZdP (l := (m.ports.take k).map ZcV) (by rw [List.length_map, List.length_take]; omega) (fun x hx => by
    obtain ⟨y, hy, rfl⟩ := List.mem_map.1 hx
    exact (ok.ps _ (List.mem_map_of_mem (List.mem_of_mem_take hy))).1)
  have a3 : (tx " port ").length = 6 := rfl
  have hjl : (P ++ Ze8 ((m.ports.take k).map ZcV)).length ≤ 30000 := by
    unfold Ze8
    rw [List.length_append]
    split
    · simp only [List.length_nil]
      omega
    · rw [List.length_append]
      omega
  refine WP.ite (fun h => ?_) (fun h => ?_)
  · have hk2 : k < m.ports.length := by omega
    have hx := List.getElem?_eq_getElem hk2
    have hok := ok.ports _ (List.mem_of_getElem? hx)
    have htake : m.ports.take (k + 1) = m.ports.take k ++ [m.ports[k]] := by
      rw [List.take_add_one, hx]
      rfl
    generalize m.ports[k] = x at hx hok htake
    have hr := of_decide_eq_true hok
    have h0 : (0 : Int) ≤ (k : Int) := by omega
    have hx' : m.ports[(k : Int).toNat]? = some x := by rw [Int.toNat_natCast]; exact hx
    have b1 := (Zc8 (v := x.Lo) (by omega) (by omega)).1
    have b2 := (Zc8 (v := x.Hi) (by omega) (by omega)).1
    have hz : (m.ports.take k).map ZcV = [] ↔ (k : Int) = 0 := by
      rw [← List.length_eq_zero_iff, List.length_map, List.length_take]
      omega
    have k1 : ∀ {w : World} {J : List Int}, J.length ≤ 30010 → (P ++ Ze8 ((m.ports.take (k + 1)).map ZcV)) = J ++ ZcV x → Ss W Hs w → WP (ZaE.K1 sd (k : Int) (bstr J)) w (WP.Rd (fun s' w' => ∃ g' : Nat, (s' = (bstr (P ++ Ze8 ((m.ports.take g').map ZcV)), (g' : Int)) ∧ g' ≤ m.ports.length ∧ Ss W Hs w') ∧ m.ports.length - g' < m.ports.length - k) (fun y w' => y = bstr (P ++ Ze8 (m.ports.map ZcV)) ∧ Ss W Hs w')) := by
      intro w J hJ he s
      unfold ZaE.K1
      rw [Zah (by omega) (by omega)]
      refine WP.rdxp0 s j e2 rb h0 hx' rfl (Zcc x) (WP.step (ZhA s (v := x.Lo) (by omega) (by omega)) ?_)
      rintro _ w ⟨rfl, s⟩
      refine chkb (by omega) (by omega) ?_
      rw [catb]
      refine WP.draw' s (fun w s => WP.rdxp s j e2 rb h0 hx' rfl (Zcd x) (WP.rdxp0 s j e2 rb h0 hx' rfl (Zcc x) ?_))
      refine WP.ite (fun h => ?_) (fun h => WP.next ⟨k + 1, ⟨?_, by omega, s⟩, by omega⟩)
      · rw [Zsh]
        refine chkb (by rw [List.length_append]; omega) (by decide) ?_
        rw [catb]
        refine WP.rdxp s j e2 rb h0 hx' rfl (Zcd x) (WP.step (ZhA s (v := x.Hi) (by omega) (by omega)) ?_)
        rintro _ w ⟨rfl, s⟩
        refine chkb (by simp only [List.length_append, List.length_cons, List.length_nil]; omega) (by omega) (WP.next ⟨k + 1, ⟨?_, by omega, s⟩, by omega⟩)
        rw [he, catb]
        unfold ZcV
        rw [if_pos h]
        simp [List.append_assoc]
      · rw [he]
        unfold ZcV
        rw [if_neg h]
        rfl
    refine WP.ite (fun h => ?_) (fun h => ?_)
    · rw [Zse]
      refine chkb (by omega) (by decide) ?_
      rw [catb]
      refine k1 (by rw [List.length_append]; omega) ?_ s
      rw [htake, List.map_append]
      show P ++ Ze8 (_ ++ [ZcV x]) = _
      rw [ZjP, if_pos (hz.2 h)]
      simp [List.append_assoc]
    · rw [ZlU]
      refine chkb (by omega) (by decide) ?_
      rw [catb]
      refine k1 (by rw [List.length_append]; simp only [List.length_cons, List.length_nil]; omega) ?_ s
      rw [htake, List.map_append]
      show P ++ Ze8 (_ ++ [ZcV x]) = _
      rw [ZjP, if_neg (fun h' => h (hz.1 h'))]
      simp [List.append_assoc]
  · have hk2 : k = m.ports.length := by omega
    subst hk2
    exact WP.done ⟨by rw [List.take_length], s⟩
def Zkz (l : List (List Int)) : List Int := if l = [] then [] else tx " flags " ++ ZcS [44] l
def ZfS (l : List (List Int)) : List Int := if l = [] then tx " flags " else [44]
theorem ZiG (l : List (List Int)) (t : List Int) : Zkz (l ++ [t]) = Zkz l ++ ZfS l ++ t := by
  unfold Zkz ZfS
  rw [if_neg (by simp), ZiD]
  by_cases h : l = []
  · simp [h]
  · simp [h, List.append_assoc]
theorem Zn7 {β : Type} {F : ByteArray → M β} {Q : β → World → Prop} {k : Nat} (s : Ss W Hs w) (hk : k < 8) (K : ∀ w, Ss W Hs w → WP (F (bstr (ZeG.getD k []))) w Q) :
    WP (ZcE >>= fun r => idx r.a r.len (k : Int) 1 >>= fun p => ld cS p >>= F) w Q := by
  unfold ZcE
  refine WP.step (R := fun r w' => ∃ b, r = (⟨some (pt b 0), 8, 8⟩ : Sl) ∧ Ss W (pts true (pt b 0) ((cS.arr 8).enc (⟨[ZsE, ZsD, ZsC, ZsB, ZsA, Zsz, Zsy, Zsx], rfl⟩ : Vec ByteArray 8)) :: Hs) w') (WP.newv s (fun b w s => WP.ret ⟨b, rfl, s⟩)) ?_
  rintro _ w ⟨b, rfl, s⟩
  refine ZsL (L := ZeG) s Zta (by omega) ?_ (K w s.drop)
  rw [Int.toNat_natCast]
  have : ∀ q : _root_.Fin 8, ZeG[q.val]? = some (ZeG.getD q.val []) := by decide +kernel
  exact this ⟨k, hk⟩
theorem Zns {r : Zag} {m : Za9} (s : Ss W Hs w) (sc : RSc r m) (f : Zkq m) : WP (Zax r) w (fun y w' => y = bstr (pF m) ∧ Ss W Hs w') := by
  obtain ⟨-, -, -, -, -, -, h7, h8, -, -⟩ := sc
  obtain ⟨sa, e1⟩ : ∃ a : Nat, m.Set = a := ⟨m.Set.toNat, by have := f.set_; omega⟩
  obtain ⟨ca, e2⟩ : ∃ a : Nat, m.Clear = a := ⟨m.Clear.toNat, by have := f.clr; omega⟩
  have hsa := f.set_
  have hca := f.clr
  have c7 : (tx " flags ").length = 7 := rfl
  unfold Zax
  have c_fl : Zni = bstr (tx " flags ") := ZqI
  have hT : ∀ k, k ≤ 8 → (Zkz (ZdT m k)).length ≤ 20000 ∧ (ZfS (ZdT m k)).length ≤ 7 := by
    intro k hk
    obtain ⟨u1, u2⟩ := ZgL (m := m) k hk
    have hj := ZdP (l := ZdT m k) (by omega) (fun x hx => (u2 x hx).1)
    unfold Zkz ZfS
    constructor
    · split
      · simp
      · rw [List.length_append]
        omega
    · split
      · omega
      · simp
  rw [c_fl, Zki]
  refine WP.slot' s (fun _ w s => ?_)
  refine WP.loopG (γ := Nat) (fun k (p : ByteArray × ByteArray × Int) w => p = (bstr (Zkz (ZdT m k)), bstr (ZfS (ZdT m k)), (k : Int)) ∧ k ≤ 8 ∧ Ss W Hs w) (fun k _ => 8 - k) 0 ⟨rfl, by simp, s⟩ ?_
  clear s
  rintro k _ w ⟨rfl, hk, s⟩
  obtain ⟨t1, t2⟩ := hT k hk
  show WP (Zax.L1 r (bstr (Zkz (ZdT m k))) (bstr (ZfS (ZdT m k))) (k : Int)) w _
  unfold Zax.L1
  refine WP.ite (fun h => ?_) (fun h => ?_)
  · have hk8 : k < 8 := by omega
    have hfl : (ZeG.getD k []).length = 3 := (ZlO ⟨k, hk8⟩).1
    have k1 : ∀ {w : World} (l : List (List Int)), (Zkz l).length ≤ 20100 → (ZfS l).length ≤ 7 → ZdT m (k + 1) = l ++ (if hasB m.Clear k = true then [33 :: ZeG.getD k []] else []) → Ss W Hs w →
        WP (Zax.K1 r (k : Int) (bstr (Zkz l)) (bstr (ZfS l))) w (WP.Rd (fun s' w' => ∃ g' : Nat, (s' = (bstr (Zkz (ZdT m g')), bstr (ZfS (ZdT m g')), (g' : Int)) ∧ g' ≤ 8 ∧ Ss W Hs w') ∧ 8 - g' < 8 - k) (fun y w' => y = bstr (pF m) ∧ Ss W Hs w')) := by
      intro w l hl hb he s
      unfold Zax.K1
      rw [h8, e2, Zah (by omega) (by omega)]
      refine WP.step (ZlA (a := ca) (by omega) (by omega)) ?_
      rintro _ _ ⟨rfl, rfl⟩
      rw [e2] at he
      refine WP.ite (fun h => ?_) (fun h => WP.next ⟨k + 1, ⟨?_, hk8, s⟩, by omega⟩)
      · rw [Zsi]
        refine chkb (by omega) (by omega) ?_
        rw [catb]
        refine chkb (by rw [List.length_append]; omega) (by decide) ?_
        refine Zn7 s hk8 (fun w s => ?_)
        rw [catb]
        refine chkb (by simp only [List.length_append, List.length_cons, List.length_nil]; omega) (by omega) (WP.next ⟨k + 1, ⟨?_, hk8, s⟩, by omega⟩)
        rw [he, if_pos h, ZiG, catb, ZlU]
        have : ZfS (l ++ [33 :: ZeG.getD k []]) = [44] := by unfold ZfS; rw [if_neg (by simp)]
        rw [this]
        simp [List.append_assoc]
      · rw [he, if_neg h, List.append_nil]
        rfl
    rw [h7, e1]
    refine WP.step (ZlA (a := sa) (by omega) (by omega)) ?_
    rintro _ _ ⟨rfl, rfl⟩
    refine WP.ite (fun h => ?_) (fun h => ?_)
    · refine chkb (by omega) (by omega) ?_
      rw [catb]
      refine Zn7 s hk8 (fun w s => ?_)
      refine chkb (by rw [List.length_append]; omega) (by omega) ?_
      rw [catb, ← ZiG, ZlU]
      have hB : ZfS (ZdT m k ++ [ZeG.getD k []]) = [44] := by unfold ZfS; rw [if_neg (by simp)]
      rw [← hB]
      refine k1 _ ?_ (by rw [hB]; decide) ?_ s
      · rw [ZiG]
        simp only [List.length_append]
        omega
      · rw [Zfa, List.append_assoc]
        unfold ZlP
        rw [e1, if_pos h]
    · refine k1 _ (by omega) t2 ?_ s
      rw [Zfa]
      unfold ZlP
      rw [e1, if_neg h, List.nil_append]
  · have hk2 : k = 8 := by omega
    subst hk2
    exact WP.done ⟨rfl, s⟩
theorem Zob {r : Zag} {m : Za9} {J : List Int} (s : Ss W Hs w) (rr : RdR Hs r m) (f : Zkq m) (ok1 : SdOk m.From) (ok2 : SdOk m.To) (hJ : J.length ≤ 1000) :
    WP (Zal.K1 r (bstr J)) w (fun y w' => y = (bstr (J ++ pSd m ++ pF m ++ pT m), 0) ∧ Ss W Hs w') := by
  unfold Zal.K1 pSd
  have h1 := ZhU (nm := tx "from") ok1 (by decide)
  have h2 := ZhU (nm := tx "to") ok2 (by decide)
  obtain ⟨u1, u2⟩ := ZgL (m := m) 8 (Nat.le_refl _)
  rw [ZlN] at u1 u2
  have hj := ZdP (l := ZgM m) (by omega) (fun x hx => (u2 x hx).1)
  have hF : (pF m).length ≤ 20000 := by
    unfold pF
    have c7 : (tx " flags ").length = 7 := rfl
    split
    · simp
    · rw [List.length_append]
      omega
  have ht := f.typ
  have hc : (tx " type ").length = 6 := rfl
  have hc2 : (tx " pieces").length = 7 := rfl
  rw [Zsg, c_to]
  refine WP.draw' s (fun w s => WP.step (Zmk s rr.from_ ok1 (by decide)) ?_)
  rintro _ w ⟨rfl, s⟩
  refine chkb (by omega) (by omega) ?_
  rw [catb]
  refine WP.step (Zmk s rr.to_ ok2 (by decide)) ?_
  rintro _ w ⟨rfl, s⟩
  refine chkb (by rw [List.length_append]; omega) (by omega) ?_
  rw [catb]
  refine WP.step (Zns s rr.sc f) ?_
  rintro _ w ⟨rfl, s⟩
  refine chkb (by simp only [List.length_append]; omega) (by omega) ?_
  rw [catb]
  have hsc := rr.sc
  obtain ⟨-, -, -, -, -, -, -, -, h9, h10⟩ := hsc
  rw [h9, h10]
  unfold pT
  have hX : (J ++ Zgm (tx "from") m.From ++ Zgm (tx "to") m.To ++ pF m).length ≤ 100000 := by simp only [List.length_append]; omega
  have hXe : J ++ (Zgm (tx "from") m.From ++ Zgm (tx "to") m.To) ++ pF m = J ++ Zgm (tx "from") m.From ++ Zgm (tx "to") m.To ++ pF m := by simp only [List.append_assoc]
  rw [hXe]
  generalize J ++ Zgm (tx "from") m.From ++ Zgm (tx "to") m.To ++ pF m = X at hX
  refine WP.ite (fun h => ?_) (fun h => ?_)
  · rw [Zah (by omega) (by omega), Zsd]
    have hd := (Zc8 (v := m.Type_ - 1) (by omega) (by omega)).1
    refine chkb (by omega) (by decide) ?_
    rw [catb]
    refine WP.step (ZhA s (v := m.Type_ - 1) (by omega) (by omega)) ?_
    rintro _ w ⟨rfl, s⟩
    refine chkb (by rw [List.length_append]; omega) (by omega) ?_
    rw [catb, if_pos h]
    refine WP.ite (fun h2 => ?_) (fun h2 => WP.ret ⟨?_, s⟩)
    · rw [if_pos h2, Zjs]
      refine chkb (by simp only [List.length_append]; omega) (by decide) (WP.ret ⟨?_, s⟩)
      rw [catb]
      simp only [List.append_assoc]
    · rw [if_neg h2, List.append_nil, List.append_assoc]
  · rw [if_neg h, List.nil_append]
    refine WP.ite (fun h2 => ?_) (fun h2 => WP.ret ⟨?_, s⟩)
    · rw [if_pos h2, Zjs]
      refine chkb (by omega) (by decide) (WP.ret ⟨?_, s⟩)
      rw [catb]
    · rw [if_neg h2, List.append_nil]
theorem Zoa {r : Zag} {m : Za9} {J : List Int} (s : Ss W Hs w) (rr : RdR Hs r m) (f : Zkq m) (ok1 : SdOk m.From) (ok2 : SdOk m.To) (hJ : J.length ≤ 500) :
    WP (Zal.K2 r (bstr J)) w (fun y w' => y = (bstr (J ++ pV m ++ pSd m ++ pF m ++ pT m), 0) ∧ Ss W Hs w') := by
  unfold Zal.K2 pV
  have hv := f.vid
  have hc : (tx " vid ").length = 5 := rfl
  rw [rr.sc.2.2.2.2.2.1]
  refine WP.ite (fun h => ?_) (fun h => ?_)
  · rw [ZtV]
    refine chkb (by omega) (by decide) ?_
    rw [catb]
    refine WP.step (ZhA s (v := m.Vid) (by omega) (by omega)) ?_
    rintro _ w ⟨rfl, s⟩
    have hd := (Zc8 (v := m.Vid) (by omega) (by omega)).1
    refine chkb (by rw [List.length_append]; omega) (by omega) ?_
    rw [catb, if_pos h]
    have := Zob s rr f ok1 ok2 (J := J ++ tx " vid " ++ decM m.Vid) (by simp only [List.length_append]; omega)
    simpa only [List.append_assoc] using this
  · rw [if_neg h, List.append_nil]
    exact Zob s rr f ok1 ok2 (by omega)
theorem Zn9 {r : Zag} {m : Za9} {J : List Int} (s : Ss W Hs w) (rr : RdR Hs r m) (f : Zkq m) (ok1 : SdOk m.From) (ok2 : SdOk m.To) (hJ : J.length ≤ 200) :
    WP (Zal.K3 r (bstr J)) w (fun y w' => y = (bstr (J ++ Zkr m ++ pO m ++ pV m ++ pSd m ++ pF m ++ pT m), 0) ∧ Ss W Hs w') := by
  unfold Zal.K3 pO
  have hv := f.in_
  have hc : (tx " on p").length = 5 := rfl
  have hw := Zl9 f.proto f.kind
  have hwe := Zq8 f.kind f.proto
  rw [← hwe] at hw ⊢
  rw [List.length_cons] at hw
  rw [rr.sc.2.2.2.2.1, c_sp]
  refine chkb (by omega) (by decide) ?_
  rw [catb]
  refine WP.step (Zrm s rr.sc f.kind f.proto) ?_
  rintro _ w ⟨rfl, s⟩
  refine chkb (by rw [List.length_append]; simp only [List.length_cons, List.length_nil]; omega) (by omega) ?_
  rw [catb]
  have hJe : J ++ [32] ++ Zma m = J ++ 32 :: Zma m := by simp
  rw [hJe]
  have hJl : (J ++ 32 :: Zma m).length ≤ 310 := by rw [List.length_append, List.length_cons]; omega
  generalize J ++ 32 :: Zma m = X at hJl
  refine WP.ite (fun h => ?_) (fun h => ?_)
  · rw [Zah (by omega) (by omega), c_on]
    refine chkb (by omega) (by decide) ?_
    rw [catb]
    refine WP.step (ZhA s (v := m.In - 1) (by omega) (by omega)) ?_
    rintro _ w ⟨rfl, s⟩
    have hd := (Zc8 (v := m.In - 1) (by omega) (by omega)).1
    refine chkb (by rw [List.length_append]; omega) (by omega) ?_
    rw [catb, if_pos h]
    have := Zoa s rr f ok1 ok2 (J := X ++ tx " on p" ++ decM (m.In - 1)) (by simp only [List.length_append]; omega)
    simpa only [List.append_assoc] using this
  · rw [if_neg h, List.append_nil]
    exact Zoa s rr f ok1 ok2 (by omega)
theorem ZlB {r : Zag} {m : Za9} (s : Ss W Hs w) (rr : RdR Hs r m) :
    WP (Zal r) w (fun y w' => y = (if ckM m ≠ 0 then (ByteArray.empty, ckM m) else (bstr (ZmH m), 0)) ∧ Ss W Hs w') := by
  unfold Zal
  refine WP.slot' s (fun _ w s => WP.step (Zmr s rr) ?_)
  rintro _ w ⟨rfl, s⟩
  refine WP.ite (fun h => WP.ret ⟨by rw [if_pos h], s⟩) (fun h => ?_)
  rw [if_neg h]
  have ck := Decidable.not_not.1 h
  obtain ⟨hf, -, k1, k2⟩ := ZqG ck
  have f := Zoy hf
  have ok1 := Zie rr.from_.byts k1
  have ok2 := Zie rr.to_.byts k2
  rw [Zor]
  have ha := f.act
  have hcl := f.cls
  have hc : (tx " class ").length = 7 := rfl
  have hl : (actN.getD (m.Act - 1).toNat []).length ≤ 6 := by
    have : ∀ k : _root_.Fin 3, (actN.getD k.val []).length ≤ 6 := by decide +kernel
    exact this ⟨(m.Act - 1).toNat, by omega⟩
  rw [rr.sc.1, rr.sc.2.1]
  refine WP.newv s (fun b w s => ZsL s Zt0 (by omega) (t := actN.getD (m.Act - 1).toNat []) ?_ ?_)
  · obtain ⟨j, hj⟩ : ∃ j : Nat, m.Act = (j : Int) + 1 := ⟨(m.Act - 1).toNat, by omega⟩
    rw [hj, show ((j : Int) + 1).toNat = j + 1 by omega, show ((j : Int) + 1 - 1).toNat = j by omega]
    have : ∀ q : _root_.Fin 3, (([] : List Int) :: actN)[q.val + 1]? = some (actN.getD q.val []) := by decide +kernel
    exact this ⟨j, by omega⟩
  have s := s.drop
  refine WP.ite (fun h => ?_) (fun h => ?_)
  · rw [ZqJ]
    refine chkb (by omega) (by decide) ?_
    rw [catb]
    refine WP.step (ZhA s (v := m.Class) (by omega) (by omega)) ?_
    rintro _ w ⟨rfl, s⟩
    have hd := (Zc8 (v := m.Class) (by omega) (by omega)).1
    refine chkb (by rw [List.length_append]; omega) (by omega) ?_
    rw [catb, if_pos h]
    have := Zn9 s rr f ok1 ok2 (J := actN.getD (m.Act - 1).toNat [] ++ tx " class " ++ decM m.Class) (by simp only [List.length_append]; omega)
    simpa only [List.append_assoc] using this
  · rw [if_neg h, List.append_nil]
    exact Zn9 s rr f ok1 ok2 (by omega)
end
end Go.Proofs.YtpmhinidiplhiaaGreatDoor.Lx
