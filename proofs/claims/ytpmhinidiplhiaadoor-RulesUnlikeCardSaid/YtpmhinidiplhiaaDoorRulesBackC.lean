
import Derived.Test.YtpmhinidiplhiaaDoorRulesBackB
set_option linter.unusedVariables false
set_option linter.unusedSimpArgs false
namespace Go.Proofs.YtpmhinidiplhiaaDoor.Lx
open Go Go.Proofs Go.RowKit
def cOn (m : ZaO) : List (List Int) := if m.In > 0 then [tx "on", 112 :: decM (m.In - 1)] else []
def cVid (m : ZaO) : List (List Int) := if m.Vid > 0 then [tx "vid", decM m.Vid] else []
def ZoP (name : List Int) (s : Zc6) : List (List Int) := if s.nets = [] ∧ s.ports = [] then [] else name :: Zoo s
def Zn6 (m : ZaO) : List (List Int) := if Zet m = [] then [] else tx "flags" :: Ze3 (Zet m)
def Zrs (m : ZaO) : List (List Int) := if m.Type_ > 0 then [tx "type", decM (m.Type_ - 1)] else []
def Zlk (m : ZaO) : List (List Int) := if m.Pieces = true then [tx "pieces"] else []
def HdIn (c : List (List Int)) : Prop := ∀ t r, c = t :: r → t ∈ clN
theorem HdIn.app {c b : List (List Int)} (h : HdIn c) (hb : Zd0 b) : Zd0 (c ++ b) := fun t r e => by
 cases c with
 | nil => exact hb t r e
 | cons u us =>
  have e : u :: (us ++ b) = t :: r := e
  cases e
  exact h _ _ rfl
theorem Zrj {p : Prop} [Decidable p] {t : List Int} {l : List (List Int)} (h : t ∈ clN) : HdIn (if p then t :: l else []) := fun u r e => by
 split at e
 ·cases e
  exact h
 ·cases e
theorem Zp3 {p : Prop} [Decidable p] {t : List Int} {l : List (List Int)} (h : t ∈ clN) : HdIn (if p then [] else t :: l) := fun u r e => by
 split at e
 ·cases e
 ·cases e
  exact h
def b7 (m : ZaO) : List (List Int) := Zlk m ++ []
def b6 (m : ZaO) : List (List Int) := Zrs m ++ b7 m
def b5 (m : ZaO) : List (List Int) := Zn6 m ++ b6 m
def b4 (m : ZaO) : List (List Int) := ZoP (tx "to") m.To ++ b5 m
def b3 (m : ZaO) : List (List Int) := ZoP (tx "from") m.From ++ b4 m
def b2 (m : ZaO) : List (List Int) := cVid m ++ b3 m
def b1 (m : ZaO) : List (List Int) := cOn m ++ b2 m
theorem ZfE : tx "on" ∈ clN ∧ tx "vid" ∈ clN ∧ tx "from" ∈ clN ∧ tx "to" ∈ clN ∧ tx "flags" ∈ clN ∧ tx "type" ∈ clN ∧ tx "pieces" ∈ clN := by decide +kernel
theorem hb7 (m : ZaO) : Zd0 (b7 m) := (Zrj ZfE.2.2.2.2.2.2).app Zd0.nil
theorem hb6 (m : ZaO) : Zd0 (b6 m) := (Zrj ZfE.2.2.2.2.2.1).app (hb7 m)
theorem hb5 (m : ZaO) : Zd0 (b5 m) := (Zp3 ZfE.2.2.2.2.1).app (hb6 m)
theorem hb4 (m : ZaO) : Zd0 (b4 m) := (Zp3 ZfE.2.2.2.1).app (hb5 m)
theorem hb3 (m : ZaO) : Zd0 (b3 m) := (Zp3 ZfE.2.2.1).app (hb4 m)
theorem hb2 (m : ZaO) : Zd0 (b2 m) := (Zrj ZfE.2.1).app (hb3 m)
theorem hb1 (m : ZaO) : Zd0 (b1 m) := (Zrj ZfE.1).app (hb2 m)
theorem ZcJ {t : List Int} (h : (!t.isEmpty && t.all Zez) = true) : Wrd t := by
 rw [Bool.and_eq_true] at h
 refine ⟨fun h' => ?_, h.2⟩
 rw [h'] at h
 cases h.1
theorem Zr6 {m : ZaO} (f : Zen m) : Seg (if m.Class > 0 then tx " class " ++ decM m.Class else []) (ZlC m) := by
 have := f.cls
 unfold ZlC
 split
 ·rw [show tx " class " = 32 :: tx "class" ++ [32] by decide +kernel, List.append_assoc]
  exact Seg.one _ (ZcJ (by decide +kernel)) (Seg.sp (ZeY (by omega) (by omega)))
 ·exact Seg.nil
theorem ZqT {m : ZaO} (f : Zen m) : Seg (ZkG m) (ZfV m) := by
 have hk := f.kind
 have hp := f.proto
 unfold ZkG ZfV
 refine Seg.app ?_ ?_
 ·split
  ·exact Seg.sp (Zk4 ⟨(m.Kind - 1).toNat, by omega⟩).2.2.2
  ·exact Seg.nil
 ·split
  ·rename_i h
   exact Seg.sp (Zi6 h).2.2.2.2.1
  ·split
   ·rw [show tx " proto " = 32 :: tx "proto" ++ [32] by decide +kernel, List.append_assoc]
    exact Seg.one _ (ZcJ (by decide +kernel)) (Seg.sp (ZeY (by omega) (by omega)))
   ·split
    ·rw [show tx " any" = 32 :: tx "any" by decide +kernel]
     exact Seg.sp (ZcJ (by decide +kernel))
    ·exact Seg.nil
theorem ZsW {m : ZaO} (f : Zen m) : Seg (pO m) (cOn m) := by
 have := f.in_
 unfold pO cOn
 split
 ·rw [show tx " on p" = 32 :: tx "on" ++ [32, 112] by decide +kernel, List.append_assoc]
  refine Seg.one _ (ZcJ (by decide +kernel)) (Seg.sp ⟨by simp, ?_⟩)
  show (112 :: decM (m.In - 1)).all Zez = true
  rw [List.all_cons, (ZeY (v := m.In - 1) (by omega) (by omega)).2]
  decide
 ·exact Seg.nil
theorem Zr5 {m : ZaO} (f : Zen m) : Seg (pV m) (cVid m) := by
 have := f.vid
 unfold pV cVid
 split
 ·rw [show tx " vid " = 32 :: tx "vid" ++ [32] by decide +kernel, List.append_assoc]
  exact Seg.one _ (ZcJ (by decide +kernel)) (Seg.sp (ZeY (by omega) (by omega)))
 ·exact Seg.nil
theorem ZqU {m : ZaO} (f : Zen m) : Seg (if m.Type_ > 0 then tx " type " ++ decM (m.Type_ - 1) else []) (Zrs m) := by
 have := f.typ
 unfold Zrs
 split
 ·rw [show tx " type " = 32 :: tx "type" ++ [32] by decide +kernel, List.append_assoc]
  exact Seg.one _ (ZcJ (by decide +kernel)) (Seg.sp (ZeY (by omega) (by omega)))
 ·exact Seg.nil
theorem Zop (m : ZaO) : Seg (if m.Pieces = true then tx " pieces" else []) (Zlk m) := by
 unfold Zlk
 split
 ·rw [show tx " pieces" = 32 :: tx "pieces" by decide +kernel]
  exact Seg.sp (ZcJ (by decide +kernel))
 ·exact Seg.nil
theorem Zrl {m : ZaO} : ∀ x ∈ Zet m, Wrd x := fun x hx => by
 have h3 := Zla m 8
 rw [Zhq] at h3
 rw [← h3] at hx
 obtain ⟨⟨g, k⟩, hf, rfl⟩ := List.mem_map.1 hx
 have hk : k < 8 := by
  unfold flU at hf
  obtain ⟨j, hj, hf⟩ := List.mem_flatMap.1 hf
  have hj := List.mem_range.1 hj
  have : k = j := by
   unfold flB at hf
   rcases List.mem_append.1 hf with hf | hf
   ·split at hf
    ·have := List.mem_singleton.1 hf
     exact (Prod.mk.inj this).2
    ·cases hf
   ·split at hf
    ·have := List.mem_singleton.1 hf
     exact (Prod.mk.inj this).2
    ·cases hf
  omega
 obtain ⟨-, -, t3, t4⟩ := ZlB ⟨k, hk⟩ g
 exact ⟨t4, t3⟩
theorem Zpi (m : ZaO) : Seg (pF m) (Zn6 m) := by
 unfold pF Zn6
 split
 ·exact Seg.nil
 ·rename_i h
  rw [show tx " flags " = 32 :: tx "flags" ++ [32] by decide +kernel, List.append_assoc]
  exact Seg.one _ (ZcJ (by decide +kernel)) (Seg.join h Zrl)
theorem ZpL {α β : Type} {f : α → β} {l : List α} (h : l ≠ []) : l.map f ≠ [] := fun h' => h (List.map_eq_nil_iff.1 h')
theorem Znx {name : List Int} {s : Zc6} (hn : Wrd name) (ok : SdOk s) : Seg (ZjM name s) (ZoP name s) := by
 unfold ZjM ZoP
 split
 ·exact Seg.nil
 ·have hp : Seg (if s.ports = [] then [] else tx " port " ++ Zej [44] (s.ports.map Zck)) (if s.ports = [] then [] else tx "port" :: Ze3 (s.ports.map Zck)) := by
   split
   ·exact Seg.nil
   ·rename_i h
    rw [show tx " port " = 32 :: tx "port" ++ [32] by decide +kernel, List.append_assoc]
    refine Seg.one _ (ZcJ (by decide +kernel)) (Seg.join (ZpL h) (fun x hx => ?_))
    obtain ⟨r, hr, rfl⟩ := List.mem_map.1 hx
    exact Zka (ok.ports r hr)
  have hnets : ∀ x ∈ s.nets.map netT, Wrd x := fun x hx => by
   obtain ⟨p, hp, rfl⟩ := List.mem_map.1 hx
   exact ZnF (ok.nets p hp).1 (ok.nets p hp).2
  unfold Zoo
  rw [List.append_assoc, List.append_assoc, List.append_assoc]
  by_cases h : s.nets = []
  ·rw [if_pos h, if_pos h]
   have := Seg.one name hn (Seg.app (Seg.sp (t := tx "any") (ZcJ (by decide +kernel))) hp)
   exact this
  ·rw [if_neg h, if_neg h]
   by_cases ho : s.Not = true
   ·rw [if_pos ho, if_pos ho]
    rw [show tx "not " = tx "not" ++ [32] by decide +kernel]
    rw [List.append_assoc, List.append_assoc, List.append_assoc]
    have := Seg.one name hn (Seg.one (tx "not") (ZcJ (by decide +kernel)) (Seg.app (Seg.join (ZpL h) hnets) hp))
    exact this
   ·rw [if_neg ho, if_neg ho, List.nil_append, List.nil_append]
    have := Seg.one name hn (Seg.app (Seg.join (ZpL h) hnets) hp)
    exact this
theorem Zkn {m : ZaO} (f : Zen m) (o1 : SdOk m.From) (o2 : SdOk m.To) : ∃ ws, lexM [] 0 (ZgV m) = .ok ws ∧ Tk ws (actN.getD (m.Act - 1).toNat [] :: (ZlC m ++ (ZfV m ++ b1 m))) := by
 have ha := f.act
 have hs := Seg.app (Zr6 f) (Seg.app (ZqT f) (Seg.app (ZsW f) (Seg.app (Zr5 f) (Seg.app (Znx (name := tx "from") (ZcJ (by decide +kernel)) o1) (Seg.app (Znx (name := tx "to") (ZcJ (by decide +kernel)) o2) (Seg.app (Zpi m) (Seg.app (ZqU f) (Seg.app (Zop m) Seg.nil))))))))
 obtain ⟨ws, h1, h2⟩ := Zq9 (Zqw ⟨(m.Act - 1).toNat, by omega⟩).2 hs
 refine ⟨ws, ?_, h2⟩
 rw [← h1]
 congr 1
 rw [ZnL]
 unfold pSd pT
 simp only [List.append_assoc, List.append_nil]
section
variable {e : Int}
def Lp (e : Int) (n : Nat) (k : ZaO) (toks : List (List Int)) (m : ZaO) : Prop := ∀ (fuel : Nat) (seen : List (List Int)) (ws : List Wd), (∀ t ∈ seen, t ∈ clN.take n) → Tk ws toks → ws.length < fuel → Ziv e fuel seen k ws = .ok m
theorem Lp.skip {n : Nat} {k m : ZaO} {toks : List (List Int)} (h : Lp e (n + 1) k toks m) : Lp e n k toks m := fun fuel seen ws hs ht hf =>
 h fuel seen ws (fun t hm => by
  have := hs t hm
  exact (List.take_sublist_take_left (l := clN) (Nat.le_succ n)).subset this) ht hf
theorem Lp.step {n : Nat} {k k' m : ZaO} {t : List Int} {args b : List (List Int)} (hn : t ∉ clN.take n) (hn2 : t ∈ clN.take (n + 1)) (h1 : t = tx "flags" → k.Proto = 6) (h2 : t = tx "type" → ZeA k.Proto = true)
  (hc : ∀ ws, Tk ws (args ++ b) → ∃ r, Zcr e t k ws = some (.ok (k', r)) ∧ Tk r b) (h : Lp e (n + 1) k' b m) : Lp e n k (t :: args ++ b) m := fun fuel seen ws hs ht hf => by
 obtain ⟨p, r, rfl, hr⟩ := ZdK (show Tk ws (t :: (args ++ b)) from ht)
 obtain ⟨fu, rfl⟩ : ∃ j, fuel = j + 1 := ⟨fuel - 1, by omega⟩
 obtain ⟨r2, h3, h4⟩ := hc r hr
 have hm : mayM seen k t = true := decide_eq_true ⟨fun hm => hn (hs t hm), h1, h2⟩
 rw [show Ziv e (fu + 1) seen k ((t, p) :: r) = if mayM seen k t = false then .error (165, p) else match Zcr e t k r with
  | none => .error (160, p)
  | some (.error q) => .error q
  | some (.ok (m', r)) => Ziv e fu (t :: seen) m' r from rfl, hm, if_neg (by decide), h3]
 have hl := (ZjA h3).1
 simp only [List.length_cons] at hf
 exact h fu (t :: seen) r2 (fun u hu => by
  rcases List.mem_cons.1 hu with rfl | hu
  ·exact hn2
  ·exact (List.take_sublist_take_left (l := clN) (Nat.le_succ n)).subset (hs u hu)) h4 (by omega)
def st1 (m : ZaO) : ZaO := ⟨m.Act, m.Class, m.Kind, m.Proto, m.In, 0, zSd, zSd, 0, 0, 0, false⟩
def st2 (m : ZaO) : ZaO := ⟨m.Act, m.Class, m.Kind, m.Proto, m.In, m.Vid, zSd, zSd, 0, 0, 0, false⟩
def st3 (m : ZaO) : ZaO := ⟨m.Act, m.Class, m.Kind, m.Proto, m.In, m.Vid, m.From, zSd, 0, 0, 0, false⟩
def st4 (m : ZaO) : ZaO := ⟨m.Act, m.Class, m.Kind, m.Proto, m.In, m.Vid, m.From, m.To, 0, 0, 0, false⟩
def st5 (m : ZaO) : ZaO := ⟨m.Act, m.Class, m.Kind, m.Proto, m.In, m.Vid, m.From, m.To, m.Set, m.Clear, 0, false⟩
def st6 (m : ZaO) : ZaO := ⟨m.Act, m.Class, m.Kind, m.Proto, m.In, m.Vid, m.From, m.To, m.Set, m.Clear, m.Type_, false⟩
def st7 (m : ZaO) : ZaO := ⟨m.Act, m.Class, m.Kind, m.Proto, m.In, m.Vid, m.From, m.To, m.Set, m.Clear, m.Type_, m.Pieces⟩
theorem ZsU (m : ZaO) : st7 m = m := rfl
theorem ZtG {k : ZaO} {ws : List Wd} : Zcr e (tx "on") k ws = some (match ZjP e ws with
  | .error f => .error f
  | .ok (n, r) => .ok ({ k with In := n + 1 }, r)) := by
 unfold Zcr
 rw [if_pos rfl]
 rfl
theorem Zte {k : ZaO} {ws : List Wd} : Zcr e (tx "vid") k ws = some (match numP e 1 4094 ws with
  | .error f => .error f
  | .ok (n, r) => .ok ({ k with Vid := n }, r)) := by
 unfold Zcr
 rw [if_neg (by decide +kernel), if_pos rfl]
 rfl
theorem Zsy {k : ZaO} {ws : List Wd} : Zcr e (tx "from") k ws = some (match ZgQ e k.Kind k.Proto ws with
  | .error f => .error f
  | .ok (n, r) => .ok ({ k with From := n }, r)) := by
 unfold Zcr
 rw [if_neg (by decide +kernel), if_neg (by decide +kernel), if_pos rfl]
 rfl
theorem ZtF {k : ZaO} {ws : List Wd} : Zcr e (tx "to") k ws = some (match ZgQ e k.Kind k.Proto ws with
  | .error f => .error f
  | .ok (n, r) => .ok ({ k with To := n }, r)) := by
 unfold Zcr
 rw [if_neg (by decide +kernel), if_neg (by decide +kernel), if_neg (by decide +kernel), if_pos rfl]
 rfl
theorem Zrr {k : ZaO} {ws : List Wd} : Zcr e (tx "flags") k ws = some (match Zd4 e k.Set k.Clear ws with
  | .error f => .error f
  | .ok (n, r) => .ok ({ k with Set := n.1, Clear := n.2 }, r)) := by
 unfold Zcr
 rw [if_neg (by decide +kernel), if_neg (by decide +kernel), if_neg (by decide +kernel), if_neg (by decide +kernel), if_pos rfl]
 rfl
theorem Zsx {k : ZaO} {ws : List Wd} : Zcr e (tx "type") k ws = some (match numP e 0 255 ws with
  | .error f => .error f
  | .ok (n, r) => .ok ({ k with Type_ := n + 1 }, r)) := by
 unfold Zcr
 rw [if_neg (by decide +kernel), if_neg (by decide +kernel), if_neg (by decide +kernel), if_neg (by decide +kernel), if_neg (by decide +kernel), if_pos rfl]
 rfl
theorem Zqi {k : ZaO} {ws : List Wd} : Zcr e (tx "pieces") k ws = some (.ok ({ k with Pieces := true }, ws)) := by
 unfold Zcr
 rw [if_neg (by decide +kernel), if_neg (by decide +kernel), if_neg (by decide +kernel), if_neg (by decide +kernel), if_neg (by decide +kernel), if_neg (by decide +kernel), if_pos rfl]
theorem lp7 (m : ZaO) : Lp e 7 (st7 m) [] m := fun fuel seen ws hs ht hf => by
 rw [ZrD ht, ZsU]
 cases fuel <;> rfl
theorem lp6 (m : ZaO) : Lp e 6 (st6 m) (b7 m) m := by
 unfold b7 Zlk
 by_cases h : m.Pieces = true
 ·rw [if_pos h]
  refine Lp.step (k' := st7 m) (args := []) (by decide +kernel) (by decide +kernel) (fun h => absurd h (by decide +kernel)) (fun h => absurd h (by decide +kernel)) (fun ws ht => ⟨ws, ?_, ht⟩) (lp7 m)
  rw [Zqi, show st7 m = { st6 m with Pieces := true } by unfold st7 st6; rw [h]]
 ·rw [if_neg h, List.nil_append]
  have hp : m.Pieces = false := by
   cases hc : m.Pieces with
   | false => rfl
   | true => exact absurd hc h
  have : st7 m = st6 m := by
   unfold st7 st6
   rw [hp]
  rw [← this]
  exact (lp7 m).skip
theorem lp5 {m : ZaO} (f : Zen m) (hc : Zfo m = false) : Lp e 5 (st5 m) (b6 m) m := by
 have ht := f.typ
 have hc := of_decide_eq_false hc
 unfold b6 Zrs
 by_cases h : m.Type_ > 0
 ·rw [if_pos h]
  refine Lp.step (k' := st6 m) (args := [decM (m.Type_ - 1)]) (by decide +kernel) (by decide +kernel) (fun h => absurd h (by decide +kernel)) (fun _ => ?_) (fun ws ht => ?_) (lp6 m)
  ·show ZeA m.Proto = true
   cases hp : ZeA m.Proto with
   | true => rfl
   | false => exact absurd (.inr (.inr (.inr ⟨by omega, hp⟩))) hc
  ·obtain ⟨r, h1, h2⟩ := Zhj (e := e) (lo := 0) (hi := 255) (by omega) (by omega) (by omega) (by omega) ht
   refine ⟨r, ?_, h2⟩
   rw [Zsx, h1]
   simp only
   rw [show m.Type_ - 1 + 1 = m.Type_ by omega]
   rfl
 ·rw [if_neg h, List.nil_append]
  have : st6 m = st5 m := by
   unfold st6 st5
   rw [show m.Type_ = 0 by omega]
  rw [← this]
  exact (lp6 m).skip
theorem lp4 {m : ZaO} (f : Zen m) (hc : Zfo m = false) : Lp e 4 (st4 m) (b5 m) m := by
 have hc0 := hc
 have hc := of_decide_eq_false hc
 unfold b5 Zn6
 by_cases h : Zet m = []
 ·rw [if_pos h, List.nil_append]
  obtain ⟨h1, h2⟩ := Ztc f h
  have : st5 m = st4 m := by
   unfold st5 st4
   rw [h1, h2]
  rw [← this]
  exact (lp5 f hc0).skip
 ·rw [if_neg h]
  refine Lp.step (k' := st5 m) (args := Ze3 (Zet m)) (by decide +kernel) (by decide +kernel) (fun _ => ?_) (fun h => absurd h (by decide +kernel)) (fun ws ht => ?_) (lp5 f hc0)
  ·show m.Proto = 6
   exact Decidable.byContradiction fun hp => hc (.inr (.inr (.inl ⟨Ztb f h, hp⟩)))
  ·obtain ⟨o1, o2⟩ := Zp8 f
   have h3 := Zla m 8
   rw [Zhq] at h3
   rw [← h3] at ht
   obtain ⟨r, h1, h2⟩ := Zjt (e := e) (p := (0, 0)) (fun hn => h (by rw [← h3, hn]; rfl)) o1 ((hb6 m).ne Zli) ht
   refine ⟨r, ?_, h2⟩
   rw [Zrr]
   rw [show Zd4 e (st4 m).Set (st4 m).Clear ws = Zd4 e 0 0 ws from rfl, h1, o2]
   rfl
theorem lp3 {m : ZaO} (f : Zen m) (hc : Zfo m = false) (s2 : SdB m.To m.Kind m.Proto) : Lp e 3 (st3 m) (b4 m) m := by
 unfold b4 ZoP
 by_cases h : m.To.nets = [] ∧ m.To.ports = []
 ·rw [if_pos h, List.nil_append]
  have hz : m.To = zSd := by
   have := s2.no h.1
   obtain ⟨h1, h2⟩ := h
   cases hm : m.To
   rw [hm] at h1 h2 this
   simp only at h1 h2 this
   rw [h1, h2, this]
   rfl
  have : st4 m = st3 m := by
   unfold st4 st3
   rw [hz]
  rw [← this]
  exact (lp4 f hc).skip
 ·rw [if_neg h]
  refine Lp.step (k' := st4 m) (args := Zoo m.To) (by decide +kernel) (by decide +kernel) (fun h => absurd h (by decide +kernel)) (fun h => absurd h (by decide +kernel)) (fun ws ht => ?_) (lp4 f hc)
  obtain ⟨r, h1, h2⟩ := Zj8 (e := e) s2 (hb5 m) ht
  refine ⟨r, ?_, h2⟩
  rw [ZtF, show ZgQ e (st3 m).Kind (st3 m).Proto ws = ZgQ e m.Kind m.Proto ws from rfl, h1]
  rfl
theorem lp2 {m : ZaO} (f : Zen m) (hc : Zfo m = false) (s1 : SdB m.From m.Kind m.Proto) (s2 : SdB m.To m.Kind m.Proto) : Lp e 2 (st2 m) (b3 m) m := by
 unfold b3 ZoP
 by_cases h : m.From.nets = [] ∧ m.From.ports = []
 ·rw [if_pos h, List.nil_append]
  have hz : m.From = zSd := by
   have := s1.no h.1
   obtain ⟨h1, h2⟩ := h
   cases hm : m.From
   rw [hm] at h1 h2 this
   simp only at h1 h2 this
   rw [h1, h2, this]
   rfl
  have : st3 m = st2 m := by
   unfold st3 st2
   rw [hz]
  rw [← this]
  exact (lp3 f hc s2).skip
 ·rw [if_neg h]
  refine Lp.step (k' := st3 m) (args := Zoo m.From) (by decide +kernel) (by decide +kernel) (fun h => absurd h (by decide +kernel)) (fun h => absurd h (by decide +kernel)) (fun ws ht => ?_) (lp3 f hc s2)
  obtain ⟨r, h1, h2⟩ := Zj8 (e := e) s1 (hb4 m) ht
  refine ⟨r, ?_, h2⟩
  rw [Zsy, show ZgQ e (st2 m).Kind (st2 m).Proto ws = ZgQ e m.Kind m.Proto ws from rfl, h1]
  rfl
theorem lp1 {m : ZaO} (f : Zen m) (hc : Zfo m = false) (s1 : SdB m.From m.Kind m.Proto) (s2 : SdB m.To m.Kind m.Proto) : Lp e 1 (st1 m) (b2 m) m := by
 have hv := f.vid
 unfold b2 cVid
 by_cases h : m.Vid > 0
 ·rw [if_pos h]
  refine Lp.step (k' := st2 m) (args := [decM m.Vid]) (by decide +kernel) (by decide +kernel) (fun h => absurd h (by decide +kernel)) (fun h => absurd h (by decide +kernel)) (fun ws ht => ?_) (lp2 f hc s1 s2)
  obtain ⟨r, h1, h2⟩ := Zhj (e := e) (lo := 1) (hi := 4094) (by omega) (by omega) (by omega) (by omega) ht
  refine ⟨r, ?_, h2⟩
  rw [Zte, h1]
  rfl
 ·rw [if_neg h, List.nil_append]
  have : st2 m = st1 m := by
   unfold st2 st1
   rw [show m.Vid = 0 by omega]
  rw [← this]
  exact (lp2 f hc s1 s2).skip
theorem lp0 {m : ZaO} (f : Zen m) (hc : Zfo m = false) (s1 : SdB m.From m.Kind m.Proto) (s2 : SdB m.To m.Kind m.Proto) : Lp e 0 (st0 m) (b1 m) m := by
 have hv := f.in_
 unfold b1 cOn
 by_cases h : m.In > 0
 ·rw [if_pos h]
  refine Lp.step (k' := st1 m) (args := [112 :: decM (m.In - 1)]) (by decide +kernel) (by decide +kernel) (fun h => absurd h (by decide +kernel)) (fun h => absurd h (by decide +kernel)) (fun ws ht => ?_) (lp1 f hc s1 s2)
  obtain ⟨q, r, rfl, hr⟩ := ZdK (show Tk ws ((112 :: decM (m.In - 1)) :: b2 m) from ht)
  refine ⟨r, ?_, hr⟩
  have hp : ZjP e ((112 :: decM (m.In - 1), q) :: r) = .ok (m.In - 1, r) := by
   rw [show ZjP e ((112 :: decM (m.In - 1), q) :: r) = if (112 :: decM (m.In - 1)) = comma then .error (160, q) else match numR (decM (m.In - 1)) 0 7 with
    | none => .error (162, q)
    | some n => .ok (n, r) from rfl, if_neg (by
     intro h
     unfold comma at h
     injection h with h1 h2
     cases h1), Zhi (by omega) (by omega) (by omega) (by omega)]
  rw [ZtG, hp]
  simp only
  rw [show m.In - 1 + 1 = m.In by omega]
  rfl
 ·rw [if_neg h, List.nil_append]
  have : st1 m = st0 m := by
   unfold st1 st0
   rw [show m.In = 0 by omega]
   rfl
  rw [← this]
  exact (lp1 f hc s1 s2).skip
end
theorem ZlR {m : ZaO} (hb1 : Byts m.From.nets) (hb2 : Byts m.To.nets) (hc : ckM m = 0) (hl : (ZgV m).length ≤ 1024) : Zor (ZgV m) = .ok m := by
 obtain ⟨hf, hcl, k1, k2⟩ := Zn4 hc
 have f := Zlb hf
 have s1 := Zn3 hb1 k1
 have s2 := Zn3 hb2 k2
 obtain ⟨ws, h1, h2⟩ := Zkn f s1.ok s2.ok
 obtain ⟨r, h3, h4⟩ := ZoJ (e := (ZgV m).length) f hcl (Lx.hb1 m) h2
 unfold Zor
 rw [if_neg (by omega), h1]
 simp only
 rw [h3]
 simp only
 refine lp0 f hcl s1 s2 (ws.length + 1) [] r (fun t ht => by cases ht) h4 ?_
 have e1 : ws.length = (ws.map (·.1)).length := by rw [List.length_map]
 have e2 : r.length = (r.map (·.1)).length := by rw [List.length_map]
 rw [h2] at e1
 rw [h4] at e2
 simp only [List.length_cons, List.length_append] at e1
 omega
end Go.Proofs.YtpmhinidiplhiaaDoor.Lx
