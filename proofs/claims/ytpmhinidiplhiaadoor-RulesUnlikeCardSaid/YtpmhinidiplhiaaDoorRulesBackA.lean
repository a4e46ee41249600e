
import Derived.Test.YtpmhinidiplhiaaDoorRulesNum
set_option linter.unusedVariables false
set_option linter.unusedSimpArgs false
namespace Go.Proofs.YtpmhinidiplhiaaDoor.Lx
open Go Go.Proofs Go.RowKit
abbrev Tk (ws : List Wd) (ts : List (List Int)) : Prop := ws.map (·.1) = ts
theorem ZdK {ws : List Wd} {t : List Int} {ts : List (List Int)} (h : Tk ws (t :: ts)) : ∃ p r, ws = (t, p) :: r ∧ Tk r ts := by
 cases ws with
 | nil => cases h
 | cons w r =>
  obtain ⟨a, p⟩ := w
  have h : a :: r.map (·.1) = t :: ts := h
  cases h
  exact ⟨p, r, rfl, rfl⟩
theorem ZrD {ws : List Wd} (h : Tk ws []) : ws = [] := List.map_eq_nil_iff.1 h
theorem ZhI {ws : List Wd} {t : List Int} {ts : List (List Int)} (h : Tk ws (t :: ts)) : ∃ r, Zdc t ws = some r ∧ Tk r ts := by
 obtain ⟨p, r, rfl, hr⟩ := ZdK h
 exact ⟨r, if_pos rfl, hr⟩
theorem Zd7 {ws : List Wd} {t : List Int} {ts : List (List Int)} (h : Tk ws ts) (hn : ∀ u us, ts = u :: us → u ≠ t) : Zdc t ws = none := by
 cases ts with
 | nil => rw [ZrD h]; rfl
 | cons u us =>
  obtain ⟨p, r, rfl, hr⟩ := ZdK h
  exact if_neg (hn u us rfl)
def clN : List (List Int) := [tx "on", tx "vid", tx "from", tx "to", tx "flags", tx "type", tx "pieces"]
def Zd0 (b : List (List Int)) : Prop := ∀ t r, b = t :: r → t ∈ clN
theorem Zd0.ne {b : List (List Int)} (h : Zd0 b) {u : List Int} (hu : u ∉ clN) : ∀ t r, b = t :: r → t ≠ u := fun t r e h' => hu (h' ▸ h t r e)
theorem Zd0.nil : Zd0 [] := fun t r h => by cases h
theorem Zli : comma ∉ clN := by decide +kernel
theorem Zr9 : tx "port" ∉ clN := by decide +kernel
theorem ZoY {t : List Int} (h : Wrd t) : t ≠ comma := fun h' => by
 have := h.2
 rw [h'] at this
 cases this
section
variable {e : Int}
theorem ZpF {lo hi : Int} {x : Wd} {xs : List Wd} : numP e lo hi (x :: xs) = if x.1 = comma then .error (160, x.2) else match numR x.1 lo hi with
  | none => .error (162, x.2)
  | some n => .ok (n, xs) := rfl
theorem Zhj {v lo hi : Int} {ws : List Wd} {b : List (List Int)} (h0 : 0 ≤ v) (h : v < 65536) (h1 : lo ≤ v) (h2 : v ≤ hi) (ht : Tk ws (decM v :: b)) : ∃ r, numP e lo hi ws = .ok (v, r) ∧ Tk r b := by
 obtain ⟨p, r, rfl, hr⟩ := ZdK ht
 refine ⟨r, ?_, hr⟩
 rw [ZpF, if_neg (ZoY (ZeY h0 h)), Zhi h0 h h1 h2]
theorem Zl7 {kind : Int} {n : Nat} {p : Zak} {ws : List Wd} {b : List (List Int)} (hb : Byt p.IP.A.l) (hf : ZgA p kind = true) (hn : n < 16) (ht : Tk ws (netT p :: b)) : ∃ r, net1 e kind n ws = .ok (p, r) ∧ Tk r b := by
 obtain ⟨q, r, rfl, hr⟩ := ZdK ht
 have hv : vpM p = 0 := (of_decide_eq_true hf).1
 refine ⟨r, ?_, hr⟩
 rw [Zhk, if_neg (ZoY (ZnF hb hv)), Zl6 hb hv]
 simp only
 rw [if_neg]
 rintro (h | h)
 ·omega
 ·rw [hf] at h
  cases h
theorem ZhO {kind : Int} : ∀ {ns acc : List Zak} {ws : List Wd} {b : List (List Int)}, ns ≠ [] → (∀ p ∈ ns, Byt p.IP.A.l ∧ ZgA p kind = true) → acc.length + ns.length ≤ 16 → (∀ t r, b = t :: r → t ≠ comma) → Tk ws (Ze3 (ns.map netT) ++ b) → ∃ r, Zgz e kind acc ws = .ok (acc ++ ns, r) ∧ Tk r b
 | [], _, _, _, h, _, _, _, _ => absurd rfl h
 | [p], acc, ws, b, _, hp, hl, hb, ht => by
  have hl : acc.length + 1 ≤ 16 := hl
  obtain ⟨r, h1, h2⟩ := Zl7 (e := e) (hp p (by simp)).1 (hp p (by simp)).2 (n := acc.length) (by omega) (show Tk ws (netT p :: b) from ht)
  refine ⟨r, ?_, h2⟩
  rw [Zgo, h1]
  simp only
  rw [Zd7 h2 hb]
 | p :: p2 :: rest, acc, ws, b, _, hp, hl, hb, ht => by
  have hl : acc.length + (rest.length + 1 + 1) ≤ 16 := hl
  obtain ⟨r, h1, h2⟩ := Zl7 (e := e) (hp p (by simp)).1 (hp p (by simp)).2 (n := acc.length) (by omega) (show Tk ws (netT p :: (comma :: (Ze3 ((p2 :: rest).map netT) ++ b))) from ht)
  obtain ⟨r2, h3, h4⟩ := ZhI h2
  obtain ⟨r3, h5, h6⟩ := ZhO (ns := p2 :: rest) (acc := acc ++ [p]) (by simp) (fun q hq => hp q (List.mem_cons_of_mem _ hq)) (by rw [List.length_append]; simp only [List.length_cons, List.length_nil]; omega) hb h4
  refine ⟨r3, ?_, h6⟩
  rw [Zgo, h1]
  simp only
  rw [h3]
  simp only
  rw [h5, List.append_assoc]
  rfl
theorem Zi5 {n : Nat} {p : ZaM} {ws : List Wd} {b : List (List Int)} (hf : ZdQ p = true) (hn : n < 16) (ht : Tk ws (Zck p :: b)) : ∃ r, Zkc e n ws = .ok (p, r) ∧ Tk r b := by
 obtain ⟨q, r, rfl, hr⟩ := ZdK ht
 refine ⟨r, ?_, hr⟩
 rw [Zfz, if_neg (ZoY (Zka hf)), ZmV hf]
 simp only
 rw [if_neg (by omega)]
theorem Zi7 : ∀ {ns acc : List ZaM} {ws : List Wd} {b : List (List Int)}, ns ≠ [] → (∀ p ∈ ns, ZdQ p = true) → acc.length + ns.length ≤ 16 → Zd0 b → Tk ws (Ze3 (ns.map Zck) ++ b) → ∃ r, ZeR e acc ws = .ok (acc ++ ns, r) ∧ Tk r b
 | [], _, _, _, h, _, _, _, _ => absurd rfl h
 | [p], acc, ws, b, _, hp, hl, hb, ht => by
  have hl : acc.length + 1 ≤ 16 := hl
  obtain ⟨r, h1, h2⟩ := Zi5 (e := e) (hp p (by simp)) (n := acc.length) (by omega) (show Tk ws (Zck p :: b) from ht)
  refine ⟨r, ?_, h2⟩
  rw [ZfA, h1]
  simp only
  rw [Zd7 h2 (hb.ne Zli)]
 | p :: p2 :: rest, acc, ws, b, _, hp, hl, hb, ht => by
  have hl : acc.length + (rest.length + 1 + 1) ≤ 16 := hl
  obtain ⟨r, h1, h2⟩ := Zi5 (e := e) (hp p (by simp)) (n := acc.length) (by omega) (show Tk ws (Zck p :: (comma :: (Ze3 ((p2 :: rest).map Zck) ++ b))) from ht)
  obtain ⟨r2, h3, h4⟩ := ZhI h2
  obtain ⟨r3, h5, h6⟩ := Zi7 (ns := p2 :: rest) (acc := acc ++ [p]) (by simp) (fun q hq => hp q (List.mem_cons_of_mem _ hq)) (by rw [List.length_append]; simp only [List.length_cons, List.length_nil]; omega) hb h4
  refine ⟨r3, ?_, h6⟩
  rw [ZfA, h1]
  simp only
  rw [h3]
  simp only
  rw [h5, List.append_assoc]
  rfl
def Zoo (s : Zc6) : List (List Int) := (if s.nets = [] then [tx "any"] else (if s.Not = true then [tx "not"] else []) ++ Ze3 (s.nets.map netT)) ++ (if s.ports = [] then [] else tx "port" :: Ze3 (s.ports.map Zck))
structure SdB (s : Zc6) (kind proto : Int) : Prop where
 ok : SdOk s
 fits : ∀ p ∈ s.nets, ZgA p kind = true
 no : s.nets = [] → s.Not = false
 ported : s.ports ≠ [] → ZdR proto = true
theorem Zn3 {s : Zc6} {kind proto : Int} (hb : Byts s.nets) (h : Zdq s kind proto = 0) : SdB s kind proto := by
 refine ⟨Zgc hb h, ?_, ?_, ?_⟩ <;> unfold Zdq at h
 ·split at h
  ·cases h
  ·split at h
   ·cases h
   ·rename_i h2
    exact Decidable.not_not.1 h2
 ·split at h
  ·cases h
  ·rename_i h1
   intro hn
   cases hc : s.Not with
   | false => rfl
   | true => exact absurd (.inr ⟨hc, hn⟩) h1
 ·split at h
  ·cases h
  ·split at h
   ·cases h
   ·split at h
    ·cases h
    ·split at h
     ·cases h
     ·split at h
      ·cases h
      ·rename_i h5
       intro hp
       cases hc : ZdR proto with
       | true => rfl
       | false => exact absurd ⟨hp, hc⟩ h5
theorem ZfY {proto : Int} {ps : List ZaM} {ws : List Wd} {b : List (List Int)} (hok : ∀ r ∈ ps, ZdQ r = true) (h16 : ps.length ≤ 16) (hpt : ps ≠ [] → ZdR proto = true) (hb : Zd0 b) (ht : Tk ws ((if ps = [] then [] else tx "port" :: Ze3 (ps.map Zck)) ++ b)) : ∃ r, Zdz e proto ws = .ok (ps, r) ∧ Tk r b := by
 by_cases hp : ps = []
 ·rw [if_pos hp, List.nil_append] at ht
  subst hp
  refine ⟨ws, ?_, ht⟩
  cases ws with
  | nil => rfl
  | cons x xs => rw [Zeh, if_neg (hb.ne Zr9 x.1 _ ht.symm)]
 ·rw [if_neg hp] at ht
  obtain ⟨p, r, rfl, hr⟩ := ZdK ht
  obtain ⟨r2, h1, h2⟩ := Zi7 (e := e) (acc := []) hp hok (by rw [List.length_nil, Nat.zero_add]; exact h16) hb hr
  refine ⟨r2, ?_, h2⟩
  rw [Zeh, if_pos rfl, if_pos (hpt hp), h1]
  rfl
theorem Zsc {p : Zak} (hb : Byt p.IP.A.l) (hv : vpM p = 0) {t : List Int} (ht : netR t = none) : netT p ≠ t := fun h => by
 have := Zl6 hb hv
 rw [h, ht] at this
 cases this
theorem Zj8 {kind proto : Int} {s : Zc6} {ws : List Wd} {b : List (List Int)} (h : SdB s kind proto) (hb : Zd0 b) (ht : Tk ws (Zoo s ++ b)) : ∃ r, ZgQ e kind proto ws = .ok (s, r) ∧ Tk r b := by
 unfold Zoo at ht
 rw [List.append_assoc] at ht
 rw [ZkO]
 by_cases hn : s.nets = []
 ·rw [if_pos hn] at ht
  obtain ⟨r, h1, h2⟩ := ZhI ht
  obtain ⟨r2, h3, h4⟩ := ZfY (e := e) h.ok.ports h.ok.p16 h.ported hb h2
  refine ⟨r2, ?_, h4⟩
  rw [h1]
  simp only
  rw [h3]
  unfold ZjJ
  simp only
  have := h.no hn
  cases s
  simp only at hn this
  rw [hn, this]
 ·rw [if_neg hn] at ht
  obtain ⟨p, rest, hpr⟩ := List.exists_cons_of_ne_nil hn
  have hp := h.ok.nets p (by rw [hpr]; simp)
  have hj : ∃ l, Ze3 (s.nets.map netT) = netT p :: l := by rw [hpr]; exact ⟨_, rfl⟩
  have fin : ∀ {ws' : List Wd}, Tk ws' (Ze3 (s.nets.map netT) ++ ((if s.ports = [] then [] else tx "port" :: Ze3 (s.ports.map Zck)) ++ b)) → ∃ l r, Zgz e kind [] ws' = .ok (s.nets, l) ∧ Zdz e proto l = .ok (s.ports, r) ∧ Tk r b := by
   intro ws' ht'
   by_cases hps : s.ports = []
   ·obtain ⟨l, a1, a2⟩ := ZhO (e := e) (acc := []) hn (fun q hq => ⟨(h.ok.nets q hq).1, h.fits q hq⟩) (by rw [List.length_nil, Nat.zero_add]; exact h.ok.n16) (b := b) (hb.ne Zli) (by rw [if_pos hps] at ht'; exact ht')
    obtain ⟨r, b1, b2⟩ := ZfY (e := e) (ws := l) h.ok.ports h.ok.p16 h.ported hb (by rw [if_pos hps]; exact a2)
    exact ⟨l, r, a1, b1, b2⟩
   ·rw [if_neg hps] at ht'
    obtain ⟨l, a1, a2⟩ := ZhO (e := e) (acc := []) hn (fun q hq => ⟨(h.ok.nets q hq).1, h.fits q hq⟩) (by rw [List.length_nil, Nat.zero_add]; exact h.ok.n16) (fun t r e => by
     have e : tx "port" :: (Ze3 (s.ports.map Zck) ++ b) = t :: r := e
     cases e
     decide +kernel) ht'
    obtain ⟨r, b1, b2⟩ := ZfY (e := e) (ws := l) h.ok.ports h.ok.p16 h.ported hb (by rw [if_neg hps]; exact a2)
    exact ⟨l, r, a1, b1, b2⟩
  have any_no : netR (tx "any") = none := by decide +kernel
  have not_no : netR (tx "not") = none := by decide +kernel
  obtain ⟨l0, hj⟩ := hj
  by_cases ho : s.Not = true
  ·rw [if_pos ho, List.append_assoc] at ht
   have ht : Tk ws (tx "not" :: (Ze3 (s.nets.map netT) ++ ((if s.ports = [] then [] else tx "port" :: Ze3 (s.ports.map Zck)) ++ b))) := ht
   rw [Zd7 ht (fun u us e => by cases e; decide +kernel)]
   obtain ⟨r, h1, h2⟩ := ZhI ht
   obtain ⟨l, r2, a1, a2, a3⟩ := fin h2
   refine ⟨r2, ?_, a3⟩
   rw [h1]
   simp only [Option.getD_some, Option.isSome_some]
   rw [a1]
   simp only
   rw [a2]
   unfold ZjJ
   simp only
   rw [← ho]
  ·rw [if_neg ho, List.nil_append] at ht
   have hd : ∀ {t : List Int}, netR t = none → ∀ u us, Ze3 (s.nets.map netT) ++ ((if s.ports = [] then [] else tx "port" :: Ze3 (s.ports.map Zck)) ++ b) = u :: us → u ≠ t := by
    intro t hz u us e
    rw [hj] at e
    cases e
    exact Zsc hp.1 hp.2 hz
   rw [Zd7 ht (hd any_no), Zd7 ht (hd not_no)]
   obtain ⟨l, r2, a1, a2, a3⟩ := fin ht
   refine ⟨r2, ?_, a3⟩
   simp only [Option.getD_none, Option.isSome_none]
   rw [a1]
   simp only
   rw [a2]
   unfold ZjJ
   simp only
   have ho : s.Not = false := by
    cases hc : s.Not with
    | false => rfl
    | true => exact absurd hc ho
   rw [← ho]
end
end Go.Proofs.YtpmhinidiplhiaaDoor.Lx
