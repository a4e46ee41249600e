
import Derived.Test.YtpmhinidiplhiaaDoorRulesBackC
set_option linter.unusedVariables false
set_option linter.unusedSimpArgs false
namespace Go.Proofs.YtpmhinidiplhiaaDoor.Lx
open Go Go.Proofs Go.RowKit
def PosW (e : Int) (ws : List Wd) : Prop := ∀ w ∈ ws, 0 ≤ w.2 ∧ w.2 ≤ e
theorem Znt : ∀ (l cur : List Int) (p : Int), (cur.length : Int) ≤ p → (∀ q, lexM cur p l = .error q → 0 ≤ q ∧ q ≤ p + l.length) ∧ (∀ ws, lexM cur p l = .ok ws → PosW (p + l.length) ws)
 | [], cur, p, hp => by
  refine ⟨fun q h => (by rw [lexM] at h; cases h), fun ws h => ?_⟩
  rw [lexM] at h
  cases h
  intro w hw
  split at hw
  ·cases hw
  ·rw [List.mem_singleton.1 hw]
   simp only [List.length_nil]
   omega
 | c :: cs, cur, p, hp => by
  have i1 := Znt cs (cur ++ [c]) (p + 1) (by rw [List.length_append]; simp only [List.length_cons, List.length_nil]; omega)
  have i2 := Znt cs [] (p + 1) (by simp only [List.length_nil]; omega)
  have hl : ((c :: cs).length : Int) = cs.length + 1 := by simp
  rw [lexM]
  by_cases hw : ZeC c = true
  ·rw [if_pos hw]
   refine ⟨fun q h => ?_, fun ws h => ?_⟩
   ·have := i1.1 q h
    omega
   ·intro w hm
    have := i1.2 ws h w hm
    omega
  ·rw [if_neg hw]
   have key : ∀ X : Except Int (List Wd), X = (if c = 44 then (match lexM [] (p + 1) cs with
     | .error q => .error q
     | .ok r => .ok (([44], p) :: r)) else if c = 32 ∨ c = 9 then lexM [] (p + 1) cs else .error p) → (∀ q, X = .error q → 0 ≤ q ∧ q ≤ p + (c :: cs).length) ∧ (∀ ws, X = .ok ws → PosW (p + (c :: cs).length) ws) := by
    intro X hX
    by_cases h44 : c = 44
    ·rw [if_pos h44] at hX
     cases hx : lexM [] (p + 1) cs with
     | error q =>
      rw [hx] at hX
      subst hX
      refine ⟨fun q' h => ?_, fun ws h => (by cases h)⟩
      cases h
      have := i2.1 q hx
      omega
     | ok r =>
      rw [hx] at hX
      subst hX
      refine ⟨fun q' h => (by cases h), fun ws h => ?_⟩
      cases h
      intro w hm
      rcases List.mem_cons.1 hm with rfl | hm
      ·simp only
       omega
      ·have := i2.2 r hx w hm
       omega
    ·rw [if_neg h44] at hX
     by_cases h32 : c = 32 ∨ c = 9
     ·rw [if_pos h32] at hX
      refine ⟨fun q h => ?_, fun ws h w hm => ?_⟩
      ·have := i2.1 q (hX ▸ h)
       omega
      ·have := i2.2 ws (hX ▸ h) w hm
       omega
     ·rw [if_neg h32] at hX
      subst hX
      refine ⟨fun q h => ?_, fun ws h => (by cases h)⟩
      cases h
      omega
   obtain ⟨k1, k2⟩ := key _ rfl
   generalize (if c = 44 then (match lexM [] (p + 1) cs with
     | .error q => .error q
     | .ok r => .ok (([44], p) :: r)) else if c = 32 ∨ c = 9 then lexM [] (p + 1) cs else .error p) = X at k1 k2 ⊢
   cases X with
   | error q =>
    refine ⟨fun q' h => ?_, fun ws h => (by cases h)⟩
    cases h
    exact k1 q rfl
   | ok r =>
    refine ⟨fun q' h => (by cases h), fun ws h => ?_⟩
    cases h
    intro w hm
    by_cases hc : cur = []
    ·rw [if_pos hc] at hm
     exact k2 r rfl w hm
    ·rw [if_neg hc] at hm
     rcases List.mem_cons.1 hm with rfl | hm
     ·simp only
      omega
     ·exact k2 r rfl w hm
theorem Zfn {e : Int} {t : List Int} {ws r : List Wd} (h : Zcy t ws = some r) (hp : PosW e ws) : PosW e r := by
 cases ws with
 | nil => cases h
 | cons w ws =>
  rw [show Zcy t (w :: ws) = if w.1 = t then some ws else none from rfl] at h
  split at h
  ·cases h
   exact fun x hx => hp x (List.mem_cons_of_mem _ hx)
  ·cases h
theorem PosW.tail {e : Int} {w : Wd} {ws : List Wd} (h : PosW e (w :: ws)) : PosW e ws := fun x hx => h x (List.mem_cons_of_mem _ hx)
def ZgN {α : Type} (e : Int) (X : PE (α × List Wd)) (R : α → Prop) : Prop := match X with
 | .error f => 0 ≤ f.2 ∧ f.2 ≤ e
 | .ok (a, r) => R a ∧ PosW e r
section
variable {e : Int}
theorem Zhv {lo hi : Int} {ws : List Wd} (he : 0 ≤ e) (h : PosW e ws) : ZgN e (numP e lo hi ws) (fun n => lo ≤ n ∧ n ≤ hi) := by
 cases hX : numP e lo hi ws with
 | ok a =>
  obtain ⟨n, r⟩ := a
  have := (Zhu hX).2
  refine ⟨this, ?_⟩
  cases ws with
  | nil => cases hX
  | cons w ws =>
   rw [Zjs] at hX
   split at hX
   ·cases hX
   ·split at hX
    ·cases hX
    ·cases hX
     exact h.tail
 | error f =>
  cases ws with
  | nil =>
   cases hX
   exact ⟨he, Int.le_refl _⟩
  | cons w ws =>
   have hw := h w (by simp)
   rw [Zjs] at hX
   split at hX
   ·cases hX
    exact hw
   ·split at hX
    ·cases hX
     exact hw
    ·cases hX
theorem Zp8 {kind : Int} {n : Nat} {ws : List Wd} (he : 0 ≤ e) (h : PosW e ws) : ZgN e (net1 e kind n ws) (fun p => Byt p.IP.A.l ∧ ZeT p kind = true ∧ n ≠ 16) := by
 cases ws with
 | nil => exact ⟨he, Int.le_refl _⟩
 | cons w ws =>
  have hw := h w (by simp)
  rw [Zfu]
  split
  ·exact hw
  ·split
   ·exact hw
   ·rename_i p hp
    split
    ·exact hw
    ·rename_i hn
     refine ⟨⟨Zrs hp, ?_, fun h' => hn (.inl h')⟩, h.tail⟩
     cases hf : ZeT p kind with
     | true => rfl
     | false => exact absurd (.inr hf) hn
theorem Zni {n : Nat} {ws : List Wd} (he : 0 ≤ e) (h : PosW e ws) : ZgN e (Zit e n ws) (fun p => ZcQ p = true ∧ n ≠ 16) := by
 cases ws with
 | nil => exact ⟨he, Int.le_refl _⟩
 | cons w ws =>
  have hw := h w (by simp)
  rw [Zed]
  split
  ·exact hw
  ·split
   ·exact hw
   ·rename_i p hp
    split
    ·exact hw
    ·rename_i hn
     refine ⟨⟨?_, hn⟩, h.tail⟩
     have nr : ∀ {t : List Int} {v : Int}, numR t 0 65535 = some v → 0 ≤ v ∧ v ≤ 65535 := by
      intro t v h
      unfold numR at h
      split at h
      ·cases h
      ·split at h
       ·rename_i hh
        cases h
        exact hh
       ·cases h
     unfold Zhp at hp
     split at hp
     ·rename_i a b ha hb
      split at hp
      ·rename_i hab
       cases hp
       have := nr ha
       have := nr hb
       exact decide_eq_true (by simp only; omega)
      ·cases hp
     ·cases hp
theorem ZkC {kind : Int} (he : 0 ≤ e) : ∀ (n : Nat) {acc : List Zaj} {ws : List Wd}, ws.length ≤ n → PosW e ws → acc.length ≤ 16 → (∀ p ∈ acc, Byt p.IP.A.l ∧ ZeT p kind = true) → ZgN e (Zf6 e kind acc ws) (fun l => (∀ p ∈ l, Byt p.IP.A.l ∧ ZeT p kind = true) ∧ l.length ≤ 16 ∧ l ≠ [])
 | 0, acc, ws, hn, h, _, _ => by
  have : ws = [] := List.length_eq_zero_iff.1 (by omega)
  subst this
  exact ⟨he, Int.le_refl _⟩
 | n + 1, acc, ws, hn, h, hl, ha => by
  have h1 := Zp8 (kind := kind) (n := acc.length) he h
  rw [Zft]
  cases hX : net1 e kind acc.length ws with
  | error f =>
   rw [hX] at h1
   exact h1
  | ok a =>
   obtain ⟨p, r⟩ := a
   rw [hX] at h1
   obtain ⟨⟨b1, b2, b3⟩, hr⟩ := h1
   have hlt : r.length < ws.length := by
    cases ws with
    | nil => cases hX
    | cons w ws =>
     rw [Zfu] at hX
     split at hX
     ·cases hX
     ·split at hX
      ·cases hX
      ·split at hX
       ·cases hX
       ·cases hX
        simp
   have hall : ∀ q ∈ acc ++ [p], Byt q.IP.A.l ∧ ZeT q kind = true := fun q hq => by
    rcases List.mem_append.1 hq with hq | hq
    ·exact ha q hq
    ·rw [List.mem_singleton.1 hq]
     exact ⟨b1, b2⟩
   have hlen : (acc ++ [p]).length ≤ 16 := by
    rw [List.length_append]
    simp only [List.length_cons, List.length_nil]
    omega
   simp only
   cases ht : Zcy comma r with
   | none => exact ⟨⟨hall, hlen, by simp⟩, hr⟩
   | some r2 =>
    have := Zc5 ht
    exact ZkC he n (by omega) (Zfn ht hr) hlen hall
theorem Zjm (he : 0 ≤ e) : ∀ (n : Nat) {acc : List ZaM} {ws : List Wd}, ws.length ≤ n → PosW e ws → acc.length ≤ 16 → (∀ p ∈ acc, ZcQ p = true) → ZgN e (Zez e acc ws) (fun l => (∀ p ∈ l, ZcQ p = true) ∧ l.length ≤ 16)
 | 0, acc, ws, hn, h, _, _ => by
  have : ws = [] := List.length_eq_zero_iff.1 (by omega)
  subst this
  exact ⟨he, Int.le_refl _⟩
 | n + 1, acc, ws, hn, h, hl, ha => by
  have h1 := Zni (n := acc.length) he h
  rw [ZeN]
  cases hX : Zit e acc.length ws with
  | error f =>
   rw [hX] at h1
   exact h1
  | ok a =>
   obtain ⟨p, r⟩ := a
   rw [hX] at h1
   obtain ⟨⟨b1, b3⟩, hr⟩ := h1
   have hlt : r.length < ws.length := by
    cases ws with
    | nil => cases hX
    | cons w ws =>
     rw [Zed] at hX
     split at hX
     ·cases hX
     ·split at hX
      ·cases hX
      ·cases hX
       simp
   have hall : ∀ q ∈ acc ++ [p], ZcQ q = true := fun q hq => by
    rcases List.mem_append.1 hq with hq | hq
    ·exact ha q hq
    ·rw [List.mem_singleton.1 hq]
     exact b1
   have hlen : (acc ++ [p]).length ≤ 16 := by
    rw [List.length_append]
    simp only [List.length_cons, List.length_nil]
    omega
   simp only
   cases ht : Zcy comma r with
   | none => exact ⟨⟨hall, hlen⟩, hr⟩
   | some r2 =>
    have := Zc5 ht
    exact Zjm he n (by omega) (Zfn ht hr) hlen hall
theorem Zma {proto : Int} (he : 0 ≤ e) {ws : List Wd} (h : PosW e ws) : ZgN e (Zc9 e proto ws) (fun l => ((∀ p ∈ l, ZcQ p = true) ∧ l.length ≤ 16) ∧ (l ≠ [] → Zdv proto = true)) := by
 cases ws with
 | nil => exact ⟨⟨⟨fun p hp => (by cases hp), by simp⟩, fun h => absurd rfl h⟩, h⟩
 | cons w ws =>
  rw [ZdJ]
  split
  ·split
   ·rename_i hp
    have := Zjm he ws.length (acc := []) (Nat.le_refl _) h.tail (by simp) (fun p hp => by cases hp)
    cases hX : Zez e [] ws with
    | error f => rw [hX] at this; exact this
    | ok a => rw [hX] at this; exact ⟨⟨this.1, fun _ => hp⟩, this.2⟩
   ·exact h w (by simp)
  ·exact ⟨⟨⟨fun p hp => (by cases hp), by simp⟩, fun h => absurd rfl h⟩, h⟩
theorem ZmR {s : Zda} {kind proto : Int} (h1 : ∀ p ∈ s.nets, ZeT p kind = true) (h2 : s.nets.length ≤ 16) (h3 : s.nets = [] → s.Not = false) (h4 : ∀ r ∈ s.ports, ZcQ r = true) (h5 : s.ports.length ≤ 16) (h6 : s.ports ≠ [] → Zdv proto = true) : ZcG s kind proto = 0 := by
 unfold ZcG
 rw [if_neg, if_neg (fun h => h h1), if_neg (by omega), if_neg (fun h => h h4), if_neg]
 ·rintro ⟨a, b⟩
  rw [h6 a] at b
  cases b
 ·rintro (h | ⟨a, b⟩)
  ·omega
  ·rw [h3 b] at a
   cases a
theorem Zkp {kind proto : Int} (he : 0 ≤ e) {ws : List Wd} (h : PosW e ws) : ZgN e (Zf3 e kind proto ws) (fun s => ZcG s kind proto = 0 ∧ Byts s.nets) := by
 rw [ZiP]
 have wn : ∀ {nt : Bool} {ns : List Zaj} {r : List Wd}, PosW e r → (∀ p ∈ ns, Byt p.IP.A.l ∧ ZeT p kind = true) → ns.length ≤ 16 → (ns = [] → nt = false) → ZgN e (ZiF nt ns (Zc9 e proto r)) (fun s => ZcG s kind proto = 0 ∧ Byts s.nets) := by
  intro nt ns r hr h1 h2 h3
  have := Zma (proto := proto) he hr
  unfold ZiF
  cases hX : Zc9 e proto r with
  | error f => rw [hX] at this; exact this
  | ok a =>
   rw [hX] at this
   obtain ⟨⟨⟨a1, a2⟩, a3⟩, a4⟩ := this
   exact ⟨⟨ZmR (s := ⟨nt, ns, a.1⟩) (fun p hp => (h1 p hp).2) h2 h3 a1 a2 a3, fun p hp => (h1 p hp).1⟩, a4⟩
 cases ht : Zcy (tx "any") ws with
 | some r => exact wn (Zfn ht h) (fun p hp => by cases hp) (by simp) (fun _ => rfl)
 | none =>
  simp only
  have hp : PosW e ((Zcy (tx "not") ws).getD ws) := by
   cases hn : Zcy (tx "not") ws with
   | none => exact h
   | some r => exact Zfn hn h
  have := ZkC (kind := kind) he _ (acc := []) (Nat.le_refl _) hp (by simp) (fun p hp => by cases hp)
  cases hX : Zf6 e kind [] ((Zcy (tx "not") ws).getD ws) with
  | error f => rw [hX] at this; exact this
  | ok a =>
   rw [hX] at this
   obtain ⟨⟨a1, a2, a3⟩, a4⟩ := this
   exact wn a4 a1 a2 (fun h => absurd h a3)
end
end Go.Proofs.YtpmhinidiplhiaaDoor.Lx
