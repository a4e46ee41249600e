
import Derived.Test.YtpmhinidiplhiaaDoorRulesFlags
set_option linter.unusedVariables false
set_option linter.unusedSimpArgs false
namespace Go.Proofs.YtpmhinidiplhiaaDoor.Lx
open Go Go.Proofs Go.RowKit
theorem ZtW : strI Zsp = tx "on" := by decide +kernel
theorem Zs8 : strI Zso = tx "vid" := by decide +kernel
theorem Zsk : strI Zna = tx "from" := by decide +kernel
theorem ZtV : strI ZpF = tx "to" := by decide +kernel
theorem ZnQ : strI Zm9 = tx "flags" := by decide +kernel
theorem Zpx : strI Zm8 = tx "type" := by decide +kernel
theorem Zpz : strI Zsn = tx "pieces" := by decide +kernel
section
variable {W w : World} {Hs : List HP} {b : Nat} {wl : List Zaw} {e : Int} {m : ZaO} {ws : List Wd} {f : PF}
theorem Zss {β : Type} {sd : Zan} {sm : Zda} {g : Unit → M β} {Q : β → World → Prop} (s : Ss W (Zhh sd sm :: RrA b wl e m ws :: Hs) w) (k : ∀ w, Ss W (RrA b wl e { m with From := sm } ws :: Hs) w → WP (g ()) w Q) : WP (st ZaF (Addr.add (Addr.add (pt b 0) 3) 6) sd >>= g) w Q := by
 obtain ⟨⟨rr, i⟩, hq, s⟩ := Zf5 (s.use [1] (s := [_]) (r := _ :: Hs) rfl)
 obtain ⟨h1, h2, h3, h4, h5, h6, h7⟩ := hq
 refine WP.st s 0 rfl (o := 3 + 6) rfl ((Zbq rr).trans' (ZdC rr.rule sd) (ZcN rr _)) (fun w s => k w ?_)
 refine ZiA (q := (⟨rr.l, rr.i, rr.end_, { rr.rule with From := sd }, rr.err, rr.at_⟩, i)) ⟨h1, h2, h3, h4, h5, h6, h7⟩ ?_
 have s := (s.use [2] rfl).drop
 have s := s.use [0, 0, 1] rfl
 exact s
theorem ZtZ {β : Type} {sd : Zan} {sm : Zda} {g : Unit → M β} {Q : β → World → Prop} (s : Ss W (Zhh sd sm :: RrA b wl e m ws :: Hs) w) (k : ∀ w, Ss W (RrA b wl e { m with To := sm } ws :: Hs) w → WP (g ()) w Q) : WP (st ZaF (Addr.add (Addr.add (pt b 0) 3) 9) sd >>= g) w Q := by
 obtain ⟨⟨rr, i⟩, hq, s⟩ := Zf5 (s.use [1] (s := [_]) (r := _ :: Hs) rfl)
 obtain ⟨h1, h2, h3, h4, h5, h6, h7⟩ := hq
 refine WP.st s 0 rfl (o := 3 + 9) rfl ((Zbq rr).trans' (Zem rr.rule sd) (ZcN rr _)) (fun w s => k w ?_)
 refine ZiA (q := (⟨rr.l, rr.i, rr.end_, { rr.rule with To := sd }, rr.err, rr.at_⟩, i)) ⟨h1, h2, h3, h4, h5, h6, h7⟩ ?_
 have s := (s.use [3] rfl).drop
 exact s
def ClR (W : World) (Hs : List HP) (b : Nat) (wl : List Zaw) (e : Int) (m : ZaO) (ws : List Wd) (r : Bool) (w : World) : Option (PE (ZaO × List Wd)) → Prop
 | none => r = false ∧ Ss W (RrA b wl e m ws :: Hs) w
 | some X => r = true ∧ RulR W Hs b wl e w X
theorem Zng (hb : B255 (m.Set, m.Clear)) (fi : Nat) (ef : nth Hs fi = some (NmP 1 Zfx)) (t : ByteArray) (s : Ss W (RrA b wl e m ws :: Hs) w) : WP (Zax (some (pt b 0)) t) w (fun r w' => ClR W Hs b wl e m ws r w' (Zb6 e (strI t) m ws)) := by
 unfold Zax Zb6
 have k1 : t.toList = (Zsp).toList ↔ strI t = tx "on" := by rw [Zbw, ZtW]
 have k2 : t.toList = (Zso).toList ↔ strI t = tx "vid" := by rw [Zbw, Zs8]
 have k3 : t.toList = (Zna).toList ↔ strI t = tx "from" := by rw [Zbw, Zsk]
 have k4 : t.toList = (ZpF).toList ↔ strI t = tx "to" := by rw [Zbw, ZtV]
 have k5 : t.toList = (Zm9).toList ↔ strI t = tx "flags" := by rw [Zbw, ZnQ]
 have k6 : t.toList = (Zm8).toList ↔ strI t = tx "type" := by rw [Zbw, Zpx]
 have k7 : t.toList = (Zsn).toList ↔ strI t = tx "pieces" := by rw [Zbw, Zpz]
 by_cases h1 : strI t = tx "on"
 ·rw [if_pos h1]
  refine WP.ite (fun _ => WP.step (ZpS s) ?_) (fun h => absurd (k1.2 h1) h)
  intro n w h
  cases hp : Zh0 e ws with
  | error f =>
   rw [hp] at h
   exact WP.nilck (setD (o := 4) h (fun r => { r with In := IntKind.wrap .i64 (n + 1) }) (fun r => ZgV r _) (fun w s => WP.ret ⟨rfl, s⟩))
  | ok q =>
   rw [hp] at h
   obtain ⟨rfl, s⟩ := h
   have hr : 0 ≤ q.1 ∧ q.1 ≤ 7 := by
    cases ws with
    | nil => cases hp
    | cons x xs =>
     rw [show Zh0 e (x :: xs) = if x.1 = comma then .error (160, x.2) else match (if x.1.head? = some 112 then numR x.1.tail 0 7 else none) with
      | none => .error (162, x.2)
      | some n => .ok (n, xs) from rfl] at hp
     split at hp
     ·cases hp
     ·split at hp
      ·cases hp
      ·rename_i n hn
       cases hp
       split at hn
       ·unfold numR at hn
        split at hn
        ·cases hn
        ·split at hn
         ·rename_i hh
          cases hn
          exact hh
         ·cases hn
       ·cases hn
   have hw : IntKind.wrap .i64 (q.1 + 1) = q.1 + 1 := Zat (by omega) (by omega)
   rw [hw]
   exact WP.nilck (setA (o := 4) (m' := { m with In := q.1 + 1 }) s (fun r => { r with In := q.1 + 1 }) (fun r => ZgV r _) (fun r h => ⟨h.1, h.2.1, h.2.2.1, h.2.2.2.1, rfl, h.2.2.2.2.2⟩) (fun r => ⟨rfl, rfl⟩) ⟨rfl, rfl⟩ (fun w s => WP.ret ⟨rfl, s⟩))
 rw [if_neg h1]
 refine WP.ite (fun h => absurd (k1.1 h) h1) (fun _ => ?_)
 by_cases h2 : strI t = tx "vid"
 ·rw [if_pos h2]
  refine WP.ite (fun _ => WP.step (ZiR s 1 4094) ?_) (fun h => absurd (k2.2 h2) h)
  intro n w h
  cases hp : numP e 1 4094 ws with
  | error f =>
   rw [hp] at h
   exact WP.nilck (setD (o := 5) h (fun r => { r with Vid := n }) (fun r => Zgv r _) (fun w s => WP.ret ⟨rfl, s⟩))
  | ok q =>
   rw [hp] at h
   obtain ⟨rfl, s⟩ := h
   exact WP.nilck (setA (o := 5) (m' := { m with Vid := q.1 }) s (fun r => { r with Vid := q.1 }) (fun r => Zgv r _) (fun r h => ⟨h.1, h.2.1, h.2.2.1, h.2.2.2.1, h.2.2.2.2.1, rfl, h.2.2.2.2.2.2⟩) (fun r => ⟨rfl, rfl⟩) ⟨rfl, rfl⟩ (fun w s => WP.ret ⟨rfl, s⟩))
 rw [if_neg h2]
 refine WP.ite (fun h => absurd (k2.1 h) h2) (fun _ => ?_)
 by_cases h3 : strI t = tx "from"
 ·rw [if_pos h3]
  refine WP.ite (fun _ => WP.step (Zmf s) ?_) (fun h => absurd (k3.2 h3) h)
  intro n w h
  unfold Zax.K1
  cases hp : Zf3 e m.Kind m.Proto ws with
  | error f =>
   rw [hp] at h
   exact WP.nilck (setD (o := 6) h (fun r => { r with From := n }) (fun r => ZdC r _) (fun w s => WP.ret ⟨rfl, s⟩))
  | ok q =>
   rw [hp] at h
   exact WP.nilck (Zss h (fun w s => WP.ret ⟨rfl, s⟩))
 rw [if_neg h3]
 refine WP.ite (fun h => absurd (k3.1 h) h3) (fun _ => ?_)
 by_cases h4 : strI t = tx "to"
 ·rw [if_pos h4]
  refine WP.ite (fun _ => WP.step (Zmf s) ?_) (fun h => absurd (k4.2 h4) h)
  intro n w h
  unfold Zax.K1
  cases hp : Zf3 e m.Kind m.Proto ws with
  | error f =>
   rw [hp] at h
   exact WP.nilck (setD (o := 9) h (fun r => { r with To := n }) (fun r => Zem r _) (fun w s => WP.ret ⟨rfl, s⟩))
  | ok q =>
   rw [hp] at h
   exact WP.nilck (ZtZ h (fun w s => WP.ret ⟨rfl, s⟩))
 rw [if_neg h4]
 refine WP.ite (fun h => absurd (k4.1 h) h4) (fun _ => ?_)
 by_cases h5 : strI t = tx "flags"
 ·rw [if_pos h5]
  refine WP.ite (fun _ => WP.step (ZoT (m := m) (p := (m.Set, m.Clear)) hb fi ef s) ?_) (fun h => absurd (k5.2 h5) h)
  intro n w h
  unfold Zax.K1
  refine WP.ret ⟨rfl, ?_⟩
  unfold Zq6 at h
  simp only at h
  cases hp : ZdK e m.Set m.Clear ws with
  | error f => rw [hp] at h; exact h
  | ok q => rw [hp] at h; exact h
 rw [if_neg h5]
 refine WP.ite (fun h => absurd (k5.1 h) h5) (fun _ => ?_)
 by_cases h6 : strI t = tx "type"
 ·rw [if_pos h6]
  refine WP.ite (fun _ => WP.step (ZiR s 0 255) ?_) (fun h => absurd (k6.2 h6) h)
  intro n w h
  unfold Zax.K1
  cases hp : numP e 0 255 ws with
  | error f =>
   rw [hp] at h
   exact WP.nilck (setD (o := 14) h (fun r => { r with Type_ := IntKind.wrap .i64 (n + 1) }) (fun r => ZfA r _) (fun w s => WP.ret ⟨rfl, s⟩))
  | ok q =>
   rw [hp] at h
   obtain ⟨rfl, s⟩ := h
   have hr : 0 ≤ q.1 ∧ q.1 ≤ 255 := by
    cases ws with
    | nil => cases hp
    | cons x xs =>
     rw [show numP e 0 255 (x :: xs) = if x.1 = comma then .error (160, x.2) else match numR x.1 0 255 with
      | none => .error (162, x.2)
      | some n => .ok (n, xs) from rfl] at hp
     split at hp
     ·cases hp
     ·split at hp
      ·cases hp
      ·rename_i n hn
       cases hp
       unfold numR at hn
       split at hn
       ·cases hn
       ·split at hn
        ·rename_i hh
         cases hn
         exact hh
        ·cases hn
   have hw : IntKind.wrap .i64 (q.1 + 1) = q.1 + 1 := Zat (by omega) (by omega)
   rw [hw]
   exact WP.nilck (setA (o := 14) (m' := { m with Type_ := q.1 + 1 }) s (fun r => { r with Type_ := q.1 + 1 }) (fun r => ZfA r _) (fun r h => ⟨h.1, h.2.1, h.2.2.1, h.2.2.2.1, h.2.2.2.2.1, h.2.2.2.2.2.1, h.2.2.2.2.2.2.1, h.2.2.2.2.2.2.2.1, rfl, h.2.2.2.2.2.2.2.2.2⟩) (fun r => ⟨rfl, rfl⟩) ⟨rfl, rfl⟩ (fun w s => WP.ret ⟨rfl, s⟩))
 rw [if_neg h6]
 refine WP.ite (fun h => absurd (k6.1 h) h6) (fun _ => ?_)
 by_cases h7 : strI t = tx "pieces"
 ·rw [if_pos h7]
  unfold Zax.K1
  exact WP.ite (fun _ => WP.nilck (setA (o := 15) (m' := { m with Pieces := true }) s (fun r => { r with Pieces := true }) (fun r => ZhQ r _) (fun r h => ⟨h.1, h.2.1, h.2.2.1, h.2.2.2.1, h.2.2.2.2.1, h.2.2.2.2.2.1, h.2.2.2.2.2.2.1, h.2.2.2.2.2.2.2.1, h.2.2.2.2.2.2.2.2.1, rfl⟩) (fun r => ⟨rfl, rfl⟩) ⟨rfl, rfl⟩ (fun w s => WP.ret ⟨rfl, s⟩))) (fun h => absurd (k7.2 h7) h)
 rw [if_neg h7]
 exact WP.ite (fun h => absurd (k7.1 h) h7) (fun _ => WP.ret ⟨rfl, s⟩)
end
end Go.Proofs.YtpmhinidiplhiaaDoor.Lx
