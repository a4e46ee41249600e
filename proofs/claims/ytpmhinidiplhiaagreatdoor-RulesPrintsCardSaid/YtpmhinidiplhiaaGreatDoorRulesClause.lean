
import Derived.Test.YtpmhinidiplhiaaGreatDoorRulesFlags
set_option linter.unusedVariables false
set_option linter.unusedSimpArgs false
namespace Go.Proofs.YtpmhinidiplhiaaGreatDoor.Lx
open Go Go.Proofs Go.RowKit
theorem Zuk : strI Zsu = tx "on" := by decide +kernel
theorem Ztn : strI Zst = tx "vid" := by decide +kernel
theorem Zso : strI Zks = tx "from" := by decide +kernel
theorem Zuj : strI Zmd = tx "to" := by decide +kernel
theorem Zn2 : strI Znh = tx "flags" := by decide +kernel
theorem Zpy : strI Zng = tx "type" := by decide +kernel
theorem ZpA : strI Zss = tx "pieces" := by decide +kernel
section
variable {W w : World} {Hs : List HP} {b : Nat} {wl : List ZaI} {e : Int} {m : Za9} {ws : List Wd} {f : PF}
theorem ZsH {β : Type} {sd : Zae} {sm : ZcT} {g : Unit → M β} {Q : β → World → Prop} (s : Ss W (ZhO sd sm :: RrA b wl e m ws :: Hs) w) (k : ∀ w, Ss W (RrA b wl e { m with From := sm } ws :: Hs) w → WP (g ()) w Q) : WP (st Zaw (Addr.add (Addr.add (pt b 0) 3) 6) sd >>= g) w Q := by
 obtain ⟨⟨rr, i⟩, hq, s⟩ := Zgo (s.use [1] (s := [_]) (r := _ :: Hs) rfl)
 obtain ⟨h1, h2, h3, h4, h5, h6, h7⟩ := hq
 refine WP.st s 0 rfl (o := 3 + 6) rfl ((ZbN rr).trans' (ZdN rr.rule sd) (Zdt rr _)) (fun w s => k w ?_)
 refine Zi3 (q := (⟨rr.l, rr.i, rr.end_, { rr.rule with From := sd }, rr.err, rr.at_⟩, i)) ⟨h1, h2, h3, h4, h5, h6, h7⟩ ?_
 have s := (s.use [2] rfl).drop
 have s := s.use [0, 0, 1] rfl
 exact s
theorem Zuo {β : Type} {sd : Zae} {sm : ZcT} {g : Unit → M β} {Q : β → World → Prop} (s : Ss W (ZhO sd sm :: RrA b wl e m ws :: Hs) w) (k : ∀ w, Ss W (RrA b wl e { m with To := sm } ws :: Hs) w → WP (g ()) w Q) : WP (st Zaw (Addr.add (Addr.add (pt b 0) 3) 9) sd >>= g) w Q := by
 obtain ⟨⟨rr, i⟩, hq, s⟩ := Zgo (s.use [1] (s := [_]) (r := _ :: Hs) rfl)
 obtain ⟨h1, h2, h3, h4, h5, h6, h7⟩ := hq
 refine WP.st s 0 rfl (o := 3 + 9) rfl ((ZbN rr).trans' (Zeb rr.rule sd) (Zdt rr _)) (fun w s => k w ?_)
 refine Zi3 (q := (⟨rr.l, rr.i, rr.end_, { rr.rule with To := sd }, rr.err, rr.at_⟩, i)) ⟨h1, h2, h3, h4, h5, h6, h7⟩ ?_
 have s := (s.use [3] rfl).drop
 exact s
def ClR (W : World) (Hs : List HP) (b : Nat) (wl : List ZaI) (e : Int) (m : Za9) (ws : List Wd) (r : Bool) (w : World) : Option (PE (Za9 × List Wd)) → Prop
 | none => r = false ∧ Ss W (RrA b wl e m ws :: Hs) w
 | some X => r = true ∧ RulR W Hs b wl e w X
theorem Znw (hb : B255 (m.Set, m.Clear)) (fi : Nat) (ef : nth Hs fi = some (NmP 2 ZfC)) (t : ByteArray) (s : Ss W (RrA b wl e m ws :: Hs) w) : WP (ZaB (some (pt b 0)) t) w (fun r w' => ClR W Hs b wl e m ws r w' (Zf6 e (strI t) m ws)) := by
 unfold ZaB Zf6
 have k1 : t.toList = (Zsu).toList ↔ strI t = tx "on" := by rw [ZbX, Zuk]
 have k2 : t.toList = (Zst).toList ↔ strI t = tx "vid" := by rw [ZbX, Ztn]
 have k3 : t.toList = (Zks).toList ↔ strI t = tx "from" := by rw [ZbX, Zso]
 have k4 : t.toList = (Zmd).toList ↔ strI t = tx "to" := by rw [ZbX, Zuj]
 have k5 : t.toList = (Znh).toList ↔ strI t = tx "flags" := by rw [ZbX, Zn2]
 have k6 : t.toList = (Zng).toList ↔ strI t = tx "type" := by rw [ZbX, Zpy]
 have k7 : t.toList = (Zss).toList ↔ strI t = tx "pieces" := by rw [ZbX, ZpA]
 by_cases h1 : strI t = tx "on"
 ·rw [if_pos h1]
  refine WP.ite (fun _ => WP.step (ZpM s) ?_) (fun h => absurd (k1.2 h1) h)
  intro n w h
  cases hp : Znz e ws with
  | error f =>
   rw [hp] at h
   exact WP.nilck (setD (o := 4) h (fun r => { r with In := IntKind.wrap .i64 (n + 1) }) (fun r => Zht r _) (fun w s => WP.ret ⟨rfl, s⟩))
  | ok q =>
   rw [hp] at h
   obtain ⟨rfl, s⟩ := h
   have hr : 0 ≤ q.1 ∧ q.1 ≤ 7 := by
    cases ws with
    | nil => cases hp
    | cons x xs =>
     rw [show Znz e (x :: xs) = if x.1 = comma then .error (160, x.2) else match (if x.1.head? = some 112 then numR x.1.tail 0 7 else none) with
      | none => .error (162, x.2)
      | some n => .ok (n, xs) from rfl] at hp
     split at hp
     ·cases hp
     ·split at hp
      ·cases hp
      ·rename_i n hn
       cases hp
       split at hn
       ·unfold numR at hn
        split at hn
        ·cases hn
        ·split at hn
         ·rename_i hh
          cases hn
          exact hh
         ·cases hn
       ·cases hn
   have hw : IntKind.wrap .i64 (q.1 + 1) = q.1 + 1 := Zah (by omega) (by omega)
   rw [hw]
   exact WP.nilck (setA (o := 4) (m' := { m with In := q.1 + 1 }) s (fun r => { r with In := q.1 + 1 }) (fun r => Zht r _) (fun r h => ⟨h.1, h.2.1, h.2.2.1, h.2.2.2.1, rfl, h.2.2.2.2.2⟩) (fun r => ⟨rfl, rfl⟩) ⟨rfl, rfl⟩ (fun w s => WP.ret ⟨rfl, s⟩))
 rw [if_neg h1]
 refine WP.ite (fun h => absurd (k1.1 h) h1) (fun _ => ?_)
 by_cases h2 : strI t = tx "vid"
 ·rw [if_pos h2]
  refine WP.ite (fun _ => WP.step (Zjj s 1 4094) ?_) (fun h => absurd (k2.2 h2) h)
  intro n w h
  cases hp : numP e 1 4094 ws with
  | error f =>
   rw [hp] at h
   exact WP.nilck (setD (o := 5) h (fun r => { r with Vid := n }) (fun r => ZgW r _) (fun w s => WP.ret ⟨rfl, s⟩))
  | ok q =>
   rw [hp] at h
   obtain ⟨rfl, s⟩ := h
   exact WP.nilck (setA (o := 5) (m' := { m with Vid := q.1 }) s (fun r => { r with Vid := q.1 }) (fun r => ZgW r _) (fun r h => ⟨h.1, h.2.1, h.2.2.1, h.2.2.2.1, h.2.2.2.2.1, rfl, h.2.2.2.2.2.2⟩) (fun r => ⟨rfl, rfl⟩) ⟨rfl, rfl⟩ (fun w s => WP.ret ⟨rfl, s⟩))
 rw [if_neg h2]
 refine WP.ite (fun h => absurd (k2.1 h) h2) (fun _ => ?_)
 by_cases h3 : strI t = tx "from"
 ·rw [if_pos h3]
  refine WP.ite (fun _ => WP.step (Zmo s) ?_) (fun h => absurd (k3.2 h3) h)
  intro n w h
  unfold ZaB.K1
  cases hp : Zmf e m.Kind m.Proto ws with
  | error f =>
   rw [hp] at h
   exact WP.nilck (setD (o := 6) h (fun r => { r with From := n }) (fun r => ZdN r _) (fun w s => WP.ret ⟨rfl, s⟩))
  | ok q =>
   rw [hp] at h
   exact WP.nilck (ZsH h (fun w s => WP.ret ⟨rfl, s⟩))
 rw [if_neg h3]
 refine WP.ite (fun h => absurd (k3.1 h) h3) (fun _ => ?_)
 by_cases h4 : strI t = tx "to"
 ·rw [if_pos h4]
  refine WP.ite (fun _ => WP.step (Zmo s) ?_) (fun h => absurd (k4.2 h4) h)
  intro n w h
  unfold ZaB.K1
  cases hp : Zmf e m.Kind m.Proto ws with
  | error f =>
   rw [hp] at h
   exact WP.nilck (setD (o := 9) h (fun r => { r with To := n }) (fun r => Zeb r _) (fun w s => WP.ret ⟨rfl, s⟩))
  | ok q =>
   rw [hp] at h
   exact WP.nilck (Zuo h (fun w s => WP.ret ⟨rfl, s⟩))
 rw [if_neg h4]
 refine WP.ite (fun h => absurd (k4.1 h) h4) (fun _ => ?_)
 by_cases h5 : strI t = tx "flags"
 ·rw [if_pos h5]
  refine WP.ite (fun _ => WP.step (ZoY (m := m) (p := (m.Set, m.Clear)) hb fi ef s) ?_) (fun h => absurd (k5.2 h5) h)
  intro n w h
  unfold ZaB.K1
  refine WP.ret ⟨rfl, ?_⟩
  unfold Zq5 at h
  simp only at h
  cases hp : Zfs e m.Set m.Clear ws with
  | error f => rw [hp] at h; exact h
  | ok q => rw [hp] at h; exact h
 rw [if_neg h5]
 refine WP.ite (fun h => absurd (k5.1 h) h5) (fun _ => ?_)
 by_cases h6 : strI t = tx "type"
 ·rw [if_pos h6]
  refine WP.ite (fun _ => WP.step (Zjj s 0 255) ?_) (fun h => absurd (k6.2 h6) h)
  intro n w h
  unfold ZaB.K1
  cases hp : numP e 0 255 ws with
  | error f =>
   rw [hp] at h
   exact WP.nilck (setD (o := 14) h (fun r => { r with Type_ := IntKind.wrap .i64 (n + 1) }) (fun r => ZfU r _) (fun w s => WP.ret ⟨rfl, s⟩))
  | ok q =>
   rw [hp] at h
   obtain ⟨rfl, s⟩ := h
   have hr : 0 ≤ q.1 ∧ q.1 ≤ 255 := by
    cases ws with
    | nil => cases hp
    | cons x xs =>
     rw [show numP e 0 255 (x :: xs) = if x.1 = comma then .error (160, x.2) else match numR x.1 0 255 with
      | none => .error (162, x.2)
      | some n => .ok (n, xs) from rfl] at hp
     split at hp
     ·cases hp
     ·split at hp
      ·cases hp
      ·rename_i n hn
       cases hp
       unfold numR at hn
       split at hn
       ·cases hn
       ·split at hn
        ·rename_i hh
         cases hn
         exact hh
        ·cases hn
   have hw : IntKind.wrap .i64 (q.1 + 1) = q.1 + 1 := Zah (by omega) (by omega)
   rw [hw]
   exact WP.nilck (setA (o := 14) (m' := { m with Type_ := q.1 + 1 }) s (fun r => { r with Type_ := q.1 + 1 }) (fun r => ZfU r _) (fun r h => ⟨h.1, h.2.1, h.2.2.1, h.2.2.2.1, h.2.2.2.2.1, h.2.2.2.2.2.1, h.2.2.2.2.2.2.1, h.2.2.2.2.2.2.2.1, rfl, h.2.2.2.2.2.2.2.2.2⟩) (fun r => ⟨rfl, rfl⟩) ⟨rfl, rfl⟩ (fun w s => WP.ret ⟨rfl, s⟩))
 rw [if_neg h6]
 refine WP.ite (fun h => absurd (k6.1 h) h6) (fun _ => ?_)
 by_cases h7 : strI t = tx "pieces"
 ·rw [if_pos h7]
  unfold ZaB.K1
  exact WP.ite (fun _ => WP.nilck (setA (o := 15) (m' := { m with Pieces := true }) s (fun r => { r with Pieces := true }) (fun r => Zik r _) (fun r h => ⟨h.1, h.2.1, h.2.2.1, h.2.2.2.1, h.2.2.2.2.1, h.2.2.2.2.2.1, h.2.2.2.2.2.2.1, h.2.2.2.2.2.2.2.1, h.2.2.2.2.2.2.2.2.1, rfl⟩) (fun r => ⟨rfl, rfl⟩) ⟨rfl, rfl⟩ (fun w s => WP.ret ⟨rfl, s⟩))) (fun h => absurd (k7.2 h7) h)
 rw [if_neg h7]
 exact WP.ite (fun h => absurd (k7.1 h) h7) (fun _ => WP.ret ⟨rfl, s⟩)
end
end Go.Proofs.YtpmhinidiplhiaaGreatDoor.Lx
