
import Derived.Test.YtpmhinidiplhiaaGreatDoorRulesReader
set_option linter.unusedVariables false
set_option linter.unusedSimpArgs false
namespace Go.Proofs.YtpmhinidiplhiaaGreatDoor.Lx
open Go Go.Proofs Go.RowKit
def NmP (g : Nat) (l : List ByteArray) : HP := ex (fun _ : Sl => True) (fun sl => seps [pts false ⟨g, 0, none⟩ (cL.enc sl), rdS cS false sl l])
theorem Ro.nmP {g : Nat} {l : List ByteArray} : Ro (NmP g l) := Ro.ex fun sl => Ro.seps fun A hA => by
 simp only [List.mem_cons, List.not_mem_nil, or_false] at hA
 rcases hA with rfl | rfl
 ·exact Ro.pts
 ·exact Ro.rdS
def idxI (l : List (List Int)) (t : List Int) : Int := match idxT l t with
 | none => -1
 | some k => (k : Int)
theorem Zqk (x : List Int) (l : List (List Int)) (t : List Int) : idxT (x :: l) t = if x = t then some 0 else (idxT l t).map (· + 1) := by
 unfold idxT
 rw [List.findIdx?_cons]
 by_cases h : x = t
 ·simp [h]
 ·simp [h]
theorem Zj0 {l : List (List Int)} {t : List Int} {k : Nat} (h : idxT l t = some k) : k < l.length := by
 unfold idxT at h
 exact (List.findIdx?_eq_some_iff_getElem.1 h).1
def actB : List ByteArray := actN.map bstr
def ZhE : List ByteArray := ZeS.map bstr
theorem ZqW : actB.map strI = actN := by decide +kernel
theorem ZrC : ZhE.map strI = ZeS := by decide +kernel
theorem Zr4 : strI Zlt = tx "any" := by decide +kernel
theorem Zrg : strI Ztt = tx "class" := by decide +kernel
section
variable {W w : World} {Hs : List HP}
theorem ZrF {A : HP} {sl : Sl} {l : List ByteArray} (s : Ss W Hs w) (i : Nat) (e : nth Hs i = some A) (rd : Rdb A cS sl l) (hl : l.length ≤ 1000) (t : ByteArray) : WP (Zat sl t) w (fun r w' => r = idxI (l.map strI) (strI t) ∧ w = w') := by
 unfold Zat
 have hn := (s.rd_len e rd).1
 refine WP.loopG (γ := Nat) (fun k (x : Int) w' => x = (k : Int) ∧ k ≤ l.length ∧ idxI (l.map strI) (strI t) = (match idxT ((l.drop k).map strI) (strI t) with
  | none => -1
  | some j => ((k + j : Nat) : Int)) ∧ w = w') (fun k _ => l.length - k) 0 ⟨rfl, Nat.zero_le _, by unfold idxI; simp, rfl⟩ ?_
 rintro k _ _ ⟨rfl, hk, hi, rfl⟩
 show WP (Zat.L1 sl t (k : Int)) w _
 unfold Zat.L1
 refine WP.ite (fun h => ?_) (fun h => WP.done ⟨?_, rfl⟩)
 ·have h1 : k < l.length := by omega
  have hd : (l.drop k).map strI = strI l[k] :: (l.drop (k + 1)).map strI := by rw [List.drop_eq_getElem_cons h1, List.map_cons]
  rw [hd, Zqk] at hi
  refine WP.rdx s i e rd (by omega) (x := l[k]) (by rw [Int.toNat_natCast, List.getElem?_eq_getElem h1]) rfl (WP.ite (fun h2 => WP.done ⟨?_, rfl⟩) (fun h2 => WP.next ⟨k + 1, ⟨?_, h1, ?_, rfl⟩, by omega⟩))
  ·rw [ZbX] at h2
   rw [hi, if_pos h2.symm]
   rfl
  ·rw [Zah (by omega) (by omega)]
   omega
  ·rw [ZbX] at h2
   rw [hi, if_neg (fun h => h2 h.symm)]
   cases idxT ((l.drop (k + 1)).map strI) (strI t) with
   | none => rfl
   | some j =>
    simp only [Option.map_some]
    congr 1
    omega
 ·have : k = l.length := by omega
  subst this
  rw [hi, List.drop_length]
  rfl
theorem Zg3 {β : Type} {g : Nat} {l : List ByteArray} {t : ByteArray} {F : Int → M β} {Q : β → World → Prop} (s : Ss W Hs w) (i : Nat) (e : nth Hs i = some (NmP g l)) (hl : l.length ≤ 1000) (k : WP (F (idxI (l.map strI) (strI t))) w Q) : WP (ld cL ⟨g, 0, none⟩ >>= fun x => Zat x t >>= F) w Q := by
 obtain ⟨sl, -, s1⟩ := (s.dup e Ro.nmP).openx 0 rfl
 have s1 : Ss W (pts false ⟨g, 0, none⟩ (cL.enc sl) :: rdS cS false sl l :: Hs) w := Ss.split (l := [_, _]) s1
 refine WP.ld (x := sl) s1 0 rfl (o := 0) (by simp [Addr.add]) (At.whole _) (WP.step (ZrF s1 1 rfl ZdQ hl t) ?_)
 rintro _ _ ⟨rfl, rfl⟩
 exact k
variable {b : Nat} {wl : List ZaI} {e : Int} {m : Za9} {ws : List Wd} {f : PF}
theorem ldD {β α : Type} {c : Cod α} {o : Nat} {F : α → M β} {Q : β → World → Prop} (s : Ss W (RrD b f :: Hs) w) (g : Zag → α) (ha : ∀ r, At (Zak.enc r) o (c.enc (g r))) (k : ∀ x, WP (F x) w Q) : WP (ld c (Addr.add (Addr.add (pt b 0) 3) o) >>= F) w Q := by
 obtain ⟨rr, hq, s1⟩ := s.openx 0 rfl
 exact WP.ld (x := g rr.rule) s1 0 rfl (o := 3 + o) (by rw [Zei]) ((ZbN rr).trans (ha rr.rule)) (k _)
theorem ldA {β α : Type} {c : Cod α} {o : Nat} {v : α} {F : α → M β} {Q : β → World → Prop} (s : Ss W (RrA b wl e m ws :: Hs) w) (g : Zag → α) (ha : ∀ r, At (Zak.enc r) o (c.enc (g r))) (hv : ∀ r, RSc r m → g r = v) (k : WP (F v) w Q) : WP (ld c (Addr.add (Addr.add (pt b 0) 3) o) >>= F) w Q := by
 obtain ⟨⟨rr, i⟩, hq, s1⟩ := Zgo s
 refine WP.ld (x := g rr.rule) s1 0 rfl (o := 3 + o) (by rw [Zei]) ((ZbN rr).trans (ha rr.rule)) ?_
 rw [hv rr.rule hq.2.2.2.2.2.2]
 exact k
def ZsP : List Wd → Bool
 | [] => false
 | v :: _ => ZeT v.1
def Zq9 (e : Int) (k : Nat) : List Wd → PE ((Int × Int) × List Wd)
 | [] => .ok (((k : Int) + 1, 0), [])
 | v :: r => if ZeT v.1 = true then (match ZgE e ((k : Int) + 1) v r with
  | .error f => .error f
  | .ok (n, r) => .ok (((k : Int) + 1, n), r)) else .ok (((k : Int) + 1, 0), v :: r)
theorem Zuq {β : Type} {F : Bool → M β} {Q : β → World → Prop} (s : Ss W (RrA b wl e m ws :: Hs) w) (k : WP (F (ZsP ws)) w Q) (hk : ∀ w', Ss W (RrA b wl e m ws :: Hs) w' → WP (F (ZsP ws)) w' Q) :
  WP ((nilck (some (pt b 0)) >>= fun p102 => ld (cI .i64) (Addr.add p102 1) >>= fun x103 => nilck (some (pt b 0)) >>= fun p104 => ld cL p104 >>= fun x105 => pure (decide (x103 < (x105.len : Int)))) >>= fun y106 =>
   (if y106 = true then nilck (some (pt b 0)) >>= fun p107 => ld cL p107 >>= fun x108 => nilck (some (pt b 0)) >>= fun p109 => ld (cI .i64) (Addr.add p109 1) >>= fun x110 => idx x108.a x108.len x110 2 >>= fun p111 => ld Zbm p111 >>= fun x112 => Zdf x112 >>= fun r113 => pure r113 else pure false) >>= F) w Q := by
 obtain ⟨⟨rr, i⟩, hq, s1⟩ := Zgo s
 obtain ⟨h1, h2, h3, h4, h5, h6, h7⟩ := id hq
 simp only at h1 h2 h3 h4 h5 h6 h7 s1
 have hl := (s1.rd_cap (i := 1) rfl).1
 refine WP.step (R := fun y w' => y = decide (i < wl.length) ∧ w = w') (WP.nilck (WP.ld (x := rr.i) s1 0 rfl (o := 1) rfl (Zbx _) (WP.nilck (WP.ld (x := rr.l) s1 0 rfl (o := 0) (by simp [Addr.add]) (Zb3 _) (WP.ret ⟨?_, rfl⟩))))) ?_
 ·rw [h1, hl]
  exact decide_eq_decide.2 (by omega)
 rintro _ _ ⟨rfl, rfl⟩
 cases ws with
 | nil =>
  have := ZlQ h6 h4
  refine WP.step (R := fun y w' => y = false ∧ w = w') (WP.ite (fun h => absurd (of_decide_eq_true h) (by omega)) (fun _ => WP.ret ⟨rfl, rfl⟩)) ?_
  rintro _ _ ⟨rfl, rfl⟩
  exact k
 | cons v r =>
  obtain ⟨d, hd, hx, hxs, hi⟩ := Zib h6
  refine WP.step (R := fun y w' => y = ZeT v.1 ∧ Ss W (RrA b wl e m (v :: r) :: Hs) w') (WP.ite (fun _ => ?_) (fun h => absurd (decide_eq_true hi) h)) ?_
  ·refine WP.nilck (WP.ld (x := rr.l) s1 0 rfl (o := 0) (by simp [Addr.add]) (Zb3 _) (WP.nilck (WP.ld (x := rr.i) s1 0 rfl (o := 1) rfl (Zbx _) ?_)))
   rw [h1]
   refine WP.rdx s1 1 rfl ZdQ (by omega) (x := d) (by rw [Int.toNat_natCast]; exact hd) rfl (WP.step (Zm0 s d) ?_)
   rintro _ w ⟨rfl, s⟩
   refine WP.ret ⟨?_, s⟩
   rw [← hx]
   rfl
  rintro _ w ⟨rfl, s⟩
  exact hk w s
theorem ZkM (w : Wd) (ws : List Wd) : Zmb e (w :: ws) = if w.1 = tx "any" then .ok ((0, 0), ws) else match idxT ZeS w.1 with
  | none => if ZeT w.1 = true then (match ZgE e 0 w ws with
    | .error f => .error f
    | .ok (n, r) => .ok ((0, n), r)) else .error (160, w.2)
  | some k => Zq9 e k ws := rfl
def Zps (m : Za9) (X : PE ((Int × Int) × List Wd)) : PE (Za9 × List Wd) := match X with
 | .error f => .error f
 | .ok (k, r) => .ok ({ m with Kind := k.1, Proto := k.2 }, r)
theorem Zqp (s : Ss W (RrA b wl e m ws :: Hs) w) (h0 : m.Kind = 0 ∧ m.Proto = 0) (ik : Nat) (ek : nth Hs ik = some (NmP 1 ZhE)) :
  WP (Zay.K1 (some (pt b 0))) w (fun _ w' => RulR W Hs b wl e w' (Zps m (Zmb e ws))) := by
 unfold Zay.K1
 have hm : ({ m with Kind := 0, Proto := 0 } : Za9) = m := by
  obtain ⟨h1, h2⟩ := h0
  cases m
  simp only at h1 h2
  subst h1
  subst h2
  rfl
 refine WP.step (ZgB s) ?_
 intro r w h
 cases ws with
 | nil =>
  obtain ⟨rfl, s1⟩ := h
  refine WP.nilck (errD s1 (fun h => ?_))
  refine WP.step (R := fun y w' => y = true ∧ w = w') (WP.ite (fun _ => WP.ret ⟨rfl, rfl⟩) (fun h' => absurd h h')) ?_
  rintro _ _ ⟨rfl, rfl⟩
  exact WP.ite (fun _ => WP.ret s1) (fun h => absurd rfl h)
 | cons x xs =>
  obtain ⟨hx, s1⟩ := h
  clear s
  have s := s1
  clear s1
  subst hx
  have hr : (wdOf r).1 = strI r.s := rfl
  rw [ZkM, hr]
  refine WP.nilck (errA s ?_)
  refine WP.step (R := fun y w' => y = decide (strI r.s = tx "any") ∧ w = w') (WP.ite (fun h => absurd rfl h) (fun _ => WP.ret ⟨?_, rfl⟩)) ?_
  ·rw [Bool.eq_iff_iff, beq_iff_eq, decide_eq_true_iff, ZbX, Zr4]
  rintro _ _ ⟨rfl, rfl⟩
  refine WP.ite (fun h => ?_) (fun h => ?_)
  ·rw [if_pos (of_decide_eq_true h)]
   show WP _ w (fun _ w' => Ss W (RrA b wl e { m with Kind := 0, Proto := 0 } xs :: Hs) w')
   rw [hm]
   exact WP.ret s
  rw [if_neg (fun h' => h (decide_eq_true h'))]
  refine Zg3 s (ik + 1) ek (by decide) ?_
  rw [ZrC]
  have hlt : ∀ k, idxT ZeS (strI r.s) = some k → k < 3 := fun k h => Zj0 h
  unfold idxI
  cases hk : idxT ZeS (strI r.s) with
  | none =>
   refine WP.nilck (setA (m' := m) s (fun r => { r with Kind := 0 }) (fun r => Zgh r _) (fun r h => ⟨h.1, h.2.1, h0.1.symm, h.2.2.2⟩) (fun r => ⟨rfl, rfl⟩) ⟨rfl, rfl⟩ (fun w s => WP.nilck (ZnK s ?_)))
   rw [h0.1]
   refine WP.step (R := fun y w' => y = ZeT (strI r.s) ∧ Ss W (RrA b wl e m xs :: Hs) w') (WP.ite (fun _ => WP.step (Zm0 s r) (fun y w h => WP.ret h)) (fun h => absurd rfl h)) ?_
   rintro _ w ⟨rfl, s⟩
   refine WP.ite (fun h2 => ?_) (fun h2 => ?_)
   ·rw [if_pos h2]
    refine WP.step (ZkR s r) ?_
    intro _ w h
    refine WP.ret ?_
    rw [h0.1] at h
    cases hp : ZgE e 0 (wdOf r) xs with
    | error f =>
     rw [hp] at h
     exact h
    | ok q =>
     rw [hp] at h
     exact h
   ·rw [if_neg h2]
    refine WP.nilck (ZnK s ?_)
    rw [h0.1]
    refine WP.ite (fun _ => WP.step (Zdg s (by decide) r.at_) ?_) (fun h => absurd rfl h)
    intro _ w s
    exact WP.ret s
  | some k =>
   have hk3 := hlt k hk
   have hw : IntKind.wrap .i64 ((k : Int) + 1) = (k : Int) + 1 := Zah (by omega) (by omega)
   simp only
   rw [hw]
   refine WP.nilck (setA (m' := { m with Kind := (k : Int) + 1 }) s (fun r => { r with Kind := (k : Int) + 1 }) (fun r => Zgh r _) (fun r h => ⟨h.1, h.2.1, rfl, h.2.2.2⟩) (fun r => ⟨rfl, rfl⟩) ⟨rfl, rfl⟩ (fun w s => WP.nilck (ZnK s ?_)))
   simp only
   refine WP.step (R := fun y w' => y = false ∧ w = w') (WP.ite (fun h => absurd h (by omega)) (fun _ => WP.ret ⟨rfl, rfl⟩)) ?_
   rintro _ _ ⟨rfl, rfl⟩
   refine WP.ite (fun h => by cases h) (fun _ => WP.nilck (ZnK s ?_))
   simp only
   refine WP.ite (fun h => absurd h (by omega)) (fun _ => WP.draw' s (fun w s => WP.nilck (ZnK s ?_)))
   simp only
   rw [if_pos (by omega)]
   have hmp : m.Proto = 0 := h0.2
   have fin : ∀ {w : World}, Ss W (RrA b wl e { m with Kind := (k : Int) + 1 } xs :: Hs) w → WP (if ZsP xs = true then ZaN (some (pt b 0)) >>= fun r117 => ZbW (some (pt b 0)) r117 >>= fun r118 => pure () else pure ()) w (fun _ w' => RulR W Hs b wl e w' (Zps m (Zq9 e k xs))) := by
    intro w s
    have hm3 : ({ m with Kind := (k : Int) + 1 } : Za9) = { m with Kind := (k : Int) + 1, Proto := 0 } := by
     cases m
     simp only at hmp
     rw [hmp]
    cases xs with
    | nil =>
     rw [hm3] at s
     exact WP.ite (fun h => by cases h) (fun _ => WP.ret s)
    | cons v r2 =>
     rw [show Zq9 e k (v :: r2) = if ZeT v.1 = true then (match ZgE e ((k : Int) + 1) v r2 with
      | .error f => .error f
      | .ok (n, r) => .ok (((k : Int) + 1, n), r)) else .ok (((k : Int) + 1, 0), v :: r2) from rfl]
     refine WP.ite (fun h2 => ?_) (fun h2 => ?_)
     ·rw [if_pos (show ZeT v.1 = true from h2)]
      refine WP.step (ZgB s) ?_
      rintro d w ⟨hd, s1⟩
      subst hd
      refine WP.step (ZkR s1 d) ?_
      intro _ w h
      refine WP.ret ?_
      simp only at h
      cases hp : ZgE e ((k : Int) + 1) (wdOf d) r2 with
      | error f =>
       rw [hp] at h
       exact h
      | ok q =>
       rw [hp] at h
       exact h
     ·rw [if_neg (show ¬ ZeT v.1 = true from h2)]
      rw [hm3] at s
      exact WP.ret s
   exact Zuq s (fin s) (fun w s => fin s)
end
end Go.Proofs.YtpmhinidiplhiaaGreatDoor.Lx
