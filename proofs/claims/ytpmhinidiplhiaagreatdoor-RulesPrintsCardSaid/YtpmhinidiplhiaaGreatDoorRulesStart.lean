
import Derived.Test.YtpmhinidiplhiaaGreatDoorRulesSame
set_option linter.unusedVariables false
set_option linter.unusedSimpArgs false
namespace Go.Proofs.YtpmhinidiplhiaaGreatDoor.Lx
open Go Go.Proofs Go.RowKit
structure RTab (L : List HP) : Prop where
 n : ∃ i, nth L i = some TabN
 a : ∃ i, nth L i = some (NmP 0 actB)
 k : ∃ i, nth L i = some (NmP 1 ZhE)
 f : ∃ i, nth L i = some (NmP 2 ZfC)
theorem RTab.push {L : List HP} {A : HP} (h : RTab L) : RTab (A :: L) := by
 obtain ⟨⟨a, ha⟩, ⟨b, hb⟩, ⟨c, hc⟩, ⟨d, hd⟩⟩ := h
 exact ⟨⟨a + 1, ha⟩, ⟨b + 1, hb⟩, ⟨c + 1, hc⟩, ⟨d + 1, hd⟩⟩
theorem ZrO {m : Za9} (h : ckM m = 0) : (m.From.nets.length ≤ 9000000000000 ∧ m.From.ports.length ≤ 9000000000000) ∧ m.To.nets.length ≤ 9000000000000 ∧ m.To.ports.length ≤ 9000000000000 := by
 have key : ∀ {s : ZcT} {kind proto : Int}, Zd6 s kind proto = 0 → s.nets.length ≤ 9000000000000 ∧ s.ports.length ≤ 9000000000000 := by
  intro s kind proto h
  unfold Zd6 at h
  split at h
  ·cases h
  ·rename_i h1
   split at h
   ·cases h
   ·split at h
    ·cases h
    ·rename_i h3
     exact ⟨by omega, by omega⟩
 obtain ⟨-, -, h1, h2⟩ := ZqG h
 exact ⟨key h1, key h2⟩
def BytR (m : Za9) : Prop := Byts m.From.nets ∧ Byts m.To.nets
section
variable {W w : World} {Hs : List HP}
theorem ZpX (s : Ss W Hs w) (T : RTab Hs) (t : ByteArray) : WP (Zao t) w (fun r w' => ParR W Hs r w' (Zrp (strI t))) := by
 obtain ⟨⟨a, ha⟩, ⟨b, hb⟩, ⟨c, hc⟩, ⟨d, hd⟩⟩ := T
 exact Zm4 s b hb c hc d hd t
theorem Zmt {r : Zag} {m : Za9} (s : Ss W Hs w) (T : RTab Hs) (rr : RdR Hs r m) : WP (Zco r) w (fun y w' => y = (if ckM m ≠ 0 then (ByteArray.empty, ckM m) else (bstr (ZmH m), 0)) ∧ Ss W Hs w') := by
 obtain ⟨⟨a, ha⟩, ⟨b, hb⟩, ⟨c, hc⟩, ⟨d, hd⟩⟩ := T
 exact Zm3 s rr a ha b hb c hc d hd
theorem ZjX (n : Int) : WP (ZcB n) w (fun y w' => y = n ∧ w = w') := WP.ret ⟨rfl, rfl⟩
theorem Zrt {r : Zag} {m : Za9} (s : Ss W (Zua r m :: Hs) w) (hb : BytR m) : ∃ A B C D : HP, Ss W (A :: B :: C :: D :: Hs) w ∧ RdR (A :: B :: C :: D :: Hs) r m := by
 obtain ⟨h, hh⟩ := s.has (i := 0) rfl
 have sc := hh.1
 have s := Ss.split (s.first (B := seps [ZhO r.From m.From, ZhO r.To m.To]) (fun h hh => hh.2))
 obtain ⟨q1, n1, s⟩ := s.openx 0 rfl
 have s := Ss.split (l := [vec cPfx r.From.Nets m.From.nets q1.1, vec cRg r.From.Ports m.From.ports q1.2]) s
 obtain ⟨q2, n2, s⟩ := s.openx 2 rfl
 have s := s.use [2] rfl
 have s := Ss.split (l := [vec cPfx r.To.Nets m.To.nets q2.1, vec cRg r.To.Ports m.To.ports q2.2]) s
 exact ⟨_, _, _, _, s, sc, ⟨n1, hb.1, ⟨2, _, rfl, Zc9⟩, ⟨3, _, rfl, Zc9⟩⟩, ⟨n2, hb.2, ⟨0, _, rfl, Zc9⟩, ⟨1, _, rfl, Zc9⟩⟩⟩
def netX : Zap := ⟨⟨4, ⟨[10, 0, 0, 0, 0, 0, 0, 0, 0, 0, 0, 0, 0, 0, 0, 0], rfl⟩⟩, 8⟩
theorem ZqL : BytR ZoW := ⟨fun p hp => by
 rw [List.mem_singleton.1 hp]
 exact Zhq (by decide), fun p hp => by cases hp⟩
theorem arr1 {α : Type} {c : Cod α} {x : α} {b : Nat} (s : Ss W (pts true (pt b 0) ((c.arr 1).enc ⟨[x], rfl⟩) :: Hs) w) : Ss W (vec c ⟨some (pt b 0), 1, 1⟩ [x] [] :: Hs) w := by
 refine s.first (fun h hh => ?_)
 rw [Cod.arr_enc] at hh
 exact Ztm (l := [x]) (sp := []) hh
theorem ZsU (s : Ss W Hs w) : WP ZcC w (fun r w' => r.1 = bstr Zpb ∧ ∃ A B C D : HP, Ss W (A :: B :: C :: D :: Hs) w' ∧ RdR (A :: B :: C :: D :: Hs) r.2 ZoW) := by
 unfold ZcC
 have e : Zsw = bstr Zpb := by decide +kernel
 rw [e]
 have s := s.mk0 (A := vec cPfx Sl.nil [] []) Zdo
 have s := s.mk0 (A := vec cRg Sl.nil [] []) Zdo
 have sc : ∀ {f t : Zae}, RSc (⟨1, ZaP.Class, ZaP.Kind, 6, ZaP.In, ZaP.Vid, f, t, ZaP.Set, ZaP.Clear, ZaP.Type_, ZaP.Pieces⟩ : Zag) ZoW := ⟨rfl, rfl, rfl, rfl, rfl, rfl, rfl, rfl, rfl, rfl⟩
 refine WP.slot' s (fun _ w s => WP.slot' s (fun _ w s => WP.draws s (fun σ w s => WP.ite (fun _ => ?_) (fun _ => ?_))))
 ·refine WP.newv s (fun b1 w s => ?_)
  have s := arr1 (c := cPfx) (x := netX) s
  refine WP.newv s (fun b2 w s => ?_)
  have s := arr1 (c := cRg) (x := ⟨80, 80⟩) s
  exact WP.ret ⟨rfl, _, _, _, _, s, sc, ⟨rfl, ZqL.1, ⟨1, _, rfl, Zc9⟩, ⟨2, _, rfl, Zc9⟩⟩, ⟨rfl, ZqL.2, ⟨3, _, rfl, Zc9⟩, ⟨0, _, rfl, Zc9⟩⟩⟩
 ·refine WP.newv s (fun b1 w s => ?_)
  have s := arr1 (c := cRg) (x := ⟨80, 80⟩) s
  refine WP.newv s (fun b2 w s => ?_)
  have s := arr1 (c := cPfx) (x := netX) s
  exact WP.ret ⟨rfl, _, _, _, _, s, sc, ⟨rfl, ZqL.1, ⟨0, _, rfl, Zc9⟩, ⟨2, _, rfl, Zc9⟩⟩, ⟨rfl, ZqL.2, ⟨3, _, rfl, Zc9⟩, ⟨1, _, rfl, Zc9⟩⟩⟩
theorem ZqM : Byt Zpb := Zhq (by decide +kernel)
theorem Znc {β : Type} {p : Prop} [Decidable p] {f : Bool → M β} {Q : β → World → Prop} (hp : p) {X : M Bool} {R : World → Prop} (hX : WP X w (fun y w' => y = true ∧ R w')) (k : ∀ w', R w' → WP (f true) w' Q) : WP ((if p then X else pure false) >>= f) w Q := by
 refine WP.step (R := fun y w' => y = true ∧ R w') (WP.ite (fun _ => hX) (fun h => absurd hp h)) ?_
 rintro _ w ⟨rfl, r⟩
 exact k w r
theorem ZoT (s : Ss W Hs w) (T : RTab Hs) : WP Zcv w (fun y w' => y = true ∧ Ss W Hs w') := by
 unfold Zcv
 refine WP.step (ZsU s) ?_
 rintro ⟨t, r⟩ w ⟨ht, A, B, C, D, s, rr⟩
 dsimp only at ht rr ⊢
 generalize hbs : bstr Zpb = bs at ht
 subst ht
 have T4 := T.push (A := D) |>.push (A := C) |>.push (A := B) |>.push (A := A)
 refine WP.slot' s (fun _ w s => WP.step (ZpX s T4 t) ?_)
 rintro ⟨q1, q2⟩ w h
 rw [← hbs, Zgt ZqM, ZtE] at h
 obtain ⟨h1, s1⟩ := h
 dsimp only at h1 s1 ⊢
 subst h1
 clear s
 obtain ⟨A', B', C', D', s, rq⟩ := Zrt s1 ZqL
 clear s1
 have T8 := T4.push (A := D') |>.push (A := C') |>.push (A := B') |>.push (A := A')
 have rr8 := rr.push (A := D') |>.push (A := C') |>.push (A := B') |>.push (A := A')
 refine WP.slot' s (fun _ w s => WP.step (Zmt s T8 rr8) ?_)
 rintro _ w ⟨rfl, s⟩
 rw [ck_x, if_neg (by decide), ZtL]
 rw [hbs]
 dsimp only
 refine WP.step (ZjX _) ?_
 rintro _ _ ⟨rfl, rfl⟩
 refine Znc (R := fun w' => w = w') rfl (WP.ret ⟨rfl, rfl⟩) ?_
 rintro _ rfl
 refine Znc (R := fun w' => Ss W (A' :: B' :: C' :: D' :: A :: B :: C :: D :: Hs) w') rfl (WP.step (ZqZ s rq rr8 (ZrO ck_x)) (fun y w h => WP.ret ⟨h.1.trans (decide_eq_true rfl), h.2⟩)) ?_
 intro w s
 refine Znc (R := fun w' => w = w') rfl (WP.step (ZjX _) ?_) ?_
 ·rintro _ _ ⟨rfl, rfl⟩
  exact WP.ret ⟨rfl, rfl⟩
 rintro _ rfl
 refine Znc (R := fun w' => w = w') rfl (WP.ret ⟨beq_self_eq_true _, rfl⟩) ?_
 rintro _ rfl
 refine Znc (R := fun w' => Ss W (A' :: B' :: C' :: D' :: A :: B :: C :: D :: Hs) w') rfl (WP.step (Zl4 s rr8) ?_) ?_
 ·rintro _ w ⟨rfl, s⟩
  rw [ck_x]
  refine WP.step (ZjX _) ?_
  rintro _ _ ⟨rfl, rfl⟩
  exact WP.ret ⟨rfl, s⟩
 intro w s
 exact WP.ret ⟨rfl, s.drop.drop.drop.drop.drop.drop.drop.drop⟩
end
end Go.Proofs.YtpmhinidiplhiaaGreatDoor.Lx
