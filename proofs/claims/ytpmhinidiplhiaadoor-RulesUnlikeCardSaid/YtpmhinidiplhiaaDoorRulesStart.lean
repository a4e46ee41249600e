
import Derived.Test.YtpmhinidiplhiaaDoorRulesSame
set_option linter.unusedVariables false
set_option linter.unusedSimpArgs false
namespace Go.Proofs.YtpmhinidiplhiaaDoor.Lx
open Go Go.Proofs Go.RowKit
structure RTab (L : List HP) : Prop where
 n : ∃ i, nth L i = some TabN
 a : ∃ i, nth L i = some (NmP 0 actB)
 k : ∃ i, nth L i = some (NmP 2 ZgX)
 f : ∃ i, nth L i = some (NmP 1 Zfl)
theorem RTab.push {L : List HP} {A : HP} (h : RTab L) : RTab (A :: L) := by
 obtain ⟨⟨a, ha⟩, ⟨b, hb⟩, ⟨c, hc⟩, ⟨d, hd⟩⟩ := h
 exact ⟨⟨a + 1, ha⟩, ⟨b + 1, hb⟩, ⟨c + 1, hc⟩, ⟨d + 1, hd⟩⟩
theorem Zn2 {m : ZaO} (h : ckM m = 0) : (m.From.nets.length ≤ 1000000 ∧ m.From.ports.length ≤ 1000000) ∧ m.To.nets.length ≤ 1000000 ∧ m.To.ports.length ≤ 1000000 := by
 have key : ∀ {s : Zc6} {kind proto : Int}, Zdq s kind proto = 0 → s.nets.length ≤ 1000000 ∧ s.ports.length ≤ 1000000 := by
  intro s kind proto h
  unfold Zdq at h
  split at h
  ·cases h
  ·rename_i h1
   split at h
   ·cases h
   ·split at h
    ·cases h
    ·rename_i h3
     exact ⟨by omega, by omega⟩
 obtain ⟨-, -, h1, h2⟩ := Zn4 h
 exact ⟨key h1, key h2⟩
def BytR (m : ZaO) : Prop := Byts m.From.nets ∧ Byts m.To.nets
section
variable {W w : World} {Hs : List HP}
theorem ZpD (s : Ss W Hs w) (T : RTab Hs) (t : ByteArray) : WP (Zai t) w (fun r w' => ParR W Hs r w' (Zor (strI t))) := by
 obtain ⟨⟨a, ha⟩, ⟨b, hb⟩, ⟨c, hc⟩, ⟨d, hd⟩⟩ := T
 exact ZmD s b hb c hc d hd t
theorem ZlW {r : Zap} {m : ZaO} (s : Ss W Hs w) (T : RTab Hs) (rr : RdR Hs r m) : WP (Zbz r) w (fun y w' => y = (if ckM m ≠ 0 then (ByteArray.empty, ckM m) else (bstr (ZgV m), 0)) ∧ Ss W Hs w') := by
 obtain ⟨⟨a, ha⟩, ⟨b, hb⟩, ⟨c, hc⟩, ⟨d, hd⟩⟩ := T
 exact ZmC s rr a ha b hb c hc d hd
theorem Zjd (n : Int) : WP (Zb6 n) w (fun y w' => y = n ∧ w = w') := WP.ret ⟨rfl, rfl⟩
theorem Zq3 {r : Zap} {m : ZaO} (s : Ss W (Ztt r m :: Hs) w) (hb : BytR m) : ∃ A B C D : HP, Ss W (A :: B :: C :: D :: Hs) w ∧ RdR (A :: B :: C :: D :: Hs) r m := by
 obtain ⟨h, hh⟩ := s.has (i := 0) rfl
 have sc := hh.1
 have s := Ss.split (s.first (B := seps [Zg8 r.From m.From, Zg8 r.To m.To]) (fun h hh => hh.2))
 obtain ⟨q1, n1, s⟩ := s.openx 0 rfl
 have s := Ss.split (l := [vec cPfx r.From.Nets m.From.nets q1.1, vec cRg r.From.Ports m.From.ports q1.2]) s
 obtain ⟨q2, n2, s⟩ := s.openx 2 rfl
 have s := s.use [2] rfl
 have s := Ss.split (l := [vec cPfx r.To.Nets m.To.nets q2.1, vec cRg r.To.Ports m.To.ports q2.2]) s
 exact ⟨_, _, _, _, s, sc, ⟨n1, hb.1, ⟨2, _, rfl, ZcV⟩, ⟨3, _, rfl, ZcV⟩⟩, ⟨n2, hb.2, ⟨0, _, rfl, ZcV⟩, ⟨1, _, rfl, ZcV⟩⟩⟩
def netX : Zak := ⟨⟨4, ⟨[10, 0, 0, 0, 0, 0, 0, 0, 0, 0, 0, 0, 0, 0, 0, 0], rfl⟩⟩, 8⟩
theorem Zqk : BytR Zoq := ⟨fun p hp => by
 rw [List.mem_singleton.1 hp]
 exact ZgH (by decide), fun p hp => by cases hp⟩
theorem arr1 {α : Type} {c : Cod α} {x : α} {b : Nat} (s : Ss W (pts true (pt b 0) ((c.arr 1).enc ⟨[x], rfl⟩) :: Hs) w) : Ss W (vec c ⟨some (pt b 0), 1, 1⟩ [x] [] :: Hs) w := by
 refine s.first (fun h hh => ?_)
 rw [Cod.arr_enc] at hh
 exact ZsJ (l := [x]) (sp := []) hh
theorem Zsh (s : Ss W Hs w) : WP Zb7 w (fun r w' => r.1 = bstr ZoH ∧ ∃ A B C D : HP, Ss W (A :: B :: C :: D :: Hs) w' ∧ RdR (A :: B :: C :: D :: Hs) r.2 Zoq) := by
 unfold Zb7
 have e : Zpd = bstr ZoH := by decide +kernel
 rw [e]
 have s := s.mk0 (A := vec cPfx Sl.nil [] []) ZcK
 have s := s.mk0 (A := vec cRg Sl.nil [] []) ZcK
 have sc : ∀ {f t : Zan}, RSc (⟨1, Zal.Class, Zal.Kind, 6, Zal.In, Zal.Vid, f, t, Zal.Set, Zal.Clear, Zal.Type_, Zal.Pieces⟩ : Zap) Zoq := ⟨rfl, rfl, rfl, rfl, rfl, rfl, rfl, rfl, rfl, rfl⟩
 refine WP.slot' s (fun _ w s => WP.slot' s (fun _ w s => WP.draws s (fun σ w s => WP.ite (fun _ => ?_) (fun _ => ?_))))
 ·refine WP.newv s (fun b1 w s => ?_)
  have s := arr1 (c := cPfx) (x := netX) s
  refine WP.newv s (fun b2 w s => ?_)
  have s := arr1 (c := cRg) (x := ⟨80, 80⟩) s
  exact WP.ret ⟨rfl, _, _, _, _, s, sc, ⟨rfl, Zqk.1, ⟨1, _, rfl, ZcV⟩, ⟨2, _, rfl, ZcV⟩⟩, ⟨rfl, Zqk.2, ⟨3, _, rfl, ZcV⟩, ⟨0, _, rfl, ZcV⟩⟩⟩
 ·refine WP.newv s (fun b1 w s => ?_)
  have s := arr1 (c := cRg) (x := ⟨80, 80⟩) s
  refine WP.newv s (fun b2 w s => ?_)
  have s := arr1 (c := cPfx) (x := netX) s
  exact WP.ret ⟨rfl, _, _, _, _, s, sc, ⟨rfl, Zqk.1, ⟨0, _, rfl, ZcV⟩, ⟨2, _, rfl, ZcV⟩⟩, ⟨rfl, Zqk.2, ⟨3, _, rfl, ZcV⟩, ⟨1, _, rfl, ZcV⟩⟩⟩
theorem Zql : Byt ZoH := ZgH (by decide +kernel)
theorem Zoh {β : Type} {p : Prop} [Decidable p] {f : Bool → M β} {Q : β → World → Prop} (hp : p) {X : M Bool} {R : World → Prop} (hX : WP X w (fun y w' => y = true ∧ R w')) (k : ∀ w', R w' → WP (f true) w' Q) : WP ((if p then X else pure false) >>= f) w Q := by
 refine WP.step (R := fun y w' => y = true ∧ R w') (WP.ite (fun _ => hX) (fun h => absurd hp h)) ?_
 rintro _ w ⟨rfl, r⟩
 exact k w r
theorem Zj6 (s : Ss W Hs w) (T : RTab Hs) : WP ZbN w (fun y w' => y = true ∧ Ss W Hs w') := by
 unfold ZbN
 refine WP.step (Zsh s) ?_
 rintro ⟨t, r⟩ w ⟨ht, A, B, C, D, s, rr⟩
 dsimp only at ht rr ⊢
 generalize hbs : bstr ZoH = bs at ht
 subst ht
 have T4 := T.push (A := D) |>.push (A := C) |>.push (A := B) |>.push (A := A)
 refine WP.slot' s (fun _ w s => WP.step (ZpD s T4 t) ?_)
 rintro ⟨q1, q2⟩ w h
 rw [← hbs, ZeB Zql, ZsY] at h
 obtain ⟨h1, s1⟩ := h
 dsimp only at h1 s1 ⊢
 subst h1
 clear s
 obtain ⟨A', B', C', D', s, rq⟩ := Zq3 s1 Zqk
 clear s1
 have T8 := T4.push (A := D') |>.push (A := C') |>.push (A := B') |>.push (A := A')
 have rr8 := rr.push (A := D') |>.push (A := C') |>.push (A := B') |>.push (A := A')
 refine WP.slot' s (fun _ w s => WP.step (ZlW s T8 rr8) ?_)
 rintro _ w ⟨rfl, s⟩
 rw [ck_x, if_neg (by decide), Zs6]
 rw [hbs]
 dsimp only
 refine WP.step (Zjd _) ?_
 rintro _ _ ⟨rfl, rfl⟩
 refine Zoh (R := fun w' => w = w') rfl (WP.ret ⟨rfl, rfl⟩) ?_
 rintro _ rfl
 refine Zoh (R := fun w' => Ss W (A' :: B' :: C' :: D' :: A :: B :: C :: D :: Hs) w') rfl (WP.step (ZqB s rq rr8 (Zn2 ck_x)) (fun y w h => WP.ret ⟨h.1.trans (decide_eq_true rfl), h.2⟩)) ?_
 intro w s
 refine Zoh (R := fun w' => w = w') rfl (WP.step (Zjd _) ?_) ?_
 ·rintro _ _ ⟨rfl, rfl⟩
  exact WP.ret ⟨rfl, rfl⟩
 rintro _ rfl
 refine Zoh (R := fun w' => w = w') rfl (WP.ret ⟨beq_self_eq_true _, rfl⟩) ?_
 rintro _ rfl
 refine Zoh (R := fun w' => Ss W (A' :: B' :: C' :: D' :: A :: B :: C :: D :: Hs) w') rfl (WP.step (Zob s rr8) ?_) ?_
 ·rintro _ w ⟨rfl, s⟩
  rw [ck_x]
  refine WP.step (Zjd _) ?_
  rintro _ _ ⟨rfl, rfl⟩
  exact WP.ret ⟨rfl, s⟩
 intro w s
 exact WP.ret ⟨rfl, s.drop.drop.drop.drop.drop.drop.drop.drop⟩
end
end Go.Proofs.YtpmhinidiplhiaaDoor.Lx
