/- Names and numbers (weirlaw0): the tables, -5 as a text, the two lists. -/
import Derived.Test.YtfjcjecgalijfaaDoorAddrItoa
import Derived.Test.YtfjcjecgalijfaaDoorLxQ
set_option linter.unusedVariables false
set_option linter.unusedSimpArgs false
set_option maxRecDepth 100000
namespace Go.Proofs.YtfjcjecgalijfaaDoor.Lx
open Go Go.Proofs Go.RowKit
theorem map_lit {k : IntKind} {a b : List Int} (h : a.map (fun x => (DataW.lit (.int k x) : DataW Unit)) = b.map fun x => DataW.lit (.int k x)) : a = b := by
  refine (List.map_inj_right (f := fun x => (DataW.lit (.int k x) : DataW Unit)) ?_).1 h
  intro x y e
  cases e
  rfl
theorem arr_lit {k : IntKind} {n : Nat} {a b : Vec Int n} (h : (DataW.agg (a.l.map (fun x => DataW.lit (.int k x))) : DataW Unit) = DataW.agg (b.l.map fun x => DataW.lit (.int k x))) : a = b := by
  obtain ⟨a, ha⟩ := a
  obtain ⟨b, hb⟩ := b
  have : a = b := map_lit (DataW.agg.inj h)
  subst this
  rfl
theorem tabs {W : World} (h : Laid W) : Ss W [TabN] W := by
  obtain ⟨u0, u1, u2, _, ⟨d1, c1⟩, ⟨d2, c2⟩⟩ := laid_of h
  obtain rfl : u1 = dbV := arr_lit (d1.symm.trans (by rfl))
  obtain rfl : u2 = pow10V := arr_lit (d2.symm.trans (by rfl))
  have s0 : Ss W [] W := Ss.start W
  have s := (s0.tab (by decide) c1).tab (by decide) c2
  exact s.merge (fun h1 h2 h l1 l2 a b => ⟨pts_up l1 a, pts_up l2 b⟩)
section
variable {W w : World} {Hs : List HP}
theorem WP.cuth {β : Type} {a : Addr} {L C n : Nat} {hi : Int} {f : Sl → M β} {Q : β → World → Prop} (h1 : 0 ≤ hi) (h2 : hi ≤ C) (h3 : C ≠ 0) (g : WP (f ⟨some a, hi.toNat, C⟩) w Q) : WP (Lx.cut n ⟨some a, L, C⟩ none (some hi) none >>= f) w Q := by
  refine WP.bind ⟨_, w, ?_, g⟩
  unfold Lx.cut
  simp only [Option.getD_none, Option.getD_some]
  rw [if_pos (by omega)]
  have : ¬ ((C : Int).toNat = (0 : Int).toNat) := by simp; omega
  simp only [if_neg this, Option.map_some]
  congr 2
  simp [Addr.add]
theorem neg5_wp (s : Ss W Hs w) (i : Nat) (e : nth Hs i = some TabN) : WP (strconv_FormatInt (-5) 10) w (fun r w' => r = bstr [45, 53] ∧ Ss W Hs w') := by
  unfold strconv_FormatInt
  refine WP.ite (fun _ => ?_) (fun h => absurd rfl h)
  refine WP.step (R := fun y w' => y = false ∧ w = w') (WP.ite (fun h => absurd h (by decide)) (fun _ => WP.ret ⟨rfl, rfl⟩)) ?_
  rintro _ _ ⟨rfl, rfl⟩
  refine WP.ite (fun h => by cases h) (fun _ => WP.newv s (fun b w s => WP.ite (fun _ => ?_) (fun h => absurd (by decide) h)))
  rw [show IntKind.wrap .u64 (0 - IntKind.wrap .u64 (-5)) = ((5 : Nat) : Int) by decide]
  unfold strconv_FormatInt.K1
  refine WP.step (numDigits_wp s (i + 1) e (by decide) (by decide)) ?_
  rintro _ _ ⟨rfl, rfl⟩
  rw [show IntKind.wrap .i64 (1 + ((ndig 5 : Nat) : Int)) = 2 by decide]
  have hs : Ss W (pts true (pt b 0) (([0] ++ [0] ++ List.replicate 22 0 : List Int).flatMap (cI .u8).enc) :: Hs) w := by
    rw [Cod.arr_enc] at s
    exact s
  refine WP.cutlh (by omega) (by omega) (by omega) (by omega) ?_
  refine WP.step (base10_wp (a := pt b 0) (cap := 24 - (1 : Int).toNat) (pre := [0]) (suf := List.replicate 22 0) 5 (by decide) (xs := [0]) rfl hs) ?_
  rintro _ w s
  refine WP.ite (fun _ => ?_) (fun h => absurd (by decide) h)
  refine WP.st s 0 rfl (o := 0) (by simp [Addr.add]) (upd_r (c := cI .u8) (l := [0] ++ dec3 5 ++ List.replicate 22 0) (i := 0) 45 (by decide)) (fun w s => ?_)
  refine WP.cuth (by omega) (by omega) (by omega) ?_
  have hat : At ((([0] ++ dec3 5 ++ List.replicate 22 0 : List Int).set 0 45).flatMap (cI .u8).enc) 0 (([45, 53] : List Int).flatMap (cI .u8).enc) := ⟨[], (List.replicate 22 (0 : Int)).flatMap (cI .u8).enc, by rfl, rfl⟩
  have hr := ((Holds.pts (q := true) (a := pt b 0)).at_ hat).rdb (c := cI .u8) (k := 24)
  refine WP.toStr s 0 rfl (xs := [45, 53]) (by simpa [Addr.add] using hr) (WP.ret ⟨rfl, s.drop⟩)
theorem itoa_neg5 (s : Ss W Hs w) (i : Nat) (e : nth Hs i = some TabN) : WP (strconv_Itoa_ (-5)) w (fun r w' => r = bstr [45, 53] ∧ Ss W Hs w') := by
  unfold strconv_Itoa_
  refine WP.step (R := fun r w' => r = bstr [45, 53] ∧ Ss W Hs w') ?_ (fun r w h => WP.ret h)
  unfold strconv_Itoa
  exact WP.step (neg5_wp s i e) (fun r w h => WP.ret h)
abbrev cPr := c_weirlaw0_pair
def Pairs (W : World) (Hs : List HP) (r : Sl) (w : World) : Prop := ∃ (L : List weirlaw0_pair) (b : Nat), (L.all fun x => x.is == x.want) = true ∧ L.length ≤ 1000 ∧ r = ⟨some (pt b 0), L.length, L.length⟩ ∧ Ss W (pts true (pt b 0) (L.flatMap cPr.enc) :: Hs) w
theorem errs_wp (s : Ss W Hs w) : WP weirlaw0_errs w (Pairs W Hs) := by
  unfold weirlaw0_errs
  refine WP.newv s (fun b w s => ?_)
  rw [Cod.arr_enc] at s
  exact WP.ret ⟨_, b, by rfl, by decide, rfl, s⟩
theorem limits_wp (s : Ss W Hs w) : WP weirlaw0_limits w (Pairs W Hs) := by
  unfold weirlaw0_limits
  refine WP.newv s (fun b w s => ?_)
  rw [Cod.arr_enc] at s
  exact WP.ret ⟨_, b, by rfl, by decide, rfl, s⟩
end
end Go.Proofs.YtfjcjecgalijfaaDoor.Lx
