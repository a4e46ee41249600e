
import Derived.Test.YtfgcobigollfjaaDoorAddrRefE
import Derived.Test.YtfgcobigollfjaaDoorAddrRefA2
import Derived.Test.YtfgcobigollfjaaDoorAddrClass
set_option linter.unusedVariables false
set_option linter.unusedSimpArgs false
namespace Go.Proofs.YtfgcobigollfjaaDoor.Lx
open Go Go.Proofs Go.RowKit
def pfx (n : Zb3) : Zar := ⟨⟨n.v, n.a⟩, n.bits⟩
structure NetT (t : ByteArray) (n : Zb3) : Prop where
 p : Zi6 (strI t) = (pfx n, 0, 0)
 v : vpM (pfx n) = 0
 b : Byt n.a.l
theorem t0 : NetT str1 ⟨4, v16 [], 32, 1⟩ := ⟨by decide +kernel, by decide +kernel, by unfold Byt; decide +kernel⟩
theorem t1 : NetT str2 ⟨6, v16 [], 128, 1⟩ := ⟨by decide +kernel, by decide +kernel, by unfold Byt; decide +kernel⟩
theorem t2 : NetT str3 ⟨4, v16 [127], 8, 2⟩ := ⟨by decide +kernel, by decide +kernel, by unfold Byt; decide +kernel⟩
theorem t3 : NetT str4 ⟨6, v16 (List.replicate 15 0 ++ [1]), 128, 2⟩ := ⟨by decide +kernel, by decide +kernel, by unfold Byt; decide +kernel⟩
theorem t4 : NetT str5 ⟨4, v16 [224], 4, 3⟩ := ⟨by decide +kernel, by decide +kernel, by unfold Byt; decide +kernel⟩
theorem t5 : NetT str6 ⟨6, v16 [255], 8, 3⟩ := ⟨by decide +kernel, by decide +kernel, by unfold Byt; decide +kernel⟩
theorem t6 : NetT str7 ⟨4, v16 [169, 254], 16, 4⟩ := ⟨by decide +kernel, by decide +kernel, by unfold Byt; decide +kernel⟩
theorem t7 : NetT str8 ⟨6, v16 [254, 128], 10, 4⟩ := ⟨by decide +kernel, by decide +kernel, by unfold Byt; decide +kernel⟩
theorem t8 : NetT str9 ⟨4, v16 [255, 255, 255, 255], 32, 5⟩ := ⟨by decide +kernel, by decide +kernel, by unfold Byt; decide +kernel⟩
theorem t9 : NetT Znn ⟨4, v16 [], 8, 6⟩ := ⟨by decide +kernel, by decide +kernel, by unfold Byt; decide +kernel⟩
theorem t10 : NetT Znm ⟨4, v16 [240], 4, 6⟩ := ⟨by decide +kernel, by decide +kernel, by unfold Byt; decide +kernel⟩
theorem t11 : NetT Znl ⟨6, v16 [], 8, 6⟩ := ⟨by decide +kernel, by decide +kernel, by unfold Byt; decide +kernel⟩
section
variable {W w : World} {Hs : List HP}
theorem ZlZ (s : Ss W Hs w) {t : ByteArray} {n : Zb3} (h : NetT t n) (ip : ZaH) (hb : Byt ip.A.l) (hs : Zbo ip > 0) : WP (Zbx t ip) w (fun r w' => r = Zdn ip n ∧ Ss W Hs w') := by
 unfold Zbx
 refine WP.slot' s (fun _ w s => WP.step (ZgK s t) ?_)
 rintro _ w ⟨rfl, s⟩
 rw [h.p]
 refine WP.slot' s (fun _ w s => WP.step (Zgg s _ h.b ip hb) ?_)
 rintro _ w ⟨rfl, s⟩
 refine WP.ret ⟨?_, s⟩
 unfold ctM Zdn
 exact decide_eq_decide.2 ⟨fun x => x.2.2, fun x => ⟨h.v, hs, x⟩⟩
theorem Zil {β : Type} (s : Ss W Hs w) {t t' : ByteArray} {n n' : Zb3} (h : NetT t n) (h' : NetT t' n') (ip : ZaH) (hb : Byt ip.A.l) (hs : Zbo ip > 0) {f : Bool → M β} {Q : β → World → Prop} (k : ∀ w', Ss W Hs w' → WP (f (Zdn ip n || Zdn ip n')) w' Q) :
  WP (Zbx t ip >>= fun r => (if r = true then pure true else Zbx t' ip >>= fun r2 => pure r2) >>= f) w Q := by
 refine WP.step (ZlZ s h ip hb hs) ?_
 rintro _ w ⟨rfl, s⟩
 refine WP.step (R := fun y w' => y = (Zdn ip n || Zdn ip n') ∧ Ss W Hs w') (WP.ite (fun h1 => WP.ret ⟨by rw [h1]; rfl, s⟩) (fun h1 => WP.step (ZlZ s h' ip hb hs) ?_)) ?_
 ·rintro _ w ⟨rfl, s⟩
  refine WP.ret ⟨?_, s⟩
  cases hx : Zdn ip n with
  | true => exact absurd hx h1
  | false => rfl
 rintro _ w ⟨rfl, s⟩
 exact k w s
theorem ZkL (s : Ss W Hs w) (ip : ZaH) (hb : Byt ip.A.l) : WP (Zct ip) w (fun r w' => r = ZcB ip ∧ Ss W Hs w') := by
 unfold Zct
 refine WP.slot' s (fun _ w s => WP.step (ZgJ s ip) ?_)
 rintro _ w ⟨rfl, s⟩
 refine WP.ite (fun h => WP.ret ⟨by unfold ZcB; rw [if_neg (fun h' => h (decide_eq_true h'))], s⟩) (fun h => ?_)
 have hs : Zbo ip > 0 := of_decide_eq_true (Decidable.not_not.1 h)
 have hc : ZcB ip = if Zdn ip ⟨4, v16 [], 32, 1⟩ = true then 1 else if Zdn ip ⟨6, v16 [], 128, 1⟩ = true then 1 else if Zdn ip ⟨4, v16 [127], 8, 2⟩ = true then 2 else if Zdn ip ⟨6, v16 (List.replicate 15 0 ++ [1]), 128, 2⟩ = true then 2 else if Zdn ip ⟨4, v16 [224], 4, 3⟩ = true then 3 else if Zdn ip ⟨6, v16 [255], 8, 3⟩ = true then 3 else if Zdn ip ⟨4, v16 [169, 254], 16, 4⟩ = true then 4 else if Zdn ip ⟨6, v16 [254, 128], 10, 4⟩ = true then 4 else if Zdn ip ⟨4, v16 [255, 255, 255, 255], 32, 5⟩ = true then 5 else if Zdn ip ⟨4, v16 [], 8, 6⟩ = true then 6 else if Zdn ip ⟨4, v16 [240], 4, 6⟩ = true then 6 else if Zdn ip ⟨6, v16 [], 8, 6⟩ = true then 6 else 7 := by
  unfold ZcB
  rw [if_pos hs]
  rfl
 rw [hc]
 refine Zil s t0 t1 ip hb hs (fun w s => WP.ite (fun h0 => WP.ret ⟨?_, s⟩) (fun h0 => ?_))
 ·rcases Bool.or_eq_true_iff.1 h0 with h | h
  ·rw [if_pos h]
  ·rw [if_pos h]
   split <;> rfl
 rw [Bool.or_eq_true_iff, not_or] at h0
 rw [if_neg h0.1, if_neg h0.2]
 refine Zil s t2 t3 ip hb hs (fun w s => WP.ite (fun h0 => WP.ret ⟨?_, s⟩) (fun h0 => ?_))
 ·rcases Bool.or_eq_true_iff.1 h0 with h | h
  ·rw [if_pos h]
  ·rw [if_pos h]
   split <;> rfl
 rw [Bool.or_eq_true_iff, not_or] at h0
 rw [if_neg h0.1, if_neg h0.2]
 refine Zil s t4 t5 ip hb hs (fun w s => WP.ite (fun h0 => WP.ret ⟨?_, s⟩) (fun h0 => ?_))
 ·rcases Bool.or_eq_true_iff.1 h0 with h | h
  ·rw [if_pos h]
  ·rw [if_pos h]
   split <;> rfl
 rw [Bool.or_eq_true_iff, not_or] at h0
 rw [if_neg h0.1, if_neg h0.2]
 refine Zil s t6 t7 ip hb hs (fun w s => WP.ite (fun h0 => WP.ret ⟨?_, s⟩) (fun h0 => ?_))
 ·rcases Bool.or_eq_true_iff.1 h0 with h | h
  ·rw [if_pos h]
  ·rw [if_pos h]
   split <;> rfl
 rw [Bool.or_eq_true_iff, not_or] at h0
 rw [if_neg h0.1, if_neg h0.2]
 refine WP.step (ZlZ s t8 ip hb hs) ?_
 rintro _ w ⟨rfl, s⟩
 refine WP.ite (fun h0 => WP.ret ⟨by rw [if_pos h0], s⟩) (fun h0 => ?_)
 rw [if_neg h0]
 refine Zil s t9 t10 ip hb hs (fun w s => ?_)
 refine WP.step (R := fun y w' => y = ((Zdn ip ⟨4, v16 [], 8, 6⟩ || Zdn ip ⟨4, v16 [240], 4, 6⟩) || Zdn ip ⟨6, v16 [], 8, 6⟩) ∧ Ss W Hs w') (WP.ite (fun h1 => WP.ret ⟨by rw [h1]; rfl, s⟩) (fun h1 => WP.step (ZlZ s t11 ip hb hs) ?_)) ?_
 ·rintro _ w ⟨rfl, s⟩
  refine WP.ret ⟨?_, s⟩
  cases hx : (Zdn ip ⟨4, v16 [], 8, 6⟩ || Zdn ip ⟨4, v16 [240], 4, 6⟩) with
  | true => exact absurd hx h1
  | false => rfl
 rintro _ w ⟨rfl, s⟩
 refine WP.ite (fun h0 => WP.ret ⟨?_, s⟩) (fun h0 => WP.ret ⟨?_, s⟩)
 ·rcases Bool.or_eq_true_iff.1 h0 with h | h
  ·rcases Bool.or_eq_true_iff.1 h with h | h
   ·rw [if_pos h]
   ·rw [if_pos h]
    split <;> rfl
  ·rw [if_pos h]
   split
   ·rfl
   ·split <;> rfl
 ·rw [Bool.or_eq_true_iff, Bool.or_eq_true_iff, not_or, not_or] at h0
  rw [if_neg h0.1.1, if_neg h0.1.2, if_neg h0.2]
end
end Go.Proofs.YtfgcobigollfjaaDoor.Lx
