
import Derived.Test.YtpmhinidiplhiaaDoorRulesStart
set_option linter.unusedVariables false
set_option linter.unusedSimpArgs false
namespace Go.Proofs.YtpmhinidiplhiaaDoor.Lx
open Go Go.Proofs Go.RowKit
theorem Zlm : ∀ (l cur : List Int) (p : Int) (ws : List Wd), lexM cur p l = .ok ws → Byt l
 | [], _, _, _, _ => fun x hx => by cases hx
 | c :: cs, cur, p, ws, h => by
  rw [lexM] at h
  have cons : (0 ≤ c ∧ c ≤ 255) → Byt cs → Byt (c :: cs) := fun h1 h2 x hx => by
   rcases List.mem_cons.1 hx with rfl | hx
   ·exact h1
   ·exact h2 x hx
  split at h
  ·rename_i hw
   have := of_decide_eq_true hw
   exact cons (by omega) (Zlm cs _ _ _ h)
  ·split at h
   ·cases h
   ·rename_i r hr
    split at hr
    ·rename_i h44
     split at hr
     ·cases hr
     ·rename_i r2 h2
      exact cons (by omega) (Zlm cs _ _ _ h2)
    ·split at hr
     ·rename_i h32
      exact cons (by omega) (Zlm cs _ _ _ hr)
     ·cases hr
theorem Zqg {m : ZaO} (hb : BytR m) (hc : ckM m = 0) : Byt (Zh6 m) := by
 obtain ⟨hf, -, k1, k2⟩ := Zov hc
 obtain ⟨ws, h, -⟩ := ZkG (Zlv hf) (Zgp hb.1 k1) (Zgp hb.2 k2)
 exact Zlm _ _ _ _ h
def prM (m : ZaO) : ByteArray × Int := if ckM m ≠ 0 then (ByteArray.empty, ckM m) else (bstr (Zh6 m), 0)
theorem Ztn (m : ZaO) : ∃ t, prM m = (t, ckM m) ∧ (ckM m = 0 → t = bstr (Zh6 m)) ∧ (ckM m ≠ 0 → t = ByteArray.empty) := by
 unfold prM
 by_cases h : ckM m = 0
 ·rw [if_neg (fun h' => h' h)]
  exact ⟨_, by rw [h], fun _ => rfl, fun h' => absurd h h'⟩
 ·rw [if_pos h]
  exact ⟨_, rfl, fun h' => absurd h' h, fun _ => rfl⟩
section
variable {W w : World} {Hs : List HP}
theorem Zmj {r : Zas} {m : ZaO} (s : Ss W Hs w) (T : RTab Hs) (rr : RdR Hs r m) : WP (Zby r) w (fun y w' => y = prM m ∧ Ss W Hs w') := Zmi s T rr
end
end Go.Proofs.YtpmhinidiplhiaaDoor.Lx
