
import Derived.Test.YtpmhinidiplhiaaDoorRulesStart
set_option linter.unusedVariables false
set_option linter.unusedSimpArgs false
namespace Go.Proofs.YtpmhinidiplhiaaDoor.Lx
open Go Go.Proofs Go.RowKit
theorem Zk3 : ∀ (l cur : List Int) (p : Int) (ws : List Wd), lexM cur p l = .ok ws → Byt l
 | [], _, _, _, _ => fun x hx => by cases hx
 | c :: cs, cur, p, ws, h => by
  rw [lexM] at h
  have cons : (0 ≤ c ∧ c ≤ 255) → Byt cs → Byt (c :: cs) := fun h1 h2 x hx => by
   rcases List.mem_cons.1 hx with rfl | hx
   ·exact h1
   ·exact h2 x hx
  split at h
  ·rename_i hw
   have := of_decide_eq_true hw
   exact cons (by omega) (Zk3 cs _ _ _ h)
  ·split at h
   ·cases h
   ·rename_i r hr
    split at hr
    ·rename_i h44
     split at hr
     ·cases hr
     ·rename_i r2 h2
      exact cons (by omega) (Zk3 cs _ _ _ h2)
    ·split at hr
     ·rename_i h32
      exact cons (by omega) (Zk3 cs _ _ _ hr)
     ·cases hr
theorem ZpO {m : ZaO} (hb : BytR m) (hc : ckM m = 0) : Byt (ZhT m) := by
 obtain ⟨hf, -, k1, k2⟩ := Zn5 hc
 obtain ⟨ws, h, -⟩ := Zkm (Zlb hf) (Zge hb.1 k1) (Zge hb.2 k2)
 exact Zk3 _ _ _ _ h
def prM (m : ZaO) : ByteArray × Int := if ckM m ≠ 0 then (ByteArray.empty, ckM m) else (bstr (ZhT m), 0)
theorem Zs0 (m : ZaO) : ∃ t, prM m = (t, ckM m) ∧ (ckM m = 0 → t = bstr (ZhT m)) ∧ (ckM m ≠ 0 → t = ByteArray.empty) := by
 unfold prM
 by_cases h : ckM m = 0
 ·rw [if_neg (fun h' => h' h)]
  exact ⟨_, by rw [h], fun _ => rfl, fun h' => absurd h h'⟩
 ·rw [if_pos h]
  exact ⟨_, rfl, fun h' => absurd h' h, fun _ => rfl⟩
section
variable {W w : World} {Hs : List HP}
theorem RdR.byt {r : Zaq} {m : ZaO} (h : RdR Hs r m) : BytR m := ⟨h.from_.byts, h.to_.byts⟩
theorem Zpw {r : Zaq} {m : ZaO} (s : Ss W Hs w) (T : RTab Hs) (rr : RdR Hs r m) : WP (ZbI r) w (fun y w' => y = prM m ∧ Ss W Hs w') := ZlW s T rr
theorem ZmB {a : Zaq} {m : ZaO} (s : Ss W Hs w) (T : RTab Hs) (r : RdR Hs a m) : WP (ZbN a) w (fun y w' => y = true ∧ ∃ L, Ss W L w') := by
 unfold ZbN
 obtain ⟨t, ht, h0, h1⟩ := Zs0 m
 refine WP.slot' s (fun _ w s => WP.step (Zlu s r) ?_)
 rintro _ w ⟨rfl, s⟩
 refine WP.step (Zpw s T r) ?_
 rintro _ w ⟨rfl, s⟩
 rw [ht]
 dsimp only
 refine WP.step (ZgV _) ?_
 rintro _ _ ⟨rfl, rfl⟩
 refine WP.step (ZgV _) ?_
 rintro _ _ ⟨rfl, rfl⟩
 refine WP.ite (fun h => absurd rfl h) (fun _ => WP.step (ZgV _) ?_)
 rintro _ _ ⟨rfl, rfl⟩
 refine WP.ite (fun hc => WP.step (ZhL s T) ?_) (fun hc => ?_)
 ·rintro _ w ⟨rfl, s⟩
  refine ZkG (R := fun w' => w = w') rfl (WP.ret ⟨?_, rfl⟩) ?_
  ·rw [h1 hc]
   exact beq_self_eq_true _
  rintro _ rfl
  exact WP.ret ⟨rfl, _, s⟩
 have hc : ckM m = 0 := Decidable.not_not.1 hc
 have hb := r.byt
 have htb := h0 hc
 subst htb
 refine WP.ite (fun h => WP.step (ZhL s T) ?_) (fun h => WP.step (Zl0 s T _) ?_)
 ·rintro _ w ⟨rfl, s⟩
  exact WP.ret ⟨rfl, _, s⟩
 rw [ZcP] at h
 rintro ⟨q1, q2⟩ w hq
 rw [Zfh (ZpO hb hc), Zpk hb.1 hb.2 hc (by omega)] at hq
 obtain ⟨e2, s1⟩ := hq
 dsimp only at e2 s1 ⊢
 subst e2
 clear s
 obtain ⟨A, B, C, D, s, rq⟩ := ZnE s1 hb
 clear s1
 refine WP.slot' s (fun _ w s => WP.step (ZhL s (T.push (A := D) |>.push (A := C) |>.push (A := B) |>.push (A := A))) ?_)
 rintro _ w ⟨rfl, s⟩
 refine ZkG (R := fun w' => w = w') rfl (WP.step (ZgV _) ?_) ?_
 ·rintro _ _ ⟨rfl, rfl⟩
  exact WP.ret ⟨rfl, rfl⟩
 rintro _ rfl
 refine ZkG (R := fun w' => w = w') rfl (WP.ret ⟨rfl, rfl⟩) ?_
 rintro _ rfl
 refine ZkG (R := fun w' => Ss W (A :: B :: C :: D :: Hs) w') rfl (WP.step (ZqA s rq (r.push (A := D) |>.push (A := C) |>.push (A := B) |>.push (A := A)) (Zn3 hc)) (fun y w h => WP.ret ⟨h.1.trans (decide_eq_true rfl), h.2⟩)) ?_
 intro w s
 exact WP.ret ⟨rfl, _, s⟩
end
end Go.Proofs.YtpmhinidiplhiaaDoor.Lx
