/- Itoa and FormatInt (strconv of Go's library), of their programs in the M-world. -/
import Derived.Test.YtddmmgcfanpmmaaGreatDoorAddrNum
set_option linter.unusedVariables false
set_option linter.unusedSimpArgs false
namespace Go.Proofs.YtddmmgcfanpmmaaGreatDoor.Lx
open Go Go.Proofs Go.RowKit
theorem small_tab : ∀ k : _root_.Fin 100, (if k.val < 10 then (str2).extract k.val (k.val + 1) else (str3).extract (k.val * 2) (k.val * 2 + 2)) = bstr (dec3 k.val) := by decide +kernel
section
variable {W w : World} {Hs : List HP}
theorem WP.cutlh {β : Type} {a : Addr} {L C n : Nat} {lo hi : Int} {f : Sl → M β} {Q : β → World → Prop} (h0 : 0 ≤ lo) (h1 : lo ≤ hi) (h2 : hi ≤ C) (h3 : lo ≠ C) (g : WP (f ⟨some (a.add (lo.toNat * n)), hi.toNat - lo.toNat, C - lo.toNat⟩) w Q) : WP (Lx.cut n ⟨some a, L, C⟩ (some lo) (some hi) none >>= f) w Q := by
  refine WP.bind ⟨_, w, ?_, g⟩
  unfold Lx.cut
  simp only [Option.getD_none, Option.getD_some]
  rw [if_pos (by omega)]
  have : ¬ ((C : Int).toNat = lo.toNat) := by omega
  simp only [if_neg this, Option.map_some]
  congr 2
theorem small_wp {n : Nat} (h : n < 100) : WP (strconv_small (n : Int)) w (fun r w' => r = bstr (dec3 n) ∧ w = w') := by
  have ht := small_tab ⟨n, h⟩
  simp only at ht
  unfold strconv_small
  refine WP.ite (fun h => ?_) (fun h => ?_)
  · rw [wrap_i64 (by omega) (by omega), digs_size]
    refine WP.chk ⟨by omega, by omega, by omega⟩ (WP.ret ⟨?_, rfl⟩)
    rw [if_pos (by omega)] at ht
    rw [← ht]
    congr 1
  · rw [wrap_i64 (n := (n : Int) * 2) (by omega) (by omega), wrap_i64 (by omega) (by omega), smalls_size]
    refine WP.chk ⟨by omega, by omega, by omega⟩ (WP.ret ⟨?_, rfl⟩)
    rw [if_neg (by omega)] at ht
    rw [← ht]
    congr 1
theorem FormatInt10_wp (s : Ss W Hs w) (i : Nat) (e : nth Hs i = some TabN) {n : Nat} (h : n < 1000) : WP (strconv_FormatInt (n : Int) 10) w (fun r w' => r = bstr (dec3 n) ∧ Ss W Hs w') := by
  unfold strconv_FormatInt
  refine WP.ite (fun _ => ?_) (fun h => absurd rfl h)
  refine WP.step (R := fun y w' => y = decide (n < 100) ∧ w = w') (WP.ite (fun _ => WP.ret ⟨?_, rfl⟩) (fun h => absurd (by omega) h)) ?_
  · exact decide_eq_decide.2 ⟨fun h => by omega, fun h => by omega⟩
  rintro _ _ ⟨rfl, rfl⟩
  refine WP.ite (fun h' => ?_) (fun h' => ?_)
  · refine WP.step (small_wp (of_decide_eq_true h')) ?_
    rintro _ _ ⟨rfl, rfl⟩
    exact WP.ret ⟨rfl, s⟩
  have hn : ¬ n < 100 := fun h2 => h' (decide_eq_true h2)
  refine WP.newv s (fun b w s => ?_)
  refine WP.ite (fun h => absurd h (by omega)) (fun _ => ?_)
  rw [wrap_u64 (by omega) (by omega)]
  refine WP.step (numDigits_wp s (i + 1) e (by omega) h) ?_
  rintro _ _ ⟨rfl, rfl⟩
  have hnd : ndig n = 3 := by unfold ndig; rw [if_neg (by omega), if_neg hn]
  rw [wrap_i64 (by omega) (by omega)]
  have hs : Ss W (pts true (pt b 0) (([0] ++ [0, 0, 0] ++ List.replicate 20 0 : List Int).flatMap (cI .u8).enc) :: Hs) w := by
    rw [Cod.arr_enc] at s
    exact s
  refine WP.cutlh (by omega) (by omega) (by omega) (by omega) ?_
  have e1 : (1 + ((ndig n : Nat) : Int)).toNat - (1 : Int).toNat = ndig n := by omega
  rw [e1]
  refine WP.step (base10_wp (a := pt b 0) (cap := 24 - (1 : Int).toNat) (pre := [0]) (suf := List.replicate 20 0) n h (xs := [0, 0, 0]) (by rw [hnd]; rfl) hs) ?_
  rintro _ w s
  refine WP.ite (fun h => absurd h (by omega)) (fun _ => ?_)
  refine WP.cutlh (by omega) (by omega) (by omega) (by omega) ?_
  rw [e1]
  have hat : At (([0] ++ dec3 n ++ List.replicate 20 0 : List Int).flatMap (cI .u8).enc) ((1 : Int).toNat * 1) ((dec3 n).flatMap (cI .u8).enc) := by
    refine ⟨([0] : List Int).flatMap (cI .u8).enc, (List.replicate 20 (0 : Int)).flatMap (cI .u8).enc, ?_, rfl⟩
    rw [List.flatMap_append, List.flatMap_append]
  have hr : Rdb (pts true (pt b 0) (([0] ++ dec3 n ++ List.replicate 20 0 : List Int).flatMap (cI .u8).enc)) (cI .u8) ⟨some ((pt b 0).add ((1 : Int).toNat * 1)), ndig n, 24 - (1 : Int).toNat⟩ (dec3 n) := by
    have := ((Holds.pts (q := true) (a := pt b 0)).at_ hat).rdb (c := cI .u8) (k := 24 - (1 : Int).toNat)
    rw [dec3_len] at this
    exact this
  refine WP.toStr s 0 rfl hr (WP.ret ⟨rfl, s.drop⟩)
theorem Itoa_wp (s : Ss W Hs w) (i : Nat) (e : nth Hs i = some TabN) {n : Nat} (h : n < 1000) : WP (strconv_Itoa_ (n : Int)) w (fun r w' => r = bstr (dec3 n) ∧ Ss W Hs w') := by
  unfold strconv_Itoa_
  refine WP.step (R := fun r w' => r = bstr (dec3 n) ∧ Ss W Hs w') ?_ (fun r w h => WP.ret h)
  unfold strconv_Itoa
  exact WP.step (FormatInt10_wp s i e h) (fun r w h => WP.ret h)
end
end Go.Proofs.YtddmmgcfanpmmaaGreatDoor.Lx
