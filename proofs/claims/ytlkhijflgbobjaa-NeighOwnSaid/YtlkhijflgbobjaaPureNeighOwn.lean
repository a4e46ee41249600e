/- The law NeighOwn, of its program in the M-world: what is handed out is new memory: it answers true, and nothing that was there is turned. -/
import Derived.Test.YtlkhijflgbobjaaNeighTwo
import Derived.Test.YtlkhijflgbobjaaNeighBook
import Derived.Test.YtlkhijflgbobjaaNeighSameInts
import Derived.Test.YtlkhijflgbobjaaNeighSameAll
import Derived.Test.YtlkhijflgbobjaaNeighSameAsks
import Derived.Test.YtlkhijflgbobjaaLxQ
set_option linter.unusedVariables false
set_option linter.unusedSimpArgs false
namespace Go.Proofs.Ytlkhijflgbobjaa.Lx
open Go Go.Proofs Go.RowKit

section
variable {W w : World} {p q : Option Addr} {m : NM} {b : Nat} {t : Nat} {u1 : Sl} {ops : List weirlaw15_Op}
theorem own_K2 {r2 r4 : (Option Addr) × api_NeighConfig} {l k a z : Sl} {xs sx sy : List Int} {az sa sz : List api_Ask} {D : Bool → World → Prop} (ht : t < 150) (ok : m.Ok) (hx : xs.length ≤ 65536) (ha : az.length ≤ 1024)
    (s : Ss W (vec (cI .i64) l xs sx :: vec (cI .i64) k xs sy :: vec c_api_Ask a az sa :: vec c_api_Ask z az sz :: Cache r2.1 m :: Cache r4.1 m :: OwnP (some (pt b 0)) t :: rdS c_weirlaw15_Op false u1 ops :: []) w) :
    WP (weirlaw15_NeighOwn.K2 r2 r4 b (t : Int) l k a z) w (WP.Rd (fun x w' => x = ((t + 1 : Nat) : Int) ∧ Ss W (Cache r2.1 m :: Cache r4.1 m :: OwnP (some (pt b 0)) (t + 1) :: rdS c_weirlaw15_Op false u1 ops :: []) w') D) := by
  unfold weirlaw15_NeighOwn.K2
  have hall := NM.all_len ok
  refine WP.step (All_wp (s.use [4] rfl)) ?_
  rintro all w ⟨s1, s⟩
  refine WP.step (sameInts_wp s 2 rfl vec_rdb 3 rfl vec_rdb (by omega)) ?_
  rintro _ w ⟨rfl, s⟩
  refine WP.step (R := fun y w' => y = false ∧ Ss W (vec c_api_Neighbour all m.all s1 :: Cache r2.1 m :: vec (cI .i64) l xs sx :: vec (cI .i64) k xs sy :: vec c_api_Ask a az sa :: vec c_api_Ask z az sz :: Cache r4.1 m :: OwnP (some (pt b 0)) t :: rdS c_weirlaw15_Op false u1 ops :: []) w') (WP.ite (fun h => absurd (by simp) h) (fun _ => WP.step (sameAsks_wp s 4 rfl vec_rdb 5 rfl vec_rdb (by omega)) ?_)) ?_
  · rintro _ w ⟨rfl, s⟩
    exact WP.ret ⟨by simp, s⟩
  rintro _ w ⟨rfl, s⟩
  refine WP.step (R := fun y w' => y = false ∧ ∃ Hs, Ss W (vec (cI .i64) l xs sx :: vec cN all m.all s1 :: vec c_api_Ask a az sa :: OwnP (some (pt b 0)) t :: Cache r2.1 m :: Cache r4.1 m :: rdS c_weirlaw15_Op false u1 ops :: Hs) w') (WP.ite (fun h => by cases h) (fun _ => WP.step (All_wp (s.use [6] rfl)) ?_)) ?_
  · rintro all2 w ⟨s2, s⟩
    refine WP.step (sameAll_wp s 2 rfl vec_rdb 0 rfl vec_rdb (by omega)) ?_
    rintro _ w ⟨rfl, s⟩
    exact WP.ret ⟨by simp, _, s.use [4, 2, 4, 5, 2, 1, 3] rfl⟩
  rintro _ w ⟨rfl, Hs, s⟩
  refine WP.ite (fun h => by cases h) (fun _ => ?_)
  refine WP.step (keep_wp s (by omega) hx (by omega) (by omega)) ?_
  rintro _ w s
  refine WP.step (stands_wp s) ?_
  rintro _ w ⟨rfl, s⟩
  refine WP.ite (fun h => absurd rfl h) (fun _ => WP.next ⟨?_, ?_⟩)
  · rw [wrap_i64 (by omega) (by omega)]
    simp
  · exact Ss.weak (l := Hs) (s.perm (by
      refine List.Perm.trans ?_ List.perm_append_comm
      exact (List.Perm.swap _ _ _).trans ((List.Perm.swap _ _ _).cons _)))
end
theorem NeighOwn_true : ∀ (W : World) (u0 : api_NeighConfig) (u1 : Sl), (G23 W u0) → (GSl c_weirlaw15_Op (Try.prog.bytesOf 36) (fun W u => G36 W u) W u1) → ∃ W', weirlaw15_NeighOwn u0 u1 W = some (true, W') ∧ Below W.heap.size W W' := by
  intro W u0 u1 _ g
  have b36 : Try.prog.bytesOf 36 = 64 := by kernel_rfl
  have hr : reachBytes = 140737488351232 := rfl
  obtain ⟨ops, ho, hb, s⟩ := (Ss.start W).args g (by decide)
  rw [b36, hr] at hb
  have hbt : ∀ o ∈ ops, Bts o.IP.A.l ∧ Bts o.Mac.l := fun o h => by
    obtain ⟨_, _, _, h1, h2, _⟩ := ho o h
    exact ⟨fun x hx => wf_u8 (h1.2 x hx), fun x hx => wf_u8 (h2 x hx)⟩
  have hl := (s.rd_len (i := 0) rfl rdS_rdb).1
  have main : WP (weirlaw15_NeighOwn u0 u1) W (fun r W' => r = true ∧ Below W.heap.size W W') := by
    unfold weirlaw15_NeighOwn
    refine two_wp s u0 (fun r2 r4 w ck s => ?_)
    refine WP.newv s (fun b w s => ?_)
    have s := own_new s
    have s := s.use [1, 1, 0] rfl
    refine WP.loopG (γ := Nat × NM) (fun g (x : Int) w => x = (g.1 : Int) ∧ g.1 ≤ ops.length ∧ g.1 ≤ 150 ∧ Ss W (Cache r2.1 g.2 :: Cache r4.1 g.2 :: OwnP (some (pt b 0)) g.1 :: rdS c_weirlaw15_Op false u1 ops :: []) w) (fun g _ => ops.length - g.1) (0, firstM r2.2) ⟨rfl, Nat.zero_le _, Nat.zero_le _, s⟩ ?_
    clear s
    rintro ⟨i, m⟩ _ w ⟨rfl, hi, h150, s⟩
    simp only at hi h150 s
    have ok := s.okC
    have hall := NM.all_len ok
    show WP (weirlaw15_NeighOwn.L1 u1 r2 r4 b (i : Int)) w _
    unfold weirlaw15_NeighOwn.L1
    refine WP.step (R := fun y w' => y = decide (i < ops.length ∧ i < 150) ∧ w = w') (WP.ite (fun h => WP.ret ⟨?_, rfl⟩) (fun h => WP.ret ⟨?_, rfl⟩)) ?_
    · exact decide_eq_decide.2 ⟨fun h => ⟨by omega, by omega⟩, fun h => by omega⟩
    · have : ¬ i < ops.length := by omega
      simp [this]
    rintro _ _ ⟨rfl, rfl⟩
    refine WP.ite (fun h => ?_) (fun h => ?_)
    rotate_left
    · refine WP.step (R := fun y W' => y = true ∧ Below W.heap.size W W') ?_ (fun r w h => WP.done h)
      unfold weirlaw15_NeighOwn.K1
      refine WP.step (All_wp s) ?_
      rintro a1 w ⟨s1, s⟩
      refine WP.step (All_wp (s.use [2] rfl)) ?_
      rintro a2 w ⟨s2, s⟩
      refine WP.step (sameAll_wp s 2 rfl vec_rdb 0 rfl vec_rdb (by omega)) ?_
      rintro _ w ⟨rfl, s⟩
      refine WP.step (R := fun y W' => y = true ∧ Below W.heap.size W W') (WP.ite (fun _ => ?_) (fun h => absurd (by simp) h)) (fun r w h => WP.ret h)
      refine WP.step (Waiting_wp (s.use [3] rfl)) ?_
      rintro _ w ⟨rfl, s⟩
      refine WP.step (Waiting_wp (s.use [2] rfl)) ?_
      rintro _ w ⟨rfl, s⟩
      exact WP.ret ⟨by simp, s.below⟩
    simp only [decide_eq_true_eq] at h
    obtain ⟨hlt, h150'⟩ := h
    have hx := List.getElem?_eq_getElem hlt
    generalize ops[i] = o at hx
    obtain ⟨b1, b2⟩ := hbt o (List.mem_of_getElem? hx)
    have nx : ∀ {r : LS Int Bool} {w' : World} (m' : NM), WP.Rd (fun x w' => x = ((i + 1 : Nat) : Int) ∧ Ss W (Cache r2.1 m' :: Cache r4.1 m' :: OwnP (some (pt b 0)) (i + 1) :: rdS c_weirlaw15_Op false u1 ops :: []) w') (fun r W' => r = true ∧ Below W.heap.size W W') r w' →
        WP.Rd (fun x' w' => ∃ g' : Nat × NM, (x' = (g'.1 : Int) ∧ g'.1 ≤ ops.length ∧ g'.1 ≤ 150 ∧ Ss W (Cache r2.1 g'.2 :: Cache r4.1 g'.2 :: OwnP (some (pt b 0)) g'.1 :: rdS c_weirlaw15_Op false u1 ops :: []) w') ∧ ops.length - g'.1 < ops.length - i) (fun r W' => r = true ∧ Below W.heap.size W W') r w' := by
      intro r w' m' h
      cases r with
      | next x =>
        obtain ⟨rfl, s⟩ := h
        exact ⟨(i + 1, m'), ⟨rfl, by simp only; omega, by simp only; omega, s⟩, by simp only; omega⟩
      | done y => exact h
    have v0 : ∀ {w : World} (m' : NM), Ss W (Cache r2.1 m' :: Cache r4.1 m' :: OwnP (some (pt b 0)) i :: rdS c_weirlaw15_Op false u1 ops :: []) w → Ss W (vec (cI .i64) Sl.nil [] [] :: vec (cI .i64) Sl.nil [] [] :: vec c_api_Ask Sl.nil [] [] :: vec c_api_Ask Sl.nil [] [] :: Cache r2.1 m' :: Cache r4.1 m' :: OwnP (some (pt b 0)) i :: rdS c_weirlaw15_Op false u1 ops :: []) w := fun m' s =>
      (((s.mk0 (A := vec c_api_Ask Sl.nil [] []) vec_nil).mk0 (A := vec c_api_Ask Sl.nil [] []) vec_nil).mk0 (A := vec (cI .i64) Sl.nil [] []) vec_nil).mk0 (A := vec (cI .i64) Sl.nil [] []) vec_nil
    refine WP.rdx s 3 rfl rdS_rdb (by omega) (x := o) (by rw [Int.toNat_natCast]; exact hx) rfl (WP.slot' s (fun _ w s => ?_))
    refine WP.ite (fun _ => ?_) (fun _ => ?_)
    · have okw := NM.want_ok ok (port := o.Port) b1 o.N
      refine WP.step (Want_wp s _ _ b1 _) ?_
      rintro y w ⟨hy, s⟩
      refine WP.slot' s (fun _ w s => WP.step (Want_wp (s.use [1] rfl) _ _ b1 _) ?_)
      rintro z w ⟨hz, s⟩
      obtain rfl : y = z := hy.trans hz.symm
      have s := s.use [1] rfl
      refine WP.slot' s (fun _ w s => WP.step (R := fun y w' => y = false ∧ w = w') (WP.ite (fun h => absurd rfl h) (fun _ => WP.ret ⟨by simp, rfl⟩)) ?_)
      rintro _ _ ⟨rfl, rfl⟩
      refine WP.ite (fun h => by cases h) (fun _ => ?_)
      exact (own_K2 (xs := []) (az := []) h150' okw (by simp) (by simp) (v0 _ s)).mono (fun r w h => nx _ h)
    refine WP.ite (fun _ => ?_) (fun _ => ?_)
    · have okl := NM.learn_ok ok (port := o.Port) b1 b2 o.N
      have hlen := learn_len ok o.Port o.IP o.Mac o.N
      refine WP.step (Learn_wp s _ _ b1 _ b2 _) ?_
      rintro y w ⟨_, s⟩
      refine WP.step (Learn_wp (s.use [2] rfl) _ _ b1 _ b2 _) ?_
      rintro z w ⟨_, s⟩
      unfold weirlaw15_NeighOwn.K3
      have s := ((s.use [2, 0, 1] rfl).mk0 (A := vec c_api_Ask Sl.nil [] []) vec_nil).mk0 (A := vec c_api_Ask Sl.nil [] []) vec_nil
      exact (own_K2 (xs := (m.learn o.Port o.IP o.Mac o.N).2.1) (az := []) h150' okl (by omega) (by simp) (s.use [2, 2, 0, 0] rfl)).mono (fun r w h => nx _ h)
    refine WP.ite (fun _ => ?_) (fun _ => ?_)
    · have okt := NM.tick_ok ok
      obtain ⟨t1, t2⟩ := tick_len ok
      refine WP.step (Tick_wp s) ?_
      rintro y w ⟨sp1, sp2, s⟩
      refine WP.step (Tick_wp (s.use [3] rfl)) ?_
      rintro z w ⟨sp3, sp4, s⟩
      unfold weirlaw15_NeighOwn.K4 weirlaw15_NeighOwn.K3
      exact (own_K2 h150' okt t2 t1 (s.use [4, 1, 2, 0, 1] rfl)).mono (fun r w h => nx _ h)
    · unfold weirlaw15_NeighOwn.K4 weirlaw15_NeighOwn.K3
      exact (own_K2 (xs := []) (az := []) h150' ok (by simp) (by simp) (v0 _ s)).mono (fun r w h => nx _ h)
  obtain ⟨r, W', h1, rfl, h2⟩ := main
  exact ⟨W', h1, h2⟩
end Go.Proofs.Ytlkhijflgbobjaa.Lx
