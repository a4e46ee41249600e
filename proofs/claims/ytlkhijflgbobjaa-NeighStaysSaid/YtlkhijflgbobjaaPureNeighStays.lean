/- The law NeighStays, of its program in the M-world: a call that is refused, and one that asks, changes nothing: it answers true, and nothing that was there is turned. -/
import Derived.Test.YtlkhijflgbobjaaNeighOut
import Derived.Test.YtlkhijflgbobjaaNeighSameAll
import Derived.Test.YtlkhijflgbobjaaLxQ
set_option linter.unusedVariables false
set_option linter.unusedSimpArgs false
namespace Go.Proofs.Ytlkhijflgbobjaa.Lx
open Go Go.Proofs Go.RowKit

theorem all_len {m : NM} (ok : m.Ok) : m.all.length ≤ 1024 := by
  have h1 := ok.n
  have h2 := ok.c.m1
  unfold NM.all
  rw [List.length_map]
  omega
theorem NeighStays_true : ∀ (W : World) (u0 : api_NeighConfig) (u1 : Sl), (G23 W u0) → (GSl c_weirlaw15_Op (Try.prog.bytesOf 36) (fun W u => G36 W u) W u1) → ∃ W', weirlaw15_NeighStays u0 u1 W = some (true, W') ∧ Below W.heap.size W W' := by
  intro W u0 u1 _ g
  have b36 : Try.prog.bytesOf 36 = 64 := by kernel_rfl
  have hr : reachBytes = 140737488351232 := rfl
  obtain ⟨ops, ho, hb, s⟩ := (Ss.start W).args g (by decide)
  rw [b36, hr] at hb
  have hbt : ∀ o ∈ ops, Bts o.IP.A.l ∧ Bts o.Mac.l := fun o h => by
    obtain ⟨_, _, _, h1, h2, _⟩ := ho o h
    exact ⟨fun x hx => wf_u8 (h1.2 x hx), fun x hx => wf_u8 (h2 x hx)⟩
  have hl := (s.rd_len (i := 0) rfl rdS_rdb).1
  have main : WP (weirlaw15_NeighStays u0 u1) W (fun r W' => r = true ∧ Below W.heap.size W W') := by
    unfold weirlaw15_NeighStays
    refine WP.slot' s (fun _ w s => WP.step (cache_wp s u0) ?_)
    rintro r w ⟨ck, _, s⟩
    obtain ⟨pa, b, pl, hp, _⟩ := s.openC
    refine WP.slot' s (fun _ w s => WP.step (R := fun y w' => y = false ∧ Ss W (Cache r.1 (firstM r.2) :: rdS c_weirlaw15_Op false u1 ops :: []) w') (WP.ite (fun h => by rw [hp] at h; cases h) (fun _ => WP.step (first_wp s) ?_)) ?_)
    · rintro _ w ⟨rfl, s⟩
      exact WP.ret ⟨rfl, s⟩
    rintro _ w ⟨rfl, s⟩
    refine WP.ite (fun h => by cases h) (fun _ => ?_)
    refine WP.loopG (γ := Nat × NM) (fun g (x : Int) w => x = (g.1 : Int) ∧ g.1 ≤ ops.length ∧ ∃ Hs, Ss W (Cache r.1 g.2 :: rdS c_weirlaw15_Op false u1 ops :: Hs) w) (fun g _ => ops.length - g.1) (0, firstM r.2) ⟨rfl, Nat.zero_le _, [], s⟩ ?_
    clear s
    rintro ⟨i, m⟩ _ w ⟨rfl, hi, Hs, s⟩
    simp only at hi s
    show WP (weirlaw15_NeighStays.L1 u1 r (i : Int)) w _
    unfold weirlaw15_NeighStays.L1
    refine WP.ite (fun h => ?_) (fun h => WP.done ⟨rfl, s.below⟩)
    have h : i < ops.length := by omega
    have hx := List.getElem?_eq_getElem h
    generalize ops[i] = o at hx
    obtain ⟨b1, b2⟩ := hbt o (List.mem_of_getElem? hx)
    refine WP.rdx s 1 rfl rdS_rdb (by omega) (x := o) (by rw [Int.toNat_natCast]; exact hx) rfl (WP.slot' s (fun _ w s => ?_))
    have ok := s.okC
    refine WP.step (All_wp s) ?_
    rintro was w ⟨sp, s⟩
    refine WP.step (Waiting_wp (s.perm (List.Perm.swap _ _ _))) ?_
    rintro _ w ⟨rfl, s⟩
    have s : Ss W (Cache r.1 m :: rdS c_weirlaw15_Op false u1 ops :: vec cN was m.all sp :: Hs) w := s.use [0, 1] (s := [_, _]) (r := _ :: Hs) rfl
    have k1 : ∀ {w : World} (m' : NM) (e : Int), m'.Ok → (e ≠ 0 → m' = m) → Ss W (Cache r.1 m' :: rdS c_weirlaw15_Op false u1 ops :: vec cN was m.all sp :: Hs) w → WP (weirlaw15_NeighStays.K1 r (i : Int) was (m.waiting : Int) e) w (WP.Rd (fun x' w' => ∃ g' : Nat × NM, (x' = (g'.1 : Int) ∧ g'.1 ≤ ops.length ∧ ∃ Hs, Ss W (Cache r.1 g'.2 :: rdS c_weirlaw15_Op false u1 ops :: Hs) w') ∧ ops.length - g'.1 < ops.length - i) (fun r W' => r = true ∧ Below W.heap.size W W')) := by
      clear s
      intro w m' e ok' hm s
      unfold weirlaw15_NeighStays.K1
      refine WP.step (R := fun y w' => y = false ∧ ∃ Hs, Ss W (Cache r.1 m' :: rdS c_weirlaw15_Op false u1 ops :: Hs) w') (WP.ite (fun he => ?_) (fun _ => WP.ret ⟨rfl, _, s⟩)) ?_
      · obtain rfl := hm he
        refine WP.step (All_wp s) ?_
        rintro q w ⟨sp2, s⟩
        refine WP.step (sameAll_wp s 0 rfl vec_rdb 3 rfl vec_rdb (by have := all_len ok'; omega)) ?_
        rintro _ w ⟨rfl, s⟩
        refine WP.step (R := fun y w' => y = false ∧ ∃ Hs, Ss W (Cache r.1 m' :: rdS c_weirlaw15_Op false u1 ops :: Hs) w') (WP.ite (fun h => absurd (by simp) h) (fun _ => WP.step (Waiting_wp s.drop) ?_)) (fun r w h => WP.ret h)
        rintro _ w ⟨rfl, s⟩
        exact WP.ret ⟨by simp, _, s⟩
      rintro _ w ⟨rfl, Hs', s⟩
      refine WP.ite (fun h => by cases h) (fun _ => WP.next ⟨(i + 1, m'), ⟨by rw [wrap_i64 (by omega) (by omega)]; simp, by simp only; omega, Hs', s⟩, by simp only; omega⟩)
    refine WP.ite (fun _ => ?_) (fun _ => ?_)
    · have okw := NM.want_ok ok (port := o.Port) b1 o.N
      refine WP.step (Want_wp s _ _ b1 _) ?_
      rintro q w ⟨hq, s⟩
      refine WP.slot' s (fun _ w s => WP.step (lnum_wp _) ?_)
      rintro _ _ ⟨rfl, rfl⟩
      exact k1 _ _ okw (fun h => NM.want_no m _ _ _ (by rw [hq] at h; exact h)) s
    refine WP.ite (fun _ => ?_) (fun _ => ?_)
    · have okl := NM.learn_ok ok (port := o.Port) b1 b2 o.N
      refine WP.step (Learn_wp s _ _ b1 _ b2 _) ?_
      rintro q w ⟨hq, s⟩
      refine WP.step (lnum_wp _) ?_
      rintro _ _ ⟨rfl, rfl⟩
      unfold weirlaw15_NeighStays.K2
      exact k1 _ _ okl (fun h => NM.learn_no m _ _ _ _ (by rw [hq] at h; exact h)) s.drop
    refine WP.ite (fun _ => ?_) (fun _ => ?_)
    · have okt := NM.tick_ok ok
      refine WP.step (Tick_wp s) ?_
      rintro q w ⟨sp1, sp2, s⟩
      unfold weirlaw15_NeighStays.K3 weirlaw15_NeighStays.K2
      exact k1 _ 0 okt (fun h => absurd rfl h) s.drop.drop
    refine WP.ite (fun _ => ?_) (fun _ => ?_)
    · refine WP.step (Get_wp s _ _) ?_
      rintro q w ⟨_, s⟩
      unfold weirlaw15_NeighStays.K4 weirlaw15_NeighStays.K3 weirlaw15_NeighStays.K2
      exact k1 _ 1 ok (fun _ => rfl) s
    · unfold weirlaw15_NeighStays.K4 weirlaw15_NeighStays.K3 weirlaw15_NeighStays.K2
      exact k1 _ 1 ok (fun _ => rfl) s
  obtain ⟨r, W', h1, rfl, h2⟩ := main
  exact ⟨W', h1, h2⟩
end Go.Proofs.Ytlkhijflgbobjaa.Lx
