/- The law QueueLent, of its program in the M-world: queues made of lists in one place in memory, filled anew for each, more behind it: it answers true, and nothing that was there is turned. -/
import Derived.Test.YtgddbpmfendaeaaQueueMade
import Derived.Test.YtgddbpmfendaeaaLxY
import Derived.Test.YtgddbpmfendaeaaLxQ
set_option linter.unusedVariables false
set_option linter.unusedSimpArgs false
namespace Go.Proofs.Ytgddbpmfendaeaa.Lx
open Go Go.Proofs Go.RowKit

def mark (i : Nat) : api_Class := ⟨-500 - i, 0, 0, 0, 0⟩
/-- marks from place n on -/
def Marks (n : Nat) (M : List api_Class) : Prop := ∀ j : Nat, j < M.length → M[j]? = some (mark (n + j))
section
variable {W w : World} {R : List HP}
theorem lay_wp {A : HP} {rb : Addr} {sl l : Sl} {L sp xs : List api_Class} {n : Int} (s : Ss W (pts true rb (c_weirlaw18_Room.enc ⟨sl, n⟩) :: vec c_api_Class sl L sp :: R) w) (i : Nat) (e : nth R i = some A) (r : Rdb A c_api_Class l xs) (hb : xs.length * 40 ≤ 140737488351232) (hL : L.length ≤ 8000000000000) :
    WP (weirlaw18_Room_lay (some rb) l) w (fun r w' => ∃ sl' M sp', Marks xs.length M ∧ xs.length + M.length ≤ 8000000000000 ∧ r = ⟨sl'.a, xs.length, sl'.cap⟩ ∧ Ss W (pts true rb (c_weirlaw18_Room.enc ⟨sl', xs.length⟩) :: vec c_api_Class sl' (xs ++ M) sp' :: R) w') := by
  unfold weirlaw18_Room_lay
  have hl := (s.rd_len (i := i + 2) e r).1
  have hsl := (s.vec_len (i := 1) rfl).1
  have key : ∀ (sl : Sl) (L sp : List api_Class) (w : World), Ss W (pts true rb (c_weirlaw18_Room.enc ⟨sl, n⟩) :: vec c_api_Class sl L sp :: R) w → L.length ≤ 8000000000000 → 2 * xs.length + 9 ≤ L.length →
      WP (weirlaw18_Room_lay.K2 (some rb) l) w (fun r w' => ∃ sl' M sp', Marks xs.length M ∧ xs.length + M.length ≤ 8000000000000 ∧ r = ⟨sl'.a, xs.length, sl'.cap⟩ ∧ Ss W (pts true rb (c_weirlaw18_Room.enc ⟨sl', xs.length⟩) :: vec c_api_Class sl' (xs ++ M) sp' :: R) w') := by
    intro sl L sp w s hL hlen
    unfold weirlaw18_Room_lay.K2
    have hsl := (s.vec_len (i := 1) rfl).1
    refine WP.loop (fun (k : Int) w' => 0 ≤ k ∧ k ≤ L.length ∧ ∃ Lc, Lc.length = L.length ∧ (∀ j : Nat, j < k.toNat → Lc[j]? = some (mark j)) ∧ Ss W (pts true rb (c_weirlaw18_Room.enc ⟨sl, n⟩) :: vec c_api_Class sl Lc sp :: R) w') (fun k _ => ((L.length : Int) - k).toNat) ⟨by omega, by omega, L, rfl, fun j h => by simp at h, s⟩ ?_
    clear s
    rintro k w ⟨k0, k1, Lc, hc, hm, s⟩
    unfold weirlaw18_Room_lay.L1
    refine WP.nilck (WP.ld s 0 rfl (o := 0) (by simp [Addr.add]) (At_weirlaw18_Room_L _) ?_)
    simp only
    refine WP.ite (fun hk => WP.nilck ?_) (fun hk => ?_)
    · rw [hsl] at hk
      refine WP.ld s 0 rfl (o := 0) (by simp [Addr.add]) (At_weirlaw18_Room_L _) ?_
      refine WP.stx s 1 rfl k0 (by omega) rfl (fun w s => WP.next ?_)
      rw [wrap_i64 (n := k + 1) (by omega) (by omega)]
      refine ⟨⟨by omega, by omega, _, by rw [List.length_set]; exact hc, fun j hj => ?_, s⟩, by omega⟩
      by_cases ej : j = k.toNat
      · subst ej
        rw [List.getElem?_set_self (by omega), wrap_i64 (by omega) (by omega)]
        unfold mark
        congr 2
        omega
      · rw [List.getElem?_set_ne (fun h => ej h.symm)]
        exact hm j (by omega)
    · rw [hsl] at hk
      have hkl : k.toNat = L.length := by omega
      rw [hkl] at hm
      refine WP.step (R := fun r w' => ∃ sl' M sp', Marks xs.length M ∧ xs.length + M.length ≤ 8000000000000 ∧ r = ⟨sl'.a, xs.length, sl'.cap⟩ ∧ Ss W (pts true rb (c_weirlaw18_Room.enc ⟨sl', xs.length⟩) :: vec c_api_Class sl' (xs ++ M) sp' :: R) w') ?_ (fun r w h => WP.done h)
      unfold weirlaw18_Room_lay.K1
      have hmin : min xs.length Lc.length = xs.length := by omega
      refine WP.nilck (WP.ld s 0 rfl (o := 0) (by simp [Addr.add]) (At_weirlaw18_Room_L _) ?_)
      refine WP.cpy s 1 rfl (i + 2) e r (by decide) (fun w s => WP.nilck ?_)
      rw [hmin, List.take_length] at s
      refine WP.st s 0 rfl (o := 1) rfl (Up_weirlaw18_Room_N _ _) (fun w s => WP.nilck ?_)
      refine WP.ld s 0 rfl (o := 0) (by simp [Addr.add]) (At_weirlaw18_Room_L _) ?_
      simp only
      have hcap := (s.vec_len (i := 1) rfl).2.1
      refine WP.cutpre (by omega) (by rw [hcap, hl, List.length_append]; omega) (WP.ret ⟨sl, Lc.drop xs.length, sp, fun j hj => ?_, by rw [List.length_drop]; omega, by rw [hl]; rfl, ?_⟩)
      · rw [List.length_drop] at hj
        rw [List.getElem?_drop]
        exact hm _ (by omega)
      · rw [hl] at s
        exact s
  refine WP.nilck (WP.ld s 0 rfl (o := 0) (by simp [Addr.add]) (At_weirlaw18_Room_L _) ?_)
  simp only
  rw [hsl, hl, wrap_i64 (n := 2 * (xs.length : Int)) (by omega) (by omega), wrap_i64 (n := 2 * (xs.length : Int) + 9) (by omega) (by omega)]
  refine WP.ite (fun h => ?_) (fun h => key sl L sp w s hL (by omega))
  rw [wrap_i64 (n := 2 * (xs.length : Int) + 40) (by omega) (by omega)]
  refine WP.mkS s (by omega) (Int.le_refl _) (by omega) (by omega) (fun r2 w s _ => WP.nilck ?_)
  refine WP.st s 1 rfl (o := 0) (by simp [Addr.add]) (Up_weirlaw18_Room_L _ _) (fun w s => ?_)
  exact key r2 _ _ w ((s.use [2] rfl).drop.use [1] rfl) (by rw [List.length_replicate]; omega) (by rw [List.length_replicate]; omega)
theorem stand_wp {A : HP} {rb : Addr} {sl l : Sl} {M sp xs : List api_Class} (s : Ss W (pts true rb (c_weirlaw18_Room.enc ⟨sl, xs.length⟩) :: vec c_api_Class sl (xs ++ M) sp :: R) w) (i : Nat) (e : nth R i = some A) (r : Rdb A c_api_Class l xs) (hM : Marks xs.length M) (hL : xs.length + M.length ≤ 8000000000000) :
    WP (weirlaw18_Room_stand (some rb) l) w (fun r w' => r = true ∧ Ss W (pts true rb (c_weirlaw18_Room.enc ⟨sl, xs.length⟩) :: vec c_api_Class sl (xs ++ M) sp :: R) w') := by
  unfold weirlaw18_Room_stand
  have hl := (s.rd_len (i := i + 2) e r).1
  have hsl := (s.vec_len (i := 1) rfl).1
  rw [List.length_append] at hsl
  refine WP.loop (fun (k : Int) w' => 0 ≤ k ∧ k ≤ sl.len ∧ Ss W (pts true rb (c_weirlaw18_Room.enc ⟨sl, xs.length⟩) :: vec c_api_Class sl (xs ++ M) sp :: R) w') (fun k _ => ((sl.len : Int) - k).toNat) ⟨by omega, by omega, s⟩ ?_
  clear s
  rintro k w ⟨k0, k1, s⟩
  unfold weirlaw18_Room_stand.L1
  refine WP.nilck (WP.ld s 0 rfl (o := 0) (by simp [Addr.add]) (At_weirlaw18_Room_L _) ?_)
  simp only
  refine WP.ite (fun hk => WP.slot' s (fun _ w s => ?_)) (fun hk => ?_)
  · have hkl : k.toNat < (xs ++ M).length := by rw [List.length_append]; omega
    have hx := List.getElem?_eq_getElem hkl
    have k2 : ∀ (y : api_Class) (w : World), (xs ++ M)[k.toNat]? = some y → Ss W (pts true rb (c_weirlaw18_Room.enc ⟨sl, xs.length⟩) :: vec c_api_Class sl (xs ++ M) sp :: R) w →
        WP (weirlaw18_Room_stand.K2 (some rb) k y) w (WP.Rd (fun k' w' => (0 ≤ k' ∧ k' ≤ sl.len ∧ Ss W (pts true rb (c_weirlaw18_Room.enc ⟨sl, xs.length⟩) :: vec c_api_Class sl (xs ++ M) sp :: R) w') ∧ ((sl.len : Int) - k').toNat < ((sl.len : Int) - k).toNat) (fun r w' => r = true ∧ Ss W (pts true rb (c_weirlaw18_Room.enc ⟨sl, xs.length⟩) :: vec c_api_Class sl (xs ++ M) sp :: R) w')) := by
      intro y w hy s
      unfold weirlaw18_Room_stand.K2
      refine WP.draw' s (fun w s => WP.nilck (WP.ld s 0 rfl (o := 0) (by simp [Addr.add]) (At_weirlaw18_Room_L _) ?_))
      refine WP.rdx s 1 rfl vec_rdb k0 hy rfl ?_
      refine WP.ite (fun h => absurd rfl h) (fun _ => WP.next ?_)
      rw [wrap_i64 (by omega) (by omega)]
      exact ⟨⟨by omega, by omega, s⟩, by omega⟩
    refine WP.ite (fun hk2 => ?_) (fun hk2 => ?_)
    · rw [hl] at hk2
      have hkx : k.toNat < xs.length := by omega
      have hxx := List.getElem?_eq_getElem hkx
      generalize xs[k.toNat] = y at hxx
      refine WP.rdx s (i + 2) e r k0 hxx rfl (k2 y w ?_ s)
      rw [List.getElem?_append_left hkx]
      exact hxx
    · rw [hl] at hk2
      refine k2 _ w ?_ s
      rw [List.getElem?_append_right (by omega), hM _ (by omega), wrap_i64 (by omega) (by omega)]
      unfold mark
      congr 2
      omega
  · refine WP.step (R := fun r w' => r = true ∧ Ss W (pts true rb (c_weirlaw18_Room.enc ⟨sl, xs.length⟩) :: vec c_api_Class sl (xs ++ M) sp :: R) w') ?_ (fun r w h => WP.done h)
    unfold weirlaw18_Room_stand.K1
    refine WP.nilck (WP.ld s 0 rfl (o := 1) rfl (At_weirlaw18_Room_N _) (WP.ret ⟨by simp [hl], s⟩))
end
/-- a queue and the document's of the same value -/
def SideH (sd : weirlaw18_Side) (m : QM) : HP := seps [Queue sd.Q m, RQ sd.R m]
abbrev LHs (rb : Addr) (sl : Sl) (n : Int) (L sp : List api_Class) (s9 : Sl) (sds ssp : List weirlaw18_Side) (ms : List QM) (T : List HP) : List HP := pts true rb (c_weirlaw18_Room.enc ⟨sl, n⟩) :: vec c_api_Class sl L sp :: vec c_weirlaw18_Side s9 sds ssp :: seps (zipH SideH sds ms) :: T
section
variable {W w : World} {T : List HP}
theorem lent_plays {rb : Addr} {a3 s9 sl : Sl} {os : List weirlaw18_Op} {L sp : List api_Class} {n : Int} {sds ssp : List weirlaw18_Side} {ms : List QM} (s : Ss W (LHs rb sl n L sp s9 sds ssp ms T) w) (j : Nat) (e : nth T j = some (rdS c_weirlaw18_Op false a3 os)) (hm : sds.length = ms.length) (h4 : sds.length ≤ 4) (hL : L.length ≤ 8000000000000) (b8 : Nat) (hrb : rb = pt b8 0) :
    WP (weirlaw18_QueueLent.K2 a3 b8 s9) w (fun r w' => r = true ∧ Below W.heap.size W w') := by
  subst hrb
  unfold weirlaw18_QueueLent.K2
  refine WP.step (lay_wp (A := rdS c_api_Class false Sl.nil []) (R := rdS c_api_Class false Sl.nil [] :: vec c_weirlaw18_Side s9 sds ssp :: seps (zipH SideH sds ms) :: T) ((s.mk0 (A := rdS c_api_Class false Sl.nil []) rd0).use [1, 1] rfl) 0 rfl rdS_rdb (by decide) hL) ?_
  rintro _ w ⟨sl', M, sp', _, _, _, s⟩
  have s : Ss W (vec c_weirlaw18_Side s9 sds ssp :: seps (zipH SideH sds ms) :: T) w := s.drop.drop.drop
  have hlo := (s.rd_len (i := j + 2) e rdS_rdb).1
  refine WP.loop (fun (k : Int) w' => 0 ≤ k ∧ k ≤ 200 ∧ ∃ sds ms, sds.length = ms.length ∧ sds.length ≤ 4 ∧ Ss W (vec c_weirlaw18_Side s9 sds ssp :: seps (zipH SideH sds ms) :: T) w') (fun k _ => (200 - k).toNat) ⟨by omega, by omega, sds, ms, hm, h4, s⟩ ?_
  clear s hm h4
  rintro k w ⟨k0, k1, sds, ms, hm, h4, s⟩
  unfold weirlaw18_QueueLent.L1
  refine WP.step (R := fun y w' => y = decide (k < os.length ∧ k < 200) ∧ w = w') (WP.ite (fun h => WP.ret ⟨by rw [hlo] at h; simp [h], rfl⟩) (fun h => WP.ret ⟨by rw [hlo] at h; simp [h], rfl⟩)) ?_
  rintro _ _ ⟨rfl, rfl⟩
  refine WP.ite (fun h => ?_) (fun h => WP.done ⟨rfl, s.below⟩)
  obtain ⟨hk, hk2⟩ := of_decide_eq_true h
  have hkl : k.toNat < os.length := by omega
  have hx := List.getElem?_eq_getElem hkl
  generalize os[k.toNat] = o at hx
  refine WP.loop (fun (i : Int) w' => 0 ≤ i ∧ i ≤ s9.len ∧ ∃ sds ms, sds.length = ms.length ∧ sds.length ≤ 4 ∧ s9.len = sds.length ∧ Ss W (vec c_weirlaw18_Side s9 sds ssp :: seps (zipH SideH sds ms) :: T) w') (fun i _ => ((s9.len : Int) - i).toNat) ⟨by omega, by omega, sds, ms, hm, h4, (s.vec_len (i := 0) rfl).1, s⟩ ?_
  clear s hm h4
  rintro i w ⟨i0, i1, sds, ms, hm, h4, hl, s⟩
  unfold weirlaw18_QueueLent.L2
  refine WP.ite (fun hi => WP.draws s (fun σ w s => ?_)) (fun hi => WP.done ?_)
  rotate_left
  · show (_ ∧ _)
    rw [wrap_i64 (by omega) (by omega)]
    exact ⟨⟨by omega, by omega, sds, ms, hm, h4, s⟩, by omega⟩
  have hil : i.toNat < sds.length := by omega
  have hsd := List.getElem?_eq_getElem hil
  generalize sds[i.toNat] = sd at hsd
  obtain ⟨m, hmi⟩ := get_of hm.symm hsd
  have k1 : ∀ (b : Nat) (sd' : weirlaw18_Side) (m' : QM) (w : World), Ss W (seps [Queue sd'.Q m', RQ sd'.R m'] :: vec c_weirlaw18_Side s9 sds ssp :: seps (wo (zipH SideH sds ms) i.toNat) :: T) w →
      WP (weirlaw18_QueueLent.K1 s9 i b true sd') w (WP.Rd (fun i' w' => (0 ≤ i' ∧ i' ≤ s9.len ∧ ∃ sds ms, sds.length = ms.length ∧ sds.length ≤ 4 ∧ s9.len = sds.length ∧ Ss W (vec c_weirlaw18_Side s9 sds ssp :: seps (zipH SideH sds ms) :: T) w') ∧ ((s9.len : Int) - i').toNat < ((s9.len : Int) - i).toNat)
        (WP.Rd (fun k' w' => (0 ≤ k' ∧ k' ≤ 200 ∧ ∃ sds ms, sds.length = ms.length ∧ sds.length ≤ 4 ∧ Ss W (vec c_weirlaw18_Side s9 sds ssp :: seps (zipH SideH sds ms) :: T) w') ∧ (200 - k').toNat < (200 - k).toNat) (fun r w' => r = true ∧ Below W.heap.size W w'))) := by
    intro b sd' m' w s
    unfold weirlaw18_QueueLent.K1
    refine WP.ite (fun h => absurd rfl h) (fun _ => ?_)
    refine WP.stx s 1 rfl i0 (by omega) rfl (fun w s => WP.next ?_)
    rw [wrap_i64 (by omega) (by omega)]
    have s2 := Ss.back (B := SideH sd' m') s 1 rfl (zipH_nth (P := SideH) hsd hmi)
    rw [zipH_up hil (by omega)] at s2
    exact ⟨⟨by omega, by omega, _, _, by simp [hm], by simpa using h4, by simpa using hl, s2⟩, by omega⟩
  refine WP.ite (fun _ => ?_) (fun _ => ?_)
  · refine WP.idxr s 0 rfl vec_rdb i0 hsd rfl (fun a ha => ?_)
    refine WP.ldr s 0 rfl vec_rdb hsd ha rfl ?_
    refine WP.idxr s (j + 2) e rdS_rdb k0 hx rfl (fun a2 ha2 => ?_)
    refine WP.ldr s (j + 2) e rdS_rdb hx ha2 rfl ?_
    have s2 := (s.out 1 rfl (zipH_nth (P := SideH) hsd hmi)).split
    refine WP.step (step_wp s2 o) ?_
    rintro ⟨sd', ok⟩ w ⟨hok, m', s⟩
    simp only at hok s
    subst hok
    refine WP.slot' s (fun b w s => ?_)
    refine WP.samer s (j + 4) e rdS_rdb hx ha2 rfl ?_
    refine WP.samer s 2 rfl vec_rdb hsd ha rfl ?_
    exact k1 b sd' m' w (Ss.group (l := [Queue sd'.Q m', RQ sd'.R m']) s)
  · refine WP.idxr s 0 rfl vec_rdb i0 hsd rfl (fun a ha => ?_)
    refine WP.ldr s 0 rfl vec_rdb hsd ha rfl ?_
    refine WP.idxr s (j + 2) e rdS_rdb k0 hx rfl (fun a2 ha2 => ?_)
    refine WP.ldr s (j + 2) e rdS_rdb hx ha2 rfl (WP.slot' s (fun b w s => ?_))
    refine WP.samer s (j + 2) e rdS_rdb hx ha2 rfl ?_
    refine WP.samer s 0 rfl vec_rdb hsd ha rfl ?_
    have s2 := (s.out 1 rfl (zipH_nth (P := SideH) hsd hmi)).split
    refine WP.step (step_wp s2 o) ?_
    rintro ⟨sd', ok⟩ w ⟨hok, m', s⟩
    simp only at hok s
    subst hok
    exact k1 b sd' m' w (Ss.group (l := [Queue sd'.Q m', RQ sd'.R m']) s)
/-- one list is laid, made a queue of, and stands -/
theorem lent_body {A : HP} {rb : Addr} {sl l s9 : Sl} {n : Int} {L sp xs : List api_Class} {sds ssp : List weirlaw18_Side} {ms : List QM} {β : Type} {f : Sl → ((Option Addr) × Int) → Bool → weirref18_Queue × Int → M β} {Q : β → World → Prop}
    (s : Ss W (LHs rb sl n L sp s9 sds ssp ms T) w) (j : Nat) (e : nth T j = some A) (r : Rdb A c_api_Class l xs) (hb : xs.length * 40 ≤ 140737488351232) (hL : L.length ≤ 8000000000000)
    (k1 : ∀ r1 q r4 sl' L' sp' w', L'.length ≤ 8000000000000 → Ss W (RQ r4 (newQ xs) :: Queue (some q) (newQ xs) :: LHs rb sl' xs.length L' sp' s9 sds ssp ms T) w' → WP (f r1 (some q, 0) true (r4, 0)) w' Q)
    (k0 : ∀ r1 r4 sl' L' sp' w', L'.length ≤ 8000000000000 → Ss W (LHs rb sl' xs.length L' sp' s9 sds ssp ms T) w' → WP (f r1 (none, 180) true (r4, 180)) w' Q) :
    WP (weirlaw18_Room_lay (some rb) l >>= fun r1 => queue_New r1 >>= fun r2 => weirlaw18_Room_stand (some rb) l >>= fun r3 => if ¬ (r3 = true) then f r1 r2 false (z_weirref18_Queue, 0) else weirref18_New l >>= fun r4 => f r1 r2 true r4) w Q := by
  refine WP.step (lay_wp s (j + 2) e r hb hL) ?_
  rintro _ w ⟨sl', M, sp', hM, hLM, rfl, s⟩
  have hr : Rdb (vec c_api_Class sl' (xs ++ M) sp') c_api_Class ⟨sl'.a, xs.length, sl'.cap⟩ xs := by
    have := (vec_rdb (c := c_api_Class) (s := sl') (xs := xs ++ M) (sp := sp')).take (k := xs.length) (n := sl'.cap) (by simp)
    rwa [List.take_left] at this
  refine WP.step (New_wp s 1 rfl hr) ?_
  rintro r2 w ⟨hy, hn⟩
  cases hx : newOk xs with
  | true =>
    obtain ⟨q, rfl, s⟩ := hy hx
    refine WP.step (stand_wp (R := Queue (some q) (newQ xs) :: vec c_weirlaw18_Side s9 sds ssp :: seps (zipH SideH sds ms) :: T) (s.use [1, 1] rfl) (j + 3) e r hM hLM) ?_
    rintro _ w ⟨rfl, s⟩
    refine WP.ite (fun h => absurd rfl h) (fun _ => ?_)
    refine WP.step (rNew_wp s (j + 5) e r (by omega)) ?_
    rintro ⟨r4, e4⟩ w ⟨hy4, _⟩
    obtain ⟨h4, s⟩ := hy4 hx
    simp only at h4
    subst h4
    exact k1 _ q r4 sl' (xs ++ M) sp' w (by rw [List.length_append]; exact hLM) (s.use [0, 2] rfl)
  | false =>
    obtain ⟨rfl, s⟩ := hn hx
    refine WP.step (stand_wp s (j + 2) e r hM hLM) ?_
    rintro _ w ⟨rfl, s⟩
    refine WP.ite (fun h => absurd rfl h) (fun _ => ?_)
    refine WP.step (rNew_wp s (j + 4) e r (by omega)) ?_
    rintro ⟨r4, e4⟩ w ⟨_, hn4⟩
    obtain ⟨h4, s⟩ := hn4 hx
    simp only at h4
    subst h4
    exact k0 _ r4 sl' (xs ++ M) sp' w (by rw [List.length_append]; exact hLM) s
theorem lent_K3 {a0 a1 a3 r2 : Sl} {xs ys zs : List api_Class} {os : List weirlaw18_Op} {zsp : List api_Class} (s : Ss W [vec c_api_Class r2 zs zsp, rdS c_api_Class false a0 xs, rdS c_api_Class false a1 ys, rdS c_weirlaw18_Op false a3 os] w) (hx : xs.length * 40 ≤ 140737488351232) (hy : ys.length * 40 ≤ 140737488351232) (hz : zs.length * 40 ≤ 140737488351232) :
    WP (weirlaw18_QueueLent.K3 a0 a1 a3 r2) w (fun r w' => r = true ∧ Below W.heap.size W w') := by
  unfold weirlaw18_QueueLent.K3
  refine WP.slot' s (fun _ w s => WP.newv s (fun b8 w s => ?_))
  have s1 : Ss W (LHs (pt b8 0) Sl.nil 0 [] [] Sl.nil [] [] [] [vec c_api_Class r2 zs zsp, rdS c_api_Class false a0 xs, rdS c_api_Class false a1 ys, rdS c_weirlaw18_Op false a3 os]) w := (((s.mk0 (A := seps (zipH SideH [] [])) trivial).mk0 (A := vec c_weirlaw18_Side Sl.nil [] []) vec_nil).mk0 (A := vec c_api_Class Sl.nil [] []) vec_nil).use [3] rfl
  refine WP.loop (fun (x : Sl × Int) w' => 0 ≤ x.2 ∧ x.2 ≤ 4 ∧ ∃ sl n L sp sds ssp ms, L.length ≤ 8000000000000 ∧ sds.length = ms.length ∧ (sds.length : Int) ≤ x.2 ∧ Ss W (LHs (pt b8 0) sl n L sp x.1 sds ssp ms [vec c_api_Class r2 zs zsp, rdS c_api_Class false a0 xs, rdS c_api_Class false a1 ys, rdS c_weirlaw18_Op false a3 os]) w') (fun x _ => (4 - x.2).toNat) ⟨by simp, by simp, Sl.nil, 0, [], [], [], [], [], by simp, rfl, by simp, s1⟩ ?_
  clear s s1
  rintro ⟨s9, k⟩ w ⟨k0, k1, sl, n, L, sp, sds, ssp, ms, hL, hm, h4, s⟩
  simp only at k0 k1 h4 s
  show WP (weirlaw18_QueueLent.L3 a0 a1 a3 r2 b8 s9 k) w _
  unfold weirlaw18_QueueLent.L3
  refine WP.ite (fun hk => ?_) (fun hk => WP.step (lent_plays s 3 rfl hm (by omega) hL b8 rfl) (fun r w h => WP.done h))
  have hch : 0 ≤ k ∧ k < (4 : Nat) := ⟨k0, by omega⟩
  have go : ∀ {A : HP} {l : Sl} {us : List api_Class} (j : Nat), nth [vec c_api_Class r2 zs zsp, rdS c_api_Class false a0 xs, rdS c_api_Class false a1 ys, rdS c_weirlaw18_Op false a3 os] j = some A → Rdb A c_api_Class l us → us.length * 40 ≤ 140737488351232 → Vec.g (⟨[a0, a1, r2, a0], rfl⟩ : (Vec Sl 4)) k Sl.nil = l →
      WP (weirlaw18_Room_lay (some (pt b8 0)) l >>= fun r174 => queue_New r174 >>= fun r175 => weirlaw18_Room_stand (some (pt b8 0)) l >>= fun r178 => if ¬ (r178 = true) then pure (LS.done false) else
        weirref18_New l >>= fun r181 => slot 71 >>= fun b182 => weirlaw18_num r175.2 >>= fun r183 => (if r183 ≠ r181.2 then pure true else pure (!((Option.isNone r175.1) == (r181.2 != 0)))) >>= fun y184 => if y184 = true then pure (LS.done false) else
        if ¬ (r175.1 = none) then slot 73 >>= fun b187 => appl c_weirlaw18_Side 73 48 z_weirlaw18_Side s9 [(⟨r175.1, r181.1⟩ : weirlaw18_Side)] >>= fun r188 => pure (LS.next (r188, IntKind.wrap .i64 (k + 1))) else pure (LS.next (s9, IntKind.wrap .i64 (k + 1)))) w
        (WP.Rd (fun x w' => (0 ≤ x.2 ∧ x.2 ≤ 4 ∧ ∃ sl n L sp sds ssp ms, L.length ≤ 8000000000000 ∧ sds.length = ms.length ∧ (sds.length : Int) ≤ x.2 ∧ Ss W (LHs (pt b8 0) sl n L sp x.1 sds ssp ms [vec c_api_Class r2 zs zsp, rdS c_api_Class false a0 xs, rdS c_api_Class false a1 ys, rdS c_weirlaw18_Op false a3 os]) w') ∧ (4 - x.2).toNat < (4 - k).toNat) (fun r w' => r = true ∧ Below W.heap.size W w')) := by
    intro A l us j e r hb _
    refine lent_body (f := fun r174 r175 ok r181 => if ok = false then pure (LS.done false) else slot 71 >>= fun b182 => weirlaw18_num r175.2 >>= fun r183 => (if r183 ≠ r181.2 then pure true else pure (!((Option.isNone r175.1) == (r181.2 != 0)))) >>= fun y184 => if y184 = true then pure (LS.done false) else
        if ¬ (r175.1 = none) then slot 73 >>= fun b187 => appl c_weirlaw18_Side 73 48 z_weirlaw18_Side s9 [(⟨r175.1, r181.1⟩ : weirlaw18_Side)] >>= fun r188 => pure (LS.next (r188, IntKind.wrap .i64 (k + 1))) else pure (LS.next (s9, IntKind.wrap .i64 (k + 1)))) s j e r hb hL ?_ ?_
    · intro r1 q r4 sl' L' sp' w hL' s
      refine WP.ite (fun h => by cases h) (fun _ => WP.slot' s (fun _ w s => ?_))
      unfold weirlaw18_num
      refine WP.step (R := fun y w' => y = (0 : Int) ∧ w = w') (WP.ret ⟨rfl, rfl⟩) ?_
      rintro _ _ ⟨rfl, rfl⟩
      refine WP.step (R := fun y w' => y = false ∧ w = w') (WP.ite (fun h => absurd rfl h) (fun _ => WP.ret ⟨rfl, rfl⟩)) ?_
      rintro _ _ ⟨rfl, rfl⟩
      refine WP.ite (fun h => by cases h) (fun _ => WP.ite (fun _ => WP.slot' s (fun _ w s => ?_)) (fun h => absurd (by simp) h))
      refine WP.appl s 4 rfl (by simp only [List.length_cons, List.length_nil]; omega) (by decide) (fun r w sp2 s => WP.next ?_)
      rw [wrap_i64 (by omega) (by omega)]
      have s2 := (Ss.group (l := [Queue (some q) (newQ us), RQ r4 (newQ us)]) (s.use [1, 0] rfl)).into 3 rfl (M := zipH SideH (sds ++ [⟨some q, r4⟩]) (ms ++ [newQ us])) (by
        rw [zipH_snoc hm]
        exact (List.perm_append_singleton _ _).symm)
      exact ⟨⟨by simp only; omega, by simp only; omega, sl', us.length, L', sp', _, sp2, _, hL', by simp [hm], by simp only [List.length_append, List.length_cons, List.length_nil]; omega, s2⟩, by simp only; omega⟩
    · intro r1 r4 sl' L' sp' w hL' s
      refine WP.ite (fun h => by cases h) (fun _ => WP.slot' s (fun _ w s => ?_))
      unfold weirlaw18_num
      refine WP.step (R := fun y w' => y = (180 : Int) ∧ w = w') (WP.ret ⟨rfl, rfl⟩) ?_
      rintro _ _ ⟨rfl, rfl⟩
      refine WP.step (R := fun y w' => y = false ∧ w = w') (WP.ite (fun h => absurd rfl h) (fun _ => WP.ret ⟨rfl, rfl⟩)) ?_
      rintro _ _ ⟨rfl, rfl⟩
      refine WP.ite (fun h => by cases h) (fun _ => WP.ite (fun h => absurd rfl h) (fun _ => WP.next ?_))
      rw [wrap_i64 (by omega) (by omega)]
      exact ⟨⟨by simp only; omega, by simp only; omega, sl', us.length, L', sp', _, _, _, hL', hm, by simp only; omega, s⟩, by simp only; omega⟩
  have h4k : k = 0 ∨ k = 1 ∨ k = 2 ∨ k = 3 := by omega
  rcases h4k with rfl | rfl | rfl | rfl
  · exact WP.chk hch (go (l := a0) 1 rfl rdS_rdb hx rfl)
  · exact WP.chk hch (go (l := a1) 2 rfl rdS_rdb hy rfl)
  · exact WP.chk hch (go (l := r2) 0 rfl vec_rdb hz rfl)
  · exact WP.chk hch (go (l := a0) 1 rfl rdS_rdb hx rfl)
end
theorem QueueLent_true : ∀ (W : World) (u0 : Sl) (u1 : Sl) (u2 : Int) (u3 : Sl), (GSl c_api_Class (Try.prog.bytesOf 41) (fun W u => G41 W u) W u0) → (GSl c_api_Class (Try.prog.bytesOf 41) (fun W u => G41 W u) W u1) → ((Lit.int .i64 u2).wf = true) → (GSl c_weirlaw18_Op (Try.prog.bytesOf 48) (fun W u => G48 W u) W u3) → ∃ W', weirlaw18_QueueLent u0 u1 u2 u3 W = some (true, W') ∧ Below W.heap.size W W' := by
  intro W u0 u1 u2 u3 g0 g1 _ g3
  have b41 : Try.prog.bytesOf 41 = 40 := by kernel_rfl
  have b48 : Try.prog.bytesOf 48 = 40 := by kernel_rfl
  have hr : reachBytes = 140737488351232 := rfl
  obtain ⟨os, _, ho, s⟩ := (Ss.start W).args g3 (by decide)
  obtain ⟨ys, _, hy, s⟩ := s.args g1 (by decide)
  obtain ⟨xs, _, hx, s⟩ := s.args g0 (by decide)
  rw [b41, hr] at hx hy
  have main : WP (weirlaw18_QueueLent u0 u1 u2 u3) W (fun r W' => r = true ∧ Below W.heap.size W W') := by
    unfold weirlaw18_QueueLent
    refine WP.step (started_wp s) ?_
    rintro _ w ⟨rfl, s⟩
    refine WP.ite (fun h => absurd rfl h) (fun _ => ?_)
    refine WP.appS s 0 rfl rdS_rdb (by decide) (WP.appl0 s (by omega) (by omega) (fun r2 w sp s => ?_))
    have hl := (s.vec_len (i := 0) rfl).1
    rw [hl]
    refine WP.ite (fun h => WP.chk (by omega) ?_) (fun h => lent_K3 s hx hy hx)
    have k4 : ∀ k : Int, 0 ≤ k → k < xs.length → WP (weirlaw18_QueueLent.K4 u0 u1 u3 r2 k) w (fun r w' => r = true ∧ Below W.heap.size W w') := by
      intro k k0 k1
      unfold weirlaw18_QueueLent.K4
      refine WP.stx s 0 rfl k0 k1 rfl (fun w s => lent_K3 s hx hy (by rw [List.length_set]; exact hx))
    have h1 : Int.tmod u2 (xs.length : Int) < xs.length := Int.tmod_lt_of_pos _ (by omega)
    have h2 : -(xs.length : Int) < Int.tmod u2 (xs.length : Int) := Int.lt_tmod_of_pos _ (by omega)
    refine WP.ite (fun h => ?_) (fun h => k4 _ (by omega) h1)
    rw [wrap_i64 (by omega) (by omega)]
    exact k4 _ (by omega) (by omega)
  obtain ⟨r, W', h1, rfl, h2⟩ := main
  exact ⟨W', h1, h2⟩
end Go.Proofs.Ytgddbpmfendaeaa.Lx
