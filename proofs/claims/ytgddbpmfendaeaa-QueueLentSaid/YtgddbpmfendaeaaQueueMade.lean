/- The laws that hold a queue against the document's, of their programs in the M-world: both queues are made of the same classes; the first steps. -/
import Derived.Test.YtgddbpmfendaeaaQueuePlays
set_option linter.unusedVariables false
set_option linter.unusedSimpArgs false
namespace Go.Proofs.Ytgddbpmfendaeaa.Lx
open Go Go.Proofs Go.RowKit

def twoL : List api_Class := [⟨100, 3, 1000, 0, 0⟩, ⟨200, 9, 1000, 10, 65535⟩]
/-- nothing waits -/
def fresh (m : QM) : Prop := ∀ k ∈ m.cl, k.q = []
theorem newQ_fresh (xs : List api_Class) : fresh (newQ xs) := by
  intro k hk
  obtain ⟨c, _, rfl⟩ := List.mem_map.1 hk
  rfl
theorem fresh_some {m : QM} (h : fresh m) : m.some_ = false := by
  unfold QM.some_
  rw [List.any_eq_false]
  intro k hk
  unfold Cl.rdy
  rw [h k hk]
  simp [rdy]
theorem fresh_get {m : QM} (h : fresh m) (i : Nat) : (m.cl.getD i default).q = [] := by
  rw [List.getD]
  cases hi : m.cl[i]? with
  | none => rfl
  | some k => exact h k (List.mem_of_getElem? hi)
theorem fresh_len {m : QM} (h : fresh m) (a : Int) : m.len a = 0 := by
  unfold QM.len
  rw [fresh_get h]
  simp
theorem fresh_bytes {m : QM} (h : fresh m) (a : Int) : m.bytes a = 0 := by
  unfold QM.bytes
  rw [fresh_get h]
  simp [sizes]
theorem twoL_ok : newOk twoL = true := by decide
section
variable {W w : World} {Hs : List HP}
theorem two_wp (s : Ss W Hs w) : WP weirlaw18_two w (fun r w' => Ss W (vec c_api_Class r twoL [] :: Hs) w') := by
  unfold weirlaw18_two
  refine WP.newv s (fun b w s => WP.ret ?_)
  refine s.first (fun h hp => ?_)
  refine ⟨rfl, rfl, ?_⟩
  rw [Cod.arr_enc] at hp
  exact hp
/-- a queue of those classes, or of two others -/
theorem made_wp {A : HP} {a0 : Sl} {xs : List api_Class} (s : Ss W Hs w) (i : Nat) (e : nth Hs i = some A) (r : Rdb A c_api_Class a0 xs) (hb : xs.length * 40 ≤ 140737488355328) :
    WP (weirlaw18_made a0) w (fun r w' => r.2 = true ∧ ∃ m, fresh m ∧ Ss W (Queue r.1.Q m :: RQ r.1.R m :: Hs) w') := by
  unfold weirlaw18_made
  obtain ⟨hl, _⟩ := s.rd_len e r
  refine WP.slot' s (fun b w s => ?_)
  refine WP.appS s i e r (by decide) (WP.appl0 s hb (by omega) (fun r2 w sp s => ?_))
  refine WP.step (New_wp s 0 rfl vec_rdb) ?_
  rintro r3 w ⟨hy, hn⟩
  -- what stands behind both New: G
  have key : ∀ (r3 : (Option Addr) × Int) (r4 : weirref18_Queue × Int) (w : World) (G : List HP) (j : Nat), nth (vec c_api_Class r2 xs sp :: G) (j + 1) = some A → Ss W (vec c_api_Class r2 xs sp :: G) w →
      (∀ w, Ss W G w → WP (weirlaw18_made.K1 r3 r4 true) w (fun r w' => r.2 = true ∧ ∃ m, fresh m ∧ Ss W (Queue r.1.Q m :: RQ r.1.R m :: Hs) w')) →
      WP (slot 71 >>= fun b5 => loopM (fun s_ : (Bool × Int) => weirlaw18_made.L1 a0 r2 r3 r4 s_.1 s_.2) (true, 0)) w (fun r w' => r.2 = true ∧ ∃ m, fresh m ∧ Ss W (Queue r.1.Q m :: RQ r.1.R m :: Hs) w') := by
    intro r3 r4 w G j hj s fin
    refine WP.slot' s (fun b w s => ?_)
    refine WP.loop (fun (x : Bool × Int) w' => x.1 = true ∧ 0 ≤ x.2 ∧ x.2 ≤ xs.length ∧ ∃ ys, ys.length = xs.length ∧ (∀ t : Nat, x.2.toNat ≤ t → ys[t]? = xs[t]?) ∧ Ss W (vec c_api_Class r2 ys sp :: G) w') (fun x _ => ((xs.length : Int) - x.2).toNat) ⟨rfl, by simp, by simp, xs, rfl, fun _ _ => rfl, s⟩ ?_
    rintro ⟨t, k⟩ w ⟨ht, k0, k1, ys, hyl, hys, s⟩
    simp only at ht k0 k1 hys
    subst ht
    show WP (weirlaw18_made.L1 a0 r2 r3 r4 true k) w _
    unfold weirlaw18_made.L1
    have e' : nth (vec c_api_Class r2 ys sp :: G) (j + 1) = some A := hj
    refine WP.ite (fun hk => WP.draw' s (fun w s => ?_)) (fun hk => ?_)
    · rw [hl] at hk
      have hkl : k.toNat < xs.length := by omega
      have hx := List.getElem?_eq_getElem hkl
      generalize xs[k.toNat] = x at hx
      have hx2 : ys[k.toNat]? = some x := (hys _ (Nat.le_refl _)).trans hx
      refine WP.step (R := fun y w' => y = true ∧ Ss W (vec c_api_Class r2 ys sp :: G) w') (WP.ite (fun _ => ?_) (fun h => absurd rfl h)) ?_
      · refine WP.rdx s 0 rfl vec_rdb k0 hx2 rfl ?_
        refine WP.rdx s (j + 1) e' r k0 hx rfl (WP.ret ⟨by simp [eqv], s⟩)
      rintro _ w ⟨rfl, s⟩
      have hne : ys ≠ [] := fun e => by rw [e] at hx2; simp at hx2
      obtain ⟨b, eb, s2⟩ := s.vec_open (i := 0) rfl (.inl hne)
      refine WP.idxs eb k0 (by omega) ?_
      refine WP.st s2 0 rfl rfl (upd_row (c := c_api_Class) _ (by omega)) (fun w s => WP.next ?_)
      rw [wrap_i64 (by omega) (by omega)]
      refine ⟨⟨rfl, by simp only; omega, by simp only; omega, _, ?_, ?_, s.close (i := 0) (B := vec c_api_Class r2 (ys.set k.toNat _) sp) rfl (fun h hp => by
        have := vec_mk hp
        rw [eb]
        simpa using this)⟩, by simp only; omega⟩
      · simpa using hyl
      · intro t ht
        simp only at ht
        rw [List.getElem?_set_ne (by omega)]
        exact hys t (by omega)
    · refine WP.step (fin w s.drop) (fun r w h => WP.done h)
  have he1 : nth (vec c_api_Class r2 xs sp :: Hs) (i + 1) = some A := e
  cases hx : newOk xs with
  | true =>
    obtain ⟨q, rfl, s⟩ := hy hx
    have s1 : Ss W (vec c_api_Class r2 xs sp :: Queue (some q) (newQ xs) :: Hs) w := s.use [1] rfl
    refine WP.step (rNew_wp s1 (i + 2) e r (by omega)) ?_
    rintro ⟨r4, n4⟩ w ⟨hy4, _⟩
    obtain ⟨h4, s⟩ := hy4 hx
    simp only at h4
    subst h4
    have s2 : Ss W (vec c_api_Class r2 xs sp :: Queue (some q) (newQ xs) :: RQ r4 (newQ xs) :: Hs) w := (s.use [1, 1] rfl)
    refine key _ _ w (Queue (some q) (newQ xs) :: RQ r4 (newQ xs) :: Hs) (i + 2) e s2 (fun w s => ?_)
    unfold weirlaw18_made.K1 weirlaw18_num
    refine WP.step (R := fun y w' => y = (0 : Int) ∧ w = w') (WP.ret ⟨rfl, rfl⟩) ?_
    rintro _ _ ⟨rfl, rfl⟩
    refine WP.step (R := fun y w' => y = false ∧ w = w') (WP.ite (fun h => absurd rfl h) (fun _ => WP.ret ⟨rfl, rfl⟩)) ?_
    rintro _ _ ⟨rfl, rfl⟩
    refine WP.step (R := fun y w' => y = false ∧ w = w') (WP.ite (fun h => by cases h) (fun _ => WP.ret ⟨rfl, rfl⟩)) ?_
    rintro _ _ ⟨rfl, rfl⟩
    refine WP.ite (fun h => by cases h) (fun _ => WP.ite (fun _ => WP.ret ⟨rfl, newQ xs, newQ_fresh xs, s⟩) (fun h => absurd rfl h))
  | false =>
    obtain ⟨rfl, s⟩ := hn hx
    refine WP.step (rNew_wp s (i + 1) e r (by omega)) ?_
    rintro ⟨r4, n4⟩ w ⟨_, hn4⟩
    obtain ⟨h4, s⟩ := hn4 hx
    simp only at h4
    subst h4
    refine key _ _ w Hs i e s (fun w s => ?_)
    unfold weirlaw18_made.K1 weirlaw18_num
    refine WP.step (R := fun y w' => y = (180 : Int) ∧ w = w') (WP.ret ⟨rfl, rfl⟩) ?_
    rintro _ _ ⟨rfl, rfl⟩
    refine WP.step (R := fun y w' => y = false ∧ w = w') (WP.ite (fun h => absurd rfl h) (fun _ => WP.ret ⟨rfl, rfl⟩)) ?_
    rintro _ _ ⟨rfl, rfl⟩
    refine WP.step (R := fun y w' => y = false ∧ w = w') (WP.ite (fun h => by cases h) (fun _ => WP.ret ⟨rfl, rfl⟩)) ?_
    rintro _ _ ⟨rfl, rfl⟩
    refine WP.ite (fun h => by cases h) (fun _ => WP.ite (fun h => by cases h) (fun _ => ?_))
    refine WP.step (two_wp s) ?_
    intro r18 w s
    refine WP.step (New_wp s 0 rfl vec_rdb) ?_
    rintro r19 w ⟨hy, _⟩
    obtain ⟨q, rfl, s⟩ := hy twoL_ok
    refine WP.step (two_wp s) ?_
    intro r20 w s
    refine WP.step (rNew_wp s 0 rfl vec_rdb (by decide)) ?_
    rintro ⟨r21, n21⟩ w ⟨hy4, _⟩
    obtain ⟨h4, s⟩ := hy4 twoL_ok
    refine WP.draw' s (fun w s => ?_)
    refine WP.step (R := fun y w' => y = true ∧ w = w') (WP.ite (fun _ => WP.ret ⟨rfl, rfl⟩) (fun h => absurd (by simp) h)) ?_
    rintro _ _ ⟨rfl, rfl⟩
    exact WP.ret ⟨rfl, newQ twoL, newQ_fresh twoL, ((s.use [1, 2] rfl).drop.drop.use [1] rfl)⟩
theorem started_wp (s : Ss W Hs w) : WP weirlaw18_started w (fun r w' => r = true ∧ Ss W Hs w') := by
  unfold weirlaw18_started
  refine WP.step (two_wp s) ?_
  intro r1 w s
  refine WP.step (made_wp s 0 rfl vec_rdb (by decide)) ?_
  rintro ⟨sd, ok⟩ w ⟨hok, m, _, s⟩
  simp only at hok s
  subst hok
  refine WP.slot' s (fun b w s => WP.slot' s (fun b w s => ?_))
  refine WP.loop (fun (x : Bool × Int × weirlaw18_Side) w' => x.1 = true ∧ 0 ≤ x.2.1 ∧ x.2.1 ≤ 6 ∧ ∃ m, Ss W (Queue x.2.2.Q m :: RQ x.2.2.R m :: vec c_api_Class r1 twoL [] :: Hs) w') (fun x _ => (6 - x.2.1).toNat) ⟨rfl, by simp, by simp, m, s⟩ ?_
  rintro ⟨t, k, sd⟩ w ⟨ht, k0, k1, m, s⟩
  simp only at ht k0 k1 s
  subst ht
  show WP (weirlaw18_started.L1 true k sd) w _
  unfold weirlaw18_started.L1
  refine WP.step (R := fun y w' => y = decide (k < 6) ∧ Ss W (Queue sd.Q m :: RQ sd.R m :: vec c_api_Class r1 twoL [] :: Hs) w') (WP.ite (fun h => WP.ret ⟨by simp [h], s⟩) (fun h => WP.ret ⟨by simp [h], s⟩)) ?_
  rintro _ w ⟨rfl, s⟩
  refine WP.ite (fun h => ?_) (fun h => WP.done ⟨rfl, s.drop.drop.drop⟩)
  have h := of_decide_eq_true h
  refine WP.draw' s (fun w s => WP.chk ⟨k0, by omega⟩ (WP.step (step_wp s _) ?_))
  rintro r w ⟨hr, m', s⟩
  refine WP.next ?_
  rw [wrap_i64 (by omega) (by omega)]
  exact ⟨⟨hr, by simp only; omega, by simp only; omega, m', s⟩, by simp only; omega⟩
end
end Go.Proofs.Ytgddbpmfendaeaa.Lx
