/- The machine 'Lx', places: slices that are kept to be read; appends to one slice of one's own that is kept; books of lists that were handed out. -/
import Derived.Test.YtlkhijflgbobjaaLxO
set_option linter.unusedVariables false
set_option linter.unusedSimpArgs false
namespace Go.Proofs.Ytlkhijflgbobjaa.Lx
open Go Go.RowKit
def Held {α : Type} (c : Cod α) (z : List (Sl × List α)) : HP := fun h => ∀ p ∈ z, rdS c false p.1 p.2 h
section
variable {α : Type} {c : Cod α} {W w : World} {Hs : List HP}
theorem Held.app {z y : List (Sl × List α)} (s : Ss W (Held c z :: Held c y :: Hs) w) : Ss W (Held c (z ++ y) :: Hs) w :=
  s.merge (fun h1 h2 h l1 l2 a b p hp => (List.mem_append.1 hp).elim (fun hp => rdS_up l1 (a p hp)) (fun hp => rdS_up l2 (b p hp)))
theorem Held.one {sl : Sl} {xs : List α} (s : Ss W (rdS c false sl xs :: Hs) w) : Ss W (Held c [(sl, xs)] :: Hs) w :=
  s.first (fun h a p hp => by
    rw [List.mem_singleton] at hp
    subst hp
    exact a)
theorem Held.rdb {z : List (Sl × List α)} {p : Sl × List α} (hp : p ∈ z) : Rdb (Held c z) c p.1 p.2 := fun h hh => rdS_rdb (q := false) h (hh p hp)
theorem vec_shift {sl : Sl} {l ys zs : List α} {h : PH} (hv : vec c sl l (ys ++ zs) h) : vec c ⟨sl.a, l.length + ys.length, sl.cap⟩ (l ++ ys) zs h := by
  obtain ⟨h1, h2, h3⟩ := hv
  refine ⟨by simp, by simp only [List.length_append] at h2 ⊢; omega, ?_⟩
  cases ha : sl.a with
  | none =>
    rw [ha] at h3
    obtain ⟨rfl, h3⟩ := h3
    obtain ⟨rfl, rfl⟩ := List.append_eq_nil_iff.1 h3
    exact ⟨rfl, rfl⟩
  | some a =>
    rw [ha] at h3
    show pts true a (((l ++ ys) ++ zs).flatMap c.enc) h
    rw [List.append_assoc]
    exact h3
theorem vec_back {sl g : Sl} {l ys zs : List α} {h : PH} (hv : vec c g (l ++ ys) zs h) (hl : sl.len = l.length) (hg : g = ⟨sl.a, l.length + ys.length, sl.cap⟩) : vec c sl l (ys ++ zs) h := by
  subst hg
  obtain ⟨h1, h2, h3⟩ := hv
  refine ⟨hl, by simp only [List.length_append] at h2 ⊢; omega, ?_⟩
  cases ha : sl.a with
  | none =>
    simp only [ha] at h3
    obtain ⟨h3, rfl⟩ := h3
    obtain ⟨rfl, rfl⟩ := List.append_eq_nil_iff.1 h3
    exact ⟨rfl, rfl⟩
  | some a =>
    simp only [ha] at h3
    show pts true a ((l ++ (ys ++ zs)).flatMap c.enc) h
    rw [← List.append_assoc]
    exact h3
theorem vec_frz {sl : Sl} {xs sp : List α} {h : PH} (hv : vec c sl xs sp h) : rdS c false sl xs (fun b o => (h b o).map fun x => (false, x.2)) := by
  obtain ⟨h1, h2, h3⟩ := hv
  refine ⟨h1, by omega, fun hne => ?_, fun a ha hne => ?_⟩
  · cases ha : sl.a with
    | some a => exact ⟨a, rfl⟩
    | none => rw [ha] at h3; exact absurd h3.1 hne
  · rw [ha] at h3
    obtain ⟨sp', hp⟩ := h3
    refine ⟨sp', fun i x hx => ?_⟩
    have h4 := hp i x (by rw [List.flatMap_append, List.getElem?_append_left (List.getElem?_eq_some_iff.1 hx).1]; exact hx)
    show (h a.block (a.off + i)).map _ = _
    rw [h4]
    rfl
theorem Ss.ptsplit {q : Bool} {a : Addr} {l m : List Value} (s : Ss W (pts q a (l ++ m) :: Hs) w) : Ss W (pts q a l :: pts q (a.add l.length) m :: Hs) w := by
  refine (Ss.split (l := [pts q a l, pts q (a.add l.length) m]) (s.first (fun h hh => ?_)))
  obtain ⟨sp, hp⟩ := hh
  refine ⟨fun b o => if b = a.block ∧ o < a.off + l.length then h b o else none, fun b o => if b = a.block ∧ o < a.off + l.length then none else h b o, ?_, ?_, ?_, ⟨sp, fun i x hx => ?_⟩, ?_⟩
  · intro b o x y hx hy
    simp only at hx hy
    split at hx
    · rename_i hc
      rw [if_pos hc] at hy
      cases hy
    · cases hx
  · intro b o x hx
    simp only at hx
    split at hx
    · exact hx
    · cases hx
  · intro b o x hx
    simp only at hx
    split at hx
    · cases hx
    · exact hx
  · have hi := (List.getElem?_eq_some_iff.1 hx).1
    show (if _ then _ else _) = _
    rw [if_pos ⟨rfl, by omega⟩]
    exact hp i x (by rw [List.getElem?_append_left hi]; exact hx)
  · have hm : pts q (a.add l.length) m (fun b o => if b = a.block ∧ o < a.off + l.length then none else h b o) := by
      rw [addr_add sp]
      refine ⟨rfl, fun i x hx => ?_⟩
      show (if _ then _ else _) = _
      rw [if_neg (by simp only; omega), ← hp (l.length + i) x (by rw [List.getElem?_append_right (by omega), Nat.add_sub_cancel_left]; exact hx)]
      congr 1
      simp only
      omega
    exact ⟨_, PH.nil, fun _ _ _ _ _ hy => (by cases hy), fun _ _ _ hx => hx, fun _ _ _ hx => (by cases hx), hm, trivial⟩
theorem Ss.alt {A B C : HP} {φ : Prop} (s : Ss W (C :: Hs) w) (f : ∀ h, C h → φ ∧ (A h ∨ B h)) : φ ∧ (Ss W (A :: Hs) w ∨ Ss W (B :: Hs) w) := by
  obtain ⟨hb, k, ⟨h1, h2, e, l1, l2, a, b⟩, hw⟩ := s
  obtain ⟨p, a | a⟩ := f h1 a
  · exact ⟨p, .inl ⟨hb, k, ⟨h1, h2, e, l1, l2, a, b⟩, hw⟩⟩
  · exact ⟨p, .inr ⟨hb, k, ⟨h1, h2, e, l1, l2, a, b⟩, hw⟩⟩
end
namespace WP
variable {α β : Type} {w : World}
theorem applI {W : World} {Hs : List HP} {E : TypeId} {by_ : Nat} {c : Cod α} {z : α} {sl : Sl} {l sp xs : List α} {f : Sl → M β} {Q : β → World → Prop} (s : Ss W Hs w) (i : Nat) (e : nth Hs i = some (vec c sl l sp)) (hx : xs ≠ []) (hc : xs.length ≤ sp.length)
    (k : ∀ w', Ss W (up Hs i (vec c sl l (xs ++ sp.drop xs.length))) w' → WP (f ⟨sl.a, l.length + xs.length, sl.cap⟩) w' Q) : WP (Lx.appl c E by_ z sl xs >>= f) w Q := by
  obtain ⟨e1, e2, e3⟩ := s.vec_len e
  have hxl : 0 < xs.length := List.length_pos_iff.2 hx
  cases ha : sl.a with
  | none =>
    have := (e3 ha).2
    subst this
    rw [List.length_nil] at hc
    omega
  | some a =>
    obtain ⟨a', e4, s2⟩ := s.vec_open e (.inr (by rw [ha]; simp))
    rw [e4] at ha
    cases ha
    obtain ⟨w', h1, h2⟩ := wrF_pts s2 (up_nth e) (vec_upd c l xs sp hc)
    rw [up_up] at h2
    refine bind ⟨⟨some a, l.length + xs.length, l.length + sp.length⟩, w', ?_, ?_⟩
    · rw [e4]
      unfold Lx.appl grow
      rw [plain_flat]
      simp only [Bool.not_true, Bool.false_eq_true, if_false]
      rw [if_pos (by omega), h1]
      rfl
    · have k' := k w' ((h2.close (up_nth e) (fun h hp => by
        rw [e4]
        refine ⟨rfl, ?_, ?_⟩
        · simp only [List.length_append, List.length_drop]
          omega
        · show pts true a ((l ++ (xs ++ sp.drop xs.length)).flatMap c.enc) h
          rw [← List.append_assoc]
          exact hp)) |> fun s => up_up ▸ s)
      rw [e4] at k'
      rw [e4] at e2
      exact k'
end WP
def GrowSt {α : Type} (c : Cod α) (sl : Sl) (xs : List α) (g : Sl) (m : α) (q : Nat) : HP := fun h => (sl.len = xs.length ∧ g.len = xs.length + q) ∧
  (Lx.ex (fun _ : List α => g = ⟨sl.a, xs.length + q, sl.cap⟩) (fun sp => vec c sl xs (List.replicate q m ++ sp)) h ∨ Lx.ex (fun _ : List α => True) (fun sp => seps [rdS c false sl xs, vec c g (xs ++ List.replicate q m) sp]) h)
section
variable {α β : Type} {c : Cod α} {W w : World} {R : List HP} {sl g : Sl} {xs : List α} {m : α} {q : Nat}
theorem grow_begin {sp : List α} (s : Ss W (vec c sl xs sp :: R) w) (m : α) : Ss W (GrowSt c sl xs sl m 0 :: R) w := by
  have h1 := (s.vec_len (i := 0) rfl).1
  exact s.first (fun h hv => ⟨⟨h1, h1⟩, .inl ⟨sp, by rw [Nat.add_zero, ← h1], hv⟩⟩)
theorem grow_step {E : TypeId} {by_ : Nat} {z : α} {f : Sl → M β} {Q : β → World → Prop} (s : Ss W (GrowSt c sl xs g m q :: R) w) (hb : (xs.length + q + 1) * by_ ≤ 140737488355328) (h0 : 0 < by_) (h1 : 0 < c.n)
    (k : ∀ r w', Ss W (GrowSt c sl xs r m (q + 1) :: R) w' → WP (f r) w' Q) : WP (Lx.appl c E by_ z g [m] >>= f) w Q := by
  obtain ⟨⟨e1, e2⟩, s | s⟩ := s.alt (fun h hh => hh)
  · obtain ⟨sp, rfl, s⟩ := s.openx 0 rfl
    have s : Ss W (vec c sl xs (List.replicate q m ++ sp) :: R) w := s
    have s : Ss W (vec c ⟨sl.a, xs.length + q, sl.cap⟩ (xs ++ List.replicate q m) sp :: R) w := s.first (fun h hv => by
      have := vec_shift hv
      rw [List.length_replicate] at this
      exact this)
    obtain ⟨f1, f2, _⟩ := s.vec_len (i := 0) rfl
    match sp with
    | [] =>
      refine WP.applR s 0 rfl vec_rdb (by simp only [List.length_append, List.length_replicate, List.length_cons, List.length_nil] at f2 ⊢; omega) (by simpa [Nat.add_assoc] using hb) h0 h1 (fun r w sp1 s => k r w ?_)
      have s := s.use [1, 0] (s := [_, _]) (r := R) rfl
      have s : Ss W (rdS c false sl xs :: vec c r (xs ++ List.replicate q m ++ [m]) sp1 :: R) w := Ss.vec_freeze (s.first (fun h hv => vec_back hv e1 (by rw [List.length_replicate])))
      have e3 := (s.vec_len (i := 1) rfl).1
      have s : Ss W ([rdS c false sl xs, vec c r (xs ++ List.replicate q m ++ [m]) sp1] ++ R) w := s
      refine s.group.first (fun h hh => ⟨⟨e1, by simp at e3; omega⟩, .inr ⟨sp1, trivial, ?_⟩⟩)
      rw [List.replicate_succ', ← List.append_assoc]
      exact hh
    | y :: sp =>
      refine WP.applI s 0 rfl (by simp) (by simp) (fun w s => k _ w ?_)
      have s : Ss W (vec c ⟨sl.a, xs.length + q, sl.cap⟩ (xs ++ List.replicate q m) (m :: sp) :: R) w := s
      refine s.first (fun h hv => ⟨⟨e1, by simp; omega⟩, .inl ⟨sp, by simp; omega, ?_⟩⟩)
      have := vec_back hv e1 (by rw [List.length_replicate])
      show vec c sl xs (List.replicate (q + 1) m ++ sp) h
      rw [List.replicate_succ', List.append_assoc]
      exact this
  · obtain ⟨sp, _, s⟩ := s.openx 0 rfl
    have s : Ss W (rdS c false sl xs :: vec c g (xs ++ List.replicate q m) sp :: R) w := Ss.split (l := [rdS c false sl xs, vec c g (xs ++ List.replicate q m) sp]) s
    refine WP.appl s 1 rfl (by simpa [Nat.add_assoc] using hb) h0 (fun r w sp1 s => k r w ?_)
    have s : Ss W ([rdS c false sl xs, vec c r (xs ++ List.replicate q m ++ [m]) sp1] ++ R) w := s
    have e3 := (s.vec_len (i := 1) rfl).1
    refine s.group.first (fun h hh => ⟨⟨e1, by simp at e3; omega⟩, .inr ⟨sp1, trivial, ?_⟩⟩)
    rw [List.replicate_succ', ← List.append_assoc]
    exact hh
theorem grow_len (s : Ss W (GrowSt c sl xs g m q :: R) w) : g.len = xs.length + q := (s.alt (fun h hh => hh)).1.2
theorem grow_end (s : Ss W (GrowSt c sl xs g m q :: R) w) : Ss W (Held c [(sl, xs), (g, xs ++ List.replicate q m)] :: R) w := by
  obtain ⟨⟨e1, e2⟩, s | s⟩ := s.alt (fun h hh => hh)
  · obtain ⟨sp, rfl, s⟩ := s.openx 0 rfl
    have s : Ss W (vec c sl xs (List.replicate q m ++ sp) :: R) w := s
    refine s.freeze (fun h hv p hp => ?_)
    simp only [List.mem_cons, List.not_mem_nil, or_false] at hp
    rcases hp with rfl | rfl
    · exact vec_frz hv
    · have := vec_frz (vec_shift hv)
      rw [List.length_replicate] at this
      exact this
  · obtain ⟨sp, _, s⟩ := s.openx 0 rfl
    have s : Ss W (rdS c false sl xs :: vec c g (xs ++ List.replicate q m) sp :: R) w := Ss.split (l := [rdS c false sl xs, vec c g (xs ++ List.replicate q m) sp]) s
    have s := Held.one ((Ss.vec_freeze (s.use [1] (s := [_]) (r := [_] ++ R) rfl)).use [1] (s := [_]) (r := [_] ++ R) rfl)
    have s := Held.one (s.use [1] (s := [_]) (r := [_] ++ R) rfl)
    exact Held.app (s.use [1] (s := [_]) (r := [_] ++ R) rfl)
end
end Go.Proofs.Ytlkhijflgbobjaa.Lx
