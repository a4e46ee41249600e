/- Slices that are kept to be read; two appends to one slice of one's own that is kept. -/
import Derived.Test.YtlkhijflgbobjaaLxO
set_option linter.unusedVariables false
set_option linter.unusedSimpArgs false
namespace Go.Proofs.Ytlkhijflgbobjaa.Lx
open Go Go.Proofs Go.RowKit
def Held {α : Type} (c : Cod α) (z : List (Sl × List α)) : HP := fun h => ∀ p ∈ z, rdS c false p.1 p.2 h
section
variable {α : Type} {c : Cod α} {W w : World} {Hs : List HP}
theorem Held.app {z y : List (Sl × List α)} (s : Ss W (Held c z :: Held c y :: Hs) w) : Ss W (Held c (z ++ y) :: Hs) w :=
  s.merge (fun h1 h2 h l1 l2 a b p hp => (List.mem_append.1 hp).elim (fun hp => rdS_up l1 (a p hp)) (fun hp => rdS_up l2 (b p hp)))
theorem Held.one {sl : Sl} {xs : List α} (s : Ss W (rdS c false sl xs :: Hs) w) : Ss W (Held c [(sl, xs)] :: Hs) w :=
  s.first (fun h a p hp => by
    rw [List.mem_singleton] at hp
    subst hp
    exact a)
theorem Held.rdb {z : List (Sl × List α)} {p : Sl × List α} (hp : p ∈ z) : Rdb (Held c z) c p.1 p.2 := fun h hh => rdS_rdb (q := false) h (hh p hp)
theorem vec_shift {sl : Sl} {l ys zs : List α} {h : PH} (hv : vec c sl l (ys ++ zs) h) : vec c ⟨sl.a, l.length + ys.length, sl.cap⟩ (l ++ ys) zs h := by
  obtain ⟨h1, h2, h3⟩ := hv
  refine ⟨by simp, by simp only [List.length_append] at h2 ⊢; omega, ?_⟩
  cases ha : sl.a with
  | none =>
    rw [ha] at h3
    obtain ⟨rfl, h3⟩ := h3
    obtain ⟨rfl, rfl⟩ := List.append_eq_nil_iff.1 h3
    exact ⟨rfl, rfl⟩
  | some a =>
    rw [ha] at h3
    show pts true a (((l ++ ys) ++ zs).flatMap c.enc) h
    rw [List.append_assoc]
    exact h3
theorem vec_frz {sl : Sl} {xs sp : List α} {h : PH} (hv : vec c sl xs sp h) : rdS c false sl xs (fun b o => (h b o).map fun x => (false, x.2)) := by
  obtain ⟨h1, h2, h3⟩ := hv
  refine ⟨h1, by omega, fun hne => ?_, fun a ha hne => ?_⟩
  · cases ha : sl.a with
    | some a => exact ⟨a, rfl⟩
    | none => rw [ha] at h3; exact absurd h3.1 hne
  · rw [ha] at h3
    obtain ⟨sp', hp⟩ := h3
    refine ⟨sp', fun i x hx => ?_⟩
    have h4 := hp i x (by rw [List.flatMap_append, List.getElem?_append_left (List.getElem?_eq_some_iff.1 hx).1]; exact hx)
    show (h a.block (a.off + i)).map _ = _
    rw [h4]
    rfl
end
namespace WP
variable {α β : Type} {w : World}
theorem applI {W : World} {Hs : List HP} {E : TypeId} {by_ : Nat} {c : Cod α} {z : α} {sl : Sl} {l sp xs : List α} {f : Sl → M β} {Q : β → World → Prop} (s : Ss W Hs w) (i : Nat) (e : nth Hs i = some (vec c sl l sp)) (hx : xs ≠ []) (hc : xs.length ≤ sp.length)
    (k : ∀ w', Ss W (up Hs i (vec c sl l (xs ++ sp.drop xs.length))) w' → WP (f ⟨sl.a, l.length + xs.length, sl.cap⟩) w' Q) : WP (Lx.appl c E by_ z sl xs >>= f) w Q := by
  obtain ⟨e1, e2, e3⟩ := s.vec_len e
  have hxl : 0 < xs.length := List.length_pos_iff.2 hx
  cases ha : sl.a with
  | none =>
    have := (e3 ha).2
    subst this
    rw [List.length_nil] at hc
    omega
  | some a =>
    obtain ⟨a', e4, s2⟩ := s.vec_open e (.inr (by rw [ha]; simp))
    rw [e4] at ha
    cases ha
    obtain ⟨w', h1, h2⟩ := wrF_pts s2 (up_nth e) (vec_upd c l xs sp hc)
    rw [up_up] at h2
    refine bind ⟨⟨some a, l.length + xs.length, l.length + sp.length⟩, w', ?_, ?_⟩
    · rw [e4]
      unfold Lx.appl grow
      rw [plain_flat]
      simp only [Bool.not_true, Bool.false_eq_true, if_false]
      rw [if_pos (by omega), h1]
      rfl
    · have k' := k w' ((h2.close (up_nth e) (fun h hp => by
        rw [e4]
        refine ⟨rfl, ?_, ?_⟩
        · simp only [List.length_append, List.length_drop]
          omega
        · show pts true a ((l ++ (xs ++ sp.drop xs.length)).flatMap c.enc) h
          rw [← List.append_assoc]
          exact hp)) |> fun s => up_up ▸ s)
      rw [e4] at k'
      rw [e4] at e2
      exact k'
theorem app2 {W : World} {Hs : List HP} {T T' E : TypeId} {by_ : Nat} {c : Cod α} {z : α} {sl : Sl} {l sp : List α} {x : α} {f : Sl → Sl → M β} {Q : β → World → Prop} (s : Ss W Hs w) (i : Nat) (e : nth Hs i = some (vec c sl l sp)) (hb : (l.length + 2) * by_ ≤ 140737488355328) (h0 : 0 < by_) (h1 : 0 < c.n)
    (k : ∀ r1 r2 w', Ss W (Held c [(sl, l), (r1, l ++ [x]), (r2, l ++ [x, x])] :: wo Hs i) w' → WP (f r1 r2) w' Q) :
    WP (Lx.slot T >>= fun _ => Lx.appl c E by_ z sl [x] >>= fun r1 => Lx.slot T' >>= fun _ => Lx.appl c E by_ z sl [x, x] >>= fun r2 => f r1 r2) w Q := by
  have s : Ss W (vec c sl l sp :: wo Hs i) w := s.perm (nth_perm e)
  have hb1 : (l.length + 1) * by_ ≤ 140737488355328 := Nat.le_trans (Nat.mul_le_mul_right _ (by omega)) hb
  obtain ⟨e1, e2, e3⟩ := s.vec_len (i := 0) rfl
  refine WP.slot' s (fun _ w s => ?_)
  match sp with
  | [] =>
    refine WP.applR s 0 rfl vec_rdb (by simp [e2]) (by simpa using hb1) h0 h1 (fun r1 w sp1 s => ?_)
    refine WP.slot' s (fun _ w s => ?_)
    refine WP.applR s 1 rfl vec_rdb (by simp [e2]) (by simpa using hb) h0 h1 (fun r2 w sp2 s => ?_)
    have s1 := Held.one (Ss.vec_freeze s)
    have s2 := Held.app ((Held.one (Ss.vec_freeze (s1.use [1] rfl))).use [0, 0] rfl)
    have s3 := Held.app ((Held.one (Ss.vec_freeze (s2.use [1] rfl))).use [0, 0] rfl)
    exact k _ _ _ s3
  | [y] =>
    refine applI s 0 rfl (by simp) (by simp) (fun w s => ?_)
    refine WP.slot' s (fun _ w s => ?_)
    have s : Ss W (vec c sl l [x] :: wo Hs i) w := s
    refine WP.applR s 0 rfl vec_rdb (by simp [e2]) (by simpa using hb) h0 h1 (fun r2 w sp2 s => ?_)
    have s1 := Held.one (Ss.vec_freeze s)
    have s2 : Ss W (Held c [(sl, l), (⟨sl.a, l.length + 1, sl.cap⟩, l ++ [x])] :: Held c [(r2, l ++ [x, x])] :: wo Hs i) w := (s1.use [1] (s := [_]) rfl).freeze (fun h hv p hp => by
      simp only [List.mem_cons, List.not_mem_nil, or_false] at hp
      rcases hp with rfl | rfl
      · exact vec_frz hv
      · exact vec_frz (vec_shift (ys := [x]) (zs := []) hv))
    exact k _ _ _ (Held.app s2)
  | y :: y2 :: sp =>
    refine applI s 0 rfl (by simp) (by simp) (fun w s => ?_)
    refine WP.slot' s (fun _ w s => ?_)
    have s : Ss W (vec c sl l (x :: y2 :: sp) :: wo Hs i) w := s
    refine applI s 0 rfl (by simp) (by simp) (fun w s => ?_)
    have s : Ss W (vec c sl l ([x, x] ++ sp) :: wo Hs i) w := s
    have s2 : Ss W (Held c [(sl, l), (⟨sl.a, l.length + 1, sl.cap⟩, l ++ [x]), (⟨sl.a, l.length + 2, sl.cap⟩, l ++ [x, x])] :: wo Hs i) w := s.freeze (fun h hv p hp => by
      simp only [List.mem_cons, List.not_mem_nil, or_false] at hp
      rcases hp with rfl | rfl | rfl
      · exact vec_frz hv
      · exact vec_frz (vec_shift (ys := [x]) (zs := x :: sp) hv)
      · exact vec_frz (vec_shift (ys := [x, x]) (zs := sp) hv))
    exact k _ _ _ s2
end WP
end Go.Proofs.Ytlkhijflgbobjaa.Lx
