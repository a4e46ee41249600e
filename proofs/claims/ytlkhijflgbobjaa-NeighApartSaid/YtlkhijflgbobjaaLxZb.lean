/- The machine 'Lx', books: lists that were handed out and lie untouched; then each is written full with a mark of its own, and lengthened. (The programs' shape, at any element type.) -/
import Derived.Test.YtlkhijflgbobjaaLxZ
set_option linter.unusedVariables false
set_option linter.unusedSimpArgs false
namespace Go.Proofs.Ytlkhijflgbobjaa.Lx
open Go Go.RowKit
theorem eqrep {α : Type} {l : List α} {n : Nat} {x : α} (hl : l.length = n) (h : ∀ q, q < n → l[q]? = some x) : l = List.replicate n x := by
  refine List.eq_replicate_iff.2 ⟨hl, fun y hy => ?_⟩
  obtain ⟨q, hq, rfl⟩ := List.mem_iff_getElem.1 hy
  have := h q (by omega)
  rw [List.getElem?_eq_getElem hq] at this
  exact Option.some.inj this
structure Ls (α : Type) where
  s : Sl
  x : List α
  sp : List α
def lsH {α : Type} (c : Cod α) (e : Ls α) : HP := vec c e.s e.x e.sp
theorem mapH_nth {α : Type} {P : α → HP} : ∀ {l : List α} {i : Nat} {e : α}, l[i]? = some e → nth (l.map P) i = some (P e)
  | [], _, _, h => by simp at h
  | a :: l, 0, _, h => by
    simp only [List.getElem?_cons_zero, Option.some.injEq] at h
    subst h
    rfl
  | a :: l, i + 1, _, h => by
    simp only [List.getElem?_cons_succ] at h
    exact mapH_nth (l := l) h
theorem mapH_up {α : Type} {P : α → HP} : ∀ {l : List α} {i : Nat} {e : α}, i < l.length → up (l.map P) i (P e) = (l.set i e).map P
  | [], _, _, h => by simp at h
  | a :: l, 0, _, _ => rfl
  | a :: l, i + 1, _, h => by
    show P a :: up (l.map P) i _ = P a :: _
    rw [mapH_up (by simpa using h)]
theorem mapH_rdb {α γ : Type} {P : α → HP} {l : List α} {i : Nat} {e : α} {c : Cod γ} {sl : Sl} {xs : List γ} (h : l[i]? = some e) (r : Rdb (P e) c sl xs) : Rdb (seps (l.map P)) c sl xs := by
  intro k hk
  obtain ⟨h1, a1, l1⟩ := seps_nth hk (mapH_nth (P := P) h)
  obtain ⟨r1, r2, r3⟩ := r h1 a1
  refine ⟨r1, r2, fun j x a hx ha => ?_⟩
  obtain ⟨sp, hp⟩ := r3 j x a hx ha
  exact ⟨sp, fun y v hv => by
    obtain ⟨q, hq⟩ := hp y v hv
    exact ⟨q, l1 _ _ _ hq⟩⟩
def OkLs {α : Type} (es : List (Ls α)) : Prop := ∀ e ∈ es, e.x.length ≤ 1000000
def RowsHs {α : Type} (c : Cod α) (p1 p2 : Addr) (L Z : Sl) (es : List (Ls α)) (zs : List (Sl × List α)) (l1 l2 : List Sl) : List HP :=
  [pts true p1 (cL.enc L), pts true p2 (cL.enc Z), vec cL L (es.map Ls.s) l1, vec cL Z (zs.map (·.1)) l2, seps (es.map (lsH c)), Held c zs]
def RowsP {α : Type} (c : Cod α) (p1 p2 : Addr) (n : Nat) : HP := fun h => ∃ L Z es zs l1 l2, es.length = n ∧ zs.map (·.2) = es.map Ls.x ∧ OkLs es ∧ seps (RowsHs c p1 p2 L Z es zs l1 l2) h
section
variable {α β : Type} {c : Cod α} {W w : World} {R : List HP} {p1 p2 : Addr} {n : Nat} {L Z : Sl} {es : List (Ls α)} {zs : List (Sl × List α)} {l1 l2 : List Sl}
theorem Ss.openR (s : Ss W (RowsP c p1 p2 n :: R) w) : ∃ L Z es zs l1 l2, es.length = n ∧ zs.map (·.2) = es.map Ls.x ∧ OkLs es ∧ Ss W (RowsHs c p1 p2 L Z es zs l1 l2 ++ R) w := by
  obtain ⟨hb, k, ⟨h1, h2, e, l1, l2, ⟨L, Z, es, zs, a1, a2, a3, a4, a5, a6⟩, b⟩, hw⟩ := s
  exact ⟨L, Z, es, zs, a1, a2, a3, a4, a5, Ss.split ⟨hb, k, ⟨h1, h2, e, l1, l2, a6, b⟩, hw⟩⟩
theorem Ss.closeR (s : Ss W (RowsHs c p1 p2 L Z es zs l1 l2 ++ R) w) (h1 : es.length = n) (h2 : zs.map (·.2) = es.map Ls.x) (h3 : OkLs es) : Ss W (RowsP c p1 p2 n :: R) w := s.group.first (fun h hh => ⟨L, Z, es, zs, l1, l2, h1, h2, h3, hh⟩)
theorem rows_new (s : Ss W (pts true p1 (cL.enc Sl.nil) :: pts true p2 (cL.enc Sl.nil) :: R) w) : Ss W (RowsP c p1 p2 0 :: R) w := by
  have s := ((((s.mk0 (A := Held c []) (by intro p hp; cases hp)).mk0 (A := seps ((([] : List (Ls α))).map (lsH c))) trivial).mk0 (A := vec cL Sl.nil [] []) vec_nil).mk0 (A := vec cL Sl.nil [] []) vec_nil).use [4, 4] (s := [_, _]) (r := _ :: _ :: _ :: _ :: R) rfl
  exact Ss.closeR (L := Sl.nil) (Z := Sl.nil) (es := []) (zs := []) (l1 := []) (l2 := []) s rfl rfl (by intro x h; cases h)
noncomputable def keepG (c : Cod α) (E : TypeId) (by_ : Nat) (z : α) (EL : TypeId) (p1 p2 : Addr) (a1 : Sl) : M Unit :=
  appS c E by_ z Sl.nil a1 >>= fun r1 => ld cL p1 >>= fun x3 => slot EL >>= fun _ => appl cL EL 24 Sl.nil x3 [a1] >>= fun r5 => st cL p1 r5 >>= fun _ =>
  ld cL p2 >>= fun x8 => slot EL >>= fun _ => appl cL EL 24 Sl.nil x8 [r1] >>= fun r10 => st cL p2 r10 >>= fun _ => pure ()
theorem keepG_wp {E EL : TypeId} {by_ : Nat} {z : α} {b : Sl} {xs sp : List α} (s : Ss W (vec c b xs sp :: RowsP c p1 p2 n :: R) w) (hx : xs.length ≤ 1000000) (hn : n ≤ 1000000) (h0 : 0 < by_) (h1 : 0 < c.n) (hb : by_ ≤ 1000000) :
    WP (keepG c E by_ z EL p1 p2 b) w (fun _ w' => Ss W (RowsP c p1 p2 (n + 1) :: R) w') := by
  unfold keepG
  have hbb : xs.length * by_ ≤ 1000000 * 1000000 := Nat.mul_le_mul hx hb
  refine WP.appS s 0 rfl vec_rdb h1 (WP.appl0 s (by omega) h0 (fun r w sp1 s => ?_))
  have s := Held.one (Ss.vec_freeze s)
  obtain ⟨L, Z, es, zs, l1, l2, e1, e2, e3, s⟩ := (s.use [2] (s := [_]) (r := [_, _] ++ R) rfl).openR
  have e4 : zs.length = n := by
    have := congrArg List.length e2
    simpa [e1] using this
  have s : Ss W (RowsHs c p1 p2 L Z es zs l1 l2 ++ (Held c [(r, xs)] :: vec c b xs sp :: R)) w := s
  refine WP.ld s 0 rfl (o := 0) (by simp [Addr.add]) (At.whole _) (WP.slot' s (fun _ w s => ?_))
  refine WP.appl s 2 rfl (by simp only [List.length_cons, List.length_nil, List.length_map]; omega) (by decide) (fun L' w l1' s => ?_)
  refine WP.st s 0 rfl (o := 0) (by simp [Addr.add]) (Upd.whole ((cL.len _).trans (cL.len _).symm)) (fun w s => ?_)
  refine WP.ld s 1 rfl (o := 0) (by simp [Addr.add]) (At.whole _) (WP.slot' s (fun _ w s => ?_))
  refine WP.appl s 3 rfl (by simp only [List.length_cons, List.length_nil, List.length_map]; omega) (by decide) (fun Z' w l2' s => ?_)
  refine WP.st s 1 rfl (o := 0) (by simp [Addr.add]) (Upd.whole ((cL.len _).trans (cL.len _).symm)) (fun w s => WP.ret ?_)
  have s : Ss W (pts true p1 (cL.enc L') :: pts true p2 (cL.enc Z') :: vec cL L' (es.map Ls.s ++ [b]) l1' :: vec cL Z' (zs.map (·.1) ++ [r]) l2' :: seps (es.map (lsH c)) :: Held c zs :: Held c [(r, xs)] :: vec c b xs sp :: R) w := s
  have s := Held.app (s.use [5, 5] (s := [_, _]) (r := _ :: _ :: _ :: _ :: _ :: _ :: R) rfl)
  have s : Ss W (vec c b xs sp :: pts true p1 (cL.enc L') :: pts true p2 (cL.enc Z') :: vec cL L' (es.map Ls.s ++ [b]) l1' :: vec cL Z' (zs.map (·.1) ++ [r]) l2' :: seps (es.map (lsH c)) :: Held c (zs ++ [(r, xs)]) :: R) w :=
    s.use [6, 1, 1, 1, 1, 1, 0] (r := R) rfl
  have s := s.into 4 rfl (M := (es ++ [(⟨b, xs, sp⟩ : Ls α)]).map (lsH c)) (by
    rw [List.map_append]
    exact (List.perm_append_singleton _ _).symm)
  refine Ss.closeR (L := L') (Z := Z') (es := es ++ [⟨b, xs, sp⟩]) (zs := zs ++ [(r, xs)]) (l1 := l1') (l2 := l2') ?_ (by simp [e1]) (by simp [e2]) (fun e he => ?_)
  · have f1 : (es ++ [(⟨b, xs, sp⟩ : Ls α)]).map Ls.s = es.map Ls.s ++ [b] := by simp
    have f2 : (zs ++ [(r, xs)]).map (·.1) = zs.map (·.1) ++ [r] := by simp
    unfold RowsHs
    rw [f1, f2]
    exact s
  · rcases List.mem_append.1 he with he | he
    · exact e3 e he
    · simp only [List.mem_singleton] at he
      subst he
      exact hx
noncomputable def untG (same : Sl → Sl → M Bool) (p1 p2 : Addr) (K : M β) (no : β) (s1 : Int) : M (LS Int β) :=
  ld cL p1 >>= fun x16 => if s1 < (x16.len : Int) then draw >>= fun _ => ld cL p1 >>= fun x18 => idx x18.a x18.len s1 1 >>= fun p19 => ld cL p19 >>= fun x20 =>
    ld cL p2 >>= fun x22 => idx x22.a x22.len s1 1 >>= fun p23 => ld cL p23 >>= fun x24 => same x20 x24 >>= fun r25 => if ¬ (r25 = true) then pure (LS.done no) else pure (LS.next (IntKind.wrap .i64 (s1 + 1)))
  else K >>= fun b => pure (LS.done b)
theorem untG_wp {same : Sl → Sl → M Bool} {K : M β} {no : β} {Q : β → World → Prop} (s : Ss W (RowsP c p1 p2 n :: R) w) (hn : n ≤ 1000000)
    (hs : ∀ {W w : World} {Hs : List HP} {A B : HP} {a b : Sl} {xs : List α} (i j : Nat), Ss W Hs w → nth Hs i = some A → Rdb A c a xs → nth Hs j = some B → Rdb B c b xs → xs.length ≤ 1000000 → WP (same a b) w (fun y w' => y = true ∧ Ss W Hs w'))
    (hk : ∀ w, Ss W (RowsP c p1 p2 n :: R) w → WP K w Q) : WP (loopM (fun s_ : Int => untG same p1 p2 K no s_) 0) w Q := by
  obtain ⟨L, Z, es, zs, l1, l2, e1, e2, e3, s⟩ := s.openR
  have e4 : zs.length = n := by
    have := congrArg List.length e2
    simpa [e1] using this
  refine WP.loopG (γ := Nat) (fun i (x : Int) w => x = (i : Int) ∧ i ≤ n ∧ Ss W (RowsHs c p1 p2 L Z es zs l1 l2 ++ R) w) (fun i _ => n - i) 0 ⟨rfl, by omega, s⟩ ?_
  clear s
  rintro i _ w ⟨rfl, hi, s⟩
  show WP (untG same p1 p2 K no (i : Int)) w _
  unfold untG
  have hL := (s.vec_len (i := 2) rfl).1
  rw [List.length_map, e1] at hL
  refine WP.ld s 0 rfl (o := 0) (by simp [Addr.add]) (At.whole _) ?_
  refine WP.ite (fun h => WP.draw' s (fun w s => ?_)) (fun h => WP.step (hk w (s.closeR e1 e2 e3)) (fun r w h => WP.done h))
  have hi : i < n := by omega
  obtain ⟨e, he⟩ : ∃ e, es[i]? = some e := ⟨_, List.getElem?_eq_getElem (by rw [e1]; exact hi)⟩
  obtain ⟨z, hz⟩ : ∃ z, zs[i]? = some z := ⟨_, List.getElem?_eq_getElem (by rw [e4]; exact hi)⟩
  have hze : z.2 = e.x := by
    have := congrArg (·[i]?) e2
    simp only [List.getElem?_map, he, hz, Option.map_some, Option.some.injEq] at this
    exact this
  refine WP.ld s 0 rfl (o := 0) (by simp [Addr.add]) (At.whole _) (WP.rdx s 2 rfl vec_rdb (by omega) (x := e.s) (by rw [Int.toNat_natCast, List.getElem?_map, he]; rfl) rfl ?_)
  refine WP.ld s 1 rfl (o := 0) (by simp [Addr.add]) (At.whole _) (WP.rdx s 3 rfl vec_rdb (by omega) (x := z.1) (by rw [Int.toNat_natCast, List.getElem?_map, hz]; rfl) rfl ?_)
  refine WP.step (hs 4 5 s rfl (mapH_rdb (P := lsH c) he vec_rdb) rfl (hze ▸ Held.rdb (List.mem_of_getElem? hz)) (e3 e (List.mem_of_getElem? he))) ?_
  rintro _ w ⟨rfl, s⟩
  exact WP.ite (fun h => absurd rfl h) (fun _ => WP.next ⟨i + 1, ⟨by rw [wrap_i64 (by omega) (by omega)]; simp, by omega, s⟩, by omega⟩)
def MkHs (c : Cod α) (p1 : Addr) (L : Sl) (ls l1 : List Sl) (es : List (Ls α)) : List HP := [pts true p1 (cL.enc L), vec cL L ls l1, seps (es.map (lsH c))]
def AllM (me : Int → α) (q : Nat) (es : List (Ls α)) : Prop := ∀ (j : Nat) e, es[j]? = some e → e.x.length ≤ 1000000 ∧ (j < q → e.x = List.replicate e.x.length (me j))
noncomputable def mark2G (c : Cod α) (n : Nat) (p1 : Addr) (me : Int → α) (s2 s94 : Int) : M (LS Int (LS Int β)) :=
  ld cL p1 >>= fun x106 => idx x106.a x106.len s2 1 >>= fun p107 => ld cL p107 >>= fun x108 => if s94 < (x108.len : Int) then
    ld cL p1 >>= fun x110 => idx x110.a x110.len s2 1 >>= fun p111 => ld cL p111 >>= fun x112 => idx x112.a x112.len s94 n >>= fun p113 => st c p113 (me s2) >>= fun _ => pure (LS.next (IntKind.wrap .i64 (s94 + 1)))
  else pure (LS.done (LS.next (IntKind.wrap .i64 (s2 + 1))))
noncomputable def mark1G (c : Cod α) (n : Nat) (p1 : Addr) (me : Int → α) (K : M β) (s2 : Int) : M (LS Int β) :=
  ld cL p1 >>= fun x93 => if s2 < (x93.len : Int) then loopM (fun s_ : Int => mark2G c n p1 me s2 s_) 0 else K >>= fun b => pure (LS.done b)
theorem markG_wp {m : Nat} {me : Int → α} {K : M β} {Q : β → World → Prop} {ls : List Sl} (s : Ss W (MkHs c p1 L ls l1 es ++ R) w) (hc : m = c.n) (hn : n ≤ 1000000) (e1 : es.length = n) (e2 : es.map Ls.s = ls) (e3 : OkLs es)
    (hk : ∀ w es', es'.length = n → es'.map Ls.s = ls → AllM me n es' → Ss W (MkHs c p1 L ls l1 es' ++ R) w → WP K w Q) : WP (loopM (fun s_ : Int => mark1G c m p1 me K s_) 0) w Q := by
  refine WP.loopG (γ := Nat × List (Ls α)) (fun g (x : Int) w => x = (g.1 : Int) ∧ g.1 ≤ n ∧ g.2.length = n ∧ g.2.map Ls.s = ls ∧ AllM me g.1 g.2 ∧ Ss W (MkHs c p1 L ls l1 g.2 ++ R) w) (fun g _ => n - g.1) (0, es) ⟨rfl, by omega, e1, e2, fun j e he => ⟨e3 e (List.mem_of_getElem? he), fun h => absurd h (by simp)⟩, s⟩ ?_
  clear s
  rintro ⟨i, es⟩ _ w ⟨rfl, hi, e1, e2, hm, s⟩
  simp only at hi e1 e2 hm s
  show WP (mark1G c m p1 me K (i : Int)) w _
  unfold mark1G
  have hls : ls.length = n := by rw [← e2, List.length_map, e1]
  have hL := (s.vec_len (i := 1) rfl).1
  rw [hls] at hL
  refine WP.ld s 0 rfl (o := 0) (by simp [Addr.add]) (At.whole _) ?_
  refine WP.ite (fun h => ?_) (fun h => ?_)
  rotate_left
  · have : i = n := by omega
    subst this
    exact WP.step (hk w es e1 e2 hm s) (fun r w h => WP.done h)
  have hi : i < n := by omega
  obtain ⟨e, he⟩ : ∃ e, es[i]? = some e := ⟨_, List.getElem?_eq_getElem (by rw [e1]; exact hi)⟩
  have hsl : ls[i]? = some e.s := by rw [← e2, List.getElem?_map, he]; rfl
  have hel := (hm i e he).1
  refine WP.loopG (γ := Nat × List (Ls α) × Ls α) (fun g (x : Int) w => x = (g.1 : Int) ∧ g.1 ≤ e.x.length ∧ g.2.1.length = n ∧ g.2.1.map Ls.s = ls ∧ AllM me i g.2.1 ∧ g.2.1[i]? = some g.2.2 ∧ g.2.2.s = e.s ∧ g.2.2.x.length = e.x.length ∧ (∀ q : Nat, q < g.1 → g.2.2.x[q]? = some (me i)) ∧ Ss W (MkHs c p1 L ls l1 g.2.1 ++ R) w)
    (fun g _ => e.x.length - g.1) (0, es, e) ⟨rfl, by omega, e1, e2, hm, he, rfl, rfl, fun q h => absurd h (by simp), s⟩ ?_
  clear s hm e1 e2 he
  rintro ⟨k, es, d⟩ _ w ⟨rfl, hk', e1, e2, hm, hd, hds, hdl, hq, s⟩
  simp only at hk' e1 e2 hm hd hds hdl hq s
  show WP (mark2G c m p1 me (i : Int) (k : Int)) w _
  unfold mark2G
  have hdl2 := (s.rd_len (i := 2) rfl (mapH_rdb (P := lsH c) hd vec_rdb)).1
  rw [hds, hdl] at hdl2
  refine WP.ld s 0 rfl (o := 0) (by simp [Addr.add]) (At.whole _) (WP.rdx s 1 rfl vec_rdb (by omega) (x := e.s) (by rw [Int.toNat_natCast]; exact hsl) rfl ?_)
  refine WP.ite (fun h => ?_) (fun h => ?_)
  · refine WP.ld s 0 rfl (o := 0) (by simp [Addr.add]) (At.whole _) (WP.rdx s 1 rfl vec_rdb (by omega) (x := e.s) (by rw [Int.toNat_natCast]; exact hsl) rfl ?_)
    have s := s.out 2 rfl (mapH_nth (P := lsH c) hd)
    rw [← hds]
    refine WP.stx (l := d.x) (sp := d.sp) (c := c) s 0 rfl (by omega) (by omega) hc (fun w s => WP.next ?_)
    rw [Int.toNat_natCast] at s
    have s : Ss W (lsH c ⟨d.s, d.x.set k (me i), d.sp⟩ :: (up (MkHs c p1 L ls l1 es ++ R) 2 (seps (wo (es.map (lsH c)) i)))) w := s
    have s := Ss.back (B := lsH c ⟨d.s, d.x.set k (me i), d.sp⟩) s 2 rfl (mapH_nth (P := lsH c) hd)
    have hil := (List.getElem?_eq_some_iff.1 hd).1
    rw [mapH_up hil] at s
    refine ⟨(k + 1, es.set i ⟨d.s, d.x.set k (me i), d.sp⟩, ⟨d.s, d.x.set k (me i), d.sp⟩), ⟨by rw [wrap_i64 (by omega) (by omega)]; simp, by simp only; omega, by simp only [List.length_set]; exact e1, ?_, fun j y hj => ?_, List.getElem?_set_self hil, rfl, by simp only [List.length_set]; exact hdl, fun q hq' => ?_, s⟩, by simp only; omega⟩
    · show (es.set i ⟨d.s, d.x.set k (me i), d.sp⟩).map Ls.s = ls
      rw [List.map_set, e2]
      exact set_eq (by rw [hsl, hds])
    · by_cases ej : j = i
      · subst ej
        simp only at hj
        rw [List.getElem?_set_self hil] at hj
        cases hj
        exact ⟨by simp only [List.length_set]; omega, fun h => by omega⟩
      · simp only at hj
        rw [List.getElem?_set_ne (fun h => ej h.symm)] at hj
        exact hm j y hj
    · show (d.x.set k (me i))[q]? = some (me i)
      by_cases eq : q = k
      · subst eq
        exact List.getElem?_set_self (by omega)
      · rw [List.getElem?_set_ne (fun h => eq h.symm)]
        exact hq q (by simp only at hq'; omega)
  · refine WP.done ?_
    refine ⟨(i + 1, es), ⟨by rw [wrap_i64 (by omega) (by omega)]; simp, by simp only; omega, e1, e2, fun j y hj => ?_, s⟩, by simp only; omega⟩
    obtain ⟨z1, z2⟩ := hm j y hj
    refine ⟨z1, fun hj2 => ?_⟩
    by_cases ej : j = i
    · subst ej
      rw [hd] at hj
      cases hj
      exact eqrep rfl (fun q hq' => hq q (by omega))
    · exact z2 (by simp only at hj2; omega)
theorem Ro.held {z : List (Sl × List α)} : Ro (Held c z) := fun h hh p hp => Ro.rdS h (hh p hp)
theorem Held.less {z y : List (Sl × List α)} (s : Ss W (Held c z :: R) w) (h : ∀ p ∈ y, p ∈ z) : Ss W (Held c y :: R) w := s.first (fun _ hh p hp => hh p (h p hp))
def AllZ (me : Int → α) (z : List (Sl × List α)) : Prop := ∀ (j : Nat) p, z[j]? = some p → p.2.length ≤ 100000000 ∧ p.2 = List.replicate p.2.length (me j)
theorem AllZ.snoc {me : Int → α} {z : List (Sl × List α)} {g : Sl} {k : Nat} (h : AllZ me z) (hk : k ≤ 100000000) : AllZ me (z ++ [(g, List.replicate k (me (z.length : Nat)))]) := by
  intro j p hj
  by_cases e : j < z.length
  · rw [List.getElem?_append_left e] at hj
    exact h j p hj
  · rw [List.getElem?_append_right (by omega)] at hj
    have hjl := (List.getElem?_eq_some_iff.1 hj).1
    simp only [List.length_cons, List.length_nil] at hjl
    have ej : j = z.length := by omega
    subst ej
    simp only [Nat.sub_self, List.getElem?_cons_zero, Option.some.injEq] at hj
    subst hj
    simp only [List.length_replicate]
    exact ⟨hk, trivial⟩
def lsZ (e : Ls α) : Sl × List α := (e.s, e.x)
def GrHs (c : Cod α) (p1 : Addr) (L : Sl) (ls l1 : List Sl) (es : List (Ls α)) (i : Nat) (V : Sl) (gsp : List Sl) (zg : List (Sl × List α)) : List HP :=
  [pts true p1 (cL.enc L), vec cL L ls l1, seps ((es.drop i).map (lsH c)), Held c ((es.take i).map lsZ), vec cL V (zg.map (·.1)) gsp, Held c zg]
def ChkHs (c : Cod α) (p1 : Addr) (L : Sl) (ls l1 : List Sl) (zs : List (Sl × List α)) (V : Sl) (gsp : List Sl) (zg : List (Sl × List α)) : List HP :=
  [pts true p1 (cL.enc L), vec cL L ls l1, Held c zs, vec cL V (zg.map (·.1)) gsp, Held c zg]
theorem grow_open {i : Nat} {e : Ls α} {V : Sl} {gsp ls : List Sl} {zg : List (Sl × List α)} (s : Ss W (GrHs c p1 L ls l1 es i V gsp zg ++ R) w) (he : es[i]? = some e) (m : α) :
    e.s.len = e.x.length ∧ Ss W (GrowSt c e.s e.x e.s m 0 :: (GrHs c p1 L ls l1 es i V gsp zg).set 2 (seps ((es.drop (i + 1)).map (lsH c))) ++ R) w := by
  have hi := (List.getElem?_eq_some_iff.1 he).1
  have hd : es.drop i = e :: es.drop (i + 1) := by
    rw [List.drop_eq_getElem_cons hi]
    congr 1
    exact (List.getElem?_eq_some_iff.1 he).2
  unfold GrHs at s ⊢
  rw [hd] at s
  have s := s.out 2 rfl (j := 0) (A := lsH c e) rfl
  have s : Ss W (vec c e.s e.x e.sp :: (pts true p1 (cL.enc L) :: vec cL L ls l1 :: seps ((es.drop (i + 1)).map (lsH c)) :: Held c ((es.take i).map lsZ) :: vec cL V (zg.map (·.1)) gsp :: Held c zg :: R)) w := s
  exact ⟨(s.vec_len (i := 0) rfl).1, grow_begin s m⟩
theorem grow_close {i q : Nat} {e : Ls α} {g V : Sl} {gsp ls : List Sl} {zg : List (Sl × List α)} {m : α} (s : Ss W (GrowSt c e.s e.x g m q :: (pts true p1 (cL.enc L) :: vec cL L ls l1 :: seps ((es.drop (i + 1)).map (lsH c)) :: Held c ((es.take i).map lsZ) :: vec cL V (zg.map (·.1) ++ [g]) gsp :: Held c zg :: R)) w) (he : es[i]? = some e) :
    Ss W (GrHs c p1 L ls l1 es (i + 1) V gsp (zg ++ [(g, e.x ++ List.replicate q m)]) ++ R) w := by
  have s := grow_end s
  have s := s.dup (i := 0) rfl Ro.held
  have s := Held.less (y := [lsZ e]) s (fun p hp => by
    rw [List.mem_singleton] at hp
    subst hp
    exact List.mem_cons_self ..)
  have s := Held.less (y := [(g, e.x ++ List.replicate q m)]) (s.use [1] (s := [_]) (r := _ :: _ :: _ :: _ :: _ :: _ :: _ :: R) rfl) (fun p hp => by
    rw [List.mem_singleton] at hp
    subst hp
    simp)
  have s : Ss W (Held c zg :: Held c [(g, e.x ++ List.replicate q m)] :: Held c [lsZ e] :: pts true p1 (cL.enc L) :: vec cL L ls l1 :: seps ((es.drop (i + 1)).map (lsH c)) :: Held c ((es.take i).map lsZ) :: vec cL V (zg.map (·.1) ++ [g]) gsp :: R) w := s.use [7] rfl
  have s := Held.app s
  have s : Ss W (Held c ((es.take i).map lsZ) :: Held c [lsZ e] :: Held c (zg ++ [(g, e.x ++ List.replicate q m)]) :: pts true p1 (cL.enc L) :: vec cL L ls l1 :: seps ((es.drop (i + 1)).map (lsH c)) :: vec cL V (zg.map (·.1) ++ [g]) gsp :: R) w := s.use [5, 1] rfl
  have s := Held.app s
  have e1 : (es.take i).map lsZ ++ [lsZ e] = (es.take (i + 1)).map lsZ := by
    rw [List.take_add_one, he]
    simp
  have e2 : zg.map (·.1) ++ [g] = (zg ++ [(g, e.x ++ List.replicate q m)]).map (·.1) := by simp
  rw [e1, e2] at s
  exact s.use [2, 2, 2, 0, 1, 0] (r := R) rfl
noncomputable def grow2G (c : Cod α) (E : TypeId) (by_ : Nat) (z : α) (EL : TypeId) (p1 : Addr) (me : Int → α) (V : Sl) (s53 : Int) (g : Sl) (k : Int) : M (LS (Sl × Int) (LS (Sl × Int) β)) :=
  ld cL p1 >>= fun x207 => idx x207.a x207.len s53 1 >>= fun p208 => ld cL p208 >>= fun x209 => if k < (IntKind.wrap .i64 ((x209.len : Int) + 20)) then
    slot E >>= fun _ => appl c E by_ z g [me s53] >>= fun r213 => pure (LS.next (r213, IntKind.wrap .i64 (k + 1)))
  else slot EL >>= fun _ => appl cL EL 24 Sl.nil V [g] >>= fun r215 => pure (LS.done (LS.next (r215, IntKind.wrap .i64 (s53 + 1))))
noncomputable def grow1G (c : Cod α) (E : TypeId) (by_ : Nat) (z : α) (EL : TypeId) (p1 : Addr) (me : Int → α) (K : Sl → M β) (V : Sl) (s53 : Int) : M (LS (Sl × Int) β) :=
  ld cL p1 >>= fun x192 => if s53 < (x192.len : Int) then ld cL p1 >>= fun x194 => idx x194.a x194.len s53 1 >>= fun p195 => ld cL p195 >>= fun x196 =>
    loopM (fun s_ : (Sl × Int) => grow2G c E by_ z EL p1 me V s53 s_.1 s_.2) (x196, 0)
  else K V >>= fun b => pure (LS.done b)
noncomputable def grow3G (c : Cod α) (E : TypeId) (by_ : Nat) (z : α) (EL : TypeId) (me : Int → α) (V : Sl) (s28 : Int) (x79 g : Sl) : M (LS Sl (LS (Sl × Int) β)) :=
  if (g.len : Int) < (IntKind.wrap .i64 ((IntKind.wrap .i64 (2 * (x79.len : Int))) + 70)) then
    slot E >>= fun _ => appl c E by_ z g [me s28] >>= fun r87 => pure (LS.next r87)
  else slot EL >>= fun _ => appl cL EL 24 Sl.nil V [g] >>= fun r89 => pure (LS.done (LS.next (r89, IntKind.wrap .i64 (s28 + 1))))
noncomputable def grow4G (c : Cod α) (E : TypeId) (by_ : Nat) (z : α) (EL : TypeId) (p1 : Addr) (me : Int → α) (K : Sl → M β) (V : Sl) (s28 : Int) : M (LS (Sl × Int) β) :=
  ld cL p1 >>= fun x75 => if s28 < (x75.len : Int) then ld cL p1 >>= fun x77 => idx x77.a x77.len s28 1 >>= fun p78 => ld cL p78 >>= fun x79 =>
    loopM (fun s_ : Sl => grow3G c E by_ z EL me V s28 x79 s_) x79
  else K V >>= fun b => pure (LS.done b)
def GrI (W : World) (R : List HP) (c : Cod α) (p1 : Addr) (L : Sl) (ls l1 : List Sl) (es : List (Ls α)) (n : Nat) (me : Int → α) (i : Nat) (x : Sl × Int) (w : World) : Prop :=
  ∃ g : Nat × List Sl × List (Sl × List α), (x.2 = (g.1 : Int) ∧ g.1 ≤ n ∧ g.2.2.length = g.1 ∧ AllZ me g.2.2 ∧ Ss W (GrHs c p1 L ls l1 es g.1 x.1 g.2.1 g.2.2 ++ R) w) ∧ n - g.1 < n - i
theorem growG_wp {E EL : TypeId} {by_ : Nat} {z : α} {me : Int → α} {K : Sl → M β} {Q : β → World → Prop} {ls : List Sl} (s : Ss W (MkHs c p1 L ls l1 es ++ R) w) (hn : n ≤ 1000000) (e1 : es.length = n) (e2 : es.map Ls.s = ls) (hm : AllM me n es) (h0 : 0 < by_) (h1 : 0 < c.n) (hb : by_ ≤ 1000000)
    (hk : ∀ w V gsp zs zg, zs.length = n → zs.map (·.1) = ls → AllZ me zs → zg.length = n → AllZ me zg → Ss W (ChkHs c p1 L ls l1 zs V gsp zg ++ R) w → WP (K V) w Q)
    (G : Sl → Int → M (LS (Sl × Int) β)) (hG : G = grow1G c E by_ z EL p1 me K ∨ G = grow4G c E by_ z EL p1 me K) : WP (loopM (fun s_ : (Sl × Int) => G s_.1 s_.2) (Sl.nil, 0)) w Q := by
  have hls : ls.length = n := by rw [← e2, List.length_map, e1]
  have s : Ss W (GrHs c p1 L ls l1 es 0 Sl.nil [] [] ++ R) w := by
    have s := ((s.mk0 (A := Held c []) (by intro p hp; cases hp)).mk0 (A := vec cL Sl.nil [] []) vec_nil).mk0 (A := Held c []) (by intro p hp; cases hp)
    exact s.use [3, 3, 3, 0, 0, 0] (r := R) rfl
  refine WP.loopG (γ := Nat × List Sl × List (Sl × List α)) (fun g (x : Sl × Int) w => x.2 = (g.1 : Int) ∧ g.1 ≤ n ∧ g.2.2.length = g.1 ∧ AllZ me g.2.2 ∧ Ss W (GrHs c p1 L ls l1 es g.1 x.1 g.2.1 g.2.2 ++ R) w) (fun g _ => n - g.1) (0, [], []) ⟨rfl, by omega, rfl, fun j p hj => by simp at hj, s⟩ ?_
  clear s
  rintro ⟨i, gsp, zg⟩ ⟨V, _⟩ w ⟨rfl, hi, hg, hz, s⟩
  simp only at hi hg hz s
  show WP (G V (i : Int)) w (WP.Rd (GrI W R c p1 L ls l1 es n me i) Q)
  have hL := (s.vec_len (i := 1) rfl).1
  rw [hls] at hL
  have stop : ¬ ((i : Int) < (L.len : Int)) → WP (K V >>= fun b => pure (LS.done b)) w (WP.Rd (GrI W R c p1 L ls l1 es n me i) Q) := by
    intro h
    have hin : i = n := by omega
    have s : Ss W (pts true p1 (cL.enc L) :: vec cL L ls l1 :: seps ((es.drop i).map (lsH c)) :: Held c ((es.take i).map lsZ) :: vec cL V (zg.map (·.1)) gsp :: Held c zg :: R) w := s
    rw [List.take_of_length_le (by omega)] at s
    have s := (s.use [2] (s := [_]) (r := _ :: _ :: _ :: _ :: _ :: R) rfl).drop
    refine WP.step (hk w V gsp (es.map lsZ) zg (by rw [List.length_map, e1]) (by rw [List.map_map, ← e2]; rfl) (fun j p hj => ?_) (by omega) hz s) (fun r w h => WP.done h)
    rw [List.getElem?_map] at hj
    obtain ⟨e, he, rfl⟩ := Option.map_eq_some_iff.1 hj
    obtain ⟨f1, f2⟩ := hm j e he
    have hjl := (List.getElem?_eq_some_iff.1 he).1
    exact ⟨by show e.x.length ≤ _; omega, f2 (by omega)⟩
  by_cases hlt : i < n
  rotate_left
  · rcases hG with rfl | rfl
    · unfold grow1G
      exact WP.ld s 0 rfl (o := 0) (by simp [Addr.add]) (At.whole _) (WP.ite (fun h => absurd h (by omega)) stop)
    · unfold grow4G
      exact WP.ld s 0 rfl (o := 0) (by simp [Addr.add]) (At.whole _) (WP.ite (fun h => absurd h (by omega)) stop)
  obtain ⟨e, he⟩ : ∃ e, es[i]? = some e := ⟨_, List.getElem?_eq_getElem (by rw [e1]; exact hlt)⟩
  have hsl : ls[i]? = some e.s := by rw [← e2, List.getElem?_map, he]; rfl
  obtain ⟨q1, q2⟩ := hm i e he
  have q2 := q2 hlt
  obtain ⟨q3, s⟩ := grow_open s he (me i)
  have s : Ss W (GrowSt c e.s e.x e.s (me i) 0 :: (pts true p1 (cL.enc L) :: vec cL L ls l1 :: seps ((es.drop (i + 1)).map (lsH c)) :: Held c ((es.take i).map lsZ) :: vec cL V (zg.map (·.1)) gsp :: Held c zg :: R)) w := s
  have fin : ∀ {σ : Type} {N : σ → World → Prop} {w : World} {g : Sl} (q : Nat), q ≤ e.x.length + 70 → Ss W (GrowSt c e.s e.x g (me i) q :: (pts true p1 (cL.enc L) :: vec cL L ls l1 :: seps ((es.drop (i + 1)).map (lsH c)) :: Held c ((es.take i).map lsZ) :: vec cL V (zg.map (·.1)) gsp :: Held c zg :: R)) w →
      WP (slot EL >>= fun _ => appl cL EL 24 Sl.nil V [g] >>= fun r215 => pure (LS.done (LS.next (r215, IntKind.wrap .i64 ((i : Int) + 1))))) w (WP.Rd N (WP.Rd (GrI W R c p1 L ls l1 es n me i) Q)) := by
    intro σ N w g q hq s
    refine WP.slot' s (fun _ w s => WP.appl s 5 rfl (by simp only [List.length_cons, List.length_nil, List.length_map]; omega) (by decide) (fun V' w gsp' s => WP.done ?_))
    have s := grow_close s he
    have e3 : e.x ++ List.replicate q (me i) = List.replicate (e.x.length + q) (me i) := by
      rw [← List.replicate_append_replicate, ← q2]
    rw [e3] at s
    refine ⟨(i + 1, gsp', zg ++ [(g, List.replicate (e.x.length + q) (me i))]), ⟨by simp only; rw [wrap_i64 (by omega) (by omega)]; simp, by simp only; omega, by simp [hg], ?_, s⟩, by simp only; omega⟩
    have := AllZ.snoc (g := g) (k := e.x.length + q) hz (by omega)
    rw [hg] at this
    exact this
  have hby : ∀ q, q ≤ e.x.length + 70 → (e.x.length + q + 1) * by_ ≤ 140737488355328 := fun q hq => by
    have : (e.x.length + q + 1) * by_ ≤ 3000000 * 1000000 := Nat.mul_le_mul (by omega) hb
    omega
  rcases hG with rfl | rfl
  · unfold grow1G
    refine WP.ld s 1 rfl (o := 0) (by simp [Addr.add]) (At.whole _) (WP.ite (fun _ => ?_) (fun h => absurd h (by omega)))
    refine WP.ld s 1 rfl (o := 0) (by simp [Addr.add]) (At.whole _) (WP.rdx s 2 rfl vec_rdb (by omega) (x := e.s) (by rw [Int.toNat_natCast]; exact hsl) rfl ?_)
    refine WP.loopG (γ := Nat) (fun q (x : Sl × Int) w => x.2 = (q : Int) ∧ q ≤ e.x.length + 20 ∧ Ss W (GrowSt c e.s e.x x.1 (me i) q :: (pts true p1 (cL.enc L) :: vec cL L ls l1 :: seps ((es.drop (i + 1)).map (lsH c)) :: Held c ((es.take i).map lsZ) :: vec cL V (zg.map (·.1)) gsp :: Held c zg :: R)) w) (fun q _ => e.x.length + 20 - q) 0 ⟨rfl, by omega, s⟩ ?_
    clear s
    rintro q ⟨g, _⟩ w ⟨rfl, hq, s⟩
    simp only at hq s
    show WP (grow2G c E by_ z EL p1 me V (i : Int) g (q : Int)) w _
    unfold grow2G
    refine WP.ld s 1 rfl (o := 0) (by simp [Addr.add]) (At.whole _) (WP.rdx s 2 rfl vec_rdb (by omega) (x := e.s) (by rw [Int.toNat_natCast]; exact hsl) rfl ?_)
    rw [q3, wrap_i64 (n := (e.x.length : Int) + 20) (by omega) (by omega)]
    refine WP.ite (fun h => WP.slot' s (fun _ w s => ?_)) (fun h => ?_)
    · refine grow_step s (hby q (by omega)) h0 h1 (fun r w s => WP.next ⟨q + 1, ⟨by simp only; rw [wrap_i64 (by omega) (by omega)]; simp, by omega, s⟩, by omega⟩)
    · exact fin q (by omega) s
  · unfold grow4G
    refine WP.ld s 1 rfl (o := 0) (by simp [Addr.add]) (At.whole _) (WP.ite (fun _ => ?_) (fun h => absurd h (by omega)))
    refine WP.ld s 1 rfl (o := 0) (by simp [Addr.add]) (At.whole _) (WP.rdx s 2 rfl vec_rdb (by omega) (x := e.s) (by rw [Int.toNat_natCast]; exact hsl) rfl ?_)
    refine WP.loopG (γ := Nat) (fun q (x : Sl) w => q ≤ e.x.length + 70 ∧ Ss W (GrowSt c e.s e.x x (me i) q :: (pts true p1 (cL.enc L) :: vec cL L ls l1 :: seps ((es.drop (i + 1)).map (lsH c)) :: Held c ((es.take i).map lsZ) :: vec cL V (zg.map (·.1)) gsp :: Held c zg :: R)) w) (fun q _ => e.x.length + 70 - q) 0 ⟨by omega, s⟩ ?_
    clear s
    rintro q g w ⟨hq, s⟩
    show WP (grow3G c E by_ z EL me V (i : Int) e.s g) w _
    unfold grow3G
    have hgl := grow_len s
    rw [q3, wrap_i64 (n := 2 * (e.x.length : Int)) (by omega) (by omega), wrap_i64 (n := 2 * (e.x.length : Int) + 70) (by omega) (by omega)]
    refine WP.ite (fun h => WP.slot' s (fun _ w s => ?_)) (fun h => ?_)
    · exact grow_step s (hby q (by omega)) h0 h1 (fun r w s => WP.next ⟨q + 1, ⟨by omega, s⟩, by omega⟩)
    · exact fin q (by omega) s
noncomputable def chkG (only : Sl → Int → M Bool) (mi : Int → Int) (p1 : Addr) (K : M β) (no : β) (V : Sl) (s47 : Int) : M (LS Int β) :=
  ld cL p1 >>= fun x62 => if s47 < (x62.len : Int) then ld cL p1 >>= fun x64 => idx x64.a x64.len s47 1 >>= fun p65 => ld cL p65 >>= fun x66 => only x66 (mi s47) >>= fun r67 =>
    (if ¬ (r67 = true) then pure true else idx V.a V.len s47 1 >>= fun p68 => ld cL p68 >>= fun x69 => only x69 (mi s47) >>= fun r70 => pure (!r70)) >>= fun y71 =>
    if y71 = true then pure (LS.done no) else pure (LS.next (IntKind.wrap .i64 (s47 + 1)))
  else K >>= fun b => pure (LS.done b)
theorem chkG_wp {only : Sl → Int → M Bool} {mi : Int → Int} {me : Int → α} {K : M β} {no : β} {Q : β → World → Prop} {ls gsp : List Sl} {V : Sl} {zg : List (Sl × List α)} (s : Ss W (ChkHs c p1 L ls l1 zs V gsp zg ++ R) w) (hn : n ≤ 1000000) (e1 : zs.length = n) (e2 : zs.map (·.1) = ls) (hz : AllZ me zs) (e3 : zg.length = n) (hg : AllZ me zg)
    (ho : ∀ {W w : World} {Hs : List HP} {A : HP} {a : Sl} {k : Nat} (x : Int) (i : Nat), Ss W Hs w → nth Hs i = some A → Rdb A c a (List.replicate k (me x)) → k ≤ 100000000 → WP (only a (mi x)) w (fun y w' => y = true ∧ Ss W Hs w'))
    (hk : ∀ w, Ss W R w → WP K w Q) : WP (loopM (fun s_ : Int => chkG only mi p1 K no V s_) 0) w Q := by
  have hls : ls.length = n := by rw [← e2, List.length_map, e1]
  refine WP.loopG (γ := Nat) (fun i (x : Int) w => x = (i : Int) ∧ i ≤ n ∧ Ss W (ChkHs c p1 L ls l1 zs V gsp zg ++ R) w) (fun i _ => n - i) 0 ⟨rfl, by omega, s⟩ ?_
  clear s
  rintro i _ w ⟨rfl, hi, s⟩
  show WP (chkG only mi p1 K no V (i : Int)) w _
  unfold chkG
  have hL := (s.vec_len (i := 1) rfl).1
  rw [hls] at hL
  refine WP.ld s 0 rfl (o := 0) (by simp [Addr.add]) (At.whole _) ?_
  refine WP.ite (fun h => ?_) (fun h => WP.step (hk w (s.weak (l := [_, _, _, _, _]))) (fun r w h => WP.done h))
  obtain ⟨p, hp⟩ : ∃ p, zs[i]? = some p := ⟨_, List.getElem?_eq_getElem (by rw [e1]; omega)⟩
  obtain ⟨g, hg'⟩ : ∃ p, zg[i]? = some p := ⟨_, List.getElem?_eq_getElem (by rw [e3]; omega)⟩
  obtain ⟨p1', p2'⟩ := hz i p hp
  obtain ⟨g1, g2⟩ := hg i g hg'
  refine WP.ld s 0 rfl (o := 0) (by simp [Addr.add]) (At.whole _) (WP.rdx s 1 rfl vec_rdb (by omega) (x := p.1) (by rw [Int.toNat_natCast, ← e2, List.getElem?_map, hp]; rfl) rfl ?_)
  have r1 : Rdb (Held c zs) c p.1 p.2 := Held.rdb (List.mem_of_getElem? hp)
  have r2 : Rdb (Held c zg) c g.1 g.2 := Held.rdb (List.mem_of_getElem? hg')
  rw [p2'] at r1
  rw [g2] at r2
  refine WP.step (ho (i : Int) 2 s rfl r1 p1') ?_
  rintro _ w ⟨rfl, s⟩
  refine WP.step (R := fun y w' => y = false ∧ Ss W (ChkHs c p1 L ls l1 zs V gsp zg ++ R) w') (WP.ite (fun h => absurd rfl h) (fun _ => ?_)) ?_
  · refine WP.rdx s 3 rfl vec_rdb (by omega) (x := g.1) (by rw [Int.toNat_natCast, List.getElem?_map, hg']; rfl) rfl ?_
    refine WP.step (ho (i : Int) 4 s rfl r2 g1) ?_
    rintro _ w ⟨rfl, s⟩
    exact WP.ret ⟨rfl, s⟩
  rintro _ w ⟨rfl, s⟩
  exact WP.ite (fun h => by cases h) (fun _ => WP.next ⟨i + 1, ⟨by rw [wrap_i64 (by omega) (by omega)]; simp, by omega, s⟩, by omega⟩)
theorem rows_marks (s : Ss W (RowsP c p1 p2 n :: R) w) : ∃ L l1 es, es.length = n ∧ OkLs es ∧ Ss W (MkHs c p1 L (es.map Ls.s) l1 es ++ R) w := by
  obtain ⟨L, Z, es, zs, l1, l2, e1, e2, e3, s⟩ := s.openR
  have s := (s.use [1, 2, 3] (s := [_, _, _]) (r := _ :: _ :: _ :: R) rfl).drop.drop.drop
  exact ⟨L, l1, es, e1, e3, s⟩
end
end Go.Proofs.Ytlkhijflgbobjaa.Lx
