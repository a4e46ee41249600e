/- The document's calls, of their programs in the M-world: they do what the plain value says. -/
import Derived.Test.YtoddkagehbcfjaaRingRef2
set_option linter.unusedVariables false
set_option linter.unusedSimpArgs false
namespace Go.Proofs.Ytoddkagehbcfjaa.Lx
open Go Go.Proofs Go.RowKit

/-- a part of an element still holds what it held -/
theorem WP.samep {α β γ : Type} {w : World} {W : World} {Hs : List HP} {A : HP} {c : Cod α} {sl : Sl} {xs : List α} {x : α} {k : Nat} {a p : Addr} {d : Cod γ} {y : γ} {o : Nat} {f : Unit → M β} {Q : β → World → Prop} (s : Ss W Hs w) (i : Nat) (e : nth Hs i = some A) (r : Rdb A c sl xs) (hx : xs[k]? = some x) (ha : sl.a = some a) (hp : p = a.add (k * c.n + o)) (h : At (c.enc x) o (d.enc y)) (g : WP (f ()) w Q) : WP (Lx.same d p y >>= f) w Q := by
  have hl : Lx.ld d p w = some (y, w) := by
    obtain ⟨r', w', h1, h2, h3⟩ := WP.ldp (f := fun y => (pure y : M γ)) (Q := fun r w' => r = y ∧ w' = w) s i e r hx ha hp h (WP.ret ⟨rfl, rfl⟩)
    obtain ⟨u, v1, h4, h5⟩ := bind_some.1 h1
    cases h5
    subst h2 h3
    exact h4
  refine WP.bind ⟨(), w, ?_, g⟩
  unfold Lx.same
  rw [if_pos]
  rw [hl]
section
variable {W w : World} {R : List HP} {r : weirref3_Port} {m : RM} {T : Nat} {bufs : List weirref3_Buf} {ds : List (List Int)}
def big : Nat := 1000000000000000000
theorem R_moved (s : Ss W (rdS cRB false r.L bufs :: seps (zipH bd bufs ds) :: R) w) (ro : RefOk r m bufs ds T) (ok : m.Ok) (hT : T ≤ big) {m' : RM} {i k : Nat} {b : weirref3_Buf} (hb : bufs[i]? = some b) (hl : ∀ j, isL j → ∃ l, l.Sublist (m.L j) ∧ i ∉ l ∧ (m'.L j = l ∨ m'.L j = l ++ [i])) (hp : m'.place = m.place.set i (k : Int)) (h1 : m'.size = m.size) (h2 : m'.rx = m.rx) (h3 : m'.tx = m.tx) (h4 : m'.dat = m.dat) (h5 : m'.len = m.len) :
    WP (weirref3_moved r (i : Int) (k : Int)) w (fun r' w' => Ss W (RefP r' m' (T + 1) :: rdS cRB false r.L bufs :: R) w') := by
  refine (moved_wp s 0 rfl (ro.nlt ok) hb _).mono ?_
  rintro _ w ⟨l, rfl, s⟩
  have s := s.use [0, 1] rfl
  rw [← zip_same (ds := ds) (b' := ⟨(k : Int), r.Now, b.N, b.Data⟩) hb rfl] at s
  exact Ss.closeF (r := ⟨r.Rx, r.Tx, r.Size, l, IntKind.wrap .i64 (r.Now + 1)⟩) s (ro.mv ok hT hb hl hp h1 h2 h3 h4 h5)
theorem R_put (s : Ss W (rdS cRB false r.L bufs :: seps (zipH bd bufs ds) :: R) w) (ro : RefOk r m bufs ds T) (ok : m.Ok) {i : Nat} {b : weirref3_Buf} {d : List Int} (x : Int) (hb : bufs[i]? = some b) (hd : ds[i]? = some d) :
    WP (weirref3_put r (i : Int) ⟨b.Place, b.Since, x, b.Data⟩) w (fun r' w' => ∃ bufs', RefOk r' (m.setl i x) bufs' ds T ∧ Ss W (rdS cRB false r'.L bufs' :: seps (zipH bd bufs' ds) :: R) w') := by
  refine (put_wp s 0 rfl (ro.nlt ok) (List.getElem?_eq_some_iff.1 hb).1 _).mono ?_
  rintro _ w ⟨l, rfl, s⟩
  have s := (s.use [1] rfl).drop
  rw [← zip_same (ds := ds) (b' := ⟨b.Place, b.Since, x, b.Data⟩) hb rfl] at s
  have h := ro.put (l := l) (D := b.Data) (x := x) hb (ro.dl d (List.mem_of_getElem? hd)) rfl
  have e : m.setd i (pad m.size d) = m := by
    unfold RM.setd
    rw [set_eq (ro.dat i d hd)]
  rw [e, set_eq hd] at h
  exact ⟨_, h, s⟩
theorem R_putd (s : Ss W (rdS cRB false r.L bufs :: seps (zipH bd bufs ds) :: R) w) (ro : RefOk r m bufs ds T) (ok : m.Ok) {i : Nat} {b : weirref3_Buf} {d : List Int} (x : Int) {D : Sl} {d' e : List Int} (hb : bufs[i]? = some b) (hd : ds[i]? = some d) (j : Nat) (hj : nth R j = some (rdB D d')) (hd' : d'.length ≤ m.size) (he : e = pad m.size d') :
    WP (weirref3_put r (i : Int) ⟨b.Place, b.Since, x, D⟩) w (fun r' w' => ∃ bufs' ds', RefOk r' ((m.setd i e).setl i x) bufs' ds' T ∧ Ss W (rdS cRB false r'.L bufs' :: seps (zipH bd bufs' ds') :: R) w') := by
  refine (put_wp s 0 rfl (ro.nlt ok) (List.getElem?_eq_some_iff.1 hb).1 _).mono ?_
  rintro _ w ⟨l, rfl, s⟩
  have s := (s.use [1] rfl).drop
  have s := (s.out 1 rfl (zipH_nth (P := bd) hb hd)).drop
  have s := s.dup (i := j + 2) (A := rdB D d') hj Ro.rdS
  have s := Ss.back (B := bd ⟨b.Place, b.Since, x, D⟩ d') s 1 rfl (zipH_nth (P := bd) hb hd)
  rw [zipH_up (List.getElem?_eq_some_iff.1 hb).1 (List.getElem?_eq_some_iff.1 hd).1] at s
  exact ⟨_, _, ro.put (l := l) (D := D) (x := x) hb hd' he, s⟩
theorem R_count (s : Ss W (rdS cRB false r.L bufs :: seps (zipH bd bufs ds) :: R) w) (ro : RefOk r m bufs ds T) (ok : m.Ok) {k : Nat} (hk : isL k) : WP (weirref3_count r (k : Int)) w (fun x w' => x = ((m.L k).length : Int) ∧ Ss W (rdS cRB false r.L bufs :: seps (zipH bd bufs ds) :: R) w') := by
  refine (count_wp s 0 rfl (ro.nlt ok) _).mono ?_
  rintro _ w ⟨rfl, s⟩
  refine ⟨?_, s⟩
  rw [ro.place, ok.count hk]
theorem R_first (s : Ss W (rdS cRB false r.L bufs :: seps (zipH bd bufs ds) :: R) w) (ro : RefOk r m bufs ds T) (ok : m.Ok) {k : Nat} (hk : isL k) : WP (weirref3_first r (k : Int)) w (fun x w' => ((m.L k = [] ∧ x = -1) ∨ ∃ i t, m.L k = i :: t ∧ x = (i : Int) ∧ i < m.n) ∧ Ss W (rdS cRB false r.L bufs :: seps (zipH bd bufs ds) :: R) w') := by
  refine (first_wp s 0 rfl (ro.nlt ok) _).mono ?_
  rintro x w ⟨h, s⟩
  exact ⟨ro.first ok hk h, s⟩
theorem zip_rdb {i : Nat} {b : weirref3_Buf} {d : List Int} (hb : bufs[i]? = some b) (hd : ds[i]? = some d) : Rdb (seps (zipH bd bufs ds)) (cI .u8) b.Data d := by
  intro k hk
  obtain ⟨h1, a1, l1⟩ := seps_nth hk (zipH_nth (P := bd) hb hd)
  obtain ⟨r1, r2, r3⟩ := (rdS_rdb (c := cI .u8) (q := false) (s := b.Data) (xs := d)) h1 a1
  refine ⟨r1, r2, fun j x a hx ha => ?_⟩
  obtain ⟨sp, hp⟩ := r3 j x a hx ha
  exact ⟨sp, fun y v hv => by
    obtain ⟨q, hq⟩ := hp y v hv
    exact ⟨q, l1 _ _ _ hq⟩⟩
theorem R_Refill (s : Ss W (RefP r m T :: R) w) (ok : m.Ok) (hT : T + 8192 ≤ big) (n : Int) : WP (weirref3_Refill r n) w (fun x w' => x.2 = (m.refN n : Int) ∧ Ss W (RefP x.1 (m.refs (m.refN n)) (T + 8192) :: R) w') := by
  unfold weirref3_Refill
  refine WP.slot' s (fun _ w s => WP.slot' s (fun _ w s => ?_))
  have hN : m.refN n ≤ n.toNat ∧ m.refN n ≤ (m.L 1).length ∧ m.refN n ≤ m.rx - ((m.L 2).length + (m.L 3).length) := by unfold RM.refN; omega
  have hN2 : m.refN n = n.toNat ∨ m.refN n = (m.L 1).length ∨ m.refN n = m.rx - ((m.L 2).length + (m.L 3).length) := by unfold RM.refN; omega
  have hrx := ok.r1
  have hrr := ok.rr
  refine WP.loop (fun (x : Int × weirref3_Port × weirref3_Port) w' => 0 ≤ x.1 ∧ x.1 ≤ m.refN n ∧ Ss W (RefP x.2.2 (m.refs x.1.toNat) (T + x.1.toNat) :: R) w') (fun x _ => ((m.refN n : Int) - x.1).toNat) ⟨by simp, by simp, s⟩ ?_
  clear s
  rintro ⟨k, z, r⟩ w ⟨k0, k1, s⟩
  simp only at k0 k1 s
  show WP (weirref3_Refill.L1 n k z r) w _
  unfold weirref3_Refill.L1
  obtain ⟨k, rfl⟩ : ∃ n : Nat, k = n := ⟨k.toNat, by omega⟩
  rw [Int.toNat_natCast] at s
  obtain ⟨h1, h2, h3, h4, h5, h6, h7, h8, h9⟩ := RM.refs_spec (m := m) k (by omega)
  have ok' : (m.refs k).Ok := RM.refs_ok ok k (by omega) (by omega)
  have fin : ∀ {w : World} (r' : weirref3_Port), (m.refN n = k) → Ss W (RefP r' (m.refs k) (T + k) :: R) w → WP (pure (LS.done (r', (k : Int))) : M (LS (Int × weirref3_Port × weirref3_Port) (weirref3_Port × Int))) w (WP.Rd (fun x w' => (0 ≤ x.1 ∧ x.1 ≤ m.refN n ∧ Ss W (RefP x.2.2 (m.refs x.1.toNat) (T + x.1.toNat) :: R) w') ∧ ((m.refN n : Int) - x.1).toNat < ((m.refN n : Int) - (k : Int)).toNat) (fun x w' => x.2 = (m.refN n : Int) ∧ Ss W (RefP x.1 (m.refs (m.refN n)) (T + 8192) :: R) w')) := by
    intro w r' he s
    refine WP.done ⟨by rw [he], ?_⟩
    rw [he]
    exact s.moreF (by omega)
  obtain ⟨bufs, ds, ro, s⟩ := s.openF
  refine WP.ite (fun hk => WP.step (R_first s ro ok' (k := 1) (.inl rfl)) ?_) (fun hk => fin r (by omega) (s.closeF ro))
  rintro x w ⟨hx, s⟩
  refine WP.draw' s (fun w s => ?_)
  rw [h1] at hx
  rcases hx with ⟨he, rfl⟩ | ⟨i, t, he, rfl, hi⟩
  · have : (m.L 1).length ≤ k := List.drop_eq_nil_iff.1 he
    refine WP.step (R := fun y w' => y = true ∧ w = w') (WP.ite (fun _ => WP.ret ⟨rfl, rfl⟩) (fun h => absurd (by decide) h)) ?_
    rintro _ _ ⟨rfl, rfl⟩
    exact WP.ite (fun _ => fin r (by omega) (s.closeF ro)) (fun h => absurd rfl h)
  · have hlt : k < (m.L 1).length := by
      have := congrArg List.length he
      rw [List.length_drop, List.length_cons] at this
      omega
    refine WP.step (R := fun y w' => y = decide (m.rx ≤ (m.L 2).length + k + (m.L 3).length) ∧ Ss W (rdS cRB false r.L bufs :: seps (zipH bd bufs ds) :: R) w') (WP.ite (fun h => by omega) (fun _ => WP.step (R_count s ro ok' (k := 2) (.inr (.inl rfl))) ?_)) ?_
    · rintro _ w ⟨rfl, s⟩
      refine WP.step (R_count s ro ok' (k := 3) (.inr (.inr (.inl rfl)))) ?_
      rintro _ w ⟨rfl, s⟩
      refine WP.ret ⟨?_, s⟩
      rw [h2, h3, List.length_append, List.length_take, wrap_i64 (by omega) (by omega), ro.rx, h5]
      refine decide_eq_decide.2 ?_
      omega
    rintro _ w ⟨rfl, s⟩
    refine WP.ite (fun h => ?_) (fun h => ?_)
    · have h := of_decide_eq_true h
      exact fin r (by omega) (s.closeF ro)
    · have h : ¬ (m.rx ≤ (m.L 2).length + k + (m.L 3).length) := fun hx => h (decide_eq_true hx)
      have hL : (m.refs k).L 1 = i :: t := by rw [h1]; exact he
      have hi' : i < (m.refs k).n := ok'.lt (k := 1) (.inl rfl) (by rw [hL]; simp)
      obtain ⟨b, d, hb, hd, _⟩ := ro.get hi'
      refine WP.step (R_moved (m' := ((m.refs k).out 1).mv i 2) (k := 2) s ro ok' (by omega) hb (lines_out ok' (.inl rfl) hL 2) rfl rfl rfl rfl rfl rfl) ?_
      rintro r' w s
      refine WP.next ?_
      rw [wrap_i64 (by omega) (by omega)]
      refine ⟨⟨by simp only; omega, by simp only; omega, ?_⟩, by simp only; omega⟩
      show Ss W (RefP r' (m.refs ((k : Int) + 1).toNat) (T + ((k : Int) + 1).toNat) :: R) w
      rw [show ((k : Int) + 1).toNat = k + 1 by omega, RM.refs_step hL]
      exact (s.use [1] rfl).drop
theorem R_Arrive {A : HP} {b : Sl} {xs : List Int} (s : Ss W (RefP r m T :: R) w) (ok : m.Ok) (hxs : Bytes xs) (hT : T + 8192 ≤ big) (j : Nat) (e : nth R j = some A) (rb : Rdb A (cI .u8) b xs) : WP (weirref3_Arrive r b) w (fun x w' => x.2 = (m.arrive xs).2 ∧ Ss W (RefP x.1 (m.arrive xs).1 (T + 8192) :: R) w') := by
  unfold weirref3_Arrive
  refine WP.slot' s (fun _ w s => WP.slot' s (fun _ w s => ?_))
  obtain ⟨bufs, ds, ro, s⟩ := s.openF
  have hbl := (s.rd_len (i := j + 2) e rb).1
  refine WP.step (R_first s ro ok (k := 2) (.inr (.inl rfl))) ?_
  rintro x w ⟨hx, s⟩
  rw [hbl, ro.sz]
  have hs1 := ok.s1
  refine WP.ite (fun h => WP.ret ?_) (fun h => ?_)
  · have e : m.arrive xs = (m, 2) := by unfold RM.arrive; rw [if_pos (by omega)]
    rw [e]
    exact ⟨rfl, (s.closeF ro).moreF (by omega)⟩
  refine WP.ite (fun h2 => WP.ret ?_) (fun h2 => ?_)
  · have e : m.arrive xs = (m, 30) := by unfold RM.arrive; rw [if_neg (by omega), if_pos (by omega)]
    rw [e]
    exact ⟨rfl, (s.closeF ro).moreF (by omega)⟩
  rcases hx with ⟨he, rfl⟩ | ⟨i, t, he, rfl, hi⟩
  · have e : m.arrive xs = (m, 31) := by unfold RM.arrive; rw [if_neg (by omega), if_neg (by omega), he]
    rw [e]
    exact WP.ite (fun h => WP.ret ⟨rfl, (s.closeF ro).moreF (by omega)⟩) (fun h => absurd (by decide) h)
  · obtain ⟨b2, d, hb, hd, hp, hl, hdat, hdl, _, _⟩ := ro.get hi
    have hN : m.dat.getD i [] = pad m.size d := by rw [List.getD, hdat]; rfl
    have ea : m.arrive xs = ((((m.out 2).setd i (xs ++ (pad m.size d).drop xs.length)).setl i xs.length).mv i 3, 0) := by unfold RM.arrive; rw [if_neg (by omega), if_neg (by omega), he, ← hN]
    rw [ea]
    refine WP.ite (fun h => by omega) (fun _ => ?_)
    refine WP.rdx s 0 rfl rdS_rdb (by omega) (x := b2) (by rw [Int.toNat_natCast]; exact hb) rfl (WP.slot' s (fun _ w s => ?_))
    refine WP.step (laid_wp s 1 rfl (zip_rdb hb hd) (j + 2) e rb (by omega) (by omega)) ?_
    rintro D w ⟨sp, s⟩
    have s := (Ss.vec_freeze s).use [1, 1] rfl
    refine WP.step (R_putd s ro ok (xs.length : Int) hb hd 0 rfl (by rw [List.length_append, List.length_drop]; omega) (pad_laid (by omega)).symm) ?_
    rintro r2 w ⟨bufs2, ds2, ro2, s⟩
    have ok1 : ((m.setd i (xs ++ (pad m.size d).drop xs.length)).setl i xs.length).Ok := by
      refine RM.Ok.setl (m := m.setd i (xs ++ (pad m.size d).drop xs.length)) (ok.setd ⟨by rw [List.length_append, List.length_drop, pad_len]; omega, fun x hx => ?_⟩) ⟨by omega, by show (xs.length : Int) ≤ m.size; omega⟩
      rcases List.mem_append.1 hx with hx | hx
      · exact hxs x hx
      · have := (ok.d _ (List.mem_of_getElem? hdat)).2
        exact this x (List.mem_of_mem_drop hx)
    obtain ⟨b3, d3, hb3, _⟩ := ro2.get (i := i) (by show i < (m.setd i _).n; rw [setd_n]; exact hi)
    refine WP.step (R_moved (m' := ((((m.out 2).setd i (xs ++ (pad m.size d).drop xs.length)).setl i xs.length).mv i 3)) (k := 3) s ro2 ok1 (by omega) hb3 (lines_out ok1 (j := 2) (t := t) (.inr (.inl rfl)) he 3) rfl rfl rfl rfl rfl rfl) ?_
    rintro r' w s
    have s := (s.use [1, 1] rfl).weak (l := [_, _])
    exact WP.ret ⟨rfl, s.moreF (by omega)⟩
theorem R_Poll (s : Ss W (RefP r m T :: R) w) (ok : m.Ok) (hT : T + 8192 ≤ big) : WP (weirref3_Poll r) w (fun x w' => match m.L 3 with
    | [] => x = (r, 0, 0, false) ∧ Ss W (RefP r m T :: R) w'
    | i :: _ => x.2 = ((i : Int), m.len.getD i 0, true) ∧ Ss W (RefP x.1 ((m.out 3).mv i 4) (T + 1) :: R) w') := by
  unfold weirref3_Poll
  refine WP.slot' s (fun _ w s => WP.slot' s (fun _ w s => ?_))
  obtain ⟨bufs, ds, ro, s⟩ := s.openF
  refine WP.step (R_first s ro ok (k := 3) (.inr (.inr (.inl rfl)))) ?_
  rintro x w ⟨hx, s⟩
  rcases hx with ⟨he, rfl⟩ | ⟨i, t, he, rfl, hi⟩
  · rw [he]
    exact WP.ite (fun h => WP.ret ⟨rfl, s.closeF ro⟩) (fun h => absurd (by decide) h)
  · rw [he]
    obtain ⟨b, d, hb, hd, hp, hl, hdat, hdl, _, _⟩ := ro.get hi
    refine WP.ite (fun h => by omega) (fun _ => WP.draw' s (fun w s => ?_))
    refine WP.idxr s 0 rfl rdS_rdb (by omega) (x := b) (by rw [Int.toNat_natCast]; exact hb) rfl (fun a ha => ?_)
    rw [Int.toNat_natCast]
    refine WP.ldp s 0 rfl rdS_rdb hb ha (by rw [add_add]) (At_weirref3_Buf_N b) ?_
    refine WP.step (R_moved (m' := (m.out 3).mv i 4) (k := 4) s ro ok (by omega) hb (lines_out ok (.inr (.inr (.inl rfl))) he 4) rfl rfl rfl rfl rfl rfl) ?_
    intro r' w s
    refine WP.samep s 1 rfl rdS_rdb hb ha (by rw [add_add]) (At_weirref3_Buf_N b) (WP.samep s 1 rfl rdS_rdb hb ha (by rw [add_add]) (At_weirref3_Buf_N b) (WP.ret ⟨?_, (s.use [1] rfl).drop⟩))
    show ((i : Int), b.N, true) = _
    rw [List.getD, hl]
    rfl
theorem R_Take (s : Ss W (RefP r m T :: R) w) (ok : m.Ok) (hT : T + 8192 ≤ big) : WP (weirref3_Take r) w (fun x w' => match m.L 1 with
    | [] => x = (r, 0, 33) ∧ Ss W (RefP r m T :: R) w'
    | i :: _ => x.2 = ((i : Int), 0) ∧ Ss W (RefP x.1 (((m.out 1).mv i 4).setd i (List.replicate m.size 0)) (T + 1) :: R) w') := by
  unfold weirref3_Take
  refine WP.slot' s (fun _ w s => WP.slot' s (fun _ w s => ?_))
  obtain ⟨bufs, ds, ro, s⟩ := s.openF
  refine WP.step (R_first s ro ok (k := 1) (.inl rfl)) ?_
  rintro x w ⟨hx, s⟩
  rcases hx with ⟨he, rfl⟩ | ⟨i, t, he, rfl, hi⟩
  · rw [he]
    exact WP.ite (fun h => WP.ret ⟨rfl, s.closeF ro⟩) (fun h => absurd (by decide) h)
  · rw [he]
    obtain ⟨b, d, hb, hd, hp, hl, hdat, hdl, _, _⟩ := ro.get hi
    refine WP.ite (fun h => by omega) (fun _ => ?_)
    refine WP.rdx s 0 rfl rdS_rdb (by omega) (x := b) (by rw [Int.toNat_natCast]; exact hb) rfl (WP.slot' s (fun _ w s => ?_))
    have s := (s.mk0 (A := rdB Sl.nil []) rd0).use [1, 1] rfl
    refine WP.step (R_putd s ro ok b.N hb hd 0 rfl (by simp) (pad_nil _).symm) ?_
    rintro r2 w ⟨bufs2, ds2, ro2, s⟩
    have e : (m.setd i (List.replicate m.size 0)).setl i b.N = m.setd i (List.replicate m.size 0) := by
      show ({ m.setd i (List.replicate m.size 0) with len := m.len.set i b.N } : RM) = _
      rw [set_eq hl]
      rfl
    rw [e] at ro2
    have ok1 : (m.setd i (List.replicate m.size 0)).Ok := ok.setd ⟨by simp, fun x hx => by rw [List.eq_of_mem_replicate hx]; omega⟩
    obtain ⟨b3, d3, hb3, _⟩ := ro2.get (i := i) (by rw [setd_n]; exact hi)
    refine WP.step (R_moved (m' := (((m.out 1).mv i 4).setd i (List.replicate m.size 0))) (k := 4) s ro2 ok1 (by omega) hb3 (lines_out ok1 (j := 1) (t := t) (.inl rfl) he 4) rfl rfl rfl rfl rfl rfl) ?_
    rintro r' w s
    exact WP.ret ⟨rfl, (s.use [1, 1] rfl).weak (l := [_, _])⟩
theorem R_Buffer (s : Ss W (RefP r m T :: R) w) (ok : m.Ok) (i : Int) : WP (weirref3_Buffer r i) w (fun x w' => x = m.heldE i ∧ Ss W (RefP r m T :: R) w') := by
  unfold weirref3_Buffer
  refine WP.slot' s (fun _ w s => ?_)
  obtain ⟨bufs, ds, ro, s⟩ := s.openF
  have hl := (s.rd_len (i := 0) rfl rdS_rdb).1
  have hn := ro.nb
  have hn1 := ok.n1
  refine WP.step (out_wp _ _ _) ?_
  rintro _ _ ⟨rfl, rfl⟩
  have hlen : IntKind.wrap .i64 ((r.L.len : Int) - 1) = (m.n : Int) - 1 := by rw [hl, hn, wrap_i64 (by omega) (by omega)]
  rw [hlen]
  unfold RM.heldE
  refine WP.ite (fun h => WP.ret ?_) (fun h => ?_)
  · have h := of_decide_eq_true h
    exact ⟨by rw [if_pos (by omega)], s.closeF ro⟩
  · have h : ¬ (i < 0 ∨ i > (m.n : Int) - 1) := fun hx => h (decide_eq_true hx)
    obtain ⟨b, d, hb, hd, hp, hl, hdat, hdl, _, _⟩ := ro.get (i := i.toNat) (by omega)
    refine WP.rdxp0 s 0 rfl rdS_rdb (by omega) (x := b) hb rfl (At_weirref3_Buf_Place b) ?_
    have e : m.place.getD i.toNat 0 = b.Place := by rw [List.getD, hp]; rfl
    rw [e]
    refine WP.ite (fun h2 => WP.ret ⟨?_, s.closeF ro⟩) (fun h2 => WP.ret ⟨?_, s.closeF ro⟩)
    · rw [if_neg (by omega), if_pos h2]
    · rw [if_neg (by omega), if_neg h2]
theorem R_Release (s : Ss W (RefP r m T :: R) w) (ok : m.Ok) (hT : T + 8192 ≤ big) (i : Int) : WP (weirref3_Release r i) w (fun x w' => x.2 = (m.release i).2 ∧ Ss W (RefP x.1 (m.release i).1 (T + 8192) :: R) w') := by
  unfold weirref3_Release
  refine WP.slot' s (fun _ w s => WP.slot' s (fun _ w s => WP.step (R_Buffer s ok i) ?_))
  rintro _ w ⟨rfl, s⟩
  refine WP.ite (fun h => WP.ret ?_) (fun h => ?_)
  · have e : m.release i = (m, m.heldE i) := by unfold RM.release; rw [if_pos h]
    rw [e]
    exact ⟨rfl, s.moreF (by omega)⟩
  · rcases heldE_cases m i with e | e | ⟨e, e1, e2, e3⟩
    · exact absurd (by rw [e]; decide) h
    · exact absurd (by rw [e]; decide) h
    obtain ⟨i, rfl⟩ : ∃ n : Nat, i = n := ⟨i.toNat, by omega⟩
    have er : m.release i = (m.mv i 1, 0) := by unfold RM.release; rw [if_neg h]; rfl
    rw [er]
    obtain ⟨bufs, ds, ro, s⟩ := s.openF
    obtain ⟨b, d, hb, hd, hp, hl, hdat, hdl, _, _⟩ := ro.get (i := i) (by omega)
    rw [Int.toNat_natCast] at e3
    have hp4 : m.place[i]? = some 4 := by rw [getD_get (z := (0 : Int)) (by rw [ok.pl]; omega), e3]
    refine WP.step (R_moved (m' := m.mv i 1) (k := 1) s ro ok (by omega) hb (lines_held ok hp4 1) rfl rfl rfl rfl rfl rfl) ?_
    intro r' w s
    have s := (s.use [1] rfl).drop
    exact WP.ret ⟨rfl, s.moreF (by omega)⟩
theorem R_Send (s : Ss W (RefP r m T :: R) w) (ok : m.Ok) (hT : T + 8192 ≤ big) (i n : Int) : WP (weirref3_Send r i n) w (fun x w' => x.2 = (m.send i n).2 ∧ Ss W (RefP x.1 (m.send i n).1 (T + 8192) :: R) w') := by
  unfold weirref3_Send
  refine WP.slot' s (fun _ w s => WP.slot' s (fun _ w s => ?_))
  obtain ⟨bufs, ds, ro, s⟩ := s.openF
  have hl := (s.rd_len (i := 0) rfl rdS_rdb).1
  have hn := ro.nb
  have hn1 := ok.n1
  refine WP.step (out_wp _ _ _) ?_
  rintro _ _ ⟨rfl, rfl⟩
  have hlen : IntKind.wrap .i64 ((r.L.len : Int) - 1) = (m.n : Int) - 1 := by rw [hl, hn, wrap_i64 (by omega) (by omega)]
  rw [hlen, ro.sz]
  refine WP.step (R := fun y w' => y = decide (i < 0 ∨ i ≥ m.n ∨ n < 0 ∨ n > m.size) ∧ w = w') (WP.ite (fun h => WP.ret ⟨?_, rfl⟩) (fun h => WP.step (out_wp _ _ _) ?_)) ?_
  · have h := of_decide_eq_true h
    symm
    rw [decide_eq_true_iff]
    omega
  · rintro _ _ ⟨rfl, rfl⟩
    have h : ¬ (i < 0 ∨ i > (m.n : Int) - 1) := fun hx => h (decide_eq_true hx)
    refine WP.ret ⟨decide_eq_decide.2 ?_, rfl⟩
    omega
  rintro _ _ ⟨rfl, rfl⟩
  refine WP.ite (fun h => WP.ret ?_) (fun h => ?_)
  · have e : m.send i n = (m, 1) := by unfold RM.send; rw [if_pos (of_decide_eq_true h)]
    rw [e]
    exact ⟨rfl, (s.closeF ro).moreF (by omega)⟩
  have h : ¬ (i < 0 ∨ i ≥ m.n ∨ n < 0 ∨ n > m.size) := fun hx => h (decide_eq_true hx)
  obtain ⟨b, d, hb, hd, hp, hl, hdat, hdl, _, _⟩ := ro.get (i := i.toNat) (by omega)
  have e4 : m.place.getD i.toNat 0 = b.Place := by rw [List.getD, hp]; rfl
  have eh : m.heldE i = if b.Place ≠ 4 then 34 else 0 := by unfold RM.heldE; rw [if_neg (by omega), e4]
  refine WP.rdxp0 s 0 rfl rdS_rdb (by omega) (x := b) hb rfl (At_weirref3_Buf_Place b) ?_
  refine WP.ite (fun h2 => WP.ret ?_) (fun h2 => ?_)
  · have e : m.send i n = (m, 34) := by unfold RM.send; rw [if_neg h, eh, if_pos h2, if_pos (by decide)]
    rw [e]
    exact ⟨rfl, (s.closeF ro).moreF (by omega)⟩
  refine WP.draw' s (fun w s => WP.step (R_count s ro ok (k := 5) (.inr (.inr (.inr rfl)))) ?_)
  rintro _ w ⟨rfl, s⟩
  rw [ro.tx]
  have hqq := ok.qq
  refine WP.ite (fun h3 => WP.ret ?_) (fun h3 => ?_)
  · have e : m.send i n = (m, 32) := by unfold RM.send; rw [if_neg h, eh, if_neg h2, if_neg (by decide), if_pos (by omega)]
    rw [e]
    exact ⟨rfl, (s.closeF ro).moreF (by omega)⟩
  obtain ⟨i, rfl⟩ : ∃ n : Nat, i = n := ⟨i.toNat, by omega⟩
  have e : m.send i n = ((m.setl i n).mv i 5, 0) := by unfold RM.send; rw [if_neg h, eh, if_neg h2, if_neg (by decide), if_neg (by omega)]; rfl
  rw [e]
  rw [Int.toNat_natCast] at hb hd hp hl hdat
  refine WP.rdx s 0 rfl rdS_rdb (by omega) (x := b) (by rw [Int.toNat_natCast]; exact hb) rfl (WP.slot' s (fun _ w s => ?_))
  refine WP.step (R_put s ro ok n hb hd) ?_
  rintro r2 w ⟨bufs2, ro2, s⟩
  have ok1 : (m.setl i n).Ok := ok.setl (by omega)
  obtain ⟨b3, d3, hb3, _⟩ := ro2.get (i := i) (by show i < m.n; omega)
  have hp4 : (m.setl i n).place[i]? = some 4 := by
    show m.place[i]? = some 4
    rw [hp, Classical.not_not.1 h2]
  refine WP.step (R_moved (m' := (m.setl i n).mv i 5) (k := 5) s ro2 ok1 (by omega) hb3 (lines_held ok1 hp4 5) rfl rfl rfl rfl rfl rfl) ?_
  intro r' w s
  have s := (s.use [1] rfl).drop
  exact WP.ret ⟨rfl, s.moreF (by omega)⟩
theorem R_Drain (s : Ss W (RefP r m T :: R) w) (ok : m.Ok) (hT : T + 8192 ≤ big) : WP (weirref3_Drain r) w (fun x w' => match m.L 5 with
    | [] => x = (r, Sl.nil, false) ∧ Ss W (RefP r m T :: R) w'
    | i :: _ => ∃ sp, x.2.2 = true ∧ Ss W (RefP x.1 ((m.out 5).mv i 1) (T + 1) :: vec (cI .u8) x.2.1 (con m i) sp :: R) w') := by
  unfold weirref3_Drain
  refine WP.slot' s (fun _ w s => WP.slot' s (fun _ w s => ?_))
  obtain ⟨bufs, ds, ro, s⟩ := s.openF
  refine WP.step (R_first s ro ok (k := 5) (.inr (.inr (.inr rfl)))) ?_
  rintro x w ⟨hx, s⟩
  rcases hx with ⟨he, rfl⟩ | ⟨i, t, he, rfl, hi⟩
  · rw [he]
    exact WP.ite (fun h => WP.ret ⟨rfl, s.closeF ro⟩) (fun h => absurd (by decide) h)
  · rw [he]
    obtain ⟨b, d, hb, hd, hp, hl, hdat, hdl, _, _⟩ := ro.get hi
    obtain ⟨q1, q2, q3, q4, q5⟩ := con_len ok hi
    have hs1 := ok.s1
    have hbN : m.len.getD i 0 = b.N := by rw [List.getD, hl]; rfl
    have hcon : con m i = pad b.N.toNat d := by
      unfold con
      rw [hbN, List.getD, hdat]
      show (pad m.size d).take _ = _
      exact pad_take d (by omega)
    refine WP.ite (fun h => by omega) (fun _ => WP.draw' s (fun w s => ?_))
    refine WP.rdxp s 0 rfl rdS_rdb (by omega) (x := b) (by rw [Int.toNat_natCast]; exact hb) rfl (At_weirref3_Buf_N b) ?_
    rw [show b.N = ((b.N.toNat : Nat) : Int) by omega]
    refine WP.step (Bytes_wp s 0 rfl hb 1 rfl (zip_rdb hb hd) (by omega)) ?_
    rintro x w ⟨sp, s⟩
    rw [← hcon] at s
    have s := s.use [1, 1] rfl
    refine WP.step (R_moved (m' := (m.out 5).mv i 1) (k := 1) s ro ok (by omega) hb (lines_out ok (.inr (.inr (.inr rfl))) he 1) rfl rfl rfl rfl rfl rfl) ?_
    intro r' w s
    exact WP.ret ⟨sp, rfl, (s.use [1] rfl).drop⟩
end
end Go.Proofs.Ytoddkagehbcfjaa.Lx
