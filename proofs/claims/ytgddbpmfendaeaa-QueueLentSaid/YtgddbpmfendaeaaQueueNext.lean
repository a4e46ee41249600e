/- Package queue's turns, of their programs in the M-world: a class is ready as the plain value says; the loop of Pop and Peek comes to the turn of 'Turns'. -/
import Derived.Test.YtgddbpmfendaeaaQueueLine
import Derived.Test.YtgddbpmfendaeaaQueueModel
set_option linter.unusedVariables false
set_option linter.unusedSimpArgs false
namespace Go.Proofs.Ytgddbpmfendaeaa.Lx
open Go Go.Proofs Go.RowKit

namespace WP
variable {α β : Type} {w : World}
/-- a test joined with another, whose parts do nothing but tell -/
theorem loop_step {σ : Type} {G : σ → M (LS σ β)} {s : σ} {Q : β → World → Prop} (h : WP (G s) w (Rd (fun s' w' => WP (loopM G s') w' Q) Q)) : WP (loopM G s) w Q := by
  obtain ⟨q, w1, h1, h2⟩ := h
  cases q with
  | next s' =>
    obtain ⟨r, w2, h3, h4⟩ := h2
    obtain ⟨n, h5⟩ := loopM_some h3
    exact ⟨r, w2, loopM_of (n := n + 1) (bind_some.2 ⟨_, _, h1, h5⟩), h4⟩
  | done b => exact ⟨b, w1, loopM_of (n := 1) (bind_some.2 ⟨_, _, h1, rfl⟩), h2⟩
end WP
theorem nth_app : ∀ {l m : List HP} {i : Nat} {A : HP}, nth l i = some A → nth (l ++ m) i = some A
  | A :: l, m, 0, _, h => h
  | A :: l, m, i + 1, B, h => nth_app (l := l) h
theorem Ss.ring_out {W w : World} {A B C : HP} {rs R : List HP} {i : Nat} (s : Ss W (A :: B :: (rs ++ R)) w) (e : nth rs i = some C) : Ss W (A :: C :: (wo rs i ++ B :: R)) w := by
  refine s.perm (List.Perm.cons A ?_)
  have p1 : (B :: (rs ++ R)).Perm (B :: C :: (wo rs i ++ R)) := ((nth_perm e).append_right R).cons B
  exact p1.trans ((List.Perm.swap C B _).trans (List.perm_middle.symm.cons C))
theorem Ss.ring_in {W w : World} {A B C D : HP} {rs R : List HP} {i : Nat} (e : nth rs i = some C) (s : Ss W (A :: D :: (wo rs i ++ B :: R)) w) : Ss W (A :: B :: (up rs i D ++ R)) w := by
  refine s.perm (List.Perm.cons A ?_)
  have p1 : (D :: (wo rs i ++ B :: R)).Perm (B :: D :: (wo rs i ++ R)) := (List.perm_middle.cons D).trans (List.Perm.swap B D _)
  exact p1.trans (((up_perm e).symm.append_right R).cons B)
def rings : List queue_class → List (List queue_item) → List HP
  | c :: cs, q :: qs => Ring c.line q :: rings cs qs
  | _, _ => []
theorem rings_nth {cs : List queue_class} {qs : List (List queue_item)} {i : Nat} {c : queue_class} {q : List queue_item} (h : cs[i]? = some c) (h' : qs[i]? = some q) : nth (rings cs qs) i = some (Ring c.line q) := by
  induction cs generalizing qs i with
  | nil => simp at h
  | cons c0 cs ih =>
    cases qs with
    | nil => simp at h'
    | cons q0 qs =>
      cases i with
      | zero =>
        simp only [List.getElem?_cons_zero, Option.some.injEq] at h h'
        rw [h, h']
        rfl
      | succ i => exact ih (by simpa using h) (by simpa using h')
theorem rings_up {cs : List queue_class} {qs : List (List queue_item)} {i : Nat} {c : queue_class} {q : List queue_item} (h : i < cs.length) (h' : i < qs.length) : up (rings cs qs) i (Ring c.line q) = rings (cs.set i c) (qs.set i q) := by
  induction cs generalizing qs i with
  | nil => simp at h
  | cons c0 cs ih =>
    cases qs with
    | nil => simp at h'
    | cons q0 qs =>
      cases i with
      | zero => rfl
      | succ i => exact congrArg (_ :: ·) (ih (by simpa using h) (by simpa using h'))
theorem at_row {α : Type} {c : Cod α} {l sp : List α} {i : Nat} {x : α} (h : l[i]? = some x) : At ((l ++ sp).flatMap c.enc) (i * c.n) (c.enc x) := by
  have hi := (List.getElem?_eq_some_iff.1 h).1
  have := flatMap_at c (l ++ sp) i x (by simp; omega)
  rw [show (l ++ sp).getD i x = x by rw [List.getD, List.getElem?_append_left hi, h]; rfl] at this
  exact this
theorem upd_row {α : Type} {c : Cod α} {l sp : List α} {i : Nat} (x : α) (h : i < l.length) : Upd ((l ++ sp).flatMap c.enc) (i * c.n) (c.enc x) ((l.set i x ++ sp).flatMap c.enc) := by
  have := flatMap_upd c (l ++ sp) i x (by simp; omega)
  rwa [List.set_append_left _ _ h] at this
section
variable {W w : World} {R : List HP} {a : Addr} {L : List Value} {o : Nat} {c : queue_class} {q : List queue_item}
theorem ready_wp (s : Ss W (pts true a L :: Ring c.line q :: R) w) (h : At L o (c_queue_class.enc c)) :
    WP (queue_class_ready (some (a.add o))) w (fun r w' => r = rdy c.c c.tokens q ∧ Ss W (pts true a L :: Ring c.line q :: R) w') := by
  unfold queue_class_ready
  have hline := h.trans (At_queue_class_line c)
  refine WP.draw' s (fun w s => WP.nilck ?_)
  refine WP.ld s 0 rfl (o := o + 5 + 2) (by rw [add_add, add_add, Nat.add_assoc]) (hline.trans (At_queue_line_queue_item_n _)) ?_
  obtain ⟨h', hr⟩ := s.has (i := 1) rfl
  have hn := (Ring.len hr).1
  rw [hn]
  cases q with
  | nil =>
    refine WP.step (R := fun r w' => r = false ∧ Ss W (pts true a L :: Ring c.line [] :: R) w') (WP.ite (fun h => absurd h (by simp)) (fun _ => WP.ret ⟨rfl, s⟩)) ?_
    rintro _ w ⟨rfl, s⟩
    exact WP.ret ⟨rfl, s⟩
  | cons x q =>
    refine WP.step (R := fun r w' => r = rdy c.c c.tokens (x :: q) ∧ Ss W (pts true a L :: Ring c.line (x :: q) :: R) w') (WP.ite (fun _ => WP.nilck ?_) (fun h => absurd (by simp only [List.length_cons]; omega) h)) (fun _ w h => WP.ret h)
    refine WP.ld s 0 rfl (o := o + 0 + 3) (by rw [add_add]) ((h.trans (At_queue_class_c c)).trans (At_api_Class_Rate _)) ?_
    refine WP.step (R := fun r w' => r = rdy c.c c.tokens (x :: q) ∧ Ss W (pts true a L :: Ring c.line (x :: q) :: R) w') (WP.ite (fun h0 => WP.ret ⟨by simp [rdy, h0], s⟩) (fun h0 => WP.nilck ?_)) (fun _ w h => WP.ret h)
    refine WP.ld s 0 rfl (o := o + 9) (by rw [add_add]) (h.trans (At_queue_class_tokens c)) (WP.nilck ?_)
    rw [add_add]
    refine WP.step (head_wp s hline rfl) ?_
    rintro _ w ⟨rfl, s⟩
    refine WP.same s 0 rfl (o := o + 9) (by rw [add_add]) (h.trans (At_queue_class_tokens c)) (WP.ret ⟨?_, s⟩)
    simp [rdy, h0]
end
/-! ### the classes of a queue, in memory -/
def QM.core (m : QM) : List (api_Class × List queue_item × Int) := m.cl.map fun k => (k.c, k.q, k.tok)
def QM.qs (m : QM) : List (List queue_item) := m.cl.map Cl.q
def CsOk (cs : List queue_class) (m : QM) : Prop := cs.map (fun c => (c.c, c.tokens, c.bytes)) = m.cl.map fun k => (k.c, k.tok, sizes k.q)
def TnOk (tn : queue_turn) (m : QM) : Prop := tn.at_ = m.at_ ∧ tn.given = m.given ∧ ∀ (i : Nat) (k : Cl), m.cl[i]? = some k → tn.deficit.l[i]? = some k.d
/-- the places of a queue: its row of classes, itself, the rings -/
def QHs (qa ca : Addr) (tn : queue_turn) (cs sp : List queue_class) (m : QM) (R : List HP) : List HP := pts true ca ((cs ++ sp).flatMap c_queue_class.enc) :: pts true qa (c_queue_Queue.enc ⟨⟨some ca, cs.length, cs.length + sp.length⟩, tn⟩) :: (rings cs m.qs ++ R)
theorem CsOk.len {cs : List queue_class} {m : QM} (h : CsOk cs m) : cs.length = m.n := by
  have := congrArg List.length h
  simpa [QM.n] using this
theorem CsOk.get {cs : List queue_class} {m : QM} (h : CsOk cs m) {i : Nat} {k : Cl} (hk : m.cl[i]? = some k) : ∃ c, cs[i]? = some c ∧ c.c = k.c ∧ c.tokens = k.tok ∧ c.bytes = sizes k.q := by
  have := congrArg (fun l => l[i]?) h
  simp only [List.getElem?_map, hk, Option.map_some] at this
  cases hc : cs[i]? with
  | none => rw [hc] at this; cases this
  | some c =>
    rw [hc] at this
    simp only [Option.map_some, Option.some.injEq, Prod.mk.injEq] at this
    exact ⟨c, rfl, this⟩
theorem set_same {α : Type} {l : List α} {i : Nat} {x : α} (h : l[i]? = some x) : l.set i x = l := by
  apply List.ext_getElem?
  intro j
  by_cases e : j = i
  · subst e
    rw [List.getElem?_set_self (List.getElem?_eq_some_iff.1 h).1, h]
  · rw [List.getElem?_set_ne (fun h => e h.symm)]
/-- moves turn deficits alone -/
theorem map_setd {β : Type} {m : QM} {d : Int} (f : Cl → β) (hf : ∀ (k : Cl) (d : Int), f { k with d := d } = f k) (h0 : m.at_ < m.n) : (m.setc { m.cur with d := d }).cl.map f = m.cl.map f := by
  show (m.cl.set m.at_ _).map f = _
  rw [List.map_set, hf]
  exact set_same (by rw [List.getElem?_map, QM.cur_at h0]; rfl)
theorem map_gives {β : Type} {m : QM} (f : Cl → β) (hf : ∀ (k : Cl) (d : Int), f { k with d := d } = f k) (h0 : m.at_ < m.n) : m.gives.cl.map f = m.cl.map f := by
  unfold QM.gives
  split
  · rfl
  · exact map_setd f hf h0
theorem map_onward {β : Type} {m : QM} (f : Cl → β) (hf : ∀ (k : Cl) (d : Int), f { k with d := d } = f k) (h0 : m.at_ < m.n) : m.onward.cl.map f = m.cl.map f := by
  unfold QM.onward
  simp only
  split
  · exact map_setd f hf h0
  · rfl
theorem qs_gives {m : QM} (h0 : m.at_ < m.n) : m.gives.qs = m.qs := map_gives _ (fun _ _ => rfl) h0
theorem qs_onward {m : QM} (h0 : m.at_ < m.n) : m.onward.qs = m.qs := map_onward _ (fun _ _ => rfl) h0
theorem CsOk.gives {cs : List queue_class} {m : QM} (h : CsOk cs m) (h0 : m.at_ < m.n) : CsOk cs m.gives := h.trans (map_gives _ (fun _ _ => rfl) h0).symm
theorem CsOk.onward {cs : List queue_class} {m : QM} (h : CsOk cs m) (h0 : m.at_ < m.n) : CsOk cs m.onward := h.trans (map_onward _ (fun _ _ => rfl) h0).symm
theorem TnOk.cur {tn : queue_turn} {m : QM} (h : TnOk tn m) (h0 : m.at_ < m.n) : Vec.g tn.deficit tn.at_ 0 = m.cur.d := by
  have := h.2.2 _ _ (QM.cur_at h0)
  unfold Vec.g
  rw [h.1, Int.toNat_natCast, List.getD, this]
  rfl
theorem TnOk.setd {tn : queue_turn} {m : QM} (h : TnOk tn m) (h0 : m.at_ < m.n) (d : Int) : ∀ (i : Nat) (k : Cl), (m.setc { m.cur with d := d }).cl[i]? = some k → (Vec.s tn.deficit tn.at_ d).l[i]? = some k.d := by
  intro i k hi
  have hl := h.2.2 _ _ (QM.cur_at h0)
  have hlt := (List.getElem?_eq_some_iff.1 hl).1
  show (tn.deficit.l.set tn.at_.toNat d)[i]? = _
  rw [h.1, Int.toNat_natCast]
  by_cases e : i = m.at_
  · subst e
    have hi' : (m.setc { m.cur with d := d }).cl[(m.setc { m.cur with d := d }).at_]? = some k := hi
    rw [QM.cur_at (by rw [QM.setc_n]; exact h0), QM.setc_cur h0] at hi'
    cases hi'
    rw [List.getElem?_set_self hlt]
  · rw [QM.setc_get e] at hi
    rw [List.getElem?_set_ne (fun h => e h.symm)]
    exact h.2.2 i k hi
section
variable {W w : World} {R : List HP} {qa ca : Addr} {tn : queue_turn} {cs sp : List queue_class} {m : QM}
/-- class i of a queue: is it ready? -/
theorem readyQ_wp (s : Ss W (QHs qa ca tn cs sp m R) w) (ok : CsOk cs m) {i : Nat} {k : Cl} (hk : m.cl[i]? = some k) {p : Addr} (hp : p = ca.add (i * 10)) :
    WP (queue_class_ready (some p)) w (fun r w' => r = k.rdy ∧ Ss W (QHs qa ca tn cs sp m R) w') := by
  subst hp
  obtain ⟨c, hc, e1, e2, e3⟩ := ok.get hk
  have hq : m.qs[i]? = some k.q := by unfold QM.qs; rw [List.getElem?_map, hk]; rfl
  have s2 := s.ring_out (rings_nth hc hq)
  refine (ready_wp s2 (at_row (c := c_queue_class) hc)).mono ?_
  rintro r w' ⟨rfl, s⟩
  refine ⟨by rw [e1, e2]; rfl, ?_⟩
  have := s.ring_in (rings_nth hc hq)
  rw [rings_up (List.getElem?_eq_some_iff.1 hc).1 (List.getElem?_eq_some_iff.1 hq).1, set_same hc, set_same hq] at this
  exact this
/-- class i's first item -/
theorem headQ_wp (s : Ss W (QHs qa ca tn cs sp m R) w) (ok : CsOk cs m) {i : Nat} {k : Cl} (hk : m.cl[i]? = some k) {x : queue_item} {q' : List queue_item} (hx : k.q = x :: q') {p : Addr} (hp : p = ca.add (i * 10 + 5)) :
    WP (queue_line_queue_item_head (some p)) w (fun r w' => r = x ∧ Ss W (QHs qa ca tn cs sp m R) w') := by
  subst hp
  obtain ⟨c, hc, e1, e2, e3⟩ := ok.get hk
  have hq : m.qs[i]? = some k.q := by unfold QM.qs; rw [List.getElem?_map, hk]; rfl
  have s2 := s.ring_out (rings_nth hc hq)
  refine (head_wp s2 ((at_row (c := c_queue_class) hc).trans (At_queue_class_line c)) hx).mono ?_
  rintro r w' ⟨rfl, s⟩
  refine ⟨rfl, ?_⟩
  have := s.ring_in (rings_nth hc hq)
  rw [rings_up (List.getElem?_eq_some_iff.1 hc).1 (List.getElem?_eq_some_iff.1 hq).1, set_same hc, set_same hq] at this
  exact this
theorem QHs.n_at (s : Ss W (QHs qa ca tn cs sp m R) w) {i : Nat} {c : queue_class} {k : Cl} (hc : cs[i]? = some c) (hk : m.cl[i]? = some k) : c.line.n = k.q.length := by
  have hq : m.qs[i]? = some k.q := by unfold QM.qs; rw [List.getElem?_map, hk]; rfl
  obtain ⟨h, hr⟩ := (s.ring_out (rings_nth hc hq)).has (i := 1) rfl
  exact (Ring.len hr).1
end
section
variable {W w : World} {R : List HP} {qa ca : Addr} {tn : queue_turn} {cs sp : List queue_class}
theorem QHs.qs_eq {m m' : QM} (e : m'.qs = m.qs) : QHs qa ca tn cs sp m' R = QHs qa ca tn cs sp m R := by unfold QHs; rw [e]
theorem IntK.add1 {n : Nat} (h : n ≤ 1000000) : IntKind.wrap .i64 ((n : Int) + 1) = ((n + 1 : Nat) : Int) := by rw [wrap_i64 (by omega) (by omega)]; rfl
/-- the pointer goes on -/
theorem next_K1 {m : QM} (s : Ss W (QHs qa ca tn cs sp m R) w) (ok : m.Ok) (hl : cs.length = m.n) {t : queue_turn} {m2 : QM} (hn : m2.n = m.n) (ha : m2.at_ < m.n) (ht : t.at_ = m2.at_) (hd : ∀ (i : Nat) (k : Cl), m2.cl[i]? = some k → t.deficit.l[i]? = some k.d) :
    WP (queue_Queue_next.K1 (some qa) t) w (WP.Rd (fun t' w' => TnOk t' { m2 with at_ := (m2.at_ + 1) % m2.n, given := false } ∧ Ss W (QHs qa ca tn cs sp m R) w') (fun (_ : Int × Int × Bool) _ => False)) := by
  unfold queue_Queue_next.K1
  have h0 := ok.n0
  have h8 := ok.n8
  refine WP.draw' s (fun w s => WP.nilck ?_)
  refine WP.ld s 1 rfl (o := 0) (by simp [Addr.add]) (At_queue_Queue_classes _) ?_
  refine WP.chk (by simp only; omega) (WP.next ⟨⟨?_, rfl, hd⟩, s⟩)
  simp only
  rw [ht, IntK.add1 (by omega), hl, tmod_nat (by omega) (by omega), hn]
  rfl
/-- a class that is held up keeps at most its head's size; the pointer goes on -/
theorem next_K2 {m m2 : QM} (s : Ss W (QHs qa ca tn cs sp m R) w) (ok : m.Ok) (cok : CsOk cs m) (okm : m2.Ok) (cok2 : CsOk cs m2) (hqs : m2.qs = m.qs) {t : queue_turn} (ht : TnOk t m2) :
    WP (queue_Queue_next.K2 (some qa) (ca.add (m2.at_ * 10)) t) w (WP.Rd (fun t' w' => TnOk t' m2.onward ∧ Ss W (QHs qa ca tn cs sp m R) w') (fun (_ : Int × Int × Bool) _ => False)) := by
  unfold queue_Queue_next.K2
  have h0 := okm.n0
  have h8 := okm.n8
  rw [← QHs.qs_eq hqs] at s ⊢
  have hk := QM.cur_at h0
  obtain ⟨c, hc, e1, e2, e3⟩ := cok2.get hk
  have hnq := QHs.n_at s hc hk
  have hln : cs.length = m2.n := cok2.len
  refine WP.ld s 0 rfl (o := m2.at_ * 10 + 7) (by rw [add_add, add_add]) (((at_row (c := c_queue_class) hc).trans (At_queue_class_line c)).trans (At_queue_line_queue_item_n _)) ?_
  rw [hnq]
  refine WP.step (R := fun r w' => r = decide (m2.cur.q ≠ [] ∧ m2.cur.rdy = false) ∧ Ss W (QHs qa ca tn cs sp m2 R) w') (WP.ite (fun h => ?_) (fun h => WP.ret ⟨?_, s⟩)) ?_
  · refine WP.step (readyQ_wp s cok2 hk rfl) ?_
    rintro _ w ⟨rfl, s⟩
    refine WP.ret ⟨?_, s⟩
    have : m2.cur.q ≠ [] := fun e => by rw [e] at h; simp at h
    cases m2.cur.rdy <;> simp [this]
  · have : m2.cur.q = [] := by
      cases hq : m2.cur.q with
      | nil => rfl
      | cons x q => rw [hq] at h; simp only [List.length_cons] at h; omega
    simp [this]
  rintro _ w ⟨rfl, s⟩
  refine WP.ite (fun hb => ?_) (fun hb => ?_)
  · have hb := of_decide_eq_true hb
    have hch : 0 ≤ t.at_ ∧ t.at_ < (8 : Nat) := by rw [ht.1]; unfold QM.n at h0; unfold QM.n at h8; omega
    obtain ⟨x, q', hx⟩ : ∃ x q', m2.cur.q = x :: q' := by
      cases hq : m2.cur.q with
      | nil => exact absurd hq hb.1
      | cons x q => exact ⟨x, q, rfl⟩
    refine WP.draw' s (fun w s => WP.chk hch ?_)
    refine WP.step (headQ_wp s cok2 hk hx (by rw [add_add])) ?_
    rintro r w ⟨hr, s⟩
    rw [hr]
    refine WP.chk hch ?_
    have hmin : (if x.size < Vec.g t.deficit t.at_ 0 then x.size else Vec.g t.deficit t.at_ 0) = min m2.cur.d m2.cur.hd := by
      rw [ht.cur h0, show m2.cur.hd = x.size by unfold Cl.hd; rw [hx]]
      split <;> omega
    rw [hmin]
    have := next_K1 (t := ⟨Vec.s t.deficit t.at_ (min m2.cur.d m2.cur.hd), t.at_, t.given⟩) (m2 := m2.setc { m2.cur with d := min m2.cur.d m2.cur.hd }) s okm hln QM.setc_n h0 ht.1 (ht.setd h0 _)
    refine this.mono (fun r w' h => ?_)
    unfold QM.onward
    simp only
    rw [if_pos hb]
    rw [QM.setc_n] at h
    exact h
  · have hb : ¬ (m2.cur.q ≠ [] ∧ m2.cur.rdy = false) := fun hx => hb (decide_eq_true hx)
    have := next_K1 (t := t) (m2 := m2) s okm hln rfl h0 ht.1 ht.2.2
    refine this.mono (fun r w' h => ?_)
    unfold QM.onward
    simp only
    rw [if_neg hb]
    exact h
theorem rdy_cons {k : Cl} (h : k.rdy = true) : ∃ x q', k.q = x :: q' := by
  cases hq : k.q with
  | nil => unfold Cl.rdy at h; rw [hq] at h; cases h
  | cons x q => exact ⟨x, q, rfl⟩
theorem hd_cons {k : Cl} {x : queue_item} {q' : List queue_item} (h : k.q = x :: q') : k.hd = x.size := by unfold Cl.hd; rw [h]
/-- in a turn of a class that is ready -/
theorem next_K3 {m m2 : QM} {step : queue_turn → M Unit} (s : Ss W (QHs qa ca tn cs sp m R) w) (ok : m.Ok) (cok : CsOk cs m) (okm : m2.Ok) (cok2 : CsOk cs m2) (hqs : m2.qs = m.qs) {t : queue_turn} (ht : TnOk t m2) (hr : m2.cur.rdy = true) {N : queue_turn → World → Prop} {Q : (Int × Int × Bool) → World → Prop}
    (h1 : m2.cur.hd ≤ m2.cur.d → ∀ w, Ss W (QHs qa ca tn cs sp m R) w → WP (step t) w (fun _ w' => ∀ x q', m2.cur.q = x :: q' → Q (x.id, m2.at_, true) w'))
    (h0 : ¬ m2.cur.hd ≤ m2.cur.d → ∀ (t' : queue_turn) (w' : World), TnOk t' m2.onward → Ss W (QHs qa ca tn cs sp m R) w' → N t' w') :
    WP (queue_Queue_next.K3 (some qa) step (ca.add (m2.at_ * 10)) t) w (WP.Rd N Q) := by
  unfold queue_Queue_next.K3
  have hlt := okm.n0
  have h8 := okm.n8
  have hk := QM.cur_at hlt
  obtain ⟨x, q', hx⟩ := rdy_cons hr
  have hch : 0 ≤ t.at_ ∧ t.at_ < (8 : Nat) := by rw [ht.1]; unfold QM.n at hlt; unfold QM.n at h8; omega
  have s' := s
  rw [← QHs.qs_eq hqs] at s'
  refine WP.step (headQ_wp s' cok2 hk hx (by rw [add_add])) ?_
  rintro r w ⟨e, s⟩
  rw [e]
  rw [QHs.qs_eq hqs] at s
  refine WP.slot' s (fun b w s => WP.draw' s (fun w s => WP.chk hch ?_))
  rw [ht.cur hlt, ← hd_cons hx]
  refine WP.ite (fun h => ?_) (fun h => ?_)
  · refine WP.step (h1 h w s) ?_
    intro _ w hq
    refine WP.done ?_
    have := hq x q' hx
    rw [ht.1]
    exact this
  · refine (next_K2 s ok cok okm cok2 hqs ht).mono ?_
    intro r w' hr'
    cases r with
    | next t' => exact h0 h t' w' hr'.1 hr'.2
    | done b => exact hr'.elim
theorem next_L1 {m0 m : QM} {step : queue_turn → M Unit} (s : Ss W (QHs qa ca tn cs sp m0 R) w) (ok0 : m0.Ok) (cok0 : CsOk cs m0) (ok : m.Ok) (cok : CsOk cs m) (hqs : m.qs = m0.qs) (hn : m.n = m0.n) {t : queue_turn} (ht : TnOk t m) {N : queue_turn → World → Prop} {Q : (Int × Int × Bool) → World → Prop}
    (h1 : m.cur.rdy = true → m.gives.cur.hd ≤ m.gives.cur.d → ∀ (t : queue_turn) (w : World), TnOk t m.gives → Ss W (QHs qa ca tn cs sp m0 R) w → WP (step t) w (fun _ w' => ∀ x q', m.gives.cur.q = x :: q' → Q (x.id, m.gives.at_, true) w'))
    (h2 : m.cur.rdy = true → ¬ m.gives.cur.hd ≤ m.gives.cur.d → ∀ (t' : queue_turn) (w' : World), TnOk t' m.gives.onward → Ss W (QHs qa ca tn cs sp m0 R) w' → N t' w')
    (h3 : m.cur.rdy = false → ∀ (t' : queue_turn) (w' : World), TnOk t' m.onward → Ss W (QHs qa ca tn cs sp m0 R) w' → N t' w') :
    WP (queue_Queue_next.L1 (some qa) step t) w (WP.Rd N Q) := by
  unfold queue_Queue_next.L1
  have hlt := ok.n0
  have h8 := ok.n8
  have hk := QM.cur_at hlt
  have hln := cok.len
  obtain ⟨c, hc, e1, e2, e3⟩ := cok.get hk
  refine WP.draw' s (fun w s => WP.nilck ?_)
  refine WP.ld s 1 rfl (o := 0) (by simp [Addr.add]) (At_queue_Queue_classes _) ?_
  refine WP.idx (by rw [ht.1]; omega) (by simp only; rw [ht.1]; omega) ?_
  rw [show t.at_.toNat = m.at_ by rw [ht.1]; rfl]
  have s' := s
  rw [← QHs.qs_eq hqs] at s'
  refine WP.step (readyQ_wp s' cok hk rfl) ?_
  rintro _ w ⟨rfl, s⟩
  rw [QHs.qs_eq hqs] at s
  refine WP.ite (fun hr => ?_) (fun hr => ?_)
  · have okg := ok.gives hr
    have hch : 0 ≤ t.at_ ∧ t.at_ < (8 : Nat) := by rw [ht.1]; unfold QM.n at hlt; unfold QM.n at h8; omega
    have fin : ∀ (t' : queue_turn) (w : World), TnOk t' m.gives → Ss W (QHs qa ca tn cs sp m0 R) w → WP (queue_Queue_next.K3 (some qa) step (ca.add (m.at_ * 10)) t') w (WP.Rd N Q) := by
      intro t' w ht' s
      have := next_K3 (step := step) (N := N) (Q := Q) s ok0 cok0 okg (cok.gives hlt) ((qs_gives hlt).trans hqs) ht' (by rw [QM.gives_cur hlt]; exact hr) (fun hd w s => h1 hr hd t' w ht' s) (fun hd t'' w s => h2 hr hd t'' w s)
      rwa [QM.gives_at] at this
    refine WP.ite (fun hg => ?_) (fun hg => ?_)
    · have hg' : m.given = false := by rw [← ht.2.1]; simpa using hg
      refine WP.draw' s (fun w s => WP.chk hch ?_)
      refine WP.ld s 0 rfl (o := m.at_ * 10 + 0 + 0) (by simp) (((at_row (c := c_queue_class) hc).trans (At_queue_class_c c)).trans (At_api_Class_Quantum _)) (WP.chk hch (fin _ w ?_ s))
      have okk := ok.cl _ (QM.cur_mem hlt)
      have hq := okClass_iff.1 okk.c
      have hd0 := okk.d0
      have hd1 := okk.d1
      rw [ht.cur hlt, e1, wrap_i64 (by omega) (by omega)]
      unfold QM.gives
      rw [hg', if_neg (by simp)]
      exact ⟨ht.1, rfl, ht.setd hlt _⟩
    · have hg' : m.given = true := by rw [← ht.2.1]; simpa using hg
      refine fin t w ?_ s
      unfold QM.gives
      rw [if_pos hg']
      exact ht
  · have hr' : m.cur.rdy = false := by simpa using hr
    refine (next_K2 s ok0 cok0 ok cok hqs ht).mono ?_
    intro r w' h
    cases r with
    | next t' => exact h3 hr' t' w' h.1 h.2
    | done b => exact h.elim
/-- the loop of Pop and Peek, of what is done in the turn in which an item goes -/
theorem next_loop {m0 m m' : QM} {step : queue_turn → M Unit} {Q : (Int × Int × Bool) → World → Prop} (h : QM.Turns m m') (ok0 : m0.Ok) (cok0 : CsOk cs m0)
    (hstep : ∀ (t : queue_turn) (w : World), TnOk t m' → Ss W (QHs qa ca tn cs sp m0 R) w → WP (step t) w (fun _ w' => ∀ x q', m'.cur.q = x :: q' → Q (x.id, m'.at_, true) w')) :
    ∀ (t : queue_turn) (w : World), m.Ok → CsOk cs m → m.qs = m0.qs → m.n = m0.n → TnOk t m → Ss W (QHs qa ca tn cs sp m0 R) w → WP (loopM (fun s_ => queue_Queue_next.L1 (some qa) step s_) t) w Q := by
  induction h with
  | take hr hd =>
    intro t w ok cok hqs hn ht s
    refine WP.loop_step (next_L1 s ok0 cok0 ok cok hqs hn ht (fun _ _ t w ht s => hstep t w ht s) (fun _ h => absurd hd h) (fun h => by rw [hr] at h; cases h))
  | pass1 hr hd h ih =>
    intro t w ok cok hqs hn ht s
    refine WP.loop_step (next_L1 s ok0 cok0 ok cok hqs hn ht (fun _ h => absurd h hd) (fun _ _ t w ht s => ?_) (fun h => by rw [hr] at h; cases h))
    have okg := ok.gives hr
    exact ih hstep t w (okg.onward (fun _ => by omega)) ((cok.gives ok.n0).onward okg.n0) ((qs_onward okg.n0).trans ((qs_gives ok.n0).trans hqs)) (by rw [QM.onward_n, QM.gives_n, hn]) ht s
  | pass0 hr h ih =>
    intro t w ok cok hqs hn ht s
    refine WP.loop_step (next_L1 s ok0 cok0 ok cok hqs hn ht (fun h => by rw [hr] at h; cases h) (fun h => by rw [hr] at h; cases h) (fun _ t w ht s => ?_))
    exact ih hstep t w (ok.onward (fun h => by rw [hr] at h; cases h)) (cok.onward ok.n0) ((qs_onward ok.n0).trans hqs) (by rw [QM.onward_n, hn]) ht s
end
end Go.Proofs.Ytgddbpmfendaeaa.Lx
