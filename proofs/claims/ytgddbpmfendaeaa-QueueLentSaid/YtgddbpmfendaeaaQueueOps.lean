/- Package queue's calls, of their programs in the M-world: Pop, Peek, Push, Tick, Len and Bytes do what the plain value says. -/
import Derived.Test.YtgddbpmfendaeaaQueueNext
set_option linter.unusedVariables false
set_option linter.unusedSimpArgs false
namespace Go.Proofs.Ytgddbpmfendaeaa.Lx
open Go Go.Proofs Go.RowKit

theorem Vec.s_s {α : Type} {n : Nat} (v : Vec α n) (i : Int) (x y : α) : Vec.s (Vec.s v i x) i y = Vec.s v i y := Vec.eq (by simp [Vec.s])
theorem TnOk.setk {tn : queue_turn} {m : QM} (h : TnOk tn m) (h0 : m.at_ < m.n) (K : Cl) : ∀ (i : Nat) (k : Cl), (m.setc K).cl[i]? = some k → (Vec.s tn.deficit tn.at_ K.d).l[i]? = some k.d := by
  intro i k hi
  have hlt := (List.getElem?_eq_some_iff.1 (h.2.2 _ _ (QM.cur_at h0))).1
  show (tn.deficit.l.set tn.at_.toNat K.d)[i]? = _
  rw [h.1, Int.toNat_natCast]
  by_cases e : i = m.at_
  · subst e
    rw [QM.setc_own h0] at hi
    cases hi
    rw [List.getElem?_set_self hlt]
  · rw [QM.setc_get e] at hi
    rw [List.getElem?_set_ne (fun h => e h.symm)]
    exact h.2.2 i k hi
/-- the places, of rings told one by one -/
def QH2 (qa ca : Addr) (tn : queue_turn) (cs sp : List queue_class) (qs : List (List queue_item)) (R : List HP) : List HP := pts true ca ((cs ++ sp).flatMap c_queue_class.enc) :: pts true qa (c_queue_Queue.enc ⟨⟨some ca, cs.length, cs.length + sp.length⟩, tn⟩) :: (rings cs qs ++ R)
/-- a queue in memory -/
def Queue (q : Option Addr) (m : QM) : HP := fun h => ∃ qa ca tn cs sp, q = some qa ∧ m.Ok ∧ CsOk cs m ∧ TnOk tn m ∧ seps (QHs qa ca tn cs sp m []) h
theorem Ss.openQ {W w : World} {R : List HP} {q : Option Addr} {m : QM} (s : Ss W (Queue q m :: R) w) : ∃ qa ca tn cs sp, q = some qa ∧ m.Ok ∧ CsOk cs m ∧ TnOk tn m ∧ Ss W (QHs qa ca tn cs sp m R) w := by
  obtain ⟨hb, k, ⟨h1, h2, e, l1, l2, ⟨qa, ca, tn, cs, sp, a1, a2, a3, a4, a5⟩, b⟩, hw⟩ := s
  refine ⟨qa, ca, tn, cs, sp, a1, a2, a3, a4, ?_⟩
  have s' : Ss W (seps (QHs qa ca tn cs sp m []) :: R) w := ⟨hb, k, ⟨h1, h2, e, l1, l2, a5, b⟩, hw⟩
  have := s'.split
  simpa [QHs] using this
theorem Ss.closeQ {W w : World} {R : List HP} {q : Option Addr} {m : QM} {qa ca : Addr} {tn : queue_turn} {cs sp : List queue_class} (s : Ss W (QHs qa ca tn cs sp m R) w) (hq : q = some qa) (ok : m.Ok) (cok : CsOk cs m) (tok : TnOk tn m) : Ss W (Queue q m :: R) w := by
  have s' : Ss W (QHs qa ca tn cs sp m [] ++ R) w := by simpa [QHs] using s
  exact s'.group.first (fun h hp => ⟨qa, ca, tn, cs, sp, hq, ok, cok, tok, hp⟩)
theorem Ss.len_ge {W w : World} {R : List HP} {q : Option Addr} {m : QM} (s : Ss W (Queue q m :: R) w) : m.Ok := by
  obtain ⟨_, _, _, _, _, _, h, _⟩ := s.openQ
  exact h
section
variable {W w : World} {R : List HP} {qa ca : Addr} {tn : queue_turn} {cs sp : List queue_class}
theorem lineQ_wp {op : Option Addr → M Unit} {q q2 : List queue_item} (hop : ∀ (a : Addr) (L : List Value) (o : Nat) (ln : queue_line_queue_item) (R : List HP) (w : World), Ss W (pts true a L :: Ring ln q :: R) w → At L o (c_queue_line_queue_item.enc ln) → WP (op (some (a.add o))) w (fun _ w' => ∃ ln' L', Upd L o (c_queue_line_queue_item.enc ln') L' ∧ Ss W (pts true a L' :: Ring ln' q2 :: R) w'))
    {qs : List (List queue_item)} (s : Ss W (QH2 qa ca tn cs sp qs R) w) {i : Nat} {c : queue_class} (hc : cs[i]? = some c) (hq : qs[i]? = some q) {p : Addr} (hp : p = ca.add (i * 10 + 5)) :
    WP (op (some p)) w (fun _ w' => ∃ c' : queue_class, c'.c = c.c ∧ c'.tokens = c.tokens ∧ c'.bytes = c.bytes ∧ Ss W (QH2 qa ca tn (cs.set i c') sp (qs.set i q2) R) w') := by
  subst hp
  have hci := (List.getElem?_eq_some_iff.1 hc).1
  have s2 := s.ring_out (rings_nth hc hq)
  have hat := at_row (c := c_queue_class) (sp := sp) hc
  refine (hop ca _ _ c.line _ w s2 (hat.trans (At_queue_class_line c))).mono ?_
  rintro _ w' ⟨ln', L', u, s⟩
  refine ⟨⟨c.c, ln', c.bytes, c.tokens⟩, rfl, rfl, rfl, ?_⟩
  have u2 := Upd.trans hat (Up_queue_class_line c ln') (upd_row (c := c_queue_class) (sp := sp) _ hci)
  rw [u.uniq u2] at s
  have := s.ring_in (rings_nth hc hq)
  rw [rings_up (c := ⟨c.c, ln', c.bytes, c.tokens⟩) hci (List.getElem?_eq_some_iff.1 hq).1] at this
  unfold QH2
  rw [List.length_set]
  exact this
/-- a plain field of class i written: what its ring is stays -/
theorem rings_field {cs : List queue_class} {qs : List (List queue_item)} {i : Nat} {c c' : queue_class} (hc : cs[i]? = some c) (e : c'.line = c.line) : rings (cs.set i c') qs = rings cs qs := by
  induction cs generalizing qs i with
  | nil => simp at hc
  | cons c0 cs ih =>
    cases qs with
    | nil => cases i <;> rfl
    | cons q0 qs =>
      cases i with
      | zero =>
        simp only [List.getElem?_cons_zero, Option.some.injEq] at hc
        subst hc
        show Ring c'.line q0 :: rings cs qs = _
        rw [e]
        rfl
      | succ i =>
        have := ih (qs := qs) (i := i) (by simpa using hc)
        show Ring c0.line q0 :: rings (cs.set i c') qs = _
        rw [this]
        rfl
theorem QH2.field {qs : List (List queue_item)} {i : Nat} {c c' : queue_class} (hc : cs[i]? = some c) (e : c'.line = c.line) (s : Ss W (pts true ca ((cs.set i c' ++ sp).flatMap c_queue_class.enc) :: pts true qa (c_queue_Queue.enc ⟨⟨some ca, cs.length, cs.length + sp.length⟩, tn⟩) :: (rings cs qs ++ R)) w) : Ss W (QH2 qa ca tn (cs.set i c') sp qs R) w := by
  unfold QH2
  rw [List.length_set, rings_field hc e]
  exact s
theorem QH2.n_at {qs : List (List queue_item)} (s : Ss W (QH2 qa ca tn cs sp qs R) w) {i : Nat} {c : queue_class} {q : List queue_item} (hc : cs[i]? = some c) (hq : qs[i]? = some q) : c.line.n = q.length := by
  obtain ⟨h, hr⟩ := (s.ring_out (rings_nth hc hq)).has (i := 1) rfl
  exact (Ring.len hr).1
theorem csok_set {m : QM} (cok : CsOk cs m) {i : Nat} {c : queue_class} {k : Cl} (h1 : c.c = k.c) (h2 : c.tokens = k.tok) (h3 : c.bytes = sizes k.q) {m' : QM} (hm : m'.cl = m.cl.set i k) : CsOk (cs.set i c) m' := by
  unfold CsOk at *
  rw [hm, List.map_set, List.map_set, cok, h1, h2, h3]
/-- the item goes -/
theorem take_wp {m0 m : QM} {q : Option Addr} (s : Ss W (QHs qa ca tn cs sp m0 R) w) (hq : q = some qa) (ok : m.Ok) (cok : CsOk cs m) (hqs : m.qs = m0.qs) {t : queue_turn} (ht : TnOk t m) (hr : m.cur.rdy = true) (hd : m.cur.hd ≤ m.cur.d) :
    WP (queue_Queue_take q t) w (fun _ w' => Ss W (Queue q m.take :: R) w') := by
  subst hq
  unfold queue_Queue_take
  have hlt := ok.n0
  have h8 := ok.n8
  have hk := QM.cur_at hlt
  have hln := cok.len
  obtain ⟨c, hc, e1, e2, e3⟩ := cok.get hk
  obtain ⟨x, q', hx⟩ := rdy_cons hr
  have okk := ok.cl _ (QM.cur_mem hlt)
  have hsz := okk.size x (by rw [hx]; simp)
  rw [← QHs.qs_eq hqs] at s
  have hqi : m.qs[m.at_]? = some (x :: q') := by unfold QM.qs; rw [List.getElem?_map, hk, Option.map_some, hx]
  have hci := (List.getElem?_eq_some_iff.1 hc).1
  refine WP.slot' s (fun b w s => WP.draw' s (fun w s => WP.nilck ?_))
  refine WP.ld s 1 rfl (o := 0) (by simp [Addr.add]) (At_queue_Queue_classes _) ?_
  refine WP.idx (by rw [ht.1]; omega) (by simp only; rw [ht.1]; omega) ?_
  rw [show t.at_.toNat = m.at_ by rw [ht.1]; rfl]
  refine WP.step (headQ_wp s cok hk hx (by rw [add_add])) ?_
  rintro r w ⟨hrx, s⟩
  rw [hrx]
  refine WP.step (lineQ_wp (op := queue_line_queue_item_leave) (q := x :: q') (q2 := q') (fun a L o ln R w s h => leave_wp s h rfl) (qs := m.qs) s hc hqi (by rw [add_add])) ?_
  rintro _ w ⟨c1, f1, f2, f3, s⟩
  have hc1 : (cs.set m.at_ c1)[m.at_]? = some c1 := List.getElem?_set_self hci
  have hq1 : (m.qs.set m.at_ q')[m.at_]? = some q' := List.getElem?_set_self (List.getElem?_eq_some_iff.1 hqi).1
  have hat1 := at_row (c := c_queue_class) (sp := sp) hc1
  have hci1 : m.at_ < (cs.set m.at_ c1).length := by simpa using hci
  refine WP.ld s 0 rfl (o := m.at_ * 10 + 8) (by rw [add_add]) (hat1.trans (At_queue_class_bytes c1)) ?_
  have hb := okk.bytes
  have hcl := (okClass_iff.1 okk.c)
  have hs0 : sizes m.cur.q = x.size + sizes q' := by rw [hx, sizes_cons]
  have hpos : 0 ≤ sizes q' := by
    have : ∀ l : List queue_item, (∀ y ∈ l, 1 ≤ y.size) → 0 ≤ sizes l := by
      intro l
      induction l with
      | nil => intro _; simp [sizes]
      | cons y l ih =>
        intro h
        rw [sizes_cons]
        have := ih (fun z hz => h z (by simp [hz]))
        have := h y (by simp)
        omega
    exact this q' (fun y hy => (okk.size y (by rw [hx]; simp [hy])).1)
  rw [f3, e3, hs0, show x.size + sizes q' - x.size = sizes q' by omega, wrap_i64 (by omega) (by omega)]
  refine WP.st s 0 rfl (o := m.at_ * 10 + 8) (by rw [add_add]) (Upd.trans hat1 (Up_queue_class_bytes c1 _) (upd_row (c := c_queue_class) (sp := sp) _ hci1)) (fun w s => ?_)
  have s := QH2.field (c' := ⟨c1.c, c1.line, sizes q', c1.tokens⟩) hc1 rfl s
  have hc2 : ((cs.set m.at_ c1).set m.at_ (⟨c1.c, c1.line, sizes q', c1.tokens⟩ : queue_class))[m.at_]? = some (⟨c1.c, c1.line, sizes q', c1.tokens⟩ : queue_class) := List.getElem?_set_self hci1
  have hat2 := at_row (c := c_queue_class) (sp := sp) hc2
  have hci2 : m.at_ < ((cs.set m.at_ c1).set m.at_ (⟨c1.c, c1.line, sizes q', c1.tokens⟩ : queue_class)).length := by simpa using hci
  refine WP.ld s 0 rfl (o := m.at_ * 10 + 0 + 3) (by rw [add_add]) ((hat2.trans (At_queue_class_c _)).trans (At_api_Class_Rate _)) ?_
  simp only
  -- the last part, of the class behind it all
  have fin : ∀ (c3 : queue_class) (w : World), c3.c = m.cur.c → c3.tokens = (if m.cur.c.Rate > 0 then m.cur.tok - x.size else m.cur.tok) → c3.bytes = sizes q' → Ss W (QH2 qa ca tn (cs.set m.at_ c3) sp (m.qs.set m.at_ q') R) w →
      WP (queue_Queue_take.K1 (some qa) t (ca.add (m.at_ * 10)) x) w (fun _ w' => Ss W (Queue (some qa) m.take :: R) w') := by
    intro c3 w g1 g2 g3 s
    unfold queue_Queue_take.K1
    have hch : 0 ≤ t.at_ ∧ t.at_ < (8 : Nat) := by rw [ht.1]; unfold QM.n at hlt; unfold QM.n at h8; omega
    have hc3 : (cs.set m.at_ c3)[m.at_]? = some c3 := List.getElem?_set_self hci
    refine WP.chk hch (WP.chk hch ?_)
    refine WP.ld s 0 rfl (o := m.at_ * 10 + 5 + 2) (by rw [add_add, add_add, Nat.add_assoc]) (((at_row (c := c_queue_class) hc3).trans (At_queue_class_line c3)).trans (At_queue_line_queue_item_n _)) ?_
    rw [QH2.n_at s hc3 hq1]
    have htake : m.take = m.setc { m.cur with q := q', tok := if m.cur.c.Rate > 0 then m.cur.tok - x.size else m.cur.tok, d := if q' = [] then 0 else m.cur.d - x.size } := by
      unfold QM.take
      rw [hd_cons hx, hx]
      rfl
    have hqs' : m.take.qs = m.qs.set m.at_ q' := by
      rw [htake]
      unfold QM.qs QM.setc
      simp only [List.map_set]
    have close : ∀ (t' : queue_turn) (w : World), TnOk t' m.take → Ss W (pts true ca ((cs.set m.at_ c3 ++ sp).flatMap c_queue_class.enc) :: pts true qa (c_queue_Queue.enc ⟨⟨some ca, (cs.set m.at_ c3).length, (cs.set m.at_ c3).length + sp.length⟩, t'⟩) :: (rings (cs.set m.at_ c3) (m.qs.set m.at_ q') ++ R)) w → Ss W (Queue (some qa) m.take :: R) w := by
      intro t' w ht' s
      refine Ss.closeQ (ca := ca) (cs := cs.set m.at_ c3) (sp := sp) (tn := t') ?_ rfl (ok.take hr hd) ?_ ht'
      · unfold QHs
        rw [hqs']
        exact s
      · exact csok_set (k := { m.cur with q := q', tok := if m.cur.c.Rate > 0 then m.cur.tok - x.size else m.cur.tok, d := if q' = [] then 0 else m.cur.d - x.size }) cok g1 g2 g3 (by rw [htake]; rfl)
    have hd0 := okk.d0
    have hd1 := okk.d1
    rw [hd_cons hx] at hd
    refine WP.ite (fun h0 => ?_) (fun h0 => ?_)
    · have hq0 : q' = [] := by cases q' with | nil => rfl | cons y l => simp only [List.length_cons] at h0; omega
      refine WP.chk hch (WP.nilck ?_)
      refine WP.st s 1 rfl (o := 1) rfl (Up_queue_Queue_turn _ _) (fun w s => WP.ret (close _ w ?_ s))
      rw [htake, if_pos hq0]
      rw [Vec.s_s]
      exact ⟨ht.1, ht.2.1, ht.setk hlt _⟩
    · have hq0 : q' ≠ [] := fun e => h0 (by rw [e]; rfl)
      refine WP.nilck ?_
      refine WP.st s 1 rfl (o := 1) rfl (Up_queue_Queue_turn _ _) (fun w s => WP.ret (close _ w ?_ s))
      rw [htake, if_neg hq0, ht.cur hlt, wrap_i64 (by omega) (by omega)]
      exact ⟨ht.1, ht.2.1, ht.setk hlt _⟩
  rw [f1, e1]
  refine WP.ite (fun hR => ?_) (fun hR => ?_)
  · refine WP.ld s 0 rfl (o := m.at_ * 10 + 9) (by rw [add_add]) (hat2.trans (At_queue_class_tokens _)) ?_
    simp only
    have htk := okk.tok hR
    rw [f2, e2, wrap_i64 (by omega) (by omega)]
    refine WP.st s 0 rfl (o := m.at_ * 10 + 9) (by rw [add_add]) (Upd.trans hat2 (Up_queue_class_tokens _ _) (upd_row (c := c_queue_class) (sp := sp) _ hci2)) (fun w s => ?_)
    have s := QH2.field (c' := ⟨c1.c, c1.line, sizes q', m.cur.tok - x.size⟩) hc2 rfl s
    rw [List.set_set, List.set_set] at s
    exact fin _ w (by simp only; rw [f1, e1]) (by simp only; rw [if_pos hR]) rfl s
  · rw [List.set_set] at s
    exact fin _ w (by simp only; rw [f1, e1]) (by simp only; rw [if_neg hR, f2, e2]) rfl s
/-- Pop and Peek: the turns, then what is done in the last -/
theorem nextQ_wp {m m2 : QM} {q : Option Addr} {r : Int × Int × Bool} {step : queue_turn → M Unit} (s : Ss W (Queue q m :: R) w) (h : Pops m r m2)
    {P : World → Prop} (hnone : m.some_ = false → ∀ w, Ss W (Queue q m :: R) w → P w)
    (hstep : ∀ (m' : QM) (t : queue_turn) (w : World) (qa ca : Addr) (tn : queue_turn) (cs sp : List queue_class), q = some qa → m.some_ = true → QM.Turns m m' → m2 = m'.take → CsOk cs m → CsOk cs m' → m'.qs = m.qs → TnOk tn m → TnOk t m' → Ss W (QHs qa ca tn cs sp m R) w → WP (step t) w (fun _ w' => P w')) :
    WP (queue_Queue_next q step) w (fun r' w' => r' = r ∧ P w') := by
  obtain ⟨qa, ca, tn, cs, sp, rfl, ok, cok, tok, s⟩ := s.openQ
  unfold queue_Queue_next
  have hln := cok.len
  have h8 := ok.n8
  have h0 := ok.n0
  refine WP.nilck (WP.ld s 1 rfl (o := 0) (by simp [Addr.add]) (At_queue_Queue_classes _) ?_)
  refine WP.loop (fun (x : Bool × Int) w' => 0 ≤ x.2 ∧ x.2 ≤ m.n ∧ x.1 = (m.cl.take x.2.toNat).any Cl.rdy ∧ Ss W (QHs qa ca tn cs sp m R) w') (fun x _ => ((m.n : Int) - x.2).toNat) ⟨by simp, by simp, by simp, s⟩ ?_
  rintro ⟨b, i⟩ w ⟨i0, i1, hb, s⟩
  simp only at i0 i1 hb
  simp only
  unfold queue_Queue_next.L2
  refine WP.ite (fun hi => ?_) (fun hi => ?_)
  · simp only at hi
    have hil : i.toNat < m.cl.length := by unfold QM.n at hln; omega
    have hk : m.cl[i.toNat]? = some m.cl[i.toNat] := List.getElem?_eq_getElem hil
    refine WP.step (R := fun y w' => y = (m.cl.take (i.toNat + 1)).any Cl.rdy ∧ Ss W (QHs qa ca tn cs sp m R) w') ?_ ?_
    · rw [List.take_add_one, hk, List.any_append, ← hb]
      refine WP.ite (fun h => WP.ret ⟨by simp [h], s⟩) (fun h => WP.nilck ?_)
      refine WP.ld s 1 rfl (o := 0) (by simp [Addr.add]) (At_queue_Queue_classes _) ?_
      refine WP.idx i0 (by simp only; omega) ?_
      refine WP.step (readyQ_wp s cok hk rfl) ?_
      rintro _ w ⟨rfl, s⟩
      refine WP.ret ⟨?_, s⟩
      have : b = false := by simpa using h
      simp [this]
    · rintro _ w ⟨rfl, s⟩
      refine WP.next ?_
      rw [wrap_i64 (by omega) (by omega)]
      refine ⟨⟨by simp only; omega, by simp only; omega, ?_, s⟩, by simp only; omega⟩
      simp only
      rw [show (i + 1).toNat = i.toNat + 1 by omega]
  · simp only at hi
    have hin : i.toNat = m.n := by omega
    rw [hin, show m.cl.take m.n = m.cl from List.take_length] at hb
    have hb' : b = m.some_ := hb
    refine WP.step (R := fun r' w' => r' = r ∧ P w') ?_ (fun r' w h => WP.done h)
    unfold queue_Queue_next.K4
    refine WP.ite (fun hs => ?_) (fun hs => ?_)
    · have hs' : m.some_ = false := by rw [← hb']; simpa using hs
      refine WP.ret ?_
      cases h with
      | none _ => exact ⟨rfl, hnone hs' w (s.closeQ rfl ok cok tok)⟩
      | item h' _ _ => rw [hs'] at h'; cases h'
    · have hs' : m.some_ = true := by rw [← hb']; simpa using hs
      cases h with
      | none h' => rw [hs'] at h'; cases h'
      | item h' ht hx =>
        rename_i m' x q'
        refine WP.nilck (WP.ld s 1 rfl (o := 1) rfl (At_queue_Queue_turn _) ?_)
        refine WP.slot' s (fun b w s => ?_)
        have hcore : ∀ {a b : QM}, QM.Turns a b → a.Ok → CsOk cs a → CsOk cs b ∧ b.qs = a.qs := by
          intro a b h
          induction h with
          | take hr hd => intro ok cok; exact ⟨cok.gives ok.n0, qs_gives ok.n0⟩
          | pass1 hr hd h ih =>
            intro ok cok
            have okg := ok.gives hr
            obtain ⟨i1, i2⟩ := ih (okg.onward (fun _ => by omega)) ((cok.gives ok.n0).onward okg.n0)
            exact ⟨i1, i2.trans ((qs_onward okg.n0).trans (qs_gives ok.n0))⟩
          | pass0 hr h ih =>
            intro ok cok
            obtain ⟨i1, i2⟩ := ih (ok.onward (fun h => by rw [hr] at h; cases h)) (cok.onward ok.n0)
            exact ⟨i1, i2.trans (qs_onward ok.n0)⟩
        obtain ⟨c1, c2⟩ := hcore ht ok cok
        refine next_loop ht ok cok (Q := fun r' w' => r' = (x.id, (m'.at_ : Int), true) ∧ P w') ?_ tn w ok cok rfl rfl tok s
        intro t w htt s
        refine (hstep m' t w qa ca tn cs sp rfl hs' ht rfl cok c1 c2 tok htt s).mono (fun _ w' hp x' q'' hx' => ?_)
        rw [hx] at hx'
        cases hx'
        exact ⟨rfl, hp⟩
theorem Pop_wp {m m2 : QM} {q : Option Addr} {r : Int × Int × Bool} (s : Ss W (Queue q m :: R) w) (h : Pops m r m2) : WP (queue_Queue_Pop q) w (fun r' w' => r' = r ∧ Ss W (Queue q m2 :: R) w') := by
  unfold queue_Queue_Pop
  have ok := s.len_ge
  refine WP.step (nextQ_wp s h (P := fun w' => Ss W (Queue q m2 :: R) w') (fun hs w s => ?_) (fun m' t w qa ca tn cs sp hq hs ht hm cok cok' hqs tok ttok s => ?_)) (fun r' w h => WP.ret h)
  · cases h with
    | none _ => exact s
    | item h' _ _ => rw [hs] at h'; cases h'
  · rw [hm]
    obtain ⟨h1, h2, h3, h4⟩ := ht.ok ok
    exact take_wp s hq h1 cok' hqs ttok h3 h4
theorem Peek_wp {m m2 : QM} {q : Option Addr} {r : Int × Int × Bool} (s : Ss W (Queue q m :: R) w) (h : Pops m r m2) : WP (queue_Queue_Peek q) w (fun r' w' => r' = r ∧ Ss W (Queue q m :: R) w') := by
  unfold queue_Queue_Peek
  have ok := s.len_ge
  refine WP.step (nextQ_wp s h (P := fun w' => Ss W (Queue q m :: R) w') (fun hs w s => s) (fun m' t w qa ca tn cs sp hq hs ht hm cok cok' hqs tok ttok s => ?_)) (fun r' w h => WP.ret h)
  unfold queue_Queue_leave
  exact WP.slot' s (fun b w s => WP.ret (s.closeQ hq ok cok tok))
end
end Go.Proofs.Ytgddbpmfendaeaa.Lx
