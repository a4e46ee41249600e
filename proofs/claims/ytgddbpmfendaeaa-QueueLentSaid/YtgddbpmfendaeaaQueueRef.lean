/- The document's queue (weirref18), of its programs in the M-world: it is the plain queue, too. -/
import Derived.Test.YtgddbpmfendaeaaQueueNew
set_option linter.unusedVariables false
set_option linter.unusedSimpArgs false
namespace Go.Proofs.Ytgddbpmfendaeaa.Lx
open Go Go.Proofs Go.RowKit

def rIt (x : queue_item) : weirref18_Item := ⟨x.size, x.id⟩
def items : List weirref18_Line → List (List queue_item) → List HP
  | l :: ls, q :: qs => rdS c_weirref18_Item false l.L (q.map rIt) :: items ls qs
  | _, _ => []
theorem items_nth {cs : List weirref18_Line} {qs : List (List queue_item)} {i : Nat} {c : weirref18_Line} {q : List queue_item} (h : cs[i]? = some c) (h' : qs[i]? = some q) : nth (items cs qs) i = some (rdS c_weirref18_Item false c.L (q.map rIt)) := by
  induction cs generalizing qs i with
  | nil => simp at h
  | cons c0 cs ih =>
    cases qs with
    | nil => simp at h'
    | cons q0 qs =>
      cases i with
      | zero =>
        simp only [List.getElem?_cons_zero, Option.some.injEq] at h h'
        rw [h, h']
        rfl
      | succ i => exact ih (by simpa using h) (by simpa using h')
theorem items_up {cs : List weirref18_Line} {qs : List (List queue_item)} {i : Nat} {c : weirref18_Line} {q : List queue_item} (h : i < cs.length) (h' : i < qs.length) : up (items cs qs) i (rdS c_weirref18_Item false c.L (q.map rIt)) = items (cs.set i c) (qs.set i q) := by
  induction cs generalizing qs i with
  | nil => simp at h
  | cons c0 cs ih =>
    cases qs with
    | nil => simp at h'
    | cons q0 qs =>
      cases i with
      | zero => rfl
      | succ i => exact congrArg (_ :: ·) (ih (by simpa using h) (by simpa using h'))
theorem items_ro (cs : List weirref18_Line) (qs : List (List queue_item)) : ∀ A ∈ items cs qs, Ro A := by
  induction cs generalizing qs with
  | nil => intro A h; cases qs <;> cases h
  | cons c cs ih =>
    cases qs with
    | nil => intro A h; cases h
    | cons q qs =>
      intro A h
      rcases List.mem_cons.1 h with rfl | h
      · exact Ro.rdS
      · exact ih qs A h
/-- lines that tell the classes of a plain queue -/
def LsOk (ls : List weirref18_Line) (m : QM) : Prop := ls.map (fun l => (l.C, l.Deficit, l.Tokens)) = m.cl.map fun k => (k.c, k.d, k.tok)
def RqOk (r : weirref18_Queue) (m : QM) (ls : List weirref18_Line) : Prop := r.At = m.at_ ∧ r.Given = m.given ∧ LsOk ls m
def RQ (r : weirref18_Queue) (m : QM) : HP := ex (RqOk r m) (fun ls => seps (rdS c_weirref18_Line false r.L ls :: items ls m.qs))
theorem RQ_ro {r : weirref18_Queue} {m : QM} : Ro (RQ r m) := Ro.ex fun ls => Ro.seps fun A h => by
  rcases List.mem_cons.1 h with rfl | h
  · exact Ro.rdS
  · exact items_ro _ _ A h
theorem LsOk.get {ls : List weirref18_Line} {m : QM} (h : LsOk ls m) {i : Nat} {k : Cl} (hk : m.cl[i]? = some k) : ∃ l, ls[i]? = some l ∧ l.C = k.c ∧ l.Deficit = k.d ∧ l.Tokens = k.tok := by
  have := congrArg (fun l => l[i]?) h
  simp only [List.getElem?_map, hk, Option.map_some] at this
  cases hc : ls[i]? with
  | none => rw [hc] at this; cases this
  | some c =>
    rw [hc] at this
    simp only [Option.map_some, Option.some.injEq, Prod.mk.injEq] at this
    exact ⟨c, rfl, this⟩
theorem LsOk.len {ls : List weirref18_Line} {m : QM} (h : LsOk ls m) : ls.length = m.n := by
  have := congrArg List.length h
  simpa [QM.n] using this
theorem LsOk.set {ls : List weirref18_Line} {m : QM} (h : LsOk ls m) {i : Nat} {l : weirref18_Line} {k : Cl} (h1 : l.C = k.c) (h2 : l.Deficit = k.d) (h3 : l.Tokens = k.tok) {m' : QM} (hm : m'.cl = m.cl.set i k) : LsOk (ls.set i l) m' := by
  unfold LsOk at *
  rw [hm, List.map_set, List.map_set, h, h1, h2, h3]
theorem qs_get {m : QM} {i : Nat} {k : Cl} (h : m.cl[i]? = some k) : m.qs[i]? = some k.q := by unfold QM.qs; rw [List.getElem?_map, h]; rfl
section
variable {W w : World} {Hs : List HP} {r : weirref18_Queue} {m : QM}
/-- a queue of the document, opened beside itself -/
theorem Ss.openR (s : Ss W Hs w) (i : Nat) (e : nth Hs i = some (RQ r m)) : ∃ ls, RqOk r m ls ∧ Ss W (rdS c_weirref18_Line false r.L ls :: (items ls m.qs ++ Hs)) w := by
  have s2 := s.dup e RQ_ro
  obtain ⟨ls, h1, s3⟩ := s2.openx 0 rfl
  exact ⟨ls, h1, s3.split⟩
theorem Ss.closeR {ls : List weirref18_Line} (s : Ss W (rdS c_weirref18_Line false r.L ls :: (items ls m.qs ++ Hs)) w) (h : RqOk r m ls) : Ss W (RQ r m :: Hs) w := by
  have s2 : Ss W ((rdS c_weirref18_Line false r.L ls :: items ls m.qs) ++ Hs) w := s
  exact s2.group.first (fun k hk => ⟨ls, h, hk⟩)
theorem rout_wp (s : Ss W Hs w) (n lo hi : Int) : WP (weirref18_out n lo hi) w (fun r w' => r = decide (n < lo ∨ n > hi) ∧ Ss W Hs w') := by
  unfold weirref18_out
  refine WP.step (R := fun r w' => r = decide (n < lo ∨ n > hi) ∧ Ss W Hs w') (WP.ite (fun h => WP.ret ⟨by simp [h], s⟩) (fun h => WP.ret ⟨by simp [h], s⟩)) (fun r w h => WP.ret h)
/-- a line's item, first -/
theorem Ss.line_out {A : HP} {ls : List weirref18_Line} {qs : List (List queue_item)} {i : Nat} {l : weirref18_Line} {q : List queue_item} (s : Ss W (A :: (items ls qs ++ Hs)) w) (hl : ls[i]? = some l) (hq : qs[i]? = some q) : Ss W (rdS c_weirref18_Item false l.L (q.map rIt) :: A :: (items ls qs ++ Hs)) w :=
  s.dup (i := i + 1) (nth_app (items_nth hl hq)) Ro.rdS
theorem rheld_wp {l : weirref18_Line} {x : queue_item} {q' : List queue_item} (s : Ss W Hs w) (i : Nat) (e : nth Hs i = some (rdS c_weirref18_Item false l.L ((x :: q').map rIt))) : WP (weirref18_held l) w (fun b w' => b = decide (l.C.Rate > 0 ∧ l.Tokens < x.size) ∧ Ss W Hs w') := by
  unfold weirref18_held
  refine WP.slot' s (fun b w s => WP.draw' s (fun w s => ?_))
  refine WP.step (R := fun b w' => b = decide (l.C.Rate > 0 ∧ l.Tokens < x.size) ∧ Ss W Hs w') (WP.ite (fun h => ?_) (fun h => WP.ret ⟨by simp [h], s⟩)) (fun b w h => WP.ret h)
  refine WP.idxr s i e rdS_rdb (by omega) (x := rIt x) (by simp) rfl (fun a ha => ?_)
  exact WP.ldp s i e rdS_rdb (k := 0) (x := rIt x) (by simp) ha (o := 0) (by simp) (At_weirref18_Item_Size (rIt x)) (WP.ret ⟨by rw [decide_eq_decide]; simp [h, rIt], s⟩)
def rdyR (c : api_Class) (tok : Int) : List queue_item → Bool
  | [] => false
  | x :: _ => !decide (c.Rate > 0 ∧ tok < x.size)
theorem rready_wp {l : weirref18_Line} {q : List queue_item} (s : Ss W Hs w) (i : Nat) (e : nth Hs i = some (rdS c_weirref18_Item false l.L (q.map rIt))) : WP (weirref18_ready l) w (fun b w' => b = rdyR l.C l.Tokens q ∧ Ss W Hs w') := by
  unfold weirref18_ready
  refine WP.slot' s (fun b w s => ?_)
  obtain ⟨hl, _⟩ := s.rd_len e rdS_rdb
  rw [hl]
  cases q with
  | nil =>
    refine WP.step (R := fun b w' => b = false ∧ Ss W Hs w') (WP.ite (fun h => absurd h (by simp)) (fun _ => WP.ret ⟨rfl, s⟩)) ?_
    rintro _ w ⟨rfl, s⟩
    exact WP.ret ⟨rfl, s⟩
  | cons x q =>
    refine WP.step (R := fun b w' => b = !decide (l.C.Rate > 0 ∧ l.Tokens < x.size) ∧ Ss W Hs w') (WP.ite (fun _ => ?_) (fun h => absurd (by simp only [List.map_cons, List.length_cons]; omega) h)) ?_
    · refine WP.step (rheld_wp s i e) ?_
      rintro _ w ⟨rfl, s⟩
      exact WP.ret ⟨rfl, s⟩
    · rintro _ w ⟨rfl, s⟩
      exact WP.ret ⟨rfl, s⟩
theorem rdy_ref {k : Cl} (ok : k.Ok) : rdyR k.c k.tok k.q = k.rdy := by
  have hc := okClass_iff.1 ok.c
  unfold Cl.rdy
  cases k.q with
  | nil => rfl
  | cons x q =>
    simp only [rdy, rdyR]
    rw [Bool.eq_iff_iff]
    simp only [Bool.not_eq_true', decide_eq_false_iff_not, Bool.or_eq_true, beq_iff_eq, decide_eq_true_eq, not_and]
    constructor
    · intro h
      by_cases hr : k.c.Rate = 0
      · exact .inl hr
      · have := h (by omega)
        exact .inr (by omega)
    · rintro (h | h) hR <;> omega
/-- class i of the document's queue: is it ready? -/
theorem rreadyQ_wp {l : weirref18_Line} {k : Cl} (s : Ss W Hs w) (i : Nat) (e : nth Hs i = some (rdS c_weirref18_Item false l.L (k.q.map rIt))) (ok : k.Ok) (h1 : l.C = k.c) (h3 : l.Tokens = k.tok) : WP (weirref18_ready l) w (fun b w' => b = k.rdy ∧ Ss W Hs w') := by
  refine (rready_wp s i e).mono ?_
  rintro b w ⟨rfl, s⟩
  refine ⟨?_, s⟩
  rw [← rdy_ref ok, h1, h3]
/-- a class turned: a new row, the same lines but for one -/
theorem put_wp {k : Cl} {l : weirref18_Line} {a : Int} {ls : List weirref18_Line} (s : Ss W (rdS c_weirref18_Line false r.L ls :: (items ls m.qs ++ Hs)) w) (hr : RqOk r m ls) (h8 : m.n ≤ 8) (h0 : 0 ≤ a) (hlt : a < m.n) (hi : ∃ j, nth (rdS c_weirref18_Line false r.L ls :: (items ls m.qs ++ Hs)) j = some (rdS c_weirref18_Item false l.L (k.q.map rIt))) (h1 : l.C = k.c) (h2 : l.Deficit = k.d) (h3 : l.Tokens = k.tok) :
    WP (weirref18_put r a l) w (fun r' w' => Ss W (RQ r' { m with cl := m.cl.set a.toNat k } :: Hs) w') := by
  unfold weirref18_put
  have hln := hr.2.2.len
  refine WP.slot' s (fun b w s => WP.slot' s (fun b w s => WP.slot' s (fun b w s => ?_)))
  refine WP.appS s 0 rfl rdS_rdb (by decide) (WP.appl0 s (by omega) (by decide) (fun r4 w sp s => ?_))
  have hne : ls ≠ [] := fun e => by rw [e] at hln; simp at hln; omega
  obtain ⟨b4, e4, s2⟩ := s.vec_open (i := 0) rfl (.inl hne)
  refine WP.idxs e4 h0 (by omega) ?_
  refine WP.st s2 0 rfl rfl (upd_row (c := c_weirref18_Line) l (by omega)) (fun w s => WP.ret ?_)
  have s3 := s.close (i := 0) (B := vec c_weirref18_Line r4 (ls.set a.toNat l) sp) rfl (fun h hp => by
    have := vec_mk hp
    rw [e4]
    simpa using this)
  have s4 := Ss.vec_freeze s3
  obtain ⟨j, hj⟩ := hi
  have s5 := s4.dup (i := j + 1) hj Ro.rdS
  -- the new row, the new line's items, the other lines' items
  have hai : a.toNat < ls.length := by omega
  have hqi : a.toNat < m.qs.length := by unfold QM.qs; rw [List.length_map]; unfold QM.n at hlt; omega
  have hold := items_nth (List.getElem?_eq_getElem hai) (List.getElem?_eq_getElem hqi)
  have s6 : Ss W (rdS c_weirref18_Line false r4 (ls.set a.toNat l) :: (items (ls.set a.toNat l) (m.qs.set a.toNat k.q) ++ Hs)) w := by
    rw [← items_up hai hqi]
    have p1 : Ss W (rdS c_weirref18_Line false r4 (ls.set a.toNat l) :: rdS c_weirref18_Item false l.L (k.q.map rIt) :: (items ls m.qs ++ Hs)) w := ((s5.use [2] rfl).drop).use [1] rfl
    have p2 := p1.perm (((((nth_perm hold).append_right Hs).cons _).cons _).trans (((List.Perm.swap _ _ _).cons _).trans (List.Perm.swap _ _ _)))
    exact p2.drop.perm (((up_perm hold).symm.append_right Hs).cons _)
  refine Ss.closeR (m := { m with cl := m.cl.set a.toNat k }) (ls := ls.set a.toNat l) ?_ ⟨hr.1, hr.2.1, hr.2.2.set h1 h2 h3 rfl⟩
  rw [show (QM.qs { m with cl := m.cl.set a.toNat k }) = m.qs.set a.toNat k.q by unfold QM.qs; simp only [List.map_set]]
  exact s6
theorem Ss.rq_len (s : Ss W Hs w) (i : Nat) (e : nth Hs i = some (RQ r m)) : r.At = m.at_ ∧ r.Given = m.given ∧ r.L.len = m.n := by
  obtain ⟨ls, h, s⟩ := s.openR i e
  exact ⟨h.1, h.2.1, by rw [(s.rd_len (i := 0) rfl rdS_rdb).1, h.2.2.len]⟩
theorem rsome_wp (s : Ss W Hs w) (i : Nat) (e : nth Hs i = some (RQ r m)) (ok : m.Ok) : WP (weirref18_some r) w (fun b w' => b = m.some_ ∧ Ss W Hs w') := by
  unfold weirref18_some
  obtain ⟨ls, h, s⟩ := s.openR i e
  have hln := h.2.2.len
  have h8 := ok.n8
  refine WP.slot' s (fun b w s => ?_)
  have hlen := (s.rd_len (i := 0) rfl rdS_rdb).1
  refine WP.loop (fun (k : Int) w' => 0 ≤ k ∧ k ≤ m.n ∧ (m.cl.take k.toNat).any Cl.rdy = false ∧ Ss W (rdS c_weirref18_Line false r.L ls :: (items ls m.qs ++ Hs)) w') (fun k _ => ((m.n : Int) - k).toNat) ⟨by omega, by omega, by simp, s⟩ ?_
  rintro k w ⟨k0, k1, hk, s⟩
  unfold weirref18_some.L1
  refine WP.ite (fun hi => ?_) (fun hi => WP.done ⟨?_, Ss.weak (l := rdS c_weirref18_Line false r.L ls :: items ls m.qs) s⟩)
  · have hil : k.toNat < m.cl.length := by unfold QM.n at hln; omega
    have hc := List.getElem?_eq_getElem hil
    generalize m.cl[k.toNat] = c at hc
    obtain ⟨l, hl, e1, e2, e3⟩ := h.2.2.get hc
    refine WP.rdx s 0 rfl rdS_rdb k0 hl rfl ?_
    refine WP.step (rreadyQ_wp (k := c) s (k.toNat + 1) (nth_app (items_nth hl (qs_get hc))) (ok.cl c (List.mem_of_getElem? hc)) e1 e3) ?_
    rintro _ w ⟨rfl, s⟩
    refine WP.ite (fun hr => WP.done ⟨?_, Ss.weak (l := rdS c_weirref18_Line false r.L ls :: items ls m.qs) s⟩) (fun hr => WP.next ?_)
    · unfold QM.some_
      symm
      rw [List.any_eq_true]
      exact ⟨c, List.mem_of_getElem? hc, hr⟩
    · rw [wrap_i64 (by omega) (by omega)]
      refine ⟨⟨by omega, by omega, ?_, s⟩, by omega⟩
      rw [show (k + 1).toNat = k.toNat + 1 by omega, List.take_add_one, hc, List.any_append, hk]
      simpa using hr
  · have : k.toNat = m.n := by omega
    rw [this, show m.cl.take m.n = m.cl from List.take_length] at hk
    exact hk.symm
theorem RQ_turn {m' : QM} {a : Int} {g : Bool} (s : Ss W (RQ r m :: Hs) w) (hc : m'.cl = m.cl) (ha : a = m'.at_) (hg : g = m'.given) : Ss W (RQ ⟨r.L, a, g⟩ m' :: Hs) w := by
  refine s.first (fun k hk => ?_)
  obtain ⟨ls, h1, h2⟩ := hk
  refine ⟨ls, ⟨ha, hg, ?_⟩, ?_⟩
  · unfold LsOk
    rw [hc]
    exact h1.2.2
  · rw [show m'.qs = m.qs by unfold QM.qs; rw [hc]]
    exact h2
theorem ronward_K1 {m2 m' : QM} {j : weirref18_Queue} (s : Ss W (RQ j m2 :: Hs) w) (hn : m2.at_ < m2.n) (h8 : m2.n ≤ 8) (hm : m' = { m2 with at_ := (m2.at_ + 1) % m2.n, given := false }) : WP (weirref18_onward.K1 j) w (fun r' w' => Ss W (RQ r' m' :: Hs) w') := by
  unfold weirref18_onward.K1
  obtain ⟨e1, e2, e3⟩ := s.rq_len 0 rfl
  rw [e3]
  refine WP.chk (by omega) (WP.ret (RQ_turn s (by rw [hm]) ?_ (by rw [hm])))
  rw [hm, e1, IntK.add1 (by omega), tmod_nat (by omega) (by omega)]
  rfl
theorem ronward_wp (s : Ss W Hs w) (i : Nat) (e : nth Hs i = some (RQ r m)) (ok : m.Ok) : WP (weirref18_onward r) w (fun r' w' => Ss W (RQ r' m.onward :: Hs) w') := by
  unfold weirref18_onward
  have h0 := ok.n0
  have h8 := ok.n8
  obtain ⟨ls, h, s1⟩ := s.openR i e
  have hln := h.2.2.len
  have hc := QM.cur_at h0
  obtain ⟨l, hl, e1, e2, e3⟩ := h.2.2.get hc
  refine WP.slot' s1 (fun b w s => WP.slot' s (fun b w s => ?_))
  have okk := ok.cl _ (QM.cur_mem h0)
  refine WP.rdx s 0 rfl rdS_rdb (by rw [h.1]; omega) (x := l) (by rw [h.1]; exact hl) rfl ?_
  refine WP.slot' s (fun b w s => WP.draw' s (fun w s => ?_))
  have hit := nth_app (m := Hs) (items_nth hl (qs_get hc))
  have hlen := (s.rd_len (i := m.at_ + 1) hit rdS_rdb).1
  rw [List.length_map] at hlen
  refine WP.step (R := fun b w' => b = decide (m.cur.q ≠ [] ∧ m.cur.rdy = false) ∧ Ss W (rdS c_weirref18_Line false r.L ls :: (items ls m.qs ++ Hs)) w') (WP.ite (fun hq => ?_) (fun hq => WP.ret ⟨?_, s⟩)) ?_
  · obtain ⟨x, q', hx⟩ : ∃ x q', m.cur.q = x :: q' := by
      cases hq' : m.cur.q with
      | nil => rw [hlen, hq'] at hq; simp at hq
      | cons x q => exact ⟨x, q, rfl⟩
    rw [hx] at hit
    refine WP.step (rheld_wp s (m.at_ + 1) hit) ?_
    rintro _ w ⟨rfl, s⟩
    refine WP.ret ⟨?_, s⟩
    rw [decide_eq_decide, ← rdy_ref okk, hx, e1, e3]
    simp [rdyR]
  · have : m.cur.q = [] := by
      cases hq' : m.cur.q with
      | nil => rfl
      | cons x q => rw [hlen, hq'] at hq; simp only [List.length_cons] at hq; omega
    simp [this]
  rintro _ w ⟨rfl, s⟩
  by_cases hb : m.cur.q ≠ [] ∧ m.cur.rdy = false
  · obtain ⟨x, q', hx⟩ : ∃ x q', m.cur.q = x :: q' := by
      cases hq' : m.cur.q with
      | nil => exact absurd hq' hb.1
      | cons x q => exact ⟨x, q, rfl⟩
    have hit' := hit
    rw [hx] at hit'
    have hhd : m.cur.hd = x.size := hd_cons hx
    refine WP.step (R := fun b w' => b = decide (m.cur.d > x.size) ∧ Ss W (rdS c_weirref18_Line false r.L ls :: (items ls m.qs ++ Hs)) w') (WP.ite (fun _ => ?_) (fun hn => absurd (decide_eq_true hb) hn)) ?_
    · refine WP.idxr (k := 0) s (m.at_ + 1) hit' rdS_rdb (by omega) (x := rIt x) (by simp) rfl (fun a ha => ?_)
      refine WP.ldp s (m.at_ + 1) hit' rdS_rdb (k := 0) (x := rIt x) (by simp) ha (o := 0) (by simp) (At_weirref18_Item_Size (rIt x)) (WP.ret ⟨?_, s⟩)
      rw [e2]
      rfl
    rintro _ w ⟨rfl, s⟩
    refine WP.ite (fun hd => ?_) (fun hd => ?_)
    · have hd := of_decide_eq_true hd
      refine WP.idxr (k := 0) s (m.at_ + 1) hit' rdS_rdb (by omega) (x := rIt x) (by simp) rfl (fun a ha => ?_)
      refine WP.ldp s (m.at_ + 1) hit' rdS_rdb (k := 0) (x := rIt x) (by simp) ha (o := 0) (by simp) (At_weirref18_Item_Size (rIt x)) ?_
      refine WP.step (put_wp (k := { m.cur with d := x.size }) s h h8 (by rw [h.1]; omega) (by rw [h.1]; omega) ⟨m.at_ + 1, hit⟩ e1 rfl e3) ?_
      intro r2 w s
      refine ronward_K1 s (by show m.at_ < (m.cl.set _ _).length; rw [List.length_set]; exact h0) (by show (m.cl.set _ _).length ≤ 8; rw [List.length_set]; exact h8) ?_
      unfold QM.onward
      simp only
      rw [if_pos hb]
      simp only [QM.setc, QM.n, List.length_set, h.1, Int.toNat_natCast]
      rw [hhd, show min m.cur.d x.size = x.size by omega]
    · have hd : ¬ m.cur.d > x.size := fun h => hd (decide_eq_true h)
      refine ronward_K1 (s.closeR h) h0 h8 ?_
      unfold QM.onward
      simp only
      rw [if_pos hb]
      simp only [QM.setc, QM.n, List.length_set]
      rw [hhd, show min m.cur.d x.size = m.cur.d by omega, set_same hc]
  · refine WP.step (R := fun b w' => b = false ∧ Ss W (rdS c_weirref18_Line false r.L ls :: (items ls m.qs ++ Hs)) w') (WP.ite (fun hn => absurd (of_decide_eq_true hn) hb) (fun _ => WP.ret ⟨rfl, s⟩)) ?_
    rintro _ w ⟨rfl, s⟩
    refine WP.ite (fun h => by cases h) (fun _ => ronward_K1 (s.closeR h) h0 h8 ?_)
    unfold QM.onward
    simp only
    rw [if_neg hb]
/-- the last moves of a Pop of the document -/
theorem rPop_K1 {m1 : QM} {j : weirref18_Queue} {ls : List weirref18_Line} {k : Cl} {l : weirref18_Line} {v : Int} {Q : weirref18_Queue × Int × Int × Bool → World → Prop} {N : weirref18_Queue × weirref18_Queue → World → Prop}
    (s : Ss W (rdS c_weirref18_Line false j.L ls :: (items ls m1.qs ++ Hs)) w) (h : RqOk j m1 ls) (h8 : m1.n ≤ 8) (hlt : m1.at_ < m1.n) (hi : ∃ i, nth (rdS c_weirref18_Line false j.L ls :: (items ls m1.qs ++ Hs)) i = some (rdS c_weirref18_Item false l.L (k.q.map rIt))) (h1 : l.C = k.c) (h2 : l.Deficit = k.d) (h3 : l.Tokens = k.tok)
    (g : ∀ (r' : weirref18_Queue) (w' : World), Ss W (RQ r' { m1 with cl := m1.cl.set m1.at_ k } :: Hs) w' → Q (r', v, (m1.at_ : Int), true) w') : WP (weirref18_Pop.K1 j v l) w (WP.Rd N Q) := by
  unfold weirref18_Pop.K1
  refine WP.draw' s (fun w s => ?_)
  refine WP.step (put_wp s h h8 (by rw [h.1]; omega) (by rw [h.1]; omega) hi h1 h2 h3) ?_
  intro r' w s
  refine WP.done ?_
  rw [h.1] at s ⊢
  exact g r' w s
theorem rPop_K2 {m1 : QM} {j : weirref18_Queue} {ls : List weirref18_Line} {k : Cl} {l : weirref18_Line} {v : Int} {x : queue_item} {Q : weirref18_Queue × Int × Int × Bool → World → Prop} {N : weirref18_Queue × weirref18_Queue → World → Prop} {i : Nat}
    (s : Ss W (rdS c_weirref18_Line false j.L ls :: (items ls m1.qs ++ Hs)) w) (h : RqOk j m1 ls) (h8 : m1.n ≤ 8) (hlt : m1.at_ < m1.n) (hi : nth (rdS c_weirref18_Line false j.L ls :: (items ls m1.qs ++ Hs)) i = some (rdS c_weirref18_Item false l.L ((x :: k.q).map rIt))) (h1 : l.C = k.c) (h2 : k.d = if k.q = [] then 0 else l.Deficit) (h3 : l.Tokens = k.tok)
    (g : ∀ (r' : weirref18_Queue) (w' : World), Ss W (RQ r' { m1 with cl := m1.cl.set m1.at_ k } :: Hs) w' → Q (r', v, (m1.at_ : Int), true) w') : WP (weirref18_Pop.K2 j v l) w (WP.Rd N Q) := by
  unfold weirref18_Pop.K2
  obtain ⟨c1, c2⟩ := s.rd_cap hi
  rw [List.map_cons, List.length_cons, List.length_map] at c1
  refine WP.bind ⟨⟨if l.L.cap = 1 then l.L.a else l.L.a.map (·.add (1 * 2)), l.L.len - 1, l.L.cap - 1⟩, w, ?_, ?_⟩
  · unfold cut
    simp only [Option.getD_some, Option.getD_none, Int.toNat_natCast]
    rw [if_pos (by omega)]
    rfl
  -- the tail's cells lie in the same places
  have s2 : Ss W (rdS c_weirref18_Item false ⟨if l.L.cap = 1 then l.L.a else l.L.a.map (·.add (1 * 2)), l.L.len - 1, l.L.cap - 1⟩ (k.q.map rIt) :: (rdS c_weirref18_Line false j.L ls :: (items ls m1.qs ++ Hs))) w :=
    (s.dup hi Ro.rdS).first (fun h hr => rdS_tail (c := c_weirref18_Item) hr)
  have s3 : Ss W (rdS c_weirref18_Line false j.L ls :: (items ls m1.qs ++ (rdS c_weirref18_Item false ⟨if l.L.cap = 1 then l.L.a else l.L.a.map (·.add (1 * 2)), l.L.len - 1, l.L.cap - 1⟩ (k.q.map rIt) :: Hs))) w :=
    s2.perm ((List.Perm.swap _ _ _).trans (List.perm_middle.symm.cons _))
  have hmid : ∀ (A : HP) (l m : List HP), nth (l ++ A :: m) l.length = some A := by
    intro A l m
    induction l with
    | nil => rfl
    | cons B l ih => exact ih
  have hi3 : nth (rdS c_weirref18_Line false j.L ls :: (items ls m1.qs ++ (rdS c_weirref18_Item false ⟨if l.L.cap = 1 then l.L.a else l.L.a.map (·.add (1 * 2)), l.L.len - 1, l.L.cap - 1⟩ (k.q.map rIt) :: Hs))) ((items ls m1.qs).length + 1) = some (rdS c_weirref18_Item false ⟨if l.L.cap = 1 then l.L.a else l.L.a.map (·.add (1 * 2)), l.L.len - 1, l.L.cap - 1⟩ (k.q.map rIt)) := hmid _ _ _
  have g' : ∀ (r' : weirref18_Queue) (w' : World), Ss W (RQ r' { m1 with cl := m1.cl.set m1.at_ k } :: (rdS c_weirref18_Item false ⟨if l.L.cap = 1 then l.L.a else l.L.a.map (·.add (1 * 2)), l.L.len - 1, l.L.cap - 1⟩ (k.q.map rIt) :: Hs)) w' → Q (r', v, (m1.at_ : Int), true) w' := fun r' w' s => g r' w' (s.use [1] rfl).drop
  refine WP.ite (fun hz => ?_) (fun hz => ?_)
  · have hq : k.q = [] := by
      simp only at hz
      cases hk : k.q with
      | nil => rfl
      | cons y q => rw [hk, List.length_cons] at c1; omega
    refine rPop_K1 s3 h h8 hlt ⟨_, hi3⟩ h1 ?_ h3 g'
    rw [h2, if_pos hq]
  · have hq : k.q ≠ [] := fun e => by
      rw [e] at c1
      simp only [List.length_nil] at c1
      exact hz (by simp only; omega)
    refine rPop_K1 s3 h h8 hlt ⟨_, hi3⟩ h1 ?_ h3 g'
    rw [h2, if_neg hq]
theorem rPop_K3 {m1 : QM} {j s4 : weirref18_Queue} {ls : List weirref18_Line} {k : Cl} {l : weirref18_Line} {x : queue_item} {q' : List queue_item} {Q : weirref18_Queue × Int × Int × Bool → World → Prop} {N : weirref18_Queue × weirref18_Queue → World → Prop} {i : Nat}
    (s : Ss W (rdS c_weirref18_Line false j.L ls :: (items ls m1.qs ++ Hs)) w) (h : RqOk j m1 ls) (h8 : m1.n ≤ 8) (hlt : m1.at_ < m1.n) (hq : k.q = x :: q') (hi : nth (rdS c_weirref18_Line false j.L ls :: (items ls m1.qs ++ Hs)) i = some (rdS c_weirref18_Item false l.L (k.q.map rIt))) (h1 : l.C = k.c) (h2 : l.Deficit = k.d) (h3 : l.Tokens = k.tok) (okk : k.Ok) (hr : k.rdy = true)
    (okm : (⟨m1.cl.set m1.at_ k, m1.at_, m1.given⟩ : QM).Ok)
    (gt : k.hd ≤ k.d → ∀ (r' : weirref18_Queue) (w' : World), Ss W (RQ r' (QM.take ⟨m1.cl.set m1.at_ k, m1.at_, m1.given⟩) :: Hs) w' → Q (r', x.id, (m1.at_ : Int), true) w')
    (gn : ¬ k.hd ≤ k.d → ∀ (r' : weirref18_Queue) (w' : World), Ss W (RQ r' (QM.onward ⟨m1.cl.set m1.at_ k, m1.at_, m1.given⟩) :: Hs) w' → N (s4, r') w') :
    WP (weirref18_Pop.K3 s4 l j) w (WP.Rd N Q) := by
  unfold weirref18_Pop.K3
  have hi' := hi
  rw [hq] at hi'
  have hd0 := okk.d0
  have hd1 := okk.d1
  have hsz := okk.size x (by rw [hq]; simp)
  refine WP.idxr (k := 0) s i hi' rdS_rdb (by omega) (x := rIt x) (by simp) rfl (fun a ha => ?_)
  refine WP.ldp s i hi' rdS_rdb (k := 0) (x := rIt x) (by simp) ha (o := 0) (by simp) (At_weirref18_Item_Size (rIt x)) ?_
  refine WP.idxr (k := 0) s i hi' rdS_rdb (by omega) (x := rIt x) (by simp) rfl (fun a' ha' => ?_)
  refine WP.ldp s i hi' rdS_rdb (k := 0) (x := rIt x) (by simp) ha' (o := 1) (by rw [add_add]; rfl) (At_weirref18_Item_Item (rIt x)) ?_
  show WP (if x.size > l.Deficit then _ else _) w _
  rw [h2]
  have hhd : k.hd = x.size := hd_cons hq
  refine WP.ite (fun hgt => ?_) (fun hle => ?_)
  · refine WP.step (put_wp s h h8 (by rw [h.1]; omega) (by rw [h.1]; omega) ⟨i, hi⟩ h1 h2 h3) ?_
    intro r20 w s
    rw [h.1, Int.toNat_natCast] at s
    refine WP.step (ronward_wp s 0 rfl okm) ?_
    intro r21 w s
    exact WP.next (gn (by omega) r21 w (s.use [1] rfl).drop)
  · have htake : QM.take ⟨m1.cl.set m1.at_ k, m1.at_, m1.given⟩ = { m1 with cl := m1.cl.set m1.at_ { k with q := q', tok := if k.c.Rate > 0 then k.tok - x.size else k.tok, d := if q' = [] then 0 else k.d - x.size } } := by
      have hc : (⟨m1.cl.set m1.at_ k, m1.at_, m1.given⟩ : QM).cur = k := QM.setc_cur (m := m1) hlt
      unfold QM.take
      rw [hc, hhd, hq]
      simp only [QM.setc, List.set_set, List.tail_cons]
      congr
    have gt' := gt (by omega)
    rw [htake] at gt'
    rw [hq] at hi
    refine WP.ite (fun hR => ?_) (fun hR => ?_)
    · rw [h1] at hR
      have ht := okk.tok hR
      rw [h3]
      refine rPop_K2 (k := { k with q := q', tok := if k.c.Rate > 0 then k.tok - x.size else k.tok, d := if q' = [] then 0 else k.d - x.size }) s h h8 hlt hi h1 ?_ ?_ gt'
      · simp only
        show _ = if q' = [] then 0 else IntKind.wrap .i64 (k.d - x.size)
        rw [wrap_i64 (by omega) (by omega)]
      · simp only
        show IntKind.wrap .i64 (k.tok - x.size) = _
        have hbu := okClass_iff.1 okk.c
        rw [wrap_i64 (by omega) (by omega), if_pos hR]
    · rw [h1] at hR
      refine rPop_K2 (k := { k with q := q', tok := if k.c.Rate > 0 then k.tok - x.size else k.tok, d := if q' = [] then 0 else k.d - x.size }) s h h8 hlt hi h1 ?_ ?_ gt'
      · simp only
        show _ = if q' = [] then 0 else IntKind.wrap .i64 (k.d - x.size)
        rw [wrap_i64 (by omega) (by omega)]
      · simp only
        rw [if_neg hR]
        exact h3
theorem rPop_loop {m m' : QM} (h : QM.Turns m m') : ∀ (w : World) (r s4 : weirref18_Queue), m.Ok → Ss W (RQ r m :: Hs) w →
    WP (loopM (fun s_ : weirref18_Queue × weirref18_Queue => weirref18_Pop.L1 s_.1 s_.2) (s4, r)) w (fun res w' => ∃ x q', m'.cur.q = x :: q' ∧ res.2 = (x.id, (m'.at_ : Int), true) ∧ Ss W (RQ res.1 m'.take :: Hs) w') := by
  have body : ∀ (m : QM) (w : World) (r s4 : weirref18_Queue) (Q : weirref18_Queue × Int × Int × Bool → World → Prop) (N : weirref18_Queue × weirref18_Queue → World → Prop), m.Ok → Ss W (RQ r m :: Hs) w →
      (m.cur.rdy = false → ∀ r' w', Ss W (RQ r' m.onward :: Hs) w' → N (s4, r') w') →
      (m.cur.rdy = true → ¬ m.gives.cur.hd ≤ m.gives.cur.d → ∀ r' w', Ss W (RQ r' m.gives.onward :: Hs) w' → N (s4, r') w') →
      (m.cur.rdy = true → m.gives.cur.hd ≤ m.gives.cur.d → ∀ x q' r' w', m.gives.cur.q = x :: q' → Ss W (RQ r' m.gives.take :: Hs) w' → Q (r', x.id, (m.gives.at_ : Int), true) w') →
      WP (weirref18_Pop.L1 s4 r) w (WP.Rd N Q) := by
    intro m w r s4 Q N ok s n0 n1 tk
    unfold weirref18_Pop.L1
    have h0 := ok.n0
    have h8 := ok.n8
    obtain ⟨ls, hR, s⟩ := s.openR 0 rfl
    have hln := hR.2.2.len
    have hc := QM.cur_at h0
    obtain ⟨l, hl, e1, e2, e3⟩ := hR.2.2.get hc
    have okk := ok.cl _ (QM.cur_mem h0)
    have hit := nth_app (m := RQ r m :: Hs) (items_nth hl (qs_get hc))
    refine WP.rdx s 0 rfl rdS_rdb (by rw [hR.1]; omega) (x := l) (by rw [hR.1]; exact hl) rfl ?_
    refine WP.slot' s (fun b w s => WP.step (rreadyQ_wp s (m.at_ + 1) hit okk e1 e3) ?_)
    rintro _ w ⟨rfl, s⟩
    refine WP.ite (fun hr => ?_) (fun hr => ?_)
    · have hr : m.cur.rdy = false := by simpa using hr
      refine WP.step (ronward_wp (Ss.weak (l := rdS c_weirref18_Line false r.L ls :: items ls m.qs) s) 0 rfl ok) ?_
      intro r' w s
      exact WP.next (n0 hr r' w (s.use [1] rfl).drop)
    · have hr : m.cur.rdy = true := by simpa using hr
      obtain ⟨x, q', hx⟩ := rdy_cons hr
      have okg := ok.gives hr
      have hQ := okClass_iff.1 okk.c
      have hd0 := okk.d0
      have hd1 := okk.d1
      refine WP.ite (fun hg => ?_) (fun hg => ?_)
      · have hg : m.given = false := by rw [← hR.2.1]; simpa using hg
        have hlow := ok.low _ _ hc (.inr hg)
        have hgives : m.gives = ⟨m.cl.set m.at_ { m.cur with d := m.cur.d + m.cur.c.Quantum }, m.at_, true⟩ := by
          unfold QM.gives
          rw [hg, if_neg (by simp)]
          rfl
        have hgc : m.gives.cur = { m.cur with d := m.cur.d + m.cur.c.Quantum } := by rw [QM.gives_cur h0, hg]; rfl
        have okk2 : ({ m.cur with d := m.cur.d + m.cur.c.Quantum } : Cl).Ok := by
          rw [← hgc]
          exact okg.cl _ (QM.cur_mem okg.n0)
        refine rPop_K3 (i := m.at_ + 1) (m1 := { m with given := true }) (k := { m.cur with d := m.cur.d + m.cur.c.Quantum }) (Hs := RQ r m :: Hs) s ⟨hR.1, rfl, hR.2.2⟩ h8 h0 hx hit e1 ?_ e3 okk2 hr (by rw [← hgives]; exact okg) ?_ ?_
        · simp only
          rw [e1, e2, wrap_i64 (by omega) (by omega)]
        · intro hd r' w' s
          rw [← hgives] at s
          have := tk hr (by rw [hgc]; exact hd) x q' r' w' (by rw [hgc]; exact hx) (s.use [1] rfl).drop
          rw [QM.gives_at] at this
          exact this
        · intro hd r' w' s
          rw [← hgives] at s
          exact n1 hr (by rw [hgc]; exact hd) r' w' (s.use [1] rfl).drop
      · have hg : m.given = true := by rw [← hR.2.1]; simpa using hg
        have hgives : m.gives = ⟨m.cl.set m.at_ m.cur, m.at_, m.given⟩ := by
          unfold QM.gives
          rw [hg, if_pos rfl, set_same hc, ← hg]
        have hgc : m.gives.cur = m.cur := by rw [QM.gives_cur h0, hg]; rfl
        refine rPop_K3 (i := m.at_ + 1) (m1 := m) (k := m.cur) (Hs := RQ r m :: Hs) s hR h8 h0 hx hit e1 e2 e3 okk hr (by rw [← hgives]; exact okg) ?_ ?_
        · intro hd r' w' s
          rw [← hgives] at s
          have := tk hr (by rw [hgc]; exact hd) x q' r' w' (by rw [hgc]; exact hx) (s.use [1] rfl).drop
          rw [QM.gives_at] at this
          exact this
        · intro hd r' w' s
          rw [← hgives] at s
          exact n1 hr (by rw [hgc]; exact hd) r' w' (s.use [1] rfl).drop
  induction h with
  | take hr hd =>
    intro w r s4 ok s
    refine WP.loop_step (body _ w r s4 _ _ ok s (fun h => by rw [hr] at h; cases h) (fun _ h => absurd hd h) (fun _ _ x q' r' w' hx s => ⟨x, q', hx, rfl, s⟩))
  | pass1 hr hd h ih =>
    intro w r s4 ok s
    refine WP.loop_step (body _ w r s4 _ _ ok s (fun h => by rw [hr] at h; cases h) (fun _ _ r' w' s => ?_) (fun _ h => absurd h hd))
    exact ih w' r' s4 ((ok.gives hr).onward (fun _ => by omega)) s
  | pass0 hr h ih =>
    intro w r s4 ok s
    refine WP.loop_step (body _ w r s4 _ _ ok s (fun _ r' w' s => ?_) (fun h => by rw [hr] at h; cases h) (fun h => by rw [hr] at h; cases h))
    exact ih w' r' s4 (ok.onward (fun h => by rw [hr] at h; cases h)) s
theorem rPop_wp {m2 : QM} {res : Int × Int × Bool} (s : Ss W Hs w) (i : Nat) (e : nth Hs i = some (RQ r m)) (ok : m.Ok) (h : Pops m res m2) : WP (weirref18_Pop r) w (fun r' w' => r'.2 = res ∧ Ss W (RQ r'.1 m2 :: Hs) w') := by
  unfold weirref18_Pop
  refine WP.slot' s (fun b w s => WP.slot' s (fun b w s => WP.step (rsome_wp s i e ok) ?_))
  rintro _ w ⟨rfl, s⟩
  refine WP.ite (fun hs => ?_) (fun hs => ?_)
  · have hs : m.some_ = false := by simpa using hs
    cases h with
    | none _ => exact WP.ret ⟨rfl, s.dup e RQ_ro⟩
    | item h' _ _ => rw [hs] at h'; cases h'
  · have hs : m.some_ = true := by simpa using hs
    cases h with
    | none h' => rw [hs] at h'; cases h'
    | item h' ht hx =>
      refine (rPop_loop ht w r _ ok (s.dup e RQ_ro)).mono ?_
      rintro r' w' ⟨x', q'', hx', hr, s⟩
      rw [hx] at hx'
      cases hx'
      exact ⟨hr, s⟩
theorem rPeek_wp {m2 : QM} {res : Int × Int × Bool} (s : Ss W Hs w) (i : Nat) (e : nth Hs i = some (RQ r m)) (ok : m.Ok) (h : Pops m res m2) : WP (weirref18_Peek r) w (fun r' w' => r' = res ∧ Ss W Hs w') := by
  unfold weirref18_Peek
  refine WP.slot' s (fun b w s => WP.step (rPop_wp s i e ok h) ?_)
  rintro r' w ⟨hr, s⟩
  exact WP.slot' s (fun b w s => WP.ret ⟨by rw [← hr], s.drop⟩)
end
end Go.Proofs.Ytgddbpmfendaeaa.Lx
