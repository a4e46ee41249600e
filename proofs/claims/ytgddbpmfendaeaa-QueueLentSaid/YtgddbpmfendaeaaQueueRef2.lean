/- The document's queue (weirref18), of its programs in the M-world: Bytes, Len, Push, Tick and New are the plain queue's. -/
import Derived.Test.YtgddbpmfendaeaaQueueRef
set_option linter.unusedVariables false
set_option linter.unusedSimpArgs false
namespace Go.Proofs.Ytgddbpmfendaeaa.Lx
open Go Go.Proofs Go.RowKit

theorem sizes_take {q : List queue_item} (h : ∀ x ∈ q, 1 ≤ x.size ∧ x.size ≤ 65535) (i : Nat) : 0 ≤ sizes (q.take i) ∧ sizes (q.take i) ≤ sizes q := by
  have h1 := sizes_nonneg (l := q.take i) (fun y hy => h y (List.mem_of_mem_take hy))
  have h2 := sizes_nonneg (l := q.drop i) (fun y hy => h y (List.mem_of_mem_drop hy))
  have h3 : sizes q = sizes (q.take i) + sizes (q.drop i) := by
    have : sizes (q.take i ++ q.drop i) = sizes (q.take i) + sizes (q.drop i) := by
      unfold sizes
      rw [List.map_append, List.sum_append]
    rwa [List.take_append_drop] at this
  omega
theorem nth_right : ∀ {l m : List HP} {i : Nat} {A : HP}, nth m i = some A → nth (l ++ m) (l.length + i) = some A := by
  intro l
  induction l with
  | nil => intro m i A h; simpa using h
  | cons B l ih =>
    intro m i A h
    rw [List.length_cons, Nat.add_right_comm]
    exact ih h
section
variable {W w : World} {Hs : List HP} {r : weirref18_Queue} {m : QM}
theorem out_n {n : Nat} {a : Int} (h8 : n ≤ 8) : (a < 0 ∨ a > IntKind.wrap .i64 ((n : Int) - 1)) ↔ (a < 0 ∨ a ≥ n) := by
  rw [wrap_i64 (by omega) (by omega)]
  omega
theorem rLen_wp (s : Ss W Hs w) (i : Nat) (e : nth Hs i = some (RQ r m)) (ok : m.Ok) (a : Int) : WP (weirref18_Len r a) w (fun v w' => v = m.len a ∧ Ss W Hs w') := by
  unfold weirref18_Len QM.len
  have h8 := ok.n8
  obtain ⟨_, _, hlen⟩ := s.rq_len i e
  refine WP.slot' s (fun b w s => ?_)
  rw [hlen]
  refine WP.step (rout_wp s a 0 _) ?_
  rintro _ w ⟨rfl, s⟩
  simp only [out_n h8]
  refine WP.ite (fun h => ?_) (fun h => ?_)
  · rw [if_pos (of_decide_eq_true h)]
    exact WP.ret ⟨rfl, s⟩
  have h1 : ¬ (a < 0 ∨ a ≥ m.n) := fun hx => h (decide_eq_true hx)
  rw [if_neg h1]
  obtain ⟨ls, hR, s⟩ := s.openR i e
  have hlt : a.toNat < m.cl.length := by unfold QM.n at h1; omega
  have hk := getD_get (z := default) hlt
  generalize m.cl.getD a.toNat default = k at hk
  obtain ⟨l, hl, e1, e2, e3⟩ := hR.2.2.get hk
  have hit := nth_app (m := Hs) (items_nth hl (qs_get hk))
  have hll := (s.rd_len (i := a.toNat + 1) hit rdS_rdb).1
  rw [← hlen]
  refine WP.idxr s 0 rfl rdS_rdb (by omega) hl rfl (fun p hp => ?_)
  refine WP.ldp s 0 rfl rdS_rdb hl hp (o := 5) (by rw [add_add]) (At_weirref18_Line_L l) (WP.ret ⟨?_, Ss.weak (l := rdS c_weirref18_Line false r.L ls :: items ls m.qs) s⟩)
  rw [hll, List.length_map]
theorem rBytes_wp (s : Ss W Hs w) (i : Nat) (e : nth Hs i = some (RQ r m)) (ok : m.Ok) (a : Int) : WP (weirref18_Bytes r a) w (fun v w' => v = m.bytes a ∧ Ss W Hs w') := by
  unfold weirref18_Bytes QM.bytes
  have h8 := ok.n8
  obtain ⟨_, _, hlen⟩ := s.rq_len i e
  refine WP.slot' s (fun b w s => ?_)
  rw [show IntKind.wrap .i64 ((r.L.len : Int) - 1) = IntKind.wrap .i64 ((m.n : Int) - 1) by rw [hlen]]
  refine WP.step (rout_wp s a 0 _) ?_
  rintro _ w ⟨rfl, s⟩
  simp only [out_n h8]
  refine WP.ite (fun h => ?_) (fun h => ?_)
  · rw [if_pos (of_decide_eq_true h)]
    exact WP.ret ⟨rfl, s⟩
  have h1 : ¬ (a < 0 ∨ a ≥ m.n) := fun hx => h (decide_eq_true hx)
  rw [if_neg h1]
  obtain ⟨ls, hR, s⟩ := s.openR i e
  have hlt : a.toNat < m.cl.length := by unfold QM.n at h1; omega
  have hk := getD_get (z := default) hlt
  generalize m.cl.getD a.toNat default = k at hk
  have okk := ok.cl k (List.mem_of_getElem? hk)
  have hcl := okClass_iff.1 okk.c
  have hlk := okk.len
  have hby := okk.bytes
  obtain ⟨l, hl, e1, e2, e3⟩ := hR.2.2.get hk
  have hit := nth_app (m := Hs) (items_nth hl (qs_get hk))
  have hll := (s.rd_len (i := a.toNat + 1) hit rdS_rdb).1
  rw [List.length_map] at hll
  refine WP.loop (fun (x : Int × Int) w' => 0 ≤ x.2 ∧ x.2 ≤ k.q.length ∧ x.1 = sizes (k.q.take x.2.toNat) ∧ Ss W (rdS c_weirref18_Line false r.L ls :: (items ls m.qs ++ Hs)) w') (fun x _ => ((k.q.length : Int) - x.2).toNat) ⟨by simp, by simp, by simp [sizes], s⟩ ?_
  rintro ⟨t, j⟩ w ⟨j0, j1, ht, s⟩
  simp only at j0 j1 ht
  subst ht
  show WP (weirref18_Bytes.L1 r a _ j) w _
  unfold weirref18_Bytes.L1
  refine WP.idxr s 0 rfl rdS_rdb (by omega) hl rfl (fun p hp => ?_)
  refine WP.ldp s 0 rfl rdS_rdb hl hp (o := 5) (by rw [add_add]) (At_weirref18_Line_L l) ?_
  refine WP.ite (fun hj => ?_) (fun hj => ?_)
  · refine WP.idxr s 0 rfl rdS_rdb (by omega) hl rfl (fun p hp => ?_)
    refine WP.ldp s 0 rfl rdS_rdb hl hp (o := 5) (by rw [add_add]) (At_weirref18_Line_L l) ?_
    have hjl : j.toNat < k.q.length := by omega
    have hx := List.getElem?_eq_getElem hjl
    generalize k.q[j.toNat] = x at hx
    have hx' : (k.q.map rIt)[j.toNat]? = some (rIt x) := by rw [List.getElem?_map, hx]; rfl
    refine WP.idxr s (a.toNat + 1) hit rdS_rdb j0 hx' rfl (fun p hp => ?_)
    refine WP.ldp s (a.toNat + 1) hit rdS_rdb hx' hp (o := 0) (by simp) (At_weirref18_Item_Size (rIt x)) (WP.next ?_)
    have ht1 := sizes_take okk.size j.toNat
    have ht2 := sizes_take okk.size (j.toNat + 1)
    have htk : sizes (k.q.take (j.toNat + 1)) = sizes (k.q.take j.toNat) + x.size := by
      rw [List.take_add_one, hx]
      exact sizes_app
    rw [show (rIt x).Size = x.size from rfl, ← htk, wrap_i64 (by omega) (by omega), wrap_i64 (by omega) (by omega)]
    refine ⟨⟨by simp only; omega, by simp only; omega, ?_, s⟩, by simp only; omega⟩
    simp only
    rw [show (j + 1).toNat = j.toNat + 1 by omega]
  · refine WP.done ⟨?_, Ss.weak (l := rdS c_weirref18_Line false r.L ls :: items ls m.qs) s⟩
    rw [show j.toNat = k.q.length by omega, List.take_length]
theorem rPush_wp (s : Ss W Hs w) (i : Nat) (e : nth Hs i = some (RQ r m)) (ok : m.Ok) (a b c : Int) : WP (weirref18_Push r a b c) w (fun r' w' => r'.2 = (m.push a b c).2 ∧ Ss W (RQ r'.1 (m.push a b c).1 :: Hs) w') := by
  unfold weirref18_Push QM.push
  have h8 := ok.n8
  obtain ⟨_, _, hlen⟩ := s.rq_len i e
  refine WP.slot' s (fun b' w s => WP.slot' s (fun b' w s => ?_))
  rw [show IntKind.wrap .i64 ((r.L.len : Int) - 1) = IntKind.wrap .i64 ((m.n : Int) - 1) by rw [hlen]]
  refine WP.step (rout_wp s a 0 _) ?_
  rintro _ w ⟨rfl, s⟩
  simp only [out_n h8]
  refine WP.ite (fun h => ?_) (fun h => ?_)
  · rw [if_pos (of_decide_eq_true h)]
    exact WP.ret ⟨rfl, s.dup e RQ_ro⟩
  have h1 : ¬ (a < 0 ∨ a ≥ m.n) := fun hx => h (decide_eq_true hx)
  rw [if_neg h1]
  refine WP.step (rout_wp s b 1 65535) ?_
  rintro _ w ⟨rfl, s⟩
  refine WP.ite (fun h => ?_) (fun h => ?_)
  · rw [if_pos (of_decide_eq_true h)]
    exact WP.ret ⟨rfl, s.dup e RQ_ro⟩
  have h2 : ¬ (b < 1 ∨ b > 65535) := fun hx => h (decide_eq_true hx)
  rw [if_neg h2]
  have hlt : a.toNat < m.cl.length := by unfold QM.n at h1; omega
  have hk := getD_get (z := default) hlt
  have hbm : m.bytes a = sizes (m.cl.getD a.toNat default).q := by unfold QM.bytes; rw [if_neg h1]
  generalize m.cl.getD a.toNat default = k at hk hbm
  have okk := ok.cl k (List.mem_of_getElem? hk)
  have hcl := okClass_iff.1 okk.c
  have hlk := okk.len
  have hby := okk.bytes
  have hb0 := sizes_nonneg okk.size
  obtain ⟨ls, hR, s⟩ := s.openR i e
  have hln := hR.2.2.len
  obtain ⟨l, hl, e1, e2, e3⟩ := hR.2.2.get hk
  have hit := nth_app (m := Hs) (items_nth hl (qs_get hk))
  have hll := (s.rd_len (i := a.toNat + 1) hit rdS_rdb).1
  rw [List.length_map] at hll
  have eR : nth (rdS c_weirref18_Line false r.L ls :: (items ls m.qs ++ Hs)) ((items ls m.qs).length + i + 1) = some (RQ r m) := nth_right e
  refine WP.rdx s 0 rfl rdS_rdb (by omega) hl rfl ?_
  refine WP.slot' s (fun b' w s => WP.draw' s (fun w s => ?_))
  refine WP.step (R := fun y w' => y = decide ((k.q.length : Int) = k.c.Items ∨ sizes k.q + b > k.c.Bytes) ∧ Ss W (rdS c_weirref18_Line false r.L ls :: (items ls m.qs ++ Hs)) w') (WP.ite (fun h => WP.ret ⟨?_, s⟩) (fun h => ?_)) ?_
  · rw [hll, e1] at h
    exact (decide_eq_true (.inl (by omega))).symm
  · rw [hll, e1] at h
    refine WP.step (rBytes_wp s _ eR ok a) ?_
    rintro _ w ⟨rfl, s⟩
    refine WP.ret ⟨?_, s⟩
    rw [hbm, e1, wrap_i64 (by omega) (by omega), decide_eq_decide]
    constructor
    · exact .inr
    · rintro (h' | h')
      · omega
      · exact h'
  rintro _ w ⟨rfl, s⟩
  refine WP.ite (fun h => ?_) (fun h => ?_)
  · rw [if_pos (of_decide_eq_true h)]
    exact WP.ret ⟨rfl, (Ss.weak (l := rdS c_weirref18_Line false r.L ls :: items ls m.qs) s).dup e RQ_ro⟩
  have h3 : ¬ ((k.q.length : Int) = k.c.Items ∨ sizes k.q + b > k.c.Bytes) := fun hx => h (decide_eq_true hx)
  rw [if_neg h3]
  refine WP.appS s (a.toNat + 1) hit rdS_rdb (by decide) (WP.appl0 s (by rw [List.length_map]; omega) (by decide) (fun r10 w sp s => ?_))
  refine WP.slot' s (fun b' w s => ?_)
  refine WP.appl s 0 rfl (by rw [List.length_map]; simp only [List.length_singleton]; omega) (by decide) (fun r12 w sp s => ?_)
  have s2 := Ss.vec_freeze s
  have hm : k.q.map rIt ++ [(⟨b, c⟩ : weirref18_Item)] = ((k.q ++ [(⟨b, c⟩ : queue_item)]).map rIt) := by rw [List.map_append]; rfl
  rw [hm] at s2
  have s3 : Ss W (rdS c_weirref18_Line false r.L ls :: (items ls m.qs ++ (rdS c_weirref18_Item false r12 ((k.q ++ [(⟨b, c⟩ : queue_item)]).map rIt) :: Hs))) w := s2.perm ((List.Perm.swap _ _ _).trans (List.perm_middle.symm.cons _))
  have hi3 : nth (rdS c_weirref18_Line false r.L ls :: (items ls m.qs ++ (rdS c_weirref18_Item false r12 ((k.q ++ [(⟨b, c⟩ : queue_item)]).map rIt) :: Hs))) ((items ls m.qs).length + 0 + 1) = some (rdS c_weirref18_Item false r12 ((k.q ++ [(⟨b, c⟩ : queue_item)]).map rIt)) := nth_right (i := 0) rfl
  refine WP.step (put_wp (k := { k with q := k.q ++ [(⟨b, c⟩ : queue_item)] }) (l := ⟨l.C, r12, l.Deficit, l.Tokens⟩) s3 hR h8 (by omega) (by omega) ⟨_, hi3⟩ e1 e2 e3) ?_
  intro r13 w s
  exact WP.ret ⟨rfl, (s.use [1] rfl).drop⟩
def tk (k : Cl) : Cl := if k.c.Rate > 0 then { k with tok := min (k.tok + k.c.Rate) k.c.Burst } else k
def QM.ticked (m : QM) (n : Nat) : QM := { m with cl := (m.cl.take n).map tk ++ m.cl.drop n }
theorem ticked_n {m : QM} {n : Nat} (h : n ≤ m.n) : (m.ticked n).n = m.n := by
  unfold QM.ticked QM.n at *
  simp
  omega
theorem ticked_get {m : QM} {n : Nat} {k : Cl} (hk : m.cl[n]? = some k) : (m.ticked n).cl[n]? = some k ∧ m.ticked (n + 1) = { m.ticked n with cl := (m.ticked n).cl.set n (tk k) } := by
  have hil := (List.getElem?_eq_some_iff.1 hk).1
  have hl : ((m.cl.take n).map tk).length = n := by simp; omega
  constructor
  · show ((m.cl.take n).map tk ++ m.cl.drop n)[n]? = _
    rw [List.getElem?_append_right (by omega), hl, Nat.sub_self, List.getElem?_drop, Nat.add_zero, hk]
  · have : (m.cl.take (n + 1)).map tk ++ m.cl.drop (n + 1) = ((m.cl.take n).map tk ++ m.cl.drop n).set n (tk k) := by
      rw [List.set_append_right _ _ (by omega), hl, Nat.sub_self, List.take_add_one, hk]
      have hd : m.cl.drop n = k :: m.cl.drop (n + 1) := by
        rw [List.drop_eq_getElem_cons hil]
        congr 1
        rw [List.getElem?_eq_getElem hil] at hk
        exact Option.some.inj hk
      rw [hd]
      simp
    unfold QM.ticked
    rw [this]
theorem ticked_all {m : QM} : m.ticked m.n = m.tick := by
  unfold QM.ticked QM.tick QM.n
  rw [List.take_length, List.drop_length, List.append_nil]
  rfl
theorem rTick_wp (s : Ss W Hs w) (i : Nat) (e : nth Hs i = some (RQ r m)) (ok : m.Ok) : WP (weirref18_Tick r) w (fun r' w' => Ss W (RQ r' m.tick :: Hs) w') := by
  unfold weirref18_Tick
  have h8 := ok.n8
  refine WP.slot' s (fun b' w s => WP.slot' s (fun b' w s => ?_))
  refine WP.loop (fun (x : Int × weirref18_Queue) w' => 0 ≤ x.1 ∧ x.1 ≤ m.n ∧ Ss W (RQ x.2 (m.ticked x.1.toNat) :: Hs) w') (fun x _ => ((m.n : Int) - x.1).toNat) ⟨by simp, by simp, by
    have : m.ticked (0 : Int).toNat = m := by unfold QM.ticked; simp
    simp only
    rw [this]
    exact s.dup e RQ_ro⟩ ?_
  rintro ⟨j, r⟩ w ⟨j0, j1, s⟩
  simp only at j0 j1 s
  show WP (weirref18_Tick.L1 j r) w _
  unfold weirref18_Tick.L1
  have hn := ticked_n (m := m) (n := j.toNat) (by omega)
  obtain ⟨_, _, hlen⟩ := s.rq_len 0 rfl
  refine WP.ite (fun hj => ?_) (fun hj => ?_)
  · have hjl : j.toNat < m.cl.length := by unfold QM.n at hlen hn; unfold QM.n at hj; omega
    have hk0 := List.getElem?_eq_getElem hjl
    generalize m.cl[j.toNat] = k at hk0
    obtain ⟨hk, hnext⟩ := ticked_get hk0
    have okk := ok.cl k (List.mem_of_getElem? hk0)
    have hcl := okClass_iff.1 okk.c
    obtain ⟨ls, hR, s⟩ := s.openR 0 rfl
    obtain ⟨l, hl, e1, e2, e3⟩ := hR.2.2.get hk
    have hit := nth_app (m := RQ r (m.ticked j.toNat) :: Hs) (items_nth hl (qs_get hk))
    refine WP.rdx s 0 rfl rdS_rdb j0 hl rfl (WP.slot' s (fun b' w s => ?_))
    have fin : ∀ (w : World) (l' : weirref18_Line), Ss W (rdS c_weirref18_Line false r.L ls :: (items ls (m.ticked j.toNat).qs ++ RQ r (m.ticked j.toNat) :: Hs)) w → l'.C = k.c → l'.Deficit = k.d → l'.Tokens = (tk k).tok → l'.L = l.L →
        WP (weirref18_Tick.K1 j r l') w (WP.Rd (fun x' w' => (0 ≤ x'.1 ∧ x'.1 ≤ m.n ∧ Ss W (RQ x'.2 (m.ticked x'.1.toNat) :: Hs) w') ∧ ((m.n : Int) - x'.1).toNat < ((m.n : Int) - j).toNat) (fun r' w' => Ss W (RQ r' m.tick :: Hs) w')) := by
      intro w l' s g1 g2 g3 g4
      unfold weirref18_Tick.K1
      have htq : (tk k).q = k.q ∧ (tk k).c = k.c ∧ (tk k).d = k.d := by unfold tk; split <;> exact ⟨rfl, rfl, rfl⟩
      refine WP.step (put_wp (k := tk k) s hR (by rw [hn]; exact h8) j0 (by rw [hn]; omega) ⟨j.toNat + 1, by rw [htq.1, g4]; exact hit⟩ (g1.trans htq.2.1.symm) (g2.trans htq.2.2.symm) g3) ?_
      intro r22 w s
      rw [← hnext] at s
      refine WP.next ?_
      rw [wrap_i64 (by omega) (by omega)]
      refine ⟨⟨by simp only; omega, by simp only; omega, ?_⟩, by simp only; omega⟩
      simp only
      rw [show (j + 1).toNat = j.toNat + 1 by omega]
      exact (s.use [1] rfl).drop
    rw [e1]
    refine WP.ite (fun hRt => ?_) (fun hRt => fin w l s e1 e2 (by unfold tk; rw [if_neg hRt]; exact e3) rfl)
    have ht := okk.tok hRt
    rw [e3, wrap_i64 (n := k.tok + k.c.Rate) (by omega) (by omega)]
    refine WP.ite (fun hb => ?_) (fun hb => ?_)
    · unfold weirref18_Tick.K2
      exact fin w _ s rfl e2 (by unfold tk; rw [if_pos hRt]; simp only; omega) rfl
    · unfold weirref18_Tick.K2
      exact fin w _ s rfl e2 (by unfold tk; rw [if_pos hRt]; simp only; omega) rfl
  · refine WP.done ?_
    have : j.toNat = m.n := by omega
    rw [this, ticked_all] at s
    exact s
end
end Go.Proofs.Ytgddbpmfendaeaa.Lx
