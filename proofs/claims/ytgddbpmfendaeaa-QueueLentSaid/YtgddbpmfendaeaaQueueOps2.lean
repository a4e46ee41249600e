/- Package queue's calls, of their programs in the M-world: Push, Tick, Len, Bytes and New do what the plain value says. -/
import Derived.Test.YtgddbpmfendaeaaQueueOps
set_option linter.unusedVariables false
set_option linter.unusedSimpArgs false
namespace Go.Proofs.Ytgddbpmfendaeaa.Lx
open Go Go.Proofs Go.RowKit

theorem outside_wp {W w : World} {Hs : List HP} (s : Ss W Hs w) (n lo hi : Int) : WP (queue_outside n lo hi) w (fun r w' => r = decide (n < lo ∨ n > hi) ∧ Ss W Hs w') := by
  unfold queue_outside
  refine WP.step (R := fun r w' => r = decide (n < lo ∨ n > hi) ∧ Ss W Hs w') (WP.ite (fun h => WP.ret ⟨by simp [h], s⟩) (fun h => WP.ret ⟨by simp [h], s⟩)) (fun r w h => WP.ret h)
section
variable {W w : World} {R : List HP} {qa ca : Addr} {tn : queue_turn} {cs sp : List queue_class} {q : Option Addr} {m : QM}
theorem getD_get {α : Type} {l : List α} {i : Nat} {z : α} (h : i < l.length) : l[i]? = some (l.getD i z) := by rw [List.getD, List.getElem?_eq_getElem h]; rfl
theorem sizes_nonneg {l : List queue_item} (h : ∀ y ∈ l, 1 ≤ y.size ∧ y.size ≤ 65535) : 0 ≤ sizes l := by
  induction l with
  | nil => simp [sizes]
  | cons y l ih =>
    rw [sizes_cons]
    have := ih (fun z hz => h z (by simp [hz]))
    have := h y (by simp)
    omega
theorem Push_wp (s : Ss W (Queue q m :: R) w) (a b c : Int) : WP (queue_Queue_Push q a b c) w (fun r w' => r = (m.push a b c).2 ∧ Ss W (Queue q (m.push a b c).1 :: R) w') := by
  obtain ⟨qa, ca, tn, cs, sp, rfl, ok, cok, tok, s⟩ := s.openQ
  unfold queue_Queue_Push
  have hln := cok.len
  have h8 := ok.n8
  refine WP.step (R := fun r w' => r = decide (a < 0 ∨ a ≥ m.n) ∧ Ss W (QHs qa ca tn cs sp m R) w') (WP.ite (fun h => WP.ret ⟨by simp [h], s⟩) (fun h => WP.nilck ?_)) ?_
  · refine WP.ld s 1 rfl (o := 0) (by simp [Addr.add]) (At_queue_Queue_classes _) (WP.ret ⟨?_, s⟩)
    simp only [hln]
    simp [h]
  rintro _ w ⟨rfl, s⟩
  unfold QM.push
  refine WP.ite (fun h => ?_) (fun h => ?_)
  · rw [if_pos (of_decide_eq_true h)]
    exact WP.ret ⟨rfl, s.closeQ rfl ok cok tok⟩
  have h1 : ¬ (a < 0 ∨ a ≥ m.n) := fun hx => h (decide_eq_true hx)
  rw [if_neg h1]
  refine WP.step (outside_wp s b 1 65535) ?_
  rintro _ w ⟨rfl, s⟩
  refine WP.ite (fun h => ?_) (fun h => ?_)
  · rw [if_pos (of_decide_eq_true h)]
    exact WP.ret ⟨rfl, s.closeQ rfl ok cok tok⟩
  have h2 : ¬ (b < 1 ∨ b > 65535) := fun hx => h (decide_eq_true hx)
  rw [if_neg h2]
  have hlt : a.toNat < m.cl.length := by unfold QM.n at h1; omega
  have hk := getD_get (z := default) hlt
  generalize m.cl.getD a.toNat default = k at hk
  simp only
  have okk := ok.cl k (List.mem_of_getElem? hk)
  have hcl := okClass_iff.1 okk.c
  obtain ⟨cl, hc, e1, e2, e3⟩ := cok.get hk
  have hci := (List.getElem?_eq_some_iff.1 hc).1
  have hqi : m.qs[a.toNat]? = some k.q := by unfold QM.qs; rw [List.getElem?_map, hk]; rfl
  have hat := at_row (c := c_queue_class) (sp := sp) hc
  refine WP.nilck (WP.ld s 1 rfl (o := 0) (by simp [Addr.add]) (At_queue_Queue_classes _) ?_)
  refine WP.idx (by omega) (by simp only; omega) (WP.draw' s (fun w s => ?_))
  refine WP.ld s 0 rfl (o := a.toNat * 10 + 5 + 2) (by rw [add_add, add_add, Nat.add_assoc]) ((hat.trans (At_queue_class_line cl)).trans (At_queue_line_queue_item_n _)) ?_
  refine WP.ld s 0 rfl (o := a.toNat * 10 + 0 + 1) (by rw [add_add]) ((hat.trans (At_queue_class_c cl)).trans (At_api_Class_Items _)) ?_
  rw [QHs.n_at s hc hk, e1]
  have hlen := okk.len
  have hbytes := okk.bytes
  have hb0 := sizes_nonneg okk.size
  refine WP.step (R := fun r w' => r = decide ((k.q.length : Int) = k.c.Items ∨ sizes k.q + b > k.c.Bytes) ∧ Ss W (QHs qa ca tn cs sp m R) w') (WP.ite (fun h => WP.ret ⟨by simp [h], s⟩) (fun h => ?_)) ?_
  · refine WP.ld s 0 rfl (o := a.toNat * 10 + 8) (by rw [add_add]) (hat.trans (At_queue_class_bytes cl)) ?_
    refine WP.ld s 0 rfl (o := a.toNat * 10 + 0 + 2) (by rw [add_add]) ((hat.trans (At_queue_class_c cl)).trans (At_api_Class_Bytes _)) (WP.ret ⟨?_, s⟩)
    rw [e1, e3, wrap_i64 (by omega) (by omega)]
    simp [h]
  rintro _ w ⟨rfl, s⟩
  refine WP.ite (fun h => ?_) (fun h => ?_)
  · rw [if_pos (of_decide_eq_true h)]
    exact WP.ret ⟨rfl, s.closeQ rfl ok cok tok⟩
  have h3 : ¬ ((k.q.length : Int) = k.c.Items ∨ sizes k.q + b > k.c.Bytes) := fun hx => h (decide_eq_true hx)
  rw [if_neg h3]
  simp only
  refine WP.step (lineQ_wp (op := fun p => queue_line_queue_item_join p ⟨b, c⟩) (q := k.q) (q2 := k.q ++ [⟨b, c⟩]) (fun a L o ln R w s h => join_wp _ s h (by omega)) (qs := m.qs) s hc hqi (by rw [add_add])) ?_
  rintro _ w ⟨c1, f1, f2, f3, s⟩
  have hc1 : (cs.set a.toNat c1)[a.toNat]? = some c1 := List.getElem?_set_self hci
  have hat1 := at_row (c := c_queue_class) (sp := sp) hc1
  have hci1 : a.toNat < (cs.set a.toNat c1).length := by simpa using hci
  refine WP.ld s 0 rfl (o := a.toNat * 10 + 8) (by rw [add_add]) (hat1.trans (At_queue_class_bytes c1)) ?_
  rw [f3, e3, wrap_i64 (by omega) (by omega)]
  refine WP.st s 0 rfl (o := a.toNat * 10 + 8) (by rw [add_add]) (Upd.trans hat1 (Up_queue_class_bytes c1 _) (upd_row (c := c_queue_class) (sp := sp) _ hci1)) (fun w s => WP.ret ⟨rfl, ?_⟩)
  have s := QH2.field (c' := ⟨c1.c, c1.line, sizes k.q + b, c1.tokens⟩) hc1 rfl s
  rw [List.set_set] at s
  have okp := ok.push a b c
  unfold QM.push at okp
  rw [if_neg h1, if_neg h2] at okp
  have hk' : m.cl.getD a.toNat default = k := by rw [List.getD, hk]; rfl
  simp only [hk'] at okp
  rw [if_neg h3] at okp
  refine Ss.closeQ (ca := ca) (tn := tn) (cs := cs.set a.toNat ⟨c1.c, c1.line, sizes k.q + b, c1.tokens⟩) (sp := sp) ?_ rfl okp ?_ ?_
  · unfold QHs
    rw [show (QM.qs { m with cl := m.cl.set a.toNat { k with q := k.q ++ [⟨b, c⟩] } }) = m.qs.set a.toNat (k.q ++ [⟨b, c⟩]) by unfold QM.qs; simp only [List.map_set]]
    exact s
  · exact csok_set (c := ⟨c1.c, c1.line, sizes k.q + b, c1.tokens⟩) (k := { k with q := k.q ++ [⟨b, c⟩] }) cok (f1.trans e1) (f2.trans e2) (by simp only [sizes_app]) rfl
  · refine ⟨tok.1, tok.2.1, fun i y hi => ?_⟩
    by_cases e : i = a.toNat
    · subst e
      simp only [List.getElem?_set_self hlt, Option.some.injEq] at hi
      subst hi
      exact tok.2.2 _ k hk
    · simp only [List.getElem?_set_ne (fun h => e h.symm)] at hi
      exact tok.2.2 i y hi
theorem of_wp (s : Ss W (QHs qa ca tn cs sp m R) w) (ok : m.Ok) (cok : CsOk cs m) (a : Int) : WP (queue_Queue_of (some qa) a) w (fun r w' => r = (if a < 0 ∨ a ≥ m.n then none else some (ca.add (a.toNat * 10))) ∧ Ss W (QHs qa ca tn cs sp m R) w') := by
  unfold queue_Queue_of
  have hln := cok.len
  have h8 := ok.n8
  refine WP.step (R := fun r w' => r = decide (a < 0 ∨ a ≥ m.n) ∧ Ss W (QHs qa ca tn cs sp m R) w') (WP.ite (fun h => WP.ret ⟨by simp [h], s⟩) (fun h => WP.nilck ?_)) ?_
  · refine WP.ld s 1 rfl (o := 0) (by simp [Addr.add]) (At_queue_Queue_classes _) (WP.ret ⟨?_, s⟩)
    simp only [hln]
    simp [h]
  rintro _ w ⟨rfl, s⟩
  refine WP.ite (fun h => ?_) (fun h => ?_)
  · rw [if_pos (of_decide_eq_true h)]
    exact WP.ret ⟨rfl, s⟩
  have h1 : ¬ (a < 0 ∨ a ≥ m.n) := fun hx => h (decide_eq_true hx)
  rw [if_neg h1]
  refine WP.nilck (WP.ld s 1 rfl (o := 0) (by simp [Addr.add]) (At_queue_Queue_classes _) ?_)
  exact WP.idx (by omega) (by simp only; omega) (WP.ret ⟨rfl, s⟩)
theorem Len_wp (s : Ss W (Queue q m :: R) w) (a : Int) : WP (queue_Queue_Len q a) w (fun r w' => r = m.len a ∧ Ss W (Queue q m :: R) w') := by
  obtain ⟨qa, ca, tn, cs, sp, rfl, ok, cok, tok, s⟩ := s.openQ
  unfold queue_Queue_Len QM.len
  refine WP.step (of_wp s ok cok a) ?_
  rintro _ w ⟨rfl, s⟩
  by_cases h : a < 0 ∨ a ≥ m.n
  · rw [if_pos h, if_pos h]
    exact WP.ite (fun h => absurd rfl h) (fun _ => WP.ret ⟨rfl, s.closeQ rfl ok cok tok⟩)
  · rw [if_neg h, if_neg h]
    have hlt : a.toNat < m.cl.length := by unfold QM.n at h; omega
    have hk := getD_get (z := default) hlt
    generalize m.cl.getD a.toNat default = k at hk
    obtain ⟨cl, hc, e1, e2, e3⟩ := cok.get hk
    refine WP.ite (fun _ => WP.nilck ?_) (fun h => absurd (by simp) h)
    refine WP.ld s 0 rfl (o := a.toNat * 10 + 5 + 2) (by rw [add_add, add_add, Nat.add_assoc]) (((at_row (c := c_queue_class) (sp := sp) hc).trans (At_queue_class_line cl)).trans (At_queue_line_queue_item_n _)) (WP.ret ⟨QHs.n_at s hc hk, s.closeQ rfl ok cok tok⟩)
theorem Bytes_wp (s : Ss W (Queue q m :: R) w) (a : Int) : WP (queue_Queue_Bytes q a) w (fun r w' => r = m.bytes a ∧ Ss W (Queue q m :: R) w') := by
  obtain ⟨qa, ca, tn, cs, sp, rfl, ok, cok, tok, s⟩ := s.openQ
  unfold queue_Queue_Bytes QM.bytes
  refine WP.step (of_wp s ok cok a) ?_
  rintro _ w ⟨rfl, s⟩
  by_cases h : a < 0 ∨ a ≥ m.n
  · rw [if_pos h, if_pos h]
    exact WP.ite (fun h => absurd rfl h) (fun _ => WP.ret ⟨rfl, s.closeQ rfl ok cok tok⟩)
  · rw [if_neg h, if_neg h]
    have hlt : a.toNat < m.cl.length := by unfold QM.n at h; omega
    have hk := getD_get (z := default) hlt
    generalize m.cl.getD a.toNat default = k at hk
    obtain ⟨cl, hc, e1, e2, e3⟩ := cok.get hk
    refine WP.ite (fun _ => WP.nilck ?_) (fun h => absurd (by simp) h)
    refine WP.ld s 0 rfl (o := a.toNat * 10 + 8) (by rw [add_add]) ((at_row (c := c_queue_class) (sp := sp) hc).trans (At_queue_class_bytes cl)) (WP.ret ⟨e3, s.closeQ rfl ok cok tok⟩)
theorem Tick_wp (s : Ss W (Queue q m :: R) w) : WP (queue_Queue_Tick q) w (fun _ w' => Ss W (Queue q m.tick :: R) w') := by
  obtain ⟨qa, ca, tn, cs, sp, rfl, ok, cok, tok, s⟩ := s.openQ
  unfold queue_Queue_Tick
  have hln := cok.len
  have h8 := ok.n8
  refine WP.nilck (WP.ld s 1 rfl (o := 0) (by simp [Addr.add]) (At_queue_Queue_classes _) ?_)
  -- the classes ahead of i have ticked
  let tk : Cl → Cl := fun k => if k.c.Rate > 0 then { k with tok := min (k.tok + k.c.Rate) k.c.Burst } else k
  have hmap : ∀ n : Nat, (m.cl.take n).map tk ++ m.cl.drop n = (m.cl.take n).map tk ++ m.cl.drop n := fun _ => rfl
  let mi : Nat → QM := fun n => { m with cl := (m.cl.take n).map tk ++ m.cl.drop n }
  have hmin : ∀ n, n ≤ m.n → (mi n).cl.length = m.n := fun n hn => by
    show ((m.cl.take n).map tk ++ m.cl.drop n).length = _
    unfold QM.n at *
    simp; omega
  have hqs : ∀ n, (mi n).qs = m.qs := fun n => by
    show ((m.cl.take n).map tk ++ m.cl.drop n).map Cl.q = m.cl.map Cl.q
    rw [List.map_append, List.map_map]
    have : (Cl.q ∘ tk) = Cl.q := by
      funext k
      show (tk k).q = k.q
      simp only [tk]
      split <;> rfl
    rw [this, ← List.map_append, List.take_append_drop]
  refine WP.loop (fun (i : Int) w' => 0 ≤ i ∧ i ≤ m.n ∧ ∃ cs', CsOk cs' (mi i.toNat) ∧ Ss W (QHs qa ca tn cs' sp m R) w') (fun i _ => ((m.n : Int) - i).toNat) ⟨by omega, by omega, cs, cok, s⟩ ?_
  rintro i w ⟨i0, i1, cs', cok', s⟩
  unfold queue_Queue_Tick.L1
  have hln' : cs'.length = m.n := by
    have := congrArg List.length cok'
    simp only [List.length_map] at this
    rw [this]
    exact hmin _ (by omega)
  refine WP.ite (fun hi => ?_) (fun hi => ?_)
  · simp only at hi
    have hil : i.toNat < m.cl.length := by unfold QM.n at hln; omega
    have hk : m.cl[i.toNat]? = some m.cl[i.toNat] := List.getElem?_eq_getElem hil
    generalize m.cl[i.toNat] = k at hk
    have hk' : (mi i.toNat).cl[i.toNat]? = some k := by
      show ((m.cl.take i.toNat).map tk ++ m.cl.drop i.toNat)[i.toNat]? = _
      have hl : ((m.cl.take i.toNat).map tk).length = i.toNat := by simp; omega
      rw [List.getElem?_append_right (by omega), hl, Nat.sub_self, List.getElem?_drop, Nat.add_zero, hk]
    have hnext : (mi (i.toNat + 1)).cl = (mi i.toNat).cl.set i.toNat (tk k) := by
      show (m.cl.take (i.toNat + 1)).map tk ++ m.cl.drop (i.toNat + 1) = ((m.cl.take i.toNat).map tk ++ m.cl.drop i.toNat).set i.toNat (tk k)
      have hl : ((m.cl.take i.toNat).map tk).length = i.toNat := by simp; omega
      rw [List.set_append_right _ _ (by omega), hl, Nat.sub_self, List.take_add_one, hk]
      have hd : m.cl.drop i.toNat = k :: m.cl.drop (i.toNat + 1) := by
        rw [List.drop_eq_getElem_cons hil]
        congr 1
        rw [List.getElem?_eq_getElem hil] at hk
        exact Option.some.inj hk
      rw [hd]
      simp
    obtain ⟨c, hc, e1, e2, e3⟩ := CsOk.get cok' hk'
    have hci := (List.getElem?_eq_some_iff.1 hc).1
    have hat := at_row (c := c_queue_class) (sp := sp) hc
    have okk := ok.cl k (List.mem_of_getElem? hk)
    have hcl := okClass_iff.1 okk.c
    refine WP.nilck (WP.ld s 1 rfl (o := 0) (by simp [Addr.add]) (At_queue_Queue_classes _) ?_)
    refine WP.idx i0 (by simp only; omega) ?_
    refine WP.ld s 0 rfl (o := i.toNat * 10 + 0 + 3) (by rw [add_add]) ((hat.trans (At_queue_class_c c)).trans (At_api_Class_Rate _)) ?_
    rw [e1]
    refine WP.ite (fun hR => WP.draw' s (fun w s => ?_)) (fun hR => WP.next ?_)
    · refine WP.ld s 0 rfl (o := i.toNat * 10 + 9) (by rw [add_add]) (hat.trans (At_queue_class_tokens c)) ?_
      refine WP.ld s 0 rfl (o := i.toNat * 10 + 0 + 3) (by rw [add_add]) ((hat.trans (At_queue_class_c c)).trans (At_api_Class_Rate _)) ?_
      refine WP.ld s 0 rfl (o := i.toNat * 10 + 0 + 4) (by rw [add_add]) ((hat.trans (At_queue_class_c c)).trans (At_api_Class_Burst _)) ?_
      have htk := okk.tok hR
      rw [e1, e2, wrap_i64 (n := k.tok + k.c.Rate) (by omega) (by omega)]
      refine WP.st s 0 rfl (o := i.toNat * 10 + 9) (by rw [add_add]) (Upd.trans hat (Up_queue_class_tokens c _) (upd_row (c := c_queue_class) (sp := sp) _ hci)) (fun w s => WP.next ?_)
      rw [wrap_i64 (n := i + 1) (by omega) (by omega)]
      refine ⟨⟨by omega, by omega, _, ?_, QH2.field (qs := m.qs) (c' := ⟨c.c, c.line, c.bytes, if k.c.Burst < k.tok + k.c.Rate then k.c.Burst else k.tok + k.c.Rate⟩) hc rfl s⟩, by omega⟩
      rw [show (i + 1).toNat = i.toNat + 1 by omega]
      refine csok_set (c := ⟨c.c, c.line, c.bytes, if k.c.Burst < k.tok + k.c.Rate then k.c.Burst else k.tok + k.c.Rate⟩) (k := tk k) cok' ?_ ?_ ?_ hnext
      · simp only [tk]; rw [if_pos hR]; exact e1
      · simp only [tk]; rw [if_pos hR]; simp only; split <;> omega
      · simp only [tk]; rw [if_pos hR]; exact e3
    · rw [wrap_i64 (n := i + 1) (by omega) (by omega)]
      refine ⟨⟨by omega, by omega, cs', ?_, s⟩, by omega⟩
      rw [show (i + 1).toNat = i.toNat + 1 by omega]
      have := csok_set (i := i.toNat) (c := c) (k := tk k) cok' (by simp only [tk]; rw [if_neg hR]; exact e1) (by simp only [tk]; rw [if_neg hR]; exact e2) (by simp only [tk]; rw [if_neg hR]; exact e3) hnext
      rwa [set_same hc] at this
  · simp only at hi
    refine WP.done ?_
    have hin : i.toNat = m.n := by omega
    rw [hin] at cok'
    have hfin : (mi m.n).cl = m.tick.cl := by
      show (m.cl.take m.n).map tk ++ m.cl.drop m.n = _
      unfold QM.n
      rw [List.take_length, List.drop_length, List.append_nil]
      rfl
    refine Ss.closeQ (qa := qa) (ca := ca) (tn := tn) (cs := cs') (sp := sp) ?_ rfl ok.tick ?_ ?_
    · have : m.tick.qs = m.qs := by
        have h1 := hqs m.n
        unfold QM.qs at h1 ⊢
        rw [← hfin]
        exact h1
      rw [QHs.qs_eq this]
      exact s
    · unfold CsOk at cok' ⊢
      rw [← hfin]
      exact cok'
    · refine ⟨tok.1, tok.2.1, fun j y hj => ?_⟩
      unfold QM.tick at hj
      simp only [List.getElem?_map, Option.map_eq_some_iff] at hj
      obtain ⟨k, hk, rfl⟩ := hj
      have := tok.2.2 j k hk
      split <;> exact this
end
end Go.Proofs.Ytgddbpmfendaeaa.Lx
