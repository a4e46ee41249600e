/- The law QueueFair, of its program in the M-world: classes that are kept waiting are served evenly by their quanta: it answers true, and nothing that was there is turned. -/
import Derived.Test.YtgddbpmfendaeaaQueuePsi
import Derived.Test.YtgddbpmfendaeaaLxQ
set_option linter.unusedVariables false
set_option linter.unusedSimpArgs false
namespace Go.Proofs.Ytgddbpmfendaeaa.Lx
open Go Go.Proofs Go.RowKit

def aptB (c : api_Class) : Bool := decide (c.Rate = 0 ∧ c.Items ≥ 2 ∧ c.Bytes ≥ 2)
theorem aptB_iff {c : api_Class} : aptB c = true ↔ c.Rate = 0 ∧ c.Items ≥ 2 ∧ c.Bytes ≥ 2 := by unfold aptB; rw [decide_eq_true_iff]
theorem c_get {m : QM} {ys : List api_Class} (h : m.cl.map (·.c) = ys) {i : Nat} {k : Cl} (hk : m.cl[i]? = some k) : ys[i]? = some k.c := by rw [← h, List.getElem?_map, hk]; rfl
theorem c_len {m : QM} {ys : List api_Class} (h : m.cl.map (·.c) = ys) : ys.length = m.n := by rw [← h]; unfold QM.n; simp
theorem push_acc {m : QM} {i : Nat} {k : Cl} (hk : m.cl[i]? = some k) {a : Int} (id : Int) (h1 : 1 ≤ a) (h2 : a ≤ 65535) (h3 : (k.q.length : Int) < k.c.Items) (h4 : sizes k.q + a ≤ k.c.Bytes) :
    m.push i a id = ({ m with cl := m.cl.set i { k with q := k.q ++ [⟨a, id⟩] } }, 0) := by
  have hi := (List.getElem?_eq_some_iff.1 hk).1
  have hk' : m.cl.getD i default = k := by rw [List.getD, hk]; rfl
  unfold QM.push
  rw [if_neg (by unfold QM.n; omega), if_neg (by omega)]
  simp only [Int.toNat_natCast, hk']
  rw [if_neg (by omega)]
theorem Pops.cl {m m2 : QM} {y d : Int} (h : Pops m (y, d, true) m2) (ok : m.Ok) {j : Nat} {k2 : Cl} (hk : m2.cl[j]? = some k2) : ∃ k, m.cl[j]? = some k ∧ k.c = k2.c ∧ (((j : Int) ≠ d ∧ k2.q = k.q) ∨ ((j : Int) = d ∧ ∃ x, k.q = x :: k2.q)) := by
  obtain ⟨i, k, x, q', rfl, rfl, hki, hkq, hkr, hqs, hct⟩ := h.what ok
  have hn : m2.n = m.n := by
    have := congrArg List.length hct
    simpa [QM.n] using this
  have hj := (List.getElem?_eq_some_iff.1 hk).1
  have hi := (List.getElem?_eq_some_iff.1 hki).1
  have hq2 := qs_get hk
  rw [hqs] at hq2
  have e := congrArg (fun l => l[j]?) (h.c ok)
  simp only [List.getElem?_map, hk, Option.map_some] at e
  by_cases hij : j = i
  · subst hij
    rw [hki] at e
    simp only [Option.map_some, Option.some.injEq] at e
    rw [List.getElem?_set_self (by unfold QM.qs; simpa using hi)] at hq2
    cases hq2
    exact ⟨k, hki, e.symm, .inr ⟨rfl, x, hkq⟩⟩
  · cases hc : m.cl[j]? with
    | none => rw [hc] at e; cases e
    | some k3 =>
      rw [hc] at e
      simp only [Option.map_some, Option.some.injEq] at e
      rw [List.getElem?_set_ne (fun h => hij h.symm), qs_get hc] at hq2
      exact ⟨k3, rfl, e.symm, .inl ⟨by omega, (Option.some.inj hq2).symm⟩⟩
structure FI (ys : List api_Class) (N : Int) (m : QM) (sv : List Int) : Prop where
  c : m.cl.map (·.c) = ys
  d : DD m
  q : ∀ k ∈ m.cl, aptB k.c = false → k.q = []
  sz : ∀ k ∈ m.cl, ∀ x ∈ k.q, x.size ≤ k.c.Bytes / 2
  n : sv.length = m.n
  sb : ∀ v ∈ sv, 0 ≤ v ∧ v ≤ 65535 * N
  ps : ∀ (i j : Nat) (ci cj : api_Class), i ≠ j → ys[i]? = some ci → ys[j]? = some cj → aptB ci = true → aptB cj = true → sv.getD i 0 * cj.Quantum - sv.getD j 0 * ci.Quantum + m.psi i j ci.Quantum cj.Quantum ≤ ci.Quantum * cj.Quantum + 65535 * cj.Quantum
theorem FI.push {ys : List api_Class} {N : Int} {m : QM} {sv : List Int} (F : FI ys N m sv) {i : Nat} {k : Cl} (hk : m.cl[i]? = some k) (ha : aptB k.c = true) {a : Int} (id : Int) (h1 : 1 ≤ a) (h2 : a ≤ 65535) (h3 : k.q.length < 2) (h4 : a ≤ k.c.Bytes / 2) :
    m.push i a id = ({ m with cl := m.cl.set i { k with q := k.q ++ [⟨a, id⟩] } }, 0) ∧ FI ys N (m.push i a id).1 sv := by
  have hap := aptB_iff.1 ha
  have hs : sizes k.q ≤ k.c.Bytes / 2 := by
    match hq : k.q, h3 with
    | [], _ => simp [sizes]; omega
    | [x], _ =>
      have := F.sz k (List.mem_of_getElem? hk) x (by rw [hq]; simp)
      simpa [sizes] using this
    | _ :: _ :: _, h => simp only [List.length_cons] at h; omega
  have e := push_acc hk id h1 h2 (by omega) (by omega)
  refine ⟨e, (push_c _ _ _ _).trans F.c, F.d.of (push_dc _ _ _ _).1, ?_, ?_, by rw [push_n]; exact F.n, F.sb, fun i j ci cj hij hi hj ai aj => ?_⟩
  · rw [e]
    intro k' hk' ha'
    rcases List.mem_or_eq_of_mem_set hk' with hk' | rfl
    · exact F.q k' hk' ha'
    · simp only [ha] at ha'
      cases ha'
  · rw [e]
    intro k' hk' x hx
    rcases List.mem_or_eq_of_mem_set hk' with hk' | rfl
    · exact F.sz k' hk' x hx
    · simp only [List.mem_append, List.mem_singleton] at hx
      rcases hx with hx | rfl
      · exact F.sz k (List.mem_of_getElem? hk) x hx
      · exact h4
  · rw [psi_of (push_dc _ _ _ _)]
    exact F.ps i j ci cj hij hi hj ai aj
theorem FI.pop {ys : List api_Class} {N : Int} {m m2 : QM} {sv : List Int} (F : FI ys N m sv) (ok : m.Ok) (full : ∀ k ∈ m.cl, aptB k.c = true → 2 ≤ k.q.length) (hN : 0 ≤ N) (hN2 : N ≤ 1000000) {i : Nat} {x : queue_item} {q' : List queue_item} (hp : Pops m (x.id, (i : Int), true) m2) (hq : m.qs[i]? = some (x :: q')) (hx0 : 1 ≤ x.size) (hx1 : x.size ≤ 65535) :
    FI ys (N + 1) m2 (sv.set i (IntKind.wrap .i64 (sv.getD i 0 + x.size))) := by
  have hl := F.n
  have hi : i < m.n := by
    have := (List.getElem?_eq_some_iff.1 hq).1
    unfold QM.qs at this
    unfold QM.n
    simpa using this
  have hsv : sv[i]? = some (sv.getD i 0) := getD_get (by omega)
  have hv := F.sb _ (List.mem_of_getElem? hsv)
  have hw : IntKind.wrap .i64 (sv.getD i 0 + x.size) = sv.getD i 0 + x.size := wrap_i64 (by omega) (by omega)
  rw [hw]
  refine ⟨(hp.c ok).trans F.c, F.d.pop hp ok, fun k2 hk2 ha => ?_, fun k2 hk2 y hy => ?_, by rw [List.length_set, hp.n ok]; exact hl, fun v hv' => ?_, fun a b ca cb hab ha hb aa ab => ?_⟩
  · obtain ⟨j, hj⟩ := List.getElem?_of_mem hk2
    obtain ⟨k, hk, ec, h⟩ := hp.cl ok hj
    have := F.q k (List.mem_of_getElem? hk) (by rw [ec]; exact ha)
    rcases h with ⟨_, h⟩ | ⟨_, x, h⟩
    · rw [h, this]
    · rw [this] at h; cases h
  · obtain ⟨j, hj⟩ := List.getElem?_of_mem hk2
    obtain ⟨k, hk, ec, h⟩ := hp.cl ok hj
    rw [← ec]
    refine F.sz k (List.mem_of_getElem? hk) y ?_
    rcases h with ⟨_, h⟩ | ⟨_, x, h⟩
    · rw [← h]; exact hy
    · rw [h]; simp [hy]
  · rcases List.mem_or_eq_of_mem_set hv' with hv' | rfl
    · have := F.sb v hv'; omega
    · omega
  · have hn := c_len F.c
    have ha' := (List.getElem?_eq_some_iff.1 ha).1
    have hb' := (List.getElem?_eq_some_iff.1 hb).1
    have hka := getD_get (z := default) (l := m.cl) (i := a) (by unfold QM.n at hn; omega)
    have hkb := getD_get (z := default) (l := m.cl) (i := b) (by unfold QM.n at hn; omega)
    generalize m.cl.getD a default = ka at hka
    generalize m.cl.getD b default = kb at hkb
    have eca : ka.c = ca := by have := c_get F.c hka; rw [ha] at this; exact (Option.some.inj this).symm
    have ecb : kb.c = cb := by have := c_get F.c hkb; rw [hb] at this; exact (Option.some.inj this).symm
    have rd : ∀ {t : Nat} {k : Cl}, m.cl[t]? = some k → aptB k.c = true → k.rdy = true ∧ 2 ≤ k.q.length := by
      intro t k hk hap
      have h2 := full k (List.mem_of_getElem? hk) hap
      have h3 := (aptB_iff.1 hap).1
      refine ⟨?_, h2⟩
      unfold Cl.rdy
      cases hkq : k.q with
      | nil => rw [hkq] at h2; simp at h2
      | cons y l => simp [rdy, h3]
    have ra := rd hka (by rw [eca]; exact aa)
    have rb := rd hkb (by rw [ecb]; exact ab)
    have hne : q' ≠ [] ∨ ((i : Int) ≠ a ∧ (i : Int) ≠ b) := by
      have main : ∀ {t : Nat} {k : Cl}, m.cl[t]? = some k → 2 ≤ k.q.length → (i : Int) = t → q' ≠ [] := by
        intro t k hk h2 e
        have : i = t := by omega
        subst this
        rw [qs_get hk] at hq
        have := Option.some.inj hq
        rw [this] at h2
        intro h
        rw [h] at h2
        simp at h2
      by_cases e1 : (i : Int) = a
      · exact .inl (main hka ra.2 e1)
      · by_cases e2 : (i : Int) = b
        · exact .inl (main hkb rb.2 e2)
        · exact .inr ⟨e1, e2⟩
    have hps := psi_pop hp ok hka hkb ra.1 rb.1 hab (x := x) (q' := q') hq hne
    rw [eca, ecb] at hps
    have h0 := F.ps a b ca cb hab ha hb aa ab
    have gs : ∀ t : Nat, (sv.set i (sv.getD i 0 + x.size)).getD t 0 = if t = i then sv.getD i 0 + x.size else sv.getD t 0 := by
      intro t
      split
      · rename_i e
        subst e
        rw [List.getD, List.getElem?_set_self (by omega)]
        rfl
      · rename_i e
        rw [List.getD, List.getElem?_set_ne (fun h => e h.symm)]
        rfl
    rw [gs a, gs b, hps]
    by_cases e1 : a = i
    · have e2 : ¬ b = i := fun h => hab (e1.trans h.symm)
      rw [if_pos e1, if_neg e2, if_pos (by rw [e1]), if_neg (by omega), ← e1, Int.add_mul]
      omega
    · by_cases e2 : b = i
      · rw [if_neg e1, if_pos e2, if_neg (by omega), if_pos (by rw [e2]), ← e2, Int.add_mul]
        omega
      · rw [if_neg e1, if_neg e2, if_neg (by omega), if_neg (by omega)]
        omega
section
variable {W w : World} {Hs R : List HP} {b : Option Addr} {qs : List (List queue_item)} {sv : List Int}
theorem apt_wp (s : Ss W Hs w) (c : api_Class) : WP (weirlaw18_apt c) w (fun r w' => r = aptB c ∧ Ss W Hs w') := by
  unfold weirlaw18_apt aptB
  refine WP.slot' s (fun _ w s => ?_)
  refine WP.step (R := fun y w' => y = decide (c.Rate = 0 ∧ c.Items ≥ 2) ∧ Ss W Hs w') (WP.ite (fun h => WP.ret ⟨by simp [h], s⟩) (fun h => WP.ret ⟨by simp [h], s⟩)) ?_
  rintro _ w ⟨rfl, s⟩
  refine WP.step (R := fun y w' => y = decide (c.Rate = 0 ∧ c.Items ≥ 2 ∧ c.Bytes ≥ 2) ∧ Ss W Hs w') (WP.ite (fun h => WP.ret ⟨by have := of_decide_eq_true h; simp [this.1, this.2], s⟩) (fun h => WP.ret ⟨?_, s⟩)) (fun y w h => WP.ret h)
  symm
  rw [decide_eq_false_iff_not]
  intro h2
  exact h (decide_eq_true ⟨h2.1, h2.2.1⟩)
theorem none_wp (s : Ss W (Book b qs sv :: R) w) (h : ∀ q ∈ qs, q = []) (hn : qs.length ≤ 1000) : WP (weirlaw18_Book_none b) w (fun r w' => r = true ∧ Ss W (Book b qs sv :: R) w') := by
  unfold weirlaw18_Book_none
  refine WP.loop (fun (k : Int) w' => 0 ≤ k ∧ k ≤ qs.length ∧ Ss W (Book b qs sv :: R) w') (fun k _ => ((qs.length : Int) - k).toNat) ⟨by omega, by omega, s⟩ ?_
  rintro k w ⟨k0, k1, s0⟩
  unfold weirlaw18_Book_none.L1
  obtain ⟨ba, xl, y, z, ls, lsp, bsp, ssp, rfl, g1, g2, s⟩ := s0.openB
  have hlx := (s.vec_len (i := 1) rfl).1
  refine WP.nilck (WP.ld s 0 rfl (o := 0) (by simp [Addr.add]) (At_weirlaw18_Book_L _) ?_)
  refine WP.ite (fun hk => WP.nilck ?_) (fun hk => WP.done ⟨rfl, s0⟩)
  simp only [hlx] at hk
  have hq : qs[k.toNat]? = some (qs.getD k.toNat default) := getD_get (by omega)
  have hq0 := h _ (List.mem_of_getElem? hq)
  obtain ⟨sl, hsl⟩ := get_of g1 hq
  have hll := BookHs.len s hsl hq
  rw [hq0] at hll
  refine WP.ld s 0 rfl (o := 0) (by simp [Addr.add]) (At_weirlaw18_Book_L _) ?_
  refine WP.rdx s 1 rfl vec_rdb k0 hsl rfl ?_
  refine WP.ite (fun h => by rw [hll] at h; simp at h) (fun _ => WP.next ?_)
  rw [wrap_i64 (by omega) (by omega)]
  exact ⟨⟨by omega, by omega, s0⟩, by omega⟩
end
abbrev FHs (q1 : Addr) (bk : Option Addr) (l1 : Sl) (ys : List api_Class) (R : List HP) (m : QM) (sv : List Int) : List HP := Queue (some q1) m :: Book bk m.qs sv :: rdS c_api_Class false l1 ys :: R
section
variable {W w : World} {R : List HP} {q1 : Addr} {bk : Option Addr} {l1 : Sl} {ys : List api_Class} {m : QM} {sv : List Int} {N : Int}
/-- one more item of class i -/
theorem fair_K2 {i : Nat} {k : Cl} {turn a : Int} {NX : Int → World → Prop} {DX : LS (Int × Int) (LS (Int × Int) Bool) → World → Prop} (F : FI ys N m sv) (s : Ss W (FHs q1 bk l1 ys R m sv) w) (hk : m.cl[i]? = some k) (ha : aptB k.c = true) (h1 : 1 ≤ a) (h2 : a ≤ 65535) (h3 : k.q.length < 2) (h4 : a ≤ k.c.Bytes / 2)
    (fin : ∀ w', FI ys N { m with cl := m.cl.set i { k with q := k.q ++ [⟨a, N⟩] } } sv → Ss W (FHs q1 bk l1 ys R { m with cl := m.cl.set i { k with q := k.q ++ [⟨a, N⟩] } } sv) w' → NX turn w') : WP (weirlaw18_QueueFair.K2 (some q1, l1) bk N (i : Int) turn a) w (WP.Rd NX DX) := by
  unfold weirlaw18_QueueFair.K2 weirlaw18_num
  obtain ⟨e, F2⟩ := F.push hk ha N h1 h2 h3 h4
  have ok := s.len_ge
  refine WP.step (Push_wp s (i : Int) a N) ?_
  rintro _ w ⟨rfl, s⟩
  refine WP.step (R := fun y w' => y = (m.push (i : Int) a N).2 ∧ w = w') (WP.ret ⟨rfl, rfl⟩) ?_
  rintro _ _ ⟨rfl, rfl⟩
  refine WP.step (pushed_wp (s.use [1] rfl) 1 rfl ok F.c _ _) ?_
  rintro _ w ⟨rfl, s⟩
  refine WP.ite (fun h => absurd (by simp) h) (fun _ => WP.next (fin w (by rw [e] at F2; exact F2) ?_))
  have s := s.use [1] rfl
  simp only at s
  rw [e] at s
  exact s
theorem fair_K3 {i : Nat} {k : Cl} {turn a : Int} {NX : Int → World → Prop} {DX : LS (Int × Int) (LS (Int × Int) Bool) → World → Prop} (F : FI ys N m sv) (s : Ss W (FHs q1 bk l1 ys R m sv) w) (hk : m.cl[i]? = some k) (ha : aptB k.c = true) (h1 : 1 ≤ a) (h2 : a ≤ 4096) (h3 : k.q.length < 2)
    (fin : ∀ a w', FI ys N { m with cl := m.cl.set i { k with q := k.q ++ [⟨a, N⟩] } } sv → Ss W (FHs q1 bk l1 ys R { m with cl := m.cl.set i { k with q := k.q ++ [⟨a, N⟩] } } sv) w' → NX turn w') : WP (weirlaw18_QueueFair.K3 (some q1, l1) bk N (i : Int) turn a) w (WP.Rd NX DX) := by
  unfold weirlaw18_QueueFair.K3
  have hi0 : (0 : Int) ≤ (i : Int) := by omega
  have hyk : ys[(i : Int).toNat]? = some k.c := c_get F.c hk
  have hap := aptB_iff.1 ha
  have ok := s.len_ge
  have hcl := okClass_iff.1 (ok.cl k (List.mem_of_getElem? hk)).c
  have hdv : Int.tdiv k.c.Bytes 2 = k.c.Bytes / 2 := Int.tdiv_eq_ediv_of_nonneg (by omega)
  refine WP.rdxp s 2 rfl rdS_rdb hi0 hyk rfl (At_api_Class_Bytes _) ?_
  rw [hdv, wrap_i64 (by omega) (by omega)]
  refine WP.ite (fun h => ?_) (fun h => fair_K2 F s hk ha h1 (by omega) h3 (by omega) (fin a))
  refine WP.rdxp s 2 rfl rdS_rdb hi0 hyk rfl (At_api_Class_Bytes _) ?_
  rw [hdv, wrap_i64 (by omega) (by omega)]
  exact fair_K2 F s hk ha (by omega) (by omega) h3 (by omega) (fin _)
/-- what fair answers -/
theorem fair_wp {b : Option Addr} {qs : List (List queue_item)} (F : FI ys N m sv) (ok : m.Ok) (s : Ss W (Book b qs sv :: rdS c_api_Class false l1 ys :: R) w) (h0 : 0 ≤ N) (h1 : N ≤ 3000) : WP (weirlaw18_fair l1 b) w (fun r w' => r = true ∧ Ss W (Book b qs sv :: rdS c_api_Class false l1 ys :: R) w') := by
  unfold weirlaw18_fair
  have hl := (s.rd_len (i := 1) rfl rdS_rdb).1
  have hn := c_len F.c
  have h8 := ok.n8
  refine WP.loop (fun (i : Int) w' => 0 ≤ i ∧ i ≤ ys.length ∧ Ss W (Book b qs sv :: rdS c_api_Class false l1 ys :: R) w') (fun i _ => ((ys.length : Int) - i).toNat) ⟨by omega, by omega, s⟩ ?_
  rintro i w ⟨i0, i1, s⟩
  unfold weirlaw18_fair.L1
  refine WP.ite (fun hi => ?_) (fun hi => WP.done ⟨rfl, s⟩)
  rw [hl] at hi
  refine WP.loop (fun (j : Int) w' => 0 ≤ j ∧ j ≤ ys.length ∧ Ss W (Book b qs sv :: rdS c_api_Class false l1 ys :: R) w') (fun j _ => ((ys.length : Int) - j).toNat) ⟨by omega, by omega, s⟩ ?_
  rintro j w ⟨j0, j1, s⟩
  unfold weirlaw18_fair.L2
  refine WP.ite (fun hj => ?_) (fun hj => WP.done ?_)
  · rw [hl] at hj
    have hil : i.toNat < ys.length := by omega
    have hjl : j.toNat < ys.length := by omega
    have hci := List.getElem?_eq_getElem hil
    have hcj := List.getElem?_eq_getElem hjl
    generalize ys[i.toNat] = ci at hci
    generalize ys[j.toNat] = cj at hcj
    have nx : ∀ {w : World}, Ss W (Book b qs sv :: rdS c_api_Class false l1 ys :: R) w → WP (pure (LS.next (IntKind.wrap .i64 (j + 1))) : M (LS Int (LS Int Bool))) w (WP.Rd (fun j' w' => (0 ≤ j' ∧ j' ≤ ys.length ∧ Ss W (Book b qs sv :: rdS c_api_Class false l1 ys :: R) w') ∧ ((ys.length : Int) - j').toNat < ((ys.length : Int) - j).toNat) (WP.Rd (fun i' w' => (0 ≤ i' ∧ i' ≤ ys.length ∧ Ss W (Book b qs sv :: rdS c_api_Class false l1 ys :: R) w') ∧ ((ys.length : Int) - i').toNat < ((ys.length : Int) - i).toNat) (fun r w' => r = true ∧ Ss W (Book b qs sv :: rdS c_api_Class false l1 ys :: R) w'))) := by
      intro w s
      refine WP.next ?_
      rw [wrap_i64 (by omega) (by omega)]
      exact ⟨⟨by omega, by omega, s⟩, by omega⟩
    refine WP.rdx s 1 rfl rdS_rdb i0 hci rfl (WP.step (apt_wp s ci) ?_)
    rintro _ w ⟨rfl, s⟩
    refine WP.step (R := fun y w' => y = (!(aptB ci && aptB cj)) ∧ Ss W (Book b qs sv :: rdS c_api_Class false l1 ys :: R) w') (WP.ite (fun h => WP.ret ⟨by simp at h; simp [h], s⟩) (fun h => ?_)) ?_
    · refine WP.rdx s 1 rfl rdS_rdb j0 hcj rfl (WP.step (apt_wp s cj) ?_)
      rintro _ w ⟨rfl, s⟩
      exact WP.ret ⟨by simp at h; simp [h], s⟩
    rintro _ w ⟨rfl, s⟩
    refine WP.ite (fun _ => nx s) (fun h => WP.draw' s (fun w s => ?_))
    have hap : aptB ci = true ∧ aptB cj = true := by simpa using h
    have hvi : sv[i.toNat]? = some (sv.getD i.toNat 0) := getD_get (by rw [F.n]; omega)
    have hvj : sv[j.toNat]? = some (sv.getD j.toNat 0) := getD_get (by rw [F.n]; omega)
    have bi := F.sb _ (List.mem_of_getElem? hvi)
    have bj := F.sb _ (List.mem_of_getElem? hvj)
    have hka := getD_get (z := default) (l := m.cl) (i := i.toNat) (by unfold QM.n at hn; omega)
    have hkb := getD_get (z := default) (l := m.cl) (i := j.toNat) (by unfold QM.n at hn; omega)
    generalize m.cl.getD i.toNat default = ka at hka
    generalize m.cl.getD j.toNat default = kb at hkb
    have eca : ka.c = ci := by have := c_get F.c hka; rw [hci] at this; exact (Option.some.inj this).symm
    have ecb : kb.c = cj := by have := c_get F.c hkb; rw [hcj] at this; exact (Option.some.inj this).symm
    have qi := okClass_iff.1 (ok.cl ka (List.mem_of_getElem? hka)).c
    have qj := okClass_iff.1 (ok.cl kb (List.mem_of_getElem? hkb)).c
    rw [eca] at qi
    rw [ecb] at qj
    obtain ⟨ba, xl, y, z, ls, lsp, bsp, ssp, rfl, g1, g2, sB⟩ := s.openB
    refine WP.nilck (WP.ld sB 0 rfl (o := 2) rfl (At_weirlaw18_Book_Served _) ?_)
    refine WP.rdx sB 3 rfl vec_rdb i0 hvi rfl ?_
    refine WP.rdxp0 s 1 rfl rdS_rdb j0 hcj rfl (At_api_Class_Quantum _) (WP.nilck ?_)
    refine WP.ld sB 0 rfl (o := 2) rfl (At_weirlaw18_Book_Served _) ?_
    refine WP.rdx sB 3 rfl vec_rdb j0 hvj rfl ?_
    refine WP.rdxp0 s 1 rfl rdS_rdb i0 hci rfl (At_api_Class_Quantum _) ?_
    refine WP.rdxp0 s 1 rfl rdS_rdb i0 hci rfl (At_api_Class_Quantum _) ?_
    refine WP.rdxp0 s 1 rfl rdS_rdb j0 hcj rfl (At_api_Class_Quantum _) ?_
    refine WP.rdxp0 s 1 rfl rdS_rdb i0 hci rfl (At_api_Class_Quantum _) ?_
    refine WP.rdxp0 s 1 rfl rdS_rdb j0 hcj rfl (At_api_Class_Quantum _) ?_
    have m1 := mul_bound bi.1 bi.2 (show 0 ≤ cj.Quantum by omega) qj.2.1
    have m2 := mul_bound bj.1 bj.2 (show 0 ≤ ci.Quantum by omega) qi.2.1
    have m3 := mul_bound (show 0 ≤ ci.Quantum by omega) qi.2.1 (show 0 ≤ cj.Quantum by omega) qj.2.1
    have e3 : 2 * ci.Quantum * cj.Quantum = 2 * (ci.Quantum * cj.Quantum) := Int.mul_assoc _ _ _
    have goal : sv.getD i.toNat 0 * cj.Quantum - sv.getD j.toNat 0 * ci.Quantum ≤ 2 * (ci.Quantum * cj.Quantum) + 65535 * (ci.Quantum + cj.Quantum) := by
      by_cases hij : i.toNat = j.toNat
      · rw [hij] at hci ⊢
        rw [hci] at hcj
        cases hcj
        omega
      · have h2 := F.ps i.toNat j.toNat ci cj hij hci hcj hap.1 hap.2
        have h3 := psi_lo ok F.d hka hkb hij
        rw [eca, ecb] at h3
        omega
    generalize sv.getD i.toNat 0 * cj.Quantum = A at *
    generalize sv.getD j.toNat 0 * ci.Quantum = B at *
    rw [wrap_i64 (n := 2 * ci.Quantum) (by omega) (by omega), e3]
    generalize ci.Quantum * cj.Quantum = C at *
    rw [wrap_i64 (n := A) (by omega) (by omega), wrap_i64 (n := B) (by omega) (by omega), wrap_i64 (n := A - B) (by omega) (by omega), wrap_i64 (n := 2 * C) (by omega) (by omega), wrap_i64 (n := ci.Quantum + cj.Quantum) (by omega) (by omega), wrap_i64 (n := 65535 * (ci.Quantum + cj.Quantum)) (by omega) (by omega), wrap_i64 (by omega) (by omega)]
    exact WP.ite (fun h => by omega) (fun _ => nx s)
  · rw [hl] at hj
    show (_ ∧ _)
    rw [wrap_i64 (by omega) (by omega)]
    exact ⟨⟨by omega, by omega, s⟩, by omega⟩
/-- an apt class that waits is ready -/
theorem apt_rdy {k : Cl} (h : aptB k.c = true) (hq : k.q ≠ []) : k.rdy = true := by
  have h3 := (aptB_iff.1 h).1
  unfold Cl.rdy
  cases hkq : k.q with
  | nil => exact absurd hkq hq
  | cons y l => simp [rdy, h3]
theorem fair_K1 {NX : Int × Int → World → Prop} {DX : Bool → World → Prop} (F : FI ys N m sv) (full : ∀ k ∈ m.cl, aptB k.c = true → 2 ≤ k.q.length) (s : Ss W (FHs q1 bk l1 ys R m sv) w) (h0 : 0 ≤ N) (h1 : N ≤ 3000) (turn : Int)
    (fin : ∀ m' sv' w', FI ys (N + 1) m' sv' → Ss W (FHs q1 bk l1 ys R m' sv') w' → NX (turn, N + 1) w') (dn : ∀ w', Below W.heap.size W w' → DX true w') : WP (weirlaw18_QueueFair.K1 (some q1, l1) bk N turn) w (WP.Rd NX DX) := by
  unfold weirlaw18_QueueFair.K1
  have ok := s.len_ge
  have h8 := ok.n8
  obtain ⟨⟨y, d, is⟩, m2, hp⟩ := Pops.exist ok
  refine WP.step (Pop_wp s hp) ?_
  rintro _ w ⟨rfl, s⟩
  refine WP.ite (fun h => ?_) (fun h => ?_)
  · cases hp with
    | none hs =>
      have hq : ∀ q ∈ m.qs, q = [] := by
        intro q hq
        obtain ⟨k, hk, rfl⟩ := List.mem_map.1 hq
        cases ha : aptB k.c with
        | false => exact F.q k hk ha
        | true =>
          have h2 := full k hk ha
          have hr := apt_rdy ha (fun e => by rw [e] at h2; simp at h2)
          unfold QM.some_ at hs
          rw [List.any_eq_false] at hs
          exact absurd hr (hs k hk)
      refine WP.step (none_wp (s.use [1] rfl) hq (by unfold QM.qs; rw [List.length_map]; unfold QM.n at h8; omega)) ?_
      rintro _ w ⟨rfl, s⟩
      exact WP.done (dn w s.below)
    | item _ _ _ => exact absurd rfl h
  · have : is = true := by simpa using h
    subst this
    obtain ⟨i, x, q', rfl, hi, rfl, hq, hq2, g1, g2, g3, g4⟩ := hp.first ok
    refine WP.step (popped_wp (s.use [1] rfl) hq g1 g2 g3 g4) ?_
    rintro _ w ⟨rfl, s⟩
    rw [← hq2] at s
    refine WP.ite (fun h => absurd rfl h) (fun _ => WP.next ?_)
    rw [wrap_i64 (by omega) (by omega)]
    exact fin m2 _ w (F.pop ok full h0 (by omega) hp hq g1 g2) (s.use [1] rfl)
end
theorem newQ_psi {xs : List api_Class} {m : QM} (ok : m.Ok) (d : DD m) (hc : m.cl.map (·.c) = xs) (n : Nat) : ∀ (i j : Nat) (ci cj : api_Class), i ≠ j → xs[i]? = some ci → xs[j]? = some cj → (List.replicate n (0 : Int)).getD i 0 * cj.Quantum - (List.replicate n (0 : Int)).getD j 0 * ci.Quantum + m.psi i j ci.Quantum cj.Quantum ≤ ci.Quantum * cj.Quantum + 65535 * cj.Quantum := by
  intro i j ci cj hij hi hj
  have z : ∀ t : Nat, (List.replicate n (0 : Int)).getD t 0 = 0 := by
    intro t
    rw [List.getD, List.getElem?_replicate]
    split <;> rfl
  have hn := c_len hc
  have hi' := (List.getElem?_eq_some_iff.1 hi).1
  have hj' := (List.getElem?_eq_some_iff.1 hj).1
  have hka := getD_get (z := default) (l := m.cl) (i := i) (by unfold QM.n at hn; omega)
  have hkb := getD_get (z := default) (l := m.cl) (i := j) (by unfold QM.n at hn; omega)
  generalize m.cl.getD i default = ka at hka
  generalize m.cl.getD j default = kb at hkb
  have eca : ka.c = ci := by have := c_get hc hka; rw [hi] at this; exact (Option.some.inj this).symm
  have ecb : kb.c = cj := by have := c_get hc hkb; rw [hj] at this; exact (Option.some.inj this).symm
  have h2 := psi_hi ok d hka hkb hij
  rw [eca, ecb] at h2
  rw [z, z, Int.zero_mul, Int.zero_mul]
  omega
theorem QueueFair_true : ∀ (W : World) (u0 : Sl) (u1 : Sl) (u2 : Int), (GSl c_api_Class (Try.prog.bytesOf 41) (fun W u => G41 W u) W u0) → (GSl (cI .i64) (Try.prog.bytesOf 3) (fun W u => (Lit.int .i64 u).wf = true) W u1) → ((Lit.int .i64 u2).wf = true) → ∃ W', weirlaw18_QueueFair u0 u1 u2 W = some (true, W') ∧ Below W.heap.size W W' := by
  intro W u0 u1 u2 g0 g1 _
  have b41 : Try.prog.bytesOf 41 = 40 := by kernel_rfl
  have b3 : Try.prog.bytesOf 3 = 8 := by kernel_rfl
  have hr : reachBytes = 140737488351232 := rfl
  obtain ⟨zs, _, ho, s⟩ := (Ss.start W).args g1 (by decide)
  obtain ⟨xs, _, hx, s⟩ := s.args g0 (by decide)
  rw [b3, hr] at ho
  have main : WP (weirlaw18_QueueFair u0 u1 u2) W (fun r W' => r = true ∧ Below W.heap.size W W') := by
    unfold weirlaw18_QueueFair
    refine WP.step (queueOf_wp s 0 rfl) ?_
    rintro ⟨_, l1⟩ w ⟨q1, rfl, s⟩
    refine WP.ite (fun h => by cases h) (fun _ => ?_)
    have okL := ofL_ok xs
    simp only at s
    generalize ofL xs = ys at s okL
    have hn : (newQ ys).n = ys.length := by unfold QM.n newQ; simp
    have ok0 := newQ_ok okL
    have h8 := ok0.n8
    have hl1 := (s.rd_len (i := 1) rfl rdS_rdb).1
    simp only
    rw [hl1]
    refine WP.step (book_wp s (by omega)) ?_
    intro bk w s
    refine WP.step (Push_wp (s.use [1] rfl) 0 1 7) ?_
    rintro _ w ⟨rfl, s⟩
    unfold weirlaw18_num
    refine WP.step (R := fun y w' => y = (0 : Int) ∧ w = w') (WP.ret ⟨first_push okL 7, rfl⟩) ?_
    rintro _ _ ⟨rfl, rfl⟩
    refine WP.ite (fun h => absurd rfl h) (fun _ => ?_)
    -- the first class has one item of one byte
    have hk0 := getD_get (z := default) (i := 0) (l := (newQ ys).cl) (by have := ok0.n0; unfold QM.n at this; omega)
    generalize (newQ ys).cl.getD 0 default = k0 at hk0
    have okk := ok0.cl k0 (List.mem_of_getElem? hk0)
    have hcl := okClass_iff.1 okk.c
    have hkq : k0.q = [] := newQ_fresh ys k0 (List.mem_of_getElem? hk0)
    have hacc := push_acc (i := 0) hk0 (a := 1) 7 (by omega) (by omega) (by rw [hkq]; simp only [List.length_nil]; omega) (by rw [hkq]; simp [sizes]; omega)
    have hacc0 : (newQ ys).push 0 1 7 = _ := hacc
    have ok1 := s.len_ge
    obtain ⟨⟨y, d, is⟩, m2, hp⟩ := Pops.exist ok1
    have hqs1 : ((newQ ys).push 0 1 7).1.qs = (List.replicate ys.length []).set 0 [⟨1, 7⟩] := by
      rw [hacc0]
      unfold QM.qs
      simp only [List.map_set]
      have := newQ_qs ys
      unfold QM.qs at this
      rw [this, hkq]
      rfl
    have his : is = true := by
      rw [hp.is, hacc0]
      unfold QM.some_
      rw [List.any_eq_true]
      refine ⟨{ k0 with q := k0.q ++ [⟨1, 7⟩] }, List.mem_of_getElem? (i := 0) (List.getElem?_set_self (List.getElem?_eq_some_iff.1 hk0).1), ?_⟩
      unfold Cl.rdy
      rw [hkq]
      have htok : k0.tok = k0.c.Burst := by
        unfold newQ at hk0
        simp only [List.getElem?_map, Option.map_eq_some_iff] at hk0
        obtain ⟨c, _, rfl⟩ := hk0
        rfl
      simp only [List.nil_append, rdy, Bool.or_eq_true, beq_iff_eq, decide_eq_true_eq]
      omega
    subst his
    obtain ⟨i, x, q', hdi, hi, hyx, hq, hq2, g1, g2, g3, g4⟩ := hp.first ok1
    have hi0 : i = 0 := by
      rw [hqs1] at hq
      by_cases e : i = 0
      · exact e
      · rw [List.getElem?_set_ne (fun h => e h.symm)] at hq
        have := List.eq_of_mem_replicate (List.mem_of_getElem? hq)
        cases this
    subst hi0
    have hxq : x = ⟨1, 7⟩ ∧ q' = [] := by
      rw [hqs1, List.getElem?_set_self (by have := ok0.n0; rw [List.length_replicate]; omega)] at hq
      have := Option.some.inj hq
      simp only [List.cons.injEq] at this
      exact ⟨this.1.symm, this.2.symm⟩
    obtain ⟨rfl, rfl⟩ := hxq
    subst hdi hyx
    refine WP.step (Pop_wp s hp) ?_
    rintro _ w ⟨rfl, s⟩
    refine WP.step (R := fun y w' => y = false ∧ w = w') (WP.ite (fun h => absurd rfl h) (fun _ => WP.ret ⟨rfl, rfl⟩)) ?_
    rintro _ _ ⟨rfl, rfl⟩
    refine WP.step (R := fun y w' => y = false ∧ w = w') (WP.ite (fun h => by cases h) (fun _ => WP.ret ⟨rfl, rfl⟩)) ?_
    rintro _ _ ⟨rfl, rfl⟩
    refine WP.ite (fun h => by cases h) (fun _ => ?_)
    have hm2 : m2.qs = List.replicate ys.length [] := by
      rw [hq2, hqs1, List.set_set]
      refine set_eq ?_
      rw [List.getElem?_replicate, if_pos (by have := ok0.n0; omega)]
    have ok2 := s.len_ge
    have hc2 : m2.cl.map (·.c) = ys := (hp.c ok1).trans ((push_c _ _ _ _).trans (newQ_c ys))
    have hd2 : DD m2 := DD.pop hp ok1 ((newQ_DD ys okL).of (push_dc _ _ _ _).1)
    have hmq : ∀ k ∈ m2.cl, k.q = [] := by
      intro k hk
      have : k.q ∈ m2.qs := List.mem_map.2 ⟨k, hk, rfl⟩
      rw [hm2] at this
      exact List.eq_of_mem_replicate this
    have F0 : FI ys 0 m2 (List.replicate ys.length 0) := ⟨hc2, hd2, fun k hk _ => hmq k hk, fun k hk x hx => by rw [hmq k hk] at hx; simp at hx, by rw [List.length_replicate, c_len hc2], fun v hv => by rw [List.eq_of_mem_replicate hv]; omega, fun i j ci cj hij h1 h2 _ _ => newQ_psi ok2 hd2 hc2 _ i j ci cj hij h1 h2⟩
    have s : Ss W (FHs q1 bk l1 ys [rdS c_api_Class false u0 xs, rdS (cI .i64) false u1 zs] m2 (List.replicate ys.length 0)) w := by
      show Ss W (Queue (some q1) m2 :: Book bk m2.qs _ :: _) w
      rw [hm2]
      exact s
    have hlz := (s.rd_len (i := 4) rfl rdS_rdb).1
    refine WP.loop (fun (x : Int × Int) w' => 0 ≤ x.1 ∧ x.1 ≤ zs.length ∧ 0 ≤ x.2 ∧ x.2 ≤ 3000 ∧ ∃ m sv, FI ys x.2 m sv ∧ Ss W (FHs q1 bk l1 ys [rdS c_api_Class false u0 xs, rdS (cI .i64) false u1 zs] m sv) w') (fun x _ => (3000 - x.2).toNat) ⟨by simp, by simp, by simp, by simp, m2, _, F0, s⟩ ?_
    rintro ⟨turn, N⟩ w ⟨t0, t1, n0, n1, m, sv, F, s⟩
    simp only at t0 t1 n0 n1 F
    show WP (weirlaw18_QueueFair.L1 u1 u2 (some q1, l1) bk turn N) w _
    unfold weirlaw18_QueueFair.L1
    refine WP.step (R := fun y w' => y = decide (N < u2 ∧ N < 3000) ∧ w = w') (WP.ite (fun h => WP.ret ⟨by simp [h], rfl⟩) (fun h => WP.ret ⟨by simp [h], rfl⟩)) ?_
    rintro _ _ ⟨rfl, rfl⟩
    have ok := s.len_ge
    refine WP.ite (fun h => ?_) (fun h => ?_)
    rotate_left
    · refine WP.step (fair_wp F ok (s.use [1, 1] rfl) n0 n1) ?_
      rintro _ w ⟨rfl, s⟩
      exact WP.done ⟨rfl, s.below⟩
    have hN := (of_decide_eq_true h).2
    refine WP.loop (fun (x : Int × Int) w' => 0 ≤ x.1 ∧ x.1 ≤ zs.length ∧ 0 ≤ x.2 ∧ x.2 ≤ ys.length ∧ ∃ m, FI ys N m sv ∧ (∀ (j : Nat) (k : Cl), j < x.2.toNat → m.cl[j]? = some k → aptB k.c = true → 2 ≤ k.q.length) ∧ Ss W (FHs q1 bk l1 ys [rdS c_api_Class false u0 xs, rdS (cI .i64) false u1 zs] m sv) w') (fun x _ => ((ys.length : Int) - x.2).toNat) ⟨t0, t1, by simp, by simp, m, F, fun j k h => by simp at h, s⟩ ?_
    rintro ⟨turn, i⟩ w ⟨t0, t1, i0, i1, m, F, full, s⟩
    simp only at t0 t1 i0 i1 full
    show WP (weirlaw18_QueueFair.L2 u1 (some q1, l1) bk N turn i) w _
    unfold weirlaw18_QueueFair.L2
    refine WP.ite (fun hi => ?_) (fun hi => ?_)
    · simp only [hl1] at hi
      refine WP.loopG (fun (m : QM) (turn : Int) w' => 0 ≤ turn ∧ turn ≤ zs.length ∧ FI ys N m sv ∧ (∀ (j : Nat) (k : Cl), j < i.toNat → m.cl[j]? = some k → aptB k.c = true → 2 ≤ k.q.length) ∧ Ss W (FHs q1 bk l1 ys [rdS c_api_Class false u0 xs, rdS (cI .i64) false u1 zs] m sv) w') (fun m _ => 2 - (m.cl.getD i.toNat default).q.length) m ⟨t0, t1, F, full, s⟩ ?_
      rintro m turn w ⟨t0, t1, F, full, s⟩
      unfold weirlaw18_QueueFair.L3
      have ok := s.len_ge
      have hcn := c_len F.c
      obtain ⟨i, rfl⟩ : ∃ n : Nat, i = n := ⟨i.toNat, by omega⟩
      simp only [Int.toNat_natCast] at full ⊢
      have hil : i < m.cl.length := by unfold QM.n at hcn; omega
      have hk := getD_get (z := default) hil
      generalize hkk : m.cl.getD i default = k at hk
      have hyk : ys[(i : Int).toNat]? = some k.c := c_get F.c hk
      refine WP.rdx s 2 rfl rdS_rdb i0 hyk rfl (WP.step (apt_wp s _) ?_)
      rintro _ w ⟨rfl, s⟩
      refine WP.step (R := fun y w' => y = decide (aptB k.c = true ∧ k.q.length < 2) ∧ w = w') (WP.ite (fun ha => ?_) (fun ha => WP.ret ⟨by simp [ha], rfl⟩)) ?_
      · obtain ⟨ba, xl, y, z, ls, lsp, bsp, ssp, rfl, g1, g2, sB⟩ := (s.use [1] rfl).openB
        have hq := qs_get hk
        obtain ⟨sl, hsl⟩ := get_of g1 hq
        have hsl' : ls[(i : Int).toNat]? = some sl := hsl
        have hll := BookHs.len sB hsl hq
        refine WP.nilck (WP.ld sB 0 rfl (o := 0) (by simp [Addr.add]) (At_weirlaw18_Book_L _) ?_)
        refine WP.rdx sB 1 rfl vec_rdb i0 hsl' rfl (WP.ret ⟨?_, rfl⟩)
        rw [hll]
        simp [ha]
        omega
      rintro _ _ ⟨rfl, rfl⟩
      refine WP.ite (fun h => ?_) (fun h => WP.done ?_)
      · obtain ⟨ha, hlen⟩ := of_decide_eq_true h
        have fin : ∀ (turn' : Int), 0 ≤ turn' → turn' ≤ zs.length → ∀ (a : Int) (w' : World), FI ys N { m with cl := m.cl.set i { k with q := k.q ++ [⟨a, N⟩] } } sv → Ss W (FHs q1 bk l1 ys [rdS c_api_Class false u0 xs, rdS (cI .i64) false u1 zs] { m with cl := m.cl.set i { k with q := k.q ++ [⟨a, N⟩] } } sv) w' →
            ∃ m', (0 ≤ turn' ∧ turn' ≤ zs.length ∧ FI ys N m' sv ∧ (∀ (j : Nat) (k : Cl), j < i → m'.cl[j]? = some k → aptB k.c = true → 2 ≤ k.q.length) ∧ Ss W (FHs q1 bk l1 ys [rdS c_api_Class false u0 xs, rdS (cI .i64) false u1 zs] m' sv) w') ∧ 2 - (m'.cl.getD i default).q.length < 2 - k.q.length := by
          intro turn' u0' u1' a w' F' s'
          refine ⟨_, ⟨u0', u1', F', fun j k' hj hk' => full j k' hj ?_, s'⟩, ?_⟩
          · rw [← hk']
            exact (List.getElem?_set_ne (by omega)).symm
          · show 2 - ((m.cl.set i { k with q := k.q ++ [⟨a, N⟩] }).getD i default).q.length < 2 - k.q.length
            rw [List.getD, List.getElem?_set_self hil]
            simp only [Option.getD_some, List.length_append, List.length_cons, List.length_nil]
            omega
        refine WP.ite (fun hz => ?_) (fun hz => fair_K3 F s hk ha (by omega) (by omega) hlen (fin turn t0 t1))
        rw [hlz] at hz
        have hzl : turn.toNat < zs.length := by omega
        have hzx := List.getElem?_eq_getElem hzl
        generalize zs[turn.toNat] = z at hzx
        have hb := band_mask z (m := 4095) (by omega) (by omega)
        refine WP.rdx s 4 rfl rdS_rdb t0 hzx rfl ?_
        rw [wrap_i64 (n := turn + 1) (by omega) (by omega), wrap_i64 (n := 1 + band .i64 z 4095) (by omega) (by omega)]
        exact fair_K3 F s hk ha (by omega) (by omega) hlen (fin (turn + 1) (by omega) (by omega))
      · have h : ¬ (aptB k.c = true ∧ k.q.length < 2) := fun hx => h (decide_eq_true hx)
        show (_ ∧ _)
        rw [wrap_i64 (by omega) (by omega)]
        refine ⟨⟨t0, t1, by simp only; omega, by simp only; omega, m, F, fun j k' hj hk' ha => ?_, s⟩, by simp only; omega⟩
        simp only at hj
        by_cases e : j = i
        · subst e
          rw [hk] at hk'
          cases hk'
          refine Nat.le_of_not_lt (fun hx => h ⟨ha, hx⟩)
        · exact full j k' (by omega) hk' ha
    · simp only [hl1] at hi
      refine WP.step (fair_K1 F (fun k hk => ?_) s n0 n1 turn (NX := fun x w' => (0 ≤ x.1 ∧ x.1 ≤ zs.length ∧ 0 ≤ x.2 ∧ x.2 ≤ 3000 ∧ ∃ m sv, FI ys x.2 m sv ∧ Ss W (FHs q1 bk l1 ys [rdS c_api_Class false u0 xs, rdS (cI .i64) false u1 zs] m sv) w') ∧ (3000 - x.2).toNat < (3000 - N).toNat) (DX := fun r w' => r = true ∧ Below W.heap.size W w') (fun m' sv' w' F' s' => ⟨⟨t0, t1, by simp only; omega, by simp only; omega, m', sv', F', s'⟩, by simp only; omega⟩) (fun w' hb => ⟨rfl, hb⟩)) (fun r w h => WP.done h)
      obtain ⟨j, hj⟩ := List.getElem?_of_mem hk
      have := (List.getElem?_eq_some_iff.1 hj).1
      have hcn := c_len F.c
      exact full j k (by unfold QM.n at hcn; omega) hj
  obtain ⟨r, W', h1, rfl, h2⟩ := main
  exact ⟨W', h1, h2⟩
end Go.Proofs.Ytgddbpmfendaeaa.Lx
