/- The law QueueEven, of its program in the M-world: of any two classes, shaped or not, over every stretch in which both wait and are not held up, neither is served too far ahead: it answers true, and nothing that was there is turned. -/
import Derived.Test.YtgddbpmfendaeaaQueuePsi
import Derived.Test.YtgddbpmfendaeaaQueuePurse
import Derived.Test.YtgddbpmfendaeaaLxQ
set_option linter.unusedVariables false
set_option linter.unusedSimpArgs false
namespace Go.Proofs.Ytgddbpmfendaeaa.Lx
open Go Go.Proofs Go.RowKit

/-- the stretch of classes a and b behind a Pop of so many bytes of class c -/
def evenP (was is : List Bool) (c : Nat) (size : Int) (a b : Nat) (x : weirlaw18_Pair) : weirlaw18_Pair :=
  if (was.getD a false && was.getD b false && is.getD a false && is.getD b false) = true then ⟨x.A + (if a = c then size else 0), x.B + (if b = c then size else 0)⟩ else ⟨0, 0⟩
structure EI (ys : List api_Class) (N : Int) (m : QM) (sv ts : List Int) (prs : List weirlaw18_Pair) : Prop where
  c : m.cl.map (·.c) = ys
  d : DD m
  p : PT ts m
  n : sv.length = m.n
  sb : ∀ v ∈ sv, 0 ≤ v ∧ v ≤ 65535 * N
  pl : prs.length = m.n * m.n
  pb : ∀ x ∈ prs, 0 ≤ x.A ∧ x.A ≤ 65535 * N ∧ 0 ≤ x.B ∧ x.B ≤ 65535 * N
  pe : ∀ (a b : Nat) (ca cb : api_Class) (x : weirlaw18_Pair), a ≠ b → ys[a]? = some ca → ys[b]? = some cb → prs[a * m.n + b]? = some x → x.A * cb.Quantum - x.B * ca.Quantum + m.psi a b ca.Quantum cb.Quantum ≤ ca.Quantum * cb.Quantum + 65535 * cb.Quantum
  pd : ∀ (a : Nat) (x : weirlaw18_Pair), a < m.n → prs[a * m.n + a]? = some x → x.A = x.B
theorem EI.keep {ys : List api_Class} {N : Int} {m m2 : QM} {sv ts ts2 : List Int} {prs : List weirlaw18_Pair} (F : EI ys N m sv ts prs) (hc : m2.cl.map (·.c) = m.cl.map (·.c)) (hd : m2.cl.map (fun k => (k.d, k.c)) = m.cl.map (fun k => (k.d, k.c)) ∧ m2.at_ = m.at_ ∧ m2.given = m.given) (hp : PT ts2 m2) : EI ys N m2 sv ts2 prs := by
  have hn : m2.n = m.n := by
    have := congrArg List.length hc
    simpa [QM.n] using this
  refine ⟨hc.trans F.c, F.d.of hd.1, hp, by rw [hn]; exact F.n, F.sb, by rw [hn]; exact F.pl, F.pb, fun a b ca cb x h1 h2 h3 h4 => ?_, fun a x h1 h2 => ?_⟩
  · rw [hn] at h4
    rw [psi_of hd]
    exact F.pe a b ca cb x h1 h2 h3 h4
  · rw [hn] at h1 h2
    exact F.pd a x h1 h2
theorem EI.more {ys : List api_Class} {N N2 : Int} {m : QM} {sv ts : List Int} {prs : List weirlaw18_Pair} (F : EI ys N m sv ts prs) (h : N ≤ N2) : EI ys N2 m sv ts prs :=
  ⟨F.c, F.d, F.p, F.n, fun v hv => by have := F.sb v hv; omega, F.pl, fun x hx => by have := F.pb x hx; omega, F.pe, F.pd⟩
/-- one pair, behind a Pop -/
theorem even_step {ys : List api_Class} {N : Int} {m m2 : QM} {sv ts : List Int} {prs : List weirlaw18_Pair} (F : EI ys N m sv ts prs) (ok : m.Ok) (h0 : 0 ≤ N) {i : Nat} {x : queue_item} {q' : List queue_item} (hp : Pops m (x.id, (i : Int), true) m2) (hq : m.qs[i]? = some (x :: q')) (hqs : m2.qs = m.qs.set i q') (hx0 : 1 ≤ x.size) (hx1 : x.size ≤ 65535)
    {a b : Nat} {ca cb : api_Class} {pr pr' : weirlaw18_Pair} (ha : ys[a]? = some ca) (hb : ys[b]? = some cb) (hpr : prs[a * m.n + b]? = some pr) (e : pr' = evenP (m.cl.map Cl.rdy) (m2.cl.map Cl.rdy) i x.size a b pr) :
    (0 ≤ pr'.A ∧ pr'.A ≤ 65535 * (N + 1) ∧ 0 ≤ pr'.B ∧ pr'.B ≤ 65535 * (N + 1)) ∧ (a ≠ b → pr'.A * cb.Quantum - pr'.B * ca.Quantum + m2.psi a b ca.Quantum cb.Quantum ≤ ca.Quantum * cb.Quantum + 65535 * cb.Quantum) ∧ (a = b → pr'.A = pr'.B) := by
  have ok2 := hp.ok ok
  have hn := c_len F.c
  have ha' := (List.getElem?_eq_some_iff.1 ha).1
  have hb' := (List.getElem?_eq_some_iff.1 hb).1
  have hbd := F.pb pr (List.mem_of_getElem? hpr)
  have hc2 : m2.cl.map (·.c) = ys := (hp.c ok).trans F.c
  have hn2 := c_len hc2
  have hka := getD_get (z := default) (l := m.cl) (i := a) (by unfold QM.n at hn; omega)
  have hkb := getD_get (z := default) (l := m.cl) (i := b) (by unfold QM.n at hn; omega)
  have hla := getD_get (z := default) (l := m2.cl) (i := a) (by unfold QM.n at hn2; omega)
  have hlb := getD_get (z := default) (l := m2.cl) (i := b) (by unfold QM.n at hn2; omega)
  generalize m.cl.getD a default = ka at hka
  generalize m.cl.getD b default = kb at hkb
  generalize m2.cl.getD a default = la at hla
  generalize m2.cl.getD b default = lb at hlb
  have eca : ka.c = ca := by have := c_get F.c hka; rw [ha] at this; exact (Option.some.inj this).symm
  have ecb : kb.c = cb := by have := c_get F.c hkb; rw [hb] at this; exact (Option.some.inj this).symm
  have fca : la.c = ca := by have := c_get hc2 hla; rw [ha] at this; exact (Option.some.inj this).symm
  have fcb : lb.c = cb := by have := c_get hc2 hlb; rw [hb] at this; exact (Option.some.inj this).symm
  have g : ∀ {m : QM} {t : Nat} {k : Cl}, m.cl[t]? = some k → (m.cl.map Cl.rdy).getD t false = k.rdy := by
    intro m t k hk
    rw [List.getD, List.getElem?_map, hk]
    rfl
  unfold evenP at e
  rw [g hka, g hkb, g hla, g hlb] at e
  split at e
  · rename_i hr
    simp only [Bool.and_eq_true] at hr
    obtain ⟨⟨⟨r1, r2⟩, r3⟩, r4⟩ := hr
    subst e
    refine ⟨⟨by simp only; split <;> omega, by simp only; split <;> omega, by simp only; split <;> omega, by simp only; split <;> omega⟩, fun hab => ?_, fun hab => ?_⟩
    · have rq : ∀ {t : Nat} {k : Cl}, m2.cl[t]? = some k → k.rdy = true → (i : Int) = t → q' ≠ [] := by
        intro t k hk hr e hq0
        have e' : i = t := by omega
        subst e'
        have h1 := qs_get hk
        have hi := (List.getElem?_eq_some_iff.1 hq).1
        rw [hqs, List.getElem?_set_self hi, hq0] at h1
        have : k.q = [] := (Option.some.inj h1).symm
        unfold Cl.rdy at hr
        rw [this] at hr
        cases hr
      have hne : q' ≠ [] ∨ ((i : Int) ≠ a ∧ (i : Int) ≠ b) := by
        by_cases e1 : (i : Int) = a
        · exact .inl (rq hla r3 e1)
        · by_cases e2 : (i : Int) = b
          · exact .inl (rq hlb r4 e2)
          · exact .inr ⟨e1, e2⟩
      have hps := psi_pop hp ok hka hkb r1 r2 hab (x := x) (q' := q') hq hne
      rw [eca, ecb] at hps
      have h0 := F.pe a b ca cb pr hab ha hb hpr
      simp only
      rw [hps, Int.add_mul, Int.add_mul]
      by_cases e1 : a = i
      · have e2 : ¬ b = i := fun h => hab (e1.trans h.symm)
        rw [if_pos e1, if_neg e2, if_pos (by rw [e1]), if_neg (by omega), Int.zero_mul]
        omega
      · by_cases e2 : b = i
        · rw [if_neg e1, if_pos e2, if_neg (by omega), if_pos (by rw [e2]), Int.zero_mul]
          omega
        · rw [if_neg e1, if_neg e2, if_neg (by omega), if_neg (by omega), Int.zero_mul, Int.zero_mul]
          omega
    · subst hab
      have := F.pd a pr (by omega) hpr
      simp only
      rw [this]
  · subst e
    refine ⟨⟨by simp only; omega, by simp only; omega, by simp only; omega, by simp only; omega⟩, fun hab => ?_, fun _ => rfl⟩
    have h2 := psi_hi ok2 (F.d.pop hp ok) hla hlb hab
    rw [fca, fcb] at h2
    simp only [Int.zero_mul]
    omega
theorem pair_split {n t : Nat} (h : 0 < n) : t = t / n * n + t % n := by rw [Nat.mul_comm]; exact (Nat.div_add_mod t n).symm
/-- all of them -/
theorem EI.pop {ys : List api_Class} {N : Int} {m m2 : QM} {sv ts ts2 : List Int} {prs prs2 : List weirlaw18_Pair} (F : EI ys N m sv ts prs) (ok : m.Ok) (h0 : 0 ≤ N) (h1 : N ≤ 1000000000) {i : Nat} {x : queue_item} {q' : List queue_item} (hp : Pops m (x.id, (i : Int), true) m2) (hq : m.qs[i]? = some (x :: q')) (hqs : m2.qs = m.qs.set i q') (hx0 : 1 ≤ x.size) (hx1 : x.size ≤ 65535) (hpt : PT ts2 m2)
    (hl : prs2.length = prs.length) (h2 : ∀ (a b : Nat) (pr : weirlaw18_Pair), a < m.n → b < m.n → prs[a * m.n + b]? = some pr → prs2[a * m.n + b]? = some (evenP (m.cl.map Cl.rdy) (m2.cl.map Cl.rdy) i x.size a b pr)) : EI ys (N + 1) m2 (sv.set i (IntKind.wrap .i64 (sv.getD i 0 + x.size))) ts2 prs2 := by
  have hn := c_len F.c
  have hn2 : m2.n = m.n := hp.n ok
  have hnl := F.n
  have hi : i < m.n := by
    have := (List.getElem?_eq_some_iff.1 hq).1
    unfold QM.qs at this
    unfold QM.n
    simpa using this
  have hsv : sv[i]? = some (sv.getD i 0) := getD_get (by omega)
  have hv := F.sb _ (List.mem_of_getElem? hsv)
  have hw : IntKind.wrap .i64 (sv.getD i 0 + x.size) = sv.getD i 0 + x.size := wrap_i64 (by omega) (by omega)
  have step : ∀ (a b : Nat) (x2 : weirlaw18_Pair), a < m.n → b < m.n → prs2[a * m.n + b]? = some x2 → ∃ pr ca cb, ys[a]? = some ca ∧ ys[b]? = some cb ∧ prs[a * m.n + b]? = some pr ∧ x2 = evenP (m.cl.map Cl.rdy) (m2.cl.map Cl.rdy) i x.size a b pr := by
    intro a b x2 ha hb hx
    have hlt := (List.getElem?_eq_some_iff.1 hx).1
    have hpr := List.getElem?_eq_getElem (l := prs) (i := a * m.n + b) (by omega)
    refine ⟨_, _, _, List.getElem?_eq_getElem (by omega), List.getElem?_eq_getElem (by omega), hpr, ?_⟩
    have := h2 a b _ ha hb hpr
    rw [hx] at this
    exact Option.some.inj this
  rw [hw]
  refine ⟨(hp.c ok).trans F.c, F.d.pop hp ok, hpt, by rw [List.length_set, hn2]; exact hnl, fun v hv' => ?_, by rw [hl, hn2]; exact F.pl, fun x2 hx2 => ?_, fun a b ca cb x2 hab ha hb hx2 => ?_, fun a x2 ha hx2 => ?_⟩
  · rcases List.mem_or_eq_of_mem_set hv' with hv' | rfl
    · have := F.sb v hv'; omega
    · omega
  · obtain ⟨t, ht⟩ := List.getElem?_of_mem hx2
    have hlt := (List.getElem?_eq_some_iff.1 ht).1
    have hpl := F.pl
    have hsp := pair_split (n := m.n) (t := t) (by omega)
    have hm := Nat.mod_lt t (show 0 < m.n by omega)
    have hd : t / m.n < m.n := by rw [Nat.div_lt_iff_lt_mul (by omega)]; omega
    rw [hsp] at ht
    obtain ⟨pr, ca, cb, e1, e2, e3, e4⟩ := step _ _ _ hd hm ht
    exact (even_step F ok h0 hp hq hqs hx0 hx1 e1 e2 e3 e4).1
  · rw [hn2] at hx2
    have ha' := (List.getElem?_eq_some_iff.1 ha).1
    have hb' := (List.getElem?_eq_some_iff.1 hb).1
    obtain ⟨pr, ca', cb', e1, e2, e3, e4⟩ := step a b _ (by omega) (by omega) hx2
    exact (even_step F ok h0 hp hq hqs hx0 hx1 ha hb e3 e4).2.1 hab
  · rw [hn2] at hx2 ha
    obtain ⟨pr, ca', cb', e1, e2, e3, e4⟩ := step a a _ ha ha hx2
    exact (even_step F ok h0 hp hq hqs hx0 hx1 e1 e2 e3 e4).2.2 rfl
section
variable {W w : World} {R : List HP} {p b : Option Addr} {ts sv : List Int}
theorem all_wp {m : QM} {l : Sl} {xs : List api_Class} (s : Ss W R w) {ip ib i : Nat} (ep : nth R ip = some (Purse p ts)) (eb : nth R ib = some (Book b m.qs sv)) (e : nth R i = some (rdS c_api_Class false l xs)) (ok : m.Ok) (hx : m.cl.map (·.c) = xs) (hp : PT ts m) :
    WP (weirlaw18_all l b p) w (fun r w' => ∃ sp, Ss W (vec cB r (m.cl.map Cl.rdy) sp :: R) w') := by
  unfold weirlaw18_all
  have hl := (s.rd_len e rdS_rdb).1
  have hn := c_len hx
  have h8 := ok.n8
  refine WP.loop (fun (x : Sl × Int) w' => 0 ≤ x.2 ∧ x.2 ≤ m.n ∧ ∃ sp, Ss W (vec cB x.1 ((m.cl.take x.2.toNat).map Cl.rdy) sp :: R) w') (fun x _ => ((m.n : Int) - x.2).toNat) ⟨by simp, by simp, [], s.mk0 vec_nil⟩ ?_
  rintro ⟨sl, k⟩ w ⟨k0, k1, sp, s⟩
  simp only at k0 k1 s
  show WP (weirlaw18_all.L1 l b p sl k) w _
  unfold weirlaw18_all.L1
  refine WP.ite (fun hk => ?_) (fun hk => ?_)
  · rw [hl] at hk
    have hkl : k.toNat < m.cl.length := by unfold QM.n at hn; omega
    have hkk : m.cl[k.toNat]? = some m.cl[k.toNat] := List.getElem?_eq_getElem hkl
    refine WP.step (ready_wp' s (ip := ip + 1) (ib := ib + 1) (i := i + 1) ep eb e ok hx hp k0 hkk) ?_
    rintro _ w ⟨rfl, s⟩
    refine WP.slot' s (fun _ w s => ?_)
    refine WP.appl s 0 rfl (by simp only [List.length_map, List.length_take, List.length_cons, List.length_nil]; omega) (by decide) (fun r w sp' s => WP.next ?_)
    rw [wrap_i64 (by omega) (by omega)]
    refine ⟨⟨by simp only; omega, by simp only; omega, sp', ?_⟩, by simp only; omega⟩
    simp only
    rw [show (k + 1).toNat = k.toNat + 1 by omega, List.take_add_one, hkk, List.map_append]
    exact s
  · have : k.toNat = m.n := by rw [hl] at hk; omega
    rw [this, show m.cl.take m.n = m.cl from List.take_length] at s
    exact WP.done ⟨sp, s⟩
end
section
variable {W w : World} {R Hs : List HP} {l pl : Sl} {ys : List api_Class} {prs : List weirlaw18_Pair}
theorem even_K1 {i j : Nat} {ci cj : api_Class} {x : weirlaw18_Pair} {NX : Int → World → Prop} {DX : LS Int Bool → World → Prop} (s : Ss W (vec c_weirlaw18_Pair pl prs [] :: R) w) {il : Nat} (el : nth R il = some (rdS c_api_Class false l ys)) (h8 : ys.length ≤ 8) (hi : ys[i]? = some ci) (hj : ys[j]? = some cj) (hx : prs[i * ys.length + j]? = some x)
    (qi : 64 ≤ ci.Quantum ∧ ci.Quantum ≤ 65535) (qj : 64 ≤ cj.Quantum ∧ cj.Quantum ≤ 65535) (hA : 0 ≤ x.A ∧ x.A ≤ 70000000000000) (hB : 0 ≤ x.B ∧ x.B ≤ 70000000000000)
    (hle : x.A * cj.Quantum - x.B * ci.Quantum ≤ 2 * (ci.Quantum * cj.Quantum) + 65535 * (ci.Quantum + cj.Quantum)) (fin : ∀ w', Ss W (vec c_weirlaw18_Pair pl prs [] :: R) w' → NX ((j : Int) + 1) w') : WP (weirlaw18_even.K1 l pl (i : Int) (j : Int)) w (WP.Rd NX DX) := by
  unfold weirlaw18_even.K1
  have hl := (s.rd_len (i := il + 1) el rdS_rdb).1
  have i0 : (0 : Int) ≤ (i : Int) := by omega
  have j0 : (0 : Int) ≤ (j : Int) := by omega
  have hi' := (List.getElem?_eq_some_iff.1 hi).1
  have hj' := (List.getElem?_eq_some_iff.1 hj).1
  have mb := mul_bound i0 (show (i : Int) ≤ 8 by omega) (show (0 : Int) ≤ (ys.length : Int) by omega) (show (ys.length : Int) ≤ 8 by omega)
  have hk : IntKind.wrap .i64 (IntKind.wrap .i64 ((i : Int) * (l.len : Int)) + (j : Int)) = ((i * ys.length + j : Nat) : Int) := by
    rw [hl, wrap_i64 (n := (i : Int) * (ys.length : Int)) (by omega) (by omega), wrap_i64 (by omega) (by omega)]
    simp
  have k0 : (0 : Int) ≤ ((i * ys.length + j : Nat) : Int) := by omega
  have hx' : prs[((i * ys.length + j : Nat) : Int).toNat]? = some x := by rw [Int.toNat_natCast]; exact hx
  refine WP.draw' s (fun w s => ?_)
  rw [hk]
  refine WP.rdxp0 s 0 rfl vec_rdb k0 hx' rfl (At_weirlaw18_Pair_A _) ?_
  refine WP.rdxp0 s (il + 1) el rdS_rdb j0 hj rfl (At_api_Class_Quantum _) ?_
  refine WP.rdxp s 0 rfl vec_rdb k0 hx' rfl (At_weirlaw18_Pair_B _) ?_
  refine WP.rdxp0 s (il + 1) el rdS_rdb i0 hi rfl (At_api_Class_Quantum _) ?_
  refine WP.rdxp0 s (il + 1) el rdS_rdb i0 hi rfl (At_api_Class_Quantum _) ?_
  refine WP.rdxp0 s (il + 1) el rdS_rdb j0 hj rfl (At_api_Class_Quantum _) ?_
  refine WP.rdxp0 s (il + 1) el rdS_rdb i0 hi rfl (At_api_Class_Quantum _) ?_
  refine WP.rdxp0 s (il + 1) el rdS_rdb j0 hj rfl (At_api_Class_Quantum _) ?_
  have m1 := mul_bound hA.1 hA.2 (show 0 ≤ cj.Quantum by omega) qj.2
  have m2 := mul_bound hB.1 hB.2 (show 0 ≤ ci.Quantum by omega) qi.2
  have m3 := mul_bound (show 0 ≤ ci.Quantum by omega) qi.2 (show 0 ≤ cj.Quantum by omega) qj.2
  have e3 : 2 * ci.Quantum * cj.Quantum = 2 * (ci.Quantum * cj.Quantum) := Int.mul_assoc _ _ _
  generalize x.A * cj.Quantum = A at *
  generalize x.B * ci.Quantum = B at *
  rw [wrap_i64 (n := 2 * ci.Quantum) (by omega) (by omega), e3]
  generalize ci.Quantum * cj.Quantum = C at *
  rw [wrap_i64 (n := A) (by omega) (by omega), wrap_i64 (n := B) (by omega) (by omega), wrap_i64 (n := A - B) (by omega) (by omega), wrap_i64 (n := 2 * C) (by omega) (by omega), wrap_i64 (n := ci.Quantum + cj.Quantum) (by omega) (by omega), wrap_i64 (n := 65535 * (ci.Quantum + cj.Quantum)) (by omega) (by omega), wrap_i64 (n := 2 * C + 65535 * (ci.Quantum + cj.Quantum)) (by omega) (by omega)]
  refine WP.ite (fun h => by omega) (fun _ => WP.next ?_)
  rw [wrap_i64 (by omega) (by omega)]
  exact fin w s
/-- the stretches behind a Pop -/
theorem even_wp (s : Ss W (vec c_weirlaw18_Pair pl prs [] :: R) w) {il iw ii : Nat} (el : nth R il = some (rdS c_api_Class false l ys)) {wl isl : Sl} {was is wsp isp : List Bool} (ew : nth R iw = some (vec cB wl was wsp)) (ei : nth R ii = some (vec cB isl is isp)) (h8 : ys.length ≤ 8) (hw : was.length = ys.length) (hs : is.length = ys.length) (hp : prs.length = ys.length * ys.length)
    {c : Nat} {size : Int} (hz : 0 ≤ size ∧ size ≤ 65535) (hq : ∀ y ∈ ys, 64 ≤ y.Quantum ∧ y.Quantum ≤ 65535)
    (hst : ∀ (a b : Nat) (ca cb : api_Class) (x : weirlaw18_Pair), ys[a]? = some ca → ys[b]? = some cb → prs[a * ys.length + b]? = some x → (0 ≤ x.A ∧ x.A ≤ 69000000000000 ∧ 0 ≤ x.B ∧ x.B ≤ 69000000000000) ∧ (evenP was is c size a b x).A * cb.Quantum - (evenP was is c size a b x).B * ca.Quantum ≤ 2 * (ca.Quantum * cb.Quantum) + 65535 * (ca.Quantum + cb.Quantum)) :
    WP (weirlaw18_even l pl wl isl (c : Int) size) w (fun r w' => r = true ∧ ∃ prs2, prs2.length = prs.length ∧ (∀ (a b : Nat) (x : weirlaw18_Pair), a < ys.length → b < ys.length → prs[a * ys.length + b]? = some x → prs2[a * ys.length + b]? = some (evenP was is c size a b x)) ∧ Ss W (vec c_weirlaw18_Pair pl prs2 [] :: R) w') := by
  unfold weirlaw18_even
  have hl := (s.rd_len (i := il + 1) el rdS_rdb).1
  have hpos : ∀ {a b : Nat}, a < ys.length → b < ys.length → a * ys.length + b < prs.length := by
    intro a b ha hb
    have := Nat.mul_le_mul_right ys.length (show a + 1 ≤ ys.length by omega)
    rw [Nat.add_mul, Nat.one_mul] at this
    omega
  -- done up to place t
  let Dn : Nat → List weirlaw18_Pair → Prop := fun t prs2 => prs2.length = prs.length ∧ (∀ (a b : Nat) (x : weirlaw18_Pair), a < ys.length → b < ys.length → a * ys.length + b < t → prs[a * ys.length + b]? = some x → prs2[a * ys.length + b]? = some (evenP was is c size a b x)) ∧ ∀ u, t ≤ u → prs2[u]? = prs[u]?
  have key : ∀ {a b a' b' : Nat}, a < ys.length → b < ys.length → a' < ys.length → b' < ys.length → a * ys.length + b = a' * ys.length + b' → a = a' ∧ b = b' := by
    intro a b a' b' ha hb ha' hb' h
    have h1 : (a * ys.length + b) / ys.length = a := by rw [Nat.mul_comm, Nat.mul_add_div (by omega), Nat.div_eq_of_lt hb, Nat.add_zero]
    have h2 : (a' * ys.length + b') / ys.length = a' := by rw [Nat.mul_comm, Nat.mul_add_div (by omega), Nat.div_eq_of_lt hb', Nat.add_zero]
    have : a = a' := by rw [← h1, h, h2]
    subst this
    exact ⟨rfl, by omega⟩
  refine WP.loop (fun (i : Int) w' => 0 ≤ i ∧ i ≤ ys.length ∧ ∃ prs2, Dn (i.toNat * ys.length) prs2 ∧ Ss W (vec c_weirlaw18_Pair pl prs2 [] :: R) w') (fun i _ => ((ys.length : Int) - i).toNat) ⟨by omega, by omega, prs, ⟨rfl, fun a b x _ _ h => by simp at h, fun _ _ => rfl⟩, s⟩ ?_
  rintro i w ⟨i0, i1, prs2, D, s⟩
  unfold weirlaw18_even.L1
  refine WP.ite (fun hi => ?_) (fun hi => ?_)
  rotate_left
  · rw [hl] at hi
    have : i.toNat = ys.length := by omega
    rw [this] at D
    exact WP.done ⟨rfl, prs2, D.1, fun a b x ha hb hx => D.2.1 a b x ha hb (by have := hpos ha hb; omega) hx, s⟩
  rw [hl] at hi
  refine WP.loop (fun (j : Int) w' => 0 ≤ j ∧ j ≤ ys.length ∧ ∃ prs2, Dn (i.toNat * ys.length + j.toNat) prs2 ∧ Ss W (vec c_weirlaw18_Pair pl prs2 [] :: R) w') (fun j _ => ((ys.length : Int) - j).toNat) ⟨by omega, by omega, prs2, D, s⟩ ?_
  clear D s prs2
  rintro j w ⟨j0, j1, prs2, D, s⟩
  unfold weirlaw18_even.L2
  refine WP.ite (fun hj => ?_) (fun hj => WP.done ?_)
  rotate_left
  · rw [hl] at hj
    have hjn : j.toNat = ys.length := by omega
    rw [hjn] at D
    show (_ ∧ _)
    rw [wrap_i64 (by omega) (by omega)]
    refine ⟨⟨by omega, by omega, prs2, ?_, s⟩, by omega⟩
    rw [show (i + 1).toNat = i.toNat + 1 by omega, Nat.add_mul, Nat.one_mul]
    exact D
  rw [hl] at hj
  obtain ⟨i, rfl⟩ : ∃ n : Nat, i = n := ⟨i.toNat, by omega⟩
  obtain ⟨j, rfl⟩ : ∃ n : Nat, j = n := ⟨j.toNat, by omega⟩
  simp only [Int.toNat_natCast] at D ⊢
  have hil : i < ys.length := by omega
  have hjl : j < ys.length := by omega
  have hci := List.getElem?_eq_getElem hil
  have hcj := List.getElem?_eq_getElem hjl
  have qi := hq _ (List.mem_of_getElem? hci)
  have qj := hq _ (List.mem_of_getElem? hcj)
  generalize ys[i] = ci at hci qi
  generalize ys[j] = cj at hcj qj
  have hkl := hpos hil hjl
  have hx := List.getElem?_eq_getElem hkl
  generalize prs[i * ys.length + j] = x at hx
  have hx2 : prs2[i * ys.length + j]? = some x := by rw [D.2.2 _ (Nat.le_refl _)]; exact hx
  obtain ⟨xb, xle⟩ := hst i j ci cj x hci hcj hx
  have hwi : was[(i : Int).toNat]? = some (was.getD i false) := getD_get (by omega)
  have hwj : was[(j : Int).toNat]? = some (was.getD j false) := getD_get (by omega)
  have hsi : is[(i : Int).toNat]? = some (is.getD i false) := getD_get (by omega)
  have hsj : is[(j : Int).toNat]? = some (is.getD j false) := getD_get (by omega)
  have mb := mul_bound i0 (show (i : Int) ≤ 8 by omega) (show (0 : Int) ≤ (ys.length : Int) by omega) (show (ys.length : Int) ≤ 8 by omega)
  have hk : IntKind.wrap .i64 (IntKind.wrap .i64 ((i : Int) * (l.len : Int)) + (j : Int)) = ((i * ys.length + j : Nat) : Int) := by
    rw [hl, wrap_i64 (n := (i : Int) * (ys.length : Int)) (by omega) (by omega), wrap_i64 (by omega) (by omega)]
    simp
  have k0 : (0 : Int) ≤ ((i * ys.length + j : Nat) : Int) := by omega
  -- what holds with the pair written
  have fin : ∀ (w' : World), Ss W (vec c_weirlaw18_Pair pl (prs2.set (i * ys.length + j) (evenP was is c size i j x)) [] :: R) w' → (0 ≤ (j : Int) + 1 ∧ (j : Int) + 1 ≤ ys.length ∧ ∃ prs2, Dn (i * ys.length + ((j : Int) + 1).toNat) prs2 ∧ Ss W (vec c_weirlaw18_Pair pl prs2 [] :: R) w') ∧ ((ys.length : Int) - ((j : Int) + 1)).toNat < ((ys.length : Int) - (j : Int)).toNat := by
    intro w' s
    refine ⟨⟨by omega, by omega, _, ⟨?_, ?_, ?_⟩, s⟩, by omega⟩
    · rw [List.length_set]; exact D.1
    · intro a b y ha hb hab hy
      by_cases e : a * ys.length + b = i * ys.length + j
      · obtain ⟨rfl, rfl⟩ := key ha hb hil hjl e
        rw [hx] at hy
        cases hy
        exact List.getElem?_set_self (by rw [D.1]; exact hkl)
      · rw [List.getElem?_set_ne (fun h => e h.symm)]
        exact D.2.1 a b y ha hb (by omega) hy
    · intro u hu
      rw [List.getElem?_set_ne (by omega)]
      exact D.2.2 u (by omega)
  obtain ⟨A, hA⟩ : ∃ A, was.getD i false = A := ⟨_, rfl⟩
  obtain ⟨B, hB⟩ : ∃ B, was.getD j false = B := ⟨_, rfl⟩
  obtain ⟨C, hC⟩ : ∃ C, is.getD i false = C := ⟨_, rfl⟩
  obtain ⟨E, hE⟩ : ∃ E, is.getD j false = E := ⟨_, rfl⟩
  rw [hA] at hwi
  rw [hB] at hwj
  rw [hC] at hsi
  rw [hE] at hsj
  have heP : evenP was is c size i j x = if (A && B && C && E) = true then ⟨x.A + (if i = c then size else 0), x.B + (if j = c then size else 0)⟩ else ⟨0, 0⟩ := by unfold evenP; rw [hA, hB, hC, hE]
  refine WP.rdx s (iw + 1) ew vec_rdb i0 hwi rfl ?_
  refine WP.step (R := fun y w' => y = (!(A && B)) ∧ w = w') (WP.ite (fun h => WP.ret ⟨by cases A with | false => rfl | true => exact absurd rfl h, rfl⟩) (fun h => ?_)) ?_
  · exact WP.rdx s (iw + 1) ew vec_rdb j0 hwj rfl (WP.ret ⟨by cases A with | true => rfl | false => exact absurd (by simp) h, rfl⟩)
  rintro _ _ ⟨rfl, rfl⟩
  refine WP.step (R := fun y w' => y = (!(A && B && C)) ∧ w = w') (WP.ite (fun h => WP.ret ⟨(by cases A <;> cases B <;> first | rfl | cases h), rfl⟩) (fun h => ?_)) ?_
  · exact WP.rdx s (ii + 1) ei vec_rdb i0 hsi rfl (WP.ret ⟨by cases A <;> cases B <;> first | rfl | exact absurd rfl h, rfl⟩)
  rintro _ _ ⟨rfl, rfl⟩
  refine WP.step (R := fun y w' => y = (!(A && B && C && E)) ∧ w = w') (WP.ite (fun h => WP.ret ⟨(by cases A <;> cases B <;> cases C <;> first | rfl | cases h), rfl⟩) (fun h => ?_)) ?_
  · exact WP.rdx s (ii + 1) ei vec_rdb j0 hsj rfl (WP.ret ⟨by cases A <;> cases B <;> cases C <;> first | rfl | exact absurd rfl h, rfl⟩)
  rintro _ _ ⟨rfl, rfl⟩
  refine WP.ite (fun h => ?_) (fun h => ?_)
  · have h : (A && B && C && E) = false := by cases A <;> cases B <;> cases C <;> cases E <;> first | rfl | cases h
    have he : evenP was is c size i j x = z_weirlaw18_Pair := by rw [heP, if_neg (by rw [h]; simp)]; rfl
    rw [hk]
    refine WP.stx s 0 rfl k0 (by omega) rfl (fun w s => WP.next ?_)
    rw [wrap_i64 (by omega) (by omega)]
    rw [Int.toNat_natCast, ← he] at s
    exact fin w s
  · have h : (A && B && C && E) = true := by cases A <;> cases B <;> cases C <;> cases E <;> first | rfl | exact absurd rfl h
    have he : evenP was is c size i j x = ⟨x.A + (if i = c then size else 0), x.B + (if j = c then size else 0)⟩ := by rw [heP, if_pos h]
    have hset : ∀ y : weirlaw18_Pair, (prs2.set (i * ys.length + j) y)[i * ys.length + j]? = some y := fun y => List.getElem?_set_self (by rw [D.1]; exact hkl)
    -- the second part
    have k2 : ∀ (x1 : weirlaw18_Pair) (w : World), x1.A = x.A + (if i = c then size else 0) → x1.B = x.B → Ss W (vec c_weirlaw18_Pair pl (prs2.set (i * ys.length + j) x1) [] :: R) w →
        WP (weirlaw18_even.K2 l pl (c : Int) size (i : Int) (j : Int)) w (WP.Rd (fun j' w' => (0 ≤ j' ∧ j' ≤ ys.length ∧ ∃ prs2, Dn (i * ys.length + j'.toNat) prs2 ∧ Ss W (vec c_weirlaw18_Pair pl prs2 [] :: R) w') ∧ ((ys.length : Int) - j').toNat < ((ys.length : Int) - (j : Int)).toNat) (WP.Rd (fun i' w' => (0 ≤ i' ∧ i' ≤ ys.length ∧ ∃ prs2, Dn (i'.toNat * ys.length) prs2 ∧ Ss W (vec c_weirlaw18_Pair pl prs2 [] :: R) w') ∧ ((ys.length : Int) - i').toNat < ((ys.length : Int) - (i : Int)).toNat) (fun r w' => r = true ∧ ∃ prs2, prs2.length = prs.length ∧ (∀ (a b : Nat) (x : weirlaw18_Pair), a < ys.length → b < ys.length → prs[a * ys.length + b]? = some x → prs2[a * ys.length + b]? = some (evenP was is c size a b x)) ∧ Ss W (vec c_weirlaw18_Pair pl prs2 [] :: R) w'))) := by
      intro x1 w f1 f2 s
      unfold weirlaw18_even.K2
      refine WP.ite (fun hc => ?_) (fun hc => ?_)
      · have hjc : j = c := by omega
        rw [hk]
        have hx1 : (prs2.set (i * ys.length + j) x1)[((i * ys.length + j : Nat) : Int).toNat]? = some x1 := by rw [Int.toNat_natCast]; exact hset x1
        refine WP.rdxp s 0 rfl vec_rdb k0 hx1 rfl (At_weirlaw18_Pair_B _) ?_
        refine WP.stxp s 0 rfl k0 hx1 rfl (Up_weirlaw18_Pair_B _ _) (fun w s => ?_)
        rw [Int.toNat_natCast, List.set_set, f2, wrap_i64 (by omega) (by omega)] at s
        have e2 : (⟨x1.A, x.B + size⟩ : weirlaw18_Pair) = evenP was is c size i j x := by rw [he, f1, if_pos hjc]
        rw [e2] at s
        exact even_K1 s el h8 hci hcj (hset _) qi qj (by rw [he]; simp only; split <;> omega) (by rw [he]; simp only; split <;> omega) xle (fun w' s => fin w' s)
      · have hjc : ¬ j = c := by omega
        have e2 : x1 = evenP was is c size i j x := by
          rw [he, if_neg hjc, ← f1, Int.add_zero, ← f2]
        rw [e2] at s
        exact even_K1 s el h8 hci hcj (hset _) qi qj (by rw [he]; simp only; split <;> omega) (by rw [he]; simp only; split <;> omega) xle (fun w' s => fin w' s)
    refine WP.ite (fun hc => ?_) (fun hc => ?_)
    · have hic : i = c := by omega
      rw [hk]
      have hx1 : prs2[((i * ys.length + j : Nat) : Int).toNat]? = some x := by rw [Int.toNat_natCast]; exact hx2
      refine WP.rdxp0 s 0 rfl vec_rdb k0 hx1 rfl (At_weirlaw18_Pair_A _) ?_
      refine WP.stxp0 s 0 rfl k0 hx1 rfl (Up_weirlaw18_Pair_A _ _) (fun w s => ?_)
      rw [Int.toNat_natCast, wrap_i64 (by omega) (by omega)] at s
      exact k2 ⟨x.A + size, x.B⟩ w (by show x.A + size = _; rw [if_pos hic]) rfl s
    · have hic : ¬ i = c := by omega
      refine k2 x w (by rw [if_neg hic, Int.add_zero]) rfl ?_
      rw [set_eq hx2]
      exact s
end
abbrev EHs (q1 : Addr) (bk pu : Option Addr) (l1 : Sl) (ys : List api_Class) (pl : Sl) (R : List HP) (m : QM) (sv ts : List Int) (prs : List weirlaw18_Pair) : List HP := Queue (some q1) m :: Book bk m.qs sv :: Purse pu ts :: rdS c_api_Class false l1 ys :: vec c_weirlaw18_Pair pl prs [] :: R
section
variable {W w : World} {R : List HP} {q1 : Addr} {bk pu : Option Addr} {l1 pl : Sl} {ys : List api_Class} {m m2 : QM} {sv ts : List Int} {prs : List weirlaw18_Pair} {N k : Int}
theorem even_Q1 {NX : Int → World → Prop} {DX : LS Int Bool → World → Prop} (k0 : 0 ≤ k) (k1 : k ≤ 1000000) (h : NX (k + 1) w) : WP (weirlaw18_QueueEven.K1 k) w (WP.Rd NX DX) := by
  unfold weirlaw18_QueueEven.K1
  refine WP.next ?_
  rw [wrap_i64 (by omega) (by omega)]
  exact h
theorem even_Q2 {NX : Int → World → Prop} {DX : LS Int Bool → World → Prop} (k0 : 0 ≤ k) (k1 : k ≤ 1000000) (F : EI ys N m sv ts prs) (ok : m.Ok) (h0 : 0 ≤ N) (h1 : N ≤ 4000000) {y d : Int} (hp : Pops m (y, d, true) m2) {wl : Sl} {wsp : List Bool} (s : Ss W (Queue (some q1) m2 :: vec cB wl (m.cl.map Cl.rdy) wsp :: Book bk m.qs sv :: Purse pu ts :: rdS c_api_Class false l1 ys :: vec c_weirlaw18_Pair pl prs [] :: R) w)
    (fin : ∀ m' sv' ts' prs' w', EI ys (N + 1) m' sv' ts' prs' → Ss W (EHs q1 bk pu l1 ys pl R m' sv' ts' prs') w' → NX (k + 1) w') : WP (weirlaw18_QueueEven.K2 (some q1, l1) bk pu pl k wl (y, d, true) (sv.getD d.toNat 0)) w (WP.Rd NX DX) := by
  unfold weirlaw18_QueueEven.K2
  obtain ⟨i, c, x, q', rfl, rfl, hk, hkq, hkr, hqs, hct⟩ := hp.what ok
  have okk := ok.cl c (List.mem_of_getElem? hk)
  have hcl := okClass_iff.1 okk.c
  have hsz := okk.size x (by rw [hkq]; simp)
  have hb := okk.bytes
  have hs0 := sizes_nonneg (l := q') (fun y hy => okk.size y (by rw [hkq]; simp [hy]))
  rw [hkq, sizes_cons] at hb
  have hq := qs_get hk
  rw [hkq] at hq
  have hi := (List.getElem?_eq_some_iff.1 hk).1
  have hi0 : (0 : Int) ≤ (i : Int) := by omega
  have hn := c_len F.c
  have ok2 := hp.ok ok
  have hc2 : m2.cl.map (·.c) = ys := (hp.c ok).trans F.c
  have hn2 := c_len hc2
  have h8 := ok.n8
  have hxk : ys[(i : Int).toNat]? = some c.c := c_get F.c hk
  have hsvl := F.n
  have hsv : sv[i]? = some (sv.getD i 0) := getD_get (by unfold QM.n at hsvl; omega)
  have hv := F.sb _ (List.mem_of_getElem? hsv)
  refine WP.step (popped_wp (s.use [2] rfl) hq hsz.1 hsz.2 hs0 (by omega)) ?_
  rintro _ w ⟨rfl, s⟩
  rw [← hqs, wrap_i64 (by omega) (by omega)] at s
  refine WP.ite (fun h => absurd rfl h) (fun _ => ?_)
  have hsv2 : (sv.set i (sv.getD i 0 + x.size))[(i : Int).toNat]? = some (sv.getD i 0 + x.size) := List.getElem?_set_self (by unfold QM.n at hsvl; omega)
  have rest : ∀ (ts2 : List Int) (w : World), PT ts2 m2 → Ss W (Queue (some q1) m2 :: Book bk m2.qs (sv.set i (sv.getD i 0 + x.size)) :: Purse pu ts2 :: rdS c_api_Class false l1 ys :: vec c_weirlaw18_Pair pl prs [] :: vec cB wl (m.cl.map Cl.rdy) wsp :: R) w →
      WP (weirlaw18_all l1 bk pu >>= fun r => weirlaw18_even l1 pl wl r (i : Int) (IntKind.wrap .i64 ((sv.getD i 0 + x.size) - sv.getD i 0)) >>= fun r2 => if ¬ (r2 = true) then pure (LS.done (LS.done false)) else weirlaw18_QueueEven.K1 k) w (WP.Rd NX DX) := by
    intro ts2 w hpt s
    rw [show sv.getD i 0 + x.size - sv.getD i 0 = x.size by omega, wrap_i64 (by omega) (by omega)]
    refine WP.step (all_wp s (ip := 2) (ib := 1) (i := 3) rfl rfl rfl ok2 hc2 hpt) ?_
    rintro r w ⟨sp, s⟩
    have hyl : ys.length = m.n := hn
    refine WP.step (even_wp (s.use [5] rfl) (il := 4) (iw := 5) (ii := 0) rfl rfl rfl (by omega) (by rw [List.length_map]; unfold QM.n at hn; omega) (by rw [List.length_map]; unfold QM.n at hn2; omega) (by rw [F.pl, hn]) (c := i) (size := x.size) (by omega) (fun y hy => ?_) (fun a b ca cb pr ha hb hpr => ?_)) ?_
    · rw [← F.c] at hy
      obtain ⟨c', hc', rfl⟩ := List.mem_map.1 hy
      have := okClass_iff.1 (ok.cl c' hc').c
      exact ⟨this.1, this.2.1⟩
    · rw [hn] at hpr
      have hbd := F.pb pr (List.mem_of_getElem? hpr)
      refine ⟨by omega, ?_⟩
      obtain ⟨_, e2, e3⟩ := even_step F ok h0 hp hq hqs hsz.1 hsz.2 ha hb hpr rfl
      have ha' := (List.getElem?_eq_some_iff.1 ha).1
      have hb' := (List.getElem?_eq_some_iff.1 hb).1
      have hla := getD_get (z := default) (l := m2.cl) (i := a) (by unfold QM.n at hn2; omega)
      have hlb := getD_get (z := default) (l := m2.cl) (i := b) (by unfold QM.n at hn2; omega)
      generalize m2.cl.getD a default = la at hla
      generalize m2.cl.getD b default = lb at hlb
      have fca : la.c = ca := by have := c_get hc2 hla; rw [ha] at this; exact (Option.some.inj this).symm
      have fcb : lb.c = cb := by have := c_get hc2 hlb; rw [hb] at this; exact (Option.some.inj this).symm
      have qa := okClass_iff.1 (ok2.cl la (List.mem_of_getElem? hla)).c
      have qb := okClass_iff.1 (ok2.cl lb (List.mem_of_getElem? hlb)).c
      rw [fca] at qa
      rw [fcb] at qb
      have m3 := mul_bound (show 0 ≤ ca.Quantum by omega) qa.2.1 (show 0 ≤ cb.Quantum by omega) qb.2.1
      by_cases hab : a = b
      · have e4 := e3 hab
        subst hab
        rw [ha] at hb
        cases hb
        rw [e4]
        omega
      · have e4 := e2 hab
        have h3 := psi_lo ok2 (F.d.pop hp ok) hla hlb hab
        rw [fca, fcb] at h3
        omega
    rintro _ w ⟨rfl, prs2, p1, p2, s⟩
    refine WP.ite (fun h => absurd rfl h) (fun _ => even_Q1 k0 k1 ?_)
    have E := EI.pop F ok h0 (by omega) hp hq hqs hsz.1 hsz.2 hpt p1 (fun a b pr ha hb hpr => by
      rw [← hn] at hpr ⊢
      exact p2 a b pr (by omega) (by omega) hpr)
    rw [wrap_i64 (by omega) (by omega)] at E
    exact fin _ _ _ _ w E ((s.use [1, 5] rfl).drop.drop.use [1, 1, 1, 1] rfl)
  obtain ⟨ba, xl, yl, z, ls, lsp, bsp, ssp, hbk, g1, g2, sB⟩ := s.openB
  rw [hbk]
  refine WP.nilck (WP.ld sB 0 rfl (o := 2) rfl (At_weirlaw18_Book_Served _) ?_)
  refine WP.rdx sB 3 rfl vec_rdb hi0 hsv2 rfl ?_
  refine WP.rdxp s 4 rfl rdS_rdb hi0 hxk rfl (At_api_Class_Rate _) ?_
  rw [← hbk]
  have hx : (sv.getD i 0 + x.size) - sv.getD i 0 = x.size := by omega
  refine WP.ite (fun hr => WP.draw' s (fun w s => ?_)) (fun hr => rest ts w (F.p.pop hk hct (fun h => absurd h hr) (fun _ => rfl)) (s.use [1, 0, 1, 1, 1, 0] rfl))
  obtain ⟨pa, yl2, sp2, hpu, sP⟩ := (s.use [3] rfl).openP
  have htk := F.p.2 i c hk hr
  have htk' : ts[(i : Int).toNat]? = some c.tok := htk
  have htl := F.p.1
  have h3 := okk.tok hr
  have h4 := rdy_tok hkr hkq hr
  have nil : ∀ {β : Type} {f : Addr → M β} {Q : β → World → Prop} {w : World}, WP (f pa) w Q → WP (nilck pu >>= f) w Q := by
    intro β f Q w h
    rw [hpu]
    exact WP.nilck h
  refine nil (WP.ld sP 0 rfl (o := 0) (by simp [Addr.add]) (At_weirlaw18_Purse_T _) (nil ?_))
  refine WP.ld sP 0 rfl (o := 0) (by simp [Addr.add]) (At_weirlaw18_Purse_T _) ?_
  refine WP.rdx sP 1 rfl vec_rdb hi0 htk' rfl ?_
  have e5 : IntKind.wrap .i64 (c.tok - IntKind.wrap .i64 ((sv.getD i 0 + x.size) - sv.getD i 0)) = c.tok - x.size := by
    rw [hx, wrap_i64 (n := x.size) (by omega) (by omega), wrap_i64 (by omega) (by omega)]
  refine WP.stx sP 1 rfl hi0 (show (i : Int) < ts.length by unfold QM.n at htl; omega) rfl (fun w s => ?_)
  rw [Int.toNat_natCast] at s
  have s := Ss.closeP (p := pu) s hpu
  refine rest _ w (F.p.pop hk hct (ts' := ts.set i (c.tok - x.size)) (fun _ => by rw [if_pos hr]) (fun h => absurd hr h)) ?_
  have s := s.use [2, 1, 0, 1, 1] rfl
  rw [e5] at s
  exact s
end
theorem QueueEven_true : ∀ (W : World) (u0 : Sl) (u1 : Sl) (u2 : Int), (GSl c_api_Class (Try.prog.bytesOf 41) (fun W u => G41 W u) W u0) → (GSl c_weirlaw18_Op (Try.prog.bytesOf 48) (fun W u => G48 W u) W u1) → ((Lit.int .i64 u2).wf = true) → ∃ W', weirlaw18_QueueEven u0 u1 u2 W = some (true, W') ∧ Below W.heap.size W W' := by
  intro W u0 u1 u2 g0 g1 _
  have b41 : Try.prog.bytesOf 41 = 40 := by kernel_rfl
  have b48 : Try.prog.bytesOf 48 = 40 := by kernel_rfl
  have hr : reachBytes = 140737488351232 := rfl
  obtain ⟨os, _, ho, s⟩ := (Ss.start W).args g1 (by decide)
  obtain ⟨xs, _, hx, s⟩ := s.args g0 (by decide)
  have main : WP (weirlaw18_QueueEven u0 u1 u2) W (fun r W' => r = true ∧ Below W.heap.size W W') := by
    unfold weirlaw18_QueueEven
    refine WP.step (queueOf_wp s 0 rfl) ?_
    rintro ⟨_, l1⟩ w ⟨q1, rfl, s⟩
    refine WP.ite (fun h => by cases h) (fun _ => ?_)
    have okL := ofL_ok xs
    simp only at s
    generalize ofL xs = ys at s okL
    have hn : (newQ ys).n = ys.length := by unfold QM.n newQ; simp
    have ok0 := newQ_ok okL
    have h8 := ok0.n8
    have hl1 := (s.rd_len (i := 1) rfl rdS_rdb).1
    simp only
    rw [hl1]
    refine WP.step (book_wp s (by omega)) ?_
    intro bk w s
    rw [← newQ_qs] at s
    refine WP.step (purse_wp s 2 rfl (by omega)) ?_
    intro pu w s
    refine WP.slot' s (fun _ w s => WP.draw' s (fun w s => WP.step (Push_wp (s.use [2] rfl) 0 1 (-4)) ?_))
    rintro _ w ⟨rfl, s⟩
    have ok1 := s.len_ge
    unfold weirlaw18_num
    refine WP.step (R := fun y w' => y = ((newQ ys).push 0 1 (-4)).2 ∧ w = w') (WP.ret ⟨rfl, rfl⟩) ?_
    rintro _ _ ⟨rfl, rfl⟩
    refine WP.step (pushed_wp (s.use [2] rfl) 2 rfl ok0 (newQ_c ys) _ _) ?_
    rintro _ w ⟨rfl, s⟩
    refine WP.ite (fun h => absurd (by simp [z_weirlaw18_Op]) h) (fun _ => ?_)
    have hlo := (s.rd_len (i := 5) rfl rdS_rdb).1
    refine WP.ite (fun _ => WP.ret ⟨rfl, s.below⟩) (fun hlim => ?_)
    rw [hlo] at hlim
    have mb := mul_bound (show (0 : Int) ≤ (ys.length : Int) by omega) (show (ys.length : Int) ≤ 8 by omega) (show (0 : Int) ≤ (ys.length : Int) by omega) (show (ys.length : Int) ≤ 8 by omega)
    have hsq : IntKind.wrap .i64 ((ys.length : Int) * (ys.length : Int)) = ((ys.length * ys.length : Nat) : Int) := by
      rw [wrap_i64 (by omega) (by omega)]
      simp
    have hsq2 : ((ys.length * ys.length : Nat) : Int) ≤ 64 := by
      have : ((ys.length * ys.length : Nat) : Int) = (ys.length : Int) * (ys.length : Int) := by simp
      rw [this]
      exact mb.2
    rw [hsq]
    refine WP.mkS s (by omega) (Int.le_refl _) (by omega) (by omega) (fun pl w s _ => ?_)
    rw [Int.toNat_natCast, Int.sub_self] at s
    have s : Ss W (EHs q1 bk pu l1 ys pl [rdS c_api_Class false u0 xs, rdS c_weirlaw18_Op false u1 os] ((newQ ys).push 0 1 (-4)).1 (List.replicate ys.length 0) (ys.map (·.Burst)) (List.replicate (ys.length * ys.length) z_weirlaw18_Pair)) w := s.use [2, 1, 1, 1, 0] rfl
    have hct := push_ct (newQ ys) 0 1 (-4)
    have E0 : EI ys 0 ((newQ ys).push 0 1 (-4)).1 (List.replicate ys.length 0) (ys.map (·.Burst)) (List.replicate (ys.length * ys.length) z_weirlaw18_Pair) := by
      have hc1 : ((newQ ys).push 0 1 (-4)).1.cl.map (·.c) = ys := (push_c _ _ _ _).trans (newQ_c ys)
      have hd1 : DD ((newQ ys).push 0 1 (-4)).1 := (newQ_DD ys okL).of (push_dc _ _ _ _).1
      have hn1 := c_len hc1
      refine ⟨hc1, hd1, PT.same ⟨by simp [hn], fun i k hk _ => ?_⟩ hct, by rw [List.length_replicate, hn1], fun v hv => by rw [List.eq_of_mem_replicate hv]; omega, by rw [List.length_replicate, hn1], fun x hx => by rw [List.eq_of_mem_replicate hx]; simp [z_weirlaw18_Pair], fun a b ca cb x hab ha hb hx => ?_, fun a x _ hx => by rw [List.eq_of_mem_replicate (List.mem_of_getElem? hx)]; rfl⟩
      · unfold newQ at hk
        simp only [List.getElem?_map, Option.map_eq_some_iff] at hk
        obtain ⟨c, hc, rfl⟩ := hk
        rw [List.getElem?_map, hc]
        rfl
      · have := newQ_psi ok1 hd1 hc1 0 a b ca cb hab ha hb
        rw [List.eq_of_mem_replicate (List.mem_of_getElem? hx)]
        simpa [z_weirlaw18_Pair] using this
    have hb := band_mask u2 (m := 31) (by omega) (by omega)
    refine WP.loop (fun (n : Int) w' => 0 ≤ n ∧ n ≤ 32 ∧ ∃ m sv ts prs N, 0 ≤ N ∧ N ≤ n * os.length ∧ EI ys N m sv ts prs ∧ Ss W (EHs q1 bk pu l1 ys pl [rdS c_api_Class false u0 xs, rdS c_weirlaw18_Op false u1 os] m sv ts prs) w') (fun n _ => (32 - n).toNat) ⟨by omega, by omega, _, _, _, _, 0, by omega, by omega, E0, s⟩ ?_
    rintro n w ⟨n0, n1, m, sv, ts, prs, N, N0, N1, E, s⟩
    unfold weirlaw18_QueueEven.L1
    rw [wrap_i64 (by omega) (by omega)]
    refine WP.ite (fun hn2 => ?_) (fun _ => WP.done ⟨rfl, s.below⟩)
    have mo := mul_bound n0 n1 (show (0 : Int) ≤ (os.length : Int) by omega) (show (os.length : Int) ≤ 100000 by omega)
    have mo2 : (n + 1) * (os.length : Int) = n * os.length + os.length := by rw [Int.add_mul, Int.one_mul]
    refine WP.loop (fun (k : Int) w' => 0 ≤ k ∧ k ≤ os.length ∧ ∃ m sv ts prs N, 0 ≤ N ∧ N ≤ n * os.length + k ∧ EI ys N m sv ts prs ∧ Ss W (EHs q1 bk pu l1 ys pl [rdS c_api_Class false u0 xs, rdS c_weirlaw18_Op false u1 os] m sv ts prs) w') (fun k _ => ((os.length : Int) - k).toNat) ⟨by omega, by omega, m, sv, ts, prs, N, N0, by omega, E, s⟩ ?_
    clear E s N0 N1
    rintro k w ⟨k0, k1, m, sv, ts, prs, N, N0, N1, E, s⟩
    unfold weirlaw18_QueueEven.L2
    refine WP.ite (fun hk => ?_) (fun hk => WP.done ?_)
    rotate_left
    · rw [hlo] at hk
      show (_ ∧ _)
      rw [wrap_i64 (by omega) (by omega)]
      exact ⟨⟨by omega, by omega, m, sv, ts, prs, N, N0, by omega, E, s⟩, by omega⟩
    rw [hlo] at hk
    have ok := s.len_ge
    have hcn := c_len E.c
    have hkl : k.toNat < os.length := by omega
    have hx := List.getElem?_eq_getElem hkl
    generalize os[k.toNat] = o at hx
    refine WP.rdx s 6 rfl rdS_rdb k0 hx rfl (WP.slot' s (fun b w s => ?_))
    have nx : ∀ (m' : QM) (sv' ts' : List Int) (prs' : List weirlaw18_Pair) (N' : Int) (w' : World), 0 ≤ N' → N' ≤ N + 1 → EI ys N' m' sv' ts' prs' → Ss W (EHs q1 bk pu l1 ys pl [rdS c_api_Class false u0 xs, rdS c_weirlaw18_Op false u1 os] m' sv' ts' prs') w' → (0 ≤ k + 1 ∧ k + 1 ≤ os.length ∧ ∃ m sv ts prs N, 0 ≤ N ∧ N ≤ n * os.length + (k + 1) ∧ EI ys N m sv ts prs ∧ Ss W (EHs q1 bk pu l1 ys pl [rdS c_api_Class false u0 xs, rdS c_weirlaw18_Op false u1 os] m sv ts prs) w') ∧ ((os.length : Int) - (k + 1)).toNat < ((os.length : Int) - k).toNat := by
      intro m' sv' ts' prs' N' w' a b F' s'
      exact ⟨⟨by omega, by omega, m', sv', ts', prs', N', a, by omega, F', s'⟩, by omega⟩
    refine WP.ite (fun _ => WP.draw' s (fun w s => WP.step (Push_wp s _ _ _) ?_)) (fun _ => WP.ite (fun _ => WP.step (Tick_wp s) ?_) (fun _ => WP.ite (fun _ => ?_) (fun _ => even_Q1 k0 (by omega) (nx m sv ts prs N w N0 (by omega) E s))))
    · rintro _ w ⟨rfl, s⟩
      refine WP.step (R := fun y w' => y = (m.push o.Class o.Size o.Item).2 ∧ w = w') (WP.ret ⟨rfl, rfl⟩) ?_
      rintro _ _ ⟨rfl, rfl⟩
      refine WP.step (pushed_wp (s.use [1] rfl) 2 rfl ok E.c _ _) ?_
      rintro _ w ⟨rfl, s⟩
      exact even_Q1 k0 (by omega) (nx _ sv ts prs N w N0 (by omega) (E.keep (push_c _ _ _ _) (push_dc _ _ _ _) (E.p.same (push_ct _ _ _ _))) (s.use [1] rfl))
    · intro _ w s
      refine WP.step (ptick_wp (s.use [2] rfl) 2 rfl (by have := ok.n8; omega) (by rw [E.p.1, hcn])) ?_
      rintro _ w ⟨ts', t1, t2, s⟩
      have hP : PT ts' m.tick := E.p.tick ok t1 (fun j k t hk ht => t2 j k.c t (c_get E.c hk) ht)
      have s : Ss W (EHs q1 bk pu l1 ys pl [rdS c_api_Class false u0 xs, rdS c_weirlaw18_Op false u1 os] m.tick sv ts' prs) w := by
        show Ss W (Queue (some q1) m.tick :: Book bk m.tick.qs sv :: Purse pu ts' :: _) w
        rw [tick_qs]
        exact s.use [1, 1] rfl
      exact even_Q1 k0 (by omega) (nx _ sv ts' prs N w N0 (by omega) (E.keep (tick_c m) (tick_dc m) hP) s)
    · refine WP.step (all_wp s (ip := 2) (ib := 1) (i := 3) rfl rfl rfl ok E.c E.p) ?_
      rintro wl w ⟨wsp, s⟩
      obtain ⟨⟨y, d, is⟩, m2, hp⟩ := Pops.exist ok
      refine WP.step (Pop_wp (s.use [1] rfl) hp) ?_
      rintro _ w ⟨rfl, s⟩
      refine WP.ite (fun h => ?_) (fun h => ?_)
      · have : is = false := by simpa using h
        subst this
        have hm : m2 = m := by
          cases hp with
          | none _ => rfl
        subst hm
        refine WP.next ?_
        rw [wrap_i64 (by omega) (by omega)]
        exact nx m2 sv ts prs N w N0 (by omega) E ((s.use [1] rfl).drop)
      · have : is = true := by simpa using h
        subst this
        obtain ⟨i, c, x, q', rfl, rfl, hk, hkq, hkr, hqs, hct⟩ := hp.what ok
        have hi := (List.getElem?_eq_some_iff.1 hk).1
        have hi0 : (0 : Int) ≤ (i : Int) := by omega
        have hsvl := E.n
        have hsv : sv[(i : Int).toNat]? = some (sv.getD (i : Int).toNat 0) := getD_get (by unfold QM.n at hsvl; rw [Int.toNat_natCast]; omega)
        refine WP.step (R := fun y w' => y = true ∧ w = w') (WP.ite (fun h => WP.ret ⟨by unfold QM.n at hcn; simp [hl1]; omega, rfl⟩) (fun h => absurd hi0 h)) ?_
        rintro _ _ ⟨rfl, rfl⟩
        refine WP.ite (fun _ => ?_) (fun h => absurd rfl h)
        obtain ⟨ba, xl, yl, z, ls, lsp, bsp, ssp, hbk, g1, g2, sB⟩ := (s.use [2] rfl).openB
        rw [hbk]
        refine WP.nilck (WP.ld sB 0 rfl (o := 2) rfl (At_weirlaw18_Book_Served _) ?_)
        refine WP.rdx sB 3 rfl vec_rdb hi0 hsv rfl ?_
        rw [← hbk]
        exact even_Q2 k0 (by omega) E ok N0 (by omega) hp s (fun m' sv' ts' prs' w' E' s' => nx m' sv' ts' prs' (N + 1) w' (by omega) (Int.le_refl _) E' s')
  obtain ⟨r, W', h1, rfl, h2⟩ := main
  exact ⟨W', h1, h2⟩
end Go.Proofs.Ytgddbpmfendaeaa.Lx
