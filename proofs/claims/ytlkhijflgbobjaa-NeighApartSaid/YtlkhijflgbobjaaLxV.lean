/- The machine 'Lx', places: slices that are only read, one's own or nobody's. -/
import Derived.Test.YtlkhijflgbobjaaLxU
set_option linter.unusedVariables false
set_option linter.unusedSimpArgs false
namespace Go.Proofs.Ytlkhijflgbobjaa.Lx
open Go Go.RowKit
def Rdb {α : Type} (A : HP) (c : Cod α) (s : Sl) (xs : List α) : Prop :=
  ∀ h, A h → s.len = xs.length ∧ (xs ≠ [] → ∃ a, s.a = some a) ∧ ∀ i x a, xs[i]? = some x → s.a = some a → a.spot = none ∧ ∀ j v, (c.enc x)[j]? = some v → ∃ q, h a.block (a.off + (i * c.n + j)) = some (q, .v v)
def rdS {α : Type} (c : Cod α) (q : Bool) (s : Sl) (xs : List α) : HP := fun h => s.len = xs.length ∧ s.len ≤ s.cap ∧ (xs ≠ [] → ∃ a, s.a = some a) ∧ ∀ a, s.a = some a → xs ≠ [] → pts q a (xs.flatMap c.enc) h
theorem flat_get {α : Type} {c : Cod α} {l : List α} {i : Nat} {x : α} (h : l[i]? = some x) {j : Nat} {v : Value} (hv : (c.enc x)[j]? = some v) : (l.flatMap c.enc)[i * c.n + j]? = some v := by
  have hi := (List.getElem?_eq_some_iff.1 h).1
  have := flatMap_at c l i x hi
  rw [show l.getD i x = x by rw [List.getD, h]; rfl] at this
  rw [this.get j (List.getElem?_eq_some_iff.1 hv).1]
  exact hv
theorem rdS_rdb {α : Type} {c : Cod α} {q : Bool} {s : Sl} {xs : List α} : Rdb (rdS c q s xs) c s xs := by
  rintro h ⟨h1, _, h2, h3⟩
  refine ⟨h1, h2, fun i x a hx ha => ?_⟩
  have hne : xs ≠ [] := fun e => by rw [e] at hx; simp at hx
  obtain ⟨sp, hp⟩ := h3 a ha hne
  exact ⟨sp, fun j v hv => ⟨q, hp _ _ (flat_get hx hv)⟩⟩
theorem vec_rdb {α : Type} {c : Cod α} {s : Sl} {xs sp : List α} : Rdb (vec c s xs sp) c s xs := by
  rintro h ⟨h1, h2, h3⟩
  refine ⟨h1, fun hne => ?_, fun i x a hx ha => ?_⟩
  · cases ha : s.a with
    | some a => exact ⟨a, rfl⟩
    | none => rw [ha] at h3; exact absurd h3.1 hne
  · rw [ha] at h3
    obtain ⟨sp', hp⟩ := h3
    exact ⟨sp', fun j v hv => ⟨true, hp _ _ (flat_get (by rw [List.getElem?_append_left (List.getElem?_eq_some_iff.1 hx).1]; exact hx) hv)⟩⟩
theorem Ss.rd_len {α : Type} {c : Cod α} {W w : World} {Hs : List HP} {i : Nat} {A : HP} {sl : Sl} {xs : List α} (s : Ss W Hs w) (e : nth Hs i = some A) (r : Rdb A c sl xs) : sl.len = xs.length ∧ (xs ≠ [] → ∃ a, sl.a = some a) := by
  obtain ⟨h, ha⟩ := s.has e
  obtain ⟨h1, h2, _⟩ := r h ha
  exact ⟨h1, h2⟩
theorem Ss.rd_cells {α : Type} {c : Cod α} {W w : World} {Hs : List HP} {i : Nat} {A : HP} {sl : Sl} {xs : List α} (s : Ss W Hs w) (e : nth Hs i = some A) (r : Rdb A c sl xs) {k : Nat} {x : α} (hx : xs[k]? = some x) {a : Addr} (ha : sl.a = some a) : rdF w (a.add (k * c.n)) 0 c.n = some (c.enc x) := by
  obtain ⟨hb, h, hs, hw⟩ := s
  obtain ⟨h1, a1, l1⟩ := seps_nth hs e
  obtain ⟨_, _, h3⟩ := r h1 a1
  obtain ⟨sp, h4⟩ := h3 k x a hx ha
  refine rdF_of _ _ _ (c.len x) fun j hj => ?_
  rw [Nat.zero_add, add_add, addr_add sp]
  have hl : j < (c.enc x).length := by rw [c.len]; exact hj
  obtain ⟨q, h5⟩ := h4 j _ (List.getElem?_eq_getElem hl)
  rw [List.getElem?_eq_getElem hl]
  exact (hw _ _ _ (l1 _ _ _ h5)).cell
theorem Ss.addro {α : Type} {c : Cod α} {W w : World} {Hs : List HP} {sl : Sl} {xs : List α} (s : Ss W Hs w) (hl : sl.len = xs.length) (hcap : sl.len ≤ sl.cap) (hn : xs ≠ [] → ∃ a, sl.a = some a)
    (hc : ∀ (i : Nat) (x : α) (a : Addr), xs[i]? = some x → sl.a = some a → rdF W (a.add (i * c.n)) 0 c.n = some (c.enc x)) (h0 : 0 < c.n) : Ss W (rdS c false sl xs :: Hs) w := by
  cases ha : sl.a with
  | none =>
    have hx : xs = [] := Classical.byContradiction fun hne => by
      obtain ⟨a, h⟩ := hn hne
      rw [ha] at h
      cases h
    obtain ⟨hb, k, hs, hw⟩ := s
    refine ⟨hb, k, ⟨PH.nil, k, fun _ _ _ _ hx => (by cases hx), fun _ _ _ hx => (by cases hx), fun _ _ _ hx => hx, ⟨hl, hcap, hn, fun a h => ?_⟩, hs⟩, hw⟩
    rw [ha] at h
    cases h
  | some a =>
    -- the cells, one by one
    have cell : ∀ i v, (xs.flatMap c.enc)[i]? = some v → W.cell? (a.add i) = some v := by
      intro i v hv
      have hi : i < xs.length * c.n := by rw [← flat_len]; exact (List.getElem?_eq_some_iff.1 hv).1
      have hd : i / c.n < xs.length := (Nat.div_lt_iff_lt_mul h0).2 hi
      have hm : i % c.n < c.n := Nat.mod_lt _ h0
      have hx := List.getElem?_eq_getElem hd
      have hr := hc _ _ a hx ha
      have hat := flat_get (c := c) hx (j := i % c.n) (List.getElem?_eq_getElem (by rw [c.len]; exact hm))
      rw [Nat.mul_comm, Nat.div_add_mod, hv] at hat
      have key : ∀ (n i : Nat) (b : Addr) (l : List Value), rdF W b i n = some l → ∀ j, j < n → W.cell? (b.add (i + j)) = l[j]? := by
        intro n
        induction n with
        | zero => intro i b l _ j hj; omega
        | succ n ih =>
          intro i b l h j hj
          obtain ⟨x, hx, h2⟩ := Option.bind_eq_some_iff.1 h
          obtain ⟨l', hl', rfl⟩ := Option.map_eq_some_iff.1 h2
          cases j with
          | zero => simpa using hx
          | succ j =>
            have := ih (i + 1) b l' hl' j (by omega)
            rw [show i + (j + 1) = i + 1 + j by omega, this]
            rfl
      have h2 := key _ _ _ _ hr (i % c.n) hm
      rw [Nat.zero_add, add_add, Nat.mul_comm, Nat.div_add_mod] at h2
      rw [h2, hat, List.getElem?_eq_getElem (by rw [c.len]; exact hm)]
    by_cases hne : xs = []
    · obtain ⟨hb, k, hs, hw⟩ := s
      refine ⟨hb, k, ⟨PH.nil, k, fun _ _ _ _ hx => (by cases hx), fun _ _ _ hx => (by cases hx), fun _ _ _ hx => hx, ⟨hl, hcap, hn, fun a h h' => absurd hne h'⟩, hs⟩, hw⟩
    · have hlen : 0 < (xs.flatMap c.enc).length := by
        rw [flat_len]
        exact Nat.mul_pos (List.length_pos_iff.2 hne) h0
      have c0 := cell 0 _ (List.getElem?_eq_getElem hlen)
      have ha0 : a.add 0 = a := by simp [Addr.add]
      rw [ha0] at c0
      have sp : a.spot = none := by
        unfold World.cell? at c0
        cases hO : W.heap[a.block]? with
        | none => simp only [hO] at c0; cases c0
        | some O =>
          simp only [hO] at c0
          cases O <;> simp only at c0 <;> first | (cases hs : a.spot with | none => rfl | some _ => rw [hs] at c0; simp at c0) | cases c0
      have hlt : a.block < W.heap.size := by
        unfold World.cell? at c0
        cases hO : W.heap[a.block]? with
        | none => simp only [hO] at c0; cases c0
        | some O => exact (Array.getElem?_eq_some_iff.1 hO).1
      obtain ⟨hb, k, hs, hw⟩ := s
      let n : PH := fun b o => if b = a.block ∧ a.off ≤ o then ((xs.flatMap c.enc)[o - a.off]?).map fun v => (false, .v v) else none
      have hcell : ∀ b o, b < W.heap.size → w.cell? ⟨b, o, none⟩ = W.cell? ⟨b, o, none⟩ := fun b o h => hb.cell h
      have hn' : ∀ b o x, n b o = some x → Has W.heap.size w b o x ∧ b < W.heap.size ∧ ∃ v, x = (false, .v v) ∧ w.cell? ⟨b, o, none⟩ = some v := by
        intro b o x hx
        simp only [n] at hx
        split at hx
        · rename_i h
          obtain ⟨v, hv, rfl⟩ := Option.map_eq_some_iff.1 hx
          have := cell _ _ hv
          rw [addr_add sp] at this
          have e : (⟨a.block, a.off + (o - a.off), none⟩ : Addr) = ⟨b, o, none⟩ := by rw [h.1]; congr 1; omega
          rw [e] at this
          have hbl : b < W.heap.size := by rw [h.1]; exact hlt
          have h2 : w.cell? ⟨b, o, none⟩ = some v := by rw [hcell b o hbl]; exact this
          exact ⟨h2, hbl, v, rfl, h2⟩
        · cases hx
      have ok : n.ok k := by
        intro b o x y hx hy
        obtain ⟨_, h2, v, rfl, h3⟩ := hn' b o x hx
        have h4 := hw b o y hy
        refine ⟨?_, rfl⟩
        rcases y with ⟨q, y | mo⟩
        · cases q with
          | true => exact absurd h4.1 (by omega)
          | false =>
            have : w.cell? ⟨b, o, none⟩ = some y := h4
            rw [h3] at this
            cases this
            rfl
        · have : w.heap[b]? = some mo.obj := by
            cases q with
            | true => exact h4.2.2
            | false => exact h4.2
          unfold World.cell? at h3
          rw [this] at h3
          cases mo <;> cases h3
      refine ⟨hb, n.add k, ⟨n, k, ok, PH.le_add, PH.le_add' ok, ⟨hl, hcap, hn, fun a' h' _ => ?_⟩, hs⟩, fun b o x hx => ?_⟩
      · rw [ha] at h'
        cases h'
        refine ⟨sp, fun i v hv => ?_⟩
        simp only [n]
        rw [if_pos ⟨trivial, by omega⟩, Nat.add_sub_cancel_left, hv]
        rfl
      · rcases PH.add_some.1 hx with hx | ⟨_, hx⟩
        · exact (hn' b o x hx).1
        · exact hw b o x hx
theorem Ss.args {α : Type} {c : Cod α} {k : Nat} {G : World → α → Prop} {W w : World} {Hs : List HP} {sl : Sl} (s : Ss W Hs w) (g : GSl c k G W sl) (h0 : 0 < c.n) : ∃ xs : List α, (∀ x ∈ xs, G W x) ∧ xs.length * k ≤ reachBytes ∧ Ss W (rdS c false sl xs :: Hs) w := by
  rcases g with rfl | ⟨a, ha, h1, h2, h3, l, l1, l2⟩
  · exact ⟨[], by simp, by simp, s.addro rfl (Nat.le_refl _) (fun h => absurd rfl h) (fun i x a hx => by simp at hx) h0⟩
  · have hlen : (l.take sl.len).length = sl.len := by rw [List.length_take]; omega
    refine ⟨l.take sl.len, fun x hx => ?_, ?_, s.addro hlen.symm h1 (fun _ => ⟨a, ha⟩) (fun i x a' hx ha' => ?_) h0⟩
    · obtain ⟨i, hi, rfl⟩ := List.getElem_of_mem (List.mem_of_mem_take hx)
      exact (l2 i hi).2
    · rw [hlen]
      exact Nat.le_trans (Nat.mul_le_mul_right k h1) h3
    · rw [ha] at ha'
      cases ha'
      have hi : i < sl.len := by rw [← hlen]; exact (List.getElem?_eq_some_iff.1 hx).1
      rw [List.getElem?_take, if_pos hi] at hx
      have hil := (List.getElem?_eq_some_iff.1 hx).1
      rw [List.getElem?_eq_getElem hil] at hx
      cases hx
      exact (l2 i hil).1
def PH.ro (h : PH) : PH := fun b o => match h b o with
  | some (false, x) => some (false, x)
  | _ => none
theorem PH.ro_le {h : PH} : h.ro.le h := fun b o x hx => by
  unfold PH.ro at hx
  split at hx
  · rename_i e
    rw [e]
    exact hx
  · cases hx
theorem PH.ro_some {h : PH} {b o : Nat} {x : Bool × Ct} : h.ro b o = some x ↔ h b o = some x ∧ x.1 = false := by
  unfold PH.ro
  constructor
  · intro hx
    split at hx
    · rename_i e
      cases hx
      exact ⟨e, rfl⟩
    · cases hx
  · rintro ⟨hx, h1⟩
    obtain ⟨q, x⟩ := x
    simp only at h1
    subst h1
    rw [hx]
def Ro (A : HP) : Prop := ∀ h, A h → A h.ro
theorem Ro.seps {l : List HP} (hl : ∀ A ∈ l, Ro A) : Ro (seps l) := by
  induction l with
  | nil => exact fun _ _ => trivial
  | cons A l ih =>
    rintro h ⟨h1, h2, e, l1, l2, a, b⟩
    refine ⟨h1.ro, h2.ro, e.mono PH.ro_le PH.ro_le, fun b o x hx => ?_, fun b o x hx => ?_, hl A (by simp) h1 a, ih (fun B hB => hl B (by simp [hB])) h2 b⟩
    · obtain ⟨e1, e2⟩ := PH.ro_some.1 hx
      exact PH.ro_some.2 ⟨l1 b o x e1, e2⟩
    · obtain ⟨e1, e2⟩ := PH.ro_some.1 hx
      exact PH.ro_some.2 ⟨l2 b o x e1, e2⟩
theorem Ro.ex {α : Type} {φ : α → Prop} {P : α → HP} (h : ∀ x, Ro (P x)) : Ro (Lx.ex φ P) := fun k ⟨x, h1, h2⟩ => ⟨x, h1, h x k h2⟩
theorem Ro.pts {a : Addr} {L : List Value} : Ro (pts false a L) := fun h ⟨sp, hp⟩ => ⟨sp, fun i x hx => PH.ro_some.2 ⟨hp i x hx, rfl⟩⟩
theorem Ro.rdS {α : Type} {c : Cod α} {s : Sl} {xs : List α} : Ro (rdS c false s xs) := fun h ⟨h1, hc, h2, h3⟩ => ⟨h1, hc, h2, fun a ha hne => Ro.pts h (h3 a ha hne)⟩
theorem Ss.dup {W w : World} {l : List HP} {i : Nat} {A : HP} (s : Ss W l w) (e : nth l i = some A) (d : Ro A) : Ss W (A :: l) w := by
  obtain ⟨hb, k, hs, hw⟩ := s
  obtain ⟨h1, a, l1⟩ := seps_nth hs e
  refine ⟨hb, k, ⟨h1.ro, k, fun b o x y hx hy => ?_, PH.ro_le.trans l1, fun _ _ _ h => h, d h1 a, hs⟩, hw⟩
  obtain ⟨e1, e2⟩ := PH.ro_some.1 hx
  have := l1 b o x e1
  rw [hy] at this
  cases this
  exact ⟨rfl, e2⟩
theorem Ss.freeze {W w : World} {l : List HP} {A B : HP} (s : Ss W (A :: l) w) (f : ∀ h : PH, A h → B (fun b o => (h b o).map fun x => (false, x.2))) : Ss W (B :: l) w := by
  obtain ⟨hb, k, ⟨h1, h2, ok, l1, l2, a, b⟩, hw⟩ := s
  let n1 : PH := fun b o => (h1 b o).map fun x => (false, x.2)
  let kk : PH := fun b o => (n1 b o).or (k b o)
  have hn : ∀ b o x, n1 b o = some x → ∃ q, h1 b o = some (q, x.2) ∧ x.1 = false := by
    intro b o x hx
    obtain ⟨y, hy, rfl⟩ := Option.map_eq_some_iff.1 hx
    exact ⟨y.1, hy, rfl⟩
  refine ⟨hb, kk, ⟨n1, h2, ?_, ?_, ?_, f h1 a, b⟩, ?_⟩
  · intro b o x y hx hy
    obtain ⟨q, hq, hx1⟩ := hn b o x hx
    obtain ⟨e1, e2⟩ := ok b o _ y hq hy
    refine ⟨?_, hx1⟩
    rw [← e1]
    simp only at e2
    rw [e2]
    exact Prod.ext hx1 rfl
  · intro b o x hx
    simp only [kk]
    rw [hx]
    rfl
  · intro b o y hy
    simp only [kk]
    cases hx : n1 b o with
    | none => exact l2 b o y hy
    | some x =>
      obtain ⟨q, hq, hx1⟩ := hn b o x hx
      obtain ⟨e1, e2⟩ := ok b o _ y hq hy
      simp only at e2
      rw [← e1, e2]
      show some x = some (false, x.2)
      rw [← hx1]
  · intro b o x hx
    simp only [kk] at hx
    cases hx' : n1 b o with
    | none => rw [hx'] at hx; exact hw b o x hx
    | some y =>
      rw [hx'] at hx
      cases hx
      obtain ⟨q, hq, hx1⟩ := hn b o x hx'
      have h3 := hw b o _ (l1 b o _ hq)
      obtain ⟨xq, xc⟩ := x
      simp only at hx1
      subst hx1
      rcases xc with x | mo
      · exact h3.cell
      · cases q with
        | true => exact ⟨h3.2.1, h3.2.2⟩
        | false => exact h3
theorem Ss.vec_freeze {α : Type} {c : Cod α} {W w : World} {l : List HP} {sl : Sl} {xs sp : List α} (s : Ss W (vec c sl xs sp :: l) w) : Ss W (rdS c false sl xs :: l) w := by
  refine s.freeze ?_
  rintro h ⟨h1, h2, h3⟩
  refine ⟨h1, by omega, fun hne => ?_, fun a ha hne => ?_⟩
  · cases ha : sl.a with
    | some a => exact ⟨a, rfl⟩
    | none => rw [ha] at h3; exact absurd h3.1 hne
  · rw [ha] at h3
    obtain ⟨sp', hp⟩ := h3
    refine ⟨sp', fun i x hx => ?_⟩
    have h4 := hp i x (by rw [List.flatMap_append, List.getElem?_append_left (List.getElem?_eq_some_iff.1 hx).1]; exact hx)
    show (h a.block (a.off + i)).map _ = _
    rw [h4]
    rfl
theorem Ss.rd_all {α : Type} {c : Cod α} {W w : World} {Hs : List HP} {i : Nat} {A : HP} {sl : Sl} {xs : List α} (s : Ss W Hs w) (e : nth Hs i = some A) (r : Rdb A c sl xs) (h0 : 0 < c.n) : rdR w sl.a (sl.len * c.n) = some (xs.flatMap c.enc) := by
  obtain ⟨hl, hn⟩ := s.rd_len e r
  rw [hl]
  cases ha : sl.a with
  | none =>
    have hx : xs = [] := Classical.byContradiction fun hne => by
      obtain ⟨a, h⟩ := hn hne
      rw [ha] at h
      cases h
    subst hx
    rfl
  | some a =>
    show rdF w a 0 _ = _
    refine rdF_of _ _ _ (flat_len _ _) fun j hj => ?_
    have hd : j / c.n < xs.length := (Nat.div_lt_iff_lt_mul h0).2 hj
    have hm : j % c.n < c.n := Nat.mod_lt _ h0
    have hx := List.getElem?_eq_getElem hd
    obtain ⟨hb, h, hs, hw⟩ := s
    obtain ⟨h1, a1, l1⟩ := seps_nth hs e
    obtain ⟨_, _, h3⟩ := r h1 a1
    obtain ⟨sp, h4⟩ := h3 _ _ a hx ha
    have hv := List.getElem?_eq_getElem (l := c.enc xs[j / c.n]) (i := j % c.n) (by rw [c.len]; exact hm)
    have hat := flat_get (c := c) hx hv
    obtain ⟨q, h5⟩ := h4 _ _ hv
    have h6 := (hw _ _ _ (l1 _ _ _ h5)).cell
    rw [Nat.mul_comm, Nat.div_add_mod] at hat h6
    rw [Nat.zero_add, addr_add sp, hat]
    exact h6
namespace WP
variable {α β : Type} {w : World}
theorem rdx {W : World} {Hs : List HP} {A : HP} {c : Cod α} {sl : Sl} {xs : List α} {x : α} {k : Int} {n : Nat} {f : α → M β} {Q : β → World → Prop} (s : Ss W Hs w) (i : Nat) (e : nth Hs i = some A) (r : Rdb A c sl xs) (h0 : 0 ≤ k) (hx : xs[k.toNat]? = some x) (hn : n = c.n) (g : WP (f x) w Q) : WP (Lx.idx sl.a sl.len k n >>= fun p => Lx.ld c p >>= f) w Q := by
  subst hn
  obtain ⟨h1, h2⟩ := s.rd_len e r
  have hne : xs ≠ [] := fun e => by rw [e] at hx; simp at hx
  obtain ⟨a, ha⟩ := h2 hne
  have hlt := (List.getElem?_eq_some_iff.1 hx).1
  rw [ha]
  refine idx h0 (by omega) (bind ⟨x, w, ?_, g⟩)
  unfold Lx.ld
  rw [s.rd_cells e r hx ha]
  simp [c.de]
theorem appS {W : World} {Hs : List HP} {A : HP} {c : Cod α} {sl x : Sl} {xs : List α} {E : TypeId} {by_ : Nat} {z : α} {f : Sl → M β} {Q : β → World → Prop} (s : Ss W Hs w) (i : Nat) (e : nth Hs i = some A) (r : Rdb A c x xs) (h0 : 0 < c.n) (g : WP (Lx.appl c E by_ z sl xs >>= f) w Q) : WP (Lx.appS c E by_ z sl x >>= f) w Q := by
  obtain ⟨hl, _⟩ := s.rd_len e r
  have : Lx.appS c E by_ z sl x w = Lx.appl c E by_ z sl xs w := by
    unfold Lx.appS Lx.appl
    rw [s.rd_all e r h0, hl]
    rfl
  obtain ⟨b, w', h1, h2⟩ := g
  refine ⟨b, w', ?_, h2⟩
  rw [bind_def] at h1 ⊢
  rw [this]
  exact h1
theorem appl0 {W : World} {Hs : List HP} {c : Cod α} {xs : List α} {E : TypeId} {by_ : Nat} {z : α} {f : Sl → M β} {Q : β → World → Prop} (s : Ss W Hs w) (hb : xs.length * by_ ≤ 140737488355328) (h0 : 0 < by_)
    (k : ∀ r w' sp', Ss W (vec c r xs sp' :: Hs) w' → WP (f r) w' Q) : WP (Lx.appl c E by_ z Sl.nil xs >>= f) w Q := by
  have s2 : Ss W (vec c Sl.nil [] [] :: Hs) w := by
    obtain ⟨hb, k, hs, hw⟩ := s
    exact ⟨hb, k, ⟨PH.nil, k, fun _ _ _ _ hx => (by cases hx), fun _ _ _ hx => (by cases hx), fun _ _ _ hx => hx, vec_nil, hs⟩, hw⟩
  exact appl s2 0 rfl (by simpa using hb) h0 (fun r w' sp' s => k r w' sp' s)
end WP
end Go.Proofs.Ytlkhijflgbobjaa.Lx
