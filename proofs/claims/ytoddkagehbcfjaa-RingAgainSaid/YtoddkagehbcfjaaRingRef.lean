/- The document's answer of layer 3, of its programs in the M-world: a port of its own, whose lines are found by the times: it stands for the same plain port. -/
import Derived.Test.YtoddkagehbcfjaaRingRows
set_option linter.unusedVariables false
set_option linter.unusedSimpArgs false
namespace Go.Proofs.Ytoddkagehbcfjaa.Lx
open Go Go.Proofs Go.RowKit

theorem num_wp {w : World} (e : Int) : WP (weirlaw3_num e) w (fun r w' => r = e ∧ w = w') := WP.ret ⟨rfl, rfl⟩
theorem wide_wp {W w : World} {Hs : List HP} {A : HP} {a : Sl} {xs : List Int} (s : Ss W Hs w) (i : Nat) (e : nth Hs i = some A) (r : Rdb A (cI .u8) a xs) (hb : xs.length ≤ 140737488355000) : WP (weirlaw3_wide a) w (fun r w' => ∃ sp, Ss W (vec (cI .u8) r (xs ++ [91, 92, 93]) sp :: Hs) w') := by
  unfold weirlaw3_wide
  refine WP.appS s i e r (by decide) (WP.appl0 s (by omega) (by decide) (fun r w sp s => WP.slot' s (fun _ w s => ?_)))
  exact WP.appl s 0 rfl (by simp only [List.length_cons, List.length_nil]; omega) (by decide) (fun r w sp' s => WP.ret ⟨sp', s⟩)
theorem vec_front {α : Type} {c : Cod α} {s : Sl} {ys zs sp : List α} {n k : Nat} (h : ys.length = n) : Rdb (vec c s (ys ++ zs) sp) c ⟨s.a, n, k⟩ ys := by
  have := (vec_rdb (c := c) (s := s) (xs := ys ++ zs) (sp := sp)).take (k := ys.length) (n := k) (by simp)
  rwa [List.take_left, h] at this
theorem held0 {m : RM} {i : Nat} (ok : m.Ok) (h : m.place[i]? = some 4) : m.heldE i = 0 := by
  have := (List.getElem?_eq_some_iff.1 h).1
  rw [ok.pl] at this
  unfold RM.heldE
  rw [if_neg (by omega), Int.toNat_natCast, List.getD, h]
  rfl
abbrev cRB := c_weirref3_Buf
def bd (b : weirref3_Buf) (d : List Int) : HP := rdB b.Data d
/-- what stands in a buffer: the bytes, zeros behind them -/
def pad (n : Nat) (d : List Int) : List Int := (List.range n).map (fun k => d.getD k 0)
theorem pad_len (n : Nat) (d : List Int) : (pad n d).length = n := by unfold pad; simp
theorem pad_get {n : Nat} {d : List Int} {k : Nat} (h : k < n) : (pad n d)[k]? = some (d.getD k 0) := by
  unfold pad
  rw [List.getElem?_map, List.getElem?_range h]
  rfl
theorem pad_succ (n : Nat) (d : List Int) : pad (n + 1) d = pad n d ++ [d.getD n 0] := by unfold pad; simp [List.range_succ]
theorem pad_take {n k : Nat} (d : List Int) (h : k ≤ n) : (pad n d).take k = pad k d := by
  unfold pad
  rw [← List.map_take, List.take_range, Nat.min_eq_left h]
theorem pad_nil (n : Nat) : pad n [] = List.replicate n 0 := by
  refine List.eq_replicate_iff.2 ⟨pad_len n _, fun x hx => ?_⟩
  unfold pad at hx
  simp at hx
  exact hx.2.symm
theorem ext_get {α : Type} {l l' : List α} (hl : l.length = l'.length) (h : ∀ k, k < l.length → l[k]? = l'[k]?) : l = l' := by
  refine List.ext_getElem? (fun k => ?_)
  by_cases hk : k < l.length
  · exact h k hk
  · rw [List.getElem?_eq_none (by omega), List.getElem?_eq_none (by omega)]
theorem pad_laid {n : Nat} {xs d : List Int} (h : xs.length ≤ n) : pad n (xs ++ d.drop xs.length) = xs ++ (pad n d).drop xs.length := by
  refine ext_get (by rw [pad_len, List.length_append, List.length_drop, pad_len]; omega) (fun k hk => ?_)
  rw [pad_len] at hk
  rw [pad_get hk]
  by_cases hx : k < xs.length
  · rw [List.getElem?_append_left hx, List.getD, List.getElem?_append_left hx, List.getElem?_eq_getElem hx]
    rfl
  · rw [List.getElem?_append_right (by omega), List.getElem?_drop, show xs.length + (k - xs.length) = k by omega, pad_get hk, List.getD, List.getElem?_append_right (by omega), List.getElem?_drop, show xs.length + (k - xs.length) = k by omega]
    rfl
theorem pad_set {n q k : Nat} {d : List Int} {x : Int} (hq : d.length ≤ q) (hk : k < q) (hn : q ≤ n) : pad n ((pad q d).set k x) = (pad n d).set k x := by
  refine ext_get (by rw [pad_len, List.length_set, pad_len]) (fun j hj => ?_)
  rw [pad_len] at hj
  rw [pad_get hj]
  by_cases e : j = k
  · subst e
    rw [List.getElem?_set_self (by rw [pad_len]; omega), List.getD, List.getElem?_set_self (by rw [pad_len]; omega)]
    rfl
  · rw [List.getElem?_set_ne (fun h => e h.symm), pad_get hj, List.getD, List.getElem?_set_ne (fun h => e h.symm)]
    by_cases h : j < q
    · rw [pad_get h]
      rfl
    · rw [List.getElem?_eq_none (by rw [pad_len]; omega), List.getD, List.getElem?_eq_none (by omega)]
section
variable {W w : World} {Hs : List HP} {r : weirref3_Port} {bufs : List weirref3_Buf} {ds : List (List Int)}
/-- of those before n, the one at a place that came there first -/
def FirstN (bufs : List weirref3_Buf) (k : Int) (n : Nat) (x : Int) : Prop :=
  (x = -1 ∧ ∀ j b, j < n → bufs[j]? = some b → b.Place ≠ k) ∨ ∃ (i : Nat) (b : weirref3_Buf), x = i ∧ i < n ∧ bufs[i]? = some b ∧ b.Place = k ∧ ∀ j b', j < n → bufs[j]? = some b' → b'.Place = k → b.Since ≤ b'.Since
theorem first_wp (s : Ss W Hs w) (i : Nat) (e : nth Hs i = some (rdS cRB false r.L bufs)) (hl : bufs.length ≤ 8192) (k : Int) : WP (weirref3_first r k) w (fun x w' => FirstN bufs k bufs.length x ∧ Ss W Hs w') := by
  unfold weirref3_first
  refine WP.slot' s (fun _ w s => ?_)
  have hlen := (s.rd_len e rdS_rdb).1
  refine WP.loop (fun (x : Int × Int) w' => 0 ≤ x.2 ∧ x.2 ≤ bufs.length ∧ FirstN bufs k x.2.toNat x.1 ∧ Ss W Hs w') (fun x _ => ((bufs.length : Int) - x.2).toNat) ⟨by simp, by simp, .inl ⟨rfl, fun j b h => absurd h (by simp)⟩, s⟩ ?_
  clear s
  rintro ⟨x, j⟩ w ⟨j0, j1, hf, s⟩
  simp only at j0 j1 hf
  show WP (weirref3_first.L1 r k x j) w _
  unfold weirref3_first.L1
  refine WP.ite (fun hj => WP.draw' s (fun w s => ?_)) (fun hj => WP.done ⟨?_, s⟩)
  · rw [hlen] at hj
    obtain ⟨j, rfl⟩ : ∃ n : Nat, j = n := ⟨j.toNat, by omega⟩
    rw [Int.toNat_natCast] at hf
    have hb := List.getElem?_eq_getElem (show j < bufs.length by omega)
    generalize bufs[j] = b at hb
    have nx : ∀ x', FirstN bufs k (j + 1) x' → WP (pure (LS.next (x', IntKind.wrap .i64 ((j : Int) + 1))) : M (LS (Int × Int) Int)) w (WP.Rd (fun x w' => (0 ≤ x.2 ∧ x.2 ≤ bufs.length ∧ FirstN bufs k x.2.toNat x.1 ∧ Ss W Hs w') ∧ ((bufs.length : Int) - x.2).toNat < ((bufs.length : Int) - (j : Int)).toNat) (fun x w' => FirstN bufs k bufs.length x ∧ Ss W Hs w')) := by
      intro x' hx'
      refine WP.next ?_
      rw [wrap_i64 (by omega) (by omega)]
      refine ⟨⟨by simp only; omega, by simp only; omega, ?_, s⟩, by simp only; omega⟩
      show FirstN bufs k ((j : Int) + 1).toNat x'
      rw [show ((j : Int) + 1).toNat = j + 1 by omega]
      exact hx'
    refine WP.rdxp0 s i e rdS_rdb (by omega) (x := b) (by rw [Int.toNat_natCast]; exact hb) rfl (At_weirref3_Buf_Place b) ?_
    -- does it come first?
    refine WP.step (R := fun y w' => (y = true → FirstN bufs k (j + 1) j) ∧ (y = false → FirstN bufs k (j + 1) x) ∧ w = w') ?_ ?_
    · refine WP.ite (fun hp => ?_) (fun hp => WP.ret ⟨(fun h => by cases h), fun _ => ?_, rfl⟩)
      · refine WP.step (R := fun y w' => (y = true → FirstN bufs k (j + 1) j) ∧ (y = false → FirstN bufs k (j + 1) x) ∧ w = w') ?_ (fun y w h => WP.ret h)
        refine WP.ite (fun hx => WP.ret ⟨fun _ => ?_, (fun h => by cases h), rfl⟩) (fun hx => ?_)
        · rcases hf with ⟨_, h⟩ | ⟨i2, b2, h, _⟩
          · refine .inr ⟨j, b, rfl, by omega, hb, hp, fun j2 b' h2 h3 h4 => ?_⟩
            by_cases e2 : j2 = j
            · subst e2
              rw [hb] at h3
              cases h3
              exact Int.le_refl _
            · exact absurd h4 (h j2 b' (by omega) h3)
          · omega
        · rcases hf with ⟨h, _⟩ | ⟨i2, b2, rfl, h2, h3, h4, h5⟩
          · omega
          refine WP.rdxp s i e rdS_rdb (by omega) (x := b) (by rw [Int.toNat_natCast]; exact hb) rfl (At_weirref3_Buf_Since b) ?_
          refine WP.rdxp s i e rdS_rdb (by omega) (x := b2) (by rw [Int.toNat_natCast]; exact h3) rfl (At_weirref3_Buf_Since b2) (WP.ret ⟨fun h => ?_, fun h => ?_, rfl⟩)
          · have h := of_decide_eq_true h
            refine .inr ⟨j, b, rfl, by omega, hb, hp, fun j2 b' q2 q3 q4 => ?_⟩
            by_cases e2 : j2 = j
            · subst e2
              rw [hb] at q3
              cases q3
              exact Int.le_refl _
            · have := h5 j2 b' (by omega) q3 q4
              omega
          · have h := of_decide_eq_false h
            refine .inr ⟨i2, b2, rfl, by omega, h3, h4, fun j2 b' q2 q3 q4 => ?_⟩
            by_cases e2 : j2 = j
            · subst e2
              rw [hb] at q3
              cases q3
              omega
            · exact h5 j2 b' (by omega) q3 q4
      · rcases hf with ⟨h, h'⟩ | ⟨i2, b2, rfl, h2, h3, h4, h5⟩
        · refine .inl ⟨h, fun j2 b' q2 q3 => ?_⟩
          by_cases e2 : j2 = j
          · subst e2
            rw [hb] at q3
            cases q3
            exact hp
          · exact h' j2 b' (by omega) q3
        · refine .inr ⟨i2, b2, rfl, by omega, h3, h4, fun j2 b' q2 q3 q4 => ?_⟩
          by_cases e2 : j2 = j
          · subst e2
            rw [hb] at q3
            cases q3
            exact absurd q4 hp
          · exact h5 j2 b' (by omega) q3 q4
    rintro y _ ⟨h1, h2, rfl⟩
    refine WP.ite (fun h => nx _ (h1 h)) (fun h => nx _ (h2 (by simpa using h)))
  · rw [hlen] at hj
    have : j.toNat = bufs.length := by omega
    rw [this] at hf
    exact hf
theorem count_wp (s : Ss W Hs w) (i : Nat) (e : nth Hs i = some (rdS cRB false r.L bufs)) (hl : bufs.length ≤ 8192) (k : Int) : WP (weirref3_count r k) w (fun x w' => x = ((bufs.map (·.Place)).count k : Int) ∧ Ss W Hs w') := by
  unfold weirref3_count
  refine WP.slot' s (fun _ w s => ?_)
  have hlen := (s.rd_len e rdS_rdb).1
  refine WP.loop (fun (x : Int × Int) w' => 0 ≤ x.2 ∧ x.2 ≤ bufs.length ∧ x.1 = (((bufs.map (·.Place)).take x.2.toNat).count k : Int) ∧ Ss W Hs w') (fun x _ => ((bufs.length : Int) - x.2).toNat) ⟨by simp, by simp, by simp, s⟩ ?_
  clear s
  rintro ⟨x, j⟩ w ⟨j0, j1, hf, s⟩
  simp only at j0 j1 hf
  show WP (weirref3_count.L1 r k x j) w _
  unfold weirref3_count.L1
  refine WP.ite (fun hj => ?_) (fun hj => WP.done ⟨?_, s⟩)
  · rw [hlen] at hj
    obtain ⟨j, rfl⟩ : ∃ n : Nat, j = n := ⟨j.toNat, by omega⟩
    rw [Int.toNat_natCast] at hf
    have hb := List.getElem?_eq_getElem (show j < bufs.length by omega)
    generalize bufs[j] = b at hb
    have hc := List.count_le_length (a := k) (l := (bufs.map (·.Place)).take j)
    rw [List.length_take, List.length_map] at hc
    have hs : (bufs.map (·.Place)).take (j + 1) = (bufs.map (·.Place)).take j ++ [b.Place] := by
      rw [List.take_add_one, List.getElem?_map, hb]
      rfl
    refine WP.rdxp0 s i e rdS_rdb (by omega) (x := b) (by rw [Int.toNat_natCast]; exact hb) rfl (At_weirref3_Buf_Place b) ?_
    refine WP.ite (fun hp => WP.next ?_) (fun hp => WP.next ?_)
    · rw [wrap_i64 (by omega) (by omega), wrap_i64 (by omega) (by omega)]
      refine ⟨⟨by simp only; omega, by simp only; omega, ?_, s⟩, by simp only; omega⟩
      show x + 1 = _
      rw [show ((j : Int) + 1).toNat = j + 1 by omega, hs, List.count_append, hp, hf]
      simp
    · rw [wrap_i64 (by omega) (by omega)]
      refine ⟨⟨by simp only; omega, by simp only; omega, ?_, s⟩, by simp only; omega⟩
      show x = _
      rw [show ((j : Int) + 1).toNat = j + 1 by omega, hs, List.count_append, hf]
      simp [hp]
  · rw [hlen] at hj
    rw [hf, show j.toNat = bufs.length by omega, List.take_of_length_le (by simp)]
theorem put_wp (s : Ss W Hs w) (i : Nat) (e : nth Hs i = some (rdS cRB false r.L bufs)) (hl : bufs.length ≤ 8192) {j : Nat} (hj : j < bufs.length) (b : weirref3_Buf) : WP (weirref3_put r (j : Int) b) w (fun x w' => ∃ l, x = ⟨r.Rx, r.Tx, r.Size, l, r.Now⟩ ∧ Ss W (rdS cRB false l (bufs.set j b) :: Hs) w') := by
  unfold weirref3_put
  refine WP.slot' s (fun _ w s => WP.slot' s (fun _ w s => WP.slot' s (fun _ w s => ?_)))
  refine WP.appS s i e rdS_rdb (by decide) (WP.appl0 s (by omega) (by decide) (fun l w sp s => ?_))
  refine WP.stx s 0 rfl (by omega) (by omega) rfl (fun w s => WP.ret ⟨l, rfl, ?_⟩)
  rw [Int.toNat_natCast] at s
  exact Ss.vec_freeze s
theorem moved_wp (s : Ss W Hs w) (i : Nat) (e : nth Hs i = some (rdS cRB false r.L bufs)) (hl : bufs.length ≤ 8192) {j : Nat} {b : weirref3_Buf} (hj : bufs[j]? = some b) (k : Int) : WP (weirref3_moved r (j : Int) k) w (fun x w' => ∃ l, x = ⟨r.Rx, r.Tx, r.Size, l, IntKind.wrap .i64 (r.Now + 1)⟩ ∧ Ss W (rdS cRB false l (bufs.set j ⟨k, r.Now, b.N, b.Data⟩) :: Hs) w') := by
  unfold weirref3_moved
  refine WP.slot' s (fun _ w s => WP.slot' s (fun _ w s => ?_))
  refine WP.rdx s i e rdS_rdb (by omega) (x := b) (by rw [Int.toNat_natCast]; exact hj) rfl (WP.slot' s (fun _ w s => ?_))
  refine WP.step (put_wp s i e hl (List.getElem?_eq_some_iff.1 hj).1 _) ?_
  rintro _ w ⟨l, rfl, s⟩
  exact WP.ret ⟨l, rfl, s⟩
theorem Bytes_wp (s : Ss W Hs w) (i : Nat) (e : nth Hs i = some (rdS cRB false r.L bufs)) {j : Nat} {b : weirref3_Buf} {d : List Int} {A : HP} (hj : bufs[j]? = some b) (i2 : Nat) (e2 : nth Hs i2 = some A) (rd : Rdb A (cI .u8) b.Data d) {n : Nat} (hn : n ≤ 100000) : WP (weirref3_Bytes r (j : Int) (n : Int)) w (fun x w' => ∃ sp, Ss W (vec (cI .u8) x (pad n d) sp :: Hs) w') := by
  unfold weirref3_Bytes
  refine WP.slot' s (fun _ w s => ?_)
  have hdl := (s.rd_len e2 rd).1
  refine WP.loop (fun (x : Sl × Int) w' => 0 ≤ x.2 ∧ x.2 ≤ n ∧ ∃ sp, Ss W (vec (cI .u8) x.1 (pad x.2.toNat d) sp :: Hs) w') (fun x _ => ((n : Int) - x.2).toNat) ⟨by simp, by simp, [], s.mk0 vec_nil⟩ ?_
  clear s
  rintro ⟨x, k⟩ w ⟨k0, k1, sp, s⟩
  simp only at k0 k1 s
  show WP (weirref3_Bytes.L1 r (j : Int) (n : Int) x k) w _
  unfold weirref3_Bytes.L1
  refine WP.ite (fun hk => ?_) (fun hk => WP.done ⟨sp, ?_⟩)
  · obtain ⟨k, rfl⟩ : ∃ n : Nat, k = n := ⟨k.toNat, by omega⟩
    rw [Int.toNat_natCast] at s
    have nx : ∀ {w : World} (y : Int), y = d.getD k 0 → Ss W (vec (cI .u8) x (pad k d) sp :: Hs) w → WP (Lx.appl (cI .u8) 5 1 0 x [y] >>= fun r31 => (pure (LS.next (r31, IntKind.wrap .i64 ((k : Int) + 1))) : M (LS (Sl × Int) Sl))) w (WP.Rd (fun x w' => (0 ≤ x.2 ∧ x.2 ≤ n ∧ ∃ sp, Ss W (vec (cI .u8) x.1 (pad x.2.toNat d) sp :: Hs) w') ∧ ((n : Int) - x.2).toNat < ((n : Int) - (k : Int)).toNat) (fun x w' => ∃ sp, Ss W (vec (cI .u8) x (pad n d) sp :: Hs) w')) := by
      rintro w y rfl s
      refine WP.appl s 0 rfl (by rw [pad_len]; simp only [List.length_cons, List.length_nil]; omega) (by decide) (fun r w sp' s => WP.next ?_)
      rw [wrap_i64 (by omega) (by omega)]
      refine ⟨⟨by simp only; omega, by simp only; omega, sp', ?_⟩, by simp only; omega⟩
      show Ss W (vec (cI .u8) r (pad ((k : Int) + 1).toNat d) sp' :: Hs) w
      rw [show ((k : Int) + 1).toNat = k + 1 by omega, pad_succ]
      exact s
    refine WP.rdxp s (i + 1) e rdS_rdb (by omega) (x := b) (by rw [Int.toNat_natCast]; exact hj) rfl (At_weirref3_Buf_Data b) ?_
    refine WP.ite (fun h => ?_) (fun h => WP.slot' s (fun _ w s => nx 0 ?_ s))
    · rw [hdl] at h
      refine WP.rdxp s (i + 1) e rdS_rdb (by omega) (x := b) (by rw [Int.toNat_natCast]; exact hj) rfl (At_weirref3_Buf_Data b) ?_
      refine WP.rdx s (i2 + 1) e2 rd (by omega) (by rw [Int.toNat_natCast]; exact getD_get (z := (0 : Int)) (by omega)) rfl (WP.slot' s (fun _ w s => nx _ rfl s))
    · rw [hdl] at h
      rw [List.getD, List.getElem?_eq_none (by omega)]
      rfl
  · have : k.toNat = n := by omega
    rw [this] at s
    exact s
theorem laid_wp (s : Ss W Hs w) {A B : HP} {a b : Sl} {d xs : List Int} (i : Nat) (e : nth Hs i = some A) (ra : Rdb A (cI .u8) a d) (i2 : Nat) (e2 : nth Hs i2 = some B) (rb : Rdb B (cI .u8) b xs) (hd : d.length ≤ 100000) (hx : xs.length ≤ 100000) : WP (weirref3_laid a b) w (fun x w' => ∃ sp, Ss W (vec (cI .u8) x (xs ++ d.drop xs.length) sp :: Hs) w') := by
  unfold weirref3_laid
  have hal := (s.rd_len e ra).1
  have hbl := (s.rd_len e2 rb).1
  refine WP.appS s i2 e2 rb (by decide) (WP.appl0 s (by omega) (by decide) (fun l w sp s => ?_))
  refine WP.loop (fun (x : Sl × Int) w' => xs.length ≤ x.2 ∧ (x.2 ≤ xs.length ∨ x.2 ≤ d.length) ∧ ∃ sp, Ss W (vec (cI .u8) x.1 (xs ++ (d.take x.2.toNat).drop xs.length) sp :: Hs) w') (fun x _ => ((d.length : Int) - x.2).toNat) ⟨by simp only; omega, by simp only; omega, sp, by rw [hbl]; simp only [Int.toNat_natCast]; rw [List.drop_eq_nil_of_le (by rw [List.length_take]; omega), List.append_nil]; exact s⟩ ?_
  clear s
  rintro ⟨x, k⟩ w ⟨k0, k1, sp, s⟩
  simp only at k0 k1 s
  show WP (weirref3_laid.L1 a x k) w _
  unfold weirref3_laid.L1
  refine WP.ite (fun hk => ?_) (fun hk => WP.done ⟨sp, ?_⟩)
  · rw [hal] at hk
    obtain ⟨k, rfl⟩ : ∃ n : Nat, k = n := ⟨k.toNat, by omega⟩
    rw [Int.toNat_natCast] at s
    have hy := List.getElem?_eq_getElem (show k < d.length by omega)
    generalize d[k] = y at hy
    refine WP.rdx s (i + 1) e ra (by omega) (x := y) (by rw [Int.toNat_natCast]; exact hy) rfl (WP.slot' s (fun _ w s => ?_))
    refine WP.appl s 0 rfl (by simp only [List.length_append, List.length_drop, List.length_take, List.length_cons, List.length_nil]; omega) (by decide) (fun r w sp' s => WP.next ?_)
    rw [wrap_i64 (by omega) (by omega)]
    refine ⟨⟨by simp only; omega, by simp only; omega, sp', ?_⟩, by simp only; omega⟩
    show Ss W (vec (cI .u8) r (xs ++ (d.take ((k : Int) + 1).toNat).drop xs.length) sp' :: Hs) w
    rw [show ((k : Int) + 1).toNat = k + 1 by omega, List.take_add_one, hy, List.drop_append_of_le_length (by rw [List.length_take]; omega), ← List.append_assoc]
    exact s
  · rw [hal] at hk
    rw [List.take_of_length_le (by omega)] at s
    exact s
theorem out_wp (n lo hi : Int) : WP (weirref3_out n lo hi) w (fun r w' => r = decide (n < lo ∨ n > hi) ∧ w = w') := by
  unfold weirref3_out
  refine WP.step (R := fun y w' => y = decide (n < lo ∨ n > hi) ∧ w = w') (WP.ite (fun h => WP.ret ⟨by simp [h], rfl⟩) (fun h => WP.ret ⟨by simp [h], rfl⟩)) ?_
  rintro _ _ ⟨rfl, rfl⟩
  exact WP.ret ⟨rfl, rfl⟩
theorem Ref.Places_wp (s : Ss W Hs w) (i : Nat) (e : nth Hs i = some (rdS cRB false r.L bufs)) (hl : bufs.length ≤ 8192) : WP (weirref3_Places r) w (fun x w' => ∃ sp, Ss W (vec (cI .i64) x (bufs.map (·.Place)) sp :: Hs) w') := by
  unfold weirref3_Places
  refine WP.slot' s (fun _ w s => ?_)
  have hlen := (s.rd_len e rdS_rdb).1
  refine WP.loop (fun (x : Sl × Int) w' => 0 ≤ x.2 ∧ x.2 ≤ bufs.length ∧ ∃ sp, Ss W (vec (cI .i64) x.1 ((bufs.map (·.Place)).take x.2.toNat) sp :: Hs) w') (fun x _ => ((bufs.length : Int) - x.2).toNat) ⟨by simp, by simp, [], s.mk0 vec_nil⟩ ?_
  clear s
  rintro ⟨x, k⟩ w ⟨k0, k1, sp, s⟩
  simp only at k0 k1 s
  show WP (weirref3_Places.L1 r x k) w _
  unfold weirref3_Places.L1
  refine WP.ite (fun hk => ?_) (fun hk => WP.done ⟨sp, ?_⟩)
  · rw [hlen] at hk
    obtain ⟨k, rfl⟩ : ∃ n : Nat, k = n := ⟨k.toNat, by omega⟩
    rw [Int.toNat_natCast] at s
    have hb := List.getElem?_eq_getElem (show k < bufs.length by omega)
    generalize bufs[k] = b at hb
    refine WP.rdxp0 s (i + 1) e rdS_rdb (by omega) (x := b) (by rw [Int.toNat_natCast]; exact hb) rfl (At_weirref3_Buf_Place b) (WP.slot' s (fun _ w s => ?_))
    refine WP.appl s 0 rfl (by simp only [List.length_take, List.length_map, List.length_cons, List.length_nil]; omega) (by decide) (fun r w sp' s => WP.next ?_)
    rw [wrap_i64 (by omega) (by omega)]
    refine ⟨⟨by simp only; omega, by simp only; omega, sp', ?_⟩, by simp only; omega⟩
    show Ss W (vec (cI .i64) r ((bufs.map (·.Place)).take ((k : Int) + 1).toNat) sp' :: Hs) w
    rw [show ((k : Int) + 1).toNat = k + 1 by omega, List.take_add_one, List.getElem?_map, hb]
    exact s
  · rw [hlen] at hk
    rw [List.take_of_length_le (by rw [List.length_map]; omega)] at s
    exact s
end
end Go.Proofs.Ytoddkagehbcfjaa.Lx
