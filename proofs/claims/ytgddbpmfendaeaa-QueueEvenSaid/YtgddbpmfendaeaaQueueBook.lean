/- The caller's book of the outright queue laws (what waits of each class, its bytes, what was served), of its programs in the M-world. -/
import Derived.Test.YtgddbpmfendaeaaQueueOf
import Derived.Test.YtgddbpmfendaeaaLxX
set_option linter.unusedVariables false
set_option linter.unusedSimpArgs false
namespace Go.Proofs.Ytgddbpmfendaeaa.Lx
open Go Go.Proofs Go.RowKit

/-! ### what a Pop does to what waits -/
theorem Turns.map {β : Type} (f : Cl → β) (hf : ∀ (k : Cl) (d : Int), f { k with d := d } = f k) {m m' : QM} (h : QM.Turns m m') (ok : m.Ok) : m'.cl.map f = m.cl.map f := by
  induction h with
  | take hr hd => exact map_gives f hf ok.n0
  | pass1 hr hd h ih =>
    have okg := ok.gives hr
    exact (ih (okg.onward (fun _ => by omega))).trans ((map_onward f hf okg.n0).trans (map_gives f hf ok.n0))
  | pass0 hr h ih => exact (ih (ok.onward (fun h => by rw [hr] at h; cases h))).trans (map_onward f hf ok.n0)
theorem Turns.qs {m m' : QM} (h : QM.Turns m m') (ok : m.Ok) : m'.qs = m.qs := Turns.map Cl.q (fun _ _ => rfl) h ok
/-- an item that comes is the first of its class; the class loses it alone -/
theorem Pops.first {m m2 : QM} {y d : Int} (h : Pops m (y, d, true) m2) (ok : m.Ok) : ∃ (i : Nat) (x : queue_item) (q' : List queue_item), d = i ∧ i < m.n ∧ y = x.id ∧ m.qs[i]? = some (x :: q') ∧ m2.qs = m.qs.set i q' ∧ 1 ≤ x.size ∧ x.size ≤ 65535 ∧ 0 ≤ sizes q' ∧ sizes q' + x.size ≤ 67108864 := by
  cases h with
  | item h ht hx =>
    rename_i m' x q'
    obtain ⟨ok', hn, hr, hd⟩ := ht.ok ok
    have e := Turns.qs ht ok
    have hc := QM.cur_at ok'.n0
    have hq := qs_get hc
    rw [e, hx] at hq
    have okc := ok'.cl _ (QM.cur_mem ok'.n0)
    have hsz := okc.size x (by rw [hx]; simp)
    have hb := okc.bytes
    have hcl := okClass_iff.1 okc.c
    have h0 : 0 ≤ sizes q' := sizes_nonneg (fun y hy => okc.size y (by rw [hx]; simp [hy]))
    rw [hx, sizes_cons] at hb
    refine ⟨m'.at_, x, q', rfl, by rw [← hn]; exact ok'.n0, rfl, hq, ?_, hsz.1, hsz.2, h0, by omega⟩
    unfold QM.take
    simp only
    rw [hx]
    show (m'.cl.set m'.at_ _).map Cl.q = _
    rw [List.map_set]
    show (m'.qs.set m'.at_ q') = _
    rw [e]
theorem newQ_qs (xs : List api_Class) : (newQ xs).qs = List.replicate xs.length [] := by
  rw [List.eq_replicate_iff]
  refine ⟨by simp [QM.qs, newQ], fun q hq => ?_⟩
  obtain ⟨k, hk, rfl⟩ := List.mem_map.1 hq
  exact newQ_fresh xs k hk
theorem newQ_c (xs : List api_Class) : (newQ xs).cl.map (·.c) = xs := by
  unfold newQ
  simp only [List.map_map]
  exact List.map_id' xs
theorem push_c (m : QM) (a b c : Int) : (m.push a b c).1.cl.map (·.c) = m.cl.map (·.c) := by
  unfold QM.push
  split
  · rfl
  · split
    · rfl
    · simp only
      split
      · rfl
      · simp only [List.map_set]
        refine set_eq ?_
        rw [List.getElem?_map, getD_get (z := default) (by unfold QM.n at *; omega)]
        rfl
theorem tick_c (m : QM) : m.tick.cl.map (·.c) = m.cl.map (·.c) := by
  unfold QM.tick
  simp only [List.map_map]
  congr 1
  funext k
  simp only [Function.comp]
  split <;> rfl
theorem take_c {m : QM} (h0 : m.at_ < m.n) : m.take.cl.map (·.c) = m.cl.map (·.c) := by
  unfold QM.take
  simp only
  show (m.cl.set m.at_ _).map _ = _
  rw [List.map_set]
  exact set_eq (by rw [List.getElem?_map, QM.cur_at h0]; rfl)
theorem Pops.c {m m2 : QM} {r : Int × Int × Bool} (h : Pops m r m2) (ok : m.Ok) : m2.cl.map (·.c) = m.cl.map (·.c) := by
  cases h with
  | none _ => rfl
  | item h ht hx => rw [take_c (ht.ok ok).1.n0]; exact Turns.map (·.c) (fun _ _ => rfl) ht ok
theorem tick_qs (m : QM) : m.tick.qs = m.qs := by
  unfold QM.tick QM.qs
  simp only [List.map_map]
  congr 1
  funext k
  simp only [Function.comp]
  split <;> rfl
/-! ### the book -/
def toItem (x : queue_item) : weirlaw18_Item := ⟨x.size, x.id⟩
def lineH (s : Sl) (q : List queue_item) : HP := ex (fun _ => True) (fun sp => vec c_weirlaw18_Item s (q.map toItem) sp)
def BookHs (ba : Addr) (x y z : Sl) (ls lsp : List Sl) (bs bsp : List Int) (ssp : List Int) (qs : List (List queue_item)) (sv : List Int) : List HP :=
  [pts true ba (c_weirlaw18_Book.enc ⟨x, y, z⟩), vec cL x ls lsp, vec (cI .i64) y bs bsp, vec (cI .i64) z sv ssp, seps (zipH lineH ls qs)]
/-- a book of what waits, and of what was served -/
def Book (b : Option Addr) (qs : List (List queue_item)) (sv : List Int) : HP := fun h => ∃ ba x y z ls lsp bsp ssp, b = some ba ∧ ls.length = qs.length ∧ sv.length = qs.length ∧ seps (BookHs ba x y z ls lsp (qs.map sizes) bsp ssp qs sv) h
section
variable {W w : World} {R : List HP} {b : Option Addr} {qs : List (List queue_item)} {sv : List Int}
theorem Ss.openB (s : Ss W (Book b qs sv :: R) w) : ∃ ba x y z ls lsp bsp ssp, b = some ba ∧ ls.length = qs.length ∧ sv.length = qs.length ∧ Ss W (BookHs ba x y z ls lsp (qs.map sizes) bsp ssp qs sv ++ R) w := by
  obtain ⟨hb, k, ⟨h1, h2, e, l1, l2, ⟨ba, x, y, z, ls, lsp, bsp, ssp, a1, a2, a3, a4⟩, b⟩, hw⟩ := s
  refine ⟨ba, x, y, z, ls, lsp, bsp, ssp, a1, a2, a3, Ss.split ⟨hb, k, ⟨h1, h2, e, l1, l2, a4, b⟩, hw⟩⟩
theorem Ss.closeB {ba : Addr} {x y z : Sl} {ls lsp : List Sl} {bs bsp ssp : List Int} (s : Ss W (BookHs ba x y z ls lsp bs bsp ssp qs sv ++ R) w) (hb : b = some ba) (h1 : ls.length = qs.length) (h2 : sv.length = qs.length) (h3 : bs = qs.map sizes) : Ss W (Book b qs sv :: R) w := by
  subst h3
  exact s.group.first (fun h hp => ⟨ba, x, y, z, ls, lsp, bsp, ssp, hb, h1, h2, hp⟩)
theorem book_wp (s : Ss W R w) {n : Nat} (hn : n ≤ 1000) : WP (weirlaw18_book (n : Int)) w (fun r w' => Ss W (Book r (List.replicate n []) (List.replicate n 0) :: R) w') := by
  unfold weirlaw18_book
  refine WP.newv s (fun b w s => ?_)
  have s1 : Ss W (Book (some (pt b 0)) [] [] :: R) w := by
    have s2 := ((((s.mk0 (A := seps (zipH lineH [] [])) trivial).mk0 (A := vec (cI .i64) Sl.nil [] []) vec_nil).mk0 (A := vec (cI .i64) Sl.nil [] []) vec_nil).mk0 (A := vec cL Sl.nil [] []) vec_nil).use [4] rfl
    exact Ss.closeB (x := Sl.nil) (y := Sl.nil) (z := Sl.nil) (ls := []) (lsp := []) (bs := []) (bsp := []) (ssp := []) s2 rfl rfl rfl rfl
  refine WP.loop (fun (k : Int) w' => 0 ≤ k ∧ k ≤ n ∧ Ss W (Book (some (pt b 0)) (List.replicate k.toNat []) (List.replicate k.toNat 0) :: R) w') (fun k _ => ((n : Int) - k).toNat) ⟨by omega, by omega, s1⟩ ?_
  rintro k w ⟨k0, k1, s⟩
  unfold weirlaw18_book.L1
  refine WP.ite (fun hk => ?_) (fun hk => ?_)
  · obtain ⟨ba, x, y, z, ls, lsp, bsp, ssp, hb, h1, h2, s⟩ := s.openB
    cases hb
    rw [List.length_replicate] at h1 h2
    have hm : (List.replicate k.toNat ([] : List queue_item)).map sizes = List.replicate k.toNat 0 := by rw [List.map_replicate]; rfl
    rw [hm] at s
    refine WP.ld s 0 rfl (o := 0) (by simp [Addr.add]) (At_weirlaw18_Book_L _) (WP.slot' s (fun _ w s => ?_))
    refine WP.appl s 1 rfl (by simp only [List.length_cons, List.length_nil]; omega) (by decide) (fun r1 w sp1 s => ?_)
    refine WP.st s 0 rfl (o := 0) (by simp [Addr.add]) (Up_weirlaw18_Book_L _ _) (fun w s => ?_)
    refine WP.ld s 0 rfl (o := 1) rfl (At_weirlaw18_Book_Bytes _) (WP.slot' s (fun _ w s => ?_))
    refine WP.appl s 2 rfl (by simp only [List.length_replicate, List.length_cons, List.length_nil]; omega) (by decide) (fun r2 w sp2 s => ?_)
    refine WP.st s 0 rfl (o := 1) rfl (Up_weirlaw18_Book_Bytes _ _) (fun w s => ?_)
    refine WP.ld s 0 rfl (o := 2) rfl (At_weirlaw18_Book_Served _) (WP.slot' s (fun _ w s => ?_))
    refine WP.appl s 3 rfl (by simp only [List.length_replicate, List.length_cons, List.length_nil]; omega) (by decide) (fun r3 w sp3 s => ?_)
    refine WP.st s 0 rfl (o := 2) rfl (Up_weirlaw18_Book_Served _ _) (fun w s => WP.next ?_)
    rw [wrap_i64 (by omega) (by omega)]
    refine ⟨⟨by omega, by omega, ?_⟩, by omega⟩
    have e1 : (k + 1).toNat = k.toNat + 1 := by omega
    rw [e1, List.replicate_succ', List.replicate_succ']
    have s3 := s.mk0 (A := lineH Sl.nil []) ⟨[], trivial, vec_nil⟩
    have s4 := s3.into 4 rfl (M := zipH lineH (ls ++ [Sl.nil]) (List.replicate k.toNat [] ++ [[]])) (by
      rw [zipH_snoc (by rw [h1, List.length_replicate])]
      exact (List.perm_append_singleton _ _).symm)
    exact Ss.closeB (x := r1) (y := r2) (z := r3) (lsp := sp1) (bsp := sp2) (ssp := sp3) s4 rfl (by simp [h1]) (by simp) (by simp [hm]; rfl)
  · have : k.toNat = n := by omega
    rw [this] at s
    exact WP.done s
/-- class i's slice is as long as what waits -/
theorem BookHs.len {ba : Addr} {x y z : Sl} {ls lsp : List Sl} {bs bsp ssp : List Int} (s : Ss W (BookHs ba x y z ls lsp bs bsp ssp qs sv ++ R) w) {i : Nat} {sl : Sl} {q : List queue_item} (h1 : ls[i]? = some sl) (h2 : qs[i]? = some q) : sl.len = q.length := by
  have s2 := s.out 4 rfl (zipH_nth (P := lineH) h1 h2)
  obtain ⟨sp, _, s3⟩ := s2.openx 0 rfl
  rw [(s3.vec_len (i := 0) rfl).1, List.length_map]
theorem get_of {α β : Type} {l : List α} {m : List β} {i : Nat} {y : β} (h : l.length = m.length) (hy : m[i]? = some y) : ∃ x, l[i]? = some x := ⟨l[i]'(by rw [h]; exact (List.getElem?_eq_some_iff.1 hy).1), List.getElem?_eq_getElem _⟩
theorem pushed_wp {m : QM} {l : Sl} {xs : List api_Class} (s : Ss W (Book b m.qs sv :: R) w) (i : Nat) (e : nth R i = some (rdS c_api_Class false l xs)) (ok : m.Ok) (hx : m.cl.map (·.c) = xs) (o : weirlaw18_Op) (er : Int) :
    WP (weirlaw18_Book_pushed b l o er) w (fun r w' => r = (er == (m.push o.Class o.Size o.Item).2) ∧ Ss W (Book b (m.push o.Class o.Size o.Item).1.qs sv :: R) w') := by
  unfold weirlaw18_Book_pushed
  have hl := (s.rd_len (i := i + 1) e rdS_rdb).1
  have hn : m.n = xs.length := by rw [← hx]; unfold QM.n; simp
  have h8 := ok.n8
  refine WP.slot' s (fun _ w s => ?_)
  refine WP.step (R := fun r w' => r = decide (o.Class < 0 ∨ o.Class ≥ m.n) ∧ Ss W (Book b m.qs sv :: R) w') (WP.ite (fun h => WP.ret ⟨by simp [h], s⟩) (fun h => WP.ret ⟨by rw [hl, hn]; simp [h], s⟩)) ?_
  rintro _ w ⟨rfl, s⟩
  unfold QM.push
  refine WP.ite (fun h => ?_) (fun h => ?_)
  · rw [if_pos (of_decide_eq_true h)]
    exact WP.ret ⟨rfl, s⟩
  have h1 : ¬ (o.Class < 0 ∨ o.Class ≥ m.n) := fun hx => h (decide_eq_true hx)
  rw [if_neg h1]
  refine WP.step (R := fun r w' => r = decide (o.Size < 1 ∨ o.Size > 65535) ∧ Ss W (Book b m.qs sv :: R) w') (WP.ite (fun h => WP.ret ⟨by simp [h], s⟩) (fun h => WP.ret ⟨by simp [h], s⟩)) ?_
  rintro _ w ⟨rfl, s⟩
  refine WP.ite (fun h => ?_) (fun h => ?_)
  · rw [if_pos (of_decide_eq_true h)]
    exact WP.ret ⟨rfl, s⟩
  have h2 : ¬ (o.Size < 1 ∨ o.Size > 65535) := fun hx => h (decide_eq_true hx)
  rw [if_neg h2]
  have hlt : o.Class.toNat < m.cl.length := by unfold QM.n at h1; omega
  have hk := getD_get (z := default) hlt
  generalize m.cl.getD o.Class.toNat default = k at hk
  have h0 : 0 ≤ o.Class := by omega
  have okk := ok.cl k (List.mem_of_getElem? hk)
  have hcl := okClass_iff.1 okk.c
  have hxk : xs[o.Class.toNat]? = some k.c := by rw [← hx, List.getElem?_map, hk]; rfl
  refine WP.rdx s (i + 1) e rdS_rdb h0 hxk rfl (WP.slot' s (fun _ w s => WP.draw' s (fun w s => ?_)))
  obtain ⟨ba, x, y, z, ls, lsp, bsp, ssp, rfl, g1, g2, s⟩ := s.openB
  have hq := qs_get hk
  have hbs : (m.qs.map sizes)[o.Class.toNat]? = some (sizes k.q) := by rw [List.getElem?_map, hq]; rfl
  obtain ⟨sl, hsl⟩ := get_of g1 hq
  have hlen := okk.len
  have hbytes := okk.bytes
  have hb0 := sizes_nonneg okk.size
  have hll := BookHs.len s hsl hq
  refine WP.nilck (WP.ld s 0 rfl (o := 0) (by simp [Addr.add]) (At_weirlaw18_Book_L _) ?_)
  refine WP.rdx s 1 rfl vec_rdb h0 hsl rfl ?_
  rw [hll]
  refine WP.step (R := fun r w' => r = decide ((k.q.length : Int) = k.c.Items ∨ sizes k.q + o.Size > k.c.Bytes) ∧ Ss W (BookHs ba x y z ls lsp (m.qs.map sizes) bsp ssp m.qs sv ++ R) w') (WP.ite (fun h => WP.ret ⟨by simp; omega, s⟩) (fun h => WP.nilck ?_)) ?_
  · refine WP.ld s 0 rfl (o := 1) rfl (At_weirlaw18_Book_Bytes _) ?_
    refine WP.rdx s 2 rfl vec_rdb h0 hbs rfl (WP.ret ⟨?_, s⟩)
    rw [wrap_i64 (by omega) (by omega)]
    simp; omega
  rintro _ w ⟨rfl, s⟩
  simp only
  refine WP.ite (fun h => ?_) (fun h => ?_)
  · rw [if_pos (of_decide_eq_true h)]
    exact WP.ret ⟨rfl, Ss.closeB s rfl g1 g2 rfl⟩
  have h3 : ¬ ((k.q.length : Int) = k.c.Items ∨ sizes k.q + o.Size > k.c.Bytes) := fun hx => h (decide_eq_true hx)
  rw [if_neg h3]
  simp only
  refine WP.draw' s (fun w s => WP.nilck (WP.ld s 0 rfl (o := 0) (by simp [Addr.add]) (At_weirlaw18_Book_L _) (WP.nilck ?_)))
  refine WP.ld s 0 rfl (o := 0) (by simp [Addr.add]) (At_weirlaw18_Book_L _) ?_
  refine WP.idxr s 1 rfl vec_rdb h0 hsl rfl (fun a ha => ?_)
  refine WP.ldr s 1 rfl vec_rdb hsl ha rfl (WP.slot' s (fun _ w s => ?_))
  refine WP.samer s 1 rfl vec_rdb hsl ha rfl ?_
  refine WP.same s 0 rfl (o := 0) (by simp [Addr.add]) (At_weirlaw18_Book_L _) ?_
  refine WP.same s 0 rfl (o := 0) (by simp [Addr.add]) (At_weirlaw18_Book_L _) ?_
  have s2 := s.out 4 rfl (zipH_nth (P := lineH) hsl hq)
  obtain ⟨sp, _, s3⟩ := s2.openx 0 rfl
  refine WP.appl s3 0 rfl (by simp only [List.length_map, List.length_cons, List.length_nil]; omega) (by decide) (fun r w sp' s => ?_)
  refine WP.same s 1 rfl (o := 0) (by simp [Addr.add]) (At_weirlaw18_Book_L _) ?_
  refine WP.stx s 2 rfl h0 (by have := (List.getElem?_eq_some_iff.1 hsl).1; omega) rfl (fun w s => WP.draw' s (fun w s => WP.nilck ?_))
  have s4 := s.close (i := 0) (B := lineH r (k.q ++ [⟨o.Size, o.Item⟩])) rfl (fun h hv => ⟨sp', trivial, by rw [List.map_append]; exact hv⟩)
  have s := s4.back 4 rfl (zipH_nth (P := lineH) hsl hq)
  rw [zipH_up (List.getElem?_eq_some_iff.1 hsl).1 (List.getElem?_eq_some_iff.1 hq).1] at s
  refine WP.ld s 0 rfl (o := 1) rfl (At_weirlaw18_Book_Bytes _) (WP.nilck ?_)
  refine WP.ld s 0 rfl (o := 1) rfl (At_weirlaw18_Book_Bytes _) ?_
  refine WP.rdx s 2 rfl vec_rdb h0 hbs rfl ?_
  rw [wrap_i64 (by omega) (by omega)]
  refine WP.stx s 2 rfl h0 (by have := (List.getElem?_eq_some_iff.1 hbs).1; omega) rfl (fun w s => WP.ret ⟨rfl, ?_⟩)
  have e2 : (QM.qs { m with cl := m.cl.set o.Class.toNat { k with q := k.q ++ [⟨o.Size, o.Item⟩] } }) = m.qs.set o.Class.toNat (k.q ++ [⟨o.Size, o.Item⟩]) := by unfold QM.qs; simp only [List.map_set]
  rw [e2]
  refine Ss.closeB s rfl (by simp [g1]) (by simp [g2]) ?_
  rw [List.map_set, sizes_app]
theorem popped_wp {i : Nat} {x : queue_item} {q' : List queue_item} (s : Ss W (Book b qs sv :: R) w) (hq : qs[i]? = some (x :: q')) (hx0 : 1 ≤ x.size) (hx1 : x.size ≤ 65535) (hs0 : 0 ≤ sizes q') (hs1 : sizes q' + x.size ≤ 67108864) :
    WP (weirlaw18_Book_popped b x.id (i : Int)) w (fun r w' => r = true ∧ Ss W (Book b (qs.set i q') (sv.set i (IntKind.wrap .i64 (sv.getD i 0 + x.size))) :: R) w') := by
  unfold weirlaw18_Book_popped
  obtain ⟨ba, xl, y, z, ls, lsp, bsp, ssp, rfl, g1, g2, s⟩ := s.openB
  have hi := (List.getElem?_eq_some_iff.1 hq).1
  have h0 : 0 ≤ (i : Int) := by omega
  have hbs : (qs.map sizes)[(i : Int).toNat]? = some (x.size + sizes q') := by rw [Int.toNat_natCast, List.getElem?_map, hq, Option.map_some, sizes_cons]
  obtain ⟨sl, hsl⟩ := get_of g1 hq
  have hsl' : ls[(i : Int).toNat]? = some sl := hsl
  have hsv : sv[(i : Int).toNat]? = some (sv.getD i 0) := by rw [Int.toNat_natCast]; exact getD_get (by omega)
  have hll := BookHs.len s hsl hq
  have hlx := (s.vec_len (i := 1) rfl).1
  refine WP.step (R := fun r w' => r = false ∧ Ss W (BookHs ba xl y z ls lsp (qs.map sizes) bsp ssp qs sv ++ R) w') (WP.ite (fun h => by omega) (fun h => WP.nilck ?_)) ?_
  · refine WP.ld s 0 rfl (o := 0) (by simp [Addr.add]) (At_weirlaw18_Book_L _) (WP.ret ⟨?_, s⟩)
    simp only [hlx]
    simp; omega
  rintro _ w ⟨rfl, s⟩
  refine WP.step (R := fun r w' => r = false ∧ Ss W (BookHs ba xl y z ls lsp (qs.map sizes) bsp ssp qs sv ++ R) w') (WP.ite (fun h => by cases h) (fun h => WP.nilck ?_)) ?_
  · refine WP.ld s 0 rfl (o := 0) (by simp [Addr.add]) (At_weirlaw18_Book_L _) ?_
    refine WP.rdx s 1 rfl vec_rdb h0 hsl' rfl (WP.ret ⟨?_, s⟩)
    rw [hll]
    simp
    omega
  rintro _ w ⟨rfl, s⟩
  -- the line's first item
  have first : ∀ {γ : Type} {f : γ → M Bool} {Q : Bool → World → Prop} {w : World} {d : Cod γ} {v : γ} {o : Nat} {p : Addr}, Ss W (BookHs ba xl y z ls lsp (qs.map sizes) bsp ssp qs sv ++ R) w → ∀ a, sl.a = some a → p = a.add o → At (c_weirlaw18_Item.enc (toItem x)) o (d.enc v) → WP (f v) w Q → WP (ld d p >>= f) w Q := by
    intro γ f Q w d v o p s a ha hp hat g
    have s2 := s.out 4 rfl (zipH_nth (P := lineH) hsl hq)
    obtain ⟨sp, _, s3⟩ := s2.openx 0 rfl
    exact WP.ldp s3 0 rfl vec_rdb (k := 0) (x := toItem x) rfl ha (by rw [hp, Nat.zero_mul, Nat.zero_add]) hat g
  have hsa : ∃ a, sl.a = some a := by
    have s2 := s.out 4 rfl (zipH_nth (P := lineH) hsl hq)
    obtain ⟨sp, _, s3⟩ := s2.openx 0 rfl
    exact (s3.rd_len (i := 0) rfl vec_rdb).2 (by simp)
  obtain ⟨a, ha⟩ := hsa
  have hlen : sl.len = q'.length + 1 := by rw [hll]; rfl
  refine WP.step (R := fun r w' => r = false ∧ Ss W (BookHs ba xl y z ls lsp (qs.map sizes) bsp ssp qs sv ++ R) w') (WP.ite (fun h => by cases h) (fun h => WP.nilck ?_)) ?_
  · refine WP.ld s 0 rfl (o := 0) (by simp [Addr.add]) (At_weirlaw18_Book_L _) ?_
    refine WP.rdx s 1 rfl vec_rdb h0 hsl' rfl ?_
    rw [ha]
    refine WP.idx (by omega) (by omega) ?_
    refine first (o := 1) s a ha (by simp [add_add]) (At_weirlaw18_Item_Item _) (WP.ret ⟨?_, s⟩)
    simp [toItem]
  rintro _ w ⟨rfl, s⟩
  refine WP.ite (fun h => by cases h) (fun _ => WP.nilck ?_)
  refine WP.ld s 0 rfl (o := 0) (by simp [Addr.add]) (At_weirlaw18_Book_L _) ?_
  refine WP.rdx s 1 rfl vec_rdb h0 hsl' rfl ?_
  rw [ha]
  refine WP.idx (by omega) (by omega) ?_
  refine first (o := 0) s a ha (by simp [Addr.add]) (At_weirlaw18_Item_Size _) (WP.draw' s (fun w s => WP.nilck ?_))
  refine WP.ld s 0 rfl (o := 0) (by simp [Addr.add]) (At_weirlaw18_Book_L _) (WP.nilck ?_)
  refine WP.ld s 0 rfl (o := 0) (by simp [Addr.add]) (At_weirlaw18_Book_L _) ?_
  refine WP.rdx s 1 rfl vec_rdb h0 hsl' rfl ?_
  have s2 := s.out 4 rfl (zipH_nth (P := lineH) hsl hq)
  obtain ⟨sp, _, s3⟩ := s2.openx 0 rfl
  refine WP.cuttail s3 0 rfl rfl (fun r s => ?_)
  refine WP.stx s 2 rfl h0 (by omega) rfl (fun w s => WP.draw' s (fun w s => WP.nilck ?_))
  rw [Int.toNat_natCast] at s
  have s4 := s.close (i := 0) (B := lineH r q') rfl (fun h hv => ⟨sp, trivial, hv⟩)
  have s := s4.back 4 rfl (zipH_nth (P := lineH) hsl hq)
  rw [zipH_up (List.getElem?_eq_some_iff.1 hsl).1 hi] at s
  refine WP.ld s 0 rfl (o := 1) rfl (At_weirlaw18_Book_Bytes _) (WP.nilck ?_)
  refine WP.ld s 0 rfl (o := 1) rfl (At_weirlaw18_Book_Bytes _) ?_
  refine WP.rdx s 2 rfl vec_rdb h0 hbs rfl ?_
  rw [show (toItem x).Size = x.size from rfl, show x.size + sizes q' - x.size = sizes q' by omega, wrap_i64 (by omega) (by omega)]
  refine WP.stx s 2 rfl h0 (by rw [List.length_map]; omega) rfl (fun w s => WP.draw' s (fun w s => WP.nilck ?_))
  refine WP.ld s 0 rfl (o := 2) rfl (At_weirlaw18_Book_Served _) (WP.nilck ?_)
  refine WP.ld s 0 rfl (o := 2) rfl (At_weirlaw18_Book_Served _) ?_
  refine WP.rdx s 3 rfl vec_rdb h0 hsv rfl ?_
  refine WP.stx s 3 rfl h0 (by omega) rfl (fun w s => WP.ret ⟨rfl, ?_⟩)
  rw [Int.toNat_natCast] at s
  exact Ss.closeB s rfl (by simp [g1]) (by simp [g2]) (by rw [List.map_set])
end
end Go.Proofs.Ytgddbpmfendaeaa.Lx
