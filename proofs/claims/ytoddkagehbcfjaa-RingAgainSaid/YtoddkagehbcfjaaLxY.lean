/- The machine 'Lx', places: rules for drawn orders, copy, clear, bytes as texts, parts of slices, appends that move. -/
import Derived.Test.YtoddkagehbcfjaaLxX
import Derived.Test.YtoddkagehbcfjaaLxK
set_option linter.unusedVariables false
set_option linter.unusedSimpArgs false
namespace Go.Proofs.Ytoddkagehbcfjaa.Lx
open Go Go.RowKit

/-! ### parts that can be read -/
theorem Rdb.take {α : Type} {A : HP} {c : Cod α} {s : Sl} {xs : List α} (r : Rdb A c s xs) {k n : Nat} (hk : k ≤ xs.length) : Rdb A c ⟨s.a, k, n⟩ (xs.take k) := by
  intro h hA
  obtain ⟨h1, h2, h3⟩ := r h hA
  refine ⟨by simp only [List.length_take]; omega, fun hne => h2 (fun e => hne (by rw [e]; simp)), fun i x a hx ha => ?_⟩
  rw [List.getElem?_take] at hx
  split at hx
  · exact h3 i x a hx ha
  · cases hx
theorem pts_rdb' {α : Type} {c : Cod α} {q : Bool} {a : Addr} {k n : Nat} {xs : List α} (hk : k ≤ xs.length) : Rdb (pts q a (xs.flatMap c.enc)) c ⟨some a, k, n⟩ (xs.take k) := (pts_rdb (k := n)).take hk
theorem rd0 {α : Type} {c : Cod α} {q : Bool} {k : Nat} {h : PH} : rdS c q ⟨none, 0, k⟩ [] h := ⟨rfl, by simp, fun h => absurd rfl h, fun a ha _ => by cases ha⟩
/-! ### bytes and texts -/
def bstr (xs : List Int) : ByteArray := ⟨(xs.map fun n => UInt8.ofNat n.toNat).toArray⟩
theorem bytesOf_app : ∀ (xs : List Int) (b : ByteArray), bytesOf (xs.flatMap (cI .u8).enc) b = some ⟨b.data ++ (xs.map fun n => UInt8.ofNat n.toNat).toArray⟩
  | [], b => by simp [bytesOf]
  | x :: xs, b => by
    show bytesOf (Value.int .u8 x :: xs.flatMap (cI .u8).enc) b = _
    simp only [bytesOf]
    rw [bytesOf_app xs]
    congr 1
    simp [ByteArray.push]
theorem bstr_data (xs : List Int) : (bstr xs).data.toList = xs.map fun n => UInt8.ofNat n.toNat := by simp [bstr]
theorem bstr_inj {xs ys : List Int} (hx : ∀ x ∈ xs, 0 ≤ x ∧ x ≤ 255) (hy : ∀ x ∈ ys, 0 ≤ x ∧ x ≤ 255) (h : bstr xs = bstr ys) : xs = ys := by
  have h1 : (bstr xs).data.toList = (bstr ys).data.toList := by rw [h]
  rw [bstr_data, bstr_data] at h1
  induction xs generalizing ys with
  | nil => cases ys with | nil => rfl | cons y ys => simp at h1
  | cons x xs ih =>
    cases ys with
    | nil => simp at h1
    | cons y ys =>
      simp only [List.map_cons, List.cons.injEq] at h1
      have e1 : x = y := by
        have h2 := congrArg UInt8.toNat h1.1
        have a1 := hx x (by simp)
        have a2 := hy y (by simp)
        simp only [UInt8.toNat_ofNat'] at h2
        omega
      subst e1
      rw [ih (fun z hz => hx z (by simp [hz])) (fun z hz => hy z (by simp [hz])) (by
        have : (xs.map fun n => UInt8.ofNat n.toNat) = ys.map fun n => UInt8.ofNat n.toNat := h1.2
        unfold bstr
        rw [this]) h1.2]
theorem toList_loop (bs : ByteArray) : ∀ (n i : Nat) (r : List UInt8), bs.size - i = n → ByteArray.toList.loop bs i r = r.reverse ++ bs.data.toList.drop i := by
  intro n
  induction n with
  | zero =>
    intro i r h
    rw [ByteArray.toList.loop]
    have : ¬ i < bs.size := by omega
    rw [if_neg this, List.drop_eq_nil_of_le (by
      show bs.data.toList.length ≤ i
      rw [Array.length_toList]
      show bs.data.size ≤ i
      have : bs.size = bs.data.size := rfl
      omega), List.append_nil]
  | succ n ih =>
    intro i r h
    rw [ByteArray.toList.loop]
    have hi : i < bs.size := by omega
    have hi' : i < bs.data.toList.length := by rw [Array.length_toList]; exact hi
    rw [if_pos hi, ih (i + 1) _ (by omega)]
    rw [List.drop_eq_getElem_cons hi', List.reverse_cons, List.append_assoc]
    congr 1
    have : bs.get! i = bs.data.toList[i] := by
      show bs.data[i]! = _
      rw [getElem!_pos bs.data i hi]
      simp
    rw [this]
    rfl
theorem toList_data (bs : ByteArray) : bs.toList = bs.data.toList := by
  unfold ByteArray.toList
  rw [toList_loop bs _ 0 [] rfl]
  simp
theorem bstr_eq {xs ys : List Int} (hx : ∀ x ∈ xs, 0 ≤ x ∧ x ≤ 255) (hy : ∀ x ∈ ys, 0 ≤ x ∧ x ≤ 255) : (bstr xs).toList = (bstr ys).toList ↔ xs = ys := by
  rw [toList_data, toList_data]
  constructor
  · intro h
    refine bstr_inj hx hy ?_
    have : (bstr xs).data = (bstr ys).data := Array.ext' h
    cases h1 : bstr xs
    cases h2 : bstr ys
    rw [h1, h2] at this
    simp only at this
    rw [this]
  · intro h
    rw [h]
namespace WP
variable {α β : Type} {w : World}
theorem draws {W : World} {l : List HP} {f : FuncId} {id : Nat} {ops : Array Oper} {g : List Nat → M β} {Q : β → World → Prop} (s : Ss W l w) (k : ∀ σ w', Ss W l w' → WP (g σ) w' Q) : WP (Lx.draws f id ops >>= g) w Q := bind ⟨_, _, rfl, k _ _ s.drew⟩
/-- some first bytes, as a text -/
theorem toStr {W : World} {Hs : List HP} {A : HP} {sl : Sl} {xs : List Int} {f : ByteArray → M β} {Q : β → World → Prop} (s : Ss W Hs w) (i : Nat) (e : nth Hs i = some A) (r : Rdb A (cI .u8) sl xs) (k : WP (f (bstr xs)) w Q) : WP (Lx.toStr sl >>= f) w Q := by
  refine bind ⟨bstr xs, w, ?_, k⟩
  have h := s.rd_all e r (by decide)
  obtain ⟨hl, hn⟩ := s.rd_len e r
  unfold Lx.toStr
  cases ha : sl.a with
  | none =>
    have hx : xs = [] := Classical.byContradiction fun hne => by
      obtain ⟨a, h⟩ := hn hne
      rw [ha] at h
      cases h
    subst hx
    rfl
  | some a =>
    rw [ha] at h
    have h' : rdF w a 0 sl.len = some (xs.flatMap (cI .u8).enc) := by
      have : rdF w a 0 (sl.len * 1) = some (xs.flatMap (cI .u8).enc) := h
      rwa [Nat.mul_one] at this
    simp only [h', Option.bind_some, bytesOf_app]
    simp [bstr]
/-- copy: as many as there are, over the first ones -/
theorem cpy {W : World} {Hs : List HP} {A : HP} {c : Cod α} {d sl : Sl} {L sp xs : List α} {f : Int → M β} {Q : β → World → Prop} (s : Ss W Hs w) (i : Nat) (e : nth Hs i = some (vec c d L sp)) (j : Nat) (e2 : nth Hs j = some A) (r : Rdb A c sl xs) (h0 : 0 < c.n)
    (k : ∀ w', Ss W (up Hs i (vec c d (xs.take (min xs.length L.length) ++ L.drop (min xs.length L.length)) sp)) w' → WP (f (min xs.length L.length : Nat)) w' Q) : WP (Lx.cpyS c d sl >>= f) w Q := by
  obtain ⟨hl, hn⟩ := s.rd_len e2 r
  obtain ⟨e1, ec, e3⟩ := s.vec_len e
  have hmin : Nat.min sl.len d.len = min xs.length L.length := by rw [hl, e1]
  have hrd : rdR w sl.a (min xs.length L.length * c.n) = some ((xs.take (min xs.length L.length)).flatMap c.enc) := by
    have r2 : Rdb A c ⟨sl.a, min xs.length L.length, 0⟩ (xs.take (min xs.length L.length)) := r.take (Nat.min_le_left _ _)
    exact s.rd_all e2 r2 h0
  cases ha : d.a with
  | none =>
    obtain ⟨rfl, rfl⟩ := e3 ha
    refine bind ⟨_, w, ?_, k w (s.close e (fun h hv => by simpa using hv))⟩
    unfold Lx.cpyS Lx.cpyC
    simp only [hmin, hrd, Option.bind_some, plain_flat, ha]
    rfl
  | some a =>
    obtain ⟨a', ea, s2⟩ := s.vec_open e (.inr (by rw [ha]; simp))
    have hda : d.a = some a' := by rw [ea]
    rw [ha] at hda
    cases hda
    have hu : Upd ((L ++ sp).flatMap c.enc) 0 ((xs.take (min xs.length L.length)).flatMap c.enc) ((xs.take (min xs.length L.length) ++ L.drop (min xs.length L.length) ++ sp).flatMap c.enc) := by
      refine ⟨[], (L.take (min xs.length L.length)).flatMap c.enc, (L.drop (min xs.length L.length) ++ sp).flatMap c.enc, ?_, rfl, ?_, ?_⟩
      · rw [List.nil_append, ← List.flatMap_append, ← List.append_assoc, List.take_append_drop]
      · rw [flat_len, flat_len, List.length_take, List.length_take]
        congr 1
        omega
      · rw [List.nil_append, ← List.flatMap_append, List.append_assoc]
    obtain ⟨w', h1, h2⟩ := wrF_pts s2 (up_nth e) hu
    rw [up_up] at h2
    have ha0 : a.add 0 = a := by simp [Addr.add]
    rw [ha0] at h1
    refine bind ⟨_, w', ?_, k w' ?_⟩
    · unfold Lx.cpyS Lx.cpyC
      simp only [hmin, hrd, Option.bind_some, plain_flat, ha, h1]
      rfl
    · have := h2.close (up_nth e) (B := vec c d (xs.take (min xs.length L.length) ++ L.drop (min xs.length L.length)) sp) (fun h hp => by
        rw [ea]
        refine ⟨?_, ?_, hp⟩
        · simp only [List.length_append, List.length_take, List.length_drop]; omega
        · simp only [List.length_append, List.length_take, List.length_drop]; omega)
      rwa [up_up] at this
/-- clear -/
theorem clr {W : World} {l : List HP} {a : Addr} {L L' : List Value} {c : Cod α} {z : α} {sl : Sl} {f : Unit → M β} {Q : β → World → Prop} {o : Nat} (s : Ss W l w) (i : Nat) (e : nth l i = some (pts true a L)) (hp : sl.a = some (a.add o)) (h : Upd L o ((List.replicate sl.len z).flatMap c.enc) L')
    (k : ∀ w', Ss W (up l i (pts true a L')) w' → WP (f ()) w' Q) : WP (Lx.clrS c z sl >>= f) w Q := by
  obtain ⟨w', h1, h2⟩ := wrF_pts s e h
  by_cases h0 : sl.len = 0
  · refine bind ⟨(), w, ?_, k w ?_⟩
    · unfold Lx.clrS
      rw [hp]
      simp [h0]
    · have : L' = L := by
        obtain ⟨p, q, r, rfl, _, hq, rfl⟩ := h
        rw [h0] at hq ⊢
        have hq' : q = [] := List.eq_nil_of_length_eq_zero (by simpa using hq)
        subst hq'
        simp
      rw [this]
      exact s.close e (fun h hp => hp)
  · refine bind ⟨(), w', ?_, k w' h2⟩
    unfold Lx.clrS
    rw [hp]
    have : (List.replicate sl.len (c.enc z)).flatten = (List.replicate sl.len z).flatMap c.enc := by simp [List.flatMap, List.map_replicate]
    simp only [h0, if_false, this, h1]
    rfl
/-- the first ones of a slice -/
theorem cutpre {sl : Sl} {n : Nat} {k : Int} {f : Sl → M β} {Q : β → World → Prop} (h0 : 0 ≤ k) (h1 : k ≤ sl.cap) (g : WP (f ⟨sl.a, k.toNat, sl.cap⟩) w Q) : WP (Lx.cut n sl none (some k) none >>= f) w Q := by
  refine bind ⟨_, w, ?_, g⟩
  unfold Lx.cut
  simp only [Option.getD_none, Option.getD_some]
  rw [if_pos (by omega)]
  have : (if (sl.cap : Int).toNat = (0 : Int).toNat then sl.a else sl.a.map (·.add ((0 : Int).toNat * n))) = sl.a := by
    split
    · rfl
    · cases sl.a <;> simp [Addr.add]
  rw [this]
  simp
theorem cutpre3 {sl : Sl} {n : Nat} {k m : Int} {f : Sl → M β} {Q : β → World → Prop} (h0 : 0 ≤ k) (h1 : k ≤ m) (h2 : m ≤ sl.cap) (g : WP (f ⟨sl.a, k.toNat, m.toNat⟩) w Q) : WP (Lx.cut n sl none (some k) (some m) >>= f) w Q := by
  refine bind ⟨_, w, ?_, g⟩
  unfold Lx.cut
  simp only [Option.getD_none, Option.getD_some]
  rw [if_pos (by omega)]
  have : (if m.toNat = (0 : Int).toNat then sl.a else sl.a.map (·.add ((0 : Int).toNat * n))) = sl.a := by
    split
    · rfl
    · cases sl.a <;> simp [Addr.add]
  rw [this]
  simp
/-- a row made and marked as a text's: to be read -/
theorem newmark {W : World} {Hs : List HP} {T : TypeId} {n k : Nat} {v : Vec α n} {c : Cod α} {f : Sl → M β} {Q : β → World → Prop} (s : Ss W Hs w) (h0 : 0 < n * c.n) (hk : n ≤ k)
    (g : ∀ r w', Ss W (rdS c false r v.l :: Hs) w' → WP (f r) w' Q) : WP (Lx.newv T (c.arr n) v >>= fun b => Lx.markS ⟨some (pt b 0), n, k⟩ >>= f) w Q := by
  have hlen : ((c.arr n).enc v).length = n * c.n := by rw [(c.arr n).len, Cod.arr_n]
  have hsz : ((c.arr n).enc v).toArray.size = n * c.n := by simp [hlen]
  have s1 := s.new ((c.arr n).enc v) T
  have hh := heap_alloc_new w (.cells ((c.arr n).enc v).toArray T)
  refine bind ⟨_, _, rfl, bind ⟨⟨some (pt w.heap.size 0), n, k⟩, (w.alloc (.cells ((c.arr n).enc v).toArray T)).freeze ⟨w.heap.size, n * c.n, none⟩ 1, ?_, g _ _ ?_⟩⟩
  · unfold Lx.markS
    simp only [pt]
    rw [hh]
    simp only [hsz]
    rw [if_neg (by omega)]
  · -- the row is there, to be read; all else is as it was
    generalize hw1 : w.alloc (.cells ((c.arr n).enc v).toArray T) = w1 at *
    obtain ⟨b0, k0, hs0, hw0⟩ := s
    have hb1 := s1.below
    obtain ⟨f1, f2, f3, f4⟩ := freeze_rest w1 ⟨w.heap.size, n * c.n, none⟩
    have hold : ∀ b, b < w.heap.size → (w1.freeze ⟨w.heap.size, n * c.n, none⟩ 1).heap[b]? = w.heap[b]? := by
      intro b hb
      rw [freeze_heap, if_neg (show ¬ w.heap.size = b by omega), ← hw1]
      exact heap_alloc_old _ _ hb
    have hcell : ∀ (o : Nat) (x : Value), ((c.arr n).enc v)[o]? = some x → (w1.freeze ⟨w.heap.size, n * c.n, none⟩ 1).cell? ⟨w.heap.size, o, none⟩ = some x := by
      intro o x hx
      unfold World.cell?
      simp only [freeze_heap, if_true, hh, Option.map_some]
      simpa using hx
    let nn : PH := fun b o => if b = w.heap.size then (((c.arr n).enc v)[o]?).map fun x => (false, .v x) else none
    have hok : nn.ok k0 := fun b o x y hx hy => by
      have := (hw0 b o y hy).lt
      simp only [nn] at hx
      rw [if_neg (by omega)] at hx
      cases hx
    refine ⟨⟨f1.trans hb1.os, by rw [f2]; exact hb1.tape, by rw [f4]; exact hb1.output, by rw [freeze_size]; exact hb1.size, fun b hb => ?_⟩, nn.add k0, ⟨nn, k0, hok, PH.le_add, PH.le_add' hok, ?_, hs0⟩, fun b o x hx => ?_⟩
    · have hlt : b < w.heap.size := Nat.lt_of_lt_of_le hb b0.size
      rw [hold b hlt]
      exact b0.block b hb
    · refine ⟨v.h.symm, hk, fun _ => ⟨_, rfl⟩, fun a ha hne => ?_⟩
      cases ha
      refine ⟨rfl, fun i x hx => ?_⟩
      rw [← Cod.arr_enc] at hx
      simp [nn, pt, hx]
    · rcases PH.add_some.1 hx with hx' | ⟨_, hx'⟩
      · simp only [nn] at hx'
        split at hx'
        · rename_i hb
          subst hb
          obtain ⟨y, hy, rfl⟩ := Option.map_eq_some_iff.1 hx'
          exact hcell o y hy
        · cases hx'
      · have h1 := hw0 b o x hx'
        have hlt := h1.lt
        have e := hold b hlt
        rcases x with ⟨q, x | ⟨es, cc⟩⟩ <;> cases q
        · show World.cell? _ _ = _
          have h2 : w.cell? ⟨b, o, none⟩ = some x := h1
          unfold World.cell? at h2 ⊢
          simp only [e]
          exact h2
        · obtain ⟨c1, cs, T', c2, c3⟩ := h1
          exact ⟨c1, cs, T', e.trans c2, c3⟩
        · exact ⟨h1.1, e.trans h1.2⟩
        · exact ⟨h1.1, h1.2.1, e.trans h1.2.2⟩
/-- append to what is only read, and full: all is new -/
theorem applR {W : World} {Hs : List HP} {A : HP} {E : TypeId} {by_ : Nat} {c : Cod α} {z : α} {sl : Sl} {l xs : List α} {f : Sl → M β} {Q : β → World → Prop} (s : Ss W Hs w) (i : Nat) (e : nth Hs i = some A) (r : Rdb A c sl l) (hc : sl.cap < l.length + xs.length) (hb : (l.length + xs.length) * by_ ≤ 140737488355328) (h0 : 0 < by_) (h1 : 0 < c.n)
    (k : ∀ r w' sp', Ss W (vec c r (l ++ xs) sp' :: Hs) w' → WP (f r) w' Q) : WP (Lx.appl c E by_ z sl xs >>= f) w Q := by
  obtain ⟨e1, e2⟩ := s.rd_len e r
  obtain ⟨a, n, cap⟩ := sl
  simp only at e1 e2 hc
  subst e1
  have ho : rdR w a (l.length * c.n) = some (l.flatMap c.enc) := s.rd_all e r h1
  have hg : Builtin.nextslicecap (l.length + xs.length) cap * by_ ≤ 281474976710656 := growslice_fits hc hb
  generalize hcap : (Question.appendCap (l.length + xs.length) cap E).cut (w.tape w.drawn (.appendCap (l.length + xs.length) cap E)) = cap'
  have hcap' : l.length + xs.length ≤ cap' := by rw [← hcap]; exact Nat.le_add_right _ _
  refine bind ⟨⟨some (pt w.heap.size 0), l.length + xs.length, cap'⟩, w.drew.alloc (.cells (l.flatMap c.enc ++ xs.flatMap c.enc ++ (Builtin.zeroCells (c.enc z).toArray (cap' - (l.length + xs.length))).toList).toArray E), ?_, k _ _ (List.replicate (cap' - (l.length + xs.length)) z) ?_⟩
  · unfold Lx.appl grow
    rw [plain_flat]
    simp only [Bool.not_true, Bool.false_eq_true, if_false]
    rw [if_neg (by omega), if_neg (fun h => by omega), if_neg (show ¬ Builtin.nextslicecap (l.length + xs.length) cap * by_ > 2 ^ 48 by simpa using hg), ho, hcap]
    rfl
  · rw [zeros_flat]
    exact (s.drew.new (l.flatMap c.enc ++ xs.flatMap c.enc ++ (List.replicate (cap' - (l.length + xs.length)) z).flatMap c.enc) E).first (fun h hp => ⟨by simp, by simp; omega, by simpa [List.flatMap_append] using hp⟩)
end WP
end Go.Proofs.Ytoddkagehbcfjaa.Lx
