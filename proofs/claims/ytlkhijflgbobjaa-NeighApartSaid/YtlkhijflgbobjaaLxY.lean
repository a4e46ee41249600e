/- The machine 'Lx', places: rules for drawn orders, copy, clear, bytes as texts, parts of slices, appends that move. -/
import Derived.Test.YtlkhijflgbobjaaLxX
import Derived.Test.YtlkhijflgbobjaaLxK
set_option linter.unusedVariables false
set_option linter.unusedSimpArgs false
namespace Go.Proofs.Ytlkhijflgbobjaa.Lx
open Go Go.RowKit
theorem Rdb.take {α : Type} {A : HP} {c : Cod α} {s : Sl} {xs : List α} (r : Rdb A c s xs) {k n : Nat} (hk : k ≤ xs.length) : Rdb A c ⟨s.a, k, n⟩ (xs.take k) := by
  intro h hA
  obtain ⟨h1, h2, h3⟩ := r h hA
  refine ⟨by simp only [List.length_take]; omega, fun hne => h2 (fun e => hne (by rw [e]; simp)), fun i x a hx ha => ?_⟩
  rw [List.getElem?_take] at hx
  split at hx
  · exact h3 i x a hx ha
  · cases hx
def bstr (xs : List Int) : ByteArray := ⟨(xs.map fun n => UInt8.ofNat n.toNat).toArray⟩
theorem bytesOf_app : ∀ (xs : List Int) (b : ByteArray), bytesOf (xs.flatMap (cI .u8).enc) b = some ⟨b.data ++ (xs.map fun n => UInt8.ofNat n.toNat).toArray⟩
  | [], b => by simp [bytesOf]
  | x :: xs, b => by
    show bytesOf (Value.int .u8 x :: xs.flatMap (cI .u8).enc) b = _
    simp only [bytesOf]
    rw [bytesOf_app xs]
    congr 1
    simp [ByteArray.push]
namespace WP
variable {α β : Type} {w : World}
theorem draws {W : World} {l : List HP} {f : FuncId} {id : Nat} {ops : Array Oper} {g : List Nat → M β} {Q : β → World → Prop} (s : Ss W l w) (k : ∀ σ w', Ss W l w' → WP (g σ) w' Q) : WP (Lx.draws f id ops >>= g) w Q := bind ⟨_, _, rfl, k _ _ s.drew⟩
theorem toStr {W : World} {Hs : List HP} {A : HP} {sl : Sl} {xs : List Int} {f : ByteArray → M β} {Q : β → World → Prop} (s : Ss W Hs w) (i : Nat) (e : nth Hs i = some A) (r : Rdb A (cI .u8) sl xs) (k : WP (f (bstr xs)) w Q) : WP (Lx.toStr sl >>= f) w Q := by
  refine bind ⟨bstr xs, w, ?_, k⟩
  have h := s.rd_all e r (by decide)
  obtain ⟨hl, hn⟩ := s.rd_len e r
  unfold Lx.toStr
  cases ha : sl.a with
  | none =>
    have hx : xs = [] := Classical.byContradiction fun hne => by
      obtain ⟨a, h⟩ := hn hne
      rw [ha] at h
      cases h
    subst hx
    rfl
  | some a =>
    rw [ha] at h
    have h' : rdF w a 0 sl.len = some (xs.flatMap (cI .u8).enc) := by
      have : rdF w a 0 (sl.len * 1) = some (xs.flatMap (cI .u8).enc) := h
      rwa [Nat.mul_one] at this
    simp only [h', Option.bind_some, bytesOf_app]
    simp [bstr]
theorem cpy {W : World} {Hs : List HP} {A : HP} {c : Cod α} {d sl : Sl} {L sp xs : List α} {f : Int → M β} {Q : β → World → Prop} (s : Ss W Hs w) (i : Nat) (e : nth Hs i = some (vec c d L sp)) (j : Nat) (e2 : nth Hs j = some A) (r : Rdb A c sl xs) (h0 : 0 < c.n)
    (k : ∀ w', Ss W (up Hs i (vec c d (xs.take (min xs.length L.length) ++ L.drop (min xs.length L.length)) sp)) w' → WP (f (min xs.length L.length : Nat)) w' Q) : WP (Lx.cpyS c d sl >>= f) w Q := by
  obtain ⟨hl, hn⟩ := s.rd_len e2 r
  obtain ⟨e1, ec, e3⟩ := s.vec_len e
  have hmin : Nat.min sl.len d.len = min xs.length L.length := by rw [hl, e1]
  have hrd : rdR w sl.a (min xs.length L.length * c.n) = some ((xs.take (min xs.length L.length)).flatMap c.enc) := by
    have r2 : Rdb A c ⟨sl.a, min xs.length L.length, 0⟩ (xs.take (min xs.length L.length)) := r.take (Nat.min_le_left _ _)
    exact s.rd_all e2 r2 h0
  cases ha : d.a with
  | none =>
    obtain ⟨rfl, rfl⟩ := e3 ha
    refine bind ⟨_, w, ?_, k w (s.close e (fun h hv => by simpa using hv))⟩
    unfold Lx.cpyS Lx.cpyC
    simp only [hmin, hrd, Option.bind_some, plain_flat, ha]
    rfl
  | some a =>
    obtain ⟨a', ea, s2⟩ := s.vec_open e (.inr (by rw [ha]; simp))
    have hda : d.a = some a' := by rw [ea]
    rw [ha] at hda
    cases hda
    have hu : Upd ((L ++ sp).flatMap c.enc) 0 ((xs.take (min xs.length L.length)).flatMap c.enc) ((xs.take (min xs.length L.length) ++ L.drop (min xs.length L.length) ++ sp).flatMap c.enc) := by
      refine ⟨[], (L.take (min xs.length L.length)).flatMap c.enc, (L.drop (min xs.length L.length) ++ sp).flatMap c.enc, ?_, rfl, ?_, ?_⟩
      · rw [List.nil_append, ← List.flatMap_append, ← List.append_assoc, List.take_append_drop]
      · rw [flat_len, flat_len, List.length_take, List.length_take]
        congr 1
        omega
      · rw [List.nil_append, ← List.flatMap_append, List.append_assoc]
    obtain ⟨w', h1, h2⟩ := wrF_pts s2 (up_nth e) hu
    rw [up_up] at h2
    have ha0 : a.add 0 = a := by simp [Addr.add]
    rw [ha0] at h1
    refine bind ⟨_, w', ?_, k w' ?_⟩
    · unfold Lx.cpyS Lx.cpyC
      simp only [hmin, hrd, Option.bind_some, plain_flat, ha, h1]
      rfl
    · have := h2.close (up_nth e) (B := vec c d (xs.take (min xs.length L.length) ++ L.drop (min xs.length L.length)) sp) (fun h hp => by
        rw [ea]
        refine ⟨?_, ?_, hp⟩
        · simp only [List.length_append, List.length_take, List.length_drop]; omega
        · simp only [List.length_append, List.length_take, List.length_drop]; omega)
      rwa [up_up] at this
theorem cutpre3 {sl : Sl} {n : Nat} {k m : Int} {f : Sl → M β} {Q : β → World → Prop} (h0 : 0 ≤ k) (h1 : k ≤ m) (h2 : m ≤ sl.cap) (g : WP (f ⟨sl.a, k.toNat, m.toNat⟩) w Q) : WP (Lx.cut n sl none (some k) (some m) >>= f) w Q := by
  refine bind ⟨_, w, ?_, g⟩
  unfold Lx.cut
  simp only [Option.getD_none, Option.getD_some]
  rw [if_pos (by omega)]
  have : (if m.toNat = (0 : Int).toNat then sl.a else sl.a.map (·.add ((0 : Int).toNat * n))) = sl.a := by
    split
    · rfl
    · cases sl.a <;> simp [Addr.add]
  rw [this]
  simp
theorem applR {W : World} {Hs : List HP} {A : HP} {E : TypeId} {by_ : Nat} {c : Cod α} {z : α} {sl : Sl} {l xs : List α} {f : Sl → M β} {Q : β → World → Prop} (s : Ss W Hs w) (i : Nat) (e : nth Hs i = some A) (r : Rdb A c sl l) (hc : sl.cap < l.length + xs.length) (hb : (l.length + xs.length) * by_ ≤ 140737488355328) (h0 : 0 < by_) (h1 : 0 < c.n)
    (k : ∀ r w' sp', Ss W (vec c r (l ++ xs) sp' :: Hs) w' → WP (f r) w' Q) : WP (Lx.appl c E by_ z sl xs >>= f) w Q := by
  obtain ⟨e1, e2⟩ := s.rd_len e r
  obtain ⟨a, n, cap⟩ := sl
  simp only at e1 e2 hc
  subst e1
  have ho : rdR w a (l.length * c.n) = some (l.flatMap c.enc) := s.rd_all e r h1
  have hg : Builtin.nextslicecap (l.length + xs.length) cap * by_ ≤ 281474976710656 := growslice_fits hc hb
  generalize hcap : (Question.appendCap (l.length + xs.length) cap E).cut (w.tape w.drawn (.appendCap (l.length + xs.length) cap E)) = cap'
  have hcap' : l.length + xs.length ≤ cap' := by rw [← hcap]; exact Nat.le_add_right _ _
  refine bind ⟨⟨some (pt w.heap.size 0), l.length + xs.length, cap'⟩, w.drew.alloc (.cells (l.flatMap c.enc ++ xs.flatMap c.enc ++ (Builtin.zeroCells (c.enc z).toArray (cap' - (l.length + xs.length))).toList).toArray E), ?_, k _ _ (List.replicate (cap' - (l.length + xs.length)) z) ?_⟩
  · unfold Lx.appl grow
    rw [plain_flat]
    simp only [Bool.not_true, Bool.false_eq_true, if_false]
    rw [if_neg (by omega), if_neg (fun h => by omega), if_neg (show ¬ Builtin.nextslicecap (l.length + xs.length) cap * by_ > 2 ^ 48 by simpa using hg), ho, hcap]
    rfl
  · rw [zeros_flat]
    exact (s.drew.new (l.flatMap c.enc ++ xs.flatMap c.enc ++ (List.replicate (cap' - (l.length + xs.length)) z).flatMap c.enc) E).first (fun h hp => ⟨by simp, by simp; omega, by simpa [List.flatMap_append] using hp⟩)
end WP
end Go.Proofs.Ytlkhijflgbobjaa.Lx
