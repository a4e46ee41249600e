/- The machine 'Lx', what programs of the M-world answer: rules for each word of the language (no Go program in sight). -/
import Derived.Test.YtfnokeoldcfcoaaGreatDoorLxM
import Derived.Below
import Derived.WalkKit
import Derived.ProofKit
import Derived.OpenShut
import Derived.ShutString
import Derived.ChangeOld
import Derived.SizedLaws
import Derived.Laws.Append
import Derived.Deep.DeepAppendWide
import Derived.Test.YtfnokeoldcfcoaaGreatDoorLxRf
import Derived.Test.YtfnokeoldcfcoaaGreatDoorLxMs
import Derived.MakeChecks
import Derived.FnData
import Derived.Deep.Slices
set_option linter.unusedSimpArgs false
set_option linter.unusedVariables false
namespace Go.Proofs.YtfnokeoldcfcoaaGreatDoor.Lx
section
open Go Go.RowKit
def WP {α : Type} (x : M α) (w : World) (Q : α → World → Prop) : Prop := ∃ r w', x w = some (r, w') ∧ Q r w'
namespace WP
variable {α β : Type} {w : World}
theorem ret {a : α} {Q : α → World → Prop} (h : Q a w) : WP (pure a) w Q := ⟨a, w, rfl, h⟩
theorem mono {x : M α} {Q R : α → World → Prop} (h : WP x w Q) (k : ∀ a w', Q a w' → R a w') : WP x w R := by
 obtain ⟨a, w', h1, h2⟩ := h
 exact ⟨a, w', h1, k a w' h2⟩
theorem bind {x : M α} {f : α → M β} {Q : β → World → Prop} (h : WP x w (fun a w' => WP (f a) w' Q)) : WP (x >>= f) w Q := by
 obtain ⟨a, w', h1, b, w'', h2, h3⟩ := h
 exact ⟨b, w'', by rw [Zkr, h1]; exact h2, h3⟩
theorem step {x : M α} {f : α → M β} {Q : β → World → Prop} {R : α → World → Prop} (h : WP x w R) (k : ∀ a w', R a w' → WP (f a) w' Q) : WP (x >>= f) w Q := bind (h.mono k)
theorem chk {p : Prop} [Decidable p] {f : Unit → M β} {Q : β → World → Prop} (hp : p) (h : WP (f ()) w Q) : WP (Lx.chk p >>= f) w Q :=
 bind ⟨(), w, by simp [Lx.chk, hp], h⟩
theorem draw {f : Unit → M β} {Q : β → World → Prop} (h : WP (f ()) w.drew Q) : WP (Lx.draw >>= f) w Q := bind ⟨(), w.drew, rfl, h⟩
theorem nilck {a : Addr} {f : Addr → M β} {Q : β → World → Prop} (h : WP (f a) w Q) : WP (Lx.nilck (some a) >>= f) w Q := bind ⟨a, w, rfl, h⟩
theorem idx {a : Addr} {n sz : Nat} {i : Int} {f : Addr → M β} {Q : β → World → Prop} (h0 : 0 ≤ i) (h1 : i < n) (h : WP (f (a.add (i.toNat * sz))) w Q) : WP (Lx.idx (some a) n i sz >>= f) w Q :=
 bind ⟨_, w, by simp [Lx.idx, h0, h1], h⟩
theorem slot {T : TypeId} {f : Nat → M β} {Q : β → World → Prop} (h : WP (f w.heap.size) (w.alloc (.cells #[] T)) Q) : WP (Lx.slot T >>= f) w Q := bind ⟨_, _, rfl, h⟩
theorem ite {p : Prop} [Decidable p] {x y : M α} {Q : α → World → Prop} (h1 : p → WP x w Q) (h0 : ¬ p → WP y w Q) : WP (if p then x else y) w Q := by
 split
 ·exact h1 ‹_›
 ·exact h0 ‹_›
def Rd {σ : Type} (N : σ → World → Prop) (D : β → World → Prop) : LS σ β → World → Prop
 | .next s, w => N s w
 | .done b, w => D b w
theorem next {σ : Type} {N : σ → World → Prop} {D : β → World → Prop} {s : σ} (h : N s w) : WP (pure (LS.next s)) w (Rd N D) := ret h
theorem done {σ : Type} {N : σ → World → Prop} {D : β → World → Prop} {b : β} (h : D b w) : WP (pure (LS.done b) : M (LS σ β)) w (Rd N D) := ret h
theorem loopN {σ : Type} {G : σ → M (LS σ β)} (I : σ → World → Prop) (μ : σ → World → Nat) {Q : β → World → Prop}
  (hs : ∀ s w, I s w → WP (G s) w (Rd (fun s' w' => I s' w' ∧ μ s' w' < μ s w) Q)) : ∀ (n : Nat) (s : σ) (w : World), I s w → μ s w < n → WP (Lx.loopN G n s) w Q
 | 0, s, w, _, hn => absurd hn (by omega)
 | n + 1, s, w, hI, hn => by
  obtain ⟨q, w1, h1, h2⟩ := hs s w hI
  cases q with
  | next s' =>
   obtain ⟨r, w2, h3, h4⟩ := loopN I μ hs n s' w1 h2.1 (by have := h2.2; omega)
   exact ⟨r, w2, bind_some.2 ⟨_, _, h1, h3⟩, h4⟩
  | done b => exact ⟨b, w1, bind_some.2 ⟨_, _, h1, rfl⟩, h2⟩
theorem loop {σ : Type} {G : σ → M (LS σ β)} (I : σ → World → Prop) (μ : σ → World → Nat) {Q : β → World → Prop} {s : σ} (hI : I s w)
  (hs : ∀ s w, I s w → WP (G s) w (Rd (fun s' w' => I s' w' ∧ μ s' w' < μ s w) Q)) : WP (Zcn G s) w Q := by
 obtain ⟨r, w', h1, h2⟩ := loopN I μ hs (μ s w + 1) s w hI (by omega)
 exact ⟨r, w', Zru h1, h2⟩
end WP
theorem ZqY {w : World} (o : Obj) : Below w.heap.size w (w.alloc o) := ⟨rfl, rfl, rfl, by show _ ≤ (w.heap.push o).size; simp, fun k hk => by
 show (w.heap.push o)[k]? = _
 rw [Array.getElem?_push, if_neg (by omega)]⟩
theorem ZsB {B B' : Nat} {w w' : World} (h : Below B w w') (hb : B' ≤ B) : Below B' w w' := ⟨h.os, h.tape, h.output, h.size, fun k hk => h.block k (by omega)⟩
theorem Zau {n : Int} (h : -9223372036854775808 ≤ n) (h' : n ≤ 9223372036854775807) : IntKind.wrap .i64 n = n := by
 simp [IntKind.wrap, IntKind.bits, IntKind.signed]
 split <;> omega
end
section
open Go Go.ChangeShapes Go.WideShapes Go.RowKit
def Zus (P : Program) (T : TypeId) {H : Type} (d : DataW H) : Prop := ∀ n ∈ d.weights P T, n ≤ reachBytes
theorem ZfT {P : Program} {e : TypeId} {H : Type} {d : DataW H} {n : Nat} : ∀ {l : List (DataW H)}, d ∈ l → n ∈ d.weights P e → n ∈ DataW.weightsAll P e l
 | y :: l, h, hn => by
  simp only [DataW.weightsAll, zW]
  rcases List.mem_cons.1 h with rfl | h
  ·exact .inl hn
  ·exact .inr (ZfT h hn)
def Zbe (P : Program) (T : TypeId) {α : Type} (c : Cod α) (G : World → α → Prop) : Prop :=
 ∀ (H : Type) (enc : TypeId × Value → H) (W : World) (fuel : Nat) (cs : List Value) (x : DataW H × List MemPlace), DataW.trod enc P W 0 (fun _ => true) true fuel T cs = some x → Zus P T x.1 → ∃ u, cs = c.enc u ∧ G W u
theorem Zbe.int {P : Program} {T : TypeId} {k : IntKind} (h : P.underlying T = some (.int k)) : Zbe P T (cI k) (fun _ n => (Lit.int k n).wf = true) := by
 intro H enc W fuel cs x hx hs
 obtain ⟨n, rfl, _, hw⟩ := DataW.trod_int h hx
 exact ⟨n, rfl, hw⟩
theorem Zbe.bool {P : Program} {T : TypeId} (h : P.underlying T = some .bool) : Zbe P T cB (fun _ _ => True) := by
 intro H enc W fuel cs x hx hs
 obtain ⟨n, rfl, _⟩ := DataW.trod_bool h hx
 exact ⟨n, rfl, trivial⟩
theorem Zbe.str {P : Program} {T : TypeId} (h : P.underlying T = some .string) : Zbe P T cS (fun _ s => s.size ≤ reachBytes) := by
 intro H enc W fuel cs x hx hs
 obtain ⟨s, rfl, rfl, hw⟩ := DataW.trod_string h hx
 refine ⟨s, rfl, ?_⟩
 have := hs s.data.toList.length (by simp [DataW.weights])
 simpa using this
theorem Zbe.iso {P : Program} {T : TypeId} {α β : Type} {c : Cod α} {G : World → α → Prop} (h : Zbe P T c G) (f : β → α) (g : α → β) (h1 : ∀ y, g (f y) = y) (h2 : ∀ x, f (g x) = x) : Zbe P T (c.iso f g h1 h2) (fun W y => G W (f y)) := by
 intro H enc W fuel cs x hx hs
 obtain ⟨u, rfl, hg⟩ := h H enc W fuel cs x hx hs
 exact ⟨g u, by show c.enc u = c.enc (f (g u)); rw [h2], by show G W (f (g u)); rw [h2]; exact hg⟩
def Zbu (P : Program) (o : Nat) (fs : List Field) {α : Type} (c : Cod α) (G : World → α → Prop) : Prop :=
 ∀ (H : Type) (enc : TypeId × Value → H) (W : World) (fuel : Nat) (cs : List Value), (∀ f ∈ fs, ∃ x : DataW H × List MemPlace, DataW.trod enc P W 0 (fun _ => true) true fuel f.type ((cs.drop f.offset).take (P.cellsOf f.type)) = some x ∧ Zus P f.type x.1) → ∃ u, (cs.drop o).take c.n = c.enc u ∧ G W u
theorem Zbu.one {P : Program} {o : Nat} {f : Field} {α : Type} {c : Cod α} {G : World → α → Prop} (h : Zbe P f.type c G) (ho : f.offset = o) (hc : P.cellsOf f.type = c.n) : Zbu P o [f] c G := by
 intro H enc W fuel cs hx
 obtain ⟨x, hx, hs⟩ := hx f (by simp)
 rw [ho, hc] at hx
 exact h H enc W fuel _ _ hx hs
theorem Zbu.cons {P : Program} {o : Nat} {f : Field} {fs : List Field} {α β : Type} {c : Cod α} {d : Cod β} {G : World → α → Prop} {G' : World → β → Prop} (h : Zbe P f.type c G) (ho : f.offset = o) (hc : P.cellsOf f.type = c.n) (hr : Zbu P (o + c.n) fs d G') : Zbu P o (f :: fs) (c.pair d) (fun W u => G W u.1 ∧ G' W u.2) := by
 intro H enc W fuel cs hx
 obtain ⟨x, h1, hs⟩ := hx f (by simp)
 rw [ho, hc] at h1
 obtain ⟨u, e1, g1⟩ := h H enc W fuel _ _ h1 hs
 obtain ⟨y, e2, g2⟩ := hr H enc W fuel cs (fun f' hf => hx f' (by simp [hf]))
 refine ⟨(u, y), ?_, g1, g2⟩
 show (cs.drop o).take (c.n + d.n) = c.enc u ++ d.enc y
 rw [List.take_add, e1, List.drop_drop, e2]
theorem Zbe.struct {P : Program} {T : TypeId} {fs : Array Field} {α : Type} {c : Cod α} {G : World → α → Prop} (h : P.underlying T = some (.struct fs)) (hc : P.cellsOf T = c.n) (hf : Zbu P 0 fs.toList c G) : Zbe P T c G := by
 intro H enc W fuel cs x hx hs
 obtain ⟨xs, n, rfl, rfl, hl, hn, he⟩ := DataW.trod_struct h hx
 obtain ⟨u, e, g⟩ := hf H enc W n cs (fun f hf => by
  obtain ⟨i, hi⟩ := List.getElem?_of_mem hf
  rw [Array.getElem?_toList] at hi
  rw [he i f hi]
  have : i < xs.length := by rw [hn]; exact (Array.getElem?_eq_some_iff.1 hi).1
  refine ⟨_, za this, fun m hm => hs m ?_⟩
  simp only [DataW.weights, h]
  exact DataW.weights_mem_each (j := i) (t := f.type) (d := xs[i].1) (by simp [hi]) (by simp [this]) m hm)
 refine ⟨u, ?_, g⟩
 rw [← e, List.drop_zero, zC (by omega)]
theorem Zbe.arr {P : Program} {T e : TypeId} {n : Nat} {α : Type} {c : Cod α} {G : World → α → Prop} (h : P.underlying T = some (.array n e)) (hc : P.cellsOf e = c.n) (hC : P.cellsOf T = n * c.n) (hf : Zbe P e c G) : Zbe P T (c.arr n) (fun W v => ∀ x ∈ v.l, G W x) := by
 intro H enc W fuel cs x hx hs
 obtain ⟨xs, m, rfl, rfl, hl, hn, he⟩ := DataW.trod_array h hx
 have key : ∀ k, k ≤ n → ∃ l : List α, l.length = k ∧ cs.take (k * c.n) = l.flatMap c.enc ∧ ∀ x ∈ l, G W x := by
  intro k
  induction k with
  | zero => intro _; exact ⟨[], rfl, by simp, by simp⟩
  | succ k ih =>
   intro hk
   obtain ⟨l, l1, l2, l3⟩ := ih (by omega)
   have h2 := he k (by omega)
   rw [hc, za (by omega)] at h2
   obtain ⟨u, e1, g1⟩ := hf H enc W m _ _ h2 (fun y hy => hs y (by
    simp only [DataW.weights, h]
    exact ZfT (List.mem_map.2 ⟨xs[k]'(by omega), List.getElem_mem _, rfl⟩) hy))
   refine ⟨l ++ [u], by simp [l1], ?_, fun x hx => ?_⟩
   ·rw [Nat.succ_mul, List.take_add, l2, e1]; simp
   ·rcases List.mem_append.1 hx with hx | hx
    ·exact l3 x hx
    ·simp only [zG] at hx; subst hx; exact g1
 obtain ⟨l, l1, l2, l3⟩ := key n (zB _)
 refine ⟨⟨l, l1⟩, ?_, l3⟩
 rw [Cod.arr_enc, ← l2, zC (by omega)]
theorem Zj8 {w : World} {a : Addr} : ∀ (n i : Nat) (l : List Value), l.length = n → (∀ j, j < n → w.cell? (a.add (i + j)) = l[j]?) → rdF w a i n = some l
 | 0, i, l, hl, _ => by cases l <;> simp_all [rdF]
 | n + 1, i, [], hl, _ => by cases hl
 | n + 1, i, x :: l, hl, h => by
  simp only [rdF]
  have h0 := h 0 (by omega)
  rw [Nat.add_zero] at h0
  rw [h0]
  simp only [List.getElem?_cons_zero, Option.bind_some]
  rw [Zj8 n (i + 1) l (by simpa using hl) (fun j hj => by
   have := h (j + 1) (by omega)
   rw [show i + 1 + j = i + (j + 1) by omega, this]; simp)]
  rfl
def GSl {α : Type} (c : Cod α) (k : Nat) (G : World → α → Prop) (W : World) (s : Sl) : Prop :=
 s = Sl.nil ∨ ∃ a, s.a = some a ∧ s.len ≤ s.cap ∧ s.cap ≤ maxLen ∧ s.cap * k ≤ reachBytes ∧ ∃ l : List α, l.length = s.cap ∧ ∀ (i : Nat) (h : i < l.length), rdF W (a.add (i * c.n)) 0 c.n = some (c.enc l[i]) ∧ G W l[i]
theorem Zbe.slice {P : Program} {T e : TypeId} {α : Type} {c : Cod α} {G : World → α → Prop} (h : P.underlying T = some (.slice e)) (hc : P.cellsOf e = c.n) (hf : Zbe P e c G) : Zbe P T cL (GSl c (P.bytesOf e) G) := by
 intro H enc W fuel cs x hx hs
 rcases DataW.trod_slice h hx with ⟨rfl, _⟩ | ⟨a, len, cap, elems, rest, n, rfl, rfl, rfl, _, hl, hm, hlen, hel, hsp, _⟩
 ·exact ⟨Sl.nil, rfl, .inl rfl⟩
 ·obtain ⟨hr, hre⟩ := hsp rfl
  have hby : cap * P.bytesOf e ≤ reachBytes := by
   have := hs ((elems.length + rest.length) * P.bytesOf e) (by simp [DataW.weights, h])
   rwa [hlen, hr, Nat.add_sub_cancel' hl] at this
  refine ⟨⟨some a, len, cap⟩, rfl, .inr ⟨a, rfl, hl, hm, hby, ?_⟩⟩
  have each : ∀ i, i < cap → ∃ u, rdF W (a.add (i * c.n)) 0 c.n = some (c.enc u) ∧ G W u := by
   intro i hi
   have : ∃ y ∈ elems ++ rest, (W.cells? 0 (a.add (i * P.cellsOf e)) (P.cellsOf e)).bind (DataW.trod enc P W 0 (fun _ => true) true n e) = some y := by
    by_cases h1 : i < len
    ·rw [hel i h1]; exact ⟨elems[i]'(by omega), List.mem_append_left _ (List.getElem_mem _), za (by omega)⟩
    ·have := hre (i - len) (by omega)
     rw [show len + (i - len) = i by omega] at this
     rw [this]; exact ⟨rest[i - len]'(by omega), List.mem_append_right _ (List.getElem_mem _), za (by omega)⟩
   obtain ⟨y, hm, hy⟩ := this
   obtain ⟨cs, h1, h2⟩ := Option.bind_eq_some_iff.1 hy
   obtain ⟨u, rfl, g⟩ := hf H enc W n cs y h2 (fun q hq => hs q (by
    simp only [DataW.weights, h, zU, zW]
    rcases List.mem_append.1 hm with hm | hm
    ·exact .inr (.inl (ZfT (List.mem_map.2 ⟨y, hm, rfl⟩) hq))
    ·exact .inr (.inr (ZfT (List.mem_map.2 ⟨y, hm, rfl⟩) hq))))
   obtain ⟨_, h3, h4⟩ := World.cells?_some h1
   rw [hc] at h3 h4 h1
   exact ⟨u, Zj8 _ _ _ h3 (fun j hj => by rw [Nat.zero_add]; exact h4 j hj), g⟩
  have key : ∀ k, k ≤ cap → ∃ l : List α, l.length = k ∧ ∀ (i : Nat) (h : i < l.length), rdF W (a.add (i * c.n)) 0 c.n = some (c.enc l[i]) ∧ G W l[i] := by
   intro k
   induction k with
   | zero => intro _; exact ⟨[], rfl, fun i h => by simp at h⟩
   | succ k ih =>
    intro hk
    obtain ⟨l, l1, l2⟩ := ih (by omega)
    obtain ⟨u, hu⟩ := each k (by omega)
    refine ⟨l ++ [u], by simp [l1], fun i hi => ?_⟩
    by_cases h : i < l.length
    ·rw [List.getElem_append_left h]; exact l2 i h
    ·have : i = k := by simp at hi; omega
     subst this
     rw [List.getElem_append_right (by omega)]
     simpa [l1] using hu
  exact key cap (zB _)
theorem Zbe.mono {P : Program} {T : TypeId} {α : Type} {c : Cod α} {G G' : World → α → Prop} (h : Zbe P T c G) (hg : ∀ W u, G W u → G' W u) : Zbe P T c G' := by
 intro H enc W fuel cs x hx hs
 obtain ⟨u, e, g⟩ := h H enc W fuel cs x hx hs
 exact ⟨u, e, hg W u g⟩
def Zh5 (P : Program) (T : TypeId) {α : Type} (c : Cod α) (G : World → α → Prop) : Prop :=
 ∀ {H : Type} {enc : TypeId × Value → H} {W : World} {r : Go.Reach} {b0 : Nat} {v : Value} {d : DataW H} {ps : List MemPlace}, Value.okWide P W r b0 T v → DataW.Trod enc P W 0 (fun _ => true) true T v d ps → Zus P T d → ∃ u, v = c.val u ∧ G W u
theorem Zh5.agg {P : Program} {T : TypeId} {α : Type} {c : Cod α} {G : World → α → Prop} (h : Zbe P T c G) (ha : c.agg = true) (hT : (P.underlying T).map aggD = some true) : Zh5 P T c G := by
 intro H enc W r b0 v d ps hv hd hs
 obtain ⟨fuel, hf⟩ := hd
 obtain ⟨u, he, g⟩ := h H enc W fuel _ _ hf hs
 have : ∃ cs, v = .agg cs := by
  unfold Value.okWide at hv
  cases hu : P.underlying T with
  | none => rw [hu] at hT; cases hT
  | some D => rw [hu] at hT hv; cases D <;> first | (obtain ⟨cs, rfl, _⟩ := hv; exact ⟨cs, rfl⟩) | (cases hT)
 obtain ⟨cs, rfl⟩ := this
 refine ⟨u, ?_, g⟩
 have : cs.toList = c.enc u := he
 unfold Cod.val
 rw [if_pos ha, ← this]
theorem Zh5.int {P : Program} {T : TypeId} {k : IntKind} (h : P.underlying T = some (.int k)) : Zh5 P T (cI k) (fun _ n => (Lit.int k n).wf = true) := by
 intro H enc W r b0 v d ps hv hd hs
 obtain ⟨n, rfl, _, _, hw⟩ := open_int h hv hd
 exact ⟨n, rfl, hw⟩
theorem Zh5.bool {P : Program} {T : TypeId} (h : P.underlying T = some .bool) : Zh5 P T cB (fun _ _ => True) := by
 intro H enc W r b0 v d ps hv hd hs
 obtain ⟨n, rfl, _, _⟩ := open_bool h hv hd
 exact ⟨n, rfl, trivial⟩
theorem Zh5.str {P : Program} {T : TypeId} (h : P.underlying T = some .string) : Zh5 P T cS (fun _ s => s.size ≤ reachBytes) := by
 intro H enc W r b0 v d ps hv hd hs
 obtain ⟨n, rfl, rfl, _, hw⟩ := Go.ChangeMaps.open_string h hv hd
 refine ⟨n, rfl, ?_⟩
 have := hs n.data.toList.length (by simp [DataW.weights])
 simpa using this
theorem Zh5.slice {P : Program} {T e : TypeId} {α : Type} {c : Cod α} {G : World → α → Prop} (h : P.underlying T = some (.slice e)) (hc : P.cellsOf e = c.n) (hf : Zbe P e c G) : Zh5 P T cL (GSl c (P.bytesOf e) G) := by
 intro H enc W r b0 v d ps hv hd hs
 obtain ⟨a, len, cap, rfl⟩ := okWide_slice h hv
 obtain ⟨fuel, hf'⟩ := hd
 obtain ⟨u, he, g⟩ := Zbe.slice h hc hf H enc W fuel _ _ hf' hs
 have : [Value.slice a len cap] = [Sl.v u] := he
 exact ⟨u, List.cons.inj this |>.1, g⟩
theorem Sub.start (W : World) : @Sub ⟨fun _ => none, W.heap.size⟩ W W :=
 letI : Zd5 := ⟨fun _ => none, W.heap.size⟩
 ⟨rfl, rfl, rfl, rfl, rfl, zB _, fun _ => .inl rfl, fun _ _ h => by cases h⟩
theorem Ref.answer {P : Program} {g : FuncId} {α : Type} {vals : List Value} {y : M α} {out : α → Value} (h : ∀ L : Zd5, @Ref L P g α vals y out) {W v' : World} {r : α} (hy : y W = some (r, v')) (hb : Below W.heap.size W v') :
  Calls P g vals.toArray W (fun e W' => e = .returned (out r) ∧ Below W.heap.size W W') := by
 letI : Zd5 := ⟨fun _ => none, W.heap.size⟩
 obtain ⟨w', hs, hk, hc⟩ := h ⟨fun _ => none, W.heap.size⟩ W r v' hy W (Sub.start W)
 refine hc.mono fun e W' => ?_
 rintro ⟨rfl, rfl⟩
 refine ⟨rfl, hs.os.trans hb.os, hs.tape.trans hb.tape, hs.output.trans hb.output, by rw [hs.size]; exact hb.size, fun k hkk => ?_⟩
 by_cases hh : Husk W k
 ·exact (hk k hh).1
 ·have : ¬ Hid v' k := by
   rintro (⟨T, hT⟩ | ⟨_, _, ho⟩)
   ·exact hh ⟨T, by rw [← hb.block k hkk]; exact hT⟩
   ·exact absurd ho (Nat.not_le.2 hkk)
  rw [hs.block this, hb.block k hkk]
end
section
open Go Go.RowKit
inductive MO where
 | map (es : Array MapEntry) (clock : Nat)
 | iter (m : Option Nat) (since : Nat) (seen : Array Nat) (stepped : Nat)
 | loop (s : LoopState) (p : Option Code)
def MO.obj : MO → Obj
 | .map es c => .map es c
 | .iter m a b c => .mapIter m a b c
 | .loop s p => .loop (absL s p)
inductive Ct where
 | v (x : Value)
 | m (o : MO)
 | s (T : TypeId) (n : Nat)
abbrev PH := Nat → Nat → Option (Bool × Ct)
def PH.ok (h k : PH) : Prop := ∀ b o x y, h b o = some x → k b o = some y → x = y ∧ x.1 = false
def PH.add (h k : PH) : PH := fun b o => (h b o).or (k b o)
def PH.nil : PH := fun _ _ => none
def PH.le (h k : PH) : Prop := ∀ b o x, h b o = some x → k b o = some x
theorem PH.ok.symm {h k : PH} (e : h.ok k) : k.ok h := fun b o x y hx hy => by
 obtain ⟨e1, e2⟩ := e b o y x hy hx
 exact ⟨e1.symm, e1 ▸ e2⟩
theorem PH.add_comm {h k : PH} (e : h.ok k) : h.add k = k.add h := by
 funext b o
 unfold PH.add
 cases hx : h b o with
 | none => cases k b o <;> rfl
 | some x =>
  cases hy : k b o with
  | none => rfl
  | some y => rw [(e b o x y hx hy).1]
theorem PH.add_assoc (h k l : PH) : (h.add k).add l = h.add (k.add l) := by
 funext b o
 unfold PH.add
 cases h b o <;> rfl
theorem PH.add_some {h k : PH} {b o : Nat} {x : Bool × Ct} : (h.add k) b o = some x ↔ h b o = some x ∨ (h b o = none ∧ k b o = some x) := by
 unfold PH.add
 cases h b o <;> simp
theorem PH.le.trans {h k l : PH} (e : h.le k) (f : k.le l) : h.le l := fun b o x hx => f b o x (e b o x hx)
theorem PH.le_add {h k : PH} : h.le (h.add k) := fun b o x hx => PH.add_some.2 (.inl hx)
theorem PH.le_add' {h k : PH} (e : h.ok k) : k.le (h.add k) := by rw [PH.add_comm e]; exact PH.le_add
theorem PH.add_le {h k l : PH} (e : h.le l) (f : k.le l) : (h.add k).le l := fun b o x hx => by
 rcases PH.add_some.1 hx with hx | ⟨_, hx⟩
 ·exact e b o x hx
 ·exact f b o x hx
theorem PH.ok.mono {h k h' k' : PH} (e : h.ok k) (a : h'.le h) (b : k'.le k) : h'.ok k' := fun i o x y hx hy => e i o x y (a i o x hx) (b i o y hy)
def HP := PH → Prop
def Star (A B : HP) : HP := fun h => ∃ h1 h2, h1.ok h2 ∧ h1.le h ∧ h2.le h ∧ A h1 ∧ B h2
def seps : List HP → HP
 | [] => fun _ => True
 | A :: r => Star A (seps r)
def pts (q : Bool) (a : Addr) (l : List Value) : HP := fun h => a.spot = none ∧ ∀ i x, l[i]? = some x → h a.block (a.off + i) = some (q, .v x)
def mp (q : Bool) (b : Nat) (o : MO) : HP := fun h => h b 0 = some (q, .m o)
def ZxL {α : Type} (f : α → HP) : HP := fun h => ∃ x, f x h
theorem Star.up {A B : HP} {h k : PH} (hs : Star A B h) (e : h.le k) : Star A B k := by
 obtain ⟨h1, h2, e1, e2, e3, a, b⟩ := hs
 exact ⟨h1, h2, e1, e2.trans e, e3.trans e, a, b⟩
theorem Zte {l : List HP} {h k : PH} (hs : seps l h) (e : h.le k) : seps l k := by
 cases l with
 | nil => trivial
 | cons A l => exact Star.up hs e
theorem Star.swap {A B C : HP} {h : PH} (hs : Star A (Star B C) h) : Star B (Star A C) h := by
 obtain ⟨h1, h23, e1, l1, l23, a, h2, h3, e2, l2, l3, b, c⟩ := hs
 have e12 : h1.ok h2 := e1.mono (fun _ _ _ h => h) l2
 have e13 : h1.ok h3 := e1.mono (fun _ _ _ h => h) l3
 refine ⟨h2, h1.add h3, ?_, l2.trans l23, PH.add_le l1 (l3.trans l23), b, h1, h3, e13, PH.le_add, PH.le_add' e13, a, c⟩
 intro b o x y hx hy
 rcases PH.add_some.1 hy with hy | ⟨_, hy⟩
 ·exact e12.symm b o x y hx hy
 ·exact e2 b o x y hx hy
theorem Star.mono {A B A' B' : HP} {h : PH} (hs : Star A B h) (ha : ∀ h, A h → A' h) (hb : ∀ h, B h → B' h) : Star A' B' h := by
 obtain ⟨h1, h2, e, l1, l2, a, b⟩ := hs
 exact ⟨h1, h2, e, l1, l2, ha _ a, hb _ b⟩
theorem Zpl {l m : List HP} (p : l.Perm m) : ∀ h, seps l h → seps m h := by
 induction p with
 | nil => exact fun h e => e
 | cons A _ ih => exact fun h e => Star.mono e (fun _ a => a) ih
 | swap A B l => exact fun h e => Star.swap e
 | trans _ _ ih1 ih2 => exact fun h e => ih2 h (ih1 h e)
theorem Zou {l m : List HP} {h : PH} : seps (l ++ m) h ↔ Star (seps l) (seps m) h := by
 induction l generalizing h with
 | nil =>
  constructor
  ·exact fun e => ⟨PH.nil, h, fun _ _ _ _ hx => (by cases hx), fun _ _ _ hx => (by cases hx), fun _ _ _ hx => hx, trivial, e⟩
  ·rintro ⟨h1, h2, e, l1, l2, _, b⟩
   exact Zte (l := m) b l2
 | cons A l ih =>
  constructor
  ·rintro ⟨h1, h2, e, l1, l2, a, b⟩
   obtain ⟨h3, h4, e', l3, l4, c, d⟩ := ih.1 b
   have e13 := e.mono (fun _ _ _ h => h) l3
   refine ⟨h1.add h3, h4, ?_, PH.add_le l1 (l3.trans l2), l4.trans l2, ⟨h1, h3, e13, PH.le_add, PH.le_add' e13, a, c⟩, d⟩
   intro b o x y hx hy
   rcases PH.add_some.1 hx with hx | ⟨_, hx⟩
   ·exact e b o x y hx (l4 b o y hy)
   ·exact e' b o x y hx hy
  ·rintro ⟨h1, h2, e, l1, l2, ⟨h3, h4, e', l3, l4, a, c⟩, d⟩
   have e42 := e.mono l4 (fun _ _ _ h => h)
   refine ⟨h3, h4.add h2, ?_, l3.trans l1, PH.add_le (l4.trans l1) l2, a, ih.2 ⟨h4, h2, e42, PH.le_add, PH.le_add' e42, c, d⟩⟩
   intro b o x y hx hy
   rcases PH.add_some.1 hy with hy | ⟨_, hy⟩
   ·exact e' b o x y hx hy
   ·exact e b o x y (l3 b o x hx) hy
def Has (B : Nat) (w : World) (b o : Nat) : Bool × Ct → Prop
 | (true, .v x) => B ≤ b ∧ ∃ cs T, w.heap[b]? = some (.cells cs T (0, 0)) ∧ cs[o]? = some x
 | (false, .v x) => w.cell? ⟨b, o, none⟩ = some x
 | (true, .m u) => B ≤ b ∧ o = 0 ∧ w.heap[b]? = some u.obj
 | (false, .m u) => o = 0 ∧ w.heap[b]? = some u.obj
 | (_, .s T n) => o = n ∧ ∃ cs fr, w.heap[b]? = some (.cells cs T fr) ∧ cs.size = n
structure Ss (W : World) (l : List HP) (w : World) : Prop where
 below : Below W.heap.size W w
 sep : ∃ h, seps l h ∧ ∀ b o x, h b o = some x → Has W.heap.size w b o x
theorem Ss.start (W : World) : Ss W [] W := ⟨Below.refl _ _, PH.nil, trivial, fun _ _ _ h => by cases h⟩
theorem Ss.perm {W w : World} {l m : List HP} (h : Ss W l w) (p : l.Perm m) : Ss W m w := by
 obtain ⟨hb, k, hs, hw⟩ := h
 exact ⟨hb, k, Zpl p k hs, hw⟩
def nth : List HP → Nat → Option HP
 | [], _ => none
 | A :: _, 0 => some A
 | _ :: l, n + 1 => nth l n
def wo : List HP → Nat → List HP
 | [], _ => []
 | _ :: l, 0 => l
 | A :: l, n + 1 => A :: wo l n
def sel : List Nat → List HP → Option (List HP × List HP)
 | [], l => some ([], l)
 | i :: is, l => match nth l i with
  | some A => match sel is (wo l i) with
   | some (s, r) => some (A :: s, r)
   | none => none
  | none => none
theorem Ze8 : ∀ {l : List HP} {i : Nat} {A : HP}, nth l i = some A → l.Perm (A :: wo l i)
 | A :: l, 0, _, h => by cases h; exact List.Perm.refl _
 | A :: l, i + 1, B, h => ((Ze8 (l := l) h).cons A).trans (List.Perm.swap _ _ _)
theorem Zrh : ∀ {is : List Nat} {l s r : List HP}, sel is l = some (s, r) → l.Perm (s ++ r)
 | [], l, s, r, h => by cases h; exact List.Perm.refl _
 | i :: is, l, s, r, h => by
  unfold sel at h
  split at h
  ·rename_i A hA
   split at h
   ·rename_i s' r' hs
    cases h
    exact (Ze8 hA).trans ((Zrh hs).cons A)
   ·cases h
  ·cases h
theorem Ss.use {W w : World} {l s r : List HP} (h : Ss W l w) (is : List Nat) (e : sel is l = some (s, r)) : Ss W (s ++ r) w := h.perm (Zrh e)
theorem Ss.weak {W w : World} {l m : List HP} (h : Ss W (l ++ m) w) : Ss W m w := by
 obtain ⟨hb, k, hs, hw⟩ := h
 obtain ⟨h1, h2, _, _, l2, _, b⟩ := Zou.1 hs
 exact ⟨hb, h2, b, fun b o x hx => hw b o x (l2 b o x hx)⟩
theorem Ss.first {W w : World} {A B : HP} {l : List HP} (h : Ss W (A :: l) w) (f : ∀ h, A h → B h) : Ss W (B :: l) w := by
 obtain ⟨hb, k, hs, hw⟩ := h
 exact ⟨hb, k, Star.mono hs f (fun _ b => b), hw⟩
theorem Ss.drop {W w : World} {A : HP} {l : List HP} (h : Ss W (A :: l) w) : Ss W l w := Ss.weak (l := [A]) h
theorem Ss.ex {W w : World} {α : Type} {f : α → HP} {l : List HP} (h : Ss W (ZxL f :: l) w) : ∃ x, Ss W (f x :: l) w := by
 obtain ⟨hb, k, ⟨h1, h2, e, l1, l2, ⟨x, a⟩, b⟩, hw⟩ := h
 exact ⟨x, hb, k, ⟨h1, h2, e, l1, l2, a, b⟩, hw⟩
theorem Ss.group {W w : World} {l m : List HP} (h : Ss W (l ++ m) w) : Ss W (seps l :: m) w := by
 obtain ⟨hb, k, hs, hw⟩ := h
 exact ⟨hb, k, Zou.1 hs, hw⟩
theorem Ss.split {W w : World} {l m : List HP} (h : Ss W (seps l :: m) w) : Ss W (l ++ m) w := by
 obtain ⟨hb, k, hs, hw⟩ := h
 exact ⟨hb, k, Zou.2 hs, hw⟩
theorem Zfr {l : List HP} {h : PH} {i : Nat} {A : HP} (hs : seps l h) (e : nth l i = some A) : ∃ h1, A h1 ∧ h1.le h := by
 obtain ⟨h1, h2, _, l1, _, a, _⟩ := Zpl (Ze8 e) h hs
 exact ⟨h1, a, l1⟩
theorem Has.cell {B : Nat} {w : World} {b o : Nat} {q : Bool} {x : Value} (h : Has B w b o (q, .v x)) : w.cell? ⟨b, o, none⟩ = some x := by
 cases q with
 | false => exact h
 | true =>
  obtain ⟨_, cs, T, h1, h2⟩ := h
  unfold World.cell?
  simp [h1, h2]
theorem Zrm {W w : World} {l : List HP} {i : Nat} {q : Bool} {a : Addr} {L : List Value} (s : Ss W l w) (e : nth l i = some (pts q a L)) {j : Nat} {x : Value} (hx : L[j]? = some x) : w.cell? (a.add j) = some x := by
 obtain ⟨hb, h, hs, hw⟩ := s
 obtain ⟨h1, ⟨ha, hc⟩, l1⟩ := Zfr hs e
 have := (hw _ _ _ (l1 _ _ _ (hc j x hx))).cell
 have e2 : a.add j = ⟨a.block, a.off + j, none⟩ := by
  obtain ⟨b, o, sp⟩ := a
  simp only at ha
  subst ha
  unfold Addr.add
  split <;> simp_all
 rw [e2]
 exact this
theorem ZfE {a : Addr} (ha : a.spot = none) (j : Nat) : a.add j = ⟨a.block, a.off + j, none⟩ := by
 obtain ⟨b, o, sp⟩ := a
 simp only at ha
 subst ha
 unfold Addr.add
 split <;> simp_all
theorem Zd4 {a : Addr} (i j : Nat) : (a.add i).add j = a.add (i + j) := by
 unfold Addr.add
 by_cases hi : i = 0
 ·subst hi
  simp
 ·by_cases hj : j = 0
  ·subst hj
   simp
  ·simp [hi, hj, Nat.add_assoc]
theorem Zqz {W w : World} {l : List HP} {i : Nat} {q : Bool} {a : Addr} {L m : List Value} {o : Nat} (s : Ss W l w) (e : nth l i = some (pts q a L)) (h : At L o m) : rdF w (a.add o) 0 m.length = some m :=
 Zj8 _ _ _ rfl fun j hj => by
  rw [Nat.zero_add, Zd4]
  have := h.get j hj
  rw [za hj] at this ⊢
  exact Zrm s e this
namespace WP
variable {α β : Type} {w : World}
theorem ld {W : World} {l : List HP} {q : Bool} {a p : Addr} {L : List Value} {c : Cod α} {x : α} {f : α → M β} {Q : β → World → Prop} {o : Nat} (s : Ss W l w) (i : Nat) (e : nth l i = some (pts q a L)) (hp : p = a.add o) (h : At L o (c.enc x)) (k : WP (f x) w Q) : WP (Lx.ld c p >>= f) w Q := by
 subst hp
 refine bind ⟨x, w, ?_, k⟩
 unfold Lx.ld
 have := Zqz s e h
 rw [c.len] at this
 rw [this]
 simp [c.de]
theorem same {W : World} {l : List HP} {q : Bool} {a p : Addr} {L : List Value} {c : Cod α} {x : α} {f : Unit → M β} {Q : β → World → Prop} {o : Nat} (s : Ss W l w) (i : Nat) (e : nth l i = some (pts q a L)) (hp : p = a.add o) (h : At L o (c.enc x)) (k : WP (f ()) w Q) : WP (Lx.same c p x >>= f) w Q := by
 subst hp
 refine bind ⟨(), w, ?_, k⟩
 unfold Lx.same
 have := Zqz s e h
 rw [c.len] at this
 rw [if_pos]
 unfold Lx.ld
 rw [this]
 simp [c.de]
end WP
end
section
open Go Go.RowKit
def up : List HP → Nat → HP → List HP
 | [], _, _ => []
 | _ :: l, 0, B => B :: l
 | A :: l, n + 1, B => A :: up l n B
theorem ZgX : ∀ {l : List HP} {i : Nat} {A B : HP}, nth l i = some A → (up l i B).Perm (B :: wo l i)
 | A :: l, 0, _, B, h => List.Perm.refl _
 | A :: l, i + 1, C, B, h => ((ZgX (l := l) h).cons A).trans (List.Perm.swap _ _ _)
theorem ZhY : ∀ {l : List HP} {i : Nat} {A B : HP}, nth l i = some A → nth (up l i B) i = some B
 | A :: l, 0, _, B, h => rfl
 | A :: l, i + 1, C, B, h => ZhY (l := l) h
theorem Zon : ∀ {l : List HP} {i : Nat} {A B : HP}, up (up l i A) i B = up l i B
 | [], _, _, _ => rfl
 | A :: l, 0, _, B => rfl
 | A :: l, i + 1, C, B => congrArg (A :: ·) (Zon (l := l))
theorem Ss.ext {W w w' : World} {l : List HP} (s : Ss W l w) (hb : Below W.heap.size W w') (h : ∀ b, b < w.heap.size → w'.heap[b]? = w.heap[b]?) : Ss W l w' := by
 obtain ⟨b1, k, hs, hw⟩ := s
 refine ⟨hb, k, hs, fun b o x hx => ?_⟩
 have h1 := hw b o x hx
 have key : ∀ O, w.heap[b]? = some O → w'.heap[b]? = some O := fun O hO => by
  rw [h b (Array.getElem?_eq_some_iff.1 hO).1, hO]
 rcases x with ⟨q, x | mo | ⟨T0, n0⟩⟩ <;> cases q
 ·show w'.cell? _ = _
  have h2 : w.cell? ⟨b, o, none⟩ = some x := h1
  unfold World.cell? at h2 ⊢
  cases hO : w.heap[b]? with
  | none => simp only [hO] at h2; cases h2
  | some O => simp only [hO] at h2; simp only [key O hO]; exact h2
 ·obtain ⟨c1, cs, T, c2, c3⟩ := h1
  exact ⟨c1, cs, T, key _ c2, c3⟩
 ·exact ⟨h1.1, key _ h1.2⟩
 ·exact ⟨h1.1, h1.2.1, key _ h1.2.2⟩
 ·obtain ⟨c1, cs, fr, c2, c3⟩ := h1
  exact ⟨c1, cs, fr, key _ c2, c3⟩
 ·obtain ⟨c1, cs, fr, c2, c3⟩ := h1
  exact ⟨c1, cs, fr, key _ c2, c3⟩
theorem Ss.drew {W w : World} {l : List HP} (s : Ss W l w) : Ss W l w.drew := s.ext ⟨s.below.os, s.below.tape, s.below.output, s.below.size, s.below.block⟩ (fun _ _ => rfl)
theorem ZfV (w : World) (O : Obj) {b : Nat} (h : b < w.heap.size) : (w.alloc O).heap[b]? = w.heap[b]? := by
 show (w.heap.push O)[b]? = _
 rw [Array.getElem?_push, if_neg (by omega)]
theorem Zg1 (w : World) (O : Obj) : (w.alloc O).heap[w.heap.size]? = some O := by
 show (w.heap.push O)[w.heap.size]? = _
 rw [Array.getElem?_push, if_pos rfl]
theorem Ss.alloc {W w : World} {l : List HP} (s : Ss W l w) (O : Obj) : Ss W l (w.alloc O) :=
 s.ext (s.below.trans (ZsB (ZqY O) s.below.size)) (fun b hb => ZfV w O hb)
theorem Has.lt {B : Nat} {w : World} {b o : Nat} {x : Bool × Ct} (h : Has B w b o x) : b < w.heap.size := by
 have key : ∀ O, w.heap[b]? = some O → b < w.heap.size := fun O hO => (Array.getElem?_eq_some_iff.1 hO).1
 rcases x with ⟨q, x | mo | ⟨T0, n0⟩⟩ <;> cases q
 ·have h2 : w.cell? ⟨b, o, none⟩ = some x := h
  unfold World.cell? at h2
  cases hO : w.heap[b]? with
  | none => simp only [hO] at h2; cases h2
  | some O => exact key O hO
 ·obtain ⟨c1, cs, T, c2, c3⟩ := h
  exact key _ c2
 ·exact key _ h.2
 ·exact key _ h.2.2
 ·obtain ⟨_, cs, fr, c2, _⟩ := h
  exact key _ c2
 ·obtain ⟨_, cs, fr, c2, _⟩ := h
  exact key _ c2
theorem Ss.new {W w : World} {l : List HP} (s : Ss W l w) (L : List Value) (T : TypeId) : Ss W (pts true (pt w.heap.size 0) L :: l) (w.alloc (.cells L.toArray T)) := by
 obtain ⟨b1, k, hs, hw⟩ := s.alloc (.cells L.toArray T)
 obtain ⟨b0, k0, hs0, hw0⟩ := s
 let n : PH := fun b o => if b = w.heap.size then (L[o]?).map fun x => (true, .v x) else none
 have hok : n.ok k0 := fun b o x y hx hy => by
  have := (hw0 b o y hy).lt
  simp only [n] at hx
  rw [if_neg (by omega)] at hx
  cases hx
 refine ⟨b1, n.add k0, ⟨n, k0, hok, PH.le_add, PH.le_add' hok, ⟨rfl, fun i x hx => ?_⟩, hs0⟩, fun b o x hx => ?_⟩
 ·simp [n, pt, hx]
 ·rcases PH.add_some.1 hx with hx' | ⟨_, hx'⟩
  ·simp only [n] at hx'
   split at hx'
   ·rename_i hb
    subst hb
    obtain ⟨y, hy, rfl⟩ := Option.map_eq_some_iff.1 hx'
    exact ⟨b0.size, _, T, Zg1 _ _, by simpa using hy⟩
   ·cases hx'
  ·have h1 := hw0 b o x hx'
   have hlt := h1.lt
   have e : (w.alloc (.cells L.toArray T)).heap[b]? = w.heap[b]? := ZfV _ _ hlt
   rcases x with ⟨q, x | mo | ⟨T0, n0⟩⟩ <;> cases q
   ·show (w.alloc _).cell? _ = _
    have h2 : w.cell? ⟨b, o, none⟩ = some x := h1
    unfold World.cell? at h2 ⊢
    simp only [e]
    exact h2
   ·obtain ⟨c1, cs, T', c2, c3⟩ := h1
    exact ⟨c1, cs, T', e.trans c2, c3⟩
   ·exact ⟨h1.1, e.trans h1.2⟩
   ·exact ⟨h1.1, h1.2.1, e.trans h1.2.2⟩
   ·obtain ⟨c1, cs, fr, c2, c3⟩ := h1
    exact ⟨c1, cs, fr, e.trans c2, c3⟩
   ·obtain ⟨c1, cs, fr, c2, c3⟩ := h1
    exact ⟨c1, cs, fr, e.trans c2, c3⟩
theorem Ss.set1 {W w : World} {l : List HP} {a : Addr} {L : List Value} (s : Ss W (pts true a L :: l) w) {j : Nat} {y : Value} (hy : L[j]? = some y) (x : Value) :
  (w.cell? (a.add j)).isSome = true ∧ w.frozen? (a.add j) = false ∧ Ss W (pts true a (L.set j x) :: l) (w.setCell (a.add j) x) := by
 have hc := Zrm s (i := 0) rfl hy
 refine ⟨by rw [hc]; rfl, ?_⟩
 obtain ⟨b0, k, ⟨h1, h2, ok, l1, l2, ⟨sp, hp⟩, hr⟩, hw⟩ := s
 have hat := hp j y hy
 obtain ⟨hB, cs, T, hh, hcs⟩ := hw _ _ _ (l1 _ _ _ hat)
 rw [ZfE sp]
 refine ⟨by simp [World.frozen?, hh], ?_⟩
 have hw' : (w.setCell ⟨a.block, a.off + j, none⟩ x).heap[a.block]? = some (.cells (cs.setIfInBounds (a.off + j) x) T (0, 0)) := by
  rw [Zdz]
  simp [hh]
 have ho : ∀ b, b ≠ a.block → (w.setCell ⟨a.block, a.off + j, none⟩ x).heap[b]? = w.heap[b]? := fun b hb => by
  rw [Zdz, if_neg (fun e => hb e.symm)]
 have hsz : (w.setCell ⟨a.block, a.off + j, none⟩ x).heap.size = w.heap.size := by simp [World.setCell]
 have n2 : h2 a.block (a.off + j) = none := by
  cases h : h2 a.block (a.off + j) with
  | none => rfl
  | some z => exact absurd (ok _ _ _ _ hat h).2 (by simp)
 let n1 : PH := fun b o => if b = a.block ∧ o = a.off + j then some (true, .v x) else h1 b o
 let kk : PH := fun b o => if b = a.block ∧ o = a.off + j then some (true, .v x) else k b o
 refine ⟨⟨b0.os, b0.tape, b0.output, by rw [hsz]; exact b0.size, fun b hb => by rw [ho b (by omega)]; exact b0.block b hb⟩, kk, ⟨n1, h2, ?_, ?_, ?_, ⟨sp, ?_⟩, hr⟩, ?_⟩
 ·intro b o u v hu hv
  simp only [n1] at hu
  split at hu
  ·rename_i h
   rw [h.1, h.2, n2] at hv
   cases hv
  ·exact ok b o u v hu hv
 ·intro b o u hu
  simp only [n1] at hu
  simp only [kk]
  split
  ·rename_i h
   rwa [if_pos h] at hu
  ·rename_i h
   rw [if_neg h] at hu
   exact l1 b o u hu
 ·intro b o u hu
  simp only [kk]
  split
  ·rename_i h
   rw [h.1, h.2, n2] at hu
   cases hu
  ·exact l2 b o u hu
 ·intro i u hu
  by_cases e : i = j
  ·subst e
   rw [show n1 a.block (a.off + i) = some (true, .v x) from if_pos ⟨rfl, rfl⟩]
   have hj : i < L.length := (List.getElem?_eq_some_iff.1 hy).1
   rw [List.getElem?_set_self hj] at hu
   cases hu
   rfl
  ·rw [show n1 a.block (a.off + i) = h1 a.block (a.off + i) from if_neg (fun h => e (by have := h.2; omega))]
   rw [List.getElem?_set_ne (fun h => e h.symm)] at hu
   exact hp i u hu
 ·intro b o u hu
  simp only [kk] at hu
  split at hu
  ·rename_i h
   cases hu
   refine ⟨by rw [h.1]; exact hB, _, T, by rw [h.1]; exact hw', ?_⟩
   rw [h.2]
   have : a.off + j < cs.size := (Array.getElem?_eq_some_iff.1 hcs).1
   simp [this]
  ·rename_i hne
   have h1 := hw b o u hu
   by_cases hb : b = a.block
   ·subst hb
    have ho2 : o ≠ a.off + j := fun h => hne ⟨rfl, h⟩
    rcases u with ⟨q, u | mo | ⟨T0, n0⟩⟩ <;> cases q
    ·show World.cell? _ _ = _
     have h2 : w.cell? ⟨a.block, o, none⟩ = some u := h1
     unfold World.cell? at h2 ⊢
     simp only [hh] at h2
     simp only [hw']
     simp only [Option.isSome_none, Bool.false_eq_true, if_false] at h2 ⊢
     rw [Array.getElem?_setIfInBounds_ne (fun h => ho2 h.symm)]
     exact h2
    ·obtain ⟨c1, cs', T', c2, c3⟩ := h1
     rw [hh] at c2
     cases c2
     exact ⟨c1, _, _, hw', by rw [Array.getElem?_setIfInBounds_ne (fun h => ho2 h.symm)]; exact c3⟩
    ·have := h1.2
     rw [hh] at this
     cases mo <;> cases this
    ·have := h1.2.2
     rw [hh] at this
     cases mo <;> cases this
    ·obtain ⟨c1, cs', fr, c2, c3⟩ := h1
     rw [hh] at c2
     cases c2
     exact ⟨c1, _, _, hw', by simpa using c3⟩
    ·obtain ⟨c1, cs', fr, c2, c3⟩ := h1
     rw [hh] at c2
     cases c2
     exact ⟨c1, _, _, hw', by simpa using c3⟩
   ·rcases u with ⟨q, u | mo | ⟨T0, n0⟩⟩ <;> cases q
    ·show World.cell? _ _ = _
     have h2 : w.cell? ⟨b, o, none⟩ = some u := h1
     unfold World.cell? at h2 ⊢
     simp only [ho b hb]
     exact h2
    ·obtain ⟨c1, cs', T', c2, c3⟩ := h1
     exact ⟨c1, cs', T', (ho b hb).trans c2, c3⟩
    ·exact ⟨h1.1, (ho b hb).trans h1.2⟩
    ·exact ⟨h1.1, h1.2.1, (ho b hb).trans h1.2.2⟩
    ·obtain ⟨c1, cs, fr, c2, c3⟩ := h1
     exact ⟨c1, cs, fr, (ho b hb).trans c2, c3⟩
    ·obtain ⟨c1, cs, fr, c2, c3⟩ := h1
     exact ⟨c1, cs, fr, (ho b hb).trans c2, c3⟩
theorem Zpa {W : World} {l : List HP} {a : Addr} : ∀ (m : List Value) (w : World) (p q r : List Value) (b : Addr) (j : Nat), Ss W (pts true a (p ++ q ++ r) :: l) w → q.length = m.length → (b.add j = a.add p.length) → (∀ i, b.add (j + i) = a.add (p.length + i)) →
  ∃ w', wrF w b j m = some w' ∧ Ss W (pts true a (p ++ m ++ r) :: l) w'
 | [], w, p, q, r, b, j, s, hq, hb, hi => by
  have : q = [] := by cases q; rfl; simp at hq
  subst this
  exact ⟨w, rfl, s⟩
 | x :: m, w, p, q, r, b, j, s, hq, hb, hi => by
  cases q with
  | nil => simp at hq
  | cons y q =>
   have hy : (p ++ y :: q ++ r)[p.length]? = some y := by simp
   obtain ⟨h1, h2, h3⟩ := s.set1 hy x
   rw [show (p ++ y :: q ++ r).set p.length x = (p ++ [x]) ++ q ++ r by simp] at h3
   obtain ⟨w', h4, h5⟩ := Zpa m _ (p ++ [x]) q r b (j + 1) h3 (by simpa using hq) (by have := hi 1; simpa using this) (fun i => by have := hi (1 + i); simpa [Nat.add_assoc] using this)
   refine ⟨w', ?_, by simpa using h5⟩
   simp only [wrF, hb]
   rw [h1, h2]
   exact h4
theorem Zl3 {W w : World} {l : List HP} {i : Nat} {a : Addr} {L m L' : List Value} {o : Nat} (s : Ss W l w) (e : nth l i = some (pts true a L)) (h : Upd L o m L') :
  ∃ w', wrF w (a.add o) 0 m = some w' ∧ Ss W (up l i (pts true a L')) w' := by
 obtain ⟨p, q, r, rfl, rfl, hq, rfl⟩ := h
 obtain ⟨w', h1, h2⟩ := Zpa m w p q r (a.add p.length) 0 (s.perm (Ze8 e)) hq (by rw [Zd4, Nat.add_zero]) (fun i => by rw [Zd4, Nat.zero_add])
 exact ⟨w', h1, h2.perm (ZgX e).symm⟩
theorem Zts {α : Type} (c : Cod α) (x : α) : (c.enc x).all Zlf = true := by
 rw [List.all_eq_true]
 intro y hy
 have h := c.flat x y hy
 cases y <;> first | rfl | (exact absurd rfl (h.1 _)) | (exact absurd rfl (h.2 _))
theorem Zgl {α : Type} (c : Cod α) (l : List α) : (l.flatMap c.enc).all Zlf = true := by
 rw [List.all_eq_true]
 intro y hy
 obtain ⟨x, _, hx⟩ := List.mem_flatMap.1 hy
 exact List.all_eq_true.1 (Zts c x) y hx
theorem ZdW {α : Type} (c : Cod α) (l : List α) : (l.flatMap c.enc).length = l.length * c.n := by
 induction l with
 | nil => simp
 | cons x l ih => simp [ih, c.len, Nat.succ_mul, Nat.add_comm]
def vec {α : Type} (c : Cod α) (s : Sl) (l sp : List α) : HP := fun h => s.len = l.length ∧ s.cap = l.length + sp.length ∧ (match s.a with | some a => pts true a ((l ++ sp).flatMap c.enc) h | none => l = [] ∧ sp = [])
theorem ZsT {α : Type} {c : Cod α} {a : Addr} {l sp : List α} {h : PH} (hp : pts true a ((l ++ sp).flatMap c.enc) h) : vec c ⟨some a, l.length, l.length + sp.length⟩ l sp h := ⟨rfl, rfl, hp⟩
theorem Zcv {α : Type} {c : Cod α} {h : PH} : vec c Sl.nil [] [] h := ⟨rfl, rfl, rfl, rfl⟩
theorem Ss.has {W w : World} {l : List HP} {i : Nat} {A : HP} (s : Ss W l w) (e : nth l i = some A) : ∃ h, A h := by
 obtain ⟨_, k, hs, _⟩ := s
 obtain ⟨h1, a, _⟩ := Zfr hs e
 exact ⟨h1, a⟩
theorem Ss.vec_len {α : Type} {c : Cod α} {W w : World} {Hs : List HP} {i : Nat} {sl : Sl} {l sp : List α} (s : Ss W Hs w) (e : nth Hs i = some (vec c sl l sp)) : sl.len = l.length ∧ sl.cap = l.length + sp.length ∧ (sl.a = none → l = [] ∧ sp = []) := by
 obtain ⟨h, h1, h2, h3⟩ := s.has e
 refine ⟨h1, h2, fun e => ?_⟩
 rw [e] at h3
 exact h3
theorem Ss.vec_open {α : Type} {c : Cod α} {W w : World} {Hs : List HP} {i : Nat} {sl : Sl} {l sp : List α} (s : Ss W Hs w) (e : nth Hs i = some (vec c sl l sp)) (hl : l ≠ [] ∨ sl.a ≠ none) : ∃ a, sl = ⟨some a, l.length, l.length + sp.length⟩ ∧ Ss W (up Hs i (pts true a ((l ++ sp).flatMap c.enc))) w := by
 obtain ⟨h1, h2, h3⟩ := s.vec_len e
 obtain ⟨a, n, k⟩ := sl
 cases a with
 | none => exact absurd (h3 rfl).1 (hl.resolve_right (fun h => h rfl))
 | some a =>
  simp only at h1 h2
  subst h1
  subst h2
  exact ⟨a, rfl, ((s.perm (Ze8 e)).first (fun h hv => hv.2.2)).perm (ZgX e).symm⟩
theorem Ss.close {W w : World} {Hs : List HP} {i : Nat} {A B : HP} (s : Ss W Hs w) (e : nth Hs i = some A) (f : ∀ h, A h → B h) : Ss W (up Hs i B) w := ((s.perm (Ze8 e)).first f).perm (ZgX e).symm
theorem ZnI {α : Type} (c : Cod α) (z : α) (k : Nat) : (Builtin.zeroCells (c.enc z).toArray k).toList = (List.replicate k z).flatMap c.enc := by
 apply List.ext_getElem?
 intro i
 unfold Builtin.zeroCells
 rw [Array.toList_map, Array.toList_range, zD]
 have hl : ((List.replicate k z).flatMap c.enc).length = k * c.n := by rw [ZdW, zT]
 have hz : (c.enc z).toArray.size = c.n := by simp [c.len]
 rw [hz]
 by_cases hi : i < k * c.n
 ·have hn : 0 < c.n := by
   rcases Nat.eq_zero_or_pos c.n with h | h
   ·rw [h, Nat.mul_zero] at hi; omega
   ·exact h
  have hd : i / c.n < k := (Nat.div_lt_iff_lt_mul hn).2 hi
  have hm : i % c.n < c.n := Nat.mod_lt _ hn
  have hat := ZiX c (List.replicate k z) (i / c.n) z (by simpa using hd)
  have e : (List.replicate k z).getD (i / c.n) z = z := by
   simp only [List.getD, List.getElem?_replicate]
   split <;> rfl
  rw [e] at hat
  have := hat.get (i % c.n) (by rw [c.len]; exact hm)
  rw [Nat.mul_comm, Nat.div_add_mod] at this
  rw [this, List.getElem?_range hi]
  simp [c.len, hm]
 ·rw [List.getElem?_eq_none (l := List.range (k * c.n)) (by simp; omega), List.getElem?_eq_none (by rw [hl]; omega)]
  rfl
theorem ZsR {α : Type} (c : Cod α) (l xs sp : List α) (h : xs.length ≤ sp.length) : Upd ((l ++ sp).flatMap c.enc) (l.length * c.n) (xs.flatMap c.enc) ((l ++ xs ++ sp.drop xs.length).flatMap c.enc) := by
 refine ⟨l.flatMap c.enc, (sp.take xs.length).flatMap c.enc, (sp.drop xs.length).flatMap c.enc, ?_, ZdW _ _, ?_, ?_⟩
 ·rw [zu, ← zv, List.take_append_drop, ← zv]
 ·rw [ZdW, ZdW, zm, Nat.min_eq_left h]
 ·simp [zv]
def ex {α : Type} (φ : α → Prop) (P : α → HP) : HP := fun h => ∃ x, φ x ∧ P x h
theorem Ss.openx {α : Type} {φ : α → Prop} {P : α → HP} {W w : World} {Hs : List HP} (s : Ss W Hs w) (i : Nat) (e : nth Hs i = some (Lx.ex φ P)) : ∃ x, φ x ∧ Ss W (up Hs i (P x)) w := by
 obtain ⟨hb, k, ⟨h1, h2, e', l1, l2, ⟨x, a1, a⟩, b⟩, hw⟩ := s.perm (Ze8 e)
 exact ⟨x, a1, Ss.perm (l := P x :: wo Hs i) ⟨hb, k, ⟨h1, h2, e', l1, l2, a, b⟩, hw⟩ (ZgX e).symm⟩
theorem Ss.closex {α : Type} {φ : α → Prop} {P : α → HP} {W w : World} {Hs : List HP} (s : Ss W Hs w) (i : Nat) (x : α) (e : nth Hs i = some (P x)) (hx : φ x) : Ss W (up Hs i (Lx.ex φ P)) w := s.close e (fun h hp => ⟨x, hx, hp⟩)
theorem Upd.at_ {L m L' : List Value} {o : Nat} (h : Upd L o m L') : At L' o m := by
 obtain ⟨p, q, r, rfl, rfl, hq, rfl⟩ := h
 exact ⟨p, r, rfl, rfl⟩
theorem Upd.comp {L m L1 m2 L2 : List Value} {o : Nat} (h : Upd L o m L1) (h2 : Upd L1 o m2 L2) (hl : m.length = m2.length) : Upd L o m2 L2 := by
 obtain ⟨p, q, r, rfl, rfl, hq, rfl⟩ := h
 obtain ⟨p', q', r', he, hp, hq', rfl⟩ := h2
 rw [zu, zu] at he
 obtain ⟨e1, e2⟩ := List.append_inj he hp.symm
 subst e1
 obtain ⟨e3, e4⟩ := List.append_inj e2 (by rw [hq', hl])
 subst e3
 subst e4
 exact ⟨p, q, r, rfl, rfl, by rw [hq, hl], rfl⟩
theorem At.put {α : Type} {c : Cod α} {L : List Value} {o : Nat} {x : α} (h : At L o (c.enc x)) (y : α) : ∃ L', Upd L o (c.enc y) L' ∧ At L' o (c.enc y) := by
 obtain ⟨p, r, rfl, rfl⟩ := h
 have : Upd (p ++ c.enc x ++ r) p.length (c.enc y) (p ++ c.enc y ++ r) := ⟨p, c.enc x, r, rfl, rfl, by rw [c.len, c.len], rfl⟩
 exact ⟨_, this, this.at_⟩
theorem Upd.go {α : Type} {c : Cod α} {L L1 L2 : List Value} {o : Nat} {x y : α} (h : Upd L o (c.enc x) L1) (h2 : Upd L1 o (c.enc y) L2) : Upd L o (c.enc y) L2 := h.comp h2 (by rw [c.len, c.len])
namespace WP
variable {α β : Type} {w : World}
theorem st {W : World} {l : List HP} {a p : Addr} {L L' : List Value} {c : Cod α} {x : α} {f : Unit → M β} {Q : β → World → Prop} {o : Nat} (s : Ss W l w) (i : Nat) (e : nth l i = some (pts true a L)) (hp : p = a.add o) (h : Upd L o (c.enc x) L')
  (k : ∀ w', Ss W (up l i (pts true a L')) w' → WP (f ()) w' Q) : WP (Lx.st c p x >>= f) w Q := by
 subst hp
 obtain ⟨w', h1, h2⟩ := Zl3 s e h
 exact bind ⟨(), w', by unfold Lx.st; rw [h1]; rfl, k w' h2⟩
theorem newv {W : World} {l : List HP} {T : TypeId} {c : Cod α} {x : α} {f : Nat → M β} {Q : β → World → Prop} (s : Ss W l w)
  (k : ∀ b w', Ss W (pts true (pt b 0) (c.enc x) :: l) w' → WP (f b) w' Q) : WP (Lx.newv T c x >>= f) w Q :=
 bind ⟨_, _, rfl, k _ _ (s.new _ T)⟩
theorem slot' {W : World} {l : List HP} {T : TypeId} {f : Nat → M β} {Q : β → World → Prop} (s : Ss W l w) (k : ∀ b w', Ss W l w' → WP (f b) w' Q) : WP (Lx.slot T >>= f) w Q :=
 slot (k _ _ (s.alloc _))
theorem draw' {W : World} {l : List HP} {f : Unit → M β} {Q : β → World → Prop} (s : Ss W l w) (k : ∀ w', Ss W l w' → WP (f ()) w' Q) : WP (Lx.draw >>= f) w Q := draw (k _ s.drew)
theorem mkS {W : World} {l : List HP} {E : TypeId} {by_ : Nat} {c : Cod α} {z : α} {n k : Int} {f : Sl → M β} {Q : β → World → Prop} (s : Ss W l w) (h0 : 0 ≤ n) (h1 : n ≤ k) (h2 : k ≤ 9223372036854775807) (h3 : by_ * k ≤ 281474976710656)
  (g : ∀ r w', Ss W (vec c r (List.replicate n.toNat z) (List.replicate (k - n).toNat z) :: l) w' → r.a.isSome = true → WP (f r) w' Q) : WP (Lx.mkS c E by_ z n k >>= f) w Q := by
 have e1 : IntKind.i64.wrap n = n := Zau (by omega) (by omega)
 have e2 : IntKind.i64.wrap k = k := Zau (by omega) (by omega)
 refine bind ⟨_, _, ?_, g ⟨some (pt w.heap.size 0), n.toNat, k.toNat⟩ _ ((s.new (List.replicate k.toNat (c.enc z)).flatten E).first ?_) rfl⟩
 ·unfold Lx.mkS
  rw [e1, e2, if_neg (by simp only [not_or]; refine ⟨by omega, ?_, by omega, by omega⟩; simpa using h3)]
 ·intro h hp
  refine ⟨by simp, by simp; omega, ?_⟩
  show pts true _ _ h
  rw [List.replicate_append_replicate, show n.toNat + (k - n).toNat = k.toNat by omega]
  simpa [List.flatMap, List.map_replicate] using hp
theorem idxs {sl : Sl} {a : Addr} {n k sz : Nat} {i : Int} {f : Addr → M β} {Q : β → World → Prop} (e : sl = ⟨some a, n, k⟩) (h0 : 0 ≤ i) (h1 : i < n) (h : WP (f (a.add (i.toNat * sz))) w Q) : WP (Lx.idx sl.a sl.len i sz >>= f) w Q := by
 subst e
 exact idx h0 h1 h
theorem appl {W : World} {Hs : List HP} {E : TypeId} {by_ : Nat} {c : Cod α} {z : α} {sl : Sl} {l sp xs : List α} {f : Sl → M β} {Q : β → World → Prop} (s : Ss W Hs w) (i : Nat) (e : nth Hs i = some (vec c sl l sp)) (hb : (l.length + xs.length) * by_ ≤ 140737488355328) (h0 : 0 < by_)
  (k : ∀ r w' sp', Ss W (up Hs i (vec c r (l ++ xs) sp')) w' → WP (f r) w' Q) : WP (Lx.appl c E by_ z sl xs >>= f) w Q := by
 obtain ⟨e1, e2, e3⟩ := s.vec_len e
 obtain ⟨a, n, cap⟩ := sl
 simp only at e1 e2 e3
 subst e1
 subst e2
 by_cases hc : l.length + xs.length ≤ l.length + sp.length
 ·cases a with
  | none =>
   obtain ⟨rfl, rfl⟩ := e3 rfl
   have : xs = [] := by cases xs; rfl; simp at hc
   subst this
   refine bind ⟨_, w, ?_, k ⟨none, 0, 0⟩ w [] (s.close e (fun h hv => Zcv))⟩
   simp [Lx.appl, grow]
  | some a =>
   obtain ⟨a', e4, s2⟩ := s.vec_open e (.inr (by simp))
   cases e4
   obtain ⟨w', h1, h2⟩ := Zl3 s2 (ZhY e) (ZsR c l xs sp (by omega))
   rw [Zon] at h2
   refine bind ⟨⟨some a, l.length + xs.length, l.length + sp.length⟩, w', ?_, k _ w' (sp.drop xs.length) ?_⟩
   ·unfold Lx.appl grow
    rw [Zgl]
    simp only [Bool.not_true, Bool.false_eq_true, if_false]
    rw [if_pos hc, h1]
    rfl
   ·refine (h2.close (ZhY e) (fun h hp => ?_)) |> fun s => Zon ▸ s
    exact ⟨by simp, by simp; omega, hp⟩
 ·have hneed : l.length + sp.length < l.length + xs.length := by omega
  obtain ⟨old, ho, hold⟩ : ∃ old, rdR w a (l.length * c.n) = some old ∧ old = l.flatMap c.enc := by
   cases a with
   | none =>
    obtain ⟨rfl, rfl⟩ := e3 rfl
    exact ⟨[], by simp [rdR], rfl⟩
   | some a =>
    obtain ⟨a', e4, s2⟩ := s.vec_open e (.inr (by simp))
    cases e4
    have hat : At ((l ++ sp).flatMap c.enc) 0 (l.flatMap c.enc) := ⟨[], sp.flatMap c.enc, by simp, rfl⟩
    have := Zqz s2 (ZhY e) hat
    rw [ZdW] at this
    exact ⟨_, this, rfl⟩
  subst hold
  have hg : Builtin.nextslicecap (l.length + xs.length) (l.length + sp.length) * by_ ≤ 281474976710656 := growslice_fits hneed hb
  generalize hcap : (Question.appendCap (l.length + xs.length) (l.length + sp.length) E).cut (w.tape w.drawn (.appendCap (l.length + xs.length) (l.length + sp.length) E)) = cap'
  have hcap' : l.length + xs.length ≤ cap' := by rw [← hcap]; exact Nat.le_add_right _ _
  refine bind ⟨⟨some (pt w.heap.size 0), l.length + xs.length, cap'⟩, w.drew.alloc (.cells (l.flatMap c.enc ++ xs.flatMap c.enc ++ (Builtin.zeroCells (c.enc z).toArray (cap' - (l.length + xs.length))).toList).toArray E), ?_, k _ _ (List.replicate (cap' - (l.length + xs.length)) z) ?_⟩
  ·unfold Lx.appl grow
   rw [Zgl]
   simp only [Bool.not_true, Bool.false_eq_true, if_false]
   rw [if_neg hc, if_neg (fun h => by omega), if_neg (show ¬ Builtin.nextslicecap (l.length + xs.length) (l.length + sp.length) * by_ > 2 ^ 48 by simpa using hg), ho, hcap]
   rfl
  ·rw [ZnI]
   have s3 := (s.drew.new (l.flatMap c.enc ++ xs.flatMap c.enc ++ (List.replicate (cap' - (l.length + xs.length)) z).flatMap c.enc) E).first (B := vec c ⟨some (pt w.heap.size 0), l.length + xs.length, cap'⟩ (l ++ xs) (List.replicate (cap' - (l.length + xs.length)) z)) (fun h hp => ⟨by simp, by simp; omega, by simpa [zv] using hp⟩)
   refine Ss.perm (l := vec c ⟨some (pt w.heap.size 0), l.length + xs.length, cap'⟩ (l ++ xs) (List.replicate (cap' - (l.length + xs.length)) z) :: wo Hs i) ?_ (ZgX e).symm
   have s4 := s3.perm (((Ze8 e).cons _).trans (List.Perm.swap _ _ _))
   exact s4.drop
end WP
end
section
open Go Go.RowKit
def Rdb {α : Type} (A : HP) (c : Cod α) (s : Sl) (xs : List α) : Prop :=
 ∀ h, A h → s.len = xs.length ∧ (xs ≠ [] → ∃ a, s.a = some a) ∧ ∀ i x a, xs[i]? = some x → s.a = some a → a.spot = none ∧ ∀ j v, (c.enc x)[j]? = some v → ∃ q, h a.block (a.off + (i * c.n + j)) = some (q, .v v)
def rdS {α : Type} (c : Cod α) (q : Bool) (s : Sl) (xs : List α) : HP := fun h => s.len = xs.length ∧ s.len ≤ s.cap ∧ (xs ≠ [] → ∃ a, s.a = some a) ∧ ∀ a, s.a = some a → xs ≠ [] → pts q a (xs.flatMap c.enc) h
theorem Zkg {α : Type} {c : Cod α} {l : List α} {i : Nat} {x : α} (h : l[i]? = some x) {j : Nat} {v : Value} (hv : (c.enc x)[j]? = some v) : (l.flatMap c.enc)[i * c.n + j]? = some v := by
 have hi := (List.getElem?_eq_some_iff.1 h).1
 have := ZiX c l i x hi
 rw [show l.getD i x = x by rw [List.getD, h]; rfl] at this
 rw [this.get j (List.getElem?_eq_some_iff.1 hv).1]
 exact hv
theorem ZbM {α : Type} {c : Cod α} {q : Bool} {s : Sl} {xs : List α} : Rdb (rdS c q s xs) c s xs := by
 rintro h ⟨h1, _, h2, h3⟩
 refine ⟨h1, h2, fun i x a hx ha => ?_⟩
 have hne : xs ≠ [] := fun e => by rw [e] at hx; simp at hx
 obtain ⟨sp, hp⟩ := h3 a ha hne
 exact ⟨sp, fun j v hv => ⟨q, hp _ _ (Zkg hx hv)⟩⟩
theorem ZcB {α : Type} {c : Cod α} {s : Sl} {xs sp : List α} : Rdb (vec c s xs sp) c s xs := by
 rintro h ⟨h1, h2, h3⟩
 refine ⟨h1, fun hne => ?_, fun i x a hx ha => ?_⟩
 ·cases ha : s.a with
  | some a => exact ⟨a, rfl⟩
  | none => rw [ha] at h3; exact absurd h3.1 hne
 ·rw [ha] at h3
  obtain ⟨sp', hp⟩ := h3
  exact ⟨sp', fun j v hv => ⟨true, hp _ _ (Zkg (by rw [zH (List.getElem?_eq_some_iff.1 hx).1]; exact hx) hv)⟩⟩
theorem Ss.rd_len {α : Type} {c : Cod α} {W w : World} {Hs : List HP} {i : Nat} {A : HP} {sl : Sl} {xs : List α} (s : Ss W Hs w) (e : nth Hs i = some A) (r : Rdb A c sl xs) : sl.len = xs.length ∧ (xs ≠ [] → ∃ a, sl.a = some a) := by
 obtain ⟨h, ha⟩ := s.has e
 obtain ⟨h1, h2, _⟩ := r h ha
 exact ⟨h1, h2⟩
theorem Ss.rd_cells {α : Type} {c : Cod α} {W w : World} {Hs : List HP} {i : Nat} {A : HP} {sl : Sl} {xs : List α} (s : Ss W Hs w) (e : nth Hs i = some A) (r : Rdb A c sl xs) {k : Nat} {x : α} (hx : xs[k]? = some x) {a : Addr} (ha : sl.a = some a) : rdF w (a.add (k * c.n)) 0 c.n = some (c.enc x) := by
 obtain ⟨hb, h, hs, hw⟩ := s
 obtain ⟨h1, a1, l1⟩ := Zfr hs e
 obtain ⟨_, _, h3⟩ := r h1 a1
 obtain ⟨sp, h4⟩ := h3 k x a hx ha
 refine Zj8 _ _ _ (c.len x) fun j hj => ?_
 rw [Nat.zero_add, Zd4, ZfE sp]
 have hl : j < (c.enc x).length := by rw [c.len]; exact hj
 obtain ⟨q, h5⟩ := h4 j _ (za hl)
 rw [za hl]
 exact (hw _ _ _ (l1 _ _ _ h5)).cell
theorem Ss.addro {α : Type} {c : Cod α} {W w : World} {Hs : List HP} {sl : Sl} {xs : List α} (s : Ss W Hs w) (hl : sl.len = xs.length) (hcap : sl.len ≤ sl.cap) (hn : xs ≠ [] → ∃ a, sl.a = some a)
  (hc : ∀ (i : Nat) (x : α) (a : Addr), xs[i]? = some x → sl.a = some a → rdF W (a.add (i * c.n)) 0 c.n = some (c.enc x)) (h0 : 0 < c.n) : Ss W (rdS c false sl xs :: Hs) w := by
 cases ha : sl.a with
 | none =>
  have hx : xs = [] := Classical.byContradiction fun hne => by
   obtain ⟨a, h⟩ := hn hne
   rw [ha] at h
   cases h
  obtain ⟨hb, k, hs, hw⟩ := s
  refine ⟨hb, k, ⟨PH.nil, k, fun _ _ _ _ hx => (by cases hx), fun _ _ _ hx => (by cases hx), fun _ _ _ hx => hx, ⟨hl, hcap, hn, fun a h => ?_⟩, hs⟩, hw⟩
  rw [ha] at h
  cases h
 | some a =>
  -- the cells, one by one
  have cell : ∀ i v, (xs.flatMap c.enc)[i]? = some v → W.cell? (a.add i) = some v := by
   intro i v hv
   have hi : i < xs.length * c.n := by rw [← ZdW]; exact (List.getElem?_eq_some_iff.1 hv).1
   have hd : i / c.n < xs.length := (Nat.div_lt_iff_lt_mul h0).2 hi
   have hm : i % c.n < c.n := Nat.mod_lt _ h0
   have hx := za hd
   have hr := hc _ _ a hx ha
   have hat := Zkg (c := c) hx (j := i % c.n) (za (by rw [c.len]; exact hm))
   rw [Nat.mul_comm, Nat.div_add_mod, hv] at hat
   have key : ∀ (n i : Nat) (b : Addr) (l : List Value), rdF W b i n = some l → ∀ j, j < n → W.cell? (b.add (i + j)) = l[j]? := by
    intro n
    induction n with
    | zero => intro i b l _ j hj; omega
    | succ n ih =>
     intro i b l h j hj
     obtain ⟨x, hx, h2⟩ := Option.bind_eq_some_iff.1 h
     obtain ⟨l', hl', rfl⟩ := Option.map_eq_some_iff.1 h2
     cases j with
     | zero => simpa using hx
     | succ j =>
      have := ih (i + 1) b l' hl' j (by omega)
      rw [show i + (j + 1) = i + 1 + j by omega, this]
      rfl
   have h2 := key _ _ _ _ hr (i % c.n) hm
   rw [Nat.zero_add, Zd4, Nat.mul_comm, Nat.div_add_mod] at h2
   rw [h2, hat, za (by rw [c.len]; exact hm)]
  by_cases hne : xs = []
  ·obtain ⟨hb, k, hs, hw⟩ := s
   refine ⟨hb, k, ⟨PH.nil, k, fun _ _ _ _ hx => (by cases hx), fun _ _ _ hx => (by cases hx), fun _ _ _ hx => hx, ⟨hl, hcap, hn, fun a h h' => absurd hne h'⟩, hs⟩, hw⟩
  ·have hlen : 0 < (xs.flatMap c.enc).length := by
    rw [ZdW]
    exact Nat.mul_pos (List.length_pos_iff.2 hne) h0
   have c0 := cell 0 _ (za hlen)
   have ha0 : a.add 0 = a := by simp [Addr.add]
   rw [ha0] at c0
   have sp : a.spot = none := by
    unfold World.cell? at c0
    cases hO : W.heap[a.block]? with
    | none => simp only [hO] at c0; cases c0
    | some O =>
     simp only [hO] at c0
     cases O <;> simp only at c0 <;> first | (cases hs : a.spot with | none => rfl | some _ => rw [hs] at c0; simp at c0) | cases c0
   have hlt : a.block < W.heap.size := by
    unfold World.cell? at c0
    cases hO : W.heap[a.block]? with
    | none => simp only [hO] at c0; cases c0
    | some O => exact (Array.getElem?_eq_some_iff.1 hO).1
   obtain ⟨hb, k, hs, hw⟩ := s
   let n : PH := fun b o => if b = a.block ∧ a.off ≤ o then ((xs.flatMap c.enc)[o - a.off]?).map fun v => (false, .v v) else none
   have hcell : ∀ b o, b < W.heap.size → w.cell? ⟨b, o, none⟩ = W.cell? ⟨b, o, none⟩ := fun b o h => hb.cell h
   have hn' : ∀ b o x, n b o = some x → Has W.heap.size w b o x ∧ b < W.heap.size ∧ ∃ v, x = (false, .v v) ∧ w.cell? ⟨b, o, none⟩ = some v := by
    intro b o x hx
    simp only [n] at hx
    split at hx
    ·rename_i h
     obtain ⟨v, hv, rfl⟩ := Option.map_eq_some_iff.1 hx
     have := cell _ _ hv
     rw [ZfE sp] at this
     have e : (⟨a.block, a.off + (o - a.off), none⟩ : Addr) = ⟨b, o, none⟩ := by rw [h.1]; congr 1; omega
     rw [e] at this
     have hbl : b < W.heap.size := by rw [h.1]; exact hlt
     have h2 : w.cell? ⟨b, o, none⟩ = some v := by rw [hcell b o hbl]; exact this
     exact ⟨h2, hbl, v, rfl, h2⟩
    ·cases hx
   have ok : n.ok k := by
    intro b o x y hx hy
    obtain ⟨_, h2, v, rfl, h3⟩ := hn' b o x hx
    have h4 := hw b o y hy
    refine ⟨?_, rfl⟩
    rcases y with ⟨q, y | mo | ⟨T0, n0⟩⟩
    ·cases q with
     | true => exact absurd h4.1 (by omega)
     | false =>
      have : w.cell? ⟨b, o, none⟩ = some y := h4
      rw [h3] at this
      cases this
      rfl
    ·have : w.heap[b]? = some mo.obj := by
      cases q with
      | true => exact h4.2.2
      | false => exact h4.2
     unfold World.cell? at h3
     rw [this] at h3
     cases mo <;> cases h3
    ·have : o = n0 ∧ ∃ cs fr, w.heap[b]? = some (.cells cs T0 fr) ∧ cs.size = n0 := by cases q <;> exact h4
     obtain ⟨c1, cs, fr, c2, c3⟩ := this
     unfold World.cell? at h3
     rw [c2] at h3
     have h5 : cs[o]? = some v := h3
     have := (Array.getElem?_eq_some_iff.1 h5).1
     omega
   refine ⟨hb, n.add k, ⟨n, k, ok, PH.le_add, PH.le_add' ok, ⟨hl, hcap, hn, fun a' h' _ => ?_⟩, hs⟩, fun b o x hx => ?_⟩
   ·rw [ha] at h'
    cases h'
    refine ⟨sp, fun i v hv => ?_⟩
    simp only [n]
    rw [if_pos ⟨trivial, by omega⟩, Nat.add_sub_cancel_left, hv]
    rfl
   ·rcases PH.add_some.1 hx with hx | ⟨_, hx⟩
    ·exact (hn' b o x hx).1
    ·exact hw b o x hx
theorem Ss.args {α : Type} {c : Cod α} {k : Nat} {G : World → α → Prop} {W w : World} {Hs : List HP} {sl : Sl} (s : Ss W Hs w) (g : GSl c k G W sl) (h0 : 0 < c.n) : ∃ xs : List α, (∀ x ∈ xs, G W x) ∧ xs.length * k ≤ reachBytes ∧ Ss W (rdS c false sl xs :: Hs) w := by
 rcases g with rfl | ⟨a, ha, h1, h2, h3, l, l1, l2⟩
 ·exact ⟨[], by simp, by simp, s.addro rfl (zB _) (fun h => absurd rfl h) (fun i x a hx => by simp at hx) h0⟩
 ·have hlen : (l.take sl.len).length = sl.len := by rw [zm]; omega
  refine ⟨l.take sl.len, fun x hx => ?_, ?_, s.addro hlen.symm h1 (fun _ => ⟨a, ha⟩) (fun i x a' hx ha' => ?_) h0⟩
  ·obtain ⟨i, hi, rfl⟩ := List.getElem_of_mem (List.mem_of_mem_take hx)
   exact (l2 i hi).2
  ·rw [hlen]
   exact Nat.le_trans (Nat.mul_le_mul_right k h1) h3
  ·rw [ha] at ha'
   cases ha'
   have hi : i < sl.len := by rw [← hlen]; exact (List.getElem?_eq_some_iff.1 hx).1
   rw [List.getElem?_take, if_pos hi] at hx
   have hil := (List.getElem?_eq_some_iff.1 hx).1
   rw [za hil] at hx
   cases hx
   exact (l2 i hil).1
def PH.ro (h : PH) : PH := fun b o => match h b o with
 | some (false, x) => some (false, x)
 | _ => none
theorem PH.ro_le {h : PH} : h.ro.le h := fun b o x hx => by
 unfold PH.ro at hx
 split at hx
 ·rename_i e
  rw [e]
  exact hx
 ·cases hx
theorem PH.ro_some {h : PH} {b o : Nat} {x : Bool × Ct} : h.ro b o = some x ↔ h b o = some x ∧ x.1 = false := by
 unfold PH.ro
 constructor
 ·intro hx
  split at hx
  ·rename_i e
   cases hx
   exact ⟨e, rfl⟩
  ·cases hx
 ·rintro ⟨hx, h1⟩
  obtain ⟨q, x⟩ := x
  simp only at h1
  subst h1
  rw [hx]
def Ro (A : HP) : Prop := ∀ h, A h → A h.ro
theorem Ro.seps {l : List HP} (hl : ∀ A ∈ l, Ro A) : Ro (seps l) := by
 induction l with
 | nil => exact fun _ _ => trivial
 | cons A l ih =>
  rintro h ⟨h1, h2, e, l1, l2, a, b⟩
  refine ⟨h1.ro, h2.ro, e.mono PH.ro_le PH.ro_le, fun b o x hx => ?_, fun b o x hx => ?_, hl A (by simp) h1 a, ih (fun B hB => hl B (by simp [hB])) h2 b⟩
  ·obtain ⟨e1, e2⟩ := PH.ro_some.1 hx
   exact PH.ro_some.2 ⟨l1 b o x e1, e2⟩
  ·obtain ⟨e1, e2⟩ := PH.ro_some.1 hx
   exact PH.ro_some.2 ⟨l2 b o x e1, e2⟩
theorem Ro.ex {α : Type} {φ : α → Prop} {P : α → HP} (h : ∀ x, Ro (P x)) : Ro (Lx.ex φ P) := fun k ⟨x, h1, h2⟩ => ⟨x, h1, h x k h2⟩
theorem Ro.pts {a : Addr} {L : List Value} : Ro (pts false a L) := fun h ⟨sp, hp⟩ => ⟨sp, fun i x hx => PH.ro_some.2 ⟨hp i x hx, rfl⟩⟩
theorem Ro.rdS {α : Type} {c : Cod α} {s : Sl} {xs : List α} : Ro (rdS c false s xs) := fun h ⟨h1, hc, h2, h3⟩ => ⟨h1, hc, h2, fun a ha hne => Ro.pts h (h3 a ha hne)⟩
theorem Ss.dup {W w : World} {l : List HP} {i : Nat} {A : HP} (s : Ss W l w) (e : nth l i = some A) (d : Ro A) : Ss W (A :: l) w := by
 obtain ⟨hb, k, hs, hw⟩ := s
 obtain ⟨h1, a, l1⟩ := Zfr hs e
 refine ⟨hb, k, ⟨h1.ro, k, fun b o x y hx hy => ?_, PH.ro_le.trans l1, fun _ _ _ h => h, d h1 a, hs⟩, hw⟩
 obtain ⟨e1, e2⟩ := PH.ro_some.1 hx
 have := l1 b o x e1
 rw [hy] at this
 cases this
 exact ⟨rfl, e2⟩
theorem Ss.freeze {W w : World} {l : List HP} {A B : HP} (s : Ss W (A :: l) w) (f : ∀ h : PH, A h → B (fun b o => (h b o).map fun x => (false, x.2))) : Ss W (B :: l) w := by
 obtain ⟨hb, k, ⟨h1, h2, ok, l1, l2, a, b⟩, hw⟩ := s
 let n1 : PH := fun b o => (h1 b o).map fun x => (false, x.2)
 let kk : PH := fun b o => (n1 b o).or (k b o)
 have hn : ∀ b o x, n1 b o = some x → ∃ q, h1 b o = some (q, x.2) ∧ x.1 = false := by
  intro b o x hx
  obtain ⟨y, hy, rfl⟩ := Option.map_eq_some_iff.1 hx
  exact ⟨y.1, hy, rfl⟩
 refine ⟨hb, kk, ⟨n1, h2, ?_, ?_, ?_, f h1 a, b⟩, ?_⟩
 ·intro b o x y hx hy
  obtain ⟨q, hq, hx1⟩ := hn b o x hx
  obtain ⟨e1, e2⟩ := ok b o _ y hq hy
  refine ⟨?_, hx1⟩
  rw [← e1]
  simp only at e2
  rw [e2]
  exact Prod.ext hx1 rfl
 ·intro b o x hx
  simp only [kk]
  rw [hx]
  rfl
 ·intro b o y hy
  simp only [kk]
  cases hx : n1 b o with
  | none => exact l2 b o y hy
  | some x =>
   obtain ⟨q, hq, hx1⟩ := hn b o x hx
   obtain ⟨e1, e2⟩ := ok b o _ y hq hy
   simp only at e2
   rw [← e1, e2]
   show some x = some (false, x.2)
   rw [← hx1]
 ·intro b o x hx
  simp only [kk] at hx
  cases hx' : n1 b o with
  | none => rw [hx'] at hx; exact hw b o x hx
  | some y =>
   rw [hx'] at hx
   cases hx
   obtain ⟨q, hq, hx1⟩ := hn b o x hx'
   have h3 := hw b o _ (l1 b o _ hq)
   obtain ⟨xq, xc⟩ := x
   simp only at hx1
   subst hx1
   rcases xc with x | mo | ⟨T0, n0⟩
   ·exact h3.cell
   ·cases q with
    | true => exact ⟨h3.2.1, h3.2.2⟩
    | false => exact h3
   ·cases q <;> exact h3
theorem Ss.vec_freeze {α : Type} {c : Cod α} {W w : World} {l : List HP} {sl : Sl} {xs sp : List α} (s : Ss W (vec c sl xs sp :: l) w) : Ss W (rdS c false sl xs :: l) w := by
 refine s.freeze ?_
 rintro h ⟨h1, h2, h3⟩
 refine ⟨h1, by omega, fun hne => ?_, fun a ha hne => ?_⟩
 ·cases ha : sl.a with
  | some a => exact ⟨a, rfl⟩
  | none => rw [ha] at h3; exact absurd h3.1 hne
 ·rw [ha] at h3
  obtain ⟨sp', hp⟩ := h3
  refine ⟨sp', fun i x hx => ?_⟩
  have h4 := hp i x (by rw [zv, zH (List.getElem?_eq_some_iff.1 hx).1]; exact hx)
  show (h a.block (a.off + i)).map _ = _
  rw [h4]
  rfl
theorem Ss.rd_all {α : Type} {c : Cod α} {W w : World} {Hs : List HP} {i : Nat} {A : HP} {sl : Sl} {xs : List α} (s : Ss W Hs w) (e : nth Hs i = some A) (r : Rdb A c sl xs) (h0 : 0 < c.n) : rdR w sl.a (sl.len * c.n) = some (xs.flatMap c.enc) := by
 obtain ⟨hl, hn⟩ := s.rd_len e r
 rw [hl]
 cases ha : sl.a with
 | none =>
  have hx : xs = [] := Classical.byContradiction fun hne => by
   obtain ⟨a, h⟩ := hn hne
   rw [ha] at h
   cases h
  subst hx
  rfl
 | some a =>
  show rdF w a 0 _ = _
  refine Zj8 _ _ _ (ZdW _ _) fun j hj => ?_
  have hd : j / c.n < xs.length := (Nat.div_lt_iff_lt_mul h0).2 hj
  have hm : j % c.n < c.n := Nat.mod_lt _ h0
  have hx := za hd
  obtain ⟨hb, h, hs, hw⟩ := s
  obtain ⟨h1, a1, l1⟩ := Zfr hs e
  obtain ⟨_, _, h3⟩ := r h1 a1
  obtain ⟨sp, h4⟩ := h3 _ _ a hx ha
  have hv := za (l := c.enc xs[j / c.n]) (i := j % c.n) (by rw [c.len]; exact hm)
  have hat := Zkg (c := c) hx hv
  obtain ⟨q, h5⟩ := h4 _ _ hv
  have h6 := (hw _ _ _ (l1 _ _ _ h5)).cell
  rw [Nat.mul_comm, Nat.div_add_mod] at hat h6
  rw [Nat.zero_add, ZfE sp, hat]
  exact h6
theorem Ss.rd_cap {α : Type} {c : Cod α} {q : Bool} {W w : World} {Hs : List HP} {i : Nat} {sl : Sl} {xs : List α} (s : Ss W Hs w) (e : nth Hs i = some (rdS c q sl xs)) : sl.len = xs.length ∧ sl.len ≤ sl.cap := by
 obtain ⟨h, h1, h2, _⟩ := s.has e
 exact ⟨h1, h2⟩
namespace WP
variable {α β : Type} {w : World}
theorem rdx {W : World} {Hs : List HP} {A : HP} {c : Cod α} {sl : Sl} {xs : List α} {x : α} {k : Int} {n : Nat} {f : α → M β} {Q : β → World → Prop} (s : Ss W Hs w) (i : Nat) (e : nth Hs i = some A) (r : Rdb A c sl xs) (h0 : 0 ≤ k) (hx : xs[k.toNat]? = some x) (hn : n = c.n) (g : WP (f x) w Q) : WP (Lx.idx sl.a sl.len k n >>= fun p => Lx.ld c p >>= f) w Q := by
 subst hn
 obtain ⟨h1, h2⟩ := s.rd_len e r
 have hne : xs ≠ [] := fun e => by rw [e] at hx; simp at hx
 obtain ⟨a, ha⟩ := h2 hne
 have hlt := (List.getElem?_eq_some_iff.1 hx).1
 rw [ha]
 refine idx h0 (by omega) (bind ⟨x, w, ?_, g⟩)
 unfold Lx.ld
 rw [s.rd_cells e r hx ha]
 simp [c.de]
theorem idxr {W : World} {Hs : List HP} {A : HP} {c : Cod α} {sl : Sl} {xs : List α} {x : α} {k : Int} {n : Nat} {f : Addr → M β} {Q : β → World → Prop} (s : Ss W Hs w) (i : Nat) (e : nth Hs i = some A) (r : Rdb A c sl xs) (h0 : 0 ≤ k) (hx : xs[k.toNat]? = some x) (hn : n = c.n) (g : ∀ a, sl.a = some a → WP (f (a.add (k.toNat * c.n))) w Q) : WP (Lx.idx sl.a sl.len k n >>= f) w Q := by
 subst hn
 obtain ⟨h1, h2⟩ := s.rd_len e r
 have hne : xs ≠ [] := fun e => by rw [e] at hx; simp at hx
 obtain ⟨a, ha⟩ := h2 hne
 have hlt := (List.getElem?_eq_some_iff.1 hx).1
 have g' := g a ha
 rw [ha]
 exact idx h0 (by omega) g'
theorem ldp {γ : Type} {W : World} {Hs : List HP} {A : HP} {c : Cod α} {sl : Sl} {xs : List α} {x : α} {k : Nat} {a p : Addr} {d : Cod γ} {y : γ} {o : Nat} {f : γ → M β} {Q : β → World → Prop} (s : Ss W Hs w) (i : Nat) (e : nth Hs i = some A) (r : Rdb A c sl xs) (hx : xs[k]? = some x) (ha : sl.a = some a) (hp : p = a.add (k * c.n + o)) (h : At (c.enc x) o (d.enc y)) (g : WP (f y) w Q) : WP (Lx.ld d p >>= f) w Q := by
 subst hp
 refine bind ⟨y, w, ?_, g⟩
 unfold Lx.ld
 have : rdF w (a.add (k * c.n + o)) 0 d.n = some (d.enc y) := by
  obtain ⟨hb, h0, hs, hw⟩ := s
  obtain ⟨h1, a1, l1⟩ := Zfr hs e
  obtain ⟨_, _, h3⟩ := r h1 a1
  obtain ⟨sp, h4⟩ := h3 k x a hx ha
  refine Zj8 _ _ _ (d.len y) fun j hj => ?_
  have hl : j < (d.enc y).length := by rw [d.len]; exact hj
  have h5 := h.get j hl
  rw [za hl] at h5 ⊢
  obtain ⟨q, h6⟩ := h4 _ _ h5
  have h7 := (hw _ _ _ (l1 _ _ _ h6)).cell
  rw [Nat.zero_add, Zd4, ZfE sp, Nat.add_assoc]
  exact h7
 rw [this]
 simp [d.de]
theorem appS {W : World} {Hs : List HP} {A : HP} {c : Cod α} {sl x : Sl} {xs : List α} {E : TypeId} {by_ : Nat} {z : α} {f : Sl → M β} {Q : β → World → Prop} (s : Ss W Hs w) (i : Nat) (e : nth Hs i = some A) (r : Rdb A c x xs) (h0 : 0 < c.n) (g : WP (Lx.appl c E by_ z sl xs >>= f) w Q) : WP (Lx.appS c E by_ z sl x >>= f) w Q := by
 obtain ⟨hl, _⟩ := s.rd_len e r
 have : Lx.appS c E by_ z sl x w = Lx.appl c E by_ z sl xs w := by
  unfold Lx.appS Lx.appl
  rw [s.rd_all e r h0, hl]
  rfl
 obtain ⟨b, w', h1, h2⟩ := g
 refine ⟨b, w', ?_, h2⟩
 rw [Zkr] at h1 ⊢
 rw [this]
 exact h1
theorem appl0 {W : World} {Hs : List HP} {c : Cod α} {xs : List α} {E : TypeId} {by_ : Nat} {z : α} {f : Sl → M β} {Q : β → World → Prop} (s : Ss W Hs w) (hb : xs.length * by_ ≤ 140737488355328) (h0 : 0 < by_)
  (k : ∀ r w' sp', Ss W (vec c r xs sp' :: Hs) w' → WP (f r) w' Q) : WP (Lx.appl c E by_ z Sl.nil xs >>= f) w Q := by
 have s2 : Ss W (vec c Sl.nil [] [] :: Hs) w := by
  obtain ⟨hb, k, hs, hw⟩ := s
  exact ⟨hb, k, ⟨PH.nil, k, fun _ _ _ _ hx => (by cases hx), fun _ _ _ hx => (by cases hx), fun _ _ _ hx => hx, Zcv, hs⟩, hw⟩
 exact appl s2 0 rfl (by simpa using hb) h0 (fun r w' sp' s => k r w' sp' s)
end WP
end
section
open Go Go.RowKit
theorem ZuC {α : Type} {c : Cod α} {l : List α} {i : Nat} (x : α) (h : i < l.length) : Upd (l.flatMap c.enc) (i * c.n) (c.enc x) ((l.set i x).flatMap c.enc) := by
 refine ⟨(l.take i).flatMap c.enc, c.enc l[i], (l.drop (i + 1)).flatMap c.enc, ?_, ?_, by rw [c.len, c.len], ?_⟩
 ·rw [← List.flatMap_singleton (f := c.enc) (x := l[i]), ← zv, ← zv]
  congr 1
  simp
 ·rw [ZdW, zm, Nat.min_eq_left (Nat.le_of_lt h)]
 ·rw [← List.flatMap_singleton (f := c.enc) (x := x), ← zv, ← zv]
  congr 1
  rw [List.set_eq_take_append_cons_drop, if_pos h]
  simp
section
variable {α β : Type} {P : α → β → HP}
end
section
variable {W w : World} {Hs L M : List HP} {A : HP}
theorem Ss.out (s : Ss W Hs w) (i : Nat) (e : nth Hs i = some (seps L)) {j : Nat} (e2 : nth L j = some A) : Ss W (A :: up Hs i (seps (wo L j))) w := by
 have s1 := (s.perm (Ze8 e)).split.perm ((Ze8 e2).append_right _)
 have s2 : Ss W (wo L j ++ (A :: wo Hs i)) w := s1.perm (by
  show (A :: (wo L j ++ wo Hs i)).Perm _
  exact List.perm_middle.symm)
 exact s2.group.perm ((List.Perm.swap _ _ _).trans ((ZgX e).symm.cons A))
theorem Ss.into (s : Ss W (A :: Hs) w) (i : Nat) (e : nth Hs i = some (seps L)) (p : (A :: L).Perm M) : Ss W (up Hs i (seps M)) w := by
 have s1 : Ss W (seps L :: A :: wo Hs i) w := s.perm (((Ze8 e).cons A).trans (List.Perm.swap _ _ _))
 have s2 : Ss W (M ++ wo Hs i) w := s1.split.perm (List.perm_middle.trans (p.append_right _))
 exact s2.group.perm (ZgX e).symm
theorem Ss.back {B : HP} {L : List HP} {j : Nat} (s : Ss W (B :: Hs) w) (i : Nat) (e : nth Hs i = some (seps (wo L j))) (e2 : nth L j = some A) : Ss W (up Hs i (seps (up L j B))) w := s.into i e (ZgX e2).symm
end
theorem Ss.mk0 {W w : World} {Hs : List HP} {A : HP} (s : Ss W Hs w) (ha : A PH.nil) : Ss W (A :: Hs) w := by
 obtain ⟨hb, k, hs, hw⟩ := s
 exact ⟨hb, k, ⟨PH.nil, k, fun _ _ _ _ hx => (by cases hx), fun _ _ _ hx => (by cases hx), fun _ _ _ hx => hx, ha, hs⟩, hw⟩
theorem Ztz {a b A B : Int} (h0 : 0 ≤ a) (h1 : a ≤ A) (h2 : 0 ≤ b) (h3 : b ≤ B) : 0 ≤ a * b ∧ a * b ≤ A * B :=
 ⟨Int.mul_nonneg h0 h2, Int.mul_le_mul h1 h3 h2 (by omega)⟩
namespace WP
variable {α β : Type} {w : World}
theorem ZvG {γ σ : Type} {G : σ → M (LS σ β)} (I : γ → σ → World → Prop) (μ : γ → σ → Nat) {Q : β → World → Prop}
  (hs : ∀ g s w, I g s w → WP (G s) w (Rd (fun s' w' => ∃ g', I g' s' w' ∧ μ g' s' < μ g s) Q)) : ∀ (n : Nat) (g : γ) (s : σ) (w : World), I g s w → μ g s < n → WP (Lx.loopN G n s) w Q
 | 0, g, s, w, _, hn => absurd hn (by omega)
 | n + 1, g, s, w, hI, hn => by
  obtain ⟨q, w1, h1, h2⟩ := hs g s w hI
  cases q with
  | next s' =>
   obtain ⟨g', h5, h6⟩ := h2
   obtain ⟨r, w2, h3, h4⟩ := ZvG I μ hs n g' s' w1 h5 (by omega)
   exact ⟨r, w2, bind_some.2 ⟨_, _, h1, h3⟩, h4⟩
  | done b => exact ⟨b, w1, bind_some.2 ⟨_, _, h1, rfl⟩, h2⟩
theorem loopG {γ σ : Type} {G : σ → M (LS σ β)} (I : γ → σ → World → Prop) (μ : γ → σ → Nat) {Q : β → World → Prop} {s : σ} (g : γ) (hI : I g s w)
  (hs : ∀ g s w, I g s w → WP (G s) w (Rd (fun s' w' => ∃ g', I g' s' w' ∧ μ g' s' < μ g s) Q)) : WP (Zcn G s) w Q := by
 obtain ⟨r, w', h1, h2⟩ := ZvG I μ hs (μ g s + 1) g s w hI (by omega)
 exact ⟨r, w', Zru h1, h2⟩
theorem rdxp {γ : Type} {W : World} {Hs : List HP} {A : HP} {c : Cod α} {d : Cod γ} {sl : Sl} {xs : List α} {x : α} {y : γ} {k : Int} {n o : Nat} {f : γ → M β} {Q : β → World → Prop} (s : Ss W Hs w) (i : Nat) (e : nth Hs i = some A) (r : Rdb A c sl xs) (h0 : 0 ≤ k) (hx : xs[k.toNat]? = some x) (hn : n = c.n) (h : At (c.enc x) o (d.enc y)) (g : WP (f y) w Q) : WP (Lx.idx sl.a sl.len k n >>= fun p => Lx.ld d (Addr.add p o) >>= f) w Q :=
 idxr s i e r h0 hx hn (fun a ha => ldp s i e r hx ha (by rw [Zd4]) h g)
theorem rdxp0 {γ : Type} {W : World} {Hs : List HP} {A : HP} {c : Cod α} {d : Cod γ} {sl : Sl} {xs : List α} {x : α} {y : γ} {k : Int} {n : Nat} {f : γ → M β} {Q : β → World → Prop} (s : Ss W Hs w) (i : Nat) (e : nth Hs i = some A) (r : Rdb A c sl xs) (h0 : 0 ≤ k) (hx : xs[k.toNat]? = some x) (hn : n = c.n) (h : At (c.enc x) 0 (d.enc y)) (g : WP (f y) w Q) : WP (Lx.idx sl.a sl.len k n >>= fun p => Lx.ld d p >>= f) w Q :=
 idxr s i e r h0 hx hn (fun a ha => ldp s i e r hx ha rfl h g)
end WP
end
section
open Go Go.RowKit
theorem Rdb.take {α : Type} {A : HP} {c : Cod α} {s : Sl} {xs : List α} (r : Rdb A c s xs) {k n : Nat} (hk : k ≤ xs.length) : Rdb A c ⟨s.a, k, n⟩ (xs.take k) := by
 intro h hA
 obtain ⟨h1, h2, h3⟩ := r h hA
 refine ⟨by simp only [zm]; omega, fun hne => h2 (fun e => hne (by rw [e]; simp)), fun i x a hx ha => ?_⟩
 rw [List.getElem?_take] at hx
 split at hx
 ·exact h3 i x a hx ha
 ·cases hx
def bstr (xs : List Int) : ByteArray := ⟨(xs.map fun n => UInt8.ofNat n.toNat).toArray⟩
theorem ZmR : ∀ (xs : List Int) (b : ByteArray), bytesOf (xs.flatMap (cI .u8).enc) b = some ⟨b.data ++ (xs.map fun n => UInt8.ofNat n.toNat).toArray⟩
 | [], b => by simp [bytesOf]
 | x :: xs, b => by
  show bytesOf (Value.int .u8 x :: xs.flatMap (cI .u8).enc) b = _
  simp only [bytesOf]
  rw [ZmR xs]
  congr 1
  simp [ByteArray.push]
theorem Zqp (bs : ByteArray) : ∀ (n i : Nat) (r : List UInt8), bs.size - i = n → ByteArray.toList.loop bs i r = r.reverse ++ bs.data.toList.drop i := by
 intro n
 induction n with
 | zero =>
  intro i r h
  rw [ByteArray.toList.loop]
  have : ¬ i < bs.size := by omega
  rw [if_neg this, List.drop_eq_nil_of_le (by
   show bs.data.toList.length ≤ i
   rw [Array.length_toList]
   show bs.data.size ≤ i
   have : bs.size = bs.data.size := rfl
   omega), zJ]
 | succ n ih =>
  intro i r h
  rw [ByteArray.toList.loop]
  have hi : i < bs.size := by omega
  have hi' : i < bs.data.toList.length := by rw [Array.length_toList]; exact hi
  rw [if_pos hi, ih (i + 1) _ (by omega)]
  rw [zQ hi', List.reverse_cons, zu]
  congr 1
  have : bs.get! i = bs.data.toList[i] := by
   show bs.data[i]! = _
   rw [getElem!_pos bs.data i hi]
   simp
  rw [this]
  rfl
theorem Zhy (bs : ByteArray) : bs.toList = bs.data.toList := by
 unfold ByteArray.toList
 rw [Zqp bs _ 0 [] rfl]
 simp
namespace WP
variable {α β : Type} {w : World}
theorem draws {W : World} {l : List HP} {f : FuncId} {id : Nat} {ops : Array Oper} {g : List Nat → M β} {Q : β → World → Prop} (s : Ss W l w) (k : ∀ σ w', Ss W l w' → WP (g σ) w' Q) : WP (Lx.draws f id ops >>= g) w Q := bind ⟨_, _, rfl, k _ _ s.drew⟩
theorem toStr {W : World} {Hs : List HP} {A : HP} {sl : Sl} {xs : List Int} {f : ByteArray → M β} {Q : β → World → Prop} (s : Ss W Hs w) (i : Nat) (e : nth Hs i = some A) (r : Rdb A (cI .u8) sl xs) (k : WP (f (bstr xs)) w Q) : WP (Lx.toStr sl >>= f) w Q := by
 refine bind ⟨bstr xs, w, ?_, k⟩
 have h := s.rd_all e r (by decide)
 obtain ⟨hl, hn⟩ := s.rd_len e r
 unfold Lx.toStr
 cases ha : sl.a with
 | none =>
  have hx : xs = [] := Classical.byContradiction fun hne => by
   obtain ⟨a, h⟩ := hn hne
   rw [ha] at h
   cases h
  subst hx
  rfl
 | some a =>
  rw [ha] at h
  have h' : rdF w a 0 sl.len = some (xs.flatMap (cI .u8).enc) := by
   have : rdF w a 0 (sl.len * 1) = some (xs.flatMap (cI .u8).enc) := h
   rwa [Nat.mul_one] at this
  simp only [h', Option.bind_some, ZmR]
  simp [bstr]
theorem cpy {W : World} {Hs : List HP} {A : HP} {c : Cod α} {d sl : Sl} {L sp xs : List α} {f : Int → M β} {Q : β → World → Prop} (s : Ss W Hs w) (i : Nat) (e : nth Hs i = some (vec c d L sp)) (j : Nat) (e2 : nth Hs j = some A) (r : Rdb A c sl xs) (h0 : 0 < c.n)
  (k : ∀ w', Ss W (up Hs i (vec c d (xs.take (min xs.length L.length) ++ L.drop (min xs.length L.length)) sp)) w' → WP (f (min xs.length L.length : Nat)) w' Q) : WP (Lx.cpyS c d sl >>= f) w Q := by
 obtain ⟨hl, hn⟩ := s.rd_len e2 r
 obtain ⟨e1, ec, e3⟩ := s.vec_len e
 have hmin : Nat.min sl.len d.len = min xs.length L.length := by rw [hl, e1]
 have hrd : rdR w sl.a (min xs.length L.length * c.n) = some ((xs.take (min xs.length L.length)).flatMap c.enc) := by
  have r2 : Rdb A c ⟨sl.a, min xs.length L.length, 0⟩ (xs.take (min xs.length L.length)) := r.take (Nat.min_le_left _ _)
  exact s.rd_all e2 r2 h0
 cases ha : d.a with
 | none =>
  obtain ⟨rfl, rfl⟩ := e3 ha
  refine bind ⟨_, w, ?_, k w (s.close e (fun h hv => by simpa using hv))⟩
  unfold Lx.cpyS Lx.cpyC
  simp only [hmin, hrd, Option.bind_some, Zgl, ha]
  rfl
 | some a =>
  obtain ⟨a', ea, s2⟩ := s.vec_open e (.inr (by rw [ha]; simp))
  have hda : d.a = some a' := by rw [ea]
  rw [ha] at hda
  cases hda
  have hu : Upd ((L ++ sp).flatMap c.enc) 0 ((xs.take (min xs.length L.length)).flatMap c.enc) ((xs.take (min xs.length L.length) ++ L.drop (min xs.length L.length) ++ sp).flatMap c.enc) := by
   refine ⟨[], (L.take (min xs.length L.length)).flatMap c.enc, (L.drop (min xs.length L.length) ++ sp).flatMap c.enc, ?_, rfl, ?_, ?_⟩
   ·rw [zN, ← zv, ← zu, List.take_append_drop]
   ·rw [ZdW, ZdW, zm, zm]
    congr 1
    omega
   ·rw [zN, ← zv, zu]
  obtain ⟨w', h1, h2⟩ := Zl3 s2 (ZhY e) hu
  rw [Zon] at h2
  have ha0 : a.add 0 = a := by simp [Addr.add]
  rw [ha0] at h1
  refine bind ⟨_, w', ?_, k w' ?_⟩
  ·unfold Lx.cpyS Lx.cpyC
   simp only [hmin, hrd, Option.bind_some, Zgl, ha, h1]
   rfl
  ·have := h2.close (ZhY e) (B := vec c d (xs.take (min xs.length L.length) ++ L.drop (min xs.length L.length)) sp) (fun h hp => by
    rw [ea]
    refine ⟨?_, ?_, hp⟩
    ·simp only [zc, zm, zw]; omega
    ·simp only [zc, zm, zw]; omega)
   rwa [Zon] at this
theorem clr {W : World} {l : List HP} {a : Addr} {L L' : List Value} {c : Cod α} {z : α} {sl : Sl} {f : Unit → M β} {Q : β → World → Prop} {o : Nat} (s : Ss W l w) (i : Nat) (e : nth l i = some (pts true a L)) (hp : sl.a = some (a.add o)) (h : Upd L o ((List.replicate sl.len z).flatMap c.enc) L')
  (k : ∀ w', Ss W (up l i (pts true a L')) w' → WP (f ()) w' Q) : WP (Lx.clrS c z sl >>= f) w Q := by
 obtain ⟨w', h1, h2⟩ := Zl3 s e h
 by_cases h0 : sl.len = 0
 ·refine bind ⟨(), w, ?_, k w ?_⟩
  ·unfold Lx.clrS
   rw [hp]
   simp [h0]
  ·have : L' = L := by
    obtain ⟨p, q, r, rfl, _, hq, rfl⟩ := h
    rw [h0] at hq ⊢
    have hq' : q = [] := List.eq_nil_of_length_eq_zero (by simpa using hq)
    subst hq'
    simp
   rw [this]
   exact s.close e (fun h hp => hp)
 ·refine bind ⟨(), w', ?_, k w' h2⟩
  unfold Lx.clrS
  rw [hp]
  have : (List.replicate sl.len (c.enc z)).flatten = (List.replicate sl.len z).flatMap c.enc := by simp [List.flatMap, List.map_replicate]
  simp only [h0, if_false, this, h1]
  rfl
theorem cutpre {sl : Sl} {n : Nat} {k : Int} {f : Sl → M β} {Q : β → World → Prop} (h0 : 0 ≤ k) (h1 : k ≤ sl.cap) (g : WP (f ⟨sl.a, k.toNat, sl.cap⟩) w Q) : WP (Lx.cut n sl none (some k) none >>= f) w Q := by
 refine bind ⟨_, w, ?_, g⟩
 unfold Lx.cut
 simp only [Option.getD_none, Option.getD_some]
 rw [if_pos (by omega)]
 have : (if (sl.cap : Int).toNat = (0 : Int).toNat then sl.a else sl.a.map (·.add ((0 : Int).toNat * n))) = sl.a := by
  split
  ·rfl
  ·cases sl.a <;> simp [Addr.add]
 rw [this]
 simp
theorem cutpre3 {sl : Sl} {n : Nat} {k m : Int} {f : Sl → M β} {Q : β → World → Prop} (h0 : 0 ≤ k) (h1 : k ≤ m) (h2 : m ≤ sl.cap) (g : WP (f ⟨sl.a, k.toNat, m.toNat⟩) w Q) : WP (Lx.cut n sl none (some k) (some m) >>= f) w Q := by
 refine bind ⟨_, w, ?_, g⟩
 unfold Lx.cut
 simp only [Option.getD_none, Option.getD_some]
 rw [if_pos (by omega)]
 have : (if m.toNat = (0 : Int).toNat then sl.a else sl.a.map (·.add ((0 : Int).toNat * n))) = sl.a := by
  split
  ·rfl
  ·cases sl.a <;> simp [Addr.add]
 rw [this]
 simp
end WP
end
section
open Go Go.RowKit
theorem Ss.newm {W w : World} {l : List HP} (s : Ss W l w) (o : MO) : Ss W (mp true w.heap.size o :: l) (w.alloc o.obj) := by
 obtain ⟨b1, k, hs, hw⟩ := s.alloc o.obj
 obtain ⟨b0, k0, hs0, hw0⟩ := s
 let n : PH := fun b i => if b = w.heap.size ∧ i = 0 then some (true, .m o) else none
 have hok : n.ok k0 := fun b i x y hx hy => by
  have := (hw0 b i y hy).lt
  simp only [n] at hx
  rw [if_neg (by omega)] at hx
  cases hx
 refine ⟨b1, n.add k0, ⟨n, k0, hok, PH.le_add, PH.le_add' hok, by simp [mp, n], hs0⟩, fun b i x hx => ?_⟩
 rcases PH.add_some.1 hx with hx' | ⟨_, hx'⟩
 ·simp only [n] at hx'
  split at hx'
  ·rename_i hb
   obtain ⟨rfl, rfl⟩ := hb
   cases hx'
   exact ⟨b0.size, rfl, Zg1 _ _⟩
  ·cases hx'
 ·have h1 := hw0 b i x hx'
  have e : (w.alloc o.obj).heap[b]? = w.heap[b]? := ZfV _ _ h1.lt
  rcases x with ⟨q, x | mo | ⟨T0, n0⟩⟩ <;> cases q
  ·show (w.alloc _).cell? _ = _
   have h2 : w.cell? ⟨b, i, none⟩ = some x := h1
   unfold World.cell? at h2 ⊢
   simp only [e]
   exact h2
  ·obtain ⟨c1, cs, T', c2, c3⟩ := h1
   exact ⟨c1, cs, T', e.trans c2, c3⟩
  ·exact ⟨h1.1, e.trans h1.2⟩
  ·exact ⟨h1.1, h1.2.1, e.trans h1.2.2⟩
  ·obtain ⟨c1, cs, fr, c2, c3⟩ := h1
   exact ⟨c1, cs, fr, e.trans c2, c3⟩
  ·obtain ⟨c1, cs, fr, c2, c3⟩ := h1
   exact ⟨c1, cs, fr, e.trans c2, c3⟩
theorem Ss.mp_at {W w : World} {l : List HP} {i b : Nat} {q : Bool} {o : MO} (s : Ss W l w) (e : nth l i = some (mp q b o)) : w.heap[b]? = some o.obj := by
 obtain ⟨_, k, hs, hw⟩ := s
 obtain ⟨h1, a, l1⟩ := Zfr hs e
 have := hw b 0 _ (l1 _ _ _ a)
 cases q
 ·exact this.2
 ·exact this.2.2
theorem Ss.setm {W w : World} {l : List HP} {b : Nat} {o : MO} (s : Ss W (mp true b o :: l) w) (o' : MO) : Ss W (mp true b o' :: l) (wput w b o'.obj) := by
 obtain ⟨b0, k, ⟨h1, h2, ok, l1, l2, hp, hr⟩, hw⟩ := s
 obtain ⟨hB, -, hh⟩ := hw _ _ _ (l1 _ _ _ hp)
 have hlt : b < w.heap.size := (Array.getElem?_eq_some_iff.1 hh).1
 have hsz : (wput w b o'.obj).heap.size = w.heap.size := by simp [wput]
 have hb' : (wput w b o'.obj).heap[b]? = some o'.obj := by rw [Zhm, if_pos ⟨rfl, hlt⟩]
 have ho : ∀ c, c ≠ b → (wput w b o'.obj).heap[c]? = w.heap[c]? := fun c hc => by rw [Zhm, if_neg (fun e => hc e.1.symm)]
 have n2 : h2 b 0 = none := by
  cases h : h2 b 0 with
  | none => rfl
  | some z => exact absurd (ok _ _ _ _ hp h).2 (by simp)
 let n1 : PH := fun c i => if c = b ∧ i = 0 then some (true, .m o') else none
 have hn2 : n1.ok h2 := fun c i x y hx hy => by
  simp only [n1] at hx
  split at hx
  ·rename_i hc
   obtain ⟨rfl, rfl⟩ := hc
   rw [n2] at hy
   cases hy
  ·cases hx
 refine ⟨⟨b0.os, b0.tape, b0.output, by rw [hsz]; exact b0.size, fun c hc => by rw [ho c (by omega)]; exact b0.block c hc⟩, n1.add h2, ⟨n1, h2, hn2, PH.le_add, PH.le_add' hn2, by simp [mp, n1], hr⟩, fun c i x hx => ?_⟩
 rcases PH.add_some.1 hx with hx' | ⟨_, hx'⟩
 ·simp only [n1] at hx'
  split at hx'
  ·rename_i hc
   obtain ⟨rfl, rfl⟩ := hc
   cases hx'
   exact ⟨hB, rfl, hb'⟩
  ·cases hx'
 ·have h3 := hw c i x (l2 _ _ _ hx')
  by_cases hc : c = b
  ·subst hc
   rcases x with ⟨q, x | mo | ⟨T0, n0⟩⟩ <;> cases q
   ·have h4 : w.cell? ⟨c, i, none⟩ = some x := h3
    unfold World.cell? at h4
    simp only [hh] at h4
    cases o <;> cases h4
   ·obtain ⟨_, cs, T, h5, _⟩ := h3
    rw [hh] at h5
    cases o <;> cases h5
   ·obtain ⟨rfl, _⟩ := h3
    rw [n2] at hx'
    cases hx'
   ·obtain ⟨_, rfl, _⟩ := h3
    rw [n2] at hx'
    cases hx'
   ·obtain ⟨_, cs, fr, h5, _⟩ := h3
    rw [hh] at h5
    cases o <;> cases h5
   ·obtain ⟨_, cs, fr, h5, _⟩ := h3
    rw [hh] at h5
    cases o <;> cases h5
  ·have e := ho c hc
   rcases x with ⟨q, x | mo | ⟨T0, n0⟩⟩ <;> cases q
   ·show World.cell? _ _ = _
    have h4 : w.cell? ⟨c, i, none⟩ = some x := h3
    unfold World.cell? at h4 ⊢
    simp only [e]
    exact h4
   ·obtain ⟨c1, cs, T', c2, c3⟩ := h3
    exact ⟨c1, cs, T', e.trans c2, c3⟩
   ·exact ⟨h3.1, e.trans h3.2⟩
   ·exact ⟨h3.1, h3.2.1, e.trans h3.2.2⟩
   ·obtain ⟨c1, cs, fr, c2, c3⟩ := h3
    exact ⟨c1, cs, fr, e.trans c2, c3⟩
   ·obtain ⟨c1, cs, fr, c2, c3⟩ := h3
    exact ⟨c1, cs, fr, e.trans c2, c3⟩
theorem Ss.setmi {W w : World} {l : List HP} {i b : Nat} {o : MO} (s : Ss W l w) (e : nth l i = some (mp true b o)) (o' : MO) : Ss W (up l i (mp true b o')) (wput w b o'.obj) := ((s.perm (Ze8 e)).setm o').perm (ZgX e).symm
variable {κ ν : Type}
structure Mw (l : List (κ × ν × Nat)) (cl : Nat) : Prop where
 keys : (l.map (·.1)).Nodup
 born : l.Pairwise fun a b => a.2.2 < b.2.2
 lt : ∀ e ∈ l, e.2.2 < cl
def kv (e : κ × ν × Nat) : κ × ν := (e.1, e.2.1)
theorem Mw.nil {cl : Nat} : Mw ([] : List (κ × ν × Nat)) cl := ⟨by simp, by simp, by simp⟩
theorem Mw.same {l : List (κ × ν × Nat)} {cl : Nat} (h : Mw l cl) {a b : κ × ν × Nat} (ha : a ∈ l) (hb : b ∈ l) (e : a.1 = b.1) : a = b := by
 have h1 := h.keys
 clear h
 induction l with
 | nil => cases ha
 | cons x l ih =>
  simp only [List.map_cons, List.nodup_cons, List.mem_map] at h1
  rcases List.mem_cons.1 ha with ea | ha' <;> rcases List.mem_cons.1 hb with eb | hb'
  ·rw [ea, eb]
  ·subst ea; exact absurd ⟨b, hb', e.symm⟩ h1.1
  ·subst eb; exact absurd ⟨a, ha', e⟩ h1.1
  ·exact ih ha' hb' h1.2
theorem Zsn {l : List (κ × ν × Nat)} {cl : Nat} (h : Mw l cl) {e : κ × ν × Nat} (he : e ∈ l) : Znv l e.1 = some e := by
 unfold Znv
 cases hf : l.find? (fun x => eqv x.1 e.1) with
 | none =>
  rw [List.find?_eq_none] at hf
  exact absurd (Zg3.2 rfl) (hf e he)
 | some x =>
  have h1 := List.find?_some hf
  rw [Zg3] at h1
  exact congrArg some (h.same (List.mem_of_find?_eq_some hf) he h1)
theorem Zso {l : List (κ × ν × Nat)} {k : κ} (h : ∀ e ∈ l, e.1 ≠ k) : Znv l k = none := by
 unfold Znv
 rw [List.find?_eq_none]
 intro e he
 rw [Zg3]
 exact h e he
theorem ZqH {l : List (κ × ν × Nat)} {k : κ} (h : ∀ e ∈ l, e.1 ≠ k) : Zfw l k = none := by
 unfold Zfw
 rw [List.findIdx?_eq_none_iff]
 intro e he
 cases hq : eqv e.1 k with
 | false => rfl
 | true => exact absurd (Zg3.1 hq) (h e he)
theorem Mw.push {l : List (κ × ν × Nat)} {cl : Nat} (h : Mw l cl) {k : κ} (x : ν) (hk : ∀ e ∈ l, e.1 ≠ k) : Mw (l ++ [(k, x, cl)]) (cl + 1) := by
 refine ⟨?_, ?_, ?_⟩
 ·rw [zE, List.nodup_append]
  refine ⟨h.keys, by simp, ?_⟩
  intro a ha b hb e
  obtain ⟨y, hy, rfl⟩ := List.mem_map.1 ha
  simp only [List.map_cons, List.map_nil, zG] at hb
  exact hk y hy (e.trans hb)
 ·rw [List.pairwise_append]
  refine ⟨h.born, by simp, ?_⟩
  intro a ha b hb
  simp only [zG] at hb
  subst hb
  exact h.lt a ha
 ·intro e he
  rcases List.mem_append.1 he with he | he
  ·exact Nat.lt_succ_of_lt (h.lt e he)
  ·simp only [zG] at he
   subst he
   exact Nat.lt_succ_self _
theorem Mw.sub {l m : List (κ × ν × Nat)} {cl : Nat} (h : Mw l cl) (s : m.Sublist l) : Mw m cl :=
 ⟨h.keys.sublist (s.map _), h.born.sublist s, fun e he => h.lt e (s.subset he)⟩
def mapH (ck : Cod κ) (cv : Cod ν) (b : Nat) (kvs : List (κ × ν)) : HP := ex (fun p : List (κ × ν × Nat) × Nat => Mw p.1 p.2 ∧ (p.1.map kv).Perm kvs) (fun p => mp true b (.map (ents ck cv p.1) p.2))
theorem ZtJ {l : List (κ × ν × Nat)} {kvs : List (κ × ν)} (p : (l.map kv).Perm kvs) {k : κ} {x : ν} : (k, x) ∈ kvs ↔ ∃ n, (k, x, n) ∈ l := by
 rw [← p.mem_iff, List.mem_map]
 constructor
 ·rintro ⟨⟨a, b, c⟩, h, e⟩
  cases e
  exact ⟨c, h⟩
 ·rintro ⟨n, h⟩
  exact ⟨_, h, rfl⟩
section
variable {W w : World} {Hs : List HP} {ck : Cod κ} {cv : Cod ν}
end
theorem Zrt {ck : Cod κ} {cv : Cod ν} {r : Nat} {w : World} {l : List (κ × ν × Nat)} {cl : Nat} (h : w.heap[r]? = some (.map (ents ck cv l) cl)) : ZpM ck cv r w = some ((l, cl), w) := by
 unfold ZpM
 rw [h]
 simp only [ZtB, Option.map_some]
namespace WP
variable {β : Type} {w W : World} {Hs : List HP} {ck : Cod κ} {cv : Cod ν}
theorem mkMap {f : Nat → M β} {Q : β → World → Prop} (s : Ss W Hs w) (k : ∀ b w', Ss W (mapH ck cv b [] :: Hs) w' → WP (f b) w' Q) : WP (Lx.mkMap >>= f) w Q :=
 bind ⟨_, _, rfl, k _ _ ((s.newm (.map (ents ck cv []) 0)).first fun h hp => ⟨([], 0), ⟨Mw.nil, by simp⟩, hp⟩)⟩
theorem mget {b : Nat} {kvs : List (κ × ν)} {z : ν} {k : κ} {f : ν × Bool → M β} {Q : β → World → Prop} (s : Ss W Hs w) (i : Nat) (e : nth Hs i = some (mapH ck cv b kvs))
  (h1 : ∀ x, (k, x) ∈ kvs → WP (f (x, true)) w Q) (h0 : (∀ x, (k, x) ∉ kvs) → WP (f (z, false)) w Q) : WP (Lx.mget ck cv z (some b) k >>= f) w Q := by
 obtain ⟨⟨l, cl⟩, ⟨g1, g2⟩, s2⟩ := s.openx i e
 have hm := Zrt (ck := ck) (cv := cv) (s2.mp_at (ZhY e))
 by_cases hk : ∃ e ∈ l, e.1 = k
 ·obtain ⟨⟨k', x, n⟩, he, rfl⟩ := hk
  have hf := Zsn g1 he
  refine bind ⟨(x, true), w, ?_, h1 x ((ZtJ g2).2 ⟨n, he⟩)⟩
  show (ZpM ck cv b >>= _) w = _
  rw [Zkr, hm]
  have hf : Znv l k' = some (k', x, n) := hf
  simp only [Option.bind_some, hf]
  rfl
 ·have hk' : ∀ e ∈ l, e.1 ≠ k := fun e he h => hk ⟨e, he, h⟩
  have hf := Zso hk'
  refine bind ⟨(z, false), w, ?_, h0 fun x hx => ?_⟩
  ·show (ZpM ck cv b >>= _) w = _
   rw [Zkr, hm]
   have hf : Znv l k = none := hf
   simp only [Option.bind_some, hf]
   rfl
  ·obtain ⟨n, hn⟩ := (ZtJ g2).1 hx
   exact hk' _ hn rfl
theorem mset {b : Nat} {kvs : List (κ × ν)} {k : κ} {x : ν} {f : Unit → M β} {Q : β → World → Prop} (s : Ss W Hs w) (i : Nat) (e : nth Hs i = some (mapH ck cv b kvs)) (hk : ∀ y, (k, y) ∉ kvs)
  (g : ∀ w', Ss W (up Hs i (mapH ck cv b (kvs ++ [(k, x)]))) w' → WP (f ()) w' Q) : WP (Lx.mset ck cv (some b) k x >>= f) w Q := by
 obtain ⟨⟨l, cl⟩, ⟨g1, g2⟩, s2⟩ := s.openx i e
 have hm := s2.mp_at (ZhY e)
 have hk' : ∀ e ∈ l, e.1 ≠ k := fun e he h => hk e.2.1 ((ZtJ g2).2 ⟨e.2.2, by rw [← h]; exact he⟩)
 have s3 := s2.setmi (ZhY e) (.map (ents ck cv (l ++ [(k, x, cl)])) (cl + 1))
 rw [Zon] at s3
 have s4 := s3.closex (φ := fun p : List (κ × ν × Nat) × Nat => Mw p.1 p.2 ∧ (p.1.map kv).Perm (kvs ++ [(k, x)])) (P := fun p => mp true b (.map (ents ck cv p.1) p.2)) i (l ++ [(k, x, cl)], cl + 1) (ZhY e) ⟨g1.push x hk', by rw [zE]; exact g2.append (List.Perm.refl _)⟩
 rw [Zon] at s4
 refine bind ⟨(), _, ?_, g _ s4⟩
 unfold Lx.mset
 simp only [Zrt (ck := ck) (cv := cv) hm, Option.map_some, mput, ZqH hk']
 rfl
end WP
end
section
open Go Go.RowKit
def ZdI (A : HP) (a : Addr) (L : List Value) : Prop := ∀ h, A h → a.spot = none ∧ ∀ i v, L[i]? = some v → ∃ q, h a.block (a.off + i) = some (q, .v v)
theorem ZdI.pts {q : Bool} {a : Addr} {L : List Value} : ZdI (Lx.pts q a L) a L := fun h ⟨sp, hp⟩ => ⟨sp, fun i v hv => ⟨q, hp i v hv⟩⟩
theorem ZdI.at_ {A : HP} {a : Addr} {L m : List Value} {o : Nat} (r : ZdI A a L) (e : At L o m) : ZdI A (a.add o) m := fun h ha => by
 obtain ⟨sp, hp⟩ := r h ha
 rw [ZfE sp]
 refine ⟨rfl, fun i v hv => ?_⟩
 obtain ⟨p, s, rfl, rfl⟩ := e
 obtain ⟨q, hq⟩ := hp (p.length + i) v (by
  have hi := (List.getElem?_eq_some_iff.1 hv).1
  rw [zu, zR (by omega), Nat.add_sub_cancel_left, zH hi]
  exact hv)
 exact ⟨q, by rw [← hq]; congr 1; simp only; omega⟩
theorem ZdI.up {A : HP} {a : Addr} {L : List Value} {l : List HP} {i : Nat} (r : ZdI A a L) (e : nth l i = some A) : ZdI (seps l) a L := fun h hs => by
 obtain ⟨h1, a1, l1⟩ := Zfr hs e
 obtain ⟨sp, hp⟩ := r h1 a1
 exact ⟨sp, fun i v hv => (hp i v hv).imp fun q hq => l1 _ _ _ hq⟩
theorem ZdI.rdb {α : Type} {c : Cod α} {A : HP} {a : Addr} {xs : List α} {k : Nat} (r : ZdI A a (xs.flatMap c.enc)) : Rdb A c ⟨some a, xs.length, k⟩ xs := fun h ha => by
 obtain ⟨sp, hp⟩ := r h ha
 refine ⟨rfl, fun _ => ⟨a, rfl⟩, fun i x a' hx ha' => ?_⟩
 cases ha'
 exact ⟨sp, fun j v hv => hp _ _ (Zkg hx hv)⟩
theorem Zpu {W w : World} {Hs : List HP} {i : Nat} {A : HP} {a : Addr} {L : List Value} (s : Ss W Hs w) (e : nth Hs i = some A) (r : ZdI A a L) : rdF w a 0 L.length = some L := by
 obtain ⟨hb, h, hs, hw⟩ := s
 obtain ⟨h1, a1, l1⟩ := Zfr hs e
 obtain ⟨sp, hp⟩ := r h1 a1
 refine Zj8 _ _ _ rfl fun j hj => ?_
 rw [Nat.zero_add, ZfE sp]
 obtain ⟨q, hq⟩ := hp j _ (za hj)
 rw [za hj]
 exact (hw _ _ _ (l1 _ _ _ hq)).cell
theorem Ss.merge {W w : World} {A B C : HP} {Hs : List HP} (s : Ss W (A :: B :: Hs) w) (f : ∀ h1 h2 h : PH, h1.le h → h2.le h → A h1 → B h2 → C h) : Ss W (C :: Hs) w := by
 have s1 : Ss W ([A, B] ++ Hs) w := s
 refine s1.group.first fun h hh => ?_
 obtain ⟨h1, h2, _, l1, l2, a, h3, h4, _, l3, _, b, _⟩ := hh
 exact f h1 h3 h l1 (l3.trans l2) a b
theorem PH.le_refl (h : PH) : h.le h := fun _ _ _ e => e
theorem Zlb {q : Bool} {a : Addr} {L : List Value} {h k : PH} (e : h.le k) (hp : pts q a L h) : pts q a L k := ⟨hp.1, fun i x hx => e _ _ _ (hp.2 i x hx)⟩
theorem Zd8 {α : Type} {c : Cod α} {q : Bool} {s : Sl} {xs : List α} {h k : PH} (e : h.le k) (hp : rdS c q s xs h) : rdS c q s xs k := ⟨hp.1, hp.2.1, hp.2.2.1, fun a ha hne => Zlb e (hp.2.2.2 a ha hne)⟩
theorem ZrI {α : Type} {x y : α} : eqv x y = true ↔ x = y := by simp [eqv]
theorem ZvJ {α : Type} {x y : α} {b : Bool} (h : b = true ↔ x = y) : eqv x y = b := by
 cases b with
 | true => exact ZrI.2 (h.1 rfl)
 | false =>
  cases h' : eqv x y with
  | false => rfl
  | true => exact absurd (h.2 (ZrI.1 h')) (by simp)
theorem Rdb.drop {α : Type} {A : HP} {c : Cod α} {s : Sl} {xs : List α} (r : Rdb A c s xs) {k : Nat} (hk : k ≤ xs.length) (hc : s.len ≤ s.cap) : Rdb A c ⟨if s.cap = k then s.a else s.a.map (·.add (k * c.n)), s.len - k, s.cap - k⟩ (xs.drop k) := by
 intro h hA
 obtain ⟨h1, h2, h3⟩ := r h hA
 refine ⟨by simp only [zw]; omega, fun hne => ?_, fun i x a hx ha => ?_⟩
 ·have hl : k < xs.length := by
   rcases Nat.lt_or_ge k xs.length with h | h
   ·exact h
   ·exact absurd (List.drop_eq_nil_of_le h) hne
  obtain ⟨a, ha⟩ := h2 (fun e => by rw [e] at hl; simp at hl)
  exact ⟨a.add (k * c.n), by simp only; rw [if_neg (by omega), ha]; rfl⟩
 ·rw [List.getElem?_drop] at hx
  have hl := (List.getElem?_eq_some_iff.1 hx).1
  simp only at ha
  rw [if_neg (by omega)] at ha
  obtain ⟨a', ha', rfl⟩ := Option.map_eq_some_iff.1 ha
  obtain ⟨sp, h4⟩ := h3 _ x a' hx ha'
  rw [ZfE sp]
  refine ⟨rfl, fun j v hv => ?_⟩
  obtain ⟨q, hq⟩ := h4 j v hv
  exact ⟨q, by rw [← hq]; congr 1; simp only [Nat.add_mul]; omega⟩
namespace WP
variable {α β : Type} {w : World}
theorem cutsuf {sl : Sl} {n : Nat} {k : Int} {f : Sl → M β} {Q : β → World → Prop} (h0 : 0 ≤ k) (h1 : k ≤ sl.len) (h2 : sl.len ≤ sl.cap) (g : WP (f ⟨if sl.cap = k.toNat then sl.a else sl.a.map (·.add (k.toNat * n)), sl.len - k.toNat, sl.cap - k.toNat⟩) w Q) : WP (Lx.cut n sl (some k) none none >>= f) w Q := by
 refine bind ⟨_, w, ?_, g⟩
 unfold Lx.cut
 simp only [Option.getD_none, Option.getD_some]
 rw [if_pos (by omega)]
 simp
theorem ldh {W : World} {Hs : List HP} {A : HP} {a p : Addr} {c : Cod α} {x : α} {f : α → M β} {Q : β → World → Prop} (s : Ss W Hs w) (i : Nat) (e : nth Hs i = some A) (r : ZdI A a (c.enc x)) (hp : p = a) (k : WP (f x) w Q) : WP (Lx.ld c p >>= f) w Q := by
 subst hp
 refine bind ⟨x, w, ?_, k⟩
 unfold Lx.ld
 have := Zpu s e r
 rw [c.len] at this
 rw [this]
 simp [c.de]
theorem sameh {W : World} {Hs : List HP} {A : HP} {a p : Addr} {c : Cod α} {x : α} {f : Unit → M β} {Q : β → World → Prop} (s : Ss W Hs w) (i : Nat) (e : nth Hs i = some A) (r : ZdI A a (c.enc x)) (hp : p = a) (k : WP (f ()) w Q) : WP (Lx.same c p x >>= f) w Q := by
 subst hp
 refine bind ⟨(), w, ?_, k⟩
 unfold Lx.same
 have := Zpu s e r
 rw [c.len] at this
 rw [if_pos]
 unfold Lx.ld
 rw [this]
 simp [c.de]
end WP
end
section
open Go Go.RowKit
def lpH (l : Nat) (s : LoopState) (p : Option Code) : HP := mp true l (.loop s p)
namespace WP
variable {β : Type} {W w : World} {Hs : List HP}
theorem begM {l : Nat} {f : Unit → M β} {Q : β → World → Prop} (s : Ss W (lpH l .ready none :: Hs) w) (k : ∀ w', Ss W (lpH l .busy none :: Hs) w' → WP (f ()) w' Q) : WP (Lx.begM l >>= f) w Q := by
 have h := s.mp_at (i := 0) rfl
 refine bind ⟨(), w.putObj l (.loop (absL .busy none)), ?_, k _ (s.setm (.loop .busy none))⟩
 unfold Lx.begM
 rw [h]
 rfl
theorem endR {l : Nat} {st : LoopState} {p j : Option Code} {Q : Bool → World → Prop} (s : Ss W (lpH l st p :: Hs) w) (k : ∀ w', Ss W (lpH l (if j.isNone then .ready else .done) j :: Hs) w' → Q j.isNone w') : WP (Lx.endR l j) w Q := by
 have h := s.mp_at (i := 0) rfl
 refine ⟨j.isNone, w.putObj l (.loop (absL (if j.isNone then .ready else .done) j)), ?_, k _ (s.setm (.loop _ j))⟩
 unfold Lx.endR
 rw [h]
 rfl
end WP
end
section
open Go Go.RowKit
def Held {α : Type} (c : Cod α) (z : List (Sl × List α)) : HP := fun h => ∀ p ∈ z, rdS c false p.1 p.2 h
section
variable {α : Type} {c : Cod α} {W w : World} {Hs : List HP}
theorem Held.app {z y : List (Sl × List α)} (s : Ss W (Held c z :: Held c y :: Hs) w) : Ss W (Held c (z ++ y) :: Hs) w :=
 s.merge (fun h1 h2 h l1 l2 a b p hp => (List.mem_append.1 hp).elim (fun hp => Zd8 l1 (a p hp)) (fun hp => Zd8 l2 (b p hp)))
theorem Held.one {sl : Sl} {xs : List α} (s : Ss W (rdS c false sl xs :: Hs) w) : Ss W (Held c [(sl, xs)] :: Hs) w :=
 s.first (fun h a p hp => by
  rw [zG] at hp
  subst hp
  exact a)
theorem Held.rdb {z : List (Sl × List α)} {p : Sl × List α} (hp : p ∈ z) : Rdb (Held c z) c p.1 p.2 := fun h hh => ZbM (q := false) h (hh p hp)
theorem ZsS {sl : Sl} {l ys zs : List α} {h : PH} (hv : vec c sl l (ys ++ zs) h) : vec c ⟨sl.a, l.length + ys.length, sl.cap⟩ (l ++ ys) zs h := by
 obtain ⟨h1, h2, h3⟩ := hv
 refine ⟨by simp, by simp only [zc] at h2 ⊢; omega, ?_⟩
 cases ha : sl.a with
 | none =>
  rw [ha] at h3
  obtain ⟨rfl, h3⟩ := h3
  obtain ⟨rfl, rfl⟩ := List.append_eq_nil_iff.1 h3
  exact ⟨rfl, rfl⟩
 | some a =>
  rw [ha] at h3
  show pts true a (((l ++ ys) ++ zs).flatMap c.enc) h
  rw [zu]
  exact h3
theorem ZvT {sl : Sl} {xs sp : List α} {h : PH} (hv : vec c sl xs sp h) : rdS c false sl xs (fun b o => (h b o).map fun x => (false, x.2)) := by
 obtain ⟨h1, h2, h3⟩ := hv
 refine ⟨h1, by omega, fun hne => ?_, fun a ha hne => ?_⟩
 ·cases ha : sl.a with
  | some a => exact ⟨a, rfl⟩
  | none => rw [ha] at h3; exact absurd h3.1 hne
 ·rw [ha] at h3
  obtain ⟨sp', hp⟩ := h3
  refine ⟨sp', fun i x hx => ?_⟩
  have h4 := hp i x (by rw [zv, zH (List.getElem?_eq_some_iff.1 hx).1]; exact hx)
  show (h a.block (a.off + i)).map _ = _
  rw [h4]
  rfl
end
namespace WP
variable {α β : Type} {w : World}
theorem ZxW {W : World} {Hs : List HP} {E : TypeId} {by_ : Nat} {c : Cod α} {z : α} {sl : Sl} {l sp xs : List α} {f : Sl → M β} {Q : β → World → Prop} (s : Ss W Hs w) (i : Nat) (e : nth Hs i = some (vec c sl l sp)) (hx : xs ≠ []) (hc : xs.length ≤ sp.length)
  (k : ∀ w', Ss W (up Hs i (vec c sl l (xs ++ sp.drop xs.length))) w' → WP (f ⟨sl.a, l.length + xs.length, sl.cap⟩) w' Q) : WP (Lx.appl c E by_ z sl xs >>= f) w Q := by
 obtain ⟨e1, e2, e3⟩ := s.vec_len e
 have hxl : 0 < xs.length := List.length_pos_iff.2 hx
 cases ha : sl.a with
 | none =>
  have := (e3 ha).2
  subst this
  rw [zi] at hc
  omega
 | some a =>
  obtain ⟨a', e4, s2⟩ := s.vec_open e (.inr (by rw [ha]; simp))
  rw [e4] at ha
  cases ha
  obtain ⟨w', h1, h2⟩ := Zl3 s2 (ZhY e) (ZsR c l xs sp hc)
  rw [Zon] at h2
  refine bind ⟨⟨some a, l.length + xs.length, l.length + sp.length⟩, w', ?_, ?_⟩
  ·rw [e4]
   unfold Lx.appl grow
   rw [Zgl]
   simp only [Bool.not_true, Bool.false_eq_true, if_false]
   rw [if_pos (by omega), h1]
   rfl
  ·have k' := k w' ((h2.close (ZhY e) (fun h hp => by
    rw [e4]
    refine ⟨rfl, ?_, ?_⟩
    ·simp only [zc, zw]
     omega
    ·show pts true a ((l ++ (xs ++ sp.drop xs.length)).flatMap c.enc) h
     rw [← zu]
     exact hp)) |> fun s => Zon ▸ s)
   rw [e4] at k'
   rw [e4] at e2
   exact k'
end WP
section
variable {α β : Type} {c : Cod α} {W w : World} {R : List HP} {sl g : Sl} {xs : List α} {m : α} {q : Nat}
end
end
section
open Go Go.RowKit
structure Ls (α : Type) where
 s : Sl
 x : List α
 sp : List α
section
variable {α β : Type} {c : Cod α} {W w : World} {R : List HP} {p1 p2 : Addr} {n : Nat} {L Z : Sl} {es : List (Ls α)} {zs : List (Sl × List α)} {l1 l2 : List Sl}
theorem Held.less {z y : List (Sl × List α)} (s : Ss W (Held c z :: R) w) (h : ∀ p ∈ y, p ∈ z) : Ss W (Held c y :: R) w := s.first (fun _ hh p hp => hh p (h p hp))
def AllZ (me : Int → α) (z : List (Sl × List α)) : Prop := ∀ (j : Nat) p, z[j]? = some p → p.2.length ≤ 100000000 ∧ p.2 = List.replicate p.2.length (me j)
theorem AllZ.snoc {me : Int → α} {z : List (Sl × List α)} {g : Sl} {k : Nat} (h : AllZ me z) (hk : k ≤ 100000000) : AllZ me (z ++ [(g, List.replicate k (me (z.length : Nat)))]) := by
 intro j p hj
 by_cases e : j < z.length
 ·rw [zH e] at hj
  exact h j p hj
 ·rw [zR (by omega)] at hj
  have hjl := (List.getElem?_eq_some_iff.1 hj).1
  simp only [zf, zi] at hjl
  have ej : j = z.length := by omega
  subst ej
  simp only [Nat.sub_self, List.getElem?_cons_zero, zt] at hj
  subst hj
  simp only [zT]
  exact ⟨hk, trivial⟩
end
end
section
open Go Go.RowKit
def shp (b : Nat) (T : TypeId) (n : Nat) : HP := fun h => h b n = some (false, .s T n)
def shpO (s : Sl) (E : TypeId) (n : Nat) : HP := fun h => ∀ a, s.a = some a → a.off = 0 ∧ a.spot = none ∧ shp a.block E n h
theorem Ro.shp {b : Nat} {T : TypeId} {n : Nat} : Ro (Lx.shp b T n) := fun h hh => PH.ro_some.2 ⟨hh, rfl⟩
theorem Ro.shpO {s : Sl} {T : TypeId} {n : Nat} : Ro (Lx.shpO s T n) := fun h hh a ha => by
 obtain ⟨h1, h2, h3⟩ := hh a ha
 exact ⟨h1, h2, Ro.shp h h3⟩
section
variable {W w : World} {l : List HP}
theorem Ss.newS (s : Ss W l w) (L : List Value) (T : TypeId) : Ss W (pts true (pt w.heap.size 0) L :: shp w.heap.size T L.length :: l) (w.alloc (.cells L.toArray T)) := by
 obtain ⟨b1, k, hs, hw⟩ := s.alloc (.cells L.toArray T)
 obtain ⟨b0, k0, hs0, hw0⟩ := s
 let n1 : PH := fun b o => if b = w.heap.size then (L[o]?).map fun x => (true, .v x) else none
 let n2 : PH := fun b o => if b = w.heap.size ∧ o = L.length then some (false, .s T L.length) else none
 have hold : ∀ b o x, k0 b o = some x → b < w.heap.size := fun b o x hx => (hw0 b o x hx).lt
 have ok2 : n2.ok k0 := fun b o x y hx hy => by
  have := hold b o y hy
  simp only [n2] at hx
  rw [if_neg (by omega)] at hx
  cases hx
 have ok1 : n1.ok (n2.add k0) := fun b o x y hx hy => by
  simp only [n1] at hx
  split at hx
  ·rename_i hb
   subst hb
   obtain ⟨v, hv, rfl⟩ := Option.map_eq_some_iff.1 hx
   have hlt := (List.getElem?_eq_some_iff.1 hv).1
   rcases PH.add_some.1 hy with hy | ⟨_, hy⟩
   ·simp only [n2] at hy
    rw [if_neg (by omega)] at hy
    cases hy
   ·have := hold _ o y hy
    omega
  ·cases hx
 refine ⟨b1, n1.add (n2.add k0), ⟨n1, n2.add k0, ok1, PH.le_add, PH.le_add' ok1, ⟨rfl, fun i x hx => ?_⟩, n2, k0, ok2, PH.le_add, PH.le_add' ok2, ?_, hs0⟩, fun b o x hx => ?_⟩
 ·simp [n1, pt, hx]
 ·simp [shp, n2]
 ·have hh := Zg1 w (.cells L.toArray T)
  rcases PH.add_some.1 hx with hx' | ⟨_, hx'⟩
  ·simp only [n1] at hx'
   split at hx'
   ·rename_i hb
    subst hb
    obtain ⟨y, hy, rfl⟩ := Option.map_eq_some_iff.1 hx'
    exact ⟨b0.size, _, T, hh, by simpa using hy⟩
   ·cases hx'
  ·rcases PH.add_some.1 hx' with h9 | ⟨_, h9⟩
   ·simp only [n2] at h9
    split at h9
    ·rename_i hb
     rw [zt] at h9
     subst h9
     rw [hb.1]
     exact ⟨hb.2, _, _, hh, by simp⟩
    ·cases h9
   ·have h1 := hw0 b o x h9
    have hlt := h1.lt
    have e : (w.alloc (.cells L.toArray T)).heap[b]? = w.heap[b]? := ZfV _ _ hlt
    rcases x with ⟨q, x | mo | ⟨T0, n0⟩⟩ <;> cases q
    ·show (w.alloc _).cell? _ = _
     have h2 : w.cell? ⟨b, o, none⟩ = some x := h1
     unfold World.cell? at h2 ⊢
     simp only [e]
     exact h2
    ·obtain ⟨c1, cs, T', c2, c3⟩ := h1
     exact ⟨c1, cs, T', e.trans c2, c3⟩
    ·exact ⟨h1.1, e.trans h1.2⟩
    ·exact ⟨h1.1, h1.2.1, e.trans h1.2.2⟩
    ·obtain ⟨c1, cs, fr, c2, c3⟩ := h1
     exact ⟨c1, cs, fr, e.trans c2, c3⟩
    ·obtain ⟨c1, cs, fr, c2, c3⟩ := h1
     exact ⟨c1, cs, fr, e.trans c2, c3⟩
theorem Ss.shp_at {i b : Nat} {T : TypeId} {n : Nat} (s : Ss W l w) (e : nth l i = some (shp b T n)) : ∃ cs fr, w.heap[b]? = some (.cells cs T fr) ∧ cs.size = n := by
 obtain ⟨_, k, hs, hw⟩ := s
 obtain ⟨h1, a, l1⟩ := Zfr hs e
 exact (hw b n _ (l1 _ _ _ a)).2
theorem Ss.shpO_at {i : Nat} {sl : Sl} {a : Addr} {E : TypeId} {n : Nat} (s : Ss W l w) (e : nth l i = some (shpO sl E n)) (ha : sl.a = some a) : a.off = 0 ∧ a.spot = none ∧ ∃ cs fr, w.heap[a.block]? = some (.cells cs E fr) ∧ cs.size = n := by
 obtain ⟨_, k, hs, hw⟩ := s
 obtain ⟨h1, h2, l1⟩ := Zfr hs e
 obtain ⟨a1, a2, a3⟩ := h2 a ha
 exact ⟨a1, a2, (hw _ n _ (l1 _ _ _ a3)).2⟩
theorem ZuN {E : TypeId} {n : Nat} {h : PH} : shpO Sl.nil E n h := fun a ha => by cases ha
end
namespace WP
variable {α β : Type} {w : World}
theorem newvS {W : World} {l : List HP} {T : TypeId} {c : Cod α} {x : α} {f : Nat → M β} {Q : β → World → Prop} (s : Ss W l w)
  (k : ∀ b w', Ss W (pts true (pt b 0) (c.enc x) :: shp b T c.n :: l) w' → WP (f b) w' Q) : WP (Lx.newv T c x >>= f) w Q :=
 bind ⟨_, _, rfl, k _ _ (by have := s.newS (c.enc x) T; rw [c.len] at this; exact this)⟩
theorem upOf {W : World} {Hs : List HP} {b T n : Nat} {f : Option Addr → M β} {Q : β → World → Prop} (s : Ss W Hs w) (i : Nat) (e : nth Hs i = some (shp b T n)) (hn : 0 < n) (k : WP (f (some (pt b 0))) w Q) : WP (Lx.upOf (some (pt b 0)) >>= f) w Q := by
 obtain ⟨cs, fr, h1, h2⟩ := s.shp_at e
 refine bind ⟨_, w, ?_, k⟩
 unfold Lx.upOf
 have h3 : 0 < cs.size := by omega
 simp [pt, h1, h3]
theorem ptOf {W : World} {Hs : List HP} {b T n : Nat} {f : Option Addr → M β} {Q : β → World → Prop} (s : Ss W Hs w) (i : Nat) (e : nth Hs i = some (shp b T n)) (hn : 0 < n) (k : WP (f (some (pt b 0))) w Q) : WP (Lx.ptOf T n (some (pt b 0)) >>= f) w Q := by
 obtain ⟨cs, fr, h1, h2⟩ := s.shp_at e
 refine bind ⟨_, w, ?_, k⟩
 unfold Lx.ptOf
 simp [pt, h1, h2, hn]
theorem ptrEq1 {a : Addr} {f : Bool → M β} {Q : β → World → Prop} (k : WP (f true) w Q) : WP (Lx.ptrEq (some a) (some a) >>= f) w Q := by
 refine bind ⟨true, w, ?_, k⟩
 unfold Lx.ptrEq
 simp
theorem noesc {p : Option Addr} {f : Option Addr → M β} {Q : β → World → Prop} (k : WP (f p) w Q) : WP (Lx.noesc p >>= f) w Q := bind ⟨p, w, rfl, k⟩
theorem idxB {s : ByteArray} {c : Int} {f : Int → M β} {Q : β → World → Prop} (k : WP (f (firstIdx s c.toNat.toUInt8)) w Q) : WP (Lx.idxB s c >>= f) w Q := bind ⟨_, w, rfl, k⟩
theorem sdata {s : Sl} {f : Option Addr → M β} {Q : β → World → Prop} (hc : s.a = none ∨ s.cap ≠ 0) (k : WP (f s.a) w Q) : WP (Lx.sdata s >>= f) w Q := by
 refine bind ⟨s.a, w, ?_, k⟩
 unfold Lx.sdata
 cases ha : s.a with
 | none => rfl
 | some a =>
  have : s.cap ≠ 0 := hc.resolve_left (by rw [ha]; simp)
  simp only [this, ne_eq, not_false_eq_true, if_true]
theorem applB {W : World} {Hs : List HP} {E : TypeId} {sl : Sl} {l sp xs : List Int} {f : Sl → M β} {Q : β → World → Prop} (s : Ss W (vec (cI .u8) sl l sp :: shpO sl E (l.length + sp.length) :: Hs) w) (hb : l.length + xs.length ≤ 140737488355328) (hz : sl.a = none ∨ sl.cap ≠ 0)
  (k : ∀ r w' sp', (r.a = none ∨ r.cap ≠ 0) → Ss W (vec (cI .u8) r (l ++ xs) sp' :: shpO r E ((l ++ xs).length + sp'.length) :: Hs) w' → WP (f r) w' Q) : WP (Lx.appl (cI .u8) E 1 0 sl xs >>= f) w Q := by
 obtain ⟨e1, e2, e3⟩ := s.vec_len (i := 0) rfl
 by_cases hc : xs.length ≤ sp.length
 ·by_cases hx : xs = []
  ·subst hx
   obtain ⟨a, n, cap⟩ := sl
   simp only at e1 e2 e3
   subst e1 e2
   refine bind ⟨_, w, ?_, k ⟨a, l.length, l.length + sp.length⟩ w sp hz (by simpa using s)⟩
   unfold Lx.appl grow
   cases a with
   | none => simp
   | some a => simp [wrF]
  ·refine ZxW s 0 rfl hx hc (fun w s => k _ w (sp.drop xs.length) hz ?_)
   have s : Ss W (vec (cI .u8) sl l (xs ++ sp.drop xs.length) :: shpO sl E (l.length + sp.length) :: Hs) w := s
   have s := s.first (B := vec (cI .u8) ⟨sl.a, l.length + xs.length, sl.cap⟩ (l ++ xs) (sp.drop xs.length)) (fun h hv => ZsS hv)
   have s := (s.use [1] (s := [_]) (r := _ :: Hs) rfl).first (B := shpO ⟨sl.a, l.length + xs.length, sl.cap⟩ E ((l ++ xs).length + (sp.drop xs.length).length)) (fun h hv => by
    have : (l ++ xs).length + (sp.drop xs.length).length = l.length + sp.length := by simp; omega
    rw [this]
    exact hv)
   exact s.use [1] (s := [_]) (r := _ :: Hs) rfl
 ·obtain ⟨a, n, cap⟩ := sl
  simp only at e1 e2 e3
  subst e1
  have ho : rdR w a (l.length * (cI .u8).n) = some (l.flatMap (cI .u8).enc) := s.rd_all (i := 0) rfl (ZcB (c := cI .u8) (s := ⟨a, l.length, cap⟩)) (by decide)
  have hg : Builtin.nextslicecap (l.length + xs.length) cap * 1 ≤ 281474976710656 := growslice_fits (by omega) (by simpa using hb)
  generalize hcap : (Question.appendCap (l.length + xs.length) cap E).cut (w.tape w.drawn (.appendCap (l.length + xs.length) cap E)) = cap'
  have hcap' : l.length + xs.length ≤ cap' := by rw [← hcap]; exact Nat.le_add_right _ _
  refine bind ⟨⟨some (pt w.heap.size 0), l.length + xs.length, cap'⟩, w.drew.alloc (.cells (l.flatMap (cI .u8).enc ++ xs.flatMap (cI .u8).enc ++ (Builtin.zeroCells ((cI .u8).enc 0).toArray (cap' - (l.length + xs.length))).toList).toArray E), ?_, k _ _ (List.replicate (cap' - (l.length + xs.length)) 0) (.inr (by simp only; omega)) ?_⟩
  ·unfold Lx.appl grow
   rw [Zgl]
   simp only [Bool.not_true, Bool.false_eq_true, if_false]
   rw [if_neg (by omega), if_neg (fun h => by omega), if_neg (show ¬ Builtin.nextslicecap (l.length + xs.length) cap * 1 > 2 ^ 48 by simpa using hg), ho, hcap]
   rfl
  ·rw [ZnI]
   have s2 := s.drop.drop.drew.newS (l.flatMap (cI .u8).enc ++ xs.flatMap (cI .u8).enc ++ (List.replicate (cap' - (l.length + xs.length)) 0).flatMap (cI .u8).enc) E
   have s3 := s2.first (B := vec (cI .u8) ⟨some (pt w.heap.size 0), l.length + xs.length, cap'⟩ (l ++ xs) (List.replicate (cap' - (l.length + xs.length)) 0)) (fun h hp => ⟨by simp, by simp; omega, by simpa [zv] using hp⟩)
   have s4 := (s3.use [1] (s := [_]) (r := _ :: Hs) rfl).first (B := shpO ⟨some (pt w.heap.size 0), l.length + xs.length, cap'⟩ E ((l ++ xs).length + (List.replicate (cap' - (l.length + xs.length)) (0 : Int)).length)) (fun h hp a ha => by
    cases ha
    refine ⟨rfl, rfl, ?_⟩
    have e5 : (l.flatMap (cI .u8).enc ++ xs.flatMap (cI .u8).enc ++ (List.replicate (cap' - (l.length + xs.length)) 0).flatMap (cI .u8).enc).length = (l ++ xs).length + (List.replicate (cap' - (l.length + xs.length)) (0 : Int)).length := by
     simp only [zc, ZdW]
     simp [cI, Cod.cell]
    rw [← e5]
    exact hp)
   exact s4.use [1] (s := [_]) (r := _ :: Hs) rfl
theorem mkNZ {W : World} {Hs : List HP} {E : TypeId} {n : Int} {f : Sl → M β} {Q : β → World → Prop} (s : Ss W Hs w) (h0 : 0 ≤ n) (h1 : n ≤ 281474976710656)
  (k : ∀ (a : Addr) (cap : Nat) (xs : List Int) w', n ≤ (cap : Int) → xs.length = cap → a.off = 0 → a.spot = none → Ss W (pts true a (xs.flatMap (cI .u8).enc) :: shp a.block E cap :: Hs) w' → WP (f ⟨some a, n.toNat, cap⟩) w' Q) : WP (Lx.mkNZ E n >>= f) w Q := by
 have hd : ∀ (n t : Nat) (xs : List Int), ∃ ys : List Int, ys.length = xs.length + n ∧ Extern.BytealgMakeNoZero.digits n t (xs.flatMap (cI .u8).enc).toArray = (ys.flatMap (cI .u8).enc).toArray := by
  intro n
  induction n with
  | zero => exact fun t xs => ⟨xs, rfl, rfl⟩
  | succ n ih =>
   intro t xs
   obtain ⟨ys, h1, h2⟩ := ih (t / 256) (xs ++ [(Int.ofNat (t % 256))])
   refine ⟨ys, by rw [h1]; simp; omega, ?_⟩
   rw [← h2, Extern.BytealgMakeNoZero.digits]
   congr 1
   simp [cI, Cod.cell]
 refine bind ⟨⟨some (pt w.heap.size 0), n.toNat, (Question.appendCap n.toNat 0 E).cut (w.tape w.drawn (.appendCap n.toNat 0 E))⟩,
  w.drew.drew.alloc (.cells (Extern.BytealgMakeNoZero.digits ((Question.appendCap n.toNat 0 E).cut (w.tape w.drawn (.appendCap n.toNat 0 E))) (Zhg.cut (w.tape (w.drawn + 1) Zhg)) #[]) E), ?_, ?_⟩
 ·unfold Lx.mkNZ
  rw [if_pos ⟨h0, h1⟩]
 ·generalize hc : (Question.appendCap n.toNat 0 E).cut (w.tape w.drawn (.appendCap n.toNat 0 E)) = cap
  have hcap : n.toNat ≤ cap := by rw [← hc]; exact Nat.le_add_right _ _
  obtain ⟨ys, g1, g2⟩ := hd cap (Zhg.cut (w.tape (w.drawn + 1) Zhg)) []
  have g2 : Extern.BytealgMakeNoZero.digits cap (Zhg.cut (w.tape (w.drawn + 1) Zhg)) #[] = (ys.flatMap (cI .u8).enc).toArray := g2
  rw [g2]
  have s2 := s.drew.drew.newS (ys.flatMap (cI .u8).enc) E
  rw [ZdW] at s2
  have e1 : ys.length * (cI .u8).n = cap := by
   rw [g1]
   simp [cI, Cod.cell]
  rw [e1] at s2
  exact k (pt w.heap.size 0) cap ys _ (by omega) (by simpa using g1) rfl rfl s2
theorem ustr {W : World} {Hs : List HP} {E : Nat} {sl : Sl} {l sp : List Int} {f : ByteArray → M β} {Q : β → World → Prop} (s : Ss W (vec (cI .u8) sl l sp :: shpO sl E (l.length + sp.length) :: Hs) w) (hb : ∀ x ∈ l, 0 ≤ x ∧ x ≤ 255) (hl : l.length ≤ 9223372036854775807)
  (k : ∀ w', Ss W Hs w' → WP (f (bstr l)) w' Q) : WP (Lx.ustr E sl.a (sl.len : Int) >>= f) w Q := by
 obtain ⟨e1, e2, e3⟩ := s.vec_len (i := 0) rfl
 by_cases h0 : l = []
 ·subst h0
  refine bind ⟨.empty, w, ?_, ?_⟩
  ·unfold Lx.ustr
   rw [e1]
   simp
  ·have : bstr [] = .empty := rfl
   rw [← this]
   exact k w s.drop.drop
 ·cases ha : sl.a with
  | none => exact absurd (e3 ha).1 h0
  | some a =>
   obtain ⟨a1, a2, cs, fr, h1, h2⟩ := s.shpO_at (i := 1) rfl ha
   have hlp := List.length_pos_iff.2 h0
   have hcells : cs.toList.take l.length = l.map (fun n => Value.int .u8 n) := by
    apply List.ext_getElem?
    intro j
    rw [List.getElem?_take, zD]
    by_cases hj : j < l.length
    ·rw [if_pos hj]
     have hx := za hj
     rw [hx]
     have hc := s.rd_cells (i := 0) rfl (ZcB (c := cI .u8)) hx ha
     have hc2 : rdF w (a.add (j * 1)) 0 1 = some [Value.int .u8 l[j]] := hc
     obtain ⟨x, hx1, hx2⟩ := Option.bind_eq_some_iff.1 hc2
     obtain ⟨q, hq1, hq2⟩ := Option.map_eq_some_iff.1 hx2
     simp only [List.cons.injEq] at hq2
     rw [Nat.mul_one, ZfE a2] at hx1
     unfold World.cell? at hx1
     rw [ZfE rfl] at hx1
     simp only [h1, a1, Option.isSome_none, Bool.false_eq_true, if_false, Nat.zero_add, Nat.add_zero] at hx1
     rw [Option.map_some, ← hq2.1]
     simpa using hx1
    ·rw [if_neg hj, List.getElem?_eq_none (by omega)]
     rfl
   refine bind ⟨bstr l, w.freeze a l.length, ?_, k _ ?_⟩
   ·unfold Lx.ustr
    rw [e1, if_neg (by omega)]
    simp only [h1, zg]
    have hall : (cs.toList.take l.length).all isB = true := by
     rw [hcells, List.all_eq_true]
     intro x hx
     obtain ⟨y, hy, rfl⟩ := List.mem_map.1 hx
     simp only [isB, decide_eq_true_eq]
     exact hb y hy
    rw [if_pos ⟨trivial, a1, a2, by omega, by omega, by omega, hall⟩, hcells]
    congr 3
    simp [bstr, ofB, Function.comp_def]
   ·obtain ⟨b0, k, ⟨g1, g2, ok, l1, l2, hv, hr⟩, hw⟩ := s
    have hp := hv.2.2
    rw [ha] at hp
    have hr : seps Hs g2 := by
     obtain ⟨_, g4, _, _, l4, _, hr⟩ := hr
     exact Zte hr l4
    obtain ⟨x0, hx0⟩ : ∃ x0, ((l ++ sp).flatMap (cI .u8).enc)[0]? = some x0 := ⟨_, za (by rw [ZdW]; simp [cI, Cod.cell]; omega)⟩
    have hB := (hw _ _ _ (l1 _ _ _ (hp.2 0 x0 hx0))).1
    have hoth : ∀ b, b ≠ a.block → (w.freeze a l.length).heap[b]? = w.heap[b]? := fun b hb => by
     rw [ZeP, if_neg (fun e => hb e.1.symm)]
    have hcell : ∀ b o, (w.freeze a l.length).cell? ⟨b, o, none⟩ = w.cell? ⟨b, o, none⟩ := fun b o => by
     unfold World.cell?
     by_cases eb : b = a.block
     ·subst eb
      simp only [ZeP, h1]
      split <;> rename_i hc <;> split at hc <;> simp_all
     ·simp only [hoth b eb]
    obtain ⟨f1, f2, f3, f4⟩ := ZiD w a l.length
    refine ⟨⟨f1.trans b0.os, f2.trans b0.tape, f4.trans b0.output, by rw [ZiC]; exact b0.size, fun b hb => by rw [hoth b (by omega)]; exact b0.block b hb⟩, g2, hr, fun b o x hx => ?_⟩
    have h3 := hw b o x (l2 _ _ _ hx)
    rcases x with ⟨q, x | mo | ⟨T0, n0⟩⟩ <;> cases q
    ·exact (hcell b o).trans h3
    ·obtain ⟨c1, cs', T', c2, c3⟩ := h3
     by_cases eb : b = a.block
     ·subst eb
      rw [h1] at c2
      cases c2
      have ho := (Array.getElem?_eq_some_iff.1 c3).1
      obtain ⟨y, hy⟩ : ∃ y, ((l ++ sp).flatMap (cI .u8).enc)[o]? = some y := ⟨_, za (by rw [ZdW, zc]; simp [cI, Cod.cell]; omega)⟩
      have h5 := hp.2 o y hy
      rw [a1, Nat.zero_add] at h5
      exact absurd (ok _ _ _ _ h5 hx).2 (by simp)
     ·exact ⟨c1, cs', T', (hoth b eb).trans c2, c3⟩
    ·by_cases eb : b = a.block
     ·subst eb
      have := h3.2
      rw [h1] at this
      cases mo <;> cases this
     ·exact ⟨h3.1, (hoth b eb).trans h3.2⟩
    ·by_cases eb : b = a.block
     ·subst eb
      have := h3.2.2
      rw [h1] at this
      cases mo <;> cases this
     ·exact ⟨h3.1, h3.2.1, (hoth b eb).trans h3.2.2⟩
    all_goals
     obtain ⟨c1, cs', fr', c2, c3⟩ := h3
     obtain ⟨lo, hi⟩ := fr'
     obtain ⟨fr2, h9⟩ : ∃ fr2, (w.freeze a l.length).heap[b]? = some (.cells cs' T0 fr2) := by
      rw [ZeP, c2]
      split
      ·exact ⟨_, rfl⟩
      ·exact ⟨_, rfl⟩
     exact ⟨c1, cs', fr2, h9, c3⟩
end WP
end
section
open Go Go.ChangeShapes Go.WideShapes Go.RowKit
def Zfd (P : Program) (T : TypeId) {α : Type} (c : Cod α) (dat : α → DataW Unit) : Prop :=
 ∀ (W : World) (fuel : Nat) (cs : List Value) (x : DataW Unit × List MemPlace), DataW.trod (fun _ => ()) P W 0 (fun _ => true) false fuel T cs = some x → ∃ u, cs = c.enc u ∧ x.1 = dat u
theorem Zfd.int {P : Program} {T : TypeId} {k : IntKind} (h : P.underlying T = some (.int k)) : Zfd P T (cI k) (fun n => .lit (.int k n)) := by
 intro W fuel cs x hx
 obtain ⟨n, rfl, rfl, _⟩ := DataW.trod_int h hx
 exact ⟨n, rfl, rfl⟩
theorem Zfd.iso {P : Program} {T : TypeId} {α β : Type} {c : Cod α} {dat : α → DataW Unit} (h : Zfd P T c dat) (f : β → α) (g : α → β) (h1 : ∀ y, g (f y) = y) (h2 : ∀ x, f (g x) = x) : Zfd P T (c.iso f g h1 h2) (fun y => dat (f y)) := by
 intro W fuel cs x hx
 obtain ⟨u, rfl, hd⟩ := h W fuel cs x hx
 exact ⟨g u, by show c.enc u = c.enc (f (g u)); rw [h2], by show x.1 = dat (f (g u)); rw [h2]; exact hd⟩
def Zlu (P : Program) (o : Nat) (fs : List Field) {α : Type} (c : Cod α) (dat : α → List (DataW Unit)) : Prop :=
 ∀ (W : World) (fuel : Nat) (cs : List Value) (ys : List (DataW Unit × List MemPlace)), ys.length = fs.length → (∀ (i : Nat) f, fs[i]? = some f → DataW.trod (fun _ => ()) P W 0 (fun _ => true) false fuel f.type ((cs.drop f.offset).take (P.cellsOf f.type)) = ys[i]?) → ∃ u, (cs.drop o).take c.n = c.enc u ∧ ys.map (·.1) = dat u
theorem Zlu.one {P : Program} {o : Nat} {f : Field} {α : Type} {c : Cod α} {dat : α → DataW Unit} (h : Zfd P f.type c dat) (ho : f.offset = o) (hc : P.cellsOf f.type = c.n) : Zlu P o [f] c (fun u => [dat u]) := by
 intro W fuel cs ys hl hx
 match ys, hl with
 | [y], _ =>
  have h0 := hx 0 f rfl
  rw [ho, hc] at h0
  obtain ⟨u, e, d⟩ := h W fuel _ _ h0
  exact ⟨u, e, by simp [d]⟩
theorem Zlu.cons {P : Program} {o : Nat} {f : Field} {fs : List Field} {α β : Type} {c : Cod α} {d : Cod β} {dat : α → DataW Unit} {dat' : β → List (DataW Unit)} (h : Zfd P f.type c dat) (ho : f.offset = o) (hc : P.cellsOf f.type = c.n) (hr : Zlu P (o + c.n) fs d dat') : Zlu P o (f :: fs) (c.pair d) (fun u => dat u.1 :: dat' u.2) := by
 intro W fuel cs ys hl hx
 match ys, hl with
 | y :: ys, hl =>
  have h0 := hx 0 f rfl
  rw [ho, hc] at h0
  obtain ⟨u, e1, d1⟩ := h W fuel _ _ h0
  obtain ⟨v, e2, d2⟩ := hr W fuel cs ys (by simpa using hl) (fun i f' hf => by simpa using hx (i + 1) f' (by simpa using hf))
  refine ⟨(u, v), ?_, by simp [d1, d2]⟩
  show (cs.drop o).take (c.n + d.n) = c.enc u ++ d.enc v
  rw [List.take_add, e1, List.drop_drop, e2]
theorem Zfd.struct {P : Program} {T : TypeId} {fs : Array Field} {α : Type} {c : Cod α} {dat : α → List (DataW Unit)} (h : P.underlying T = some (.struct fs)) (hc : P.cellsOf T = c.n) (hf : Zlu P 0 fs.toList c dat) : Zfd P T c (fun u => .agg (dat u)) := by
 intro W fuel cs x hx
 obtain ⟨xs, n, rfl, rfl, hl, hn, he⟩ := DataW.trod_struct h hx
 obtain ⟨u, e, d⟩ := hf W n cs xs (by rw [hn]; simp) (fun i f hi => he i f (by rw [Array.getElem?_toList] at hi; exact hi))
 refine ⟨u, ?_, by rw [d]⟩
 rw [← e, List.drop_zero, zC (by omega)]
theorem Zfd.arr {P : Program} {T e : TypeId} {n : Nat} {α : Type} {c : Cod α} {dat : α → DataW Unit} (h : P.underlying T = some (.array n e)) (hc : P.cellsOf e = c.n) (hC : P.cellsOf T = n * c.n) (hf : Zfd P e c dat) : Zfd P T (c.arr n) (fun v => .agg (v.l.map dat)) := by
 intro W fuel cs x hx
 obtain ⟨xs, m, rfl, rfl, hl, hn, he⟩ := DataW.trod_array h hx
 have key : ∀ k, k ≤ n → ∃ l : List α, l.length = k ∧ cs.take (k * c.n) = l.flatMap c.enc ∧ (xs.take k).map (·.1) = l.map dat := by
  intro k
  induction k with
  | zero => intro _; exact ⟨[], rfl, by simp, by simp⟩
  | succ k ih =>
   intro hk
   obtain ⟨l, l1, l2, l3⟩ := ih (by omega)
   have h2 := he k (by omega)
   rw [hc, za (by omega)] at h2
   obtain ⟨u, e1, d1⟩ := hf W m _ _ h2
   refine ⟨l ++ [u], by simp [l1], ?_, ?_⟩
   ·rw [Nat.succ_mul, List.take_add, l2, e1]; simp
   ·rw [zy, za (by omega), zE, zE, l3]
    simp [d1]
 obtain ⟨l, l1, l2, l3⟩ := key n (zB _)
 refine ⟨⟨l, l1⟩, ?_, ?_⟩
 ·rw [Cod.arr_enc, ← l2, zC (by omega)]
 ·show DataW.agg _ = DataW.agg (l.map dat)
  rw [← l3, zC (by omega)]
theorem Ss.tab {α : Type} {c : Cod α} {u : α} {g : Nat} {W w : World} {Hs : List HP} (s : Ss W Hs w) (h0 : 0 < c.n) (hc : ∀ j, W.cell? ⟨g, j, none⟩ = (c.enc u)[j]?) : Ss W (pts false ⟨g, 0, none⟩ (c.enc u) :: Hs) w := by
 have s1 : Ss W (rdS c false ⟨some ⟨g, 0, none⟩, 1, 1⟩ [u] :: Hs) w := s.addro rfl (zB _) (fun _ => ⟨_, rfl⟩) (fun i x a hx ha => by
  cases ha
  match i, hx with
  | 0, hx =>
   cases hx
   refine Zj8 c.n 0 (c.enc u) (c.len u) (fun j hj => ?_)
   rw [← hc j]
   by_cases e : j = 0
   ·subst e
    simp [Addr.add]
   ·simp [Addr.add, e]
  | i + 1, hx => simp at hx) h0
 refine s1.first (fun h hh => ?_)
 have := hh.2.2.2 ⟨g, 0, none⟩ rfl (by simp)
 simpa using this
end
section
open Go Go.ChangeShapes Go.WideShapes Go.RowKit Go.Deep
def Zur (W : World) (u : Sl) (d : DataW Unit) : Prop := d = .nil ∨ ∃ (a : Addr) (l : List ByteArray) (sp : List (DataW Unit)), u.a = some a ∧ u.len ≤ u.cap ∧ l.length = u.len ∧ d = .slice (l.map fun s => .lit (.string s.data.toList)) sp ∧ ∀ (i : Nat) (x : ByteArray), l[i]? = some x → rdF W (a.add (i * cS.n)) 0 cS.n = some (cS.enc x)
theorem Zl7 {P : Program} {T e : TypeId} (hT : P.underlying T = some (.slice e)) (he : P.underlying e = some .string) (hc : P.cellsOf e = 1) {W : World} {fuel : Nat} {cs : List Value} {x : DataW Unit × List MemPlace} (h : DataW.trod (fun _ => ()) P W 0 (fun _ => true) false fuel T cs = some x) : ∃ u : Sl, cs = cL.enc u ∧ Zur W u x.1 := by
 rcases open_slice hT h with ⟨rfl, rfl⟩ | ⟨a, len, cap, m, n, D, Pl, rfl, _, hl, _, hm, rfl, hi⟩
 ·exact ⟨Sl.nil, rfl, .inl rfl⟩
 ·have hm : m = cap := hm
  have each : ∀ i, ∃ s : ByteArray, i < len → D i = .lit (.string s.data.toList) ∧ rdF W (a.add (i * cS.n)) 0 cS.n = some (cS.enc s) := by
   intro i
   by_cases h1 : i < len
   ·obtain ⟨cs', h2, h3⟩ := hi i (by omega)
    obtain ⟨s, rfl, h4, _⟩ := DataW.trod_string he h3
    refine ⟨s, fun _ => ⟨(Prod.mk.inj h4).1, ?_⟩⟩
    rw [hc] at h2
    obtain ⟨_, h5, h6⟩ := World.cells?_some h2
    exact Zj8 _ _ _ h5 (fun j hj => by rw [Nat.zero_add]; exact h6 j hj)
   ·exact ⟨ByteArray.empty, fun h => absurd h h1⟩
  obtain ⟨f, hf⟩ := Classical.axiomOfChoice each
  refine ⟨⟨some a, len, cap⟩, rfl, .inr ⟨a, (List.range len).map f, (List.range (m - len)).map fun j => D (len + j), rfl, hl, by simp, ?_, fun i x hx => ?_⟩⟩
  ·show DataW.slice _ _ = DataW.slice _ _
   congr 1
   rw [List.map_map]
   refine List.map_congr_left fun i hi' => ?_
   exact (hf i (List.mem_range.1 hi')).1
  ·rw [zD, Option.map_eq_some_iff] at hx
   obtain ⟨k, hk, rfl⟩ := hx
   have hlt := (List.getElem?_eq_some_iff.1 hk).1
   rw [List.length_range] at hlt
   rw [List.getElem?_range hlt] at hk
   cases hk
   exact (hf i hlt).2
theorem Ss.strs {W : World} {Hs : List HP} {u : Sl} {d : DataW Unit} {l : List ByteArray} {g : Nat} (s : Ss W Hs W) (h : Zur W u d) (hd : d = .slice (l.map fun s => .lit (.string s.data.toList)) []) (hc : ∀ j, W.cell? ⟨g, j, none⟩ = (cL.enc u)[j]?) :
  Ss W (pts false ⟨g, 0, none⟩ (cL.enc u) :: rdS cS false u l :: Hs) W := by
 rcases h with h | ⟨a, l', sp, ha, h1, h2, h3, h4⟩
 ·rw [h] at hd
  cases hd
 ·rw [h3] at hd
  have hd := (DataW.slice.inj hd).1
  have hl : l' = l := by
   refine (List.map_inj_right (f := fun s : ByteArray => (DataW.lit (.string s.data.toList) : DataW Unit)) ?_).1 hd
   intro x y e
   have := Lit.string.inj (DataW.lit.inj e)
   exact ByteArray.ext (Array.toList_inj.1 this)
  subst hl
  exact Ss.tab (c := cL) (s.addro h2.symm h1 (fun _ => ⟨a, ha⟩) (fun i x a' hx ha' => by
   rw [ha] at ha'
   cases ha'
   exact h4 i x hx) (by decide)) (by decide) hc
end
end Go.Proofs.YtfnokeoldcfcoaaGreatDoor.Lx
