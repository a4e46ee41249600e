/- The machine 'Lx', what programs of the M-world answer: rules for each word of the language (no Go program in sight). -/
import Derived.Test.YtlkhijflgbobjaaLxI
import Derived.Below
set_option linter.unusedVariables false
set_option linter.unusedSimpArgs false
namespace Go.Proofs.Ytlkhijflgbobjaa.Lx
open Go Go.RowKit
def WP {α : Type} (x : M α) (w : World) (Q : α → World → Prop) : Prop := ∃ r w', x w = some (r, w') ∧ Q r w'
namespace WP
variable {α β : Type} {w : World}
theorem ret {a : α} {Q : α → World → Prop} (h : Q a w) : WP (pure a) w Q := ⟨a, w, rfl, h⟩
theorem mono {x : M α} {Q R : α → World → Prop} (h : WP x w Q) (k : ∀ a w', Q a w' → R a w') : WP x w R := by
  obtain ⟨a, w', h1, h2⟩ := h
  exact ⟨a, w', h1, k a w' h2⟩
theorem bind {x : M α} {f : α → M β} {Q : β → World → Prop} (h : WP x w (fun a w' => WP (f a) w' Q)) : WP (x >>= f) w Q := by
  obtain ⟨a, w', h1, b, w'', h2, h3⟩ := h
  exact ⟨b, w'', by rw [bind_def, h1]; exact h2, h3⟩
theorem step {x : M α} {f : α → M β} {Q : β → World → Prop} {R : α → World → Prop} (h : WP x w R) (k : ∀ a w', R a w' → WP (f a) w' Q) : WP (x >>= f) w Q := bind (h.mono k)
theorem chk {p : Prop} [Decidable p] {f : Unit → M β} {Q : β → World → Prop} (hp : p) (h : WP (f ()) w Q) : WP (Lx.chk p >>= f) w Q :=
  bind ⟨(), w, by simp [Lx.chk, hp], h⟩
theorem draw {f : Unit → M β} {Q : β → World → Prop} (h : WP (f ()) w.drew Q) : WP (Lx.draw >>= f) w Q := bind ⟨(), w.drew, rfl, h⟩
theorem nilck {a : Addr} {f : Addr → M β} {Q : β → World → Prop} (h : WP (f a) w Q) : WP (Lx.nilck (some a) >>= f) w Q := bind ⟨a, w, rfl, h⟩
theorem idx {a : Addr} {n sz : Nat} {i : Int} {f : Addr → M β} {Q : β → World → Prop} (h0 : 0 ≤ i) (h1 : i < n) (h : WP (f (a.add (i.toNat * sz))) w Q) : WP (Lx.idx (some a) n i sz >>= f) w Q :=
  bind ⟨_, w, by simp [Lx.idx, h0, h1], h⟩
theorem slot {T : TypeId} {f : Nat → M β} {Q : β → World → Prop} (h : WP (f w.heap.size) (w.alloc (.cells #[] T)) Q) : WP (Lx.slot T >>= f) w Q := bind ⟨_, _, rfl, h⟩
theorem ite {p : Prop} [Decidable p] {x y : M α} {Q : α → World → Prop} (h1 : p → WP x w Q) (h0 : ¬ p → WP y w Q) : WP (if p then x else y) w Q := by
  split
  · exact h1 ‹_›
  · exact h0 ‹_›
def Rd {σ : Type} (N : σ → World → Prop) (D : β → World → Prop) : LS σ β → World → Prop
  | .next s, w => N s w
  | .done b, w => D b w
theorem next {σ : Type} {N : σ → World → Prop} {D : β → World → Prop} {s : σ} (h : N s w) : WP (pure (LS.next s)) w (Rd N D) := ret h
theorem done {σ : Type} {N : σ → World → Prop} {D : β → World → Prop} {b : β} (h : D b w) : WP (pure (LS.done b) : M (LS σ β)) w (Rd N D) := ret h
theorem loopN {σ : Type} {G : σ → M (LS σ β)} (I : σ → World → Prop) (μ : σ → World → Nat) {Q : β → World → Prop}
    (hs : ∀ s w, I s w → WP (G s) w (Rd (fun s' w' => I s' w' ∧ μ s' w' < μ s w) Q)) : ∀ (n : Nat) (s : σ) (w : World), I s w → μ s w < n → WP (Lx.loopN G n s) w Q
  | 0, s, w, _, hn => absurd hn (by omega)
  | n + 1, s, w, hI, hn => by
    obtain ⟨q, w1, h1, h2⟩ := hs s w hI
    cases q with
    | next s' =>
      obtain ⟨r, w2, h3, h4⟩ := loopN I μ hs n s' w1 h2.1 (by have := h2.2; omega)
      exact ⟨r, w2, bind_some.2 ⟨_, _, h1, h3⟩, h4⟩
    | done b => exact ⟨b, w1, bind_some.2 ⟨_, _, h1, rfl⟩, h2⟩
theorem loop {σ : Type} {G : σ → M (LS σ β)} (I : σ → World → Prop) (μ : σ → World → Nat) {Q : β → World → Prop} {s : σ} (hI : I s w)
    (hs : ∀ s w, I s w → WP (G s) w (Rd (fun s' w' => I s' w' ∧ μ s' w' < μ s w) Q)) : WP (loopM G s) w Q := by
  obtain ⟨r, w', h1, h2⟩ := loopN I μ hs (μ s w + 1) s w hI (by omega)
  exact ⟨r, w', loopM_of h1, h2⟩
end WP
theorem below_alloc {w : World} (o : Obj) : Below w.heap.size w (w.alloc o) := ⟨rfl, rfl, rfl, by show _ ≤ (w.heap.push o).size; simp, fun k hk => by
  show (w.heap.push o)[k]? = _
  rw [Array.getElem?_push, if_neg (by omega)]⟩
theorem below_less {B B' : Nat} {w w' : World} (h : Below B w w') (hb : B' ≤ B) : Below B' w w' := ⟨h.os, h.tape, h.output, h.size, fun k hk => h.block k (by omega)⟩
theorem wrap_i64 {n : Int} (h : -9223372036854775808 ≤ n) (h' : n ≤ 9223372036854775807) : IntKind.wrap .i64 n = n := by
  simp [IntKind.wrap, IntKind.bits, IntKind.signed]
  split <;> omega
end Go.Proofs.Ytlkhijflgbobjaa.Lx
