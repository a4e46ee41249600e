/- The machine 'Lx', part A: programs over a world in which the callers' own variables are husks; codecs of Go's types; typed loads and stores. Plain definitions and lemmas. -/
import Derived.Calls
import Derived.Orders
import Derived.Laws.World
import Derived.Laws.Sem
import Derived.KernelRfl
set_option linter.unusedVariables false
set_option linter.unusedSimpArgs false
namespace Go.Proofs.Ytlkhijflgbobjaa.Lx
open Go
def M (α : Type) : Type := World → Option (α × World)
namespace M
def ret {α : Type} (a : α) : M α := fun w => some (a, w)
def andThen {α β : Type} (x : M α) (f : α → M β) : M β := fun w => (x w).bind fun r => f r.1 r.2
end M
instance : Monad M where
  pure := M.ret
  bind := M.andThen
theorem bind_def {α β : Type} (x : M α) (f : α → M β) (w : World) : (x >>= f) w = (x w).bind fun r => f r.1 r.2 := rfl
theorem pure_def {α : Type} (a : α) (w : World) : (pure a : M α) w = some (a, w) := rfl
theorem bind_some {α β : Type} {x : M α} {f : α → M β} {w : World} {r : β × World} : (x >>= f) w = some r ↔ ∃ a w1, x w = some (a, w1) ∧ f a w1 = some r := by
  rw [bind_def]
  cases h : x w with
  | none => simp
  | some p =>
    obtain ⟨a, w1⟩ := p
    simp only [Option.bind_some, Option.some.injEq, Prod.mk.injEq]
    constructor
    · exact fun h => ⟨a, w1, ⟨rfl, rfl⟩, h⟩
    · rintro ⟨_, _, ⟨rfl, rfl⟩, h⟩
      exact h
def fail {α : Type} : M α := fun _ => none
def chk (p : Prop) [Decidable p] : M Unit := fun w => if p then some ((), w) else none
def Husk (v : World) (b : Nat) : Prop := ∃ T, v.heap[b]? = some (.cells #[] T (0, 0))
structure Sub (v w : World) : Prop where
  os : w.os = v.os
  tape : w.tape = v.tape
  drawn : w.drawn = v.drawn
  output : w.output = v.output
  size : w.heap.size = v.heap.size
  at_ : ∀ b : Nat, w.heap[b]? = v.heap[b]? ∨ ∃ T cs, v.heap[b]? = some (.cells #[] T (0, 0)) ∧ w.heap[b]? = some (.cells cs T (0, 0))
theorem Sub.refl (w : World) : Sub w w := ⟨rfl, rfl, rfl, rfl, rfl, fun _ => .inl rfl⟩
theorem husk_cell {v : World} {a : Addr} {x : Value} (hb : Husk v a.block) (h : v.cell? a = some x) : False := by
  obtain ⟨T, hT⟩ := hb
  unfold World.cell? at h
  rw [hT] at h
  simp at h
theorem Sub.block {v w : World} (h : Sub v w) {b : Nat} (hb : ¬ Husk v b) : w.heap[b]? = v.heap[b]? := by
  rcases h.at_ b with h | ⟨T, cs, h, _⟩
  · exact h
  · exact absurd ⟨T, h⟩ hb
theorem Sub.cell {v w : World} (h : Sub v w) {a : Addr} {x : Value} (hc : v.cell? a = some x) : w.cell? a = some x := by
  have hb : ¬ Husk v a.block := fun hb => husk_cell hb hc
  unfold World.cell? at *
  rw [h.block hb]
  exact hc
theorem Sub.frozen {v w : World} (h : Sub v w) (a : Addr) : w.frozen? a = v.frozen? a := by
  unfold World.frozen?
  rcases h.at_ a.block with e | ⟨T, cs, e, e'⟩
  · rw [e]
  · rw [e, e']
theorem Sub.drew {v w : World} (h : Sub v w) : Sub v.drew w.drew := ⟨h.os, h.tape, congrArg (· + 1) h.drawn, h.output, h.size, h.at_⟩
theorem Sub.alloc {v w : World} (h : Sub v w) (o : Obj) : Sub (v.alloc o) (w.alloc o) := by
  refine ⟨h.os, h.tape, h.drawn, h.output, (by show (w.heap.push _).size = (v.heap.push _).size; rw [Array.size_push, Array.size_push, h.size]), fun b => ?_⟩
  show (w.heap.push _)[b]? = (v.heap.push _)[b]? ∨ ∃ T cs, (v.heap.push _)[b]? = _ ∧ (w.heap.push _)[b]? = _
  simp only [Array.getElem?_push, h.size]
  split
  · exact .inl rfl
  · exact h.at_ b
theorem Sub.slot {v w : World} (h : Sub v w) (cs : Array Value) (T : TypeId) : Sub (v.alloc (.cells #[] T)) (w.alloc (.cells cs T)) := by
  refine ⟨h.os, h.tape, h.drawn, h.output, (by show (w.heap.push _).size = (v.heap.push _).size; rw [Array.size_push, Array.size_push, h.size]), fun b => ?_⟩
  show (w.heap.push _)[b]? = (v.heap.push _)[b]? ∨ ∃ T cs, (v.heap.push _)[b]? = _ ∧ (w.heap.push _)[b]? = _
  simp only [Array.getElem?_push, h.size]
  split
  · exact .inr ⟨T, cs, rfl, rfl⟩
  · exact h.at_ b
theorem heap_setCell (w : World) (a : Addr) (x : Value) (b : Nat) : (w.setCell a x).heap[b]? = if a.block = b then (w.heap[b]?).map (fun | .cells c e fr => .cells (if a.spot.isSome then c else c.setIfInBounds a.off x) e fr | o => o) else w.heap[b]? := by
  simp only [World.setCell, Array.getElem?_modify]
  split <;> rfl
theorem Sub.setCell {v w : World} (h : Sub v w) (a : Addr) (x : Value) (hb : ¬ Husk v a.block) : Sub (v.setCell a x) (w.setCell a x) := by
  refine ⟨h.os, h.tape, h.drawn, h.output, by simp [World.setCell, h.size], fun b => ?_⟩
  rw [heap_setCell, heap_setCell]
  by_cases e : a.block = b
  · subst e
    simp only [if_true, h.block hb]
    exact .inl trivial
  · simp only [if_neg e]
    exact h.at_ b
theorem Sub.inner {v w : World} (h : Sub v w) (a : Addr) (x : Value) (hb : Husk v a.block) : Sub v (w.setCell a x) := by
  refine ⟨h.os, h.tape, h.drawn, h.output, by simp [World.setCell, h.size], fun b => ?_⟩
  rw [heap_setCell]
  by_cases e : a.block = b
  · subst e
    obtain ⟨T, hT⟩ := hb
    simp only [if_true]
    rcases h.at_ a.block with e | ⟨T', cs, e, e'⟩
    · rw [e, hT]; exact .inr ⟨T, _, rfl, rfl⟩
    · rw [e']; exact .inr ⟨T', _, e, rfl⟩
  · simp only [if_neg e]
    exact h.at_ b
theorem Husk.alloc {v : World} {b : Nat} (h : Husk v b) (o : Obj) : (v.alloc o).heap[b]? = v.heap[b]? := by
  obtain ⟨T, hT⟩ := h
  have : b < v.heap.size := (Array.getElem?_eq_some_iff.1 hT).1
  show (v.heap.push o)[b]? = _
  rw [Array.getElem?_push, if_neg (show b ≠ v.heap.size by omega)]
theorem Husk.same {v v' : World} {b : Nat} (h : Husk v b) (e : v'.heap[b]? = v.heap[b]?) : Husk v' b := by
  obtain ⟨T, hT⟩ := h
  exact ⟨T, e.trans hT⟩
theorem Husk.lt {v : World} {b : Nat} (h : Husk v b) : b < v.heap.size := by
  obtain ⟨T, hT⟩ := h
  exact (Array.getElem?_eq_some_iff.1 hT).1
structure Cod (α : Type) where
  n : Nat
  agg : Bool
  enc : α → List Value
  dec : List Value → Option α
  len : ∀ x, (enc x).length = n
  de : ∀ x, dec (enc x) = some x
  ed : ∀ l x, dec l = some x → enc x = l
  flat : ∀ x, ∀ y ∈ enc x, (∀ cs, y ≠ .agg cs) ∧ ∀ cs, y ≠ .tuple cs
  one : agg = false → n = 1
def Cod.val {α : Type} (c : Cod α) (x : α) : Value := if c.agg then .agg (c.enc x).toArray else (c.enc x).headD undef
theorem Cod.cells {α : Type} (c : Cod α) (x : α) : (c.val x).cells = (c.enc x).toArray := by
  unfold Cod.val
  split
  · rfl
  · rename_i h
    have h1 := c.one (by simpa using h)
    have hl := c.len x
    rw [h1] at hl
    match hm : c.enc x, hl with
    | [y], _ =>
      have := c.flat x y (by rw [hm]; simp)
      simp only [List.headD_cons]
      cases y <;> first | rfl | (exact absurd rfl (this.1 _)) | (exact absurd rfl (this.2 _))
theorem Cod.inj {α : Type} (c : Cod α) {x y : α} (h : c.enc x = c.enc y) : x = y := by
  have := c.de x
  rw [h, c.de] at this
  exact (Option.some.inj this).symm
def Cod.cell {α : Type} (f : α → Value) (g : Value → Option α) (h1 : ∀ x, g (f x) = some x) (h2 : ∀ y x, g y = some x → f x = y) (h3 : ∀ x, (∀ cs, f x ≠ .agg cs) ∧ ∀ cs, f x ≠ .tuple cs) : Cod α where
  n := 1
  agg := false
  enc := fun x => [f x]
  dec := fun | [y] => g y | _ => none
  len := fun _ => rfl
  de := h1
  ed := fun l x h => by
    match l, h with
    | [y], h => rw [h2 y x h]
  flat := fun x y hy => by
    simp only [List.mem_singleton] at hy
    subst hy
    exact h3 x
  one := fun _ => rfl
structure Sl where
  a : Option Addr
  len : Nat
  cap : Nat
  deriving DecidableEq, Inhabited
def Sl.nil : Sl := ⟨none, 0, 0⟩
def Sl.v (s : Sl) : Value := .slice s.a s.len s.cap
def cI (k : IntKind) : Cod Int := Cod.cell (fun n => .int k n) (fun | .int k' n => if k' = k then some n else none | _ => none)
  (fun _ => by simp) (fun y x h => by cases y <;> simp at h; obtain ⟨rfl, rfl⟩ := h; rfl) (fun _ => ⟨fun _ h => (by cases h), fun _ h => (by cases h)⟩)
def cB : Cod Bool := Cod.cell (fun b => .bool b) (fun | .bool b => some b | _ => none)
  (fun _ => rfl) (fun y x h => by cases y <;> simp at h; subst h; rfl) (fun _ => ⟨fun _ h => (by cases h), fun _ h => (by cases h)⟩)
def cS : Cod ByteArray := Cod.cell (fun b => .string b) (fun | .string b => some b | _ => none)
  (fun _ => rfl) (fun y x h => by cases y <;> simp at h; subst h; rfl) (fun _ => ⟨fun _ h => (by cases h), fun _ h => (by cases h)⟩)
def cP : Cod (Option Addr) := Cod.cell (fun b => .pointer b) (fun | .pointer b => some b | _ => none)
  (fun _ => rfl) (fun y x h => by cases y <;> simp at h; subst h; rfl) (fun _ => ⟨fun _ h => (by cases h), fun _ h => (by cases h)⟩)
def cM : Cod (Option Nat) := Cod.cell (fun b => .map b) (fun | .map b => some b | _ => none)
  (fun _ => rfl) (fun y x h => by cases y <;> simp at h; subst h; rfl) (fun _ => ⟨fun _ h => (by cases h), fun _ h => (by cases h)⟩)
def cL : Cod Sl := Cod.cell Sl.v (fun | .slice a n c => some ⟨a, n, c⟩ | _ => none)
  (fun _ => rfl) (fun y x h => by cases y <;> simp at h; subst h; rfl) (fun _ => ⟨fun _ h => (by cases h), fun _ h => (by cases h)⟩)
def plainV : Value → Bool
  | .agg _ | .tuple _ => false
  | _ => true
structure Any where
  v : Value
  ok : plainV v = true
theorem Any.eq {a b : Any} (h : a.v = b.v) : a = b := by cases a; cases b; cases h; rfl
def Cod.unit : Cod Unit where
  n := 0
  agg := true
  enc := fun _ => []
  dec := fun | [] => some () | _ => none
  len := fun _ => rfl
  de := fun _ => rfl
  ed := fun l x h => by cases l <;> simp_all
  flat := fun _ _ h => by simp at h
  one := fun h => by cases h
def Cod.pair {α β : Type} (c : Cod α) (d : Cod β) : Cod (α × β) where
  n := c.n + d.n
  agg := true
  enc := fun x => c.enc x.1 ++ d.enc x.2
  dec := fun l => (c.dec (l.take c.n)).bind fun a => (d.dec (l.drop c.n)).map fun b => (a, b)
  len := fun x => by simp [c.len, d.len]
  de := fun x => by
    rw [List.take_left' (c.len _), List.drop_left' (c.len _), c.de, d.de]
    rfl
  ed := fun l x h => by
    obtain ⟨a, h1, h2⟩ := Option.bind_eq_some_iff.1 h
    obtain ⟨b, h3, rfl⟩ := Option.map_eq_some_iff.1 h2
    show c.enc a ++ d.enc b = l
    rw [c.ed _ _ h1, d.ed _ _ h3, List.take_append_drop]
  flat := fun x y hy => by
    rcases List.mem_append.1 hy with h | h
    · exact c.flat _ _ h
    · exact d.flat _ _ h
  one := fun h => by cases h
def Cod.iso {α β : Type} (c : Cod α) (f : β → α) (g : α → β) (h1 : ∀ y, g (f y) = y) (h2 : ∀ x, f (g x) = x) : Cod β where
  n := c.n
  agg := true
  enc := fun y => c.enc (f y)
  dec := fun l => (c.dec l).map g
  len := fun y => c.len _
  de := fun y => by rw [c.de]; simp [h1]
  ed := fun l y h => by
    obtain ⟨x, hx, rfl⟩ := Option.map_eq_some_iff.1 h
    rw [h2]
    exact c.ed _ _ hx
  flat := fun y => c.flat _
  one := fun h => by cases h
structure Vec (α : Type) (n : Nat) where
  l : List α
  h : l.length = n
  deriving DecidableEq
theorem Vec.eq {α : Type} {n : Nat} {x y : Vec α n} (h : x.l = y.l) : x = y := by cases x; cases y; cases h; rfl
def Vec.rep {α : Type} (n : Nat) (z : α) : Vec α n := ⟨List.replicate n z, by simp⟩
def Vec.g {α : Type} {n : Nat} (v : Vec α n) (i : Int) (z : α) : α := v.l.getD i.toNat z
def Vec.s {α : Type} {n : Nat} (v : Vec α n) (i : Int) (x : α) : Vec α n := ⟨v.l.set i.toNat x, by simp [v.h]⟩
instance {α : Type} [Inhabited α] {n : Nat} : Inhabited (Vec α n) := ⟨Vec.rep n default⟩
def Cod.arr {α : Type} (c : Cod α) : (n : Nat) → Cod (Vec α n)
  | 0 => Cod.unit.iso (fun _ => ()) (fun _ => ⟨[], rfl⟩) (fun y => by obtain ⟨l, h⟩ := y; cases l; rfl; cases h) (fun _ => rfl)
  | n + 1 => (c.pair (c.arr n)).iso (fun v => (v.l.head (by intro h; have := v.h; simp [h] at this), ⟨v.l.tail, by simp [v.h]⟩)) (fun p => ⟨p.1 :: p.2.l, by simp [p.2.h]⟩)
      (fun y => by obtain ⟨l, h⟩ := y; cases l; cases h; rfl) (fun _ => rfl)
theorem Cod.arr_n {α : Type} (c : Cod α) (n : Nat) : (c.arr n).n = n * c.n := by
  induction n with
  | zero => simp [Cod.arr, Cod.iso, Cod.unit]
  | succ n ih =>
    show c.n + (c.arr n).n = _
    rw [ih, Nat.succ_mul, Nat.add_comm]
theorem Cod.arr_enc {α : Type} (c : Cod α) (n : Nat) (v : Vec α n) : (c.arr n).enc v = v.l.flatMap c.enc := by
  induction n with
  | zero =>
    obtain ⟨l, h⟩ := v
    cases l
    · rfl
    · simp at h
  | succ n ih =>
    obtain ⟨l, h⟩ := v
    cases l with
    | nil => simp at h
    | cons x l =>
      show c.enc x ++ (c.arr n).enc _ = _
      rw [ih]
      simp
def At (l : List Value) (o : Nat) (m : List Value) : Prop := ∃ p s, l = p ++ m ++ s ∧ p.length = o
def Upd (l : List Value) (o : Nat) (m l' : List Value) : Prop := ∃ p q s, l = p ++ q ++ s ∧ p.length = o ∧ q.length = m.length ∧ l' = p ++ m ++ s
theorem At.whole (l : List Value) : At l 0 l := ⟨[], [], by simp⟩
theorem At.trans {l m k : List Value} {o o' : Nat} (h : At l o m) (h' : At m o' k) : At l (o + o') k := by
  obtain ⟨p, s, rfl, rfl⟩ := h
  obtain ⟨p', s', rfl, rfl⟩ := h'
  exact ⟨p ++ p', s' ++ s, by simp, by simp⟩
theorem Upd.whole {l m : List Value} (h : l.length = m.length) : Upd l 0 m m := ⟨[], l, [], by simp, rfl, h, by simp⟩
theorem Upd.trans {l m k m' l' : List Value} {o o' : Nat} (h : At l o m) (h' : Upd m o' k m') (hl : Upd l o m' l') : Upd l (o + o') k l' := by
  obtain ⟨p, q, s, rfl, rfl, hq, rfl⟩ := hl
  obtain ⟨p1, s1, he, hp1⟩ := h
  obtain ⟨p', q', s', rfl, rfl, hq', rfl⟩ := h'
  have hlen : q.length = (p' ++ q' ++ s').length := by simp [hq, hq']
  have h1 : p ++ (q ++ s) = p1 ++ ((p' ++ q' ++ s') ++ s1) := by simpa using he
  obtain ⟨rfl, h2⟩ := List.append_inj h1 hp1.symm
  obtain ⟨rfl, rfl⟩ := List.append_inj h2 hlen
  exact ⟨p ++ p', q', s' ++ s, by simp, by simp, hq', by simp⟩
section
variable {α β : Type} {c : Cod α} {d : Cod β}
theorem At.fst {x : α × β} : At ((c.pair d).enc x) 0 (c.enc x.1) := ⟨[], d.enc x.2, by simp [Cod.pair], rfl⟩
theorem At.snd {x : α × β} {o : Nat} {m : List Value} (h : At (d.enc x.2) o m) : At ((c.pair d).enc x) (c.n + o) m := by
  obtain ⟨p, s, he, rfl⟩ := h
  exact ⟨c.enc x.1 ++ p, s, by simp [Cod.pair, he], by simp [c.len]⟩
theorem At.last {x : α × β} : At ((c.pair d).enc x) c.n (d.enc x.2) := ⟨c.enc x.1, [], by simp [Cod.pair], c.len _⟩
theorem Upd.fst {x : α × β} {y : α} : Upd ((c.pair d).enc x) 0 (c.enc y) ((c.pair d).enc (y, x.2)) := ⟨[], c.enc x.1, d.enc x.2, by simp [Cod.pair], rfl, by rw [c.len, c.len], by simp [Cod.pair]⟩
theorem Upd.snd {x : α × β} {o : Nat} {m : List Value} {y : β} (h : Upd (d.enc x.2) o m (d.enc y)) : Upd ((c.pair d).enc x) (c.n + o) m ((c.pair d).enc (x.1, y)) := by
  obtain ⟨p, q, s, he, rfl, hq, he'⟩ := h
  exact ⟨c.enc x.1 ++ p, q, s, by simp [Cod.pair, he], by simp [c.len], hq, by simp [Cod.pair, he']⟩
theorem Upd.last {x : α × β} {y : β} : Upd ((c.pair d).enc x) c.n (d.enc y) ((c.pair d).enc (x.1, y)) := ⟨c.enc x.1, d.enc x.2, [], by simp [Cod.pair], c.len _, by rw [d.len, d.len], by simp [Cod.pair]⟩
theorem flatMap_at (c : Cod α) : ∀ (l : List α) (i : Nat) (z : α), i < l.length → At (l.flatMap c.enc) (i * c.n) (c.enc (l.getD i z))
  | x :: l, 0, z, _ => ⟨[], l.flatMap c.enc, by simp, by simp⟩
  | x :: l, i + 1, z, h => by
    obtain ⟨p, s, he, hp⟩ := flatMap_at c l i z (by simpa using h)
    refine ⟨c.enc x ++ p, s, ?_, by simp [c.len, hp, Nat.succ_mul, Nat.add_comm]⟩
    simp only [List.flatMap_cons, List.getD_cons_succ]
    rw [he]
    simp
theorem flatMap_upd (c : Cod α) : ∀ (l : List α) (i : Nat) (y : α), i < l.length → Upd (l.flatMap c.enc) (i * c.n) (c.enc y) ((l.set i y).flatMap c.enc)
  | x :: l, 0, y, _ => ⟨[], c.enc x, l.flatMap c.enc, by simp, by simp, by rw [c.len, c.len], by simp⟩
  | x :: l, i + 1, y, h => by
    obtain ⟨p, q, s, he, hp, hq, he'⟩ := flatMap_upd c l i y (by simpa using h)
    refine ⟨c.enc x ++ p, q, s, ?_, by simp [c.len, hp, Nat.succ_mul, Nat.add_comm], hq, ?_⟩
    · simp only [List.flatMap_cons]; rw [he]; simp
    · simp only [List.set_cons_succ, List.flatMap_cons]; rw [he']; simp
theorem At.arr {n : Nat} {v : Vec α n} {i : Int} {z : α} (h0 : 0 ≤ i) (h1 : i < n) : At ((c.arr n).enc v) (i.toNat * c.n) (c.enc (v.g i z)) := by
  rw [Cod.arr_enc]
  exact flatMap_at c v.l _ z (by rw [v.h]; omega)
theorem Upd.arr {n : Nat} {v : Vec α n} {i : Int} {y : α} (h0 : 0 ≤ i) (h1 : i < n) : Upd ((c.arr n).enc v) (i.toNat * c.n) (c.enc y) ((c.arr n).enc (v.s i y)) := by
  rw [Cod.arr_enc, Cod.arr_enc]
  exact flatMap_upd c v.l _ y (by rw [v.h]; omega)
end
theorem At.get {l m : List Value} {o : Nat} (h : At l o m) (i : Nat) (hi : i < m.length) : l[o + i]? = m[i]? := by
  obtain ⟨p, s, rfl, rfl⟩ := h
  rw [List.append_assoc, List.getElem?_append_right (by omega), List.getElem?_append_left (by omega)]
  simp
def rdF (v : World) (a : Addr) : Nat → Nat → Option (List Value)
  | _, 0 => some []
  | i, n + 1 => (v.cell? (a.add i)).bind fun x => (rdF v a (i + 1) n).map (x :: ·)
def ld {α : Type} (c : Cod α) (a : Addr) : M α := fun v => (rdF v a 0 c.n).bind fun l => (c.dec l).map fun x => (x, v)
def wrF (v : World) (a : Addr) : Nat → List Value → Option World
  | _, [] => some v
  | i, x :: r => if (v.cell? (a.add i)).isSome && !v.frozen? (a.add i) then wrF (v.setCell (a.add i) x) a (i + 1) r else none
def st {α : Type} (c : Cod α) (a : Addr) (x : α) : M Unit := fun v => (wrF v a 0 (c.enc x)).map fun v' => ((), v')
def newv {α : Type} (T : TypeId) (c : Cod α) (x : α) : M Nat := fun v => some (v.heap.size, v.alloc (.cells (c.enc x).toArray T))
def slot (T : TypeId) : M Nat := fun v => some (v.heap.size, v.alloc (.cells #[] T))
def draw : M Unit := fun v => some ((), v.drew)
def nilck : Option Addr → M Addr
  | some a => pure a
  | none => fail
def idx (p : Option Addr) (n : Nat) (i : Int) (size : Nat) : M Addr := fun v =>
  match p with
  | some a => if 0 ≤ i ∧ i < n then some (a.add (i.toNat * size), v) else none
  | none => none
def pt (b o : Nat) : Addr := ⟨b, o, none⟩
theorem pt_add (b o n : Nat) : (pt b o).add n = pt b (o + n) := by
  unfold Addr.add pt
  split <;> simp_all
theorem loadCells_run (P : Program) (w : World) (a : Addr) : ∀ (n i : Nat) (acc : Array Value) (l : List Value), rdF w a i n = some l → (loadCellsFrom a i n acc).run P w = .ok (acc ++ l.toArray) w
  | 0, i, acc, l, h => by
    simp only [rdF, Option.some.injEq] at h
    subst h
    simp [loadCellsFrom, pure, Sem.run]
  | n + 1, i, acc, l, h => by
    obtain ⟨x, hx, h2⟩ := Option.bind_eq_some_iff.1 h
    obtain ⟨l', hl', rfl⟩ := Option.map_eq_some_iff.1 h2
    simp only [loadCellsFrom, load, bind, Sem.bind, Sem.run, hx]
    rw [loadCells_run P w a n (i + 1) _ _ hl']
    simp
theorem rdF_sub {v w : World} (h : Sub v w) (a : Addr) : ∀ (n i : Nat) (l : List Value), rdF v a i n = some l → rdF w a i n = some l
  | 0, i, l, e => e
  | n + 1, i, l, e => by
    obtain ⟨x, hx, h2⟩ := Option.bind_eq_some_iff.1 e
    obtain ⟨l', hl', rfl⟩ := Option.map_eq_some_iff.1 h2
    simp only [rdF, h.cell hx, rdF_sub h a n (i + 1) _ hl']
    rfl
def aggD : TypeDesc → Bool
  | .struct _ => true
  | .array _ _ => true
  | _ => false
structure Ty (P : Program) (T : TypeId) {α : Type} (c : Cod α) (z : α) : Prop where
  under : (P.underlying T).map aggD = some c.agg
  info : (P.info? T).map (fun i => (i.size, i.zero)) = some (c.n, some (c.val z))
theorem isAgg_run {P : Program} {T : TypeId} {α : Type} {c : Cod α} {z : α} (h : Ty P T c z) (w : World) : (isAgg T).run P w = .ok c.agg w := by
  obtain ⟨d, hd, he⟩ := Option.map_eq_some_iff.1 h.under
  rw [← he]
  simp only [isAgg, underlying, program, bind, Sem.bind, Sem.run, hd]
  cases d <;> rfl
theorem sizeOf_run {P : Program} {T : TypeId} {α : Type} {c : Cod α} {z : α} (h : Ty P T c z) (w : World) : (sizeOf T).run P w = .ok c.n w := by
  obtain ⟨i, hi, he⟩ := Option.map_eq_some_iff.1 h.info
  simp only [Prod.mk.injEq] at he
  simp [sizeOf, typeInfo, program, bind, Sem.bind, Sem.run, hi, pure, he.1]
end Go.Proofs.Ytlkhijflgbobjaa.Lx
