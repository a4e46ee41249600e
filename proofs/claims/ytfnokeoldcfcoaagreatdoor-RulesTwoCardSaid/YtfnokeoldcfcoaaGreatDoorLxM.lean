/- The machine 'Lx', part A: programs over a world in ZxH the callers' own variables are husks; codecs of Go's types; typed loads and stores. Plain definitions and lemmas. -/
import Derived.Calls
import Derived.Orders
import Derived.Laws.World
import Derived.Laws.Sem
import Derived.KernelRfl
import Derived.OrdersIn
import Derived.RangeFuncRecord
import Derived.Laws.StructEq
import Derived.ChangeKeysEq
import Derived.Laws.IdiomRangeMap
import Derived.Lib.Bytealg
set_option linter.unusedSectionVars false
set_option linter.unusedSimpArgs false
set_option linter.unusedVariables false
namespace Go.Proofs.YtfnokeoldcfcoaaGreatDoor.Lx
section
open Go
abbrev za := @List.getElem?_eq_getElem
abbrev zb := @decide_eq_true
abbrev zc := @List.length_append
abbrev zd := @of_decide_eq_true
abbrev ze := @decide_eq_true_iff
abbrev zf := @List.length_cons
abbrev zg := @Int.toNat_natCast
abbrev zh := @decide_eq_false
abbrev zi := @List.length_nil
abbrev zj := @Bool.eq_iff_iff
abbrev zk := @List.mem_of_getElem?
abbrev zl := @List.length_map
abbrev zm := @List.length_take
abbrev zo := @List.length_singleton
abbrev zq := @beq_iff_eq
abbrev zt := @Option.some.injEq
abbrev zu := @List.append_assoc
abbrev zv := @List.flatMap_append
abbrev zw := @List.length_drop
abbrev zy := @List.take_add_one
abbrev zA := @Prod.mk.injEq
abbrev zB := @Nat.le_refl
abbrev zC := @List.take_of_length_le
abbrev zD := @List.getElem?_map
abbrev zE := @List.map_append
abbrev zF := @Nat.zero_le
abbrev zG := @List.mem_singleton
abbrev zH := @List.getElem?_append_left
abbrev zI := @List.take_length
abbrev zJ := @List.append_nil
abbrev zL := @Decidable.byContradiction
abbrev zN := @List.nil_append
abbrev zO := @List.mem_cons_of_mem
abbrev zQ := @List.drop_eq_getElem_cons
abbrev zR := @List.getElem?_append_right
abbrev zS := @List.length_set
abbrev zT := @List.length_replicate
abbrev zU := @List.mem_cons
abbrev zV := @List.cons_append
abbrev zW := @List.mem_append
abbrev zX := @decide_eq_false_iff_not
abbrev zY := @List.drop_length
def M (α : Type) : Type := World → Option (α × World)
namespace M
section
def ret {α : Type} (a : α) : M α := fun w => some (a, w)
def andThen {α β : Type} (x : M α) (f : α → M β) : M β := fun w => (x w).bind fun r => f r.1 r.2
end
end M
instance : Monad M where
 pure := M.ret
 bind := M.andThen
theorem Zkr {α β : Type} (x : M α) (f : α → M β) (w : World) : (x >>= f) w = (x w).bind fun r => f r.1 r.2 := rfl
theorem pure_def {α : Type} (a : α) (w : World) : (pure a : M α) w = some (a, w) := rfl
theorem bind_some {α β : Type} {x : M α} {f : α → M β} {w : World} {r : β × World} : (x >>= f) w = some r ↔ ∃ a w1, x w = some (a, w1) ∧ f a w1 = some r := by
 rw [Zkr]
 cases h : x w with
 | none => simp
 | some p =>
  obtain ⟨a, w1⟩ := p
  simp only [Option.bind_some, Option.some.injEq, Prod.mk.injEq]
  constructor
  ·exact fun h => ⟨a, w1, ⟨rfl, rfl⟩, h⟩
  ·rintro ⟨_, _, ⟨rfl, rfl⟩, h⟩
   exact h
def fail {α : Type} : M α := fun _ => none
def chk (p : Prop) [Decidable p] : M Unit := fun w => if p then some ((), w) else none
class Zd5 where
 tab : Nat → Option Loop
 old : Nat
def absL (s : LoopState) (p : Option Code) : Loop := { state := s, pending := p, fn := 0, tmps := #[], params := #[], assign := .skip, body := .skip, defers := 0 }
def Husk (v : World) (b : Nat) : Prop := ∃ T, v.heap[b]? = some (.cells #[] T (0, 0))
section
variable [Zd5]
def Hid (v : World) (b : Nat) : Prop := Husk v b ∨ ∃ r, v.heap[b]? = some (.loop r) ∧ Zd5.old ≤ b
def hidO (T : TypeId) : Obj → Prop
 | .cells _ T' fr => T' = T ∧ fr = (0, 0)
 | .deferred _ => True
 | _ => False
structure Sub (v w : World) : Prop where
 os : w.os = v.os
 tape : w.tape = v.tape
 drawn : w.drawn = v.drawn
 output : w.output = v.output
 size : w.heap.size = v.heap.size
 old : Zd5.old ≤ v.heap.size
 at_ : ∀ b : Nat, w.heap[b]? = v.heap[b]? ∨ (∃ T o, v.heap[b]? = some (.cells #[] T (0, 0)) ∧ w.heap[b]? = some o ∧ hidO T o) ∨ (∃ r r', v.heap[b]? = some (.loop r) ∧ w.heap[b]? = some (.loop r') ∧ Zd5.old ≤ b)
 lp : ∀ l r, Zd5.tab l = some r → Zd5.old ≤ l ∧ ∃ s p, v.heap[l]? = some (.loop (absL s p)) ∧ w.heap[l]? = some (.loop { r with state := s, pending := p })
end
theorem ZtR {v : World} {a : Addr} {x : Value} (hb : Husk v a.block) (h : v.cell? a = some x) : False := by
 obtain ⟨T, hT⟩ := hb
 unfold World.cell? at h
 rw [hT] at h
 simp at h
section
variable [Zd5]
theorem ZrB {v : World} {a : Addr} {x : Value} (hb : Hid v a.block) (h : v.cell? a = some x) : False := by
 rcases hb with hb | ⟨r, hr, _⟩
 ·exact ZtR hb h
 ·unfold World.cell? at h
  rw [hr] at h
  simp at h
theorem Sub.block {v w : World} (h : Sub v w) {b : Nat} (hb : ¬ Hid v b) : w.heap[b]? = v.heap[b]? := by
 rcases h.at_ b with h | ⟨T, cs, h, _⟩ | ⟨r, r', h, _, ho⟩
 ·exact h
 ·exact absurd (.inl ⟨T, h⟩) hb
 ·exact absurd (.inr ⟨r, h, ho⟩) hb
theorem Sub.cell {v w : World} (h : Sub v w) {a : Addr} {x : Value} (hc : v.cell? a = some x) : w.cell? a = some x := by
 have hb : ¬ Hid v a.block := fun hb => ZrB hb hc
 unfold World.cell? at *
 rw [h.block hb]
 exact hc
theorem Sub.frozen {v w : World} (h : Sub v w) (a : Addr) : w.frozen? a = v.frozen? a := by
 unfold World.frozen?
 rcases h.at_ a.block with e | ⟨T, o, e, e', ho⟩ | ⟨r, r', e, e', _⟩
 ·rw [e]
 ·rw [e, e']
  cases o <;> first | (simp only [hidO] at ho; done) | (obtain ⟨rfl, rfl⟩ := ho; rfl) | simp
 ·rw [e, e']
theorem Sub.drew {v w : World} (h : Sub v w) : Sub v.drew w.drew := ⟨h.os, h.tape, congrArg (· + 1) h.drawn, h.output, h.size, h.old, h.at_, h.lp⟩
end
theorem ZiJ (w : World) (o : Obj) (b : Nat) : (w.alloc o).heap[b]? = if b = w.heap.size then some o else w.heap[b]? := by
 show (w.heap.push o)[b]? = _
 rw [Array.getElem?_push]
section
variable [Zd5]
theorem Sub.alloc2 {v w : World} (h : Sub v w) (o o' : Obj) (ho : o' = o ∨ (∃ T, o = .cells #[] T (0, 0) ∧ hidO T o') ∨ ∃ r r', o = .loop r ∧ o' = .loop r') : Sub (v.alloc o) (w.alloc o') := by
 refine ⟨h.os, h.tape, h.drawn, h.output, (by show (w.heap.push _).size = (v.heap.push _).size; rw [Array.size_push, Array.size_push, h.size]), ?_, fun b => ?_, fun l r hr => ?_⟩
 ·show _ ≤ (v.heap.push _).size
  rw [Array.size_push]
  have := h.old
  omega
 ·rw [ZiJ, ZiJ, h.size]
  by_cases e : b = v.heap.size
  ·rw [if_pos e, if_pos e]
   rcases ho with rfl | ⟨T, rfl, h1⟩ | ⟨r, r', rfl, rfl⟩
   ·exact .inl rfl
   ·exact .inr (.inl ⟨T, o', rfl, rfl, h1⟩)
   ·exact .inr (.inr ⟨r, r', rfl, rfl, by rw [e]; exact h.old⟩)
  ·rw [if_neg e, if_neg e]
   exact h.at_ b
 ·obtain ⟨h0, s, p, h1, h2⟩ := h.lp l r hr
  have hlt : l < v.heap.size := (Array.getElem?_eq_some_iff.1 h1).1
  have hne : l ≠ v.heap.size := by omega
  refine ⟨h0, s, p, ?_, ?_⟩
  ·rw [ZiJ, if_neg hne]; exact h1
  ·rw [ZiJ, if_neg (by rw [h.size]; exact hne)]; exact h2
theorem Sub.alloc {v w : World} (h : Sub v w) (o : Obj) : Sub (v.alloc o) (w.alloc o) := h.alloc2 o o (.inl rfl)
theorem Sub.slot {v w : World} (h : Sub v w) (cs : Array Value) (T : TypeId) : Sub (v.alloc (.cells #[] T)) (w.alloc (.cells cs T)) := h.alloc2 _ _ (.inr (.inl ⟨T, rfl, rfl, rfl⟩))
end
theorem Zdz (w : World) (a : Addr) (x : Value) (b : Nat) : (w.setCell a x).heap[b]? = if a.block = b then (w.heap[b]?).map (fun | .cells c e fr => .cells (if a.spot.isSome then c else c.setIfInBounds a.off x) e fr | o => o) else w.heap[b]? := by
 simp only [World.setCell, Array.getElem?_modify]
 split <;> rfl
section
variable [Zd5]
theorem Sub.turn {v w v' w' : World} (h : Sub v w) {r : Nat} (hb : ¬ Hid v r) (f : Option Obj → Option Obj) (h1 : v'.os = v.os ∧ v'.tape = v.tape ∧ v'.drawn = v.drawn ∧ v'.output = v.output ∧ v'.heap.size = v.heap.size) (h2 : w'.os = w.os ∧ w'.tape = w.tape ∧ w'.drawn = w.drawn ∧ w'.output = w.output ∧ w'.heap.size = w.heap.size)
  (hv : ∀ b, v'.heap[b]? = if r = b then f (v.heap[b]?) else v.heap[b]?) (hw : ∀ b, w'.heap[b]? = if r = b then f (w.heap[b]?) else w.heap[b]?) : Sub v' w' := by
 obtain ⟨a1, a2, a3, a4, a5⟩ := h1
 obtain ⟨b1, b2, b3, b4, b5⟩ := h2
 refine ⟨by rw [a1, b1]; exact h.os, by rw [a2, b2]; exact h.tape, by rw [a3, b3]; exact h.drawn, by rw [a4, b4]; exact h.output, by rw [a5, b5]; exact h.size, by rw [a5]; exact h.old, fun b => ?_, fun l r' hr => ?_⟩
 ·rw [hv, hw]
  by_cases e : r = b
  ·subst e
   simp only [if_true, h.block hb]
   exact .inl trivial
  ·simp only [if_neg e]
   exact h.at_ b
 ·obtain ⟨h0, s, p, g1, g2⟩ := h.lp l r' hr
  have hne : ¬ r = l := fun e => hb (.inr ⟨_, e ▸ g1, e ▸ h0⟩)
  refine ⟨h0, s, p, ?_, ?_⟩
  ·rw [hv, if_neg hne]; exact g1
  ·rw [hw, if_neg hne]; exact g2
end
theorem Zk6 (w : World) (a : Addr) (x : Value) : (w.setCell a x).os = w.os ∧ (w.setCell a x).tape = w.tape ∧ (w.setCell a x).drawn = w.drawn ∧ (w.setCell a x).output = w.output ∧ (w.setCell a x).heap.size = w.heap.size := ⟨rfl, rfl, rfl, rfl, by simp [World.setCell]⟩
section
variable [Zd5]
theorem Sub.setCell {v w : World} (h : Sub v w) (a : Addr) (x : Value) (hb : ¬ Hid v a.block) : Sub (v.setCell a x) (w.setCell a x) :=
 h.turn hb _ (Zk6 v a x) (Zk6 w a x) (Zdz v a x) (Zdz w a x)
theorem Sub.inner {v w : World} (h : Sub v w) (a : Addr) (x : Value) (hb : Husk v a.block) : Sub v (w.setCell a x) := by
 refine ⟨h.os, h.tape, h.drawn, h.output, by simp [World.setCell, h.size], h.old, fun b => ?_, fun l r hr => ?_⟩
 ·rw [Zdz]
  by_cases e : a.block = b
  ·subst e
   obtain ⟨T, hT⟩ := hb
   simp only [if_true]
   rcases h.at_ a.block with e | ⟨T', o, e, e', ho⟩ | ⟨r, r', e, _⟩
   ·rw [e, hT]; exact .inr (.inl ⟨T, _, rfl, rfl, rfl, rfl⟩)
   ·rw [e']
    refine .inr (.inl ⟨T', _, e, rfl, ?_⟩)
    cases o <;> first | exact ho | exact ho.elim
   ·rw [hT] at e; cases e
  ·simp only [if_neg e]
   exact h.at_ b
 ·obtain ⟨h0, s, p, g1, g2⟩ := h.lp l r hr
  have hne : ¬ a.block = l := fun e => by
   obtain ⟨T, hT⟩ := hb
   rw [e, g1] at hT
   cases hT
  exact ⟨h0, s, p, g1, by rw [Zdz, if_neg hne]; exact g2⟩
end
theorem Husk.alloc {v : World} {b : Nat} (h : Husk v b) (o : Obj) : (v.alloc o).heap[b]? = v.heap[b]? := by
 obtain ⟨T, hT⟩ := h
 have : b < v.heap.size := (Array.getElem?_eq_some_iff.1 hT).1
 show (v.heap.push o)[b]? = _
 rw [Array.getElem?_push, if_neg (show b ≠ v.heap.size by omega)]
theorem Husk.same {v v' : World} {b : Nat} (h : Husk v b) (e : v'.heap[b]? = v.heap[b]?) : Husk v' b := by
 obtain ⟨T, hT⟩ := h
 exact ⟨T, e.trans hT⟩
theorem Husk.lt {v : World} {b : Nat} (h : Husk v b) : b < v.heap.size := by
 obtain ⟨T, hT⟩ := h
 exact (Array.getElem?_eq_some_iff.1 hT).1
structure Cod (α : Type) where
 n : Nat
 agg : Bool
 enc : α → List Value
 dec : List Value → Option α
 len : ∀ x, (enc x).length = n
 de : ∀ x, dec (enc x) = some x
 ed : ∀ l x, dec l = some x → enc x = l
 flat : ∀ x, ∀ y ∈ enc x, (∀ cs, y ≠ .agg cs) ∧ ∀ cs, y ≠ .tuple cs
 one : agg = false → n = 1
def Cod.val {α : Type} (c : Cod α) (x : α) : Value := if c.agg then .agg (c.enc x).toArray else (c.enc x).headD undef
theorem Cod.cells {α : Type} (c : Cod α) (x : α) : (c.val x).cells = (c.enc x).toArray := by
 unfold Cod.val
 split
 ·rfl
 ·rename_i h
  have h1 := c.one (by simpa using h)
  have hl := c.len x
  rw [h1] at hl
  match hm : c.enc x, hl with
  | [y], _ =>
   have := c.flat x y (by rw [hm]; simp)
   simp only [List.headD_cons]
   cases y <;> first | rfl | (exact absurd rfl (this.1 _)) | (exact absurd rfl (this.2 _))
theorem Cod.inj {α : Type} (c : Cod α) {x y : α} (h : c.enc x = c.enc y) : x = y := by
 have := c.de x
 rw [h, c.de] at this
 exact (Option.some.inj this).symm
def Cod.cell {α : Type} (f : α → Value) (g : Value → Option α) (h1 : ∀ x, g (f x) = some x) (h2 : ∀ y x, g y = some x → f x = y) (h3 : ∀ x, (∀ cs, f x ≠ .agg cs) ∧ ∀ cs, f x ≠ .tuple cs) : Cod α where
 n := 1
 agg := false
 enc := fun x => [f x]
 dec := fun | [y] => g y | _ => none
 len := fun _ => rfl
 de := h1
 ed := fun l x h => by
  match l, h with
  | [y], h => rw [h2 y x h]
 flat := fun x y hy => by
  simp only [List.mem_singleton] at hy
  subst hy
  exact h3 x
 one := fun _ => rfl
structure Sl where
 a : Option Addr
 len : Nat
 cap : Nat
 deriving DecidableEq, Inhabited
def Sl.nil : Sl := ⟨none, 0, 0⟩
def Sl.v (s : Sl) : Value := .slice s.a s.len s.cap
def cI (k : IntKind) : Cod Int := Cod.cell (fun n => .int k n) (fun | .int k' n => if k' = k then some n else none | _ => none)
 (fun _ => by simp) (fun y x h => by cases y <;> simp at h; obtain ⟨rfl, rfl⟩ := h; rfl) (fun _ => ⟨fun _ h => (by cases h), fun _ h => (by cases h)⟩)
def cB : Cod Bool := Cod.cell (fun b => .bool b) (fun | .bool b => some b | _ => none)
 (fun _ => rfl) (fun y x h => by cases y <;> simp at h; subst h; rfl) (fun _ => ⟨fun _ h => (by cases h), fun _ h => (by cases h)⟩)
def cS : Cod ByteArray := Cod.cell (fun b => .string b) (fun | .string b => some b | _ => none)
 (fun _ => rfl) (fun y x h => by cases y <;> simp at h; subst h; rfl) (fun _ => ⟨fun _ h => (by cases h), fun _ h => (by cases h)⟩)
def cP : Cod (Option Addr) := Cod.cell (fun b => .pointer b) (fun | .pointer b => some b | _ => none)
 (fun _ => rfl) (fun y x h => by cases y <;> simp at h; subst h; rfl) (fun _ => ⟨fun _ h => (by cases h), fun _ h => (by cases h)⟩)
def cL : Cod Sl := Cod.cell Sl.v (fun | .slice a n c => some ⟨a, n, c⟩ | _ => none)
 (fun _ => rfl) (fun y x h => by cases y <;> simp at h; subst h; rfl) (fun _ => ⟨fun _ h => (by cases h), fun _ h => (by cases h)⟩)
def Zlf : Value → Bool
 | .agg _ | .tuple _ => false
 | _ => true
structure Any where
 v : Value
 ok : Zlf v = true
theorem Any.eq {a b : Any} (h : a.v = b.v) : a = b := by cases a; cases b; cases h; rfl
def cV : Cod Any := Cod.cell (fun x => x.v) (fun y => if h : Zlf y = true then some ⟨y, h⟩ else none)
 (fun x => by simp [x.ok])
 (fun y x h => by
  split at h
  ·cases h; rfl
  ·cases h)
 (fun x => ⟨fun _ h => (by have := x.ok; rw [h] at this; cases this), fun _ h => (by have := x.ok; rw [h] at this; cases this)⟩)
def Cod.unit : Cod Unit where
 n := 0
 agg := true
 enc := fun _ => []
 dec := fun | [] => some () | _ => none
 len := fun _ => rfl
 de := fun _ => rfl
 ed := fun l x h => by cases l <;> simp_all
 flat := fun _ _ h => by simp at h
 one := fun h => by cases h
def Cod.pair {α β : Type} (c : Cod α) (d : Cod β) : Cod (α × β) where
 n := c.n + d.n
 agg := true
 enc := fun x => c.enc x.1 ++ d.enc x.2
 dec := fun l => (c.dec (l.take c.n)).bind fun a => (d.dec (l.drop c.n)).map fun b => (a, b)
 len := fun x => by simp [c.len, d.len]
 de := fun x => by
  rw [List.take_left' (c.len _), List.drop_left' (c.len _), c.de, d.de]
  rfl
 ed := fun l x h => by
  obtain ⟨a, h1, h2⟩ := Option.bind_eq_some_iff.1 h
  obtain ⟨b, h3, rfl⟩ := Option.map_eq_some_iff.1 h2
  show c.enc a ++ d.enc b = l
  rw [c.ed _ _ h1, d.ed _ _ h3, List.take_append_drop]
 flat := fun x y hy => by
  rcases List.mem_append.1 hy with h | h
  ·exact c.flat _ _ h
  ·exact d.flat _ _ h
 one := fun h => by cases h
def Cod.iso {α β : Type} (c : Cod α) (f : β → α) (g : α → β) (h1 : ∀ y, g (f y) = y) (h2 : ∀ x, f (g x) = x) : Cod β where
 n := c.n
 agg := true
 enc := fun y => c.enc (f y)
 dec := fun l => (c.dec l).map g
 len := fun y => c.len _
 de := fun y => by rw [c.de]; simp [h1]
 ed := fun l y h => by
  obtain ⟨x, hx, rfl⟩ := Option.map_eq_some_iff.1 h
  rw [h2]
  exact c.ed _ _ hx
 flat := fun y => c.flat _
 one := fun h => by cases h
structure Vec (α : Type) (n : Nat) where
 l : List α
 h : l.length = n
 deriving DecidableEq
theorem Vec.eq {α : Type} {n : Nat} {x y : Vec α n} (h : x.l = y.l) : x = y := by cases x; cases y; cases h; rfl
def Vec.rep {α : Type} (n : Nat) (z : α) : Vec α n := ⟨List.replicate n z, by simp⟩
def Vec.g {α : Type} {n : Nat} (v : Vec α n) (i : Int) (z : α) : α := v.l.getD i.toNat z
def Vec.s {α : Type} {n : Nat} (v : Vec α n) (i : Int) (x : α) : Vec α n := ⟨v.l.set i.toNat x, by simp [v.h]⟩
instance {α : Type} [Inhabited α] {n : Nat} : Inhabited (Vec α n) := ⟨Vec.rep n default⟩
def Cod.arr {α : Type} (c : Cod α) : (n : Nat) → Cod (Vec α n)
 | 0 => Cod.unit.iso (fun _ => ()) (fun _ => ⟨[], rfl⟩) (fun y => by obtain ⟨l, h⟩ := y; cases l; rfl; cases h) (fun _ => rfl)
 | n + 1 => (c.pair (c.arr n)).iso (fun v => (v.l.head (by intro h; have := v.h; simp [h] at this), ⟨v.l.tail, by simp [v.h]⟩)) (fun p => ⟨p.1 :: p.2.l, by simp [p.2.h]⟩)
   (fun y => by obtain ⟨l, h⟩ := y; cases l; cases h; rfl) (fun _ => rfl)
theorem Cod.arr_n {α : Type} (c : Cod α) (n : Nat) : (c.arr n).n = n * c.n := by
 induction n with
 | zero => simp [Cod.arr, Cod.iso, Cod.unit]
 | succ n ih =>
  show c.n + (c.arr n).n = _
  rw [ih, Nat.succ_mul, Nat.add_comm]
theorem Cod.arr_enc {α : Type} (c : Cod α) (n : Nat) (v : Vec α n) : (c.arr n).enc v = v.l.flatMap c.enc := by
 induction n with
 | zero =>
  obtain ⟨l, h⟩ := v
  cases l
  ·rfl
  ·simp at h
 | succ n ih =>
  obtain ⟨l, h⟩ := v
  cases l with
  | nil => simp at h
  | cons x l =>
   show c.enc x ++ (c.arr n).enc _ = _
   rw [ih]
   simp
def At (l : List Value) (o : Nat) (m : List Value) : Prop := ∃ p s, l = p ++ m ++ s ∧ p.length = o
def Upd (l : List Value) (o : Nat) (m l' : List Value) : Prop := ∃ p q s, l = p ++ q ++ s ∧ p.length = o ∧ q.length = m.length ∧ l' = p ++ m ++ s
theorem At.whole (l : List Value) : At l 0 l := ⟨[], [], by simp⟩
theorem At.trans {l m k : List Value} {o o' : Nat} (h : At l o m) (h' : At m o' k) : At l (o + o') k := by
 obtain ⟨p, s, rfl, rfl⟩ := h
 obtain ⟨p', s', rfl, rfl⟩ := h'
 exact ⟨p ++ p', s' ++ s, by simp, by simp⟩
theorem Upd.whole {l m : List Value} (h : l.length = m.length) : Upd l 0 m m := ⟨[], l, [], by simp, rfl, h, by simp⟩
theorem Upd.trans {l m k m' l' : List Value} {o o' : Nat} (h : At l o m) (h' : Upd m o' k m') (hl : Upd l o m' l') : Upd l (o + o') k l' := by
 obtain ⟨p, q, s, rfl, rfl, hq, rfl⟩ := hl
 obtain ⟨p1, s1, he, hp1⟩ := h
 obtain ⟨p', q', s', rfl, rfl, hq', rfl⟩ := h'
 have hlen : q.length = (p' ++ q' ++ s').length := by simp [hq, hq']
 have h1 : p ++ (q ++ s) = p1 ++ ((p' ++ q' ++ s') ++ s1) := by simpa using he
 obtain ⟨rfl, h2⟩ := List.append_inj h1 hp1.symm
 obtain ⟨rfl, rfl⟩ := List.append_inj h2 hlen
 exact ⟨p ++ p', q', s' ++ s, by simp, by simp, hq', by simp⟩
section
variable {α β : Type} {c : Cod α} {d : Cod β}
theorem At.fst {x : α × β} : At ((c.pair d).enc x) 0 (c.enc x.1) := ⟨[], d.enc x.2, by simp [Cod.pair], rfl⟩
theorem At.snd {x : α × β} {o : Nat} {m : List Value} (h : At (d.enc x.2) o m) : At ((c.pair d).enc x) (c.n + o) m := by
 obtain ⟨p, s, he, rfl⟩ := h
 exact ⟨c.enc x.1 ++ p, s, by simp [Cod.pair, he], by simp [c.len]⟩
theorem At.last {x : α × β} : At ((c.pair d).enc x) c.n (d.enc x.2) := ⟨c.enc x.1, [], by simp [Cod.pair], c.len _⟩
theorem Upd.fst {x : α × β} {y : α} : Upd ((c.pair d).enc x) 0 (c.enc y) ((c.pair d).enc (y, x.2)) := ⟨[], c.enc x.1, d.enc x.2, by simp [Cod.pair], rfl, by rw [c.len, c.len], by simp [Cod.pair]⟩
theorem Upd.snd {x : α × β} {o : Nat} {m : List Value} {y : β} (h : Upd (d.enc x.2) o m (d.enc y)) : Upd ((c.pair d).enc x) (c.n + o) m ((c.pair d).enc (x.1, y)) := by
 obtain ⟨p, q, s, he, rfl, hq, he'⟩ := h
 exact ⟨c.enc x.1 ++ p, q, s, by simp [Cod.pair, he], by simp [c.len], hq, by simp [Cod.pair, he']⟩
theorem Upd.last {x : α × β} {y : β} : Upd ((c.pair d).enc x) c.n (d.enc y) ((c.pair d).enc (x.1, y)) := ⟨c.enc x.1, d.enc x.2, [], by simp [Cod.pair], c.len _, by rw [d.len, d.len], by simp [Cod.pair]⟩
theorem ZiX (c : Cod α) : ∀ (l : List α) (i : Nat) (z : α), i < l.length → At (l.flatMap c.enc) (i * c.n) (c.enc (l.getD i z))
 | x :: l, 0, z, _ => ⟨[], l.flatMap c.enc, by simp, by simp⟩
 | x :: l, i + 1, z, h => by
  obtain ⟨p, s, he, hp⟩ := ZiX c l i z (by simpa using h)
  refine ⟨c.enc x ++ p, s, ?_, by simp [c.len, hp, Nat.succ_mul, Nat.add_comm]⟩
  simp only [List.flatMap_cons, List.getD_cons_succ]
  rw [he]
  simp
theorem ZmF (c : Cod α) : ∀ (l : List α) (i : Nat) (y : α), i < l.length → Upd (l.flatMap c.enc) (i * c.n) (c.enc y) ((l.set i y).flatMap c.enc)
 | x :: l, 0, y, _ => ⟨[], c.enc x, l.flatMap c.enc, by simp, by simp, by rw [c.len, c.len], by simp⟩
 | x :: l, i + 1, y, h => by
  obtain ⟨p, q, s, he, hp, hq, he'⟩ := ZmF c l i y (by simpa using h)
  refine ⟨c.enc x ++ p, q, s, ?_, by simp [c.len, hp, Nat.succ_mul, Nat.add_comm], hq, ?_⟩
  ·simp only [List.flatMap_cons]; rw [he]; simp
  ·simp only [List.set_cons_succ, List.flatMap_cons]; rw [he']; simp
theorem At.arr {n : Nat} {v : Vec α n} {i : Int} {z : α} (h0 : 0 ≤ i) (h1 : i < n) : At ((c.arr n).enc v) (i.toNat * c.n) (c.enc (v.g i z)) := by
 rw [Cod.arr_enc]
 exact ZiX c v.l _ z (by rw [v.h]; omega)
theorem Upd.arr {n : Nat} {v : Vec α n} {i : Int} {y : α} (h0 : 0 ≤ i) (h1 : i < n) : Upd ((c.arr n).enc v) (i.toNat * c.n) (c.enc y) ((c.arr n).enc (v.s i y)) := by
 rw [Cod.arr_enc, Cod.arr_enc]
 exact ZmF c v.l _ y (by rw [v.h]; omega)
end
theorem At.get {l m : List Value} {o : Nat} (h : At l o m) (i : Nat) (hi : i < m.length) : l[o + i]? = m[i]? := by
 obtain ⟨p, s, rfl, rfl⟩ := h
 rw [List.append_assoc, List.getElem?_append_right (by omega), List.getElem?_append_left (by omega)]
 simp
def rdF (v : World) (a : Addr) : Nat → Nat → Option (List Value)
 | _, 0 => some []
 | i, n + 1 => (v.cell? (a.add i)).bind fun x => (rdF v a (i + 1) n).map (x :: ·)
def ld {α : Type} (c : Cod α) (a : Addr) : M α := fun v => (rdF v a 0 c.n).bind fun l => (c.dec l).map fun x => (x, v)
def wrF (v : World) (a : Addr) : Nat → List Value → Option World
 | _, [] => some v
 | i, x :: r => if (v.cell? (a.add i)).isSome && !v.frozen? (a.add i) then wrF (v.setCell (a.add i) x) a (i + 1) r else none
def st {α : Type} (c : Cod α) (a : Addr) (x : α) : M Unit := fun v => (wrF v a 0 (c.enc x)).map fun v' => ((), v')
def newv {α : Type} (T : TypeId) (c : Cod α) (x : α) : M Nat := fun v => some (v.heap.size, v.alloc (.cells (c.enc x).toArray T))
def slot (T : TypeId) : M Nat := fun v => some (v.heap.size, v.alloc (.cells #[] T))
def draw : M Unit := fun v => some ((), v.drew)
def nilck : Option Addr → M Addr
 | some a => pure a
 | none => fail
def idx (p : Option Addr) (n : Nat) (i : Int) (size : Nat) : M Addr := fun v =>
 match p with
 | some a => if 0 ≤ i ∧ i < n then some (a.add (i.toNat * size), v) else none
 | none => none
def pt (b o : Nat) : Addr := ⟨b, o, none⟩
theorem Ztm (b o n : Nat) : (pt b o).add n = pt b (o + n) := by
 unfold Addr.add pt
 split <;> simp_all
theorem Zfx (P : Program) (w : World) (a : Addr) : ∀ (n i : Nat) (acc : Array Value) (l : List Value), rdF w a i n = some l → (loadCellsFrom a i n acc).run P w = .ok (acc ++ l.toArray) w
 | 0, i, acc, l, h => by
  simp only [rdF, Option.some.injEq] at h
  subst h
  simp [loadCellsFrom, pure, Sem.run]
 | n + 1, i, acc, l, h => by
  obtain ⟨x, hx, h2⟩ := Option.bind_eq_some_iff.1 h
  obtain ⟨l', hl', rfl⟩ := Option.map_eq_some_iff.1 h2
  simp only [loadCellsFrom, load, bind, Sem.bind, Sem.run, hx]
  rw [Zfx P w a n (i + 1) _ _ hl']
  simp
theorem Zmh [Zd5] {v w : World} (h : Sub v w) (a : Addr) : ∀ (n i : Nat) (l : List Value), rdF v a i n = some l → rdF w a i n = some l
 | 0, i, l, e => e
 | n + 1, i, l, e => by
  obtain ⟨x, hx, h2⟩ := Option.bind_eq_some_iff.1 e
  obtain ⟨l', hl', rfl⟩ := Option.map_eq_some_iff.1 h2
  simp only [rdF, h.cell hx, Zmh h a n (i + 1) _ hl']
  rfl
def aggD : TypeDesc → Bool
 | .struct _ => true
 | .array _ _ => true
 | _ => false
structure Ty (P : Program) (T : TypeId) {α : Type} (c : Cod α) (z : α) : Prop where
 under : (P.underlying T).map aggD = some c.agg
 info : (P.info? T).map (fun i => (i.size, i.zero)) = some (c.n, some (c.val z))
theorem ZpR {P : Program} {T : TypeId} {α : Type} {c : Cod α} {z : α} (h : Ty P T c z) (w : World) : (isAgg T).run P w = .ok c.agg w := by
 obtain ⟨d, hd, he⟩ := Option.map_eq_some_iff.1 h.under
 rw [← he]
 simp only [isAgg, underlying, program, bind, Sem.bind, Sem.run, hd]
 cases d <;> rfl
theorem ZiU {P : Program} {T : TypeId} {α : Type} {c : Cod α} {z : α} (h : Ty P T c z) (w : World) : (sizeOf T).run P w = .ok c.n w := by
 obtain ⟨i, hi, he⟩ := Option.map_eq_some_iff.1 h.info
 simp only [Prod.mk.injEq] at he
 simp [sizeOf, typeInfo, program, bind, Sem.bind, Sem.run, hi, pure, he.1]
end
section
open Go
section
variable (P : Program)
def Yld (o : Oper) (a : Act) (w : World) (x : Value) (w' : World) : Prop :=
 (execOp a.eval o).run P w = .ok (.value x) w' ∨ ((execOp a.eval o).run P w = .ok .skip w' ∧ x = undef) ∨
 (∃ f args w1, (execOp a.eval o).run P w = .ok (.enter f args) w1 ∧ Calls P f args w1 (fun e w2 => e = .returned x ∧ w2 = w')) ∨
 ∃ l f tmps assign body w1, (execOp a.eval o).run P w = .ok (.round l f tmps assign body) w1 ∧ RoundIn Fence.wide 0 P l f tmps assign body w1 (fun e w2 => e = .returned x ∧ w2 = w')
def wf (ro : Option Nat) : Fence := { fn := fun _ => True, depth := none, alive := false, round := ro }
theorem Zsz {ro : Option Nat} {n : Nat} {f : FuncId} {args : Array Value} {w : World} {R : Ending → World → Prop} (h : Calls P f args w R) : CallsIn (wf ro) n P f args w R := callsIn_wide.2 h
theorem Yld.sem {o : Oper} {a : Act} {w : World} {x : Value} {w' : World} (h : Yld P o a w x w') (ro : Option Nat) : Oper.semAt ro a.eval o = execOp a.eval o := by
 refine Oper.semAt_eq _ _ _ fun c hc => ?_
 have key : ∀ n w1, (execOp a.eval o).run P w = .ok n w1 → ∃ d, n = .defer d := by
  intro n w1 hn
  unfold execOp at hn
  rw [hc] at hn
  simp only [Sem.run_bind, Sem.run_pure] at hn
  cases hr : (resolve a.eval c o.type).run P w with
  | ok d w2 => rw [hr] at hn; simp at hn; exact ⟨_, hn.1.symm⟩
  | halt e w2 => rw [hr] at hn; simp [Result.andThen] at hn
 rcases h with h | ⟨h, _⟩ | ⟨f, args, w1, h, _⟩ | ⟨l, f, tm, as, bd, w1, h, _⟩ <;> obtain ⟨d, hd⟩ := key _ _ h <;> cases hd
variable (ops : Array Oper)
def Zok (i : Nat) (a : Act) (w : World) (a' : Act) (w' : World) : Prop :=
 ∃ o, ops[i]? = some o ∧ ((Region.wanted o (yielded ops a.tmps) = true ∧ ∃ x, Yld P o a w x w' ∧ a' = a.put o.dst x) ∨ (Region.wanted o (yielded ops a.tmps) = false ∧ a' = a.put o.dst undef ∧ w' = w))
theorem Zok.wpOp {ro : Option Nat} {i : Nat} {a a' : Act} {w w' : World} {K : Act → World → Prop} {Q : Exit → Act → World → Prop} (h : Zok P ops i a w a' w') (hK : K a' w') : Go.wpOpIn (wf ro) 0 P ops Q i K a w := by
 obtain ⟨o, ho, ⟨hw, x, hx, rfl⟩ | ⟨hw, rfl, rfl⟩⟩ := h
 ·unfold Go.wpOpIn
  simp only [ho, hw, if_true]
  refine ⟨fun _ _ => trivial, ?_⟩
  show o.uponIn (wf ro) 0 P a K Q ((o.semAt ro a.eval).run P w)
  rw [hx.sem P ro]
  rcases hx with hx | ⟨hx, rfl⟩ | ⟨f, args, w1, hx, hc⟩ | ⟨l, f, tm, as, bd, w1, hx, hc⟩
  ·rw [hx]; exact hK
  ·rw [hx]; exact hK
  ·rw [hx]
   refine ⟨fun h => (by cases h), Zsz P (hc.mono ?_)⟩
   rintro e w2 ⟨rfl, rfl⟩
   exact hK
  ·rw [hx]
   refine ⟨fun h => (by cases h), RoundIn.mono (F := wf ro) hc ?_⟩
   rintro e w2 ⟨rfl, rfl⟩
   exact hK
 ·unfold Go.wpOpIn
  simp only [ho, hw]
  exact ⟨fun _ _ => trivial, hK⟩
def Ends (a' : Act) (w' : World) : Exit → Act → World → Prop := fun e a w => e = .normal ∧ a = a' ∧ w = w'
structure Pd where
 i : Nat
 T : TypeId
 a : Addr
 x : Value
def Pd.ok (p : Pd) (w : World) : Prop := (loadVar p.T p.a).run P w = .ok p.x w
inductive Kd | p | l | w deriving DecidableEq
variable (kd : Nat → Kd)
inductive Ev (i : Nat) (o : Oper) (a : Act) (w : World) : Value → World → List Pd → Prop
 | off (hw : Region.wanted o (yielded ops a.tmps) = false) : Ev i o a w undef w []
 | pure (hk : kd i = .p) (hw : Region.wanted o (yielded ops a.tmps) = true) (x : Value) (h : ∀ w', (execOp a.eval o).run P w' = .ok (.value x) w') : Ev i o a w x w []
 | load (hk : kd i = .l) (hw : Region.wanted o (yielded ops a.tmps) = true) (T : TypeId) (ad : Addr) (x : Value)
   (h : ∀ w', (execOp a.eval o).run P w' = ((loadVar T ad).run P w').andThen fun y w2 => .ok (.value y) w2) (hx : (loadVar T ad).run P w = .ok x w) : Ev i o a w x w [⟨i, T, ad, x⟩]
 | write (hk : kd i = .w) (hw : Region.wanted o (yielded ops a.tmps) = true) (x : Value) (w1 : World) (h : Yld P o a w x w1) : Ev i o a w x w1 []
theorem Ev.step {i : Nat} {o : Oper} {a : Act} {w w1 : World} {x : Value} {pd : List Pd} (ho : ops[i]? = some o) (h : Ev P ops kd i o a w x w1 pd) : Zok P ops i a w (a.put o.dst x) w1 := by
 refine ⟨o, ho, ?_⟩
 cases h with
 | off hw => exact .inr ⟨hw, rfl, rfl⟩
 | pure hk hw x h => exact .inl ⟨hw, _, .inl (h w), rfl⟩
 | load hk hw T ad x h hx => exact .inl ⟨hw, _, .inl (by rw [h, hx]; rfl), rfl⟩
 | write hk hw x w1 h => exact .inl ⟨hw, _, h, rfl⟩
variable (bef : List Nat)
def pre (k i : Nat) : Bool := (bef.getD k 0).testBit i
inductive RR : List Pd → List Nat → Act → World → Act → World → Prop
 | nil (pend : List Pd) (a : Act) (w : World) : RR pend [] a w a w
 | cons {pend : List Pd} {i : Nat} {rest : List Nat} {a : Act} {w : World} {a' : Act} {w' : World} (o : Oper) (ho : ops[i]? = some o) (x : Value) (w1 : World) (pd : List Pd) (h : Ev P ops kd i o a w x w1 pd)
   (hp : kd i = .w → w1 = w ∨ ∀ p ∈ pend, pre bef i p.i = false → p.ok P w1) (hr : RR (pd ++ pend) rest (a.put o.dst x) w1 a' w') : RR pend (i :: rest) a w a' w'
theorem RR.mono {pend pend' : List Pd} {is : List Nat} {a a' : Act} {w w' : World} (h : RR P ops kd bef pend is a w a' w') (hs : ∀ p ∈ pend', p ∈ pend) : RR P ops kd bef pend' is a w a' w' := by
 induction h generalizing pend' with
 | nil => exact .nil _ _ _
 | cons o ho x w1 pd h hp hr ih => exact .cons o ho x w1 pd h (fun hk => (hp hk).imp id (fun hq p hm => hq p (hs p hm))) (ih (fun p hm => by
   rcases List.mem_append.1 hm with h | h
   ·exact List.mem_append_left _ h
   ·exact List.mem_append_right _ (hs p h)))
theorem RR.wpOps {pend : List Pd} {is : List Nat} {a a' : Act} {w w' : World} {ro : Option Nat} (h : RR P ops kd bef pend is a w a' w') : Go.wpOpsIn (wf ro) 0 P ops (Ends a' w') is a w := by
 induction h with
 | nil => exact ⟨rfl, rfl, rfl⟩
 | cons o ho x w1 pd h hp hr ih =>
  rw [wpOpsIn_cons]
  exact Zok.wpOp P ops (Ev.step P ops kd ho h) ih
def okK : Kd → Kd → Bool
 | .p, _ | _, .p | .l, .l | .l, .w => true
 | _, _ => false
def ZpF (o : Oper) : Bool := match o.op with | .select .. => false | _ => true
theorem Zn0 {o : Oper} (h : ZpF o = true) : ∀ cs b, o.op ≠ .select cs b := by
 intro cs b e
 unfold ZpF at h
 rw [e] at h
 cases h
theorem Yld.put {o : Oper} {a : Act} {w w' : World} {x : Value} {d : Option Tmp} {y : Value} (hs : ZpF o = true) (hd : ∀ t, d = some t → t ∉ o.looksAt ops) : Yld P o (a.put d y) w x w' ↔ Yld P o a w x w' := by
 unfold Yld
 rw [execOp_put (ops := ops) o (Zn0 hs) a d y hd]
theorem Ev.put {i : Nat} {o : Oper} {a : Act} {w w1 : World} {x : Value} {pd : List Pd} {d : Option Tmp} {y : Value} (hs : ZpF o = true) (hd : ∀ t, d = some t → t ∉ o.looksAt ops) :
  Ev P ops kd i o (a.put d y) w x w1 pd ↔ Ev P ops kd i o a w x w1 pd := by
 have he := execOp_put (ops := ops) o (Zn0 hs) a d y hd
 have hw := wanted_put (ops := ops) o a d y hd
 constructor
 ·intro h
  cases h with
  | off h => exact .off (hw ▸ h)
  | pure hk h x h1 => exact .pure hk (hw ▸ h) x (fun w' => he ▸ h1 w')
  | load hk h T ad x h1 hx => exact .load hk (hw ▸ h) T ad x (fun w' => he ▸ h1 w') hx
  | write hk h x w1 h1 => exact .write hk (hw ▸ h) x w1 ((Yld.put P ops hs hd).1 h1)
 ·intro h
  cases h with
  | off h => exact .off (by rw [hw]; exact h)
  | pure hk h x h1 => exact .pure hk (by rw [hw]; exact h) x (fun w' => by rw [he]; exact h1 w')
  | load hk h T ad x h1 hx => exact .load hk (by rw [hw]; exact h) T ad x (fun w' => by rw [he]; exact h1 w') hx
  | write hk h x w1 h1 => exact .write hk (by rw [hw]; exact h) x w1 ((Yld.put P ops hs hd).2 h1)
theorem Ev.kp {i : Nat} {o : Oper} {a : Act} {w w1 : World} {x : Value} {pd : List Pd} (h : Ev P ops kd i o a w x w1 pd) (hk : kd i = .p) : w1 = w ∧ pd = [] ∧ ∀ w', Ev P ops kd i o a w' x w' [] := by
 cases h with
 | off hw => exact ⟨rfl, rfl, fun _ => .off hw⟩
 | pure _ hw x h => exact ⟨rfl, rfl, fun _ => .pure hk hw x h⟩
 | load hk' => rw [hk] at hk'; cases hk'
 | write hk' => rw [hk] at hk'; cases hk'
theorem Ev.kl {i : Nat} {o : Oper} {a : Act} {w w1 : World} {x : Value} {pd : List Pd} (h : Ev P ops kd i o a w x w1 pd) (hk : kd i = .l) : w1 = w ∧ ((pd = [] ∧ ∀ w', Ev P ops kd i o a w' x w' []) ∨ ∃ T ad, pd = [⟨i, T, ad, x⟩] ∧ (loadVar T ad).run P w = .ok x w ∧ ∀ w', (loadVar T ad).run P w' = .ok x w' → Ev P ops kd i o a w' x w' pd) := by
 cases h with
 | off hw => exact ⟨rfl, .inl ⟨rfl, fun _ => .off hw⟩⟩
 | pure hk' => rw [hk] at hk'; cases hk'
 | load _ hw T ad x h hx => exact ⟨rfl, .inr ⟨T, ad, rfl, hx, fun w' hx' => .load hk hw T ad x h hx'⟩⟩
 | write hk' => rw [hk] at hk'; cases hk'
theorem swap {x i : Nat} {ox oi : Oper} {a : Act} {w wx wi : World} {vx vi : Value} {px pi : List Pd} (hap : ox.apart ops oi = true) (hsx : ZpF ox = true) (hsi : ZpF oi = true) (hk : okK (kd x) (kd i) = true) (hne : pre bef i x = false)
  (hx : Ev P ops kd x ox a w vx wx px) (hi : Ev P ops kd i oi (a.put ox.dst vx) wx vi wi pi) (hpi : kd i = .w → wi = wx ∨ ∀ p ∈ px, pre bef i p.i = false → p.ok P wi) :
  ∃ wi', Ev P ops kd i oi a w vi wi' pi ∧ Ev P ops kd x ox (a.put oi.dst vi) wi' vx wi px ∧ (a.put ox.dst vx).put oi.dst vi = (a.put oi.dst vi).put ox.dst vx ∧ (kd i = .w → wi' = wi ∧ wx = w) ∧ (kd x = .w → wi = wx ∧ wi' = w) := by
 obtain ⟨h1, h2, h3⟩ := Oper.apart_spec hap
 have hc := Act.put_comm a vx vi h2
 have hi' := (Ev.put P ops kd hsi h1).1 hi
 cases hkx : kd x with
 | p =>
  obtain ⟨rfl, rfl, hx'⟩ := hx.kp P ops kd hkx
  exact ⟨wi, hi', (Ev.put P ops kd hsx h3).2 (hx' wi), hc, fun _ => ⟨rfl, rfl⟩, fun h => by cases h⟩
 | l =>
  obtain ⟨rfl, ⟨rfl, hx'⟩ | ⟨T, ad, rfl, hx0, hx'⟩⟩ := hx.kl P ops kd hkx
  ·exact ⟨wi, hi', (Ev.put P ops kd hsx h3).2 (hx' wi), hc, fun _ => ⟨rfl, rfl⟩, fun h => by cases h⟩
  ·refine ⟨wi, hi', (Ev.put P ops kd hsx h3).2 (hx' wi ?_), hc, fun _ => ⟨rfl, rfl⟩, fun h => by cases h⟩
   cases hki : kd i with
   | p =>
    obtain ⟨rfl, _⟩ := hi'.kp P ops kd hki
    exact hx0
   | l =>
    obtain ⟨rfl, _⟩ := hi'.kl P ops kd hki
    exact hx0
   | w =>
    rcases hpi hki with e | e
    ·rw [e]; exact hx0
    ·exact e ⟨x, T, ad, vx⟩ (by simp) hne
 | w =>
  have hki : kd i = .p := by
   rw [hkx] at hk
   cases hki : kd i <;> rw [hki] at hk <;> first | rfl | cases hk
  obtain ⟨rfl, rfl, hi2⟩ := hi'.kp P ops kd hki
  exact ⟨w, hi2 w, (Ev.put P ops kd hsx h3).2 hx, hc, fun h => (by rw [hki] at h; cases h), fun _ => ⟨rfl, rfl⟩⟩
def rel (x y : Nat) : Bool :=
 match ops[x]?, ops[y]? with
 | some ox, some oy => pre bef y x || (ox.apart ops oy && ZpF ox && ZpF oy && okK (kd x) (kd y))
 | _, _ => false
theorem RR.front {i : Nat} {post : List Nat} : ∀ (l : List Nat) {pend : List Pd} {a a' : Act} {w w' : World}, (∀ x ∈ l, rel ops kd bef x i = true ∧ pre bef i x = false) → RR P ops kd bef pend (l ++ i :: post) a w a' w' → RR P ops kd bef pend (i :: (l ++ post)) a w a' w'
 | [], pend, a, a', w, w', _, h => h
 | x :: l, pend, a, a', w, w', hl, h => by
  cases h with
  | cons ox hox vx wx px hx hpx hr =>
   have hr' := RR.front l (fun y hy => hl y (List.mem_cons_of_mem _ hy)) hr
   cases hr' with
   | cons oi hoi vi wi pi hi hpi hr2 =>
    obtain ⟨hrel, hne⟩ := hl x (by simp)
    simp only [rel, hox, hoi, hne, Bool.false_or, Bool.and_eq_true] at hrel
    obtain ⟨⟨⟨hap, hsx⟩, hsi⟩, hk⟩ := hrel
    obtain ⟨wi', e1, e2, hc, hww, hwx⟩ := swap P ops kd bef hap hsx hsi hk hne hx hi (fun hk => (hpi hk).imp id (fun hq p hm => hq p (List.mem_append_left _ hm)))
    refine .cons oi hoi vi wi' pi e1 (fun hk => by rw [(hww hk).1]; exact (hpi hk).imp (fun e => e.trans (hww hk).2) (fun hq p hm => hq p (List.mem_append_right _ hm))) ?_
    refine .cons ox hox vx wi px e2 (fun hkx => ?_) (hc ▸ hr2.mono P ops kd bef (fun p hm => ?_))
    ·rw [(hwx hkx).1, (hwx hkx).2]
     refine (hpx hkx).imp id (fun hq p hm => ?_)
     rcases List.mem_append.1 hm with h | h
     ·have hki : kd i = .p := by
       rw [hkx] at hk
       cases hki : kd i <;> rw [hki] at hk <;> first | rfl | cases hk
      obtain ⟨_, hpi0, _⟩ := e1.kp P ops kd hki
      rw [hpi0] at h
      cases h
     ·exact hq p h
    ·simp only [List.mem_append] at hm ⊢
     rcases hm with h | h | h
     ·exact .inr (.inl h)
     ·exact .inl h
     ·exact .inr (.inr h)
def Zeg (o : Oper) : List Nat := (o.after.toList.filter (Region.binds .any)).map (·.on)
def ZrQ (k : Nat) (ds : List Nat) : Nat := ds.foldl (fun s d => if d < k then s ||| 2 ^ d ||| bef.getD d 0 else s) 0
theorem ZkR {k x : Nat} : ∀ (ds : List Nat) (s : Nat), (ds.foldl (fun s d => if d < k then s ||| 2 ^ d ||| bef.getD d 0 else s) s).testBit x = true → s.testBit x = true ∨ x ∈ ds ∨ ∃ d ∈ ds, d < k ∧ (bef.getD d 0).testBit x = true
 | [], s, h => .inl h
 | d :: ds, s, h => by
  simp only [List.foldl_cons] at h
  rcases ZkR ds _ h with h | h | ⟨e, he, h1, h2⟩
  ·split at h
   ·rename_i hd
    simp only [Nat.testBit_or, Nat.testBit_two_pow, Bool.or_eq_true, decide_eq_true_eq] at h
    rcases h with (h | h) | h
    ·exact .inl h
    ·exact .inr (.inl (by simp [h]))
    ·exact .inr (.inr ⟨d, by simp, hd, h⟩)
   ·exact .inl h
  ·exact .inr (.inl (List.mem_cons_of_mem _ h))
  ·exact .inr (.inr ⟨e, List.mem_cons_of_mem _ he, h1, h2⟩)
def ZqZ : Bool := (List.range ops.size).all fun k => match ops[k]? with | some o => bef.getD k 0 == ZrQ bef k (Zeg o) && (Zeg o).all (· < ops.size) | none => false
def Zgx : List Nat → Bool
 | [] => true
 | x :: l => (match ops[x]? with | some o => !(Zeg o).contains x && l.all fun y => (!(Zeg o).contains y && x != y) && rel ops kd bef x y | none => false) && Zgx l
def Zl8 (ord : List Nat) : Bool := ZqZ ops bef && Zgx ops kd bef ord && ord.length == ops.size && ord.all (· < ops.size) && (List.range ops.size).all (ord.contains ·)
theorem ZhJ : ∀ {l : List Nat} {x : Nat} {r : List Nat}, Zgx ops kd bef (x :: l) = true → ∃ o, ops[x]? = some o ∧ x ∉ Zeg o ∧ (∀ y ∈ l, (y ∉ Zeg o ∧ x ≠ y) ∧ rel ops kd bef x y = true) ∧ Zgx ops kd bef l = true := by
 intro l x r h
 unfold Zgx at h
 simp only [Bool.and_eq_true] at h
 obtain ⟨h1, h2⟩ := h
 split at h1
 ·rename_i o ho
  simp only [Bool.and_eq_true, Bool.not_eq_true', List.all_eq_true, List.contains_eq_mem, decide_eq_false_iff_not, bne_iff_ne] at h1
  exact ⟨o, ho, h1.1, fun y hy => ⟨(h1.2 y hy).1, (h1.2 y hy).2⟩, h2⟩
 ·cases h1
theorem Zlg : ∀ (l : List Nat) {i : Nat} {r : List Nat}, Zgx ops kd bef (l ++ i :: r) = true → Zgx ops kd bef (l ++ r) = true ∧ ∀ x ∈ l, rel ops kd bef x i = true
 | [], i, r, h => ⟨(ZhJ ops kd bef (r := []) h).choose_spec.2.2.2, by simp⟩
 | x :: l, i, r, h => by
  obtain ⟨o, ho, hx, hl, h2⟩ := ZhJ ops kd bef (r := []) h
  obtain ⟨h3, h4⟩ := Zlg l h2
  refine ⟨?_, fun y hy => ?_⟩
  ·show Zgx ops kd bef (x :: (l ++ r)) = true
   unfold Zgx
   simp only [ho, Bool.and_eq_true, Bool.not_eq_true', List.all_eq_true, List.contains_eq_mem, decide_eq_false_iff_not, bne_iff_ne]
   refine ⟨⟨hx, fun y hy => ?_⟩, h3⟩
   refine hl y ?_
   rcases List.mem_append.1 hy with h | h
   ·exact List.mem_append_left _ h
   ·exact List.mem_append_right _ (List.mem_cons_of_mem _ h)
  ·rcases List.mem_cons.1 hy with rfl | hy
   ·exact (hl i (by simp)).2
   ·exact h4 y hy
theorem Ziu {listed : Array Bool} {i : Nat} : i ∈ Region.ready .any ops listed ↔ i < ops.size ∧ listed.getD i true = false ∧ ∃ o, ops[i]? = some o ∧ ∀ d ∈ Zeg o, listed.getD d false = true := by
 unfold Region.ready
 simp only [List.mem_filter, List.mem_range, Bool.and_eq_true, Bool.not_eq_true']
 constructor
 ·rintro ⟨h1, h2, h3⟩
  refine ⟨h1, h2, ?_⟩
  cases ho : ops[i]? with
  | none => rw [ho] at h3; cases h3
  | some o =>
   rw [ho] at h3
   refine ⟨o, rfl, fun d hd => ?_⟩
   simp only [Option.map_some, Option.getD_some, Array.all_eq_true_iff_forall_mem, Bool.or_eq_true, Bool.not_eq_true'] at h3
   unfold Zeg at hd
   obtain ⟨e, he, rfl⟩ := List.mem_map.1 hd
   obtain ⟨he1, he2⟩ := List.mem_filter.1 he
   rcases h3 e (by simpa using he1) with h | h
   ·rw [he2] at h; cases h
   ·exact h
 ·rintro ⟨h1, h2, o, ho, h3⟩
  refine ⟨h1, h2, ?_⟩
  rw [ho]
  simp only [Option.map_some, Option.getD_some, Array.all_eq_true_iff_forall_mem, Bool.or_eq_true, Bool.not_eq_true']
  intro e he
  by_cases hb : Region.binds .any e = true
  ·right
   exact h3 e.on (List.mem_map.2 ⟨e, List.mem_filter.2 ⟨by simpa using he, hb⟩, rfl⟩)
  ·left
   simpa using hb
theorem ZxA {ro : Option Nat} {a' : Act} {w' : World} (hb : ZqZ ops bef = true) : ∀ (fuel : Nat) (rem : List Nat) (listed : Array Bool) (a : Act) (w : World), RR P ops kd bef [] rem a w a' w' → Zgx ops kd bef rem = true → rem.length = fuel →
  (∀ x ∈ rem, x < ops.size) → rem.Nodup → listed.size = ops.size → (∀ x, x < ops.size → (listed.getD x true = false ↔ x ∈ rem)) → (∀ x o, x < ops.size → x ∉ rem → ops[x]? = some o → ∀ d ∈ Zeg o, d ∉ rem) → wpAnyIn (wf ro) 0 P .any ops (Ends a' w') fuel listed a w := by
 have hlt : ∀ k o, ops[k]? = some o → bef.getD k 0 = ZrQ bef k (Zeg o) ∧ ∀ d ∈ Zeg o, d < ops.size := by
  intro k o ho
  have hk : k < ops.size := (Array.getElem?_eq_some_iff.1 ho).1
  unfold ZqZ at hb
  rw [List.all_eq_true] at hb
  have := hb k (List.mem_range.2 hk)
  rw [ho] at this
  simp only [Bool.and_eq_true, beq_iff_eq, List.all_eq_true, decide_eq_true_eq] at this
  exact this
 intro fuel
 induction fuel with
 | zero =>
  intro rem listed a w h hp hl hx hn hs hm hc
  obtain rfl : rem = [] := List.eq_nil_of_length_eq_zero hl
  cases h
  refine ⟨?_, rfl, rfl, rfl⟩
  refine List.eq_nil_iff_forall_not_mem.2 fun i hi => ?_
  obtain ⟨h1, h2, _⟩ := (Ziu ops).1 hi
  exact absurd ((hm i h1).1 h2) (by simp)
 | succ fuel ih =>
  intro rem listed a w h hp hl hx hn hs hm hc
  have hget : ∀ d, d < ops.size → (listed.getD d false = true ↔ d ∉ rem) := by
   intro d hd
   have := hm d hd
   have e1 : listed.getD d false = listed[d]'(by omega) := by simp [Array.getD, show d < listed.size by omega]
   have e2 : listed.getD d true = listed[d]'(by omega) := by simp [Array.getD, show d < listed.size by omega]
   rw [e2] at this
   rw [e1]
   rw [← this]
   cases listed[d]'(by omega) <;> simp
  constructor
  ·intro hr
   exfalso
   match rem, hl with
   | i :: r, _ =>
    obtain ⟨o, ho, h1, h2, _⟩ := ZhJ ops kd bef (r := []) hp
    have : i ∈ Region.ready .any ops listed := by
     refine (Ziu ops).2 ⟨hx i (by simp), (hm i (hx i (by simp))).2 (by simp), o, ho, fun d hd => ?_⟩
     refine (hget d ((hlt i o ho).2 d hd)).2 fun hd' => ?_
     rcases List.mem_cons.1 hd' with rfl | hd'
     ·exact h1 hd
     ·exact (h2 d hd').1.1 hd
    rw [hr] at this
    cases this
  ·intro i hi
   obtain ⟨hi1, hi2, oi, hoi, hdeps⟩ := (Ziu ops).1 hi
   have hirem : i ∈ rem := (hm i hi1).1 hi2
   obtain ⟨l, r, rfl⟩ := List.append_of_mem hirem
   obtain ⟨hp2, hrel⟩ := Zlg ops kd bef l hp
   have hclosed : ∀ k o, ops[k]? = some o → (∀ d ∈ Zeg o, d ∉ l ++ i :: r) → ∀ x, pre bef k x = true → x ∉ l ++ i :: r := by
    intro k
    induction k using Nat.strongRecOn with
    | _ k ihk =>
     intro o ho hd x hpx
     unfold pre at hpx
     rw [(hlt k o ho).1] at hpx
     rcases ZkR bef _ _ hpx with h | h | ⟨d, hd1, hd2, hd3⟩
     ·simp at h
     ·exact hd x h
     ·have hds := (hlt k o ho).2 d hd1
      obtain ⟨od, hod⟩ : ∃ od, ops[d]? = some od := ⟨ops[d], by simp [hds]⟩
      exact ihk d hd2 od hod (hc d od hds (hd d hd1) hod) x hd3
   have hnp : ∀ x ∈ l, pre bef i x = false := by
    intro x hxl
    by_cases hpx : pre bef i x = true
    ·exact absurd (by simp [hxl]) (hclosed i oi hoi (fun d hd => (hget d ((hlt i oi hoi).2 d hd)).1 (hdeps d hd)) x hpx)
    ·simpa using hpx
   have hf := RR.front P ops kd bef l (fun x hxl => ⟨hrel x hxl, hnp x hxl⟩) h
   cases hf with
   | cons o ho x w1 pd he hpw hr =>
    refine Zok.wpOp P ops (Ev.step P ops kd ho he) ?_
    refine ih (l ++ r) _ _ _ (hr.mono P ops kd bef (by simp)) hp2 (by simp at hl ⊢; omega) (fun y hy => hx y (by simp at hy ⊢; rcases hy with h | h <;> simp [h])) ?_ (by simp [hs]) ?_ ?_
    ·have := hn
     rw [List.nodup_append] at this ⊢
     obtain ⟨n1, n2, n3⟩ := this
     refine ⟨n1, (List.nodup_cons.1 n2).2, fun y hy z hz => n3 y hy z (List.mem_cons_of_mem _ hz)⟩
    ·intro y hy
     by_cases e : i = y
     ·subst e
      have : i ∉ l ++ r := by
       rw [List.nodup_append] at hn
       obtain ⟨n1, n2, n3⟩ := hn
       intro hm'
       rcases List.mem_append.1 hm' with h | h
       ·exact n3 i h i (by simp) rfl
       ·exact (List.nodup_cons.1 n2).1 h
      simp [Array.getD, hs, hy, this]
     ·have := hm y hy
      simp only [List.mem_append, List.mem_cons] at this ⊢
      rw [getD_set_ne true e]
      rw [this]
      constructor
      ·rintro (h | h | h)
       ·exact .inl h
       ·exact absurd h.symm e
       ·exact .inr h
      ·rintro (h | h)
       ·exact .inl h
       ·exact .inr (.inr h)
    ·intro y oy hy hny hoy d hd hdm
     by_cases e : y = i
     ·subst e
      rw [hoi] at hoy
      cases hoy
      have := (hget d ((hlt y oi hoi).2 d hd)).1 (hdeps d hd)
      apply this
      simp only [List.mem_append, List.mem_cons] at hdm ⊢
      rcases hdm with h | h
      ·exact .inl h
      ·exact .inr (.inr h)
     ·have hny' : y ∉ l ++ i :: r := by
       simp only [List.mem_append, List.mem_cons] at hny ⊢
       rintro (h | h | h)
       ·exact hny (.inl h)
       ·exact e h
       ·exact hny (.inr h)
      apply hc y oy hy hny' hoy d hd
      simp only [List.mem_append, List.mem_cons] at hdm ⊢
      rcases hdm with h | h
      ·exact .inl h
      ·exact .inr (.inr h)
theorem Zj9 : ∀ (l : List Nat), Zgx ops kd bef l = true → l.Nodup
 | [], _ => List.nodup_nil
 | x :: l, h => by
  obtain ⟨o, ho, h1, h2, h3⟩ := ZhJ ops kd bef (r := []) h
  exact List.nodup_cons.2 ⟨fun hx => (h2 x hx).1.2 rfl, Zj9 l h3⟩
theorem RR.draw {ro : Option Nat} {ord : List Nat} {id : Nat} {a a' : Act} {w w' : World} (hm : P.follows .mixedOrders = true) (ht : Zl8 ops kd bef ord = true) (h : RR P ops kd bef [] ord a w.drew a' w') : (Code.region id ops true).wpIn (wf ro) 0 P (Ends a' w') a w := by
 unfold Zl8 at ht
 simp only [Bool.and_eq_true, beq_iff_eq, List.all_eq_true, decide_eq_true_eq, List.mem_range, List.contains_eq_mem] at ht
 obtain ⟨⟨⟨⟨h1, h2⟩, h3⟩, h4⟩, h5⟩ := ht
 refine wpIn_region_any hm ?_
 refine ZxA P ops kd bef h1 ops.size ord _ a _ h h2 h3 h4 (Zj9 ops kd bef ord h2) (by simp) (fun x hx => ?_) (fun x o hx hn => absurd (h5 x hx) hn)
 simp [Array.getD, hx, h5 x hx]
end
end
section
open Go
variable [Zd5]
abbrev Env := List (Nat × Value)
abbrev Loc := List (Nat × List Value)
def lk : Env → Nat → Option Value
  | [], _ => none
  | (k, x) :: r, t => match Nat.beq k t with
    | true => some x
    | false => lk r t
def evm (m : Env) : Operand → Option Value
  | .tmp t => lk m t
  | .const v => some v
  | .global g => some (.pointer (some ⟨g, 0, none⟩))
  | .func f => some (.func (.func f) #[] #[])
def mkOf (r : Nat) : Deferred := { target := .collected r, args := #[] }
def Zqi (v w : World) (ds : List Deferred) : Prop := (∀ d ∈ ds, ∃ r, d = mkOf r ∧ Husk v r ∧ w.heap[r]? = some (.deferred (some []))) ∧ ds.Nodup
theorem Zqi.nil {v w : World} : Zqi v w [] := ⟨by simp, by simp⟩
theorem Zqi.keep {v w v1 w1 : World} {ds : List Deferred} (h : Zqi v w ds) (hk : ∀ b, Husk v b → w1.heap[b]? = w.heap[b]? ∧ v1.heap[b]? = v.heap[b]?) : Zqi v1 w1 ds :=
  ⟨fun d hd => by
    obtain ⟨r, h1, h2, h3⟩ := h.1 d hd
    obtain ⟨k1, k2⟩ := hk r h2
    exact ⟨r, h1, h2.same k2, k1.trans h3⟩, h.2⟩
structure St (n : Nat) (m : Env) (h : Loc) (v w : World) (a : Act) : Prop where
  sub : Sub v w
  size : a.tmps.size = n
  defers : Zqi v w a.defers
  get : ∀ t x, lk m t = some x → a.tmps[t]? = some x
  loc : ∀ e ∈ h, Husk v e.1 ∧ ∃ T, w.heap[e.1]? = some (.cells e.2.toArray T (0, 0))
  nd : (h.map (·.1)).Nodup
theorem St.eval {n : Nat} {m : Env} {h : Loc} {v w : World} {a : Act} (s : St n m h v w a) {x : Operand} {y : Value} (hx : evm m x = some y) : a.eval x = y := by
  cases x with
  | tmp t =>
    have := s.get t y hx
    simp [Act.eval, Array.getD_eq_getD_getElem?, this]
  | const v =>
    simp only [evm, Option.some.injEq] at hx
    exact hx
  | global g =>
    simp only [evm, Option.some.injEq] at hx
    exact hx
  | func f =>
    simp only [evm, Option.some.injEq] at hx
    exact hx
theorem Zlj {n d : Nat} {m : Env} {a : Act} {y : Value} (hd : d < n) (hs : a.tmps.size = n) (hg : ∀ t x, lk m t = some x → a.tmps[t]? = some x) :
    ∀ t x, lk ((d, y) :: m) t = some x → (a.put (some d) y).tmps[t]? = some x := by
  intro t x h
  unfold lk at h
  cases e : Nat.beq d t with
  | true =>
    rw [e] at h
    obtain rfl := Nat.eq_of_beq_eq_true e
    simp only [Option.some.injEq] at h
    subst h
    simp [Act.put, hs, hd]
  | false =>
    rw [e] at h
    have hne : d ≠ t := fun e' => by subst e'; simp at e
    simpa [Act.put, Array.getElem?_setIfInBounds_ne hne] using hg t x h
theorem St.put {n d : Nat} {m : Env} {h : Loc} {v w : World} {a : Act} (s : St n m h v w a) (hd : d < n) (y : Value) : St n ((d, y) :: m) h v w (a.put (some d) y) :=
  ⟨s.sub, by simp [Act.put, s.size], s.defers, Zlj hd s.size s.get, s.loc, s.nd⟩
def lks (m : Env) : List Nat → Option Env
  | [] => some []
  | t :: ts => match lk m t, lks m ts with
    | some x, some r => some ((t, x) :: r)
    | _, _ => none
theorem ZgQ {m : Env} : ∀ {ts : List Nat} {m' : Env}, lks m ts = some m' → ∀ t x, lk m' t = some x → lk m t = some x
  | [], m', h, t, x, hx => by
    simp only [lks, Option.some.injEq] at h
    subst h
    simp [lk] at hx
  | t0 :: ts, m', h, t, x, hx => by
    unfold lks at h
    split at h
    · rename_i y r hy hr
      simp only [Option.some.injEq] at h
      subst h
      unfold lk at hx
      cases e : Nat.beq t0 t with
      | true =>
        rw [e] at hx
        obtain rfl := Nat.eq_of_beq_eq_true e
        simp only [Option.some.injEq] at hx
        subst hx
        exact hy
      | false =>
        rw [e] at hx
        exact ZgQ hr t x hx
    · cases h
theorem St.less {n : Nat} {m m' : Env} {h : Loc} {v w : World} {a : Act} (s : St n m h v w a) (hs : ∀ t x, lk m' t = some x → lk m t = some x) : St n m' h v w a :=
  ⟨s.sub, s.size, s.defers, fun t x hx => s.get t x (hs t x hx), s.loc, s.nd⟩
def ZpS (op : BinOp) (k : IntKind) (x y : Int) : Option Value :=
  match op with
  | .add => some (.int k (k.wrap (x + y)))
  | .sub => some (.int k (k.wrap (x - y)))
  | .mul => some (.int k (k.wrap (x * y)))
  | .and => some (.int k (k.wrap (BitVec.ofInt k.bits x &&& BitVec.ofInt k.bits y).toNat))
  | .or => some (.int k (k.wrap (BitVec.ofInt k.bits x ||| BitVec.ofInt k.bits y).toNat))
  | .xor => some (.int k (k.wrap (BitVec.ofInt k.bits x ^^^ BitVec.ofInt k.bits y).toNat))
  | .andNot => some (.int k (k.wrap (BitVec.ofInt k.bits x &&& ~~~ BitVec.ofInt k.bits y).toNat))
  | .eql => some (.bool (x == y))
  | .neq => some (.bool (x != y))
  | .lss => some (.bool (decide (x < y)))
  | .leq => some (.bool (decide (x ≤ y)))
  | .gtr => some (.bool (decide (x > y)))
  | .geq => some (.bool (decide (x ≥ y)))
  | .quo => if y = 0 then none else some (.int k (k.wrap (x.tdiv y)))
  | .rem => if y = 0 then none else some (.int k (x.tmod y))
  | _ => none
def Zos (op : BinOp) (k : IntKind) (x y : Int) : Option Value :=
  if y < 0 then none else
  match op with
  | .shl => some (.int k (k.wrap (x * 2 ^ (min y.toNat k.bits))))
  | .shr => some (.int k (x.fdiv (2 ^ (min y.toNat k.bits))))
  | _ => none
def ikEq : IntKind → IntKind → Bool
  | .i8, .i8 | .i16, .i16 | .i32, .i32 | .i64, .i64 | .u8, .u8 | .u16, .u16 | .u32, .u32 | .u64, .u64 => true
  | _, _ => false
theorem Zwn {a b : IntKind} (h : ikEq a b = true) : a = b := by cases a <;> cases b <;> first | rfl | cases h
def ZqQ : BinOp → Bool
  | .shl | .shr => true
  | _ => false
def Zqc (op : BinOp) (x y : Value) : Option Value :=
  match x, y with
  | .int k a, .int k' b => match ZqQ op with
    | true => Zos op k a b
    | false => match ikEq k k' with
      | true => ZpS op k a b
      | false => none
  | .string a, .string b => match op with
    | .eql => some (.bool (a.toList == b.toList))
    | .neq => some (.bool (!(a.toList == b.toList)))
    | .lss => some (.bool (Op.bytesLess a.toList b.toList))
    | _ => none
  | _, _ => none
def ZqR (P : Program) (T : TypeId) : Bool := match P.underlying T with | some .bool => true | _ => false
def ZtP (P : Program) (T : TypeId) : Bool := match P.underlying T with | some (.pointer _) => true | _ => false
def Zwm (P : Program) (T : TypeId) : Bool := match P.underlying T with | some (.slice _) => true | _ => false
def pv (P : Program) (ev : Operand → Option Value) : Op → Option Value
  | .move x | .assign x => ev x
  | .pick c a b => match ev c with
    | some (.bool true) => ev a
    | some (.bool false) => ev b
    | _ => none
  | .nilCheck x => match ev x with
    | some (.pointer (some a)) => some (.pointer (some a))
    | _ => none
  | .binOp op T x y _ => match ev x, ev y with
    | some (.bool a), some (.bool b) => match op, ZqR P T with
      | .eql, true => some (.bool (a == b))
      | .neq, true => some (.bool (!(a == b)))
      | _, _ => none
    | some (.pointer p), some (.pointer none) => match op, ZtP P T with
      | .eql, true => some (.bool p.isNone)
      | .neq, true => some (.bool (!p.isNone))
      | _, _ => none
    | some (.slice p _ _), some (.slice none _ _) => match op, Zwm P T with
      | .eql, true => some (.bool p.isNone)
      | .neq, true => some (.bool (!p.isNone))
      | _, _ => none
    | some a, some b => Zqc op a b
    | _, _ => none
  | .unOp op _ x => match op, ev x with
    | .not, some (.bool b) => some (.bool (!b))
    | .neg, some (.int k n) => some (.int k (k.wrap (0 - n)))
    | .xor, some (.int k n) => some (.int k (k.wrap (BitVec.ofInt k.bits (if k.signed then -1 else k.max) ^^^ BitVec.ofInt k.bits n).toNat))
    | _, _ => none
  | .convert s d x => match ev x, P.underlying s, P.underlying d with
    | some (.int _ n), some _, some (.int k) => some (.int k (k.wrap n))
    | some (.string b), some .string, some .string => some (.string b)
    | _, _, _ => none
  | .fieldAddr S x f => match ev x, P.underlying S with
    | some (.pointer (some a)), some (.struct fs) => match fs[f]? with
      | some fd => match P.info? fd.type with
        | some i => match i.size with
          | 0 => none
          | _ + 1 => some (.pointer (some (a.add fd.offset)))
        | none => none
      | none => none
    | _, _ => none
  | .extract t j => match ev t with
    | some (.tuple vs) => vs[j]?
    | _ => none
  | .makeFunc fn first cap => match (first.toList.mapM ev), (cap.toList.mapM ev) with
    | some f, some c => some (.func fn f.toArray c.toArray)
    | _, _ => none
  | .makeInterface T x => match P.underlying T, ev x with
    | some (.interface _), _ => none
    | some _, some y => some (.iface T y)
    | _, _ => none
  | .indexAddr T x i => match ev x, ev i, P.underlying T with
    | some (.pointer (some a)), some (.int _ (Int.ofNat j)), some (.array len e) => match Nat.blt j len, P.info? e with
      | true, some inf => some (.pointer (some (a.add (j * inf.size))))
      | _, _ => none
    | _, _, _ => none
  | .call { callee := .builtin .len, args, argTypes } => match args[0]?, argTypes[0]? with
    | some x, some t => match ev x, P.underlying t with
      | some (.string s), some .string => some (.int .i64 s.size)
      | some (.slice _ n _), some (.slice _) => some (.int .i64 n)
      | _, _ => none
    | _, _ => none
  | _ => none
theorem ZaE {P : Program} {T : TypeId} {d : TypeDesc} (h : P.underlying T = some d) (w : World) : (underlying T).run P w = .ok d w := by
  simp [underlying, h]
theorem ZdQ {P : Program} {T : TypeId} {i : TypeInfo} (h : P.info? T = some i) (w : World) : (typeInfo T).run P w = .ok i w := by
  simp [typeInfo, h]
theorem ZkP {P : Program} {op : BinOp} {k : IntKind} {x y : Int} {v : Value} (hs : ZqQ op = false) (h : ZpS op k x y = some v) (w : World) (T : TypeId) : (binOp op T (.int k x) (.int k y)).run P w = .ok v w := by
  cases op <;> simp only [ZpS, Option.some.injEq] at h <;> first
    | (cases h; done)
    | (cases hs; done)
    | (subst h; simp [binOp, Op.intArith, Op.intBits, Op.intCmp]; done)
    | (split at h
       · cases h
       · rename_i hy
         simp only [Option.some.injEq] at h
         subst h
         simp [binOp, Op.intDiv, hy])
theorem Zpj {P : Program} {op : BinOp} {k k' : IntKind} {x y : Int} {v : Value} (hs : ZqQ op = true) (h : Zos op k x y = some v) (w : World) (T : TypeId) : (binOp op T (.int k x) (.int k' y)).run P w = .ok v w := by
  unfold Zos at h
  split at h
  · cases h
  · rename_i hy
    cases op <;> first
      | (cases hs; done)
      | (simp only [Option.some.injEq] at h; subst h; simp [binOp, Op.shift, hy]; done)
theorem ZsA {P : Program} {op : BinOp} {x y v : Value} (h : Zqc op x y = some v) (w : World) (T : TypeId) : (binOp op T x y).run P w = .ok v w := by
  unfold Zqc at h
  split at h
  · rename_i k a k' b
    split at h
    · rename_i hs
      exact Zpj hs h w T
    · rename_i hs
      split at h
      · rename_i hk
        obtain rfl := Zwn hk
        exact ZkP hs h w T
      · cases h
  · rename_i a b
    cases op <;> first
      | (cases h; done)
      | (simp only [Option.some.injEq] at h; subst h; simp [binOp, Op.stringOp]; done)
  · cases h
theorem Zd2 {P : Program} {op : BinOp} {T : TypeId} {x y : Operand} {a b : Value} (h1 : ∀ cs ds, ¬ (a = .agg cs ∧ b = .agg ds)) (h2 : ¬ (a = .nilIface ∧ b = .nilIface)) (w : World) : (eqGuard op T x y a b).run P w = .ok () w := by
  unfold eqGuard
  cases op <;> first
    | rfl
    | (simp only [Bool.not_true, Bool.false_eq_true, if_false]
       split
       · exact absurd ⟨rfl, rfl⟩ h2
       · exact absurd ⟨rfl, rfl⟩ (h1 _ _)
       · rfl)
theorem ZiY (T : TypeId) (x y : Value) : Op.equal T x y = Op.equalIn (9999 + 1) T x y := rfl
theorem Zoc {P : Program} {T : TypeId} (h : P.underlying T = some .bool) (a b : Bool) (w : World) : (Op.equal T (.bool a) (.bool b)).run P w = .ok (a == b) w := by
  rw [ZiY, Op.equalIn]
  simp [underlying, h]
theorem Zp2 {P : Program} {T e : TypeId} (h : P.underlying T = some (.pointer e)) (p : Option Addr) (w : World) : (Op.equal T (.pointer p) (.pointer none)).run P w = .ok p.isNone w := by
  rw [ZiY, Op.equalIn]
  cases p <;> simp [underlying, h]
theorem ZrJ {P : Program} {T e : TypeId} (h : P.underlying T = some (.slice e)) (p : Option Addr) (l c l' c' : Nat) (w : World) : (Op.equal T (.slice p l c) (.slice none l' c')).run P w = .ok p.isNone w := by
  rw [ZiY, Op.equalIn]
  cases p <;> simp [underlying, h]
theorem Zul (T : TypeId) {x y : Value} (h : ∀ k a k' b, ¬ (x = .int k a ∧ y = .int k' b)) (h2 : ∀ k a k' b, ¬ (x = .float k a ∧ y = .float k' b)) (h3 : ∀ k a b k' c d, ¬ (x = .complex k a b ∧ y = .complex k' c d)) (h4 : ∀ a b, ¬ (x = .string a ∧ y = .string b)) :
    binOp .eql T x y = (do pure (.bool (← Op.equal T x y))) ∧ binOp .neq T x y = (do pure (.bool (!(← Op.equal T x y)))) := by
  constructor <;> cases x <;> cases y <;> first
    | rfl
    | exact absurd ⟨rfl, rfl⟩ (h _ _ _ _)
    | exact absurd ⟨rfl, rfl⟩ (h2 _ _ _ _)
    | exact absurd ⟨rfl, rfl⟩ (h3 _ _ _ _ _ _)
    | exact absurd ⟨rfl, rfl⟩ (h4 _ _)
theorem ZjA {P : Program} {T : TypeId} {x y : Value} {b : Bool} {w : World} (he : (Op.equal T x y).run P w = .ok b w) (h : ∀ k a k' b, ¬ (x = .int k a ∧ y = .int k' b)) (h2 : ∀ k a k' b, ¬ (x = .float k a ∧ y = .float k' b)) (h3 : ∀ k a b k' c d, ¬ (x = .complex k a b ∧ y = .complex k' c d)) (h4 : ∀ a b, ¬ (x = .string a ∧ y = .string b)) :
    (binOp .eql T x y).run P w = .ok (.bool b) w ∧ (binOp .neq T x y).run P w = .ok (.bool (!b)) w := by
  obtain ⟨e1, e2⟩ := Zul T h h2 h3 h4
  rw [e1, e2]
  simp [he]
theorem Zn7 {P : Program} {T : TypeId} (h : ZqR P T = true) : P.underlying T = some .bool := by
  unfold ZqR at h
  split at h
  · assumption
  · cases h
theorem ZpQ {P : Program} {T : TypeId} (h : ZtP P T = true) : ∃ e, P.underlying T = some (.pointer e) := by
  unfold ZtP at h
  split at h
  · exact ⟨_, by assumption⟩
  · cases h
theorem ZrA {P : Program} {T : TypeId} (h : Zwm P T = true) : ∃ e, P.underlying T = some (.slice e) := by
  unfold Zwm at h
  split at h
  · exact ⟨_, by assumption⟩
  · cases h
theorem Zes {P : Program} {op : BinOp} {T yT : TypeId} {x y : Operand} {dst : Option Tmp} {type : TypeId} {pos : String} {after : Array Edge} {guard : Option (Nat × Bool)} {ρ : Operand → Value} {a b v : Value} {w : World} (hx : ρ x = a) (hy : ρ y = b)
    (hg : (eqGuard op T x y a b).run P w = .ok () w) (hb : (binOp op T a b).run P w = .ok v w) : (execOp ρ ⟨dst, .binOp op T x y yT, type, pos, after, guard⟩).run P w = .ok (.value v) w := by
  subst hx
  subst hy
  show Sem.run P (do pure (Next.value (← (do eqGuard op T x y (ρ x) (ρ y); binOp op T (ρ x) (ρ y))))) w = _
  simp [hg, hb]
theorem ZqK {ev : Operand → Option Value} {ρ : Operand → Value} (hρ : ∀ x y, ev x = some y → ρ x = y) : ∀ (l : List Operand) (r : List Value), l.mapM ev = some r → l.map ρ = r
  | [], r, h => by simp at h; subst h; rfl
  | x :: l, r, h => by
    simp only [List.mapM_cons, Option.bind_eq_bind, Option.pure_def] at h
    obtain ⟨y, hy, h2⟩ := Option.bind_eq_some_iff.1 h
    obtain ⟨r', hr', h3⟩ := Option.bind_eq_some_iff.1 h2
    simp only [Option.some.injEq] at h3
    subst h3
    simp [hρ x y hy, ZqK hρ l r' hr']
theorem ZkH {P : Program} {T : TypeId} {i : TypeInfo} (h : P.info? T = some i) (w : World) : (sizeOf T).run P w = .ok i.size w := by
  simp [sizeOf, typeInfo, h]
set_option maxHeartbeats 1600000 in
theorem Zw4 {P : Program} {o : Oper} {ev : Operand → Option Value} {ρ : Operand → Value} (hρ : ∀ x y, ev x = some y → ρ x = y) {v : Value} (h : pv P ev o.op = some v) (w : World) : (execOp ρ o).run P w = .ok (.value v) w := by
  obtain ⟨dst, op, type, pos, after, guard⟩ := o
  cases op <;> simp only [pv] at h <;> try (cases h; done)
  case move x => simp [execOp, hρ x v h]
  case assign x => simp [execOp, hρ x v h]
  case pick c a b =>
    split at h
    · rename_i hc; simp [execOp, hρ c _ hc, hρ a v h, asBool]
    · rename_i hc; simp [execOp, hρ c _ hc, hρ b v h, asBool]
    · cases h
  case nilCheck x =>
    split at h
    · rename_i a hx
      simp only [Option.some.injEq] at h
      subst h
      simp [execOp, hρ x _ hx]
    · cases h
  case binOp op T x y yT =>
    split at h
    · rename_i a b hx hy
      have hg := Zd2 (P := P) (op := op) (T := T) (x := x) (y := y) (a := .bool a) (b := .bool b) (by rintro cs ds ⟨h, _⟩; cases h) (by rintro ⟨h, _⟩; cases h) w
      split at h
      · rename_i hb
        simp only [Option.some.injEq] at h
        subst h
        exact Zes (hρ x _ hx) (hρ y _ hy) hg (ZjA (Zoc (Zn7 hb) a b w) (by rintro _ _ _ _ ⟨h, _⟩; cases h) (by rintro _ _ _ _ ⟨h, _⟩; cases h) (by rintro _ _ _ _ _ _ ⟨h, _⟩; cases h) (by rintro _ _ ⟨h, _⟩; cases h)).1
      · rename_i hb
        simp only [Option.some.injEq] at h
        subst h
        exact Zes (hρ x _ hx) (hρ y _ hy) hg (ZjA (Zoc (Zn7 hb) a b w) (by rintro _ _ _ _ ⟨h, _⟩; cases h) (by rintro _ _ _ _ ⟨h, _⟩; cases h) (by rintro _ _ _ _ _ _ ⟨h, _⟩; cases h) (by rintro _ _ ⟨h, _⟩; cases h)).2
      · cases h
    · rename_i p hx hy
      have hg := Zd2 (P := P) (op := op) (T := T) (x := x) (y := y) (a := .pointer p) (b := .pointer none) (by rintro cs ds ⟨h, _⟩; cases h) (by rintro ⟨h, _⟩; cases h) w
      split at h
      · rename_i hb
        simp only [Option.some.injEq] at h
        subst h
        obtain ⟨e, he⟩ := ZpQ hb
        exact Zes (hρ x _ hx) (hρ y _ hy) hg (ZjA (Zp2 he p w) (by rintro _ _ _ _ ⟨h, _⟩; cases h) (by rintro _ _ _ _ ⟨h, _⟩; cases h) (by rintro _ _ _ _ _ _ ⟨h, _⟩; cases h) (by rintro _ _ ⟨h, _⟩; cases h)).1
      · rename_i hb
        simp only [Option.some.injEq] at h
        subst h
        obtain ⟨e, he⟩ := ZpQ hb
        exact Zes (hρ x _ hx) (hρ y _ hy) hg (ZjA (Zp2 he p w) (by rintro _ _ _ _ ⟨h, _⟩; cases h) (by rintro _ _ _ _ ⟨h, _⟩; cases h) (by rintro _ _ _ _ _ _ ⟨h, _⟩; cases h) (by rintro _ _ ⟨h, _⟩; cases h)).2
      · cases h
    · rename_i p l1 c1 l2 c2 hx hy
      have hg := Zd2 (P := P) (op := op) (T := T) (x := x) (y := y) (a := .slice p l1 c1) (b := .slice none l2 c2) (by rintro cs ds ⟨h, _⟩; cases h) (by rintro ⟨h, _⟩; cases h) w
      split at h
      · rename_i hb
        simp only [Option.some.injEq] at h
        subst h
        obtain ⟨e, he⟩ := ZrA hb
        exact Zes (hρ x _ hx) (hρ y _ hy) hg (ZjA (ZrJ he p _ _ _ _ w) (by rintro _ _ _ _ ⟨h, _⟩; cases h) (by rintro _ _ _ _ ⟨h, _⟩; cases h) (by rintro _ _ _ _ _ _ ⟨h, _⟩; cases h) (by rintro _ _ ⟨h, _⟩; cases h)).1
      · rename_i hb
        simp only [Option.some.injEq] at h
        subst h
        obtain ⟨e, he⟩ := ZrA hb
        exact Zes (hρ x _ hx) (hρ y _ hy) hg (ZjA (ZrJ he p _ _ _ _ w) (by rintro _ _ _ _ ⟨h, _⟩; cases h) (by rintro _ _ _ _ ⟨h, _⟩; cases h) (by rintro _ _ _ _ _ _ ⟨h, _⟩; cases h) (by rintro _ _ ⟨h, _⟩; cases h)).2
      · cases h
    · rename_i a b _ _ _ hx hy
      have hg := Zd2 (P := P) (op := op) (T := T) (x := x) (y := y) (a := a) (b := b) (by rintro cs ds ⟨rfl, rfl⟩; simp [Zqc] at h) (by rintro ⟨rfl, rfl⟩; simp [Zqc] at h) w
      exact Zes (hρ x _ hx) (hρ y _ hy) hg (ZsA h w T)
    · cases h
  case unOp op T x =>
    split at h <;> first
      | (cases h; done)
      | (rename_i hx; simp only [Option.some.injEq] at h; subst h; simp [execOp, hρ x _ hx, Op.unary, Op.intArith, Op.intBits]; done)
  case convert s d x =>
    split at h
    · rename_i k n u k' hx hs hd
      simp only [Option.some.injEq] at h
      subst h
      simp [execOp, convert, hρ x _ hx, underlying, hs, hd, Conv.intToInt]
    · rename_i hx hs hd
      simp only [Option.some.injEq] at h
      subst h
      simp [execOp, convert, hρ x _ hx, underlying, hs, hd]
    · cases h
  case fieldAddr S x f =>
    split at h
    · rename_i a fs hx hS
      split at h
      · rename_i fd hf
        split at h
        · rename_i i hi
          split at h
          · cases h
          · rename_i k hk
            simp only [Option.some.injEq] at h
            subst h
            simp [execOp, Instr.fieldAt, underlying, hS, hf, hρ x _ hx, Instr.sureAddr, fieldPlace, sizeOf, typeInfo, hi, hk]
        · cases h
      · cases h
    · cases h
  case extract t j =>
    split at h
    · rename_i vs ht
      simp [execOp, Instr.extract, hρ t _ ht, h]
    · cases h
  case makeFunc fn first cap =>
    split at h
    · rename_i f c hf hc
      simp only [Option.some.injEq] at h
      subst h
      have e1 := ZqK hρ _ _ hf
      have e2 := ZqK hρ _ _ hc
      have e1' : first.map ρ = f.toArray := by rw [← e1, ← Array.toList_map]
      have e2' : cap.map ρ = c.toArray := by rw [← e2, ← Array.toList_map]
      simp [execOp, Instr.makeFunc, e1', e2']
    · cases h
  case makeInterface T x =>
    split at h
    · cases h
    · rename_i u y hne hT hx
      simp only [Option.some.injEq] at h
      subst h
      simp only [execOp, Instr.makeInterface, underlying]
      simp only [Sem.run_bind, run_program, Result.andThen_ok, hT]
      cases u <;> first | (simp [hρ x _ hx]; done) | (exact (hne _ rfl).elim)
    · cases h
  case indexAddr T x i =>
    split at h
    · rename_i a k j len e hx hi hT
      split at h
      · rename_i inf hlt hinf
        simp only [Option.some.injEq] at h
        subst h
        have hl : j < len := by simpa [Nat.blt_eq] using hlt
        simp [execOp, Instr.indexAt, hρ x _ hx, hρ i _ hi, asIntOf, underlying, hT, Instr.sureAddr, sizeOf, typeInfo, hinf, hl]
      · cases h
    · cases h
  case call c =>
    obtain ⟨callee, args, argTypes⟩ := c
    cases callee <;> try (cases h; done)
    rename_i b
    cases b <;> try (cases h; done)
    simp only at h
    split at h
    · rename_i x t hx ht
      split at h
      · rename_i s hs hu
        simp only [Option.some.injEq] at h
        subst h
        simp [execOp, resolve, invoke, builtin, Builtin.len_, hx, ht, hρ x _ hs, underlying, hu, goInt]
      · rename_i a n c e hs hu
        simp only [Option.some.injEq] at h
        subst h
        simp [execOp, resolve, invoke, builtin, Builtin.len_, hx, ht, hρ x _ hs, underlying, hu, goInt]
      · cases h
    · cases h
end
section
open Go
variable [Zd5]
section
variable (P : Program) (ops : Array Oper) (kd : Nat → Kd) (bef : List Nat)
inductive RS : List Pd → List Nat → Act → World → List Pd → Act → World → Prop
 | nil (pend : List Pd) (a : Act) (w : World) : RS pend [] a w pend a w
 | cons {pend pend' : List Pd} {i : Nat} {rest : List Nat} {a : Act} {w : World} {a' : Act} {w' : World} (o : Oper) (ho : ops[i]? = some o) (x : Value) (w1 : World) (pd : List Pd) (h : Ev P ops kd i o a w x w1 pd)
   (hp : kd i = .w → w1 = w ∨ ∀ p ∈ pend, pre bef i p.i = false → p.ok P w1) (hr : RS (pd ++ pend) rest (a.put o.dst x) w1 pend' a' w') : RS pend (i :: rest) a w pend' a' w'
theorem RS.rr {pend pend' : List Pd} {is : List Nat} {a a' : Act} {w w' : World} (h : RS P ops kd bef pend is a w pend' a' w') : RR P ops kd bef pend is a w a' w' := by
 induction h with
 | nil => exact .nil _ _ _
 | cons o ho x w1 pd h hp hr ih => exact .cons o ho x w1 pd h hp ih
theorem RS.append {p0 p1 p2 : List Pd} {is js : List Nat} {a a1 a2 : Act} {w w1 w2 : World} (h : RS P ops kd bef p0 is a w p1 a1 w1) (h2 : RS P ops kd bef p1 js a1 w1 p2 a2 w2) : RS P ops kd bef p0 (is ++ js) a w p2 a2 w2 := by
 induction h with
 | nil => exact h2
 | cons o ho x w1 pd h hp hr ih => exact .cons o ho x w1 pd h hp (ih h2)
def isol (fr js : List Nat) : Bool := js.all fun k => (match kd k with | .w => fr.all (fun i => pre bef k i) | _ => true)
theorem RS.less {fr : List Nat} {p0 p0' p1 : List Pd} {js : List Nat} {a a1 : Act} {w w1 : World} (hi : isol kd bef fr js = true) (hm : ∀ e ∈ p0', e ∈ p0 ∨ e.i ∈ fr) (h : RS P ops kd bef p0 js a w p1 a1 w1) : ∃ p3, RS P ops kd bef p0' js a w p3 a1 w1 ∧ ∀ e ∈ p3, e ∈ p1 ∨ e.i ∈ fr := by
 induction h generalizing p0' with
 | nil => exact ⟨_, .nil _ _ _, hm⟩
 | cons o ho x w1 pd h hp hr ih =>
  rename_i k _ _ _ _ _
  unfold isol at hi
  simp only [List.all_cons, Bool.and_eq_true] at hi
  obtain ⟨p3, h3, h4⟩ := ih (p0' := pd ++ p0') hi.2 (fun e he => by
   rcases List.mem_append.1 he with h | h
   ·exact .inl (List.mem_append_left _ h)
   ·exact (hm e h).imp (List.mem_append_right _) id)
  refine ⟨p3, .cons o ho x w1 pd h (fun hk => (hp hk).imp id (fun hq p hp' hpre => ?_)) h3, h4⟩
  rcases hm p hp' with h | h
  ·exact hq p h hpre
  ·exfalso
   have := hi.1
   rw [hk] at this
   simp only [List.all_eq_true] at this
   rw [this _ h] at hpre
   cases hpre
inductive Cov (p2 : List Pd) (fr : List Nat) : List Pd → Prop
 | nil : Cov p2 fr []
 | keep {e : Pd} {l : List Pd} (h : e ∈ p2) (hl : Cov p2 fr l) : Cov p2 fr (e :: l)
 | drop {e : Pd} {l : List Pd} (h : e.i ∈ fr) (hl : Cov p2 fr l) : Cov p2 fr (e :: l)
theorem Cov.mem {p2 : List Pd} {fr : List Nat} {l : List Pd} (h : Cov p2 fr l) : ∀ e ∈ l, e ∈ p2 ∨ e.i ∈ fr := by
 induction h with
 | nil => simp
 | keep h hl ih =>
  intro e he
  rcases List.mem_cons.1 he with rfl | he
  ·exact .inl h
  ·exact ih e he
 | drop h hl ih =>
  intro e he
  rcases List.mem_cons.1 he with rfl | he
  ·exact .inr h
  ·exact ih e he
end
def DOk (D : Nat → Prop) (v : World) (h : Loc) : Prop := ∀ b, D b → Husk v b ∧ ∀ e ∈ h, e.1 ≠ b
def Kp (D : Nat → Prop) (v v1 w w1 : World) (h1 : Loc) : Prop := ∀ b, D b → w1.heap[b]? = w.heap[b]? ∧ v1.heap[b]? = v.heap[b]? ∧ ∀ e ∈ h1, e.1 ≠ b
theorem Kp.dok {D : Nat → Prop} {v v1 w w1 : World} {h h1 : Loc} (hd : DOk D v h) (hk : Kp D v v1 w w1 h1) : DOk D v1 h1 := fun b hb => ⟨(hd b hb).1.same (hk b hb).2.1, (hk b hb).2.2⟩
theorem Kp.trans {D : Nat → Prop} {v v1 v2 w w1 w2 : World} {h1 h2 : Loc} (hk : Kp D v v1 w w1 h1) (hk2 : Kp D v1 v2 w1 w2 h2) : Kp D v v2 w w2 h2 :=
 fun b hb => ⟨(hk2 b hb).1.trans (hk b hb).1, (hk2 b hb).2.1.trans (hk b hb).2.1, (hk2 b hb).2.2⟩
theorem Kp.refl {D : Nat → Prop} {v w : World} {h : Loc} (hd : DOk D v h) : Kp D v v w w h := fun b hb => ⟨rfl, rfl, (hd b hb).2⟩
structure Cx where
 P : Program
 n : Nat
 ops : Array Oper
 kd : List Nat
 bef : List Nat
def kdOf (l : List Nat) (i : Nat) : Kd := match l.getD i 2 with
 | 0 => .p
 | 1 => .l
 | _ => .w
def kdP (l : List Nat) (i : Nat) : Bool := match kdOf l i with | .l => false | _ => true
def kdL (l : List Nat) (i : Nat) : Bool := match kdOf l i with | .l => true | _ => false
def kdW (l : List Nat) (i : Nat) : Bool := match kdOf l i with | .w => true | _ => false
theorem Zxg {l : List Nat} {i : Nat} (h : kdL l i = true) : kdOf l i = .l := by
 unfold kdL at h
 split at h
 ·assumption
 ·cases h
theorem Zxe {l : List Nat} {i : Nat} (h : kdW l i = true) : kdOf l i = .w := by
 unfold kdW at h
 split at h
 ·assumption
 ·cases h
theorem Zxf {l : List Nat} {i : Nat} (h : kdP l i = true) : kdOf l i ≠ .l := by
 intro e
 unfold kdP at h
 rw [e] at h
 cases h
abbrev Cx.RS (c : Cx) := Lx.RS c.P c.ops (kdOf c.kd) c.bef
def OJ {β : Type} (c : Cx) (pend : List Pd) (is : List Nat) (m : Env) (h : Loc) (x : M β) (R : List Pd → Env → Loc → M β → Prop) : Prop :=
 ∀ v r v', x v = some (r, v') → ∀ w a, St c.n m h v w a → ∀ D, DOk D v h →
  ∃ p1 m1 h1 x1 v1 w1 a1, R p1 m1 h1 x1 ∧ x1 v1 = some (r, v') ∧ c.RS pend is a w p1 a1 w1 ∧ St c.n m1 h1 v1 w1 a1 ∧ Kp D v v1 w w1 h1
def OW {β : Type} (c : Cx) (owed pend : List Pd) (is : List Nat) (m : Env) (h : Loc) (x : M β) (R : List Pd → Env → Loc → M β → Prop) : Prop :=
 ∀ v r v', x v = some (r, v') → ∀ w a, St c.n m h v w a → ∀ D, DOk D v h → (∀ p ∈ owed, p.ok c.P w) ∧
  ∃ p1 m1 h1 x1 v1 w1 a1, R p1 m1 h1 x1 ∧ x1 v1 = some (r, v') ∧ c.RS pend is a w p1 a1 w1 ∧ St c.n m1 h1 v1 w1 a1 ∧ Kp D v v1 w w1 h1
section
variable {β : Type} {c : Cx} {pend : List Pd} {is : List Nat} {m : Env} {h : Loc} {x : M β} {R : List Pd → Env → Loc → M β → Prop}
theorem OJ.nil (hR : R pend m h x) : OJ c pend [] m h x R :=
 fun v r v' e w a s D hD => ⟨pend, m, h, x, v, w, a, hR, e, .nil _ _ _, s, Kp.refl hD⟩
theorem OW.nil (hJ : OJ c pend is m h x R) : OW c [] pend is m h x R :=
 fun v r v' e w a s D hD => ⟨by simp, hJ v r v' e w a s D hD⟩
theorem OJ.less {m' : Env} (ts : List Nat) (hm : lks m ts = some m') (hJ : OJ c pend is m' h x R) : OJ c pend is m h x R :=
 fun v r v' e w a s D hD => hJ v r v' e w a (s.less (ZgQ hm)) D hD
def onB (ops : Array Oper) (m : Env) (o : Oper) : Option Bool :=
 match o.guard with
 | none => some true
 | some (j, want) => match ops[j]? with
  | some oj => match oj.dst with
   | some t => match lk m t, want with
    | some (.bool true), true | some (.bool false), false => some true
    | some (.bool true), false | some (.bool false), true => some false
    | some (.tuple _), _ => some false
    | _, _ => none
   | none => none
  | none => none
theorem Zoz {n : Nat} {v w : World} {a : Act} {ops : Array Oper} {o : Oper} {b : Bool} (hb : onB ops m o = some b) (s : St n m h v w a) : Region.wanted o (yielded ops a.tmps) = b := by
 unfold onB at hb
 unfold Region.wanted
 split at hb
 ·rename_i hg
  rw [hg]
  exact Option.some.inj hb
 ·rename_i j want hg
  rw [hg]
  split at hb
  ·rename_i oj hj
   split at hb
   ·rename_i t ht
    have hy : ∀ y, lk m t = some (.bool y) → yielded ops a.tmps j = some y := by
     intro y hy
     unfold yielded
     simp [hj, ht, s.get t _ hy]
    have hu : ∀ y, lk m t = some (.tuple y) → yielded ops a.tmps j = none := by
     intro y hy
     unfold yielded
     simp [hj, ht, s.get t _ hy]
    split at hb <;> first
     | (cases hb; done)
     | (rename_i hl; cases hb; simp [hy _ hl]; done)
     | (rename_i hl; cases hb; simp [hu _ hl]; done)
   ·cases hb
  ·cases hb
def core (ops : Array Oper) (m : Env) (i : Nat) : Option (Option Nat × Op) :=
 match ops[i]? with
 | some o => match onB ops m o with
  | some true => some (o.dst, o.op)
  | _ => none
 | none => none
theorem Zkm {ops : Array Oper} {i : Nat} {d : Option Nat} {op : Op} (hc : core ops m i = some (d, op)) : ∃ o, ops[i]? = some o ∧ o.dst = d ∧ o.op = op ∧ ∀ {n v w a}, St n m h v w a → Region.wanted o (yielded ops a.tmps) = true := by
 unfold core at hc
 split at hc
 ·rename_i o ho
  split at hc
  ·rename_i hb
   simp only [Option.some.injEq, Prod.mk.injEq] at hc
   exact ⟨o, ho, hc.1, hc.2, fun s => Zoz hb s⟩
  ·cases hc
 ·cases hc
def runP (P : Program) (ops : Array Oper) (kd : List Nat) (n : Nat) : List Nat → Env → Option Env
 | [], m => some m
 | i :: is, m => match ops[i]? with
  | none => none
  | some o => match onB ops m o, kdP kd i with
   | some true, true => match pv P (evm m) o.op with
    | some x => match o.dst with
     | some d => match Nat.blt d n with
      | true => runP P ops kd n is ((d, x) :: m)
      | false => none
     | none => runP P ops kd n is m
    | none => none
   | some false, _ => match o.dst with
    | some d => match Nat.blt d n with
     | true => runP P ops kd n is ((d, undef) :: m)
     | false => none
    | none => runP P ops kd n is m
   | _, _ => none
theorem Ev.of_pure {P : Program} {ops : Array Oper} {kd : List Nat} {i : Nat} {o : Oper} {a : Act} {w : World} {x : Value} (hk : kdP kd i = true) (hw : Region.wanted o (yielded ops a.tmps) = true) (hx : ∀ w', (execOp a.eval o).run P w' = .ok (.value x) w') :
  Ev P ops (kdOf kd) i o a w x w [] := by
 cases e : kdOf kd i with
 | p => exact .pure e hw x hx
 | l => exact absurd e (Zxf hk)
 | w => exact .write e hw x w (.inl (hx w))
theorem ZjB : ∀ (is1 : List Nat) {m m1 : Env} {v w : World} {a : Act} {pend : List Pd}, runP c.P c.ops c.kd c.n is1 m = some m1 → St c.n m h v w a → ∃ a1, c.RS pend is1 a w pend a1 w ∧ St c.n m1 h v w a1
 | [], m, m1, v, w, a, pend, e, s => by
  simp only [runP, Option.some.injEq] at e
  subst e
  exact ⟨a, .nil _ _ _, s⟩
 | i :: is1, m, m1, v, w, a, pend, e, s => by
  unfold runP at e
  split at e
  ·cases e
  ·rename_i o ho
   split at e
   ·rename_i hb hk
    have hw := Zoz hb s
    split at e
    ·rename_i x hx
     have hrun := fun w' => Zw4 (P := c.P) (o := o) (ev := evm m) (ρ := a.eval) (fun _ _ h => s.eval h) hx w'
     have hev : Ev c.P c.ops (kdOf c.kd) i o a w x w [] := Ev.of_pure hk hw hrun
     split at e
     ·rename_i d hd
      split at e
      ·rename_i hlt
       have hdn : d < c.n := by simpa [Nat.blt_eq] using hlt
       obtain ⟨a1, h1, h2⟩ := ZjB is1 e (s.put hdn x)
       exact ⟨a1, .cons o ho x w [] hev (fun _ => .inl rfl) (by rw [hd]; exact h1), h2⟩
      ·cases e
     ·rename_i hd
      obtain ⟨a1, h1, h2⟩ := ZjB is1 e s
      exact ⟨a1, .cons o ho x w [] hev (fun _ => .inl rfl) (by rw [hd]; exact h1), h2⟩
    ·cases e
   ·rename_i hb
    have hw := Zoz hb s
    have hev : Ev c.P c.ops (kdOf c.kd) i o a w undef w [] := .off hw
    split at e
    ·rename_i d hd
     split at e
     ·rename_i hlt
      have hdn : d < c.n := by simpa [Nat.blt_eq] using hlt
      obtain ⟨a1, h1, h2⟩ := ZjB is1 e (s.put hdn undef)
      exact ⟨a1, .cons o ho undef w [] hev (fun _ => .inl rfl) (by rw [hd]; exact h1), h2⟩
     ·cases e
    ·rename_i hd
     obtain ⟨a1, h1, h2⟩ := ZjB is1 e s
     exact ⟨a1, .cons o ho undef w [] hev (fun _ => .inl rfl) (by rw [hd]; exact h1), h2⟩
   ·cases e
def noW (kd : List Nat) (is : List Nat) (pend : List Pd) : Bool := pend.isEmpty || is.all fun i => !kdW kd i
theorem OJ.run (is1 is2 ts : List Nat) {m2 : Env} (hi : is = is1 ++ is2) (hm : (match runP c.P c.ops c.kd c.n is1 m with | some m1 => lks m1 ts | none => none) = some m2) (hJ : OJ c pend is2 m2 h x R) : OJ c pend is m h x R := by
 subst hi
 intro v r v' e w a s D hD
 split at hm
 ·rename_i m1 hm1
  obtain ⟨a1, h1, h2⟩ := ZjB (c := c) (h := h) (pend := pend) is1 hm1 s
  obtain ⟨p1, m3, h3, x3, v3, w3, a3, q1, q2, q3, q4, q5⟩ := hJ v r v' e w a1 (h2.less (ZgQ hm)) D hD
  exact ⟨p1, m3, h3, x3, v3, w3, a3, q1, q2, RS.append _ _ _ _ h1 q3, q4, q5⟩
 ·cases hm
theorem OJ.go (n : Nat) (new : Env) (hJ : OJ c pend (is.drop n) (new ++ m) h x R) (hm : runP c.P c.ops c.kd c.n (is.take n) m = some (new ++ m) := by kernel_rfl) : OJ c pend is m h x R := by
 intro v r v' e w a s D hD
 obtain ⟨a1, h1, h2⟩ := ZjB (c := c) (h := h) (pend := pend) (is.take n) hm s
 obtain ⟨p1, m3, h3, x3, v3, w3, a3, q1, q2, q3, q4, q5⟩ := hJ v r v' e w a1 h2 D hD
 have h4 := RS.append _ _ _ _ h1 q3
 rw [List.take_append_drop] at h4
 exact ⟨p1, m3, h3, x3, v3, w3, a3, q1, q2, h4, q4, q5⟩
def Zsj (kd : List Nat) (i : Nat) (T : TypeId) (ad : Addr) (x : Value) : List Pd := match kdOf kd i with
 | .l => [⟨i, T, ad, x⟩]
 | _ => []
theorem Zp1 {P : Program} {o : Oper} {T : TypeId} {y : Operand} {ρ : Operand → Value} {ad : Addr} (ho : o.op = .load T y) (hy : ρ y = .pointer (some ad)) (w : World) : (execOp ρ o).run P w = ((loadVar T ad).run P w).andThen fun z w2 => .ok (.value z) w2 := by
 obtain ⟨dst, op, type, pos, after, guard⟩ := o
 simp only at ho
 subst ho
 simp [execOp, Instr.loadAt, hy, Instr.sureAddr]
theorem ZoE {P : Program} {T : TypeId} {α : Type} {cd : Cod α} {z : α} (ty : Ty P T cd z) {w : World} {ad : Addr} {y : α} (hr : rdF w ad 0 cd.n = some (cd.enc y)) : (loadVar T ad).run P w = .ok (cd.val y) w := by
 unfold loadVar
 rw [Sem.run_bind, ZpR ty]
 simp only [Result.andThen_ok]
 unfold Cod.val
 cases hagg : cd.agg with
 | true =>
  simp only [if_true]
  simp only [Sem.run_bind, ZiU ty, Result.andThen_ok, loadCells, Zfx P w ad cd.n 0 #[] _ hr]
  simp
 | false =>
  simp only [Bool.false_eq_true, if_false]
  have h1 := cd.one hagg
  rw [h1] at hr
  obtain ⟨q, hq, h2⟩ := Option.bind_eq_some_iff.1 hr
  obtain ⟨l', hl', h3⟩ := Option.map_eq_some_iff.1 h2
  simp only [rdF, Option.some.injEq] at hl'
  subst hl'
  rw [← h3]
  have ha : ad.add 0 = ad := rfl
  rw [ha] at hq
  simp [hq]
theorem ZqN {α : Type} {cd : Cod α} {ad : Addr} {v v' : World} {y : α} (h : ld cd ad v = some (y, v')) : v' = v ∧ rdF v ad 0 cd.n = some (cd.enc y) := by
 obtain ⟨l, hl, h2⟩ := Option.bind_eq_some_iff.1 h
 obtain ⟨y', hy', h3⟩ := Option.map_eq_some_iff.1 h2
 simp only [Prod.mk.injEq] at h3
 obtain ⟨rfl, rfl⟩ := h3
 exact ⟨rfl, by rw [hl, cd.ed _ _ hy']⟩
theorem Ev.of_load {P : Program} {ops : Array Oper} {kd : List Nat} {i : Nat} {o : Oper} {a : Act} {w : World} {T : TypeId} {y : Operand} {ad : Addr} {z : Value} (hk : kdP kd i = false ∨ kdW kd i = true) (hw : Region.wanted o (yielded ops a.tmps) = true) (ho : o.op = .load T y) (hy : a.eval y = .pointer (some ad)) (hz : (loadVar T ad).run P w = .ok z w) :
  Ev P ops (kdOf kd) i o a w z w (Zsj kd i T ad z) := by
 unfold Zsj
 cases e : kdOf kd i with
 | p => rcases hk with hk | hk <;> simp [kdP, kdW, e] at hk
 | l => exact .load e hw T ad z (fun w' => Zp1 ho hy w') hz
 | w => exact .write e hw z w (.inl (by rw [Zp1 ho hy w, hz]; rfl))
theorem ldK {l : List Nat} {i : Nat} (h : kdL l i = true) : kdP l i = false := by
 unfold kdP
 rw [Zxg h]
theorem OJ.ld {α : Type} {i d : Nat} {T : TypeId} {y : Operand} {cd : Cod α} {z0 : α} {ad : Addr} {f : α → M β} {pend2 : α → List Pd} (ty : Ty c.P T cd z0) (hp : ∀ q, Zsj c.kd i T ad (cd.val q) ++ pend = pend2 q) (hJ : ∀ q, OJ c (pend2 q) is ((d, cd.val q) :: m) h (f q) R) (hc : core c.ops m i = some (some d, .load T y) := by kernel_rfl) (hy : evm m y = some (.pointer (some ad)) := by kernel_rfl) (hd : Nat.blt d c.n = true := by kernel_rfl) (hk : (kdL c.kd i || (kdW c.kd i && pend.isEmpty)) = true := by kernel_rfl) : OJ c pend (i :: is) m h (ld cd ad >>= f) R := by
 intro v r v' e w a s D hD
 obtain ⟨q, v1, h1, h2⟩ := bind_some.1 e
 obtain ⟨rfl, hr⟩ := ZqN h1
 obtain ⟨o, ho, hod, hop, hw⟩ := Zkm (h := h) hc
 have hlt : d < c.n := by simpa [Nat.blt_eq] using hd
 have hload := ZoE ty (Zmh s.sub ad _ _ _ hr)
 obtain ⟨p1, m3, h3, x3, v3, w3, a3, q1, q2, q3, q4, q5⟩ := hJ q v1 r v' h2 w _ (s.put hlt (cd.val q)) D hD
 refine ⟨p1, m3, h3, x3, v3, w3, a3, q1, q2, ?_, q4, q5⟩
 have hk2 : kdP c.kd i = false ∨ kdW c.kd i = true := by
  rcases Bool.or_eq_true_iff.1 hk with hk | hk
  ·exact .inl (ldK hk)
  ·exact .inr (Bool.and_eq_true_iff.1 hk).1
 refine .cons o ho (cd.val q) w _ (Ev.of_load hk2 (hw s) hop (s.eval hy) hload) (fun _ => .inl rfl) ?_
 rw [hp, hod]; exact q3
theorem Ztj {w : World} {b : Nat} {cs : List Value} {T : TypeId} {fr : Nat × Nat} (hb : w.heap[b]? = some (.cells cs.toArray T fr)) : ∀ (n i o : Nat) (k : List Value), k.length = n → (∀ j, j < n → cs[o + i + j]? = k[j]?) → rdF w (pt b o) i n = some k
 | 0, i, o, k, hl, _ => by
  obtain rfl := List.eq_nil_of_length_eq_zero hl
  rfl
 | n + 1, i, o, k, hl, hk => by
  match k, hl with
  | y :: k, hl =>
   unfold rdF
   have h0 := hk 0 (by omega)
   rw [Ztm]
   have hc : w.cell? (pt b (o + i)) = some y := by
    unfold World.cell? pt
    simp only [hb]
    simpa using h0
   rw [hc, Ztj hb n (i + 1) o k (by simpa using hl) (fun j hj => by
    have := hk (j + 1) (by omega)
    rw [show o + (i + 1) + j = o + i + (j + 1) by omega, this]
    simp)]
   rfl
theorem ZvE {w : World} {b o : Nat} {cs k : List Value} {T : TypeId} {fr : Nat × Nat} (hb : w.heap[b]? = some (.cells cs.toArray T fr)) (ha : At cs o k) : rdF w (pt b o) 0 k.length = some k :=
 Ztj hb k.length 0 o k rfl fun j hj => by rw [Nat.add_zero]; exact ha.get j hj
theorem St.known {n : Nat} {v w : World} {a : Act} (s : St n m h v w a) {j b : Nat} {l : List Value} (hj : h[j]? = some (b, l)) : Husk v b ∧ ∃ T, w.heap[b]? = some (.cells l.toArray T (0, 0)) :=
 s.loc (b, l) (List.mem_of_getElem? hj)
theorem ZiW {P : Program} {n : Nat} {v w : World} {a : Act} (s : St n m h v w a) {j b o : Nat} {l : List Value} (hj : h[j]? = some (b, l)) {α : Type} {T : TypeId} {cd : Cod α} {z0 q : α} (ty : Ty P T cd z0) (ha : At l o (cd.enc q)) : (loadVar T (pt b o)).run P w = .ok (cd.val q) w := by
 obtain ⟨_, T', hT⟩ := s.known hj
 have := ZvE hT ha
 rw [cd.len] at this
 exact ZoE ty this
theorem OJ.kld {α : Type} {i d j b o : Nat} {T : TypeId} {y : Operand} {cd : Cod α} {z0 : α} {l : List Value} (q : α) {pend2 : List Pd} (ty : Ty c.P T cd z0) (hj : h[j]? = some (b, l)) (ha : At l o (cd.enc q)) (hp : Zsj c.kd i T (pt b o) (cd.val q) ++ pend = pend2) (hJ : OJ c pend2 is ((d, cd.val q) :: m) h x R) (hc : core c.ops m i = some (some d, .load T y) := by kernel_rfl) (hy : evm m y = some (.pointer (some (pt b o))) := by kernel_rfl) (hd : Nat.blt d c.n = true := by kernel_rfl) (hk : (kdL c.kd i || (kdW c.kd i && pend.isEmpty)) = true := by kernel_rfl) : OJ c pend (i :: is) m h x R := by
 intro v r v' e w a s D hD
 obtain ⟨oo, ho, hod, hop, hw⟩ := Zkm (h := h) hc
 have hlt : d < c.n := by simpa [Nat.blt_eq] using hd
 have hload := ZiW (P := c.P) s hj ty ha
 obtain ⟨p1, m3, h3, x3, v3, w3, a3, q1, q2, q3, q4, q5⟩ := hJ v r v' e w _ (s.put hlt (cd.val q)) D hD
 refine ⟨p1, m3, h3, x3, v3, w3, a3, q1, q2, ?_, q4, q5⟩
 have hk2 : kdP c.kd i = false ∨ kdW c.kd i = true := by
  rcases Bool.or_eq_true_iff.1 hk with hk | hk
  ·exact .inl (ldK hk)
  ·exact .inr (Bool.and_eq_true_iff.1 hk).1
 refine .cons oo ho (cd.val q) w _ (Ev.of_load hk2 (hw s) hop (s.eval hy) hload) (fun _ => .inl rfl) ?_
 rw [hp, hod]; exact q3
noncomputable def same {α : Type} (cd : Cod α) (ad : Addr) (q : α) : M Unit := fun v => open Classical in if ld cd ad v = some (q, v) then some ((), v) else none
theorem OW.same {α : Type} {T : TypeId} {cd : Cod α} {z0 q : α} {i : Nat} {ad : Addr} {owed : List Pd} {f : Unit → M β} (ty : Ty c.P T cd z0) (hJ : OW c owed pend is m h (f ()) R) : OW c (⟨i, T, ad, cd.val q⟩ :: owed) pend is m h (same cd ad q >>= f) R := by
 intro v r v' e w a s D hD
 obtain ⟨u, v1, h1, h2⟩ := bind_some.1 e
 unfold Lx.same at h1
 split at h1
 ·rename_i hl
  simp only [Option.some.injEq, Prod.mk.injEq] at h1
  obtain ⟨-, rfl⟩ := h1
  obtain ⟨ho, hrest⟩ := hJ v r v' h2 w a s D hD
  refine ⟨fun p hp => ?_, hrest⟩
  rcases List.mem_cons.1 hp with rfl | hp
  ·exact ZoE ty (Zmh s.sub ad _ _ _ (ZqN hl).2)
  ·exact ho p hp
 ·cases h1
theorem OW.known {α : Type} {T : TypeId} {cd : Cod α} {z0 : α} {q : α} {i j b o : Nat} {l : List Value} {owed : List Pd} (ty : Ty c.P T cd z0) (hj : h[j]? = some (b, l)) (ha : At l o (cd.enc q)) (hJ : OW c owed pend is m h x R) : OW c (⟨i, T, pt b o, cd.val q⟩ :: owed) pend is m h x R := by
 intro v r v' e w a s D hD
 obtain ⟨ho, hrest⟩ := hJ v r v' e w a s D hD
 refine ⟨fun p hp => ?_, hrest⟩
 rcases List.mem_cons.1 hp with rfl | hp
 ·exact ZiW s hj ty ha
 ·exact ho p hp
def owes (bef : List Nat) (i : Nat) : List Pd → List Pd
 | [] => []
 | p :: r => match pre bef i p.i with
  | true => owes bef i r
  | false => p :: owes bef i r
theorem Zmr {bef : List Nat} {i : Nat} : ∀ {pend : List Pd} {p : Pd}, p ∈ pend → pre bef i p.i = false → p ∈ owes bef i pend
 | q :: r, p, hm, hp => by
  unfold owes
  rcases List.mem_cons.1 hm with rfl | hm
  ·rw [hp]; simp
  ·cases pre bef i q.i
   ·exact List.mem_cons_of_mem _ (Zmr hm hp)
   ·exact Zmr hm hp
end
end
section
open Go
variable [Zd5]
section
variable {β : Type} {c : Cx} {pend : List Pd} {is : List Nat} {m : Env} {h : Loc} {x : M β} {R : List Pd → Env → Loc → M β → Prop}
theorem OJ.wr {i : Nat} {dst : Option Nat} {op : Op} {owed : List Pd} (hc : core c.ops m i = some (dst, op)) (hk : kdW c.kd i = true) (ho : owes c.bef i pend = owed)
  (hs : ∀ v r v', x v = some (r, v') → ∀ w a, St c.n m h v w a → ∀ D, DOk D v h → ∃ y w1 v1 x1 m1 h1, (∀ o : Oper, o.op = op → Yld c.P o a w y w1) ∧ x1 v1 = some (r, v') ∧ St c.n m1 h1 v1 w1 (a.put dst y) ∧ Kp D v v1 w w1 h1 ∧ OW c owed pend is m1 h1 x1 R) : OJ c pend (i :: is) m h x R := by
 intro v r v' e w a s D hD
 obtain ⟨o, hoo, hod, hop, hw⟩ := Zkm (h := h) hc
 obtain ⟨y, w1, v1, x1, m1, h1, hy, hx1, s1, hkp, hJ⟩ := hs v r v' e w a s D hD
 obtain ⟨hok, p1, m3, h3, x3, v3, w3, a3, q1, q2, q3, q4, q5⟩ := hJ v1 r v' hx1 w1 _ s1 D (hkp.dok hD)
 refine ⟨p1, m3, h3, x3, v3, w3, a3, q1, q2, .cons o hoo y w1 [] (.write (Zxe hk) (hw s) y w1 (hy o hop)) (fun _ => .inr fun p hp hpre => hok p (by rw [← ho]; exact Zmr hp hpre)) ?_, q4, hkp.trans q5⟩
 rw [hod]; exact q3
theorem OJ.q {i d : Nat} {op : Op} (hc : core c.ops m i = some (some d, op)) (hk : kdP c.kd i = true) (hn : noW c.kd [i] pend = true) (hd : Nat.blt d c.n = true)
  (hs : ∀ v r v', x v = some (r, v') → ∀ w a, St c.n m h v w a → ∃ y x1, (∀ o : Oper, o.op = op → ∀ w', (execOp a.eval o).run c.P w' = .ok (.value y) w') ∧ x1 v = some (r, v') ∧ OJ c pend is ((d, y) :: m) h x1 R) : OJ c pend (i :: is) m h x R := by
 intro v r v' e w a s D hD
 obtain ⟨o, hoo, hod, hop, hw⟩ := Zkm (h := h) hc
 obtain ⟨y, x1, hy, hx1, hJ⟩ := hs v r v' e w a s
 have hlt : d < c.n := by simpa [Nat.blt_eq] using hd
 obtain ⟨p1, m3, h3, x3, v3, w3, a3, q1, q2, q3, q4, q5⟩ := hJ v r v' hx1 w _ (s.put hlt y) D hD
 refine ⟨p1, m3, h3, x3, v3, w3, a3, q1, q2, .cons o hoo y w [] (Ev.of_pure hk (hw s) (hy o hop)) (fun _ => .inl rfl) ?_, q4, q5⟩
 rw [hod]; exact q3
theorem Zgi {p : Prop} [Decidable p] {v v' : World} {u : Unit} (hh : chk p v = some (u, v')) : p ∧ v' = v := by
 unfold chk at hh
 split at hh
 ·rename_i hp
  simp only [Option.some.injEq, Prod.mk.injEq] at hh
  exact ⟨hp, hh.2.symm⟩
 ·cases hh
theorem Zef {P : Program} {o : Oper} {op : Op} (ho : o.op = op) {ρ : Operand → Value} : execOp ρ o = execOp ρ { o with op := op } := by subst ho; rfl
theorem OJ.nilck {i d : Nat} {y : Operand} {p : Option Addr} {f : Addr → M β} (hJ : ∀ ad, OJ c pend is ((d, .pointer (some ad)) :: m) h (f ad) R) (hc : core c.ops m i = some (some d, .nilCheck y) := by kernel_rfl) (hy : evm m y = some (.pointer p) := by kernel_rfl) (hk : kdP c.kd i = true := by kernel_rfl) (hn : noW c.kd [i] pend = true := by kernel_rfl) (hd : Nat.blt d c.n = true := by kernel_rfl) : OJ c pend (i :: is) m h (nilck p >>= f) R := by
 refine OJ.q hc hk hn hd fun v r v' e w a s => ?_
 obtain ⟨ad, v1, h1, h2⟩ := bind_some.1 e
 cases p with
 | none => cases h1
 | some ad' =>
  simp only [Lx.nilck, pure_def, Option.some.injEq, Prod.mk.injEq] at h1
  obtain ⟨rfl, rfl⟩ := h1
  refine ⟨.pointer (some ad'), f ad', fun o ho w' => ?_, h2, hJ ad'⟩
  rw [Zef (P := c.P) ho]
  simp [execOp, s.eval hy]
theorem OJ.idxS {i d E len cap sz : Nat} {T : TypeId} {y j : Operand} {k : IntKind} {p : Option Addr} {ix : Int} {f : Addr → M β} (hJ : ∀ ad, OJ c pend is ((d, .pointer (some ad)) :: m) h (f ad) R) (hc : core c.ops m i = some (some d, .indexAddr T y j) := by kernel_rfl) (hT : c.P.underlying T = some (.slice E) := by kernel_rfl) (hE : (c.P.info? E).map (·.size) = some sz := by kernel_rfl) (hy : evm m y = some (.slice p len cap) := by kernel_rfl) (hj : evm m j = some (.int k ix) := by kernel_rfl) (hk : kdP c.kd i = true := by kernel_rfl) (hn : noW c.kd [i] pend = true := by kernel_rfl) (hd : Nat.blt d c.n = true := by kernel_rfl) : OJ c pend (i :: is) m h (idx p len ix sz >>= f) R := by
 refine OJ.q hc hk hn hd fun v r v' e w a s => ?_
 obtain ⟨ad, v1, h1, h2⟩ := bind_some.1 e
 obtain ⟨inf, hinf, rfl⟩ := Option.map_eq_some_iff.1 hE
 unfold idx at h1
 split at h1
 ·rename_i a0
  split at h1
  ·rename_i hb
   simp only [Option.some.injEq, Prod.mk.injEq] at h1
   obtain ⟨rfl, rfl⟩ := h1
   refine ⟨_, _, fun o ho w' => ?_, h2, hJ _⟩
   rw [Zef (P := c.P) ho]
   simp [execOp, Instr.indexAt, s.eval hy, s.eval hj, asIntOf, underlying, hT, sizeOf, typeInfo, hinf, hb]
  ·cases h1
 ·cases h1
theorem OJ.idxA {i d E len sz : Nat} {T : TypeId} {y j : Operand} {k : IntKind} {a0 : Addr} {ix : Int} {f : Addr → M β} (hJ : ∀ ad, OJ c pend is ((d, .pointer (some ad)) :: m) h (f ad) R) (hc : core c.ops m i = some (some d, .indexAddr T y j) := by kernel_rfl) (hT : c.P.underlying T = some (.array len E) := by kernel_rfl) (hE : (c.P.info? E).map (·.size) = some sz := by kernel_rfl) (hy : evm m y = some (.pointer (some a0)) := by kernel_rfl) (hj : evm m j = some (.int k ix) := by kernel_rfl) (hk : kdP c.kd i = true := by kernel_rfl) (hn : noW c.kd [i] pend = true := by kernel_rfl) (hd : Nat.blt d c.n = true := by kernel_rfl) : OJ c pend (i :: is) m h (idx (some a0) len ix sz >>= f) R := by
 refine OJ.q hc hk hn hd fun v r v' e w a s => ?_
 obtain ⟨ad, v1, h1, h2⟩ := bind_some.1 e
 obtain ⟨inf, hinf, rfl⟩ := Option.map_eq_some_iff.1 hE
 unfold idx at h1
 split at h1
 ·rename_i hh
  cases hh
  split at h1
  ·rename_i hb
   simp only [Option.some.injEq, Prod.mk.injEq] at h1
   obtain ⟨rfl, rfl⟩ := h1
   refine ⟨_, _, fun o ho w' => ?_, h2, hJ _⟩
   rw [Zef (P := c.P) ho]
   simp [execOp, Instr.indexAt, s.eval hy, s.eval hj, asIntOf, underlying, hT, sizeOf, typeInfo, hinf, hb, Instr.sureAddr]
  ·cases h1
 ·rename_i hh; cases hh
theorem OJ.idxK {i d E len sz b o : Nat} {T : TypeId} {y j : Operand} {k : IntKind} {ix : Int} {f : Unit → M β} (hJ : 0 ≤ ix → ix < len → OJ c pend is ((d, .pointer (some (pt b (o + ix.toNat * sz)))) :: m) h (f ()) R) (hc : core c.ops m i = some (some d, .indexAddr T y j) := by kernel_rfl) (hT : c.P.underlying T = some (.array len E) := by kernel_rfl) (hE : (c.P.info? E).map (·.size) = some sz := by kernel_rfl) (hy : evm m y = some (.pointer (some (pt b o))) := by kernel_rfl) (hj : evm m j = some (.int k ix) := by kernel_rfl) (hk : kdP c.kd i = true := by kernel_rfl) (hn : noW c.kd [i] pend = true := by kernel_rfl) (hd : Nat.blt d c.n = true := by kernel_rfl) : OJ c pend (i :: is) m h (chk (0 ≤ ix ∧ ix < len) >>= f) R := by
 refine OJ.q hc hk hn hd fun v r v' e w a s => ?_
 obtain ⟨ad, v1, h1, h2⟩ := bind_some.1 e
 obtain ⟨inf, hinf, rfl⟩ := Option.map_eq_some_iff.1 hE
 obtain ⟨hb, rfl⟩ := Zgi h1
 refine ⟨_, _, fun oo ho w' => ?_, h2, hJ hb.1 hb.2⟩
 rw [Zef (P := c.P) ho]
 simp [execOp, Instr.indexAt, s.eval hy, s.eval hj, asIntOf, underlying, hT, sizeOf, typeInfo, hinf, hb, Instr.sureAddr, Ztm]
theorem OJ.quo {i d : Nat} {T yT : TypeId} {y z : Operand} {k : IntKind} {p q : Int} {f : Unit → M β} (hJ : q ≠ 0 → OJ c pend is ((d, .int k (k.wrap (p.tdiv q))) :: m) h (f ()) R) (hc : core c.ops m i = some (some d, .binOp .quo T y z yT) := by kernel_rfl) (hy : evm m y = some (.int k p) := by kernel_rfl) (hz : evm m z = some (.int k q) := by kernel_rfl) (hk : kdP c.kd i = true := by kernel_rfl) (hn : noW c.kd [i] pend = true := by kernel_rfl) (hd : Nat.blt d c.n = true := by kernel_rfl) : OJ c pend (i :: is) m h (chk (q ≠ 0) >>= f) R := by
 refine OJ.q hc hk hn hd fun v r v' e w a s => ?_
 obtain ⟨ad, v1, h1, h2⟩ := bind_some.1 e
 obtain ⟨hq, rfl⟩ := Zgi h1
 refine ⟨_, _, fun o ho w' => ?_, h2, hJ hq⟩
 obtain ⟨dst, op, type, pos, after, guard⟩ := o
 simp only at ho
 subst ho
 refine Zes (s.eval hy) (s.eval hz) (Zd2 (by rintro _ _ ⟨h, _⟩; cases h) (by rintro ⟨h, _⟩; cases h) _) (ZkP rfl (by simp [ZpS, hq]) _ _)
theorem OJ.rem {i d : Nat} {T yT : TypeId} {y z : Operand} {k : IntKind} {p q : Int} {f : Unit → M β} (hJ : q ≠ 0 → OJ c pend is ((d, .int k (p.tmod q)) :: m) h (f ()) R) (hc : core c.ops m i = some (some d, .binOp .rem T y z yT) := by kernel_rfl) (hy : evm m y = some (.int k p) := by kernel_rfl) (hz : evm m z = some (.int k q) := by kernel_rfl) (hk : kdP c.kd i = true := by kernel_rfl) (hn : noW c.kd [i] pend = true := by kernel_rfl) (hd : Nat.blt d c.n = true := by kernel_rfl) : OJ c pend (i :: is) m h (chk (q ≠ 0) >>= f) R := by
 refine OJ.q hc hk hn hd fun v r v' e w a s => ?_
 obtain ⟨ad, v1, h1, h2⟩ := bind_some.1 e
 obtain ⟨hq, rfl⟩ := Zgi h1
 refine ⟨_, _, fun o ho w' => ?_, h2, hJ hq⟩
 obtain ⟨dst, op, type, pos, after, guard⟩ := o
 simp only at ho
 subst ho
 refine Zes (s.eval hy) (s.eval hz) (Zd2 (by rintro _ _ ⟨h, _⟩; cases h) (by rintro ⟨h, _⟩; cases h) _) (ZkP rfl (by simp [ZpS, hq]) _ _)
theorem Zlh {y : Value} (h : (∀ cs, y ≠ .agg cs) ∧ ∀ cs, y ≠ .tuple cs) : y.oneCell' = true := by
 cases y <;> first | rfl | exact absurd rfl (h.1 _) | exact absurd rfl (h.2 _)
theorem ZfU (P : Program) (a : Addr) : ∀ (l : List Value) (i : Nat) (v v' w : World), (∀ y ∈ l, (∀ cs, y ≠ .agg cs) ∧ ∀ cs, y ≠ .tuple cs) → wrF v a i l = some v' → Sub v w →
  ∃ w', (storeCells a l i).run P w = .ok () w' ∧ Sub v' w' ∧ ∀ b, Husk v b → w'.heap[b]? = w.heap[b]? ∧ v'.heap[b]? = v.heap[b]?
 | [], i, v, v', w, _, e, hs => by
  simp only [wrF, Option.some.injEq] at e
  subst e
  exact ⟨w, by simp [storeCells], hs, fun _ _ => ⟨rfl, rfl⟩⟩
 | y :: l, i, v, v', w, hf, e, hs => by
  unfold wrF at e
  split at e
  ·rename_i hc
   simp only [Bool.and_eq_true, Bool.not_eq_true', Option.isSome_iff_exists] at hc
   obtain ⟨⟨q, hq⟩, hfr⟩ := hc
   have hb : ¬ Hid v (a.add i).block := fun hb => ZrB hb hq
   have s1 := hs.setCell (a.add i) y hb
   obtain ⟨w', h1, h2, h3⟩ := ZfU P a l (i + 1) _ v' _ (fun z hz => hf z (List.mem_cons_of_mem _ hz)) e s1
   refine ⟨w', ?_, h2, fun b hbb => ?_⟩
   ·simp only [storeCells, Sem.run_bind]
    rw [run_store _ _ _ _ _ (Zlh (hf y (by simp))), hs.cell hq, hs.frozen, hfr]
    exact h1
   ·have hne : (a.add i).block ≠ b := fun e => hb (e ▸ .inl hbb)
    have hv : (v.setCell (a.add i) y).heap[b]? = v.heap[b]? := by rw [Zdz, if_neg hne]
    have hw : (w.setCell (a.add i) y).heap[b]? = w.heap[b]? := by rw [Zdz, if_neg hne]
    obtain ⟨e1, e2⟩ := h3 b (hbb.same hv)
    exact ⟨e1.trans hw, e2.trans hv⟩
  ·cases e
theorem Zk5 {P : Program} {T : TypeId} {α : Type} {cd : Cod α} {z0 z : α} (ty : Ty P T cd z0) {w w' : World} {a : Addr} (hr : (storeCells a (cd.enc z) 0).run P w = .ok () w') : (storeVar T a (cd.val z)).run P w = .ok () w' := by
 unfold storeVar
 simp only [Sem.run_bind, ZiU ty, Result.andThen_ok, cd.cells]
 rw [if_neg (by simp [cd.len])]
 simpa using hr
theorem Zoa {P : Program} {o : Oper} {T : TypeId} {y z : Operand} {ρ : Operand → Value} {ad : Addr} {u : Value} (ho : o.op = .store T y z) (hy : ρ y = .pointer (some ad)) (hz : ρ z = u) {w w' : World} (hr : (storeVar T ad u).run P w = .ok () w') : (execOp ρ o).run P w = .ok .skip w' := by
 obtain ⟨dst, op, type, pos, after, guard⟩ := o
 simp only at ho
 subst ho
 simp [execOp, Instr.storeAt, hy, hz, Instr.sureAddr, hr]
theorem Loc.keep {n : Nat} {v v1 w w1 : World} {a : Act} (s : St n m h v w a) (hk : ∀ b, Husk v b → w1.heap[b]? = w.heap[b]? ∧ v1.heap[b]? = v.heap[b]?) : ∀ e ∈ h, Husk v1 e.1 ∧ ∃ T, w1.heap[e.1]? = some (.cells e.2.toArray T (0, 0)) := by
 intro e he
 obtain ⟨h1, T, h2⟩ := s.loc e he
 obtain ⟨k1, k2⟩ := hk e.1 h1
 exact ⟨h1.same k2, T, k1.trans h2⟩
theorem Kp.of {D : Nat → Prop} {v v1 w w1 : World} (hD : DOk D v h) (hk : ∀ b, Husk v b → w1.heap[b]? = w.heap[b]? ∧ v1.heap[b]? = v.heap[b]?) : Kp D v v1 w w1 h :=
 fun b hb => ⟨(hk b (hD b hb).1).1, (hk b (hD b hb).1).2, (hD b hb).2⟩
theorem OJ.st {α : Type} {i : Nat} {T : TypeId} {y z : Operand} {cd : Cod α} {z0 u : α} {ad : Addr} {owed : List Pd} {f : Unit → M β} (ty : Ty c.P T cd z0) (hJ : OW c owed pend is m h (f ()) R) (hc : core c.ops m i = some (none, .store T y z) := by kernel_rfl) (hy : evm m y = some (.pointer (some ad)) := by kernel_rfl) (hz : evm m z = some (cd.val u) := by kernel_rfl) (hk : kdW c.kd i = true := by kernel_rfl) (ho : owes c.bef i pend = owed := by kernel_rfl) : OJ c pend (i :: is) m h (st cd ad u >>= f) R := by
 refine OJ.wr hc hk ho fun v r v' e w a s D hD => ?_
 obtain ⟨uu, v1, h1, h2⟩ := bind_some.1 e
 obtain ⟨v1', hv1, h3⟩ := Option.map_eq_some_iff.1 h1
 simp only [Prod.mk.injEq] at h3
 obtain ⟨-, rfl⟩ := h3
 obtain ⟨w1, hr, hs1, hkp⟩ := ZfU c.P ad (cd.enc u) 0 v v1' w (cd.flat u) hv1 s.sub
 refine ⟨undef, w1, v1', f (), m, h, fun o hop => .inr (.inl ⟨Zoa hop (s.eval hy) (s.eval hz) (Zk5 ty hr), rfl⟩), h2, ?_, Kp.of hD hkp, hJ⟩
 exact ⟨hs1, s.size, s.defers.keep hkp, s.get, Loc.keep s hkp, s.nd⟩
theorem Zpr (P : Program) (b : Nat) (T : TypeId) (v : World) (hb : Husk v b) : ∀ (k p q s : List Value) (i o : Nat) (w : World), o + i = p.length → q.length = k.length → (∀ y ∈ k, (∀ cs, y ≠ .agg cs) ∧ ∀ cs, y ≠ .tuple cs) → w.heap[b]? = some (.cells (p ++ q ++ s).toArray T (0, 0)) → Sub v w →
  ∃ w', (storeCells (pt b o) k i).run P w = .ok () w' ∧ Sub v w' ∧ w'.heap[b]? = some (.cells (p ++ k ++ s).toArray T (0, 0)) ∧ ∀ b', b' ≠ b → w'.heap[b']? = w.heap[b']?
 | [], p, q, s, i, o, w, _, hq, _, hw, hs => by
  obtain rfl := List.eq_nil_of_length_eq_zero hq
  exact ⟨w, by simp [storeCells], hs, hw, fun _ _ => rfl⟩
 | y :: k, p, q, s, i, o, w, hp, hq, hf, hw, hs => by
  match q, hq with
  | z :: q, hq =>
   have hc : w.cell? (pt b (o + i)) = some z := by
    unfold World.cell? pt
    simp [hw, hp]
   have hfz : w.frozen? (pt b (o + i)) = false := by
    unfold World.frozen? pt
    simp [hw]
   have hw1 : (w.setCell (pt b (o + i)) y).heap[b]? = some (.cells ((p ++ [y]) ++ q ++ s).toArray T (0, 0)) := by
    rw [Zdz]
    simp [pt, hw, hp, List.setIfInBounds_toArray]
   obtain ⟨w', h1, h2, h3, h4⟩ := Zpr P b T v hb k (p ++ [y]) q s (i + 1) o _ (by simp; omega) (by simpa using hq) (fun z hz => hf z (List.mem_cons_of_mem _ hz)) hw1 (hs.inner (pt b (o + i)) y hb)
   refine ⟨w', ?_, h2, by simpa using h3, fun b' hb' => (h4 b' hb').trans ?_⟩
   ·simp only [storeCells, Sem.run_bind, Ztm]
    rw [run_store _ _ _ _ _ (Zlh (hf y (by simp))), hc, hfz]
    exact h1
   ·rw [Zdz, if_neg (fun e => hb' (by rw [← e]; rfl))]
theorem Zqv {h : Loc} {j b : Nat} {l l' : List Value} (hj : h[j]? = some (b, l)) : (h.set j (b, l')).map (·.1) = h.map (·.1) := by
 apply List.ext_getElem?
 intro k
 simp only [List.getElem?_map, List.getElem?_set]
 by_cases e : j = k
 ·subst e
  have hlt : j < h.length := (List.getElem?_eq_some_iff.1 hj).1
  simp [hlt, hj]
  have := (List.getElem?_eq_some_iff.1 hj).2
  rw [this]
 ·simp [e]
theorem OJ.kst {α : Type} {i j b o : Nat} {T : TypeId} {y z : Operand} {cd : Cod α} {z0 u : α} {l : List Value} (l' : List Value) {h2 : Loc} {owed : List Pd} (ty : Ty c.P T cd z0) (hj : h[j]? = some (b, l)) (hu : Upd l o (cd.enc u) l') (hh : h.set j (b, l') = h2) (hJ : OW c owed pend is m h2 x R) (hc : core c.ops m i = some (none, .store T y z) := by kernel_rfl) (hy : evm m y = some (.pointer (some (pt b o))) := by kernel_rfl) (hz : evm m z = some (cd.val u) := by kernel_rfl) (hk : kdW c.kd i = true := by kernel_rfl) (ho : owes c.bef i pend = owed := by kernel_rfl) : OJ c pend (i :: is) m h x R := by
 refine OJ.wr hc hk ho fun v r v' e w a s D hD => ?_
 obtain ⟨hhusk, T', hT⟩ := s.known hj
 obtain ⟨p, q, t, rfl, rfl, hq, rfl⟩ := hu
 obtain ⟨w1, hr, hs1, hb1, hoth⟩ := Zpr c.P b T' v hhusk (cd.enc u) p q t 0 p.length w rfl hq (cd.flat u) hT s.sub
 have hmem : ∀ e ∈ h2, (e = (b, p ++ cd.enc u ++ t)) ∨ (e ∈ h ∧ e.1 ≠ b) := by
  intro e he
  rw [← hh] at he
  obtain ⟨k, hk1, hk2⟩ := List.mem_iff_getElem.1 he
  rw [List.getElem_set] at hk2
  by_cases ejk : j = k
  ·rw [if_pos ejk] at hk2
   exact .inl hk2.symm
  ·rw [if_neg ejk] at hk2
   have hk3 : k < h.length := by simpa using hk1
   refine .inr ⟨hk2 ▸ List.getElem_mem hk3, fun e1 => ejk ?_⟩
   have hjl : j < h.length := (List.getElem?_eq_some_iff.1 hj).1
   have hnd := s.nd
   have e2 : (h.map (·.1))[j]'(by simpa using hjl) = (h.map (·.1))[k]'(by simpa using hk3) := by
    simp only [List.getElem_map]
    rw [(List.getElem?_eq_some_iff.1 hj).2, hk2]
    exact e1.symm
   exact (List.getElem_inj hnd).1 e2
 refine ⟨undef, w1, v, x, m, h2, fun oo hop => .inr (.inl ⟨Zoa hop (s.eval hy) (s.eval hz) (Zk5 ty hr), rfl⟩), e, ⟨hs1, s.size, ⟨fun d hd => ?_, s.defers.2⟩, s.get, ?_, by rw [← hh, Zqv hj]; exact s.nd⟩, fun b' hb' => ?_, hJ⟩
 ·obtain ⟨r, e1, e2, e3⟩ := s.defers.1 d hd
  exact ⟨r, e1, e2, (hoth r (fun e => by rw [e, hT] at e3; cases e3)).trans e3⟩
 ·intro e he
  rcases hmem e he with rfl | ⟨he1, he2⟩
  ·exact ⟨hhusk, T', hb1⟩
  ·obtain ⟨k1, T2, k2⟩ := s.loc e he1
   exact ⟨k1, T2, (hoth e.1 he2).trans k2⟩
 ·have hne : b ≠ b' := (hD b' hb').2 _ (List.mem_of_getElem? hj)
  refine ⟨hoth b' (fun e => hne e.symm), rfl, fun e he => ?_⟩
  rcases hmem e he with rfl | ⟨he1, _⟩
  ·exact hne
  ·exact (hD b' hb').2 e he1
theorem ZlX {D : Nat → Prop} {v w : World} (hD : DOk D v h) (hs : Sub v w) (o o' : Obj) : Kp D v (v.alloc o) w (w.alloc o') h ∧ ∀ b, D b → v.heap.size ≠ b := by
 refine ⟨fun b hb => ⟨?_, (hD b hb).1.alloc o, (hD b hb).2⟩, fun b hb e => ?_⟩
 ·have := (hD b hb).1.lt
  show (w.heap.push o')[b]? = _
  rw [Array.getElem?_push, if_neg (by rw [hs.size]; omega)]
 ·have := (hD b hb).1.lt
  omega
theorem Zn1 {P : Program} {T : TypeId} {y : Value} (w : World) : (newVar T y).run P w = .ok ⟨w.heap.size, 0, none⟩ (w.alloc (.cells y.cells T)) := by
 unfold newVar newRow
 simp [Sem.run_bind]
theorem St.alloc {n d : Nat} {v w : World} {a : Act} (s : St n m h v w a) (hd : d < n) (y : Value) (o o' : Obj) (hsub : Sub (v.alloc o) (w.alloc o')) (h2 : Loc) (hl : ∀ e ∈ h2, (e ∈ h) ∨ (e.1 = v.heap.size ∧ Husk (v.alloc o) e.1 ∧ ∃ T, (w.alloc o').heap[e.1]? = some (.cells e.2.toArray T (0, 0)))) (hnd : (h2.map (·.1)).Nodup) :
  St n ((d, y) :: m) h2 (v.alloc o) (w.alloc o') (a.put (some d) y) := by
 refine ⟨hsub, by simp [Act.put, s.size], s.defers.keep (fun b hb => ⟨by rw [ZiJ, if_neg (by rw [s.sub.size]; have := hb.lt; omega)], hb.alloc o⟩), Zlj hd s.size s.get, fun e he => ?_, hnd⟩
 rcases hl e he with h1 | ⟨_, h1, h2⟩
 ·obtain ⟨k1, T, k2⟩ := s.loc e h1
  have hlt := k1.lt
  refine ⟨k1.same (k1.alloc o), T, ?_⟩
  show (w.heap.push o')[e.1]? = _
  rw [Array.getElem?_push, if_neg (by rw [s.sub.size]; omega)]
  exact k2
 ·exact ⟨h1, h2⟩
theorem OJ.slotOf {α : Type} {i d : Nat} {T : TypeId} {op : Op} {cd : Cod α} {u : α} {owed : List Pd} {f : Nat → M β} (hrun : ∀ v w a, St c.n m h v w a → ∀ o : Oper, o.op = op → (execOp a.eval o).run c.P w = .ok (.value (.pointer (some ⟨w.heap.size, 0, none⟩))) (w.alloc (.cells (cd.enc u).toArray T))) (hJ : ∀ b, OW c owed pend is ((d, .pointer (some (pt b 0))) :: m) ((b, cd.enc u) :: h) (f b) R) (hc : core c.ops m i = some (some d, op) := by kernel_rfl) (hd : Nat.blt d c.n = true := by kernel_rfl) (hk : kdW c.kd i = true := by kernel_rfl) (ho : owes c.bef i pend = owed := by kernel_rfl) : OJ c pend (i :: is) m h (slot T >>= f) R := by
 refine OJ.wr hc hk ho fun v r v' e w a s D hD => ?_
 obtain ⟨b, v1, h1, h2⟩ := bind_some.1 e
 simp only [slot, Option.some.injEq, Prod.mk.injEq] at h1
 obtain ⟨rfl, rfl⟩ := h1
 have hlt : d < c.n := by simpa [Nat.blt_eq] using hd
 obtain ⟨hkp, hne⟩ := ZlX hD s.sub (.cells #[] T) (.cells (cd.enc u).toArray T)
 have hpt : (Value.pointer (some ⟨w.heap.size, 0, none⟩)) = .pointer (some (pt v.heap.size 0)) := by rw [s.sub.size]; rfl
 refine ⟨_, _, _, f v.heap.size, (d, .pointer (some (pt v.heap.size 0))) :: m, (v.heap.size, cd.enc u) :: h, fun o hop => .inl (hrun v w a s o hop), h2, ?_, ?_, hJ _⟩
 ·rw [hpt]
  refine s.alloc hlt _ _ _ (s.sub.slot _ T) _ (fun e he => ?_) ?_
  ·rcases List.mem_cons.1 he with rfl | he
   ·refine .inr ⟨rfl, ⟨T, ?_⟩, T, ?_⟩
    ·show (v.heap.push _)[v.heap.size]? = _
     simp
    ·show (w.heap.push _)[v.heap.size]? = _
     rw [← s.sub.size]
     simp
   ·exact .inl he
  ·simp only [List.map_cons, List.nodup_cons]
   refine ⟨fun hm => ?_, s.nd⟩
   obtain ⟨e, he, e1⟩ := List.mem_map.1 hm
   have := (s.loc e he).1.lt
   omega
 ·intro b hb
  obtain ⟨k1, k2, k3⟩ := hkp b hb
  refine ⟨k1, k2, fun e he => ?_⟩
  rcases List.mem_cons.1 he with rfl | he
  ·exact hne b hb
  ·exact k3 e he
theorem OJ.newOf {α : Type} {i d : Nat} {T : TypeId} {op : Op} {cd : Cod α} {u : α} {owed : List Pd} {f : Nat → M β} (hrun : ∀ v w a, St c.n m h v w a → ∀ o : Oper, o.op = op → (execOp a.eval o).run c.P w = .ok (.value (.pointer (some ⟨w.heap.size, 0, none⟩))) (w.alloc (.cells (cd.enc u).toArray T))) (hJ : ∀ b, OW c owed pend is ((d, .pointer (some (pt b 0))) :: m) h (f b) R) (hc : core c.ops m i = some (some d, op) := by kernel_rfl) (hd : Nat.blt d c.n = true := by kernel_rfl) (hk : kdW c.kd i = true := by kernel_rfl) (ho : owes c.bef i pend = owed := by kernel_rfl) : OJ c pend (i :: is) m h (newv T cd u >>= f) R := by
 refine OJ.wr hc hk ho fun v r v' e w a s D hD => ?_
 obtain ⟨b, v1, h1, h2⟩ := bind_some.1 e
 simp only [newv, Option.some.injEq, Prod.mk.injEq] at h1
 obtain ⟨rfl, rfl⟩ := h1
 have hlt : d < c.n := by simpa [Nat.blt_eq] using hd
 obtain ⟨hkp, hne⟩ := ZlX hD s.sub (.cells (cd.enc u).toArray T) (.cells (cd.enc u).toArray T)
 have hpt : (Value.pointer (some ⟨w.heap.size, 0, none⟩)) = .pointer (some (pt v.heap.size 0)) := by rw [s.sub.size]; rfl
 refine ⟨_, _, _, f v.heap.size, (d, .pointer (some (pt v.heap.size 0))) :: m, h, fun o hop => .inl (hrun v w a s o hop), h2, ?_, hkp, hJ _⟩
 rw [hpt]
 exact s.alloc hlt _ _ _ (s.sub.alloc _) _ (fun e he => .inl he) s.nd
theorem Zuj {α : Type} {T : TypeId} {y : Operand} {cd : Cod α} {u : α} (hy : evm m y = some (cd.val u)) : ∀ v w a, St c.n m h v w a → ∀ o : Oper, o.op = .box T y → (execOp a.eval o).run c.P w = .ok (.value (.pointer (some ⟨w.heap.size, 0, none⟩))) (w.alloc (.cells (cd.enc u).toArray T)) := by
 intro v w a s o ho
 rw [Zef (P := c.P) ho]
 simp [execOp, Instr.box, s.eval hy, Zn1, cd.cells]
theorem ZdY {α : Type} {T : TypeId} {cd : Cod α} {u : α} (ty : Ty c.P T cd u) : ∀ v w a, St c.n m h v w a → ∀ o : Oper, o.op = .alloc T → (execOp a.eval o).run c.P w = .ok (.value (.pointer (some ⟨w.heap.size, 0, none⟩))) (w.alloc (.cells (cd.enc u).toArray T)) := by
 intro v w a s o ho
 rw [Zef (P := c.P) ho]
 obtain ⟨inf, hi, he⟩ := Option.map_eq_some_iff.1 ty.info
 simp only [Prod.mk.injEq] at he
 have hz : (zeroValue T).run c.P w = .ok (cd.val u) w := by simp [zeroValue, typeInfo, hi, he.2]
 simp [execOp, Instr.alloc, hz, Zn1, cd.cells]
def Ref (P : Program) (g : FuncId) {α : Type} (vals : List Value) (y : M α) (out : α → Value) : Prop :=
 ∀ v r v', y v = some (r, v') → ∀ w, Sub v w → ∃ w', Sub v' w' ∧ (∀ b, Husk v b → w'.heap[b]? = w.heap[b]? ∧ v'.heap[b]? = v.heap[b]?) ∧ Calls P g vals.toArray w (fun e w2 => e = .returned (out r) ∧ w2 = w')
structure Fun (P : Program) (g : FuncId) (fn : Func) : Prop where
 at_ : P.funcs[g]? = some fn
 name : (fn.name == "runtime.NumGoroutine") = false
 body : fn.body.isSome = true
def evms (m : Env) : List Operand → Option (List Value)
 | [] => some []
 | x :: r => match evm m x, evms m r with
  | some y, some l => some (y :: l)
  | _, _ => none
theorem Zhq {n : Nat} {v w : World} {a : Act} (s : St n m h v w a) : ∀ {l : List Operand} {r : List Value}, evms m l = some r → l.map a.eval = r
 | [], r, e => by simp only [evms, Option.some.injEq] at e; subst e; rfl
 | x :: l, r, e => by
  unfold evms at e
  split at e
  ·rename_i y l' hy hl
   simp only [Option.some.injEq] at e
   subst e
   simp [s.eval hy, Zhq s hl]
  ·cases e
theorem ZiG {P : Program} {g : FuncId} {fn : Func} (hf : Fun P g fn) (args : Array Value) (w : World) : (callFunc g args).run P w = .ok (.enter g args) w := by
 have hb : fn.body.isNone = false := by have := hf.body; cases h : fn.body <;> simp_all
 unfold callFunc
 simp only [Sem.run_bind, run_program, Result.andThen_ok, hf.at_, hf.name, hb, Bool.false_eq_true, if_false, Sem.run_pure]
theorem Zt8 {P : Program} {o : Oper} {g : FuncId} {fn : Func} {args : List Operand} {ats : Array TypeId} {ρ : Operand → Value} {vals : List Value} {fo : Operand} {first cap : List Value} (ho : o.op = .call { callee := .value fo, args := args.toArray, argTypes := ats }) (hf : Fun P g fn) (hfo : ρ fo = .func (.func g) first.toArray cap.toArray) (hv : args.map ρ = vals) (w : World) :
  (execOp ρ o).run P w = .ok (.enter g (first ++ vals ++ cap).toArray) w := by
 rw [Zef (P := P) ho]
 simp only [execOp, resolve, Sem.run_bind, hfo, Deferred.ofValue, Sem.run_pure, Result.andThen_ok, invoke]
 rw [ZiG hf]
 congr 2
 simp [← hv]
theorem OJ.callAny {α : Type} {i g : Nat} {fn : Func} {dst : Option Nat} {args : List Operand} {ats : Array TypeId} {fo : Operand} {first cap vals : List Value} {y : M α} {out : α → Value} {owed : List Pd} {f : α → M β} (m2 : α → Env) (hc : core c.ops m i = some (dst, .call { callee := .value fo, args := args.toArray, argTypes := ats })) (hf : Fun c.P g fn)
  (hfo : evm m fo = some (.func (.func g) first.toArray cap.toArray)) (hv : evms m args = some vals) (hy : Ref c.P g (first ++ vals ++ cap) y out) (hm2 : (∃ d, dst = some d ∧ d < c.n ∧ ∀ q, m2 q = (d, out q) :: m) ∨ (dst = none ∧ ∀ q, m2 q = m)) (hk : kdW c.kd i = true) (ho : owes c.bef i pend = owed)
  (hJ : ∀ q, OW c owed pend is (m2 q) h (f q) R) : OJ c pend (i :: is) m h (y >>= f) R := by
 refine OJ.wr hc hk ho fun v r v' e w a s D hD => ?_
 obtain ⟨q, v1, h1, h2⟩ := bind_some.1 e
 obtain ⟨w1, hs1, hkp, hcalls⟩ := hy v q v1 h1 w s.sub
 refine ⟨out q, w1, v1, f q, m2 q, h, fun o hop => .inr (.inr (.inl ⟨g, _, w, Zt8 hop hf (s.eval hfo) (Zhq s hv) w, hcalls⟩)), h2, ?_, Kp.of hD hkp, hJ q⟩
 rcases hm2 with ⟨d, rfl, hd, e2⟩ | ⟨rfl, e2⟩
 ·rw [e2]
  exact ⟨hs1, by simp [Act.put, s.size], s.defers.keep hkp, Zlj hd s.size s.get, Loc.keep s hkp, s.nd⟩
 ·rw [e2]
  exact ⟨hs1, s.size, s.defers.keep hkp, s.get, Loc.keep s hkp, s.nd⟩
theorem OJ.call {α : Type} {i g d : Nat} {fn : Func} {args : List Operand} {ats : Array TypeId} {vals : List Value} {y : M α} {out : α → Value} {owed : List Pd} {f : α → M β} (hf : Fun c.P g fn) (hy : Ref c.P g vals y out) (hJ : ∀ q, OW c owed pend is ((d, out q) :: m) h (f q) R) (hc : core c.ops m i = some (some d, .call { callee := .value (.func g), args := args.toArray, argTypes := ats }) := by kernel_rfl) (hv : evms m args = some vals := by kernel_rfl) (hd : Nat.blt d c.n = true := by kernel_rfl) (hk : kdW c.kd i = true := by kernel_rfl) (ho : owes c.bef i pend = owed := by kernel_rfl) : OJ c pend (i :: is) m h (y >>= f) R :=
 OJ.callAny (first := []) (cap := []) (fun q => (d, out q) :: m) hc hf rfl hv (by simpa using hy) (.inl ⟨d, rfl, by simpa [Nat.blt_eq] using hd, fun _ => rfl⟩) hk ho hJ
theorem OJ.call0 {α : Type} {i g : Nat} {fn : Func} {args : List Operand} {ats : Array TypeId} {vals : List Value} {y : M α} {out : α → Value} {owed : List Pd} {f : α → M β} (hf : Fun c.P g fn) (hy : Ref c.P g vals y out) (hJ : ∀ q, OW c owed pend is m h (f q) R) (hc : core c.ops m i = some (none, .call { callee := .value (.func g), args := args.toArray, argTypes := ats }) := by kernel_rfl) (hv : evms m args = some vals := by kernel_rfl) (hk : kdW c.kd i = true := by kernel_rfl) (ho : owes c.bef i pend = owed := by kernel_rfl) : OJ c pend (i :: is) m h (y >>= f) R :=
 OJ.callAny (first := []) (cap := []) (fun _ => m) hc hf rfl hv (by simpa using hy) (.inr ⟨rfl, fun _ => rfl⟩) hk ho hJ
theorem ZoG {m : Env} {t : Nat} {y : Value} {b : Bool} (ht : lk m t = some (.bool b)) {n : Nat} {v w : World} {a : Act} (s : St n m h v w a) (hb : Value.bool b = y) : St n ((t, y) :: m) h v w a := by
 subst hb
 refine ⟨s.sub, s.size, s.defers, fun t' z hz => ?_, s.loc, s.nd⟩
 unfold lk at hz
 cases e : Nat.beq t t' with
 | true =>
  rw [e] at hz
  obtain rfl := Nat.eq_of_beq_eq_true e
  simp only [Option.some.injEq] at hz
  subst hz
  exact s.get t _ ht
 | false =>
  rw [e] at hz
  exact s.get t' z hz
theorem OJ.join {α : Type} {p : Prop} [Decidable p] (gs : List Nat) (is2 : List Nat) (ts : List Nat) {t : Nat} {b : Bool} {X1 X0 : M α} {f : α → M β} (mo : α → Env) (pend2 : List Pd) (fr : List Nat) (hp : b = true ↔ p) (h1 : p → OJ c pend gs ((t, .bool true) :: m) h X1 (fun p' m' h' x' => (∀ e ∈ p', e ∈ pend2 ∨ e.i ∈ fr) ∧ h' = h ∧ ∃ y, x' = pure y ∧ lks m' ts = some (mo y))) (h0 : ¬ p → OJ c pend gs ((t, .bool false) :: m) h X0 (fun p' m' h' x' => (∀ e ∈ p', e ∈ pend2 ∨ e.i ∈ fr) ∧ h' = h ∧ ∃ y, x' = pure y ∧ lks m' ts = some (mo y))) (hR : ∀ p q m' h' x', (∀ e ∈ q, e ∈ p ∨ e.i ∈ fr) → R p m' h' x' → R q m' h' x') (hJ : ∀ y, OJ c pend2 is2 (mo y) h (f y) R) (hi : is = gs ++ is2 := by kernel_rfl) (ht : lk m t = some (.bool b) := by kernel_rfl) (hiso : isol (kdOf c.kd) c.bef fr is2 = true := by kernel_rfl) : OJ c pend is m h ((if p then X1 else X0) >>= f) R := by
 subst hi
 intro v r v' e w a s D hD
 obtain ⟨y, v1, e1, e2⟩ := bind_some.1 e
 have key : ∃ p1 v2 w1 a1, (∀ e ∈ p1, e ∈ pend2 ∨ e.i ∈ fr) ∧ c.RS pend gs a w p1 a1 w1 ∧ St c.n (mo y) h v2 w1 a1 ∧ Kp D v v2 w w1 h ∧ v2 = v1 := by
  by_cases hpp : p
  ·rw [if_pos hpp] at e1
   obtain ⟨p1, m3, h3, x3, v3, w3, a3, ⟨hsub, rfl, y', rfl, hl⟩, q2, q3, q4, q5⟩ := h1 hpp v y v1 e1 w a (ZoG ht s (by rw [hp.2 hpp])) D hD
   simp only [pure_def, Option.some.injEq, Prod.mk.injEq] at q2
   obtain ⟨rfl, rfl⟩ := q2
   exact ⟨p1, v3, w3, a3, hsub, q3, q4.less (ZgQ hl), q5, rfl⟩
  ·rw [if_neg hpp] at e1
   have hb : b = false := by
    cases b
    ·rfl
    ·exact absurd (hp.1 rfl) hpp
   obtain ⟨p1, m3, h3, x3, v3, w3, a3, ⟨hsub, rfl, y', rfl, hl⟩, q2, q3, q4, q5⟩ := h0 hpp v y v1 e1 w a (ZoG ht s (by rw [hb])) D hD
   simp only [pure_def, Option.some.injEq, Prod.mk.injEq] at q2
   obtain ⟨rfl, rfl⟩ := q2
   exact ⟨p1, v3, w3, a3, hsub, q3, q4.less (ZgQ hl), q5, rfl⟩
 obtain ⟨p1, v2, w1, a1, hsub, hrs, s1, hkp, rfl⟩ := key
 obtain ⟨p2, m3, h3, x3, v3, w3, a3, q1, q2, q3, q4, q5⟩ := hJ y v2 r v' e2 w1 a1 s1 D (hkp.dok hD)
 obtain ⟨p3, hmore, hsub2⟩ := RS.less _ _ _ _ hiso hsub q3
 exact ⟨p3, m3, h3, x3, v3, w3, a3, hR _ _ _ _ _ hsub2 q1, q2, RS.append _ _ _ _ hrs hmore, q4, hkp.trans q5⟩
end
end
section
open Go
variable [Zd5]
inductive Kind | skip | seq | cond (t : Operand) | block (id : Nat) | loop | exit (id : Nat) | ret | region (id : Nat) (draw : Bool) | scope | label | other
def Zdy : Code → Kind
 | .skip => .skip
 | .seq _ _ => .seq
 | .cond t _ _ => .cond t
 | .block id _ => .block id
 | .loop _ => .loop
 | .exit id => .exit id
 | .ret => .ret
 | .region id _ d => .region id d
 | .scope _ => .scope
 | .label _ => .label
 | _ => .other
def c1 : Code → Code
 | .seq a _ => a
 | .cond _ a _ => a
 | .block _ a => a
 | .loop a => a
 | .scope a => a
 | c => c
def c2 : Code → Code
 | .seq _ b => b
 | .cond _ _ b => b
 | c => c
def Zfn : Code → Array Oper
 | .region _ ops _ => ops
 | _ => #[]
theorem Zu5 {c : Code} (h : Zdy c = .seq) : c = .seq (c1 c) (c2 c) := by cases c <;> first | rfl | cases h
theorem ZpO {c : Code} {t : Operand} (h : Zdy c = .cond t) : c = .cond t (c1 c) (c2 c) := by cases c <;> first | (cases h; rfl) | cases h
theorem Zst {c : Code} {id : Nat} (h : Zdy c = .block id) : c = .block id (c1 c) := by cases c <;> first | (cases h; rfl) | cases h
theorem ZtL {c : Code} (h : Zdy c = .loop) : c = .loop (c1 c) := by cases c <;> first | rfl | cases h
theorem ZtM {c : Code} {id : Nat} (h : Zdy c = .exit id) : c = .exit id := by cases c <;> first | (cases h; rfl) | cases h
theorem Zu6 {c : Code} (h : Zdy c = .ret) : c = .ret := by cases c <;> first | rfl | cases h
theorem ZtK {c : Code} (h : Zdy c = .skip) : c = .skip := by cases c <;> first | rfl | cases h
theorem ZjI {c : Code} {id : Nat} {d : Bool} (h : Zdy c = .region id d) : c = .region id (Zfn c) d := by cases c <;> first | (cases h; rfl) | cases h
inductive Reach
 | ret (x : Value)
 | at (k : List Item) (m : Env) (h : Loc)
 | jump (j : Code)
structure Fx where
 P : Program
 f : FuncId
 fn : Func
 ro : Option Nat
def ZwQ (k : List Item) : Code → Prop
 | .ret => True
 | .exit id => exitTo id k = none
 | _ => False
def MD (D : Nat → Prop) (a : Act) : Prop := ∀ r, mkOf r ∈ a.defers → ¬ D r
def Fin (c : Fx) (D : Nat → Prop) (v' : World) (k : List Item) (a : Act) (w w' : World) : Reach → Prop
 | .ret x => ∃ a' m' h', St c.fn.ntmps m' h' v' w' a' ∧ MD D a' ∧ (∀ w a, St c.fn.ntmps m' h' v' w a → (results c.fn a.tmps).run c.P w = .ok x w) ∧
   ∀ (b : Frame) cs, b.fn = c.f → b.kind = .normal → b.roundOf = c.ro → ∃ todo, Steps c.P (lone (b.atR a k) cs w) (lone { b.atR a' todo with mode := .returning } cs w')
 | .at k' m' h' => ∃ a', St c.fn.ntmps m' h' v' w' a' ∧ MD D a' ∧ ∀ (b : Frame) cs, b.fn = c.f → b.kind = .normal → b.roundOf = c.ro → Steps c.P (lone (b.atR a k) cs w) (lone (b.atR a' k') cs w')
 | .jump j => ∃ a' m' h' k1, St c.fn.ntmps m' h' v' w' a' ∧ ZwQ k1 j ∧ ∀ (b : Frame) cs, b.fn = c.f → b.kind = .normal → b.roundOf = c.ro → Steps c.P (lone (b.atR a k) cs w) (lone (b.atR a' (.code j :: k1)) cs w')
theorem Fin.head {c : Fx} {D : Nat → Prop} {v' : World} {k k1 : List Item} {a a1 : Act} {w w1 w' : World} {r : Reach} (h : ∀ (b : Frame) cs, b.fn = c.f → b.kind = .normal → b.roundOf = c.ro → Steps c.P (lone (b.atR a k) cs w) (lone (b.atR a1 k1) cs w1)) (hf : Fin c D v' k1 a1 w1 w' r) : Fin c D v' k a w w' r := by
 cases r with
 | ret x =>
  obtain ⟨a', m', h', hs, hd, hr, hst⟩ := hf
  exact ⟨a', m', h', hs, hd, hr, fun b cs hb hk hro => by
   obtain ⟨todo, ht⟩ := hst b cs hb hk hro
   exact ⟨todo, (h b cs hb hk hro).trans ht⟩⟩
 | «at» k' m' h' =>
  obtain ⟨a', hs, hd, hst⟩ := hf
  exact ⟨a', hs, hd, fun b cs hb hk hro => (h b cs hb hk hro).trans (hst b cs hb hk hro)⟩
 | jump j =>
  obtain ⟨a', m', h', k2, hs, hn, hst⟩ := hf
  exact ⟨a', m', h', k2, hs, hn, fun b cs hb hk hro => (h b cs hb hk hro).trans (hst b cs hb hk hro)⟩
def SJ {β : Type} (c : Fx) (k : List Item) (m : Env) (h : Loc) (x : M β) (F : β → Reach) : Prop :=
 ∀ v r v', x v = some (r, v') → ∀ w a, St c.fn.ntmps m h v w a → ∀ D, DOk D v h → MD D a →
  ∃ w', Fin c D v' k a w w' (F r) ∧ ∀ b, D b → w'.heap[b]? = w.heap[b]? ∧ v'.heap[b]? = v.heap[b]?
theorem RR.defers {P : Program} {ops : Array Oper} {kd : Nat → Kd} {bef : List Nat} {pend : List Pd} {is : List Nat} {a a' : Act} {w w' : World} (h : RR P ops kd bef pend is a w a' w') : a'.defers = a.defers := by
 induction h with
 | nil => rfl
 | cons o ho x w1 pd h hp hr ih =>
  rw [ih]
  unfold Act.put
  split <;> rfl
theorem MD.same {D : Nat → Prop} {a a' : Act} (h : MD D a) (e : a'.defers = a.defers) : MD D a' := fun r hr => h r (e ▸ hr)
section
variable {β : Type} {c : Fx} {k : List Item} {m : Env} {h : Loc} {x : M β} {F : β → Reach}
theorem SJ.step {k1 : List Item} (hst : ∀ (a : Act) (w : World) (b : Frame) cs, step c.P (lone (b.atR a k) cs w) = .next (lone (b.atR a k1) cs w)) (hJ : SJ c k1 m h x F) : SJ c k m h x F := by
 intro v r v' e w a s D hD hM
 obtain ⟨w', h1, h2⟩ := hJ v r v' e w a s D hD hM
 exact ⟨w', h1.head (fun b cs _ _ hro => .one (hst a w b cs)), h2⟩
theorem SJ.less {m' : Env} (ts : List Nat) (hJ : SJ c k m' h x F) (hm : lks m ts = some m' := by kernel_rfl) : SJ c k m h x F :=
 fun v r v' e w a s D hD hM => hJ v r v' e w a (s.less (ZgQ hm)) D hD hM
theorem SJ.skip {cd : Code} (hJ : SJ c k m h x F) (hk : Zdy cd = .skip := by kernel_rfl) : SJ c (.code cd :: k) m h x F := by
 rw [ZtK hk]
 exact SJ.step (fun a w b cs => stepR_skip) hJ
theorem SJ.inBlock {id : Nat} (hJ : SJ c k m h x F) : SJ c (.inBlock id :: k) m h x F := SJ.step (fun a w b cs => stepR_inBlock) hJ
theorem SJ.seq {cd : Code} (hJ : SJ c (.code (c1 cd) :: .code (c2 cd) :: k) m h x F) (hk : Zdy cd = .seq := by kernel_rfl) : SJ c (.code cd :: k) m h x F := by
 rw [Zu5 hk]
 exact SJ.step (fun a w b cs => stepR_seq) hJ
def isRg : Kind → Bool
 | .region _ false => true
 | _ => false
theorem SJ.block {cd : Code} {id : Nat} (hJ : SJ c (.code (c1 cd) :: .inBlock id :: k) m h x F) (hk : Zdy cd = .block id := by kernel_rfl) : SJ c (.code cd :: k) m h x F := by
 rw [Zst hk]
 exact SJ.step (fun a w b cs => stepR_block) hJ
theorem SJ.exit {cd : Code} {id : Nat} {k' : List Item} (he : exitTo id k = some k') (hJ : SJ c k' m h x F) (hk : Zdy cd = .exit id := by kernel_rfl) : SJ c (.code cd :: k) m h x F := by
 rw [ZtM hk]
 exact SJ.step (fun a w b cs => stepR_exit he) hJ
theorem SJ.cond {p : Prop} [Decidable p] {cd : Code} {t : Operand} {b : Bool} {y : M β} (hp : b = true ↔ p) (h1 : p → SJ c (.code (c1 cd) :: k) m h x F) (h0 : ¬ p → SJ c (.code (c2 cd) :: k) m h y F) (hk : Zdy cd = .cond t := by kernel_rfl) (ht : evm m t = some (.bool b) := by kernel_rfl) : SJ c (.code cd :: k) m h (if p then x else y) F := by
 rw [ZpO hk]
 intro v r v' e w a s D hD hM
 have he := s.eval ht
 by_cases hpp : p
 ·rw [if_pos hpp] at e
  obtain ⟨w', h3, h4⟩ := h1 hpp v r v' e w a s D hD hM
  refine ⟨w', h3.head (fun bb cs _ _ hro => .one ?_), h4⟩
  rw [stepR_cond he, hp.2 hpp]
  rfl
 ·rw [if_neg hpp] at e
  have hb : b = false := by
   cases b
   ·rfl
   ·exact absurd (hp.1 rfl) hpp
  obtain ⟨w', h3, h4⟩ := h0 hpp v r v' e w a s D hD hM
  refine ⟨w', h3.head (fun bb cs _ _ hro => .one ?_), h4⟩
  rw [stepR_cond he, hb]
  rfl
theorem SJ.cond0 {cd : Code} {t : Operand} (h1 : SJ c (.code (c2 cd) :: k) m h x F) (hk : Zdy cd = .cond t := by kernel_rfl) (ht : evm m t = some (.bool false) := by kernel_rfl) : SJ c (.code cd :: k) m h x F := by
 rw [ZpO hk]
 intro v r v' e w a s D hD hM
 obtain ⟨w', h3, h4⟩ := h1 v r v' e w a s D hD hM
 exact ⟨w', h3.head (fun bb cs _ _ hro => .one (by rw [stepR_cond (s.eval ht)]; rfl)), h4⟩
theorem Zla {P : Program} {ro : Option Nat} {b : Frame} {a a1 : Act} {w w1 : World} {cd : Code} {k : List Item} {cs : List Frame} (hb : b.roundOf = ro) (hw : cd.wpIn (wf ro) 0 P (Ends a1 w1) a w) : Steps P (lone (b.atR a (.code cd :: k)) cs w) (lone (b.atR a1 k) cs w1) := by
 obtain ⟨e, a', w', ⟨rfl, rfl, rfl⟩, harr⟩ := hw b k cs hb trivial (fun d h => by cases h)
 exact StepsIn.steps harr
theorem SJ.region {cd : Code} {id : Nat} (ord : List Nat) (hJ : OJ ⟨c.P, c.fn.ntmps, Zfn cd, [], []⟩ [] ord m h x (fun _ m' h' x' => SJ c k m' h' x' F)) (hk : Zdy cd = .region id false := by kernel_rfl) (ho : List.range (Zfn cd).size = ord := by kernel_rfl) : SJ c (.code cd :: k) m h x F := by
 intro v r v' e w a s D hD hM
 obtain ⟨p1, m1, h1, x1, v1, w1, a1, hR, e1, hrs, s1, hkp⟩ := hJ v r v' e w a s D hD
 obtain ⟨w', h3, h4⟩ := hR v1 r v' e1 w1 a1 s1 D (hkp.dok hD) (hM.same (RS.rr _ _ _ _ hrs).defers)
 refine ⟨w', h3.head (fun b cs _ _ hro => ?_), fun b hb => ⟨(h4 b hb).1.trans (hkp b hb).1, (h4 b hb).2.trans (hkp b hb).2.1⟩⟩
 rw [ZjI hk]
 subst ho
 exact Zla hro (wpIn_region (RR.wpOps _ _ _ _ (RS.rr _ _ _ _ hrs)))
theorem SJ.rg {cd : Code} (n : Nat) (hJ : OJ ⟨c.P, c.fn.ntmps, Zfn cd, [], []⟩ [] (List.range n) m h x (fun _ m' h' x' => SJ c k m' h' x' F)) (hk : isRg (Zdy cd) = true := by kernel_rfl) (ho : (Zfn cd).size = n := by kernel_rfl) : SJ c (.code cd :: k) m h x F := by
 cases e : Zdy cd with
 | region id d =>
  cases d with
  | false => exact SJ.region (List.range n) hJ e (by rw [ho])
  | true => rw [e] at hk; cases hk
 | _ => rw [e] at hk; cases hk
theorem SJ.sr {cd : Code} (n : Nat) (hJ : OJ ⟨c.P, c.fn.ntmps, Zfn (c1 cd), [], []⟩ [] (List.range n) m h x (fun _ m' h' x' => SJ c (.code (c2 cd) :: k) m' h' x' F)) (hs : Zdy cd = .seq := by kernel_rfl) (hk : isRg (Zdy (c1 cd)) = true := by kernel_rfl) (ho : (Zfn (c1 cd)).size = n := by kernel_rfl) : SJ c (.code cd :: k) m h x F := SJ.seq (SJ.rg n hJ hk ho) hs
theorem SJ.draw {cd : Code} {id : Nat} {kd bef ord : List Nat} (hm : c.P.follows .mixedOrders = true) (hJ : OJ ⟨c.P, c.fn.ntmps, Zfn cd, kd, bef⟩ [] ord m h x (fun _ m' h' x' => SJ c k m' h' x' F)) (hk : Zdy cd = .region id true := by kernel_rfl) (ht : Zl8 (Zfn cd) (kdOf kd) bef ord = true := by kernel_rfl) : SJ c (.code cd :: k) m h (draw >>= fun _ => x) F := by
 intro v r v' e w a s D hD hM
 have s' : St c.fn.ntmps m h v.drew w.drew a := ⟨s.sub.drew, s.size, s.defers, s.get, s.loc, s.nd⟩
 obtain ⟨p1, m1, h1, x1, v1, w1, a1, hR, e1, hrs, s1, hkp⟩ := hJ v.drew r v' e w.drew a s' D hD
 obtain ⟨w', h3, h4⟩ := hR v1 r v' e1 w1 a1 s1 D (Kp.dok (v := v.drew) (h := h) hD hkp) (hM.same (RS.rr _ _ _ _ hrs).defers)
 refine ⟨w', h3.head (fun b cs _ _ hro => ?_), fun b hb => ⟨(h4 b hb).1.trans (hkp b hb).1, (h4 b hb).2.trans (hkp b hb).2.1⟩⟩
 rw [ZjI hk]
 exact Zla hro (RR.draw c.P (Zfn cd) (kdOf kd) bef hm ht (RS.rr _ _ _ _ hrs))
theorem SJ.ret {cd : Code} {y : β} {z : Value} (hF : F y = .ret z) (hr : ∀ v w a, St c.fn.ntmps m h v w a → (results c.fn a.tmps).run c.P w = .ok z w) (hk : Zdy cd = .ret := by kernel_rfl) (hro0 : c.ro = none := by rfl) : SJ c (.code cd :: k) m h (pure y) F := by
 rw [Zu6 hk]
 intro v r v' e w a s D hD hM
 simp only [pure_def, Option.some.injEq, Prod.mk.injEq] at e
 obtain ⟨rfl, rfl⟩ := e
 refine ⟨w, ?_, fun b _ => ⟨rfl, rfl⟩⟩
 rw [hF]
 exact ⟨a, m, h, s, hM, hr _, fun b cs _ _ hro => ⟨_, .one (stepR_ret (hro.trans hro0))⟩⟩
theorem SJ.end_ {y : β} {z : Value} (hF : F y = .ret z) (hr : ∀ v w a, St c.fn.ntmps m h v w a → (results c.fn a.tmps).run c.P w = .ok z w) (hro0 : c.ro = none := by rfl) : SJ c [] m h (pure y) F := by
 intro v r v' e w a s D hD hM
 simp only [pure_def, Option.some.injEq, Prod.mk.injEq] at e
 obtain ⟨rfl, rfl⟩ := e
 refine ⟨w, ?_, fun b _ => ⟨rfl, rfl⟩⟩
 rw [hF]
 exact ⟨a, m, h, s, hM, hr _, fun b cs _ _ hro => ⟨_, .one (stepR_end (hro.trans hro0))⟩⟩
theorem SJ.at_ {y : β} {m' : Env} (ts : List Nat) (hF : F y = .at k m' h) (hm : lks m ts = some m' := by kernel_rfl) : SJ c k m h (pure y) F := by
 intro v r v' e w a s D hD hM
 simp only [pure_def, Option.some.injEq, Prod.mk.injEq] at e
 obtain ⟨rfl, rfl⟩ := e
 refine ⟨w, ?_, fun b _ => ⟨rfl, rfl⟩⟩
 rw [hF]
 exact ⟨a, s.less (ZgQ hm), hM, fun b cs _ _ hro => Steps.refl _ _⟩
theorem SJ.forget {h' : Loc} (hs : h'.Sublist h) (hJ : SJ c k m h' x F) : SJ c k m h x F :=
 fun v r v' e w a s D hD hM => hJ v r v' e w a ⟨s.sub, s.size, s.defers, s.get, fun e he => s.loc e (hs.subset he), (hs.map _).nodup s.nd⟩ D (fun b hb => ⟨(hD b hb).1, fun e he => (hD b hb).2 e (hs.subset he)⟩) hM
inductive Res (c : Fx) (m : Env) (h : Loc) : List ResultVar → List Value → Prop
 | nil : Res c m h [] []
 | tmp {t : Nat} {y : Value} {rs : List ResultVar} {ys : List Value} (ht : lk m t = some y) (hr : Res c m h rs ys) : Res c m h (.tmp t :: rs) (y :: ys)
 | cell {α : Type} {t T j b : Nat} {l : List Value} {cd : Cod α} {z0 q : α} {rs : List ResultVar} {ys : List Value} (ht : lk m t = some (.pointer (some (pt b 0)))) (hj : h[j]? = some (b, l)) (ty : Ty c.P T cd z0) (ha : At l 0 (cd.enc q)) (hr : Res c m h rs ys) : Res c m h (.cell t T :: rs) (cd.val q :: ys)
def Zk9 : List Value → Value
 | [y] => y
 | ys => .tuple ys.toArray
theorem Res.run {rs : List ResultVar} {ys : List Value} (hr : Res c m h rs ys) (hf : c.fn.results = rs.toArray) : ∀ v w a, St c.fn.ntmps m h v w a → (results c.fn a.tmps).run c.P w = .ok (Zk9 ys) w := by
 intro v w a s
 have key : ∀ (rs : List ResultVar) (ys : List Value) (acc : Array Value), Res c m h rs ys → (rs.toArray.toList.foldlM (fun (acc : Array Value) (r : ResultVar) => acc.push <$> (match r with
    | .tmp t => pure (a.tmps.getD t undef)
    | .cell a' t => do loadVar t (← asAddr (a.tmps.getD a' undef)) : Sem Value)) acc).run c.P w = .ok (acc ++ ys.toArray) w := by
  intro rs ys acc hr
  induction hr generalizing acc with
  | nil => simp
  | tmp ht hr ih =>
   rename_i t y rs ys
   have h1 : a.tmps.getD t undef = y := by simp [Array.getD_eq_getD_getElem?, s.get t y ht]
   simp only [List.foldlM_cons, Sem.run_bind, Sem.run_map, Sem.run_pure, Result.andThen_ok, h1]
   have := ih (acc.push y)
   rw [this]
   simp
  | cell ht hj ty ha hr ih =>
   rename_i t T j b l cd z0 q rs ys
   have h1 : a.tmps.getD t undef = .pointer (some (pt b 0)) := by simp [Array.getD_eq_getD_getElem?, s.get t _ ht]
   have h2 := ZiW (P := c.P) s hj ty ha
   have h3 : asAddr (a.tmps.getD t undef) = pure (pt b 0) := by rw [h1]; rfl
   have := ih (acc.push (cd.val q))
   simp only [List.foldlM_cons, Sem.run_bind, Sem.run_map, Sem.run_pure, Result.andThen_ok, h3, h2]
   simp only [] at this
   rw [this]
   simp
 have k1 := key rs ys #[] hr
 unfold results
 rw [hf]
 simp only [Sem.run_bind]
 rw [Array.mapM_eq_foldlM]
 rw [← Array.foldlM_toList]
 refine (congrArg (fun r : Result (Array Value) => r.andThen _) k1).trans ?_
 simp only [Result.andThen_ok, Sem.run_pure]
 match ys with
 | [] => simp [Zk9]
 | [y] => simp [Zk9]
 | y :: z :: r => simp [Zk9]
inductive LS (σ β : Type) where
 | next (s : σ)
 | done (b : β)
def Zxa {σ β : Type} (k : List Item) (ml : σ → Env) (hl : σ → Loc) (F : β → Reach) : LS σ β → Reach
 | .next s => .at k (ml s) (hl s)
 | .done b => F b
def loopN {σ β : Type} (G : σ → M (LS σ β)) : Nat → σ → M β
 | 0, _ => fail
 | n + 1, s => G s >>= fun | .next s' => loopN G n s' | .done b => pure b
open Classical in
noncomputable def Zcn {σ β : Type} (G : σ → M (LS σ β)) (s : σ) : M β := fun v =>
 if hh : ∃ r : β × World, ∃ n, loopN G n s v = some r then some hh.choose else none
theorem ZkN {σ β : Type} {G : σ → M (LS σ β)} {r : β × World} : ∀ {n : Nat} {s : σ} {v : World} (j : Nat), loopN G n s v = some r → loopN G (n + j) s v = some r
 | 0, s, v, j, hh => by cases hh
 | n + 1, s, v, j, hh => by
  rw [show n + 1 + j = (n + j) + 1 by omega]
  obtain ⟨q, v1, h1, h2⟩ := bind_some.1 hh
  refine bind_some.2 ⟨q, v1, h1, ?_⟩
  cases q with
  | next s' => exact ZkN j h2
  | done b => exact h2
theorem ZtD {σ β : Type} {G : σ → M (LS σ β)} {r r' : β × World} {n n' : Nat} {s : σ} {v : World} (h1 : loopN G n s v = some r) (h2 : loopN G n' s v = some r') : r = r' := by
 have e1 := ZkN n' h1
 have e2 := ZkN n h2
 rw [Nat.add_comm] at e2
 rw [e1] at e2
 exact Option.some.inj e2
theorem Zru {σ β : Type} {G : σ → M (LS σ β)} {r : β × World} {n : Nat} {s : σ} {v : World} (h1 : loopN G n s v = some r) : Zcn G s v = some r := by
 unfold Zcn
 have hh : ∃ r : β × World, ∃ n, loopN G n s v = some r := ⟨r, n, h1⟩
 rw [dif_pos hh]
 obtain ⟨n', h2⟩ := hh.choose_spec
 rw [ZtD h2 h1]
theorem Zsp {σ β : Type} {G : σ → M (LS σ β)} {r : β × World} {s : σ} {v : World} (h1 : Zcn G s v = some r) : ∃ n, loopN G n s v = some r := by
 unfold Zcn at h1
 split at h1
 ·rename_i hh
  simp only [Option.some.injEq] at h1
  rw [← h1]
  exact hh.choose_spec
 ·cases h1
theorem SJ.loop {σ : Type} {cd : Code} {G : σ → M (LS σ β)} {s0 : σ} (ml : σ → Env) (hl : σ → Loc) (ts : List Nat) (hh : h = hl s0) (hb : ∀ s s', (hl s).map (·.1) = (hl s').map (·.1)) (hJ : ∀ s, SJ c (.code (c1 cd) :: .inLoop (c1 cd) :: k) (ml s) (hl s) (G s) (Zxa (.inLoop (c1 cd) :: k) ml hl F)) (hk : Zdy cd = .loop := by kernel_rfl) (hm : lks m ts = some (ml s0) := by kernel_rfl) : SJ c (.code cd :: k) m h (Zcn G s0) F := by
 rw [ZtL hk]
 have key : ∀ n s v r v', loopN G n s v = some (r, v') → ∀ w a, St c.fn.ntmps (ml s) (hl s) v w a → ∀ D, DOk D v (hl s) → MD D a → ∃ w', Fin c D v' (.code (c1 cd) :: .inLoop (c1 cd) :: k) a w w' (F r) ∧ ∀ b, D b → w'.heap[b]? = w.heap[b]? ∧ v'.heap[b]? = v.heap[b]? := by
  intro n
  induction n with
  | zero => intro s v r v' e; cases e
  | succ n ih =>
   intro s v r v' e w a st D hD hM
   obtain ⟨q, v1, e1, e2⟩ := bind_some.1 e
   obtain ⟨w1, hf, hd⟩ := hJ s v q v1 e1 w a st D hD hM
   cases q with
   | done b =>
    simp only [pure_def, Option.some.injEq, Prod.mk.injEq] at e2
    obtain ⟨rfl, rfl⟩ := e2
    exact ⟨w1, hf, hd⟩
   | next s' =>
    obtain ⟨a1, st1, hM1, hst⟩ := hf
    have hD1 : DOk D v1 (hl s') := fun b hb1 => ⟨(hD b hb1).1.same (hd b hb1).2, fun e he heq => by
     have hmem : b ∈ (hl s').map (·.1) := List.mem_map.2 ⟨e, he, heq⟩
     rw [hb s' s] at hmem
     obtain ⟨e', he', heq'⟩ := List.mem_map.1 hmem
     exact (hD b hb1).2 e' he' heq'⟩
    obtain ⟨w2, hf2, hd2⟩ := ih s' v1 r v' e2 w1 a1 st1 D hD1 hM1
    refine ⟨w2, hf2.head (fun b cs hb' hk' hro => (hst b cs hb' hk' hro).trans (.one stepR_inLoop)), fun b hb' => ⟨(hd2 b hb').1.trans (hd b hb').1, (hd2 b hb').2.trans (hd b hb').2⟩⟩
 intro v r v' e w a s D hD hM
 obtain ⟨n, hn⟩ := Zsp e
 subst hh
 obtain ⟨w', h1, h2⟩ := key n s0 v r v' hn w a (s.less (ZgQ hm)) D hD hM
 exact ⟨w', h1.head (fun b cs _ _ hro => .one stepR_loop), h2⟩
theorem SJ.into {x' : M β} (he : x = x') (hJ : SJ c k m h x' F) : SJ c k m h x F := by rw [he]; exact hJ
theorem SJ.done {α : Type} {k : List Item} {m : Env} {h : Loc} {y : M β} {F : LS α β → Reach} (hJ : SJ c k m h y (fun b => F (.done b))) : SJ c k m h (y >>= fun b => pure (LS.done b)) F := by
 intro v r v' e w a s D hD hM
 obtain ⟨b, v1, e1, e2⟩ := bind_some.1 e
 simp only [pure_def, Option.some.injEq, Prod.mk.injEq] at e2
 obtain ⟨rfl, rfl⟩ := e2
 exact hJ v b v1 e1 w a s D hD hM
end
theorem Zwe {args : List Value} {n : Nat} (hn : args.length ≤ n) {a : Act} (ha : a = { tmps := args.toArray ++ Array.replicate (n - args.length) undef, defers := [] }) : a.tmps.size = n ∧ ∀ (t : Nat) (x : Value), args[t]? = some x → a.tmps[t]? = some x := by
 subst ha
 refine ⟨by simp; omega, fun t x hx => ?_⟩
 have hlt : t < args.length := (List.getElem?_eq_some_iff.1 hx).1
 rw [Array.getElem?_append]
 simp [hlt]
 exact (List.getElem?_eq_some_iff.1 hx).2
def Zsx : Nat → List Value → Env
 | _, [] => []
 | i, x :: r => (i, x) :: Zsx (i + 1) r
theorem Zrv : ∀ {args : List Value} {i t : Nat} {x : Value}, lk (Zsx i args) t = some x → i ≤ t ∧ args[t - i]? = some x
 | y :: r, i, t, x, hx => by
  unfold Zsx lk at hx
  cases e : Nat.beq i t with
  | true =>
   rw [e] at hx
   obtain rfl := Nat.eq_of_beq_eq_true e
   simp only [Option.some.injEq] at hx
   subst hx
   simp
  | false =>
   rw [e] at hx
   obtain ⟨h1, h2⟩ := Zrv hx
   refine ⟨by omega, ?_⟩
   rw [show t - i = (t - (i + 1)) + 1 by omega]
   simpa using h2
theorem ZjF (w : World) (r : Nat) (o : Obj) : (w.putObj r o).os = w.os ∧ (w.putObj r o).tape = w.tape ∧ (w.putObj r o).drawn = w.drawn ∧ (w.putObj r o).output = w.output ∧ (w.putObj r o).heap.size = w.heap.size := ⟨rfl, rfl, rfl, rfl, by simp⟩
theorem Sub.taken {v w : World} (h : Sub v w) {r : Nat} (hb : Husk v r) (o : Option (List Deferred)) : Sub v (w.putObj r (.deferred o)) := by
 obtain ⟨b1, b2, b3, b4, b5⟩ := ZjF w r (.deferred o)
 have hlt : r < w.heap.size := by rw [h.size]; exact hb.lt
 refine ⟨by rw [b1]; exact h.os, by rw [b2]; exact h.tape, by rw [b3]; exact h.drawn, by rw [b4]; exact h.output, by rw [b5]; exact h.size, h.old, fun b => ?_, fun l r' hr => ?_⟩
 ·by_cases e : b = r
  ·subst e
   obtain ⟨T, hT⟩ := hb
   exact .inr (.inl ⟨T, _, hT, World.putObj_heap_same hlt, trivial⟩)
  ·rw [World.putObj_heap_other e]
   exact h.at_ b
 ·obtain ⟨h0, s, p, g1, g2⟩ := h.lp l r' hr
  have hne : l ≠ r := fun e => by
   obtain ⟨T, hT⟩ := hb
   rw [← e, g1] at hT
   cases hT
  exact ⟨h0, s, p, g1, by rw [World.putObj_heap_other hne]; exact g2⟩
def ZkE : List Deferred → World → World
 | [], w => w
 | d :: ds, w => ZkE ds (match d.target with | .collected r => w.putObj r (.deferred none) | _ => w)
theorem ZvA {P : Program} {n : Nat} {m : Env} {h : Loc} {v : World} : ∀ (ds : List Deferred) (a : Act) (w : World), a.defers = ds → St n m h v w a →
  St n m h v (ZkE ds w) { a with defers := [] } ∧ (∀ k, (∀ r, mkOf r ∈ ds → k ≠ r) → (ZkE ds w).heap[k]? = w.heap[k]?) ∧ ∀ (b : Frame) todo cs, Steps P (lone { b.atR a todo with mode := .returning } cs w) (lone { b.atR { a with defers := [] } todo with mode := .returning } cs (ZkE ds w))
 | [], a, w, he, s => by
  obtain ⟨tm, df⟩ := a
  simp only at he
  subst he
  exact ⟨s, fun _ _ => rfl, fun _ _ _ => Steps.refl _ _⟩
 | d :: ds, a, w, he, s => by
  obtain ⟨hm, hnd⟩ := s.defers
  rw [he] at hm hnd
  obtain ⟨r, hd, hh, hw⟩ := hm d (by simp)
  have hlt : r < w.heap.size := (Array.getElem?_eq_some_iff.1 hw).1
  have hoth : ∀ k, k ≠ r → (w.putObj r (.deferred none)).heap[k]? = w.heap[k]? := fun k hk => World.putObj_heap_other hk
  have s1 : St n m h v (w.putObj r (.deferred none)) { a with defers := ds } := by
   refine ⟨s.sub.taken hh none, s.size, ⟨fun d' hd' => ?_, (List.nodup_cons.1 hnd).2⟩, s.get, fun e he' => ?_, s.nd⟩
   ·obtain ⟨r', e1, e2, e3⟩ := hm d' (List.mem_cons_of_mem _ hd')
    have hne : r' ≠ r := fun e => (List.nodup_cons.1 hnd).1 (by rw [hd, ← e, ← e1]; exact hd')
    exact ⟨r', e1, e2, (hoth r' hne).trans e3⟩
   ·obtain ⟨k1, T, k2⟩ := s.loc e he'
    have hne : e.1 ≠ r := fun e' => by rw [e', hw] at k2; cases k2
    exact ⟨k1, T, (hoth _ hne).trans k2⟩
  have e0 : ZkE (d :: ds) w = ZkE ds (w.putObj r (.deferred none)) := by subst hd; rfl
  rw [e0]
  obtain ⟨s2, hk, hst⟩ := ZvA ds { a with defers := ds } _ rfl s1
  refine ⟨s2, fun k hk' => ?_, fun b todo cs => ?_⟩
  ·rw [hk k (fun r' hr' => hk' r' (List.mem_cons_of_mem _ hr')), hoth k (hk' r (by rw [hd]; simp))]
  ·have h1 : step P (lone { b.atR a todo with mode := .returning } cs w) = .next (lone { ({ b.atR a todo with mode := .returning } : Frame) with defers := [] ++ ds } cs (w.putObj r (.deferred none))) :=
    step_collected (d := d) (r := r) (by simp) (by show a.defers = _; rw [he]) (by rw [hd]; rfl) (run_takeDeferred hw)
   exact (Steps.one h1).trans (hst b todo cs)
theorem Ref.of {P : Program} {f : FuncId} {fn : Func} {cd : Code} {α : Type} {args : List Value} {x : M α} {out : α → Value} (hf : P.funcs[f]? = some fn) (hJ : SJ ⟨P, f, fn, none⟩ [.code cd] (Zsx 0 args) [] x (fun r => .ret (out r))) (hb : fn.body = some cd := by kernel_rfl) (hn : Nat.ble args.length fn.ntmps = true := by kernel_rfl) : Ref P f args x out := by
 intro v r v' e w hs
 have hn' : args.length ≤ fn.ntmps := by simpa using hn
 obtain ⟨h1, h2⟩ := Zwe (a := { tmps := args.toArray ++ Array.replicate (fn.ntmps - args.length) undef, defers := [] }) hn' rfl
 have st : St fn.ntmps (Zsx 0 args) [] v w { tmps := args.toArray ++ Array.replicate (fn.ntmps - args.length) undef, defers := [] } := by
  refine ⟨hs, h1, Zqi.nil, fun t y hy => ?_, by simp, by simp⟩
  obtain ⟨_, h3⟩ := Zrv hy
  exact h2 t y (by simpa using h3)
 obtain ⟨w', ⟨a', m', h', hst', hMd, hres, hsteps⟩, hkeep⟩ := hJ v r v' e w _ st (fun b => Husk v b) (fun b hb => ⟨hb, by simp⟩) (fun r hr => by cases hr)
 obtain ⟨s2, hk2, hst2⟩ := ZvA (P := P) a'.defers a' w' rfl hst'
 refine ⟨_, s2.sub, fun b hb => ⟨(hk2 b fun r hr e => hMd r hr (e ▸ hb)).trans (hkeep b hb).1, (hkeep b hb).2⟩, fun cs => ?_⟩
 let bb : Frame := { (default : Frame) with fn := f, kind := .normal, roundOf := none }
 obtain ⟨todo, hst3⟩ := hsteps bb cs rfl rfl rfl
 have henter : Frame.enter P f args.toArray .normal = bb.atR { tmps := args.toArray ++ Array.replicate (fn.ntmps - args.length) undef, defers := [] } [.code cd] := by
  simp [Frame.enter, Frame.atR, hf, hb, bb]
 rw [← henter] at hst3
 exact ⟨.returned (out r), _, _, ⟨rfl, rfl⟩, hst3.trans (hst2 bb todo cs), rfl, rfl, rfl, rfl, fn, hf, hres _ { a' with defers := [] } s2⟩
end
section
open Go
variable [Zd5]
theorem ZoT {b : Bool} {p : Prop} (h : b = true ↔ p) : (!b) = true ↔ ¬ p := by
 cases b <;> simp_all
def band (k : IntKind) (x y : Int) : Int := k.wrap (BitVec.ofInt k.bits x &&& BitVec.ofInt k.bits y).toNat
def bor (k : IntKind) (x y : Int) : Int := k.wrap (BitVec.ofInt k.bits x ||| BitVec.ofInt k.bits y).toNat
section
variable {β : Type} {c : Cx} {pend : List Pd} {is : List Nat} {m : Env} {h : Loc} {x : M β} {R : List Pd → Env → Loc → M β → Prop}
theorem ZhI {P : Program} {T : TypeId} {α : Type} {cd : Cod α} {z0 q : α} (ty : Ty P T cd z0) {l : List Value} {o : Nat} (ha : At l o (cd.enc q)) (w : World) : (part T l.toArray o).run P w = .ok (cd.val q) w := by
 unfold part
 simp only [Sem.run_bind, ZpR ty, Result.andThen_ok]
 cases hagg : cd.agg with
 | true =>
  simp only [if_true, Sem.run_bind, ZiU ty, Result.andThen_ok, Sem.run_pure]
  obtain ⟨p, s, rfl, rfl⟩ := ha
  unfold Cod.val
  rw [hagg]
  simp only [if_true]
  congr 2
  rw [List.extract_toArray]
  congr 1
  rw [List.extract_eq_take_drop, List.append_assoc, List.drop_left' rfl, Nat.add_sub_cancel_left, List.take_left' (cd.len q)]
 | false =>
  simp only [Bool.false_eq_true, if_false]
  have h1 := cd.one hagg
  have hl := cd.len q
  rw [h1] at hl
  have h0 := ha.get 0 (by omega)
  rw [Nat.add_zero] at h0
  unfold Cod.val
  rw [hagg]
  match hm : cd.enc q, hl with
  | [y], _ =>
   rw [hm] at h0
   simp only [List.getElem?_toArray, h0, List.getElem?_cons_zero, Bool.false_eq_true, if_false, List.headD_cons, Sem.run_pure]
def Zt7 (P : Program) (S : TypeId) (f : Nat) : Option (TypeId × Nat) :=
 match P.underlying S with
 | some (.struct fs) => match fs[f]? with
  | some fd => some (fd.type, fd.offset)
  | none => none
 | _ => none
theorem OJ.field {α : Type} {i d f T o S : Nat} {y : Operand} {cd : Cod α} {z0 : α} {l : List Value} (q : α) (ty : Ty c.P T cd z0) (ha : At l o (cd.enc q)) (hJ : OJ c pend is ((d, cd.val q) :: m) h x R) (hc : core c.ops m i = some (some d, .field S y f) := by kernel_rfl) (hS : Zt7 c.P S f = some (T, o) := by kernel_rfl) (hy : evm m y = some (.agg l.toArray) := by kernel_rfl) (hk : kdP c.kd i = true := by kernel_rfl) (hn : noW c.kd [i] pend = true := by kernel_rfl) (hd : Nat.blt d c.n = true := by kernel_rfl) : OJ c pend (i :: is) m h x R := by
 refine OJ.q hc hk hn hd fun v r v' e w a s => ?_
 refine ⟨_, _, fun oo ho w' => ?_, e, hJ⟩
 unfold Zt7 at hS
 split at hS
 ·rename_i fs hfs
  split at hS
  ·rename_i fd hfd
   simp only [Option.some.injEq, Prod.mk.injEq] at hS
   obtain ⟨rfl, rfl⟩ := hS
   rw [Zef (P := c.P) ho]
   simp [execOp, Instr.field, underlying, hfs, hfd, s.eval hy, asAgg, ZhI ty ha]
  ·cases hS
 ·cases hS
def plOf (P : Program) (T : TypeId) (i : Nat) : Option (Nat × Nat) :=
 match P.underlying T with
 | some (.struct fs) => match fs[i]? with
  | some fd => match P.info? fd.type with
   | some inf => some (fd.offset, inf.size)
   | none => none
  | none => none
 | some (.array _ e) => match P.info? e with
  | some inf => some (i * inf.size, inf.size)
  | none => none
 | _ => none
theorem ZrE : ∀ (k q p s : List Value) (o j : Nat), o + j = p.length → k.length = q.length → (k.zipIdx j).foldl (fun (cs : Array Value) (x : Value × Nat) => cs.setIfInBounds (o + x.2) x.1) (p ++ q ++ s).toArray = (p ++ k ++ s).toArray
 | [], q, p, s, o, j, _, hl => by
  obtain rfl := List.eq_nil_of_length_eq_zero hl.symm
  simp
 | y :: k, q, p, s, o, j, hp, hl => by
  match q, hl with
  | z :: q, hl =>
   simp only [List.zipIdx_cons, List.foldl_cons]
   have h1 : (p ++ z :: q ++ s).toArray.setIfInBounds (o + j) y = ((p ++ [y]) ++ q ++ s).toArray := by
    simp [hp, List.setIfInBounds_toArray]
   rw [h1, ZrE k q (p ++ [y]) s o (j + 1) (by simp; omega) (by simpa using hl)]
   simp
inductive Zcg (pl : Nat → Option (Nat × Nat)) : List Value → List (Nat × Value) → List Value → Prop
 | nil {l : List Value} : Zcg pl l [] l
 | cons {α : Type} {cd : Cod α} {q : α} {i o : Nat} {l l1 l2 : List Value} {ps : List (Nat × Value)} (hp : pl i = some (o, cd.n)) (hu : Upd l o (cd.enc q) l1) (hr : Zcg pl l1 ps l2) : Zcg pl l ((i, cd.val q) :: ps) l2
theorem Zcg.fill {pl : Nat → Option (Nat × Nat)} {l l2 : List Value} {ps : List (Nat × Value)} (hf : Zcg pl l ps l2) : Instr.fill pl l.toArray ps = some l2.toArray := by
 induction hf with
 | nil => rfl
 | cons hp hu hr ih =>
  rename_i α cd q i o l l1 l2 ps
  obtain ⟨p, k, s, rfl, rfl, hk, rfl⟩ := hu
  unfold Instr.fill
  simp only [hp, cd.cells]
  rw [if_neg (by simp [cd.len]; have := hk; rw [cd.len] at this; omega)]
  have := ZrE (cd.enc q) k p s p.length 0 (by omega) hk.symm
  simp only [Array.zipIdx_toArray, List.foldl_toArray]
  rw [this]
  exact ih
theorem Zn3 {P : Program} (w : World) : ∀ (fs : List Field), (∀ f ∈ fs, (P.info? f.type).isSome = true) → ∀ acc : Array (Nat × Nat), (fs.foldlM (fun (acc : Array (Nat × Nat)) (f : Field) => acc.push <$> (do pure (f.offset, ← sizeOf f.type) : Sem (Nat × Nat))) acc).run P w = .ok (acc ++ (fs.map fun f => (f.offset, ((P.info? f.type).map (·.size)).getD 0)).toArray) w
 | [], _, acc => by simp
 | f :: fs, hf, acc => by
  have h1 := hf f (by simp)
  obtain ⟨i, hi⟩ := Option.isSome_iff_exists.1 h1
  have ih := Zn3 (P := P) w fs (fun g hg => hf g (List.mem_cons_of_mem _ hg)) (acc.push (f.offset, i.size))
  have hs : ∀ w', (sizeOf f.type).run P w' = .ok i.size w' := fun w' => ZkH hi w'
  simp only [List.foldlM_cons, Sem.run_bind, Sem.run_map, Sem.run_pure, Result.andThen_ok, hs]
  rw [ih]
  simp [hi]
def ZoI (P : Program) (T : TypeId) : Bool :=
 match P.underlying T with
 | some (.struct fs) => fs.toList.all fun f => (P.info? f.type).isSome
 | some (.array _ e) => (P.info? e).isSome
 | _ => false
theorem Zui {P : Program} {T : TypeId} {α : Type} {cd : Cod α} {z0 q : α} (ty : Ty P T cd z0) (hagg : cd.agg = true) (hi : ZoI P T = true) {ps : List (Nat × Value)} (hf : Zcg (plOf P T) (cd.enc z0) ps (cd.enc q)) (w : World) : (Instr.build T ps.toArray).run P w = .ok (cd.val q) w := by
 obtain ⟨inf, hinf, he⟩ := Option.map_eq_some_iff.1 ty.info
 simp only [Prod.mk.injEq] at he
 have hz : (zeroValue T).run P w = .ok (cd.val z0) w := by simp [zeroValue, typeInfo, hinf, he.2]
 have hcells : (cd.val z0).cells = (cd.enc z0).toArray := cd.cells z0
 have hval : cd.val q = .agg (cd.enc q).toArray := by unfold Cod.val; rw [hagg]; rfl
 have hfill := hf.fill
 unfold Instr.build
 simp only [Sem.run_bind, hz, Result.andThen_ok, hcells]
 unfold ZoI at hi
 split at hi
 ·rename_i fs hfs
  have e1 : plOf P T = ((fs.toList.map fun f => (f.offset, ((P.info? f.type).map (·.size)).getD 0)).toArray[·]?) := by
   funext i
   unfold plOf
   simp only [hfs]
   simp only [List.getElem?_toArray, List.getElem?_map, Array.getElem?_toList]
   cases hfi : fs[i]? with
   | none => rfl
   | some fd =>
    have hm : fd ∈ fs.toList := by
     have := List.mem_of_getElem? (l := fs.toList) (i := i) (a := fd) (by simpa using hfi)
     exact this
    rw [List.all_eq_true] at hi
    obtain ⟨inf', hinf'⟩ := Option.isSome_iff_exists.1 (hi fd hm)
    simp [hinf']
  rw [e1] at hfill
  have hmap := Zn3 (P := P) w fs.toList (fun f hm => by rw [List.all_eq_true] at hi; exact hi f hm) #[]
  simp only [ZaE hfs, Result.andThen_ok, Sem.run_bind]
  rw [Array.mapM_eq_foldlM, ← Array.foldlM_toList]
  rw [hmap]
  simp only [Result.andThen_ok, Array.empty_append]
  rw [hfill]
  simp [hval]
 ·rename_i n e hfs
  obtain ⟨inf', hinf'⟩ := Option.isSome_iff_exists.1 hi
  have e1 : plOf P T = fun i => some (i * inf'.size, inf'.size) := by
   funext i
   unfold plOf
   simp [hfs, hinf']
  rw [e1] at hfill
  simp only [ZaE hfs, Result.andThen_ok, Sem.run_bind, sizeOf, ZdQ hinf', Sem.run_pure]
  rw [hfill]
  simp [hval]
 ·cases hi
def evps (m : Env) : List (Nat × Operand) → Option (List (Nat × Value))
 | [] => some []
 | (i, x) :: r => match evm m x, evps m r with
  | some y, some l => some ((i, y) :: l)
  | _, _ => none
theorem Zkj {n : Nat} {v w : World} {a : Act} (s : St n m h v w a) : ∀ {l : List (Nat × Operand)} {r : List (Nat × Value)}, evps m l = some r → l.map (fun p => (p.1, a.eval p.2)) = r
 | [], r, e => by simp only [evps, Option.some.injEq] at e; subst e; rfl
 | (i, x) :: l, r, e => by
  unfold evps at e
  split at e
  ·rename_i y l' hy hl
   simp only [Option.some.injEq] at e
   subst e
   simp [s.eval hy, Zkj s hl]
  ·cases e
theorem OJ.build {α : Type} {i d T : Nat} {parts : List (Nat × Operand)} {ps : List (Nat × Value)} {cd : Cod α} {z0 : α} (q : α) (ty : Ty c.P T cd z0) (hagg : cd.agg = true) (hf : Zcg (plOf c.P T) (cd.enc z0) ps (cd.enc q)) (hJ : OJ c pend is ((d, cd.val q) :: m) h x R) (hc : core c.ops m i = some (some d, .build T parts.toArray) := by kernel_rfl) (hp : evps m parts = some ps := by kernel_rfl) (hi : ZoI c.P T = true := by kernel_rfl) (hk : kdP c.kd i = true := by kernel_rfl) (hn : noW c.kd [i] pend = true := by kernel_rfl) (hd : Nat.blt d c.n = true := by kernel_rfl) : OJ c pend (i :: is) m h x R := by
 refine OJ.q hc hk hn hd fun v r v' e w a s => ?_
 refine ⟨_, _, fun oo ho w' => ?_, e, hJ⟩
 rw [Zef (P := c.P) ho]
 have := Zkj s hp
 have e2 : (parts.toArray.map fun p => (p.1, a.eval p.2)) = ps.toArray := by rw [← this]; simp
 show Sem.run c.P (do pure (Next.value (← Instr.build T (parts.toArray.map fun p => (p.1, a.eval p.2))))) w' = _
 rw [e2]
 simp [Zui ty hagg hi hf w']
def EqT (P : Program) (T : TypeId) (D : Nat) {α : Type} (cd : Cod α) : Prop := ∀ e, D ≤ e → ∀ x y w, ∃ b, (Op.equalIn e T (cd.val x) (cd.val y)).run P w = .ok b w ∧ (b = true ↔ x = y)
theorem EqT.int {P : Program} {T : TypeId} {k : IntKind} (hT : P.underlying T = some (.int k)) : EqT P T 1 (cI k) := by
 intro e he x y w
 obtain ⟨d, rfl⟩ : ∃ d, e = d + 1 := ⟨e - 1, by omega⟩
 exact ⟨x == y, run_equalIn_int w d T k k x y hT, by simp⟩
theorem EqT.bool {P : Program} {T : TypeId} (hT : P.underlying T = some .bool) : EqT P T 1 cB := by
 intro e he x y w
 obtain ⟨d, rfl⟩ : ∃ d, e = d + 1 := ⟨e - 1, by omega⟩
 exact ⟨x == y, run_equalIn_bool' w d T x y hT, by simp⟩
theorem toList_inj {a b : ByteArray} (h : a.toList = b.toList) : a = b := by
 have := beq_toListBytes a b
 rw [h] at this
 simp only [BEq.rfl] at this
 obtain ⟨⟨x⟩⟩ := a
 obtain ⟨⟨y⟩⟩ := b
 have h2 : ((⟨x⟩ : Array UInt8) == ⟨y⟩) = true := this
 simp at h2
 rw [h2]
theorem EqT.string {P : Program} {T : TypeId} (hT : P.underlying T = some .string) : EqT P T 1 cS := by
 intro e he x y w
 obtain ⟨d, rfl⟩ : ∃ d, e = d + 1 := ⟨e - 1, by omega⟩
 refine ⟨x.toList == y.toList, run_equalIn_string w d T x y hT, ?_⟩
 rw [beq_iff_eq]
 exact ⟨toList_inj, fun h => by rw [h]⟩
def EqFs (P : Program) (d : Nat) (xs ys : Array Value) (fs : List Field) (w : World) (p : Prop) : Prop := ∃ b, (Op.eqFields d xs ys fs).run P w = .ok b w ∧ (b = true ↔ p)
theorem EqFs.nil {P : Program} {d : Nat} {xs ys : Array Value} {w : World} : EqFs P d xs ys [] w True := ⟨true, by simp [Op.eqFields], by simp⟩
theorem EqFs.cons {P : Program} {d D : Nat} {α : Type} {cd : Cod α} {z0 q r : α} {xs ys : List Value} {f : Field} {fs : List Field} {w : World} {p : Prop} (hn : (f.name == "_") = false) (ty : Ty P f.type cd z0) (ha : At xs f.offset (cd.enc q)) (hb : At ys f.offset (cd.enc r)) (he : EqT P f.type D cd) (hD : D ≤ d) (hr : EqFs P d xs.toArray ys.toArray fs w p) :
  EqFs P d xs.toArray ys.toArray (f :: fs) w (q = r ∧ p) := by
 obtain ⟨b, h1, h2⟩ := hr
 obtain ⟨b', h3, h4⟩ := he d hD q r w
 have hn' : f.name ≠ "_" := by simpa using hn
 refine ⟨b' && b, ?_, by rw [Bool.and_eq_true, h4, h2]⟩
 simp only [Op.eqFields, if_pos hn', Sem.run_bind, ZhI ty ha, ZhI ty hb, h3, Result.andThen_ok]
 cases b'
 ·simp
 ·simpa using h1
theorem EqFs.congr {P : Program} {d : Nat} {xs ys : Array Value} {fs : List Field} {w : World} {p q : Prop} (h : EqFs P d xs ys fs w p) (hp : p ↔ q) : EqFs P d xs ys fs w q := by
 obtain ⟨b, h1, h2⟩ := h
 exact ⟨b, h1, h2.trans hp⟩
theorem EqT.struct {P : Program} {T : TypeId} {D : Nat} {α : Type} {cd : Cod α} {fs : Array Field} (hu : P.underlying T = some (.struct fs)) (hp : P.stoodInHeld T = false) (hagg : cd.agg = true) (hf : ∀ d, D ≤ d → ∀ x y w, EqFs P d (cd.enc x).toArray (cd.enc y).toArray fs.toList w (x = y)) : EqT P T (D + 1) cd := by
 intro e he x y w
 obtain ⟨d, rfl⟩ : ∃ d, e = d + 1 := ⟨e - 1, by omega⟩
 have hval : ∀ q, cd.val q = .agg (cd.enc q).toArray := fun q => by unfold Cod.val; rw [hagg]; rfl
 obtain ⟨b, h1, h2⟩ := hf d (by omega) x y w
 refine ⟨b, ?_, h2⟩
 have hfo : P.fieldsOf T = fs := by simp [Program.fieldsOf, hu]
 rw [hval, hval, run_equalIn_struct (P := P) w d T _ _ (by rw [hfo]; exact hu) hp, hfo]
 exact h1
theorem ZmJ {P : Program} {d D n E : Nat} {α : Type} {cd : Cod α} {z0 : α} (ty : Ty P E cd z0) (he : EqT P E D cd) (hD : D ≤ d) (x y : Vec α n) (w : World) : ∀ (js : List Nat), (∀ j ∈ js, j < n) →
  ∃ b, (Op.eqItems d E cd.n ((cd.arr n).enc x).toArray ((cd.arr n).enc y).toArray js).run P w = .ok b w ∧ (b = true ↔ ∀ j ∈ js, x.l[j]? = y.l[j]?)
 | [], _ => ⟨true, by simp [Op.eqItems], by simp⟩
 | j :: js, hj => by
  have hjn : j < n := hj j (by simp)
  obtain ⟨b, h1, h2⟩ := ZmJ ty he hD x y w js (fun k hk => hj k (List.mem_cons_of_mem _ hk))
  have ha : At ((cd.arr n).enc x) (j * cd.n) (cd.enc (x.g (j : Int) z0)) := At.arr (v := x) (i := (j : Int)) (z := z0) (by omega) (by omega)
  have hb : At ((cd.arr n).enc y) (j * cd.n) (cd.enc (y.g (j : Int) z0)) := At.arr (v := y) (i := (j : Int)) (z := z0) (by omega) (by omega)
  obtain ⟨b', h3, h4⟩ := he d hD (x.g (j : Int) z0) (y.g (j : Int) z0) w
  have hx : x.l[j]? = some (x.g (j : Int) z0) := by
   unfold Vec.g
   simp [List.getD_eq_getElem?_getD, List.getElem?_eq_getElem (show j < x.l.length by rw [x.h]; exact hjn)]
  have hy : y.l[j]? = some (y.g (j : Int) z0) := by
   unfold Vec.g
   simp [List.getD_eq_getElem?_getD, List.getElem?_eq_getElem (show j < y.l.length by rw [y.h]; exact hjn)]
  refine ⟨b' && b, ?_, ?_⟩
  ·simp only [Op.eqItems, Sem.run_bind, ZhI ty ha, ZhI ty hb, h3, Result.andThen_ok]
   cases b'
   ·simp
   ·simpa using h1
  ·rw [Bool.and_eq_true, h4, h2]
   simp only [List.mem_cons, forall_eq_or_imp, hx, hy, Option.some.injEq]
theorem EqT.arr {P : Program} {T E D n : Nat} {α : Type} {cd : Cod α} {z0 : α} (hu : P.underlying T = some (.array n E)) (ty : Ty P E cd z0) (he : EqT P E D cd) : EqT P T (D + 1) (cd.arr n) := by
 intro e hD x y w
 obtain ⟨d, rfl⟩ : ∃ d, e = d + 1 := ⟨e - 1, by omega⟩
 have hagg : (cd.arr n).agg = true := by cases n <;> rfl
 have hval : ∀ q, (cd.arr n).val q = .agg ((cd.arr n).enc q).toArray := fun q => by unfold Cod.val; rw [hagg]; rfl
 obtain ⟨i, hi, hie⟩ := Option.map_eq_some_iff.1 ty.info
 simp only [Prod.mk.injEq] at hie
 have hc : P.cellsOf E = cd.n := by simp [Program.cellsOf, hi, hie.1]
 obtain ⟨b, h1, h2⟩ := ZmJ ty he (show D ≤ d by omega) x y w (List.range n) (fun j hj => List.mem_range.1 hj)
 refine ⟨b, ?_, ?_⟩
 ·rw [hval, hval, run_equalIn_array w d _ _ hu hi, hc]
  exact h1
 ·rw [h2]
  constructor
  ·intro hh
   apply Vec.eq
   apply List.ext_getElem?
   intro j
   by_cases hj : j < n
   ·exact hh j (List.mem_range.2 hj)
   ·rw [List.getElem?_eq_none (by rw [x.h]; omega), List.getElem?_eq_none (by rw [y.h]; omega)]
  ·rintro rfl j _
   rfl
noncomputable def eqv {α : Type} (x y : α) : Bool := open Classical in decide (x = y)
theorem Zg3 {α : Type} {x y : α} : eqv x y = true ↔ x = y := by unfold eqv; simp
theorem OJ.eql {α : Type} {i d T yT D : Nat} {y z : Operand} {cd : Cod α} {p q : α} (hagg : cd.agg = true) (he : EqT c.P T D cd) (hJ : OJ c pend is ((d, .bool (eqv p q)) :: m) h x R) (hc : core c.ops m i = some (some d, .binOp .eql T y z yT) := by kernel_rfl) (hy : evm m y = some (cd.val p) := by kernel_rfl) (hz : evm m z = some (cd.val q) := by kernel_rfl) (hD : Nat.ble D 10000 = true := by kernel_rfl) (hg : c.P.eqGuardType c.P.depth T = false := by kernel_rfl) (hk : kdP c.kd i = true := by kernel_rfl) (hn : noW c.kd [i] pend = true := by kernel_rfl) (hd : Nat.blt d c.n = true := by kernel_rfl) : OJ c pend (i :: is) m h x R := by
 refine OJ.q hc hk hn hd fun v r v' e w a s => ?_
 refine ⟨_, _, fun oo ho w' => ?_, e, hJ⟩
 obtain ⟨dst, op, type, pos, after, guard⟩ := oo
 simp only at ho
 subst ho
 have hval : ∀ q, cd.val q = .agg (cd.enc q).toArray := fun q => by unfold Cod.val; rw [hagg]; rfl
 obtain ⟨b, h1, h2⟩ := he 10000 (by simpa using hD) p q w'
 refine Zes (s.eval hy) (s.eval hz) (by rw [hval, hval]; exact run_eqGuard_agg w' _ T _ _ _ _ hg) ?_
 rw [hval, hval] at h1 ⊢
 rw [run_eql_struct, h1]
 have : b = eqv p q := by rw [Bool.eq_iff_iff, h2, Zg3]
 rw [this]
 rfl
theorem OJ.neq {α : Type} {i d T yT D : Nat} {y z : Operand} {cd : Cod α} {p q : α} (hagg : cd.agg = true) (he : EqT c.P T D cd) (hJ : OJ c pend is ((d, .bool (!eqv p q)) :: m) h x R) (hc : core c.ops m i = some (some d, .binOp .neq T y z yT) := by kernel_rfl) (hy : evm m y = some (cd.val p) := by kernel_rfl) (hz : evm m z = some (cd.val q) := by kernel_rfl) (hD : Nat.ble D 10000 = true := by kernel_rfl) (hg : c.P.eqGuardType c.P.depth T = false := by kernel_rfl) (hk : kdP c.kd i = true := by kernel_rfl) (hn : noW c.kd [i] pend = true := by kernel_rfl) (hd : Nat.blt d c.n = true := by kernel_rfl) : OJ c pend (i :: is) m h x R := by
 refine OJ.q hc hk hn hd fun v r v' e w a s => ?_
 refine ⟨_, _, fun oo ho w' => ?_, e, hJ⟩
 obtain ⟨dst, op, type, pos, after, guard⟩ := oo
 simp only at ho
 subst ho
 have hval : ∀ q, cd.val q = .agg (cd.enc q).toArray := fun q => by unfold Cod.val; rw [hagg]; rfl
 obtain ⟨b, h1, h2⟩ := he 10000 (by simpa using hD) p q w'
 refine Zes (s.eval hy) (s.eval hz) (by rw [hval, hval]; exact run_eqGuard_agg w' _ T _ _ _ _ hg) ?_
 rw [hval, hval] at h1 ⊢
 rw [run_neq_struct, h1]
 have : b = eqv p q := by rw [Bool.eq_iff_iff, h2, Zg3]
 rw [this]
 rfl
end
end
section
open Go
variable [Zd5]
def rdR (v : World) (p : Option Addr) (k : Nat) : Option (List Value) := match p with
 | some a => rdF v a 0 k
 | none => some []
def grow (E : TypeId) (size bytes : Nat) (z : List Value) (s : Sl) (n : Nat) (new : List Value) : M Sl := fun v =>
 if !(new.all Zlf) then none else
 if s.len + n ≤ s.cap then
  match s.a with
  | some a => (wrF v (a.add (s.len * size)) 0 new).map fun v' => (⟨some a, s.len + n, s.cap⟩, v')
  | none => some (⟨none, s.len + n, s.cap⟩, v)
 else if ((s.len + n : Nat) : Int) > IntKind.i64.max ∧ bytes = 0 then none
 else if Builtin.nextslicecap (s.len + n) s.cap * bytes > 2 ^ 48 then none
 else
  (rdR v s.a (s.len * size)).map fun old => (⟨some (pt v.heap.size 0), s.len + n, (Question.appendCap (s.len + n) s.cap E).cut (v.tape v.drawn (.appendCap (s.len + n) s.cap E))⟩,
   v.drew.alloc (.cells (old ++ new ++ (Builtin.zeroCells z.toArray ((Question.appendCap (s.len + n) s.cap E).cut (v.tape v.drawn (.appendCap (s.len + n) s.cap E)) - (s.len + n))).toList).toArray E))
def appl {α : Type} (cd : Cod α) (E : TypeId) (bytes : Nat) (z : α) (s : Sl) (l : List α) : M Sl := grow E cd.n bytes (cd.enc z) s l.length (l.flatMap cd.enc)
def appS {α : Type} (cd : Cod α) (E : TypeId) (bytes : Nat) (z : α) (s x : Sl) : M Sl := fun v => (rdR v x.a (x.len * cd.n)).bind fun new => grow E cd.n bytes (cd.enc z) s x.len new v
def mkS {α : Type} (cd : Cod α) (E : TypeId) (bytes : Nat) (z : α) (l k : Int) : M Sl := fun v =>
 if IntKind.i64.wrap k < 0 ∨ bytes * IntKind.i64.wrap k > 2 ^ 48 ∨ IntKind.i64.wrap l < 0 ∨ IntKind.i64.wrap l > IntKind.i64.wrap k then none
 else some (⟨some (pt v.heap.size 0), (IntKind.i64.wrap l).toNat, (IntKind.i64.wrap k).toNat⟩, v.alloc (.cells (List.replicate (IntKind.i64.wrap k).toNat (cd.enc z)).flatten.toArray E))
def cpyC (d : Sl) (n : Nat) (l : List Value) : M Int := fun v =>
 if !(l.all Zlf) then none else
 match d.a with
 | some a => (wrF v a 0 l).map fun v' => ((n : Int), v')
 | none => some ((n : Int), v)
def cpyS {α : Type} (cd : Cod α) (d s : Sl) : M Int := fun v => (rdR v s.a (Nat.min s.len d.len * cd.n)).bind fun l => cpyC d (Nat.min s.len d.len) l v
def clrS {α : Type} (cd : Cod α) (z : α) (s : Sl) : M Unit := fun v =>
 match s.a with
 | some a => if s.len = 0 then some ((), v) else (wrF v a 0 (List.replicate s.len (cd.enc z)).flatten).map fun v' => ((), v')
 | none => some ((), v)
def cut (size : Nat) (s : Sl) (lo hi mx : Option Int) : M Sl := fun v =>
 let m : Int := mx.getD s.cap
 let h : Int := hi.getD s.len
 let l : Int := lo.getD 0
 if 0 ≤ m ∧ m ≤ s.cap ∧ 0 ≤ h ∧ h ≤ m ∧ 0 ≤ l ∧ l ≤ h then some (⟨if m.toNat = l.toNat then s.a else s.a.map (·.add (l.toNat * size)), h.toNat - l.toNat, m.toNat - l.toNat⟩, v) else none
section
variable {P : Program}
theorem ZqE {y : Value} (h : Zlf y = true) : (∀ cs, y ≠ .agg cs) ∧ ∀ cs, y ≠ .tuple cs := ⟨fun cs e => (by rw [e] at h; cases h), fun cs e => (by rw [e] at h; cases h)⟩
theorem ZrT {l : List Value} (h : l.all Zlf = true) : ∀ y ∈ l, (∀ cs, y ≠ .agg cs) ∧ ∀ cs, y ≠ .tuple cs := fun y hy => ZqE (List.all_eq_true.1 h y hy)
theorem ZkT {v w : World} (hs : Sub v w) (o o' : Obj) : ∀ b, Husk v b → (w.alloc o').heap[b]? = w.heap[b]? ∧ (v.alloc o).heap[b]? = v.heap[b]? := by
 intro b hb
 refine ⟨?_, hb.alloc o⟩
 have := hb.lt
 show (w.heap.push o')[b]? = _
 rw [Array.getElem?_push, if_neg (by rw [hs.size]; omega)]
theorem Ze6 {v w : World} (hs : Sub v w) {p : Option Addr} {n k size : Nat} {cap : Nat} {l : List Value} (hr : rdR v p (n * size) = some l) : (Builtin.firstCells size n (.slice p k cap)).run P w = .ok l.toArray w := by
 cases p with
 | none =>
  simp only [rdR, Option.some.injEq] at hr
  subst hr
  simp [Builtin.firstCells]
 | some a =>
  simp only [rdR] at hr
  have := Zfx P w a _ 0 #[] _ (Zmh hs a _ _ _ hr)
  simpa [Builtin.firstCells, loadCells] using this
theorem Zrl (v : World) (a : Addr) : ∀ (n i : Nat), rdF v.drew a i n = rdF v a i n
 | 0, i => rfl
 | n + 1, i => by
  unfold rdF
  rw [Zrl v a n (i + 1)]
  rfl
theorem Zrk (v : World) (p : Option Addr) (n : Nat) : rdR v.drew p n = rdR v p n := by
 cases p
 ·rfl
 ·exact Zrl v _ n 0
def rowT (P : Program) (u : TypeId) : Bool := match P.underlying u with
 | some (.slice _) => true
 | some .string => true
 | _ => false
theorem Zv7 {u : TypeId} (h : rowT P u = true) : (∃ e, P.underlying u = some (.slice e)) ∨ P.underlying u = some .string := by
 unfold rowT at h
 split at h
 ·exact .inl ⟨_, by assumption⟩
 ·exact .inr (by assumption)
 ·cases h
theorem ZkS {t u E : TypeId} {i : TypeInfo} {z : Value} {ty : TypeId} {xv : Value} {s : Sl} {n : Nat} {new : List Value} (ht : P.underlying t = some (.slice E)) (hu : rowT P u = true) (hi : P.info? E = some i) (hz : i.zero = some z)
  {v w : World} (hs : Sub v w) (hlen : ∀ w', (Builtin.lenOf xv).run P w' = .ok n w') (h0 : (Builtin.firstCells i.size n xv).run P w = .ok new.toArray w) (h1 : (Builtin.firstCells i.size n xv).run P w.drew = .ok new.toArray w.drew) {r : Sl} {v' : World} (hg : grow E i.size i.bytes z.cells.toList s n new v = some (r, v')) :
  ∃ w', (Builtin.append_ #[t, u] ty #[s.v, xv]).run P w = .ok r.v w' ∧ Sub v' w' ∧ ∀ b, Husk v b → w'.heap[b]? = w.heap[b]? ∧ v'.heap[b]? = v.heap[b]? := by
 have hzv : ∀ w', (zeroValue E).run P w' = .ok z w' := by intro w'; simp [zeroValue, typeInfo, hi, hz]
 have hti : ∀ w', (typeInfo E).run P w' = .ok i w' := fun w' => ZdQ hi w'
 unfold grow at hg
 split at hg
 ·cases hg
 ·rename_i hpl
  have hflat := ZrT (l := new) (by simpa using hpl)
  unfold Builtin.append_
  rcases Zv7 hu with ⟨e', hd⟩ | hd
  all_goals
   simp only [List.getElem?_toArray, List.getElem?_cons_zero, List.getElem?_cons_succ, Sl.v, Sem.run_bind, ZaE ht, ZaE hd, Result.andThen_ok, sizeOf, hti, Sem.run_pure, Bool.false_eq_true, if_false, hlen]
   split at hg
   ·rename_i hfit
    simp only [if_pos hfit, Bool.not_false, if_true, Sem.run_bind, h0, Result.andThen_ok]
    cases ha : s.a with
    | none =>
     rw [ha] at hg
     simp only [Option.some.injEq, Prod.mk.injEq] at hg
     obtain ⟨rfl, rfl⟩ := hg
     exact ⟨w, by simp, hs, fun _ _ => ⟨rfl, rfl⟩⟩
    | some a =>
     rw [ha] at hg
     obtain ⟨v1, hv1, h2⟩ := Option.map_eq_some_iff.1 hg
     simp only [Prod.mk.injEq] at h2
     obtain ⟨rfl, rfl⟩ := h2
     obtain ⟨w1, e1, e2, e3⟩ := ZfU P (a.add (s.len * i.size)) new 0 v v1 w hflat hv1 hs
     refine ⟨w1, ?_, e2, e3⟩
     simp [e1]
   ·rename_i hfit
    split at hg
    ·cases hg
    ·rename_i h63
     split at hg
     ·cases hg
     ·rename_i h48
      obtain ⟨old, hold, h2⟩ := Option.map_eq_some_iff.1 hg
      simp only [Prod.mk.injEq] at h2
      obtain ⟨rfl, rfl⟩ := h2
      have hold' : rdR v.drew s.a (s.len * i.size) = some old := by rw [Zrk]; exact hold
      have hfo := Ze6 (P := P) (k := s.len) (cap := s.cap) (hs.drew) hold'
      simp only [if_neg hfit, Bool.false_eq_true, false_or, Sem.run_bind, Sem.run_pure, Result.andThen_ok, hti]
      rw [if_neg (by simpa using h63)]
      simp only [Sem.run_pure, Result.andThen_ok, Sem.run_bind, hti]
      rw [if_neg h48]
      simp only [Sem.run_pure, Result.andThen_ok, Sem.run_bind, run_choose, Question.forced, Bool.false_eq_true, if_false, run_askRoom, hti]
      have hd' : ({ w with drawn := w.drawn + 1 } : World) = w.drew := rfl
      rw [hd', hfo]
      simp only [Result.andThen_ok, Bool.not_false, if_true, h1, hzv, newRow, Sem.run_bind, run_newObj, Sem.run_pure]
      have htape : w.tape = v.tape := hs.tape
      have hdrawn : w.drawn = v.drawn := hs.drawn
      have hsz : w.drew.heap.size = v.heap.size := hs.size
      refine ⟨w.drew.alloc _, ?_, (hs.drew).alloc _, fun b hb => ?_⟩
      ·show Result.ok _ _ = Result.ok _ _
       congr 1
       ·simp only [hsz, htape, hdrawn]
        rfl
       ·simp only [htape, hdrawn]
        show w.drew.alloc _ = w.drew.alloc _
        congr 2
        simp
      ·exact ZkT (v := v.drew) (hs.drew) _ _ b hb
end
section
variable {β : Type} {c : Cx} {pend : List Pd} {is : List Nat} {m : Env} {h : Loc} {x : M β} {R : List Pd → Env → Loc → M β → Prop}
theorem OJ.sem {α : Type} {i : Nat} {d : Nat} {op : Op} {q : M α} {out : α → Value} {owed : List Pd} {f : α → M β} (hc : core c.ops m i = some (some d, op))
  (hq : ∀ v w a, St c.n m h v w a → ∀ r v', q v = some (r, v') → ∃ w', (∀ o : Oper, o.op = op → (execOp a.eval o).run c.P w = .ok (.value (out r)) w') ∧ Sub v' w' ∧ ∀ b, Husk v b → w'.heap[b]? = w.heap[b]? ∧ v'.heap[b]? = v.heap[b]?)
  (hd : Nat.blt d c.n = true) (hk : kdW c.kd i = true) (ho : owes c.bef i pend = owed) (hJ : ∀ r, OW c owed pend is ((d, out r) :: m) h (f r) R) : OJ c pend (i :: is) m h (q >>= f) R := by
 refine OJ.wr hc hk ho fun v r v' e w a s D hD => ?_
 obtain ⟨y, v1, h1, h2⟩ := bind_some.1 e
 obtain ⟨w1, hr, hs1, hkp⟩ := hq v w a s y v1 h1
 have hlt : d < c.n := by simpa [Nat.blt_eq] using hd
 exact ⟨out y, w1, v1, f y, (d, out y) :: m, h, fun o hop => .inl (hr o hop), h2, ⟨hs1, by simp [Act.put, s.size], s.defers.keep hkp, Zlj hlt s.size s.get, Loc.keep s hkp, s.nd⟩, Kp.of hD hkp, hJ y⟩
theorem Ty.parts {P : Program} {T : TypeId} {α : Type} {cd : Cod α} {z0 : α} (ty : Ty P T cd z0) : ∃ i, P.info? T = some i ∧ i.size = cd.n ∧ i.zero = some (cd.val z0) := by
 obtain ⟨i, hi, he⟩ := Option.map_eq_some_iff.1 ty.info
 simp only [Prod.mk.injEq] at he
 exact ⟨i, hi, he.1, he.2⟩
theorem ZjN {P : Program} {o : Oper} {s x : Operand} {t u : TypeId} {ρ : Operand → Value} {sv xv y : Value} {w w' : World} (ho : o.op = .call { callee := .builtin .append, args := #[s, x], argTypes := #[t, u] }) (hs : ρ s = sv) (hx : ρ x = xv) (hr : ∀ ty, (Builtin.append_ #[t, u] ty #[sv, xv]).run P w = .ok y w') : (execOp ρ o).run P w = .ok (.value y) w' := by
 obtain ⟨dst, op, type, pos, after, guard⟩ := o
 simp only at ho
 subst ho
 simp only [execOp, resolve, Sem.run_bind, Sem.run_pure, Result.andThen_ok, invoke, builtin]
 simp only [List.map_toArray, List.map_cons, List.map_nil, hs, hx, Sem.run_bind, hr, Result.andThen_ok, Sem.run_pure]
set_option maxHeartbeats 800000 in
theorem OJ.appl {α : Type} {i d t u E bytes j b n : Nat} {so xo : Operand} {cd : Cod α} {z0 : α} {s : Sl} {l : List Value} {k : Nat} (xs : List α) {owed : List Pd} {f : Sl → M β} (ty : Ty c.P E cd z0) (hj : h[j]? = some (b, l)) (hl : l = xs.flatMap cd.enc) (hn : xs.length = n) (hJ : ∀ r : Sl, OW c owed pend is ((d, r.v) :: m) h (f r) R) (hc : core c.ops m i = some (some d, .call { callee := .builtin .append, args := #[so, xo], argTypes := #[t, u] }) := by kernel_rfl) (ht : c.P.underlying t = some (.slice E) := by kernel_rfl) (hu : rowT c.P u = true := by kernel_rfl) (hby : (c.P.info? E).map (·.bytes) = some bytes := by kernel_rfl) (hs : evm m so = some s.v := by kernel_rfl) (hx : evm m xo = some (.slice (some (pt b 0)) n k) := by kernel_rfl) (hd : Nat.blt d c.n = true := by kernel_rfl) (hk : kdW c.kd i = true := by kernel_rfl) (ho : owes c.bef i pend = owed := by kernel_rfl) : OJ c pend (i :: is) m h (appl cd E bytes z0 s xs >>= f) R := by
 refine OJ.sem (out := Sl.v) hc (fun v w a st r v' e => ?_) hd hk ho hJ
 obtain ⟨inf, hi, hsz, hz⟩ := ty.parts
 have hb2 : inf.bytes = bytes := by rw [hi] at hby; simpa using hby
 obtain ⟨hh, T', hT⟩ := st.known hj
 have hlen : l.length = n * inf.size := by rw [hl, ← hn, hsz]; simp [List.length_flatMap, cd.len, Function.comp_def, List.map_const', List.sum_replicate_nat]
 have hrd : ∀ w', w'.heap = w.heap → (Builtin.firstCells inf.size n (.slice (some (pt b 0)) n k)).run c.P w' = .ok l.toArray w' := by
  intro w' hw'
  have h1 : rdF w' (pt b 0) 0 l.length = some l := ZvE (by rw [hw']; exact hT) (At.whole l)
  rw [hlen] at h1
  have := Zfx c.P w' (pt b 0) _ 0 #[] _ h1
  simpa [Builtin.firstCells, loadCells] using this
 obtain ⟨w', e1, e2, e3⟩ := ZkS (P := c.P) (t := t) (u := u) (ty := 0) (xv := .slice (some (pt b 0)) n k) ht hu hi hz st.sub (fun w' => rfl) (hrd w rfl) (hrd w.drew rfl) (s := s) (r := r) (v' := v') (by
  unfold Lx.appl at e
  rw [hn, ← hl] at e
  rw [hsz, hb2, cd.cells]
  exact e)
 refine ⟨w', fun o hop => ZjN hop (st.eval hs) (st.eval hx) (fun ty => e1), e2, e3⟩
theorem OJ.appS {α : Type} {i d t u E bytes : Nat} {so xo : Operand} {cd : Cod α} {z0 : α} {s y : Sl} {owed : List Pd} {f : Sl → M β} (ty : Ty c.P E cd z0) (hJ : ∀ r : Sl, OW c owed pend is ((d, r.v) :: m) h (f r) R) (hc : core c.ops m i = some (some d, .call { callee := .builtin .append, args := #[so, xo], argTypes := #[t, u] }) := by kernel_rfl) (ht : c.P.underlying t = some (.slice E) := by kernel_rfl) (hu : rowT c.P u = true := by kernel_rfl) (hby : (c.P.info? E).map (·.bytes) = some bytes := by kernel_rfl) (hs : evm m so = some s.v := by kernel_rfl) (hx : evm m xo = some y.v := by kernel_rfl) (hd : Nat.blt d c.n = true := by kernel_rfl) (hk : kdW c.kd i = true := by kernel_rfl) (ho : owes c.bef i pend = owed := by kernel_rfl) : OJ c pend (i :: is) m h (appS cd E bytes z0 s y >>= f) R := by
 refine OJ.sem (out := Sl.v) hc (fun v w a st r v' e => ?_) hd hk ho hJ
 obtain ⟨inf, hi, hsz, hz⟩ := ty.parts
 have hb2 : inf.bytes = bytes := by rw [hi] at hby; simpa using hby
 obtain ⟨new, hnew, hg⟩ := Option.bind_eq_some_iff.1 e
 have h0 := Ze6 (P := c.P) (k := y.len) (cap := y.cap) (size := inf.size) (n := y.len) st.sub (by rw [hsz]; exact hnew)
 have h1 := Ze6 (P := c.P) (k := y.len) (cap := y.cap) (size := inf.size) (n := y.len) (st.sub.drew) (by rw [Zrk, hsz]; exact hnew)
 obtain ⟨w', e1, e2, e3⟩ := ZkS (P := c.P) (t := t) (u := u) (ty := 0) (xv := y.v) ht hu hi hz st.sub (fun w' => rfl) h0 h1 (s := s) (r := r) (v' := v') (by
  rw [hsz, hb2, cd.cells]
  exact hg)
 refine ⟨w', fun o hop => ZjN hop (st.eval hs) (st.eval hx) (fun ty => e1), e2, e3⟩
theorem Zri {α : Type} (cd : Cod α) (z : α) : ∀ (n : Nat), ((Array.range (n * cd.n)).map fun i => ((cd.enc z).toArray[i % (cd.enc z).toArray.size]! : Value)) = (List.replicate n (cd.enc z)).flatten.toArray := by
 intro n
 by_cases h0 : cd.n = 0
 ·have he : cd.enc z = [] := List.eq_nil_of_length_eq_zero (by rw [cd.len, h0])
  simp [h0, he]
 ·apply Array.ext_getElem?
  intro i
  have hlen : (List.replicate n (cd.enc z)).flatten.length = n * cd.n := by simp [List.length_flatten, cd.len]
  by_cases hi : i < n * cd.n
  ·have key : ∀ (n i : Nat), i < n * cd.n → (List.replicate n (cd.enc z)).flatten[i]? = (cd.enc z)[i % cd.n]? := by
    intro n
    induction n with
    | zero => intro i hi; simp at hi
    | succ n ih =>
     intro i hi
     rw [List.replicate_succ, List.flatten_cons]
     by_cases hlt : i < cd.n
     ·rw [List.getElem?_append_left (by rw [cd.len]; exact hlt), Nat.mod_eq_of_lt hlt]
     ·rw [List.getElem?_append_right (by rw [cd.len]; omega), cd.len, ih (i - cd.n) (by rw [Nat.succ_mul] at hi; omega), Nat.mod_eq_sub_mod (show i ≥ cd.n by omega)]
   have hm : i % cd.n < (cd.enc z).length := by rw [cd.len]; exact Nat.mod_lt _ (by omega)
   simp only [Array.getElem?_map, Array.getElem?_range, hi, List.getElem?_toArray, key n i hi]
   simp [cd.len, List.getElem?_eq_getElem hm, hi, getElem!_def]
  ·rw [Array.getElem?_eq_none (by simp; omega), Array.getElem?_eq_none (by simp [cd.len]; omega)]
theorem Znz {P : Program} {t E n : Nat} {α : Type} {cd : Cod α} {z0 : α} {q : Vec α n} (ht : P.underlying t = some (.slice E)) (ty : Ty P E cd z0) (hsz : Nat.ble (n * cd.n) 16777216 = true) {ps : List (Nat × Value)} (hf : Zcg (fun i => some (i * cd.n, cd.n)) ((cd.arr n).enc (Vec.rep n z0)) ps ((cd.arr n).enc q)) (w : World) :
  (Instr.buildSlice t n ps.toArray).run P w = .ok (.slice (some ⟨w.heap.size, 0, none⟩) n n) (w.alloc (.cells ((cd.arr n).enc q).toArray E)) := by
 obtain ⟨inf, hi, hs, hz⟩ := ty.parts
 have hle : n * cd.n ≤ 16777216 := by simpa using hsz
 have hz2 : (zeroValue E).run P w = .ok (cd.val z0) w := by simp [zeroValue, typeInfo, hi, hz]
 have hfill := hf.fill
 unfold Instr.buildSlice
 simp only [Sem.run_bind, ZaE ht, Result.andThen_ok, sizeOf, ZdQ hi, Sem.run_pure, hs]
 rw [if_neg (by omega)]
 have hstart : (cd.arr n).enc (Vec.rep n z0) = (List.replicate n (cd.enc z0)).flatten := by
  rw [Cod.arr_enc]
  simp [Vec.rep, List.flatMap_replicate]
 by_cases h0 : n * cd.n = 0
 ·rw [if_pos h0]
  simp only [Sem.run_pure, Result.andThen_ok, Sem.run_bind]
  have he : (cd.arr n).enc (Vec.rep n z0) = [] := List.eq_nil_of_length_eq_zero (by rw [Cod.len, Cod.arr_n, h0])
  rw [he] at hfill
  rw [h0]
  have hr0 : (Array.map (fun x => (#[] : Array Value)[x % (#[] : Array Value).size]!) (Array.range 0)) = #[] := by simp
  rw [hr0, show (#[] : Array Value) = ([] : List Value).toArray from rfl, hfill]
  simp only [newRow, Sem.run_bind, run_newObj, Result.andThen_ok, Sem.run_pure]
  rfl
 ·rw [if_neg h0]
  simp only [Sem.run_bind, hz2, Result.andThen_ok, Sem.run_pure, cd.cells, Zri]
  rw [hstart] at hfill
  rw [hfill]
  simp only [newRow, Sem.run_bind, run_newObj, Result.andThen_ok, Sem.run_pure]
  rfl
theorem ZrH {P : Program} {o : Oper} {t n E : Nat} {parts : List (Nat × Operand)} {ps : List (Nat × Value)} {ρ : Operand → Value} {α : Type} {cd : Cod α} {z0 : α} {q : Vec α n} (ho : o.op = .buildSlice t n parts.toArray) (hp : parts.map (fun p => (p.1, ρ p.2)) = ps) (ht : P.underlying t = some (.slice E)) (ty : Ty P E cd z0) (hsz : Nat.ble (n * cd.n) 16777216 = true) (hf : Zcg (fun i => some (i * cd.n, cd.n)) ((cd.arr n).enc (Vec.rep n z0)) ps ((cd.arr n).enc q)) (w : World) :
  (execOp ρ o).run P w = .ok (.value (.slice (some ⟨w.heap.size, 0, none⟩) n n)) (w.alloc (.cells ((cd.arr n).enc q).toArray E)) := by
 rw [Zef (P := P) ho]
 have e2 : (parts.toArray.map fun p => (p.1, ρ p.2)) = ps.toArray := by rw [← hp]; simp
 show Sem.run P (do pure (Next.value (← Instr.buildSlice t n (parts.toArray.map fun p => (p.1, ρ p.2))))) w = _
 rw [e2]
 simp [Znz ht ty hsz hf w]
theorem OJ.rowSlot {α : Type} {i d t n E : Nat} {parts : List (Nat × Operand)} {ps : List (Nat × Value)} {cd : Cod α} {z0 : α} (q : Vec α n) {owed : List Pd} {f : Nat → M β} (ty : Ty c.P E cd z0) (hf : Zcg (fun i => some (i * cd.n, cd.n)) ((cd.arr n).enc (Vec.rep n z0)) ps ((cd.arr n).enc q)) (hJ : ∀ b, OW c owed pend is ((d, .slice (some (pt b 0)) n n) :: m) ((b, (cd.arr n).enc q) :: h) (f b) R) (hc : core c.ops m i = some (some d, .buildSlice t n parts.toArray) := by kernel_rfl) (hp : evps m parts = some ps := by kernel_rfl) (ht : c.P.underlying t = some (.slice E) := by kernel_rfl) (hsz : Nat.ble (n * cd.n) 16777216 = true := by kernel_rfl) (hd : Nat.blt d c.n = true := by kernel_rfl) (hk : kdW c.kd i = true := by kernel_rfl) (ho : owes c.bef i pend = owed := by kernel_rfl) : OJ c pend (i :: is) m h (slot E >>= f) R := by
 refine OJ.wr hc hk ho fun v r v' e w a s D hD => ?_
 obtain ⟨b, v1, h1, h2⟩ := bind_some.1 e
 simp only [slot, Option.some.injEq, Prod.mk.injEq] at h1
 obtain ⟨rfl, rfl⟩ := h1
 have hlt : d < c.n := by simpa [Nat.blt_eq] using hd
 obtain ⟨hkp, hne⟩ := ZlX hD s.sub (.cells #[] E) (.cells ((cd.arr n).enc q).toArray E)
 have hpt : (Value.slice (some ⟨w.heap.size, 0, none⟩) n n) = .slice (some (pt v.heap.size 0)) n n := by rw [s.sub.size]; rfl
 refine ⟨_, _, _, f v.heap.size, (d, .slice (some (pt v.heap.size 0)) n n) :: m, (v.heap.size, (cd.arr n).enc q) :: h, fun o hop => .inl (ZrH hop (Zkj s hp) ht ty hsz hf w), h2, ?_, ?_, hJ _⟩
 ·rw [hpt]
  refine s.alloc hlt _ _ _ (s.sub.slot _ E) _ (fun e he => ?_) ?_
  ·rcases List.mem_cons.1 he with rfl | he
   ·refine .inr ⟨rfl, ⟨E, ?_⟩, E, ?_⟩
    ·show (v.heap.push _)[v.heap.size]? = _
     simp
    ·show (w.heap.push _)[v.heap.size]? = _
     rw [← s.sub.size]
     simp
   ·exact .inl he
  ·simp only [List.map_cons, List.nodup_cons]
   refine ⟨fun hm => ?_, s.nd⟩
   obtain ⟨e, he, e1⟩ := List.mem_map.1 hm
   have := (s.loc e he).1.lt
   omega
 ·intro b hb
  obtain ⟨k1, k2, k3⟩ := hkp b hb
  refine ⟨k1, k2, fun e he => ?_⟩
  rcases List.mem_cons.1 he with rfl | he
  ·exact hne b hb
  ·exact k3 e he
theorem OJ.rowNew {α : Type} {i d t n E : Nat} {parts : List (Nat × Operand)} {ps : List (Nat × Value)} {cd : Cod α} {z0 : α} {q : Vec α n} {owed : List Pd} {f : Nat → M β} (ty : Ty c.P E cd z0) (hf : Zcg (fun i => some (i * cd.n, cd.n)) ((cd.arr n).enc (Vec.rep n z0)) ps ((cd.arr n).enc q)) (hJ : ∀ b, OW c owed pend is ((d, Sl.v ⟨some (pt b 0), n, n⟩) :: m) h (f b) R) (hc : core c.ops m i = some (some d, .buildSlice t n parts.toArray) := by kernel_rfl) (hp : evps m parts = some ps := by kernel_rfl) (ht : c.P.underlying t = some (.slice E) := by kernel_rfl) (hsz : Nat.ble (n * cd.n) 16777216 = true := by kernel_rfl) (hd : Nat.blt d c.n = true := by kernel_rfl) (hk : kdW c.kd i = true := by kernel_rfl) (ho : owes c.bef i pend = owed := by kernel_rfl) : OJ c pend (i :: is) m h (newv E (cd.arr n) q >>= f) R := by
 refine OJ.wr hc hk ho fun v r v' e w a s D hD => ?_
 obtain ⟨b, v1, h1, h2⟩ := bind_some.1 e
 simp only [newv, Option.some.injEq, Prod.mk.injEq] at h1
 obtain ⟨rfl, rfl⟩ := h1
 have hlt : d < c.n := by simpa [Nat.blt_eq] using hd
 obtain ⟨hkp, hne⟩ := ZlX hD s.sub (.cells ((cd.arr n).enc q).toArray E) (.cells ((cd.arr n).enc q).toArray E)
 have hpt : (Value.slice (some ⟨w.heap.size, 0, none⟩) n n) = Sl.v ⟨some (pt v.heap.size 0), n, n⟩ := by rw [s.sub.size]; rfl
 refine ⟨_, _, _, f v.heap.size, (d, Sl.v ⟨some (pt v.heap.size 0), n, n⟩) :: m, h, fun o hop => .inl (ZrH hop (Zkj s hp) ht ty hsz hf w), h2, ?_, hkp, hJ _⟩
 rw [hpt]
 exact s.alloc hlt _ _ _ (s.sub.alloc _) _ (fun e he => .inl he) s.nd
end
end
section
open Go
variable [Zd5]
section
variable {β : Type} {c : Cx} {pend : List Pd} {is : List Nat} {m : Env} {h : Loc} {x : M β} {R : List Pd → Env → Loc → M β → Prop}
theorem ZoD {P : Program} {t E bytes : Nat} {α : Type} {cd : Cod α} {z0 : α} {k1 k2 : IntKind} {l k : Int} (ht : P.underlying t = some (.slice E)) (ty : Ty P E cd z0) (hby : (P.info? E).map (·.bytes) = some bytes) {v w v' : World} {r : Sl} (hs : Sub v w) (hq : mkS cd E bytes z0 l k v = some (r, v')) :
    ∃ w', (Instr.makeSlice t (.int k1 l) (.int k2 k)).run P w = .ok r.v w' ∧ Sub v' w' ∧ ∀ b, Husk v b → w'.heap[b]? = w.heap[b]? ∧ v'.heap[b]? = v.heap[b]? := by
  obtain ⟨inf, hi, hsz, hz⟩ := ty.parts
  have hb2 : inf.bytes = bytes := by rw [hi] at hby; simpa using hby
  have hz2 : ∀ w', (zeroValue E).run P w' = .ok (cd.val z0) w' := by intro w'; simp [zeroValue, typeInfo, hi, hz]
  unfold mkS at hq
  split at hq
  · cases hq
  · rename_i hok
    simp only [Option.some.injEq, Prod.mk.injEq] at hq
    obtain ⟨rfl, rfl⟩ := hq
    simp only [not_or, Int.not_lt, Int.not_le] at hok
    obtain ⟨q1, q2, q3, q4⟩ := hok
    have hn1 : ¬ (IntKind.i64.wrap k < 0) := by omega
    have hn2 : ¬ ((bytes : Int) * IntKind.i64.wrap k > 2 ^ 48) := by omega
    have hn3 : ¬ (IntKind.i64.wrap l < 0) := by omega
    have hn4 : ¬ (IntKind.i64.wrap l > IntKind.i64.wrap k) := by omega
    refine ⟨w.alloc (.cells (List.replicate (IntKind.i64.wrap k).toNat (cd.enc z0)).flatten.toArray E), ?_, hs.alloc _, ZkT hs _ _⟩
    unfold Instr.makeSlice
    simp only [Sem.run_bind, ZaE ht, Result.andThen_ok, asInt, asIntOf, Sem.run_pure, ZdQ hi, hb2]
    simp only [hn1, hn2, hn3, hn4, decide_false, Bool.or_false, Bool.false_or, Bool.false_eq_true, if_false, Sem.run_bind, run_askRoom, Result.andThen_ok, sizeOf, ZdQ hi, Sem.run_pure, hsz]
    by_cases h0 : (IntKind.i64.wrap k).toNat * cd.n = 0
    · have he : (List.replicate (IntKind.i64.wrap k).toNat (cd.enc z0)).flatten = [] := List.eq_nil_of_length_eq_zero (by simp [List.length_flatten, cd.len, h0])
      rw [if_pos h0, h0, he]
      have hr0 : (Array.map (fun x => (#[] : Array Value)[x % (#[] : Array Value).size]!) (Array.range 0)) = #[] := by simp
      simp only [Sem.run_bind, Sem.run_pure, Result.andThen_ok, newRow, run_newObj, hr0]
      rw [hs.size]
      rfl
    · rw [if_neg h0]
      simp only [Sem.run_bind, Sem.run_pure, Result.andThen_ok, newRow, run_newObj, hz2, cd.cells, Zri]
      rw [hs.size]
      rfl
theorem Zny {P : Program} {o : Oper} {t : TypeId} {l k : Operand} {ρ : Operand → Value} {a b y : Value} {w w' : World} (ho : o.op = .makeSlice t l k) (ha : ρ l = a) (hb : ρ k = b) (hr : (Instr.makeSlice t a b).run P w = .ok y w') : (execOp ρ o).run P w = .ok (.value y) w' := by
  rw [Zef (P := P) ho]
  subst ha
  subst hb
  simp [execOp, hr]
theorem OJ.mk {α : Type} {i d t E bytes : Nat} {lo ko : Operand} {cd : Cod α} {z0 : α} {k1 k2 : IntKind} {l k : Int} {owed : List Pd} {f : Sl → M β} (ty : Ty c.P E cd z0) (hJ : ∀ r : Sl, OW c owed pend is ((d, r.v) :: m) h (f r) R) (hc : core c.ops m i = some (some d, .makeSlice t lo ko) := by kernel_rfl) (ht : c.P.underlying t = some (.slice E) := by kernel_rfl) (hby : (c.P.info? E).map (·.bytes) = some bytes := by kernel_rfl) (hl : evm m lo = some (.int k1 l) := by kernel_rfl) (hk2 : evm m ko = some (.int k2 k) := by kernel_rfl) (hd : Nat.blt d c.n = true := by kernel_rfl) (hk : kdW c.kd i = true := by kernel_rfl) (ho : owes c.bef i pend = owed := by kernel_rfl) : OJ c pend (i :: is) m h (mkS cd E bytes z0 l k >>= f) R := by
  refine OJ.sem (out := Sl.v) hc (fun v w a st r v' e => ?_) hd hk ho hJ
  obtain ⟨w', e1, e2, e3⟩ := ZoD (P := c.P) (t := t) (k1 := k1) (k2 := k2) ht ty hby st.sub e
  exact ⟨w', fun o hop => Zny hop (st.eval hl) (st.eval hk2) e1, e2, e3⟩
def evo (m : Env) : Option Operand → Option (Option (IntKind × Int))
  | none => some none
  | some x => match evm m x with
    | some (.int k n) => some (some (k, n))
    | _ => none
theorem ZgT {n : Nat} {v w : World} {a : Act} (s : St n m h v w a) {x : Option Operand} {y : Option (IntKind × Int)} (hx : evo m x = some y) : x.map a.eval = y.map (fun p => .int p.1 p.2) := by
  cases x with
  | none => simp only [evo, Option.some.injEq] at hx; subst hx; rfl
  | some z =>
    simp only [evo] at hx
    split at hx
    · rename_i k q hq
      simp only [Option.some.injEq] at hx
      subst hx
      simp [s.eval hq]
    · cases hx
theorem ZeB {P : Program} {k : IntKind} {n : Int} {y : Nat} {code : BoundsCode} (h0 : 0 ≤ n) (h1 : n ≤ y) (w : World) : (Instr.sliceBound (.int k n) y code).run P w = .ok n.toNat w := by
  unfold Instr.sliceBound
  simp [asIntOf, h0, h1]
theorem Zwv {P : Program} {t E sz : Nat} (ht : P.underlying t = some (.slice E)) (hE : (P.info? E).map (·.size) = some sz) {s r : Sl} {lo hi mx : Option (IntKind × Int)} {v v' : World} (hmx : mx.isSome = true → hi.isSome = true) (hq : cut sz s (lo.map (·.2)) (hi.map (·.2)) (mx.map (·.2)) v = some (r, v')) :
    v' = v ∧ ∀ w, (Instr.sliceAt t s.v (lo.map fun p => .int p.1 p.2) (hi.map fun p => .int p.1 p.2) (mx.map fun p => .int p.1 p.2)).run P w = .ok r.v w := by
  obtain ⟨inf, hi', rfl⟩ := Option.map_eq_some_iff.1 hE
  unfold cut at hq
  simp only at hq
  split at hq
  · rename_i hb
    simp only [Option.some.injEq, Prod.mk.injEq] at hq
    obtain ⟨rfl, rfl⟩ := hq
    refine ⟨rfl, fun w => ?_⟩
    obtain ⟨b1, b2, b3, b4, b5, b6⟩ := hb
    unfold Instr.sliceAt
    simp only [Sem.run_bind, ZaE ht, Result.andThen_ok]
    unfold Instr.slice
    simp only [Sem.run_bind, ZaE ht, Result.andThen_ok, Sl.v]
    have hbd : (Instr.sliceBounds true s.len s.cap (lo.map fun p => .int p.1 p.2) (hi.map fun p => .int p.1 p.2) (mx.map fun p => .int p.1 p.2)).run P w = .ok (((lo.map (·.2)).getD (0 : Int)).toNat, ((hi.map (·.2)).getD (s.len : Int)).toNat, ((mx.map (·.2)).getD (s.cap : Int)).toNat) w := by
      unfold Instr.sliceBounds
      cases mx with
      | none =>
        cases hi with
        | none =>
          cases lo with
          | none => simp
          | some l =>
            simp only [Option.map_none, Option.map_some, Option.getD_none, Option.getD_some] at b1 b2 b3 b4 b5 b6 ⊢
            simp only [Sem.run_bind, Sem.run_pure, Result.andThen_ok]
            rw [ZeB b5 (by omega)]
            simp
        | some hh =>
          simp only [Option.map_none, Option.map_some, Option.getD_none, Option.getD_some] at b1 b2 b3 b4 b5 b6 ⊢
          simp only [Sem.run_bind, Sem.run_pure, Result.andThen_ok]
          rw [ZeB b3 (by omega)]
          cases lo with
          | none => simp
          | some l =>
            simp only [Option.map_none, Option.map_some, Option.getD_none, Option.getD_some, Result.andThen_ok, Sem.run_bind] at b5 b6 ⊢
            rw [ZeB b5 (by omega)]
            simp
      | some mm =>
        obtain ⟨hh, rfl⟩ := Option.isSome_iff_exists.1 (hmx rfl)
        simp only [Option.map_none, Option.map_some, Option.getD_none, Option.getD_some] at b1 b2 b3 b4 b5 b6 ⊢
        simp only [Sem.run_bind, Sem.run_pure, Result.andThen_ok]
        rw [ZeB b1 (by omega)]
        simp only [Result.andThen_ok, Sem.run_bind]
        rw [ZeB b3 (by omega)]
        cases lo with
        | none => simp
        | some l =>
          simp only [Option.map_none, Option.map_some, Option.getD_none, Option.getD_some, Result.andThen_ok, Sem.run_bind] at b5 b6 ⊢
          rw [ZeB b5 (by omega)]
          simp
    rw [hbd]
    simp only [Result.andThen_ok, sizeOf, Sem.run_bind, ZdQ hi', Sem.run_pure]
  · cases hq
theorem ZkQ {P : Program} {o : Oper} {t : TypeId} {y : Operand} {lo hi mx : Option Operand} {ρ : Operand → Value} {z : Value} {w w' : World} (ho : o.op = .slice t y lo hi mx) (hr : (Instr.sliceAt t (ρ y) (lo.map ρ) (hi.map ρ) (mx.map ρ)).run P w = .ok z w') : (execOp ρ o).run P w = .ok (.value z) w' := by
  rw [Zef (P := P) ho]
  simp [execOp, hr]
theorem OJ.cut {i d t E sz : Nat} {y : Operand} {lo hi mx : Option Operand} {lo' hi' mx' : Option (IntKind × Int)} {s : Sl} {f : Sl → M β} (hmx : (mx'.isSome = true → hi'.isSome = true)) (hJ : ∀ r : Sl, OJ c pend is ((d, r.v) :: m) h (f r) R) (hc : core c.ops m i = some (some d, .slice t y lo hi mx) := by kernel_rfl) (ht : c.P.underlying t = some (.slice E) := by kernel_rfl) (hE : (c.P.info? E).map (·.size) = some sz := by kernel_rfl) (hy : evm m y = some s.v := by kernel_rfl) (hl : evo m lo = some lo' := by kernel_rfl) (hh : evo m hi = some hi' := by kernel_rfl) (hm : evo m mx = some mx' := by kernel_rfl) (hk : kdP c.kd i = true := by kernel_rfl) (hn : noW c.kd [i] pend = true := by kernel_rfl) (hd : Nat.blt d c.n = true := by kernel_rfl) : OJ c pend (i :: is) m h (cut sz s (lo'.map (·.2)) (hi'.map (·.2)) (mx'.map (·.2)) >>= f) R := by
  refine OJ.q hc hk hn hd fun v r v' e w a st => ?_
  obtain ⟨q, v1, h1, h2⟩ := bind_some.1 e
  obtain ⟨rfl, hrun⟩ := Zwv (P := c.P) ht hE hmx h1
  refine ⟨_, _, fun oo ho w' => ZkQ ho ?_, h2, hJ q⟩
  rw [st.eval hy, ZgT st hl, ZgT st hh, ZgT st hm]
  exact hrun w'
theorem Zwy {P : Program} {t u E ty : Nat} {α : Type} {cd : Cod α} {z0 : α} (ht : P.underlying t = some (.slice E)) (tyE : Ty P E cd z0) {d s : Sl} {v w v' : World} {r : Int} (hs : Sub v w) (hq : cpyS cd d s v = some (r, v')) :
    ∃ w', (Builtin.copy_ #[t, u] ty #[d.v, s.v]).run P w = .ok (.int .i64 r) w' ∧ Sub v' w' ∧ ∀ b, Husk v b → w'.heap[b]? = w.heap[b]? ∧ v'.heap[b]? = v.heap[b]? := by
  obtain ⟨inf, hi, hsz, hz⟩ := tyE.parts
  obtain ⟨l, hl, h2⟩ := Option.bind_eq_some_iff.1 hq
  have hf := Ze6 (P := P) (k := s.len) (cap := s.cap) (size := cd.n) (n := Nat.min s.len d.len) hs hl
  unfold cpyC at h2
  split at h2
  · cases h2
  · rename_i hpl
    have hflat := ZrT (l := l) (by simpa using hpl)
    unfold Builtin.copy_
    simp only [List.getElem?_toArray, List.getElem?_cons_zero, List.getElem?_cons_succ, Sem.run_bind, ZaE ht, Result.andThen_ok, Sl.v, Builtin.lenOf, Sem.run_pure, sizeOf, ZdQ hi, hsz]
    rw [hf]
    simp only [Result.andThen_ok]
    cases ha : d.a with
    | none =>
      rw [ha] at h2
      simp only [Option.some.injEq, Prod.mk.injEq] at h2
      obtain ⟨rfl, rfl⟩ := h2
      exact ⟨w, by simp [goInt], hs, fun _ _ => ⟨rfl, rfl⟩⟩
    | some a =>
      rw [ha] at h2
      obtain ⟨v1, hv1, h3⟩ := Option.map_eq_some_iff.1 h2
      simp only [Prod.mk.injEq] at h3
      obtain ⟨rfl, rfl⟩ := h3
      obtain ⟨w1, e1, e2, e3⟩ := ZfU P a l 0 v v1 w hflat hv1 hs
      exact ⟨w1, by simp [e1, goInt], e2, e3⟩
theorem Zgh {P : Program} {o : Oper} {b : Builtin} {s x : Operand} {t u : TypeId} {ρ : Operand → Value} {y : Value} {w w' : World} (ho : o.op = .call { callee := .builtin b, args := #[s, x], argTypes := #[t, u] }) (hr : ∀ ty cs, (builtin b #[t, u] ty cs #[ρ s, ρ x]).run P w = .ok (.value y) w') : (execOp ρ o).run P w = .ok (.value y) w' := by
  obtain ⟨dst, op, type, pos, after, guard⟩ := o
  simp only at ho
  subst ho
  simp only [execOp, resolve, Sem.run_bind, Sem.run_pure, Result.andThen_ok, invoke]
  simp only [List.map_toArray, List.map_cons, List.map_nil]
  exact hr _ _
theorem Zki {P : Program} {o : Oper} {b : Builtin} {s : Operand} {t : TypeId} {ρ : Operand → Value} {y : Value} {w w' : World} (ho : o.op = .call { callee := .builtin b, args := #[s], argTypes := #[t] }) (hr : ∀ ty cs, (builtin b #[t] ty cs #[ρ s]).run P w = .ok (.value y) w') : (execOp ρ o).run P w = .ok (.value y) w' := by
  obtain ⟨dst, op, type, pos, after, guard⟩ := o
  simp only at ho
  subst ho
  simp only [execOp, resolve, Sem.run_bind, Sem.run_pure, Result.andThen_ok, invoke]
  simp only [List.map_toArray, List.map_cons, List.map_nil]
  exact hr _ _
theorem OJ.cpyG {α : Type} {i t u E : Nat} {dst : Option Nat} {so xo : Operand} {cd : Cod α} {z0 : α} {d s : Sl} {owed : List Pd} {f : Int → M β} (m2 : Int → Env) (hc : core c.ops m i = some (dst, .call { callee := .builtin .copy, args := #[so, xo], argTypes := #[t, u] })) (ht : c.P.underlying t = some (.slice E)) (ty : Ty c.P E cd z0) (hs : evm m so = some d.v) (hx : evm m xo = some s.v)
    (hm2 : (∃ t, dst = some t ∧ t < c.n ∧ ∀ q, m2 q = (t, .int .i64 q) :: m) ∨ (dst = none ∧ ∀ q, m2 q = m)) (hk : kdW c.kd i = true) (ho : owes c.bef i pend = owed) (hJ : ∀ r, OW c owed pend is (m2 r) h (f r) R) : OJ c pend (i :: is) m h (cpyS cd d s >>= f) R := by
  refine OJ.wr hc hk ho fun v r v' e w a st D hD => ?_
  obtain ⟨y, v1, h1, h2⟩ := bind_some.1 e
  obtain ⟨w1, e1, e2, e3⟩ := Zwy (P := c.P) (u := u) (ty := 0) ht ty st.sub h1
  refine ⟨.int .i64 y, w1, v1, f y, m2 y, h, fun o hop => .inl (Zgh hop fun ty' cs => ?_), h2, ?_, Kp.of hD e3, hJ y⟩
  · rw [st.eval hs, st.eval hx]
    have : (Builtin.copy_ #[t, u] ty' #[d.v, s.v]) = Builtin.copy_ #[t, u] 0 #[d.v, s.v] := rfl
    simp only [builtin, Sem.run_bind, this, e1, Result.andThen_ok, Sem.run_pure]
  · rcases hm2 with ⟨d', rfl, hd, e4⟩ | ⟨rfl, e4⟩
    · rw [e4]
      exact ⟨e2, by simp [Act.put, st.size], st.defers.keep e3, Zlj hd st.size st.get, Loc.keep st e3, st.nd⟩
    · rw [e4]
      exact ⟨e2, st.size, st.defers.keep e3, st.get, Loc.keep st e3, st.nd⟩
theorem OJ.min {i d : Nat} {so xo : Operand} {t u : TypeId} {k : IntKind} {p q : Int} (hJ : OJ c pend is ((d, .int k (if q < p then q else p)) :: m) h x R) (hc : core c.ops m i = some (some d, .call { callee := .builtin .min, args := #[so, xo], argTypes := #[t, u] }) := by kernel_rfl) (hs : evm m so = some (.int k p) := by kernel_rfl) (hx : evm m xo = some (.int k q) := by kernel_rfl) (hk : kdP c.kd i = true := by kernel_rfl) (hn : noW c.kd [i] pend = true := by kernel_rfl) (hd : Nat.blt d c.n = true := by kernel_rfl) : OJ c pend (i :: is) m h x R := by
  refine OJ.q hc hk hn hd fun v r v' e w a s => ?_
  refine ⟨_, _, fun oo ho w' => Zgh ho fun ty' cs => ?_, e, hJ⟩
  rw [s.eval hs, s.eval hx]
  simp [builtin, Builtin.min_, Builtin.min2]
theorem OJ.max {i d : Nat} {so xo : Operand} {t u : TypeId} {k : IntKind} {p q : Int} (hJ : OJ c pend is ((d, .int k (if p < q then q else p)) :: m) h x R) (hc : core c.ops m i = some (some d, .call { callee := .builtin .max, args := #[so, xo], argTypes := #[t, u] }) := by kernel_rfl) (hs : evm m so = some (.int k p) := by kernel_rfl) (hx : evm m xo = some (.int k q) := by kernel_rfl) (hk : kdP c.kd i = true := by kernel_rfl) (hn : noW c.kd [i] pend = true := by kernel_rfl) (hd : Nat.blt d c.n = true := by kernel_rfl) : OJ c pend (i :: is) m h x R := by
  refine OJ.q hc hk hn hd fun v r v' e w a s => ?_
  refine ⟨_, _, fun oo ho w' => Zgh ho fun ty' cs => ?_, e, hJ⟩
  rw [s.eval hs, s.eval hx]
  simp [builtin, Builtin.max_, Builtin.max2]
def RefI (P : Program) (f : Value) {α : Type} (vals : List Value) (y : M α) (out : α → Value) : Prop :=
  ∀ v r v', y v = some (r, v') → ∃ g first cap fn, f = .func (.func g) first cap ∧ Fun P g fn ∧ ∀ w, Sub v w → ∃ w', Sub v' w' ∧ (∀ b, Husk v b → w'.heap[b]? = w.heap[b]? ∧ v'.heap[b]? = v.heap[b]?) ∧ Calls P g (first ++ vals.toArray ++ cap) w (fun e w2 => e = .returned (out r) ∧ w2 = w')
def RefV (P : Program) (f : Value) {α : Type} (vals : List Value) (y : M α) (out : α → Value) : Prop :=
  ∀ v r v', y v = some (r, v') → ∀ w, Sub v w → ∃ w', Sub v' w' ∧ (∀ b, Husk v b → w'.heap[b]? = w.heap[b]? ∧ v'.heap[b]? = v.heap[b]?) ∧
    ((∃ g first cap fn, f = .func (.func g) first cap ∧ Fun P g fn ∧ Calls P g (first ++ vals.toArray ++ cap) w (fun e w2 => e = .returned (out r) ∧ w2 = w')) ∨
     ∃ l fn tmps assign body, f = .func (.yield l) #[] #[] ∧ (Instr.yield l vals.toArray).run P w = .ok (.round l fn tmps assign body) w ∧ RoundIn Fence.wide 0 P l fn tmps assign body w (fun e w2 => e = .returned (out r) ∧ w2 = w'))
theorem RefV.of {P : Program} {g : FuncId} {fn : Func} {first cap vals : List Value} {α : Type} {y : M α} {out : α → Value} (hf : Fun P g fn) (hr : Ref P g (first ++ vals ++ cap) y out) : RefV P (.func (.func g) first.toArray cap.toArray) vals y out := by
  intro v r v' e w hw
  obtain ⟨w', h4, h5, h6⟩ := hr v r v' e w hw
  exact ⟨w', h4, h5, .inl ⟨g, _, _, fn, rfl, hf, by simpa using h6⟩⟩
theorem RefI.of {P : Program} {g : FuncId} {fn : Func} {α : Type} {first cap vals : List Value} {y : M α} {out : α → Value} (hf : Fun P g fn) (h : Ref P g (first ++ vals ++ cap) y out) : RefI P (.func (.func g) first.toArray cap.toArray) vals y out := by
  intro v r v' e
  refine ⟨g, _, _, fn, rfl, hf, fun w hw => ?_⟩
  have := h v r v' e w hw
  simpa using this
theorem RefI.v {P : Program} {f : Value} {α : Type} {vals : List Value} {y : M α} {out : α → Value} (h : RefI P f vals y out) : RefV P f vals y out := by
  intro v r v' e w hw
  obtain ⟨g, first, cap, fn, h1, h2, h3⟩ := h v r v' e
  obtain ⟨w', h4, h5, h6⟩ := h3 w hw
  exact ⟨w', h4, h5, .inl ⟨g, first, cap, fn, h1, h2, h6⟩⟩
theorem Zob {P : Program} {o : Oper} {args : List Operand} {ats : Array TypeId} {ρ : Operand → Value} {vals : List Value} {fo : Operand} {t : Fn} {first cap : Array Value} (ho : o.op = .call { callee := .value fo, args := args.toArray, argTypes := ats }) (hfo : ρ fo = .func t first cap) (hv : args.map ρ = vals) (w : World) :
    (execOp ρ o).run P w = (invoke (.fn t cap) (first ++ vals.toArray)).run P w := by
  rw [Zef (P := P) ho]
  simp only [execOp, resolve, Sem.run_bind, hfo, Deferred.ofValue, Sem.run_pure, Result.andThen_ok]
  simp [← hv]
theorem OJ.callV {α : Type} {i : Nat} {dst : Option Nat} {args : List Operand} {ats : Array TypeId} {fo : Operand} {fv : Value} {vals : List Value} {y : M α} {out : α → Value} {owed : List Pd} {f : α → M β} (m2 : α → Env) (hc : core c.ops m i = some (dst, .call { callee := .value fo, args := args.toArray, argTypes := ats }))
    (hfo : evm m fo = some fv) (hv : evms m args = some vals) (hy : RefV c.P fv vals y out) (hm2 : (∃ d, dst = some d ∧ d < c.n ∧ ∀ q, m2 q = (d, out q) :: m) ∨ (dst = none ∧ ∀ q, m2 q = m)) (hk : kdW c.kd i = true) (ho : owes c.bef i pend = owed)
    (hJ : ∀ q, OW c owed pend is (m2 q) h (f q) R) : OJ c pend (i :: is) m h (y >>= f) R := by
  refine OJ.wr hc hk ho fun v r v' e w a s D hD => ?_
  obtain ⟨q, v1, h1, h2⟩ := bind_some.1 e
  obtain ⟨w1, hs1, hkp, hh⟩ := hy v q v1 h1 w s.sub
  refine ⟨out q, w1, v1, f q, m2 q, h, fun o hop => ?_, h2, ?_, Kp.of hD hkp, hJ q⟩
  · rcases hh with ⟨g, first, cap, fn, rfl, hf, hcalls⟩ | ⟨l, fn, tmps, as, bd, rfl, hrun, hround⟩
    · refine .inr (.inr (.inl ⟨g, _, w, ?_, hcalls⟩))
      rw [Zob hop (s.eval hfo) (Zhq s hv)]
      exact ZiG hf _ w
    · refine .inr (.inr (.inr ⟨l, fn, tmps, as, bd, w, ?_, hround⟩))
      rw [Zob hop (s.eval hfo) (Zhq s hv)]
      simpa [invoke] using hrun
  · rcases hm2 with ⟨d, rfl, hd, e2⟩ | ⟨rfl, e2⟩
    · rw [e2]
      exact ⟨hs1, by simp [Act.put, s.size], s.defers.keep hkp, Zlj hd s.size s.get, Loc.keep s hkp, s.nd⟩
    · rw [e2]
      exact ⟨hs1, s.size, s.defers.keep hkp, s.get, Loc.keep s hkp, s.nd⟩
theorem OJ.callV1 {α : Type} {i d : Nat} {args : List Operand} {ats : Array TypeId} {fo : Operand} {fv : Value} {vals : List Value} {y : M α} {out : α → Value} {owed : List Pd} {f : α → M β} (hy : RefV c.P fv vals y out) (hJ : ∀ q, OW c owed pend is ((d, out q) :: m) h (f q) R) (hc : core c.ops m i = some (some d, .call { callee := .value fo, args := args.toArray, argTypes := ats }) := by kernel_rfl) (hfo : evm m fo = some fv := by kernel_rfl) (hv : evms m args = some vals := by kernel_rfl) (hd : Nat.blt d c.n = true := by kernel_rfl) (hk : kdW c.kd i = true := by kernel_rfl) (ho : owes c.bef i pend = owed := by kernel_rfl) : OJ c pend (i :: is) m h (y >>= f) R :=
  OJ.callV (fun q => (d, out q) :: m) hc hfo hv hy (.inl ⟨d, rfl, by simpa [Nat.blt_eq] using hd, fun _ => rfl⟩) hk ho hJ
theorem OJ.cpy1 {α : Type} {i n t u E : Nat} {so xo : Operand} {cd : Cod α} {z0 : α} {d s : Sl} {owed : List Pd} {f : Int → M β} (ty : Ty c.P E cd z0) (hJ : ∀ r, OW c owed pend is ((n, .int .i64 r) :: m) h (f r) R) (hc : core c.ops m i = some (some n, .call { callee := .builtin .copy, args := #[so, xo], argTypes := #[t, u] }) := by kernel_rfl) (ht : c.P.underlying t = some (.slice E) := by kernel_rfl) (hs : evm m so = some d.v := by kernel_rfl) (hx : evm m xo = some s.v := by kernel_rfl) (hd : Nat.blt n c.n = true := by kernel_rfl) (hk : kdW c.kd i = true := by kernel_rfl) (ho : owes c.bef i pend = owed := by kernel_rfl) : OJ c pend (i :: is) m h (cpyS cd d s >>= f) R :=
  OJ.cpyG (fun r => (n, .int .i64 r) :: m) hc ht ty hs hx (.inl ⟨n, rfl, by simpa [Nat.blt_eq] using hd, fun _ => rfl⟩) hk ho hJ
end
theorem At.zero {l m : List Value} {o : Nat} (h : At l o m) : At l (0 + o) m := by rw [Nat.zero_add]; exact h
theorem Upd.zero {l m l' : List Value} {o : Nat} (h : Upd l o m l') : Upd l (0 + o) m l' := by rw [Nat.zero_add]; exact h
instance (priority := low) : Zd5 := ⟨fun _ => none, 0⟩
end
section
open Go
variable [Zd5]
def bfr : List Nat → Nat → Nat → Bool
 | [], _, _ => false
 | z :: l, x, y => if z = x then true else if z = y then false else bfr l x y
theorem ZmT : ∀ {l : List Nat} {x y z : Nat}, bfr l x y = true → bfr l y z = true → bfr l x z = true
 | [], _, _, _, h, _ => by cases h
 | w :: l, x, y, z, h, h' => by
  unfold bfr at *
  by_cases e : w = x
  ·rw [if_pos e]
  ·rw [if_neg e] at h ⊢
   by_cases e2 : w = y
   ·rw [if_pos e2] at h; cases h
   ·rw [if_neg e2] at h h'
    by_cases e3 : w = z
    ·rw [if_pos e3] at h'; cases h'
    ·rw [if_neg e3] at h' ⊢
     exact ZmT h h'
theorem ZvP : ∀ {l : List Nat} {x y : Nat}, x ∈ l → x ≠ y → bfr l x y = false → bfr l y x = true
 | [], _, _, h, _, _ => by simp at h
 | w :: l, x, y, h, hne, h' => by
  unfold bfr at *
  by_cases e : w = x
  ·rw [if_pos e] at h'; cases h'
  ·rw [if_neg e] at h'
   by_cases e2 : w = y
   ·rw [if_pos e2]
   ·rw [if_neg e2] at h' ⊢
    rw [if_neg e]
    exact ZvP ((List.mem_cons.1 h).resolve_left (fun h => e h.symm)) hne h'
def allB (σ : List Nat) (E : List (Nat × Nat)) : Prop := ∀ p ∈ E, bfr σ p.1 p.2 = true
theorem allB.nil {σ : List Nat} : allB σ [] := fun _ h => by simp at h
theorem allB.cons {σ : List Nat} {E : List (Nat × Nat)} {x y : Nat} (h : bfr σ x y = true) (t : allB σ E) : allB σ ((x, y) :: E) := fun p hp => by
 rcases List.mem_cons.1 hp with rfl | hp
 ·exact h
 ·exact t p hp
section
variable (P : Program) (ops : Array Oper) (kd : Nat → Kd) (bef : List Nat) (E : List (Nat × Nat))
def Zr2 (l : List Nat) : Prop := l.Pairwise fun x y => ∀ o, ops[x]? = some o → y ∉ Zeg o
structure Good (σ : List Nat) : Prop where
 mem : ∀ x, x < ops.size ↔ x ∈ σ
 nd : σ.Nodup
 w : Zr2 ops σ
def Ziz : List Nat → Bool
 | [] => true
 | x :: l => (match ops[x]? with | some o => !(Zeg o).contains x && l.all fun y => (!(Zeg o).contains y && x != y) && (E.contains (x, y) || rel ops kd bef x y) | none => false) && Ziz l
def ZnQ (ord : List Nat) : Bool := ZqZ ops bef && Ziz ops kd bef E ord && ord.length == ops.size && ord.all (· < ops.size) && (List.range ops.size).all (ord.contains ·)
theorem ZkJ {l : List Nat} {x : Nat} (h : Ziz ops kd bef E (x :: l) = true) : ∃ o, ops[x]? = some o ∧ x ∉ Zeg o ∧ (∀ y ∈ l, (y ∉ Zeg o ∧ x ≠ y) ∧ ((x, y) ∈ E ∨ rel ops kd bef x y = true)) ∧ Ziz ops kd bef E l = true := by
 unfold Ziz at h
 simp only [Bool.and_eq_true] at h
 obtain ⟨h1, h2⟩ := h
 split at h1
 ·rename_i o ho
  simp only [Bool.and_eq_true, Bool.not_eq_true', List.all_eq_true, List.contains_eq_mem, decide_eq_false_iff_not, bne_iff_ne, Bool.or_eq_true, decide_eq_true_eq] at h1
  exact ⟨o, ho, h1.1, fun y hy => ⟨(h1.2 y hy).1, (h1.2 y hy).2⟩, h2⟩
 ·cases h1
theorem Zmq : ∀ (l : List Nat) {i : Nat} {r : List Nat}, Ziz ops kd bef E (l ++ i :: r) = true → Ziz ops kd bef E (l ++ r) = true ∧ ∀ x ∈ l, (x, i) ∈ E ∨ rel ops kd bef x i = true
 | [], i, r, h => ⟨(ZkJ ops kd bef E h).choose_spec.2.2.2, by simp⟩
 | x :: l, i, r, h => by
  obtain ⟨o, ho, hx, hl, h2⟩ := ZkJ ops kd bef E h
  obtain ⟨h3, h4⟩ := Zmq l h2
  refine ⟨?_, fun y hy => ?_⟩
  ·show Ziz ops kd bef E (x :: (l ++ r)) = true
   unfold Ziz
   simp only [ho, Bool.and_eq_true, Bool.not_eq_true', List.all_eq_true, List.contains_eq_mem, decide_eq_false_iff_not, bne_iff_ne, Bool.or_eq_true, decide_eq_true_eq]
   refine ⟨⟨hx, fun y hy => ?_⟩, h3⟩
   refine hl y ?_
   rcases List.mem_append.1 hy with h | h
   ·exact List.mem_append_left _ h
   ·exact List.mem_append_right _ (List.mem_cons_of_mem _ h)
  ·rcases List.mem_cons.1 hy with rfl | hy
   ·exact (hl i (by simp)).2
   ·exact h4 y hy
theorem ZgP : ∀ (l : List Nat), Ziz ops kd bef E l = true → Zr2 ops l ∧ l.Nodup ∧ ∀ x ∈ l, ∃ o, ops[x]? = some o ∧ x ∉ Zeg o
 | [], _ => ⟨List.Pairwise.nil, List.nodup_nil, by simp⟩
 | x :: l, h => by
  obtain ⟨o, ho, h1, h2, h3⟩ := ZkJ ops kd bef E h
  obtain ⟨w1, w2, w3⟩ := ZgP l h3
  refine ⟨List.Pairwise.cons (fun y hy o' ho' => ?_) w1, List.nodup_cons.2 ⟨fun hx => (h2 x hx).1.2 rfl, w2⟩, fun y hy => ?_⟩
  ·rw [ho] at ho'
   cases ho'
   exact (h2 y hy).1.1
  ·rcases List.mem_cons.1 hy with rfl | hy
   ·exact ⟨o, ho, h1⟩
   ·exact w3 y hy
theorem Zwf {ro : Option Nat} {a' : Act} {w' : World} (hb : ZqZ ops bef = true) : ∀ (σ rem : List Nat) (a : Act) (w : World), RR P ops kd bef [] rem a w a' w' → Ziz ops kd bef E rem = true → σ.Perm rem → rem.Nodup →
  (∀ x ∈ rem, x < ops.size) → (∀ x o, x < ops.size → x ∉ rem → ops[x]? = some o → ∀ d ∈ Zeg o, d ∉ rem) → Zr2 ops σ → (∀ p ∈ E, p.1 ∈ σ → p.2 ∈ σ → bfr σ p.1 p.2 = true) → wpOpsIn (wf ro) 0 P ops (Ends a' w') σ a w := by
 have hlt : ∀ k o, ops[k]? = some o → bef.getD k 0 = ZrQ bef k (Zeg o) ∧ ∀ d ∈ Zeg o, d < ops.size := by
  intro k o ho
  have hk : k < ops.size := (Array.getElem?_eq_some_iff.1 ho).1
  unfold ZqZ at hb
  rw [List.all_eq_true] at hb
  have := hb k (List.mem_range.2 hk)
  rw [ho] at this
  simp only [Bool.and_eq_true, beq_iff_eq, List.all_eq_true, decide_eq_true_eq] at this
  exact this
 intro σ
 induction σ with
 | nil =>
  intro rem a w h hp hperm hn hx hc hw hE
  obtain rfl : rem = [] := List.Perm.eq_nil hperm.symm
  cases h
  exact ⟨rfl, rfl, rfl⟩
 | cons i σ ih =>
  intro rem a w h hp hperm hn hx hc hw hE
  have hirem : i ∈ rem := hperm.subset (by simp)
  obtain ⟨l, r, rfl⟩ := List.append_of_mem hirem
  have hσ : σ.Perm (l ++ r) := (List.Perm.cons_inv (hperm.trans List.perm_middle))
  obtain ⟨hp2, hrel'⟩ := Zmq ops kd bef E l hp
  obtain ⟨_, _, hself⟩ := ZgP ops kd bef E _ hp
  obtain ⟨oi, hoi, hii⟩ := hself i hirem
  rw [List.nodup_append] at hn
  obtain ⟨n1, n2, n3⟩ := hn
  have hil : i ∉ l := fun hh => n3 i hh i (by simp) rfl
  have hir : i ∉ r := (List.nodup_cons.1 n2).1
  have hrel : ∀ x ∈ l, rel ops kd bef x i = true := by
   intro x hxl
   rcases hrel' x hxl with h | h
   ·exfalso
    have h1 := hE (x, i) h (hperm.symm.subset (by simp [hxl])) (by simp)
    unfold bfr at h1
    rw [if_neg (show ¬ i = x from fun e => hil (by rw [e]; exact hxl)), if_pos rfl] at h1
    cases h1
   ·exact h
  obtain ⟨hw1, hw2⟩ := List.pairwise_cons.1 hw
  have hdeps : ∀ d ∈ Zeg oi, d ∉ l ++ i :: r := by
   intro d hd hm
   rcases List.mem_cons.1 (hperm.symm.subset hm) with rfl | hm
   ·exact hii hd
   ·exact hw1 d hm oi hoi hd
  have hclosed : ∀ k o, ops[k]? = some o → (∀ d ∈ Zeg o, d ∉ l ++ i :: r) → ∀ x, pre bef k x = true → x ∉ l ++ i :: r := by
   intro k
   induction k using Nat.strongRecOn with
   | _ k ihk =>
    intro o ho hd x hpx
    unfold pre at hpx
    rw [(hlt k o ho).1] at hpx
    rcases ZkR bef _ _ hpx with h | h | ⟨d, hd1, hd2, hd3⟩
    ·simp at h
    ·exact hd x h
    ·have hds := (hlt k o ho).2 d hd1
     obtain ⟨od, hod⟩ : ∃ od, ops[d]? = some od := ⟨ops[d], by simp [hds]⟩
     exact ihk d hd2 od hod (hc d od hds (hd d hd1) hod) x hd3
  have hnp : ∀ x ∈ l, pre bef i x = false := by
   intro x hxl
   by_cases hpx : pre bef i x = true
   ·exact absurd (by simp [hxl]) (hclosed i oi hoi hdeps x hpx)
   ·simpa using hpx
  have hf := RR.front P ops kd bef l (fun x hxl => ⟨hrel x hxl, hnp x hxl⟩) h
  cases hf with
  | cons o ho x w1 pd he hpw hr =>
   rw [wpOpsIn_cons]
   refine Zok.wpOp P ops (Ev.step P ops kd ho he) ?_
   refine ih (l ++ r) _ _ (hr.mono P ops kd bef (by simp)) hp2 hσ ?_ (fun y hy => hx y (by simp at hy ⊢; rcases hy with h | h <;> simp [h])) ?_ hw2 ?_
   ·rw [List.nodup_append]
    exact ⟨n1, (List.nodup_cons.1 n2).2, fun y hy z hz => n3 y hy z (List.mem_cons_of_mem _ hz)⟩
   ·intro y oy hy hny hoy d hd hdm
    have hdm' : d ∈ l ++ i :: r := by
     simp only [List.mem_append, List.mem_cons] at hdm ⊢
     rcases hdm with h | h
     ·exact .inl h
     ·exact .inr (.inr h)
    by_cases e : y = i
    ·subst e
     rw [hoi] at hoy
     cases hoy
     exact hdeps d hd hdm'
    ·refine hc y oy hy ?_ hoy d hd hdm'
     simp only [List.mem_append, List.mem_cons] at hny ⊢
     rintro (h | h | h)
     ·exact hny (.inl h)
     ·exact e h
     ·exact hny (.inr h)
   ·intro p hpE h1 h2
    have h3 := hE p hpE (by simp [h1]) (by simp [h2])
    unfold bfr at h3
    have e1 : i ≠ p.1 := fun e => (by
     have := hσ.subset h1
     rw [← e] at this
     rcases List.mem_append.1 this with h | h
     ·exact hil h
     ·exact hir h)
    have e2 : i ≠ p.2 := fun e => (by
     have := hσ.subset h2
     rw [← e] at this
     rcases List.mem_append.1 this with h | h
     ·exact hil h
     ·exact hir h)
    rw [if_neg e1, if_neg e2] at h3
    exact h3
theorem Zu2 : ∀ (fuel t : Nat) (listed : Array Bool) (rem : List Nat), rem.length = fuel → rem.Nodup → listed.size = ops.size → (∀ x, x < ops.size → (listed.getD x true = false ↔ x ∈ rem)) → (∀ x ∈ rem, x < ops.size) → Zr2 ops rem → (∀ x ∈ rem, ∃ o, ops[x]? = some o ∧ x ∉ Zeg o ∧ ∀ d ∈ Zeg o, d < ops.size) →
  (Region.linearise.go .any ops fuel t listed []).Perm rem ∧ Zr2 ops (Region.linearise.go .any ops fuel t listed []) := by
 intro fuel
 induction fuel with
 | zero =>
  intro t listed rem hl hn hs hm hx hw hd
  obtain rfl : rem = [] := List.eq_nil_of_length_eq_zero hl
  simp only [Region.linearise.go, List.reverse_nil]
  exact ⟨List.Perm.nil, List.Pairwise.nil⟩
 | succ fuel ih =>
  intro t listed rem hl hn hs hm hx hw hd
  have hget : ∀ d, d < ops.size → (listed.getD d false = true ↔ d ∉ rem) := by
   intro d hd
   have := hm d hd
   have e1 : listed.getD d false = listed[d]'(by omega) := by simp [Array.getD, show d < listed.size by omega]
   have e2 : listed.getD d true = listed[d]'(by omega) := by simp [Array.getD, show d < listed.size by omega]
   rw [e2] at this
   rw [e1]
   rw [← this]
   cases listed[d]'(by omega) <;> simp
  have hne : Region.ready .any ops listed ≠ [] := by
   intro hr
   match rem, hl with
   | i :: r, _ =>
    obtain ⟨o, ho, h1, h2⟩ := hd i (by simp)
    have : i ∈ Region.ready .any ops listed := by
     refine (Ziu ops).2 ⟨hx i (by simp), (hm i (hx i (by simp))).2 (by simp), o, ho, fun d hdd => ?_⟩
     refine (hget d (h2 d hdd)).2 fun hd' => ?_
     rcases List.mem_cons.1 hd' with rfl | hd'
     ·exact h1 hdd
     ·exact (List.pairwise_cons.1 hw).1 d hd' o ho hdd
    rw [hr] at this
    cases this
  simp only [Region.linearise.go]
  change List.Perm (match (Region.ready .any ops listed)[t % (Region.ready .any ops listed).length]? with
   | some i => Region.linearise.go .any ops fuel (t / (Region.ready .any ops listed).length) (listed.setIfInBounds i true) [i]
   | none => [].reverse) rem ∧ Zr2 ops (match (Region.ready .any ops listed)[t % (Region.ready .any ops listed).length]? with
   | some i => Region.linearise.go .any ops fuel (t / (Region.ready .any ops listed).length) (listed.setIfInBounds i true) [i]
   | none => [].reverse)
  have hpos : 0 < (Region.ready .any ops listed).length := List.length_pos_iff.2 hne
  have hi := List.getElem?_eq_getElem (Nat.mod_lt t hpos)
  generalize (Region.ready .any ops listed)[t % (Region.ready .any ops listed).length]'(Nat.mod_lt t hpos) = i at hi
  rw [hi]
  simp only []
  rw [linearise_go_acc, List.reverse_singleton, List.singleton_append]
  obtain ⟨hi1, hi2, oi, hoi, hdeps⟩ := (Ziu ops).1 (List.mem_of_getElem? hi)
  have hirem : i ∈ rem := (hm i hi1).1 hi2
  have hsub : (rem.erase i).Sublist rem := List.erase_sublist
  have hm' : ∀ x, x < ops.size → ((listed.setIfInBounds i true).getD x true = false ↔ x ∈ rem.erase i) := by
   intro x hxs
   by_cases e : i = x
   ·subst e
    simp [Array.getD, hs, hi1, hn.not_mem_erase]
   ·rw [getD_set_ne true e, hm x hxs]
    exact ⟨fun h => (List.mem_erase_of_ne (fun h => e h.symm)).2 h, fun h => hsub.subset h⟩
  obtain ⟨h1, h2⟩ := ih (t / (Region.ready .any ops listed).length) (listed.setIfInBounds i true) (rem.erase i) (by rw [List.length_erase_of_mem hirem, hl]; rfl) (hn.sublist hsub) (by simp [hs]) hm' (fun x hxr => hx x (hsub.subset hxr)) (hw.sublist hsub) (fun x hxr => hd x (hsub.subset hxr))
  refine ⟨(h1.cons i).trans (List.perm_cons_erase hirem).symm, List.Pairwise.cons (fun y hy o ho hyd => ?_) h2⟩
  rw [hoi] at ho
  cases ho
  have hyr := hsub.subset (h1.subset hy)
  exact (hget y (hx y hyr)).1 (hdeps y hyd) hyr
theorem Zr5 {ord : List Nat} (ht : ZnQ ops kd bef E ord = true) (t : Nat) : Good ops (Region.schedule true ops t) := by
 unfold ZnQ at ht
 simp only [Bool.and_eq_true, beq_iff_eq, List.all_eq_true, decide_eq_true_eq, List.mem_range, List.contains_eq_mem] at ht
 obtain ⟨⟨⟨⟨h1, h2⟩, h3⟩, h4⟩, h5⟩ := ht
 obtain ⟨w1, w2, w3⟩ := ZgP ops kd bef E ord h2
 have hlt : ∀ (k : Nat) (o : Oper), ops[k]? = some o → ∀ d ∈ Zeg o, d < ops.size := by
  intro k o ho
  have hk : k < ops.size := (Array.getElem?_eq_some_iff.1 ho).1
  unfold ZqZ at h1
  rw [List.all_eq_true] at h1
  have := h1 k (List.mem_range.2 hk)
  rw [ho] at this
  simp only [Bool.and_eq_true, beq_iff_eq, List.all_eq_true, decide_eq_true_eq] at this
  exact this.2
 have hg := Zu2 ops ops.size t (Array.replicate ops.size false) ord h3 w2 (by simp) (fun x hx => by simp [Array.getD, hx, h5 x hx]) h4 w1 (fun x hx => by
  obtain ⟨o, ho, hxx⟩ := w3 x hx
  exact ⟨o, ho, hxx, hlt x o ho⟩)
 have e : Region.schedule true ops t = Region.linearise.go .any ops ops.size t (Array.replicate ops.size false) [] := by
  simp only [Region.schedule, Bool.true_or, if_true, Region.linearise]
 rw [e]
 exact ⟨fun x => ⟨fun hx => hg.1.symm.subset (h5 x hx), fun hx => h4 x (hg.1.subset hx)⟩, hg.1.symm.nodup w2, hg.2⟩
theorem Good.list {ro : Option Nat} {ord σ : List Nat} {a a' : Act} {w w' : World} (hg : Good ops σ) (ht : ZnQ ops kd bef E ord = true) (hE : allB σ E) (h : RR P ops kd bef [] ord a w a' w') : wpOpsIn (wf ro) 0 P ops (Ends a' w') σ a w := by
 unfold ZnQ at ht
 simp only [Bool.and_eq_true, beq_iff_eq, List.all_eq_true, decide_eq_true_eq, List.mem_range, List.contains_eq_mem] at ht
 obtain ⟨⟨⟨⟨h1, h2⟩, h3⟩, h4⟩, h5⟩ := ht
 obtain ⟨w1, w2, w3⟩ := ZgP ops kd bef E ord h2
 refine Zwf P ops kd bef E h1 σ ord a w h h2 ?_ w2 h4 (fun x o hx hn => absurd (h5 x hx) hn) hg.w (fun p hp _ _ => hE p hp)
 exact (List.perm_ext_iff_of_nodup hg.nd w2).2 (fun x => ⟨fun hx => h5 x ((hg.mem x).2 hx), fun hx => (hg.mem x).1 (h4 x hx)⟩)
end
def draws (f : FuncId) (id : Nat) (ops : Array Oper) : M (List Nat) := fun v => some (Region.schedule true ops (v.tape v.drawn (.order f id)), v.drew)
section
variable {β : Type} {c : Fx} {k : List Item} {m : Env} {h : Loc} {x : M β} {F : β → Reach}
theorem SJ.draws {cd : Code} {id : Nat} {kd bef ord : List Nat} {E : List (Nat × Nat)} {f : List Nat → M β} (hm : c.P.follows .mixedOrders = true) (hJ : ∀ σ, Good (Zfn cd) σ → SJ c (.inRegion (Zfn cd) σ :: k) m h (f σ) F) (hk : Zdy cd = .region id true := by kernel_rfl) (ht : ZnQ (Zfn cd) (kdOf kd) bef E ord = true := by kernel_rfl) : SJ c (.code cd :: k) m h (Lx.draws c.f id (Zfn cd) >>= f) F := by
 intro v r v' e w a s D hD hM
 have s' : St c.fn.ntmps m h v.drew w.drew a := ⟨s.sub.drew, s.size, s.defers, s.get, s.loc, s.nd⟩
 have hD' : DOk D v.drew h := hD
 obtain ⟨w', h3, h4⟩ := hJ _ (Zr5 (Zfn cd) (kdOf kd) bef E ht (v.tape v.drawn (.order c.f id))) v.drew r v' e w.drew a s' D hD' hM
 refine ⟨w', h3.head (fun b cs hb _ hro => ?_), h4⟩
 rw [ZjI hk]
 have := stepR_region_draw (P := c.P) (b := b) (a := a) (k := k) (cs := cs) (w := w) (ops := Zfn cd) (id := id)
 rw [hm, hb, show ({ w with drawn := w.drawn + 1 } : World) = w.drew from rfl, show w.tape w.drawn = v.tape v.drawn by rw [s.sub.tape, s.sub.drawn]] at this
 exact .one this
theorem SJ.bfr {ops : Array Oper} {σ : List Nat} {y : M β} {p q : Nat} (hg : Good ops σ) (h2 : p ≠ q) (hA : Lx.bfr σ p q = true → SJ c (.inRegion ops σ :: k) m h x F) (hB : Lx.bfr σ q p = true → SJ c (.inRegion ops σ :: k) m h y F) (h1 : Nat.blt p ops.size = true := by kernel_rfl) : SJ c (.inRegion ops σ :: k) m h (if Lx.bfr σ p q = true then x else y) F := by
 by_cases hb : Lx.bfr σ p q = true
 ·rw [if_pos hb]
  exact hA hb
 ·rw [if_neg hb]
  exact hB (ZvP ((hg.mem p).1 (by simpa [Nat.blt_eq] using h1)) h2 (by simpa using hb))
theorem SJ.leaf {ops : Array Oper} {σ : List Nat} {kd bef ord : List Nat} {E : List (Nat × Nat)} (hg : Good ops σ) (hE : allB σ E) (hJ : OJ ⟨c.P, c.fn.ntmps, ops, kd, bef⟩ [] ord m h x (fun _ m' h' x' => SJ c k m' h' x' F)) (ht : ZnQ ops (kdOf kd) bef E ord = true := by kernel_rfl) : SJ c (.inRegion ops σ :: k) m h x F := by
 intro v r v' e w a s D hD hM
 obtain ⟨p1, m1, h1, x1, v1, w1, a1, hR, e1, hrs, s1, hkp⟩ := hJ v r v' e w a s D hD
 obtain ⟨w', h3, h4⟩ := hR v1 r v' e1 w1 a1 s1 D (hkp.dok hD) (hM.same (RS.rr _ _ _ _ hrs).defers)
 refine ⟨w', h3.head (fun b cs _ _ hro => ?_), fun b hb => ⟨(h4 b hb).1.trans (hkp b hb).1, (h4 b hb).2.trans (hkp b hb).2.1⟩⟩
 obtain ⟨e, a', w'', ⟨rfl, rfl, rfl⟩, harr⟩ := wp_opsIn (F := wf c.ro) (n := 0) σ a w (hg.list c.P ops (kdOf kd) bef E ht hE (RS.rr _ _ _ _ hrs)) b k cs hro trivial (fun d h => by cases h)
 exact StepsIn.steps harr
end
end
section
open Go
variable [Zd5]
def bytesOf : List Value → ByteArray → Option ByteArray
 | [], b => some b
 | .int .u8 n :: l, b => bytesOf l (b.push (UInt8.ofNat n.toNat))
 | _, _ => none
def toStr (s : Sl) : M ByteArray := fun v => match s.a with
 | none => some (.empty, v)
 | some a => (rdF v a 0 s.len).bind fun l => (bytesOf l .empty).map fun b => (b, v)
theorem ZmD (P : Program) (w : World) (f : Value → ByteArray → Sem (ForInStep ByteArray)) (hf : ∀ n b, f (.int .u8 n) b = pure (.yield (b.push (UInt8.ofNat n.toNat)))) : ∀ (l : List Value) (acc b : ByteArray), bytesOf l acc = some b → (forIn l acc f).run P w = .ok b w
 | [], acc, b, h => by
  simp only [bytesOf, Option.some.injEq] at h
  subst h
  simp
 | y :: l, acc, b, h => by
  have ih := ZmD P w f hf l
  cases y <;> try (cases h; done)
  rename_i k n
  cases k <;> try (cases h; done)
  simp only [bytesOf] at h
  rw [List.forIn_cons, hf]
  simp only [pure_bind]
  exact ih _ b h
theorem Zs1 {P : Program} {s : Sl} {v w v' : World} {b : ByteArray} (hs : Sub v w) (hq : toStr s v = some (b, v')) : v' = v ∧ (Conv.bytesToString s.v).run P w = .ok (.string b) w := by
 unfold toStr at hq
 cases ha : s.a with
 | none =>
  rw [ha] at hq
  simp only [Option.some.injEq, Prod.mk.injEq] at hq
  obtain ⟨rfl, rfl⟩ := hq
  refine ⟨rfl, ?_⟩
  unfold Conv.bytesToString Sl.v
  rw [ha]
  simp
 | some a =>
  rw [ha] at hq
  obtain ⟨l, hl, h2⟩ := Option.bind_eq_some_iff.1 hq
  obtain ⟨b', hb, h3⟩ := Option.map_eq_some_iff.1 h2
  simp only [Prod.mk.injEq] at h3
  obtain ⟨rfl, rfl⟩ := h3
  refine ⟨rfl, ?_⟩
  have h0 := Ze6 (P := P) (k := s.len) (cap := s.cap) (size := 1) (n := s.len) (p := some a) hs (by rw [Nat.mul_one]; exact hl)
  have h1 : (loadCells a s.len).run P w = .ok l.toArray w := by
   have := Zfx P w a s.len 0 #[] l (by
    have key : ∀ (n i : Nat) (l : List Value), rdF v a i n = some l → rdF w a i n = some l := by
     intro n
     induction n with
     | zero => intro i l h; exact h
     | succ n ih =>
      intro i l h
      obtain ⟨x, hx, h2⟩ := Option.bind_eq_some_iff.1 h
      obtain ⟨l', hl', rfl⟩ := Option.map_eq_some_iff.1 h2
      show (w.cell? (a.add i)).bind _ = _
      rw [hs.cell hx]
      simp only [Option.bind_some]
      rw [ih _ _ hl']
      rfl
    exact key _ _ _ hl)
   simpa [loadCells] using this
  unfold Conv.bytesToString Sl.v
  rw [ha]
  simp only [Sem.run_bind, h1, Result.andThen_ok]
  rw [List.forIn_toArray]
  rw [ZmD P w _ (fun n b => rfl) l _ _ hb]
  rfl
theorem ZiE {P : Program} {o : Oper} {t u : TypeId} {x : Operand} {ρ : Operand → Value} {a y : Value} {w w' : World} (ho : o.op = .convert t u x) (ha : ρ x = a) (hr : (convert t u a).run P w = .ok y w') : (execOp ρ o).run P w = .ok (.value y) w' := by
 obtain ⟨dst, op, type, pos, after, guard⟩ := o
 simp only at ho
 subst ho
 subst ha
 simp [execOp, hr]
theorem ZmC (w : World) (a : Addr) (b : Nat) : (w.freeze a 1).heap[b]? = if a.block = b then (w.heap[b]?).map (fun | .cells c e (lo, hi) => .cells c e (if (lo == hi) = true then (a.off, a.off + 1) else (min lo a.off, max hi (a.off + 1))) | o => o) else w.heap[b]? := by
 unfold World.freeze
 rw [if_neg (by decide)]
 simp only [Array.getElem?_modify]
 split <;> rfl
theorem ZmA (w : World) (a : Addr) : (w.freeze a 1).heap.size = w.heap.size := by
 unfold World.freeze
 rw [if_neg (by decide)]
 simp
theorem ZmB (w : World) (a : Addr) : (w.freeze a 1).os = w.os ∧ (w.freeze a 1).tape = w.tape ∧ (w.freeze a 1).drawn = w.drawn ∧ (w.freeze a 1).output = w.output := by
 unfold World.freeze
 rw [if_neg (by decide)]
 exact ⟨rfl, rfl, rfl, rfl⟩
theorem Sub.freeze {v w : World} (h : Sub v w) (a : Addr) (hb : ¬ Hid v a.block) : Sub (v.freeze a 1) (w.freeze a 1) := by
 obtain ⟨v1, v2, v3, v4⟩ := ZmB v a
 obtain ⟨w1, w2, w3, w4⟩ := ZmB w a
 exact h.turn hb _ ⟨v1, v2, v3, v4, ZmA v a⟩ ⟨w1, w2, w3, w4, ZmA w a⟩ (ZmC v a) (ZmC w a)
theorem Zrf {P : Program} {w : World} {b : Nat} {cs : Array Value} {T : TypeId} {fr : Nat × Nat} (h : w.heap[b]? = some (.cells cs T fr)) : (shape b).run P w = .ok (some (T, cs.size)) w := by
 simp [shape, Sem.run, World.shape?, h]
section
variable {β : Type} {c : Cx} {pend : List Pd} {is : List Nat} {m : Env} {h : Loc} {R : List Pd → Env → Loc → M β → Prop}
theorem OJ.toStr {i d t u E : Nat} {x : Operand} {s : Sl} {owed : List Pd} {f : ByteArray → M β} (hJ : ∀ r : ByteArray, OW c owed pend is ((d, .string r) :: m) h (f r) R) (hc : core c.ops m i = some (some d, .convert t u x) := by kernel_rfl) (ht : c.P.underlying t = some (.slice E) := by kernel_rfl) (hE : c.P.underlying E = some (.int .u8) := by kernel_rfl) (hu : c.P.underlying u = some .string := by kernel_rfl) (hx : evm m x = some s.v := by kernel_rfl) (hd : Nat.blt d c.n = true := by kernel_rfl) (hk : kdW c.kd i = true := by kernel_rfl) (ho : owes c.bef i pend = owed := by kernel_rfl) : OJ c pend (i :: is) m h (Lx.toStr s >>= f) R := by
 refine OJ.sem (out := fun b => .string b) hc (fun v w a st r v' e => ?_) hd hk ho hJ
 obtain ⟨rfl, hrun⟩ := Zs1 (P := c.P) st.sub e
 refine ⟨w, fun o hop => ZiE hop (st.eval hx) ?_, st.sub, fun _ _ => ⟨rfl, rfl⟩⟩
 unfold convert Sl.v
 simp only [Sem.run_bind, ZaE ht, ZaE hu, Result.andThen_ok, ZaE hE]
 exact hrun
end
end
section
open Go
variable [Zd5]
theorem Cod.val_inj {α : Type} (c : Cod α) {x y : α} (h : c.val x = c.val y) : x = y := by
 refine c.inj ?_
 have h2 := congrArg Value.cells h
 rw [c.cells, c.cells] at h2
 simpa using h2
variable {κ ν : Type}
def ents (ck : Cod κ) (cv : Cod ν) (l : List (κ × ν × Nat)) : Array MapEntry := (l.map fun e => (⟨ck.val e.1, cv.val e.2.1, e.2.2⟩ : MapEntry)).toArray
theorem Zp3 {ck : Cod κ} {cv : Cod ν} : ∀ {l m : List (κ × ν × Nat)}, (l.map fun e => (⟨ck.val e.1, cv.val e.2.1, e.2.2⟩ : MapEntry)) = (m.map fun e => (⟨ck.val e.1, cv.val e.2.1, e.2.2⟩ : MapEntry)) → l = m
 | [], [], _ => rfl
 | [], b :: m, h => by simp at h
 | a :: l, [], h => by simp at h
 | a :: l, b :: m, h => by
  simp only [List.map_cons, List.cons.injEq, MapEntry.mk.injEq] at h
  obtain ⟨⟨h1, h2, h3⟩, h4⟩ := h
  obtain ⟨a1, a2, a3⟩ := a
  obtain ⟨b1, b2, b3⟩ := b
  simp only at h1 h2 h3
  rw [ck.val_inj h1, cv.val_inj h2, h3, Zp3 h4]
theorem Zvl {ck : Cod κ} {cv : Cod ν} {l m : List (κ × ν × Nat)} (h : ents ck cv l = ents ck cv m) : l = m := Zp3 (List.toArray_inj h)
noncomputable def mtyp (ck : Cod κ) (cv : Cod ν) (es : Array MapEntry) : Option (List (κ × ν × Nat)) := open Classical in if h : ∃ l, es = ents ck cv l then some h.choose else none
theorem ZtB (ck : Cod κ) (cv : Cod ν) (l : List (κ × ν × Nat)) : mtyp ck cv (ents ck cv l) = some l := by
 unfold mtyp
 rw [dif_pos ⟨l, rfl⟩]
 have h : ∃ m, ents ck cv l = ents ck cv m := ⟨l, rfl⟩
 exact congrArg some (Zvl h.choose_spec).symm
theorem ZtA {ck : Cod κ} {cv : Cod ν} {es : Array MapEntry} {l : List (κ × ν × Nat)} (h : mtyp ck cv es = some l) : es = ents ck cv l := by
 unfold mtyp at h
 split at h
 ·rename_i hh
  rw [← Option.some.inj h]
  exact hh.choose_spec
 ·cases h
def wput (w : World) (r : Nat) (o : Obj) : World := { w with heap := w.heap.setIfInBounds r o }
noncomputable def ZpM (ck : Cod κ) (cv : Cod ν) (r : Nat) : M (List (κ × ν × Nat) × Nat) := fun w => match w.heap[r]? with
 | some (.map es cl) => (mtyp ck cv es).map fun l => ((l, cl), w)
 | _ => none
noncomputable def Znv (l : List (κ × ν × Nat)) (k : κ) : Option (κ × ν × Nat) := l.find? fun e => eqv e.1 k
noncomputable def Zfw (l : List (κ × ν × Nat)) (k : κ) : Option Nat := l.findIdx? fun e => eqv e.1 k
noncomputable def mkMap : M Nat := fun w => some (w.heap.size, w.alloc (.map #[] 0))
noncomputable def mget (ck : Cod κ) (cv : Cod ν) (z : ν) (o : Option Nat) (k : κ) : M (ν × Bool) := match o with
 | none => pure (z, false)
 | some r => ZpM ck cv r >>= fun p => pure (match Znv p.1 k with | some e => (e.2.1, true) | none => (z, false))
noncomputable def mput (l : List (κ × ν × Nat)) (cl : Nat) (k : κ) (x : ν) : List (κ × ν × Nat) × Nat := match Zfw l k with
 | some i => (l.modify i fun e => (k, x, e.2.2), cl)
 | none => (l ++ [(k, x, cl)], cl + 1)
noncomputable def mset (ck : Cod κ) (cv : Cod ν) (o : Option Nat) (k : κ) (x : ν) : M Unit := fun w => match o with
 | none => none
 | some r => (ZpM ck cv r w).map fun p => ((), wput w r (.map (ents ck cv (mput p.1.1 p.1.2 k x).1) (mput p.1.1 p.1.2 k x).2))
def ZxH (n : Nat) : M Nat := fun w => if n ≤ 1 then some (0, w) else some (w.tape w.drawn (.mapNext n) % n, w.drew)
def CkT (P : Program) (T : TypeId) (D : Nat) {α : Type} (cd : Cod α) : Prop := ∀ e, D ≤ e → ∀ b x w, (Instr.checkKey b e T (cd.val x)).run P w = .ok () w
theorem CkT.int {P : Program} {T : TypeId} {k : IntKind} (hT : P.underlying T = some (.int k)) : CkT P T 1 (cI k) := by
 intro e he b x w
 obtain ⟨d, rfl⟩ : ∃ d, e = d + 1 := ⟨e - 1, by omega⟩
 show (Instr.checkKey b (d + 1) T (.int k x)).run P w = _
 simp [Instr.checkKey, Sem.run_bind, ZaE hT]
theorem CkT.bool {P : Program} {T : TypeId} (hT : P.underlying T = some .bool) : CkT P T 1 cB := by
 intro e he b x w
 obtain ⟨d, rfl⟩ : ∃ d, e = d + 1 := ⟨e - 1, by omega⟩
 show (Instr.checkKey b (d + 1) T (.bool x)).run P w = _
 simp [Instr.checkKey, Sem.run_bind, ZaE hT]
theorem CkT.string {P : Program} {T : TypeId} (hT : P.underlying T = some .string) : CkT P T 1 cS := by
 intro e he b x w
 obtain ⟨d, rfl⟩ : ∃ d, e = d + 1 := ⟨e - 1, by omega⟩
 show (Instr.checkKey b (d + 1) T (.string x)).run P w = _
 simp [Instr.checkKey, Sem.run_bind, ZaE hT]
def CkFs (P : Program) (b : Bool) (d : Nat) (xs : Array Value) (fs : List Field) (w : World) : Prop := ∀ f ∈ fs, f.name ≠ "_" ∧ ∃ v, (part f.type xs f.offset).run P w = .ok v w ∧ (Instr.checkKey b d f.type v).run P w = .ok () w
theorem CkFs.nil {P : Program} {b : Bool} {d : Nat} {xs : Array Value} {w : World} : CkFs P b d xs [] w := fun f hf => by cases hf
theorem CkFs.cons {P : Program} {b : Bool} {d D : Nat} {α : Type} {cd : Cod α} {z0 q : α} {xs : List Value} {f : Field} {fs : List Field} {w : World} (hn : (f.name == "_") = false) (ty : Ty P f.type cd z0) (ha : At xs f.offset (cd.enc q)) (he : CkT P f.type D cd) (hD : D ≤ d) (hr : CkFs P b d xs.toArray fs w) : CkFs P b d xs.toArray (f :: fs) w := by
 intro g hg
 rcases List.mem_cons.1 hg with rfl | hg
 ·exact ⟨by simpa using hn, _, ZhI ty ha w, he d hD b q w⟩
 ·exact hr g hg
theorem CkT.struct {P : Program} {T : TypeId} {D : Nat} {α : Type} {cd : Cod α} {fs : Array Field} (hu : P.underlying T = some (.struct fs)) (hagg : cd.agg = true) (hf : ∀ d, D ≤ d → ∀ b x w, CkFs P b d (cd.enc x).toArray fs.toList w) : CkT P T (D + 1) cd := by
 intro e he b x w
 obtain ⟨d, rfl⟩ : ∃ d, e = d + 1 := ⟨e - 1, by omega⟩
 have hval : cd.val x = .agg (cd.enc x).toArray := by unfold Cod.val; rw [hagg]; rfl
 have deep := hf d (by omega) b x w
 rw [hval, Instr.checkKey]
 simp only [Sem.run_bind, ZaE hu, Result.andThen_ok]
 rw [← Array.forIn_toList]
 unfold CkFs at deep
 generalize fs.toList = L at deep
 induction L with
 | nil => simp
 | cons f L ih =>
  obtain ⟨hn, v, p1, p2⟩ := deep f (by simp)
  simp only [List.forIn_cons, Sem.run_bind, hn, ne_eq, not_false_eq_true, if_true, Result.andThen_ok, p1, p2, Sem.run_pure]
  exact ih (fun y hy => deep y (by simp [hy]))
theorem CkT.arr {P : Program} {T E D n : Nat} {α : Type} {cd : Cod α} {z0 : α} (hu : P.underlying T = some (.array n E)) (ty : Ty P E cd z0) (he : CkT P E D cd) : CkT P T (D + 1) (cd.arr n) := by
 intro e hD b x w
 obtain ⟨d, rfl⟩ : ∃ d, e = d + 1 := ⟨e - 1, by omega⟩
 have hagg : (cd.arr n).agg = true := by cases n <;> rfl
 have hval : (cd.arr n).val x = .agg ((cd.arr n).enc x).toArray := by unfold Cod.val; rw [hagg]; rfl
 rw [hval, Instr.checkKey]
 simp only [Sem.run_bind, ZaE hu, Result.andThen_ok]
 simp only [Std.Legacy.Range.forIn_eq_forIn_range', Std.Legacy.Range.size, Nat.sub_zero, Nat.add_one_sub_one, Nat.div_one]
 have hj : ∀ j ∈ List.range' 0 n, j < n := fun j hj => by simp [List.mem_range'] at hj; omega
 generalize List.range' 0 n = is at hj
 induction is with
 | nil => simp
 | cons j is ih =>
  have ha : At ((cd.arr n).enc x) (j * cd.n) (cd.enc (x.g (j : Int) z0)) := At.arr (v := x) (i := (j : Int)) (z := z0) (by omega) (by have := hj j (by simp); omega)
  simp only [List.forIn_cons, Sem.run_bind, ZiU ty, Result.andThen_ok, ZhI ty ha, he d (by omega) b _ w, Sem.run_pure]
  exact ih (fun k hk => hj k (List.mem_cons_of_mem _ hk))
theorem Zt6 {P : Program} {T : TypeId} {D : Nat} {ck : Cod κ} {cv : Cod ν} (he : EqT P T D ck) (hD : D ≤ 10000) (k : κ) (w : World) : ∀ (l : List (κ × ν × Nat)) (i : Nat),
  (Instr.findAsking T (ck.val k) (l.map fun e => (⟨ck.val e.1, cv.val e.2.1, e.2.2⟩ : MapEntry)) i).run P w = .ok ((Zfw l k).map fun j => (i + j, (((l[j]?).map fun e => cv.val e.2.1).getD undef))) w
 | [], i => by simp [Instr.findAsking, Zfw]
 | e :: l, i => by
  obtain ⟨b, h1, h2⟩ := he 10000 hD k e.1 w
  have ih := Zt6 (cv := cv) he hD k w l (i + 1)
  have hb : b = eqv e.1 k := by
   rw [Bool.eq_iff_iff, h2, Zg3]
   exact ⟨fun h => h.symm, fun h => h.symm⟩
  have h3 : (Op.equal T (ck.val k) (ck.val e.1)).run P w = .ok b w := h1
  simp only [List.map_cons, Instr.findAsking, Sem.run_bind, h3, Result.andThen_ok]
  unfold Zfw at ih ⊢
  rw [List.findIdx?_cons]
  cases hq : eqv e.1 k with
  | true =>
   rw [hb, hq]
   simp
  | false =>
   rw [hb, hq]
   simp only [Bool.false_eq_true, if_false, ih, Option.map_map]
   congr 1
   cases l.findIdx? fun e => eqv e.1 k with
   | none => rfl
   | some j => simp [Nat.add_assoc, Nat.add_comm 1 j]
def NowK (P : Program) (T : TypeId) {κ : Type} (ck : Cod κ) : Prop := ck.agg = true ∨ ((∀ d, P.underlying T = some d → ∀ k q, Instr.sameNow d (ck.val k) (ck.val q) = some (eqv q k)) ∧ ∀ x, Instr.sameBits 10000 (ck.val x) (ck.val x) = true)
theorem NowK.string {P : Program} {T : TypeId} (hT : P.underlying T = some .string) : NowK P T cS := by
 refine .inr ⟨fun d hd k q => ?_, fun x => ?_⟩
 ·rw [hT] at hd
  cases hd
  show some (k == q) = _
  congr 1
  rw [beq_toListBytes, Bool.eq_iff_iff, beq_iff_eq, Zg3]
  exact ⟨fun h => (toList_inj h).symm, fun h => by rw [h]⟩
 ·show (x == x) = true
  rw [beq_toListBytes, beq_iff_eq]
theorem Zkh {P : Program} {T : TypeId} {d : TypeDesc} {ck : Cod κ} {cv : Cod ν} (hd : P.underlying T = some d) (hq : ∀ d, P.underlying T = some d → ∀ k q, Instr.sameNow d (ck.val k) (ck.val q) = some (eqv q k)) (k : κ) : ∀ (l : List (κ × ν × Nat)) (i : Nat),
  Instr.findNow d (ck.val k) (l.map fun e => (⟨ck.val e.1, cv.val e.2.1, e.2.2⟩ : MapEntry)) i = some ((Zfw l k).map fun j => (i + j, (((l[j]?).map fun e => cv.val e.2.1).getD undef)))
 | [], i => by simp [Instr.findNow, Zfw]
 | e :: l, i => by
  have ih := Zkh (cv := cv) hd hq k l (i + 1)
  simp only [List.map_cons, Instr.findNow, hq d hd k e.1]
  unfold Zfw at ih ⊢
  rw [List.findIdx?_cons]
  cases eqv e.1 k with
  | true => simp
  | false =>
   simp only [Bool.false_eq_true, if_false, ih, Option.map_map]
   congr 1
   cases l.findIdx? fun e => eqv e.1 k with
   | none => rfl
   | some j => simp [Nat.add_assoc, Nat.add_comm 1 j]
theorem ZjM {P : Program} {T : TypeId} {D : Nat} {ck : Cod κ} {cv : Cod ν} (hagg : NowK P T ck) (he : EqT P T D ck) (hD : D ≤ 10000) (hu : ∃ d, P.underlying T = some d) (k : κ) (l : List (κ × ν × Nat)) (w : World) :
  (Instr.findKey T (ck.val k) (l.map fun e => (⟨ck.val e.1, cv.val e.2.1, e.2.2⟩ : MapEntry))).run P w = .ok ((Zfw l k).map fun j => (j, (((l[j]?).map fun e => cv.val e.2.1).getD undef))) w := by
 obtain ⟨d, hd⟩ := hu
 rcases hagg with hagg | ⟨hq, -⟩
 rotate_left
 ·unfold Instr.findKey
  simp only [Sem.run_bind, ZaE hd, Result.andThen_ok, Zkh (cv := cv) hd hq k l 0, Nat.zero_add, Sem.run_pure]
 have h1 := Zt6 (cv := cv) he hD k w l 0
 have hval : ∀ q, ck.val q = .agg (ck.enc q).toArray := fun q => by unfold Cod.val; rw [hagg]; rfl
 unfold Instr.findKey
 simp only [Sem.run_bind, ZaE hd, Result.andThen_ok]
 cases l with
 | nil => simp [Instr.findNow, Zfw]
 | cons e l =>
  have hn : Instr.findNow d (ck.val k) ((e :: l).map fun e => (⟨ck.val e.1, cv.val e.2.1, e.2.2⟩ : MapEntry)) 0 = none := by
   simp only [List.map_cons, Instr.findNow]
   have : Instr.sameNow d (ck.val k) (ck.val e.1) = none := by
    rw [hval, hval]
    unfold Instr.sameNow
    split <;> simp_all
   rw [this]
  rw [hn]
  simp only [Nat.zero_add] at h1
  exact h1
theorem ZqJ (l : List (κ × ν × Nat)) (k : κ) : Znv l k = (Zfw l k).bind fun j => l[j]? := by
 unfold Znv Zfw
 induction l with
 | nil => rfl
 | cons e l ih =>
  rw [List.find?_cons, List.findIdx?_cons]
  cases eqv e.1 k with
  | true => simp
  | false =>
   simp only [Bool.false_eq_true, if_false]
   rw [ih]
   cases l.findIdx? fun e => eqv e.1 k with
   | none => rfl
   | some j => simp
theorem Zmt {l : List (κ × ν × Nat)} {k : κ} {j : Nat} (h : Zfw l k = some j) : ∃ e, l[j]? = some e ∧ e.1 = k := by
 unfold Zfw at h
 rw [List.findIdx?_eq_some_iff_getElem] at h
 obtain ⟨h1, h2, _⟩ := h
 exact ⟨l[j], List.getElem?_eq_getElem h1, Zg3.1 h2⟩
def SbC {α : Type} (cd : Cod α) : Prop := ∀ x, ∀ y ∈ cd.enc x, ∀ n, Instr.sameBits n y y = true
theorem SbC.int {k : IntKind} : SbC (cI k) := by
 intro x y hy n
 have : y = .int k x := by simpa [cI, Cod.cell] using hy
 subst this
 cases n <;> simp [Instr.sameBits]
theorem SbC.bool : SbC cB := by
 intro x y hy n
 have : y = .bool x := by simpa [cB, Cod.cell] using hy
 subst this
 cases n <;> simp [Instr.sameBits]
theorem SbC.string : SbC cS := by
 intro x y hy n
 have : y = .string x := by simpa [cS, Cod.cell] using hy
 subst this
 have h : (x == x) = true := by
  have := beq_toListBytes x x
  simpa using this
 cases n <;> simpa [Instr.sameBits] using h
theorem SbC.pair {α β : Type} {a : Cod α} {b : Cod β} (ha : SbC a) (hb : SbC b) : SbC (a.pair b) := by
 intro x y hy n
 have hy : y ∈ a.enc x.1 ++ b.enc x.2 := hy
 rcases List.mem_append.1 hy with h | h
 ·exact ha _ y h n
 ·exact hb _ y h n
theorem SbC.iso {α β : Type} {a : Cod α} {f : β → α} {g : α → β} {h1 : ∀ y, g (f y) = y} {h2 : ∀ x, f (g x) = x} (ha : SbC a) : SbC (a.iso f g h1 h2) := fun x y hy n => ha (f x) y hy n
theorem SbC.arr {α : Type} {a : Cod α} {n : Nat} (ha : SbC a) : SbC (a.arr n) := by
 intro x y hy k
 rw [Cod.arr_enc] at hy
 obtain ⟨z, _, hz⟩ := List.mem_flatMap.1 hy
 exact ha z y hz k
theorem SbC.val {α : Type} {cd : Cod α} (h : SbC cd) (hagg : cd.agg = true) (x : α) : Instr.sameBits 10000 (cd.val x) (cd.val x) = true := by
 have hval : cd.val x = .agg (cd.enc x).toArray := by unfold Cod.val; rw [hagg]; rfl
 rw [hval]
 show ((cd.enc x).toArray.size == (cd.enc x).toArray.size && ((cd.enc x).toArray.toList.zip (cd.enc x).toArray.toList).all fun (x, y) => Instr.sameBits 9999 x y) = true
 rw [Bool.and_eq_true, List.all_eq_true]
 refine ⟨by simp, fun p hp => ?_⟩
 have : ∀ (l : List Value) (p : Value × Value), p ∈ l.zip l → p.1 = p.2 ∧ p.1 ∈ l := by
  intro l
  induction l with
  | nil => intro p hp; simp at hp
  | cons a l ih =>
   intro p hp
   simp only [List.zip_cons_cons, List.mem_cons] at hp
   rcases hp with rfl | hp
   ·exact ⟨rfl, by simp⟩
   ·exact ⟨(ih p hp).1, List.mem_cons_of_mem _ (ih p hp).2⟩
 obtain ⟨e1, e2⟩ := this _ p hp
 obtain ⟨p1, p2⟩ := p
 simp only at e1 e2 ⊢
 subst e1
 exact h x p1 e2 9999
theorem NowK.bits {P : Program} {T : TypeId} {α : Type} {cd : Cod α} (n : NowK P T cd) (h : SbC cd) (x : α) : Instr.sameBits 10000 (cd.val x) (cd.val x) = true := by
 rcases n with hagg | ⟨-, hb⟩
 ·exact h.val hagg x
 ·exact hb x
theorem getO {P : Program} {w : World} {r : Nat} {es : Array MapEntry} {cl : Nat} (h : w.heap[r]? = some (.map es cl)) : (getObj r).run P w = .ok (.map es cl) w := by simp [getObj, Sem.run, h]
theorem setO {P : Program} {w : World} {r : Nat} {es : Array MapEntry} {cl : Nat} (o : Obj) (h : w.heap[r]? = some (.map es cl)) : (setObj r o).run P w = .ok () (wput w r o) := by simp [setObj, Sem.run, h, wput]
theorem ZuU {v : World} {r : Nat} {O : Obj} (h : v.heap[r]? = some O) (hO : ∀ T, O ≠ .cells #[] T (0, 0)) (hO2 : ∀ r, O ≠ .loop r := by intro r h; cases h) : ¬ Hid v r := by
 rintro (⟨T, hT⟩ | ⟨r, hT, _⟩)
 ·rw [hT] at h
  exact hO T (Option.some.inj h).symm
 ·rw [hT] at h
  exact hO2 r (Option.some.inj h).symm
theorem Zhm (w : World) (r : Nat) (o : Obj) (b : Nat) : (wput w r o).heap[b]? = if r = b ∧ b < w.heap.size then some o else w.heap[b]? := by
 unfold wput
 simp only [Array.getElem?_setIfInBounds]
 by_cases e : r = b
 ·subst e
  by_cases h : r < w.heap.size
  ·simp [h]
  ·simp [h]
 ·simp [e]
theorem Zpb (w : World) (r : Nat) (o : Obj) : (wput w r o).os = w.os ∧ (wput w r o).tape = w.tape ∧ (wput w r o).drawn = w.drawn ∧ (wput w r o).output = w.output ∧ (wput w r o).heap.size = w.heap.size := ⟨rfl, rfl, rfl, rfl, by simp [Lx.wput]⟩
theorem Sub.wput {v w : World} (h : Sub v w) {r : Nat} (o : Obj) (hb : ¬ Hid v r) : Sub (wput v r o) (wput w r o) := by
 refine h.turn hb (fun x => if r < v.heap.size then some o else x) (Zpb v r o) (Zpb w r o) (fun b => ?_) (fun b => ?_)
 ·rw [Zhm]
  by_cases e : r = b
  ·subst e; simp
  ·simp [e]
 ·rw [Zhm, h.size]
  by_cases e : r = b
  ·subst e; simp
  ·simp [e]
theorem ZsL {v w : World} (h : Sub v w) {r : Nat} (o : Obj) (hb : ¬ Hid v r) : ∀ b, Husk v b → (wput w r o).heap[b]? = w.heap[b]? ∧ (wput v r o).heap[b]? = v.heap[b]? := by
 intro b hh
 have hne : ¬ (r = b ∧ b < w.heap.size) := fun e => hb (e.1 ▸ .inl hh)
 have hne2 : ¬ (r = b ∧ b < v.heap.size) := fun e => hb (e.1 ▸ .inl hh)
 rw [Zhm, Zhm, if_neg hne, if_neg hne2]
 exact ⟨rfl, rfl⟩
theorem ZpL {v w : World} (h : Sub v w) {r : Nat} {es : Array MapEntry} {cl : Nat} (hv : v.heap[r]? = some (.map es cl)) : ¬ Hid v r ∧ w.heap[r]? = some (.map es cl) := by
 have hn := ZuU hv (fun T h => by cases h)
 exact ⟨hn, by rw [h.block hn]; exact hv⟩
theorem Zn4 {ck : Cod κ} {cv : Cod ν} {r : Nat} {v v' : World} {p : List (κ × ν × Nat) × Nat} (h : ZpM ck cv r v = some (p, v')) : v' = v ∧ v.heap[r]? = some (.map (ents ck cv p.1) p.2) := by
 unfold ZpM at h
 split at h
 ·rename_i es cl hes
  obtain ⟨l, hl, he⟩ := Option.map_eq_some_iff.1 h
  simp only [Prod.mk.injEq] at he
  obtain ⟨rfl, rfl⟩ := he
  rw [hes, ZtA hl]
  exact ⟨rfl, rfl⟩
 ·cases h
theorem Zsq {P : Program} {T kT vT D : Nat} {ck : Cod κ} {cv : Cod ν} {z : ν} (hT : P.underlying T = some (.map kT vT)) (hku : ∃ d, P.underlying kT = some d) (hagg : NowK P kT ck) (he : EqT P kT D ck) (hc : CkT P kT D ck) (hD : D ≤ 10000) (ty : Ty P vT cv z) {o : Option Nat} {k : κ} {v w v' : World} {x : ν × Bool} (hs : Sub v w) (hq : mget ck cv z o k v = some (x, v')) (ok : Bool) :
  v' = v ∧ (Instr.lookup T (.map o) (ck.val k) ok).run P w = .ok (if ok then .tuple #[cv.val x.1, .bool x.2] else cv.val x.1) w := by
 obtain ⟨inf, hi, hsz, hz⟩ := ty.parts
 have hz2 : ∀ w', (zeroValue vT).run P w' = .ok (cv.val z) w' := by intro w'; simp [zeroValue, typeInfo, hi, hz]
 unfold mget at hq
 cases o with
 | none =>
  obtain ⟨rfl, rfl⟩ : (z, false) = x ∧ v = v' := by cases hq; exact ⟨rfl, rfl⟩
  refine ⟨rfl, ?_⟩
  have hf := ZjM (cv := cv) hagg he hD hku k [] w
  have hf : (Instr.findKey kT (ck.val k) []).run P w = .ok none w := hf
  unfold Instr.lookup
  simp only [Sem.run_bind, ZaE hT, Result.andThen_ok, Sem.run_pure, hc 10000 hD _ k w, hf, hz2]
 | some r =>
  obtain ⟨p, v1, h1, h2⟩ := bind_some.1 hq
  obtain ⟨rfl, h3⟩ := Zn4 h1
  obtain ⟨hn, hw⟩ := ZpL hs h3
  have hf := ZjM (cv := cv) hagg he hD hku k p.1 w
  have hf : (Instr.findKey kT (ck.val k) (ents ck cv p.1).toList).run P w = .ok ((Zfw p.1 k).map fun j => (j, (((p.1[j]?).map fun e => cv.val e.2.1).getD undef))) w := by
   unfold ents
   simpa using hf
  obtain ⟨hx, rfl⟩ : (match Znv p.1 k with | some e => (e.2.1, true) | none => (z, false)) = x ∧ v1 = v' := by cases h2; exact ⟨rfl, rfl⟩
  refine ⟨rfl, ?_⟩
  unfold Instr.lookup
  simp only [Sem.run_bind, ZaE hT, Result.andThen_ok, getO hw, Sem.run_pure, hc 10000 hD _ k w, hf]
  rw [ZqJ] at hx
  cases hp : Zfw p.1 k with
  | none =>
   rw [hp] at hx
   simp only [Option.bind_none] at hx
   subst hx
   simp only [Option.map_none, Sem.run_bind, hz2, Result.andThen_ok, Sem.run_pure]
  | some j =>
   obtain ⟨e, he1, he2⟩ := Zmt hp
   rw [hp] at hx
   simp only [Option.bind_some, he1] at hx
   subst hx
   simp only [Option.map_some, he1, Option.getD_some, Sem.run_bind, Sem.run_pure, Result.andThen_ok]
theorem ZlA {ck : Cod κ} {cv : Cod ν} {l : List (κ × ν × Nat)} {k : κ} {x : ν} {i : Nat} {e0 : κ × ν × Nat} (h : l[i]? = some e0) (hk : e0.1 = k) : ((ents ck cv l).modify i fun e => { e with key := ck.val k, val := cv.val x }) = ents ck cv (l.modify i fun e => (k, x, e.2.2)) := by
 unfold ents
 apply Array.toList_inj.1
 simp only [Array.toList_modify]
 apply List.ext_getElem?
 intro j
 simp only [List.getElem?_modify, List.getElem?_map]
 by_cases e : i = j
 ·subst e
  simp [h]
 ·simp [e]
theorem Zr3 {P : Program} {T kT vT D : Nat} {ck : Cod κ} {cv : Cod ν} (hT : P.underlying T = some (.map kT vT)) (hku : ∃ d, P.underlying kT = some d) (hagg : NowK P kT ck) (he : EqT P kT D ck) (hc : CkT P kT D ck) (hD : D ≤ 10000) (hsb : SbC ck) {o : Option Nat} {k : κ} {x : ν} {v w v' : World} {u : Unit} (hs : Sub v w) (hq : mset ck cv o k x v = some (u, v')) :
  ∃ w', (Instr.mapUpdate T (.map o) (ck.val k) (cv.val x)).run P w = .ok () w' ∧ Sub v' w' ∧ ∀ b, Husk v b → w'.heap[b]? = w.heap[b]? ∧ v'.heap[b]? = v.heap[b]? := by
 unfold mset at hq
 cases o with
 | none => cases hq
 | some r =>
  obtain ⟨⟨p, v1⟩, h1, h2⟩ := Option.map_eq_some_iff.1 hq
  obtain ⟨rfl, h3⟩ := Zn4 h1
  simp only [Prod.mk.injEq] at h2
  obtain ⟨-, rfl⟩ := h2
  obtain ⟨hn, hw⟩ := ZpL hs h3
  refine ⟨_, ?_, hs.wput (.map (ents ck cv (mput p.1 p.2 k x).1) (mput p.1 p.2 k x).2) hn, ZsL hs _ hn⟩
  have hf := ZjM (cv := cv) hagg he hD hku k p.1 w
  have hf : (Instr.findKey kT (ck.val k) (ents ck cv p.1).toList).run P w = .ok ((Zfw p.1 k).map fun j => (j, (((p.1[j]?).map fun e => cv.val e.2.1).getD undef))) w := by
   unfold ents
   simpa using hf
  unfold Instr.mapUpdate
  simp only [Sem.run_bind, ZaE hT, Result.andThen_ok, getO hw, hc 10000 hD _ k w, hf]
  unfold mput
  cases hp : Zfw p.1 k with
  | none =>
   simp only [Option.map_none]
   rw [setO _ hw]
   have : (ents ck cv p.1).push ⟨ck.val k, cv.val x, p.2⟩ = ents ck cv (p.1 ++ [(k, x, p.2)]) := by
    unfold ents
    simp
   rw [this]
  | some j =>
   obtain ⟨e, he1, he2⟩ := Zmt hp
   have hk : (((ents ck cv p.1)[j]?).map (·.key)).getD (ck.val k) = ck.val k := by
    unfold ents
    simp [he1, he2]
   simp only [Option.map_some, hk, Instr.keyThatStays, hagg.bits hsb k, if_true, Sem.run_bind, Sem.run_pure, Result.andThen_ok]
   rw [setO _ hw, ZlA he1 he2]
theorem ZqL {P : Program} {T : TypeId} {v w v' : World} {b : Nat} (hs : Sub v w) (hq : mkMap v = some (b, v')) : ∃ w', (Instr.makeMap T none).run P w = .ok (.map (some b)) w' ∧ Sub v' w' ∧ ∀ b, Husk v b → w'.heap[b]? = w.heap[b]? ∧ v'.heap[b]? = v.heap[b]? := by
 unfold mkMap at hq
 simp only [Option.some.injEq, Prod.mk.injEq] at hq
 obtain ⟨rfl, rfl⟩ := hq
 refine ⟨w.alloc (.map #[] 0), ?_, hs.alloc _, fun b hb => ⟨?_, hb.alloc _⟩⟩
 ·unfold Instr.makeMap
  simp only [Sem.run_bind, Sem.run_pure, Result.andThen_ok, newObj, Sem.run]
  rw [hs.size]
  rfl
 ·have h1 := hb.lt
  rw [← hs.size] at h1
  show (w.heap.push _)[b]? = _
  rw [Array.getElem?_push, if_neg (by omega)]
section
variable {β : Type} {c : Cx} {pend : List Pd} {is : List Nat} {m : Env} {h : Loc} {R : List Pd → Env → Loc → M β → Prop}
structure KeyT (P : Program) (T kT D : Nat) {κ ν : Type} (ck : Cod κ) (cv : Cod ν) (z : ν) : Prop where
 agg : NowK P kT ck
 eq : EqT P kT D ck
 ckt : CkT P kT D ck
 sb : SbC ck
 hD : D ≤ 10000
 hT : ∃ vT, P.underlying T = some (.map kT vT) ∧ Ty P vT cv z
 hk : ∃ d, P.underlying kT = some d
theorem OJ.mkMap {i d t : Nat} {owed : List Pd} {f : Nat → M β} (hJ : ∀ b : Nat, OW c owed pend is ((d, .map (some b)) :: m) h (f b) R) (hc : core c.ops m i = some (some d, .makeMap t none) := by kernel_rfl) (hd : Nat.blt d c.n = true := by kernel_rfl) (hk : kdW c.kd i = true := by kernel_rfl) (ho : owes c.bef i pend = owed := by kernel_rfl) : OJ c pend (i :: is) m h (mkMap >>= f) R := by
 refine OJ.sem (out := fun b => .map (some b)) hc (fun v w a st r v' e => ?_) hd hk ho hJ
 obtain ⟨w', e1, e2, e3⟩ := ZqL (P := c.P) (T := t) st.sub e
 refine ⟨w', fun o hop => ?_, e2, e3⟩
 rw [Zef (P := c.P) hop]
 simp [execOp, e1]
theorem OJ.get0 {i d T kT D : Nat} {x y : Operand} {ck : Cod κ} {cv : Cod ν} {z : ν} {o : Option Nat} {k : κ} {owed : List Pd} {f : ν × Bool → M β} (kt : KeyT c.P T kT D ck cv z) (hJ : ∀ r : ν × Bool, OW c owed pend is ((d, cv.val r.1) :: m) h (f r) R) (hc : core c.ops m i = some (some d, .lookup T x y false) := by kernel_rfl) (hx : evm m x = some (.map o) := by kernel_rfl) (hy : evm m y = some (ck.val k) := by kernel_rfl) (hd : Nat.blt d c.n = true := by kernel_rfl) (hk : kdW c.kd i = true := by kernel_rfl) (ho : owes c.bef i pend = owed := by kernel_rfl) : OJ c pend (i :: is) m h (mget ck cv z o k >>= f) R := by
 refine OJ.sem (out := fun r => cv.val r.1) hc (fun v w a st r v' e => ?_) hd hk ho hJ
 obtain ⟨vT, hT, ty⟩ := kt.hT
 obtain ⟨rfl, e1⟩ := Zsq (P := c.P) hT kt.hk kt.agg kt.eq kt.ckt kt.hD ty st.sub e false
 refine ⟨w, fun o' hop => ?_, st.sub, fun _ _ => ⟨rfl, rfl⟩⟩
 rw [Zef (P := c.P) hop]
 simp only [execOp, st.eval hx, st.eval hy, Sem.run_bind, e1, Result.andThen_ok, Sem.run_pure, Bool.false_eq_true, if_false]
theorem OJ.mset {i T kT D : Nat} {x y q : Operand} {ck : Cod κ} {cv : Cod ν} {z u : ν} {o : Option Nat} {k : κ} {owed : List Pd} {f : Unit → M β} (kt : KeyT c.P T kT D ck cv z) (hJ : OW c owed pend is m h (f ()) R) (hc : core c.ops m i = some (none, .mapUpdate T x y q) := by kernel_rfl) (hx : evm m x = some (.map o) := by kernel_rfl) (hy : evm m y = some (ck.val k) := by kernel_rfl) (hz : evm m q = some (cv.val u) := by kernel_rfl) (hk : kdW c.kd i = true := by kernel_rfl) (ho : owes c.bef i pend = owed := by kernel_rfl) : OJ c pend (i :: is) m h (mset ck cv o k u >>= f) R := by
 refine OJ.wr hc hk ho fun v r v' e w a st D' hD' => ?_
 obtain ⟨y', v1, h1, h2⟩ := bind_some.1 e
 obtain ⟨vT, hT, ty⟩ := kt.hT
 obtain ⟨w1, e1, e2, e3⟩ := Zr3 (P := c.P) hT kt.hk kt.agg kt.eq kt.ckt kt.hD kt.sb st.sub h1
 refine ⟨undef, w1, v1, f (), m, h, fun o' hop => .inr (.inl ⟨?_, rfl⟩), h2, ⟨e2, st.size, st.defers.keep e3, st.get, Loc.keep st e3, st.nd⟩, Kp.of hD' e3, hJ⟩
 rw [Zef (P := c.P) hop]
 simp only [execOp, st.eval hx, st.eval hy, st.eval hz, Sem.run_bind, e1, Result.andThen_ok, Sem.run_pure]
end
end
section
open Go
variable [Zd5]
theorem Zoh {P : Program} {b : Bool} {len cap : Nat} {lo hi mx : Option (IntKind × Int)} (hmx : mx.isSome = true → hi.isSome = true)
  (b1 : 0 ≤ (mx.map (·.2)).getD (cap : Int)) (b2 : (mx.map (·.2)).getD (cap : Int) ≤ cap) (b3 : 0 ≤ (hi.map (·.2)).getD (len : Int)) (b4 : (hi.map (·.2)).getD (len : Int) ≤ (mx.map (·.2)).getD (cap : Int)) (b5 : 0 ≤ (lo.map (·.2)).getD (0 : Int)) (b6 : (lo.map (·.2)).getD (0 : Int) ≤ (hi.map (·.2)).getD (len : Int)) (w : World) :
  (Instr.sliceBounds b len cap (lo.map fun p => .int p.1 p.2) (hi.map fun p => .int p.1 p.2) (mx.map fun p => .int p.1 p.2)).run P w = .ok (((lo.map (·.2)).getD (0 : Int)).toNat, ((hi.map (·.2)).getD (len : Int)).toNat, ((mx.map (·.2)).getD (cap : Int)).toNat) w := by
 unfold Instr.sliceBounds
 cases mx with
 | none =>
  cases hi with
  | none =>
   cases lo with
   | none => simp
   | some l =>
    simp only [Option.map_none, Option.map_some, Option.getD_none, Option.getD_some] at b1 b2 b3 b4 b5 b6 ⊢
    simp only [Sem.run_bind, Sem.run_pure, Result.andThen_ok]
    rw [ZeB b5 (by omega)]
    simp
  | some hh =>
   simp only [Option.map_none, Option.map_some, Option.getD_none, Option.getD_some] at b1 b2 b3 b4 b5 b6 ⊢
   simp only [Sem.run_bind, Sem.run_pure, Result.andThen_ok]
   rw [ZeB b3 (by omega)]
   cases lo with
   | none => simp
   | some l =>
    simp only [Option.map_none, Option.map_some, Option.getD_none, Option.getD_some, Result.andThen_ok, Sem.run_bind] at b5 b6 ⊢
    rw [ZeB b5 (by omega)]
    simp
 | some mm =>
  obtain ⟨hh, rfl⟩ := Option.isSome_iff_exists.1 (hmx rfl)
  simp only [Option.map_none, Option.map_some, Option.getD_none, Option.getD_some] at b1 b2 b3 b4 b5 b6 ⊢
  simp only [Sem.run_bind, Sem.run_pure, Result.andThen_ok]
  rw [ZeB b1 (by omega)]
  simp only [Result.andThen_ok, Sem.run_bind]
  rw [ZeB b3 (by omega)]
  cases lo with
  | none => simp
  | some l =>
   simp only [Option.map_none, Option.map_some, Option.getD_none, Option.getD_some, Result.andThen_ok, Sem.run_bind] at b5 b6 ⊢
   rw [ZeB b5 (by omega)]
   simp
theorem Zvm {sz : Nat} {s r : Sl} {lo hi mx : Option Int} {v v' : World} (hq : cut sz s lo hi mx v = some (r, v')) : v' = v ∧ 0 ≤ mx.getD (s.cap : Int) ∧ mx.getD (s.cap : Int) ≤ s.cap ∧ 0 ≤ hi.getD (s.len : Int) ∧ hi.getD (s.len : Int) ≤ mx.getD (s.cap : Int) ∧ 0 ≤ lo.getD 0 ∧ lo.getD 0 ≤ hi.getD (s.len : Int) ∧
  r = ⟨if (mx.getD (s.cap : Int)).toNat = (lo.getD 0).toNat then s.a else s.a.map (·.add ((lo.getD 0).toNat * sz)), (hi.getD (s.len : Int)).toNat - (lo.getD 0).toNat, (mx.getD (s.cap : Int)).toNat - (lo.getD 0).toNat⟩ := by
 unfold cut at hq
 simp only at hq
 split at hq
 ·rename_i hb
  simp only [Option.some.injEq, Prod.mk.injEq] at hq
  obtain ⟨rfl, rfl⟩ := hq
  obtain ⟨b1, b2, b3, b4, b5, b6⟩ := hb
  exact ⟨rfl, b1, b2, b3, b4, b5, b6, rfl⟩
 ·cases hq
def sb (s : ByteArray) (i : Int) : Int := ((s.data.toList.getD i.toNat 0).toNat : Int)
theorem Zw2 {s : ByteArray} {i : Int} (h0 : 0 ≤ i) (h1 : i < s.size) : ∃ b : UInt8, s[i.toNat]? = some b ∧ (b.toNat : Int) = sb s i := by
 have h : i.toNat < s.size := by omega
 refine ⟨s[i.toNat], by rw [getElem?_pos s i.toNat h], ?_⟩
 unfold sb
 have h2 : i.toNat < s.data.toList.length := by simpa using h
 rw [List.getD, List.getElem?_eq_getElem h2]
 rfl
section
variable {β : Type} {c : Cx} {pend : List Pd} {is : List Nat} {m : Env} {h : Loc} {R : List Pd → Env → Loc → M β → Prop}
theorem OJ.cutA {i d t n E sz : Nat} {y : Operand} {lo hi mx : Option Operand} {lo' hi' mx' : Option (IntKind × Int)} {a : Addr} {f : Sl → M β} (hmx : (mx'.isSome = true → hi'.isSome = true)) (hJ : ∀ r : Sl, OJ c pend is ((d, r.v) :: m) h (f r) R)
  (hc : core c.ops m i = some (some d, .slice t y lo hi mx) := by kernel_rfl) (ht : c.P.underlying t = some (.array n E) := by kernel_rfl) (hE : (c.P.info? E).map (·.size) = some sz := by kernel_rfl) (hy : evm m y = some (.pointer (some a)) := by kernel_rfl) (hl : evo m lo = some lo' := by kernel_rfl) (hh : evo m hi = some hi' := by kernel_rfl) (hm : evo m mx = some mx' := by kernel_rfl)
  (hk : kdP c.kd i = true := by kernel_rfl) (hn : noW c.kd [i] pend = true := by kernel_rfl) (hd : Nat.blt d c.n = true := by kernel_rfl) : OJ c pend (i :: is) m h (Lx.cut sz ⟨some a, n, n⟩ (lo'.map (·.2)) (hi'.map (·.2)) (mx'.map (·.2)) >>= f) R := by
 refine OJ.q hc hk hn hd fun v r v' e w ac s => ?_
 obtain ⟨x, v1, h1, h2⟩ := bind_some.1 e
 obtain ⟨rfl, b1, b2, b3, b4, b5, b6, rfl⟩ := Zvm h1
 obtain ⟨inf, hinf, rfl⟩ := Option.map_eq_some_iff.1 hE
 refine ⟨_, _, fun o ho w' => ZkQ ho ?_, h2, hJ _⟩
 rw [ZgT s hl, ZgT s hh, ZgT s hm, s.eval hy]
 unfold Instr.sliceAt
 simp only [Sem.run_bind, ZaE ht, Result.andThen_ok, Instr.sureAddr, Sem.run_pure]
 rw [Zoh hmx b1 b2 b3 b4 b5 b6]
 simp only [Result.andThen_ok, Sem.run_bind, sizeOf, ZdQ hinf, Sem.run_pure, Sl.v]
 congr 2
 split <;> rfl
theorem OJ.idxT {i d T : Nat} {y j : Operand} {k : IntKind} {s : ByteArray} {ix : Int} {f : Unit → M β} (hJ : 0 ≤ ix → ix < s.size → OJ c pend is ((d, .int .u8 (sb s ix)) :: m) h (f ()) R) (hc : core c.ops m i = some (some d, .index T y j) := by kernel_rfl) (hT : c.P.underlying T = some .string := by kernel_rfl) (hy : evm m y = some (.string s) := by kernel_rfl) (hj : evm m j = some (.int k ix) := by kernel_rfl) (hk : kdP c.kd i = true := by kernel_rfl) (hn : noW c.kd [i] pend = true := by kernel_rfl) (hd : Nat.blt d c.n = true := by kernel_rfl) : OJ c pend (i :: is) m h (chk (0 ≤ ix ∧ ix < (s.size : Int)) >>= f) R := by
 refine OJ.q hc hk hn hd fun v r v' e w a st => ?_
 obtain ⟨ad, v1, h1, h2⟩ := bind_some.1 e
 obtain ⟨hb, rfl⟩ := Zgi h1
 refine ⟨_, _, fun oo ho w' => ?_, h2, hJ hb.1 hb.2⟩
 obtain ⟨b, hb1, hb2⟩ := Zw2 hb.1 hb.2
 rw [Zef (P := c.P) ho]
 simp only [execOp, Instr.index, st.eval hy, st.eval hj, asIntOf, Sem.run_bind, Sem.run_pure, Result.andThen_ok, ZaE hT, if_pos hb.1, hb1, hb2]
theorem OJ.cutT {i d t : Nat} {y : Operand} {lo hi : Option Operand} {lo' hi' : Option (IntKind × Int)} {s : ByteArray} {f : Unit → M β} (hJ : OJ c pend is ((d, .string (s.extract ((lo'.map (fun p => p.2)).getD (0 : Int)).toNat ((hi'.map (fun p => p.2)).getD (s.size : Int)).toNat)) :: m) h (f ()) R)
  (hc : core c.ops m i = some (some d, .slice t y lo hi none) := by kernel_rfl) (ht : c.P.underlying t = some .string := by kernel_rfl) (hy : evm m y = some (.string s) := by kernel_rfl) (hl : evo m lo = some lo' := by kernel_rfl) (hh : evo m hi = some hi' := by kernel_rfl)
  (hk : kdP c.kd i = true := by kernel_rfl) (hn : noW c.kd [i] pend = true := by kernel_rfl) (hd : Nat.blt d c.n = true := by kernel_rfl) : OJ c pend (i :: is) m h (chk (0 ≤ (lo'.map (fun p => p.2)).getD (0 : Int) ∧ (lo'.map (fun p => p.2)).getD (0 : Int) ≤ (hi'.map (fun p => p.2)).getD (s.size : Int) ∧ (hi'.map (fun p => p.2)).getD (s.size : Int) ≤ (s.size : Int)) >>= f) R := by
 refine OJ.q hc hk hn hd fun v r v' e w ac st => ?_
 obtain ⟨x, v1, h1, h2⟩ := bind_some.1 e
 obtain ⟨⟨b1, b2, b3⟩, rfl⟩ := Zgi h1
 refine ⟨_, _, fun o ho w' => ZkQ ho ?_, h2, hJ⟩
 rw [ZgT st hl, ZgT st hh, st.eval hy]
 have hb := Zoh (P := c.P) (b := false) (len := s.size) (cap := s.size) (lo := lo') (hi := hi') (mx := none) (fun h => by cases h) (by simp) (by simp) (by omega) (by simpa using b3) b1 b2 w'
 unfold Instr.sliceAt
 simp only [Sem.run_bind, ZaE ht, Result.andThen_ok]
 unfold Instr.slice
 simp only [Sem.run_bind, ZaE ht, Result.andThen_ok, Option.map_none, Option.isSome_none, Bool.false_eq_true, if_false]
 simp only [Option.map_none] at hb
 rw [hb]
 rfl
theorem OJ.toArr {i d t n E : Nat} {y : Operand} {s : Sl} {f : Addr → M β} (hJ : ∀ a, OJ c pend is ((d, .pointer (some a)) :: m) h (f a) R) (hc : core c.ops m i = some (some d, .sliceToArrayPointer t y) := by kernel_rfl) (ht : c.P.underlying t = some (.array n E) := by kernel_rfl) (hy : evm m y = some s.v := by kernel_rfl) (hk : kdP c.kd i = true := by kernel_rfl) (hn : noW c.kd [i] pend = true := by kernel_rfl) (hd : Nat.blt d c.n = true := by kernel_rfl) : OJ c pend (i :: is) m h ((chk (n ≤ s.len) >>= fun _ => Lx.nilck s.a) >>= f) R := by
 refine OJ.q hc hk hn hd fun v r v' e w ac st => ?_
 obtain ⟨a, v1, h1, h2⟩ := bind_some.1 e
 obtain ⟨u, v2, h3, h4⟩ := bind_some.1 h1
 obtain ⟨hle, rfl⟩ := Zgi h3
 cases ha : s.a with
 | none => rw [ha] at h4; cases h4
 | some a' =>
  rw [ha] at h4
  cases h4
  refine ⟨_, _, fun o ho w' => ?_, h2, hJ a⟩
  rw [Zef (P := c.P) ho]
  simp only [execOp, Instr.arrayAt, st.eval hy, Sl.v, Sem.run_bind, ZaE ht, Result.andThen_ok, if_neg (show ¬ s.len < n by omega), ha, Sem.run_pure]
theorem OJ.shl {i d : Nat} {T yT : TypeId} {y z : Operand} {k yk : IntKind} {p q : Int} {f : Unit → M β} (hJ : 0 ≤ q → OJ c pend is ((d, .int k (k.wrap (p * 2 ^ (Min.min q.toNat k.bits)))) :: m) h (f ()) R) (hc : core c.ops m i = some (some d, .binOp .shl T y z yT) := by kernel_rfl) (hy : evm m y = some (.int k p) := by kernel_rfl) (hz : evm m z = some (.int yk q) := by kernel_rfl) (hk : kdP c.kd i = true := by kernel_rfl) (hn : noW c.kd [i] pend = true := by kernel_rfl) (hd : Nat.blt d c.n = true := by kernel_rfl) : OJ c pend (i :: is) m h (chk (0 ≤ q) >>= f) R := by
 refine OJ.q hc hk hn hd fun v r v' e w a s => ?_
 obtain ⟨ad, v1, h1, h2⟩ := bind_some.1 e
 obtain ⟨hq, rfl⟩ := Zgi h1
 refine ⟨_, _, fun o ho w' => ?_, h2, hJ hq⟩
 obtain ⟨dst, op, type, pos, after, guard⟩ := o
 simp only at ho
 subst ho
 refine Zes (s.eval hy) (s.eval hz) (Zd2 (by rintro _ _ ⟨h, _⟩; cases h) (by rintro ⟨h, _⟩; cases h) _) ?_
 show (Op.shift .shl k p yk q).run c.P w' = _
 unfold Op.shift
 rw [if_neg (by omega)]
 rfl
theorem OJ.shr {i d : Nat} {T yT : TypeId} {y z : Operand} {k yk : IntKind} {p q : Int} {f : Unit → M β} (hJ : 0 ≤ q → OJ c pend is ((d, .int k (p.fdiv (2 ^ (Min.min q.toNat k.bits)))) :: m) h (f ()) R) (hc : core c.ops m i = some (some d, .binOp .shr T y z yT) := by kernel_rfl) (hy : evm m y = some (.int k p) := by kernel_rfl) (hz : evm m z = some (.int yk q) := by kernel_rfl) (hk : kdP c.kd i = true := by kernel_rfl) (hn : noW c.kd [i] pend = true := by kernel_rfl) (hd : Nat.blt d c.n = true := by kernel_rfl) : OJ c pend (i :: is) m h (chk (0 ≤ q) >>= f) R := by
 refine OJ.q hc hk hn hd fun v r v' e w a s => ?_
 obtain ⟨ad, v1, h1, h2⟩ := bind_some.1 e
 obtain ⟨hq, rfl⟩ := Zgi h1
 refine ⟨_, _, fun o ho w' => ?_, h2, hJ hq⟩
 obtain ⟨dst, op, type, pos, after, guard⟩ := o
 simp only at ho
 subst ho
 refine Zes (s.eval hy) (s.eval hz) (Zd2 (by rintro _ _ ⟨h, _⟩; cases h) (by rintro ⟨h, _⟩; cases h) _) ?_
 show (Op.shift .shr k p yk q).run c.P w' = _
 unfold Op.shift
 rw [if_neg (by omega)]
 rfl
theorem OJ.ext {α : Type} {i d g : Nat} {fn : Func} {args : List Operand} {ats : Array TypeId} {vals : List Value} {q : M α} {out : α → Value} {owed : List Pd} {f : α → M β} {e : Array Value → Sem Value}
  (hf : c.P.funcs[g]? = some fn) (hrun : ∀ v w, Sub v w → ∀ r v', q v = some (r, v') → ∃ w', (e vals.toArray).run c.P w = .ok (out r) w' ∧ Sub v' w' ∧ ∀ b, Husk v b → w'.heap[b]? = w.heap[b]? ∧ v'.heap[b]? = v.heap[b]?)
  (hJ : ∀ r, OW c owed pend is ((d, out r) :: m) h (f r) R) (hc : core c.ops m i = some (some d, .call { callee := .value (.func g), args := args.toArray, argTypes := ats }) := by kernel_rfl) (hv : evms m args = some vals := by kernel_rfl)
  (h1 : (fn.name == "runtime.NumGoroutine") = false := by kernel_rfl) (h2 : fn.body.isNone = true := by kernel_rfl) (h3 : Extern.findNext fn = none := by kernel_rfl) (h4 : Extern.find fn = some e := by kernel_rfl) (hd : Nat.blt d c.n = true := by kernel_rfl) (hk : kdW c.kd i = true := by kernel_rfl) (ho : owes c.bef i pend = owed := by kernel_rfl) : OJ c pend (i :: is) m h (q >>= f) R := by
 refine OJ.sem hc (fun v w a st r v' e' => ?_) hd hk ho hJ
 obtain ⟨w', e1, e2, e3⟩ := hrun v w st.sub r v' e'
 refine ⟨w', fun o hop => ?_, e2, e3⟩
 have hva := Zhq st hv
 rw [Zef (P := c.P) hop]
 have hfo : a.eval (.func g) = .func (.func g) #[] #[] := rfl
 simp only [execOp, resolve, Sem.run_bind, hfo, Deferred.ofValue, Sem.run_pure, Result.andThen_ok, invoke]
 have : (#[] ++ args.toArray.map a.eval ++ #[] : Array Value) = vals.toArray := by simp [hva]
 rw [run_callFunc_extern hf h1 h2 h3 h4, this, e1]
 rfl
end
end
end Go.Proofs.YtfnokeoldcfcoaaGreatDoor.Lx
