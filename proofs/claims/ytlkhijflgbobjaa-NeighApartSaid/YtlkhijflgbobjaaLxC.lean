/- The machine 'Lx', part C: when a Go text does what a program of the M-world says: the judgements for a region's operations and for what is still to be done, and their rules. -/
import Derived.Test.YtlkhijflgbobjaaLxB
import Derived.Laws.Sem
set_option linter.unusedVariables false
set_option linter.unusedSimpArgs false
namespace Go.Proofs.Ytlkhijflgbobjaa.Lx
open Go
abbrev Env := List (Nat × Value)
abbrev Loc := List (Nat × List Value)
def lk : Env → Nat → Option Value
  | [], _ => none
  | (k, x) :: r, t => match Nat.beq k t with
    | true => some x
    | false => lk r t
def evm (m : Env) : Operand → Option Value
  | .tmp t => lk m t
  | .const v => some v
  | .global g => some (.pointer (some ⟨g, 0, none⟩))
  | .func f => some (.func (.func f) #[] #[])
structure St (n : Nat) (m : Env) (h : Loc) (v w : World) (a : Act) : Prop where
  sub : Sub v w
  size : a.tmps.size = n
  defers : a.defers = []
  get : ∀ t x, lk m t = some x → a.tmps[t]? = some x
  loc : ∀ e ∈ h, Husk v e.1 ∧ ∃ T, w.heap[e.1]? = some (.cells e.2.toArray T (0, 0))
  nd : (h.map (·.1)).Nodup
theorem St.eval {n : Nat} {m : Env} {h : Loc} {v w : World} {a : Act} (s : St n m h v w a) {x : Operand} {y : Value} (hx : evm m x = some y) : a.eval x = y := by
  cases x with
  | tmp t =>
    have := s.get t y hx
    simp [Act.eval, Array.getD_eq_getD_getElem?, this]
  | const v =>
    simp only [evm, Option.some.injEq] at hx
    exact hx
  | global g =>
    simp only [evm, Option.some.injEq] at hx
    exact hx
  | func f =>
    simp only [evm, Option.some.injEq] at hx
    exact hx
theorem lk_put {n d : Nat} {m : Env} {a : Act} {y : Value} (hd : d < n) (hs : a.tmps.size = n) (hg : ∀ t x, lk m t = some x → a.tmps[t]? = some x) :
    ∀ t x, lk ((d, y) :: m) t = some x → (a.put (some d) y).tmps[t]? = some x := by
  intro t x h
  unfold lk at h
  cases e : Nat.beq d t with
  | true =>
    rw [e] at h
    obtain rfl := Nat.eq_of_beq_eq_true e
    simp only [Option.some.injEq] at h
    subst h
    simp [Act.put, hs, hd]
  | false =>
    rw [e] at h
    have hne : d ≠ t := fun e' => by subst e'; simp at e
    simpa [Act.put, Array.getElem?_setIfInBounds_ne hne] using hg t x h
theorem St.put {n d : Nat} {m : Env} {h : Loc} {v w : World} {a : Act} (s : St n m h v w a) (hd : d < n) (y : Value) : St n ((d, y) :: m) h v w (a.put (some d) y) :=
  ⟨s.sub, by simp [Act.put, s.size], s.defers, lk_put hd s.size s.get, s.loc, s.nd⟩
def lks (m : Env) : List Nat → Option Env
  | [] => some []
  | t :: ts => match lk m t, lks m ts with
    | some x, some r => some ((t, x) :: r)
    | _, _ => none
theorem lks_spec {m : Env} : ∀ {ts : List Nat} {m' : Env}, lks m ts = some m' → ∀ t x, lk m' t = some x → lk m t = some x
  | [], m', h, t, x, hx => by
    simp only [lks, Option.some.injEq] at h
    subst h
    simp [lk] at hx
  | t0 :: ts, m', h, t, x, hx => by
    unfold lks at h
    split at h
    · rename_i y r hy hr
      simp only [Option.some.injEq] at h
      subst h
      unfold lk at hx
      cases e : Nat.beq t0 t with
      | true =>
        rw [e] at hx
        obtain rfl := Nat.eq_of_beq_eq_true e
        simp only [Option.some.injEq] at hx
        subst hx
        exact hy
      | false =>
        rw [e] at hx
        exact lks_spec hr t x hx
    · cases h
theorem St.less {n : Nat} {m m' : Env} {h : Loc} {v w : World} {a : Act} (s : St n m h v w a) (hs : ∀ t x, lk m' t = some x → lk m t = some x) : St n m' h v w a :=
  ⟨s.sub, s.size, s.defers, fun t x hx => s.get t x (hs t x hx), s.loc, s.nd⟩
def intVal (op : BinOp) (k : IntKind) (x y : Int) : Option Value :=
  match op with
  | .add => some (.int k (k.wrap (x + y)))
  | .sub => some (.int k (k.wrap (x - y)))
  | .mul => some (.int k (k.wrap (x * y)))
  | .and => some (.int k (k.wrap (BitVec.ofInt k.bits x &&& BitVec.ofInt k.bits y).toNat))
  | .or => some (.int k (k.wrap (BitVec.ofInt k.bits x ||| BitVec.ofInt k.bits y).toNat))
  | .xor => some (.int k (k.wrap (BitVec.ofInt k.bits x ^^^ BitVec.ofInt k.bits y).toNat))
  | .andNot => some (.int k (k.wrap (BitVec.ofInt k.bits x &&& ~~~ BitVec.ofInt k.bits y).toNat))
  | .eql => some (.bool (x == y))
  | .neq => some (.bool (x != y))
  | .lss => some (.bool (decide (x < y)))
  | .leq => some (.bool (decide (x ≤ y)))
  | .gtr => some (.bool (decide (x > y)))
  | .geq => some (.bool (decide (x ≥ y)))
  | .quo => if y = 0 then none else some (.int k (k.wrap (x.tdiv y)))
  | .rem => if y = 0 then none else some (.int k (x.tmod y))
  | _ => none
def shiftVal (op : BinOp) (k : IntKind) (x y : Int) : Option Value :=
  if y < 0 then none else
  match op with
  | .shl => some (.int k (k.wrap (x * 2 ^ (min y.toNat k.bits))))
  | .shr => some (.int k (x.fdiv (2 ^ (min y.toNat k.bits))))
  | _ => none
def ikEq : IntKind → IntKind → Bool
  | .i8, .i8 | .i16, .i16 | .i32, .i32 | .i64, .i64 | .u8, .u8 | .u16, .u16 | .u32, .u32 | .u64, .u64 => true
  | _, _ => false
theorem ikEq_eq {a b : IntKind} (h : ikEq a b = true) : a = b := by cases a <;> cases b <;> first | rfl | cases h
def isShift : BinOp → Bool
  | .shl | .shr => true
  | _ => false
def binVal (op : BinOp) (x y : Value) : Option Value :=
  match x, y with
  | .int k a, .int k' b => match isShift op with
    | true => shiftVal op k a b
    | false => match ikEq k k' with
      | true => intVal op k a b
      | false => none
  | .string a, .string b => match op with
    | .eql => some (.bool (a.toList == b.toList))
    | .neq => some (.bool (!(a.toList == b.toList)))
    | .lss => some (.bool (Op.bytesLess a.toList b.toList))
    | _ => none
  | _, _ => none
def isBoolT (P : Program) (T : TypeId) : Bool := match P.underlying T with | some .bool => true | _ => false
def isPtrT (P : Program) (T : TypeId) : Bool := match P.underlying T with | some (.pointer _) => true | _ => false
def isSlT (P : Program) (T : TypeId) : Bool := match P.underlying T with | some (.slice _) => true | _ => false
def pv (P : Program) (ev : Operand → Option Value) : Op → Option Value
  | .move x | .assign x => ev x
  | .pick c a b => match ev c with
    | some (.bool true) => ev a
    | some (.bool false) => ev b
    | _ => none
  | .nilCheck x => match ev x with
    | some (.pointer (some a)) => some (.pointer (some a))
    | _ => none
  | .binOp op T x y _ => match ev x, ev y with
    | some (.bool a), some (.bool b) => match op, isBoolT P T with
      | .eql, true => some (.bool (a == b))
      | .neq, true => some (.bool (!(a == b)))
      | _, _ => none
    | some (.pointer p), some (.pointer none) => match op, isPtrT P T with
      | .eql, true => some (.bool p.isNone)
      | .neq, true => some (.bool (!p.isNone))
      | _, _ => none
    | some (.slice p _ _), some (.slice none _ _) => match op, isSlT P T with
      | .eql, true => some (.bool p.isNone)
      | .neq, true => some (.bool (!p.isNone))
      | _, _ => none
    | some a, some b => binVal op a b
    | _, _ => none
  | .unOp op _ x => match op, ev x with
    | .not, some (.bool b) => some (.bool (!b))
    | .neg, some (.int k n) => some (.int k (k.wrap (0 - n)))
    | .xor, some (.int k n) => some (.int k (k.wrap (BitVec.ofInt k.bits (if k.signed then -1 else k.max) ^^^ BitVec.ofInt k.bits n).toNat))
    | _, _ => none
  | .convert s d x => match ev x, P.underlying s, P.underlying d with
    | some (.int _ n), some _, some (.int k) => some (.int k (k.wrap n))
    | some (.string b), some .string, some .string => some (.string b)
    | _, _, _ => none
  | .fieldAddr S x f => match ev x, P.underlying S with
    | some (.pointer (some a)), some (.struct fs) => match fs[f]? with
      | some fd => match P.info? fd.type with
        | some i => match i.size with
          | 0 => none
          | _ + 1 => some (.pointer (some (a.add fd.offset)))
        | none => none
      | none => none
    | _, _ => none
  | .extract t j => match ev t with
    | some (.tuple vs) => vs[j]?
    | _ => none
  | .makeFunc fn first cap => match (first.toList.mapM ev), (cap.toList.mapM ev) with
    | some f, some c => some (.func fn f.toArray c.toArray)
    | _, _ => none
  | .makeInterface T x => match P.underlying T, ev x with
    | some (.interface _), _ => none
    | some _, some y => some (.iface T y)
    | _, _ => none
  | .indexAddr T x i => match ev x, ev i, P.underlying T with
    | some (.pointer (some a)), some (.int _ (Int.ofNat j)), some (.array len e) => match Nat.blt j len, P.info? e with
      | true, some inf => some (.pointer (some (a.add (j * inf.size))))
      | _, _ => none
    | _, _, _ => none
  | .call { callee := .builtin .len, args, argTypes } => match args[0]?, argTypes[0]? with
    | some x, some t => match ev x, P.underlying t with
      | some (.string s), some .string => some (.int .i64 s.size)
      | some (.slice _ n _), some (.slice _) => some (.int .i64 n)
      | _, _ => none
    | _, _ => none
  | _ => none
theorem run_underlying {P : Program} {T : TypeId} {d : TypeDesc} (h : P.underlying T = some d) (w : World) : (underlying T).run P w = .ok d w := by
  simp [underlying, h]
theorem run_typeInfo {P : Program} {T : TypeId} {i : TypeInfo} (h : P.info? T = some i) (w : World) : (typeInfo T).run P w = .ok i w := by
  simp [typeInfo, h]
theorem intVal_run {P : Program} {op : BinOp} {k : IntKind} {x y : Int} {v : Value} (hs : isShift op = false) (h : intVal op k x y = some v) (w : World) (T : TypeId) : (binOp op T (.int k x) (.int k y)).run P w = .ok v w := by
  cases op <;> simp only [intVal, Option.some.injEq] at h <;> first
    | (cases h; done)
    | (cases hs; done)
    | (subst h; simp [binOp, Op.intArith, Op.intBits, Op.intCmp]; done)
    | (split at h
       · cases h
       · rename_i hy
         simp only [Option.some.injEq] at h
         subst h
         simp [binOp, Op.intDiv, hy])
theorem shiftVal_run {P : Program} {op : BinOp} {k k' : IntKind} {x y : Int} {v : Value} (hs : isShift op = true) (h : shiftVal op k x y = some v) (w : World) (T : TypeId) : (binOp op T (.int k x) (.int k' y)).run P w = .ok v w := by
  unfold shiftVal at h
  split at h
  · cases h
  · rename_i hy
    cases op <;> first
      | (cases hs; done)
      | (simp only [Option.some.injEq] at h; subst h; simp [binOp, Op.shift, hy]; done)
theorem binVal_run {P : Program} {op : BinOp} {x y v : Value} (h : binVal op x y = some v) (w : World) (T : TypeId) : (binOp op T x y).run P w = .ok v w := by
  unfold binVal at h
  split at h
  · rename_i k a k' b
    split at h
    · rename_i hs
      exact shiftVal_run hs h w T
    · rename_i hs
      split at h
      · rename_i hk
        obtain rfl := ikEq_eq hk
        exact intVal_run hs h w T
      · cases h
  · rename_i a b
    cases op <;> first
      | (cases h; done)
      | (simp only [Option.some.injEq] at h; subst h; simp [binOp, Op.stringOp]; done)
  · cases h
theorem eqGuard_run {P : Program} {op : BinOp} {T : TypeId} {x y : Operand} {a b : Value} (h1 : ∀ cs ds, ¬ (a = .agg cs ∧ b = .agg ds)) (h2 : ¬ (a = .nilIface ∧ b = .nilIface)) (w : World) : (eqGuard op T x y a b).run P w = .ok () w := by
  unfold eqGuard
  cases op <;> first
    | rfl
    | (simp only [Bool.not_true, Bool.false_eq_true, if_false]
       split
       · exact absurd ⟨rfl, rfl⟩ h2
       · exact absurd ⟨rfl, rfl⟩ (h1 _ _)
       · rfl)
theorem equal_step (T : TypeId) (x y : Value) : Op.equal T x y = Op.equalIn (9999 + 1) T x y := rfl
theorem equal_bool {P : Program} {T : TypeId} (h : P.underlying T = some .bool) (a b : Bool) (w : World) : (Op.equal T (.bool a) (.bool b)).run P w = .ok (a == b) w := by
  rw [equal_step, Op.equalIn]
  simp [underlying, h]
theorem equal_ptr {P : Program} {T e : TypeId} (h : P.underlying T = some (.pointer e)) (p : Option Addr) (w : World) : (Op.equal T (.pointer p) (.pointer none)).run P w = .ok p.isNone w := by
  rw [equal_step, Op.equalIn]
  cases p <;> simp [underlying, h]
theorem equal_sl {P : Program} {T e : TypeId} (h : P.underlying T = some (.slice e)) (p : Option Addr) (l c l' c' : Nat) (w : World) : (Op.equal T (.slice p l c) (.slice none l' c')).run P w = .ok p.isNone w := by
  rw [equal_step, Op.equalIn]
  cases p <;> simp [underlying, h]
theorem binOp_eql (T : TypeId) {x y : Value} (h : ∀ k a k' b, ¬ (x = .int k a ∧ y = .int k' b)) (h2 : ∀ k a k' b, ¬ (x = .float k a ∧ y = .float k' b)) (h3 : ∀ k a b k' c d, ¬ (x = .complex k a b ∧ y = .complex k' c d)) (h4 : ∀ a b, ¬ (x = .string a ∧ y = .string b)) :
    binOp .eql T x y = (do pure (.bool (← Op.equal T x y))) ∧ binOp .neq T x y = (do pure (.bool (!(← Op.equal T x y)))) := by
  constructor <;> cases x <;> cases y <;> first
    | rfl
    | exact absurd ⟨rfl, rfl⟩ (h _ _ _ _)
    | exact absurd ⟨rfl, rfl⟩ (h2 _ _ _ _)
    | exact absurd ⟨rfl, rfl⟩ (h3 _ _ _ _ _ _)
    | exact absurd ⟨rfl, rfl⟩ (h4 _ _)
theorem run_eql {P : Program} {T : TypeId} {x y : Value} {b : Bool} {w : World} (he : (Op.equal T x y).run P w = .ok b w) (h : ∀ k a k' b, ¬ (x = .int k a ∧ y = .int k' b)) (h2 : ∀ k a k' b, ¬ (x = .float k a ∧ y = .float k' b)) (h3 : ∀ k a b k' c d, ¬ (x = .complex k a b ∧ y = .complex k' c d)) (h4 : ∀ a b, ¬ (x = .string a ∧ y = .string b)) :
    (binOp .eql T x y).run P w = .ok (.bool b) w ∧ (binOp .neq T x y).run P w = .ok (.bool (!b)) w := by
  obtain ⟨e1, e2⟩ := binOp_eql T h h2 h3 h4
  rw [e1, e2]
  simp [he]
theorem isBoolT_eq {P : Program} {T : TypeId} (h : isBoolT P T = true) : P.underlying T = some .bool := by
  unfold isBoolT at h
  split at h
  · assumption
  · cases h
theorem isPtrT_eq {P : Program} {T : TypeId} (h : isPtrT P T = true) : ∃ e, P.underlying T = some (.pointer e) := by
  unfold isPtrT at h
  split at h
  · exact ⟨_, by assumption⟩
  · cases h
theorem isSlT_eq {P : Program} {T : TypeId} (h : isSlT P T = true) : ∃ e, P.underlying T = some (.slice e) := by
  unfold isSlT at h
  split at h
  · exact ⟨_, by assumption⟩
  · cases h
theorem exec_bin {P : Program} {op : BinOp} {T yT : TypeId} {x y : Operand} {dst : Option Tmp} {type : TypeId} {pos : String} {after : Array Edge} {guard : Option (Nat × Bool)} {ρ : Operand → Value} {a b v : Value} {w : World} (hx : ρ x = a) (hy : ρ y = b)
    (hg : (eqGuard op T x y a b).run P w = .ok () w) (hb : (binOp op T a b).run P w = .ok v w) : (execOp ρ ⟨dst, .binOp op T x y yT, type, pos, after, guard⟩).run P w = .ok (.value v) w := by
  subst hx
  subst hy
  show Sem.run P (do pure (Next.value (← (do eqGuard op T x y (ρ x) (ρ y); binOp op T (ρ x) (ρ y))))) w = _
  simp [hg, hb]
theorem mapM_ev {ev : Operand → Option Value} {ρ : Operand → Value} (hρ : ∀ x y, ev x = some y → ρ x = y) : ∀ (l : List Operand) (r : List Value), l.mapM ev = some r → l.map ρ = r
  | [], r, h => by simp at h; subst h; rfl
  | x :: l, r, h => by
    simp only [List.mapM_cons, Option.bind_eq_bind, Option.pure_def] at h
    obtain ⟨y, hy, h2⟩ := Option.bind_eq_some_iff.1 h
    obtain ⟨r', hr', h3⟩ := Option.bind_eq_some_iff.1 h2
    simp only [Option.some.injEq] at h3
    subst h3
    simp [hρ x y hy, mapM_ev hρ l r' hr']
theorem run_sizeOf {P : Program} {T : TypeId} {i : TypeInfo} (h : P.info? T = some i) (w : World) : (sizeOf T).run P w = .ok i.size w := by
  simp [sizeOf, typeInfo, h]
set_option maxHeartbeats 1600000 in
theorem pv_run {P : Program} {o : Oper} {ev : Operand → Option Value} {ρ : Operand → Value} (hρ : ∀ x y, ev x = some y → ρ x = y) {v : Value} (h : pv P ev o.op = some v) (w : World) : (execOp ρ o).run P w = .ok (.value v) w := by
  obtain ⟨dst, op, type, pos, after, guard⟩ := o
  cases op <;> simp only [pv] at h <;> try (cases h; done)
  case move x => simp [execOp, hρ x v h]
  case assign x => simp [execOp, hρ x v h]
  case pick c a b =>
    split at h
    · rename_i hc; simp [execOp, hρ c _ hc, hρ a v h, asBool]
    · rename_i hc; simp [execOp, hρ c _ hc, hρ b v h, asBool]
    · cases h
  case nilCheck x =>
    split at h
    · rename_i a hx
      simp only [Option.some.injEq] at h
      subst h
      simp [execOp, hρ x _ hx]
    · cases h
  case binOp op T x y yT =>
    split at h
    · rename_i a b hx hy
      have hg := eqGuard_run (P := P) (op := op) (T := T) (x := x) (y := y) (a := .bool a) (b := .bool b) (by rintro cs ds ⟨h, _⟩; cases h) (by rintro ⟨h, _⟩; cases h) w
      split at h
      · rename_i hb
        simp only [Option.some.injEq] at h
        subst h
        exact exec_bin (hρ x _ hx) (hρ y _ hy) hg (run_eql (equal_bool (isBoolT_eq hb) a b w) (by rintro _ _ _ _ ⟨h, _⟩; cases h) (by rintro _ _ _ _ ⟨h, _⟩; cases h) (by rintro _ _ _ _ _ _ ⟨h, _⟩; cases h) (by rintro _ _ ⟨h, _⟩; cases h)).1
      · rename_i hb
        simp only [Option.some.injEq] at h
        subst h
        exact exec_bin (hρ x _ hx) (hρ y _ hy) hg (run_eql (equal_bool (isBoolT_eq hb) a b w) (by rintro _ _ _ _ ⟨h, _⟩; cases h) (by rintro _ _ _ _ ⟨h, _⟩; cases h) (by rintro _ _ _ _ _ _ ⟨h, _⟩; cases h) (by rintro _ _ ⟨h, _⟩; cases h)).2
      · cases h
    · rename_i p hx hy
      have hg := eqGuard_run (P := P) (op := op) (T := T) (x := x) (y := y) (a := .pointer p) (b := .pointer none) (by rintro cs ds ⟨h, _⟩; cases h) (by rintro ⟨h, _⟩; cases h) w
      split at h
      · rename_i hb
        simp only [Option.some.injEq] at h
        subst h
        obtain ⟨e, he⟩ := isPtrT_eq hb
        exact exec_bin (hρ x _ hx) (hρ y _ hy) hg (run_eql (equal_ptr he p w) (by rintro _ _ _ _ ⟨h, _⟩; cases h) (by rintro _ _ _ _ ⟨h, _⟩; cases h) (by rintro _ _ _ _ _ _ ⟨h, _⟩; cases h) (by rintro _ _ ⟨h, _⟩; cases h)).1
      · rename_i hb
        simp only [Option.some.injEq] at h
        subst h
        obtain ⟨e, he⟩ := isPtrT_eq hb
        exact exec_bin (hρ x _ hx) (hρ y _ hy) hg (run_eql (equal_ptr he p w) (by rintro _ _ _ _ ⟨h, _⟩; cases h) (by rintro _ _ _ _ ⟨h, _⟩; cases h) (by rintro _ _ _ _ _ _ ⟨h, _⟩; cases h) (by rintro _ _ ⟨h, _⟩; cases h)).2
      · cases h
    · rename_i p l1 c1 l2 c2 hx hy
      have hg := eqGuard_run (P := P) (op := op) (T := T) (x := x) (y := y) (a := .slice p l1 c1) (b := .slice none l2 c2) (by rintro cs ds ⟨h, _⟩; cases h) (by rintro ⟨h, _⟩; cases h) w
      split at h
      · rename_i hb
        simp only [Option.some.injEq] at h
        subst h
        obtain ⟨e, he⟩ := isSlT_eq hb
        exact exec_bin (hρ x _ hx) (hρ y _ hy) hg (run_eql (equal_sl he p _ _ _ _ w) (by rintro _ _ _ _ ⟨h, _⟩; cases h) (by rintro _ _ _ _ ⟨h, _⟩; cases h) (by rintro _ _ _ _ _ _ ⟨h, _⟩; cases h) (by rintro _ _ ⟨h, _⟩; cases h)).1
      · rename_i hb
        simp only [Option.some.injEq] at h
        subst h
        obtain ⟨e, he⟩ := isSlT_eq hb
        exact exec_bin (hρ x _ hx) (hρ y _ hy) hg (run_eql (equal_sl he p _ _ _ _ w) (by rintro _ _ _ _ ⟨h, _⟩; cases h) (by rintro _ _ _ _ ⟨h, _⟩; cases h) (by rintro _ _ _ _ _ _ ⟨h, _⟩; cases h) (by rintro _ _ ⟨h, _⟩; cases h)).2
      · cases h
    · rename_i a b _ _ _ hx hy
      have hg := eqGuard_run (P := P) (op := op) (T := T) (x := x) (y := y) (a := a) (b := b) (by rintro cs ds ⟨rfl, rfl⟩; simp [binVal] at h) (by rintro ⟨rfl, rfl⟩; simp [binVal] at h) w
      exact exec_bin (hρ x _ hx) (hρ y _ hy) hg (binVal_run h w T)
    · cases h
  case unOp op T x =>
    split at h <;> first
      | (cases h; done)
      | (rename_i hx; simp only [Option.some.injEq] at h; subst h; simp [execOp, hρ x _ hx, Op.unary, Op.intArith, Op.intBits]; done)
  case convert s d x =>
    split at h
    · rename_i k n u k' hx hs hd
      simp only [Option.some.injEq] at h
      subst h
      simp [execOp, convert, hρ x _ hx, underlying, hs, hd, Conv.intToInt]
    · rename_i hx hs hd
      simp only [Option.some.injEq] at h
      subst h
      simp [execOp, convert, hρ x _ hx, underlying, hs, hd]
    · cases h
  case fieldAddr S x f =>
    split at h
    · rename_i a fs hx hS
      split at h
      · rename_i fd hf
        split at h
        · rename_i i hi
          split at h
          · cases h
          · rename_i k hk
            simp only [Option.some.injEq] at h
            subst h
            simp [execOp, Instr.fieldAt, underlying, hS, hf, hρ x _ hx, Instr.sureAddr, fieldPlace, sizeOf, typeInfo, hi, hk]
        · cases h
      · cases h
    · cases h
  case extract t j =>
    split at h
    · rename_i vs ht
      simp [execOp, Instr.extract, hρ t _ ht, h]
    · cases h
  case makeFunc fn first cap =>
    split at h
    · rename_i f c hf hc
      simp only [Option.some.injEq] at h
      subst h
      have e1 := mapM_ev hρ _ _ hf
      have e2 := mapM_ev hρ _ _ hc
      have e1' : first.map ρ = f.toArray := by rw [← e1, ← Array.toList_map]
      have e2' : cap.map ρ = c.toArray := by rw [← e2, ← Array.toList_map]
      simp [execOp, Instr.makeFunc, e1', e2']
    · cases h
  case makeInterface T x =>
    split at h
    · cases h
    · rename_i u y hne hT hx
      simp only [Option.some.injEq] at h
      subst h
      simp only [execOp, Instr.makeInterface, underlying]
      simp only [Sem.run_bind, run_program, Result.andThen_ok, hT]
      cases u <;> first | (simp [hρ x _ hx]; done) | (exact (hne _ rfl).elim)
    · cases h
  case indexAddr T x i =>
    split at h
    · rename_i a k j len e hx hi hT
      split at h
      · rename_i inf hlt hinf
        simp only [Option.some.injEq] at h
        subst h
        have hl : j < len := by simpa [Nat.blt_eq] using hlt
        simp [execOp, Instr.indexAt, hρ x _ hx, hρ i _ hi, asIntOf, underlying, hT, Instr.sureAddr, sizeOf, typeInfo, hinf, hl]
      · cases h
    · cases h
  case call c =>
    obtain ⟨callee, args, argTypes⟩ := c
    cases callee <;> try (cases h; done)
    rename_i b
    cases b <;> try (cases h; done)
    simp only at h
    split at h
    · rename_i x t hx ht
      split at h
      · rename_i s hs hu
        simp only [Option.some.injEq] at h
        subst h
        simp [execOp, resolve, invoke, builtin, Builtin.len_, hx, ht, hρ x _ hs, underlying, hu, goInt]
      · rename_i a n c e hs hu
        simp only [Option.some.injEq] at h
        subst h
        simp [execOp, resolve, invoke, builtin, Builtin.len_, hx, ht, hρ x _ hs, underlying, hu, goInt]
      · cases h
    · cases h
end Go.Proofs.Ytlkhijflgbobjaa.Lx
