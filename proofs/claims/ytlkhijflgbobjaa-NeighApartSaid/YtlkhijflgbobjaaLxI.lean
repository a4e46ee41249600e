/- The machine 'Lx', part I: make, slicing, copy, clear, min and max, calls of function values. -/
import Derived.Test.YtlkhijflgbobjaaLxH
set_option linter.unusedVariables false
set_option linter.unusedSimpArgs false
namespace Go.Proofs.Ytlkhijflgbobjaa.Lx
open Go
section
variable {β : Type} {c : Cx} {pend : List Pd} {is : List Nat} {m : Env} {h : Loc} {x : M β} {R : List Pd → Env → Loc → M β → Prop}
theorem makeSlice_run {P : Program} {t E bytes : Nat} {α : Type} {cd : Cod α} {z0 : α} {k1 k2 : IntKind} {l k : Int} (ht : P.underlying t = some (.slice E)) (ty : Ty P E cd z0) (hby : (P.info? E).map (·.bytes) = some bytes) {v w v' : World} {r : Sl} (hs : Sub v w) (hq : mkS cd E bytes z0 l k v = some (r, v')) :
    ∃ w', (Instr.makeSlice t (.int k1 l) (.int k2 k)).run P w = .ok r.v w' ∧ Sub v' w' ∧ ∀ b, Husk v b → w'.heap[b]? = w.heap[b]? ∧ v'.heap[b]? = v.heap[b]? := by
  obtain ⟨inf, hi, hsz, hz⟩ := ty.parts
  have hb2 : inf.bytes = bytes := by rw [hi] at hby; simpa using hby
  have hz2 : ∀ w', (zeroValue E).run P w' = .ok (cd.val z0) w' := by intro w'; simp [zeroValue, typeInfo, hi, hz]
  unfold mkS at hq
  split at hq
  · cases hq
  · rename_i hok
    simp only [Option.some.injEq, Prod.mk.injEq] at hq
    obtain ⟨rfl, rfl⟩ := hq
    simp only [not_or, Int.not_lt, Int.not_le] at hok
    obtain ⟨q1, q2, q3, q4⟩ := hok
    have hn1 : ¬ (IntKind.i64.wrap k < 0) := by omega
    have hn2 : ¬ ((bytes : Int) * IntKind.i64.wrap k > 2 ^ 48) := by omega
    have hn3 : ¬ (IntKind.i64.wrap l < 0) := by omega
    have hn4 : ¬ (IntKind.i64.wrap l > IntKind.i64.wrap k) := by omega
    refine ⟨w.alloc (.cells (List.replicate (IntKind.i64.wrap k).toNat (cd.enc z0)).flatten.toArray E), ?_, hs.alloc _, alloc_keep hs _ _⟩
    unfold Instr.makeSlice
    simp only [Sem.run_bind, run_underlying ht, Result.andThen_ok, asInt, asIntOf, Sem.run_pure, run_typeInfo hi, hb2]
    simp only [hn1, hn2, hn3, hn4, decide_false, Bool.or_false, Bool.false_or, Bool.false_eq_true, if_false, Sem.run_bind, run_askRoom, Result.andThen_ok, sizeOf, run_typeInfo hi, Sem.run_pure, hsz]
    by_cases h0 : (IntKind.i64.wrap k).toNat * cd.n = 0
    · have he : (List.replicate (IntKind.i64.wrap k).toNat (cd.enc z0)).flatten = [] := List.eq_nil_of_length_eq_zero (by simp [List.length_flatten, cd.len, h0])
      rw [if_pos h0, h0, he]
      have hr0 : (Array.map (fun x => (#[] : Array Value)[x % (#[] : Array Value).size]!) (Array.range 0)) = #[] := by simp
      simp only [Sem.run_bind, Sem.run_pure, Result.andThen_ok, newRow, run_newObj, hr0]
      rw [hs.size]
      rfl
    · rw [if_neg h0]
      simp only [Sem.run_bind, Sem.run_pure, Result.andThen_ok, newRow, run_newObj, hz2, cd.cells, rowCells]
      rw [hs.size]
      rfl
theorem exec_makeSlice {P : Program} {o : Oper} {t : TypeId} {l k : Operand} {ρ : Operand → Value} {a b y : Value} {w w' : World} (ho : o.op = .makeSlice t l k) (ha : ρ l = a) (hb : ρ k = b) (hr : (Instr.makeSlice t a b).run P w = .ok y w') : (execOp ρ o).run P w = .ok (.value y) w' := by
  rw [exec_of (P := P) ho]
  subst ha
  subst hb
  simp [execOp, hr]
theorem OJ.mk {α : Type} {i d t E bytes : Nat} {lo ko : Operand} {cd : Cod α} {z0 : α} {k1 k2 : IntKind} {l k : Int} {owed : List Pd} {f : Sl → M β} (ty : Ty c.P E cd z0) (hJ : ∀ r : Sl, OW c owed pend is ((d, r.v) :: m) h (f r) R) (hc : core c.ops m i = some (some d, .makeSlice t lo ko) := by kernel_rfl) (ht : c.P.underlying t = some (.slice E) := by kernel_rfl) (hby : (c.P.info? E).map (·.bytes) = some bytes := by kernel_rfl) (hl : evm m lo = some (.int k1 l) := by kernel_rfl) (hk2 : evm m ko = some (.int k2 k) := by kernel_rfl) (hd : Nat.blt d c.n = true := by kernel_rfl) (hk : kdW c.kd i = true := by kernel_rfl) (ho : owes c.bef i pend = owed := by kernel_rfl) : OJ c pend (i :: is) m h (mkS cd E bytes z0 l k >>= f) R := by
  refine OJ.sem (out := Sl.v) hc (fun v w a st r v' e => ?_) hd hk ho hJ
  obtain ⟨w', e1, e2, e3⟩ := makeSlice_run (P := c.P) (t := t) (k1 := k1) (k2 := k2) ht ty hby st.sub e
  exact ⟨w', fun o hop => exec_makeSlice hop (st.eval hl) (st.eval hk2) e1, e2, e3⟩
def evo (m : Env) : Option Operand → Option (Option (IntKind × Int))
  | none => some none
  | some x => match evm m x with
    | some (.int k n) => some (some (k, n))
    | _ => none
theorem evo_spec {n : Nat} {v w : World} {a : Act} (s : St n m h v w a) {x : Option Operand} {y : Option (IntKind × Int)} (hx : evo m x = some y) : x.map a.eval = y.map (fun p => .int p.1 p.2) := by
  cases x with
  | none => simp only [evo, Option.some.injEq] at hx; subst hx; rfl
  | some z =>
    simp only [evo] at hx
    split at hx
    · rename_i k q hq
      simp only [Option.some.injEq] at hx
      subst hx
      simp [s.eval hq]
    · cases hx
theorem bound_run {P : Program} {k : IntKind} {n : Int} {y : Nat} {code : BoundsCode} (h0 : 0 ≤ n) (h1 : n ≤ y) (w : World) : (Instr.sliceBound (.int k n) y code).run P w = .ok n.toNat w := by
  unfold Instr.sliceBound
  simp [asIntOf, h0, h1]
theorem cut_run {P : Program} {t E sz : Nat} (ht : P.underlying t = some (.slice E)) (hE : (P.info? E).map (·.size) = some sz) {s r : Sl} {lo hi mx : Option (IntKind × Int)} {v v' : World} (hmx : mx.isSome = true → hi.isSome = true) (hq : cut sz s (lo.map (·.2)) (hi.map (·.2)) (mx.map (·.2)) v = some (r, v')) :
    v' = v ∧ ∀ w, (Instr.sliceAt t s.v (lo.map fun p => .int p.1 p.2) (hi.map fun p => .int p.1 p.2) (mx.map fun p => .int p.1 p.2)).run P w = .ok r.v w := by
  obtain ⟨inf, hi', rfl⟩ := Option.map_eq_some_iff.1 hE
  unfold cut at hq
  simp only at hq
  split at hq
  · rename_i hb
    simp only [Option.some.injEq, Prod.mk.injEq] at hq
    obtain ⟨rfl, rfl⟩ := hq
    refine ⟨rfl, fun w => ?_⟩
    obtain ⟨b1, b2, b3, b4, b5, b6⟩ := hb
    unfold Instr.sliceAt
    simp only [Sem.run_bind, run_underlying ht, Result.andThen_ok]
    unfold Instr.slice
    simp only [Sem.run_bind, run_underlying ht, Result.andThen_ok, Sl.v]
    have hbd : (Instr.sliceBounds true s.len s.cap (lo.map fun p => .int p.1 p.2) (hi.map fun p => .int p.1 p.2) (mx.map fun p => .int p.1 p.2)).run P w = .ok (((lo.map (·.2)).getD (0 : Int)).toNat, ((hi.map (·.2)).getD (s.len : Int)).toNat, ((mx.map (·.2)).getD (s.cap : Int)).toNat) w := by
      unfold Instr.sliceBounds
      cases mx with
      | none =>
        cases hi with
        | none =>
          cases lo with
          | none => simp
          | some l =>
            simp only [Option.map_none, Option.map_some, Option.getD_none, Option.getD_some] at b1 b2 b3 b4 b5 b6 ⊢
            simp only [Sem.run_bind, Sem.run_pure, Result.andThen_ok]
            rw [bound_run b5 (by omega)]
            simp
        | some hh =>
          simp only [Option.map_none, Option.map_some, Option.getD_none, Option.getD_some] at b1 b2 b3 b4 b5 b6 ⊢
          simp only [Sem.run_bind, Sem.run_pure, Result.andThen_ok]
          rw [bound_run b3 (by omega)]
          cases lo with
          | none => simp
          | some l =>
            simp only [Option.map_none, Option.map_some, Option.getD_none, Option.getD_some, Result.andThen_ok, Sem.run_bind] at b5 b6 ⊢
            rw [bound_run b5 (by omega)]
            simp
      | some mm =>
        obtain ⟨hh, rfl⟩ := Option.isSome_iff_exists.1 (hmx rfl)
        simp only [Option.map_none, Option.map_some, Option.getD_none, Option.getD_some] at b1 b2 b3 b4 b5 b6 ⊢
        simp only [Sem.run_bind, Sem.run_pure, Result.andThen_ok]
        rw [bound_run b1 (by omega)]
        simp only [Result.andThen_ok, Sem.run_bind]
        rw [bound_run b3 (by omega)]
        cases lo with
        | none => simp
        | some l =>
          simp only [Option.map_none, Option.map_some, Option.getD_none, Option.getD_some, Result.andThen_ok, Sem.run_bind] at b5 b6 ⊢
          rw [bound_run b5 (by omega)]
          simp
    rw [hbd]
    simp only [Result.andThen_ok, sizeOf, Sem.run_bind, run_typeInfo hi', Sem.run_pure]
  · cases hq
theorem exec_slice {P : Program} {o : Oper} {t : TypeId} {y : Operand} {lo hi mx : Option Operand} {ρ : Operand → Value} {z : Value} {w w' : World} (ho : o.op = .slice t y lo hi mx) (hr : (Instr.sliceAt t (ρ y) (lo.map ρ) (hi.map ρ) (mx.map ρ)).run P w = .ok z w') : (execOp ρ o).run P w = .ok (.value z) w' := by
  rw [exec_of (P := P) ho]
  simp [execOp, hr]
theorem OJ.cut {i d t E sz : Nat} {y : Operand} {lo hi mx : Option Operand} {lo' hi' mx' : Option (IntKind × Int)} {s : Sl} {f : Sl → M β} (hmx : (mx'.isSome = true → hi'.isSome = true)) (hJ : ∀ r : Sl, OJ c pend is ((d, r.v) :: m) h (f r) R) (hc : core c.ops m i = some (some d, .slice t y lo hi mx) := by kernel_rfl) (ht : c.P.underlying t = some (.slice E) := by kernel_rfl) (hE : (c.P.info? E).map (·.size) = some sz := by kernel_rfl) (hy : evm m y = some s.v := by kernel_rfl) (hl : evo m lo = some lo' := by kernel_rfl) (hh : evo m hi = some hi' := by kernel_rfl) (hm : evo m mx = some mx' := by kernel_rfl) (hk : kdP c.kd i = true := by kernel_rfl) (hn : noW c.kd [i] pend = true := by kernel_rfl) (hd : Nat.blt d c.n = true := by kernel_rfl) : OJ c pend (i :: is) m h (cut sz s (lo'.map (·.2)) (hi'.map (·.2)) (mx'.map (·.2)) >>= f) R := by
  refine OJ.q hc hk hn hd fun v r v' e w a st => ?_
  obtain ⟨q, v1, h1, h2⟩ := bind_some.1 e
  obtain ⟨rfl, hrun⟩ := cut_run (P := c.P) ht hE hmx h1
  refine ⟨_, _, fun oo ho w' => exec_slice ho ?_, h2, hJ q⟩
  rw [st.eval hy, evo_spec st hl, evo_spec st hh, evo_spec st hm]
  exact hrun w'
theorem cpy_run {P : Program} {t u E ty : Nat} {α : Type} {cd : Cod α} {z0 : α} (ht : P.underlying t = some (.slice E)) (tyE : Ty P E cd z0) {d s : Sl} {v w v' : World} {r : Int} (hs : Sub v w) (hq : cpyS cd d s v = some (r, v')) :
    ∃ w', (Builtin.copy_ #[t, u] ty #[d.v, s.v]).run P w = .ok (.int .i64 r) w' ∧ Sub v' w' ∧ ∀ b, Husk v b → w'.heap[b]? = w.heap[b]? ∧ v'.heap[b]? = v.heap[b]? := by
  obtain ⟨inf, hi, hsz, hz⟩ := tyE.parts
  obtain ⟨l, hl, h2⟩ := Option.bind_eq_some_iff.1 hq
  have hf := firstCells_run (P := P) (k := s.len) (cap := s.cap) (size := cd.n) (n := Nat.min s.len d.len) hs hl
  unfold cpyC at h2
  split at h2
  · cases h2
  · rename_i hpl
    have hflat := all_flat (l := l) (by simpa using hpl)
    unfold Builtin.copy_
    simp only [List.getElem?_toArray, List.getElem?_cons_zero, List.getElem?_cons_succ, Sem.run_bind, run_underlying ht, Result.andThen_ok, Sl.v, Builtin.lenOf, Sem.run_pure, sizeOf, run_typeInfo hi, hsz]
    rw [hf]
    simp only [Result.andThen_ok]
    cases ha : d.a with
    | none =>
      rw [ha] at h2
      simp only [Option.some.injEq, Prod.mk.injEq] at h2
      obtain ⟨rfl, rfl⟩ := h2
      exact ⟨w, by simp [goInt], hs, fun _ _ => ⟨rfl, rfl⟩⟩
    | some a =>
      rw [ha] at h2
      obtain ⟨v1, hv1, h3⟩ := Option.map_eq_some_iff.1 h2
      simp only [Prod.mk.injEq] at h3
      obtain ⟨rfl, rfl⟩ := h3
      obtain ⟨w1, e1, e2, e3⟩ := storeCells_run P a l 0 v v1 w hflat hv1 hs
      exact ⟨w1, by simp [e1, goInt], e2, e3⟩
theorem exec_builtin2 {P : Program} {o : Oper} {b : Builtin} {s x : Operand} {t u : TypeId} {ρ : Operand → Value} {y : Value} {w w' : World} (ho : o.op = .call { callee := .builtin b, args := #[s, x], argTypes := #[t, u] }) (hr : ∀ ty cs, (builtin b #[t, u] ty cs #[ρ s, ρ x]).run P w = .ok (.value y) w') : (execOp ρ o).run P w = .ok (.value y) w' := by
  obtain ⟨dst, op, type, pos, after, guard⟩ := o
  simp only at ho
  subst ho
  simp only [execOp, resolve, Sem.run_bind, Sem.run_pure, Result.andThen_ok, invoke]
  simp only [List.map_toArray, List.map_cons, List.map_nil]
  exact hr _ _
theorem exec_builtin1 {P : Program} {o : Oper} {b : Builtin} {s : Operand} {t : TypeId} {ρ : Operand → Value} {y : Value} {w w' : World} (ho : o.op = .call { callee := .builtin b, args := #[s], argTypes := #[t] }) (hr : ∀ ty cs, (builtin b #[t] ty cs #[ρ s]).run P w = .ok (.value y) w') : (execOp ρ o).run P w = .ok (.value y) w' := by
  obtain ⟨dst, op, type, pos, after, guard⟩ := o
  simp only at ho
  subst ho
  simp only [execOp, resolve, Sem.run_bind, Sem.run_pure, Result.andThen_ok, invoke]
  simp only [List.map_toArray, List.map_cons, List.map_nil]
  exact hr _ _
theorem OJ.cpyG {α : Type} {i t u E : Nat} {dst : Option Nat} {so xo : Operand} {cd : Cod α} {z0 : α} {d s : Sl} {owed : List Pd} {f : Int → M β} (m2 : Int → Env) (hc : core c.ops m i = some (dst, .call { callee := .builtin .copy, args := #[so, xo], argTypes := #[t, u] })) (ht : c.P.underlying t = some (.slice E)) (ty : Ty c.P E cd z0) (hs : evm m so = some d.v) (hx : evm m xo = some s.v)
    (hm2 : (∃ t, dst = some t ∧ t < c.n ∧ ∀ q, m2 q = (t, .int .i64 q) :: m) ∨ (dst = none ∧ ∀ q, m2 q = m)) (hk : kdW c.kd i = true) (ho : owes c.bef i pend = owed) (hJ : ∀ r, OW c owed pend is (m2 r) h (f r) R) : OJ c pend (i :: is) m h (cpyS cd d s >>= f) R := by
  refine OJ.wr hc hk ho fun v r v' e w a st D hD => ?_
  obtain ⟨y, v1, h1, h2⟩ := bind_some.1 e
  obtain ⟨w1, e1, e2, e3⟩ := cpy_run (P := c.P) (u := u) (ty := 0) ht ty st.sub h1
  refine ⟨.int .i64 y, w1, v1, f y, m2 y, h, fun o hop => .inl (exec_builtin2 hop fun ty' cs => ?_), h2, ?_, Kp.of hD e3, hJ y⟩
  · rw [st.eval hs, st.eval hx]
    have : (Builtin.copy_ #[t, u] ty' #[d.v, s.v]) = Builtin.copy_ #[t, u] 0 #[d.v, s.v] := rfl
    simp only [builtin, Sem.run_bind, this, e1, Result.andThen_ok, Sem.run_pure]
  · rcases hm2 with ⟨d', rfl, hd, e4⟩ | ⟨rfl, e4⟩
    · rw [e4]
      exact ⟨e2, by simp [Act.put, st.size], st.defers, lk_put hd st.size st.get, Loc.keep st e3, st.nd⟩
    · rw [e4]
      exact ⟨e2, st.size, st.defers, st.get, Loc.keep st e3, st.nd⟩
theorem OJ.min {i d : Nat} {so xo : Operand} {t u : TypeId} {k : IntKind} {p q : Int} (hJ : OJ c pend is ((d, .int k (if q < p then q else p)) :: m) h x R) (hc : core c.ops m i = some (some d, .call { callee := .builtin .min, args := #[so, xo], argTypes := #[t, u] }) := by kernel_rfl) (hs : evm m so = some (.int k p) := by kernel_rfl) (hx : evm m xo = some (.int k q) := by kernel_rfl) (hk : kdP c.kd i = true := by kernel_rfl) (hn : noW c.kd [i] pend = true := by kernel_rfl) (hd : Nat.blt d c.n = true := by kernel_rfl) : OJ c pend (i :: is) m h x R := by
  refine OJ.q hc hk hn hd fun v r v' e w a s => ?_
  refine ⟨_, _, fun oo ho w' => exec_builtin2 ho fun ty' cs => ?_, e, hJ⟩
  rw [s.eval hs, s.eval hx]
  simp [builtin, Builtin.min_, Builtin.min2]
theorem OJ.max {i d : Nat} {so xo : Operand} {t u : TypeId} {k : IntKind} {p q : Int} (hJ : OJ c pend is ((d, .int k (if p < q then q else p)) :: m) h x R) (hc : core c.ops m i = some (some d, .call { callee := .builtin .max, args := #[so, xo], argTypes := #[t, u] }) := by kernel_rfl) (hs : evm m so = some (.int k p) := by kernel_rfl) (hx : evm m xo = some (.int k q) := by kernel_rfl) (hk : kdP c.kd i = true := by kernel_rfl) (hn : noW c.kd [i] pend = true := by kernel_rfl) (hd : Nat.blt d c.n = true := by kernel_rfl) : OJ c pend (i :: is) m h x R := by
  refine OJ.q hc hk hn hd fun v r v' e w a s => ?_
  refine ⟨_, _, fun oo ho w' => exec_builtin2 ho fun ty' cs => ?_, e, hJ⟩
  rw [s.eval hs, s.eval hx]
  simp [builtin, Builtin.max_, Builtin.max2]
def RefV (P : Program) (fv : Value) {α : Type} (vals : List Value) (y : M α) (out : α → Value) : Prop :=
  ∃ g fn first cap, fv = .func (.func g) first.toArray cap.toArray ∧ Fun P g fn ∧ Ref P g (first ++ vals ++ cap) y out
theorem RefV.of {P : Program} {g : FuncId} {fn : Func} {first cap vals : List Value} {α : Type} {y : M α} {out : α → Value} (hf : Fun P g fn) (hr : Ref P g (first ++ vals ++ cap) y out) : RefV P (.func (.func g) first.toArray cap.toArray) vals y out := ⟨g, fn, first, cap, rfl, hf, hr⟩
theorem OJ.callV {α : Type} {i : Nat} {dst : Option Nat} {args : List Operand} {ats : Array TypeId} {fo : Operand} {fv : Value} {vals : List Value} {y : M α} {out : α → Value} {owed : List Pd} {f : α → M β} (m2 : α → Env) (hc : core c.ops m i = some (dst, .call { callee := .value fo, args := args.toArray, argTypes := ats }))
    (hfo : evm m fo = some fv) (hv : evms m args = some vals) (hy : RefV c.P fv vals y out) (hm2 : (∃ d, dst = some d ∧ d < c.n ∧ ∀ q, m2 q = (d, out q) :: m) ∨ (dst = none ∧ ∀ q, m2 q = m)) (hk : kdW c.kd i = true) (ho : owes c.bef i pend = owed)
    (hJ : ∀ q, OW c owed pend is (m2 q) h (f q) R) : OJ c pend (i :: is) m h (y >>= f) R := by
  obtain ⟨g, fn, first, cap, rfl, hf, hr⟩ := hy
  exact OJ.callAny m2 hc hf hfo hv hr hm2 hk ho hJ
theorem OJ.callV1 {α : Type} {i d : Nat} {args : List Operand} {ats : Array TypeId} {fo : Operand} {fv : Value} {vals : List Value} {y : M α} {out : α → Value} {owed : List Pd} {f : α → M β} (hy : RefV c.P fv vals y out) (hJ : ∀ q, OW c owed pend is ((d, out q) :: m) h (f q) R) (hc : core c.ops m i = some (some d, .call { callee := .value fo, args := args.toArray, argTypes := ats }) := by kernel_rfl) (hfo : evm m fo = some fv := by kernel_rfl) (hv : evms m args = some vals := by kernel_rfl) (hd : Nat.blt d c.n = true := by kernel_rfl) (hk : kdW c.kd i = true := by kernel_rfl) (ho : owes c.bef i pend = owed := by kernel_rfl) : OJ c pend (i :: is) m h (y >>= f) R :=
  OJ.callV (fun q => (d, out q) :: m) hc hfo hv hy (.inl ⟨d, rfl, by simpa [Nat.blt_eq] using hd, fun _ => rfl⟩) hk ho hJ
theorem OJ.cpy1 {α : Type} {i n t u E : Nat} {so xo : Operand} {cd : Cod α} {z0 : α} {d s : Sl} {owed : List Pd} {f : Int → M β} (ty : Ty c.P E cd z0) (hJ : ∀ r, OW c owed pend is ((n, .int .i64 r) :: m) h (f r) R) (hc : core c.ops m i = some (some n, .call { callee := .builtin .copy, args := #[so, xo], argTypes := #[t, u] }) := by kernel_rfl) (ht : c.P.underlying t = some (.slice E) := by kernel_rfl) (hs : evm m so = some d.v := by kernel_rfl) (hx : evm m xo = some s.v := by kernel_rfl) (hd : Nat.blt n c.n = true := by kernel_rfl) (hk : kdW c.kd i = true := by kernel_rfl) (ho : owes c.bef i pend = owed := by kernel_rfl) : OJ c pend (i :: is) m h (cpyS cd d s >>= f) R :=
  OJ.cpyG (fun r => (n, .int .i64 r) :: m) hc ht ty hs hx (.inl ⟨n, rfl, by simpa [Nat.blt_eq] using hd, fun _ => rfl⟩) hk ho hJ
end
theorem At.zero {l m : List Value} {o : Nat} (h : At l o m) : At l (0 + o) m := by rw [Nat.zero_add]; exact h
theorem Upd.zero {l m l' : List Value} {o : Nat} (h : Upd l o m l') : Upd l (0 + o) m l' := by rw [Nat.zero_add]; exact h
end Go.Proofs.Ytlkhijflgbobjaa.Lx
