/- The machine 'Lx', part H: rows of slices: a literal row, append, make, copy, clear; slicing; bytes and texts. -/
import Derived.Test.YtlkhijflgbobjaaLxG
set_option linter.unusedVariables false
set_option linter.unusedSimpArgs false
namespace Go.Proofs.Ytlkhijflgbobjaa.Lx
open Go
def rdR (v : World) (p : Option Addr) (k : Nat) : Option (List Value) := match p with
  | some a => rdF v a 0 k
  | none => some []
def grow (E : TypeId) (size bytes : Nat) (z : List Value) (s : Sl) (n : Nat) (new : List Value) : M Sl := fun v =>
  if !(new.all plainV) then none else
  if s.len + n ≤ s.cap then
    match s.a with
    | some a => (wrF v (a.add (s.len * size)) 0 new).map fun v' => (⟨some a, s.len + n, s.cap⟩, v')
    | none => some (⟨none, s.len + n, s.cap⟩, v)
  else if ((s.len + n : Nat) : Int) > IntKind.i64.max ∧ bytes = 0 then none
  else if Builtin.nextslicecap (s.len + n) s.cap * bytes > 2 ^ 48 then none
  else
    (rdR v s.a (s.len * size)).map fun old => (⟨some (pt v.heap.size 0), s.len + n, (Question.appendCap (s.len + n) s.cap E).cut (v.tape v.drawn (.appendCap (s.len + n) s.cap E))⟩,
      v.drew.alloc (.cells (old ++ new ++ (Builtin.zeroCells z.toArray ((Question.appendCap (s.len + n) s.cap E).cut (v.tape v.drawn (.appendCap (s.len + n) s.cap E)) - (s.len + n))).toList).toArray E))
def appl {α : Type} (cd : Cod α) (E : TypeId) (bytes : Nat) (z : α) (s : Sl) (l : List α) : M Sl := grow E cd.n bytes (cd.enc z) s l.length (l.flatMap cd.enc)
def appS {α : Type} (cd : Cod α) (E : TypeId) (bytes : Nat) (z : α) (s x : Sl) : M Sl := fun v => (rdR v x.a (x.len * cd.n)).bind fun new => grow E cd.n bytes (cd.enc z) s x.len new v
def mkS {α : Type} (cd : Cod α) (E : TypeId) (bytes : Nat) (z : α) (l k : Int) : M Sl := fun v =>
  if IntKind.i64.wrap k < 0 ∨ bytes * IntKind.i64.wrap k > 2 ^ 48 ∨ IntKind.i64.wrap l < 0 ∨ IntKind.i64.wrap l > IntKind.i64.wrap k then none
  else some (⟨some (pt v.heap.size 0), (IntKind.i64.wrap l).toNat, (IntKind.i64.wrap k).toNat⟩, v.alloc (.cells (List.replicate (IntKind.i64.wrap k).toNat (cd.enc z)).flatten.toArray E))
def cpyC (d : Sl) (n : Nat) (l : List Value) : M Int := fun v =>
  if !(l.all plainV) then none else
  match d.a with
  | some a => (wrF v a 0 l).map fun v' => ((n : Int), v')
  | none => some ((n : Int), v)
def cpyS {α : Type} (cd : Cod α) (d s : Sl) : M Int := fun v => (rdR v s.a (Nat.min s.len d.len * cd.n)).bind fun l => cpyC d (Nat.min s.len d.len) l v
def cut (size : Nat) (s : Sl) (lo hi mx : Option Int) : M Sl := fun v =>
  let m : Int := mx.getD s.cap
  let h : Int := hi.getD s.len
  let l : Int := lo.getD 0
  if 0 ≤ m ∧ m ≤ s.cap ∧ 0 ≤ h ∧ h ≤ m ∧ 0 ≤ l ∧ l ≤ h then some (⟨if m.toNat = l.toNat then s.a else s.a.map (·.add (l.toNat * size)), h.toNat - l.toNat, m.toNat - l.toNat⟩, v) else none
section
variable {P : Program}
theorem plainV_flat {y : Value} (h : plainV y = true) : (∀ cs, y ≠ .agg cs) ∧ ∀ cs, y ≠ .tuple cs := ⟨fun cs e => (by rw [e] at h; cases h), fun cs e => (by rw [e] at h; cases h)⟩
theorem all_flat {l : List Value} (h : l.all plainV = true) : ∀ y ∈ l, (∀ cs, y ≠ .agg cs) ∧ ∀ cs, y ≠ .tuple cs := fun y hy => plainV_flat (List.all_eq_true.1 h y hy)
theorem alloc_keep {v w : World} (hs : Sub v w) (o o' : Obj) : ∀ b, Husk v b → (w.alloc o').heap[b]? = w.heap[b]? ∧ (v.alloc o).heap[b]? = v.heap[b]? := by
  intro b hb
  refine ⟨?_, hb.alloc o⟩
  have := hb.lt
  show (w.heap.push o')[b]? = _
  rw [Array.getElem?_push, if_neg (by rw [hs.size]; omega)]
theorem firstCells_run {v w : World} (hs : Sub v w) {p : Option Addr} {n k size : Nat} {cap : Nat} {l : List Value} (hr : rdR v p (n * size) = some l) : (Builtin.firstCells size n (.slice p k cap)).run P w = .ok l.toArray w := by
  cases p with
  | none =>
    simp only [rdR, Option.some.injEq] at hr
    subst hr
    simp [Builtin.firstCells]
  | some a =>
    simp only [rdR] at hr
    have := loadCells_run P w a _ 0 #[] _ (rdF_sub hs a _ _ _ hr)
    simpa [Builtin.firstCells, loadCells] using this
theorem rdF_drew (v : World) (a : Addr) : ∀ (n i : Nat), rdF v.drew a i n = rdF v a i n
  | 0, i => rfl
  | n + 1, i => by
    unfold rdF
    rw [rdF_drew v a n (i + 1)]
    rfl
theorem rdR_drew (v : World) (p : Option Addr) (n : Nat) : rdR v.drew p n = rdR v p n := by
  cases p
  · rfl
  · exact rdF_drew v _ n 0
def rowT (P : Program) (u : TypeId) : Bool := match P.underlying u with
  | some (.slice _) => true
  | some .string => true
  | _ => false
theorem rowT_eq {u : TypeId} (h : rowT P u = true) : (∃ e, P.underlying u = some (.slice e)) ∨ P.underlying u = some .string := by
  unfold rowT at h
  split at h
  · exact .inl ⟨_, by assumption⟩
  · exact .inr (by assumption)
  · cases h
theorem append_sim {t u E : TypeId} {i : TypeInfo} {z : Value} {ty : TypeId} {xv : Value} {s : Sl} {n : Nat} {new : List Value} (ht : P.underlying t = some (.slice E)) (hu : rowT P u = true) (hi : P.info? E = some i) (hz : i.zero = some z)
    {v w : World} (hs : Sub v w) (hlen : ∀ w', (Builtin.lenOf xv).run P w' = .ok n w') (h0 : (Builtin.firstCells i.size n xv).run P w = .ok new.toArray w) (h1 : (Builtin.firstCells i.size n xv).run P w.drew = .ok new.toArray w.drew) {r : Sl} {v' : World} (hg : grow E i.size i.bytes z.cells.toList s n new v = some (r, v')) :
    ∃ w', (Builtin.append_ #[t, u] ty #[s.v, xv]).run P w = .ok r.v w' ∧ Sub v' w' ∧ ∀ b, Husk v b → w'.heap[b]? = w.heap[b]? ∧ v'.heap[b]? = v.heap[b]? := by
  have hzv : ∀ w', (zeroValue E).run P w' = .ok z w' := by intro w'; simp [zeroValue, typeInfo, hi, hz]
  have hti : ∀ w', (typeInfo E).run P w' = .ok i w' := fun w' => run_typeInfo hi w'
  unfold grow at hg
  split at hg
  · cases hg
  · rename_i hpl
    have hflat := all_flat (l := new) (by simpa using hpl)
    unfold Builtin.append_
    rcases rowT_eq hu with ⟨e', hd⟩ | hd
    all_goals
      simp only [List.getElem?_toArray, List.getElem?_cons_zero, List.getElem?_cons_succ, Sl.v, Sem.run_bind, run_underlying ht, run_underlying hd, Result.andThen_ok, sizeOf, hti, Sem.run_pure, Bool.false_eq_true, if_false, hlen]
      split at hg
      · rename_i hfit
        simp only [if_pos hfit, Bool.not_false, if_true, Sem.run_bind, h0, Result.andThen_ok]
        cases ha : s.a with
        | none =>
          rw [ha] at hg
          simp only [Option.some.injEq, Prod.mk.injEq] at hg
          obtain ⟨rfl, rfl⟩ := hg
          exact ⟨w, by simp, hs, fun _ _ => ⟨rfl, rfl⟩⟩
        | some a =>
          rw [ha] at hg
          obtain ⟨v1, hv1, h2⟩ := Option.map_eq_some_iff.1 hg
          simp only [Prod.mk.injEq] at h2
          obtain ⟨rfl, rfl⟩ := h2
          obtain ⟨w1, e1, e2, e3⟩ := storeCells_run P (a.add (s.len * i.size)) new 0 v v1 w hflat hv1 hs
          refine ⟨w1, ?_, e2, e3⟩
          simp [e1]
      · rename_i hfit
        split at hg
        · cases hg
        · rename_i h63
          split at hg
          · cases hg
          · rename_i h48
            obtain ⟨old, hold, h2⟩ := Option.map_eq_some_iff.1 hg
            simp only [Prod.mk.injEq] at h2
            obtain ⟨rfl, rfl⟩ := h2
            have hold' : rdR v.drew s.a (s.len * i.size) = some old := by rw [rdR_drew]; exact hold
            have hfo := firstCells_run (P := P) (k := s.len) (cap := s.cap) (hs.drew) hold'
            simp only [if_neg hfit, Bool.false_eq_true, false_or, Sem.run_bind, Sem.run_pure, Result.andThen_ok, hti]
            rw [if_neg (by simpa using h63)]
            simp only [Sem.run_pure, Result.andThen_ok, Sem.run_bind, hti]
            rw [if_neg h48]
            simp only [Sem.run_pure, Result.andThen_ok, Sem.run_bind, run_choose, Question.forced, Bool.false_eq_true, if_false, run_askRoom, hti]
            have hd' : ({ w with drawn := w.drawn + 1 } : World) = w.drew := rfl
            rw [hd', hfo]
            simp only [Result.andThen_ok, Bool.not_false, if_true, h1, hzv, newRow, Sem.run_bind, run_newObj, Sem.run_pure]
            have htape : w.tape = v.tape := hs.tape
            have hdrawn : w.drawn = v.drawn := hs.drawn
            have hsz : w.drew.heap.size = v.heap.size := hs.size
            refine ⟨w.drew.alloc _, ?_, (hs.drew).alloc _, fun b hb => ?_⟩
            · show Result.ok _ _ = Result.ok _ _
              congr 1
              · simp only [hsz, htape, hdrawn]
                rfl
              · simp only [htape, hdrawn]
                show w.drew.alloc _ = w.drew.alloc _
                congr 2
                simp
            · exact alloc_keep (v := v.drew) (hs.drew) _ _ b hb
end
section
variable {β : Type} {c : Cx} {pend : List Pd} {is : List Nat} {m : Env} {h : Loc} {x : M β} {R : List Pd → Env → Loc → M β → Prop}
theorem OJ.sem {α : Type} {i : Nat} {d : Nat} {op : Op} {q : M α} {out : α → Value} {owed : List Pd} {f : α → M β} (hc : core c.ops m i = some (some d, op))
    (hq : ∀ v w a, St c.n m h v w a → ∀ r v', q v = some (r, v') → ∃ w', (∀ o : Oper, o.op = op → (execOp a.eval o).run c.P w = .ok (.value (out r)) w') ∧ Sub v' w' ∧ ∀ b, Husk v b → w'.heap[b]? = w.heap[b]? ∧ v'.heap[b]? = v.heap[b]?)
    (hd : Nat.blt d c.n = true) (hk : kdW c.kd i = true) (ho : owes c.bef i pend = owed) (hJ : ∀ r, OW c owed pend is ((d, out r) :: m) h (f r) R) : OJ c pend (i :: is) m h (q >>= f) R := by
  refine OJ.wr hc hk ho fun v r v' e w a s D hD => ?_
  obtain ⟨y, v1, h1, h2⟩ := bind_some.1 e
  obtain ⟨w1, hr, hs1, hkp⟩ := hq v w a s y v1 h1
  have hlt : d < c.n := by simpa [Nat.blt_eq] using hd
  exact ⟨out y, w1, v1, f y, (d, out y) :: m, h, fun o hop => .inl (hr o hop), h2, ⟨hs1, by simp [Act.put, s.size], s.defers, lk_put hlt s.size s.get, Loc.keep s hkp, s.nd⟩, Kp.of hD hkp, hJ y⟩
theorem Ty.parts {P : Program} {T : TypeId} {α : Type} {cd : Cod α} {z0 : α} (ty : Ty P T cd z0) : ∃ i, P.info? T = some i ∧ i.size = cd.n ∧ i.zero = some (cd.val z0) := by
  obtain ⟨i, hi, he⟩ := Option.map_eq_some_iff.1 ty.info
  simp only [Prod.mk.injEq] at he
  exact ⟨i, hi, he.1, he.2⟩
theorem exec_append {P : Program} {o : Oper} {s x : Operand} {t u : TypeId} {ρ : Operand → Value} {sv xv y : Value} {w w' : World} (ho : o.op = .call { callee := .builtin .append, args := #[s, x], argTypes := #[t, u] }) (hs : ρ s = sv) (hx : ρ x = xv) (hr : ∀ ty, (Builtin.append_ #[t, u] ty #[sv, xv]).run P w = .ok y w') : (execOp ρ o).run P w = .ok (.value y) w' := by
  obtain ⟨dst, op, type, pos, after, guard⟩ := o
  simp only at ho
  subst ho
  simp only [execOp, resolve, Sem.run_bind, Sem.run_pure, Result.andThen_ok, invoke, builtin]
  simp only [List.map_toArray, List.map_cons, List.map_nil, hs, hx, Sem.run_bind, hr, Result.andThen_ok, Sem.run_pure]
set_option maxHeartbeats 800000 in
theorem OJ.appl {α : Type} {i d t u E bytes j b n : Nat} {so xo : Operand} {cd : Cod α} {z0 : α} {s : Sl} {l : List Value} {k : Nat} (xs : List α) {owed : List Pd} {f : Sl → M β} (ty : Ty c.P E cd z0) (hj : h[j]? = some (b, l)) (hl : l = xs.flatMap cd.enc) (hn : xs.length = n) (hJ : ∀ r : Sl, OW c owed pend is ((d, r.v) :: m) h (f r) R) (hc : core c.ops m i = some (some d, .call { callee := .builtin .append, args := #[so, xo], argTypes := #[t, u] }) := by kernel_rfl) (ht : c.P.underlying t = some (.slice E) := by kernel_rfl) (hu : rowT c.P u = true := by kernel_rfl) (hby : (c.P.info? E).map (·.bytes) = some bytes := by kernel_rfl) (hs : evm m so = some s.v := by kernel_rfl) (hx : evm m xo = some (.slice (some (pt b 0)) n k) := by kernel_rfl) (hd : Nat.blt d c.n = true := by kernel_rfl) (hk : kdW c.kd i = true := by kernel_rfl) (ho : owes c.bef i pend = owed := by kernel_rfl) : OJ c pend (i :: is) m h (appl cd E bytes z0 s xs >>= f) R := by
  refine OJ.sem (out := Sl.v) hc (fun v w a st r v' e => ?_) hd hk ho hJ
  obtain ⟨inf, hi, hsz, hz⟩ := ty.parts
  have hb2 : inf.bytes = bytes := by rw [hi] at hby; simpa using hby
  obtain ⟨hh, T', hT⟩ := st.known hj
  have hlen : l.length = n * inf.size := by rw [hl, ← hn, hsz]; simp [List.length_flatMap, cd.len, Function.comp_def, List.map_const', List.sum_replicate_nat]
  have hrd : ∀ w', w'.heap = w.heap → (Builtin.firstCells inf.size n (.slice (some (pt b 0)) n k)).run c.P w' = .ok l.toArray w' := by
    intro w' hw'
    have h1 : rdF w' (pt b 0) 0 l.length = some l := rdF_at (by rw [hw']; exact hT) (At.whole l)
    rw [hlen] at h1
    have := loadCells_run c.P w' (pt b 0) _ 0 #[] _ h1
    simpa [Builtin.firstCells, loadCells] using this
  obtain ⟨w', e1, e2, e3⟩ := append_sim (P := c.P) (t := t) (u := u) (ty := 0) (xv := .slice (some (pt b 0)) n k) ht hu hi hz st.sub (fun w' => rfl) (hrd w rfl) (hrd w.drew rfl) (s := s) (r := r) (v' := v') (by
    unfold Lx.appl at e
    rw [hn, ← hl] at e
    rw [hsz, hb2, cd.cells]
    exact e)
  refine ⟨w', fun o hop => exec_append hop (st.eval hs) (st.eval hx) (fun ty => e1), e2, e3⟩
theorem OJ.appS {α : Type} {i d t u E bytes : Nat} {so xo : Operand} {cd : Cod α} {z0 : α} {s y : Sl} {owed : List Pd} {f : Sl → M β} (ty : Ty c.P E cd z0) (hJ : ∀ r : Sl, OW c owed pend is ((d, r.v) :: m) h (f r) R) (hc : core c.ops m i = some (some d, .call { callee := .builtin .append, args := #[so, xo], argTypes := #[t, u] }) := by kernel_rfl) (ht : c.P.underlying t = some (.slice E) := by kernel_rfl) (hu : rowT c.P u = true := by kernel_rfl) (hby : (c.P.info? E).map (·.bytes) = some bytes := by kernel_rfl) (hs : evm m so = some s.v := by kernel_rfl) (hx : evm m xo = some y.v := by kernel_rfl) (hd : Nat.blt d c.n = true := by kernel_rfl) (hk : kdW c.kd i = true := by kernel_rfl) (ho : owes c.bef i pend = owed := by kernel_rfl) : OJ c pend (i :: is) m h (appS cd E bytes z0 s y >>= f) R := by
  refine OJ.sem (out := Sl.v) hc (fun v w a st r v' e => ?_) hd hk ho hJ
  obtain ⟨inf, hi, hsz, hz⟩ := ty.parts
  have hb2 : inf.bytes = bytes := by rw [hi] at hby; simpa using hby
  obtain ⟨new, hnew, hg⟩ := Option.bind_eq_some_iff.1 e
  have h0 := firstCells_run (P := c.P) (k := y.len) (cap := y.cap) (size := inf.size) (n := y.len) st.sub (by rw [hsz]; exact hnew)
  have h1 := firstCells_run (P := c.P) (k := y.len) (cap := y.cap) (size := inf.size) (n := y.len) (st.sub.drew) (by rw [rdR_drew, hsz]; exact hnew)
  obtain ⟨w', e1, e2, e3⟩ := append_sim (P := c.P) (t := t) (u := u) (ty := 0) (xv := y.v) ht hu hi hz st.sub (fun w' => rfl) h0 h1 (s := s) (r := r) (v' := v') (by
    rw [hsz, hb2, cd.cells]
    exact hg)
  refine ⟨w', fun o hop => exec_append hop (st.eval hs) (st.eval hx) (fun ty => e1), e2, e3⟩
theorem rowCells {α : Type} (cd : Cod α) (z : α) : ∀ (n : Nat), ((Array.range (n * cd.n)).map fun i => ((cd.enc z).toArray[i % (cd.enc z).toArray.size]! : Value)) = (List.replicate n (cd.enc z)).flatten.toArray := by
  intro n
  by_cases h0 : cd.n = 0
  · have he : cd.enc z = [] := List.eq_nil_of_length_eq_zero (by rw [cd.len, h0])
    simp [h0, he]
  · apply Array.ext_getElem?
    intro i
    have hlen : (List.replicate n (cd.enc z)).flatten.length = n * cd.n := by simp [List.length_flatten, cd.len]
    by_cases hi : i < n * cd.n
    · have key : ∀ (n i : Nat), i < n * cd.n → (List.replicate n (cd.enc z)).flatten[i]? = (cd.enc z)[i % cd.n]? := by
        intro n
        induction n with
        | zero => intro i hi; simp at hi
        | succ n ih =>
          intro i hi
          rw [List.replicate_succ, List.flatten_cons]
          by_cases hlt : i < cd.n
          · rw [List.getElem?_append_left (by rw [cd.len]; exact hlt), Nat.mod_eq_of_lt hlt]
          · rw [List.getElem?_append_right (by rw [cd.len]; omega), cd.len, ih (i - cd.n) (by rw [Nat.succ_mul] at hi; omega), Nat.mod_eq_sub_mod (show i ≥ cd.n by omega)]
      have hm : i % cd.n < (cd.enc z).length := by rw [cd.len]; exact Nat.mod_lt _ (by omega)
      simp only [Array.getElem?_map, Array.getElem?_range, hi, List.getElem?_toArray, key n i hi]
      simp [cd.len, List.getElem?_eq_getElem hm, hi, getElem!_def]
    · rw [Array.getElem?_eq_none (by simp; omega), Array.getElem?_eq_none (by simp [cd.len]; omega)]
theorem buildSlice_run {P : Program} {t E n : Nat} {α : Type} {cd : Cod α} {z0 : α} {q : Vec α n} (ht : P.underlying t = some (.slice E)) (ty : Ty P E cd z0) (hsz : Nat.ble (n * cd.n) 16777216 = true) {ps : List (Nat × Value)} (hf : Filled (fun i => some (i * cd.n, cd.n)) ((cd.arr n).enc (Vec.rep n z0)) ps ((cd.arr n).enc q)) (w : World) :
    (Instr.buildSlice t n ps.toArray).run P w = .ok (.slice (some ⟨w.heap.size, 0, none⟩) n n) (w.alloc (.cells ((cd.arr n).enc q).toArray E)) := by
  obtain ⟨inf, hi, hs, hz⟩ := ty.parts
  have hle : n * cd.n ≤ 16777216 := by simpa using hsz
  have hz2 : (zeroValue E).run P w = .ok (cd.val z0) w := by simp [zeroValue, typeInfo, hi, hz]
  have hfill := hf.fill
  unfold Instr.buildSlice
  simp only [Sem.run_bind, run_underlying ht, Result.andThen_ok, sizeOf, run_typeInfo hi, Sem.run_pure, hs]
  rw [if_neg (by omega)]
  have hstart : (cd.arr n).enc (Vec.rep n z0) = (List.replicate n (cd.enc z0)).flatten := by
    rw [Cod.arr_enc]
    simp [Vec.rep, List.flatMap_replicate]
  by_cases h0 : n * cd.n = 0
  · rw [if_pos h0]
    simp only [Sem.run_pure, Result.andThen_ok, Sem.run_bind]
    have he : (cd.arr n).enc (Vec.rep n z0) = [] := List.eq_nil_of_length_eq_zero (by rw [Cod.len, Cod.arr_n, h0])
    rw [he] at hfill
    rw [h0]
    have hr0 : (Array.map (fun x => (#[] : Array Value)[x % (#[] : Array Value).size]!) (Array.range 0)) = #[] := by simp
    rw [hr0, show (#[] : Array Value) = ([] : List Value).toArray from rfl, hfill]
    simp only [newRow, Sem.run_bind, run_newObj, Result.andThen_ok, Sem.run_pure]
    rfl
  · rw [if_neg h0]
    simp only [Sem.run_bind, hz2, Result.andThen_ok, Sem.run_pure, cd.cells, rowCells]
    rw [hstart] at hfill
    rw [hfill]
    simp only [newRow, Sem.run_bind, run_newObj, Result.andThen_ok, Sem.run_pure]
    rfl
theorem exec_row {P : Program} {o : Oper} {t n E : Nat} {parts : List (Nat × Operand)} {ps : List (Nat × Value)} {ρ : Operand → Value} {α : Type} {cd : Cod α} {z0 : α} {q : Vec α n} (ho : o.op = .buildSlice t n parts.toArray) (hp : parts.map (fun p => (p.1, ρ p.2)) = ps) (ht : P.underlying t = some (.slice E)) (ty : Ty P E cd z0) (hsz : Nat.ble (n * cd.n) 16777216 = true) (hf : Filled (fun i => some (i * cd.n, cd.n)) ((cd.arr n).enc (Vec.rep n z0)) ps ((cd.arr n).enc q)) (w : World) :
    (execOp ρ o).run P w = .ok (.value (.slice (some ⟨w.heap.size, 0, none⟩) n n)) (w.alloc (.cells ((cd.arr n).enc q).toArray E)) := by
  rw [exec_of (P := P) ho]
  have e2 : (parts.toArray.map fun p => (p.1, ρ p.2)) = ps.toArray := by rw [← hp]; simp
  show Sem.run P (do pure (Next.value (← Instr.buildSlice t n (parts.toArray.map fun p => (p.1, ρ p.2))))) w = _
  rw [e2]
  simp [buildSlice_run ht ty hsz hf w]
theorem OJ.rowSlot {α : Type} {i d t n E : Nat} {parts : List (Nat × Operand)} {ps : List (Nat × Value)} {cd : Cod α} {z0 : α} (q : Vec α n) {owed : List Pd} {f : Nat → M β} (ty : Ty c.P E cd z0) (hf : Filled (fun i => some (i * cd.n, cd.n)) ((cd.arr n).enc (Vec.rep n z0)) ps ((cd.arr n).enc q)) (hJ : ∀ b, OW c owed pend is ((d, .slice (some (pt b 0)) n n) :: m) ((b, (cd.arr n).enc q) :: h) (f b) R) (hc : core c.ops m i = some (some d, .buildSlice t n parts.toArray) := by kernel_rfl) (hp : evps m parts = some ps := by kernel_rfl) (ht : c.P.underlying t = some (.slice E) := by kernel_rfl) (hsz : Nat.ble (n * cd.n) 16777216 = true := by kernel_rfl) (hd : Nat.blt d c.n = true := by kernel_rfl) (hk : kdW c.kd i = true := by kernel_rfl) (ho : owes c.bef i pend = owed := by kernel_rfl) : OJ c pend (i :: is) m h (slot E >>= f) R := by
  refine OJ.wr hc hk ho fun v r v' e w a s D hD => ?_
  obtain ⟨b, v1, h1, h2⟩ := bind_some.1 e
  simp only [slot, Option.some.injEq, Prod.mk.injEq] at h1
  obtain ⟨rfl, rfl⟩ := h1
  have hlt : d < c.n := by simpa [Nat.blt_eq] using hd
  obtain ⟨hkp, hne⟩ := alloc_kp hD s.sub (.cells #[] E) (.cells ((cd.arr n).enc q).toArray E)
  have hpt : (Value.slice (some ⟨w.heap.size, 0, none⟩) n n) = .slice (some (pt v.heap.size 0)) n n := by rw [s.sub.size]; rfl
  refine ⟨_, _, _, f v.heap.size, (d, .slice (some (pt v.heap.size 0)) n n) :: m, (v.heap.size, (cd.arr n).enc q) :: h, fun o hop => .inl (exec_row hop (evps_spec s hp) ht ty hsz hf w), h2, ?_, ?_, hJ _⟩
  · rw [hpt]
    refine s.alloc hlt _ _ _ (s.sub.slot _ E) _ (fun e he => ?_) ?_
    · rcases List.mem_cons.1 he with rfl | he
      · refine .inr ⟨rfl, ⟨E, ?_⟩, E, ?_⟩
        · show (v.heap.push _)[v.heap.size]? = _
          simp
        · show (w.heap.push _)[v.heap.size]? = _
          rw [← s.sub.size]
          simp
      · exact .inl he
    · simp only [List.map_cons, List.nodup_cons]
      refine ⟨fun hm => ?_, s.nd⟩
      obtain ⟨e, he, e1⟩ := List.mem_map.1 hm
      have := (s.loc e he).1.lt
      omega
  · intro b hb
    obtain ⟨k1, k2, k3⟩ := hkp b hb
    refine ⟨k1, k2, fun e he => ?_⟩
    rcases List.mem_cons.1 he with rfl | he
    · exact hne b hb
    · exact k3 e he
theorem OJ.rowNew {α : Type} {i d t n E : Nat} {parts : List (Nat × Operand)} {ps : List (Nat × Value)} {cd : Cod α} {z0 : α} {q : Vec α n} {owed : List Pd} {f : Nat → M β} (ty : Ty c.P E cd z0) (hf : Filled (fun i => some (i * cd.n, cd.n)) ((cd.arr n).enc (Vec.rep n z0)) ps ((cd.arr n).enc q)) (hJ : ∀ b, OW c owed pend is ((d, Sl.v ⟨some (pt b 0), n, n⟩) :: m) h (f b) R) (hc : core c.ops m i = some (some d, .buildSlice t n parts.toArray) := by kernel_rfl) (hp : evps m parts = some ps := by kernel_rfl) (ht : c.P.underlying t = some (.slice E) := by kernel_rfl) (hsz : Nat.ble (n * cd.n) 16777216 = true := by kernel_rfl) (hd : Nat.blt d c.n = true := by kernel_rfl) (hk : kdW c.kd i = true := by kernel_rfl) (ho : owes c.bef i pend = owed := by kernel_rfl) : OJ c pend (i :: is) m h (newv E (cd.arr n) q >>= f) R := by
  refine OJ.wr hc hk ho fun v r v' e w a s D hD => ?_
  obtain ⟨b, v1, h1, h2⟩ := bind_some.1 e
  simp only [newv, Option.some.injEq, Prod.mk.injEq] at h1
  obtain ⟨rfl, rfl⟩ := h1
  have hlt : d < c.n := by simpa [Nat.blt_eq] using hd
  obtain ⟨hkp, hne⟩ := alloc_kp hD s.sub (.cells ((cd.arr n).enc q).toArray E) (.cells ((cd.arr n).enc q).toArray E)
  have hpt : (Value.slice (some ⟨w.heap.size, 0, none⟩) n n) = Sl.v ⟨some (pt v.heap.size 0), n, n⟩ := by rw [s.sub.size]; rfl
  refine ⟨_, _, _, f v.heap.size, (d, Sl.v ⟨some (pt v.heap.size 0), n, n⟩) :: m, h, fun o hop => .inl (exec_row hop (evps_spec s hp) ht ty hsz hf w), h2, ?_, hkp, hJ _⟩
  rw [hpt]
  exact s.alloc hlt _ _ _ (s.sub.alloc _) _ (fun e he => .inl he) s.nd
end
end Go.Proofs.Ytlkhijflgbobjaa.Lx
