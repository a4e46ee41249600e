/- The machine 'Lx', part E: rules for the operations that write, make memory, look into it with a bound, or call. -/
import Derived.Test.YtlkhijflgbobjaaLxD
set_option linter.unusedVariables false
set_option linter.unusedSimpArgs false
namespace Go.Proofs.Ytlkhijflgbobjaa.Lx
open Go
section
variable {β : Type} {c : Cx} {pend : List Pd} {is : List Nat} {m : Env} {h : Loc} {x : M β} {R : List Pd → Env → Loc → M β → Prop}
theorem OJ.wr {i : Nat} {dst : Option Nat} {op : Op} {owed : List Pd} (hc : core c.ops m i = some (dst, op)) (hk : kdW c.kd i = true) (ho : owes c.bef i pend = owed)
    (hs : ∀ v r v', x v = some (r, v') → ∀ w a, St c.n m h v w a → ∀ D, DOk D v h → ∃ y w1 v1 x1 m1 h1, (∀ o : Oper, o.op = op → Yld c.P o a w y w1) ∧ x1 v1 = some (r, v') ∧ St c.n m1 h1 v1 w1 (a.put dst y) ∧ Kp D v v1 w w1 h1 ∧ OW c owed pend is m1 h1 x1 R) : OJ c pend (i :: is) m h x R := by
  intro v r v' e w a s D hD
  obtain ⟨o, hoo, hod, hop, hw⟩ := core_spec (h := h) hc
  obtain ⟨y, w1, v1, x1, m1, h1, hy, hx1, s1, hkp, hJ⟩ := hs v r v' e w a s D hD
  obtain ⟨hok, p1, m3, h3, x3, v3, w3, a3, q1, q2, q3, q4, q5⟩ := hJ v1 r v' hx1 w1 _ s1 D (hkp.dok hD)
  refine ⟨p1, m3, h3, x3, v3, w3, a3, q1, q2, .cons o hoo y w1 [] (.write (kdW_eq hk) (hw s) y w1 (hy o hop)) (fun _ => .inr fun p hp hpre => hok p (by rw [← ho]; exact owes_spec hp hpre)) ?_, q4, hkp.trans q5⟩
  rw [hod]; exact q3
theorem OJ.q {i d : Nat} {op : Op} (hc : core c.ops m i = some (some d, op)) (hk : kdP c.kd i = true) (hn : noW c.kd [i] pend = true) (hd : Nat.blt d c.n = true)
    (hs : ∀ v r v', x v = some (r, v') → ∀ w a, St c.n m h v w a → ∃ y x1, (∀ o : Oper, o.op = op → ∀ w', (execOp a.eval o).run c.P w' = .ok (.value y) w') ∧ x1 v = some (r, v') ∧ OJ c pend is ((d, y) :: m) h x1 R) : OJ c pend (i :: is) m h x R := by
  intro v r v' e w a s D hD
  obtain ⟨o, hoo, hod, hop, hw⟩ := core_spec (h := h) hc
  obtain ⟨y, x1, hy, hx1, hJ⟩ := hs v r v' e w a s
  have hlt : d < c.n := by simpa [Nat.blt_eq] using hd
  obtain ⟨p1, m3, h3, x3, v3, w3, a3, q1, q2, q3, q4, q5⟩ := hJ v r v' hx1 w _ (s.put hlt y) D hD
  refine ⟨p1, m3, h3, x3, v3, w3, a3, q1, q2, .cons o hoo y w [] (Ev.of_pure hk (hw s) (hy o hop)) (fun _ => .inl rfl) ?_, q4, q5⟩
  rw [hod]; exact q3
theorem chk_some {p : Prop} [Decidable p] {v v' : World} {u : Unit} (hh : chk p v = some (u, v')) : p ∧ v' = v := by
  unfold chk at hh
  split at hh
  · rename_i hp
    simp only [Option.some.injEq, Prod.mk.injEq] at hh
    exact ⟨hp, hh.2.symm⟩
  · cases hh
theorem exec_of {P : Program} {o : Oper} {op : Op} (ho : o.op = op) {ρ : Operand → Value} : execOp ρ o = execOp ρ { o with op := op } := by subst ho; rfl
theorem OJ.nilck {i d : Nat} {y : Operand} {p : Option Addr} {f : Addr → M β} (hJ : ∀ ad, OJ c pend is ((d, .pointer (some ad)) :: m) h (f ad) R) (hc : core c.ops m i = some (some d, .nilCheck y) := by kernel_rfl) (hy : evm m y = some (.pointer p) := by kernel_rfl) (hk : kdP c.kd i = true := by kernel_rfl) (hn : noW c.kd [i] pend = true := by kernel_rfl) (hd : Nat.blt d c.n = true := by kernel_rfl) : OJ c pend (i :: is) m h (nilck p >>= f) R := by
  refine OJ.q hc hk hn hd fun v r v' e w a s => ?_
  obtain ⟨ad, v1, h1, h2⟩ := bind_some.1 e
  cases p with
  | none => cases h1
  | some ad' =>
    simp only [Lx.nilck, pure_def, Option.some.injEq, Prod.mk.injEq] at h1
    obtain ⟨rfl, rfl⟩ := h1
    refine ⟨.pointer (some ad'), f ad', fun o ho w' => ?_, h2, hJ ad'⟩
    rw [exec_of (P := c.P) ho]
    simp [execOp, s.eval hy]
theorem OJ.idxS {i d E len cap sz : Nat} {T : TypeId} {y j : Operand} {k : IntKind} {p : Option Addr} {ix : Int} {f : Addr → M β} (hJ : ∀ ad, OJ c pend is ((d, .pointer (some ad)) :: m) h (f ad) R) (hc : core c.ops m i = some (some d, .indexAddr T y j) := by kernel_rfl) (hT : c.P.underlying T = some (.slice E) := by kernel_rfl) (hE : (c.P.info? E).map (·.size) = some sz := by kernel_rfl) (hy : evm m y = some (.slice p len cap) := by kernel_rfl) (hj : evm m j = some (.int k ix) := by kernel_rfl) (hk : kdP c.kd i = true := by kernel_rfl) (hn : noW c.kd [i] pend = true := by kernel_rfl) (hd : Nat.blt d c.n = true := by kernel_rfl) : OJ c pend (i :: is) m h (idx p len ix sz >>= f) R := by
  refine OJ.q hc hk hn hd fun v r v' e w a s => ?_
  obtain ⟨ad, v1, h1, h2⟩ := bind_some.1 e
  obtain ⟨inf, hinf, rfl⟩ := Option.map_eq_some_iff.1 hE
  unfold idx at h1
  split at h1
  · rename_i a0
    split at h1
    · rename_i hb
      simp only [Option.some.injEq, Prod.mk.injEq] at h1
      obtain ⟨rfl, rfl⟩ := h1
      refine ⟨_, _, fun o ho w' => ?_, h2, hJ _⟩
      rw [exec_of (P := c.P) ho]
      simp [execOp, Instr.indexAt, s.eval hy, s.eval hj, asIntOf, underlying, hT, sizeOf, typeInfo, hinf, hb]
    · cases h1
  · cases h1
theorem OJ.quo {i d : Nat} {T yT : TypeId} {y z : Operand} {k : IntKind} {p q : Int} {f : Unit → M β} (hJ : q ≠ 0 → OJ c pend is ((d, .int k (k.wrap (p.tdiv q))) :: m) h (f ()) R) (hc : core c.ops m i = some (some d, .binOp .quo T y z yT) := by kernel_rfl) (hy : evm m y = some (.int k p) := by kernel_rfl) (hz : evm m z = some (.int k q) := by kernel_rfl) (hk : kdP c.kd i = true := by kernel_rfl) (hn : noW c.kd [i] pend = true := by kernel_rfl) (hd : Nat.blt d c.n = true := by kernel_rfl) : OJ c pend (i :: is) m h (chk (q ≠ 0) >>= f) R := by
  refine OJ.q hc hk hn hd fun v r v' e w a s => ?_
  obtain ⟨ad, v1, h1, h2⟩ := bind_some.1 e
  obtain ⟨hq, rfl⟩ := chk_some h1
  refine ⟨_, _, fun o ho w' => ?_, h2, hJ hq⟩
  obtain ⟨dst, op, type, pos, after, guard⟩ := o
  simp only at ho
  subst ho
  refine exec_bin (s.eval hy) (s.eval hz) (eqGuard_run (by rintro _ _ ⟨h, _⟩; cases h) (by rintro ⟨h, _⟩; cases h) _) (intVal_run rfl (by simp [intVal, hq]) _ _)
theorem OJ.rem {i d : Nat} {T yT : TypeId} {y z : Operand} {k : IntKind} {p q : Int} {f : Unit → M β} (hJ : q ≠ 0 → OJ c pend is ((d, .int k (p.tmod q)) :: m) h (f ()) R) (hc : core c.ops m i = some (some d, .binOp .rem T y z yT) := by kernel_rfl) (hy : evm m y = some (.int k p) := by kernel_rfl) (hz : evm m z = some (.int k q) := by kernel_rfl) (hk : kdP c.kd i = true := by kernel_rfl) (hn : noW c.kd [i] pend = true := by kernel_rfl) (hd : Nat.blt d c.n = true := by kernel_rfl) : OJ c pend (i :: is) m h (chk (q ≠ 0) >>= f) R := by
  refine OJ.q hc hk hn hd fun v r v' e w a s => ?_
  obtain ⟨ad, v1, h1, h2⟩ := bind_some.1 e
  obtain ⟨hq, rfl⟩ := chk_some h1
  refine ⟨_, _, fun o ho w' => ?_, h2, hJ hq⟩
  obtain ⟨dst, op, type, pos, after, guard⟩ := o
  simp only at ho
  subst ho
  refine exec_bin (s.eval hy) (s.eval hz) (eqGuard_run (by rintro _ _ ⟨h, _⟩; cases h) (by rintro ⟨h, _⟩; cases h) _) (intVal_run rfl (by simp [intVal, hq]) _ _)
theorem oneCell_flat {y : Value} (h : (∀ cs, y ≠ .agg cs) ∧ ∀ cs, y ≠ .tuple cs) : y.oneCell' = true := by
  cases y <;> first | rfl | exact absurd rfl (h.1 _) | exact absurd rfl (h.2 _)
theorem storeCells_run (P : Program) (a : Addr) : ∀ (l : List Value) (i : Nat) (v v' w : World), (∀ y ∈ l, (∀ cs, y ≠ .agg cs) ∧ ∀ cs, y ≠ .tuple cs) → wrF v a i l = some v' → Sub v w →
    ∃ w', (storeCells a l i).run P w = .ok () w' ∧ Sub v' w' ∧ ∀ b, Husk v b → w'.heap[b]? = w.heap[b]? ∧ v'.heap[b]? = v.heap[b]?
  | [], i, v, v', w, _, e, hs => by
    simp only [wrF, Option.some.injEq] at e
    subst e
    exact ⟨w, by simp [storeCells], hs, fun _ _ => ⟨rfl, rfl⟩⟩
  | y :: l, i, v, v', w, hf, e, hs => by
    unfold wrF at e
    split at e
    · rename_i hc
      simp only [Bool.and_eq_true, Bool.not_eq_true', Option.isSome_iff_exists] at hc
      obtain ⟨⟨q, hq⟩, hfr⟩ := hc
      have hb : ¬ Husk v (a.add i).block := fun hb => husk_cell hb hq
      have s1 := hs.setCell (a.add i) y hb
      obtain ⟨w', h1, h2, h3⟩ := storeCells_run P a l (i + 1) _ v' _ (fun z hz => hf z (List.mem_cons_of_mem _ hz)) e s1
      refine ⟨w', ?_, h2, fun b hbb => ?_⟩
      · simp only [storeCells, Sem.run_bind]
        rw [run_store _ _ _ _ _ (oneCell_flat (hf y (by simp))), hs.cell hq, hs.frozen, hfr]
        exact h1
      · have hne : (a.add i).block ≠ b := fun e => hb (e ▸ hbb)
        have hv : (v.setCell (a.add i) y).heap[b]? = v.heap[b]? := by rw [heap_setCell, if_neg hne]
        have hw : (w.setCell (a.add i) y).heap[b]? = w.heap[b]? := by rw [heap_setCell, if_neg hne]
        obtain ⟨e1, e2⟩ := h3 b (hbb.same hv)
        exact ⟨e1.trans hw, e2.trans hv⟩
    · cases e
theorem storeVar_run {P : Program} {T : TypeId} {α : Type} {cd : Cod α} {z0 z : α} (ty : Ty P T cd z0) {w w' : World} {a : Addr} (hr : (storeCells a (cd.enc z) 0).run P w = .ok () w') : (storeVar T a (cd.val z)).run P w = .ok () w' := by
  unfold storeVar
  simp only [Sem.run_bind, sizeOf_run ty, Result.andThen_ok, cd.cells]
  rw [if_neg (by simp [cd.len])]
  simpa using hr
theorem exec_store {P : Program} {o : Oper} {T : TypeId} {y z : Operand} {ρ : Operand → Value} {ad : Addr} {u : Value} (ho : o.op = .store T y z) (hy : ρ y = .pointer (some ad)) (hz : ρ z = u) {w w' : World} (hr : (storeVar T ad u).run P w = .ok () w') : (execOp ρ o).run P w = .ok .skip w' := by
  obtain ⟨dst, op, type, pos, after, guard⟩ := o
  simp only at ho
  subst ho
  simp [execOp, Instr.storeAt, hy, hz, Instr.sureAddr, hr]
theorem Loc.keep {n : Nat} {v v1 w w1 : World} {a : Act} (s : St n m h v w a) (hk : ∀ b, Husk v b → w1.heap[b]? = w.heap[b]? ∧ v1.heap[b]? = v.heap[b]?) : ∀ e ∈ h, Husk v1 e.1 ∧ ∃ T, w1.heap[e.1]? = some (.cells e.2.toArray T (0, 0)) := by
  intro e he
  obtain ⟨h1, T, h2⟩ := s.loc e he
  obtain ⟨k1, k2⟩ := hk e.1 h1
  exact ⟨h1.same k2, T, k1.trans h2⟩
theorem Kp.of {D : Nat → Prop} {v v1 w w1 : World} (hD : DOk D v h) (hk : ∀ b, Husk v b → w1.heap[b]? = w.heap[b]? ∧ v1.heap[b]? = v.heap[b]?) : Kp D v v1 w w1 h :=
  fun b hb => ⟨(hk b (hD b hb).1).1, (hk b (hD b hb).1).2, (hD b hb).2⟩
theorem OJ.st {α : Type} {i : Nat} {T : TypeId} {y z : Operand} {cd : Cod α} {z0 u : α} {ad : Addr} {owed : List Pd} {f : Unit → M β} (ty : Ty c.P T cd z0) (hJ : OW c owed pend is m h (f ()) R) (hc : core c.ops m i = some (none, .store T y z) := by kernel_rfl) (hy : evm m y = some (.pointer (some ad)) := by kernel_rfl) (hz : evm m z = some (cd.val u) := by kernel_rfl) (hk : kdW c.kd i = true := by kernel_rfl) (ho : owes c.bef i pend = owed := by kernel_rfl) : OJ c pend (i :: is) m h (st cd ad u >>= f) R := by
  refine OJ.wr hc hk ho fun v r v' e w a s D hD => ?_
  obtain ⟨uu, v1, h1, h2⟩ := bind_some.1 e
  obtain ⟨v1', hv1, h3⟩ := Option.map_eq_some_iff.1 h1
  simp only [Prod.mk.injEq] at h3
  obtain ⟨-, rfl⟩ := h3
  obtain ⟨w1, hr, hs1, hkp⟩ := storeCells_run c.P ad (cd.enc u) 0 v v1' w (cd.flat u) hv1 s.sub
  refine ⟨undef, w1, v1', f (), m, h, fun o hop => .inr (.inl ⟨exec_store hop (s.eval hy) (s.eval hz) (storeVar_run ty hr), rfl⟩), h2, ?_, Kp.of hD hkp, hJ⟩
  exact ⟨hs1, s.size, s.defers, s.get, Loc.keep s hkp, s.nd⟩
theorem row_store (P : Program) (b : Nat) (T : TypeId) (v : World) (hb : Husk v b) : ∀ (k p q s : List Value) (i o : Nat) (w : World), o + i = p.length → q.length = k.length → (∀ y ∈ k, (∀ cs, y ≠ .agg cs) ∧ ∀ cs, y ≠ .tuple cs) → w.heap[b]? = some (.cells (p ++ q ++ s).toArray T (0, 0)) → Sub v w →
    ∃ w', (storeCells (pt b o) k i).run P w = .ok () w' ∧ Sub v w' ∧ w'.heap[b]? = some (.cells (p ++ k ++ s).toArray T (0, 0)) ∧ ∀ b', b' ≠ b → w'.heap[b']? = w.heap[b']?
  | [], p, q, s, i, o, w, _, hq, _, hw, hs => by
    obtain rfl := List.eq_nil_of_length_eq_zero hq
    exact ⟨w, by simp [storeCells], hs, hw, fun _ _ => rfl⟩
  | y :: k, p, q, s, i, o, w, hp, hq, hf, hw, hs => by
    match q, hq with
    | z :: q, hq =>
      have hc : w.cell? (pt b (o + i)) = some z := by
        unfold World.cell? pt
        simp [hw, hp]
      have hfz : w.frozen? (pt b (o + i)) = false := by
        unfold World.frozen? pt
        simp [hw]
      have hw1 : (w.setCell (pt b (o + i)) y).heap[b]? = some (.cells ((p ++ [y]) ++ q ++ s).toArray T (0, 0)) := by
        rw [heap_setCell]
        simp [pt, hw, hp, List.setIfInBounds_toArray]
      obtain ⟨w', h1, h2, h3, h4⟩ := row_store P b T v hb k (p ++ [y]) q s (i + 1) o _ (by simp; omega) (by simpa using hq) (fun z hz => hf z (List.mem_cons_of_mem _ hz)) hw1 (hs.inner (pt b (o + i)) y hb)
      refine ⟨w', ?_, h2, by simpa using h3, fun b' hb' => (h4 b' hb').trans ?_⟩
      · simp only [storeCells, Sem.run_bind, pt_add]
        rw [run_store _ _ _ _ _ (oneCell_flat (hf y (by simp))), hc, hfz]
        exact h1
      · rw [heap_setCell, if_neg (fun e => hb' (by rw [← e]; rfl))]
theorem set_map_fst {h : Loc} {j b : Nat} {l l' : List Value} (hj : h[j]? = some (b, l)) : (h.set j (b, l')).map (·.1) = h.map (·.1) := by
  apply List.ext_getElem?
  intro k
  simp only [List.getElem?_map, List.getElem?_set]
  by_cases e : j = k
  · subst e
    have hlt : j < h.length := (List.getElem?_eq_some_iff.1 hj).1
    simp [hlt, hj]
    have := (List.getElem?_eq_some_iff.1 hj).2
    rw [this]
  · simp [e]
theorem OJ.kst {α : Type} {i j b o : Nat} {T : TypeId} {y z : Operand} {cd : Cod α} {z0 u : α} {l : List Value} (l' : List Value) {h2 : Loc} {owed : List Pd} (ty : Ty c.P T cd z0) (hj : h[j]? = some (b, l)) (hu : Upd l o (cd.enc u) l') (hh : h.set j (b, l') = h2) (hJ : OW c owed pend is m h2 x R) (hc : core c.ops m i = some (none, .store T y z) := by kernel_rfl) (hy : evm m y = some (.pointer (some (pt b o))) := by kernel_rfl) (hz : evm m z = some (cd.val u) := by kernel_rfl) (hk : kdW c.kd i = true := by kernel_rfl) (ho : owes c.bef i pend = owed := by kernel_rfl) : OJ c pend (i :: is) m h x R := by
  refine OJ.wr hc hk ho fun v r v' e w a s D hD => ?_
  obtain ⟨hhusk, T', hT⟩ := s.known hj
  obtain ⟨p, q, t, rfl, rfl, hq, rfl⟩ := hu
  obtain ⟨w1, hr, hs1, hb1, hoth⟩ := row_store c.P b T' v hhusk (cd.enc u) p q t 0 p.length w rfl hq (cd.flat u) hT s.sub
  have hmem : ∀ e ∈ h2, (e = (b, p ++ cd.enc u ++ t)) ∨ (e ∈ h ∧ e.1 ≠ b) := by
    intro e he
    rw [← hh] at he
    obtain ⟨k, hk1, hk2⟩ := List.mem_iff_getElem.1 he
    rw [List.getElem_set] at hk2
    by_cases ejk : j = k
    · rw [if_pos ejk] at hk2
      exact .inl hk2.symm
    · rw [if_neg ejk] at hk2
      have hk3 : k < h.length := by simpa using hk1
      refine .inr ⟨hk2 ▸ List.getElem_mem hk3, fun e1 => ejk ?_⟩
      have hjl : j < h.length := (List.getElem?_eq_some_iff.1 hj).1
      have hnd := s.nd
      have e2 : (h.map (·.1))[j]'(by simpa using hjl) = (h.map (·.1))[k]'(by simpa using hk3) := by
        simp only [List.getElem_map]
        rw [(List.getElem?_eq_some_iff.1 hj).2, hk2]
        exact e1.symm
      exact (List.getElem_inj hnd).1 e2
  refine ⟨undef, w1, v, x, m, h2, fun oo hop => .inr (.inl ⟨exec_store hop (s.eval hy) (s.eval hz) (storeVar_run ty hr), rfl⟩), e, ⟨hs1, s.size, s.defers, s.get, ?_, by rw [← hh, set_map_fst hj]; exact s.nd⟩, fun b' hb' => ?_, hJ⟩
  · intro e he
    rcases hmem e he with rfl | ⟨he1, he2⟩
    · exact ⟨hhusk, T', hb1⟩
    · obtain ⟨k1, T2, k2⟩ := s.loc e he1
      exact ⟨k1, T2, (hoth e.1 he2).trans k2⟩
  · have hne : b ≠ b' := (hD b' hb').2 _ (List.mem_of_getElem? hj)
    refine ⟨hoth b' (fun e => hne e.symm), rfl, fun e he => ?_⟩
    rcases hmem e he with rfl | ⟨he1, _⟩
    · exact hne
    · exact (hD b' hb').2 e he1
theorem alloc_kp {D : Nat → Prop} {v w : World} (hD : DOk D v h) (hs : Sub v w) (o o' : Obj) : Kp D v (v.alloc o) w (w.alloc o') h ∧ ∀ b, D b → v.heap.size ≠ b := by
  refine ⟨fun b hb => ⟨?_, (hD b hb).1.alloc o, (hD b hb).2⟩, fun b hb e => ?_⟩
  · have := (hD b hb).1.lt
    show (w.heap.push o')[b]? = _
    rw [Array.getElem?_push, if_neg (by rw [hs.size]; omega)]
  · have := (hD b hb).1.lt
    omega
theorem newVar_run {P : Program} {T : TypeId} {y : Value} (w : World) : (newVar T y).run P w = .ok ⟨w.heap.size, 0, none⟩ (w.alloc (.cells y.cells T)) := by
  unfold newVar newRow
  simp [Sem.run_bind]
theorem St.alloc {n d : Nat} {v w : World} {a : Act} (s : St n m h v w a) (hd : d < n) (y : Value) (o o' : Obj) (hsub : Sub (v.alloc o) (w.alloc o')) (h2 : Loc) (hl : ∀ e ∈ h2, (e ∈ h) ∨ (e.1 = v.heap.size ∧ Husk (v.alloc o) e.1 ∧ ∃ T, (w.alloc o').heap[e.1]? = some (.cells e.2.toArray T (0, 0)))) (hnd : (h2.map (·.1)).Nodup) :
    St n ((d, y) :: m) h2 (v.alloc o) (w.alloc o') (a.put (some d) y) := by
  refine ⟨hsub, by simp [Act.put, s.size], s.defers, lk_put hd s.size s.get, fun e he => ?_, hnd⟩
  rcases hl e he with h1 | ⟨_, h1, h2⟩
  · obtain ⟨k1, T, k2⟩ := s.loc e h1
    have hlt := k1.lt
    refine ⟨k1.same (k1.alloc o), T, ?_⟩
    show (w.heap.push o')[e.1]? = _
    rw [Array.getElem?_push, if_neg (by rw [s.sub.size]; omega)]
    exact k2
  · exact ⟨h1, h2⟩
theorem OJ.slotOf {α : Type} {i d : Nat} {T : TypeId} {op : Op} {cd : Cod α} {u : α} {owed : List Pd} {f : Nat → M β} (hrun : ∀ v w a, St c.n m h v w a → ∀ o : Oper, o.op = op → (execOp a.eval o).run c.P w = .ok (.value (.pointer (some ⟨w.heap.size, 0, none⟩))) (w.alloc (.cells (cd.enc u).toArray T))) (hJ : ∀ b, OW c owed pend is ((d, .pointer (some (pt b 0))) :: m) ((b, cd.enc u) :: h) (f b) R) (hc : core c.ops m i = some (some d, op) := by kernel_rfl) (hd : Nat.blt d c.n = true := by kernel_rfl) (hk : kdW c.kd i = true := by kernel_rfl) (ho : owes c.bef i pend = owed := by kernel_rfl) : OJ c pend (i :: is) m h (slot T >>= f) R := by
  refine OJ.wr hc hk ho fun v r v' e w a s D hD => ?_
  obtain ⟨b, v1, h1, h2⟩ := bind_some.1 e
  simp only [slot, Option.some.injEq, Prod.mk.injEq] at h1
  obtain ⟨rfl, rfl⟩ := h1
  have hlt : d < c.n := by simpa [Nat.blt_eq] using hd
  obtain ⟨hkp, hne⟩ := alloc_kp hD s.sub (.cells #[] T) (.cells (cd.enc u).toArray T)
  have hpt : (Value.pointer (some ⟨w.heap.size, 0, none⟩)) = .pointer (some (pt v.heap.size 0)) := by rw [s.sub.size]; rfl
  refine ⟨_, _, _, f v.heap.size, (d, .pointer (some (pt v.heap.size 0))) :: m, (v.heap.size, cd.enc u) :: h, fun o hop => .inl (hrun v w a s o hop), h2, ?_, ?_, hJ _⟩
  · rw [hpt]
    refine s.alloc hlt _ _ _ (s.sub.slot _ T) _ (fun e he => ?_) ?_
    · rcases List.mem_cons.1 he with rfl | he
      · refine .inr ⟨rfl, ⟨T, ?_⟩, T, ?_⟩
        · show (v.heap.push _)[v.heap.size]? = _
          simp
        · show (w.heap.push _)[v.heap.size]? = _
          rw [← s.sub.size]
          simp
      · exact .inl he
    · simp only [List.map_cons, List.nodup_cons]
      refine ⟨fun hm => ?_, s.nd⟩
      obtain ⟨e, he, e1⟩ := List.mem_map.1 hm
      have := (s.loc e he).1.lt
      omega
  · intro b hb
    obtain ⟨k1, k2, k3⟩ := hkp b hb
    refine ⟨k1, k2, fun e he => ?_⟩
    rcases List.mem_cons.1 he with rfl | he
    · exact hne b hb
    · exact k3 e he
theorem OJ.newOf {α : Type} {i d : Nat} {T : TypeId} {op : Op} {cd : Cod α} {u : α} {owed : List Pd} {f : Nat → M β} (hrun : ∀ v w a, St c.n m h v w a → ∀ o : Oper, o.op = op → (execOp a.eval o).run c.P w = .ok (.value (.pointer (some ⟨w.heap.size, 0, none⟩))) (w.alloc (.cells (cd.enc u).toArray T))) (hJ : ∀ b, OW c owed pend is ((d, .pointer (some (pt b 0))) :: m) h (f b) R) (hc : core c.ops m i = some (some d, op) := by kernel_rfl) (hd : Nat.blt d c.n = true := by kernel_rfl) (hk : kdW c.kd i = true := by kernel_rfl) (ho : owes c.bef i pend = owed := by kernel_rfl) : OJ c pend (i :: is) m h (newv T cd u >>= f) R := by
  refine OJ.wr hc hk ho fun v r v' e w a s D hD => ?_
  obtain ⟨b, v1, h1, h2⟩ := bind_some.1 e
  simp only [newv, Option.some.injEq, Prod.mk.injEq] at h1
  obtain ⟨rfl, rfl⟩ := h1
  have hlt : d < c.n := by simpa [Nat.blt_eq] using hd
  obtain ⟨hkp, hne⟩ := alloc_kp hD s.sub (.cells (cd.enc u).toArray T) (.cells (cd.enc u).toArray T)
  have hpt : (Value.pointer (some ⟨w.heap.size, 0, none⟩)) = .pointer (some (pt v.heap.size 0)) := by rw [s.sub.size]; rfl
  refine ⟨_, _, _, f v.heap.size, (d, .pointer (some (pt v.heap.size 0))) :: m, h, fun o hop => .inl (hrun v w a s o hop), h2, ?_, hkp, hJ _⟩
  rw [hpt]
  exact s.alloc hlt _ _ _ (s.sub.alloc _) _ (fun e he => .inl he) s.nd
theorem box_run {α : Type} {T : TypeId} {y : Operand} {cd : Cod α} {u : α} (hy : evm m y = some (cd.val u)) : ∀ v w a, St c.n m h v w a → ∀ o : Oper, o.op = .box T y → (execOp a.eval o).run c.P w = .ok (.value (.pointer (some ⟨w.heap.size, 0, none⟩))) (w.alloc (.cells (cd.enc u).toArray T)) := by
  intro v w a s o ho
  rw [exec_of (P := c.P) ho]
  simp [execOp, Instr.box, s.eval hy, newVar_run, cd.cells]
theorem alloc_run {α : Type} {T : TypeId} {cd : Cod α} {u : α} (ty : Ty c.P T cd u) : ∀ v w a, St c.n m h v w a → ∀ o : Oper, o.op = .alloc T → (execOp a.eval o).run c.P w = .ok (.value (.pointer (some ⟨w.heap.size, 0, none⟩))) (w.alloc (.cells (cd.enc u).toArray T)) := by
  intro v w a s o ho
  rw [exec_of (P := c.P) ho]
  obtain ⟨inf, hi, he⟩ := Option.map_eq_some_iff.1 ty.info
  simp only [Prod.mk.injEq] at he
  have hz : (zeroValue T).run c.P w = .ok (cd.val u) w := by simp [zeroValue, typeInfo, hi, he.2]
  simp [execOp, Instr.alloc, hz, newVar_run, cd.cells]
def Ref (P : Program) (g : FuncId) {α : Type} (vals : List Value) (y : M α) (out : α → Value) : Prop :=
  ∀ v r v', y v = some (r, v') → ∀ w, Sub v w → ∃ w', Sub v' w' ∧ (∀ b, Husk v b → w'.heap[b]? = w.heap[b]? ∧ v'.heap[b]? = v.heap[b]?) ∧ Calls P g vals.toArray w (fun e w2 => e = .returned (out r) ∧ w2 = w')
structure Fun (P : Program) (g : FuncId) (fn : Func) : Prop where
  at_ : P.funcs[g]? = some fn
  name : (fn.name == "runtime.NumGoroutine") = false
  body : fn.body.isSome = true
def evms (m : Env) : List Operand → Option (List Value)
  | [] => some []
  | x :: r => match evm m x, evms m r with
    | some y, some l => some (y :: l)
    | _, _ => none
theorem evms_spec {n : Nat} {v w : World} {a : Act} (s : St n m h v w a) : ∀ {l : List Operand} {r : List Value}, evms m l = some r → l.map a.eval = r
  | [], r, e => by simp only [evms, Option.some.injEq] at e; subst e; rfl
  | x :: l, r, e => by
    unfold evms at e
    split at e
    · rename_i y l' hy hl
      simp only [Option.some.injEq] at e
      subst e
      simp [s.eval hy, evms_spec s hl]
    · cases e
theorem callFunc_run {P : Program} {g : FuncId} {fn : Func} (hf : Fun P g fn) (args : Array Value) (w : World) : (callFunc g args).run P w = .ok (.enter g args) w := by
  have hb : fn.body.isNone = false := by have := hf.body; cases h : fn.body <;> simp_all
  unfold callFunc
  simp only [Sem.run_bind, run_program, Result.andThen_ok, hf.at_, hf.name, hb, Bool.false_eq_true, if_false, Sem.run_pure]
theorem exec_call {P : Program} {o : Oper} {g : FuncId} {fn : Func} {args : List Operand} {ats : Array TypeId} {ρ : Operand → Value} {vals : List Value} {fo : Operand} {first cap : List Value} (ho : o.op = .call { callee := .value fo, args := args.toArray, argTypes := ats }) (hf : Fun P g fn) (hfo : ρ fo = .func (.func g) first.toArray cap.toArray) (hv : args.map ρ = vals) (w : World) :
    (execOp ρ o).run P w = .ok (.enter g (first ++ vals ++ cap).toArray) w := by
  rw [exec_of (P := P) ho]
  simp only [execOp, resolve, Sem.run_bind, hfo, Deferred.ofValue, Sem.run_pure, Result.andThen_ok, invoke]
  rw [callFunc_run hf]
  congr 2
  simp [← hv]
theorem OJ.callAny {α : Type} {i g : Nat} {fn : Func} {dst : Option Nat} {args : List Operand} {ats : Array TypeId} {fo : Operand} {first cap vals : List Value} {y : M α} {out : α → Value} {owed : List Pd} {f : α → M β} (m2 : α → Env) (hc : core c.ops m i = some (dst, .call { callee := .value fo, args := args.toArray, argTypes := ats })) (hf : Fun c.P g fn)
    (hfo : evm m fo = some (.func (.func g) first.toArray cap.toArray)) (hv : evms m args = some vals) (hy : Ref c.P g (first ++ vals ++ cap) y out) (hm2 : (∃ d, dst = some d ∧ d < c.n ∧ ∀ q, m2 q = (d, out q) :: m) ∨ (dst = none ∧ ∀ q, m2 q = m)) (hk : kdW c.kd i = true) (ho : owes c.bef i pend = owed)
    (hJ : ∀ q, OW c owed pend is (m2 q) h (f q) R) : OJ c pend (i :: is) m h (y >>= f) R := by
  refine OJ.wr hc hk ho fun v r v' e w a s D hD => ?_
  obtain ⟨q, v1, h1, h2⟩ := bind_some.1 e
  obtain ⟨w1, hs1, hkp, hcalls⟩ := hy v q v1 h1 w s.sub
  refine ⟨out q, w1, v1, f q, m2 q, h, fun o hop => .inr (.inr ⟨g, _, w, exec_call hop hf (s.eval hfo) (evms_spec s hv) w, hcalls⟩), h2, ?_, Kp.of hD hkp, hJ q⟩
  rcases hm2 with ⟨d, rfl, hd, e2⟩ | ⟨rfl, e2⟩
  · rw [e2]
    exact ⟨hs1, by simp [Act.put, s.size], s.defers, lk_put hd s.size s.get, Loc.keep s hkp, s.nd⟩
  · rw [e2]
    exact ⟨hs1, s.size, s.defers, s.get, Loc.keep s hkp, s.nd⟩
theorem OJ.call {α : Type} {i g d : Nat} {fn : Func} {args : List Operand} {ats : Array TypeId} {vals : List Value} {y : M α} {out : α → Value} {owed : List Pd} {f : α → M β} (hf : Fun c.P g fn) (hy : Ref c.P g vals y out) (hJ : ∀ q, OW c owed pend is ((d, out q) :: m) h (f q) R) (hc : core c.ops m i = some (some d, .call { callee := .value (.func g), args := args.toArray, argTypes := ats }) := by kernel_rfl) (hv : evms m args = some vals := by kernel_rfl) (hd : Nat.blt d c.n = true := by kernel_rfl) (hk : kdW c.kd i = true := by kernel_rfl) (ho : owes c.bef i pend = owed := by kernel_rfl) : OJ c pend (i :: is) m h (y >>= f) R :=
  OJ.callAny (first := []) (cap := []) (fun q => (d, out q) :: m) hc hf rfl hv (by simpa using hy) (.inl ⟨d, rfl, by simpa [Nat.blt_eq] using hd, fun _ => rfl⟩) hk ho hJ
theorem lk_here {m : Env} {t : Nat} {y : Value} {b : Bool} (ht : lk m t = some (.bool b)) {n : Nat} {v w : World} {a : Act} (s : St n m h v w a) (hb : Value.bool b = y) : St n ((t, y) :: m) h v w a := by
  subst hb
  refine ⟨s.sub, s.size, s.defers, fun t' z hz => ?_, s.loc, s.nd⟩
  unfold lk at hz
  cases e : Nat.beq t t' with
  | true =>
    rw [e] at hz
    obtain rfl := Nat.eq_of_beq_eq_true e
    simp only [Option.some.injEq] at hz
    subst hz
    exact s.get t _ ht
  | false =>
    rw [e] at hz
    exact s.get t' z hz
theorem OJ.join {α : Type} {p : Prop} [Decidable p] (gs : List Nat) (is2 : List Nat) (ts : List Nat) {t : Nat} {b : Bool} {X1 X0 : M α} {f : α → M β} (mo : α → Env) (pend2 : List Pd) (fr : List Nat) (hp : b = true ↔ p) (h1 : p → OJ c pend gs ((t, .bool true) :: m) h X1 (fun p' m' h' x' => (∀ e ∈ p', e ∈ pend2 ∨ e.i ∈ fr) ∧ h' = h ∧ ∃ y, x' = pure y ∧ lks m' ts = some (mo y))) (h0 : ¬ p → OJ c pend gs ((t, .bool false) :: m) h X0 (fun p' m' h' x' => (∀ e ∈ p', e ∈ pend2 ∨ e.i ∈ fr) ∧ h' = h ∧ ∃ y, x' = pure y ∧ lks m' ts = some (mo y))) (hR : ∀ p q m' h' x', (∀ e ∈ q, e ∈ p ∨ e.i ∈ fr) → R p m' h' x' → R q m' h' x') (hJ : ∀ y, OJ c pend2 is2 (mo y) h (f y) R) (hi : is = gs ++ is2 := by kernel_rfl) (ht : lk m t = some (.bool b) := by kernel_rfl) (hiso : isol (kdOf c.kd) c.bef fr is2 = true := by kernel_rfl) : OJ c pend is m h ((if p then X1 else X0) >>= f) R := by
  subst hi
  intro v r v' e w a s D hD
  obtain ⟨y, v1, e1, e2⟩ := bind_some.1 e
  have key : ∃ p1 v2 w1 a1, (∀ e ∈ p1, e ∈ pend2 ∨ e.i ∈ fr) ∧ c.RS pend gs a w p1 a1 w1 ∧ St c.n (mo y) h v2 w1 a1 ∧ Kp D v v2 w w1 h ∧ v2 = v1 := by
    by_cases hpp : p
    · rw [if_pos hpp] at e1
      obtain ⟨p1, m3, h3, x3, v3, w3, a3, ⟨hsub, rfl, y', rfl, hl⟩, q2, q3, q4, q5⟩ := h1 hpp v y v1 e1 w a (lk_here ht s (by rw [hp.2 hpp])) D hD
      simp only [pure_def, Option.some.injEq, Prod.mk.injEq] at q2
      obtain ⟨rfl, rfl⟩ := q2
      exact ⟨p1, v3, w3, a3, hsub, q3, q4.less (lks_spec hl), q5, rfl⟩
    · rw [if_neg hpp] at e1
      have hb : b = false := by
        cases b
        · rfl
        · exact absurd (hp.1 rfl) hpp
      obtain ⟨p1, m3, h3, x3, v3, w3, a3, ⟨hsub, rfl, y', rfl, hl⟩, q2, q3, q4, q5⟩ := h0 hpp v y v1 e1 w a (lk_here ht s (by rw [hb])) D hD
      simp only [pure_def, Option.some.injEq, Prod.mk.injEq] at q2
      obtain ⟨rfl, rfl⟩ := q2
      exact ⟨p1, v3, w3, a3, hsub, q3, q4.less (lks_spec hl), q5, rfl⟩
  obtain ⟨p1, v2, w1, a1, hsub, hrs, s1, hkp, rfl⟩ := key
  obtain ⟨p2, m3, h3, x3, v3, w3, a3, q1, q2, q3, q4, q5⟩ := hJ y v2 r v' e2 w1 a1 s1 D (hkp.dok hD)
  obtain ⟨p3, hmore, hsub2⟩ := RS.less _ _ _ _ hiso hsub q3
  exact ⟨p3, m3, h3, x3, v3, w3, a3, hR _ _ _ _ _ hsub2 q1, q2, RS.append _ _ _ _ hrs hmore, q4, hkp.trans q5⟩
end
end Go.Proofs.Ytlkhijflgbobjaa.Lx
