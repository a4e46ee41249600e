/- The machine 'Lx', part D: the judgement for a region's operations, and its rules. -/
import Derived.Test.YtlkhijflgbobjaaLxC
set_option linter.unusedVariables false
set_option linter.unusedSimpArgs false
namespace Go.Proofs.Ytlkhijflgbobjaa.Lx
open Go
section
variable (P : Program) (ops : Array Oper) (kd : Nat → Kd) (bef : List Nat)
inductive RS : List Pd → List Nat → Act → World → List Pd → Act → World → Prop
  | nil (pend : List Pd) (a : Act) (w : World) : RS pend [] a w pend a w
  | cons {pend pend' : List Pd} {i : Nat} {rest : List Nat} {a : Act} {w : World} {a' : Act} {w' : World} (o : Oper) (ho : ops[i]? = some o) (x : Value) (w1 : World) (pd : List Pd) (h : Ev P ops kd i o a w x w1 pd)
      (hp : kd i = .w → w1 = w ∨ ∀ p ∈ pend, pre bef i p.i = false → p.ok P w1) (hr : RS (pd ++ pend) rest (a.put o.dst x) w1 pend' a' w') : RS pend (i :: rest) a w pend' a' w'
theorem RS.rr {pend pend' : List Pd} {is : List Nat} {a a' : Act} {w w' : World} (h : RS P ops kd bef pend is a w pend' a' w') : RR P ops kd bef pend is a w a' w' := by
  induction h with
  | nil => exact .nil _ _ _
  | cons o ho x w1 pd h hp hr ih => exact .cons o ho x w1 pd h hp ih
theorem RS.append {p0 p1 p2 : List Pd} {is js : List Nat} {a a1 a2 : Act} {w w1 w2 : World} (h : RS P ops kd bef p0 is a w p1 a1 w1) (h2 : RS P ops kd bef p1 js a1 w1 p2 a2 w2) : RS P ops kd bef p0 (is ++ js) a w p2 a2 w2 := by
  induction h with
  | nil => exact h2
  | cons o ho x w1 pd h hp hr ih => exact .cons o ho x w1 pd h hp (ih h2)
def isol (fr js : List Nat) : Bool := js.all fun k => (match kd k with | .w => fr.all (fun i => pre bef k i) | _ => true)
theorem RS.less {fr : List Nat} {p0 p0' p1 : List Pd} {js : List Nat} {a a1 : Act} {w w1 : World} (hi : isol kd bef fr js = true) (hm : ∀ e ∈ p0', e ∈ p0 ∨ e.i ∈ fr) (h : RS P ops kd bef p0 js a w p1 a1 w1) : ∃ p3, RS P ops kd bef p0' js a w p3 a1 w1 ∧ ∀ e ∈ p3, e ∈ p1 ∨ e.i ∈ fr := by
  induction h generalizing p0' with
  | nil => exact ⟨_, .nil _ _ _, hm⟩
  | cons o ho x w1 pd h hp hr ih =>
    rename_i k _ _ _ _ _
    unfold isol at hi
    simp only [List.all_cons, Bool.and_eq_true] at hi
    obtain ⟨p3, h3, h4⟩ := ih (p0' := pd ++ p0') hi.2 (fun e he => by
      rcases List.mem_append.1 he with h | h
      · exact .inl (List.mem_append_left _ h)
      · exact (hm e h).imp (List.mem_append_right _) id)
    refine ⟨p3, .cons o ho x w1 pd h (fun hk => (hp hk).imp id (fun hq p hp' hpre => ?_)) h3, h4⟩
    rcases hm p hp' with h | h
    · exact hq p h hpre
    · exfalso
      have := hi.1
      rw [hk] at this
      simp only [List.all_eq_true] at this
      rw [this _ h] at hpre
      cases hpre
inductive Cov (p2 : List Pd) (fr : List Nat) : List Pd → Prop
  | nil : Cov p2 fr []
  | keep {e : Pd} {l : List Pd} (h : e ∈ p2) (hl : Cov p2 fr l) : Cov p2 fr (e :: l)
  | drop {e : Pd} {l : List Pd} (h : e.i ∈ fr) (hl : Cov p2 fr l) : Cov p2 fr (e :: l)
theorem Cov.mem {p2 : List Pd} {fr : List Nat} {l : List Pd} (h : Cov p2 fr l) : ∀ e ∈ l, e ∈ p2 ∨ e.i ∈ fr := by
  induction h with
  | nil => simp
  | keep h hl ih =>
    intro e he
    rcases List.mem_cons.1 he with rfl | he
    · exact .inl h
    · exact ih e he
  | drop h hl ih =>
    intro e he
    rcases List.mem_cons.1 he with rfl | he
    · exact .inr h
    · exact ih e he
end
def DOk (D : Nat → Prop) (v : World) (h : Loc) : Prop := ∀ b, D b → Husk v b ∧ ∀ e ∈ h, e.1 ≠ b
def Kp (D : Nat → Prop) (v v1 w w1 : World) (h1 : Loc) : Prop := ∀ b, D b → w1.heap[b]? = w.heap[b]? ∧ v1.heap[b]? = v.heap[b]? ∧ ∀ e ∈ h1, e.1 ≠ b
theorem Kp.dok {D : Nat → Prop} {v v1 w w1 : World} {h h1 : Loc} (hd : DOk D v h) (hk : Kp D v v1 w w1 h1) : DOk D v1 h1 := fun b hb => ⟨(hd b hb).1.same (hk b hb).2.1, (hk b hb).2.2⟩
theorem Kp.trans {D : Nat → Prop} {v v1 v2 w w1 w2 : World} {h1 h2 : Loc} (hk : Kp D v v1 w w1 h1) (hk2 : Kp D v1 v2 w1 w2 h2) : Kp D v v2 w w2 h2 :=
  fun b hb => ⟨(hk2 b hb).1.trans (hk b hb).1, (hk2 b hb).2.1.trans (hk b hb).2.1, (hk2 b hb).2.2⟩
theorem Kp.refl {D : Nat → Prop} {v w : World} {h : Loc} (hd : DOk D v h) : Kp D v v w w h := fun b hb => ⟨rfl, rfl, (hd b hb).2⟩
structure Cx where
  P : Program
  n : Nat
  ops : Array Oper
  kd : List Nat
  bef : List Nat
def kdOf (l : List Nat) (i : Nat) : Kd := match l.getD i 2 with
  | 0 => .p
  | 1 => .l
  | _ => .w
def kdP (l : List Nat) (i : Nat) : Bool := match kdOf l i with | .l => false | _ => true
def kdL (l : List Nat) (i : Nat) : Bool := match kdOf l i with | .l => true | _ => false
def kdW (l : List Nat) (i : Nat) : Bool := match kdOf l i with | .w => true | _ => false
theorem kdL_eq {l : List Nat} {i : Nat} (h : kdL l i = true) : kdOf l i = .l := by
  unfold kdL at h
  split at h
  · assumption
  · cases h
theorem kdW_eq {l : List Nat} {i : Nat} (h : kdW l i = true) : kdOf l i = .w := by
  unfold kdW at h
  split at h
  · assumption
  · cases h
theorem kdP_ne {l : List Nat} {i : Nat} (h : kdP l i = true) : kdOf l i ≠ .l := by
  intro e
  unfold kdP at h
  rw [e] at h
  cases h
abbrev Cx.RS (c : Cx) := Lx.RS c.P c.ops (kdOf c.kd) c.bef
def OJ {β : Type} (c : Cx) (pend : List Pd) (is : List Nat) (m : Env) (h : Loc) (x : M β) (R : List Pd → Env → Loc → M β → Prop) : Prop :=
  ∀ v r v', x v = some (r, v') → ∀ w a, St c.n m h v w a → ∀ D, DOk D v h →
    ∃ p1 m1 h1 x1 v1 w1 a1, R p1 m1 h1 x1 ∧ x1 v1 = some (r, v') ∧ c.RS pend is a w p1 a1 w1 ∧ St c.n m1 h1 v1 w1 a1 ∧ Kp D v v1 w w1 h1
def OW {β : Type} (c : Cx) (owed pend : List Pd) (is : List Nat) (m : Env) (h : Loc) (x : M β) (R : List Pd → Env → Loc → M β → Prop) : Prop :=
  ∀ v r v', x v = some (r, v') → ∀ w a, St c.n m h v w a → ∀ D, DOk D v h → (∀ p ∈ owed, p.ok c.P w) ∧
    ∃ p1 m1 h1 x1 v1 w1 a1, R p1 m1 h1 x1 ∧ x1 v1 = some (r, v') ∧ c.RS pend is a w p1 a1 w1 ∧ St c.n m1 h1 v1 w1 a1 ∧ Kp D v v1 w w1 h1
section
variable {β : Type} {c : Cx} {pend : List Pd} {is : List Nat} {m : Env} {h : Loc} {x : M β} {R : List Pd → Env → Loc → M β → Prop}
theorem OJ.nil (hR : R pend m h x) : OJ c pend [] m h x R :=
  fun v r v' e w a s D hD => ⟨pend, m, h, x, v, w, a, hR, e, .nil _ _ _, s, Kp.refl hD⟩
theorem OW.nil (hJ : OJ c pend is m h x R) : OW c [] pend is m h x R :=
  fun v r v' e w a s D hD => ⟨by simp, hJ v r v' e w a s D hD⟩
theorem OJ.less {m' : Env} (ts : List Nat) (hm : lks m ts = some m') (hJ : OJ c pend is m' h x R) : OJ c pend is m h x R :=
  fun v r v' e w a s D hD => hJ v r v' e w a (s.less (lks_spec hm)) D hD
def onB (ops : Array Oper) (m : Env) (o : Oper) : Option Bool :=
  match o.guard with
  | none => some true
  | some (j, want) => match ops[j]? with
    | some oj => match oj.dst with
      | some t => match lk m t, want with
        | some (.bool true), true | some (.bool false), false => some true
        | some (.bool true), false | some (.bool false), true => some false
        | some (.tuple _), _ => some false
        | _, _ => none
      | none => none
    | none => none
theorem onB_spec {n : Nat} {v w : World} {a : Act} {ops : Array Oper} {o : Oper} {b : Bool} (hb : onB ops m o = some b) (s : St n m h v w a) : Region.wanted o (yielded ops a.tmps) = b := by
  unfold onB at hb
  unfold Region.wanted
  split at hb
  · rename_i hg
    rw [hg]
    exact Option.some.inj hb
  · rename_i j want hg
    rw [hg]
    split at hb
    · rename_i oj hj
      split at hb
      · rename_i t ht
        have hy : ∀ y, lk m t = some (.bool y) → yielded ops a.tmps j = some y := by
          intro y hy
          unfold yielded
          simp [hj, ht, s.get t _ hy]
        have hu : ∀ y, lk m t = some (.tuple y) → yielded ops a.tmps j = none := by
          intro y hy
          unfold yielded
          simp [hj, ht, s.get t _ hy]
        split at hb <;> first
          | (cases hb; done)
          | (rename_i hl; cases hb; simp [hy _ hl]; done)
          | (rename_i hl; cases hb; simp [hu _ hl]; done)
      · cases hb
    · cases hb
def core (ops : Array Oper) (m : Env) (i : Nat) : Option (Option Nat × Op) :=
  match ops[i]? with
  | some o => match onB ops m o with
    | some true => some (o.dst, o.op)
    | _ => none
  | none => none
theorem core_spec {ops : Array Oper} {i : Nat} {d : Option Nat} {op : Op} (hc : core ops m i = some (d, op)) : ∃ o, ops[i]? = some o ∧ o.dst = d ∧ o.op = op ∧ ∀ {n v w a}, St n m h v w a → Region.wanted o (yielded ops a.tmps) = true := by
  unfold core at hc
  split at hc
  · rename_i o ho
    split at hc
    · rename_i hb
      simp only [Option.some.injEq, Prod.mk.injEq] at hc
      exact ⟨o, ho, hc.1, hc.2, fun s => onB_spec hb s⟩
    · cases hc
  · cases hc
def runP (P : Program) (ops : Array Oper) (kd : List Nat) (n : Nat) : List Nat → Env → Option Env
  | [], m => some m
  | i :: is, m => match ops[i]? with
    | none => none
    | some o => match onB ops m o, kdP kd i with
      | some true, true => match pv P (evm m) o.op with
        | some x => match o.dst with
          | some d => match Nat.blt d n with
            | true => runP P ops kd n is ((d, x) :: m)
            | false => none
          | none => runP P ops kd n is m
        | none => none
      | some false, _ => match o.dst with
        | some d => match Nat.blt d n with
          | true => runP P ops kd n is ((d, undef) :: m)
          | false => none
        | none => runP P ops kd n is m
      | _, _ => none
theorem Ev.of_pure {P : Program} {ops : Array Oper} {kd : List Nat} {i : Nat} {o : Oper} {a : Act} {w : World} {x : Value} (hk : kdP kd i = true) (hw : Region.wanted o (yielded ops a.tmps) = true) (hx : ∀ w', (execOp a.eval o).run P w' = .ok (.value x) w') :
    Ev P ops (kdOf kd) i o a w x w [] := by
  cases e : kdOf kd i with
  | p => exact .pure e hw x hx
  | l => exact absurd e (kdP_ne hk)
  | w => exact .write e hw x w (.inl (hx w))
theorem runP_rs : ∀ (is1 : List Nat) {m m1 : Env} {v w : World} {a : Act} {pend : List Pd}, runP c.P c.ops c.kd c.n is1 m = some m1 → St c.n m h v w a → ∃ a1, c.RS pend is1 a w pend a1 w ∧ St c.n m1 h v w a1
  | [], m, m1, v, w, a, pend, e, s => by
    simp only [runP, Option.some.injEq] at e
    subst e
    exact ⟨a, .nil _ _ _, s⟩
  | i :: is1, m, m1, v, w, a, pend, e, s => by
    unfold runP at e
    split at e
    · cases e
    · rename_i o ho
      split at e
      · rename_i hb hk
        have hw := onB_spec hb s
        split at e
        · rename_i x hx
          have hrun := fun w' => pv_run (P := c.P) (o := o) (ev := evm m) (ρ := a.eval) (fun _ _ h => s.eval h) hx w'
          have hev : Ev c.P c.ops (kdOf c.kd) i o a w x w [] := Ev.of_pure hk hw hrun
          split at e
          · rename_i d hd
            split at e
            · rename_i hlt
              have hdn : d < c.n := by simpa [Nat.blt_eq] using hlt
              obtain ⟨a1, h1, h2⟩ := runP_rs is1 e (s.put hdn x)
              exact ⟨a1, .cons o ho x w [] hev (fun _ => .inl rfl) (by rw [hd]; exact h1), h2⟩
            · cases e
          · rename_i hd
            obtain ⟨a1, h1, h2⟩ := runP_rs is1 e s
            exact ⟨a1, .cons o ho x w [] hev (fun _ => .inl rfl) (by rw [hd]; exact h1), h2⟩
        · cases e
      · rename_i hb
        have hw := onB_spec hb s
        have hev : Ev c.P c.ops (kdOf c.kd) i o a w undef w [] := .off hw
        split at e
        · rename_i d hd
          split at e
          · rename_i hlt
            have hdn : d < c.n := by simpa [Nat.blt_eq] using hlt
            obtain ⟨a1, h1, h2⟩ := runP_rs is1 e (s.put hdn undef)
            exact ⟨a1, .cons o ho undef w [] hev (fun _ => .inl rfl) (by rw [hd]; exact h1), h2⟩
          · cases e
        · rename_i hd
          obtain ⟨a1, h1, h2⟩ := runP_rs is1 e s
          exact ⟨a1, .cons o ho undef w [] hev (fun _ => .inl rfl) (by rw [hd]; exact h1), h2⟩
      · cases e
def noW (kd : List Nat) (is : List Nat) (pend : List Pd) : Bool := pend.isEmpty || is.all fun i => !kdW kd i
theorem OJ.run (is1 is2 ts : List Nat) {m2 : Env} (hi : is = is1 ++ is2) (hm : (match runP c.P c.ops c.kd c.n is1 m with | some m1 => lks m1 ts | none => none) = some m2) (hJ : OJ c pend is2 m2 h x R) : OJ c pend is m h x R := by
  subst hi
  intro v r v' e w a s D hD
  split at hm
  · rename_i m1 hm1
    obtain ⟨a1, h1, h2⟩ := runP_rs (c := c) (h := h) (pend := pend) is1 hm1 s
    obtain ⟨p1, m3, h3, x3, v3, w3, a3, q1, q2, q3, q4, q5⟩ := hJ v r v' e w a1 (h2.less (lks_spec hm)) D hD
    exact ⟨p1, m3, h3, x3, v3, w3, a3, q1, q2, RS.append _ _ _ _ h1 q3, q4, q5⟩
  · cases hm
theorem OJ.go (n : Nat) (new : Env) (hJ : OJ c pend (is.drop n) (new ++ m) h x R) (hm : runP c.P c.ops c.kd c.n (is.take n) m = some (new ++ m) := by kernel_rfl) : OJ c pend is m h x R := by
  intro v r v' e w a s D hD
  obtain ⟨a1, h1, h2⟩ := runP_rs (c := c) (h := h) (pend := pend) (is.take n) hm s
  obtain ⟨p1, m3, h3, x3, v3, w3, a3, q1, q2, q3, q4, q5⟩ := hJ v r v' e w a1 h2 D hD
  have h4 := RS.append _ _ _ _ h1 q3
  rw [List.take_append_drop] at h4
  exact ⟨p1, m3, h3, x3, v3, w3, a3, q1, q2, h4, q4, q5⟩
def pdsOf (kd : List Nat) (i : Nat) (T : TypeId) (ad : Addr) (x : Value) : List Pd := match kdOf kd i with
  | .l => [⟨i, T, ad, x⟩]
  | _ => []
theorem exec_load {P : Program} {o : Oper} {T : TypeId} {y : Operand} {ρ : Operand → Value} {ad : Addr} (ho : o.op = .load T y) (hy : ρ y = .pointer (some ad)) (w : World) : (execOp ρ o).run P w = ((loadVar T ad).run P w).andThen fun z w2 => .ok (.value z) w2 := by
  obtain ⟨dst, op, type, pos, after, guard⟩ := o
  simp only at ho
  subst ho
  simp [execOp, Instr.loadAt, hy, Instr.sureAddr]
theorem load_ty {P : Program} {T : TypeId} {α : Type} {cd : Cod α} {z : α} (ty : Ty P T cd z) {w : World} {ad : Addr} {y : α} (hr : rdF w ad 0 cd.n = some (cd.enc y)) : (loadVar T ad).run P w = .ok (cd.val y) w := by
  unfold loadVar
  rw [Sem.run_bind, isAgg_run ty]
  simp only [Result.andThen_ok]
  unfold Cod.val
  cases hagg : cd.agg with
  | true =>
    simp only [if_true]
    simp only [Sem.run_bind, sizeOf_run ty, Result.andThen_ok, loadCells, loadCells_run P w ad cd.n 0 #[] _ hr]
    simp
  | false =>
    simp only [Bool.false_eq_true, if_false]
    have h1 := cd.one hagg
    rw [h1] at hr
    obtain ⟨q, hq, h2⟩ := Option.bind_eq_some_iff.1 hr
    obtain ⟨l', hl', h3⟩ := Option.map_eq_some_iff.1 h2
    simp only [rdF, Option.some.injEq] at hl'
    subst hl'
    rw [← h3]
    have ha : ad.add 0 = ad := rfl
    rw [ha] at hq
    simp [hq]
theorem ld_some {α : Type} {cd : Cod α} {ad : Addr} {v v' : World} {y : α} (h : ld cd ad v = some (y, v')) : v' = v ∧ rdF v ad 0 cd.n = some (cd.enc y) := by
  obtain ⟨l, hl, h2⟩ := Option.bind_eq_some_iff.1 h
  obtain ⟨y', hy', h3⟩ := Option.map_eq_some_iff.1 h2
  simp only [Prod.mk.injEq] at h3
  obtain ⟨rfl, rfl⟩ := h3
  exact ⟨rfl, by rw [hl, cd.ed _ _ hy']⟩
theorem Ev.of_load {P : Program} {ops : Array Oper} {kd : List Nat} {i : Nat} {o : Oper} {a : Act} {w : World} {T : TypeId} {y : Operand} {ad : Addr} {z : Value} (hk : kdP kd i = false ∨ kdW kd i = true) (hw : Region.wanted o (yielded ops a.tmps) = true) (ho : o.op = .load T y) (hy : a.eval y = .pointer (some ad)) (hz : (loadVar T ad).run P w = .ok z w) :
    Ev P ops (kdOf kd) i o a w z w (pdsOf kd i T ad z) := by
  unfold pdsOf
  cases e : kdOf kd i with
  | p => rcases hk with hk | hk <;> simp [kdP, kdW, e] at hk
  | l => exact .load e hw T ad z (fun w' => exec_load ho hy w') hz
  | w => exact .write e hw z w (.inl (by rw [exec_load ho hy w, hz]; rfl))
theorem ldK {l : List Nat} {i : Nat} (h : kdL l i = true) : kdP l i = false := by
  unfold kdP
  rw [kdL_eq h]
theorem OJ.ld {α : Type} {i d : Nat} {T : TypeId} {y : Operand} {cd : Cod α} {z0 : α} {ad : Addr} {f : α → M β} {pend2 : α → List Pd} (ty : Ty c.P T cd z0) (hp : ∀ q, pdsOf c.kd i T ad (cd.val q) ++ pend = pend2 q) (hJ : ∀ q, OJ c (pend2 q) is ((d, cd.val q) :: m) h (f q) R) (hc : core c.ops m i = some (some d, .load T y) := by kernel_rfl) (hy : evm m y = some (.pointer (some ad)) := by kernel_rfl) (hd : Nat.blt d c.n = true := by kernel_rfl) (hk : (kdL c.kd i || (kdW c.kd i && pend.isEmpty)) = true := by kernel_rfl) : OJ c pend (i :: is) m h (ld cd ad >>= f) R := by
  intro v r v' e w a s D hD
  obtain ⟨q, v1, h1, h2⟩ := bind_some.1 e
  obtain ⟨rfl, hr⟩ := ld_some h1
  obtain ⟨o, ho, hod, hop, hw⟩ := core_spec (h := h) hc
  have hlt : d < c.n := by simpa [Nat.blt_eq] using hd
  have hload := load_ty ty (rdF_sub s.sub ad _ _ _ hr)
  obtain ⟨p1, m3, h3, x3, v3, w3, a3, q1, q2, q3, q4, q5⟩ := hJ q v1 r v' h2 w _ (s.put hlt (cd.val q)) D hD
  refine ⟨p1, m3, h3, x3, v3, w3, a3, q1, q2, ?_, q4, q5⟩
  have hk2 : kdP c.kd i = false ∨ kdW c.kd i = true := by
    rcases Bool.or_eq_true_iff.1 hk with hk | hk
    · exact .inl (ldK hk)
    · exact .inr (Bool.and_eq_true_iff.1 hk).1
  refine .cons o ho (cd.val q) w _ (Ev.of_load hk2 (hw s) hop (s.eval hy) hload) (fun _ => .inl rfl) ?_
  rw [hp, hod]; exact q3
theorem rdF_row {w : World} {b : Nat} {cs : List Value} {T : TypeId} {fr : Nat × Nat} (hb : w.heap[b]? = some (.cells cs.toArray T fr)) : ∀ (n i o : Nat) (k : List Value), k.length = n → (∀ j, j < n → cs[o + i + j]? = k[j]?) → rdF w (pt b o) i n = some k
  | 0, i, o, k, hl, _ => by
    obtain rfl := List.eq_nil_of_length_eq_zero hl
    rfl
  | n + 1, i, o, k, hl, hk => by
    match k, hl with
    | y :: k, hl =>
      unfold rdF
      have h0 := hk 0 (by omega)
      rw [pt_add]
      have hc : w.cell? (pt b (o + i)) = some y := by
        unfold World.cell? pt
        simp only [hb]
        simpa using h0
      rw [hc, rdF_row hb n (i + 1) o k (by simpa using hl) (fun j hj => by
        have := hk (j + 1) (by omega)
        rw [show o + (i + 1) + j = o + i + (j + 1) by omega, this]
        simp)]
      rfl
theorem rdF_at {w : World} {b o : Nat} {cs k : List Value} {T : TypeId} {fr : Nat × Nat} (hb : w.heap[b]? = some (.cells cs.toArray T fr)) (ha : At cs o k) : rdF w (pt b o) 0 k.length = some k :=
  rdF_row hb k.length 0 o k rfl fun j hj => by rw [Nat.add_zero]; exact ha.get j hj
theorem St.known {n : Nat} {v w : World} {a : Act} (s : St n m h v w a) {j b : Nat} {l : List Value} (hj : h[j]? = some (b, l)) : Husk v b ∧ ∃ T, w.heap[b]? = some (.cells l.toArray T (0, 0)) :=
  s.loc (b, l) (List.mem_of_getElem? hj)
theorem known_load {P : Program} {n : Nat} {v w : World} {a : Act} (s : St n m h v w a) {j b o : Nat} {l : List Value} (hj : h[j]? = some (b, l)) {α : Type} {T : TypeId} {cd : Cod α} {z0 q : α} (ty : Ty P T cd z0) (ha : At l o (cd.enc q)) : (loadVar T (pt b o)).run P w = .ok (cd.val q) w := by
  obtain ⟨_, T', hT⟩ := s.known hj
  have := rdF_at hT ha
  rw [cd.len] at this
  exact load_ty ty this
theorem OJ.kld {α : Type} {i d j b o : Nat} {T : TypeId} {y : Operand} {cd : Cod α} {z0 : α} {l : List Value} (q : α) {pend2 : List Pd} (ty : Ty c.P T cd z0) (hj : h[j]? = some (b, l)) (ha : At l o (cd.enc q)) (hp : pdsOf c.kd i T (pt b o) (cd.val q) ++ pend = pend2) (hJ : OJ c pend2 is ((d, cd.val q) :: m) h x R) (hc : core c.ops m i = some (some d, .load T y) := by kernel_rfl) (hy : evm m y = some (.pointer (some (pt b o))) := by kernel_rfl) (hd : Nat.blt d c.n = true := by kernel_rfl) (hk : (kdL c.kd i || (kdW c.kd i && pend.isEmpty)) = true := by kernel_rfl) : OJ c pend (i :: is) m h x R := by
  intro v r v' e w a s D hD
  obtain ⟨oo, ho, hod, hop, hw⟩ := core_spec (h := h) hc
  have hlt : d < c.n := by simpa [Nat.blt_eq] using hd
  have hload := known_load (P := c.P) s hj ty ha
  obtain ⟨p1, m3, h3, x3, v3, w3, a3, q1, q2, q3, q4, q5⟩ := hJ v r v' e w _ (s.put hlt (cd.val q)) D hD
  refine ⟨p1, m3, h3, x3, v3, w3, a3, q1, q2, ?_, q4, q5⟩
  have hk2 : kdP c.kd i = false ∨ kdW c.kd i = true := by
    rcases Bool.or_eq_true_iff.1 hk with hk | hk
    · exact .inl (ldK hk)
    · exact .inr (Bool.and_eq_true_iff.1 hk).1
  refine .cons oo ho (cd.val q) w _ (Ev.of_load hk2 (hw s) hop (s.eval hy) hload) (fun _ => .inl rfl) ?_
  rw [hp, hod]; exact q3
noncomputable def same {α : Type} (cd : Cod α) (ad : Addr) (q : α) : M Unit := fun v => open Classical in if ld cd ad v = some (q, v) then some ((), v) else none
theorem OW.same {α : Type} {T : TypeId} {cd : Cod α} {z0 q : α} {i : Nat} {ad : Addr} {owed : List Pd} {f : Unit → M β} (ty : Ty c.P T cd z0) (hJ : OW c owed pend is m h (f ()) R) : OW c (⟨i, T, ad, cd.val q⟩ :: owed) pend is m h (same cd ad q >>= f) R := by
  intro v r v' e w a s D hD
  obtain ⟨u, v1, h1, h2⟩ := bind_some.1 e
  unfold Lx.same at h1
  split at h1
  · rename_i hl
    simp only [Option.some.injEq, Prod.mk.injEq] at h1
    obtain ⟨-, rfl⟩ := h1
    obtain ⟨ho, hrest⟩ := hJ v r v' h2 w a s D hD
    refine ⟨fun p hp => ?_, hrest⟩
    rcases List.mem_cons.1 hp with rfl | hp
    · exact load_ty ty (rdF_sub s.sub ad _ _ _ (ld_some hl).2)
    · exact ho p hp
  · cases h1
theorem OW.known {α : Type} {T : TypeId} {cd : Cod α} {z0 : α} {q : α} {i j b o : Nat} {l : List Value} {owed : List Pd} (ty : Ty c.P T cd z0) (hj : h[j]? = some (b, l)) (ha : At l o (cd.enc q)) (hJ : OW c owed pend is m h x R) : OW c (⟨i, T, pt b o, cd.val q⟩ :: owed) pend is m h x R := by
  intro v r v' e w a s D hD
  obtain ⟨ho, hrest⟩ := hJ v r v' e w a s D hD
  refine ⟨fun p hp => ?_, hrest⟩
  rcases List.mem_cons.1 hp with rfl | hp
  · exact known_load s hj ty ha
  · exact ho p hp
def owes (bef : List Nat) (i : Nat) : List Pd → List Pd
  | [] => []
  | p :: r => match pre bef i p.i with
    | true => owes bef i r
    | false => p :: owes bef i r
theorem owes_spec {bef : List Nat} {i : Nat} : ∀ {pend : List Pd} {p : Pd}, p ∈ pend → pre bef i p.i = false → p ∈ owes bef i pend
  | q :: r, p, hm, hp => by
    unfold owes
    rcases List.mem_cons.1 hm with rfl | hm
    · rw [hp]; simp
    · cases pre bef i q.i
      · exact List.mem_cons_of_mem _ (owes_spec hm hp)
      · exact owes_spec hm hp
end
end Go.Proofs.Ytlkhijflgbobjaa.Lx
