/- The machine 'Lx': range over a function: the loop's record, its rounds, the call of a function value; rules. -/
import Derived.Test.YtfgcobigollfjaaDoorLxMs
set_option linter.unusedVariables false
set_option linter.unusedSimpArgs false
set_option linter.unusedSectionVars false
namespace Go.Proofs.YtfgcobigollfjaaDoor.Lx
open Go
variable [ZbS]
def newLoop : M Nat := fun v => some (v.heap.size + 1, (v.alloc (.cells #[] 0)).alloc (.loop (absL .ready none)))
def begM (l : Nat) : M Unit := fun v => match v.heap[l]? with
  | some (.loop r) => match r.state with
    | .ready => some ((), v.putObj l (.loop (absL .busy r.pending)))
    | _ => none
  | _ => none
def endR (l : Nat) (j : Option Code) : M Bool := fun v => match v.heap[l]? with
  | some (.loop _) => some (j.isNone, v.putObj l (.loop (absL (if j.isNone then .ready else .done) j)))
  | _ => none
def endL (l : Nat) : M (Option Code) := fun v => match v.heap[l]? with
  | some (.loop r) => match r.state with
    | .busy => none
    | _ => some (r.pending, v.putObj l (.loop (absL .exhausted r.pending)))
  | _ => none
theorem Sub.setL {v w : World} (h : Sub v w) {l : Nat} {r : Loop} (ht : ZbS.tab l = some r) (s : LoopState) (p : Option Code) : Sub (v.putObj l (.loop (absL s p))) (w.putObj l (.loop { r with state := s, pending := p })) := by
  obtain ⟨a1, a2, a3, a4, a5⟩ := Zfo v l (.loop (absL s p))
  obtain ⟨b1, b2, b3, b4, b5⟩ := Zfo w l (.loop { r with state := s, pending := p })
  obtain ⟨ho, s0, p0, h1, h2⟩ := h.lp l r ht
  have hlt : l < v.heap.size := (Array.getElem?_eq_some_iff.1 h1).1
  refine ⟨by rw [a1, b1]; exact h.os, by rw [a2, b2]; exact h.tape, by rw [a3, b3]; exact h.drawn, by rw [a4, b4]; exact h.output, by rw [a5, b5]; exact h.size, by rw [a5]; exact h.old, fun b => ?_, fun l' r' hr => ?_⟩
  · by_cases e : b = l
    · subst e
      exact .inr (.inr ⟨_, _, World.putObj_heap_same hlt, World.putObj_heap_same (by rw [h.size]; exact hlt), ho⟩)
    · rw [World.putObj_heap_other e, World.putObj_heap_other e]
      exact h.at_ b
  · by_cases e : l' = l
    · subst e
      rw [ht] at hr
      cases hr
      exact ⟨ho, s, p, World.putObj_heap_same hlt, World.putObj_heap_same (by rw [h.size]; exact hlt)⟩
    · rw [World.putObj_heap_other e, World.putObj_heap_other e]
      exact h.lp l' r' hr
theorem ZgC {v w : World} (h : Sub v w) {l : Nat} {r : Loop} (ht : ZbS.tab l = some r) (o o' : Obj) : ∀ b, Husk v b → (w.putObj l o').heap[b]? = w.heap[b]? ∧ (v.putObj l o).heap[b]? = v.heap[b]? := by
  intro b hb
  obtain ⟨ho, s0, p0, h1, h2⟩ := h.lp l r ht
  have hne : b ≠ l := fun e => by
    obtain ⟨T, hT⟩ := hb
    rw [e, h1] at hT
    cases hT
  exact ⟨World.putObj_heap_other hne, World.putObj_heap_other hne⟩
theorem ZlC {l : Nat} {v v' : World} {u : Unit} (h : begM l v = some (u, v')) : ∃ r, v.heap[l]? = some (.loop r) ∧ r.state = .ready ∧ v' = v.putObj l (.loop (absL .busy r.pending)) := by
  unfold begM at h
  split at h
  · rename_i r hr
    split at h
    · rename_i hs
      simp only [Option.some.injEq, Prod.mk.injEq] at h
      exact ⟨r, hr, hs, h.2.symm⟩
    · cases h
  · cases h
theorem Zlp {l : Nat} {v v' : World} {j : Option Code} {u : Bool} (h : endR l j v = some (u, v')) : u = j.isNone ∧ v' = v.putObj l (.loop (absL (if j.isNone then .ready else .done) j)) := by
  unfold endR at h
  split at h
  · simp only [Option.some.injEq, Prod.mk.injEq] at h
    exact ⟨h.1.symm, h.2.symm⟩
  · cases h
theorem Zlq {l : Nat} {v v' : World} {j : Option Code} (h : endL l v = some (j, v')) : ∃ r, v.heap[l]? = some (.loop r) ∧ r.state ≠ .busy ∧ j = r.pending ∧ v' = v.putObj l (.loop (absL .exhausted r.pending)) := by
  unfold endL at h
  split at h
  · rename_i r hr
    split at h
    · cases h
    · rename_i hs
      simp only [Option.some.injEq, Prod.mk.injEq] at h
      exact ⟨r, hr, hs, h.1.symm, h.2.symm⟩
  · cases h
def fnil : Value → M Bool
  | .func _ _ _ => pure false
  | .nilFunc => pure true
  | _ => fail
def Zm2 (P : Program) (T : TypeId) : Bool := match P.underlying T with | some (.func _ _ _) => true | _ => false
section
variable {β : Type} {c : Cx} {pend : List Pd} {is : List Nat} {m : Env} {h : Loc} {x : M β} {R : List Pd → Env → Loc → M β → Prop}
theorem ZjS {P : Program} {T : TypeId} (h : Zm2 P T = true) {f : Value} {b : Bool} {v v' : World} (hf : fnil f v = some (b, v')) (w : World) : v' = v ∧ (Op.equal T f .nilFunc).run P w = .ok b w := by
  obtain ⟨x1, x2, x3, hT⟩ : ∃ x1 x2 x3, P.underlying T = some (.func x1 x2 x3) := by
    unfold Zm2 at h
    split at h
    · exact ⟨_, _, _, by assumption⟩
    · cases h
  unfold fnil at hf
  split at hf <;> first
    | (cases hf; done)
    | (simp only [pure_def, Option.some.injEq, Prod.mk.injEq] at hf
       obtain ⟨rfl, rfl⟩ := hf
       refine ⟨rfl, ?_⟩
       rw [Ze4, Op.equalIn]
       simp [underlying, hT])
theorem OJ.fnil {i d : Nat} {T yT : TypeId} {y z : Operand} {fv : Value} {f : Bool → M β} (hT : Zm2 c.P T = true) (hJ : ∀ b, OJ c pend is ((d, .bool b) :: m) h (f b) R) (hc : core c.ops m i = some (some d, .binOp .eql T y z yT) := by kernel_rfl) (hy : evm m y = some fv := by kernel_rfl) (hz : evm m z = some .nilFunc := by kernel_rfl) (hk : kdP c.kd i = true := by kernel_rfl) (hn : noW c.kd [i] pend = true := by kernel_rfl) (hd : Nat.blt d c.n = true := by kernel_rfl) : OJ c pend (i :: is) m h (fnil fv >>= f) R := by
  refine OJ.q hc hk hn hd fun v r v' e w a s => ?_
  obtain ⟨b, v1, h1, h2⟩ := bind_some.1 e
  obtain ⟨rfl, -⟩ := ZjS hT h1 w
  refine ⟨.bool b, f b, fun o ho w' => ?_, h2, hJ b⟩
  obtain ⟨-, heq⟩ := ZjS hT h1 w'
  obtain ⟨dst, op, type, pos, after, guard⟩ := o
  simp only at ho
  subst ho
  refine ZcI (s.eval hy) (s.eval hz) (Zcy (by rintro _ _ ⟨_, h⟩; cases h) (by rintro ⟨_, h⟩; cases h) _) (Zfj heq (by rintro _ _ _ _ ⟨_, h⟩; cases h) (by rintro _ _ _ _ ⟨_, h⟩; cases h) (by rintro _ _ _ _ _ _ ⟨_, h⟩; cases h) (by rintro _ _ ⟨_, h⟩; cases h)).1
end
def Zea : Value → Option (FuncId × Addr)
  | .func (.func g) f c => if f.size = 0 then match c.toList with
    | [.pointer (some a)] => some (g, a)
    | _ => none
    else none
  | _ => none
theorem Zdm {f : Value} {g : FuncId} {a : Addr} (h : Zea f = some (g, a)) : f = .func (.func g) [].toArray [Value.pointer (some a)].toArray := by
  unfold Zea at h
  split at h
  · rename_i g' f' c'
    split at h
    · rename_i hs
      split at h
      · rename_i a' hc
        simp only [Option.some.injEq, Prod.mk.injEq] at h
        obtain ⟨rfl, rfl⟩ := h
        have := Array.eq_empty_of_size_eq_zero hs
        subst this
        rw [← hc]
      · cases h
    · cases h
  · cases h
section
variable {β : Type} {c : Fx} {k : List Item} {m : Env} {h : Loc} {x : M β} {F : β → Reach}
theorem SJ.begin {l : Nat} {r : Loop} (hro : c.ro = some l) (ht : ZbS.tab l = some r) (hJ : SJ c k m h x F) : SJ c (.beginRound :: k) m h (begM l >>= fun _ => x) F := by
  intro v q v' e w a s D hD hM
  obtain ⟨u, v1, e1, e2⟩ := bind_some.1 e
  obtain ⟨rr, g1, g2, rfl⟩ := ZlC e1
  obtain ⟨ho, s0, p0, h1, h2⟩ := s.sub.lp l r ht
  rw [h1] at g1
  cases g1
  simp only [absL] at g2
  subst g2
  have hk := ZgC s.sub ht (.loop (absL .busy p0)) (.loop { r with state := .busy, pending := p0 })
  have hrun := run_beginRound (P := c.P) h2 rfl
  obtain ⟨w', h3, h4⟩ := hJ _ q v' e2 _ a ⟨s.sub.setL ht .busy p0, s.size, s.defers.keep hk, s.get, Loc.keep s hk, s.nd⟩ D (fun b hb => ⟨(hD b hb).1.same (hk b (hD b hb).1).2, (hD b hb).2⟩) hM
  refine ⟨w', h3.head (fun b cs _ _ hr => .one (stepR_beginRound (hr.trans hro) hrun)), fun b hb => ?_⟩
  obtain ⟨k1, k2⟩ := hk b (hD b hb).1
  exact ⟨(h4 b hb).1.trans k1, (h4 b hb).2.trans k2⟩
theorem SJ.retJ {cd : Code} {y : β} (hF : F y = .jump .ret) (hk : Zb4 cd = .ret := by kernel_rfl) : SJ c (.code cd :: k) m h (pure y) F := by
  rw [ZhV hk]
  intro v r v' e w a s D hD hM
  simp only [pure_def, Option.some.injEq, Prod.mk.injEq] at e
  obtain ⟨rfl, rfl⟩ := e
  refine ⟨w, ?_, fun b _ => ⟨rfl, rfl⟩⟩
  rw [hF]
  exact ⟨a, m, h, k, s, trivial, fun b cs _ _ _ => Steps.refl _ _⟩
theorem SJ.exitJ {cd : Code} {id : Nat} {y : β} (hF : F y = .jump (.exit id)) (he : exitTo id k = none) (hk : Zb4 cd = .exit id := by kernel_rfl) : SJ c (.code cd :: k) m h (pure y) F := by
  rw [Ziw hk]
  intro v r v' e w a s D hD hM
  simp only [pure_def, Option.some.injEq, Prod.mk.injEq] at e
  obtain ⟨rfl, rfl⟩ := e
  refine ⟨w, ?_, fun b _ => ⟨rfl, rfl⟩⟩
  rw [hF]
  exact ⟨a, m, h, k, s, he, fun b cs _ _ _ => Steps.refl _ _⟩
end
def rdJ : Option Code → Reach
  | none => .at [] [] []
  | some j => .jump j
def zipE : List Nat → List Value → Env → Env
  | t :: ts, x :: xs, m => zipE ts xs ((t, x) :: m)
  | _, _, m => m
theorem Zjp {n : Nat} : ∀ (ps : List Nat) (xs : List Value) (m : Env) (tm : Array Value), tm.size = n → (∀ t x, lk m t = some x → tm[t]? = some x) → (∀ t ∈ ps, t < n) →
    ((ps.zip xs).foldl (fun tmps (p : Nat × Value) => tmps.setIfInBounds p.1 p.2) tm).size = n ∧ ∀ t x, lk (zipE ps xs m) t = some x → ((ps.zip xs).foldl (fun tmps (p : Nat × Value) => tmps.setIfInBounds p.1 p.2) tm)[t]? = some x
  | [], xs, m, tm, h1, h2, _ => by simpa [zipE] using ⟨h1, h2⟩
  | t :: ts, [], m, tm, h1, h2, _ => by simpa [zipE] using ⟨h1, h2⟩
  | t :: ts, x :: xs, m, tm, h1, h2, h3 => by
    simp only [List.zip_cons_cons, List.foldl_cons, zipE]
    refine Zjp ts xs ((t, x) :: m) (tm.setIfInBounds t x) (by simp [h1]) (fun t' x' hx => ?_) (fun t' ht => h3 t' (List.mem_cons_of_mem _ ht))
    have := Zhq (n := n) (d := t) (m := m) (a := ⟨tm, []⟩) (y := x) (h3 t (by simp)) h1 h2 t' x' hx
    simpa [Act.put] using this
theorem RefV.round {α : Type} {P : Program} {f : FuncId} {fn : Func} {l : Nat} {rc : Loop} {ps : List Nat} {as bd : Code} {m : Env} (enc : α → List Value) {G : α → M (Option Code)} (ht : ZbS.tab l = some rc) (h1 : rc.fn = f) (h2 : rc.params = ps.toArray) (h3 : rc.assign = as) (h4 : rc.body = bd) (h5 : rc.tmps.size = fn.ntmps) (h6 : ∀ t x, lk m t = some x → rc.tmps[t]? = some x) (hps : ∀ t ∈ ps, t < fn.ntmps) (hlen : ∀ x, (enc x).length = ps.length)
    (hJ : ∀ x, SJ ⟨P, f, fn, some l⟩ [.code as, .beginRound, .code bd] (zipE ps (enc x) m) [] (G x) rdJ) (x : α) : RefV P (.func (.yield l) #[] #[]) (enc x) (G x >>= fun j => endR l j) Value.bool := by
  intro v r v' e w hw
  obtain ⟨j, v1, e1, e2⟩ := bind_some.1 e
  obtain ⟨rfl, rfl⟩ := Zlp e2
  obtain ⟨ho, s0, p0, g1, g2⟩ := hw.lp l rc ht
  obtain ⟨z1, z2⟩ := Zjp ps (enc x) m rc.tmps h5 h6 hps
  let tm := (ps.zip (enc x)).foldl (fun tmps (p : Nat × Value) => tmps.setIfInBounds p.1 p.2) rc.tmps
  have hrun : (Instr.yield l (enc x).toArray).run P w = .ok (.round l f tm as bd) w := by
    rw [run_yield g2 (by simp [h2, hlen])]
    simp only [h1, h2, h3, h4, tm]
    simp
  have st : St fn.ntmps (zipE ps (enc x) m) [] v w { tmps := tm, defers := [] } := ⟨hw, z1, ZiS.nil, z2, by simp, by simp⟩
  obtain ⟨w1, hfin, hkeep⟩ := hJ x v j v1 e1 w _ st (fun b => Husk v b) (fun b hb => ⟨hb, by simp⟩) (fun r hr => by cases hr)
  let bb : Frame := { (default : Frame) with fn := f, kind := .normal, roundOf := some l }
  have hb0 : Frame.round l f tm as bd .normal = bb.atR { tmps := tm, defers := [] } [.code as, .beginRound, .code bd] := by
    simp [Frame.round, Frame.atR, bb]
  have s1 : Sub v1 w1 := by
    cases j with
    | none => exact hfin.choose_spec.1.sub
    | some j => exact hfin.choose_spec.choose_spec.choose_spec.choose_spec.1.sub
  obtain ⟨-, s3, p3, g3, g4⟩ := s1.lp l rc ht
  have hk := ZgC s1 ht (.loop (absL (if j.isNone then .ready else .done) j)) (.loop { rc with state := (if j.isNone then .ready else .done), pending := j })
  have hend := run_endRound (P := P) j g4
  refine ⟨_, s1.setL ht _ _, fun b hb => ?_, .inr ⟨l, f, tm, as, bd, rfl, hrun, trivial, fun cf cs _ => ⟨.returned (.bool j.isNone), _, ⟨rfl, rfl⟩, ?_⟩⟩⟩
  · obtain ⟨k1, k2⟩ := hkeep b hb
    obtain ⟨k3, k4⟩ := hk b (hb.same k2)
    exact ⟨k3.trans k1, k4.trans k2⟩
  · refine stepsIn_wide.2 ?_
    rw [hb0]
    cases j with
    | none =>
      obtain ⟨a', -, -, hst⟩ := hfin
      exact (hst bb (cf :: cs) rfl rfl rfl).trans (.one (stepR_round_end rfl rfl hend))
    | some j =>
      obtain ⟨a', m', h', k1, -, hn, hst⟩ := hfin
      refine (hst bb (cf :: cs) rfl rfl rfl).trans (.one ?_)
      cases j <;> first
        | exact hn.elim
        | exact stepR_round_ret rfl rfl hend
        | exact stepR_round_exit rfl rfl hn hend
end Go.Proofs.YtfgcobigollfjaaDoor.Lx
namespace Go.Proofs.YtfgcobigollfjaaDoor.Lx
open Go
theorem Sub.extend {L L' : ZbS} {v w : World} (h : @Sub L v w) (ho : L'.old = L.old) (hl : ∀ l r, L'.tab l = some r → L.tab l = some r ∨ (L.old ≤ l ∧ ∃ s p, v.heap[l]? = some (.loop (absL s p)) ∧ w.heap[l]? = some (.loop { r with state := s, pending := p }))) : @Sub L' v w := by
  obtain ⟨tab', old'⟩ := L'
  simp only at ho
  subst ho
  exact @Sub.mk ⟨tab', L.old⟩ v w h.os h.tape h.drawn h.output h.size h.old h.at_ (fun l r hr => by
    rcases hl l r hr with h1 | h1
    · exact h.lp l r h1
    · exact h1)
variable [ZbS]
@[reducible] def ZbS.more (L : ZbS) (l : Nat) (r : Loop) : ZbS := ⟨fun i => if i = l then some r else L.tab i, L.old⟩
theorem ZbS.more_same (L : ZbS) (l : Nat) (r : Loop) : (L.more l r).tab l = some r := if_pos rfl
theorem ZbS.more_ne (L : ZbS) {l i : Nat} (r : Loop) (h : i ≠ l) : (L.more l r).tab i = L.tab i := if_neg h
def rangeM {α ι β : Type} (it : (α → M Bool) → M ι) (G : Nat → α → M (Option Code)) (K : Option Code → M β) : M β :=
  newLoop >>= fun l => it (fun x => G l x >>= fun j => endR l j) >>= fun _ => endL l >>= K
def onJ {β : Type} (x y : M β) (z : List (Nat × M β)) : Option Code → M β
  | none => x
  | some .ret => y
  | some (.exit i) => (z.lookup i).getD fail
  | _ => fail
section
variable {β : Type} {c : Fx} {k : List Item} {m : Env} {h : Loc} {x : M β} {F : β → Reach}
theorem SJ.onJ {y : M β} {z : List (Nat × M β)} (hx : SJ c k m h x F) (hy : SJ c (.code .ret :: k) m h y F) (hz : ∀ i q, z.lookup i = some q → SJ c (.code (.exit i) :: k) m h q F) : ∀ j, SJ c ((j.map Item.code).toList ++ k) m h (onJ x y z j) F
  | none => hx
  | some .ret => hy
  | some (.exit i) => by
    show SJ c (.code (.exit i) :: k) m h ((z.lookup i).getD Lx.fail) F
    cases e : z.lookup i with
    | none => exact SJ.fail
    | some q => exact hz i q e
  | some (.skip) | some (.seq _ _) | some (.cond _ _ _) | some (.block _ _) | some (.loop _) | some (.scope _) | some (.label _) | some (.goto _) | some (.region _ _ _) | some (.rangeFunc _ _ _ _) | some (.refuse _) => SJ.fail
theorem SJ.exits0 {G : Nat → M β → Prop} : ∀ i q, ([] : List (Nat × M β)).lookup i = some q → G i q := fun i q e => by cases e
theorem SJ.exits1 {G : Nat → M β → Prop} {i0 : Nat} {q0 : M β} (h : G i0 q0) : ∀ i q, [(i0, q0)].lookup i = some q → G i q := fun i q e => by
  simp only [List.lookup] at e
  split at e
  · rename_i hi
    simp only [beq_iff_eq] at hi
    cases e
    rw [hi]; exact h
  · cases e
def SR (c : Fx) (m : Env) (h : Loc) (rs : List ResultVar) (x : M β) (acc : List Value) (F : β → Reach) : Prop :=
  ∀ v r v', x v = some (r, v') → v' = v ∧ ∃ ys, F r = .ret (ZeM (acc ++ ys)) ∧ ∀ w a, St c.fn.ntmps m h v w a → ∀ ac : Array Value, (rs.foldlM (fun (acc : Array Value) (r : ResultVar) => acc.push <$> (match r with
        | .tmp t => pure (a.tmps.getD t undef)
        | .cell a' t => do loadVar t (← asAddr (a.tmps.getD a' undef)) : Sem Value)) ac).run c.P w = .ok (ac ++ ys.toArray) w
theorem SR.nil {y : β} {acc : List Value} (hF : F y = .ret (ZeM acc)) : SR c m h [] (pure y) acc F := by
  intro v r v' e
  simp only [pure_def, Option.some.injEq, Prod.mk.injEq] at e
  obtain ⟨rfl, rfl⟩ := e
  exact ⟨rfl, [], by simpa using hF, fun w a s ac => by simp⟩
theorem SR.tmp {t : Nat} {y : Value} {rs : List ResultVar} {acc : List Value} (hr : SR c m h rs x (acc ++ [y]) F) (ht : lk m t = some y := by kernel_rfl) : SR c m h (.tmp t :: rs) x acc F := by
  intro v r v' e
  obtain ⟨e1, ys, e2, e3⟩ := hr v r v' e
  refine ⟨e1, y :: ys, by simpa using e2, fun w a s ac => ?_⟩
  have h1 : a.tmps.getD t undef = y := by simp [Array.getD_eq_getD_getElem?, s.get t y ht]
  simp only [List.foldlM_cons, Sem.run_bind, Sem.run_map, Sem.run_pure, Result.andThen_ok, h1]
  rw [e3 w a s (ac.push y)]
  simp
theorem SR.ld {α : Type} {t T : Nat} {cd : Cod α} {z0 : α} {ad : Addr} {f : α → M β} {rs : List ResultVar} {acc : List Value} (ty : Ty c.P T cd z0) (hr : ∀ q, SR c m h rs (f q) (acc ++ [cd.val q]) F) (ht : lk m t = some (.pointer (some ad)) := by kernel_rfl) : SR c m h (.cell t T :: rs) (ld cd ad >>= f) acc F := by
  intro v r v' e
  obtain ⟨q, v1, h1, h2⟩ := bind_some.1 e
  obtain ⟨rfl, hrd⟩ := Zjg h1
  obtain ⟨e1, ys, e2, e3⟩ := hr q v1 r v' h2
  refine ⟨e1, cd.val q :: ys, by simpa using e2, fun w a s ac => ?_⟩
  have g1 : a.tmps.getD t undef = .pointer (some ad) := by simp [Array.getD_eq_getD_getElem?, s.get t _ ht]
  have g2 := ZhT ty (ZgH s.sub ad _ _ _ hrd)
  have g3 : asAddr (a.tmps.getD t undef) = pure ad := by rw [g1]; rfl
  simp only [List.foldlM_cons, Sem.run_bind, Sem.run_map, Sem.run_pure, Result.andThen_ok, g3, g2]
  have := e3 w a s (ac.push (cd.val q))
  rw [this]
  simp
theorem SR.cell {α : Type} {t T j b : Nat} {l : List Value} {cd : Cod α} {z0 q : α} {rs : List ResultVar} {acc : List Value} (ty : Ty c.P T cd z0) (hj : h[j]? = some (b, l)) (ha : At l 0 (cd.enc q)) (hr : SR c m h rs x (acc ++ [cd.val q]) F) (ht : lk m t = some (.pointer (some (pt b 0))) := by kernel_rfl) : SR c m h (.cell t T :: rs) x acc F := by
  intro v r v' e
  obtain ⟨e1, ys, e2, e3⟩ := hr v r v' e
  refine ⟨e1, cd.val q :: ys, by simpa using e2, fun w a s ac => ?_⟩
  have g1 : a.tmps.getD t undef = .pointer (some (pt b 0)) := by simp [Array.getD_eq_getD_getElem?, s.get t _ ht]
  have g2 := Ze1 (P := c.P) s hj ty ha
  have g3 : asAddr (a.tmps.getD t undef) = pure (pt b 0) := by rw [g1]; rfl
  simp only [List.foldlM_cons, Sem.run_bind, Sem.run_map, Sem.run_pure, Result.andThen_ok, g3, g2]
  have := e3 w a s (ac.push (cd.val q))
  rw [this]
  simp
theorem SJ.retM {cd : Code} {rs : List ResultVar} (hr : SR c m h rs x [] F) (hf : c.fn.results = rs.toArray := by kernel_rfl) (hk : Zb4 cd = .ret := by kernel_rfl) (hro0 : c.ro = none := by rfl) : SJ c (.code cd :: k) m h x F := by
  rw [ZhV hk]
  intro v r v' e w a s D hD hM
  obtain ⟨rfl, ys, e2, e3⟩ := hr v r v' e
  refine ⟨w, ?_, fun b _ => ⟨rfl, rfl⟩⟩
  rw [e2]
  refine ⟨a, m, h, s, hM, fun w a s => ?_, fun b cs _ _ hro => ⟨_, .one (stepR_ret (hro.trans hro0))⟩⟩
  have k1 := e3 w a s #[]
  unfold Go.results
  rw [hf]
  simp only [Sem.run_bind]
  rw [Array.mapM_eq_foldlM]
  rw [← Array.foldlM_toList]
  refine (congrArg (fun r : Result (Array Value) => r.andThen _) k1).trans ?_
  simp only [Result.andThen_ok, Sem.run_pure]
  match ys with
  | [] => simp [ZeM]
  | [y] => simp [ZeM]
  | y :: z :: r => simp [ZeM]
theorem SJ.rangeF {α ι : Type} {cd : Code} {fo : Operand} {fv : Value} {ps : List Nat} (enc : α → List Value) {it : (α → M Bool) → M ι} (oi : ι → Value) {G : Nat → α → M (Option Code)} {K : Option Code → M β}
    (hit : ∀ (L : ZbS) (yv : Any) (y : α → M Bool), (∀ x, @RefV L c.P yv.v _ (enc x) (y x) Value.bool) → @RefI L c.P fv _ [yv.v] (it y) oi)
    (hb : ∀ (L : ZbS) (l : Nat) (rc : Loop), L.tab l = some rc → ∀ x, @SJ L _ ⟨c.P, c.f, c.fn, some l⟩ [.code (rfOf cd).2.2.1, .beginRound, .code (rfOf cd).2.2.2] (zipE ps (enc x) m) [] (G l x) rdJ)
    (hk : ∀ j, SJ c ((j.map Item.code).toList ++ k) m h (K j) F) (hro : c.ro = none := by rfl) (hcd : isRF cd = true := by kernel_rfl) (hop : (rfOf cd).1 = fo := by kernel_rfl) (hfo : evm m fo = some fv := by kernel_rfl) (hpp : (rfOf cd).2.1 = ps.toArray := by kernel_rfl) (hps : ps.all (fun t => Nat.blt t c.fn.ntmps) = true := by kernel_rfl) (hlen : ∀ x, (enc x).length = ps.length := by intro x; rfl) :
    SJ c (.code cd :: k) m h (rangeM it G K) F := by
  rename_i L0
  intro v r v' e w a s D hD hM
  obtain ⟨l, v1, e1, e⟩ := bind_some.1 e
  simp only [newLoop, Option.some.injEq, Prod.mk.injEq] at e1
  obtain ⟨rfl, rfl⟩ := e1
  obtain ⟨q, v2, e2, e⟩ := bind_some.1 e
  obtain ⟨j, v3, e3, e4⟩ := bind_some.1 e
  have hsz := s.sub.size
  let rc : Loop := { state := .ready, pending := none, fn := c.f, tmps := a.tmps, params := (rfOf cd).2.1, assign := (rfOf cd).2.2.1, body := (rfOf cd).2.2.2, defers := w.heap.size }
  let w1 : World := (w.alloc (.deferred (some []))).alloc (.loop rc)
  have hvs : (v.alloc (.cells #[] 0)).heap.size = v.heap.size + 1 := by simp
  have sub0 : Sub ((v.alloc (.cells #[] 0)).alloc (.loop (absL .ready none))) w1 := (s.sub.alloc2 _ _ (.inr (.inl ⟨0, rfl, (by trivial : hidO 0 (.deferred (some [])))⟩))).alloc2 _ _ (.inr (.inr ⟨_, _, rfl, rfl⟩))
  have hl1 : ((v.alloc (.cells #[] 0)).alloc (.loop (absL .ready none))).heap[v.heap.size + 1]? = some (.loop (absL .ready none)) := by rw [Zcl, if_pos hvs.symm]
  have hws : (w.alloc (.deferred (some []))).heap.size = v.heap.size + 1 := by simp [hsz]
  have hl2 : w1.heap[v.heap.size + 1]? = some (.loop rc) := by show (World.alloc _ _).heap[_]? = _; rw [Zcl, if_pos hws.symm]
  have sub1 : @Sub (L0.more (v.heap.size + 1) rc) ((v.alloc (.cells #[] 0)).alloc (.loop (absL .ready none))) w1 := by
    refine sub0.extend rfl fun i r' hr => ?_
    by_cases ei : i = v.heap.size + 1
    · subst ei
      rw [ZbS.more_same] at hr
      cases hr
      exact .inr ⟨Nat.le_succ_of_le s.sub.old, _, _, hl1, hl2⟩
    · rw [ZbS.more_ne _ _ ei] at hr
      exact .inl hr
  have htab : (L0.more (v.heap.size + 1) rc).tab (v.heap.size + 1) = some rc := ZbS.more_same _ _ _
  have hps' : ∀ t ∈ ps, t < c.fn.ntmps := fun t ht => by simpa [Nat.blt_eq] using List.all_eq_true.1 hps t ht
  obtain ⟨g, first, cap, gfn, rfl, hgf, hcall⟩ := hit (L0.more (v.heap.size + 1) rc) ⟨.func (.yield (v.heap.size + 1)) #[] #[], rfl⟩ _ (fun x => @RefV.round (L0.more (v.heap.size + 1) rc) α c.P c.f c.fn (v.heap.size + 1) rc ps _ _ m enc (G (v.heap.size + 1)) htab rfl hpp rfl rfl s.size s.get hps' hlen (fun x => hb _ _ rc htab x) x) _ q v2 e2
  obtain ⟨w2, sub2, hkeep, hcalls⟩ := hcall w1 sub1
  obtain ⟨rr, y1, y2, rfl, rfl⟩ := Zlq e3
  obtain ⟨ho2, s2, p2, y3, y4⟩ := @Sub.lp (L0.more (v.heap.size + 1) rc) _ _ sub2 _ rc htab
  rw [y3] at y1
  cases y1
  simp only [absL] at y2 e4
  have hend := run_endLoop (P := c.P) y4 y2
  have sub3' := @Sub.setL (L0.more (v.heap.size + 1) rc) _ _ sub2 _ rc htab .exhausted p2
  have hk3 := @ZgC (L0.more (v.heap.size + 1) rc) _ _ sub2 _ rc htab (.loop (absL .exhausted p2)) (.loop { rc with state := .exhausted, pending := p2 })
  have sub3 : Sub (v2.putObj (v.heap.size + 1) (.loop (absL .exhausted p2))) (w2.putObj (v.heap.size + 1) (.loop { rc with state := .exhausted, pending := p2 })) := by
    refine sub3'.extend rfl fun i r' hr => .inl ?_
    have hlt : i < v.heap.size := (Array.getElem?_eq_some_iff.1 (s.sub.lp i r' hr).2.choose_spec.choose_spec.1).1
    rw [ZbS.more_ne _ _ (show i ≠ v.heap.size + 1 by omega)]
    exact hr
  -- what was a husk ahead of the loop is as it was
  have hold : ∀ b, Husk v b → (w2.putObj (v.heap.size + 1) (.loop { rc with state := .exhausted, pending := p2 })).heap[b]? = w.heap[b]? ∧ (v2.putObj (v.heap.size + 1) (.loop (absL .exhausted p2))).heap[b]? = v.heap[b]? := by
    intro b hb'
    have hlt := hb'.lt
    have q1 : ((v.alloc (.cells #[] 0)).alloc (.loop (absL .ready none))).heap[b]? = v.heap[b]? := by
      rw [Zcl, if_neg (by rw [hvs]; omega), Zcl, if_neg (by omega)]
    have q2 : w1.heap[b]? = w.heap[b]? := by
      show (World.alloc _ _).heap[b]? = _
      rw [Zcl, if_neg (by rw [hws]; omega), Zcl, if_neg (by omega)]
    obtain ⟨k1, k2⟩ := hkeep b (hb'.same q1)
    obtain ⟨k3, k4⟩ := hk3 b ((hb'.same q1).same k2)
    exact ⟨k3.trans (k1.trans q2), k4.trans (k2.trans q1)⟩
  have hr0 : Husk ((v.alloc (.cells #[] 0)).alloc (.loop (absL .ready none))) w.heap.size := ⟨0, by rw [Zcl, if_neg (by rw [hvs]; omega), Zcl, if_pos hsz]⟩
  have hr1 : w1.heap[w.heap.size]? = some (.deferred (some [])) := by
    show (World.alloc _ _).heap[_]? = _
    rw [Zcl, if_neg (by rw [hws]; omega), Zcl, if_pos rfl]
  have st3 : St c.fn.ntmps m h (v2.putObj (v.heap.size + 1) (.loop (absL .exhausted p2))) (w2.putObj (v.heap.size + 1) (.loop { rc with state := .exhausted, pending := p2 })) { a with defers := mkOf w.heap.size :: a.defers } := by
    refine ⟨sub3, s.size, ⟨fun d hd => ?_, List.nodup_cons.2 ⟨fun hm => ?_, s.defers.2⟩⟩, s.get, Loc.keep s hold, s.nd⟩
    · rcases List.mem_cons.1 hd with rfl | hd
      · obtain ⟨k1, k2⟩ := hkeep _ hr0
        obtain ⟨k3, k4⟩ := hk3 _ (hr0.same k2)
        exact ⟨_, rfl, (hr0.same k2).same k4, k3.trans (k1.trans hr1)⟩
      · exact (s.defers.keep hold).1 d hd
    · obtain ⟨r, e1, e2, -⟩ := s.defers.1 _ hm
      have e3 : w.heap.size = r := by simpa [mkOf] using e1
      have := e2.lt
      omega
  obtain ⟨w', hfin, hkk⟩ := hk p2 _ r v' e4 _ _ st3 D (fun b hb' => ⟨(hD b hb').1.same (hold b (hD b hb').1).2, (hD b hb').2⟩) (fun r hr hDr => by
    rcases List.mem_cons.1 hr with e | hr
    · have e3 : r = w.heap.size := by simpa [mkOf] using e
      have := (hD r hDr).1.lt
      omega
    · exact hM r hr hDr)
  refine ⟨w', hfin.head (fun b cs hbf hbk hbr => ?_), fun b hb' => ?_⟩
  · have hcd' := Zm1 hcd
    rw [hcd']
    have he : (Instr.enterLoop b.fn a.tmps (rfOf cd).2.1 (rfOf cd).2.2.1 (rfOf cd).2.2.2 b.roundOf).run c.P w = .ok (w.heap.size + 1, [mkOf w.heap.size]) w1 := by
      rw [hbf, hbr, hro]
      exact run_enterLoop_outer c.f a.tmps _ _ _
    have hfo' : a.eval (rfOf cd).1 = .func (.func g) first cap := by rw [hop]; exact s.eval hfo
    have hres : (resolve a.eval (rangeCall (rfOf cd).1 (w.heap.size + 1)) 0).run c.P w1 = .ok { target := .fn (.func g) cap, args := first ++ #[.func (.yield (w.heap.size + 1)) #[] #[]] } w1 := by
      simp only [resolve, rangeCall, hfo', Deferred.ofValue]
      simp [Act.eval]
    have hinv : (invoke (.fn (.func g) cap) (first ++ #[.func (.yield (w.heap.size + 1)) #[] #[]])).run c.P w1 = .ok (.enter g (first ++ #[.func (.yield (w.heap.size + 1)) #[] #[]] ++ cap)) w1 := ZeV hgf _ w1
    have h1 := stepR_rangeFunc (P := c.P) (b := b) (a := a) (k := k) (cs := cs) (w := w) (g := (rfOf cd).1) he hres hinv
    obtain ⟨ee, w4, fr, ⟨rfl, rfl⟩, hst, hfr, hlv⟩ := hcalls (b.atR { a with defers := [mkOf w.heap.size] ++ a.defers } (.inRangeFunc (w.heap.size + 1) :: k) :: cs)
    rw [← hsz] at hst hend
    refine (Steps.one h1).trans (Steps.trans hst ((Steps.one (step_leave_returned hlv)).trans ?_))
    rw [finish_atR_inRangeFunc]
    rw [← hsz]
    exact .one (stepR_endRangeFunc hend)
  · obtain ⟨k1, k2⟩ := hkk b hb'
    obtain ⟨k3, k4⟩ := hold b (hD b hb').1
    exact ⟨k1.trans k3, k2.trans k4⟩
end
end Go.Proofs.YtfgcobigollfjaaDoor.Lx
