/- The machine 'Lx': range over a function: the loop's record, its rounds, the call of a function value; rules. -/
import Derived.Test.YtfnokeoldcfcoaaGreatDoorLxMs
set_option linter.unusedSectionVars false
set_option linter.unusedSimpArgs false
set_option linter.unusedVariables false
namespace Go.Proofs.YtfnokeoldcfcoaaGreatDoor.Lx
section
open Go
variable [Zd5]
def begM (l : Nat) : M Unit := fun v => match v.heap[l]? with
 | some (.loop r) => match r.state with
  | .ready => some ((), v.putObj l (.loop (absL .busy r.pending)))
  | _ => none
 | _ => none
def endR (l : Nat) (j : Option Code) : M Bool := fun v => match v.heap[l]? with
 | some (.loop _) => some (j.isNone, v.putObj l (.loop (absL (if j.isNone then .ready else .done) j)))
 | _ => none
theorem Sub.setL {v w : World} (h : Sub v w) {l : Nat} {r : Loop} (ht : Zd5.tab l = some r) (s : LoopState) (p : Option Code) : Sub (v.putObj l (.loop (absL s p))) (w.putObj l (.loop { r with state := s, pending := p })) := by
 obtain ⟨a1, a2, a3, a4, a5⟩ := ZjF v l (.loop (absL s p))
 obtain ⟨b1, b2, b3, b4, b5⟩ := ZjF w l (.loop { r with state := s, pending := p })
 obtain ⟨ho, s0, p0, h1, h2⟩ := h.lp l r ht
 have hlt : l < v.heap.size := (Array.getElem?_eq_some_iff.1 h1).1
 refine ⟨by rw [a1, b1]; exact h.os, by rw [a2, b2]; exact h.tape, by rw [a3, b3]; exact h.drawn, by rw [a4, b4]; exact h.output, by rw [a5, b5]; exact h.size, by rw [a5]; exact h.old, fun b => ?_, fun l' r' hr => ?_⟩
 ·by_cases e : b = l
  ·subst e
   exact .inr (.inr ⟨_, _, World.putObj_heap_same hlt, World.putObj_heap_same (by rw [h.size]; exact hlt), ho⟩)
  ·rw [World.putObj_heap_other e, World.putObj_heap_other e]
   exact h.at_ b
 ·by_cases e : l' = l
  ·subst e
   rw [ht] at hr
   cases hr
   exact ⟨ho, s, p, World.putObj_heap_same hlt, World.putObj_heap_same (by rw [h.size]; exact hlt)⟩
  ·rw [World.putObj_heap_other e, World.putObj_heap_other e]
   exact h.lp l' r' hr
theorem Zpk {v w : World} (h : Sub v w) {l : Nat} {r : Loop} (ht : Zd5.tab l = some r) (o o' : Obj) : ∀ b, Husk v b → (w.putObj l o').heap[b]? = w.heap[b]? ∧ (v.putObj l o).heap[b]? = v.heap[b]? := by
 intro b hb
 obtain ⟨ho, s0, p0, h1, h2⟩ := h.lp l r ht
 have hne : b ≠ l := fun e => by
  obtain ⟨T, hT⟩ := hb
  rw [e, h1] at hT
  cases hT
 exact ⟨World.putObj_heap_other hne, World.putObj_heap_other hne⟩
theorem Zum {l : Nat} {v v' : World} {u : Unit} (h : begM l v = some (u, v')) : ∃ r, v.heap[l]? = some (.loop r) ∧ r.state = .ready ∧ v' = v.putObj l (.loop (absL .busy r.pending)) := by
 unfold begM at h
 split at h
 ·rename_i r hr
  split at h
  ·rename_i hs
   simp only [zt, zA] at h
   exact ⟨r, hr, hs, h.2.symm⟩
  ·cases h
 ·cases h
theorem Zt9 {l : Nat} {v v' : World} {j : Option Code} {u : Bool} (h : endR l j v = some (u, v')) : u = j.isNone ∧ v' = v.putObj l (.loop (absL (if j.isNone then .ready else .done) j)) := by
 unfold endR at h
 split at h
 ·simp only [zt, zA] at h
  exact ⟨h.1.symm, h.2.symm⟩
 ·cases h
section
variable {β : Type} {c : Cx} {pend : List Pd} {is : List Nat} {m : Env} {h : Loc} {x : M β} {R : List Pd → Env → Loc → M β → Prop}
end
section
variable {β : Type} {c : Fx} {k : List Item} {m : Env} {h : Loc} {x : M β} {F : β → Reach}
theorem SJ.begin {l : Nat} {r : Loop} (hro : c.ro = some l) (ht : Zd5.tab l = some r) (hJ : SJ c k m h x F) : SJ c (.beginRound :: k) m h (begM l >>= fun _ => x) F := by
 intro v q v' e w a s D hD hM
 obtain ⟨u, v1, e1, e2⟩ := bind_some.1 e
 obtain ⟨rr, g1, g2, rfl⟩ := Zum e1
 obtain ⟨ho, s0, p0, h1, h2⟩ := s.sub.lp l r ht
 rw [h1] at g1
 cases g1
 simp only [absL] at g2
 subst g2
 have hk := Zpk s.sub ht (.loop (absL .busy p0)) (.loop { r with state := .busy, pending := p0 })
 have hrun := run_beginRound (P := c.P) h2 rfl
 obtain ⟨w', h3, h4⟩ := hJ _ q v' e2 _ a ⟨s.sub.setL ht .busy p0, s.size, s.defers.keep hk, s.get, Loc.keep s hk, s.nd⟩ D (fun b hb => ⟨(hD b hb).1.same (hk b (hD b hb).1).2, (hD b hb).2⟩) hM
 refine ⟨w', h3.head (fun b cs _ _ hr => .one (stepR_beginRound (hr.trans hro) hrun)), fun b hb => ?_⟩
 obtain ⟨k1, k2⟩ := hk b (hD b hb).1
 exact ⟨(h4 b hb).1.trans k1, (h4 b hb).2.trans k2⟩
end
def rdJ : Option Code → Reach
 | none => .at [] [] []
 | some j => .jump j
def zipE : List Nat → List Value → Env → Env
 | t :: ts, x :: xs, m => zipE ts xs ((t, x) :: m)
 | _, _, m => m
theorem Zq9 {n : Nat} : ∀ (ps : List Nat) (xs : List Value) (m : Env) (tm : Array Value), tm.size = n → (∀ t x, lk m t = some x → tm[t]? = some x) → (∀ t ∈ ps, t < n) →
  ((ps.zip xs).foldl (fun tmps (p : Nat × Value) => tmps.setIfInBounds p.1 p.2) tm).size = n ∧ ∀ t x, lk (zipE ps xs m) t = some x → ((ps.zip xs).foldl (fun tmps (p : Nat × Value) => tmps.setIfInBounds p.1 p.2) tm)[t]? = some x
 | [], xs, m, tm, h1, h2, _ => by simpa [zipE] using ⟨h1, h2⟩
 | t :: ts, [], m, tm, h1, h2, _ => by simpa [zipE] using ⟨h1, h2⟩
 | t :: ts, x :: xs, m, tm, h1, h2, h3 => by
  simp only [List.zip_cons_cons, List.foldl_cons, zipE]
  refine Zq9 ts xs ((t, x) :: m) (tm.setIfInBounds t x) (by simp [h1]) (fun t' x' hx => ?_) (fun t' ht => h3 t' (zO _ ht))
  have := Zlj (n := n) (d := t) (m := m) (a := ⟨tm, []⟩) (y := x) (h3 t (by simp)) h1 h2 t' x' hx
  simpa [Act.put] using this
theorem RefV.round {α : Type} {P : Program} {f : FuncId} {fn : Func} {l : Nat} {rc : Loop} {ps : List Nat} {as bd : Code} {m : Env} (enc : α → List Value) {G : α → M (Option Code)} (ht : Zd5.tab l = some rc) (h1 : rc.fn = f) (h2 : rc.params = ps.toArray) (h3 : rc.assign = as) (h4 : rc.body = bd) (h5 : rc.tmps.size = fn.ntmps) (h6 : ∀ t x, lk m t = some x → rc.tmps[t]? = some x) (hps : ∀ t ∈ ps, t < fn.ntmps) (hlen : ∀ x, (enc x).length = ps.length)
  (hJ : ∀ x, SJ ⟨P, f, fn, some l⟩ [.code as, .beginRound, .code bd] (zipE ps (enc x) m) [] (G x) rdJ) (x : α) : RefV P (.func (.yield l) #[] #[]) (enc x) (G x >>= fun j => endR l j) Value.bool := by
 intro v r v' e w hw
 obtain ⟨j, v1, e1, e2⟩ := bind_some.1 e
 obtain ⟨rfl, rfl⟩ := Zt9 e2
 obtain ⟨ho, s0, p0, g1, g2⟩ := hw.lp l rc ht
 obtain ⟨z1, z2⟩ := Zq9 ps (enc x) m rc.tmps h5 h6 hps
 let tm := (ps.zip (enc x)).foldl (fun tmps (p : Nat × Value) => tmps.setIfInBounds p.1 p.2) rc.tmps
 have hrun : (Instr.yield l (enc x).toArray).run P w = .ok (.round l f tm as bd) w := by
  rw [run_yield g2 (by simp [h2, hlen])]
  simp only [h1, h2, h3, h4, tm]
  simp
 have st : St fn.ntmps (zipE ps (enc x) m) [] v w { tmps := tm, defers := [] } := ⟨hw, z1, Zqi.nil, z2, by simp, by simp⟩
 obtain ⟨w1, hfin, hkeep⟩ := hJ x v j v1 e1 w _ st (fun b => Husk v b) (fun b hb => ⟨hb, by simp⟩) (fun r hr => by cases hr)
 let bb : Frame := { (default : Frame) with fn := f, kind := .normal, roundOf := some l }
 have hb0 : Frame.round l f tm as bd .normal = bb.atR { tmps := tm, defers := [] } [.code as, .beginRound, .code bd] := by
  simp [Frame.round, Frame.atR, bb]
 have s1 : Sub v1 w1 := by
  cases j with
  | none => exact hfin.choose_spec.1.sub
  | some j => exact hfin.choose_spec.choose_spec.choose_spec.choose_spec.1.sub
 obtain ⟨-, s3, p3, g3, g4⟩ := s1.lp l rc ht
 have hk := Zpk s1 ht (.loop (absL (if j.isNone then .ready else .done) j)) (.loop { rc with state := (if j.isNone then .ready else .done), pending := j })
 have hend := run_endRound (P := P) j g4
 refine ⟨_, s1.setL ht _ _, fun b hb => ?_, .inr ⟨l, f, tm, as, bd, rfl, hrun, trivial, fun cf cs _ => ⟨.returned (.bool j.isNone), _, ⟨rfl, rfl⟩, ?_⟩⟩⟩
 ·obtain ⟨k1, k2⟩ := hkeep b hb
  obtain ⟨k3, k4⟩ := hk b (hb.same k2)
  exact ⟨k3.trans k1, k4.trans k2⟩
 ·refine stepsIn_wide.2 ?_
  rw [hb0]
  cases j with
  | none =>
   obtain ⟨a', -, -, hst⟩ := hfin
   exact (hst bb (cf :: cs) rfl rfl rfl).trans (.one (stepR_round_end rfl rfl hend))
  | some j =>
   obtain ⟨a', m', h', k1, -, hn, hst⟩ := hfin
   refine (hst bb (cf :: cs) rfl rfl rfl).trans (.one ?_)
   cases j <;> first
    | exact hn.elim
    | exact stepR_round_ret rfl rfl hend
    | exact stepR_round_exit rfl rfl hn hend
end
section
open Go
variable [Zd5]
@[reducible] def Zd5.more (L : Zd5) (l : Nat) (r : Loop) : Zd5 := ⟨fun i => if i = l then some r else L.tab i, L.old⟩
section
variable {β : Type} {c : Fx} {k : List Item} {m : Env} {h : Loc} {x : M β} {F : β → Reach}
def SR (c : Fx) (m : Env) (h : Loc) (rs : List ResultVar) (x : M β) (acc : List Value) (F : β → Reach) : Prop :=
 ∀ v r v', x v = some (r, v') → v' = v ∧ ∃ ys, F r = .ret (Zk9 (acc ++ ys)) ∧ ∀ w a, St c.fn.ntmps m h v w a → ∀ ac : Array Value, (rs.foldlM (fun (acc : Array Value) (r : ResultVar) => acc.push <$> (match r with
    | .tmp t => pure (a.tmps.getD t undef)
    | .cell a' t => do loadVar t (← asAddr (a.tmps.getD a' undef)) : Sem Value)) ac).run c.P w = .ok (ac ++ ys.toArray) w
theorem SR.nil {y : β} {acc : List Value} (hF : F y = .ret (Zk9 acc)) : SR c m h [] (pure y) acc F := by
 intro v r v' e
 simp only [pure_def, zt, zA] at e
 obtain ⟨rfl, rfl⟩ := e
 exact ⟨rfl, [], by simpa using hF, fun w a s ac => by simp⟩
theorem SR.tmp {t : Nat} {y : Value} {rs : List ResultVar} {acc : List Value} (hr : SR c m h rs x (acc ++ [y]) F) (ht : lk m t = some y := by kernel_rfl) : SR c m h (.tmp t :: rs) x acc F := by
 intro v r v' e
 obtain ⟨e1, ys, e2, e3⟩ := hr v r v' e
 refine ⟨e1, y :: ys, by simpa using e2, fun w a s ac => ?_⟩
 have h1 : a.tmps.getD t undef = y := by simp [Array.getD_eq_getD_getElem?, s.get t y ht]
 simp only [List.foldlM_cons, Sem.run_bind, Sem.run_map, Sem.run_pure, Result.andThen_ok, h1]
 rw [e3 w a s (ac.push y)]
 simp
theorem SR.ld {α : Type} {t T : Nat} {cd : Cod α} {z0 : α} {ad : Addr} {f : α → M β} {rs : List ResultVar} {acc : List Value} (ty : Ty c.P T cd z0) (hr : ∀ q, SR c m h rs (f q) (acc ++ [cd.val q]) F) (ht : lk m t = some (.pointer (some ad)) := by kernel_rfl) : SR c m h (.cell t T :: rs) (ld cd ad >>= f) acc F := by
 intro v r v' e
 obtain ⟨q, v1, h1, h2⟩ := bind_some.1 e
 obtain ⟨rfl, hrd⟩ := ZqN h1
 obtain ⟨e1, ys, e2, e3⟩ := hr q v1 r v' h2
 refine ⟨e1, cd.val q :: ys, by simpa using e2, fun w a s ac => ?_⟩
 have g1 : a.tmps.getD t undef = .pointer (some ad) := by simp [Array.getD_eq_getD_getElem?, s.get t _ ht]
 have g2 := ZoE ty (Zmh s.sub ad _ _ _ hrd)
 have g3 : asAddr (a.tmps.getD t undef) = pure ad := by rw [g1]; rfl
 simp only [List.foldlM_cons, Sem.run_bind, Sem.run_map, Sem.run_pure, Result.andThen_ok, g3, g2]
 have := e3 w a s (ac.push (cd.val q))
 rw [this]
 simp
theorem SR.cell {α : Type} {t T j b : Nat} {l : List Value} {cd : Cod α} {z0 q : α} {rs : List ResultVar} {acc : List Value} (ty : Ty c.P T cd z0) (hj : h[j]? = some (b, l)) (ha : At l 0 (cd.enc q)) (hr : SR c m h rs x (acc ++ [cd.val q]) F) (ht : lk m t = some (.pointer (some (pt b 0))) := by kernel_rfl) : SR c m h (.cell t T :: rs) x acc F := by
 intro v r v' e
 obtain ⟨e1, ys, e2, e3⟩ := hr v r v' e
 refine ⟨e1, cd.val q :: ys, by simpa using e2, fun w a s ac => ?_⟩
 have g1 : a.tmps.getD t undef = .pointer (some (pt b 0)) := by simp [Array.getD_eq_getD_getElem?, s.get t _ ht]
 have g2 := ZiW (P := c.P) s hj ty ha
 have g3 : asAddr (a.tmps.getD t undef) = pure (pt b 0) := by rw [g1]; rfl
 simp only [List.foldlM_cons, Sem.run_bind, Sem.run_map, Sem.run_pure, Result.andThen_ok, g3, g2]
 have := e3 w a s (ac.push (cd.val q))
 rw [this]
 simp
end
end
end Go.Proofs.YtfnokeoldcfcoaaGreatDoor.Lx
