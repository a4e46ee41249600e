/- The machine 'Lx', part F: the judgement for what is still to be done of a Go text, its rules; from it a call's own. -/
import Derived.Test.YtlkhijflgbobjaaLxE
set_option linter.unusedVariables false
set_option linter.unusedSimpArgs false
namespace Go.Proofs.Ytlkhijflgbobjaa.Lx
open Go
inductive Kind | skip | seq | cond (t : Operand) | block (id : Nat) | loop | exit (id : Nat) | ret | region (id : Nat) (draw : Bool) | scope | label | other
def kindOf : Code → Kind
  | .skip => .skip
  | .seq _ _ => .seq
  | .cond t _ _ => .cond t
  | .block id _ => .block id
  | .loop _ => .loop
  | .exit id => .exit id
  | .ret => .ret
  | .region id _ d => .region id d
  | .scope _ => .scope
  | .label _ => .label
  | _ => .other
def c1 : Code → Code
  | .seq a _ => a
  | .cond _ a _ => a
  | .block _ a => a
  | .loop a => a
  | .scope a => a
  | c => c
def c2 : Code → Code
  | .seq _ b => b
  | .cond _ _ b => b
  | c => c
def opsOf : Code → Array Oper
  | .region _ ops _ => ops
  | _ => #[]
theorem kind_seq {c : Code} (h : kindOf c = .seq) : c = .seq (c1 c) (c2 c) := by cases c <;> first | rfl | cases h
theorem kind_cond {c : Code} {t : Operand} (h : kindOf c = .cond t) : c = .cond t (c1 c) (c2 c) := by cases c <;> first | (cases h; rfl) | cases h
theorem kind_block {c : Code} {id : Nat} (h : kindOf c = .block id) : c = .block id (c1 c) := by cases c <;> first | (cases h; rfl) | cases h
theorem kind_loop {c : Code} (h : kindOf c = .loop) : c = .loop (c1 c) := by cases c <;> first | rfl | cases h
theorem kind_exit {c : Code} {id : Nat} (h : kindOf c = .exit id) : c = .exit id := by cases c <;> first | (cases h; rfl) | cases h
theorem kind_ret {c : Code} (h : kindOf c = .ret) : c = .ret := by cases c <;> first | rfl | cases h
theorem kind_skip {c : Code} (h : kindOf c = .skip) : c = .skip := by cases c <;> first | rfl | cases h
theorem kind_region {c : Code} {id : Nat} {d : Bool} (h : kindOf c = .region id d) : c = .region id (opsOf c) d := by cases c <;> first | (cases h; rfl) | cases h
inductive Reach
  | ret (x : Value)
  | at (k : List Item) (m : Env) (h : Loc)
structure Fx where
  P : Program
  f : FuncId
  fn : Func
def Fin (c : Fx) (v' : World) (k : List Item) (a : Act) (w w' : World) : Reach → Prop
  | .ret x => Sub v' w' ∧ ∃ a', a'.defers = [] ∧ (results c.fn a'.tmps).run c.P w' = .ok x w' ∧
      ∀ (b : Frame) cs, b.fn = c.f → b.kind = .normal → ∃ todo, Steps c.P (lone (b.at a k) cs w) (lone { b.at a' todo with mode := .returning } cs w')
  | .at k' m' h' => ∃ a', St c.fn.ntmps m' h' v' w' a' ∧ ∀ (b : Frame) cs, b.fn = c.f → b.kind = .normal → Steps c.P (lone (b.at a k) cs w) (lone (b.at a' k') cs w')
theorem Fin.head {c : Fx} {v' : World} {k k1 : List Item} {a a1 : Act} {w w1 w' : World} {r : Reach} (h : ∀ (b : Frame) cs, b.fn = c.f → b.kind = .normal → Steps c.P (lone (b.at a k) cs w) (lone (b.at a1 k1) cs w1)) (hf : Fin c v' k1 a1 w1 w' r) : Fin c v' k a w w' r := by
  cases r with
  | ret x =>
    obtain ⟨hs, a', hd, hr, hst⟩ := hf
    exact ⟨hs, a', hd, hr, fun b cs hb hk => by
      obtain ⟨todo, ht⟩ := hst b cs hb hk
      exact ⟨todo, (h b cs hb hk).trans ht⟩⟩
  | «at» k' m' h' =>
    obtain ⟨a', hs, hst⟩ := hf
    exact ⟨a', hs, fun b cs hb hk => (h b cs hb hk).trans (hst b cs hb hk)⟩
def SJ {β : Type} (c : Fx) (k : List Item) (m : Env) (h : Loc) (x : M β) (F : β → Reach) : Prop :=
  ∀ v r v', x v = some (r, v') → ∀ w a, St c.fn.ntmps m h v w a → ∀ D, DOk D v h →
    ∃ w', Fin c v' k a w w' (F r) ∧ ∀ b, D b → w'.heap[b]? = w.heap[b]? ∧ v'.heap[b]? = v.heap[b]?
section
variable {β : Type} {c : Fx} {k : List Item} {m : Env} {h : Loc} {x : M β} {F : β → Reach}
theorem SJ.step {k1 : List Item} (hst : ∀ (a : Act) (w : World) (b : Frame) cs, step c.P (lone (b.at a k) cs w) = .next (lone (b.at a k1) cs w)) (hJ : SJ c k1 m h x F) : SJ c k m h x F := by
  intro v r v' e w a s D hD
  obtain ⟨w', h1, h2⟩ := hJ v r v' e w a s D hD
  exact ⟨w', h1.head (fun b cs _ _ => .one (hst a w b cs)), h2⟩
theorem SJ.less {m' : Env} (ts : List Nat) (hJ : SJ c k m' h x F) (hm : lks m ts = some m' := by kernel_rfl) : SJ c k m h x F :=
  fun v r v' e w a s D hD => hJ v r v' e w a (s.less (lks_spec hm)) D hD
theorem SJ.skip {cd : Code} (hJ : SJ c k m h x F) (hk : kindOf cd = .skip := by kernel_rfl) : SJ c (.code cd :: k) m h x F := by
  rw [kind_skip hk]
  exact SJ.step (fun a w b cs => step_skip) hJ
theorem SJ.inBlock {id : Nat} (hJ : SJ c k m h x F) : SJ c (.inBlock id :: k) m h x F := SJ.step (fun a w b cs => step_inBlock) hJ
theorem SJ.seq {cd : Code} (hJ : SJ c (.code (c1 cd) :: .code (c2 cd) :: k) m h x F) (hk : kindOf cd = .seq := by kernel_rfl) : SJ c (.code cd :: k) m h x F := by
  rw [kind_seq hk]
  exact SJ.step (fun a w b cs => step_seq) hJ
def isRg : Kind → Bool
  | .region _ false => true
  | _ => false
theorem SJ.block {cd : Code} {id : Nat} (hJ : SJ c (.code (c1 cd) :: .inBlock id :: k) m h x F) (hk : kindOf cd = .block id := by kernel_rfl) : SJ c (.code cd :: k) m h x F := by
  rw [kind_block hk]
  exact SJ.step (fun a w b cs => step_block) hJ
theorem SJ.exit {cd : Code} {id : Nat} {k' : List Item} (he : exitTo id k = some k') (hJ : SJ c k' m h x F) (hk : kindOf cd = .exit id := by kernel_rfl) : SJ c (.code cd :: k) m h x F := by
  rw [kind_exit hk]
  exact SJ.step (fun a w b cs => step_exit he) hJ
theorem SJ.cond {p : Prop} [Decidable p] {cd : Code} {t : Operand} {b : Bool} {y : M β} (hp : b = true ↔ p) (h1 : p → SJ c (.code (c1 cd) :: k) m h x F) (h0 : ¬ p → SJ c (.code (c2 cd) :: k) m h y F) (hk : kindOf cd = .cond t := by kernel_rfl) (ht : evm m t = some (.bool b) := by kernel_rfl) : SJ c (.code cd :: k) m h (if p then x else y) F := by
  rw [kind_cond hk]
  intro v r v' e w a s D hD
  have he := s.eval ht
  by_cases hpp : p
  · rw [if_pos hpp] at e
    obtain ⟨w', h3, h4⟩ := h1 hpp v r v' e w a s D hD
    refine ⟨w', h3.head (fun bb cs _ _ => .one ?_), h4⟩
    rw [step_cond he, hp.2 hpp]
    rfl
  · rw [if_neg hpp] at e
    have hb : b = false := by
      cases b
      · rfl
      · exact absurd (hp.1 rfl) hpp
    obtain ⟨w', h3, h4⟩ := h0 hpp v r v' e w a s D hD
    refine ⟨w', h3.head (fun bb cs _ _ => .one ?_), h4⟩
    rw [step_cond he, hb]
    rfl
theorem SJ.cond0 {cd : Code} {t : Operand} (h1 : SJ c (.code (c2 cd) :: k) m h x F) (hk : kindOf cd = .cond t := by kernel_rfl) (ht : evm m t = some (.bool false) := by kernel_rfl) : SJ c (.code cd :: k) m h x F := by
  rw [kind_cond hk]
  intro v r v' e w a s D hD
  obtain ⟨w', h3, h4⟩ := h1 v r v' e w a s D hD
  exact ⟨w', h3.head (fun bb cs _ _ => .one (by rw [step_cond (s.eval ht)]; rfl)), h4⟩
theorem region_steps {P : Program} {b : Frame} {a a1 : Act} {w w1 : World} {cd : Code} {k : List Item} {cs : List Frame} (hw : cd.wp P (Ends a1 w1) a w) : Steps P (lone (b.at a (.code cd :: k)) cs w) (lone (b.at a1 k) cs w1) := by
  obtain ⟨e, a', w', ⟨rfl, rfl, rfl⟩, harr⟩ := hw b k cs
  exact harr
theorem SJ.region {cd : Code} {id : Nat} (ord : List Nat) (hJ : OJ ⟨c.P, c.fn.ntmps, opsOf cd, [], []⟩ [] ord m h x (fun _ m' h' x' => SJ c k m' h' x' F)) (hk : kindOf cd = .region id false := by kernel_rfl) (ho : List.range (opsOf cd).size = ord := by kernel_rfl) : SJ c (.code cd :: k) m h x F := by
  intro v r v' e w a s D hD
  obtain ⟨p1, m1, h1, x1, v1, w1, a1, hR, e1, hrs, s1, hkp⟩ := hJ v r v' e w a s D hD
  obtain ⟨w', h3, h4⟩ := hR v1 r v' e1 w1 a1 s1 D (hkp.dok hD)
  refine ⟨w', h3.head (fun b cs _ _ => ?_), fun b hb => ⟨(h4 b hb).1.trans (hkp b hb).1, (h4 b hb).2.trans (hkp b hb).2.1⟩⟩
  rw [kind_region hk]
  subst ho
  exact region_steps (wp_region (RR.wpOps _ _ _ _ (RS.rr _ _ _ _ hrs)))
theorem SJ.rg {cd : Code} (n : Nat) (hJ : OJ ⟨c.P, c.fn.ntmps, opsOf cd, [], []⟩ [] (List.range n) m h x (fun _ m' h' x' => SJ c k m' h' x' F)) (hk : isRg (kindOf cd) = true := by kernel_rfl) (ho : (opsOf cd).size = n := by kernel_rfl) : SJ c (.code cd :: k) m h x F := by
  cases e : kindOf cd with
  | region id d =>
    cases d with
    | false => exact SJ.region (List.range n) hJ e (by rw [ho])
    | true => rw [e] at hk; cases hk
  | _ => rw [e] at hk; cases hk
theorem SJ.sr {cd : Code} (n : Nat) (hJ : OJ ⟨c.P, c.fn.ntmps, opsOf (c1 cd), [], []⟩ [] (List.range n) m h x (fun _ m' h' x' => SJ c (.code (c2 cd) :: k) m' h' x' F)) (hs : kindOf cd = .seq := by kernel_rfl) (hk : isRg (kindOf (c1 cd)) = true := by kernel_rfl) (ho : (opsOf (c1 cd)).size = n := by kernel_rfl) : SJ c (.code cd :: k) m h x F := SJ.seq (SJ.rg n hJ hk ho) hs
theorem SJ.draw {cd : Code} {id : Nat} {kd bef ord : List Nat} (hm : c.P.follows .mixedOrders = true) (hJ : OJ ⟨c.P, c.fn.ntmps, opsOf cd, kd, bef⟩ [] ord m h x (fun _ m' h' x' => SJ c k m' h' x' F)) (hk : kindOf cd = .region id true := by kernel_rfl) (ht : tableOk (opsOf cd) (kdOf kd) bef ord = true := by kernel_rfl) : SJ c (.code cd :: k) m h (draw >>= fun _ => x) F := by
  intro v r v' e w a s D hD
  have s' : St c.fn.ntmps m h v.drew w.drew a := ⟨s.sub.drew, s.size, s.defers, s.get, s.loc, s.nd⟩
  obtain ⟨p1, m1, h1, x1, v1, w1, a1, hR, e1, hrs, s1, hkp⟩ := hJ v.drew r v' e w.drew a s' D hD
  obtain ⟨w', h3, h4⟩ := hR v1 r v' e1 w1 a1 s1 D (Kp.dok (v := v.drew) (h := h) hD hkp)
  refine ⟨w', h3.head (fun b cs _ _ => ?_), fun b hb => ⟨(h4 b hb).1.trans (hkp b hb).1, (h4 b hb).2.trans (hkp b hb).2.1⟩⟩
  rw [kind_region hk]
  exact region_steps (RR.draw c.P (opsOf cd) (kdOf kd) bef hm ht (RS.rr _ _ _ _ hrs))
theorem SJ.ret {cd : Code} {y : β} {z : Value} (hF : F y = .ret z) (hr : ∀ v w a, St c.fn.ntmps m h v w a → (results c.fn a.tmps).run c.P w = .ok z w) (hk : kindOf cd = .ret := by kernel_rfl) : SJ c (.code cd :: k) m h (pure y) F := by
  rw [kind_ret hk]
  intro v r v' e w a s D hD
  simp only [pure_def, Option.some.injEq, Prod.mk.injEq] at e
  obtain ⟨rfl, rfl⟩ := e
  refine ⟨w, ?_, fun b _ => ⟨rfl, rfl⟩⟩
  rw [hF]
  exact ⟨s.sub, a, s.defers, hr v w a s, fun b cs _ _ => ⟨_, .one step_ret⟩⟩
theorem SJ.end_ {y : β} {z : Value} (hF : F y = .ret z) (hr : ∀ v w a, St c.fn.ntmps m h v w a → (results c.fn a.tmps).run c.P w = .ok z w) : SJ c [] m h (pure y) F := by
  intro v r v' e w a s D hD
  simp only [pure_def, Option.some.injEq, Prod.mk.injEq] at e
  obtain ⟨rfl, rfl⟩ := e
  refine ⟨w, ?_, fun b _ => ⟨rfl, rfl⟩⟩
  rw [hF]
  exact ⟨s.sub, a, s.defers, hr v w a s, fun b cs _ _ => ⟨_, .one step_end⟩⟩
theorem SJ.at_ {y : β} {m' : Env} (ts : List Nat) (hF : F y = .at k m' h) (hm : lks m ts = some m' := by kernel_rfl) : SJ c k m h (pure y) F := by
  intro v r v' e w a s D hD
  simp only [pure_def, Option.some.injEq, Prod.mk.injEq] at e
  obtain ⟨rfl, rfl⟩ := e
  refine ⟨w, ?_, fun b _ => ⟨rfl, rfl⟩⟩
  rw [hF]
  exact ⟨a, s.less (lks_spec hm), fun b cs _ _ => Steps.refl _ _⟩
theorem SJ.forget {h' : Loc} (hs : h'.Sublist h) (hJ : SJ c k m h' x F) : SJ c k m h x F :=
  fun v r v' e w a s D hD => hJ v r v' e w a ⟨s.sub, s.size, s.defers, s.get, fun e he => s.loc e (hs.subset he), (hs.map _).nodup s.nd⟩ D (fun b hb => ⟨(hD b hb).1, fun e he => (hD b hb).2 e (hs.subset he)⟩)
inductive Res (c : Fx) (m : Env) (h : Loc) : List ResultVar → List Value → Prop
  | nil : Res c m h [] []
  | tmp {t : Nat} {y : Value} {rs : List ResultVar} {ys : List Value} (ht : lk m t = some y) (hr : Res c m h rs ys) : Res c m h (.tmp t :: rs) (y :: ys)
  | cell {α : Type} {t T j b : Nat} {l : List Value} {cd : Cod α} {z0 q : α} {rs : List ResultVar} {ys : List Value} (ht : lk m t = some (.pointer (some (pt b 0)))) (hj : h[j]? = some (b, l)) (ty : Ty c.P T cd z0) (ha : At l 0 (cd.enc q)) (hr : Res c m h rs ys) : Res c m h (.cell t T :: rs) (cd.val q :: ys)
def resVal : List Value → Value
  | [y] => y
  | ys => .tuple ys.toArray
theorem Res.run {rs : List ResultVar} {ys : List Value} (hr : Res c m h rs ys) (hf : c.fn.results = rs.toArray) : ∀ v w a, St c.fn.ntmps m h v w a → (results c.fn a.tmps).run c.P w = .ok (resVal ys) w := by
  intro v w a s
  have key : ∀ (rs : List ResultVar) (ys : List Value) (acc : Array Value), Res c m h rs ys → (rs.toArray.toList.foldlM (fun (acc : Array Value) (r : ResultVar) => acc.push <$> (match r with
        | .tmp t => pure (a.tmps.getD t undef)
        | .cell a' t => do loadVar t (← asAddr (a.tmps.getD a' undef)) : Sem Value)) acc).run c.P w = .ok (acc ++ ys.toArray) w := by
    intro rs ys acc hr
    induction hr generalizing acc with
    | nil => simp
    | tmp ht hr ih =>
      rename_i t y rs ys
      have h1 : a.tmps.getD t undef = y := by simp [Array.getD_eq_getD_getElem?, s.get t y ht]
      simp only [List.foldlM_cons, Sem.run_bind, Sem.run_map, Sem.run_pure, Result.andThen_ok, h1]
      have := ih (acc.push y)
      rw [this]
      simp
    | cell ht hj ty ha hr ih =>
      rename_i t T j b l cd z0 q rs ys
      have h1 : a.tmps.getD t undef = .pointer (some (pt b 0)) := by simp [Array.getD_eq_getD_getElem?, s.get t _ ht]
      have h2 := known_load (P := c.P) s hj ty ha
      have h3 : asAddr (a.tmps.getD t undef) = pure (pt b 0) := by rw [h1]; rfl
      have := ih (acc.push (cd.val q))
      simp only [List.foldlM_cons, Sem.run_bind, Sem.run_map, Sem.run_pure, Result.andThen_ok, h3, h2]
      simp only [] at this
      rw [this]
      simp
  have k1 := key rs ys #[] hr
  unfold results
  rw [hf]
  simp only [Sem.run_bind]
  rw [Array.mapM_eq_foldlM]
  rw [← Array.foldlM_toList]
  refine (congrArg (fun r : Result (Array Value) => r.andThen _) k1).trans ?_
  simp only [Result.andThen_ok, Sem.run_pure]
  match ys with
  | [] => simp [resVal]
  | [y] => simp [resVal]
  | y :: z :: r => simp [resVal]
inductive LS (σ β : Type) where
  | next (s : σ)
  | done (b : β)
def loopF {σ β : Type} (k : List Item) (ml : σ → Env) (hl : σ → Loc) (F : β → Reach) : LS σ β → Reach
  | .next s => .at k (ml s) (hl s)
  | .done b => F b
def loopN {σ β : Type} (G : σ → M (LS σ β)) : Nat → σ → M β
  | 0, _ => fail
  | n + 1, s => G s >>= fun | .next s' => loopN G n s' | .done b => pure b
open Classical in
noncomputable def loopM {σ β : Type} (G : σ → M (LS σ β)) (s : σ) : M β := fun v =>
  if hh : ∃ r : β × World, ∃ n, loopN G n s v = some r then some hh.choose else none
theorem loopN_mono {σ β : Type} {G : σ → M (LS σ β)} {r : β × World} : ∀ {n : Nat} {s : σ} {v : World} (j : Nat), loopN G n s v = some r → loopN G (n + j) s v = some r
  | 0, s, v, j, hh => by cases hh
  | n + 1, s, v, j, hh => by
    rw [show n + 1 + j = (n + j) + 1 by omega]
    obtain ⟨q, v1, h1, h2⟩ := bind_some.1 hh
    refine bind_some.2 ⟨q, v1, h1, ?_⟩
    cases q with
    | next s' => exact loopN_mono j h2
    | done b => exact h2
theorem loopN_det {σ β : Type} {G : σ → M (LS σ β)} {r r' : β × World} {n n' : Nat} {s : σ} {v : World} (h1 : loopN G n s v = some r) (h2 : loopN G n' s v = some r') : r = r' := by
  have e1 := loopN_mono n' h1
  have e2 := loopN_mono n h2
  rw [Nat.add_comm] at e2
  rw [e1] at e2
  exact Option.some.inj e2
theorem loopM_of {σ β : Type} {G : σ → M (LS σ β)} {r : β × World} {n : Nat} {s : σ} {v : World} (h1 : loopN G n s v = some r) : loopM G s v = some r := by
  unfold loopM
  have hh : ∃ r : β × World, ∃ n, loopN G n s v = some r := ⟨r, n, h1⟩
  rw [dif_pos hh]
  obtain ⟨n', h2⟩ := hh.choose_spec
  rw [loopN_det h2 h1]
theorem loopM_some {σ β : Type} {G : σ → M (LS σ β)} {r : β × World} {s : σ} {v : World} (h1 : loopM G s v = some r) : ∃ n, loopN G n s v = some r := by
  unfold loopM at h1
  split at h1
  · rename_i hh
    simp only [Option.some.injEq] at h1
    rw [← h1]
    exact hh.choose_spec
  · cases h1
theorem SJ.loop {σ : Type} {cd : Code} {G : σ → M (LS σ β)} {s0 : σ} (ml : σ → Env) (hl : σ → Loc) (ts : List Nat) (hh : h = hl s0) (hb : ∀ s s', (hl s).map (·.1) = (hl s').map (·.1)) (hJ : ∀ s, SJ c (.code (c1 cd) :: .inLoop (c1 cd) :: k) (ml s) (hl s) (G s) (loopF (.inLoop (c1 cd) :: k) ml hl F)) (hk : kindOf cd = .loop := by kernel_rfl) (hm : lks m ts = some (ml s0) := by kernel_rfl) : SJ c (.code cd :: k) m h (loopM G s0) F := by
  rw [kind_loop hk]
  have key : ∀ n s v r v', loopN G n s v = some (r, v') → ∀ w a, St c.fn.ntmps (ml s) (hl s) v w a → ∀ D, DOk D v (hl s) → ∃ w', Fin c v' (.code (c1 cd) :: .inLoop (c1 cd) :: k) a w w' (F r) ∧ ∀ b, D b → w'.heap[b]? = w.heap[b]? ∧ v'.heap[b]? = v.heap[b]? := by
    intro n
    induction n with
    | zero => intro s v r v' e; cases e
    | succ n ih =>
      intro s v r v' e w a st D hD
      obtain ⟨q, v1, e1, e2⟩ := bind_some.1 e
      obtain ⟨w1, hf, hd⟩ := hJ s v q v1 e1 w a st D hD
      cases q with
      | done b =>
        simp only [pure_def, Option.some.injEq, Prod.mk.injEq] at e2
        obtain ⟨rfl, rfl⟩ := e2
        exact ⟨w1, hf, hd⟩
      | next s' =>
        obtain ⟨a1, st1, hst⟩ := hf
        have hD1 : DOk D v1 (hl s') := fun b hb1 => ⟨(hD b hb1).1.same (hd b hb1).2, fun e he heq => by
          have hmem : b ∈ (hl s').map (·.1) := List.mem_map.2 ⟨e, he, heq⟩
          rw [hb s' s] at hmem
          obtain ⟨e', he', heq'⟩ := List.mem_map.1 hmem
          exact (hD b hb1).2 e' he' heq'⟩
        obtain ⟨w2, hf2, hd2⟩ := ih s' v1 r v' e2 w1 a1 st1 D hD1
        refine ⟨w2, hf2.head (fun b cs hb' hk' => (hst b cs hb' hk').trans (.one step_inLoop)), fun b hb' => ⟨(hd2 b hb').1.trans (hd b hb').1, (hd2 b hb').2.trans (hd b hb').2⟩⟩
  intro v r v' e w a s D hD
  obtain ⟨n, hn⟩ := loopM_some e
  subst hh
  obtain ⟨w', h1, h2⟩ := key n s0 v r v' hn w a (s.less (lks_spec hm)) D hD
  exact ⟨w', h1.head (fun b cs _ _ => .one step_loop), h2⟩
theorem SJ.into {x' : M β} (he : x = x') (hJ : SJ c k m h x' F) : SJ c k m h x F := by rw [he]; exact hJ
theorem SJ.done {α : Type} {k : List Item} {m : Env} {h : Loc} {y : M β} {F : LS α β → Reach} (hJ : SJ c k m h y (fun b => F (.done b))) : SJ c k m h (y >>= fun b => pure (LS.done b)) F := by
  intro v r v' e w a s D hD
  obtain ⟨b, v1, e1, e2⟩ := bind_some.1 e
  simp only [pure_def, Option.some.injEq, Prod.mk.injEq] at e2
  obtain ⟨rfl, rfl⟩ := e2
  exact hJ v b v1 e1 w a s D hD
end
theorem lk_init {args : List Value} {n : Nat} (hn : args.length ≤ n) {a : Act} (ha : a = { tmps := args.toArray ++ Array.replicate (n - args.length) undef, defers := [] }) : a.tmps.size = n ∧ ∀ (t : Nat) (x : Value), args[t]? = some x → a.tmps[t]? = some x := by
  subst ha
  refine ⟨by simp; omega, fun t x hx => ?_⟩
  have hlt : t < args.length := (List.getElem?_eq_some_iff.1 hx).1
  rw [Array.getElem?_append]
  simp [hlt]
  exact (List.getElem?_eq_some_iff.1 hx).2
def envOf : Nat → List Value → Env
  | _, [] => []
  | i, x :: r => (i, x) :: envOf (i + 1) r
theorem lk_envOf : ∀ {args : List Value} {i t : Nat} {x : Value}, lk (envOf i args) t = some x → i ≤ t ∧ args[t - i]? = some x
  | y :: r, i, t, x, hx => by
    unfold envOf lk at hx
    cases e : Nat.beq i t with
    | true =>
      rw [e] at hx
      obtain rfl := Nat.eq_of_beq_eq_true e
      simp only [Option.some.injEq] at hx
      subst hx
      simp
    | false =>
      rw [e] at hx
      obtain ⟨h1, h2⟩ := lk_envOf hx
      refine ⟨by omega, ?_⟩
      rw [show t - i = (t - (i + 1)) + 1 by omega]
      simpa using h2
theorem Ref.of {P : Program} {f : FuncId} {fn : Func} {cd : Code} {α : Type} {args : List Value} {x : M α} {out : α → Value} (hf : P.funcs[f]? = some fn) (hJ : SJ ⟨P, f, fn⟩ [.code cd] (envOf 0 args) [] x (fun r => .ret (out r))) (hb : fn.body = some cd := by kernel_rfl) (hn : Nat.ble args.length fn.ntmps = true := by kernel_rfl) : Ref P f args x out := by
  intro v r v' e w hs
  have hn' : args.length ≤ fn.ntmps := by simpa using hn
  obtain ⟨h1, h2⟩ := lk_init (a := { tmps := args.toArray ++ Array.replicate (fn.ntmps - args.length) undef, defers := [] }) hn' rfl
  have st : St fn.ntmps (envOf 0 args) [] v w { tmps := args.toArray ++ Array.replicate (fn.ntmps - args.length) undef, defers := [] } := by
    refine ⟨hs, h1, rfl, fun t y hy => ?_, by simp, by simp⟩
    obtain ⟨_, h3⟩ := lk_envOf hy
    exact h2 t y (by simpa using h3)
  obtain ⟨w', ⟨hsub, a', hd, hr, hst⟩, hkeep⟩ := hJ v r v' e w _ st (fun b => Husk v b) (fun b hb => ⟨hb, by simp⟩)
  refine ⟨w', hsub, hkeep, fun cs => ?_⟩
  obtain ⟨todo, hst'⟩ := hst { (default : Frame) with fn := f, kind := .normal } cs rfl rfl
  have henter : Frame.enter P f args.toArray .normal = ({ (default : Frame) with fn := f, kind := .normal } : Frame).at { tmps := args.toArray ++ Array.replicate (fn.ntmps - args.length) undef, defers := [] } [.code cd] := by
    simp [Frame.enter, Frame.at, hf, hb]
  rw [← henter] at hst'
  exact ⟨.returned (out r), w', _, ⟨rfl, rfl⟩, hst', rfl, rfl, hd, rfl, fn, hf, hr⟩
end Go.Proofs.Ytlkhijflgbobjaa.Lx
