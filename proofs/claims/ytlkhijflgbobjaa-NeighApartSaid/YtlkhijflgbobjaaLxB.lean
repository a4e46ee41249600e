/- The machine 'Lx', part B: a region's operations one by one; whatever order a region draws, its operations do what they do in one order that fits. Plain lemmas. -/
import Derived.Test.YtlkhijflgbobjaaLxA
set_option linter.unusedVariables false
set_option linter.unusedSimpArgs false
namespace Go.Proofs.Ytlkhijflgbobjaa.Lx
open Go
section
variable (P : Program)
def Yld (o : Oper) (a : Act) (w : World) (x : Value) (w' : World) : Prop :=
  (execOp a.eval o).run P w = .ok (.value x) w' ∨ ((execOp a.eval o).run P w = .ok .skip w' ∧ x = undef) ∨
  ∃ f args w1, (execOp a.eval o).run P w = .ok (.enter f args) w1 ∧ Calls P f args w1 (fun e w2 => e = .returned x ∧ w2 = w')
variable (ops : Array Oper)
def OpStep (i : Nat) (a : Act) (w : World) (a' : Act) (w' : World) : Prop :=
  ∃ o, ops[i]? = some o ∧ ((Region.wanted o (yielded ops a.tmps) = true ∧ ∃ x, Yld P o a w x w' ∧ a' = a.put o.dst x) ∨ (Region.wanted o (yielded ops a.tmps) = false ∧ a' = a.put o.dst undef ∧ w' = w))
theorem OpStep.wpOp {i : Nat} {a a' : Act} {w w' : World} {K : Act → World → Prop} {Q : Exit → Act → World → Prop} (h : OpStep P ops i a w a' w') (hK : K a' w') : Go.wpOp P ops Q i K a w := by
  obtain ⟨o, ho, ⟨hw, x, hx, rfl⟩ | ⟨hw, rfl, rfl⟩⟩ := h
  · unfold Go.wpOp
    simp only [ho, hw, if_true]
    left
    unfold Oper.wp
    rcases hx with hx | ⟨hx, rfl⟩ | ⟨f, args, w1, hx, hc⟩
    · rw [hx]; exact hK
    · rw [hx]; exact hK
    · rw [hx]
      show Calls P f args w1 _
      refine hc.mono ?_
      rintro e w2 ⟨rfl, rfl⟩
      exact hK
  · unfold Go.wpOp
    simp only [ho, hw]
    exact hK
def Ends (a' : Act) (w' : World) : Exit → Act → World → Prop := fun e a w => e = .normal ∧ a = a' ∧ w = w'
structure Pd where
  i : Nat
  T : TypeId
  a : Addr
  x : Value
def Pd.ok (p : Pd) (w : World) : Prop := (loadVar p.T p.a).run P w = .ok p.x w
inductive Kd | p | l | w deriving DecidableEq
variable (kd : Nat → Kd)
inductive Ev (i : Nat) (o : Oper) (a : Act) (w : World) : Value → World → List Pd → Prop
  | off (hw : Region.wanted o (yielded ops a.tmps) = false) : Ev i o a w undef w []
  | pure (hk : kd i = .p) (hw : Region.wanted o (yielded ops a.tmps) = true) (x : Value) (h : ∀ w', (execOp a.eval o).run P w' = .ok (.value x) w') : Ev i o a w x w []
  | load (hk : kd i = .l) (hw : Region.wanted o (yielded ops a.tmps) = true) (T : TypeId) (ad : Addr) (x : Value)
      (h : ∀ w', (execOp a.eval o).run P w' = ((loadVar T ad).run P w').andThen fun y w2 => .ok (.value y) w2) (hx : (loadVar T ad).run P w = .ok x w) : Ev i o a w x w [⟨i, T, ad, x⟩]
  | write (hk : kd i = .w) (hw : Region.wanted o (yielded ops a.tmps) = true) (x : Value) (w1 : World) (h : Yld P o a w x w1) : Ev i o a w x w1 []
theorem Ev.step {i : Nat} {o : Oper} {a : Act} {w w1 : World} {x : Value} {pd : List Pd} (ho : ops[i]? = some o) (h : Ev P ops kd i o a w x w1 pd) : OpStep P ops i a w (a.put o.dst x) w1 := by
  refine ⟨o, ho, ?_⟩
  cases h with
  | off hw => exact .inr ⟨hw, rfl, rfl⟩
  | pure hk hw x h => exact .inl ⟨hw, _, .inl (h w), rfl⟩
  | load hk hw T ad x h hx => exact .inl ⟨hw, _, .inl (by rw [h, hx]; rfl), rfl⟩
  | write hk hw x w1 h => exact .inl ⟨hw, _, h, rfl⟩
variable (bef : List Nat)
def pre (k i : Nat) : Bool := (bef.getD k 0).testBit i
inductive RR : List Pd → List Nat → Act → World → Act → World → Prop
  | nil (pend : List Pd) (a : Act) (w : World) : RR pend [] a w a w
  | cons {pend : List Pd} {i : Nat} {rest : List Nat} {a : Act} {w : World} {a' : Act} {w' : World} (o : Oper) (ho : ops[i]? = some o) (x : Value) (w1 : World) (pd : List Pd) (h : Ev P ops kd i o a w x w1 pd)
      (hp : kd i = .w → w1 = w ∨ ∀ p ∈ pend, pre bef i p.i = false → p.ok P w1) (hr : RR (pd ++ pend) rest (a.put o.dst x) w1 a' w') : RR pend (i :: rest) a w a' w'
theorem RR.mono {pend pend' : List Pd} {is : List Nat} {a a' : Act} {w w' : World} (h : RR P ops kd bef pend is a w a' w') (hs : ∀ p ∈ pend', p ∈ pend) : RR P ops kd bef pend' is a w a' w' := by
  induction h generalizing pend' with
  | nil => exact .nil _ _ _
  | cons o ho x w1 pd h hp hr ih => exact .cons o ho x w1 pd h (fun hk => (hp hk).imp id (fun hq p hm => hq p (hs p hm))) (ih (fun p hm => by
      rcases List.mem_append.1 hm with h | h
      · exact List.mem_append_left _ h
      · exact List.mem_append_right _ (hs p h)))
theorem RR.wpOps {pend : List Pd} {is : List Nat} {a a' : Act} {w w' : World} (h : RR P ops kd bef pend is a w a' w') : Go.wpOps P ops (Ends a' w') is a w := by
  induction h with
  | nil => exact ⟨rfl, rfl, rfl⟩
  | cons o ho x w1 pd h hp hr ih =>
    rw [wpOps_cons]
    exact OpStep.wpOp P ops (Ev.step P ops kd ho h) ih
def okK : Kd → Kd → Bool
  | .p, _ | _, .p | .l, .l | .l, .w => true
  | _, _ => false
def noSel (o : Oper) : Bool := match o.op with | .select .. => false | _ => true
theorem noSel_spec {o : Oper} (h : noSel o = true) : ∀ cs b, o.op ≠ .select cs b := by
  intro cs b e
  unfold noSel at h
  rw [e] at h
  cases h
theorem Yld.put {o : Oper} {a : Act} {w w' : World} {x : Value} {d : Option Tmp} {y : Value} (hs : noSel o = true) (hd : ∀ t, d = some t → t ∉ o.looksAt ops) : Yld P o (a.put d y) w x w' ↔ Yld P o a w x w' := by
  unfold Yld
  rw [execOp_put (ops := ops) o (noSel_spec hs) a d y hd]
theorem Ev.put {i : Nat} {o : Oper} {a : Act} {w w1 : World} {x : Value} {pd : List Pd} {d : Option Tmp} {y : Value} (hs : noSel o = true) (hd : ∀ t, d = some t → t ∉ o.looksAt ops) :
    Ev P ops kd i o (a.put d y) w x w1 pd ↔ Ev P ops kd i o a w x w1 pd := by
  have he := execOp_put (ops := ops) o (noSel_spec hs) a d y hd
  have hw := wanted_put (ops := ops) o a d y hd
  constructor
  · intro h
    cases h with
    | off h => exact .off (hw ▸ h)
    | pure hk h x h1 => exact .pure hk (hw ▸ h) x (fun w' => he ▸ h1 w')
    | load hk h T ad x h1 hx => exact .load hk (hw ▸ h) T ad x (fun w' => he ▸ h1 w') hx
    | write hk h x w1 h1 => exact .write hk (hw ▸ h) x w1 ((Yld.put P ops hs hd).1 h1)
  · intro h
    cases h with
    | off h => exact .off (by rw [hw]; exact h)
    | pure hk h x h1 => exact .pure hk (by rw [hw]; exact h) x (fun w' => by rw [he]; exact h1 w')
    | load hk h T ad x h1 hx => exact .load hk (by rw [hw]; exact h) T ad x (fun w' => by rw [he]; exact h1 w') hx
    | write hk h x w1 h1 => exact .write hk (by rw [hw]; exact h) x w1 ((Yld.put P ops hs hd).2 h1)
theorem Ev.kp {i : Nat} {o : Oper} {a : Act} {w w1 : World} {x : Value} {pd : List Pd} (h : Ev P ops kd i o a w x w1 pd) (hk : kd i = .p) : w1 = w ∧ pd = [] ∧ ∀ w', Ev P ops kd i o a w' x w' [] := by
  cases h with
  | off hw => exact ⟨rfl, rfl, fun _ => .off hw⟩
  | pure _ hw x h => exact ⟨rfl, rfl, fun _ => .pure hk hw x h⟩
  | load hk' => rw [hk] at hk'; cases hk'
  | write hk' => rw [hk] at hk'; cases hk'
theorem Ev.kl {i : Nat} {o : Oper} {a : Act} {w w1 : World} {x : Value} {pd : List Pd} (h : Ev P ops kd i o a w x w1 pd) (hk : kd i = .l) : w1 = w ∧ ((pd = [] ∧ ∀ w', Ev P ops kd i o a w' x w' []) ∨ ∃ T ad, pd = [⟨i, T, ad, x⟩] ∧ (loadVar T ad).run P w = .ok x w ∧ ∀ w', (loadVar T ad).run P w' = .ok x w' → Ev P ops kd i o a w' x w' pd) := by
  cases h with
  | off hw => exact ⟨rfl, .inl ⟨rfl, fun _ => .off hw⟩⟩
  | pure hk' => rw [hk] at hk'; cases hk'
  | load _ hw T ad x h hx => exact ⟨rfl, .inr ⟨T, ad, rfl, hx, fun w' hx' => .load hk hw T ad x h hx'⟩⟩
  | write hk' => rw [hk] at hk'; cases hk'
theorem swap {x i : Nat} {ox oi : Oper} {a : Act} {w wx wi : World} {vx vi : Value} {px pi : List Pd} (hap : ox.apart ops oi = true) (hsx : noSel ox = true) (hsi : noSel oi = true) (hk : okK (kd x) (kd i) = true) (hne : pre bef i x = false)
    (hx : Ev P ops kd x ox a w vx wx px) (hi : Ev P ops kd i oi (a.put ox.dst vx) wx vi wi pi) (hpi : kd i = .w → wi = wx ∨ ∀ p ∈ px, pre bef i p.i = false → p.ok P wi) :
    ∃ wi', Ev P ops kd i oi a w vi wi' pi ∧ Ev P ops kd x ox (a.put oi.dst vi) wi' vx wi px ∧ (a.put ox.dst vx).put oi.dst vi = (a.put oi.dst vi).put ox.dst vx ∧ (kd i = .w → wi' = wi ∧ wx = w) ∧ (kd x = .w → wi = wx ∧ wi' = w) := by
  obtain ⟨h1, h2, h3⟩ := Oper.apart_spec hap
  have hc := Act.put_comm a vx vi h2
  have hi' := (Ev.put P ops kd hsi h1).1 hi
  cases hkx : kd x with
  | p =>
    obtain ⟨rfl, rfl, hx'⟩ := hx.kp P ops kd hkx
    exact ⟨wi, hi', (Ev.put P ops kd hsx h3).2 (hx' wi), hc, fun _ => ⟨rfl, rfl⟩, fun h => by cases h⟩
  | l =>
    obtain ⟨rfl, ⟨rfl, hx'⟩ | ⟨T, ad, rfl, hx0, hx'⟩⟩ := hx.kl P ops kd hkx
    · exact ⟨wi, hi', (Ev.put P ops kd hsx h3).2 (hx' wi), hc, fun _ => ⟨rfl, rfl⟩, fun h => by cases h⟩
    · refine ⟨wi, hi', (Ev.put P ops kd hsx h3).2 (hx' wi ?_), hc, fun _ => ⟨rfl, rfl⟩, fun h => by cases h⟩
      cases hki : kd i with
      | p =>
        obtain ⟨rfl, _⟩ := hi'.kp P ops kd hki
        exact hx0
      | l =>
        obtain ⟨rfl, _⟩ := hi'.kl P ops kd hki
        exact hx0
      | w =>
        rcases hpi hki with e | e
        · rw [e]; exact hx0
        · exact e ⟨x, T, ad, vx⟩ (by simp) hne
  | w =>
    have hki : kd i = .p := by
      rw [hkx] at hk
      cases hki : kd i <;> rw [hki] at hk <;> first | rfl | cases hk
    obtain ⟨rfl, rfl, hi2⟩ := hi'.kp P ops kd hki
    exact ⟨w, hi2 w, (Ev.put P ops kd hsx h3).2 hx, hc, fun h => (by rw [hki] at h; cases h), fun _ => ⟨rfl, rfl⟩⟩
def rel (x y : Nat) : Bool :=
  match ops[x]?, ops[y]? with
  | some ox, some oy => pre bef y x || (ox.apart ops oy && noSel ox && noSel oy && okK (kd x) (kd y))
  | _, _ => false
theorem RR.front {i : Nat} {post : List Nat} : ∀ (l : List Nat) {pend : List Pd} {a a' : Act} {w w' : World}, (∀ x ∈ l, rel ops kd bef x i = true ∧ pre bef i x = false) → RR P ops kd bef pend (l ++ i :: post) a w a' w' → RR P ops kd bef pend (i :: (l ++ post)) a w a' w'
  | [], pend, a, a', w, w', _, h => h
  | x :: l, pend, a, a', w, w', hl, h => by
    cases h with
    | cons ox hox vx wx px hx hpx hr =>
      have hr' := RR.front l (fun y hy => hl y (List.mem_cons_of_mem _ hy)) hr
      cases hr' with
      | cons oi hoi vi wi pi hi hpi hr2 =>
        obtain ⟨hrel, hne⟩ := hl x (by simp)
        simp only [rel, hox, hoi, hne, Bool.false_or, Bool.and_eq_true] at hrel
        obtain ⟨⟨⟨hap, hsx⟩, hsi⟩, hk⟩ := hrel
        obtain ⟨wi', e1, e2, hc, hww, hwx⟩ := swap P ops kd bef hap hsx hsi hk hne hx hi (fun hk => (hpi hk).imp id (fun hq p hm => hq p (List.mem_append_left _ hm)))
        refine .cons oi hoi vi wi' pi e1 (fun hk => by rw [(hww hk).1]; exact (hpi hk).imp (fun e => e.trans (hww hk).2) (fun hq p hm => hq p (List.mem_append_right _ hm))) ?_
        refine .cons ox hox vx wi px e2 (fun hkx => ?_) (hc ▸ hr2.mono P ops kd bef (fun p hm => ?_))
        · rw [(hwx hkx).1, (hwx hkx).2]
          refine (hpx hkx).imp id (fun hq p hm => ?_)
          rcases List.mem_append.1 hm with h | h
          · have hki : kd i = .p := by
              rw [hkx] at hk
              cases hki : kd i <;> rw [hki] at hk <;> first | rfl | cases hk
            obtain ⟨_, hpi0, _⟩ := e1.kp P ops kd hki
            rw [hpi0] at h
            cases h
          · exact hq p h
        · simp only [List.mem_append] at hm ⊢
          rcases hm with h | h | h
          · exact .inr (.inl h)
          · exact .inl h
          · exact .inr (.inr h)
def depsOf (o : Oper) : List Nat := (o.after.toList.filter (Region.binds .any)).map (·.on)
def befRow (k : Nat) (ds : List Nat) : Nat := ds.foldl (fun s d => if d < k then s ||| 2 ^ d ||| bef.getD d 0 else s) 0
theorem befRow_bit {k x : Nat} : ∀ (ds : List Nat) (s : Nat), (ds.foldl (fun s d => if d < k then s ||| 2 ^ d ||| bef.getD d 0 else s) s).testBit x = true → s.testBit x = true ∨ x ∈ ds ∨ ∃ d ∈ ds, d < k ∧ (bef.getD d 0).testBit x = true
  | [], s, h => .inl h
  | d :: ds, s, h => by
    simp only [List.foldl_cons] at h
    rcases befRow_bit ds _ h with h | h | ⟨e, he, h1, h2⟩
    · split at h
      · rename_i hd
        simp only [Nat.testBit_or, Nat.testBit_two_pow, Bool.or_eq_true, decide_eq_true_eq] at h
        rcases h with (h | h) | h
        · exact .inl h
        · exact .inr (.inl (by simp [h]))
        · exact .inr (.inr ⟨d, by simp, hd, h⟩)
      · exact .inl h
    · exact .inr (.inl (List.mem_cons_of_mem _ h))
    · exact .inr (.inr ⟨e, List.mem_cons_of_mem _ he, h1, h2⟩)
def befOk : Bool := (List.range ops.size).all fun k => match ops[k]? with | some o => bef.getD k 0 == befRow bef k (depsOf o) && (depsOf o).all (· < ops.size) | none => false
def pairsOk : List Nat → Bool
  | [] => true
  | x :: l => (match ops[x]? with | some o => !(depsOf o).contains x && l.all fun y => (!(depsOf o).contains y && x != y) && rel ops kd bef x y | none => false) && pairsOk l
def tableOk (ord : List Nat) : Bool := befOk ops bef && pairsOk ops kd bef ord && ord.length == ops.size && ord.all (· < ops.size) && (List.range ops.size).all (ord.contains ·)
theorem pairsOk_mem : ∀ {l : List Nat} {x : Nat} {r : List Nat}, pairsOk ops kd bef (x :: l) = true → ∃ o, ops[x]? = some o ∧ x ∉ depsOf o ∧ (∀ y ∈ l, (y ∉ depsOf o ∧ x ≠ y) ∧ rel ops kd bef x y = true) ∧ pairsOk ops kd bef l = true := by
  intro l x r h
  unfold pairsOk at h
  simp only [Bool.and_eq_true] at h
  obtain ⟨h1, h2⟩ := h
  split at h1
  · rename_i o ho
    simp only [Bool.and_eq_true, Bool.not_eq_true', List.all_eq_true, List.contains_eq_mem, decide_eq_false_iff_not, bne_iff_ne] at h1
    exact ⟨o, ho, h1.1, fun y hy => ⟨(h1.2 y hy).1, (h1.2 y hy).2⟩, h2⟩
  · cases h1
theorem pairsOk_drop : ∀ (l : List Nat) {i : Nat} {r : List Nat}, pairsOk ops kd bef (l ++ i :: r) = true → pairsOk ops kd bef (l ++ r) = true ∧ ∀ x ∈ l, rel ops kd bef x i = true
  | [], i, r, h => ⟨(pairsOk_mem ops kd bef (r := []) h).choose_spec.2.2.2, by simp⟩
  | x :: l, i, r, h => by
    obtain ⟨o, ho, hx, hl, h2⟩ := pairsOk_mem ops kd bef (r := []) h
    obtain ⟨h3, h4⟩ := pairsOk_drop l h2
    refine ⟨?_, fun y hy => ?_⟩
    · show pairsOk ops kd bef (x :: (l ++ r)) = true
      unfold pairsOk
      simp only [ho, Bool.and_eq_true, Bool.not_eq_true', List.all_eq_true, List.contains_eq_mem, decide_eq_false_iff_not, bne_iff_ne]
      refine ⟨⟨hx, fun y hy => ?_⟩, h3⟩
      refine hl y ?_
      rcases List.mem_append.1 hy with h | h
      · exact List.mem_append_left _ h
      · exact List.mem_append_right _ (List.mem_cons_of_mem _ h)
    · rcases List.mem_cons.1 hy with rfl | hy
      · exact (hl i (by simp)).2
      · exact h4 y hy
theorem ready_iff {listed : Array Bool} {i : Nat} : i ∈ Region.ready .any ops listed ↔ i < ops.size ∧ listed.getD i true = false ∧ ∃ o, ops[i]? = some o ∧ ∀ d ∈ depsOf o, listed.getD d false = true := by
  unfold Region.ready
  simp only [List.mem_filter, List.mem_range, Bool.and_eq_true, Bool.not_eq_true']
  constructor
  · rintro ⟨h1, h2, h3⟩
    refine ⟨h1, h2, ?_⟩
    cases ho : ops[i]? with
    | none => rw [ho] at h3; cases h3
    | some o =>
      rw [ho] at h3
      refine ⟨o, rfl, fun d hd => ?_⟩
      simp only [Option.map_some, Option.getD_some, Array.all_eq_true_iff_forall_mem, Bool.or_eq_true, Bool.not_eq_true'] at h3
      unfold depsOf at hd
      obtain ⟨e, he, rfl⟩ := List.mem_map.1 hd
      obtain ⟨he1, he2⟩ := List.mem_filter.1 he
      rcases h3 e (by simpa using he1) with h | h
      · rw [he2] at h; cases h
      · exact h
  · rintro ⟨h1, h2, o, ho, h3⟩
    refine ⟨h1, h2, ?_⟩
    rw [ho]
    simp only [Option.map_some, Option.getD_some, Array.all_eq_true_iff_forall_mem, Bool.or_eq_true, Bool.not_eq_true']
    intro e he
    by_cases hb : Region.binds .any e = true
    · right
      exact h3 e.on (List.mem_map.2 ⟨e, List.mem_filter.2 ⟨by simpa using he, hb⟩, rfl⟩)
    · left
      simpa using hb
theorem any_of {a' : Act} {w' : World} (hb : befOk ops bef = true) : ∀ (fuel : Nat) (rem : List Nat) (listed : Array Bool) (a : Act) (w : World), RR P ops kd bef [] rem a w a' w' → pairsOk ops kd bef rem = true → rem.length = fuel →
    (∀ x ∈ rem, x < ops.size) → rem.Nodup → listed.size = ops.size → (∀ x, x < ops.size → (listed.getD x true = false ↔ x ∈ rem)) → (∀ x o, x < ops.size → x ∉ rem → ops[x]? = some o → ∀ d ∈ depsOf o, d ∉ rem) → wpAny P .any ops (Ends a' w') fuel listed a w := by
  have hlt : ∀ k o, ops[k]? = some o → bef.getD k 0 = befRow bef k (depsOf o) ∧ ∀ d ∈ depsOf o, d < ops.size := by
    intro k o ho
    have hk : k < ops.size := (Array.getElem?_eq_some_iff.1 ho).1
    unfold befOk at hb
    rw [List.all_eq_true] at hb
    have := hb k (List.mem_range.2 hk)
    rw [ho] at this
    simp only [Bool.and_eq_true, beq_iff_eq, List.all_eq_true, decide_eq_true_eq] at this
    exact this
  intro fuel
  induction fuel with
  | zero =>
    intro rem listed a w h hp hl hx hn hs hm hc
    obtain rfl : rem = [] := List.eq_nil_of_length_eq_zero hl
    cases h
    refine ⟨?_, rfl, rfl, rfl⟩
    refine List.eq_nil_iff_forall_not_mem.2 fun i hi => ?_
    obtain ⟨h1, h2, _⟩ := (ready_iff ops).1 hi
    exact absurd ((hm i h1).1 h2) (by simp)
  | succ fuel ih =>
    intro rem listed a w h hp hl hx hn hs hm hc
    have hget : ∀ d, d < ops.size → (listed.getD d false = true ↔ d ∉ rem) := by
      intro d hd
      have := hm d hd
      have e1 : listed.getD d false = listed[d]'(by omega) := by simp [Array.getD, show d < listed.size by omega]
      have e2 : listed.getD d true = listed[d]'(by omega) := by simp [Array.getD, show d < listed.size by omega]
      rw [e2] at this
      rw [e1]
      rw [← this]
      cases listed[d]'(by omega) <;> simp
    constructor
    · intro hr
      exfalso
      match rem, hl with
      | i :: r, _ =>
        obtain ⟨o, ho, h1, h2, _⟩ := pairsOk_mem ops kd bef (r := []) hp
        have : i ∈ Region.ready .any ops listed := by
          refine (ready_iff ops).2 ⟨hx i (by simp), (hm i (hx i (by simp))).2 (by simp), o, ho, fun d hd => ?_⟩
          refine (hget d ((hlt i o ho).2 d hd)).2 fun hd' => ?_
          rcases List.mem_cons.1 hd' with rfl | hd'
          · exact h1 hd
          · exact (h2 d hd').1.1 hd
        rw [hr] at this
        cases this
    · intro i hi
      obtain ⟨hi1, hi2, oi, hoi, hdeps⟩ := (ready_iff ops).1 hi
      have hirem : i ∈ rem := (hm i hi1).1 hi2
      obtain ⟨l, r, rfl⟩ := List.append_of_mem hirem
      obtain ⟨hp2, hrel⟩ := pairsOk_drop ops kd bef l hp
      have hclosed : ∀ k o, ops[k]? = some o → (∀ d ∈ depsOf o, d ∉ l ++ i :: r) → ∀ x, pre bef k x = true → x ∉ l ++ i :: r := by
        intro k
        induction k using Nat.strongRecOn with
        | _ k ihk =>
          intro o ho hd x hpx
          unfold pre at hpx
          rw [(hlt k o ho).1] at hpx
          rcases befRow_bit bef _ _ hpx with h | h | ⟨d, hd1, hd2, hd3⟩
          · simp at h
          · exact hd x h
          · have hds := (hlt k o ho).2 d hd1
            obtain ⟨od, hod⟩ : ∃ od, ops[d]? = some od := ⟨ops[d], by simp [hds]⟩
            exact ihk d hd2 od hod (hc d od hds (hd d hd1) hod) x hd3
      have hnp : ∀ x ∈ l, pre bef i x = false := by
        intro x hxl
        by_cases hpx : pre bef i x = true
        · exact absurd (by simp [hxl]) (hclosed i oi hoi (fun d hd => (hget d ((hlt i oi hoi).2 d hd)).1 (hdeps d hd)) x hpx)
        · simpa using hpx
      have hf := RR.front P ops kd bef l (fun x hxl => ⟨hrel x hxl, hnp x hxl⟩) h
      cases hf with
      | cons o ho x w1 pd he hpw hr =>
        refine OpStep.wpOp P ops (Ev.step P ops kd ho he) ?_
        refine ih (l ++ r) _ _ _ (hr.mono P ops kd bef (by simp)) hp2 (by simp at hl ⊢; omega) (fun y hy => hx y (by simp at hy ⊢; rcases hy with h | h <;> simp [h])) ?_ (by simp [hs]) ?_ ?_
        · have := hn
          rw [List.nodup_append] at this ⊢
          obtain ⟨n1, n2, n3⟩ := this
          refine ⟨n1, (List.nodup_cons.1 n2).2, fun y hy z hz => n3 y hy z (List.mem_cons_of_mem _ hz)⟩
        · intro y hy
          by_cases e : i = y
          · subst e
            have : i ∉ l ++ r := by
              rw [List.nodup_append] at hn
              obtain ⟨n1, n2, n3⟩ := hn
              intro hm'
              rcases List.mem_append.1 hm' with h | h
              · exact n3 i h i (by simp) rfl
              · exact (List.nodup_cons.1 n2).1 h
            simp [Array.getD, hs, hy, this]
          · have := hm y hy
            simp only [List.mem_append, List.mem_cons] at this ⊢
            rw [getD_set_ne true e]
            rw [this]
            constructor
            · rintro (h | h | h)
              · exact .inl h
              · exact absurd h.symm e
              · exact .inr h
            · rintro (h | h)
              · exact .inl h
              · exact .inr (.inr h)
        · intro y oy hy hny hoy d hd hdm
          by_cases e : y = i
          · subst e
            rw [hoi] at hoy
            cases hoy
            have := (hget d ((hlt y oi hoi).2 d hd)).1 (hdeps d hd)
            apply this
            simp only [List.mem_append, List.mem_cons] at hdm ⊢
            rcases hdm with h | h
            · exact .inl h
            · exact .inr (.inr h)
          · have hny' : y ∉ l ++ i :: r := by
              simp only [List.mem_append, List.mem_cons] at hny ⊢
              rintro (h | h | h)
              · exact hny (.inl h)
              · exact e h
              · exact hny (.inr h)
            apply hc y oy hy hny' hoy d hd
            simp only [List.mem_append, List.mem_cons] at hdm ⊢
            rcases hdm with h | h
            · exact .inl h
            · exact .inr (.inr h)
theorem pairsOk_nodup : ∀ (l : List Nat), pairsOk ops kd bef l = true → l.Nodup
  | [], _ => List.nodup_nil
  | x :: l, h => by
    obtain ⟨o, ho, h1, h2, h3⟩ := pairsOk_mem ops kd bef (r := []) h
    exact List.nodup_cons.2 ⟨fun hx => (h2 x hx).1.2 rfl, pairsOk_nodup l h3⟩
theorem RR.draw {ord : List Nat} {id : Nat} {a a' : Act} {w w' : World} (hm : P.follows .mixedOrders = true) (ht : tableOk ops kd bef ord = true) (h : RR P ops kd bef [] ord a w.drew a' w') : (Code.region id ops true).wp P (Ends a' w') a w := by
  unfold tableOk at ht
  simp only [Bool.and_eq_true, beq_iff_eq, List.all_eq_true, decide_eq_true_eq, List.mem_range, List.contains_eq_mem] at ht
  obtain ⟨⟨⟨⟨h1, h2⟩, h3⟩, h4⟩, h5⟩ := ht
  refine wp_region_any hm ?_
  refine any_of P ops kd bef h1 ops.size ord _ a _ h h2 h3 h4 (pairsOk_nodup ops kd bef ord h2) (by simp) (fun x hx => ?_) (fun x o hx hn => absurd (h5 x hx) hn)
  simp [Array.getD, hx, h5 x hx]
end
end Go.Proofs.Ytlkhijflgbobjaa.Lx
