/- The machine 'Lx', part G: parts of values, built values, equality of values, rows of slices: append, make, copy, clear. -/
import Derived.Test.YtlkhijflgbobjaaLxF
import Derived.Laws.StructEq
import Derived.ChangeKeysEq
set_option linter.unusedVariables false
set_option linter.unusedSimpArgs false
namespace Go.Proofs.Ytlkhijflgbobjaa.Lx
open Go
theorem bnot_iff {b : Bool} {p : Prop} (h : b = true ↔ p) : (!b) = true ↔ ¬ p := by
  cases b <;> simp_all
def band (k : IntKind) (x y : Int) : Int := k.wrap (BitVec.ofInt k.bits x &&& BitVec.ofInt k.bits y).toNat
def bxor (k : IntKind) (x y : Int) : Int := k.wrap (BitVec.ofInt k.bits x ^^^ BitVec.ofInt k.bits y).toNat
section
variable {β : Type} {c : Cx} {pend : List Pd} {is : List Nat} {m : Env} {h : Loc} {x : M β} {R : List Pd → Env → Loc → M β → Prop}
theorem part_run {P : Program} {T : TypeId} {α : Type} {cd : Cod α} {z0 q : α} (ty : Ty P T cd z0) {l : List Value} {o : Nat} (ha : At l o (cd.enc q)) (w : World) : (part T l.toArray o).run P w = .ok (cd.val q) w := by
  unfold part
  simp only [Sem.run_bind, isAgg_run ty, Result.andThen_ok]
  cases hagg : cd.agg with
  | true =>
    simp only [if_true, Sem.run_bind, sizeOf_run ty, Result.andThen_ok, Sem.run_pure]
    obtain ⟨p, s, rfl, rfl⟩ := ha
    unfold Cod.val
    rw [hagg]
    simp only [if_true]
    congr 2
    rw [List.extract_toArray]
    congr 1
    rw [List.extract_eq_take_drop, List.append_assoc, List.drop_left' rfl, Nat.add_sub_cancel_left, List.take_left' (cd.len q)]
  | false =>
    simp only [Bool.false_eq_true, if_false]
    have h1 := cd.one hagg
    have hl := cd.len q
    rw [h1] at hl
    have h0 := ha.get 0 (by omega)
    rw [Nat.add_zero] at h0
    unfold Cod.val
    rw [hagg]
    match hm : cd.enc q, hl with
    | [y], _ =>
      rw [hm] at h0
      simp only [List.getElem?_toArray, h0, List.getElem?_cons_zero, Bool.false_eq_true, if_false, List.headD_cons, Sem.run_pure]
def fieldOf (P : Program) (S : TypeId) (f : Nat) : Option (TypeId × Nat) :=
  match P.underlying S with
  | some (.struct fs) => match fs[f]? with
    | some fd => some (fd.type, fd.offset)
    | none => none
  | _ => none
def plOf (P : Program) (T : TypeId) (i : Nat) : Option (Nat × Nat) :=
  match P.underlying T with
  | some (.struct fs) => match fs[i]? with
    | some fd => match P.info? fd.type with
      | some inf => some (fd.offset, inf.size)
      | none => none
    | none => none
  | some (.array _ e) => match P.info? e with
    | some inf => some (i * inf.size, inf.size)
    | none => none
  | _ => none
theorem fold_set : ∀ (k q p s : List Value) (o j : Nat), o + j = p.length → k.length = q.length → (k.zipIdx j).foldl (fun (cs : Array Value) (x : Value × Nat) => cs.setIfInBounds (o + x.2) x.1) (p ++ q ++ s).toArray = (p ++ k ++ s).toArray
  | [], q, p, s, o, j, _, hl => by
    obtain rfl := List.eq_nil_of_length_eq_zero hl.symm
    simp
  | y :: k, q, p, s, o, j, hp, hl => by
    match q, hl with
    | z :: q, hl =>
      simp only [List.zipIdx_cons, List.foldl_cons]
      have h1 : (p ++ z :: q ++ s).toArray.setIfInBounds (o + j) y = ((p ++ [y]) ++ q ++ s).toArray := by
        simp [hp, List.setIfInBounds_toArray]
      rw [h1, fold_set k q (p ++ [y]) s o (j + 1) (by simp; omega) (by simpa using hl)]
      simp
inductive Filled (pl : Nat → Option (Nat × Nat)) : List Value → List (Nat × Value) → List Value → Prop
  | nil {l : List Value} : Filled pl l [] l
  | cons {α : Type} {cd : Cod α} {q : α} {i o : Nat} {l l1 l2 : List Value} {ps : List (Nat × Value)} (hp : pl i = some (o, cd.n)) (hu : Upd l o (cd.enc q) l1) (hr : Filled pl l1 ps l2) : Filled pl l ((i, cd.val q) :: ps) l2
theorem Filled.fill {pl : Nat → Option (Nat × Nat)} {l l2 : List Value} {ps : List (Nat × Value)} (hf : Filled pl l ps l2) : Instr.fill pl l.toArray ps = some l2.toArray := by
  induction hf with
  | nil => rfl
  | cons hp hu hr ih =>
    rename_i α cd q i o l l1 l2 ps
    obtain ⟨p, k, s, rfl, rfl, hk, rfl⟩ := hu
    unfold Instr.fill
    simp only [hp, cd.cells]
    rw [if_neg (by simp [cd.len]; have := hk; rw [cd.len] at this; omega)]
    have := fold_set (cd.enc q) k p s p.length 0 (by omega) hk.symm
    simp only [Array.zipIdx_toArray, List.foldl_toArray]
    rw [this]
    exact ih
theorem mapM_sizes {P : Program} (w : World) : ∀ (fs : List Field), (∀ f ∈ fs, (P.info? f.type).isSome = true) → ∀ acc : Array (Nat × Nat), (fs.foldlM (fun (acc : Array (Nat × Nat)) (f : Field) => acc.push <$> (do pure (f.offset, ← sizeOf f.type) : Sem (Nat × Nat))) acc).run P w = .ok (acc ++ (fs.map fun f => (f.offset, ((P.info? f.type).map (·.size)).getD 0)).toArray) w
  | [], _, acc => by simp
  | f :: fs, hf, acc => by
    have h1 := hf f (by simp)
    obtain ⟨i, hi⟩ := Option.isSome_iff_exists.1 h1
    have ih := mapM_sizes (P := P) w fs (fun g hg => hf g (List.mem_cons_of_mem _ hg)) (acc.push (f.offset, i.size))
    have hs : ∀ w', (sizeOf f.type).run P w' = .ok i.size w' := fun w' => run_sizeOf hi w'
    simp only [List.foldlM_cons, Sem.run_bind, Sem.run_map, Sem.run_pure, Result.andThen_ok, hs]
    rw [ih]
    simp [hi]
def infosOk (P : Program) (T : TypeId) : Bool :=
  match P.underlying T with
  | some (.struct fs) => fs.toList.all fun f => (P.info? f.type).isSome
  | some (.array _ e) => (P.info? e).isSome
  | _ => false
theorem build_run {P : Program} {T : TypeId} {α : Type} {cd : Cod α} {z0 q : α} (ty : Ty P T cd z0) (hagg : cd.agg = true) (hi : infosOk P T = true) {ps : List (Nat × Value)} (hf : Filled (plOf P T) (cd.enc z0) ps (cd.enc q)) (w : World) : (Instr.build T ps.toArray).run P w = .ok (cd.val q) w := by
  obtain ⟨inf, hinf, he⟩ := Option.map_eq_some_iff.1 ty.info
  simp only [Prod.mk.injEq] at he
  have hz : (zeroValue T).run P w = .ok (cd.val z0) w := by simp [zeroValue, typeInfo, hinf, he.2]
  have hcells : (cd.val z0).cells = (cd.enc z0).toArray := cd.cells z0
  have hval : cd.val q = .agg (cd.enc q).toArray := by unfold Cod.val; rw [hagg]; rfl
  have hfill := hf.fill
  unfold Instr.build
  simp only [Sem.run_bind, hz, Result.andThen_ok, hcells]
  unfold infosOk at hi
  split at hi
  · rename_i fs hfs
    have e1 : plOf P T = ((fs.toList.map fun f => (f.offset, ((P.info? f.type).map (·.size)).getD 0)).toArray[·]?) := by
      funext i
      unfold plOf
      simp only [hfs]
      simp only [List.getElem?_toArray, List.getElem?_map, Array.getElem?_toList]
      cases hfi : fs[i]? with
      | none => rfl
      | some fd =>
        have hm : fd ∈ fs.toList := by
          have := List.mem_of_getElem? (l := fs.toList) (i := i) (a := fd) (by simpa using hfi)
          exact this
        rw [List.all_eq_true] at hi
        obtain ⟨inf', hinf'⟩ := Option.isSome_iff_exists.1 (hi fd hm)
        simp [hinf']
    rw [e1] at hfill
    have hmap := mapM_sizes (P := P) w fs.toList (fun f hm => by rw [List.all_eq_true] at hi; exact hi f hm) #[]
    simp only [run_underlying hfs, Result.andThen_ok, Sem.run_bind]
    rw [Array.mapM_eq_foldlM, ← Array.foldlM_toList]
    rw [hmap]
    simp only [Result.andThen_ok, Array.empty_append]
    rw [hfill]
    simp [hval]
  · rename_i n e hfs
    obtain ⟨inf', hinf'⟩ := Option.isSome_iff_exists.1 hi
    have e1 : plOf P T = fun i => some (i * inf'.size, inf'.size) := by
      funext i
      unfold plOf
      simp [hfs, hinf']
    rw [e1] at hfill
    simp only [run_underlying hfs, Result.andThen_ok, Sem.run_bind, sizeOf, run_typeInfo hinf', Sem.run_pure]
    rw [hfill]
    simp [hval]
  · cases hi
def evps (m : Env) : List (Nat × Operand) → Option (List (Nat × Value))
  | [] => some []
  | (i, x) :: r => match evm m x, evps m r with
    | some y, some l => some ((i, y) :: l)
    | _, _ => none
theorem evps_spec {n : Nat} {v w : World} {a : Act} (s : St n m h v w a) : ∀ {l : List (Nat × Operand)} {r : List (Nat × Value)}, evps m l = some r → l.map (fun p => (p.1, a.eval p.2)) = r
  | [], r, e => by simp only [evps, Option.some.injEq] at e; subst e; rfl
  | (i, x) :: l, r, e => by
    unfold evps at e
    split at e
    · rename_i y l' hy hl
      simp only [Option.some.injEq] at e
      subst e
      simp [s.eval hy, evps_spec s hl]
    · cases e
theorem OJ.build {α : Type} {i d T : Nat} {parts : List (Nat × Operand)} {ps : List (Nat × Value)} {cd : Cod α} {z0 : α} (q : α) (ty : Ty c.P T cd z0) (hagg : cd.agg = true) (hf : Filled (plOf c.P T) (cd.enc z0) ps (cd.enc q)) (hJ : OJ c pend is ((d, cd.val q) :: m) h x R) (hc : core c.ops m i = some (some d, .build T parts.toArray) := by kernel_rfl) (hp : evps m parts = some ps := by kernel_rfl) (hi : infosOk c.P T = true := by kernel_rfl) (hk : kdP c.kd i = true := by kernel_rfl) (hn : noW c.kd [i] pend = true := by kernel_rfl) (hd : Nat.blt d c.n = true := by kernel_rfl) : OJ c pend (i :: is) m h x R := by
  refine OJ.q hc hk hn hd fun v r v' e w a s => ?_
  refine ⟨_, _, fun oo ho w' => ?_, e, hJ⟩
  rw [exec_of (P := c.P) ho]
  have := evps_spec s hp
  have e2 : (parts.toArray.map fun p => (p.1, a.eval p.2)) = ps.toArray := by rw [← this]; simp
  show Sem.run c.P (do pure (Next.value (← Instr.build T (parts.toArray.map fun p => (p.1, a.eval p.2))))) w' = _
  rw [e2]
  simp [build_run ty hagg hi hf w']
def EqT (P : Program) (T : TypeId) (D : Nat) {α : Type} (cd : Cod α) : Prop := ∀ e, D ≤ e → ∀ x y w, ∃ b, (Op.equalIn e T (cd.val x) (cd.val y)).run P w = .ok b w ∧ (b = true ↔ x = y)
theorem EqT.int {P : Program} {T : TypeId} {k : IntKind} (hT : P.underlying T = some (.int k)) : EqT P T 1 (cI k) := by
  intro e he x y w
  obtain ⟨d, rfl⟩ : ∃ d, e = d + 1 := ⟨e - 1, by omega⟩
  exact ⟨x == y, run_equalIn_int w d T k k x y hT, by simp⟩
theorem EqT.bool {P : Program} {T : TypeId} (hT : P.underlying T = some .bool) : EqT P T 1 cB := by
  intro e he x y w
  obtain ⟨d, rfl⟩ : ∃ d, e = d + 1 := ⟨e - 1, by omega⟩
  exact ⟨x == y, run_equalIn_bool' w d T x y hT, by simp⟩
theorem toList_inj {a b : ByteArray} (h : a.toList = b.toList) : a = b := by
  have := beq_toListBytes a b
  rw [h] at this
  simp only [BEq.rfl] at this
  obtain ⟨⟨x⟩⟩ := a
  obtain ⟨⟨y⟩⟩ := b
  have h2 : ((⟨x⟩ : Array UInt8) == ⟨y⟩) = true := this
  simp at h2
  rw [h2]
theorem EqT.string {P : Program} {T : TypeId} (hT : P.underlying T = some .string) : EqT P T 1 cS := by
  intro e he x y w
  obtain ⟨d, rfl⟩ : ∃ d, e = d + 1 := ⟨e - 1, by omega⟩
  refine ⟨x.toList == y.toList, run_equalIn_string w d T x y hT, ?_⟩
  rw [beq_iff_eq]
  exact ⟨toList_inj, fun h => by rw [h]⟩
def EqFs (P : Program) (d : Nat) (xs ys : Array Value) (fs : List Field) (w : World) (p : Prop) : Prop := ∃ b, (Op.eqFields d xs ys fs).run P w = .ok b w ∧ (b = true ↔ p)
theorem EqFs.nil {P : Program} {d : Nat} {xs ys : Array Value} {w : World} : EqFs P d xs ys [] w True := ⟨true, by simp [Op.eqFields], by simp⟩
theorem EqFs.cons {P : Program} {d D : Nat} {α : Type} {cd : Cod α} {z0 q r : α} {xs ys : List Value} {f : Field} {fs : List Field} {w : World} {p : Prop} (hn : (f.name == "_") = false) (ty : Ty P f.type cd z0) (ha : At xs f.offset (cd.enc q)) (hb : At ys f.offset (cd.enc r)) (he : EqT P f.type D cd) (hD : D ≤ d) (hr : EqFs P d xs.toArray ys.toArray fs w p) :
    EqFs P d xs.toArray ys.toArray (f :: fs) w (q = r ∧ p) := by
  obtain ⟨b, h1, h2⟩ := hr
  obtain ⟨b', h3, h4⟩ := he d hD q r w
  have hn' : f.name ≠ "_" := by simpa using hn
  refine ⟨b' && b, ?_, by rw [Bool.and_eq_true, h4, h2]⟩
  simp only [Op.eqFields, if_pos hn', Sem.run_bind, part_run ty ha, part_run ty hb, h3, Result.andThen_ok]
  cases b'
  · simp
  · simpa using h1
theorem EqFs.congr {P : Program} {d : Nat} {xs ys : Array Value} {fs : List Field} {w : World} {p q : Prop} (h : EqFs P d xs ys fs w p) (hp : p ↔ q) : EqFs P d xs ys fs w q := by
  obtain ⟨b, h1, h2⟩ := h
  exact ⟨b, h1, h2.trans hp⟩
theorem EqT.struct {P : Program} {T : TypeId} {D : Nat} {α : Type} {cd : Cod α} {fs : Array Field} (hu : P.underlying T = some (.struct fs)) (hp : P.stoodInHeld T = false) (hagg : cd.agg = true) (hf : ∀ d, D ≤ d → ∀ x y w, EqFs P d (cd.enc x).toArray (cd.enc y).toArray fs.toList w (x = y)) : EqT P T (D + 1) cd := by
  intro e he x y w
  obtain ⟨d, rfl⟩ : ∃ d, e = d + 1 := ⟨e - 1, by omega⟩
  have hval : ∀ q, cd.val q = .agg (cd.enc q).toArray := fun q => by unfold Cod.val; rw [hagg]; rfl
  obtain ⟨b, h1, h2⟩ := hf d (by omega) x y w
  refine ⟨b, ?_, h2⟩
  have hfo : P.fieldsOf T = fs := by simp [Program.fieldsOf, hu]
  rw [hval, hval, run_equalIn_struct (P := P) w d T _ _ (by rw [hfo]; exact hu) hp, hfo]
  exact h1
theorem eqItems_run {P : Program} {d D n E : Nat} {α : Type} {cd : Cod α} {z0 : α} (ty : Ty P E cd z0) (he : EqT P E D cd) (hD : D ≤ d) (x y : Vec α n) (w : World) : ∀ (js : List Nat), (∀ j ∈ js, j < n) →
    ∃ b, (Op.eqItems d E cd.n ((cd.arr n).enc x).toArray ((cd.arr n).enc y).toArray js).run P w = .ok b w ∧ (b = true ↔ ∀ j ∈ js, x.l[j]? = y.l[j]?)
  | [], _ => ⟨true, by simp [Op.eqItems], by simp⟩
  | j :: js, hj => by
    have hjn : j < n := hj j (by simp)
    obtain ⟨b, h1, h2⟩ := eqItems_run ty he hD x y w js (fun k hk => hj k (List.mem_cons_of_mem _ hk))
    have ha : At ((cd.arr n).enc x) (j * cd.n) (cd.enc (x.g (j : Int) z0)) := At.arr (v := x) (i := (j : Int)) (z := z0) (by omega) (by omega)
    have hb : At ((cd.arr n).enc y) (j * cd.n) (cd.enc (y.g (j : Int) z0)) := At.arr (v := y) (i := (j : Int)) (z := z0) (by omega) (by omega)
    obtain ⟨b', h3, h4⟩ := he d hD (x.g (j : Int) z0) (y.g (j : Int) z0) w
    have hx : x.l[j]? = some (x.g (j : Int) z0) := by
      unfold Vec.g
      simp [List.getD_eq_getElem?_getD, List.getElem?_eq_getElem (show j < x.l.length by rw [x.h]; exact hjn)]
    have hy : y.l[j]? = some (y.g (j : Int) z0) := by
      unfold Vec.g
      simp [List.getD_eq_getElem?_getD, List.getElem?_eq_getElem (show j < y.l.length by rw [y.h]; exact hjn)]
    refine ⟨b' && b, ?_, ?_⟩
    · simp only [Op.eqItems, Sem.run_bind, part_run ty ha, part_run ty hb, h3, Result.andThen_ok]
      cases b'
      · simp
      · simpa using h1
    · rw [Bool.and_eq_true, h4, h2]
      simp only [List.mem_cons, forall_eq_or_imp, hx, hy, Option.some.injEq]
theorem EqT.arr {P : Program} {T E D n : Nat} {α : Type} {cd : Cod α} {z0 : α} (hu : P.underlying T = some (.array n E)) (ty : Ty P E cd z0) (he : EqT P E D cd) : EqT P T (D + 1) (cd.arr n) := by
  intro e hD x y w
  obtain ⟨d, rfl⟩ : ∃ d, e = d + 1 := ⟨e - 1, by omega⟩
  have hagg : (cd.arr n).agg = true := by cases n <;> rfl
  have hval : ∀ q, (cd.arr n).val q = .agg ((cd.arr n).enc q).toArray := fun q => by unfold Cod.val; rw [hagg]; rfl
  obtain ⟨i, hi, hie⟩ := Option.map_eq_some_iff.1 ty.info
  simp only [Prod.mk.injEq] at hie
  have hc : P.cellsOf E = cd.n := by simp [Program.cellsOf, hi, hie.1]
  obtain ⟨b, h1, h2⟩ := eqItems_run ty he (show D ≤ d by omega) x y w (List.range n) (fun j hj => List.mem_range.1 hj)
  refine ⟨b, ?_, ?_⟩
  · rw [hval, hval, run_equalIn_array w d _ _ hu hi, hc]
    exact h1
  · rw [h2]
    constructor
    · intro hh
      apply Vec.eq
      apply List.ext_getElem?
      intro j
      by_cases hj : j < n
      · exact hh j (List.mem_range.2 hj)
      · rw [List.getElem?_eq_none (by rw [x.h]; omega), List.getElem?_eq_none (by rw [y.h]; omega)]
    · rintro rfl j _
      rfl
noncomputable def eqv {α : Type} (x y : α) : Bool := open Classical in decide (x = y)
theorem eqv_iff {α : Type} {x y : α} : eqv x y = true ↔ x = y := by unfold eqv; simp
theorem OJ.eql {α : Type} {i d T yT D : Nat} {y z : Operand} {cd : Cod α} {p q : α} (hagg : cd.agg = true) (he : EqT c.P T D cd) (hJ : OJ c pend is ((d, .bool (eqv p q)) :: m) h x R) (hc : core c.ops m i = some (some d, .binOp .eql T y z yT) := by kernel_rfl) (hy : evm m y = some (cd.val p) := by kernel_rfl) (hz : evm m z = some (cd.val q) := by kernel_rfl) (hD : Nat.ble D 10000 = true := by kernel_rfl) (hg : c.P.eqGuardType c.P.depth T = false := by kernel_rfl) (hk : kdP c.kd i = true := by kernel_rfl) (hn : noW c.kd [i] pend = true := by kernel_rfl) (hd : Nat.blt d c.n = true := by kernel_rfl) : OJ c pend (i :: is) m h x R := by
  refine OJ.q hc hk hn hd fun v r v' e w a s => ?_
  refine ⟨_, _, fun oo ho w' => ?_, e, hJ⟩
  obtain ⟨dst, op, type, pos, after, guard⟩ := oo
  simp only at ho
  subst ho
  have hval : ∀ q, cd.val q = .agg (cd.enc q).toArray := fun q => by unfold Cod.val; rw [hagg]; rfl
  obtain ⟨b, h1, h2⟩ := he 10000 (by simpa using hD) p q w'
  refine exec_bin (s.eval hy) (s.eval hz) (by rw [hval, hval]; exact run_eqGuard_agg w' _ T _ _ _ _ hg) ?_
  rw [hval, hval] at h1 ⊢
  rw [run_eql_struct, h1]
  have : b = eqv p q := by rw [Bool.eq_iff_iff, h2, eqv_iff]
  rw [this]
  rfl
theorem OJ.neq {α : Type} {i d T yT D : Nat} {y z : Operand} {cd : Cod α} {p q : α} (hagg : cd.agg = true) (he : EqT c.P T D cd) (hJ : OJ c pend is ((d, .bool (!eqv p q)) :: m) h x R) (hc : core c.ops m i = some (some d, .binOp .neq T y z yT) := by kernel_rfl) (hy : evm m y = some (cd.val p) := by kernel_rfl) (hz : evm m z = some (cd.val q) := by kernel_rfl) (hD : Nat.ble D 10000 = true := by kernel_rfl) (hg : c.P.eqGuardType c.P.depth T = false := by kernel_rfl) (hk : kdP c.kd i = true := by kernel_rfl) (hn : noW c.kd [i] pend = true := by kernel_rfl) (hd : Nat.blt d c.n = true := by kernel_rfl) : OJ c pend (i :: is) m h x R := by
  refine OJ.q hc hk hn hd fun v r v' e w a s => ?_
  refine ⟨_, _, fun oo ho w' => ?_, e, hJ⟩
  obtain ⟨dst, op, type, pos, after, guard⟩ := oo
  simp only at ho
  subst ho
  have hval : ∀ q, cd.val q = .agg (cd.enc q).toArray := fun q => by unfold Cod.val; rw [hagg]; rfl
  obtain ⟨b, h1, h2⟩ := he 10000 (by simpa using hD) p q w'
  refine exec_bin (s.eval hy) (s.eval hz) (by rw [hval, hval]; exact run_eqGuard_agg w' _ T _ _ _ _ hg) ?_
  rw [hval, hval] at h1 ⊢
  rw [run_neq_struct, h1]
  have : b = eqv p q := by rw [Bool.eq_iff_iff, h2, eqv_iff]
  rw [this]
  rfl
end
end Go.Proofs.Ytlkhijflgbobjaa.Lx
