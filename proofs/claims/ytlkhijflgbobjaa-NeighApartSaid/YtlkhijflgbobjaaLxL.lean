/- The machine 'Lx', part L: maps: what is made, asked, laid in, taken out, counted, and gone through. -/
import Derived.Test.YtlkhijflgbobjaaLxK
import Derived.Laws.IdiomRangeMap
set_option linter.unusedVariables false
set_option linter.unusedSimpArgs false
namespace Go.Proofs.Ytlkhijflgbobjaa.Lx
open Go
theorem Cod.val_inj {α : Type} (c : Cod α) {x y : α} (h : c.val x = c.val y) : x = y := by
  refine c.inj ?_
  have h2 := congrArg Value.cells h
  rw [c.cells, c.cells] at h2
  simpa using h2
variable {κ ν : Type}
def ents (ck : Cod κ) (cv : Cod ν) (l : List (κ × ν × Nat)) : Array MapEntry := (l.map fun e => (⟨ck.val e.1, cv.val e.2.1, e.2.2⟩ : MapEntry)).toArray
theorem ents_inj' {ck : Cod κ} {cv : Cod ν} : ∀ {l m : List (κ × ν × Nat)}, (l.map fun e => (⟨ck.val e.1, cv.val e.2.1, e.2.2⟩ : MapEntry)) = (m.map fun e => (⟨ck.val e.1, cv.val e.2.1, e.2.2⟩ : MapEntry)) → l = m
  | [], [], _ => rfl
  | [], b :: m, h => by simp at h
  | a :: l, [], h => by simp at h
  | a :: l, b :: m, h => by
    simp only [List.map_cons, List.cons.injEq, MapEntry.mk.injEq] at h
    obtain ⟨⟨h1, h2, h3⟩, h4⟩ := h
    obtain ⟨a1, a2, a3⟩ := a
    obtain ⟨b1, b2, b3⟩ := b
    simp only at h1 h2 h3
    rw [ck.val_inj h1, cv.val_inj h2, h3, ents_inj' h4]
theorem ents_inj {ck : Cod κ} {cv : Cod ν} {l m : List (κ × ν × Nat)} (h : ents ck cv l = ents ck cv m) : l = m := ents_inj' (List.toArray_inj h)
noncomputable def mtyp (ck : Cod κ) (cv : Cod ν) (es : Array MapEntry) : Option (List (κ × ν × Nat)) := open Classical in if h : ∃ l, es = ents ck cv l then some h.choose else none
theorem mtyp_ents (ck : Cod κ) (cv : Cod ν) (l : List (κ × ν × Nat)) : mtyp ck cv (ents ck cv l) = some l := by
  unfold mtyp
  rw [dif_pos ⟨l, rfl⟩]
  have h : ∃ m, ents ck cv l = ents ck cv m := ⟨l, rfl⟩
  exact congrArg some (ents_inj h.choose_spec).symm
theorem mtyp_spec {ck : Cod κ} {cv : Cod ν} {es : Array MapEntry} {l : List (κ × ν × Nat)} (h : mtyp ck cv es = some l) : es = ents ck cv l := by
  unfold mtyp at h
  split at h
  · rename_i hh
    rw [← Option.some.inj h]
    exact hh.choose_spec
  · cases h
def wput (w : World) (r : Nat) (o : Obj) : World := { w with heap := w.heap.setIfInBounds r o }
def cands (es : Array MapEntry) (since : Nat) (seen : Array Nat) : Array (Option MapEntry) :=
  (if ((es.filter fun e => !seen.contains e.born).filter (fun e => e.born < since)).isEmpty then #[none] else #[]) ++ (((es.filter fun e => !seen.contains e.born).filter (fun e => e.born < since)) ++ ((es.filter fun e => !seen.contains e.born).filter (fun e => e.born ≥ since))).map some
noncomputable def mapAt (ck : Cod κ) (cv : Cod ν) (r : Nat) : M (List (κ × ν × Nat) × Nat) := fun w => match w.heap[r]? with
  | some (.map es cl) => (mtyp ck cv es).map fun l => ((l, cl), w)
  | _ => none
noncomputable def mfind (l : List (κ × ν × Nat)) (k : κ) : Option (κ × ν × Nat) := l.find? fun e => eqv e.1 k
noncomputable def mplace (l : List (κ × ν × Nat)) (k : κ) : Option Nat := l.findIdx? fun e => eqv e.1 k
noncomputable def mkMap : M Nat := fun w => some (w.heap.size, w.alloc (.map #[] 0))
noncomputable def mget (ck : Cod κ) (cv : Cod ν) (z : ν) (o : Option Nat) (k : κ) : M (ν × Bool) := match o with
  | none => pure (z, false)
  | some r => mapAt ck cv r >>= fun p => pure (match mfind p.1 k with | some e => (e.2.1, true) | none => (z, false))
noncomputable def mlen (o : Option Nat) : M Int := fun w => match o with
  | none => some (0, w)
  | some r => match w.heap[r]? with
    | some (.map es _) => some ((es.size : Int), w)
    | _ => none
noncomputable def mput (l : List (κ × ν × Nat)) (cl : Nat) (k : κ) (x : ν) : List (κ × ν × Nat) × Nat := match mplace l k with
  | some i => (l.modify i fun e => (k, x, e.2.2), cl)
  | none => (l ++ [(k, x, cl)], cl + 1)
noncomputable def mset (ck : Cod κ) (cv : Cod ν) (o : Option Nat) (k : κ) (x : ν) : M Unit := fun w => match o with
  | none => none
  | some r => (mapAt ck cv r w).map fun p => ((), wput w r (.map (ents ck cv (mput p.1.1 p.1.2 k x).1) (mput p.1.1 p.1.2 k x).2))
noncomputable def mcut (l : List (κ × ν × Nat)) (k : κ) : List (κ × ν × Nat) := match mplace l k with
  | some i => l.eraseIdx i
  | none => l
noncomputable def mdel (ck : Cod κ) (cv : Cod ν) (o : Option Nat) (k : κ) : M Unit := fun w => match o with
  | none => some ((), w)
  | some r => (mapAt ck cv r w).map fun p => ((), wput w r (.map (ents ck cv (mcut p.1.1 k)) p.1.2))
noncomputable def mrange (o : Option Nat) : M Nat := fun w => match o with
  | none => some (w.heap.size, w.alloc (.mapIter none 0 #[] 0))
  | some r => match w.heap[r]? with
    | some (.map _ cl) => some (w.heap.size, w.alloc (.mapIter (some r) cl #[] cl))
    | _ => none
def which (n : Nat) : M Nat := fun w => if n ≤ 1 then some (0, w) else some (w.tape w.drawn (.mapNext n) % n, w.drew)
noncomputable def mnext (b : Nat) : M (Bool × List Value) := fun w => match w.heap[b]? with
  | some (.mapIter none _ _ _) => some ((false, []), w)
  | some (.mapIter (some r) since seen last) => match w.heap[r]? with
    | some (.map es cl) =>
      if !seen.isEmpty && !es.isEmpty && es.all (·.born ≥ last) then none else
      match which (cands es since seen).size w with
      | some (j, w1) => match (cands es since seen)[j]? with
        | some (some e) => some ((true, [e.key, e.val]), wput w1 b (.mapIter (some r) since (seen.push e.born) cl))
        | some none => some ((false, []), w1)
        | none => none
      | none => none
    | _ => none
  | _ => none
noncomputable def mentry (ck : Cod κ) (cv : Cod ν) (b : Nat) : M (κ × ν) := fun w => match w.heap[b]? with
  | some (.mapIter (some r) _ seen stepped) => match seen.back?, w.heap[r]? with
    | some stamp, some (.map es cl) => if cl != stepped then none else (mtyp ck cv es).bind fun l => (l.find? (·.2.2 == stamp)).map fun e => ((e.1, e.2.1), w)
    | _, _ => none
  | _ => none
def CkT (P : Program) (T : TypeId) (D : Nat) {α : Type} (cd : Cod α) : Prop := ∀ e, D ≤ e → ∀ b x w, (Instr.checkKey b e T (cd.val x)).run P w = .ok () w
theorem CkT.int {P : Program} {T : TypeId} {k : IntKind} (hT : P.underlying T = some (.int k)) : CkT P T 1 (cI k) := by
  intro e he b x w
  obtain ⟨d, rfl⟩ : ∃ d, e = d + 1 := ⟨e - 1, by omega⟩
  show (Instr.checkKey b (d + 1) T (.int k x)).run P w = _
  simp [Instr.checkKey, Sem.run_bind, run_underlying hT]
theorem CkT.bool {P : Program} {T : TypeId} (hT : P.underlying T = some .bool) : CkT P T 1 cB := by
  intro e he b x w
  obtain ⟨d, rfl⟩ : ∃ d, e = d + 1 := ⟨e - 1, by omega⟩
  show (Instr.checkKey b (d + 1) T (.bool x)).run P w = _
  simp [Instr.checkKey, Sem.run_bind, run_underlying hT]
theorem CkT.string {P : Program} {T : TypeId} (hT : P.underlying T = some .string) : CkT P T 1 cS := by
  intro e he b x w
  obtain ⟨d, rfl⟩ : ∃ d, e = d + 1 := ⟨e - 1, by omega⟩
  show (Instr.checkKey b (d + 1) T (.string x)).run P w = _
  simp [Instr.checkKey, Sem.run_bind, run_underlying hT]
def CkFs (P : Program) (b : Bool) (d : Nat) (xs : Array Value) (fs : List Field) (w : World) : Prop := ∀ f ∈ fs, f.name ≠ "_" ∧ ∃ v, (part f.type xs f.offset).run P w = .ok v w ∧ (Instr.checkKey b d f.type v).run P w = .ok () w
theorem CkFs.nil {P : Program} {b : Bool} {d : Nat} {xs : Array Value} {w : World} : CkFs P b d xs [] w := fun f hf => by cases hf
theorem CkFs.cons {P : Program} {b : Bool} {d D : Nat} {α : Type} {cd : Cod α} {z0 q : α} {xs : List Value} {f : Field} {fs : List Field} {w : World} (hn : (f.name == "_") = false) (ty : Ty P f.type cd z0) (ha : At xs f.offset (cd.enc q)) (he : CkT P f.type D cd) (hD : D ≤ d) (hr : CkFs P b d xs.toArray fs w) : CkFs P b d xs.toArray (f :: fs) w := by
  intro g hg
  rcases List.mem_cons.1 hg with rfl | hg
  · exact ⟨by simpa using hn, _, part_run ty ha w, he d hD b q w⟩
  · exact hr g hg
theorem CkT.struct {P : Program} {T : TypeId} {D : Nat} {α : Type} {cd : Cod α} {fs : Array Field} (hu : P.underlying T = some (.struct fs)) (hagg : cd.agg = true) (hf : ∀ d, D ≤ d → ∀ b x w, CkFs P b d (cd.enc x).toArray fs.toList w) : CkT P T (D + 1) cd := by
  intro e he b x w
  obtain ⟨d, rfl⟩ : ∃ d, e = d + 1 := ⟨e - 1, by omega⟩
  have hval : cd.val x = .agg (cd.enc x).toArray := by unfold Cod.val; rw [hagg]; rfl
  have deep := hf d (by omega) b x w
  rw [hval, Instr.checkKey]
  simp only [Sem.run_bind, run_underlying hu, Result.andThen_ok]
  rw [← Array.forIn_toList]
  unfold CkFs at deep
  generalize fs.toList = L at deep
  induction L with
  | nil => simp
  | cons f L ih =>
    obtain ⟨hn, v, p1, p2⟩ := deep f (by simp)
    simp only [List.forIn_cons, Sem.run_bind, hn, ne_eq, not_false_eq_true, if_true, Result.andThen_ok, p1, p2, Sem.run_pure]
    exact ih (fun y hy => deep y (by simp [hy]))
theorem CkT.arr {P : Program} {T E D n : Nat} {α : Type} {cd : Cod α} {z0 : α} (hu : P.underlying T = some (.array n E)) (ty : Ty P E cd z0) (he : CkT P E D cd) : CkT P T (D + 1) (cd.arr n) := by
  intro e hD b x w
  obtain ⟨d, rfl⟩ : ∃ d, e = d + 1 := ⟨e - 1, by omega⟩
  have hagg : (cd.arr n).agg = true := by cases n <;> rfl
  have hval : (cd.arr n).val x = .agg ((cd.arr n).enc x).toArray := by unfold Cod.val; rw [hagg]; rfl
  rw [hval, Instr.checkKey]
  simp only [Sem.run_bind, run_underlying hu, Result.andThen_ok]
  simp only [Std.Legacy.Range.forIn_eq_forIn_range', Std.Legacy.Range.size, Nat.sub_zero, Nat.add_one_sub_one, Nat.div_one]
  have hj : ∀ j ∈ List.range' 0 n, j < n := fun j hj => by simp [List.mem_range'] at hj; omega
  generalize List.range' 0 n = is at hj
  induction is with
  | nil => simp
  | cons j is ih =>
    have ha : At ((cd.arr n).enc x) (j * cd.n) (cd.enc (x.g (j : Int) z0)) := At.arr (v := x) (i := (j : Int)) (z := z0) (by omega) (by have := hj j (by simp); omega)
    simp only [List.forIn_cons, Sem.run_bind, sizeOf_run ty, Result.andThen_ok, part_run ty ha, he d (by omega) b _ w, Sem.run_pure]
    exact ih (fun k hk => hj k (List.mem_cons_of_mem _ hk))
theorem findAsk {P : Program} {T : TypeId} {D : Nat} {ck : Cod κ} {cv : Cod ν} (he : EqT P T D ck) (hD : D ≤ 10000) (k : κ) (w : World) : ∀ (l : List (κ × ν × Nat)) (i : Nat),
    (Instr.findAsking T (ck.val k) (l.map fun e => (⟨ck.val e.1, cv.val e.2.1, e.2.2⟩ : MapEntry)) i).run P w = .ok ((mplace l k).map fun j => (i + j, (((l[j]?).map fun e => cv.val e.2.1).getD undef))) w
  | [], i => by simp [Instr.findAsking, mplace]
  | e :: l, i => by
    obtain ⟨b, h1, h2⟩ := he 10000 hD k e.1 w
    have ih := findAsk (cv := cv) he hD k w l (i + 1)
    have hb : b = eqv e.1 k := by
      rw [Bool.eq_iff_iff, h2, eqv_iff]
      exact ⟨fun h => h.symm, fun h => h.symm⟩
    have h3 : (Op.equal T (ck.val k) (ck.val e.1)).run P w = .ok b w := h1
    simp only [List.map_cons, Instr.findAsking, Sem.run_bind, h3, Result.andThen_ok]
    unfold mplace at ih ⊢
    rw [List.findIdx?_cons]
    cases hq : eqv e.1 k with
    | true =>
      rw [hb, hq]
      simp
    | false =>
      rw [hb, hq]
      simp only [Bool.false_eq_true, if_false, ih, Option.map_map]
      congr 1
      cases l.findIdx? fun e => eqv e.1 k with
      | none => rfl
      | some j => simp [Nat.add_assoc, Nat.add_comm 1 j]
theorem findKey_run {P : Program} {T : TypeId} {D : Nat} {ck : Cod κ} {cv : Cod ν} (hagg : ck.agg = true) (he : EqT P T D ck) (hD : D ≤ 10000) (hu : ∃ d, P.underlying T = some d) (k : κ) (l : List (κ × ν × Nat)) (w : World) :
    (Instr.findKey T (ck.val k) (l.map fun e => (⟨ck.val e.1, cv.val e.2.1, e.2.2⟩ : MapEntry))).run P w = .ok ((mplace l k).map fun j => (j, (((l[j]?).map fun e => cv.val e.2.1).getD undef))) w := by
  obtain ⟨d, hd⟩ := hu
  have h1 := findAsk (cv := cv) he hD k w l 0
  have hval : ∀ q, ck.val q = .agg (ck.enc q).toArray := fun q => by unfold Cod.val; rw [hagg]; rfl
  unfold Instr.findKey
  simp only [Sem.run_bind, run_underlying hd, Result.andThen_ok]
  cases l with
  | nil => simp [Instr.findNow, mplace]
  | cons e l =>
    have hn : Instr.findNow d (ck.val k) ((e :: l).map fun e => (⟨ck.val e.1, cv.val e.2.1, e.2.2⟩ : MapEntry)) 0 = none := by
      simp only [List.map_cons, Instr.findNow]
      have : Instr.sameNow d (ck.val k) (ck.val e.1) = none := by
        rw [hval, hval]
        unfold Instr.sameNow
        split <;> simp_all
      rw [this]
    rw [hn]
    simp only [Nat.zero_add] at h1
    exact h1
theorem mfind_place (l : List (κ × ν × Nat)) (k : κ) : mfind l k = (mplace l k).bind fun j => l[j]? := by
  unfold mfind mplace
  induction l with
  | nil => rfl
  | cons e l ih =>
    rw [List.find?_cons, List.findIdx?_cons]
    cases eqv e.1 k with
    | true => simp
    | false =>
      simp only [Bool.false_eq_true, if_false]
      rw [ih]
      cases l.findIdx? fun e => eqv e.1 k with
      | none => rfl
      | some j => simp
theorem mplace_spec {l : List (κ × ν × Nat)} {k : κ} {j : Nat} (h : mplace l k = some j) : ∃ e, l[j]? = some e ∧ e.1 = k := by
  unfold mplace at h
  rw [List.findIdx?_eq_some_iff_getElem] at h
  obtain ⟨h1, h2, _⟩ := h
  exact ⟨l[j], List.getElem?_eq_getElem h1, eqv_iff.1 h2⟩
def SbC {α : Type} (cd : Cod α) : Prop := ∀ x, ∀ y ∈ cd.enc x, ∀ n, Instr.sameBits n y y = true
theorem SbC.int {k : IntKind} : SbC (cI k) := by
  intro x y hy n
  have : y = .int k x := by simpa [cI, Cod.cell] using hy
  subst this
  cases n <;> simp [Instr.sameBits]
theorem SbC.bool : SbC cB := by
  intro x y hy n
  have : y = .bool x := by simpa [cB, Cod.cell] using hy
  subst this
  cases n <;> simp [Instr.sameBits]
theorem SbC.string : SbC cS := by
  intro x y hy n
  have : y = .string x := by simpa [cS, Cod.cell] using hy
  subst this
  have h : (x == x) = true := by
    have := beq_toListBytes x x
    simpa using this
  cases n <;> simpa [Instr.sameBits] using h
theorem SbC.pair {α β : Type} {a : Cod α} {b : Cod β} (ha : SbC a) (hb : SbC b) : SbC (a.pair b) := by
  intro x y hy n
  have hy : y ∈ a.enc x.1 ++ b.enc x.2 := hy
  rcases List.mem_append.1 hy with h | h
  · exact ha _ y h n
  · exact hb _ y h n
theorem SbC.iso {α β : Type} {a : Cod α} {f : β → α} {g : α → β} {h1 : ∀ y, g (f y) = y} {h2 : ∀ x, f (g x) = x} (ha : SbC a) : SbC (a.iso f g h1 h2) := fun x y hy n => ha (f x) y hy n
theorem SbC.arr {α : Type} {a : Cod α} {n : Nat} (ha : SbC a) : SbC (a.arr n) := by
  intro x y hy k
  rw [Cod.arr_enc] at hy
  obtain ⟨z, _, hz⟩ := List.mem_flatMap.1 hy
  exact ha z y hz k
theorem SbC.val {α : Type} {cd : Cod α} (h : SbC cd) (hagg : cd.agg = true) (x : α) : Instr.sameBits 10000 (cd.val x) (cd.val x) = true := by
  have hval : cd.val x = .agg (cd.enc x).toArray := by unfold Cod.val; rw [hagg]; rfl
  rw [hval]
  show ((cd.enc x).toArray.size == (cd.enc x).toArray.size && ((cd.enc x).toArray.toList.zip (cd.enc x).toArray.toList).all fun (x, y) => Instr.sameBits 9999 x y) = true
  rw [Bool.and_eq_true, List.all_eq_true]
  refine ⟨by simp, fun p hp => ?_⟩
  have : ∀ (l : List Value) (p : Value × Value), p ∈ l.zip l → p.1 = p.2 ∧ p.1 ∈ l := by
    intro l
    induction l with
    | nil => intro p hp; simp at hp
    | cons a l ih =>
      intro p hp
      simp only [List.zip_cons_cons, List.mem_cons] at hp
      rcases hp with rfl | hp
      · exact ⟨rfl, by simp⟩
      · exact ⟨(ih p hp).1, List.mem_cons_of_mem _ (ih p hp).2⟩
  obtain ⟨e1, e2⟩ := this _ p hp
  obtain ⟨p1, p2⟩ := p
  simp only at e1 e2 ⊢
  subst e1
  exact h x p1 e2 9999
theorem getO {P : Program} {w : World} {r : Nat} {es : Array MapEntry} {cl : Nat} (h : w.heap[r]? = some (.map es cl)) : (getObj r).run P w = .ok (.map es cl) w := by simp [getObj, Sem.run, h]
theorem setO {P : Program} {w : World} {r : Nat} {es : Array MapEntry} {cl : Nat} (o : Obj) (h : w.heap[r]? = some (.map es cl)) : (setObj r o).run P w = .ok () (wput w r o) := by simp [setObj, Sem.run, h, wput]
theorem not_husk {v : World} {r : Nat} {O : Obj} (h : v.heap[r]? = some O) (hO : ∀ T, O ≠ .cells #[] T (0, 0)) : ¬ Husk v r := by
  rintro ⟨T, hT⟩
  rw [hT] at h
  exact hO T (Option.some.inj h).symm
theorem heap_wput (w : World) (r : Nat) (o : Obj) (b : Nat) : (wput w r o).heap[b]? = if r = b ∧ b < w.heap.size then some o else w.heap[b]? := by
  unfold wput
  simp only [Array.getElem?_setIfInBounds]
  by_cases e : r = b
  · subst e
    by_cases h : r < w.heap.size
    · simp [h]
    · simp [h]
  · simp [e]
theorem Sub.wput {v w : World} (h : Sub v w) {r : Nat} (o : Obj) (hb : ¬ Husk v r) : Sub (wput v r o) (wput w r o) := by
  refine ⟨h.os, h.tape, h.drawn, h.output, by simp [Lx.wput, h.size], fun b => ?_⟩
  rw [heap_wput, heap_wput, h.size]
  split
  · exact .inl rfl
  · exact h.at_ b
theorem wput_kept {v w : World} (h : Sub v w) {r : Nat} (o : Obj) (hb : ¬ Husk v r) : ∀ b, Husk v b → (wput w r o).heap[b]? = w.heap[b]? ∧ (wput v r o).heap[b]? = v.heap[b]? := by
  intro b hh
  have hne : ¬ (r = b ∧ b < w.heap.size) := fun e => hb (e.1 ▸ hh)
  have hne2 : ¬ (r = b ∧ b < v.heap.size) := fun e => hb (e.1 ▸ hh)
  rw [heap_wput, heap_wput, if_neg hne, if_neg hne2]
  exact ⟨rfl, rfl⟩
theorem map_there {v w : World} (h : Sub v w) {r : Nat} {es : Array MapEntry} {cl : Nat} (hv : v.heap[r]? = some (.map es cl)) : ¬ Husk v r ∧ w.heap[r]? = some (.map es cl) := by
  have hn := not_husk hv (fun T h => by cases h)
  exact ⟨hn, by rw [h.block hn]; exact hv⟩
theorem iter_there {v w : World} (h : Sub v w) {r : Nat} {m : Option Nat} {a : Nat} {b : Array Nat} {c : Nat} (hv : v.heap[r]? = some (.mapIter m a b c)) : ¬ Husk v r ∧ w.heap[r]? = some (.mapIter m a b c) := by
  have hn := not_husk hv (fun T h => by cases h)
  exact ⟨hn, by rw [h.block hn]; exact hv⟩
theorem mapAt_some {ck : Cod κ} {cv : Cod ν} {r : Nat} {v v' : World} {p : List (κ × ν × Nat) × Nat} (h : mapAt ck cv r v = some (p, v')) : v' = v ∧ v.heap[r]? = some (.map (ents ck cv p.1) p.2) := by
  unfold mapAt at h
  split at h
  · rename_i es cl hes
    obtain ⟨l, hl, he⟩ := Option.map_eq_some_iff.1 h
    simp only [Prod.mk.injEq] at he
    obtain ⟨rfl, rfl⟩ := he
    rw [hes, mtyp_spec hl]
    exact ⟨rfl, rfl⟩
  · cases h
theorem lookup_run {P : Program} {T kT vT D : Nat} {ck : Cod κ} {cv : Cod ν} {z : ν} (hT : P.underlying T = some (.map kT vT)) (hku : ∃ d, P.underlying kT = some d) (hagg : ck.agg = true) (he : EqT P kT D ck) (hc : CkT P kT D ck) (hD : D ≤ 10000) (ty : Ty P vT cv z) {o : Option Nat} {k : κ} {v w v' : World} {x : ν × Bool} (hs : Sub v w) (hq : mget ck cv z o k v = some (x, v')) (ok : Bool) :
    v' = v ∧ (Instr.lookup T (.map o) (ck.val k) ok).run P w = .ok (if ok then .tuple #[cv.val x.1, .bool x.2] else cv.val x.1) w := by
  obtain ⟨inf, hi, hsz, hz⟩ := ty.parts
  have hz2 : ∀ w', (zeroValue vT).run P w' = .ok (cv.val z) w' := by intro w'; simp [zeroValue, typeInfo, hi, hz]
  unfold mget at hq
  cases o with
  | none =>
    obtain ⟨rfl, rfl⟩ : (z, false) = x ∧ v = v' := by cases hq; exact ⟨rfl, rfl⟩
    refine ⟨rfl, ?_⟩
    have hf := findKey_run (cv := cv) hagg he hD hku k [] w
    have hf : (Instr.findKey kT (ck.val k) []).run P w = .ok none w := hf
    unfold Instr.lookup
    simp only [Sem.run_bind, run_underlying hT, Result.andThen_ok, Sem.run_pure, hc 10000 hD _ k w, hf, hz2]
  | some r =>
    obtain ⟨p, v1, h1, h2⟩ := bind_some.1 hq
    obtain ⟨rfl, h3⟩ := mapAt_some h1
    obtain ⟨hn, hw⟩ := map_there hs h3
    have hf := findKey_run (cv := cv) hagg he hD hku k p.1 w
    have hf : (Instr.findKey kT (ck.val k) (ents ck cv p.1).toList).run P w = .ok ((mplace p.1 k).map fun j => (j, (((p.1[j]?).map fun e => cv.val e.2.1).getD undef))) w := by
      unfold ents
      simpa using hf
    obtain ⟨hx, rfl⟩ : (match mfind p.1 k with | some e => (e.2.1, true) | none => (z, false)) = x ∧ v1 = v' := by cases h2; exact ⟨rfl, rfl⟩
    refine ⟨rfl, ?_⟩
    unfold Instr.lookup
    simp only [Sem.run_bind, run_underlying hT, Result.andThen_ok, getO hw, Sem.run_pure, hc 10000 hD _ k w, hf]
    rw [mfind_place] at hx
    cases hp : mplace p.1 k with
    | none =>
      rw [hp] at hx
      simp only [Option.bind_none] at hx
      subst hx
      simp only [Option.map_none, Sem.run_bind, hz2, Result.andThen_ok, Sem.run_pure]
    | some j =>
      obtain ⟨e, he1, he2⟩ := mplace_spec hp
      rw [hp] at hx
      simp only [Option.bind_some, he1] at hx
      subst hx
      simp only [Option.map_some, he1, Option.getD_some, Sem.run_bind, Sem.run_pure, Result.andThen_ok]
theorem list_modify_ents {ck : Cod κ} {cv : Cod ν} {l : List (κ × ν × Nat)} {k : κ} {x : ν} {i : Nat} {e0 : κ × ν × Nat} (h : l[i]? = some e0) (hk : e0.1 = k) : ((ents ck cv l).modify i fun e => { e with key := ck.val k, val := cv.val x }) = ents ck cv (l.modify i fun e => (k, x, e.2.2)) := by
  unfold ents
  apply Array.toList_inj.1
  simp only [Array.toList_modify]
  apply List.ext_getElem?
  intro j
  simp only [List.getElem?_modify, List.getElem?_map]
  by_cases e : i = j
  · subst e
    simp [h]
  · simp [e]
theorem update_run {P : Program} {T kT vT D : Nat} {ck : Cod κ} {cv : Cod ν} (hT : P.underlying T = some (.map kT vT)) (hku : ∃ d, P.underlying kT = some d) (hagg : ck.agg = true) (he : EqT P kT D ck) (hc : CkT P kT D ck) (hD : D ≤ 10000) (hsb : SbC ck) {o : Option Nat} {k : κ} {x : ν} {v w v' : World} {u : Unit} (hs : Sub v w) (hq : mset ck cv o k x v = some (u, v')) :
    ∃ w', (Instr.mapUpdate T (.map o) (ck.val k) (cv.val x)).run P w = .ok () w' ∧ Sub v' w' ∧ ∀ b, Husk v b → w'.heap[b]? = w.heap[b]? ∧ v'.heap[b]? = v.heap[b]? := by
  unfold mset at hq
  cases o with
  | none => cases hq
  | some r =>
    obtain ⟨⟨p, v1⟩, h1, h2⟩ := Option.map_eq_some_iff.1 hq
    obtain ⟨rfl, h3⟩ := mapAt_some h1
    simp only [Prod.mk.injEq] at h2
    obtain ⟨-, rfl⟩ := h2
    obtain ⟨hn, hw⟩ := map_there hs h3
    refine ⟨_, ?_, hs.wput (.map (ents ck cv (mput p.1 p.2 k x).1) (mput p.1 p.2 k x).2) hn, wput_kept hs _ hn⟩
    have hf := findKey_run (cv := cv) hagg he hD hku k p.1 w
    have hf : (Instr.findKey kT (ck.val k) (ents ck cv p.1).toList).run P w = .ok ((mplace p.1 k).map fun j => (j, (((p.1[j]?).map fun e => cv.val e.2.1).getD undef))) w := by
      unfold ents
      simpa using hf
    unfold Instr.mapUpdate
    simp only [Sem.run_bind, run_underlying hT, Result.andThen_ok, getO hw, hc 10000 hD _ k w, hf]
    unfold mput
    cases hp : mplace p.1 k with
    | none =>
      simp only [Option.map_none]
      rw [setO _ hw]
      have : (ents ck cv p.1).push ⟨ck.val k, cv.val x, p.2⟩ = ents ck cv (p.1 ++ [(k, x, p.2)]) := by
        unfold ents
        simp
      rw [this]
    | some j =>
      obtain ⟨e, he1, he2⟩ := mplace_spec hp
      have hk : (((ents ck cv p.1)[j]?).map (·.key)).getD (ck.val k) = ck.val k := by
        unfold ents
        simp [he1, he2]
      simp only [Option.map_some, hk, Instr.keyThatStays, hsb.val hagg k, if_true, Sem.run_bind, Sem.run_pure, Result.andThen_ok]
      rw [setO _ hw, list_modify_ents he1 he2]
theorem map_erase {α β : Type} (f : α → β) : ∀ (l : List α) (i : Nat), (l.map f).eraseIdx i = (l.eraseIdx i).map f
  | [], _ => rfl
  | a :: l, 0 => rfl
  | a :: l, i + 1 => by simp [map_erase f l i]
theorem eraseIdx_ents {ck : Cod κ} {cv : Cod ν} (l : List (κ × ν × Nat)) (i : Nat) : (ents ck cv l).eraseIdxIfInBounds i = ents ck cv (l.eraseIdx i) := by
  unfold ents
  apply Array.toList_inj.1
  rw [Array.toList_eraseIdxIfInBounds]
  exact map_erase _ l i
theorem delete_run {P : Program} {T kT vT D uT : Nat} {ck : Cod κ} {cv : Cod ν} (hT : P.underlying T = some (.map kT vT)) (hku : ∃ d, P.underlying kT = some d) (hagg : ck.agg = true) (he : EqT P kT D ck) (hc : CkT P kT D ck) (hD : D ≤ 10000) {o : Option Nat} {k : κ} {v w v' : World} {u : Unit} (hs : Sub v w) (hq : mdel ck cv o k v = some (u, v')) (ty : TypeId) :
    ∃ w', (Builtin.delete_ #[T, uT] ty #[.map o, ck.val k]).run P w = .ok (.tuple #[]) w' ∧ Sub v' w' ∧ ∀ b, Husk v b → w'.heap[b]? = w.heap[b]? ∧ v'.heap[b]? = v.heap[b]? := by
  unfold mdel at hq
  unfold Builtin.delete_
  have g0 : (#[T, uT] : Array TypeId)[0]? = some T := rfl
  have g1 : (#[.map o, ck.val k] : Array Value)[0]? = some (.map o) := rfl
  have g2 : (#[.map o, ck.val k] : Array Value)[1]? = some (ck.val k) := rfl
  simp only [g0, g1, g2, Sem.run_bind, run_underlying hT, Result.andThen_ok]
  cases o with
  | none =>
    obtain ⟨-, rfl⟩ : () = u ∧ v = v' := by cases hq; exact ⟨rfl, rfl⟩
    refine ⟨w, ?_, hs, fun _ _ => ⟨rfl, rfl⟩⟩
    simp only [Sem.run_bind, hc 10000 hD _ k w, Result.andThen_ok, Sem.run_pure]
  | some r =>
    obtain ⟨⟨p, v1⟩, h1, h2⟩ := Option.map_eq_some_iff.1 hq
    obtain ⟨rfl, h3⟩ := mapAt_some h1
    simp only [Prod.mk.injEq] at h2
    obtain ⟨-, rfl⟩ := h2
    obtain ⟨hn, hw⟩ := map_there hs h3
    refine ⟨_, ?_, hs.wput (.map (ents ck cv (mcut p.1 k)) p.2) hn, wput_kept hs _ hn⟩
    have hf := findKey_run (cv := cv) hagg he hD hku k p.1 w
    have hf : (Instr.findKey kT (ck.val k) (ents ck cv p.1).toList).run P w = .ok ((mplace p.1 k).map fun j => (j, (((p.1[j]?).map fun e => cv.val e.2.1).getD undef))) w := by
      unfold ents
      simpa using hf
    simp only [Sem.run_bind, getO hw, Result.andThen_ok, hc 10000 hD _ k w, hf]
    unfold mcut
    cases hp : mplace p.1 k with
    | none =>
      simp only [Option.map_none, Sem.run_bind, setO _ hw, Result.andThen_ok, Sem.run_pure]
    | some j =>
      simp only [Option.map_some, Sem.run_bind, setO _ hw, Result.andThen_ok, Sem.run_pure, eraseIdx_ents]
theorem len_run {P : Program} {T kT vT : Nat} (hT : P.underlying T = some (.map kT vT)) {o : Option Nat} {v w v' : World} {n : Int} (hs : Sub v w) (hq : mlen o v = some (n, v')) (ty : TypeId) : v' = v ∧ (Builtin.len_ #[T] ty #[.map o]).run P w = .ok (.int .i64 n) w := by
  unfold mlen at hq
  unfold Builtin.len_
  have g0 : (#[T] : Array TypeId)[0]? = some T := rfl
  have g1 : (#[.map o] : Array Value)[0]? = some (.map o) := rfl
  simp only [g0, g1, Sem.run_bind, run_underlying hT, Result.andThen_ok]
  cases o with
  | none =>
    obtain ⟨rfl, rfl⟩ : (0 : Int) = n ∧ v = v' := by cases hq; exact ⟨rfl, rfl⟩
    exact ⟨rfl, rfl⟩
  | some r =>
    simp only at hq
    split at hq
    · rename_i es cl hes
      obtain ⟨rfl, rfl⟩ : (es.size : Int) = n ∧ v = v' := by cases hq; exact ⟨rfl, rfl⟩
      obtain ⟨hn, hw⟩ := map_there hs hes
      refine ⟨rfl, ?_⟩
      simp only [Sem.run_bind, getO hw, Result.andThen_ok, Sem.run_pure]
      rfl
    · cases hq
theorem makeMap_run {P : Program} {T : TypeId} {v w v' : World} {b : Nat} (hs : Sub v w) (hq : mkMap v = some (b, v')) : ∃ w', (Instr.makeMap T none).run P w = .ok (.map (some b)) w' ∧ Sub v' w' ∧ ∀ b, Husk v b → w'.heap[b]? = w.heap[b]? ∧ v'.heap[b]? = v.heap[b]? := by
  unfold mkMap at hq
  simp only [Option.some.injEq, Prod.mk.injEq] at hq
  obtain ⟨rfl, rfl⟩ := hq
  refine ⟨w.alloc (.map #[] 0), ?_, hs.alloc _, fun b hb => ⟨?_, hb.alloc _⟩⟩
  · unfold Instr.makeMap
    simp only [Sem.run_bind, Sem.run_pure, Result.andThen_ok, newObj, Sem.run]
    rw [hs.size]
    rfl
  · have h1 := hb.lt
    rw [← hs.size] at h1
    show (w.heap.push _)[b]? = _
    rw [Array.getElem?_push, if_neg (by omega)]
theorem range_run {P : Program} {T kT vT : TypeId} (hT : P.underlying T = some (.map kT vT)) {o : Option Nat} {v w v' : World} {b : Nat} (hs : Sub v w) (hq : mrange o v = some (b, v')) : ∃ w', (Instr.range T (.map o)).run P w = .ok (.pointer (some (pt b 0))) w' ∧ Sub v' w' ∧ ∀ b, Husk v b → w'.heap[b]? = w.heap[b]? ∧ v'.heap[b]? = v.heap[b]? := by
  have al : ∀ O, Sub (v.alloc O) (w.alloc O) ∧ ∀ b, Husk v b → (w.alloc O).heap[b]? = w.heap[b]? ∧ (v.alloc O).heap[b]? = v.heap[b]? := fun O => ⟨hs.alloc _, fun b hb => ⟨by
    have h1 := hb.lt
    rw [← hs.size] at h1
    show (w.heap.push _)[b]? = _
    rw [Array.getElem?_push, if_neg (by omega)], hb.alloc _⟩⟩
  unfold mrange at hq
  unfold Instr.range
  simp only [Sem.run_bind, run_underlying hT, Result.andThen_ok]
  cases o with
  | none =>
    simp only [Option.some.injEq, Prod.mk.injEq] at hq
    obtain ⟨rfl, rfl⟩ := hq
    refine ⟨w.alloc (.mapIter none 0 #[] 0), ?_, (al _).1, (al _).2⟩
    simp only [Sem.run_bind, Sem.run_pure, Result.andThen_ok, newObj, Sem.run]
    rw [hs.size]
    rfl
  | some r =>
    simp only at hq
    split at hq
    · rename_i es cl hes
      simp only [Option.some.injEq, Prod.mk.injEq] at hq
      obtain ⟨rfl, rfl⟩ := hq
      obtain ⟨hn, hw⟩ := map_there hs hes
      refine ⟨w.alloc (.mapIter (some r) cl #[] cl), ?_, (al _).1, (al _).2⟩
      simp only [Sem.run_bind, getO hw, Sem.run_pure, Result.andThen_ok, newObj, Sem.run]
      rw [hs.size]
      rfl
    · cases hq
theorem which_run {P : Program} {n j : Nat} {v w v1 : World} (hs : Sub v w) (hq : which n v = some (j, v1)) : ∃ w1, (choose (.mapNext n)).run P w = .ok j w1 ∧ Sub v1 w1 ∧ w1.heap = w.heap ∧ v1.heap = v.heap := by
  unfold which at hq
  by_cases h : n ≤ 1
  · rw [if_pos h] at hq
    simp only [Option.some.injEq, Prod.mk.injEq] at hq
    obtain ⟨rfl, rfl⟩ := hq
    exact ⟨w, by simp [choose, Sem.run, Question.forced, h], hs, rfl, rfl⟩
  · rw [if_neg h] at hq
    simp only [Option.some.injEq, Prod.mk.injEq] at hq
    obtain ⟨rfl, rfl⟩ := hq
    refine ⟨w.drew, ?_, hs.drew, rfl, rfl⟩
    simp only [choose, Sem.run, Question.forced, decide_eq_true_eq, h, if_false, Question.cut]
    unfold World.drew
    rw [hs.tape, hs.drawn]
theorem setI {P : Program} {w : World} {r : Nat} {m : Option Nat} {a : Nat} {b : Array Nat} {c : Nat} (o : Obj) (h : w.heap[r]? = some (.mapIter m a b c)) : (setObj r o).run P w = .ok () (wput w r o) := by simp [setObj, Sem.run, h, wput]
theorem getI {P : Program} {w : World} {r : Nat} {m : Option Nat} {a : Nat} {b : Array Nat} {c : Nat} (h : w.heap[r]? = some (.mapIter m a b c)) : (getObj r).run P w = .ok (.mapIter m a b c) w := by simp [getObj, Sem.run, h]
theorem next_run {P : Program} {b : Nat} {v w v' : World} {x : Bool × List Value} (hs : Sub v w) (hq : mnext b v = some (x, v')) (ty : TypeId) : ∃ w', (Instr.next (.pointer (some (pt b 0))) false ty).run P w = .ok (.tuple ⟨.bool x.1 :: x.2⟩) w' ∧ Sub v' w' ∧ ∀ b, Husk v b → w'.heap[b]? = w.heap[b]? ∧ v'.heap[b]? = v.heap[b]? := by
  unfold mnext at hq
  unfold Instr.next pt
  simp only
  split at hq
  · rename_i a b' c h1
    simp only [Option.some.injEq, Prod.mk.injEq] at hq
    obtain ⟨rfl, rfl⟩ := hq
    obtain ⟨hn, hw⟩ := iter_there hs h1
    refine ⟨w, ?_, hs, fun _ _ => ⟨rfl, rfl⟩⟩
    simp only [Sem.run_bind, getI hw, Result.andThen_ok, Sem.run_pure]
  · rename_i r since seen last h1
    obtain ⟨hn, hw⟩ := iter_there hs h1
    split at hq
    · rename_i es cl h2
      obtain ⟨hn2, hw2⟩ := map_there hs h2
      split at hq
      · cases hq
      · rename_i hg
        split at hq
        · rename_i j v1 h3
          obtain ⟨w1, h4, h5, h6, h7⟩ := which_run (P := P) hs h3
          have hgf : (!seen.isEmpty && !es.isEmpty && es.all fun x => decide (x.born ≥ last)) = false := by simpa using hg
          split at hq
          · rename_i e h8
            simp only [Option.some.injEq, Prod.mk.injEq] at hq
            obtain ⟨rfl, rfl⟩ := hq
            have hn' : ¬ Husk v1 b := fun ⟨T, hT⟩ => hn ⟨T, by rw [← h7]; exact hT⟩
            refine ⟨_, ?_, h5.wput (.mapIter (some r) since (seen.push e.born) cl) hn', fun b' hb' => ?_⟩
            · simp only [Sem.run_bind, getI hw, Result.andThen_ok, getO hw2, hgf, Bool.false_eq_true, if_false]
              unfold cands at h4 h8
              simp only [h4, Result.andThen_ok, h8]
              have hw' : w1.heap[b]? = some (.mapIter (some r) since seen last) := by rw [h6]; exact hw
              simp only [Sem.run_bind, setI _ hw', Result.andThen_ok, Sem.run_pure]
            · have hb1 : Husk v1 b' := by obtain ⟨T, hT⟩ := hb'; exact ⟨T, by rw [h7]; exact hT⟩
              obtain ⟨k1, k2⟩ := wput_kept h5 (.mapIter (some r) since (seen.push e.born) cl) hn' b' hb1
              rw [k1, k2, h6, h7]
              exact ⟨rfl, rfl⟩
          · rename_i h8
            simp only [Option.some.injEq, Prod.mk.injEq] at hq
            obtain ⟨rfl, rfl⟩ := hq
            refine ⟨w1, ?_, h5, fun b' _ => by rw [h6, h7]; exact ⟨rfl, rfl⟩⟩
            simp only [Sem.run_bind, getI hw, Result.andThen_ok, getO hw2, hgf, Bool.false_eq_true, if_false]
            unfold cands at h4 h8
            simp only [h4, Result.andThen_ok, h8, Sem.run_pure]
          · cases hq
        · cases hq
    · cases hq
  · cases hq
theorem entry_run {P : Program} {ck : Cod κ} {cv : Cod ν} {b : Nat} {v w v' : World} {x : κ × ν} (hs : Sub v w) (hq : mentry ck cv b v = some (x, v')) : v' = v ∧ (Instr.entry (.pointer (some (pt b 0)))).run P w = .ok (.tuple #[ck.val x.1, cv.val x.2]) w := by
  unfold mentry at hq
  unfold Instr.entry pt
  simp only
  split at hq
  · rename_i r since seen stepped h1
    obtain ⟨hn, hw⟩ := iter_there hs h1
    split at hq
    · rename_i stamp es cl h2 h3
      obtain ⟨hn2, hw2⟩ := map_there hs h3
      split at hq
      · cases hq
      · rename_i hc
        obtain ⟨l, hl, h4⟩ := Option.bind_eq_some_iff.1 hq
        obtain ⟨e, he, h5⟩ := Option.map_eq_some_iff.1 h4
        simp only [Prod.mk.injEq] at h5
        obtain ⟨rfl, rfl⟩ := h5
        refine ⟨rfl, ?_⟩
        have hes := mtyp_spec hl
        have hf : es.find? (fun e => e.born == stamp) = some ⟨ck.val e.1, cv.val e.2.1, e.2.2⟩ := by
          rw [hes]
          unfold ents
          rw [List.find?_toArray, List.find?_map]
          simp only [Function.comp_def]
          rw [he]
          rfl
        simp only [Sem.run_bind, getI hw, Result.andThen_ok, h2, getO hw2, if_neg hc, hf, Sem.run_pure]
    · cases hq
  · cases hq
section
variable {β : Type} {c : Cx} {pend : List Pd} {is : List Nat} {m : Env} {h : Loc} {R : List Pd → Env → Loc → M β → Prop}
structure KeyT (P : Program) (T kT D : Nat) {κ ν : Type} (ck : Cod κ) (cv : Cod ν) (z : ν) : Prop where
  agg : ck.agg = true
  eq : EqT P kT D ck
  ckt : CkT P kT D ck
  sb : SbC ck
  hD : D ≤ 10000
  hT : ∃ vT, P.underlying T = some (.map kT vT) ∧ Ty P vT cv z
  hk : ∃ d, P.underlying kT = some d
theorem OJ.mkMap {i d t : Nat} {owed : List Pd} {f : Nat → M β} (hJ : ∀ b : Nat, OW c owed pend is ((d, .map (some b)) :: m) h (f b) R) (hc : core c.ops m i = some (some d, .makeMap t none) := by kernel_rfl) (hd : Nat.blt d c.n = true := by kernel_rfl) (hk : kdW c.kd i = true := by kernel_rfl) (ho : owes c.bef i pend = owed := by kernel_rfl) : OJ c pend (i :: is) m h (mkMap >>= f) R := by
  refine OJ.sem (out := fun b => .map (some b)) hc (fun v w a st r v' e => ?_) hd hk ho hJ
  obtain ⟨w', e1, e2, e3⟩ := makeMap_run (P := c.P) (T := t) st.sub e
  refine ⟨w', fun o hop => ?_, e2, e3⟩
  rw [exec_of (P := c.P) hop]
  simp [execOp, e1]
theorem OJ.get0 {i d T kT D : Nat} {x y : Operand} {ck : Cod κ} {cv : Cod ν} {z : ν} {o : Option Nat} {k : κ} {owed : List Pd} {f : ν × Bool → M β} (kt : KeyT c.P T kT D ck cv z) (hJ : ∀ r : ν × Bool, OW c owed pend is ((d, cv.val r.1) :: m) h (f r) R) (hc : core c.ops m i = some (some d, .lookup T x y false) := by kernel_rfl) (hx : evm m x = some (.map o) := by kernel_rfl) (hy : evm m y = some (ck.val k) := by kernel_rfl) (hd : Nat.blt d c.n = true := by kernel_rfl) (hk : kdW c.kd i = true := by kernel_rfl) (ho : owes c.bef i pend = owed := by kernel_rfl) : OJ c pend (i :: is) m h (mget ck cv z o k >>= f) R := by
  refine OJ.sem (out := fun r => cv.val r.1) hc (fun v w a st r v' e => ?_) hd hk ho hJ
  obtain ⟨vT, hT, ty⟩ := kt.hT
  obtain ⟨rfl, e1⟩ := lookup_run (P := c.P) hT kt.hk kt.agg kt.eq kt.ckt kt.hD ty st.sub e false
  refine ⟨w, fun o' hop => ?_, st.sub, fun _ _ => ⟨rfl, rfl⟩⟩
  rw [exec_of (P := c.P) hop]
  simp only [execOp, st.eval hx, st.eval hy, Sem.run_bind, e1, Result.andThen_ok, Sem.run_pure, Bool.false_eq_true, if_false]
theorem OJ.mset {i T kT D : Nat} {x y q : Operand} {ck : Cod κ} {cv : Cod ν} {z u : ν} {o : Option Nat} {k : κ} {owed : List Pd} {f : Unit → M β} (kt : KeyT c.P T kT D ck cv z) (hJ : OW c owed pend is m h (f ()) R) (hc : core c.ops m i = some (none, .mapUpdate T x y q) := by kernel_rfl) (hx : evm m x = some (.map o) := by kernel_rfl) (hy : evm m y = some (ck.val k) := by kernel_rfl) (hz : evm m q = some (cv.val u) := by kernel_rfl) (hk : kdW c.kd i = true := by kernel_rfl) (ho : owes c.bef i pend = owed := by kernel_rfl) : OJ c pend (i :: is) m h (mset ck cv o k u >>= f) R := by
  refine OJ.wr hc hk ho fun v r v' e w a st D' hD' => ?_
  obtain ⟨y', v1, h1, h2⟩ := bind_some.1 e
  obtain ⟨vT, hT, ty⟩ := kt.hT
  obtain ⟨w1, e1, e2, e3⟩ := update_run (P := c.P) hT kt.hk kt.agg kt.eq kt.ckt kt.hD kt.sb st.sub h1
  refine ⟨undef, w1, v1, f (), m, h, fun o' hop => .inr (.inl ⟨?_, rfl⟩), h2, ⟨e2, st.size, st.defers, st.get, Loc.keep st e3, st.nd⟩, Kp.of hD' e3, hJ⟩
  rw [exec_of (P := c.P) hop]
  simp only [execOp, st.eval hx, st.eval hy, st.eval hz, Sem.run_bind, e1, Result.andThen_ok, Sem.run_pure]
theorem OJ.mdel {i T uT kT D : Nat} {x y : Operand} {ck : Cod κ} {cv : Cod ν} {z : ν} {o : Option Nat} {k : κ} {owed : List Pd} {f : Unit → M β} (kt : KeyT c.P T kT D ck cv z) (hJ : OW c owed pend is m h (f ()) R) (hc : core c.ops m i = some (none, .call { callee := .builtin .delete, args := #[x, y], argTypes := #[T, uT] }) := by kernel_rfl) (hx : evm m x = some (.map o) := by kernel_rfl) (hy : evm m y = some (ck.val k) := by kernel_rfl) (hk : kdW c.kd i = true := by kernel_rfl) (ho : owes c.bef i pend = owed := by kernel_rfl) : OJ c pend (i :: is) m h (mdel ck cv o k >>= f) R := by
  refine OJ.wr hc hk ho fun v r v' e w a st D' hD' => ?_
  obtain ⟨y', v1, h1, h2⟩ := bind_some.1 e
  obtain ⟨vT, hT, ty⟩ := kt.hT
  obtain ⟨w1, e1, e2, e3⟩ := delete_run (P := c.P) (uT := uT) hT kt.hk kt.agg kt.eq kt.ckt kt.hD st.sub h1 0
  refine ⟨.tuple #[], w1, v1, f (), m, h, fun o' hop => .inl ?_, h2, ⟨e2, st.size, st.defers, st.get, Loc.keep st e3, st.nd⟩, Kp.of hD' e3, hJ⟩
  obtain ⟨dst, op, type, pos, after, guard⟩ := o'
  simp only at hop
  subst hop
  have e1' : ∀ ty, (Builtin.delete_ #[T, uT] ty #[.map o, ck.val k]).run c.P w = .ok (.tuple #[]) w1 := fun ty => e1
  simp only [execOp, resolve, Sem.run_bind, Sem.run_pure, Result.andThen_ok, invoke]
  simp only [List.map_toArray, List.map_cons, List.map_nil, st.eval hx, st.eval hy, builtin, Sem.run_bind, e1', Result.andThen_ok, Sem.run_pure]
theorem OJ.mlen {i d T kT vT : Nat} {x : Operand} {o : Option Nat} {owed : List Pd} {f : Int → M β} (hJ : ∀ n : Int, OW c owed pend is ((d, .int .i64 n) :: m) h (f n) R) (hc : core c.ops m i = some (some d, .call { callee := .builtin .len, args := #[x], argTypes := #[T] }) := by kernel_rfl) (hT : c.P.underlying T = some (.map kT vT) := by kernel_rfl) (hx : evm m x = some (.map o) := by kernel_rfl) (hd : Nat.blt d c.n = true := by kernel_rfl) (hk : kdW c.kd i = true := by kernel_rfl) (ho : owes c.bef i pend = owed := by kernel_rfl) : OJ c pend (i :: is) m h (mlen o >>= f) R := by
  refine OJ.sem (out := fun n => .int .i64 n) hc (fun v w a st r v' e => ?_) hd hk ho hJ
  obtain ⟨rfl, e1⟩ := len_run (P := c.P) hT st.sub e 0
  refine ⟨w, fun o' hop => exec_builtin1 hop fun ty cs => ?_, st.sub, fun _ _ => ⟨rfl, rfl⟩⟩
  have e1' : (Builtin.len_ #[T] ty #[.map o]).run c.P w = .ok (.int .i64 r) w := e1
  rw [st.eval hx]
  simp only [builtin, Sem.run_bind, e1', Result.andThen_ok, Sem.run_pure]
theorem OJ.mrange {i d T kT vT : Nat} {x : Operand} {o : Option Nat} {owed : List Pd} {f : Nat → M β} (hJ : ∀ b : Nat, OW c owed pend is ((d, .pointer (some (pt b 0))) :: m) h (f b) R) (hc : core c.ops m i = some (some d, .range T x) := by kernel_rfl) (hT : c.P.underlying T = some (.map kT vT) := by kernel_rfl) (hx : evm m x = some (.map o) := by kernel_rfl) (hd : Nat.blt d c.n = true := by kernel_rfl) (hk : kdW c.kd i = true := by kernel_rfl) (ho : owes c.bef i pend = owed := by kernel_rfl) : OJ c pend (i :: is) m h (mrange o >>= f) R := by
  refine OJ.sem (out := fun b => .pointer (some (pt b 0))) hc (fun v w a st r v' e => ?_) hd hk ho hJ
  obtain ⟨w', e1, e2, e3⟩ := range_run (P := c.P) hT st.sub e
  refine ⟨w', fun o' hop => ?_, e2, e3⟩
  rw [exec_of (P := c.P) hop]
  simp only [execOp, st.eval hx, Sem.run_bind, e1, Result.andThen_ok, Sem.run_pure]
theorem OJ.mnext {i d b : Nat} {x : Operand} {owed : List Pd} {f : Bool × List Value → M β} (hJ : ∀ r : Bool × List Value, OW c owed pend is ((d, .tuple ⟨.bool r.1 :: r.2⟩) :: m) h (f r) R) (hc : core c.ops m i = some (some d, .next x false) := by kernel_rfl) (hx : evm m x = some (.pointer (some (pt b 0))) := by kernel_rfl) (hd : Nat.blt d c.n = true := by kernel_rfl) (hk : kdW c.kd i = true := by kernel_rfl) (ho : owes c.bef i pend = owed := by kernel_rfl) : OJ c pend (i :: is) m h (mnext b >>= f) R := by
  refine OJ.sem (out := fun r => .tuple ⟨.bool r.1 :: r.2⟩) hc (fun v w a st r v' e => ?_) hd hk ho hJ
  have e1 := fun ty => next_run (P := c.P) st.sub e ty
  obtain ⟨w', e1, e2, e3⟩ := next_run (P := c.P) st.sub e 0
  refine ⟨w', fun o' hop => ?_, e2, e3⟩
  rw [exec_of (P := c.P) hop]
  have e1' : ∀ ty, (Instr.next (.pointer (some (pt b 0))) false ty).run c.P w = .ok (.tuple ⟨.bool r.1 :: r.2⟩) w' := fun ty => e1
  simp only [execOp, st.eval hx, Sem.run_bind, e1', Result.andThen_ok, Sem.run_pure]
theorem OJ.mentry {i d b : Nat} {x : Operand} {ck : Cod κ} {cv : Cod ν} {owed : List Pd} {f : κ × ν → M β} (hJ : ∀ r : κ × ν, OW c owed pend is ((d, .tuple #[ck.val r.1, cv.val r.2]) :: m) h (f r) R) (hc : core c.ops m i = some (some d, .entry x) := by kernel_rfl) (hx : evm m x = some (.pointer (some (pt b 0))) := by kernel_rfl) (hd : Nat.blt d c.n = true := by kernel_rfl) (hk : kdW c.kd i = true := by kernel_rfl) (ho : owes c.bef i pend = owed := by kernel_rfl) : OJ c pend (i :: is) m h (mentry ck cv b >>= f) R := by
  refine OJ.sem (out := fun r => .tuple #[ck.val r.1, cv.val r.2]) hc (fun v w a st r v' e => ?_) hd hk ho hJ
  obtain ⟨rfl, e1⟩ := entry_run (P := c.P) st.sub e
  refine ⟨w, fun o' hop => ?_, st.sub, fun _ _ => ⟨rfl, rfl⟩⟩
  rw [exec_of (P := c.P) hop]
  simp only [execOp, st.eval hx, Sem.run_bind, e1, Result.andThen_ok, Sem.run_pure]
end
end Go.Proofs.Ytlkhijflgbobjaa.Lx
