/- The machine 'Lx': calls of a method through an interface value. -/
import Derived.Test.YtfnokeoldcfcoaaGreatDoorLxShort
set_option linter.unusedSectionVars false
set_option linter.unusedSimpArgs false
set_option linter.unusedVariables false
namespace Go.Proofs.YtfnokeoldcfcoaaGreatDoor.Lx
open Go
variable [Zd5]
def Cod.un {α : Type} (c : Cod α) (v : Value) : Option α := if c.agg then (match v with
  | .agg cs => c.dec cs.toList
  | _ => none) else c.dec [v]
theorem Cod.un_eq {α : Type} {c : Cod α} {v : Value} {x : α} (h : c.un v = some x) : v = c.val x := by
 unfold Cod.un at h
 unfold Cod.val
 split at h
 ·rename_i ha
  rw [if_pos ha]
  split at h
  ·rw [c.ed _ _ h]
  ·cases h
 ·rename_i ha
  rw [if_neg ha, c.ed _ _ h]
  rfl
theorem Cod.un_val {α : Type} (c : Cod α) (x : α) : c.un (c.val x) = some x := by
 unfold Cod.un Cod.val
 by_cases ha : c.agg = true
 ·rw [if_pos ha, if_pos ha]
  exact c.de x
 ·rw [if_neg ha, if_neg ha]
  have h1 := c.one (by simpa using ha)
  have hl := c.len x
  rw [h1] at hl
  match hm : c.enc x, hl with
  | [y], _ => rw [List.headD_cons, ← hm, c.de]
def ifc : Value → Option (TypeId × Value)
 | .iface t x => some (t, x)
 | _ => none
theorem Zll {v : Value} {t : TypeId} {x : Value} (h : ifc v = some (t, x)) : v = .iface t x := by
 cases v <;> simp [ifc] at h
 obtain ⟨rfl, rfl⟩ := h
 rfl
def Zq1 : List Value → Option (List Addr)
 | [] => some []
 | .pointer (some a) :: l => (Zq1 l).map (a :: ·)
 | _ :: _ => none
theorem ZrU : ∀ {l : List Value} {r : List Addr}, Zq1 l = some r → l = r.map (fun a => Value.pointer (some a))
 | [], r, h => by cases h; rfl
 | x :: l, r, h => by
  unfold Zq1 at h
  split at h
  ·cases h; rename_i h; cases h
  ·rename_i a l' e
   obtain ⟨rfl, rfl⟩ := List.cons.inj e
   obtain ⟨q, h1, rfl⟩ := Option.map_eq_some_iff.1 h
   rw [ZrU h1]
   rfl
  ·cases h
def ZjO : Value → Option (FuncId × List Addr)
 | .func (.func g) f c => if f.size = 0 then (Zq1 c.toList).map fun l => (g, l) else none
 | _ => none
theorem Zof {f : Value} {g : FuncId} {l : List Addr} (h : ZjO f = some (g, l)) : f = .func (.func g) [].toArray (l.map (fun a => Value.pointer (some a))).toArray := by
 unfold ZjO at h
 split at h
 ·rename_i g' f' c'
  split at h
  ·rename_i hs
   obtain ⟨q, h1, h2⟩ := Option.map_eq_some_iff.1 h
   obtain ⟨rfl, rfl⟩ := Prod.mk.inj h2
   have := Array.eq_empty_of_size_eq_zero hs
   subst this
   rw [← ZrU h1]
  ·cases h
 ·cases h
def Zw7 : TypeDesc → Bool
 | .pointer _ => false
 | _ => true
def ZtC (P : Program) (t : TypeId) (name : String) : Option FuncId :=
 match P.info? t, P.underlying t with
 | some inf, some d => if Zw7 d = true then match inf.methods.find? (·.name == name) with
   | some m => if m.path.size = 0 then match m.func with
     | some (f, false) => some f
     | _ => none
    else none
   | none => none
  else none
 | _, _ => none
theorem Zwc {P : Program} {t : TypeId} {name : String} {g : FuncId} (hm : ZtC P t name = some g) (n : Nat) (x : Value) (w : World) : (method (n + 1) t x name).run P w = .ok (g, x) w := by
 unfold ZtC at hm
 split at hm
 ·rename_i inf d hi hd
  split at hm
  ·rename_i hp
   split at hm
   ·rename_i m hf
    split at hm
    ·rename_i hs
     split at hm
     ·rename_i f hfn
      cases hm
      have hpath : m.path = #[] := Array.eq_empty_of_size_eq_zero hs
      unfold method
      simp only [Sem.run_bind, ZdQ hi, Result.andThen_ok, hf, hpath, follow, Sem.run_pure, hfn]
      unfold receiverAt
      simp only [Sem.run_bind, ZaE hd, Result.andThen_ok]
      cases d <;> first
       | (cases hp; done)
       | simp [Place.get]
     ·cases hm
    ·cases hm
   ·cases hm
  ·cases hm
 ·cases hm
def RefN (P : Program) (f : Value) (name : String) {α : Type} (vals : List Value) (y : M α) (out : α → Value) : Prop :=
 ∀ v r v', y v = some (r, v') → ∃ t x g fn, f = .iface t x ∧ ZtC P t name = some g ∧ Fun P g fn ∧ ∀ w, Sub v w → ∃ w', Sub v' w' ∧ (∀ b, Husk v b → w'.heap[b]? = w.heap[b]? ∧ v'.heap[b]? = v.heap[b]?) ∧ Calls P g (x :: vals).toArray w (fun e w2 => e = .returned (out r) ∧ w2 = w')
theorem Zvk {P : Program} {o : Oper} {args : List Operand} {ats : Array TypeId} {ρ : Operand → Value} {vals : List Value} {ro : Operand} {name : String} {t : TypeId} {x : Value} {g : FuncId} {fn : Func} (ho : o.op = .call { callee := .invoke ro name, args := args.toArray, argTypes := ats }) (hr : ρ ro = .iface t x) (hv : args.map ρ = vals) (hm : ZtC P t name = some g) (hf : Fun P g fn) (w : World) :
  (execOp ρ o).run P w = .ok (.enter g (x :: vals).toArray) w := by
 rw [Zef (P := P) ho]
 simp only [execOp, resolve, Sem.run_bind, hr, Sem.run_pure, Result.andThen_ok, invoke]
 have h0 : (#[Value.iface t x] ++ Array.map ρ args.toArray)[0]? = some (.iface t x) := by simp
 have h1 : (#[Value.iface t x] ++ Array.map ρ args.toArray).extract 1 (#[Value.iface t x] ++ Array.map ρ args.toArray).size = vals.toArray := by
  subst hv
  apply Array.ext'
  simp [zC]
 rw [h0]
 simp only [Sem.run_bind, Sem.run_pure, Result.andThen_ok]
 rw [h1]
 unfold callMethod
 simp only [Sem.run_bind, run_program, Result.andThen_ok]
 have hmth : ∀ w', (method (P.types.size + Made.depth) t x name).run P w' = .ok (g, x) w' := by
  intro w'
  have : P.types.size + Made.depth = (P.types.size + Made.depth - 1) + 1 := by
   have : 0 < Made.depth := by decide
   omega
  rw [this]
  exact Zwc hm _ x w'
 rw [hmth]
 simp only [Result.andThen_ok]
 rw [ZiG hf]
 congr 2
 simp
section
variable {β : Type} {c : Cx} {pend : List Pd} {is : List Nat} {m : Env} {h : Loc} {R : List Pd → Env → Loc → M β → Prop}
theorem OJ.inv {α : Type} {i d : Nat} {args : List Operand} {ats : Array TypeId} {ro : Operand} {name : String} {fv : Value} {vals : List Value} {y : M α} {out : α → Value} {owed : List Pd} {f : α → M β} (hc : core c.ops m i = some (some d, .call { callee := .invoke ro name, args := args.toArray, argTypes := ats }))
  (hfo : evm m ro = some fv) (hv : evms m args = some vals) (hy : RefN c.P fv name vals y out) (hd : Nat.blt d c.n = true) (hk : kdW c.kd i = true) (ho : owes c.bef i pend = owed)
  (hJ : ∀ q, OW c owed pend is ((d, out q) :: m) h (f q) R) : OJ c pend (i :: is) m h (y >>= f) R := by
 refine OJ.wr hc hk ho fun v r v' e w a s D hD => ?_
 obtain ⟨q, v1, h1, h2⟩ := bind_some.1 e
 obtain ⟨t, x, g, fn, hfv, hm, hf, hw⟩ := hy v q v1 h1
 obtain ⟨w1, hs1, hkp, hcalls⟩ := hw w s.sub
 refine ⟨out q, w1, v1, f q, (d, out q) :: m, h, fun o hop => .inr (.inr (.inl ⟨g, _, w, Zvk hop ((s.eval hfo).trans hfv) (Zhq s hv) hm hf w, hcalls⟩)), h2, ?_, Kp.of hD hkp, hJ q⟩
 exact ⟨hs1, by simp [Act.put, s.size], s.defers.keep hkp, Zlj (by simpa [Nat.blt_eq] using hd) s.size s.get, Loc.keep s hkp, s.nd⟩
end
theorem RefN.of {P : Program} {g : FuncId} {fn : Func} {t : TypeId} {x : Value} {name : String} {α : Type} {vals : List Value} {y : M α} {out : α → Value} (hm : ZtC P t name = some g) (hf : Fun P g fn) (h : Ref P g (x :: vals) y out) : RefN P (.iface t x) name vals y out :=
 fun v r v' e => ⟨t, x, g, fn, rfl, hm, hf, fun w hw => h v r v' e w hw⟩
end Go.Proofs.YtfnokeoldcfcoaaGreatDoor.Lx
