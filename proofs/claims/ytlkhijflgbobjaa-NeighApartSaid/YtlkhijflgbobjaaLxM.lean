/- The machine 'Lx', part M: elements of texts and of array values; parts of arrays and of texts; bytes compared. -/
import Derived.Test.YtlkhijflgbobjaaLxL
import Derived.Lib.Bytealg
set_option linter.unusedVariables false
set_option linter.unusedSimpArgs false
namespace Go.Proofs.Ytlkhijflgbobjaa.Lx
open Go
theorem bounds_run {P : Program} {b : Bool} {len cap : Nat} {lo hi mx : Option (IntKind × Int)} (hmx : mx.isSome = true → hi.isSome = true)
    (b1 : 0 ≤ (mx.map (·.2)).getD (cap : Int)) (b2 : (mx.map (·.2)).getD (cap : Int) ≤ cap) (b3 : 0 ≤ (hi.map (·.2)).getD (len : Int)) (b4 : (hi.map (·.2)).getD (len : Int) ≤ (mx.map (·.2)).getD (cap : Int)) (b5 : 0 ≤ (lo.map (·.2)).getD (0 : Int)) (b6 : (lo.map (·.2)).getD (0 : Int) ≤ (hi.map (·.2)).getD (len : Int)) (w : World) :
    (Instr.sliceBounds b len cap (lo.map fun p => .int p.1 p.2) (hi.map fun p => .int p.1 p.2) (mx.map fun p => .int p.1 p.2)).run P w = .ok (((lo.map (·.2)).getD (0 : Int)).toNat, ((hi.map (·.2)).getD (len : Int)).toNat, ((mx.map (·.2)).getD (cap : Int)).toNat) w := by
  unfold Instr.sliceBounds
  cases mx with
  | none =>
    cases hi with
    | none =>
      cases lo with
      | none => simp
      | some l =>
        simp only [Option.map_none, Option.map_some, Option.getD_none, Option.getD_some] at b1 b2 b3 b4 b5 b6 ⊢
        simp only [Sem.run_bind, Sem.run_pure, Result.andThen_ok]
        rw [bound_run b5 (by omega)]
        simp
    | some hh =>
      simp only [Option.map_none, Option.map_some, Option.getD_none, Option.getD_some] at b1 b2 b3 b4 b5 b6 ⊢
      simp only [Sem.run_bind, Sem.run_pure, Result.andThen_ok]
      rw [bound_run b3 (by omega)]
      cases lo with
      | none => simp
      | some l =>
        simp only [Option.map_none, Option.map_some, Option.getD_none, Option.getD_some, Result.andThen_ok, Sem.run_bind] at b5 b6 ⊢
        rw [bound_run b5 (by omega)]
        simp
  | some mm =>
    obtain ⟨hh, rfl⟩ := Option.isSome_iff_exists.1 (hmx rfl)
    simp only [Option.map_none, Option.map_some, Option.getD_none, Option.getD_some] at b1 b2 b3 b4 b5 b6 ⊢
    simp only [Sem.run_bind, Sem.run_pure, Result.andThen_ok]
    rw [bound_run b1 (by omega)]
    simp only [Result.andThen_ok, Sem.run_bind]
    rw [bound_run b3 (by omega)]
    cases lo with
    | none => simp
    | some l =>
      simp only [Option.map_none, Option.map_some, Option.getD_none, Option.getD_some, Result.andThen_ok, Sem.run_bind] at b5 b6 ⊢
      rw [bound_run b5 (by omega)]
      simp
theorem cut_some {sz : Nat} {s r : Sl} {lo hi mx : Option Int} {v v' : World} (hq : cut sz s lo hi mx v = some (r, v')) : v' = v ∧ 0 ≤ mx.getD (s.cap : Int) ∧ mx.getD (s.cap : Int) ≤ s.cap ∧ 0 ≤ hi.getD (s.len : Int) ∧ hi.getD (s.len : Int) ≤ mx.getD (s.cap : Int) ∧ 0 ≤ lo.getD 0 ∧ lo.getD 0 ≤ hi.getD (s.len : Int) ∧
    r = ⟨if (mx.getD (s.cap : Int)).toNat = (lo.getD 0).toNat then s.a else s.a.map (·.add ((lo.getD 0).toNat * sz)), (hi.getD (s.len : Int)).toNat - (lo.getD 0).toNat, (mx.getD (s.cap : Int)).toNat - (lo.getD 0).toNat⟩ := by
  unfold cut at hq
  simp only at hq
  split at hq
  · rename_i hb
    simp only [Option.some.injEq, Prod.mk.injEq] at hq
    obtain ⟨rfl, rfl⟩ := hq
    obtain ⟨b1, b2, b3, b4, b5, b6⟩ := hb
    exact ⟨rfl, b1, b2, b3, b4, b5, b6, rfl⟩
  · cases hq
def sb (s : ByteArray) (i : Int) : Int := ((s.data.toList.getD i.toNat 0).toNat : Int)
theorem sb_run {s : ByteArray} {i : Int} (h0 : 0 ≤ i) (h1 : i < s.size) : ∃ b : UInt8, s[i.toNat]? = some b ∧ (b.toNat : Int) = sb s i := by
  have h : i.toNat < s.size := by omega
  refine ⟨s[i.toNat], by rw [getElem?_pos s i.toNat h], ?_⟩
  unfold sb
  have h2 : i.toNat < s.data.toList.length := by simpa using h
  rw [List.getD, List.getElem?_eq_getElem h2]
  rfl
section
variable {β : Type} {c : Cx} {pend : List Pd} {is : List Nat} {m : Env} {h : Loc} {R : List Pd → Env → Loc → M β → Prop}
theorem OJ.cutA {i d t n E sz : Nat} {y : Operand} {lo hi mx : Option Operand} {lo' hi' mx' : Option (IntKind × Int)} {a : Addr} {f : Sl → M β} (hmx : (mx'.isSome = true → hi'.isSome = true)) (hJ : ∀ r : Sl, OJ c pend is ((d, r.v) :: m) h (f r) R)
    (hc : core c.ops m i = some (some d, .slice t y lo hi mx) := by kernel_rfl) (ht : c.P.underlying t = some (.array n E) := by kernel_rfl) (hE : (c.P.info? E).map (·.size) = some sz := by kernel_rfl) (hy : evm m y = some (.pointer (some a)) := by kernel_rfl) (hl : evo m lo = some lo' := by kernel_rfl) (hh : evo m hi = some hi' := by kernel_rfl) (hm : evo m mx = some mx' := by kernel_rfl)
    (hk : kdP c.kd i = true := by kernel_rfl) (hn : noW c.kd [i] pend = true := by kernel_rfl) (hd : Nat.blt d c.n = true := by kernel_rfl) : OJ c pend (i :: is) m h (Lx.cut sz ⟨some a, n, n⟩ (lo'.map (·.2)) (hi'.map (·.2)) (mx'.map (·.2)) >>= f) R := by
  refine OJ.q hc hk hn hd fun v r v' e w ac s => ?_
  obtain ⟨x, v1, h1, h2⟩ := bind_some.1 e
  obtain ⟨rfl, b1, b2, b3, b4, b5, b6, rfl⟩ := cut_some h1
  obtain ⟨inf, hinf, rfl⟩ := Option.map_eq_some_iff.1 hE
  refine ⟨_, _, fun o ho w' => exec_slice ho ?_, h2, hJ _⟩
  rw [evo_spec s hl, evo_spec s hh, evo_spec s hm, s.eval hy]
  unfold Instr.sliceAt
  simp only [Sem.run_bind, run_underlying ht, Result.andThen_ok, Instr.sureAddr, Sem.run_pure]
  rw [bounds_run hmx b1 b2 b3 b4 b5 b6]
  simp only [Result.andThen_ok, Sem.run_bind, sizeOf, run_typeInfo hinf, Sem.run_pure, Sl.v]
  congr 2
  split <;> rfl
theorem OJ.idxT {i d T : Nat} {y j : Operand} {k : IntKind} {s : ByteArray} {ix : Int} {f : Unit → M β} (hJ : 0 ≤ ix → ix < s.size → OJ c pend is ((d, .int .u8 (sb s ix)) :: m) h (f ()) R) (hc : core c.ops m i = some (some d, .index T y j) := by kernel_rfl) (hT : c.P.underlying T = some .string := by kernel_rfl) (hy : evm m y = some (.string s) := by kernel_rfl) (hj : evm m j = some (.int k ix) := by kernel_rfl) (hk : kdP c.kd i = true := by kernel_rfl) (hn : noW c.kd [i] pend = true := by kernel_rfl) (hd : Nat.blt d c.n = true := by kernel_rfl) : OJ c pend (i :: is) m h (chk (0 ≤ ix ∧ ix < (s.size : Int)) >>= f) R := by
  refine OJ.q hc hk hn hd fun v r v' e w a st => ?_
  obtain ⟨ad, v1, h1, h2⟩ := bind_some.1 e
  obtain ⟨hb, rfl⟩ := chk_some h1
  refine ⟨_, _, fun oo ho w' => ?_, h2, hJ hb.1 hb.2⟩
  obtain ⟨b, hb1, hb2⟩ := sb_run hb.1 hb.2
  rw [exec_of (P := c.P) ho]
  simp only [execOp, Instr.index, st.eval hy, st.eval hj, asIntOf, Sem.run_bind, Sem.run_pure, Result.andThen_ok, run_underlying hT, if_pos hb.1, hb1, hb2]
theorem OJ.shl {i d : Nat} {T yT : TypeId} {y z : Operand} {k yk : IntKind} {p q : Int} {f : Unit → M β} (hJ : 0 ≤ q → OJ c pend is ((d, .int k (k.wrap (p * 2 ^ (Min.min q.toNat k.bits)))) :: m) h (f ()) R) (hc : core c.ops m i = some (some d, .binOp .shl T y z yT) := by kernel_rfl) (hy : evm m y = some (.int k p) := by kernel_rfl) (hz : evm m z = some (.int yk q) := by kernel_rfl) (hk : kdP c.kd i = true := by kernel_rfl) (hn : noW c.kd [i] pend = true := by kernel_rfl) (hd : Nat.blt d c.n = true := by kernel_rfl) : OJ c pend (i :: is) m h (chk (0 ≤ q) >>= f) R := by
  refine OJ.q hc hk hn hd fun v r v' e w a s => ?_
  obtain ⟨ad, v1, h1, h2⟩ := bind_some.1 e
  obtain ⟨hq, rfl⟩ := chk_some h1
  refine ⟨_, _, fun o ho w' => ?_, h2, hJ hq⟩
  obtain ⟨dst, op, type, pos, after, guard⟩ := o
  simp only at ho
  subst ho
  refine exec_bin (s.eval hy) (s.eval hz) (eqGuard_run (by rintro _ _ ⟨h, _⟩; cases h) (by rintro ⟨h, _⟩; cases h) _) ?_
  show (Op.shift .shl k p yk q).run c.P w' = _
  unfold Op.shift
  rw [if_neg (by omega)]
  rfl
theorem OJ.shr {i d : Nat} {T yT : TypeId} {y z : Operand} {k yk : IntKind} {p q : Int} {f : Unit → M β} (hJ : 0 ≤ q → OJ c pend is ((d, .int k (p.fdiv (2 ^ (Min.min q.toNat k.bits)))) :: m) h (f ()) R) (hc : core c.ops m i = some (some d, .binOp .shr T y z yT) := by kernel_rfl) (hy : evm m y = some (.int k p) := by kernel_rfl) (hz : evm m z = some (.int yk q) := by kernel_rfl) (hk : kdP c.kd i = true := by kernel_rfl) (hn : noW c.kd [i] pend = true := by kernel_rfl) (hd : Nat.blt d c.n = true := by kernel_rfl) : OJ c pend (i :: is) m h (chk (0 ≤ q) >>= f) R := by
  refine OJ.q hc hk hn hd fun v r v' e w a s => ?_
  obtain ⟨ad, v1, h1, h2⟩ := bind_some.1 e
  obtain ⟨hq, rfl⟩ := chk_some h1
  refine ⟨_, _, fun o ho w' => ?_, h2, hJ hq⟩
  obtain ⟨dst, op, type, pos, after, guard⟩ := o
  simp only at ho
  subst ho
  refine exec_bin (s.eval hy) (s.eval hz) (eqGuard_run (by rintro _ _ ⟨h, _⟩; cases h) (by rintro ⟨h, _⟩; cases h) _) ?_
  show (Op.shift .shr k p yk q).run c.P w' = _
  unfold Op.shift
  rw [if_neg (by omega)]
  rfl
theorem OJ.ext {α : Type} {i d g : Nat} {fn : Func} {args : List Operand} {ats : Array TypeId} {vals : List Value} {q : M α} {out : α → Value} {owed : List Pd} {f : α → M β} {e : Array Value → Sem Value}
    (hf : c.P.funcs[g]? = some fn) (hrun : ∀ v w, Sub v w → ∀ r v', q v = some (r, v') → ∃ w', (e vals.toArray).run c.P w = .ok (out r) w' ∧ Sub v' w' ∧ ∀ b, Husk v b → w'.heap[b]? = w.heap[b]? ∧ v'.heap[b]? = v.heap[b]?)
    (hJ : ∀ r, OW c owed pend is ((d, out r) :: m) h (f r) R) (hc : core c.ops m i = some (some d, .call { callee := .value (.func g), args := args.toArray, argTypes := ats }) := by kernel_rfl) (hv : evms m args = some vals := by kernel_rfl)
    (h1 : (fn.name == "runtime.NumGoroutine") = false := by kernel_rfl) (h2 : fn.body.isNone = true := by kernel_rfl) (h3 : Extern.findNext fn = none := by kernel_rfl) (h4 : Extern.find fn = some e := by kernel_rfl) (hd : Nat.blt d c.n = true := by kernel_rfl) (hk : kdW c.kd i = true := by kernel_rfl) (ho : owes c.bef i pend = owed := by kernel_rfl) : OJ c pend (i :: is) m h (q >>= f) R := by
  refine OJ.sem hc (fun v w a st r v' e' => ?_) hd hk ho hJ
  obtain ⟨w', e1, e2, e3⟩ := hrun v w st.sub r v' e'
  refine ⟨w', fun o hop => ?_, e2, e3⟩
  have hva := evms_spec st hv
  rw [exec_of (P := c.P) hop]
  have hfo : a.eval (.func g) = .func (.func g) #[] #[] := rfl
  simp only [execOp, resolve, Sem.run_bind, hfo, Deferred.ofValue, Sem.run_pure, Result.andThen_ok, invoke]
  have : (#[] ++ args.toArray.map a.eval ++ #[] : Array Value) = vals.toArray := by simp [hva]
  rw [run_callFunc_extern hf h1 h2 h3 h4, this, e1]
  rfl
theorem loadBytes_run {P : Program} {w : World} : ∀ (n : Nat) (a : Addr) (i : Nat) (l : List Value) (acc b : ByteArray), rdF w a i n = some l → bytesOf l acc = some b → (∀ j, (a.add i).add j = a.add (i + j)) → (Extern.Bytes.loadBytes (a.add i) n acc).run P w = .ok b w
  | 0, a, i, l, acc, b, hl, hb, _ => by
    simp only [rdF, Option.some.injEq] at hl
    subst hl
    simp only [bytesOf, Option.some.injEq] at hb
    subst hb
    simp [Extern.Bytes.loadBytes]
  | n + 1, a, i, l, acc, b, hl, hb, hA => by
    obtain ⟨x, hx, h2⟩ := Option.bind_eq_some_iff.1 hl
    obtain ⟨l', hl', rfl⟩ := Option.map_eq_some_iff.1 h2
    cases x <;> try (cases hb; done)
    rename_i k q
    cases k <;> try (cases hb; done)
    simp only [bytesOf] at hb
    have hA2 : ∀ j, (a.add (i + 1)).add j = a.add (i + 1 + j) := fun j => by
      rw [← hA 1]
      have := hA (1 + j)
      rw [show i + 1 + j = i + (1 + j) by omega, ← this]
      simp only [Addr.add]
      cases a.spot <;> simp [Nat.add_assoc]
    have ih := loadBytes_run (P := P) n a (i + 1) l' _ b hl' hb hA2
    have h1 : (load (a.add i)).run P w = .ok (.int .u8 q) w := by simp [load, Sem.run, hx]
    unfold Extern.Bytes.loadBytes
    simp only [Sem.run_bind, h1, Result.andThen_ok]
    rw [hA 1]
    exact ih
theorem bytesOf_run {P : Program} {s : Sl} {v w v' : World} {b : ByteArray} (hs : Sub v w) (hq : toStr s v = some (b, v')) : v' = v ∧ (Extern.Bytes.bytesOf s.v).run P w = .ok b w := by
  unfold toStr at hq
  cases ha : s.a with
  | none =>
    rw [ha] at hq
    simp only [Option.some.injEq, Prod.mk.injEq] at hq
    obtain ⟨rfl, rfl⟩ := hq
    refine ⟨rfl, ?_⟩
    unfold Extern.Bytes.bytesOf Sl.v
    rw [ha]
    simp
  | some a =>
    rw [ha] at hq
    obtain ⟨l, hl, h2⟩ := Option.bind_eq_some_iff.1 hq
    obtain ⟨b', hb, h3⟩ := Option.map_eq_some_iff.1 h2
    simp only [Prod.mk.injEq] at h3
    obtain ⟨rfl, rfl⟩ := h3
    refine ⟨rfl, ?_⟩
    have key : ∀ (n i : Nat) (l : List Value), rdF v a i n = some l → rdF w a i n = some l := by
      intro n
      induction n with
      | zero => intro i l h; exact h
      | succ n ih =>
        intro i l h
        obtain ⟨x, hx, h2⟩ := Option.bind_eq_some_iff.1 h
        obtain ⟨l', hl', rfl⟩ := Option.map_eq_some_iff.1 h2
        show (w.cell? (a.add i)).bind _ = _
        rw [hs.cell hx]
        simp only [Option.bind_some]
        rw [ih _ _ hl']
        rfl
    have a0 : a.add 0 = a := by simp [Addr.add]
    have := loadBytes_run (P := P) s.len a 0 l .empty b' (key _ _ _ hl) hb (fun j => by rw [a0, Nat.zero_add])
    unfold Extern.Bytes.bytesOf Sl.v
    rw [ha]
    rw [a0] at this
    exact this
def bcmp (s t : Sl) : M Int := toStr s >>= fun a => toStr t >>= fun b => pure (Extern.BytealgCompare.cmp a b)
theorem bcmp_run {P : Program} {s t : Sl} : ∀ v w, Sub v w → ∀ r v', bcmp s t v = some (r, v') → ∃ w', (Extern.BytealgCompare.compare [s.v, t.v].toArray).run P w = .ok (.int .i64 r) w' ∧ Sub v' w' ∧ ∀ b, Husk v b → w'.heap[b]? = w.heap[b]? ∧ v'.heap[b]? = v.heap[b]? := by
  intro v w hs r v' hq
  obtain ⟨a, v1, h1, h2⟩ := bind_some.1 hq
  obtain ⟨b, v2, h3, h4⟩ := bind_some.1 h2
  obtain ⟨rfl, e1⟩ := bytesOf_run (P := P) hs h1
  obtain ⟨rfl, e2⟩ := bytesOf_run (P := P) hs h3
  cases h4
  refine ⟨w, ?_, hs, fun _ _ => ⟨rfl, rfl⟩⟩
  show (do pure (goInt (Extern.BytealgCompare.cmp (← Extern.Bytes.bytesOf s.v) (← Extern.Bytes.bytesOf t.v))) : Sem Value).run P w = _
  simp only [Sem.run_bind, e1, e2, Result.andThen_ok, Sem.run_pure]
  rfl
end
end Go.Proofs.Ytlkhijflgbobjaa.Lx
