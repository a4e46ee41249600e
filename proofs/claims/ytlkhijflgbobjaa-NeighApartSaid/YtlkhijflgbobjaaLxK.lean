/- The machine 'Lx': bytes as a text, a text's bytes, clear. -/
import Derived.Test.YtlkhijflgbobjaaLxJ
set_option linter.unusedVariables false
set_option linter.unusedSimpArgs false
namespace Go.Proofs.Ytlkhijflgbobjaa.Lx
open Go
def bytesOf : List Value → ByteArray → Option ByteArray
  | [], b => some b
  | .int .u8 n :: l, b => bytesOf l (b.push (UInt8.ofNat n.toNat))
  | _, _ => none
def toStr (s : Sl) : M ByteArray := fun v => match s.a with
  | none => some (.empty, v)
  | some a => (rdF v a 0 s.len).bind fun l => (bytesOf l .empty).map fun b => (b, v)
theorem forIn_bytes (P : Program) (w : World) (f : Value → ByteArray → Sem (ForInStep ByteArray)) (hf : ∀ n b, f (.int .u8 n) b = pure (.yield (b.push (UInt8.ofNat n.toNat)))) : ∀ (l : List Value) (acc b : ByteArray), bytesOf l acc = some b → (forIn l acc f).run P w = .ok b w
  | [], acc, b, h => by
    simp only [bytesOf, Option.some.injEq] at h
    subst h
    simp
  | y :: l, acc, b, h => by
    have ih := forIn_bytes P w f hf l
    cases y <;> try (cases h; done)
    rename_i k n
    cases k <;> try (cases h; done)
    simp only [bytesOf] at h
    rw [List.forIn_cons, hf]
    simp only [pure_bind]
    exact ih _ b h
theorem toStr_run {P : Program} {s : Sl} {v w v' : World} {b : ByteArray} (hs : Sub v w) (hq : toStr s v = some (b, v')) : v' = v ∧ (Conv.bytesToString s.v).run P w = .ok (.string b) w := by
  unfold toStr at hq
  cases ha : s.a with
  | none =>
    rw [ha] at hq
    simp only [Option.some.injEq, Prod.mk.injEq] at hq
    obtain ⟨rfl, rfl⟩ := hq
    refine ⟨rfl, ?_⟩
    unfold Conv.bytesToString Sl.v
    rw [ha]
    simp
  | some a =>
    rw [ha] at hq
    obtain ⟨l, hl, h2⟩ := Option.bind_eq_some_iff.1 hq
    obtain ⟨b', hb, h3⟩ := Option.map_eq_some_iff.1 h2
    simp only [Prod.mk.injEq] at h3
    obtain ⟨rfl, rfl⟩ := h3
    refine ⟨rfl, ?_⟩
    have h0 := firstCells_run (P := P) (k := s.len) (cap := s.cap) (size := 1) (n := s.len) (p := some a) hs (by rw [Nat.mul_one]; exact hl)
    have h1 : (loadCells a s.len).run P w = .ok l.toArray w := by
      have := loadCells_run P w a s.len 0 #[] l (by
        have key : ∀ (n i : Nat) (l : List Value), rdF v a i n = some l → rdF w a i n = some l := by
          intro n
          induction n with
          | zero => intro i l h; exact h
          | succ n ih =>
            intro i l h
            obtain ⟨x, hx, h2⟩ := Option.bind_eq_some_iff.1 h
            obtain ⟨l', hl', rfl⟩ := Option.map_eq_some_iff.1 h2
            show (w.cell? (a.add i)).bind _ = _
            rw [hs.cell hx]
            simp only [Option.bind_some]
            rw [ih _ _ hl']
            rfl
        exact key _ _ _ hl)
      simpa [loadCells] using this
    unfold Conv.bytesToString Sl.v
    rw [ha]
    simp only [Sem.run_bind, h1, Result.andThen_ok]
    rw [List.forIn_toArray]
    rw [forIn_bytes P w _ (fun n b => rfl) l _ _ hb]
    rfl
theorem exec_convert {P : Program} {o : Oper} {t u : TypeId} {x : Operand} {ρ : Operand → Value} {a y : Value} {w w' : World} (ho : o.op = .convert t u x) (ha : ρ x = a) (hr : (convert t u a).run P w = .ok y w') : (execOp ρ o).run P w = .ok (.value y) w' := by
  obtain ⟨dst, op, type, pos, after, guard⟩ := o
  simp only at ho
  subst ho
  subst ha
  simp [execOp, hr]
theorem freeze_heap (w : World) (a : Addr) (b : Nat) : (w.freeze a 1).heap[b]? = if a.block = b then (w.heap[b]?).map (fun | .cells c e (lo, hi) => .cells c e (if (lo == hi) = true then (a.off, a.off + 1) else (min lo a.off, max hi (a.off + 1))) | o => o) else w.heap[b]? := by
  unfold World.freeze
  rw [if_neg (by decide)]
  simp only [Array.getElem?_modify]
  split <;> rfl
theorem freeze_size (w : World) (a : Addr) : (w.freeze a 1).heap.size = w.heap.size := by
  unfold World.freeze
  rw [if_neg (by decide)]
  simp
theorem freeze_rest (w : World) (a : Addr) : (w.freeze a 1).os = w.os ∧ (w.freeze a 1).tape = w.tape ∧ (w.freeze a 1).drawn = w.drawn ∧ (w.freeze a 1).output = w.output := by
  unfold World.freeze
  rw [if_neg (by decide)]
  exact ⟨rfl, rfl, rfl, rfl⟩
theorem Sub.freeze {v w : World} (h : Sub v w) (a : Addr) (hb : ¬ Husk v a.block) : Sub (v.freeze a 1) (w.freeze a 1) := by
  obtain ⟨v1, v2, v3, v4⟩ := freeze_rest v a
  obtain ⟨w1, w2, w3, w4⟩ := freeze_rest w a
  refine ⟨by rw [w1, v1]; exact h.os, by rw [w2, v2]; exact h.tape, by rw [w3, v3]; exact h.drawn, by rw [w4, v4]; exact h.output, by rw [freeze_size, freeze_size]; exact h.size, fun b => ?_⟩
  rw [freeze_heap, freeze_heap]
  by_cases e : a.block = b
  · subst e
    simp only [if_true, h.block hb]
    exact .inl trivial
  · simp only [if_neg e]
    exact h.at_ b
section
variable {β : Type} {c : Cx} {pend : List Pd} {is : List Nat} {m : Env} {h : Loc} {R : List Pd → Env → Loc → M β → Prop}
theorem OJ.toStr {i d t u E : Nat} {x : Operand} {s : Sl} {owed : List Pd} {f : ByteArray → M β} (hJ : ∀ r : ByteArray, OW c owed pend is ((d, .string r) :: m) h (f r) R) (hc : core c.ops m i = some (some d, .convert t u x) := by kernel_rfl) (ht : c.P.underlying t = some (.slice E) := by kernel_rfl) (hE : c.P.underlying E = some (.int .u8) := by kernel_rfl) (hu : c.P.underlying u = some .string := by kernel_rfl) (hx : evm m x = some s.v := by kernel_rfl) (hd : Nat.blt d c.n = true := by kernel_rfl) (hk : kdW c.kd i = true := by kernel_rfl) (ho : owes c.bef i pend = owed := by kernel_rfl) : OJ c pend (i :: is) m h (Lx.toStr s >>= f) R := by
  refine OJ.sem (out := fun b => .string b) hc (fun v w a st r v' e => ?_) hd hk ho hJ
  obtain ⟨rfl, hrun⟩ := toStr_run (P := c.P) st.sub e
  refine ⟨w, fun o hop => exec_convert hop (st.eval hx) ?_, st.sub, fun _ _ => ⟨rfl, rfl⟩⟩
  unfold convert Sl.v
  simp only [Sem.run_bind, run_underlying ht, run_underlying hu, Result.andThen_ok, run_underlying hE]
  exact hrun
end
end Go.Proofs.Ytlkhijflgbobjaa.Lx
