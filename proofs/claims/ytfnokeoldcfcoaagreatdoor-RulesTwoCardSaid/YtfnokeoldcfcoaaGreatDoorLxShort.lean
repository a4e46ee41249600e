/- The machine 'Lx': the rules of a text's proof with what they name computed from the text: a printed proof then tells the rules alone. -/
import Derived.Test.YtfnokeoldcfcoaaGreatDoorLxRf
set_option linter.unusedSectionVars false
set_option linter.unusedSimpArgs false
set_option linter.unusedVariables false
namespace Go.Proofs.YtfnokeoldcfcoaaGreatDoor.Lx
section
open Go
def jdO : Option (Option Nat × Op) → Nat
 | some (some d, _) => d
 | _ => 0
def jxO : Option (Option Nat × Op) → Op
 | some (_, o) => o
 | _ => .move (.tmp 0)
def jdst : Option (Option Nat × Op) → Bool
 | some (some _, _) => true
 | _ => false
def jskp : Option (Option Nat × Op) → Bool
 | some (none, _) => true
 | _ => false
theorem Zua {q : Option (Option Nat × Op)} (h : jdst q = true) : q = some (some (jdO q), jxO q) := by
 rcases q with _ | ⟨_ | d, op⟩ <;> first | rfl | cases h
theorem Zw1 {q : Option (Option Nat × Op)} (h : jskp q = true) : q = some (none, jxO q) := by
 rcases q with _ | ⟨_ | d, op⟩ <;> first | rfl | cases h
def jfO : Op → Nat
 | .nilCheck _ => 1
 | .load .. => 2
 | .store .. => 3
 | .indexAddr .. => 4
 | .index .. => 5
 | .alloc _ => 6
 | .box .. => 7
 | .build .. => 8
 | .buildSlice .. => 9
 | .call { callee := .value _, .. } => 10
 | .call { callee := .builtin .append, .. } => 11
 | .binOp .add .. => 12
 | .slice .. => 13
 | _ => 0
def jtO : Op → Nat
 | .load T _ | .store T _ _ | .indexAddr T _ _ | .index T _ _ | .alloc T | .box T _ | .build T _ | .buildSlice T _ _ | .binOp _ T _ _ _ | .slice T _ _ _ _ => T
 | _ => 0
def jaO : Op → Operand
 | .nilCheck y | .load _ y | .store _ y _ | .indexAddr _ y _ | .index _ y _ | .box _ y | .binOp _ _ y _ _ | .slice _ y _ _ _ => y
 | .call { callee := .value f, .. } => f
 | .call { callee := .builtin .append, args, .. } => args.getD 0 (.tmp 0)
 | _ => .tmp 0
def jbO : Op → Operand
 | .store _ _ z | .indexAddr _ _ z | .index _ _ z | .binOp _ _ _ z _ => z
 | .call { callee := .builtin .append, args, .. } => args.getD 1 (.tmp 0)
 | _ => .tmp 0
def jgO : Op → List Operand
 | .call { args, .. } => args.toList
 | _ => []
def jhO : Op → Array TypeId
 | .call { argTypes, .. } => argTypes
 | _ => #[]
def jpO : Op → List (Nat × Operand)
 | .build _ p | .buildSlice _ _ p => p.toList
 | _ => []
def jnO : Op → Nat
 | .buildSlice _ n _ => n
 | _ => 0
def juO : Op → TypeId
 | .binOp _ _ _ _ u => u
 | _ => 0
def jlO : Op → Option Operand
 | .slice _ _ l _ _ => l
 | _ => none
def jhiO : Op → Option Operand
 | .slice _ _ _ l _ => l
 | _ => none
def jmO : Op → Option Operand
 | .slice _ _ _ _ l => l
 | _ => none
def jap : Op → Option (Operand × Operand × Nat × Nat)
 | .call { callee := .builtin .append, args, argTypes } => match args.toList, argTypes.toList with
  | [a, b], [t, u] => some (a, b, t, u)
  | _, _ => none
 | _ => none
theorem Zxh {o : Op} {q : Operand × Operand × Nat × Nat} (h : jap o = some q) : o = .call { callee := .builtin .append, args := #[q.1, q.2.1], argTypes := #[q.2.2.1, q.2.2.2] } := by
 unfold jap at h
 split at h
 ·rename_i args ats
  split at h
  ·rename_i a b t u ha hb
   cases h
   have e1 : args = #[a, b] := by rw [← Array.toArray_toList (xs := args), ha]
   have e2 : ats = #[t, u] := by rw [← Array.toArray_toList (xs := ats), hb]
   rw [e1, e2]
  ·cases h
 ·cases h
theorem jf1 {o : Op} (h : jfO o = 1) : o = .nilCheck (jaO o) := by unfold jfO at h; split at h <;> first | rfl | cases h
theorem jf2 {o : Op} (h : jfO o = 2) : o = .load (jtO o) (jaO o) := by unfold jfO at h; split at h <;> first | rfl | cases h
theorem jf3 {o : Op} (h : jfO o = 3) : o = .store (jtO o) (jaO o) (jbO o) := by unfold jfO at h; split at h <;> first | rfl | cases h
theorem jf4 {o : Op} (h : jfO o = 4) : o = .indexAddr (jtO o) (jaO o) (jbO o) := by unfold jfO at h; split at h <;> first | rfl | cases h
theorem jf5 {o : Op} (h : jfO o = 5) : o = .index (jtO o) (jaO o) (jbO o) := by unfold jfO at h; split at h <;> first | rfl | cases h
theorem jf6 {o : Op} (h : jfO o = 6) : o = .alloc (jtO o) := by unfold jfO at h; split at h <;> first | rfl | cases h
theorem jf7 {o : Op} (h : jfO o = 7) : o = .box (jtO o) (jaO o) := by unfold jfO at h; split at h <;> first | rfl | cases h
theorem jf8 {o : Op} (h : jfO o = 8) : o = .build (jtO o) (jpO o).toArray := by unfold jfO at h; split at h <;> first | rfl | cases h
theorem jf9 {o : Op} (h : jfO o = 9) : o = .buildSlice (jtO o) (jnO o) (jpO o).toArray := by unfold jfO at h; split at h <;> first | rfl | cases h
theorem jf12 {o : Op} (h : jfO o = 12) : o = .binOp .add (jtO o) (jaO o) (jbO o) (juO o) := by unfold jfO at h; split at h <;> first | rfl | cases h
theorem jf13 {o : Op} (h : jfO o = 13) : o = .slice (jtO o) (jaO o) (jlO o) (jhiO o) (jmO o) := by unfold jfO at h; split at h <;> first | rfl | cases h
theorem jf10 {o : Op} (h : jfO o = 10) : o = .call { callee := .value (jaO o), args := (jgO o).toArray, argTypes := jhO o } := by unfold jfO at h; split at h <;> first | rfl | cases h
section
variable [Zd5] {α β : Type} {c : Cx} {pend : List Pd} {is : List Nat} {m : Env} {h : Loc} {x : M β} {R : List Pd → Env → Loc → M β → Prop}
def gE (c : Cx) (is : List Nat) (m : Env) (n : Nat) : Env := (runP c.P c.ops c.kd c.n (is.take n) m).getD []
def gC (c : Cx) (is : List Nat) (m : Env) (n : Nat) : Option (Option Nat × Op) := core c.ops (gE c is m n) (is.getD n 0)
def gX (c : Cx) (is : List Nat) (m : Env) (n : Nat) : Op := jxO (gC c is m n)
def gD (c : Cx) (is : List Nat) (m : Env) (n : Nat) : Nat := jdO (gC c is m n)
def gA (c : Cx) (is : List Nat) (m : Env) (n : Nat) : Option Value := evm (gE c is m n) (jaO (gX c is m n))
def gB (c : Cx) (is : List Nat) (m : Env) (n : Nat) : Option Value := evm (gE c is m n) (jbO (gX c is m n))
def gOk (c : Cx) (is : List Nat) (m : Env) (n : Nat) : Bool := (runP c.P c.ops c.kd c.n (is.take n) m).isSome && Nat.blt n is.length
def gQ (c : Cx) (pend : List Pd) (is : List Nat) (m : Env) (n k : Nat) : Bool := gOk c is m n && (jdst (gC c is m n) && (Nat.beq (jfO (gX c is m n)) k && (kdP c.kd (is.getD n 0) && (noW c.kd [is.getD n 0] pend && Nat.blt (gD c is m n) c.n))))
def gL (c : Cx) (pend : List Pd) (is : List Nat) (m : Env) (n k : Nat) : Bool := gOk c is m n && (jdst (gC c is m n) && (Nat.beq (jfO (gX c is m n)) k && ((kdL c.kd (is.getD n 0) || (kdW c.kd (is.getD n 0) && pend.isEmpty)) && Nat.blt (gD c is m n) c.n)))
def gW (c : Cx) (pend : List Pd) (is : List Nat) (m : Env) (n k : Nat) : Bool := gOk c is m n && (jdst (gC c is m n) && (Nat.beq (jfO (gX c is m n)) k && (kdW c.kd (is.getD n 0) && ((owes c.bef (is.getD n 0) pend).isEmpty && Nat.blt (gD c is m n) c.n))))
def gS (c : Cx) (pend : List Pd) (is : List Nat) (m : Env) (n k : Nat) : Bool := gOk c is m n && (jskp (gC c is m n) && (Nat.beq (jfO (gX c is m n)) k && (kdW c.kd (is.getD n 0) && (owes c.bef (is.getD n 0) pend).isEmpty)))
theorem J.g (n : Nat) (hJ : OJ c pend (is.drop n) (gE c is m n) h x R) (hm : (runP c.P c.ops c.kd c.n (is.take n) m).isSome = true := by kernel_rfl) : OJ c pend is m h x R := by
 obtain ⟨m2, hm2⟩ := Option.isSome_iff_exists.1 hm
 have he : gE c is m n = m2 := by unfold gE; rw [hm2]; rfl
 rw [he] at hJ
 intro v r v' e w a s D hD
 obtain ⟨a1, h1, h2⟩ := ZjB (c := c) (h := h) (pend := pend) (is.take n) hm2 s
 obtain ⟨p1, m3, h3, x3, v3, w3, a3, q1, q2, q3, q4, q5⟩ := hJ v r v' e w a1 h2 D hD
 have h4 := RS.append _ _ _ _ h1 q3
 rw [List.take_append_drop] at h4
 exact ⟨p1, m3, h3, x3, v3, w3, a3, q1, q2, h4, q4, q5⟩
theorem J.op (n : Nat) (hg : gOk c is m n = true) (hJ : OJ c pend (is.getD n 0 :: is.drop (n + 1)) (gE c is m n) h x R) : OJ c pend is m h x R := by
 obtain ⟨h1, h2⟩ := Bool.and_eq_true_iff.1 hg
 have hlt : n < is.length := by simpa [Nat.blt_eq] using h2
 refine J.g n ?_ h1
 rw [zQ hlt]
 rw [List.getD_eq_getElem?_getD, za hlt] at hJ
 exact hJ
theorem J.z (n : Nat) (hR : R pend (gE c is m n) h x) (hm : ((runP c.P c.ops c.kd c.n (is.take n) m).isSome, is.drop n) = (true, []) := by kernel_rfl) : OJ c pend is m h x R := by
 obtain ⟨h1, h2⟩ := Prod.mk.inj hm
 refine J.g n ?_ h1
 rw [h2]
 exact OJ.nil hR
theorem ZhN {n k : Nat} (hg : gQ c pend is m n k = true) : gOk c is m n = true ∧ core c.ops (gE c is m n) (is.getD n 0) = some (some (gD c is m n), gX c is m n) ∧ jfO (gX c is m n) = k ∧ kdP c.kd (is.getD n 0) = true ∧ noW c.kd [is.getD n 0] pend = true ∧ Nat.blt (gD c is m n) c.n = true := by
 unfold gQ at hg
 simp only [Bool.and_eq_true] at hg
 exact ⟨hg.1, Zua hg.2.1, Nat.eq_of_beq_eq_true hg.2.2.1, hg.2.2.2⟩
theorem ZtZ {n k : Nat} (hg : gL c pend is m n k = true) : gOk c is m n = true ∧ core c.ops (gE c is m n) (is.getD n 0) = some (some (gD c is m n), gX c is m n) ∧ jfO (gX c is m n) = k ∧ (kdL c.kd (is.getD n 0) || (kdW c.kd (is.getD n 0) && pend.isEmpty)) = true ∧ Nat.blt (gD c is m n) c.n = true := by
 unfold gL at hg
 simp only [Bool.and_eq_true] at hg
 exact ⟨hg.1, Zua hg.2.1, Nat.eq_of_beq_eq_true hg.2.2.1, hg.2.2.2⟩
theorem ZhM {n k : Nat} (hg : gW c pend is m n k = true) : gOk c is m n = true ∧ core c.ops (gE c is m n) (is.getD n 0) = some (some (gD c is m n), gX c is m n) ∧ jfO (gX c is m n) = k ∧ kdW c.kd (is.getD n 0) = true ∧ owes c.bef (is.getD n 0) pend = [] ∧ Nat.blt (gD c is m n) c.n = true := by
 unfold gW at hg
 simp only [Bool.and_eq_true, List.isEmpty_iff] at hg
 exact ⟨hg.1, Zua hg.2.1, Nat.eq_of_beq_eq_true hg.2.2.1, hg.2.2.2⟩
theorem ZqT {n k : Nat} (hg : gS c pend is m n k = true) : gOk c is m n = true ∧ core c.ops (gE c is m n) (is.getD n 0) = some (none, gX c is m n) ∧ jfO (gX c is m n) = k ∧ kdW c.kd (is.getD n 0) = true ∧ owes c.bef (is.getD n 0) pend = [] := by
 unfold gS at hg
 simp only [Bool.and_eq_true, List.isEmpty_iff] at hg
 exact ⟨hg.1, Zw1 hg.2.1, Nat.eq_of_beq_eq_true hg.2.2.1, hg.2.2.2⟩
theorem J.n (n : Nat) {p : Option Addr} {f : Addr → M β} (hJ : ∀ ad, OJ c pend (is.drop (n + 1)) ((gD c is m n, .pointer (some ad)) :: gE c is m n) h (f ad) R) (hk : (gQ c pend is m n 1, gA c is m n) = (true, some (.pointer p)) := by kernel_rfl) : OJ c pend is m h (nilck p >>= f) R := by
 obtain ⟨h1, h2⟩ := Prod.mk.inj hk
 obtain ⟨g0, g1, g2, g3, g4, g5⟩ := ZhN h1
 exact J.op n g0 (OJ.nilck hJ (jf1 g2 ▸ g1) h2 g3 g4 g5)
theorem J.l (n : Nat) {T : TypeId} {cd : Cod α} {z0 : α} {ad : Addr} {f : α → M β} (ty : Ty c.P T cd z0) (hJ : ∀ q, OJ c (Zsj c.kd (is.getD n 0) T ad (cd.val q) ++ pend) (is.drop (n + 1)) ((gD c is m n, cd.val q) :: gE c is m n) h (f q) R) (hk : (gL c pend is m n 2, jtO (gX c is m n), gA c is m n) = (true, T, some (.pointer (some ad))) := by kernel_rfl) : OJ c pend is m h (ld cd ad >>= f) R := by
 obtain ⟨h1, h2⟩ := Prod.mk.inj hk
 obtain ⟨h2, h3⟩ := Prod.mk.inj h2
 obtain ⟨g0, g1, g2, g3, g4⟩ := ZtZ h1
 subst h2
 exact J.op n g0 (OJ.ld ty (fun _ => rfl) hJ (jf2 g2 ▸ g1) h3 g4 g3)
theorem J.k (n j : Nat) {b o : Nat} {T : TypeId} {cd : Cod α} {z0 q : α} {l : List Value} (hj : h[j]? = some (b, l)) (ty : Ty c.P T cd z0) (ha : At l o (cd.enc q)) (hJ : OJ c (Zsj c.kd (is.getD n 0) T (pt b o) (cd.val q) ++ pend) (is.drop (n + 1)) ((gD c is m n, cd.val q) :: gE c is m n) h x R) (hk : (gL c pend is m n 2, jtO (gX c is m n), gA c is m n) = (true, T, some (.pointer (some (pt b o)))) := by kernel_rfl) : OJ c pend is m h x R := by
 obtain ⟨h1, h2⟩ := Prod.mk.inj hk
 obtain ⟨h2, h3⟩ := Prod.mk.inj h2
 obtain ⟨g0, g1, g2, g3, g4⟩ := ZtZ h1
 subst h2
 exact J.op n g0 (OJ.kld q ty hj ha rfl hJ (jf2 g2 ▸ g1) h3 g4 g3)
theorem J.w (n : Nat) {T : TypeId} {cd : Cod α} {z0 u : α} {ad : Addr} {f : Unit → M β} (ty : Ty c.P T cd z0) (hJ : OJ c pend (is.drop (n + 1)) (gE c is m n) h (f ()) R) (hk : (gS c pend is m n 3, jtO (gX c is m n), gA c is m n, gB c is m n) = (true, T, some (.pointer (some ad)), some (cd.val u)) := by kernel_rfl) : OJ c pend is m h (st cd ad u >>= f) R := by
 obtain ⟨h1, h2⟩ := Prod.mk.inj hk
 obtain ⟨h2, h3⟩ := Prod.mk.inj h2
 obtain ⟨h3, h4⟩ := Prod.mk.inj h3
 obtain ⟨g0, g1, g2, g3, g4⟩ := ZqT h1
 subst h2
 exact J.op n g0 (OJ.st ty (OW.nil hJ) (jf3 g2 ▸ g1) h3 h4 g3 g4)
theorem J.s (n j : Nat) {b o : Nat} {T : TypeId} {cd : Cod α} {z0 u : α} {l l' : List Value} (hj : h[j]? = some (b, l)) (ty : Ty c.P T cd z0) (hu : Upd l o (cd.enc u) l') (hJ : OJ c pend (is.drop (n + 1)) (gE c is m n) (h.set j (b, l')) x R) (hk : (gS c pend is m n 3, jtO (gX c is m n), gA c is m n, gB c is m n) = (true, T, some (.pointer (some (pt b o))), some (cd.val u)) := by kernel_rfl) : OJ c pend is m h x R := by
 obtain ⟨h1, h2⟩ := Prod.mk.inj hk
 obtain ⟨h2, h3⟩ := Prod.mk.inj h2
 obtain ⟨h3, h4⟩ := Prod.mk.inj h3
 obtain ⟨g0, g1, g2, g3, g4⟩ := ZqT h1
 subst h2
 exact J.op n g0 (OJ.kst l' ty hj hu rfl (OW.nil hJ) (jf3 g2 ▸ g1) h3 h4 g3 g4)
theorem Upd.w {cd : Cod α} {q : α} (u : α) : Upd (cd.enc q) 0 (cd.enc u) (cd.enc u) := Upd.whole ((cd.len _).trans (cd.len _).symm)
def elT (P : Program) (T : TypeId) : Nat := match P.underlying T with | some (.slice E) => E | some (.array _ E) => E | _ => 0
def szT (P : Program) (T : TypeId) : Nat := match P.info? T with | some i => i.size | _ => 0
def capV : Option Value → Nat | some (.slice _ _ k) => k | _ => 0
def knV : Option Value → IntKind | some (.int k _) => k | _ => .i64
def blkV : Option Value → Nat | some (.pointer (some a)) => a.block | _ => 0
def offV : Option Value → Nat | some (.pointer (some a)) => a.off | _ => 0
theorem J.i (n : Nat) {len sz : Nat} {p : Option Addr} {ix : Int} {f : Addr → M β} (hJ : ∀ ad, OJ c pend (is.drop (n + 1)) ((gD c is m n, .pointer (some ad)) :: gE c is m n) h (f ad) R) (hk : (gQ c pend is m n 4, gA c is m n, gB c is m n, c.P.underlying (jtO (gX c is m n)), (c.P.info? (elT c.P (jtO (gX c is m n)))).map (·.size)) = (true, some (.slice p len (capV (gA c is m n))), some (.int (knV (gB c is m n)) ix), some (.slice (elT c.P (jtO (gX c is m n)))), some sz) := by kernel_rfl) : OJ c pend is m h (idx p len ix sz >>= f) R := by
 obtain ⟨h1, h2⟩ := Prod.mk.inj hk
 obtain ⟨h2, h3⟩ := Prod.mk.inj h2
 obtain ⟨h3, h4⟩ := Prod.mk.inj h3
 obtain ⟨h4, h5⟩ := Prod.mk.inj h4
 obtain ⟨g0, g1, g2, g3, g4, g5⟩ := ZhN h1
 exact J.op n g0 (OJ.idxS hJ (jf4 g2 ▸ g1) h4 h5 h2 h3 g3 g4 g5)
theorem J.t (n : Nat) {s : ByteArray} {ix : Int} {f : Unit → M β} (hJ : 0 ≤ ix → ix < s.size → OJ c pend (is.drop (n + 1)) ((gD c is m n, .int .u8 (sb s ix)) :: gE c is m n) h (f ()) R) (hk : (gQ c pend is m n 5, gA c is m n, gB c is m n, c.P.underlying (jtO (gX c is m n))) = (true, some (.string s), some (.int (knV (gB c is m n)) ix), some .string) := by kernel_rfl) : OJ c pend is m h (chk (0 ≤ ix ∧ ix < (s.size : Int)) >>= f) R := by
 obtain ⟨h1, h2⟩ := Prod.mk.inj hk
 obtain ⟨h2, h3⟩ := Prod.mk.inj h2
 obtain ⟨h3, h4⟩ := Prod.mk.inj h3
 obtain ⟨g0, g1, g2, g3, g4, g5⟩ := ZhN h1
 exact J.op n g0 (OJ.idxT hJ (jf5 g2 ▸ g1) h4 h2 h3 g3 g4 g5)
theorem J.y (n : Nat) {len : Nat} {ix : Int} {f : Unit → M β} (hJ : 0 ≤ ix → ix < len → OJ c pend (is.drop (n + 1)) ((gD c is m n, .pointer (some (pt (blkV (gA c is m n)) (offV (gA c is m n) + ix.toNat * szT c.P (elT c.P (jtO (gX c is m n))))))) :: gE c is m n) h (f ()) R) (hk : (gQ c pend is m n 4, gA c is m n, gB c is m n, c.P.underlying (jtO (gX c is m n)), (c.P.info? (elT c.P (jtO (gX c is m n)))).map (·.size)) = (true, some (.pointer (some (pt (blkV (gA c is m n)) (offV (gA c is m n))))), some (.int (knV (gB c is m n)) ix), some (.array len (elT c.P (jtO (gX c is m n)))), some (szT c.P (elT c.P (jtO (gX c is m n))))) := by kernel_rfl) : OJ c pend is m h (chk (0 ≤ ix ∧ ix < len) >>= f) R := by
 obtain ⟨h1, h2⟩ := Prod.mk.inj hk
 obtain ⟨h2, h3⟩ := Prod.mk.inj h2
 obtain ⟨h3, h4⟩ := Prod.mk.inj h3
 obtain ⟨h4, h5⟩ := Prod.mk.inj h4
 obtain ⟨g0, g1, g2, g3, g4, g5⟩ := ZhN h1
 exact J.op n g0 (OJ.idxK hJ (jf4 g2 ▸ g1) h4 h5 h2 h3 g3 g4 g5)
theorem J.a (n : Nat) {T : TypeId} {cd : Cod α} {u : α} {f : Nat → M β} (ty : Ty c.P T cd u) (hJ : ∀ b, OJ c pend (is.drop (n + 1)) ((gD c is m n, .pointer (some (pt b 0))) :: gE c is m n) ((b, cd.enc u) :: h) (f b) R) (hk : (gW c pend is m n 6, jtO (gX c is m n)) = (true, T) := by kernel_rfl) : OJ c pend is m h (slot T >>= f) R := by
 obtain ⟨h1, h2⟩ := Prod.mk.inj hk
 obtain ⟨g0, g1, g2, g3, g4, g5⟩ := ZhM h1
 subst h2
 exact J.op n g0 (OJ.slotOf (ZdY ty) (fun b => OW.nil (hJ b)) (jf6 g2 ▸ g1) g5 g3 g4)
theorem J.b (n : Nat) {T : TypeId} (cd : Cod α) (u : α) {f : Nat → M β} (hJ : ∀ b, OJ c pend (is.drop (n + 1)) ((gD c is m n, .pointer (some (pt b 0))) :: gE c is m n) ((b, cd.enc u) :: h) (f b) R) (hk : (gW c pend is m n 7, jtO (gX c is m n), gA c is m n) = (true, T, some (cd.val u)) := by kernel_rfl) : OJ c pend is m h (slot T >>= f) R := by
 obtain ⟨h1, h2⟩ := Prod.mk.inj hk
 obtain ⟨h2, h3⟩ := Prod.mk.inj h2
 obtain ⟨g0, g1, g2, g3, g4, g5⟩ := ZhM h1
 subst h2
 exact J.op n g0 (OJ.slotOf (Zuj h3) (fun b => OW.nil (hJ b)) (jf7 g2 ▸ g1) g5 g3 g4)
theorem J.A (n : Nat) {T : TypeId} {cd : Cod α} {u : α} {f : Nat → M β} (ty : Ty c.P T cd u) (hJ : ∀ b, OJ c pend (is.drop (n + 1)) ((gD c is m n, .pointer (some (pt b 0))) :: gE c is m n) h (f b) R) (hk : (gW c pend is m n 6, jtO (gX c is m n)) = (true, T) := by kernel_rfl) : OJ c pend is m h (newv T cd u >>= f) R := by
 obtain ⟨h1, h2⟩ := Prod.mk.inj hk
 obtain ⟨g0, g1, g2, g3, g4, g5⟩ := ZhM h1
 subst h2
 exact J.op n g0 (OJ.newOf (ZdY ty) (fun b => OW.nil (hJ b)) (jf6 g2 ▸ g1) g5 g3 g4)
theorem J.B (n : Nat) {T : TypeId} {cd : Cod α} {u : α} {f : Nat → M β} (hJ : ∀ b, OJ c pend (is.drop (n + 1)) ((gD c is m n, .pointer (some (pt b 0))) :: gE c is m n) h (f b) R) (hk : (gW c pend is m n 7, jtO (gX c is m n), gA c is m n) = (true, T, some (cd.val u)) := by kernel_rfl) : OJ c pend is m h (newv T cd u >>= f) R := by
 obtain ⟨h1, h2⟩ := Prod.mk.inj hk
 obtain ⟨h2, h3⟩ := Prod.mk.inj h2
 obtain ⟨g0, g1, g2, g3, g4, g5⟩ := ZhM h1
 subst h2
 exact J.op n g0 (OJ.newOf (Zuj h3) (fun b => OW.nil (hJ b)) (jf7 g2 ▸ g1) g5 g3 g4)
theorem Zcg.f {pl : Nat → Option (Nat × Nat)} {cd : Cod α} {q : α} {o : Nat} {l l1 l2 : List Value} {ps : List (Nat × Value)} (i : Nat) (hu : Upd l o (cd.enc q) l1) (hr : Zcg pl l1 ps l2) (hp : pl i = some (o, cd.n) := by kernel_rfl) : Zcg pl l ((i, cd.val q) :: ps) l2 := .cons hp hu hr
theorem J.u (n : Nat) {T : TypeId} {cd : Cod α} {z0 q : α} {ps : List (Nat × Value)} (ty : Ty c.P T cd z0) (hf : Zcg (plOf c.P T) (cd.enc z0) ps (cd.enc q)) (hJ : OJ c pend (is.drop (n + 1)) ((gD c is m n, cd.val q) :: gE c is m n) h x R) (hk : (gQ c pend is m n 8, jtO (gX c is m n), evps (gE c is m n) (jpO (gX c is m n)), ZoI c.P T, cd.agg) = (true, T, some ps, true, true) := by kernel_rfl) : OJ c pend is m h x R := by
 obtain ⟨h1, a2⟩ := Prod.mk.inj hk
 obtain ⟨h2, a3⟩ := Prod.mk.inj a2
 obtain ⟨h3, a4⟩ := Prod.mk.inj a3
 obtain ⟨h4, h5⟩ := Prod.mk.inj a4
 obtain ⟨g0, g1, g2, g3, g4, g5⟩ := ZhN h1
 have e := jf8 g2
 rw [e, h2] at g1
 exact J.op n g0 (OJ.build q ty h5 hf hJ g1 h3 h4 g3 g4 g5)
theorem J.T (n : Nat) {p q : ByteArray} {f : Unit → M β} (hJ : OJ c pend (is.drop (n + 1)) ((gD c is m n, .string (p ++ q)) :: gE c is m n) h (f ()) R) (hk : (gQ c pend is m n 12, gA c is m n, gB c is m n) = (true, some (.string p), some (.string q)) := by kernel_rfl) : OJ c pend is m h (chk (((p.size + q.size : Nat) : Int) ≤ 9223372036854775807) >>= f) R := by
 obtain ⟨h1, h2⟩ := Prod.mk.inj hk
 obtain ⟨h2, h3⟩ := Prod.mk.inj h2
 obtain ⟨g0, g1, g2, g3, g4, g5⟩ := ZhN h1
 exact J.op n g0 (OJ.cat hJ (jf12 g2 ▸ g1) h2 h3 g3 g4 g5)
def jev (m : Env) (x : Option Operand) : Option (Option Int) := (evo m x).map fun l => l.map (·.2)
theorem Zlk {x : Option Operand} {y : Option Int} (e : jev m x = some y) : ∃ l, evo m x = some l ∧ l.map (·.2) = y := Option.map_eq_some_iff.1 e
theorem J.ct (n : Nat) {s : ByteArray} {lo hi : Int} {f : Unit → M β} (hJ : OJ c pend (is.drop (n + 1)) ((gD c is m n, .string (s.extract lo.toNat hi.toNat)) :: gE c is m n) h (f ()) R) (hk : (gQ c pend is m n 13, gA c is m n, c.P.underlying (jtO (gX c is m n)), (jev (gE c is m n) (jlO (gX c is m n))).map (fun l => l.getD (0 : Int)), (jev (gE c is m n) (jhiO (gX c is m n))).map (fun l => l.getD (s.size : Int)), jmO (gX c is m n)) = (true, some (.string s), some .string, some lo, some hi, none) := by kernel_rfl) : OJ c pend is m h (chk (0 ≤ lo ∧ lo ≤ hi ∧ hi ≤ (s.size : Int)) >>= f) R := by
 obtain ⟨h1, a2⟩ := Prod.mk.inj hk
 obtain ⟨h2, a3⟩ := Prod.mk.inj a2
 obtain ⟨h3, a4⟩ := Prod.mk.inj a3
 obtain ⟨h4, a5⟩ := Prod.mk.inj a4
 obtain ⟨h5, h6⟩ := Prod.mk.inj a5
 obtain ⟨g0, g1, g2, g3, g4, g5⟩ := ZhN h1
 obtain ⟨l1, e1, rfl⟩ := Option.map_eq_some_iff.1 h4
 obtain ⟨l2, e2, rfl⟩ := Option.map_eq_some_iff.1 h5
 obtain ⟨x1, e3, rfl⟩ := Zlk e1
 obtain ⟨x2, e4, rfl⟩ := Zlk e2
 have e := jf13 g2
 rw [h6] at e
 exact J.op n g0 (OJ.cutT (lo' := x1) (hi' := x2) hJ (e ▸ g1) h3 h2 e3 e4 g3 g4 g5)
theorem J.cs (n : Nat) {sz : Nat} {s : Sl} {lo hi mx : Option Int} {f : Sl → M β} (hJ : ∀ r : Sl, OJ c pend (is.drop (n + 1)) ((gD c is m n, r.v) :: gE c is m n) h (f r) R) (hk : (gQ c pend is m n 13, gA c is m n, c.P.underlying (jtO (gX c is m n)), (c.P.info? (elT c.P (jtO (gX c is m n)))).map (·.size), jev (gE c is m n) (jlO (gX c is m n)), jev (gE c is m n) (jhiO (gX c is m n)), jev (gE c is m n) (jmO (gX c is m n)), (!mx.isSome || hi.isSome)) = (true, some s.v, some (.slice (elT c.P (jtO (gX c is m n)))), some sz, some lo, some hi, some mx, true) := by kernel_rfl) : OJ c pend is m h (cut sz s lo hi mx >>= f) R := by
 obtain ⟨h1, a2⟩ := Prod.mk.inj hk
 obtain ⟨h2, a3⟩ := Prod.mk.inj a2
 obtain ⟨h3, a4⟩ := Prod.mk.inj a3
 obtain ⟨h4, a5⟩ := Prod.mk.inj a4
 obtain ⟨h5, a6⟩ := Prod.mk.inj a5
 obtain ⟨h6, a7⟩ := Prod.mk.inj a6
 obtain ⟨h7, h8⟩ := Prod.mk.inj a7
 obtain ⟨g0, g1, g2, g3, g4, g5⟩ := ZhN h1
 obtain ⟨x1, e1, rfl⟩ := Zlk h5
 obtain ⟨x2, e2, rfl⟩ := Zlk h6
 obtain ⟨x3, e3, rfl⟩ := Zlk h7
 refine J.op n g0 (OJ.cut (lo' := x1) (hi' := x2) (mx' := x3) (fun hx => ?_) hJ (jf13 g2 ▸ g1) h3 h4 h2 e1 e2 e3 g3 g4 g5)
 cases x3 with
 | none => cases hx
 | some q => simpa using h8
theorem J.ca (n : Nat) {sz len : Nat} {a : Addr} {lo hi mx : Option Int} {f : Sl → M β} (hJ : ∀ r : Sl, OJ c pend (is.drop (n + 1)) ((gD c is m n, r.v) :: gE c is m n) h (f r) R) (hk : (gQ c pend is m n 13, gA c is m n, c.P.underlying (jtO (gX c is m n)), (c.P.info? (elT c.P (jtO (gX c is m n)))).map (·.size), jev (gE c is m n) (jlO (gX c is m n)), jev (gE c is m n) (jhiO (gX c is m n)), jev (gE c is m n) (jmO (gX c is m n)), (!mx.isSome || hi.isSome)) = (true, some (.pointer (some a)), some (.array len (elT c.P (jtO (gX c is m n)))), some sz, some lo, some hi, some mx, true) := by kernel_rfl) : OJ c pend is m h (cut sz ⟨some a, len, len⟩ lo hi mx >>= f) R := by
 obtain ⟨h1, a2⟩ := Prod.mk.inj hk
 obtain ⟨h2, a3⟩ := Prod.mk.inj a2
 obtain ⟨h3, a4⟩ := Prod.mk.inj a3
 obtain ⟨h4, a5⟩ := Prod.mk.inj a4
 obtain ⟨h5, a6⟩ := Prod.mk.inj a5
 obtain ⟨h6, a7⟩ := Prod.mk.inj a6
 obtain ⟨h7, h8⟩ := Prod.mk.inj a7
 obtain ⟨g0, g1, g2, g3, g4, g5⟩ := ZhN h1
 obtain ⟨x1, e1, rfl⟩ := Zlk h5
 obtain ⟨x2, e2, rfl⟩ := Zlk h6
 obtain ⟨x3, e3, rfl⟩ := Zlk h7
 refine J.op n g0 (OJ.cutA (lo' := x1) (hi' := x2) (mx' := x3) (fun hx => ?_) hJ (jf13 g2 ▸ g1) h3 h4 h2 e1 e2 e3 g3 g4 g5)
 cases x3 with
 | none => cases hx
 | some q => simpa using h8
def ixs (cd : Cod α) : Nat → List α → List (Nat × Value)
 | _, [] => []
 | i, x :: r => (i, cd.val x) :: ixs cd (i + 1) r
theorem Zcg.all {cd : Cod α} {z : α} : ∀ (xs pre : List α), Zcg (fun i => some (i * cd.n, cd.n)) (pre.flatMap cd.enc ++ (List.replicate xs.length z).flatMap cd.enc) (ixs cd pre.length xs) ((pre ++ xs).flatMap cd.enc)
 | [], pre => by
  simp only [zi, List.replicate_zero, List.flatMap_nil, zJ]
  exact .nil
 | x :: xs, pre => by
  have hl : (pre.flatMap cd.enc).length = pre.length * cd.n := by simp [List.length_flatMap, cd.len, Function.comp_def, List.map_const', List.sum_replicate_nat]
  refine Zcg.cons (l1 := pre.flatMap cd.enc ++ cd.enc x ++ (List.replicate xs.length z).flatMap cd.enc) rfl ⟨pre.flatMap cd.enc, cd.enc z, (List.replicate xs.length z).flatMap cd.enc, ?_, hl, by rw [cd.len, cd.len], rfl⟩ ?_
  ·rw [zf, List.replicate_succ, List.flatMap_cons, zu]
  ·have := Zcg.all (cd := cd) (z := z) xs (pre ++ [x])
   rw [zc] at this
   simpa using this
theorem Zcg.vec {cd : Cod α} {z : α} {n : Nat} (q : Vec α n) : Zcg (fun i => some (i * cd.n, cd.n)) ((cd.arr n).enc (Vec.rep n z)) (ixs cd 0 q.l) ((cd.arr n).enc q) := by
 have := Zcg.all (cd := cd) (z := z) q.l []
 rw [Cod.arr_enc, Cod.arr_enc]
 rw [q.h] at this
 exact this
theorem J.S (n : Nat) {E : TypeId} {cd : Cod α} {z0 : α} (xs : List α) {f : Nat → M β} (ty : Ty c.P E cd z0) (hJ : ∀ b, OJ c pend (is.drop (n + 1)) ((gD c is m n, .slice (some (pt b 0)) xs.length xs.length) :: gE c is m n) ((b, (cd.arr xs.length).enc ⟨xs, rfl⟩) :: h) (f b) R) (hk : (gW c pend is m n 9, jnO (gX c is m n), evps (gE c is m n) (jpO (gX c is m n)), c.P.underlying (jtO (gX c is m n)), Nat.ble (xs.length * cd.n) 16777216) = (true, xs.length, some (ixs cd 0 xs), some (.slice E), true) := by kernel_rfl) : OJ c pend is m h (slot E >>= f) R := by
 obtain ⟨h1, a2⟩ := Prod.mk.inj hk
 obtain ⟨h2, a3⟩ := Prod.mk.inj a2
 obtain ⟨h3, a4⟩ := Prod.mk.inj a3
 obtain ⟨h4, h5⟩ := Prod.mk.inj a4
 obtain ⟨g0, g1, g2, g3, g4, g5⟩ := ZhM h1
 have e := jf9 g2
 rw [h2] at e
 exact J.op n g0 (OJ.rowSlot ⟨xs, rfl⟩ ty (Zcg.vec _) (fun b => OW.nil (hJ b)) (e ▸ g1) h3 h4 h5 g5 g3 g4)
theorem J.N (n : Nat) {E len : Nat} {cd : Cod α} {z0 : α} {q : Vec α len} {f : Nat → M β} (ty : Ty c.P E cd z0) (hJ : ∀ b, OJ c pend (is.drop (n + 1)) ((gD c is m n, Sl.v ⟨some (pt b 0), len, len⟩) :: gE c is m n) h (f b) R) (hk : (gW c pend is m n 9, jnO (gX c is m n), evps (gE c is m n) (jpO (gX c is m n)), c.P.underlying (jtO (gX c is m n)), Nat.ble (len * cd.n) 16777216) = (true, len, some (ixs cd 0 q.l), some (.slice E), true) := by kernel_rfl) : OJ c pend is m h (newv E (cd.arr len) q >>= f) R := by
 obtain ⟨h1, a2⟩ := Prod.mk.inj hk
 obtain ⟨h2, a3⟩ := Prod.mk.inj a2
 obtain ⟨h3, a4⟩ := Prod.mk.inj a3
 obtain ⟨h4, h5⟩ := Prod.mk.inj a4
 obtain ⟨g0, g1, g2, g3, g4, g5⟩ := ZhM h1
 have e := jf9 g2
 rw [h2] at e
 exact J.op n g0 (OJ.rowNew ty (Zcg.vec _) (fun b => OW.nil (hJ b)) (e ▸ g1) h3 h4 h5 g5 g3 g4)
theorem J.p (n j : Nat) {E bytes b : Nat} {cd : Cod α} {z0 : α} {s : Sl} {xs : List α} {l : List Value} {f : Sl → M β} (hj : h[j]? = some (b, l)) (ty : Ty c.P E cd z0) (hJ : ∀ r : Sl, OJ c pend (is.drop (n + 1)) ((gD c is m n, r.v) :: gE c is m n) h (f r) R) (hl : l = xs.flatMap cd.enc := by exact Cod.arr_enc _ _ _) (hk : (gW c pend is m n 11, (jap (gX c is m n)).map (fun q => (evm (gE c is m n) q.1, evm (gE c is m n) q.2.1, c.P.underlying q.2.2.1, rowT c.P q.2.2.2)), (c.P.info? E).map (·.bytes)) = (true, some (some s.v, some (.slice (some (pt b 0)) xs.length xs.length), some (.slice E), true), some bytes) := by kernel_rfl) : OJ c pend is m h (appl cd E bytes z0 s xs >>= f) R := by
 obtain ⟨h1, a2⟩ := Prod.mk.inj hk
 obtain ⟨h2, h3⟩ := Prod.mk.inj a2
 obtain ⟨q, hq, hv⟩ := Option.map_eq_some_iff.1 h2
 obtain ⟨v1, b2⟩ := Prod.mk.inj hv
 obtain ⟨v2, b3⟩ := Prod.mk.inj b2
 obtain ⟨v3, v4⟩ := Prod.mk.inj b3
 obtain ⟨g0, g1, g2, g3, g4, g5⟩ := ZhM h1
 exact J.op n g0 (OJ.appl xs ty hj hl rfl (fun r => OW.nil (hJ r)) (Zxh hq ▸ g1) v3 v4 h3 v1 v2 g5 g3 g4)
theorem J.C (n : Nat) {g : Nat} {fn : Func} {vals : List Value} {y : M α} {out : α → Value} {f : α → M β} (hf : Fun c.P g fn) (hy : Ref c.P g vals y out) (hJ : ∀ q, OJ c pend (is.drop (n + 1)) ((gD c is m n, out q) :: gE c is m n) h (f q) R) (hk : (gW c pend is m n 10, jaO (gX c is m n), evms (gE c is m n) (jgO (gX c is m n))) = (true, .func g, some vals) := by kernel_rfl) : OJ c pend is m h (y >>= f) R := by
 obtain ⟨h1, h2⟩ := Prod.mk.inj hk
 obtain ⟨h2, h3⟩ := Prod.mk.inj h2
 obtain ⟨g0, g1, g2, g3, g4, g5⟩ := ZhM h1
 have e := jf10 g2
 rw [h2] at e
 exact J.op n g0 (OJ.call hf hy (fun q => OW.nil (hJ q)) (e ▸ g1) h3 g5 g3 g4)
theorem J.d (n : Nat) {g : Nat} {fn : Func} {vals : List Value} {y : M α} {out : α → Value} {f : α → M β} (hf : Fun c.P g fn) (hy : Ref c.P g vals y out) (hJ : ∀ q, OJ c pend (is.drop (n + 1)) (gE c is m n) h (f q) R) (hk : (gS c pend is m n 10, jaO (gX c is m n), evms (gE c is m n) (jgO (gX c is m n))) = (true, .func g, some vals) := by kernel_rfl) : OJ c pend is m h (y >>= f) R := by
 obtain ⟨h1, h2⟩ := Prod.mk.inj hk
 obtain ⟨h2, h3⟩ := Prod.mk.inj h2
 obtain ⟨g0, g1, g2, g3, g4⟩ := ZqT h1
 have e := jf10 g2
 rw [h2] at e
 exact J.op n g0 (OJ.call0 hf hy (fun q => OW.nil (hJ q)) (e ▸ g1) h3 g3 g4)
theorem J.v (n : Nat) {fv : Value} {vals : List Value} {y : M α} {out : α → Value} {f : α → M β} (hy : RefV c.P fv vals y out) (hJ : ∀ q, OJ c pend (is.drop (n + 1)) ((gD c is m n, out q) :: gE c is m n) h (f q) R) (hk : (gW c pend is m n 10, gA c is m n, evms (gE c is m n) (jgO (gX c is m n))) = (true, some fv, some vals) := by kernel_rfl) : OJ c pend is m h (y >>= f) R := by
 obtain ⟨h1, h2⟩ := Prod.mk.inj hk
 obtain ⟨h2, h3⟩ := Prod.mk.inj h2
 obtain ⟨g0, g1, g2, g3, g4, g5⟩ := ZhM h1
 exact J.op n g0 (OJ.callV1 hy (fun q => OW.nil (hJ q)) (jf10 g2 ▸ g1) h2 h3 g5 g3 g4)
end
class BoolOf (p : Prop) (b : outParam Bool) : Prop where
 iff : b = true ↔ p
instance (priority := 2000) {b : Bool} : BoolOf (b = true) b := ⟨Iff.rfl⟩
instance (priority := 2000) {α : Type} {p : Option α} : BoolOf (p = none) p.isNone := ⟨Option.isNone_iff_eq_none⟩
instance {x y : Int} : BoolOf (x = y) (x == y) := ⟨zq⟩
instance {x y : Bool} : BoolOf (x = y) (x == y) := ⟨zq⟩
instance {x y : List UInt8} : BoolOf (x = y) (x == y) := ⟨zq⟩
instance (priority := 100) {α : Type} {x y : α} : BoolOf (x = y) (eqv x y) := ⟨Zg3⟩
instance {x y : Int} : BoolOf (x < y) (decide (x < y)) := ⟨ze⟩
instance {x y : Int} : BoolOf (x ≤ y) (decide (x ≤ y)) := ⟨ze⟩
instance {p : Prop} {b : Bool} [h : BoolOf p b] : BoolOf (¬ p) (!b) := ⟨ZoT h.iff⟩
section
variable [Zd5] {α β : Type} {c : Cx} {pend : List Pd} {is : List Nat} {m : Env} {h : Loc} {x : M β} {R : List Pd → Env → Loc → M β → Prop}
def jks (m : Env) : List Nat := m.map (·.1)
theorem Zxb : ∀ {m : Env} {t : Nat} {y : Value}, lk m t = some y → t ∈ jks m
 | (k, z) :: r, t, y, e => by
  unfold lk at e
  cases hb : Nat.beq k t with
  | true => obtain rfl := Nat.eq_of_beq_eq_true hb; exact List.mem_cons_self
  | false => rw [hb] at e; exact zO _ (Zxb e)
theorem Zwj : ∀ {m : Env} {t : Nat}, t ∈ jks m → ∃ y, lk m t = some y
 | (k, z) :: r, t, e => by
  cases hb : Nat.beq k t with
  | true => exact ⟨z, by unfold lk; rw [hb]⟩
  | false =>
   rcases List.mem_cons.1 e with rfl | e
   ·simp at hb
   ·obtain ⟨y, hy⟩ := Zwj e
    exact ⟨y, by unfold lk; rw [hb]; exact hy⟩
theorem ZvH : ∀ {ts : List Nat} {m m0 : Env}, lks m ts = lks m0 ts → (∀ t ∈ ts, t ∈ jks m0) → ∀ t ∈ ts, lk m t = lk m0 t
 | u :: ts, m, m0, e, hs, t, ht => by
  have h0 : ∀ {ts : List Nat}, (∀ t ∈ ts, t ∈ jks m0) → ∃ r, lks m0 ts = some r := by
   intro ts
   induction ts with
   | nil => exact fun _ => ⟨_, rfl⟩
   | cons a l ih =>
    intro hs
    obtain ⟨y, hy⟩ := Zwj (hs a List.mem_cons_self)
    obtain ⟨r, hr⟩ := ih fun t ht => hs t (zO _ ht)
    exact ⟨(a, y) :: r, by simp only [lks, hy, hr]⟩
  obtain ⟨y, hy⟩ := Zwj (hs u List.mem_cons_self)
  obtain ⟨r, hr⟩ := h0 fun t ht => hs t (zO _ ht)
  simp only [lks, hy, hr] at e
  split at e
  ·rename_i y' r' h1 h2
   simp only [zt, List.cons.injEq, zA, true_and] at e
   rcases List.mem_cons.1 ht with rfl | ht
   ·rw [h1, hy, e.1]
   ·exact ZvH (by rw [h2, hr, e.2]) (fun t ht => hs t (zO _ ht)) t ht
  ·cases e
theorem ZtE {m m0 : Env} (e : lks m (jks m0) = lks m0 (jks m0)) : ∀ t y, lk m0 t = some y → lk m t = some y := fun t y hy => (ZvH e (fun _ h => h) t (Zxb hy)).trans hy
def jdel (t : Nat) : Env → Env
 | [] => []
 | (k, y) :: r => match Nat.beq k t with
  | true => jdel t r
  | false => (k, y) :: jdel t r
def gT (ops : Array Oper) (i : Nat) : Nat := match ops[i]? with
 | some o => match o.guard with
  | some (j, _) => match ops[j]? with
   | some oj => oj.dst.getD 0
   | none => 0
  | none => 0
 | none => 0
def dT (ops : Array Oper) (i : Nat) : Nat := match ops[i]? with
 | some o => o.dst.getD 0
 | none => 0
def JR (fr : List Nat) (pend : List Pd) (h : Loc) (mo : α → Env) (p' : List Pd) (m' : Env) (h' : Loc) (x' : M α) : Prop := (∀ e ∈ p', e ∈ pend ∨ e.i ∈ fr) ∧ h' = h ∧ ∃ y, x' = pure y ∧ lks m' (jks (mo y)) = lks (mo y) (jks (mo y))
def jin (fr : List Nat) (l : List Nat) : Bool := l.all fun i => fr.contains i
theorem J.e {y : α} {mo : α → Env} (n : Nat) {fr : List Nat} {p2 : List Pd} (hk : (p2.drop (p2.length - pend.length), jin fr ((p2.take (p2.length - pend.length)).map (·.i)), (runP c.P c.ops c.kd c.n (is.take n) m).isSome, is.drop n, lks (gE c is m n) (jks (mo y))) = (pend, true, true, [], lks (mo y) (jks (mo y))) := by kernel_rfl) : OJ c p2 is m h (pure y) (JR fr pend h mo) := by
 obtain ⟨h1, a2⟩ := Prod.mk.inj hk
 obtain ⟨h5, a3⟩ := Prod.mk.inj a2
 obtain ⟨h2, a4⟩ := Prod.mk.inj a3
 obtain ⟨h3, h4⟩ := Prod.mk.inj a4
 refine J.z n ⟨fun e he => ?_, rfl, y, rfl, h4⟩ (by rw [h2, h3])
 rw [← List.take_append_drop (p2.length - pend.length) p2] at he
 rcases List.mem_append.1 he with he | he
 ·refine .inr ?_
  unfold jin at h5
  simpa using List.all_eq_true.1 h5 e.i (List.mem_map_of_mem he)
 ·rw [h1] at he
  exact .inl he
def jE (c : Cx) (is : List Nat) (m : Env) (n k : Nat) (y : Value) : Env := (dT c.ops (is.getD (n + k) 0), y) :: jdel (gT c.ops (is.getD n 0)) (gE c is m n)
def frJ (c : Cx) (is : List Nat) (n k : Nat) : List Nat := ((is.drop n).take (k + 1)).filter (kdL c.kd)
theorem J.jo (n k : Nat) {p : Prop} [Decidable p] {b : Bool} [hb : BoolOf p b] {X1 X0 : M α} {f : α → M β} (mo : α → Value)
  (h1 : OJ c pend ((is.drop n).take (k + 1)) ((gT c.ops (is.getD n 0), .bool true) :: gE c is m n) h X1 (JR (frJ c is n k) pend h fun y => jE c is m n k (mo y)))
  (h0 : OJ c pend ((is.drop n).take (k + 1)) ((gT c.ops (is.getD n 0), .bool false) :: gE c is m n) h X0 (JR (frJ c is n k) pend h fun y => jE c is m n k (mo y)))
  (hJ : ∀ y, OJ c pend (is.drop (n + k + 1)) (jE c is m n k (mo y)) h (f y) R)
  (hR : ∀ p q m' h' x', (∀ e ∈ q, e ∈ p ∨ e.i ∈ frJ c is n k) → R p m' h' x' → R q m' h' x')
  (hk : ((runP c.P c.ops c.kd c.n (is.take n) m).isSome, lk (gE c is m n) (gT c.ops (is.getD n 0)), isol (kdOf c.kd) c.bef (frJ c is n k) (is.drop (n + k + 1))) = (true, some (.bool b), true)) : OJ c pend is m h ((if p then X1 else X0) >>= f) R := by
 obtain ⟨hm, a2⟩ := Prod.mk.inj hk
 obtain ⟨ht, hiso⟩ := Prod.mk.inj a2
 refine J.g n ?_ hm
 intro v r v' e w a s D hD
 obtain ⟨y, v1, e1, e2⟩ := bind_some.1 e
 have key : ∃ p1 v2 w1 a1, (∀ e ∈ p1, e ∈ pend ∨ e.i ∈ frJ c is n k) ∧ c.RS pend ((is.drop n).take (k + 1)) a w p1 a1 w1 ∧ St c.n (jE c is m n k (mo y)) h v2 w1 a1 ∧ Kp D v v2 w w1 h ∧ v2 = v1 := by
  by_cases hpp : p
  ·rw [if_pos hpp] at e1
   obtain ⟨p1, m3, h3, x3, v3, w3, a3, ⟨hsub, rfl, y', rfl, hl⟩, q2, q3, q4, q5⟩ := h1 v y v1 e1 w a (ZoG ht s (by rw [hb.iff.2 hpp])) D hD
   simp only [pure_def, zt, zA] at q2
   obtain ⟨rfl, rfl⟩ := q2
   exact ⟨p1, v3, w3, a3, hsub, q3, q4.less (ZtE hl), q5, rfl⟩
  ·rw [if_neg hpp] at e1
   have hbf : b = false := by
    cases b
    ·rfl
    ·exact absurd (hb.iff.1 rfl) hpp
   obtain ⟨p1, m3, h3, x3, v3, w3, a3, ⟨hsub, rfl, y', rfl, hl⟩, q2, q3, q4, q5⟩ := h0 v y v1 e1 w a (ZoG ht s (by rw [hbf])) D hD
   simp only [pure_def, zt, zA] at q2
   obtain ⟨rfl, rfl⟩ := q2
   exact ⟨p1, v3, w3, a3, hsub, q3, q4.less (ZtE hl), q5, rfl⟩
 obtain ⟨p1, v2, w1, a1, hsub, hrs, s1, hkp, rfl⟩ := key
 obtain ⟨p2, m3, h3, x3, v3, w3, a3, q1, q2, q3, q4, q5⟩ := hJ y v2 r v' e2 w1 a1 s1 D (hkp.dok hD)
 obtain ⟨p3, hmore, hsub2⟩ := RS.less _ _ _ _ hiso hsub q3
 have hsp : is.drop n = (is.drop n).take (k + 1) ++ is.drop (n + k + 1) := by rw [show n + k + 1 = n + (k + 1) by omega, ← List.drop_drop, List.take_append_drop]
 rw [hsp]
 exact ⟨p3, m3, h3, x3, v3, w3, a3, hR _ _ _ _ _ hsub2 q1, q2, RS.append _ _ _ _ hrs hmore, q4, hkp.trans q5⟩
theorem J.j (n k : Nat) {p : Prop} [Decidable p] {b : Bool} [BoolOf p b] {X1 X0 : M α} {f : α → M β} {S : Env → Loc → M β → Prop} (mo : α → Value) (h1 : OJ c pend ((is.drop n).take (k + 1)) ((gT c.ops (is.getD n 0), .bool true) :: gE c is m n) h X1 (JR (frJ c is n k) pend h fun y => jE c is m n k (mo y))) (h0 : OJ c pend ((is.drop n).take (k + 1)) ((gT c.ops (is.getD n 0), .bool false) :: gE c is m n) h X0 (JR (frJ c is n k) pend h fun y => jE c is m n k (mo y))) (hJ : ∀ y, OJ c pend (is.drop (n + k + 1)) (jE c is m n k (mo y)) h (f y) (fun _ m' h' x' => S m' h' x')) (hk : ((runP c.P c.ops c.kd c.n (is.take n) m).isSome, lk (gE c is m n) (gT c.ops (is.getD n 0)), isol (kdOf c.kd) c.bef (frJ c is n k) (is.drop (n + k + 1))) = (true, some (.bool b), true) := by kernel_rfl) : OJ c pend is m h ((if p then X1 else X0) >>= f) (fun _ m' h' x' => S m' h' x') :=
 J.jo n k mo h1 h0 hJ (fun _ _ _ _ _ _ h => h) hk
end
section
variable [Zd5] {β : Type} {c : Fx} {k : List Item} {m : Env} {h : Loc} {x : M β} {F : β → Reach}
def isCd : Kind → Option Operand
 | .cond t => some t
 | _ => none
theorem J.f {p : Prop} [Decidable p] {b : Bool} [hb : BoolOf p b] {cd : Code} {y : M β} (h1 : SJ c (.code (c1 cd) :: k) m h x F) (h0 : SJ c (.code (c2 cd) :: k) m h y F) (hk : (isCd (Zdy cd)).bind (evm m) = some (.bool b) := by kernel_rfl) : SJ c (.code cd :: k) m h (if p then x else y) F := by
 obtain ⟨t, ht, he⟩ := Option.bind_eq_some_iff.1 hk
 refine SJ.cond (t := t) hb.iff (fun _ => h1) (fun _ => h0) ?_ he
 unfold isCd at ht
 split at ht
 ·rename_i t' e
  simp only [zt] at ht
  rw [e, ht]
 ·cases ht
def resE (m : Env) : List ResultVar → Option (List Value)
 | [] => some []
 | .tmp t :: r => match lk m t, resE m r with
  | some y, some l => some (y :: l)
  | _, _ => none
 | _ => none
theorem Ztg : ∀ {rs : List ResultVar} {ys : List Value}, resE m rs = some ys → Res c m h rs ys
 | [], ys, e => by
  simp only [resE, zt] at e
  subst e
  exact .nil
 | .tmp t :: r, ys, e => by
  unfold resE at e
  split at e
  ·rename_i y l h1 h2
   simp only [zt] at e
   subst e
   exact .tmp h1 (Ztg h2)
  ·cases e
 | .cell .. :: r, ys, e => by cases e
def Zxl : Kind → Bool
 | .ret => true
 | _ => false
theorem J.r {cd : Code} {y : β} (hk : ((resE m c.fn.results.toList).map (fun ys => Reach.ret (Zk9 ys)), Zxl (Zdy cd), c.ro) = (some (F y), true, none) := by kernel_rfl) : SJ c (.code cd :: k) m h (pure y) F := by
 obtain ⟨h1, h2⟩ := Prod.mk.inj hk
 obtain ⟨h2, h3⟩ := Prod.mk.inj h2
 obtain ⟨ys, hys, hF⟩ := Option.map_eq_some_iff.1 h1
 refine SJ.ret hF.symm (Res.run (Ztg hys) (by simp)) ?_ h3
 cases e : Zdy cd <;> rw [e] at h2 <;> first | rfl | cases h2
inductive Cl (P : Program) (h : Loc) : List (Nat × Nat × Value) → Prop
 | n : Cl P h []
 | c {α : Type} {cd : Cod α} {z0 q : α} {b T : Nat} {L : List (Nat × Nat × Value)} (j : Nat) (hj : h[j]? = some (b, cd.enc q)) (ty : Ty P T cd z0) (r : Cl P h L) : Cl P h ((b, T, cd.val q) :: L)
def resC (m : Env) : List ResultVar → List (Nat × Nat × Value) → Option (List Value × List (Option Value × Nat))
 | [], _ => some ([], [])
 | .tmp t :: r, L => match lk m t, resC m r L with
  | some y, some l => some (y :: l.1, l.2)
  | _, _ => none
 | .cell t T :: r, e :: L => match resC m r L with
  | some l => some (e.2.2 :: l.1, (lk m t, T) :: l.2)
  | _ => none
 | _, _ => none
theorem Zqx : ∀ {rs : List ResultVar} {L L' : List (Nat × Nat × Value)} {ys : List Value} {l : List (Option Value × Nat)}, Cl c.P h L → resC m rs L = some (ys, l) → l = L.map (fun e => (some (.pointer (some (pt e.1 0))), e.2.1)) → Res c m h rs ys
 | [], L, L', ys, l, hc, e, he => by
  simp only [resC, zt, zA] at e
  obtain ⟨rfl, -⟩ := e
  exact .nil
 | .tmp t :: r, L, L', ys, l, hc, e, he => by
  unfold resC at e
  split at e
  ·rename_i y l1 h1 h2
   obtain ⟨l1, l2⟩ := l1
   simp only [zt, zA] at e
   obtain ⟨rfl, rfl⟩ := e
   exact .tmp h1 (Zqx (L' := []) hc h2 he)
  ·cases e
 | .cell t T :: r, [], L', ys, l, hc, e, he => by cases e
 | .cell t T :: r, a :: L, L', ys, l, hc, e, he => by
  unfold resC at e
  split at e
  ·rename_i l1 h2
   obtain ⟨l1, l2⟩ := l1
   simp only [zt, zA] at e
   obtain ⟨rfl, rfl⟩ := e
   simp only [List.map_cons, List.cons.injEq, zA] at he
   obtain ⟨⟨e1, e2⟩, e3⟩ := he
   cases hc with
   | c j hj ty hr =>
    simp only at e1 e2
    subst e2
    exact .cell e1 hj ty (At.whole _) (Zqx (L' := []) hr h2 e3)
  ·cases e
theorem J.rc {cd : Code} {y : β} {L : List (Nat × Nat × Value)} (hc : Cl c.P h L) (hk : ((resC m c.fn.results.toList L).map (fun p => (Reach.ret (Zk9 p.1), p.2)), Zxl (Zdy cd), c.ro) = (some (F y, L.map (fun e => (some (.pointer (some (pt e.1 0))), e.2.1))), true, none) := by kernel_rfl) : SJ c (.code cd :: k) m h (pure y) F := by
 obtain ⟨h1, h2⟩ := Prod.mk.inj hk
 obtain ⟨h2, h3⟩ := Prod.mk.inj h2
 obtain ⟨⟨ys, l⟩, hys, hF⟩ := Option.map_eq_some_iff.1 h1
 obtain ⟨hF, hl⟩ := Prod.mk.inj hF
 refine SJ.ret hF.symm (Res.run (Zqx (L' := []) hc hys hl) (by simp)) ?_ h3
 cases e : Zdy cd <;> rw [e] at h2 <;> first | rfl | cases h2
theorem J.o {y : β} {m' : Env} (hF : F y = .at k m' h) (hm : lks m (jks m') = some m' := by kernel_rfl) : SJ c k m h (pure y) F := SJ.at_ (jks m') hF hm
theorem J.q {m' : Env} (hJ : SJ c k m' h x F) (hm : lks m (jks m') = some m' := by kernel_rfl) : SJ c k m h x F := SJ.less (jks m') hJ hm
structure LF (σ β : Type) where
 k : List Item
 cd : Code
 ml : σ → Env
 hl : σ → Loc
 F : β → Reach
def LF.f {σ β : Type} (L : LF σ β) : LS σ β → Reach := Zxa (.inLoop (c1 L.cd) :: L.k) L.ml L.hl L.F
def LJ {σ β : Type} (c : Fx) (L : LF σ β) (G : σ → M (LS σ β)) : Prop := ∀ s, SJ c (.code (c1 L.cd) :: .inLoop (c1 L.cd) :: L.k) (L.ml s) (L.hl s) (G s) L.f
theorem J.L {σ : Type} {cd : Code} {L : LF σ β} {G : σ → M (LS σ β)} {s0 : σ} (hJ : LJ c L G) (he : (L.cd, L.k, L.F, L.hl s0, lks m (jks (L.ml s0))) = (cd, k, F, h, some (L.ml s0)) := by kernel_rfl) (hb : ∀ s s', (L.hl s).map (·.1) = (L.hl s').map (·.1) := by intros; rfl) (hk : Zdy cd = .loop := by kernel_rfl) : SJ c (.code cd :: k) m h (Zcn G s0) F := by
 obtain ⟨e1, a2⟩ := Prod.mk.inj he
 obtain ⟨e2, a3⟩ := Prod.mk.inj a2
 obtain ⟨e3, a4⟩ := Prod.mk.inj a3
 obtain ⟨e4, e5⟩ := Prod.mk.inj a4
 subst e1 e2 e3
 exact SJ.loop L.ml L.hl (jks (L.ml s0)) e4.symm hb hJ hk e5
def bod (f : Func) : Code := f.body.getD .skip
abbrev rt {α : Type} (o : α → Value) : α → Reach := fun r => .ret (o r)
theorem J.Fn {P : Program} {f : FuncId} {fn : Func} {α : Type} {args : List Value} {x : M α} {out : α → Value} (hf : P.funcs[f]? = some fn) (hJ : SJ ⟨P, f, fn, none⟩ [.code (bod fn)] (Zsx 0 args) [] x (rt out)) (hk : (fn.body.isSome, Nat.ble args.length fn.ntmps) = (true, true) := by kernel_rfl) : Ref P f args x out := by
 obtain ⟨h1, h2⟩ := Prod.mk.inj hk
 obtain ⟨cd, hcd⟩ := Option.isSome_iff_exists.1 h1
 have e : bod fn = cd := by unfold bod; rw [hcd]; rfl
 exact Ref.of hf hJ (by rw [e]; exact hcd) h2
def kdO (P : Program) : Op → Nat
 | .move _ | .assign _ | .pick .. | .unOp .. | .binOp .. | .fieldAddr .. | .field .. | .indexAddr .. | .index .. | .slice .. | .extract .. | .makeFunc .. | .build .. | .nilCheck _ | .makeInterface .. | .sliceToArrayPointer .. => 0
 | .convert a b _ => match P.underlying a, P.underlying b with
  | some (.slice _), _ | _, some (.slice _) | some .unsafePointer, _ | _, some .unsafePointer => 2
  | _, _ => 0
 | .load .. => 1
 | .call { callee := .builtin .len, argTypes, .. } => match (argTypes[0]?).bind P.underlying with
  | some (.map ..) => 2
  | _ => 0
 | .call { callee := .builtin .cap, .. } | .call { callee := .builtin .min, .. } | .call { callee := .builtin .max, .. } => 0
 | _ => 2
def kdC (P : Program) (ops : Array Oper) : List Nat := ops.toList.map fun o => kdO P o.op
def befC : List Oper → List Nat → List Nat
 | [], bef => bef
 | o :: r, bef => befC r (bef ++ [ZrQ bef bef.length (Zeg o)])
def rgD : Kind → Option Nat
 | .region id true => some id
 | _ => none
theorem J.D {cd : Code} (ord : List Nat) (hm : c.P.follows .mixedOrders = true) (hJ : OJ ⟨c.P, c.fn.ntmps, Zfn cd, kdC c.P (Zfn cd), befC (Zfn cd).toList []⟩ [] ord m h x (fun _ m' h' x' => SJ c k m' h' x' F)) (hk : ((rgD (Zdy cd)).isSome, Zl8 (Zfn cd) (kdOf (kdC c.P (Zfn cd))) (befC (Zfn cd).toList []) ord) = (true, true) := by kernel_rfl) : SJ c (.code cd :: k) m h (draw >>= fun _ => x) F := by
 obtain ⟨h1, h2⟩ := Prod.mk.inj hk
 cases e : Zdy cd with
 | region id d =>
  cases d with
  | true => exact SJ.draw hm hJ e h2
  | false => rw [e] at h1; cases h1
 | _ => rw [e] at h1; cases h1
theorem J.R {cd : Code} (n : Nat) (hm : c.P.follows .mixedOrders = true) (hJ : OJ ⟨c.P, c.fn.ntmps, Zfn cd, kdC c.P (Zfn cd), befC (Zfn cd).toList []⟩ [] (List.range n) m h x (fun _ m' h' x' => SJ c k m' h' x' F)) (hk : ((rgD (Zdy cd)).isSome, Zl8 (Zfn cd) (kdOf (kdC c.P (Zfn cd))) (befC (Zfn cd).toList []) (List.range n)) = (true, true) := by kernel_rfl) : SJ c (.code cd :: k) m h (draw >>= fun _ => x) F := J.D (List.range n) hm hJ hk
end
end
end Go.Proofs.YtfnokeoldcfcoaaGreatDoor.Lx
