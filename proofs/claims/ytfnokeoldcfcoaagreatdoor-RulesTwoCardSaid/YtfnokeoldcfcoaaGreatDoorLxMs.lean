/- The machine 'Lx', part Ms: texts put together; places compared; a Builder's words (a pointer seen as bytes and back, bytes handed on as a text); what cannot happen. -/
import Derived.Test.YtfnokeoldcfcoaaGreatDoorLxM
import Derived.Laws.Externs
import Derived.Laws.NewFold
import Derived.Lib.UnsafeStr
import Derived.Lib.AppendStr
set_option linter.unusedSectionVars false
set_option linter.unusedSimpArgs false
set_option linter.unusedVariables false
namespace Go.Proofs.YtfnokeoldcfcoaaGreatDoor.Lx
open Go
variable [Zd5]
def ptrEq (p q : Option Addr) : M Bool := fun v => match p, q with
 | none, q => some (q.isNone, v)
 | some _, none => some (false, v)
 | some a, some b => if a.block = b.block then some (decide (a = b), v) else none
def idxB (s : ByteArray) (c : Int) : M Int := pure (firstIdx s c.toNat.toUInt8)
def noesc (p : Option Addr) : M (Option Addr) := pure p
def Zhg : Question := .extern "internal/bytealg.MakeNoZero.bytes" 0
def mkNZ (E : TypeId) (n : Int) : M Sl := fun v =>
 if 0 ≤ n ∧ n ≤ 281474976710656 then
  some (⟨some (pt v.heap.size 0), n.toNat, (Question.appendCap n.toNat 0 E).cut (v.tape v.drawn (.appendCap n.toNat 0 E))⟩,
   v.drew.drew.alloc (.cells (Extern.BytealgMakeNoZero.digits ((Question.appendCap n.toNat 0 E).cut (v.tape v.drawn (.appendCap n.toNat 0 E))) (Zhg.cut (v.tape (v.drawn + 1) Zhg)) #[]) E))
 else none
def sdata (s : Sl) : M (Option Addr) := fun v => match s.a with
 | none => some (none, v)
 | some a => if s.cap ≠ 0 then some (some a, v) else none
def upOf (p : Option Addr) : M (Option Addr) := fun v => match p with
 | none => some (none, v)
 | some a => match v.heap[a.block]? with
  | some (.cells cs _ _) => if a.off < cs.size then some (some a, v) else none
  | _ => none
def ptOf (T n : Nat) (p : Option Addr) : M (Option Addr) := fun v => match p with
 | none => some (none, v)
 | some a => match v.heap[a.block]? with
  | some (.cells cs T' _) => if T' = T ∧ cs.size = n ∧ a.off = 0 ∧ 0 < n then some (some a, v) else none
  | _ => none
def strI (b : ByteArray) : List Int := b.data.toList.map fun x => (x.toNat : Int)
theorem ZbI (b : ByteArray) : (strI b).length = b.size := by
 unfold strI
 rw [zl, Array.length_toList]
 rfl
def isB : Value → Bool
 | .int .u8 q => decide (0 ≤ q ∧ q ≤ 255)
 | _ => false
def ofB : Value → UInt8
 | .int _ q => UInt8.ofNat q.toNat
 | _ => 0
def ustr (E : Nat) (p : Option Addr) (n : Int) : M ByteArray := fun v =>
 if n = 0 then some (.empty, v) else match p with
 | none => none
 | some a => match v.heap[a.block]? with
  | some (.cells cs T _) => if T = E ∧ a.off = 0 ∧ a.spot = none ∧ 0 < n ∧ n ≤ cs.size ∧ n ≤ 9223372036854775807 ∧ (cs.toList.take n.toNat).all isB = true then some (⟨((cs.toList.take n.toNat).map ofB).toArray⟩, v.freeze a n.toNat) else none
  | _ => none
theorem ZeP (w : World) (a : Addr) (n : Nat) (b : Nat) : (w.freeze a n).heap[b]? = if a.block = b ∧ n ≠ 0 then (w.heap[b]?).map (fun | .cells c e (lo, hi) => .cells c e (if (lo == hi) = true then (a.off, a.off + n) else (min lo a.off, max hi (a.off + n))) | o => o) else w.heap[b]? := by
 unfold World.freeze
 by_cases hn : n = 0
 ·simp [hn]
 ·rw [if_neg hn]
  simp only [Array.getElem?_modify, hn, ne_eq, not_false_eq_true, and_true]
  split <;> rfl
theorem ZiC (w : World) (a : Addr) (n : Nat) : (w.freeze a n).heap.size = w.heap.size := by
 unfold World.freeze
 split
 ·rfl
 ·simp
theorem ZiD (w : World) (a : Addr) (n : Nat) : (w.freeze a n).os = w.os ∧ (w.freeze a n).tape = w.tape ∧ (w.freeze a n).drawn = w.drawn ∧ (w.freeze a n).output = w.output := by
 unfold World.freeze
 split <;> exact ⟨rfl, rfl, rfl, rfl⟩
theorem Sub.freezeN {v w : World} (h : Sub v w) (a : Addr) (n : Nat) (hb : ¬ Hid v a.block) : Sub (v.freeze a n) (w.freeze a n) := by
 obtain ⟨v1, v2, v3, v4⟩ := ZiD v a n
 obtain ⟨w1, w2, w3, w4⟩ := ZiD w a n
 refine h.turn hb (fun o => if n ≠ 0 then o.map (fun | .cells c e (lo, hi) => .cells c e (if (lo == hi) = true then (a.off, a.off + n) else (min lo a.off, max hi (a.off + n))) | o => o) else o) ⟨v1, v2, v3, v4, ZiC v a n⟩ ⟨w1, w2, w3, w4, ZiC w a n⟩ (fun b => ?_) (fun b => ?_)
 ·rw [ZeP]
  by_cases e : a.block = b <;> by_cases e2 : n ≠ 0 <;> simp [e, e2]
 ·rw [ZeP]
  by_cases e : a.block = b <;> by_cases e2 : n ≠ 0 <;> simp [e, e2]
theorem ZoR {v w : World} (hs : Sub v w) {b : Nat} {cs : Array Value} {T : TypeId} {fr : Nat × Nat} (h : v.heap[b]? = some (.cells cs T fr)) (hc : 0 < cs.size) : ¬ Hid v b ∧ w.heap[b]? = some (.cells cs T fr) := by
 have hnh : ¬ Hid v b := by
  rintro (⟨T', hT'⟩ | ⟨_, hT', _⟩) <;> rw [h] at hT' <;> cases hT'
  simp at hc
 exact ⟨hnh, (hs.block hnh).trans h⟩
theorem ZsQ {P : Program} {w : World} {b : Nat} {cs : Array Value} {T : TypeId} {fr : Nat × Nat} (h : w.heap[b]? = some (.cells cs T fr)) : (viewAt b).run P w = .ok none w := by
 unfold viewAt
 simp [Zrf h]
theorem Zk7 {P : Program} {w : World} {a : Addr} {cs : Array Value} {T : TypeId} {fr : Nat × Nat} (h : w.heap[a.block]? = some (.cells cs T fr)) : (Conv.seenAt a).run P w = .ok a w := by
 unfold Conv.seenAt
 simp [ZsQ h]
section
variable {β : Type} {c : Cx} {pend : List Pd} {is : List Nat} {m : Env} {h : Loc} {x : M β} {R : List Pd → Env → Loc → M β → Prop}
theorem SJ.fail {c : Fx} {k : List Item} {F : β → Reach} : SJ c k m h (Lx.fail : M β) F := fun v r v' e => by cases e
theorem OJ.fail : OJ c pend is m h (Lx.fail : M β) R := fun v r v' e => by cases e
theorem OJ.cat {i d : Nat} {T yT : TypeId} {y z : Operand} {p q : ByteArray} {f : Unit → M β} (hJ : OJ c pend is ((d, .string (p ++ q)) :: m) h (f ()) R) (hc : core c.ops m i = some (some d, .binOp .add T y z yT) := by kernel_rfl) (hy : evm m y = some (.string p) := by kernel_rfl) (hz : evm m z = some (.string q) := by kernel_rfl) (hk : kdP c.kd i = true := by kernel_rfl) (hn : noW c.kd [i] pend = true := by kernel_rfl) (hd : Nat.blt d c.n = true := by kernel_rfl) : OJ c pend (i :: is) m h (chk (((p.size + q.size : Nat) : Int) ≤ 9223372036854775807) >>= f) R := by
 refine OJ.q hc hk hn hd fun v r v' e w a s => ?_
 obtain ⟨ad, v1, h1, h2⟩ := bind_some.1 e
 obtain ⟨hq, rfl⟩ := Zgi h1
 refine ⟨_, _, fun o ho w' => ?_, h2, hJ⟩
 obtain ⟨dst, op, type, pos, after, guard⟩ := o
 simp only at ho
 subst ho
 refine Zes (s.eval hy) (s.eval hz) (Zd2 (by rintro _ _ ⟨h, _⟩; cases h) (by rintro ⟨h, _⟩; cases h) _) ?_
 show (Op.stringOp .add p q).run c.P w' = _
 unfold Op.stringOp
 have hmax : IntKind.i64.max = 9223372036854775807 := rfl
 simp only [hmax]
 rw [if_neg (by omega)]
 rfl
theorem OJ.capS {i d : Nat} {so : Operand} {t E : TypeId} {s : Sl} (hJ : OJ c pend is ((d, .int .i64 (s.cap : Int)) :: m) h x R) (hc : core c.ops m i = some (some d, .call { callee := .builtin .cap, args := #[so], argTypes := #[t] }) := by kernel_rfl) (ht : c.P.underlying t = some (.slice E) := by kernel_rfl) (hs : evm m so = some s.v := by kernel_rfl) (hk : kdP c.kd i = true := by kernel_rfl) (hn : noW c.kd [i] pend = true := by kernel_rfl) (hd : Nat.blt d c.n = true := by kernel_rfl) : OJ c pend (i :: is) m h x R := by
 refine OJ.q hc hk hn hd fun v r v' e w a st => ?_
 refine ⟨_, _, fun oo ho w' => Zki ho fun ty' cs => ?_, e, hJ⟩
 rw [st.eval hs]
 have e1 : (Builtin.cap_ #[t] ty' #[s.v]).run c.P w' = .ok (.int .i64 (s.cap : Int)) w' := by
  unfold Builtin.cap_ Sl.v
  simp [ZaE ht, goInt]
 simp only [builtin, Sem.run_bind, e1, Result.andThen_ok, Sem.run_pure]
theorem Ztt {P : Program} {T E : TypeId} (hT : P.underlying T = some (.pointer E)) (hE : (P.info? E).map (fun i => Nat.blt 0 i.size) = some true) {p q : Option Addr} {v v' : World} {b : Bool} (h : ptrEq p q v = some (b, v')) (w : World) : v' = v ∧ (Op.equal T (.pointer p) (.pointer q)).run P w = .ok b w := by
 obtain ⟨inf, hi, hs⟩ := Option.map_eq_some_iff.1 hE
 have hs' : inf.size ≠ 0 := by
  intro h0
  rw [h0] at hs
  cases hs
 rw [ZiY]
 unfold ptrEq at h
 cases p with
 | none =>
  simp only [zt, zA] at h
  obtain ⟨rfl, rfl⟩ := h
  refine ⟨rfl, ?_⟩
  unfold Op.equalIn
  simp only [Sem.run_bind, ZaE hT, Result.andThen_ok]
  cases q <;> rfl
 | some a =>
  cases q with
  | none =>
   simp only [zt, zA] at h
   obtain ⟨rfl, rfl⟩ := h
   refine ⟨rfl, ?_⟩
   unfold Op.equalIn
   simp only [Sem.run_bind, ZaE hT, Result.andThen_ok]
   rfl
  | some b' =>
   simp only at h
   split at h
   ·rename_i hb
    simp only [zt, zA] at h
    obtain ⟨rfl, rfl⟩ := h
    refine ⟨rfl, ?_⟩
    unfold Op.equalIn
    simp only [Sem.run_bind, ZaE hT, Result.andThen_ok, ZkH hi, ne_eq, hs', not_false_eq_true, if_true]
    unfold sameAddr
    simp [hb]
    rfl
   ·cases h
theorem OJ.pneq {i d : Nat} {T E yT : TypeId} {y z : Operand} {p q : Option Addr} {f : Bool → M β} (hJ : ∀ r, OJ c pend is ((d, .bool (!r)) :: m) h (f r) R) (hc : core c.ops m i = some (some d, .binOp .neq T y z yT) := by kernel_rfl) (hT : c.P.underlying T = some (.pointer E) := by kernel_rfl) (hE : (c.P.info? E).map (fun i => Nat.blt 0 i.size) = some true := by kernel_rfl) (hy : evm m y = some (.pointer p) := by kernel_rfl) (hz : evm m z = some (.pointer q) := by kernel_rfl) (hk : kdP c.kd i = true := by kernel_rfl) (hn : noW c.kd [i] pend = true := by kernel_rfl) (hd : Nat.blt d c.n = true := by kernel_rfl) : OJ c pend (i :: is) m h (ptrEq p q >>= f) R := by
 refine OJ.q hc hk hn hd fun v r v' e w a s => ?_
 obtain ⟨b, v1, h1, h2⟩ := bind_some.1 e
 obtain ⟨rfl, _⟩ := Ztt hT hE h1 w
 refine ⟨_, _, fun o ho w' => ?_, h2, hJ b⟩
 obtain ⟨dst, op, type, pos, after, guard⟩ := o
 simp only at ho
 subst ho
 refine Zes (s.eval hy) (s.eval hz) (Zd2 (by rintro _ _ ⟨h, _⟩; cases h) (by rintro ⟨h, _⟩; cases h) _) ?_
 exact (ZjA (Ztt hT hE h1 w').2 (by rintro _ _ _ _ ⟨h, _⟩; cases h) (by rintro _ _ _ _ ⟨h, _⟩; cases h) (by rintro _ _ _ _ _ _ ⟨h, _⟩; cases h) (by rintro _ _ ⟨h, _⟩; cases h)).2
theorem Zvd {P : Program} {s : ByteArray} {q : Int} : ∀ v w, Sub v w → ∀ r v', idxB s q v = some (r, v') → ∃ w', (Extern.BytealgIndexByte.indexByte [.string s, .int .u8 q].toArray).run P w = .ok (.int .i64 r) w' ∧ Sub v' w' ∧ ∀ b, Husk v b → w'.heap[b]? = w.heap[b]? ∧ v'.heap[b]? = v.heap[b]? := by
 intro v w hs r v' hq
 cases hq
 exact ⟨w, run_indexByte_string s q w, hs, fun _ _ => ⟨rfl, rfl⟩⟩
theorem Ztv {P : Program} {p : Option Addr} : ∀ v w, Sub v w → ∀ r v', noesc p v = some (r, v') → ∃ w', (Extern.AbiNoEscape.same [.pointer p].toArray).run P w = .ok (.pointer r) w' ∧ Sub v' w' ∧ ∀ b, Husk v b → w'.heap[b]? = w.heap[b]? ∧ v'.heap[b]? = v.heap[b]? := by
 intro v w hs r v' hq
 cases hq
 exact ⟨w, rfl, hs, fun _ _ => ⟨rfl, rfl⟩⟩
theorem ZuX {P : Program} {t E : TypeId} {ps : Array TypeId} (ht : P.underlying t = some (.slice E)) {n : Int} : ∀ v w, Sub v w → ∀ r v', mkNZ E n v = some (r, v') → ∃ w', (Extern.BytealgMakeNoZero.makeNoZero ps #[t] [.int .i64 n].toArray).run P w = .ok r.v w' ∧ Sub v' w' ∧ ∀ b, Husk v b → w'.heap[b]? = w.heap[b]? ∧ v'.heap[b]? = v.heap[b]? := by
 intro v w hs r v' hq
 unfold mkNZ at hq
 split at hq
 ·rename_i hn
  simp only [zt, zA] at hq
  obtain ⟨rfl, rfl⟩ := hq
  refine ⟨w.drew.drew.alloc (.cells (Extern.BytealgMakeNoZero.digits ((Question.appendCap n.toNat 0 E).cut (w.tape w.drawn (.appendCap n.toNat 0 E))) (Zhg.cut (w.tape (w.drawn + 1) Zhg)) #[]) E), ?_, ?_, ?_⟩
  ·have hno : ¬ (n < 0 ∨ n > 2 ^ 48) := by omega
   have hno2 : ¬ ((decide (n < 0) || decide (n > 2 ^ 48)) = true) := by simpa using hno
   have hts : w.tape = v.tape := hs.tape
   have hd : w.drawn = v.drawn := hs.drawn
   have f1 : (Question.appendCap n.toNat 0 E).forced = false := rfl
   have f2 : (Question.extern "internal/bytealg.MakeNoZero.bytes" 0).forced = false := rfl
   have hroom : ∀ (k : Nat) (w : World), (askRoom k).run P w = .ok () w := fun k w => by
    unfold askRoom
    split <;> rfl
   change Sem.run P (underlying t >>= _) w = _
   rw [Sem.run_bind, ZaE ht]
   have h1 : ¬ n < 0 := by omega
   have h2 : ¬ (281474976710656 : Int) < n := by omega
   simp [h1, h2, f1, f2, hroom, newRow, hts, hd, hs.size, Sl.v, Zhg, pt]
  ·have := ((hs.drew).drew).alloc (.cells (Extern.BytealgMakeNoZero.digits ((Question.appendCap n.toNat 0 E).cut (v.tape v.drawn (.appendCap n.toNat 0 E))) (Zhg.cut (v.tape (v.drawn + 1) Zhg)) #[]) E)
   rw [hs.tape, hs.drawn]
   exact this
  ·exact ZkT (v := v.drew.drew) (w := w.drew.drew) hs.drew.drew _ _
 ·cases hq
theorem ZnR {P : Program} {T : TypeId} (hE : (P.info? T).map (fun i => Nat.blt 0 i.size) = some true) (w : World) : ∃ k, k ≠ 0 ∧ (sizeOf T).run P w = .ok k w := by
 obtain ⟨inf, hi, hs⟩ := Option.map_eq_some_iff.1 hE
 refine ⟨inf.size, ?_, ZkH hi w⟩
 intro h0
 rw [h0] at hs
 cases hs
theorem ZuD {P : Program} {t E u : TypeId} (ht : P.underlying t = some (.pointer E)) (hu : P.underlying u = some .unsafePointer) (hE : (P.info? E).map (fun i => Nat.blt 0 i.size) = some true) {p r : Option Addr} {v w v' : World} (hs : Sub v w) (hq : upOf p v = some (r, v')) :
  v' = v ∧ (Conv.unsafePointer t u (.pointer p)).run P w = .ok (.pointer r) w := by
 unfold upOf at hq
 cases p with
 | none =>
  simp only [zt, zA] at hq
  obtain ⟨rfl, rfl⟩ := hq
  refine ⟨rfl, ?_⟩
  unfold Conv.unsafePointer
  simp only [Sem.run_bind, ZaE ht, ZaE hu, Result.andThen_ok]
  rfl
 | some a =>
  simp only at hq
  split at hq
  ·rename_i cs T fr hh
   split at hq
   ·rename_i ho
    simp only [zt, zA] at hq
    obtain ⟨rfl, rfl⟩ := hq
    refine ⟨rfl, ?_⟩
    obtain ⟨_, hw⟩ := ZoR hs hh (by omega)
    obtain ⟨k, hk, hsz⟩ := ZnR hE w
    unfold Conv.unsafePointer
    simp only [Sem.run_bind, ZaE ht, ZaE hu, Result.andThen_ok, Zk7 hw]
    have hci : (cellsIn a.block).run P w = .ok (some cs.size) w := by
     unfold cellsIn
     simp [Zrf hw]
    have h3 : ¬ cs.size ≤ a.off := by omega
    simp [hci, hsz, hk, h3]
   ·cases hq
  ·cases hq
theorem ZuQ {P : Program} {t E u T n : TypeId} (ht : P.underlying t = some (.pointer E)) (hu : P.underlying u = some .unsafePointer) (hE : (P.info? E).map (fun i => Nat.blt 0 i.size) = some true) (hl : liesAt P P.depth T (n / P.cellsOf T) 0 E 1 = true) {p r : Option Addr} {v w v' : World} (hs : Sub v w) (hq : ptOf T n p v = some (r, v')) :
  v' = v ∧ (Conv.unsafePointer u t (.pointer p)).run P w = .ok (.pointer r) w := by
 unfold ptOf at hq
 cases p with
 | none =>
  simp only [zt, zA] at hq
  obtain ⟨rfl, rfl⟩ := hq
  refine ⟨rfl, ?_⟩
  unfold Conv.unsafePointer
  simp only [Sem.run_bind, ZaE ht, ZaE hu, Result.andThen_ok]
  rfl
 | some a =>
  simp only at hq
  split at hq
  ·rename_i cs T' fr hh
   split at hq
   ·rename_i ho
    obtain ⟨rfl, rfl, ho, hn⟩ := ho
    simp only [zt, zA] at hq
    obtain ⟨rfl, rfl⟩ := hq
    refine ⟨rfl, ?_⟩
    obtain ⟨_, hw⟩ := ZoR hs hh hn
    obtain ⟨k, hk, hsz⟩ := ZnR hE w
    unfold Conv.unsafePointer
    simp only [Sem.run_bind, ZaE ht, ZaE hu, Result.andThen_ok, Zk7 hw]
    have hva : (variablesAt a E 1).run P w = .ok true w := by
     unfold variablesAt
     have hsh : w.shape? a.block = some (T', cs.size) := by simp [World.shape?, hw]
     simp [program, shape, Sem.run, ho, hl, hsh]
    simp [hsz, hk, hva]
   ·cases hq
  ·cases hq
theorem Zmc {P : Program} {ty : TypeId} {ts : Array TypeId} {s : Sl} {r : Option Addr} {v w v' : World} (hq : sdata s v = some (r, v')) : v' = v ∧ (Builtin.unsafeSliceData_ ts ty #[s.v]).run P w = .ok (.pointer r) w := by
 unfold sdata at hq
 cases ha : s.a with
 | none =>
  rw [ha] at hq
  simp only [zt, zA] at hq
  obtain ⟨rfl, rfl⟩ := hq
  refine ⟨rfl, ?_⟩
  unfold Sl.v
  rw [ha]
  rfl
 | some a =>
  rw [ha] at hq
  simp only at hq
  split at hq
  ·rename_i hc
   simp only [zt, zA] at hq
   obtain ⟨rfl, rfl⟩ := hq
   refine ⟨rfl, ?_⟩
   unfold Sl.v
   rw [ha]
   show Sem.run P (if s.cap ≠ 0 then _ else _) w = _
   rw [if_pos hc]
   rfl
  ·cases hq
theorem Zw6 {x : Value} (h : isB x = true) : x = .int .u8 ((ofB x).toNat : Int) := by
 cases x <;> try (cases h; done)
 rename_i k q
 cases k <;> try (cases h; done)
 simp only [isB, decide_eq_true_eq] at h
 simp only [ofB]
 congr 1
 rw [UInt8.toNat_ofNat']
 omega
theorem ZuB {P : Program} {pt E u T : TypeId} (hp : P.underlying pt = some (.pointer E)) (hc : P.cellsOf E = 1) {p : Option Addr} {n : Int} {b : ByteArray} {v w v' : World} (hs : Sub v w) (hq : ustr E p n v = some (b, v')) :
  ∃ w', (Builtin.unsafeString_ #[pt, T] u #[.pointer p, .int .i64 n]).run P w = .ok (.string b) w' ∧ Sub v' w' ∧ ∀ b, Husk v b → w'.heap[b]? = w.heap[b]? ∧ v'.heap[b]? = v.heap[b]? := by
 unfold ustr at hq
 split at hq
 ·rename_i hn
  subst hn
  simp only [zt, zA] at hq
  obtain ⟨rfl, rfl⟩ := hq
  exact ⟨w, Lib.run_unsafeString_none w _ _ _ p, hs, fun _ _ => ⟨rfl, rfl⟩⟩
 ·rename_i hn
  cases p with
  | none => cases hq
  | some a =>
   simp only at hq
   split at hq
   ·rename_i cs T' fr hh
    split at hq
    ·rename_i ho
     obtain ⟨rfl, o1, o2, o3, o4, o5, o6⟩ := ho
     simp only [zt, zA] at hq
     obtain ⟨rfl, rfl⟩ := hq
     obtain ⟨hnh, hw⟩ := ZoR hs hh (by omega)
     obtain ⟨g, off, spot⟩ := a
     simp only at o1 o2 hw hnh hh
     subst o1 o2
     have hlen : ((cs.toList.take n.toNat).map ofB).length = n.toNat := by
      rw [zl, zm, Array.length_toList]
      omega
     have hr := Lib.run_unsafeString_row (P := P) w pt T u T' hp hc g cs.size (by simp [World.shape?, hw]) ((cs.toList.take n.toNat).map ofB) (fun e => by rw [e] at hlen; simp at hlen; omega) (by omega) (by omega) (fun j x hx => by
      rw [zD] at hx
      obtain ⟨y, hy, rfl⟩ := Option.map_eq_some_iff.1 hx
      have hb := List.all_eq_true.1 o6 y (zk hy)
      rw [List.getElem?_take] at hy
      split at hy
      ·have e3 : (⟨g, 0, none⟩ : Addr).add j = ⟨g, 0 + j, none⟩ := by
        unfold Addr.add
        split <;> simp_all
       rw [e3, ← Zw6 hb]
       unfold World.cell?
       simp only [hw]
       simp only [Option.isSome_none, Bool.false_eq_true, if_false, Nat.zero_add]
       simpa using hy
      ·cases hy)
     rw [hlen] at hr
     refine ⟨w.freeze ⟨g, 0, none⟩ n.toNat, ?_, hs.freezeN _ _ hnh, fun b hb => ?_⟩
     ·rw [← hr]
      congr 2
      simp
      omega
     ·have hne : g ≠ b := fun e => hnh (e ▸ .inl hb)
      rw [ZeP, ZeP]
      simp [hne]
    ·cases hq
   ·cases hq
theorem OJ.upOf {i d t E u : Nat} {x : Operand} {p : Option Addr} {owed : List Pd} {f : Option Addr → M β} (hJ : ∀ r : Option Addr, OW c owed pend is ((d, .pointer r) :: m) h (f r) R) (hc : core c.ops m i = some (some d, .convert t u x) := by kernel_rfl) (ht : c.P.underlying t = some (.pointer E) := by kernel_rfl) (hu : c.P.underlying u = some .unsafePointer := by kernel_rfl) (hE : (c.P.info? E).map (fun i => Nat.blt 0 i.size) = some true := by kernel_rfl) (hx : evm m x = some (.pointer p) := by kernel_rfl) (hd : Nat.blt d c.n = true := by kernel_rfl) (hk : kdW c.kd i = true := by kernel_rfl) (ho : owes c.bef i pend = owed := by kernel_rfl) : OJ c pend (i :: is) m h (Lx.upOf p >>= f) R := by
 refine OJ.sem (out := fun r => .pointer r) hc (fun v w a st r v' e => ?_) hd hk ho hJ
 obtain ⟨rfl, hrun⟩ := ZuD (P := c.P) ht hu hE st.sub e
 refine ⟨w, fun o hop => ZiE hop (st.eval hx) ?_, st.sub, fun _ _ => ⟨rfl, rfl⟩⟩
 unfold convert
 simp only [Sem.run_bind, ZaE ht, ZaE hu, Result.andThen_ok]
 exact hrun
theorem OJ.ptOf {i d t E u T n : Nat} {x : Operand} {p : Option Addr} {owed : List Pd} {f : Option Addr → M β} (hl : liesAt c.P c.P.depth T (n / c.P.cellsOf T) 0 E 1 = true) (hJ : ∀ r : Option Addr, OW c owed pend is ((d, .pointer r) :: m) h (f r) R) (hc : core c.ops m i = some (some d, .convert u t x) := by kernel_rfl) (ht : c.P.underlying t = some (.pointer E) := by kernel_rfl) (hu : c.P.underlying u = some .unsafePointer := by kernel_rfl) (hE : (c.P.info? E).map (fun i => Nat.blt 0 i.size) = some true := by kernel_rfl) (hx : evm m x = some (.pointer p) := by kernel_rfl) (hd : Nat.blt d c.n = true := by kernel_rfl) (hk : kdW c.kd i = true := by kernel_rfl) (ho : owes c.bef i pend = owed := by kernel_rfl) : OJ c pend (i :: is) m h (Lx.ptOf T n p >>= f) R := by
 refine OJ.sem (out := fun r => .pointer r) hc (fun v w a st r v' e => ?_) hd hk ho hJ
 obtain ⟨rfl, hrun⟩ := ZuQ (P := c.P) ht hu hE hl st.sub e
 refine ⟨w, fun o hop => ZiE hop (st.eval hx) ?_, st.sub, fun _ _ => ⟨rfl, rfl⟩⟩
 unfold convert
 simp only [Sem.run_bind, ZaE ht, ZaE hu, Result.andThen_ok]
 exact hrun
theorem OJ.sdata {i d t : Nat} {x : Operand} {s : Sl} {owed : List Pd} {f : Option Addr → M β} (hJ : ∀ r : Option Addr, OW c owed pend is ((d, .pointer r) :: m) h (f r) R) (hc : core c.ops m i = some (some d, .call { callee := .builtin .unsafeSliceData, args := #[x], argTypes := #[t] }) := by kernel_rfl) (hx : evm m x = some s.v := by kernel_rfl) (hd : Nat.blt d c.n = true := by kernel_rfl) (hk : kdW c.kd i = true := by kernel_rfl) (ho : owes c.bef i pend = owed := by kernel_rfl) : OJ c pend (i :: is) m h (Lx.sdata s >>= f) R := by
 refine OJ.sem (out := fun r => .pointer r) hc (fun v w a st r v' e => ?_) hd hk ho hJ
 refine ⟨w, fun o hop => Zki hop fun ty' cs => ?_, (Zmc (P := c.P) (ty := 0) (ts := #[]) (w := w) e).1 ▸ st.sub, fun _ _ => ⟨rfl, by rw [(Zmc (P := c.P) (ty := 0) (ts := #[]) (w := w) e).1]⟩⟩
 rw [st.eval hx]
 simp only [builtin, Sem.run_bind, (Zmc (P := c.P) (w := w) e).2, Result.andThen_ok, Sem.run_pure]
theorem OJ.ustr {i d t t2 E : Nat} {x y : Operand} {p : Option Addr} {n : Int} {owed : List Pd} {f : ByteArray → M β} (hJ : ∀ r : ByteArray, OW c owed pend is ((d, .string r) :: m) h (f r) R) (hc : core c.ops m i = some (some d, .call { callee := .builtin .unsafeString, args := #[x, y], argTypes := #[t, t2] }) := by kernel_rfl) (ht : c.P.underlying t = some (.pointer E) := by kernel_rfl) (hE : c.P.cellsOf E = 1 := by kernel_rfl) (hx : evm m x = some (.pointer p) := by kernel_rfl) (hy : evm m y = some (.int .i64 n) := by kernel_rfl) (hd : Nat.blt d c.n = true := by kernel_rfl) (hk : kdW c.kd i = true := by kernel_rfl) (ho : owes c.bef i pend = owed := by kernel_rfl) : OJ c pend (i :: is) m h (Lx.ustr E p n >>= f) R := by
 refine OJ.sem (out := fun b => .string b) hc (fun v w a st r v' e => ?_) hd hk ho hJ
 obtain ⟨w', e1, e2, e3⟩ := ZuB (P := c.P) (u := 0) (T := t2) ht hE st.sub e
 refine ⟨w', fun o hop => Zgh hop fun ty' cs => ?_, e2, e3⟩
 rw [st.eval hx, st.eval hy]
 have : (Builtin.unsafeString_ #[t, t2] ty' #[.pointer p, .int .i64 n]) = Builtin.unsafeString_ #[t, t2] 0 #[.pointer p, .int .i64 n] := rfl
 simp only [builtin, Sem.run_bind, this, e1, Result.andThen_ok, Sem.run_pure]
theorem OJ.appT {i d t u E bytes : Nat} {so xo : Operand} {s : Sl} {y : ByteArray} {owed : List Pd} {f : Sl → M β} (ty : Ty c.P E (cI .u8) 0) (hJ : ∀ r : Sl, OW c owed pend is ((d, r.v) :: m) h (f r) R) (hc : core c.ops m i = some (some d, .call { callee := .builtin .append, args := #[so, xo], argTypes := #[t, u] }) := by kernel_rfl) (ht : c.P.underlying t = some (.slice E) := by kernel_rfl) (hu : rowT c.P u = true := by kernel_rfl) (hby : (c.P.info? E).map (·.bytes) = some bytes := by kernel_rfl) (hs : evm m so = some s.v := by kernel_rfl) (hx : evm m xo = some (.string y) := by kernel_rfl) (hd : Nat.blt d c.n = true := by kernel_rfl) (hk : kdW c.kd i = true := by kernel_rfl) (ho : owes c.bef i pend = owed := by kernel_rfl) : OJ c pend (i :: is) m h (Lx.appl (cI .u8) E bytes 0 s (strI y) >>= f) R := by
 refine OJ.sem (out := Sl.v) hc (fun v w a st r v' e => ?_) hd hk ho hJ
 obtain ⟨inf, hi, hsz, hz⟩ := ty.parts
 have hb2 : inf.bytes = bytes := by rw [hi] at hby; simpa using hby
 have hcells : (strI y).flatMap (cI .u8).enc = Lib.strCells y := by
  unfold strI Lib.strCells
  rw [List.flatMap_map]
  rw [List.map_eq_flatMap]
  rfl
 have h0 := fun w' : World => Lib.run_firstCells_string (P := c.P) w' inf.size y
 obtain ⟨w', e1, e2, e3⟩ := ZkS (P := c.P) (t := t) (u := u) (ty := 0) (xv := .string y) (n := y.size) (new := Lib.strCells y) ht hu hi hz st.sub (fun w' => rfl) (h0 w) (h0 w.drew) (s := s) (r := r) (v' := v') (by
  rw [hsz, hb2, (cI .u8).cells]
  unfold Lx.appl at e
  rw [hcells, ZbI] at e
  exact e)
 refine ⟨w', fun o hop => ZjN hop (st.eval hs) (st.eval hx) (fun ty => e1), e2, e3⟩
end
end Go.Proofs.YtfnokeoldcfcoaaGreatDoor.Lx
