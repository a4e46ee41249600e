/- The machine 'Lx', the row kit: what the claim's reader met in an argument, told as a codec's value; and from a program's answer to the claim's. -/
import Derived.Test.YtlkhijflgbobjaaLxI
import Derived.WalkKit
import Derived.ProofKit
import Derived.OpenShut
import Derived.ShutString
import Derived.ChangeOld
import Derived.Below
import Derived.SizedLaws
set_option linter.unusedVariables false
set_option linter.unusedSimpArgs false
namespace Go.Proofs.Ytlkhijflgbobjaa.Lx
open Go Go.ChangeShapes Go.WideShapes Go.RowKit
def Small (P : Program) (T : TypeId) {H : Type} (d : DataW H) : Prop := ∀ n ∈ d.weights P T, n ≤ reachBytes
theorem weightsAll_mem {P : Program} {e : TypeId} {H : Type} {d : DataW H} {n : Nat} : ∀ {l : List (DataW H)}, d ∈ l → n ∈ d.weights P e → n ∈ DataW.weightsAll P e l
  | y :: l, h, hn => by
    simp only [DataW.weightsAll, List.mem_append]
    rcases List.mem_cons.1 h with rfl | h
    · exact .inl hn
    · exact .inr (weightsAll_mem h hn)
def Opens (P : Program) (T : TypeId) {α : Type} (c : Cod α) (G : World → α → Prop) : Prop :=
  ∀ (H : Type) (enc : TypeId × Value → H) (W : World) (fuel : Nat) (cs : List Value) (x : DataW H × List MemPlace), DataW.trod enc P W 0 (fun _ => true) true fuel T cs = some x → Small P T x.1 → ∃ u, cs = c.enc u ∧ G W u
theorem Opens.int {P : Program} {T : TypeId} {k : IntKind} (h : P.underlying T = some (.int k)) : Opens P T (cI k) (fun _ n => (Lit.int k n).wf = true) := by
  intro H enc W fuel cs x hx hs
  obtain ⟨n, rfl, _, hw⟩ := DataW.trod_int h hx
  exact ⟨n, rfl, hw⟩
theorem Opens.bool {P : Program} {T : TypeId} (h : P.underlying T = some .bool) : Opens P T cB (fun _ _ => True) := by
  intro H enc W fuel cs x hx hs
  obtain ⟨n, rfl, _⟩ := DataW.trod_bool h hx
  exact ⟨n, rfl, trivial⟩
theorem Opens.iso {P : Program} {T : TypeId} {α β : Type} {c : Cod α} {G : World → α → Prop} (h : Opens P T c G) (f : β → α) (g : α → β) (h1 : ∀ y, g (f y) = y) (h2 : ∀ x, f (g x) = x) : Opens P T (c.iso f g h1 h2) (fun W y => G W (f y)) := by
  intro H enc W fuel cs x hx hs
  obtain ⟨u, rfl, hg⟩ := h H enc W fuel cs x hx hs
  exact ⟨g u, by show c.enc u = c.enc (f (g u)); rw [h2], by show G W (f (g u)); rw [h2]; exact hg⟩
def OpensF (P : Program) (o : Nat) (fs : List Field) {α : Type} (c : Cod α) (G : World → α → Prop) : Prop :=
  ∀ (H : Type) (enc : TypeId × Value → H) (W : World) (fuel : Nat) (cs : List Value), (∀ f ∈ fs, ∃ x : DataW H × List MemPlace, DataW.trod enc P W 0 (fun _ => true) true fuel f.type ((cs.drop f.offset).take (P.cellsOf f.type)) = some x ∧ Small P f.type x.1) → ∃ u, (cs.drop o).take c.n = c.enc u ∧ G W u
theorem OpensF.one {P : Program} {o : Nat} {f : Field} {α : Type} {c : Cod α} {G : World → α → Prop} (h : Opens P f.type c G) (ho : f.offset = o) (hc : P.cellsOf f.type = c.n) : OpensF P o [f] c G := by
  intro H enc W fuel cs hx
  obtain ⟨x, hx, hs⟩ := hx f (by simp)
  rw [ho, hc] at hx
  exact h H enc W fuel _ _ hx hs
theorem OpensF.cons {P : Program} {o : Nat} {f : Field} {fs : List Field} {α β : Type} {c : Cod α} {d : Cod β} {G : World → α → Prop} {G' : World → β → Prop} (h : Opens P f.type c G) (ho : f.offset = o) (hc : P.cellsOf f.type = c.n) (hr : OpensF P (o + c.n) fs d G') : OpensF P o (f :: fs) (c.pair d) (fun W u => G W u.1 ∧ G' W u.2) := by
  intro H enc W fuel cs hx
  obtain ⟨x, h1, hs⟩ := hx f (by simp)
  rw [ho, hc] at h1
  obtain ⟨u, e1, g1⟩ := h H enc W fuel _ _ h1 hs
  obtain ⟨y, e2, g2⟩ := hr H enc W fuel cs (fun f' hf => hx f' (by simp [hf]))
  refine ⟨(u, y), ?_, g1, g2⟩
  show (cs.drop o).take (c.n + d.n) = c.enc u ++ d.enc y
  rw [List.take_add, e1, List.drop_drop, e2]
theorem Opens.struct {P : Program} {T : TypeId} {fs : Array Field} {α : Type} {c : Cod α} {G : World → α → Prop} (h : P.underlying T = some (.struct fs)) (hc : P.cellsOf T = c.n) (hf : OpensF P 0 fs.toList c G) : Opens P T c G := by
  intro H enc W fuel cs x hx hs
  obtain ⟨xs, n, rfl, rfl, hl, hn, he⟩ := DataW.trod_struct h hx
  obtain ⟨u, e, g⟩ := hf H enc W n cs (fun f hf => by
    obtain ⟨i, hi⟩ := List.getElem?_of_mem hf
    rw [Array.getElem?_toList] at hi
    rw [he i f hi]
    have : i < xs.length := by rw [hn]; exact (Array.getElem?_eq_some_iff.1 hi).1
    refine ⟨_, List.getElem?_eq_getElem this, fun m hm => hs m ?_⟩
    simp only [DataW.weights, h]
    exact DataW.weights_mem_each (j := i) (t := f.type) (d := xs[i].1) (by simp [hi]) (by simp [this]) m hm)
  refine ⟨u, ?_, g⟩
  rw [← e, List.drop_zero, List.take_of_length_le (by omega)]
theorem Opens.arr {P : Program} {T e : TypeId} {n : Nat} {α : Type} {c : Cod α} {G : World → α → Prop} (h : P.underlying T = some (.array n e)) (hc : P.cellsOf e = c.n) (hC : P.cellsOf T = n * c.n) (hf : Opens P e c G) : Opens P T (c.arr n) (fun W v => ∀ x ∈ v.l, G W x) := by
  intro H enc W fuel cs x hx hs
  obtain ⟨xs, m, rfl, rfl, hl, hn, he⟩ := DataW.trod_array h hx
  have key : ∀ k, k ≤ n → ∃ l : List α, l.length = k ∧ cs.take (k * c.n) = l.flatMap c.enc ∧ ∀ x ∈ l, G W x := by
    intro k
    induction k with
    | zero => intro _; exact ⟨[], rfl, by simp, by simp⟩
    | succ k ih =>
      intro hk
      obtain ⟨l, l1, l2, l3⟩ := ih (by omega)
      have h2 := he k (by omega)
      rw [hc, List.getElem?_eq_getElem (by omega)] at h2
      obtain ⟨u, e1, g1⟩ := hf H enc W m _ _ h2 (fun y hy => hs y (by
        simp only [DataW.weights, h]
        exact weightsAll_mem (List.mem_map.2 ⟨xs[k]'(by omega), List.getElem_mem _, rfl⟩) hy))
      refine ⟨l ++ [u], by simp [l1], ?_, fun x hx => ?_⟩
      · rw [Nat.succ_mul, List.take_add, l2, e1]; simp
      · rcases List.mem_append.1 hx with hx | hx
        · exact l3 x hx
        · simp only [List.mem_singleton] at hx; subst hx; exact g1
  obtain ⟨l, l1, l2, l3⟩ := key n (Nat.le_refl _)
  refine ⟨⟨l, l1⟩, ?_, l3⟩
  rw [Cod.arr_enc, ← l2, List.take_of_length_le (by omega)]
theorem rdF_of {w : World} {a : Addr} : ∀ (n i : Nat) (l : List Value), l.length = n → (∀ j, j < n → w.cell? (a.add (i + j)) = l[j]?) → rdF w a i n = some l
  | 0, i, l, hl, _ => by cases l <;> simp_all [rdF]
  | n + 1, i, [], hl, _ => by cases hl
  | n + 1, i, x :: l, hl, h => by
    simp only [rdF]
    have h0 := h 0 (by omega)
    rw [Nat.add_zero] at h0
    rw [h0]
    simp only [List.getElem?_cons_zero, Option.bind_some]
    rw [rdF_of n (i + 1) l (by simpa using hl) (fun j hj => by
      have := h (j + 1) (by omega)
      rw [show i + 1 + j = i + (j + 1) by omega, this]; simp)]
    rfl
def GSl {α : Type} (c : Cod α) (k : Nat) (G : World → α → Prop) (W : World) (s : Sl) : Prop :=
  s = Sl.nil ∨ ∃ a, s.a = some a ∧ s.len ≤ s.cap ∧ s.cap ≤ maxLen ∧ s.cap * k ≤ reachBytes ∧ ∃ l : List α, l.length = s.cap ∧ ∀ (i : Nat) (h : i < l.length), rdF W (a.add (i * c.n)) 0 c.n = some (c.enc l[i]) ∧ G W l[i]
theorem Opens.slice {P : Program} {T e : TypeId} {α : Type} {c : Cod α} {G : World → α → Prop} (h : P.underlying T = some (.slice e)) (hc : P.cellsOf e = c.n) (hf : Opens P e c G) : Opens P T cL (GSl c (P.bytesOf e) G) := by
  intro H enc W fuel cs x hx hs
  rcases DataW.trod_slice h hx with ⟨rfl, _⟩ | ⟨a, len, cap, elems, rest, n, rfl, rfl, rfl, _, hl, hm, hlen, hel, hsp, _⟩
  · exact ⟨Sl.nil, rfl, .inl rfl⟩
  · obtain ⟨hr, hre⟩ := hsp rfl
    have hby : cap * P.bytesOf e ≤ reachBytes := by
      have := hs ((elems.length + rest.length) * P.bytesOf e) (by simp [DataW.weights, h])
      rwa [hlen, hr, Nat.add_sub_cancel' hl] at this
    refine ⟨⟨some a, len, cap⟩, rfl, .inr ⟨a, rfl, hl, hm, hby, ?_⟩⟩
    have each : ∀ i, i < cap → ∃ u, rdF W (a.add (i * c.n)) 0 c.n = some (c.enc u) ∧ G W u := by
      intro i hi
      have : ∃ y ∈ elems ++ rest, (W.cells? 0 (a.add (i * P.cellsOf e)) (P.cellsOf e)).bind (DataW.trod enc P W 0 (fun _ => true) true n e) = some y := by
        by_cases h1 : i < len
        · rw [hel i h1]; exact ⟨elems[i]'(by omega), List.mem_append_left _ (List.getElem_mem _), List.getElem?_eq_getElem (by omega)⟩
        · have := hre (i - len) (by omega)
          rw [show len + (i - len) = i by omega] at this
          rw [this]; exact ⟨rest[i - len]'(by omega), List.mem_append_right _ (List.getElem_mem _), List.getElem?_eq_getElem (by omega)⟩
      obtain ⟨y, hm, hy⟩ := this
      obtain ⟨cs, h1, h2⟩ := Option.bind_eq_some_iff.1 hy
      obtain ⟨u, rfl, g⟩ := hf H enc W n cs y h2 (fun q hq => hs q (by
        simp only [DataW.weights, h, List.mem_cons, List.mem_append]
        rcases List.mem_append.1 hm with hm | hm
        · exact .inr (.inl (weightsAll_mem (List.mem_map.2 ⟨y, hm, rfl⟩) hq))
        · exact .inr (.inr (weightsAll_mem (List.mem_map.2 ⟨y, hm, rfl⟩) hq))))
      obtain ⟨_, h3, h4⟩ := World.cells?_some h1
      rw [hc] at h3 h4 h1
      exact ⟨u, rdF_of _ _ _ h3 (fun j hj => by rw [Nat.zero_add]; exact h4 j hj), g⟩
    have key : ∀ k, k ≤ cap → ∃ l : List α, l.length = k ∧ ∀ (i : Nat) (h : i < l.length), rdF W (a.add (i * c.n)) 0 c.n = some (c.enc l[i]) ∧ G W l[i] := by
      intro k
      induction k with
      | zero => intro _; exact ⟨[], rfl, fun i h => by simp at h⟩
      | succ k ih =>
        intro hk
        obtain ⟨l, l1, l2⟩ := ih (by omega)
        obtain ⟨u, hu⟩ := each k (by omega)
        refine ⟨l ++ [u], by simp [l1], fun i hi => ?_⟩
        by_cases h : i < l.length
        · rw [List.getElem_append_left h]; exact l2 i h
        · have : i = k := by simp at hi; omega
          subst this
          rw [List.getElem_append_right (by omega)]
          simpa [l1] using hu
    exact key cap (Nat.le_refl _)
theorem Opens.mono {P : Program} {T : TypeId} {α : Type} {c : Cod α} {G G' : World → α → Prop} (h : Opens P T c G) (hg : ∀ W u, G W u → G' W u) : Opens P T c G' := by
  intro H enc W fuel cs x hx hs
  obtain ⟨u, e, g⟩ := h H enc W fuel cs x hx hs
  exact ⟨u, e, hg W u g⟩
def OpensV (P : Program) (T : TypeId) {α : Type} (c : Cod α) (G : World → α → Prop) : Prop :=
  ∀ {H : Type} {enc : TypeId × Value → H} {W : World} {r : Go.Reach} {b0 : Nat} {v : Value} {d : DataW H} {ps : List MemPlace}, Value.okWide P W r b0 T v → DataW.Trod enc P W 0 (fun _ => true) true T v d ps → Small P T d → ∃ u, v = c.val u ∧ G W u
theorem OpensV.agg {P : Program} {T : TypeId} {α : Type} {c : Cod α} {G : World → α → Prop} (h : Opens P T c G) (ha : c.agg = true) (hT : (P.underlying T).map aggD = some true) : OpensV P T c G := by
  intro H enc W r b0 v d ps hv hd hs
  obtain ⟨fuel, hf⟩ := hd
  obtain ⟨u, he, g⟩ := h H enc W fuel _ _ hf hs
  have : ∃ cs, v = .agg cs := by
    unfold Value.okWide at hv
    cases hu : P.underlying T with
    | none => rw [hu] at hT; cases hT
    | some D => rw [hu] at hT hv; cases D <;> first | (obtain ⟨cs, rfl, _⟩ := hv; exact ⟨cs, rfl⟩) | (cases hT)
  obtain ⟨cs, rfl⟩ := this
  refine ⟨u, ?_, g⟩
  have : cs.toList = c.enc u := he
  unfold Cod.val
  rw [if_pos ha, ← this]
theorem OpensV.int {P : Program} {T : TypeId} {k : IntKind} (h : P.underlying T = some (.int k)) : OpensV P T (cI k) (fun _ n => (Lit.int k n).wf = true) := by
  intro H enc W r b0 v d ps hv hd hs
  obtain ⟨n, rfl, _, _, hw⟩ := open_int h hv hd
  exact ⟨n, rfl, hw⟩
theorem OpensV.bool {P : Program} {T : TypeId} (h : P.underlying T = some .bool) : OpensV P T cB (fun _ _ => True) := by
  intro H enc W r b0 v d ps hv hd hs
  obtain ⟨n, rfl, _, _⟩ := open_bool h hv hd
  exact ⟨n, rfl, trivial⟩
theorem OpensV.slice {P : Program} {T e : TypeId} {α : Type} {c : Cod α} {G : World → α → Prop} (h : P.underlying T = some (.slice e)) (hc : P.cellsOf e = c.n) (hf : Opens P e c G) : OpensV P T cL (GSl c (P.bytesOf e) G) := by
  intro H enc W r b0 v d ps hv hd hs
  obtain ⟨a, len, cap, rfl⟩ := okWide_slice h hv
  obtain ⟨fuel, hf'⟩ := hd
  obtain ⟨u, he, g⟩ := Opens.slice h hc hf H enc W fuel _ _ hf' hs
  have : [Value.slice a len cap] = [Sl.v u] := he
  exact ⟨u, List.cons.inj this |>.1, g⟩
theorem Ref.answer {P : Program} {g : FuncId} {α : Type} {vals : List Value} {y : M α} {out : α → Value} (h : Ref P g vals y out) {W v' : World} {r : α} (hy : y W = some (r, v')) (hb : Below W.heap.size W v') :
    Calls P g vals.toArray W (fun e W' => e = .returned (out r) ∧ Below W.heap.size W W') := by
  obtain ⟨w', hs, hk, hc⟩ := h W r v' hy W (Sub.refl W)
  refine hc.mono fun e W' => ?_
  rintro ⟨rfl, rfl⟩
  refine ⟨rfl, hs.os.trans hb.os, hs.tape.trans hb.tape, hs.output.trans hb.output, by rw [hs.size]; exact hb.size, fun k hkk => ?_⟩
  by_cases hh : Husk W k
  · exact (hk k hh).1
  · have : ¬ Husk v' k := fun ⟨T, hT⟩ => hh ⟨T, by rw [← hb.block k hkk]; exact hT⟩
    rw [hs.block this, hb.block k hkk]
end Go.Proofs.Ytlkhijflgbobjaa.Lx
