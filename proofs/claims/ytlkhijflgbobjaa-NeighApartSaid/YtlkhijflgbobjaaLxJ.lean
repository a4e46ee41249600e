/- The machine 'Lx': a region whose drawn order matters to its memory: the program asks which of two operations came first. -/
import Derived.Test.YtlkhijflgbobjaaLxI
set_option linter.unusedVariables false
set_option linter.unusedSimpArgs false
namespace Go.Proofs.Ytlkhijflgbobjaa.Lx
open Go
def bfr : List Nat → Nat → Nat → Bool
  | [], _, _ => false
  | z :: l, x, y => if z = x then true else if z = y then false else bfr l x y
theorem bfr_or : ∀ {l : List Nat} {x y : Nat}, x ∈ l → x ≠ y → bfr l x y = false → bfr l y x = true
  | [], _, _, h, _, _ => by simp at h
  | w :: l, x, y, h, hne, h' => by
    unfold bfr at *
    by_cases e : w = x
    · rw [if_pos e] at h'; cases h'
    · rw [if_neg e] at h'
      by_cases e2 : w = y
      · rw [if_pos e2]
      · rw [if_neg e2] at h' ⊢
        rw [if_neg e]
        exact bfr_or ((List.mem_cons.1 h).resolve_left (fun h => e h.symm)) hne h'
def allB (σ : List Nat) (E : List (Nat × Nat)) : Prop := ∀ p ∈ E, bfr σ p.1 p.2 = true
theorem allB.nil {σ : List Nat} : allB σ [] := fun _ h => by simp at h
theorem allB.cons {σ : List Nat} {E : List (Nat × Nat)} {x y : Nat} (h : bfr σ x y = true) (t : allB σ E) : allB σ ((x, y) :: E) := fun p hp => by
  rcases List.mem_cons.1 hp with rfl | hp
  · exact h
  · exact t p hp
section
variable (P : Program) (ops : Array Oper) (kd : Nat → Kd) (bef : List Nat) (E : List (Nat × Nat))
def waits (l : List Nat) : Prop := l.Pairwise fun x y => ∀ o, ops[x]? = some o → y ∉ depsOf o
structure Good (σ : List Nat) : Prop where
  mem : ∀ x, x < ops.size ↔ x ∈ σ
  nd : σ.Nodup
  w : waits ops σ
def pairsE : List Nat → Bool
  | [] => true
  | x :: l => (match ops[x]? with | some o => !(depsOf o).contains x && l.all fun y => (!(depsOf o).contains y && x != y) && (E.contains (x, y) || rel ops kd bef x y) | none => false) && pairsE l
def tableE (ord : List Nat) : Bool := befOk ops bef && pairsE ops kd bef E ord && ord.length == ops.size && ord.all (· < ops.size) && (List.range ops.size).all (ord.contains ·)
theorem pairsE_mem {l : List Nat} {x : Nat} (h : pairsE ops kd bef E (x :: l) = true) : ∃ o, ops[x]? = some o ∧ x ∉ depsOf o ∧ (∀ y ∈ l, (y ∉ depsOf o ∧ x ≠ y) ∧ ((x, y) ∈ E ∨ rel ops kd bef x y = true)) ∧ pairsE ops kd bef E l = true := by
  unfold pairsE at h
  simp only [Bool.and_eq_true] at h
  obtain ⟨h1, h2⟩ := h
  split at h1
  · rename_i o ho
    simp only [Bool.and_eq_true, Bool.not_eq_true', List.all_eq_true, List.contains_eq_mem, decide_eq_false_iff_not, bne_iff_ne, Bool.or_eq_true, decide_eq_true_eq] at h1
    exact ⟨o, ho, h1.1, fun y hy => ⟨(h1.2 y hy).1, (h1.2 y hy).2⟩, h2⟩
  · cases h1
theorem pairsE_waits : ∀ (l : List Nat), pairsE ops kd bef E l = true → waits ops l ∧ l.Nodup ∧ ∀ x ∈ l, ∃ o, ops[x]? = some o ∧ x ∉ depsOf o
  | [], _ => ⟨List.Pairwise.nil, List.nodup_nil, by simp⟩
  | x :: l, h => by
    obtain ⟨o, ho, h1, h2, h3⟩ := pairsE_mem ops kd bef E h
    obtain ⟨w1, w2, w3⟩ := pairsE_waits l h3
    refine ⟨List.Pairwise.cons (fun y hy o' ho' => ?_) w1, List.nodup_cons.2 ⟨fun hx => (h2 x hx).1.2 rfl, w2⟩, fun y hy => ?_⟩
    · rw [ho] at ho'
      cases ho'
      exact (h2 y hy).1.1
    · rcases List.mem_cons.1 hy with rfl | hy
      · exact ⟨o, ho, h1⟩
      · exact w3 y hy
theorem lin_good : ∀ (fuel t : Nat) (listed : Array Bool) (rem : List Nat), rem.length = fuel → rem.Nodup → listed.size = ops.size → (∀ x, x < ops.size → (listed.getD x true = false ↔ x ∈ rem)) → (∀ x ∈ rem, x < ops.size) → waits ops rem → (∀ x ∈ rem, ∃ o, ops[x]? = some o ∧ x ∉ depsOf o ∧ ∀ d ∈ depsOf o, d < ops.size) →
    (Region.linearise.go .any ops fuel t listed []).Perm rem ∧ waits ops (Region.linearise.go .any ops fuel t listed []) := by
  intro fuel
  induction fuel with
  | zero =>
    intro t listed rem hl hn hs hm hx hw hd
    obtain rfl : rem = [] := List.eq_nil_of_length_eq_zero hl
    simp only [Region.linearise.go, List.reverse_nil]
    exact ⟨List.Perm.nil, List.Pairwise.nil⟩
  | succ fuel ih =>
    intro t listed rem hl hn hs hm hx hw hd
    have hget : ∀ d, d < ops.size → (listed.getD d false = true ↔ d ∉ rem) := by
      intro d hd
      have := hm d hd
      have e1 : listed.getD d false = listed[d]'(by omega) := by simp [Array.getD, show d < listed.size by omega]
      have e2 : listed.getD d true = listed[d]'(by omega) := by simp [Array.getD, show d < listed.size by omega]
      rw [e2] at this
      rw [e1]
      rw [← this]
      cases listed[d]'(by omega) <;> simp
    have hne : Region.ready .any ops listed ≠ [] := by
      intro hr
      match rem, hl with
      | i :: r, _ =>
        obtain ⟨o, ho, h1, h2⟩ := hd i (by simp)
        have : i ∈ Region.ready .any ops listed := by
          refine (ready_iff ops).2 ⟨hx i (by simp), (hm i (hx i (by simp))).2 (by simp), o, ho, fun d hdd => ?_⟩
          refine (hget d (h2 d hdd)).2 fun hd' => ?_
          rcases List.mem_cons.1 hd' with rfl | hd'
          · exact h1 hdd
          · exact (List.pairwise_cons.1 hw).1 d hd' o ho hdd
        rw [hr] at this
        cases this
    simp only [Region.linearise.go]
    change List.Perm (match (Region.ready .any ops listed)[t % (Region.ready .any ops listed).length]? with
      | some i => Region.linearise.go .any ops fuel (t / (Region.ready .any ops listed).length) (listed.setIfInBounds i true) [i]
      | none => [].reverse) rem ∧ waits ops (match (Region.ready .any ops listed)[t % (Region.ready .any ops listed).length]? with
      | some i => Region.linearise.go .any ops fuel (t / (Region.ready .any ops listed).length) (listed.setIfInBounds i true) [i]
      | none => [].reverse)
    have hpos : 0 < (Region.ready .any ops listed).length := List.length_pos_iff.2 hne
    have hi := List.getElem?_eq_getElem (Nat.mod_lt t hpos)
    generalize (Region.ready .any ops listed)[t % (Region.ready .any ops listed).length]'(Nat.mod_lt t hpos) = i at hi
    rw [hi]
    simp only []
    rw [linearise_go_acc, List.reverse_singleton, List.singleton_append]
    obtain ⟨hi1, hi2, oi, hoi, hdeps⟩ := (ready_iff ops).1 (List.mem_of_getElem? hi)
    have hirem : i ∈ rem := (hm i hi1).1 hi2
    have hsub : (rem.erase i).Sublist rem := List.erase_sublist
    have hm' : ∀ x, x < ops.size → ((listed.setIfInBounds i true).getD x true = false ↔ x ∈ rem.erase i) := by
      intro x hxs
      by_cases e : i = x
      · subst e
        simp [Array.getD, hs, hi1, hn.not_mem_erase]
      · rw [getD_set_ne true e, hm x hxs]
        exact ⟨fun h => (List.mem_erase_of_ne (fun h => e h.symm)).2 h, fun h => hsub.subset h⟩
    obtain ⟨h1, h2⟩ := ih (t / (Region.ready .any ops listed).length) (listed.setIfInBounds i true) (rem.erase i) (by rw [List.length_erase_of_mem hirem, hl]; rfl) (hn.sublist hsub) (by simp [hs]) hm' (fun x hxr => hx x (hsub.subset hxr)) (hw.sublist hsub) (fun x hxr => hd x (hsub.subset hxr))
    refine ⟨(h1.cons i).trans (List.perm_cons_erase hirem).symm, List.Pairwise.cons (fun y hy o ho hyd => ?_) h2⟩
    rw [hoi] at ho
    cases ho
    have hyr := hsub.subset (h1.subset hy)
    exact (hget y (hx y hyr)).1 (hdeps y hyd) hyr
theorem table_good {ord : List Nat} (ht : tableE ops kd bef E ord = true) (t : Nat) : Good ops (Region.schedule true ops t) := by
  unfold tableE at ht
  simp only [Bool.and_eq_true, beq_iff_eq, List.all_eq_true, decide_eq_true_eq, List.mem_range, List.contains_eq_mem] at ht
  obtain ⟨⟨⟨⟨h1, h2⟩, h3⟩, h4⟩, h5⟩ := ht
  obtain ⟨w1, w2, w3⟩ := pairsE_waits ops kd bef E ord h2
  have hlt : ∀ (k : Nat) (o : Oper), ops[k]? = some o → ∀ d ∈ depsOf o, d < ops.size := by
    intro k o ho
    have hk : k < ops.size := (Array.getElem?_eq_some_iff.1 ho).1
    unfold befOk at h1
    rw [List.all_eq_true] at h1
    have := h1 k (List.mem_range.2 hk)
    rw [ho] at this
    simp only [Bool.and_eq_true, beq_iff_eq, List.all_eq_true, decide_eq_true_eq] at this
    exact this.2
  have hg := lin_good ops ops.size t (Array.replicate ops.size false) ord h3 w2 (by simp) (fun x hx => by simp [Array.getD, hx, h5 x hx]) h4 w1 (fun x hx => by
    obtain ⟨o, ho, hxx⟩ := w3 x hx
    exact ⟨o, ho, hxx, hlt x o ho⟩)
  have e : Region.schedule true ops t = Region.linearise.go .any ops ops.size t (Array.replicate ops.size false) [] := by
    simp only [Region.schedule, Bool.true_or, if_true, Region.linearise]
  rw [e]
  exact ⟨fun x => ⟨fun hx => hg.1.symm.subset (h5 x hx), fun hx => h4 x (hg.1.subset hx)⟩, hg.1.symm.nodup w2, hg.2⟩
end
def draws (f : FuncId) (id : Nat) (ops : Array Oper) : M (List Nat) := fun v => some (Region.schedule true ops (v.tape v.drawn (.order f id)), v.drew)
section
variable {β : Type} {c : Fx} {k : List Item} {m : Env} {h : Loc} {x : M β} {F : β → Reach}
theorem SJ.draws {cd : Code} {id : Nat} {kd bef ord : List Nat} {E : List (Nat × Nat)} {f : List Nat → M β} (hm : c.P.follows .mixedOrders = true) (hJ : ∀ σ, Good (opsOf cd) σ → SJ c (.inRegion (opsOf cd) σ :: k) m h (f σ) F) (hk : kindOf cd = .region id true := by kernel_rfl) (ht : tableE (opsOf cd) (kdOf kd) bef E ord = true := by kernel_rfl) : SJ c (.code cd :: k) m h (Lx.draws c.f id (opsOf cd) >>= f) F := by
  intro v r v' e w a s D hD
  have s' : St c.fn.ntmps m h v.drew w.drew a := ⟨s.sub.drew, s.size, s.defers, s.get, s.loc, s.nd⟩
  have hD' : DOk D v.drew h := hD
  obtain ⟨w', h3, h4⟩ := hJ _ (table_good (opsOf cd) (kdOf kd) bef E ht (v.tape v.drawn (.order c.f id))) v.drew r v' e w.drew a s' D hD'
  refine ⟨w', h3.head (fun b cs hb _ => ?_), h4⟩
  rw [kind_region hk]
  have := step_region_draw (P := c.P) (b := b) (a := a) (k := k) (cs := cs) (w := w) (ops := opsOf cd) (id := id)
  rw [hm, hb, show ({ w with drawn := w.drawn + 1 } : World) = w.drew from rfl, show w.tape w.drawn = v.tape v.drawn by rw [s.sub.tape, s.sub.drawn]] at this
  exact .one this
theorem SJ.bfr {ops : Array Oper} {σ : List Nat} {y : M β} {p q : Nat} (hg : Good ops σ) (h2 : p ≠ q) (hA : Lx.bfr σ p q = true → SJ c (.inRegion ops σ :: k) m h x F) (hB : Lx.bfr σ q p = true → SJ c (.inRegion ops σ :: k) m h y F) (h1 : Nat.blt p ops.size = true := by kernel_rfl) : SJ c (.inRegion ops σ :: k) m h (if Lx.bfr σ p q = true then x else y) F := by
  by_cases hb : Lx.bfr σ p q = true
  · rw [if_pos hb]
    exact hA hb
  · rw [if_neg hb]
    exact hB (bfr_or ((hg.mem p).1 (by simpa [Nat.blt_eq] using h1)) h2 (by simpa using hb))
end
end Go.Proofs.Ytlkhijflgbobjaa.Lx
