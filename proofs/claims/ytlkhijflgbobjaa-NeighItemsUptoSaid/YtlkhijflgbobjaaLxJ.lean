/- The machine 'Lx': a region whose drawn order matters to its memory: the program asks which of two operations came first. -/
import Derived.Test.YtlkhijflgbobjaaLxI
set_option linter.unusedVariables false
set_option linter.unusedSimpArgs false
namespace Go.Proofs.Ytlkhijflgbobjaa.Lx
open Go
def bfr : List Nat → Nat → Nat → Bool
  | [], _, _ => false
  | z :: l, x, y => if z = x then true else if z = y then false else bfr l x y
theorem bfr_or : ∀ {l : List Nat} {x y : Nat}, x ∈ l → x ≠ y → bfr l x y = false → bfr l y x = true
  | [], _, _, h, _, _ => by simp at h
  | w :: l, x, y, h, hne, h' => by
    unfold bfr at *
    by_cases e : w = x
    · rw [if_pos e] at h'; cases h'
    · rw [if_neg e] at h'
      by_cases e2 : w = y
      · rw [if_pos e2]
      · rw [if_neg e2] at h' ⊢
        rw [if_neg e]
        exact bfr_or ((List.mem_cons.1 h).resolve_left (fun h => e h.symm)) hne h'
def allB (σ : List Nat) (E : List (Nat × Nat)) : Prop := ∀ p ∈ E, bfr σ p.1 p.2 = true
theorem allB.nil {σ : List Nat} : allB σ [] := fun _ h => by simp at h
theorem allB.cons {σ : List Nat} {E : List (Nat × Nat)} {x y : Nat} (h : bfr σ x y = true) (t : allB σ E) : allB σ ((x, y) :: E) := fun p hp => by
  rcases List.mem_cons.1 hp with rfl | hp
  · exact h
  · exact t p hp
section
variable (P : Program) (ops : Array Oper) (kd : Nat → Kd) (bef : List Nat) (E : List (Nat × Nat))
def waits (l : List Nat) : Prop := l.Pairwise fun x y => ∀ o, ops[x]? = some o → y ∉ depsOf o
structure Good (σ : List Nat) : Prop where
  mem : ∀ x, x < ops.size ↔ x ∈ σ
  nd : σ.Nodup
  w : waits ops σ
def pairsE : List Nat → Bool
  | [] => true
  | x :: l => (match ops[x]? with | some o => !(depsOf o).contains x && l.all fun y => (!(depsOf o).contains y && x != y) && (E.contains (x, y) || rel ops kd bef x y) | none => false) && pairsE l
def tableE (ord : List Nat) : Bool := befOk ops bef && pairsE ops kd bef E ord && ord.length == ops.size && ord.all (· < ops.size) && (List.range ops.size).all (ord.contains ·)
theorem pairsE_mem {l : List Nat} {x : Nat} (h : pairsE ops kd bef E (x :: l) = true) : ∃ o, ops[x]? = some o ∧ x ∉ depsOf o ∧ (∀ y ∈ l, (y ∉ depsOf o ∧ x ≠ y) ∧ ((x, y) ∈ E ∨ rel ops kd bef x y = true)) ∧ pairsE ops kd bef E l = true := by
  unfold pairsE at h
  simp only [Bool.and_eq_true] at h
  obtain ⟨h1, h2⟩ := h
  split at h1
  · rename_i o ho
    simp only [Bool.and_eq_true, Bool.not_eq_true', List.all_eq_true, List.contains_eq_mem, decide_eq_false_iff_not, bne_iff_ne, Bool.or_eq_true, decide_eq_true_eq] at h1
    exact ⟨o, ho, h1.1, fun y hy => ⟨(h1.2 y hy).1, (h1.2 y hy).2⟩, h2⟩
  · cases h1
theorem pairsE_drop : ∀ (l : List Nat) {i : Nat} {r : List Nat}, pairsE ops kd bef E (l ++ i :: r) = true → pairsE ops kd bef E (l ++ r) = true ∧ ∀ x ∈ l, (x, i) ∈ E ∨ rel ops kd bef x i = true
  | [], i, r, h => ⟨(pairsE_mem ops kd bef E h).choose_spec.2.2.2, by simp⟩
  | x :: l, i, r, h => by
    obtain ⟨o, ho, hx, hl, h2⟩ := pairsE_mem ops kd bef E h
    obtain ⟨h3, h4⟩ := pairsE_drop l h2
    refine ⟨?_, fun y hy => ?_⟩
    · show pairsE ops kd bef E (x :: (l ++ r)) = true
      unfold pairsE
      simp only [ho, Bool.and_eq_true, Bool.not_eq_true', List.all_eq_true, List.contains_eq_mem, decide_eq_false_iff_not, bne_iff_ne, Bool.or_eq_true, decide_eq_true_eq]
      refine ⟨⟨hx, fun y hy => ?_⟩, h3⟩
      refine hl y ?_
      rcases List.mem_append.1 hy with h | h
      · exact List.mem_append_left _ h
      · exact List.mem_append_right _ (List.mem_cons_of_mem _ h)
    · rcases List.mem_cons.1 hy with rfl | hy
      · exact (hl i (by simp)).2
      · exact h4 y hy
theorem pairsE_waits : ∀ (l : List Nat), pairsE ops kd bef E l = true → waits ops l ∧ l.Nodup ∧ ∀ x ∈ l, ∃ o, ops[x]? = some o ∧ x ∉ depsOf o
  | [], _ => ⟨List.Pairwise.nil, List.nodup_nil, by simp⟩
  | x :: l, h => by
    obtain ⟨o, ho, h1, h2, h3⟩ := pairsE_mem ops kd bef E h
    obtain ⟨w1, w2, w3⟩ := pairsE_waits l h3
    refine ⟨List.Pairwise.cons (fun y hy o' ho' => ?_) w1, List.nodup_cons.2 ⟨fun hx => (h2 x hx).1.2 rfl, w2⟩, fun y hy => ?_⟩
    · rw [ho] at ho'
      cases ho'
      exact (h2 y hy).1.1
    · rcases List.mem_cons.1 hy with rfl | hy
      · exact ⟨o, ho, h1⟩
      · exact w3 y hy
theorem list_of {a' : Act} {w' : World} (hb : befOk ops bef = true) : ∀ (σ rem : List Nat) (a : Act) (w : World), RR P ops kd bef [] rem a w a' w' → pairsE ops kd bef E rem = true → σ.Perm rem → rem.Nodup →
    (∀ x ∈ rem, x < ops.size) → (∀ x o, x < ops.size → x ∉ rem → ops[x]? = some o → ∀ d ∈ depsOf o, d ∉ rem) → waits ops σ → (∀ p ∈ E, p.1 ∈ σ → p.2 ∈ σ → bfr σ p.1 p.2 = true) → wpOps P ops (Ends a' w') σ a w := by
  have hlt : ∀ k o, ops[k]? = some o → bef.getD k 0 = befRow bef k (depsOf o) ∧ ∀ d ∈ depsOf o, d < ops.size := by
    intro k o ho
    have hk : k < ops.size := (Array.getElem?_eq_some_iff.1 ho).1
    unfold befOk at hb
    rw [List.all_eq_true] at hb
    have := hb k (List.mem_range.2 hk)
    rw [ho] at this
    simp only [Bool.and_eq_true, beq_iff_eq, List.all_eq_true, decide_eq_true_eq] at this
    exact this
  intro σ
  induction σ with
  | nil =>
    intro rem a w h hp hperm hn hx hc hw hE
    obtain rfl : rem = [] := List.Perm.eq_nil hperm.symm
    cases h
    exact ⟨rfl, rfl, rfl⟩
  | cons i σ ih =>
    intro rem a w h hp hperm hn hx hc hw hE
    have hirem : i ∈ rem := hperm.subset (by simp)
    obtain ⟨l, r, rfl⟩ := List.append_of_mem hirem
    have hσ : σ.Perm (l ++ r) := (List.Perm.cons_inv (hperm.trans List.perm_middle))
    obtain ⟨hp2, hrel'⟩ := pairsE_drop ops kd bef E l hp
    obtain ⟨_, _, hself⟩ := pairsE_waits ops kd bef E _ hp
    obtain ⟨oi, hoi, hii⟩ := hself i hirem
    rw [List.nodup_append] at hn
    obtain ⟨n1, n2, n3⟩ := hn
    have hil : i ∉ l := fun hh => n3 i hh i (by simp) rfl
    have hir : i ∉ r := (List.nodup_cons.1 n2).1
    have hrel : ∀ x ∈ l, rel ops kd bef x i = true := by
      intro x hxl
      rcases hrel' x hxl with h | h
      · exfalso
        have h1 := hE (x, i) h (hperm.symm.subset (by simp [hxl])) (by simp)
        unfold bfr at h1
        rw [if_neg (show ¬ i = x from fun e => hil (by rw [e]; exact hxl)), if_pos rfl] at h1
        cases h1
      · exact h
    obtain ⟨hw1, hw2⟩ := List.pairwise_cons.1 hw
    have hdeps : ∀ d ∈ depsOf oi, d ∉ l ++ i :: r := by
      intro d hd hm
      rcases List.mem_cons.1 (hperm.symm.subset hm) with rfl | hm
      · exact hii hd
      · exact hw1 d hm oi hoi hd
    have hclosed : ∀ k o, ops[k]? = some o → (∀ d ∈ depsOf o, d ∉ l ++ i :: r) → ∀ x, pre bef k x = true → x ∉ l ++ i :: r := by
      intro k
      induction k using Nat.strongRecOn with
      | _ k ihk =>
        intro o ho hd x hpx
        unfold pre at hpx
        rw [(hlt k o ho).1] at hpx
        rcases befRow_bit bef _ _ hpx with h | h | ⟨d, hd1, hd2, hd3⟩
        · simp at h
        · exact hd x h
        · have hds := (hlt k o ho).2 d hd1
          obtain ⟨od, hod⟩ : ∃ od, ops[d]? = some od := ⟨ops[d], by simp [hds]⟩
          exact ihk d hd2 od hod (hc d od hds (hd d hd1) hod) x hd3
    have hnp : ∀ x ∈ l, pre bef i x = false := by
      intro x hxl
      by_cases hpx : pre bef i x = true
      · exact absurd (by simp [hxl]) (hclosed i oi hoi hdeps x hpx)
      · simpa using hpx
    have hf := RR.front P ops kd bef l (fun x hxl => ⟨hrel x hxl, hnp x hxl⟩) h
    cases hf with
    | cons o ho x w1 pd he hpw hr =>
      rw [wpOps_cons]
      refine OpStep.wpOp P ops (Ev.step P ops kd ho he) ?_
      refine ih (l ++ r) _ _ (hr.mono P ops kd bef (by simp)) hp2 hσ ?_ (fun y hy => hx y (by simp at hy ⊢; rcases hy with h | h <;> simp [h])) ?_ hw2 ?_
      · rw [List.nodup_append]
        exact ⟨n1, (List.nodup_cons.1 n2).2, fun y hy z hz => n3 y hy z (List.mem_cons_of_mem _ hz)⟩
      · intro y oy hy hny hoy d hd hdm
        have hdm' : d ∈ l ++ i :: r := by
          simp only [List.mem_append, List.mem_cons] at hdm ⊢
          rcases hdm with h | h
          · exact .inl h
          · exact .inr (.inr h)
        by_cases e : y = i
        · subst e
          rw [hoi] at hoy
          cases hoy
          exact hdeps d hd hdm'
        · refine hc y oy hy ?_ hoy d hd hdm'
          simp only [List.mem_append, List.mem_cons] at hny ⊢
          rintro (h | h | h)
          · exact hny (.inl h)
          · exact e h
          · exact hny (.inr h)
      · intro p hpE h1 h2
        have h3 := hE p hpE (by simp [h1]) (by simp [h2])
        unfold bfr at h3
        have e1 : i ≠ p.1 := fun e => (by
          have := hσ.subset h1
          rw [← e] at this
          rcases List.mem_append.1 this with h | h
          · exact hil h
          · exact hir h)
        have e2 : i ≠ p.2 := fun e => (by
          have := hσ.subset h2
          rw [← e] at this
          rcases List.mem_append.1 this with h | h
          · exact hil h
          · exact hir h)
        rw [if_neg e1, if_neg e2] at h3
        exact h3
theorem lin_good : ∀ (fuel t : Nat) (listed : Array Bool) (rem : List Nat), rem.length = fuel → rem.Nodup → listed.size = ops.size → (∀ x, x < ops.size → (listed.getD x true = false ↔ x ∈ rem)) → (∀ x ∈ rem, x < ops.size) → waits ops rem → (∀ x ∈ rem, ∃ o, ops[x]? = some o ∧ x ∉ depsOf o ∧ ∀ d ∈ depsOf o, d < ops.size) →
    (Region.linearise.go .any ops fuel t listed []).Perm rem ∧ waits ops (Region.linearise.go .any ops fuel t listed []) := by
  intro fuel
  induction fuel with
  | zero =>
    intro t listed rem hl hn hs hm hx hw hd
    obtain rfl : rem = [] := List.eq_nil_of_length_eq_zero hl
    simp only [Region.linearise.go, List.reverse_nil]
    exact ⟨List.Perm.nil, List.Pairwise.nil⟩
  | succ fuel ih =>
    intro t listed rem hl hn hs hm hx hw hd
    have hget : ∀ d, d < ops.size → (listed.getD d false = true ↔ d ∉ rem) := by
      intro d hd
      have := hm d hd
      have e1 : listed.getD d false = listed[d]'(by omega) := by simp [Array.getD, show d < listed.size by omega]
      have e2 : listed.getD d true = listed[d]'(by omega) := by simp [Array.getD, show d < listed.size by omega]
      rw [e2] at this
      rw [e1]
      rw [← this]
      cases listed[d]'(by omega) <;> simp
    have hne : Region.ready .any ops listed ≠ [] := by
      intro hr
      match rem, hl with
      | i :: r, _ =>
        obtain ⟨o, ho, h1, h2⟩ := hd i (by simp)
        have : i ∈ Region.ready .any ops listed := by
          refine (ready_iff ops).2 ⟨hx i (by simp), (hm i (hx i (by simp))).2 (by simp), o, ho, fun d hdd => ?_⟩
          refine (hget d (h2 d hdd)).2 fun hd' => ?_
          rcases List.mem_cons.1 hd' with rfl | hd'
          · exact h1 hdd
          · exact (List.pairwise_cons.1 hw).1 d hd' o ho hdd
        rw [hr] at this
        cases this
    simp only [Region.linearise.go]
    change List.Perm (match (Region.ready .any ops listed)[t % (Region.ready .any ops listed).length]? with
      | some i => Region.linearise.go .any ops fuel (t / (Region.ready .any ops listed).length) (listed.setIfInBounds i true) [i]
      | none => [].reverse) rem ∧ waits ops (match (Region.ready .any ops listed)[t % (Region.ready .any ops listed).length]? with
      | some i => Region.linearise.go .any ops fuel (t / (Region.ready .any ops listed).length) (listed.setIfInBounds i true) [i]
      | none => [].reverse)
    have hpos : 0 < (Region.ready .any ops listed).length := List.length_pos_iff.2 hne
    have hi := List.getElem?_eq_getElem (Nat.mod_lt t hpos)
    generalize (Region.ready .any ops listed)[t % (Region.ready .any ops listed).length]'(Nat.mod_lt t hpos) = i at hi
    rw [hi]
    simp only []
    rw [linearise_go_acc, List.reverse_singleton, List.singleton_append]
    obtain ⟨hi1, hi2, oi, hoi, hdeps⟩ := (ready_iff ops).1 (List.mem_of_getElem? hi)
    have hirem : i ∈ rem := (hm i hi1).1 hi2
    have hsub : (rem.erase i).Sublist rem := List.erase_sublist
    have hm' : ∀ x, x < ops.size → ((listed.setIfInBounds i true).getD x true = false ↔ x ∈ rem.erase i) := by
      intro x hxs
      by_cases e : i = x
      · subst e
        simp [Array.getD, hs, hi1, hn.not_mem_erase]
      · rw [getD_set_ne true e, hm x hxs]
        exact ⟨fun h => (List.mem_erase_of_ne (fun h => e h.symm)).2 h, fun h => hsub.subset h⟩
    obtain ⟨h1, h2⟩ := ih (t / (Region.ready .any ops listed).length) (listed.setIfInBounds i true) (rem.erase i) (by rw [List.length_erase_of_mem hirem, hl]; rfl) (hn.sublist hsub) (by simp [hs]) hm' (fun x hxr => hx x (hsub.subset hxr)) (hw.sublist hsub) (fun x hxr => hd x (hsub.subset hxr))
    refine ⟨(h1.cons i).trans (List.perm_cons_erase hirem).symm, List.Pairwise.cons (fun y hy o ho hyd => ?_) h2⟩
    rw [hoi] at ho
    cases ho
    have hyr := hsub.subset (h1.subset hy)
    exact (hget y (hx y hyr)).1 (hdeps y hyd) hyr
theorem table_good {ord : List Nat} (ht : tableE ops kd bef E ord = true) (t : Nat) : Good ops (Region.schedule true ops t) := by
  unfold tableE at ht
  simp only [Bool.and_eq_true, beq_iff_eq, List.all_eq_true, decide_eq_true_eq, List.mem_range, List.contains_eq_mem] at ht
  obtain ⟨⟨⟨⟨h1, h2⟩, h3⟩, h4⟩, h5⟩ := ht
  obtain ⟨w1, w2, w3⟩ := pairsE_waits ops kd bef E ord h2
  have hlt : ∀ (k : Nat) (o : Oper), ops[k]? = some o → ∀ d ∈ depsOf o, d < ops.size := by
    intro k o ho
    have hk : k < ops.size := (Array.getElem?_eq_some_iff.1 ho).1
    unfold befOk at h1
    rw [List.all_eq_true] at h1
    have := h1 k (List.mem_range.2 hk)
    rw [ho] at this
    simp only [Bool.and_eq_true, beq_iff_eq, List.all_eq_true, decide_eq_true_eq] at this
    exact this.2
  have hg := lin_good ops ops.size t (Array.replicate ops.size false) ord h3 w2 (by simp) (fun x hx => by simp [Array.getD, hx, h5 x hx]) h4 w1 (fun x hx => by
    obtain ⟨o, ho, hxx⟩ := w3 x hx
    exact ⟨o, ho, hxx, hlt x o ho⟩)
  have e : Region.schedule true ops t = Region.linearise.go .any ops ops.size t (Array.replicate ops.size false) [] := by
    simp only [Region.schedule, Bool.true_or, if_true, Region.linearise]
  rw [e]
  exact ⟨fun x => ⟨fun hx => hg.1.symm.subset (h5 x hx), fun hx => h4 x (hg.1.subset hx)⟩, hg.1.symm.nodup w2, hg.2⟩
theorem Good.list {ord σ : List Nat} {a a' : Act} {w w' : World} (hg : Good ops σ) (ht : tableE ops kd bef E ord = true) (hE : allB σ E) (h : RR P ops kd bef [] ord a w a' w') : wpOps P ops (Ends a' w') σ a w := by
  unfold tableE at ht
  simp only [Bool.and_eq_true, beq_iff_eq, List.all_eq_true, decide_eq_true_eq, List.mem_range, List.contains_eq_mem] at ht
  obtain ⟨⟨⟨⟨h1, h2⟩, h3⟩, h4⟩, h5⟩ := ht
  obtain ⟨w1, w2, w3⟩ := pairsE_waits ops kd bef E ord h2
  refine list_of P ops kd bef E h1 σ ord a w h h2 ?_ w2 h4 (fun x o hx hn => absurd (h5 x hx) hn) hg.w (fun p hp _ _ => hE p hp)
  exact (List.perm_ext_iff_of_nodup hg.nd w2).2 (fun x => ⟨fun hx => h5 x ((hg.mem x).2 hx), fun hx => (hg.mem x).1 (h4 x hx)⟩)
end
def draws (f : FuncId) (id : Nat) (ops : Array Oper) : M (List Nat) := fun v => some (Region.schedule true ops (v.tape v.drawn (.order f id)), v.drew)
section
variable {β : Type} {c : Fx} {k : List Item} {m : Env} {h : Loc} {x : M β} {F : β → Reach}
theorem SJ.draws {cd : Code} {id : Nat} {kd bef ord : List Nat} {E : List (Nat × Nat)} {f : List Nat → M β} (hm : c.P.follows .mixedOrders = true) (hJ : ∀ σ, Good (opsOf cd) σ → SJ c (.inRegion (opsOf cd) σ :: k) m h (f σ) F) (hk : kindOf cd = .region id true := by kernel_rfl) (ht : tableE (opsOf cd) (kdOf kd) bef E ord = true := by kernel_rfl) : SJ c (.code cd :: k) m h (Lx.draws c.f id (opsOf cd) >>= f) F := by
  intro v r v' e w a s D hD
  have s' : St c.fn.ntmps m h v.drew w.drew a := ⟨s.sub.drew, s.size, s.defers, s.get, s.loc, s.nd⟩
  have hD' : DOk D v.drew h := hD
  obtain ⟨w', h3, h4⟩ := hJ _ (table_good (opsOf cd) (kdOf kd) bef E ht (v.tape v.drawn (.order c.f id))) v.drew r v' e w.drew a s' D hD'
  refine ⟨w', h3.head (fun b cs hb _ => ?_), h4⟩
  rw [kind_region hk]
  have := step_region_draw (P := c.P) (b := b) (a := a) (k := k) (cs := cs) (w := w) (ops := opsOf cd) (id := id)
  rw [hm, hb, show ({ w with drawn := w.drawn + 1 } : World) = w.drew from rfl, show w.tape w.drawn = v.tape v.drawn by rw [s.sub.tape, s.sub.drawn]] at this
  exact .one this
theorem SJ.bfr {ops : Array Oper} {σ : List Nat} {y : M β} {p q : Nat} (hg : Good ops σ) (h2 : p ≠ q) (hA : Lx.bfr σ p q = true → SJ c (.inRegion ops σ :: k) m h x F) (hB : Lx.bfr σ q p = true → SJ c (.inRegion ops σ :: k) m h y F) (h1 : Nat.blt p ops.size = true := by kernel_rfl) : SJ c (.inRegion ops σ :: k) m h (if Lx.bfr σ p q = true then x else y) F := by
  by_cases hb : Lx.bfr σ p q = true
  · rw [if_pos hb]
    exact hA hb
  · rw [if_neg hb]
    exact hB (bfr_or ((hg.mem p).1 (by simpa [Nat.blt_eq] using h1)) h2 (by simpa using hb))
theorem SJ.leaf {ops : Array Oper} {σ : List Nat} {kd bef ord : List Nat} {E : List (Nat × Nat)} (hg : Good ops σ) (hE : allB σ E) (hJ : OJ ⟨c.P, c.fn.ntmps, ops, kd, bef⟩ [] ord m h x (fun _ m' h' x' => SJ c k m' h' x' F)) (ht : tableE ops (kdOf kd) bef E ord = true := by kernel_rfl) : SJ c (.inRegion ops σ :: k) m h x F := by
  intro v r v' e w a s D hD
  obtain ⟨p1, m1, h1, x1, v1, w1, a1, hR, e1, hrs, s1, hkp⟩ := hJ v r v' e w a s D hD
  obtain ⟨w', h3, h4⟩ := hR v1 r v' e1 w1 a1 s1 D (hkp.dok hD)
  refine ⟨w', h3.head (fun b cs _ _ => ?_), fun b hb => ⟨(h4 b hb).1.trans (hkp b hb).1, (h4 b hb).2.trans (hkp b hb).2.1⟩⟩
  obtain ⟨e, a', w'', ⟨rfl, rfl, rfl⟩, harr⟩ := wp_ops σ a w (hg.list c.P ops (kdOf kd) bef E ht hE (RS.rr _ _ _ _ hrs)) b k cs
  exact harr
end
end Go.Proofs.Ytlkhijflgbobjaa.Lx
