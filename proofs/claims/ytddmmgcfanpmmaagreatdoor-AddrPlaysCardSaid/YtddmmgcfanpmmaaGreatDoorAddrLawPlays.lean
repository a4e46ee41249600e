/- The laws' common start (weirlaw4: num, loop, started). -/
import Derived.Test.YtddmmgcfanpmmaaGreatDoorAddrBits
import Derived.Test.YtddmmgcfanpmmaaGreatDoorLxQ
set_option linter.unusedVariables false
set_option linter.unusedSimpArgs false
namespace Go.Proofs.YtddmmgcfanpmmaaGreatDoor.Lx
open Go Go.Proofs Go.RowKit
def loopV : api_IP := ⟨4, (⟨[127, 0, 0, 1, 0, 0, 0, 0, 0, 0, 0, 0, 0, 0, 0, 0], rfl⟩ : (Vec Int 16))⟩
theorem loop_byt : Byt loopV.A.l := by
 intro x hx
 have : x = 127 ∨ x = 0 ∨ x = 1 := by
  simp only [loopV, List.mem_cons, List.not_mem_nil, or_false] at hx
  omega
 omega
theorem loop_txt : strI str10 = prIP loopV := by decide +kernel
theorem loop_size : sizeM loopV = 32 := by decide +kernel
theorem loop_class : classM loopV = 2 := by decide +kernel
theorem loop_ip : ipM (strI str10) = (loopV, 0, 0) := by decide +kernel
theorem loop_pi : piM loopV = (str10, 0) := by
 unfold piM
 rw [if_pos (by rw [loop_size]; decide), ← loop_txt, bstr_strI]
section
variable {W w : World} {Hs : List HP}
theorem loop_wp (s : Ss W Hs w) : WP l4_loop w (fun r w' => r = loopV ∧ Ss W Hs w') := by
 unfold l4_loop
 exact WP.slot' s (fun _ w s => WP.ret ⟨rfl, s⟩)
theorem num_wp {β : Type} {x : Int} {f : Int → M β} {Q : β → World → Prop} (h : WP (f x) w Q) : WP (l4_num x >>= f) w Q := WP.bind ⟨x, w, rfl, h⟩
theorem started_wp (s : Ss W Hs w) (t t' : Nat) (et : nth Hs t = some TabN) (et' : nth Hs t' = some TabC) : WP l4_started w (fun r w' => r = true ∧ Ss W Hs w') := by
 unfold l4_started
 refine WP.step (ParseIP_wp s _) ?_
 rintro _ w ⟨rfl, s⟩
 rw [loop_ip]
 refine WP.slot' s (fun _ w s => WP.step (loop_wp s) ?_)
 rintro _ w ⟨rfl, s⟩
 refine WP.step (PrintIP_wp s t et _ loop_byt) ?_
 rintro _ w ⟨rfl, s⟩
 rw [loop_pi]
 refine WP.step (loop_wp s) ?_
 rintro _ w ⟨rfl, s⟩
 refine WP.step (Class_wp s t' et' _ loop_byt) ?_
 rintro _ w ⟨rfl, s⟩
 rw [loop_class]
 refine WP.draw' s (fun w s => WP.step (loop_wp s) ?_)
 rintro _ w ⟨rfl, s⟩
 refine WP.step (R := fun y w' => y = true ∧ w = w') (WP.ite (fun _ => num_wp (WP.ret ⟨rfl, rfl⟩)) (fun h => absurd rfl h)) ?_
 rintro _ _ ⟨rfl, rfl⟩
 refine WP.step (R := fun y w' => y = true ∧ w = w') (WP.ite (fun _ => WP.ret ⟨rfl, rfl⟩) (fun h => absurd rfl h)) ?_
 rintro _ _ ⟨rfl, rfl⟩
 refine WP.step (R := fun y w' => y = true ∧ w = w') (WP.ite (fun _ => WP.ret ⟨beq_self_eq_true _, rfl⟩) (fun h => absurd rfl h)) ?_
 rintro _ _ ⟨rfl, rfl⟩
 refine WP.step (R := fun y w' => y = true ∧ w = w') (WP.ite (fun _ => num_wp (WP.ret ⟨rfl, rfl⟩)) (fun h => absurd rfl h)) ?_
 rintro _ _ ⟨rfl, rfl⟩
 refine WP.step (R := fun y w' => y = true ∧ w = w') (WP.ite (fun _ => WP.ret ⟨rfl, rfl⟩) (fun h => absurd rfl h)) ?_
 rintro _ _ ⟨rfl, rfl⟩
 exact WP.ret ⟨rfl, s⟩
end
structure OpB (o : l4_Op) : Prop where
 a : Byt o.A.A.l
 b : Byt o.B.A.l
 p : Byt o.P.IP.A.l
 m : Byt o.M.l
section
variable {W w : World} {Hs : List HP}
theorem trip_wp {α : Type} [DecidableEq α] (s : Ss W Hs w) (x : α × Int × Int) :
  WP ((if x.1 = x.1 then l4_num x.2.1 >>= fun r28 => pure (r28 == x.2.1) else pure false) >>= fun y29 => (if y29 = true then pure (x.2.2 == x.2.2) else pure false) >>= fun y30 => pure y30) w (fun r w' => r = true ∧ Ss W Hs w') := by
 refine WP.step (R := fun y w' => y = true ∧ w = w') (WP.ite (fun _ => num_wp (WP.ret ⟨beq_iff_eq.2 rfl, rfl⟩)) (fun h => absurd rfl h)) ?_
 rintro _ _ ⟨rfl, rfl⟩
 refine WP.step (R := fun y w' => y = true ∧ w = w') (WP.ite (fun _ => WP.ret ⟨beq_iff_eq.2 rfl, rfl⟩) (fun h => absurd rfl h)) ?_
 rintro _ _ ⟨rfl, rfl⟩
 exact WP.ret ⟨rfl, s⟩
theorem pair2_wp {α : Type} [DecidableEq α] (s : Ss W Hs w) (x : α × Int) :
  WP ((if x.1 = x.1 then l4_num x.2 >>= fun r28 => pure (r28 == x.2) else pure false) >>= fun y30 => pure y30) w (fun r w' => r = true ∧ Ss W Hs w') := by
 refine WP.step (R := fun y w' => y = true ∧ w = w') (WP.ite (fun _ => num_wp (WP.ret ⟨beq_iff_eq.2 rfl, rfl⟩)) (fun h => absurd rfl h)) ?_
 rintro _ _ ⟨rfl, rfl⟩
 exact WP.ret ⟨rfl, s⟩
theorem pairT_wp (s : Ss W Hs w) (x : ByteArray × Int) :
  WP ((if x.1.toList = x.1.toList then l4_num x.2 >>= fun r28 => pure (r28 == x.2) else pure false) >>= fun y30 => pure y30) w (fun r w' => r = true ∧ Ss W Hs w') := by
 refine WP.step (R := fun y w' => y = true ∧ w = w') (WP.ite (fun _ => num_wp (WP.ret ⟨beq_iff_eq.2 rfl, rfl⟩)) (fun h => absurd rfl h)) ?_
 rintro _ _ ⟨rfl, rfl⟩
 exact WP.ret ⟨rfl, s⟩
theorem upTo_wp (s : Ss W Hs w) (t t' p : Nat) (et : nth Hs t = some TabN) (et' : nth Hs t' = some TabC) {u : Sl} {ops : List l4_Op} (ep : nth Hs p = some (rdS c_weirlaw4_Op false u ops)) (hl : ops.length ≤ 140737488351232) (h : ∀ o ∈ ops, OpB o) (lo hi : Int) (pl : ∀ (o : l4_Op) (w : World), OpB o → lo ≤ o.Kind → o.Kind ≤ hi → Ss W Hs w → WP (l4_plays o) w (fun r w' => r = true ∧ Ss W Hs w')) : WP (l4_upTo u lo hi) w (fun r w' => r = true ∧ Ss W Hs w') := by
 unfold l4_upTo
 have hlen := (s.rd_len ep rdS_rdb).1
 refine WP.loopG (γ := Nat) (fun k (x : Int) w => x = (k : Int) ∧ k ≤ ops.length ∧ Ss W Hs w) (fun k _ => ops.length - k) 0 ⟨rfl, Nat.zero_le _, s⟩ ?_
 clear s
 rintro k _ w ⟨rfl, hk, s⟩
 show WP (l4_upTo.L1 u lo hi (k : Int)) w _
 unfold l4_upTo.L1
 refine WP.ite (fun h1 => ?_) (fun h1 => WP.done ⟨rfl, s⟩)
 have hk' : k < ops.length := by omega
 have hx : ops[Int.toNat (k : Int)]? = some ops[k] := by rw [Int.toNat_natCast, List.getElem?_eq_getElem hk']
 rw [wrap_i64 (by omega) (by omega)]
 have nx : ∀ {w : World}, Ss W Hs w → WP (pure (LS.next ((k : Int) + 1)) : M (LS Int Bool)) w (WP.Rd (fun (x : Int) w' => ∃ k' : Nat, (x = (k' : Int) ∧ k' ≤ ops.length ∧ Ss W Hs w') ∧ ops.length - k' < ops.length - k) (fun r w' => r = true ∧ Ss W Hs w')) := fun s => WP.next ⟨k + 1, ⟨by simp, hk', s⟩, by omega⟩
 refine WP.rdxp0 s p ep rdS_rdb (by omega) hx rfl (At_weirlaw4_Op_Kind _) ?_
 refine WP.step (R := fun y w' => (y = true → lo ≤ ops[k].Kind ∧ ops[k].Kind ≤ hi) ∧ w = w') (WP.ite (fun hlo => ?_) (fun _ => WP.ret ⟨fun h => (by cases h), rfl⟩)) ?_
 ·exact WP.rdxp0 s p ep rdS_rdb (by omega) hx rfl (At_weirlaw4_Op_Kind _) (WP.ret ⟨fun h => ⟨hlo, of_decide_eq_true h⟩, rfl⟩)
 rintro y _ ⟨hy, rfl⟩
 refine WP.ite (fun hyt => ?_) (fun _ => nx s)
 refine WP.rdxp0 s p ep rdS_rdb (by omega) hx rfl (At.whole _) (WP.step (pl _ _ (h _ (List.getElem_mem hk')) (hy hyt).1 (hy hyt).2 s) ?_)
 rintro _ w ⟨rfl, s⟩
 exact WP.ite (fun h => absurd rfl h) (fun _ => nx s)
theorem script_wp (s : Ss W Hs w) (t t' p : Nat) (et : nth Hs t = some TabN) (et' : nth Hs t' = some TabC) {u : Sl} {ops : List l4_Op} (ep : nth Hs p = some (rdS c_weirlaw4_Op false u ops)) (hl : ops.length ≤ 140737488351232) (h : ∀ o ∈ ops, OpB o) (lo hi : Int) (pl : ∀ (o : l4_Op) (w : World), OpB o → lo ≤ o.Kind → o.Kind ≤ hi → Ss W Hs w → WP (l4_plays o) w (fun r w' => r = true ∧ Ss W Hs w')) :
  WP (l4_started >>= fun r1 => (if r1 = true then l4_upTo u lo hi >>= fun r2 => pure r2 else pure false) >>= fun y3 => pure y3) w (fun r w' => r = true ∧ Ss W Hs w') := by
 refine WP.step (started_wp s t t' et et') ?_
 rintro _ w ⟨rfl, s⟩
 refine WP.step (WP.ite (fun _ => WP.step (upTo_wp s t t' p et et' ep hl h lo hi pl) (fun r w h => WP.ret h)) (fun h => absurd rfl h)) (fun r w h => WP.ret h)
end
theorem byt_wf {l : List Int} (h : ∀ x ∈ l, (Lit.int .u8 x).wf = true) : Byt l := fun x hx => by
 have := h x hx
 simp [Lit.wf, IntKind.min, IntKind.max, IntKind.bits, IntKind.signed] at this
 exact this
theorem map_lit {k : IntKind} {a b : List Int} (h : a.map (fun x => (DataW.lit (.int k x) : DataW Unit)) = b.map fun x => DataW.lit (.int k x)) : a = b := by
 refine (List.map_inj_right (f := fun x => (DataW.lit (.int k x) : DataW Unit)) ?_).1 h
 intro x y e
 cases e
 rfl
theorem arr_lit {k : IntKind} {n : Nat} {a b : Vec Int n} (h : (DataW.agg (a.l.map (fun x => DataW.lit (.int k x))) : DataW Unit) = DataW.agg (b.l.map fun x => DataW.lit (.int k x))) : a = b := by
 obtain ⟨a, ha⟩ := a
 obtain ⟨b, hb⟩ := b
 have : a = b := map_lit (DataW.agg.inj h)
 subst this
 rfl
theorem datnet_inj (x y : addr_net) (h : dat60 x = dat60 y) : x = y := by
 obtain ⟨v, a, b, c⟩ := x
 obtain ⟨v', a', b', c'⟩ := y
 have h1 := DataW.agg.inj h
 simp only [List.cons.injEq, DataW.lit.injEq, Lit.int.injEq, true_and, and_true] at h1
 obtain ⟨rfl, h2, rfl, rfl⟩ := h1
 have := arr_lit (a := a) (b := a') (by simpa using h2)
 subst this
 rfl
theorem arr_net {a b : Vec addr_net 12} (h : (DataW.agg (a.l.map (fun x => dat60 x)) : DataW Unit) = DataW.agg (b.l.map fun x => dat60 x)) : a = b := by
 obtain ⟨a, ha⟩ := a
 obtain ⟨b, hb⟩ := b
 have : a = b := (List.map_inj_right (f := fun x => dat60 x) datnet_inj).1 (DataW.agg.inj h)
 subst this
 rfl
theorem tabs {W : World} (h : Laid W) : Ss W [TabC, TabN] W := by
 obtain ⟨u0, u1, u2, u3, _, ⟨d1, c1⟩, ⟨d2, c2⟩, ⟨d3, c3⟩⟩ := laid_of h
 obtain rfl : u1 = dbV := arr_lit (d1.symm.trans (by rfl))
 obtain rfl : u2 = pow10V := arr_lit (d2.symm.trans (by rfl))
 obtain rfl : u3 = netsV := arr_net (d3.symm.trans (by rfl))
 have s0 : Ss W [] W := Ss.start W
 have s := ((s0.tab (by decide) c1).tab (by decide) c2).tab (by decide) c3
 have s2 := Ss.group (l := [pts false ⟨2, 0, none⟩ (((cI .u64).arr 20).enc pow10V), pts false ⟨4, 0, none⟩ (((cI .u8).arr 64).enc dbV)]) (s.use [1, 1] rfl)
 have s3 : Ss W (TabN :: _) W := s2.first (fun h hh => by
  obtain ⟨h1, h2, _, l1, l2, a, h3, h4, _, l3, _, b, _⟩ := hh
  exact ⟨⟨a.1, fun i x e => l1 _ _ _ (a.2 i x e)⟩, ⟨b.1, fun i x e => l2 _ _ _ (l3 _ _ _ (b.2 i x e))⟩⟩)
 exact s3.use [1] rfl
section
variable {W w : World} {Hs : List HP}
theorem vecg {a : Vec Int 16} (i : Nat) : Vec.g a (i : Int) 0 = a.l.getD i 0 := by
 unfold Vec.g
 rw [Int.toNat_natCast]
theorem rValid_wp (s : Ss W Hs w) (ip : api_IP) : WP (r4_Valid ip) w (fun r w' => r = decide (sizeM ip > 0) ∧ Ss W Hs w') := by
 unfold r4_Valid
 refine WP.slot' s (fun _ w s => WP.ite (fun h => WP.ret ⟨?_, s⟩) (fun h => ?_))
 ·unfold sizeM
  by_cases h6 : ip.V = 6
  ·simp [h6]
  ·rw [if_neg h6, if_neg (fun h' => h h'.1)]
   simp [h6]
 have h4 : ip.V = 4 := Decidable.not_not.1 h
 have hs : sizeM ip > 0 ↔ ∀ j, 4 ≤ j → j < 16 → ip.A.l.getD j 0 = 0 := by
  have hl := ip.A.h
  unfold sizeM
  rw [if_neg (by omega)]
  constructor
  ·intro h j h1 h2
   split at h
   ·rename_i hz
    have e := congrArg (fun l => l.getD (j - 4) 0) hz.2
    simp only [List.getD, List.getElem?_drop] at e
    rw [show 4 + (j - 4) = j by omega, List.getElem?_replicate, if_pos (show j - 4 < 12 by omega)] at e
    exact e
   ·omega
  ·intro h
   have hz : ip.A.l.drop 4 = List.replicate 12 0 := by
    rw [List.eq_replicate_iff]
    refine ⟨by rw [List.length_drop]; omega, fun b hb => ?_⟩
    obtain ⟨q, hq⟩ := List.mem_iff_getElem?.1 hb
    have hlt := (List.getElem?_eq_some_iff.1 hq).1
    rw [List.length_drop] at hlt
    rw [List.getElem?_drop] at hq
    have := h (4 + q) (by omega) (by omega)
    rw [List.getD, hq] at this
    exact this
   have e : (if ip.V = 4 ∧ ip.A.l.drop 4 = List.replicate 12 0 then (32 : Int) else 0) = 32 := if_pos ⟨h4, hz⟩
   omega
 refine WP.loopG (γ := Nat) (fun i (x : Int) w => x = (i : Int) ∧ 4 ≤ i ∧ i ≤ 16 ∧ (∀ j, 4 ≤ j → j < i → ip.A.l.getD j 0 = 0) ∧ Ss W Hs w) (fun i _ => 16 - i) 4 ⟨rfl, by omega, by omega, fun j h1 h2 => by omega, s⟩ ?_
 clear s
 rintro i _ w ⟨rfl, h1, h2, hz, s⟩
 show WP (r4_Valid.L1 ip (i : Int)) w _
 unfold r4_Valid.L1
 refine WP.ite (fun h => WP.chk ⟨by omega, by omega⟩ ?_) (fun h => WP.done ⟨?_, s⟩)
 ·rw [vecg]
  refine WP.ite (fun h' => WP.done ⟨?_, s⟩) (fun h' => ?_)
  ·rw [decide_eq_false]
   intro hh
   exact h' (hs.1 hh i h1 (by omega))
  ·rw [wrap_i64 (by omega) (by omega)]
   refine WP.next ⟨i + 1, ⟨by omega, by omega, by omega, fun j j1 j2 => ?_, s⟩, by omega⟩
   by_cases e : j = i
   ·subst e
    exact Decidable.not_not.1 h'
   ·exact hz j j1 (by omega)
 ·exact (decide_eq_true (hs.2 fun j j1 j2 => hz j j1 (by omega))).symm
theorem width_wp (s : Ss W Hs w) (ip : api_IP) (h : sizeM ip > 0) : WP (r4_width ip) w (fun r w' => r = sizeM ip ∧ Ss W Hs w') := by
 unfold r4_width
 rw [sizeM_eq h]
 exact WP.slot' s (fun _ w s => WP.ite (fun h => WP.ret ⟨by rw [if_pos h], s⟩) (fun h => WP.ret ⟨by rw [if_neg h], s⟩))
theorem bit_wp (s : Ss W Hs w) (ip : api_IP) (hb : Byt ip.A.l) {i : Nat} (hi : i < 128) : WP (r4_bit ip (i : Int)) w (fun r w' => r = bitM ip.A.l i ∧ Ss W Hs w') := by
 unfold r4_bit
 have e1 : IntKind.wrap .i64 (Int.tdiv (i : Int) 8) = ((i / 8 : Nat) : Int) := by
  rw [Int.tdiv_eq_ediv_of_nonneg (by omega), wrap_i64 (by omega) (by omega)]
  omega
 have e2 : Int.tmod (i : Int) 8 = ((i % 8 : Nat) : Int) := by
  rw [Int.tmod_eq_emod_of_nonneg (by omega)]
  omega
 have hc := getD_b hb (i / 8)
 rw [e1, e2, vecg, wrap_i64 (by omega) (by omega)]
 refine WP.slot' s (fun _ w s => WP.chk ⟨by omega, by omega⟩ ?_)
 refine WP.loopG (γ := Nat) (fun k (x : Int × Int) w => x.1 = ip.A.l.getD (i / 8) 0 / 2 ^ (k - i % 8) ∧ x.2 = (k : Int) ∧ i % 8 ≤ k ∧ k ≤ 7 ∧ Ss W Hs w) (fun k _ => 7 - k) (i % 8) ⟨by simp, rfl, Nat.le_refl _, by omega, s⟩ ?_
 clear s
 rintro k ⟨_, _⟩ w ⟨rfl, rfl, h1, h2, s⟩
 show WP (r4_bit.L1 (ip.A.l.getD (i / 8) 0 / 2 ^ (k - i % 8)) (k : Int)) w _
 unfold r4_bit.L1
 have hp : (0 : Int) < 2 ^ (k - i % 8) := Int.pow_pos (by omega)
 have hq : 0 ≤ ip.A.l.getD (i / 8) 0 / 2 ^ (k - i % 8) := Int.ediv_nonneg hc.1 (by omega)
 have hq2 : ip.A.l.getD (i / 8) 0 / 2 ^ (k - i % 8) ≤ 255 := by
  have := Int.ediv_le_self (2 ^ (k - i % 8)) hc.1
  omega
 refine WP.ite (fun h => ?_) (fun h => WP.done ⟨?_, s⟩)
 ·rw [wrap_i64 (n := (k : Int) + 1) (by omega) (by omega), Int.tdiv_eq_ediv_of_nonneg hq, wrap_i64 (by omega) (by omega)]
  refine WP.next ⟨k + 1, ⟨?_, by simp, by omega, by omega, s⟩, by omega⟩
  simp only
  rw [Int.ediv_ediv_of_nonneg (by omega), show k + 1 - i % 8 = (k - i % 8) + 1 by omega, Int.pow_succ]
 ·have hk : k = 7 := by omega
  subst hk
  rw [Int.tmod_eq_emod_of_nonneg hq]
  rfl
theorem rValidPrefix_wp (s : Ss W Hs w) (p : api_Prefix) (hb : Byt p.IP.A.l) : WP (r4_ValidPrefix p) w (fun r w' => r = vpM p ∧ Ss W Hs w') := by
 have hz := sizeM_le p.IP
 unfold r4_ValidPrefix
 refine WP.slot' s (fun _ w s => WP.step (rValid_wp s p.IP) ?_)
 rintro _ w ⟨rfl, s⟩
 refine WP.ite (fun h => WP.ret ⟨?_, s⟩) (fun h => ?_)
 ·unfold vpM
  rw [if_pos]
  have : ¬ sizeM p.IP > 0 := fun h' => h (decide_eq_true h')
  omega
 have hv : sizeM p.IP > 0 := of_decide_eq_true (Decidable.not_not.1 h)
 refine WP.step (width_wp s p.IP hv) ?_
 rintro _ w ⟨rfl, s⟩
 refine WP.step (R := fun y w' => y = decide (p.Len < 0 ∨ p.Len > sizeM p.IP) ∧ w = w') (WP.ite (fun h => WP.ret ⟨by simp [h], rfl⟩) (fun h => WP.ret ⟨by simp [h], rfl⟩)) ?_
 rintro _ _ ⟨rfl, rfl⟩
 refine WP.ite (fun h => WP.ret ⟨by unfold vpM; rw [if_neg (by omega), if_pos (of_decide_eq_true h)], s⟩) (fun h => ?_)
 have hn : ¬ (p.Len < 0 ∨ p.Len > sizeM p.IP) := fun h' => h (decide_eq_true h')
 have hv2 : vpM p = if ∀ i : Nat, i < 128 → p.Len ≤ (i : Int) → bitM p.IP.A.l i = 0 then 0 else 46 := by
  unfold vpM
  rw [if_neg (by omega), if_neg hn]
  by_cases e : maskM p.IP.A p.Len = p.IP.A
  ·rw [if_pos e, if_pos ((mask_self hb).1 e)]
  ·rw [if_neg e, if_neg (fun h => e ((mask_self hb).2 h))]
 refine WP.loopG (γ := Nat) (fun i (x : Int) w => x = (i : Int) ∧ p.Len ≤ (i : Int) ∧ (i : Int) ≤ sizeM p.IP ∧ (∀ j : Nat, p.Len ≤ (j : Int) → j < i → bitM p.IP.A.l j = 0) ∧ Ss W Hs w) (fun i _ => (sizeM p.IP).toNat - i) p.Len.toNat ⟨by omega, by omega, by omega, fun j h1 h2 => by omega, s⟩ ?_
 clear s
 rintro i _ w ⟨rfl, h1, h2, hq, s⟩
 show WP (r4_ValidPrefix.L1 p (sizeM p.IP) (i : Int)) w _
 unfold r4_ValidPrefix.L1
 refine WP.ite (fun h => WP.step (bit_wp s p.IP hb (i := i) (by omega)) ?_) (fun h => WP.done ⟨?_, s⟩)
 ·rintro _ w ⟨rfl, s⟩
  refine WP.ite (fun e => WP.done ⟨?_, s⟩) (fun e => ?_)
  ·rw [hv2, if_neg (fun hh => by have := hh i (by omega) h1; omega)]
  ·have e0 : bitM p.IP.A.l i = 0 := (bitB_01 _ _).resolve_right e
   rw [wrap_i64 (by omega) (by omega)]
   refine WP.next ⟨i + 1, ⟨by omega, by omega, by omega, fun j j1 j2 => ?_, s⟩, by omega⟩
   by_cases ej : j = i
   ·subst ej
    exact e0
   ·exact hq j j1 (by omega)
 ·rw [hv2, if_pos]
  intro j j1 j2
  by_cases ej : j < i
  ·exact hq j j2 ej
  ·exact bit_over hv (by omega) j1
end
section
variable {W w : World} {Hs : List HP}
theorem rContains_wp (s : Ss W Hs w) (p : api_Prefix) (hb : Byt p.IP.A.l) (ip : api_IP) (hb2 : Byt ip.A.l) : WP (r4_Contains p ip) w (fun r w' => r = ctM p ip ∧ Ss W Hs w') := by
 unfold r4_Contains
 refine WP.slot' s (fun _ w s => WP.slot' s (fun _ w s => WP.step (rValidPrefix_wp s p hb) ?_))
 rintro _ w ⟨rfl, s⟩
 refine WP.step (rValid_wp s ip) ?_
 rintro _ w ⟨rfl, s⟩
 refine WP.step (R := fun y w' => y = decide (vpM p ≠ 0 ∨ ¬ sizeM ip > 0) ∧ w = w') (WP.ite (fun h => WP.ret ⟨by simp [h], rfl⟩) (fun h => WP.ret ⟨by rw [Bool.eq_iff_iff]; simp [Decidable.not_not.1 h], rfl⟩)) ?_
 rintro _ _ ⟨rfl, rfl⟩
 refine WP.step (R := fun y w' => y = decide (vpM p ≠ 0 ∨ ¬ sizeM ip > 0 ∨ p.IP.V ≠ ip.V) ∧ w = w') (WP.ite (fun h => WP.ret ⟨?_, rfl⟩) (fun h => WP.ret ⟨?_, rfl⟩)) ?_
 ·have := of_decide_eq_true h
  refine (decide_eq_true ?_).symm
  rcases this with h | h
  ·exact .inl h
  ·exact .inr (.inl h)
 ·have hn : ¬ (vpM p ≠ 0 ∨ ¬ sizeM ip > 0) := fun h' => h (decide_eq_true h')
  rw [bne, Bool.eq_iff_iff]
  simp only [Bool.not_eq_true', beq_eq_false_iff_ne, ne_eq, decide_eq_true_eq]
  exact ⟨fun h => .inr (.inr h), fun h => by
   rcases h with h | h | h
   ·exact absurd (.inl h) hn
   ·exact absurd (.inr h) hn
   ·exact h⟩
 rintro _ _ ⟨rfl, rfl⟩
 refine WP.ite (fun h => WP.ret ⟨?_, s⟩) (fun h => ?_)
 ·have := of_decide_eq_true h
  refine (decide_eq_false fun h2 => ?_).symm
  rcases this with h | h | h
  ·exact h h2.1
  ·exact h h2.2.1
  ·exact h h2.2.2.1
 have hn : ¬ (vpM p ≠ 0 ∨ ¬ sizeM ip > 0 ∨ p.IP.V ≠ ip.V) := fun h' => h (decide_eq_true h')
 have hv : vpM p = 0 := Decidable.not_not.1 fun h' => hn (.inl h')
 have hs : sizeM ip > 0 := Decidable.not_not.1 fun h' => hn (.inr (.inl h'))
 have hV : p.IP.V = ip.V := Decidable.not_not.1 fun h' => hn (.inr (.inr h'))
 obtain ⟨_, l0, l1, l2⟩ := vpM_len hv
 have hz := sizeM_le p.IP
 have hct : ctM p ip = decide (∀ i : Nat, i < 128 → (i : Int) < p.Len → bitM ip.A.l i = bitM p.IP.A.l i) := by
  unfold ctM
  rw [decide_eq_decide, ← mask_same hb2 hb, l2]
  exact ⟨fun h => h.2.2.2, fun h => ⟨hv, hs, hV, h⟩⟩
 refine WP.loopG (γ := Nat) (fun i (x : Int) w => x = (i : Int) ∧ (i : Int) ≤ p.Len ∧ (∀ j : Nat, j < i → bitM ip.A.l j = bitM p.IP.A.l j) ∧ Ss W Hs w) (fun i _ => p.Len.toNat - i) 0 ⟨rfl, by omega, fun j h => by omega, s⟩ ?_
 clear s
 rintro i _ w ⟨rfl, h1, hq, s⟩
 show WP (r4_Contains.L1 p ip (i : Int)) w _
 unfold r4_Contains.L1
 refine WP.ite (fun h => WP.draw' s (fun w s => WP.step (bit_wp s p.IP hb (i := i) (by omega)) ?_)) (fun h => WP.done ⟨?_, s⟩)
 ·rintro _ w ⟨rfl, s⟩
  refine WP.step (bit_wp s ip hb2 (i := i) (by omega)) ?_
  rintro _ w ⟨rfl, s⟩
  refine WP.ite (fun e => WP.done ⟨?_, s⟩) (fun e => ?_)
  ·rw [hct]
   exact (decide_eq_false fun hh => e (hh i (by omega) (by omega)).symm).symm
  ·rw [wrap_i64 (by omega) (by omega)]
   refine WP.next ⟨i + 1, ⟨by omega, by omega, fun j j1 => ?_, s⟩, by omega⟩
   by_cases ej : j = i
   ·subst ej
    exact (Decidable.not_not.1 e).symm
   ·exact hq j (by omega)
 ·rw [hct]
  exact (decide_eq_true fun j _ j2 => hq j (by omega)).symm
end
section
variable {W w : World} {Hs : List HP}
theorem rMask_wp (s : Ss W Hs w) (ip : api_IP) (hb : Byt ip.A.l) (n : Int) : WP (r4_Mask ip n) w (fun r w' => r = mkM ip n ∧ Ss W Hs w') := by
 have hz := sizeM_le ip
 unfold r4_Mask
 refine WP.slot' s (fun _ w s => WP.slot' s (fun _ w s => WP.step (rValid_wp s ip) ?_))
 rintro _ w ⟨rfl, s⟩
 refine WP.ite (fun h => WP.ret ⟨?_, s⟩) (fun h => ?_)
 ·unfold mkM
  rw [if_pos]
  have : ¬ sizeM ip > 0 := fun h' => h (decide_eq_true h')
  omega
 have hv : sizeM ip > 0 := of_decide_eq_true (Decidable.not_not.1 h)
 refine WP.step (R := fun y w' => y = decide (n < 0 ∨ n > sizeM ip) ∧ Ss W Hs w') (WP.ite (fun h => WP.ret ⟨by simp [h], s⟩) (fun h => WP.step (width_wp s ip hv) ?_)) ?_
 ·rintro _ w ⟨rfl, s⟩
  exact WP.ret ⟨by simp [h], s⟩
 rintro _ w ⟨rfl, s⟩
 refine WP.ite (fun h => WP.ret ⟨by unfold mkM; rw [if_neg (by omega), if_pos (of_decide_eq_true h)], s⟩) (fun h => ?_)
 have hn : ¬ (n < 0 ∨ n > sizeM ip) := fun h' => h (decide_eq_true h')
 refine WP.slot' s (fun _ w s => ?_)
 refine WP.loopG (γ := Nat) (fun i (x : Int × api_IP) w => x.1 = (i : Int) ∧ i ≤ 16 ∧ x.2.V = ip.V ∧ (∀ j, j < i → x.2.A.l[j]? = some (mbyte (ip.A.l.getD j 0) (n - 8 * (j : Int)))) ∧ Ss W Hs w) (fun i _ => 16 - i) 0 ⟨rfl, by omega, rfl, fun j h => absurd h (by omega), s⟩ ?_
 clear s
 rintro i ⟨_, v⟩ w ⟨rfl, hi, hV, hm, s⟩
 simp only at hV hm
 show WP (r4_Mask.L1 ip n (i : Int) v) w _
 unfold r4_Mask.L1
 refine WP.ite (fun h => ?_) (fun h => WP.done ⟨?_, s⟩)
 ·have e8 : IntKind.wrap .i64 (8 * (i : Int)) = 8 * (i : Int) := wrap_i64 (by omega) (by omega)
  have hc := getD_b hb i
  have hacc : ∀ t, 0 ≤ accB (fun t => if (t : Int) < n - 8 * (i : Int) then bitB (ip.A.l.getD i 0) t else 0) t ∧ accB (fun t => if (t : Int) < n - 8 * (i : Int) then bitB (ip.A.l.getD i 0) t else 0) t < 2 ^ t := by
   intro t
   induction t with
   | zero => exact ⟨by unfold accB; omega, by unfold accB; omega⟩
   | succ t ih =>
    have hb01 : 0 ≤ (if (t : Int) < n - 8 * (i : Int) then bitB (ip.A.l.getD i 0) t else 0) ∧ (if (t : Int) < n - 8 * (i : Int) then bitB (ip.A.l.getD i 0) t else 0) ≤ 1 := by
     split
     ·rcases bitB_01 (ip.A.l.getD i 0) t with h | h <;> omega
     ·omega
    unfold accB
    rw [Int.pow_succ]
    omega
  rw [e8]
  refine WP.loopG (γ := Nat) (fun t (x : Int × Int) w => x.1 = accB (fun t => if (t : Int) < n - 8 * (i : Int) then bitB (ip.A.l.getD i 0) t else 0) t ∧ x.2 = ((8 * i + t : Nat) : Int) ∧ t ≤ 8 ∧ Ss W Hs w) (fun t _ => 8 - t) 0 ⟨rfl, by simp, by omega, s⟩ ?_
  clear s
  rintro t ⟨_, _⟩ w ⟨rfl, rfl, ht, s⟩
  show WP (r4_Mask.L2 ip n (i : Int) v _ ((8 * i + t : Nat) : Int)) w _
  unfold r4_Mask.L2
  rw [e8, wrap_i64 (n := 8 * (i : Int) + 8) (by omega) (by omega)]
  have hA := hacc t
  have hp : (2 : Int) ^ t ≤ 256 := (show ∀ t : _root_.Fin 9, (2 : Int) ^ t.val ≤ 256 by decide) ⟨t, by omega⟩
  refine WP.ite (fun h2 => ?_) (fun h2 => ?_)
  ·have hw : IntKind.wrap .i64 (((8 * i + t : Nat) : Int) + 1) = ((8 * i + (t + 1) : Nat) : Int) := by rw [wrap_i64 (by omega) (by omega)]; omega
   have hb1 : bitM ip.A.l (8 * i + t) = bitB (ip.A.l.getD i 0) t := by
    unfold bitM
    rw [show (8 * i + t) / 8 = i by omega, show (8 * i + t) % 8 = t by omega]
   refine WP.ite (fun h3 => WP.step (bit_wp s ip hb (i := 8 * i + t) (by omega)) ?_) (fun h3 => ?_)
   ·rintro _ w ⟨rfl, s⟩
    have h01 := bitB_01 (ip.A.l.getD i 0) t
    rw [hw, hb1, wrap_i64 (n := 2 * _) (by omega) (by omega), wrap_i64 (by omega) (by omega)]
    refine WP.next ⟨t + 1, ⟨?_, rfl, by omega, s⟩, by omega⟩
    simp only [accB]
    rw [if_pos (by omega)]
   ·rw [hw, wrap_i64 (n := 2 * _) (by omega) (by omega)]
    refine WP.next ⟨t + 1, ⟨?_, rfl, by omega, s⟩, by omega⟩
    simp only [accB]
    rw [if_neg (by omega)]
    omega
  ·have ht8 : t = 8 := by omega
   subst ht8
   rw [acc_mbyte hc] at hA ⊢
   unfold r4_Mask.K1
   rw [wrap_u8 (by omega) (by omega), wrap_i64 (by omega) (by omega)]
   refine WP.step (R := fun r w' => r = LS.next ((i : Int) + 1, (⟨v.V, Vec.s v.A (i : Int) (mbyte (ip.A.l.getD i 0) (n - 8 * (i : Int)))⟩ : api_IP)) ∧ Ss W Hs w') (WP.chk ⟨by omega, by omega⟩ (WP.ret ⟨rfl, s⟩)) ?_
   rintro _ w ⟨rfl, s⟩
   refine WP.done ⟨i + 1, ⟨by simp, by omega, hV, fun j hj => ?_, s⟩, by omega⟩
   show (v.A.l.set (Int.toNat (i : Int)) _)[j]? = _
   rw [Int.toNat_natCast]
   by_cases ej : j = i
   ·subst ej
    rw [List.getElem?_set_self (by rw [v.A.h]; omega)]
   ·rw [List.getElem?_set_ne (fun h => ej h.symm)]
    exact hm j (by omega)
 ·have hi : i = 16 := by omega
  subst hi
  unfold mkM
  rw [if_neg (by omega), if_neg hn]
  obtain ⟨V, A⟩ := v
  simp only at hV hm
  subst hV
  have : A = maskM ip.A n := by
   refine Vec.eq ?_
   show A.l = maskL ip.A.l n
   apply List.ext_getElem?
   intro j
   unfold maskL
   rw [List.getElem?_map]
   by_cases hj : j < 16
   ·rw [hm j hj, List.getElem?_range hj]
    rfl
   ·rw [List.getElem?_eq_none (by rw [A.h]; omega), List.getElem?_eq_none (by simp; omega)]
    rfl
  rw [this]
def lessF (a b : List Int) : Nat → Nat → Bool
 | 0, _ => false
 | f + 1, i => if a.getD i 0 ≠ b.getD i 0 then decide (a.getD i 0 < b.getD i 0) else lessF a b f (i + 1)
def lessM (a b : api_IP) : Bool := if a.V ≠ b.V then decide (a.V < b.V) else lessF a.A.l b.A.l 16 0
theorem Less_wp (s : Ss W Hs w) (a b : api_IP) : WP (addr_Less a b) w (fun r w' => r = lessM a b ∧ Ss W Hs w') := by
 unfold addr_Less lessM
 refine WP.slot' s (fun _ w s => WP.slot' s (fun _ w s => WP.ite (fun h => WP.ret ⟨by rw [if_pos h], s⟩) (fun h => ?_)))
 rw [if_neg h]
 generalize hX : lessF a.A.l b.A.l 16 0 = X
 refine WP.loopG (γ := Nat) (fun i (x : Int) w => x = (i : Int) ∧ i ≤ 16 ∧ lessF a.A.l b.A.l (16 - i) i = X ∧ Ss W Hs w) (fun i _ => 16 - i) 0 ⟨rfl, by omega, hX, s⟩ ?_
 clear s hX
 rintro i _ w ⟨rfl, hi, hl, s⟩
 show WP (addr_Less.L1 a b (i : Int)) w _
 unfold addr_Less.L1
 rw [vecg, vecg]
 refine WP.ite (fun h1 => WP.draw' s (fun w s => WP.chk ⟨by omega, by omega⟩ (WP.chk ⟨by omega, by omega⟩ ?_))) (fun h1 => ?_)
 ·rw [show 16 - i = (15 - i) + 1 by omega] at hl
  unfold lessF at hl
  refine WP.ite (fun h2 => WP.draw' s (fun w s => WP.chk ⟨by omega, by omega⟩ (WP.chk ⟨by omega, by omega⟩ (WP.done ⟨?_, s⟩)))) (fun h2 => ?_)
  ·rw [← hl, if_pos h2]
  ·rw [if_neg h2] at hl
   rw [wrap_i64 (by omega) (by omega)]
   exact WP.next ⟨i + 1, ⟨by omega, by omega, by rw [show 16 - (i + 1) = 15 - i by omega]; exact hl, s⟩, by omega⟩
 ·rw [show 16 - i = 0 by omega] at hl
  exact WP.done ⟨by rw [← hl]; rfl, s⟩
theorem rLess_wp (s : Ss W Hs w) (a b : api_IP) : WP (r4_Less a b) w (fun r w' => r = lessM a b ∧ Ss W Hs w') := by
 unfold r4_Less lessM
 refine WP.slot' s (fun _ w s => WP.slot' s (fun _ w s => WP.ite (fun h => WP.ret ⟨by rw [if_pos h], s⟩) (fun h => ?_)))
 rw [if_neg h]
 generalize hX : lessF a.A.l b.A.l 16 0 = X
 refine WP.loopG (γ := Nat) (fun i (x : Int) w => x = (i : Int) ∧ i ≤ 16 ∧ lessF a.A.l b.A.l (16 - i) i = X ∧ Ss W Hs w) (fun i _ => 16 - i) 0 ⟨rfl, by omega, hX, s⟩ ?_
 clear s hX
 rintro i _ w ⟨rfl, hi, hl, s⟩
 show WP (r4_Less.L1 a b (i : Int)) w _
 unfold r4_Less.L1
 rw [vecg, vecg]
 refine WP.ite (fun h1 => WP.draw' s (fun w s => WP.chk ⟨by omega, by omega⟩ (WP.chk ⟨by omega, by omega⟩ ?_))) (fun h1 => ?_)
 ·rw [show 16 - i = (15 - i) + 1 by omega] at hl
  unfold lessF at hl
  refine WP.ite (fun h2 => WP.draw' s (fun w s => WP.chk ⟨by omega, by omega⟩ (WP.chk ⟨by omega, by omega⟩ (WP.done ⟨?_, s⟩)))) (fun h2 => ?_)
  ·rw [← hl, if_pos h2]
  ·rw [if_neg h2] at hl
   rw [wrap_i64 (by omega) (by omega)]
   exact WP.next ⟨i + 1, ⟨by omega, by omega, by rw [show 16 - (i + 1) = 15 - i by omega]; exact hl, s⟩, by omega⟩
 ·rw [show 16 - i = 0 by omega] at hl
  exact WP.done ⟨by rw [← hl]; rfl, s⟩
end
def decM (l : List Int) (p q : Nat) (most : Int) : Int := if q - p > 3 ∨ (q - p > 1 ∧ l.getD p 0 = 48) then -1 else if (valD ((l.drop p).take (q - p)) : Int) > most then -1 else (valD ((l.drop p).take (q - p)) : Int)
theorem numM_dec (l : List Int) (i : Nat) (most wrong : Int) : numM l i most wrong = if runE isDig l i = i then .error (missM l i) else if decM l i (runE isDig l i) most < 0 then .error (wrong, i) else .ok ((decM l i (runE isDig l i) most).toNat, runE isDig l i) := by
 unfold numM decM
 split
 ·rfl
 ·split
  ·rw [if_pos (show (-1 : Int) < 0 by decide)]
  ·split
   ·rw [if_pos (show (-1 : Int) < 0 by decide)]
   ·rw [if_neg (by omega), Int.toNat_natCast]
theorem dbl_iff {l : List Int} {p : Nat} : dblAt l p ↔ p + 1 < l.length ∧ l.getD p 0 = 58 ∧ l.getD (p + 1) 0 = 58 := by
 unfold dblAt
 have g : ∀ k, (l.drop p)[k]? = l[p + k]? := fun k => by rw [List.getElem?_drop]
 have hl : (l.drop p).length = l.length - p := List.length_drop
 constructor
 ·intro h
  have h2 : 2 ≤ (l.drop p).length := by
   have := congrArg List.length h
   rw [List.length_take] at this
   simp only [List.length_cons, List.length_nil] at this
   omega
  have e0 := congrArg (fun x => x[0]?) h
  have e1 := congrArg (fun x => x[1]?) h
  simp only [List.getElem?_take, g, List.getElem?_cons_zero, List.getElem?_cons_succ] at e0 e1
  rw [if_pos (by omega)] at e0 e1
  refine ⟨by omega, ?_, ?_⟩
  ·rw [List.getD, show p = p + 0 from rfl, e0]
   rfl
  ·rw [List.getD, e1]
   rfl
 ·rintro ⟨h1, h2, h3⟩
  rw [List.getD, List.getElem?_eq_getElem (by omega)] at h2 h3
  rw [List.drop_eq_getElem_cons (by omega), List.drop_eq_getElem_cons (by omega), List.take_succ_cons, List.take_succ_cons, List.take_zero]
  have h2 : l[p] = 58 := h2
  have h3 : l[p + 1] = 58 := h3
  rw [h2, h3]
section
variable {W w : World} {Hs : List HP}
theorem rdigit_wp (c : Int) : WP (r4_digit c) w (fun r w' => r = isDig c ∧ w = w') := by
 unfold r4_digit
 refine WP.step (R := fun y w' => y = isDig c ∧ w = w') (WP.ite (fun h => WP.ret ⟨?_, rfl⟩) (fun h => WP.ret ⟨?_, rfl⟩)) (fun r w h => WP.ret h)
 ·exact decide_eq_decide.2 ⟨fun h' => ⟨h, h'⟩, And.right⟩
 ·exact (decide_eq_false fun h' => h h'.1).symm
theorem worth_wp (c : Int) (h : 0 ≤ c ∧ c ≤ 255) : WP (r4_worth c) w (fun r w' => r = hexV c ∧ w = w') := by
 unfold r4_worth
 refine WP.step (rdigit_wp c) ?_
 rintro _ _ ⟨rfl, rfl⟩
 refine WP.ite (fun h1 => WP.ret ⟨?_, rfl⟩) (fun h1 => ?_)
 ·have h1 := of_decide_eq_true h1
  rw [wrap_u8 (by omega) (by omega), wrap_i64 (by omega) (by omega)]
  unfold hexV
  rw [if_pos h1]
 have h1 : ¬ (48 ≤ c ∧ c ≤ 57) := fun h' => h1 (decide_eq_true h')
 refine WP.step (R := fun y w' => y = decide (97 ≤ c ∧ c ≤ 102) ∧ w = w') (WP.ite (fun h => WP.ret ⟨decide_eq_decide.2 ⟨fun h' => ⟨h, h'⟩, And.right⟩, rfl⟩) (fun h => WP.ret ⟨(decide_eq_false fun h' => h h'.1).symm, rfl⟩)) ?_
 rintro _ _ ⟨rfl, rfl⟩
 refine WP.ite (fun h2 => WP.ret ⟨?_, rfl⟩) (fun h2 => ?_)
 ·have h2 := of_decide_eq_true h2
  rw [wrap_u8 (by omega) (by omega), wrap_i64 (n := c - 97) (by omega) (by omega), wrap_i64 (by omega) (by omega)]
  unfold hexV
  rw [if_neg h1, if_pos h2]
  omega
 have h2 : ¬ (97 ≤ c ∧ c ≤ 102) := fun h' => h2 (decide_eq_true h')
 refine WP.step (R := fun y w' => y = decide (65 ≤ c ∧ c ≤ 70) ∧ w = w') (WP.ite (fun h => WP.ret ⟨decide_eq_decide.2 ⟨fun h' => ⟨h, h'⟩, And.right⟩, rfl⟩) (fun h => WP.ret ⟨(decide_eq_false fun h' => h h'.1).symm, rfl⟩)) ?_
 rintro _ _ ⟨rfl, rfl⟩
 refine WP.ite (fun h3 => WP.ret ⟨?_, rfl⟩) (fun h3 => WP.ret ⟨?_, rfl⟩)
 ·have h3 := of_decide_eq_true h3
  rw [wrap_u8 (by omega) (by omega), wrap_i64 (n := c - 65) (by omega) (by omega), wrap_i64 (by omega) (by omega)]
  unfold hexV
  rw [if_neg h1, if_neg h2, if_pos h3]
  omega
 ·have h3 : ¬ (65 ≤ c ∧ c ≤ 70) := fun h' => h3 (decide_eq_true h')
  unfold hexV
  rw [if_neg h1, if_neg h2, if_neg h3]
theorem here_wp (t : ByteArray) (p : Nat) (hp : p ≤ t.size) : WP (r4_here t (p : Int)) w (fun r w' => r = ((missM (strI t) p).1, ((missM (strI t) p).2 : Int)) ∧ w = w') := by
 have hl := strI_len t
 unfold r4_here missM
 refine WP.ite (fun h => WP.ret ⟨?_, rfl⟩) (fun h => WP.ret ⟨?_, rfl⟩)
 ·rw [if_pos (by omega), show p = t.size by omega]
 ·rw [if_neg (by omega)]
theorem sb_byt (t : ByteArray) (k : Nat) : 0 ≤ sb t (k : Int) ∧ sb t (k : Int) ≤ 255 := by
 rw [sb_get]
 exact getD_b (Byt.strI t) k
theorem decimal_wp (s : Ss W Hs w) (t : ByteArray) (ht : t.size ≤ 1000) {p q : Nat} (hpq : p ≤ q) (hq : q ≤ t.size) (most : Int) (hd : ∀ k, p ≤ k → k < q → isDig ((strI t).getD k 0) = true) : WP (r4_decimal t (p : Int) (q : Int) most) w (fun r w' => r = decM (strI t) p q most ∧ Ss W Hs w') := by
 have hl := strI_len t
 unfold r4_decimal
 have ew : IntKind.wrap .i64 ((q : Int) - (p : Int)) = ((q - p : Nat) : Int) := by
  rw [wrap_i64 (by omega) (by omega)]
  omega
 rw [ew]
 refine WP.step (R := fun y w' => y = decide (q - p > 3 ∨ (q - p > 1 ∧ (strI t).getD p 0 = 48)) ∧ w = w') (WP.ite (fun h => WP.ret ⟨?_, rfl⟩) (fun h => ?_)) ?_
 ·exact (decide_eq_true (.inl (by omega))).symm
 ·refine WP.step (R := fun y w' => y = decide (q - p > 3 ∨ (q - p > 1 ∧ (strI t).getD p 0 = 48)) ∧ w = w') (WP.ite (fun h1 => WP.chk ⟨by omega, by omega⟩ (WP.ret ⟨?_, rfl⟩)) (fun h1 => WP.ret ⟨?_, rfl⟩)) (fun r w h => WP.ret h)
  ·rw [sb_get, Bool.eq_iff_iff, decide_eq_true_iff, beq_iff_eq]
   exact ⟨fun h' => .inr ⟨by omega, h'⟩, fun h' => h'.resolve_left (by omega) |>.2⟩
  ·exact (decide_eq_false fun h' => by omega).symm
 rintro _ _ ⟨rfl, rfl⟩
 refine WP.ite (fun h => WP.ret ⟨?_, s⟩) (fun h => ?_)
 ·unfold decM
  rw [if_pos (of_decide_eq_true h)]
 have h3 : ¬ (q - p > 3 ∨ (q - p > 1 ∧ (strI t).getD p 0 = 48)) := fun h' => h (decide_eq_true h')
 have hdig : ∀ n, ∀ c ∈ ((strI t).drop p).take n, n ≤ q - p → isDig c = true := by
  intro n c hc hn
  obtain ⟨j, hj, rfl⟩ := List.mem_iff_getElem.1 hc
  rw [List.length_take, List.length_drop] at hj
  rw [List.getElem_take, List.getElem_drop]
  have := hd (p + j) (by omega) (by omega)
  rw [List.getD, List.getElem?_eq_getElem (by omega)] at this
  exact this
 refine WP.loopG (γ := Nat) (fun j (x : Int × Int) w => x = ((valD (((strI t).drop p).take (j - p)) : Int), (j : Int)) ∧ p ≤ j ∧ j ≤ q ∧ Ss W Hs w) (fun j _ => q - j) p ⟨by simp [valD], Nat.le_refl _, hpq, s⟩ ?_
 clear s
 rintro j _ w ⟨rfl, j1, j2, s⟩
 show WP (r4_decimal.L1 t (q : Int) most (valD (((strI t).drop p).take (j - p)) : Int) (j : Int)) w _
 unfold r4_decimal.L1
 have hlt := valD_lt 3 (((strI t).drop p).take (j - p)) (by rw [List.length_take]; omega) (fun c hc => hdig (j - p) c hc (by omega))
 refine WP.ite (fun h => WP.chk ⟨by omega, by omega⟩ (WP.next ⟨j + 1, ⟨?_, by omega, by omega, s⟩, by omega⟩)) (fun h => ?_)
 ·have hd1 := hd j j1 (by omega)
  have htk : ((strI t).drop p).take (j + 1 - p) = ((strI t).drop p).take (j - p) ++ [(strI t).getD j 0] := by
   rw [show j + 1 - p = (j - p) + 1 by omega, List.take_add_one, List.getElem?_drop, show p + (j - p) = j by omega, List.getD, List.getElem?_eq_getElem (by omega)]
   rfl
  rw [sb_get, htk, valD_snoc]
  unfold isDig at hd1
  have hd1 := of_decide_eq_true hd1
  generalize (strI t).getD j 0 = c at hd1
  rw [wrap_u8 (by omega) (by omega), wrap_i64 (n := c - 48) (by omega) (by omega), wrap_i64 (n := 10 * _) (by omega) (by omega), wrap_i64 (n := 10 * _ + _) (by omega) (by omega), wrap_i64 (n := (j : Int) + 1) (by omega) (by omega)]
  refine Prod.ext ?_ ?_
  ·simp only
   omega
  ·simp
 ·have hj : j = q := by omega
  subst hj
  unfold decM
  rw [if_neg h3]
  refine WP.ite (fun h => WP.done ⟨by rw [if_pos h], s⟩) (fun h => WP.done ⟨by rw [if_neg h], s⟩)
def goF (l : List Int) (p : Nat) (acc : List Nat) : Except Flt (List Nat × Nat) := if acc.length ≥ 4 then .ok (acc, p) else match numM l p 255 43 with
 | .error f => .error f
 | .ok (n, e) => fourF l (3 - acc.length) e (acc ++ [n])
theorem goF_next {l : List Int} {e : Nat} {acc : List Nat} (ha : acc.length < 4) (h0 : acc ≠ []) : fourF l (4 - acc.length) e acc = if e = l.length ∨ l.getD e 0 ≠ 46 then .error (missM l e) else goF l (e + 1) acc := by
 obtain ⟨k, hk⟩ : ∃ k, 4 - acc.length = k + 1 := ⟨3 - acc.length, by omega⟩
 have he : acc.isEmpty = false := by cases acc with | nil => exact absurd rfl h0 | cons => rfl
 rw [hk]
 unfold fourF sepM
 rw [he, if_neg (by decide)]
 by_cases h : e = l.length ∨ l.getD e 0 ≠ 46
 ·rw [if_pos h, if_pos h]
 ·rw [if_neg h, if_neg h]
  unfold goF
  rw [if_neg (by omega), show 3 - acc.length = k by omega]
  rfl
def finF (l : List Int) : Except Flt (List Nat × Nat) → Except Flt (List Nat)
 | .error f => .error f
 | .ok (a, e) => if e < l.length then .error (41, e) else .ok a
theorem fourM_fin (l : List Int) (i : Nat) : fourM l i = finF l (goF l i []) := rfl
def FourR (W : World) (Hs : List HP) (x : Except Flt (List Nat)) (r : Sl × Int × Int) (w : World) : Prop :=
 match x with
 | .ok a => r.2 = (0, 0) ∧ ∃ sp, Ss W (vec (cI .u8) r.1 (a.map (fun n : Nat => (n : Int))) sp :: Hs) w
 | .error f => r.2 = (f.1, (f.2 : Int)) ∧ Ss W Hs w
theorem rdotted_wp (s : Ss W Hs w) (t : ByteArray) (ht : t.size ≤ 1000) (i : Nat) (hi : i ≤ t.size) : WP (r4_dotted t (i : Int)) w (FourR W Hs (fourM (strI t) i)) := by
 have hl := strI_len t
 unfold r4_dotted
 obtain ⟨X, hX⟩ : ∃ X, goF (strI t) i [] = X := ⟨_, rfl⟩
 rw [fourM_fin, hX]
 refine WP.loopG (γ := Nat × List Nat) (fun g (x : Int × Sl) w => x.1 = (g.1 : Int) ∧ g.1 ≤ t.size ∧ g.2.length ≤ 4 ∧ (∀ n ∈ g.2, n ≤ 255) ∧ goF (strI t) g.1 g.2 = X ∧ ∃ sp, Ss W (vec (cI .u8) x.2 (g.2.map (fun n : Nat => (n : Int))) sp :: Hs) w) (fun g _ => 4 - g.2.length) (i, []) ⟨rfl, hi, by simp, by simp, hX, [], s.mk0 (A := vec (cI .u8) Sl.nil [] []) vec_nil⟩ ?_
 clear s hX
 rintro ⟨p, acc⟩ ⟨_, sl⟩ w ⟨rfl, hp, ha, hn, hX, sp, s⟩
 simp only at hp ha hn hX s
 have hal := (s.vec_len (i := 0) rfl).1
 rw [List.length_map] at hal
 show WP (r4_dotted.L1 t (p : Int) sl) w _
 unfold r4_dotted.L1
 refine WP.ite (fun h4 => ?_) (fun h4 => ?_)
 ·have h4 : acc.length < 4 := by omega
  obtain ⟨r1, r2⟩ := runE_le (p := isDig) (l := strI t) (i := p) (by omega)
  refine WP.loopG (γ := Nat) (fun k (x : Int) w => x = (k : Int) ∧ p ≤ k ∧ k ≤ runE isDig (strI t) p ∧ Ss W (vec (cI .u8) sl (acc.map (fun n : Nat => (n : Int))) sp :: Hs) w) (fun k _ => t.size - k) p ⟨rfl, Nat.le_refl _, r1, s⟩ ?_
  clear s
  rintro k _ w ⟨rfl, k1, k2, s⟩
  show WP (r4_dotted.L2 t (p : Int) sl (k : Int)) w _
  unfold r4_dotted.L2
  have hgo := runE_go k1 k2
  rw [hl] at hgo
  refine WP.step (R := fun y w' => y = decide (k < runE isDig (strI t) p) ∧ w = w') (WP.ite (fun h => WP.chk ⟨by omega, by omega⟩ (WP.step (rdigit_wp _) ?_)) (fun h => WP.ret ⟨?_, rfl⟩)) ?_
  ·rintro _ _ ⟨rfl, rfl⟩
   refine WP.ret ⟨?_, rfl⟩
   rw [sb_get, Bool.eq_iff_iff, decide_eq_true_iff, ← hgo]
   exact ⟨fun h' => ⟨by omega, h'⟩, fun h' => h'.2⟩
  ·refine (decide_eq_false fun h' => ?_).symm
   have := hgo.2 h'
   omega
  rintro _ _ ⟨rfl, rfl⟩
  refine WP.ite (fun h => WP.next ⟨k + 1, ⟨?_, by omega, by have := of_decide_eq_true h; omega, s⟩, by have := of_decide_eq_true h; omega⟩) (fun h => ?_)
  ·rw [wrap_i64 (by omega) (by omega)]
   simp
  have hk : k = runE isDig (strI t) p := by
   have : ¬ k < runE isDig (strI t) p := fun h' => h (decide_eq_true h')
   omega
  have hdig : ∀ j, p ≤ j → j < k → isDig ((strI t).getD j 0) = true := fun j j1 j2 => runE_all j1 (by omega)
  have hnm := numM_dec (strI t) p 255 43
  rw [← hk] at hnm
  unfold goF at hX
  rw [if_neg (by omega), hnm] at hX
  unfold r4_dotted.K1
  refine WP.step (R := fun q w' => WP.Rd (fun (x : Int × Sl) w => ∃ g' : Nat × List Nat, (x.1 = (g'.1 : Int) ∧ g'.1 ≤ t.size ∧ g'.2.length ≤ 4 ∧ (∀ n ∈ g'.2, n ≤ 255) ∧ goF (strI t) g'.1 g'.2 = X ∧ ∃ sp, Ss W (vec (cI .u8) x.2 (g'.2.map (fun n : Nat => (n : Int))) sp :: Hs) w) ∧ 4 - g'.2.length < 4 - acc.length) (FourR W Hs (finF (strI t) X)) q w') ?_ (fun q w h => WP.done h)
  refine WP.ite (fun h => WP.step (here_wp t p hp) ?_) (fun h => ?_)
  ·rintro _ _ ⟨rfl, rfl⟩
   rw [if_pos (by omega)] at hX
   rw [← hX]
   exact WP.done ⟨rfl, s.drop⟩
  rw [if_neg (by omega)] at hX
  refine WP.step (decimal_wp s t ht k1 (by omega) 255 hdig) ?_
  rintro _ w ⟨rfl, s⟩
  refine WP.ite (fun h => ?_) (fun h => ?_)
  ·rw [if_pos h] at hX
   rw [← hX]
   exact WP.done ⟨rfl, s.drop⟩
  rw [if_neg h] at hX
  obtain ⟨n, hn0⟩ : ∃ n : Nat, decM (strI t) p k 255 = (n : Int) := ⟨(decM (strI t) p k 255).toNat, by omega⟩
  have hn255 : n ≤ 255 := by
   have : decM (strI t) p k 255 ≤ 255 := by
    unfold decM
    split
    ·omega
    ·split <;> omega
   omega
  rw [hn0] at hX ⊢
  simp only [Int.toNat_natCast] at hX
  rw [wrap_u8 (by omega) (by omega)]
  refine WP.slot' s (fun _ w s => WP.appl s 0 rfl (by simp only [List.length_map, List.length_cons, List.length_nil]; omega) (by decide) (fun r w sp' s => ?_))
  have s : Ss W (vec (cI .u8) r (acc.map (fun n : Nat => (n : Int)) ++ [(n : Int)]) sp' :: Hs) w := s
  have em : acc.map (fun n : Nat => (n : Int)) ++ [(n : Int)] = (acc ++ [n]).map (fun n : Nat => (n : Int)) := by simp
  rw [em] at s
  have hrl := (s.vec_len (i := 0) rfl).1
  simp only [List.length_map, List.length_append, List.length_cons, List.length_nil] at hrl
  have hn' : ∀ x ∈ acc ++ [n], x ≤ 255 := by
   intro x hx
   rcases List.mem_append.1 hx with hx | hx
   ·exact hn x hx
   ·rw [List.mem_singleton] at hx
    omega
  refine WP.ite (fun h1 => ?_) (fun h1 => ?_)
  ·have hnx := goF_next (l := strI t) (e := k) (acc := acc ++ [n]) (by simp only [List.length_append, List.length_cons, List.length_nil]; omega) (by simp)
   rw [show 4 - (acc ++ [n]).length = 3 - acc.length by simp only [List.length_append, List.length_cons, List.length_nil]; omega] at hnx
   rw [hnx] at hX
   refine WP.step (R := fun y w' => y = decide (k = (strI t).length ∨ (strI t).getD k 0 ≠ 46) ∧ w = w') (WP.ite (fun h => WP.ret ⟨(decide_eq_true (.inl (by omega))).symm, rfl⟩) (fun h => WP.chk ⟨by omega, by omega⟩ (WP.ret ⟨?_, rfl⟩))) ?_
   ·rw [sb_get, Bool.eq_iff_iff, decide_eq_true_iff, bne_iff_ne]
    exact ⟨fun h' => .inr h', fun h' => h'.resolve_left (by omega)⟩
   rintro _ _ ⟨rfl, rfl⟩
   refine WP.ite (fun h => WP.step (here_wp t k (by omega)) ?_) (fun h => ?_)
   ·rintro _ _ ⟨rfl, rfl⟩
    rw [if_pos (of_decide_eq_true h)] at hX
    rw [← hX]
    exact WP.done ⟨rfl, s.drop⟩
   ·have h : ¬ (k = (strI t).length ∨ (strI t).getD k 0 ≠ 46) := fun h' => h (decide_eq_true h')
    rw [if_neg h] at hX
    rw [wrap_i64 (by omega) (by omega)]
    have hk2 : k < t.size := by omega
    exact WP.next ⟨(k + 1, acc ++ [n]), ⟨by simp, by simp only; omega, by simp only [List.length_append, List.length_cons, List.length_nil]; omega, hn', hX, sp', s⟩, by simp only [List.length_append, List.length_cons, List.length_nil]; omega⟩
  ·have h3 : acc.length = 3 := by omega
   rw [show 3 - acc.length = 0 by omega] at hX
   refine WP.next ⟨(k, acc ++ [n]), ⟨rfl, by simp only; omega, by simp only [List.length_append, List.length_cons, List.length_nil]; omega, hn', ?_, sp', s⟩, by simp only [List.length_append, List.length_cons, List.length_nil]; omega⟩
   unfold goF
   rw [if_pos (by simp only [List.length_append, List.length_cons, List.length_nil]; omega)]
   exact hX
 ·unfold goF at hX
  rw [if_pos (by omega)] at hX
  rw [← hX]
  refine WP.ite (fun h => WP.done ?_) (fun h => WP.done ?_)
  ·rw [show finF (strI t) (.ok (acc, p)) = .error (41, p) from if_pos (by omega)]
   exact ⟨rfl, s.drop⟩
  ·rw [show finF (strI t) (.ok (acc, p)) = .ok acc from if_neg (by omega)]
   exact ⟨rfl, sp, s⟩
theorem two_wp (t : ByteArray) (ht : t.size ≤ 1000) (p : Nat) (hp : p ≤ t.size) : WP (r4_two t (p : Int)) w (fun r w' => r = decide (dblAt (strI t) p) ∧ w = w') := by
 have hl := strI_len t
 unfold r4_two
 rw [show IntKind.wrap .i64 ((p : Int) + 1) = ((p + 1 : Nat) : Int) by rw [wrap_i64 (by omega) (by omega)]; omega]
 have hd : decide (dblAt (strI t) p) = decide (p + 1 < (strI t).length ∧ (strI t).getD p 0 = 58 ∧ (strI t).getD (p + 1) 0 = 58) := decide_eq_decide.2 dbl_iff
 rw [hd]
 refine WP.step (R := fun y w' => y = decide (p + 1 < (strI t).length ∧ (strI t).getD p 0 = 58) ∧ w = w') (WP.ite (fun h => WP.chk ⟨by omega, by omega⟩ (WP.ret ⟨?_, rfl⟩)) (fun h => WP.ret ⟨?_, rfl⟩)) ?_
 ·rw [sb_get, Bool.eq_iff_iff, decide_eq_true_iff, beq_iff_eq]
  exact ⟨fun h' => ⟨by omega, h'⟩, And.right⟩
 ·exact (decide_eq_false fun h' => h (by have := h'.1; omega)).symm
 rintro _ _ ⟨rfl, rfl⟩
 refine WP.step (R := fun y w' => y = decide (p + 1 < (strI t).length ∧ (strI t).getD p 0 = 58 ∧ (strI t).getD (p + 1) 0 = 58) ∧ w = w') (WP.ite (fun h => WP.chk ⟨by omega, ?_⟩ (WP.ret ⟨?_, rfl⟩)) (fun h => WP.ret ⟨?_, rfl⟩)) (fun r w h => WP.ret h)
 ·have := (of_decide_eq_true h).1
  omega
 ·have h := of_decide_eq_true h
  rw [sb_get, Bool.eq_iff_iff, decide_eq_true_iff, beq_iff_eq]
  exact ⟨fun h' => ⟨h.1, h.2, h'⟩, fun h' => h'.2.2⟩
 ·exact (decide_eq_false fun h' => h (decide_eq_true ⟨h'.1, h'.2.1⟩)).symm
theorem has_wp (s : Ss W Hs w) (t : ByteArray) (ht : t.size ≤ 1000) (c : Int) : WP (r4_has t c) w (fun r w' => r = decide (firstM (strI t) c < (strI t).length) ∧ Ss W Hs w') := by
 have hl := strI_len t
 unfold r4_has
 refine WP.loopG (γ := Nat) (fun i (x : Int) w => x = (i : Int) ∧ i ≤ t.size ∧ (∀ j, j < i → (strI t).getD j 0 ≠ c) ∧ Ss W Hs w) (fun i _ => t.size - i) 0 ⟨rfl, Nat.zero_le _, fun j h => by omega, s⟩ ?_
 clear s
 rintro i _ w ⟨rfl, hi, hn, s⟩
 show WP (r4_has.L1 t c (i : Int)) w _
 unfold r4_has.L1
 refine WP.ite (fun h => WP.chk ⟨by omega, h⟩ ?_) (fun h => WP.done ⟨?_, s⟩)
 ·rw [sb_get]
  refine WP.ite (fun e => WP.done ⟨?_, s⟩) (fun e => ?_)
  ·have : ¬ i < firstM (strI t) c := fun h' => firstM_lt h' e
   exact (decide_eq_true (by omega)).symm
  ·rw [wrap_i64 (by omega) (by omega)]
   refine WP.next ⟨i + 1, ⟨by simp, by omega, fun j hj => ?_, s⟩, by omega⟩
   by_cases ej : j = i
   ·subst ej
    exact e
   ·exact hn j (by omega)
 ·refine (decide_eq_false fun hf => ?_).symm
  exact hn _ (by omega) (firstM_at hf)
end
abbrev cR6 := c_weirref4_six
structure R6 where
 gs : List Nat
 gap : Int
 p : Int
 err : Int
 at_ : Int
def R6Hs (b : Nat) (t : ByteArray) (g : Sl) (r : R6) (sp : List Int) : List HP := [pts true (pt b 0) (cR6.enc ⟨t, g, r.gap, r.p, r.err, r.at_⟩), vec (cI .i64) g (r.gs.map fun n : Nat => (n : Int)) sp]
def R6P (b : Nat) (t : ByteArray) (r : R6) : HP := fun h => ∃ g sp, seps (R6Hs b t g r sp) h
section
variable {W w : World} {Hs : List HP}
theorem Ss.openR6 {b : Nat} {t : ByteArray} {r : R6} (s : Ss W (R6P b t r :: Hs) w) : ∃ g sp, Ss W (R6Hs b t g r sp ++ Hs) w := by
 obtain ⟨hb, k, ⟨h1, h2, e, l1, l2, ⟨g, sp, a3⟩, b⟩, hw⟩ := s
 exact ⟨g, sp, Ss.split ⟨hb, k, ⟨h1, h2, e, l1, l2, a3, b⟩, hw⟩⟩
theorem Ss.closeR6 {b : Nat} {t : ByteArray} {r : R6} {g : Sl} {sp : List Int} (s : Ss W (R6Hs b t g r sp ++ Hs) w) : Ss W (R6P b t r :: Hs) w := s.group.first (fun h hh => ⟨g, sp, hh⟩)
theorem fail_wp {b : Nat} {t : ByteArray} {r : R6} (s : Ss W (R6P b t r :: Hs) w) (h0 : r.err = 0) (e at' : Int) : WP (r4_six_fail (some (pt b 0)) e at') w (fun _ w' => Ss W (R6P b t ⟨r.gs, r.gap, r.p, e, at'⟩ :: Hs) w') := by
 obtain ⟨g, sp, s⟩ := s.openR6
 unfold r4_six_fail
 refine WP.nilck (WP.ld s 0 rfl (o := 4) rfl (At_weirref4_six_err _) (WP.ite (fun _ => ?_) (fun h => absurd h0 h)))
 refine WP.nilck (WP.st s 0 rfl (o := 4) rfl (Up_weirref4_six_err _ _) (fun w s => WP.nilck (WP.st s 0 rfl (o := 5) rfl (Up_weirref4_six_at_ _ _) (fun w s => WP.ret ?_))))
 exact Ss.closeR6 (g := g) (sp := sp) s
theorem rroom_wp {b : Nat} {t : ByteArray} {r : R6} (s : Ss W (R6P b t r :: Hs) w) : WP (r4_six_room (some (pt b 0))) w (fun x w' => x = (if r.gap ≥ 0 then 7 else 8) ∧ w = w') := by
 obtain ⟨g, sp, s⟩ := s.openR6
 unfold r4_six_room
 refine WP.nilck (WP.ld s 0 rfl (o := 2) rfl (At_weirref4_six_gap _) (WP.ite (fun h => WP.ret ⟨by rw [if_pos h], rfl⟩) (fun h => WP.ret ⟨by rw [if_neg h], rfl⟩)))
def live (st : S6) : R6 := ⟨st.gs, st.gap, (st.at_ : Int), 0, 0⟩
theorem hexN4_snoc {l : List Int} {i k : Nat} (h : ∀ j, i ≤ j → j < k → isHex (l.getD j 0) = true) (hk : k ≤ l.length) (hik : i ≤ k) (h4 : k - i ≤ 4) : hexN ((l.drop i).take (k - i)) < 16 ^ (k - i) := by
 refine isHex_lt (fun c hc => ?_) (k - i) (by rw [List.length_take]; omega) h4
 obtain ⟨j, hj, rfl⟩ := List.mem_iff_getElem.1 hc
 rw [List.length_take, List.length_drop] at hj
 rw [List.getElem_take, List.getElem_drop]
 have := h (i + j) (by omega) (by omega)
 rwa [List.getD, List.getElem?_eq_getElem (by omega)] at this
def GroupR (W : World) (Hs : List HP) (b : Nat) (t : ByteArray) (st : S6) (x : Except Flt (Bool × S6)) (r : Bool) (w : World) : Prop :=
 match x with
 | .error f => r = true ∧ Ss W (R6P b t ⟨st.gs, st.gap, (st.at_ : Int), f.1, (f.2 : Int)⟩ :: Hs) w
 | .ok (done, st1) => r = decide (done = true ∨ st1.at_ = t.size) ∧ ∃ p : Int, (done = false → p = (st1.at_ : Int)) ∧ Ss W (R6P b t ⟨st1.gs, st1.gap, p, 0, 0⟩ :: Hs) w
theorem rgroup_wp {b : Nat} {t : ByteArray} {st : S6} (s : Ss W (R6P b t (live st) :: Hs) w) (hg : st.gs.length ≤ 8) (ht : t.size ≤ 1000) (ha : st.at_ ≤ t.size) (hp : 0 < st.at_ ↔ (st.gs ≠ [] ∨ st.gap ≥ 0)) : WP (r4_six_group (some (pt b 0))) w (GroupR W Hs b t st (groupM (strI t) st)) := by
 have hl := strI_len t
 obtain ⟨r1, r2⟩ := runE_le (p := isHex) (l := strI t) (i := st.at_) (by omega)
 obtain ⟨g, sp, s⟩ := s.openR6
 unfold r4_six_group
 refine WP.nilck (WP.ld s 0 rfl (o := 3) rfl (At_weirref4_six_p _) ?_)
 refine WP.loopG (γ := Nat) (fun k (p : Int × Int) w => p = ((k : Int), (hexN (((strI t).drop st.at_).take (min (k - st.at_) 4)) : Int)) ∧ st.at_ ≤ k ∧ k ≤ runE isHex (strI t) st.at_ ∧ Ss W (R6Hs b t g (live st) sp ++ Hs) w) (fun k _ => t.size - k) st.at_ ⟨by simp [hexN, live], Nat.le_refl _, r1, s⟩ ?_
 clear s
 rintro k _ w ⟨rfl, k1, k2, s⟩
 show WP (r4_six_group.L1 (some (pt b 0)) (k : Int) (hexN (((strI t).drop st.at_).take (min (k - st.at_) 4)) : Int)) w _
 unfold r4_six_group.L1
 have hgo := runE_go k1 k2
 rw [hl] at hgo
 refine WP.nilck (WP.ld s 0 rfl (o := 0) (by simp [Addr.add]) (At_weirref4_six_s _) ?_)
 refine WP.step (R := fun y w' => y = decide (k < runE isHex (strI t) st.at_) ∧ w = w') (WP.ite (fun h => WP.nilck (WP.ld s 0 rfl (o := 0) (by simp [Addr.add]) (At_weirref4_six_s _) (WP.chk ⟨by omega, h⟩ (WP.step (worth_wp _ (sb_byt t k)) ?_)))) (fun h => WP.ret ⟨?_, rfl⟩)) ?_
 ·rintro _ _ ⟨rfl, rfl⟩
  have h : (k : Int) < (t.size : Int) := h
  refine WP.ret ⟨?_, rfl⟩
  rw [sb_get, Bool.eq_iff_iff, decide_eq_true_iff, decide_eq_true_iff, ← hgo]
  exact ⟨fun h' => ⟨by omega, decide_eq_true h'⟩, fun h' => of_decide_eq_true h'.2⟩
 ·have h : ¬ (k : Int) < (t.size : Int) := h
  refine (decide_eq_false fun h' => ?_).symm
  have := hgo.2 h'
  omega
 rintro _ _ ⟨rfl, rfl⟩
 have hhex : ∀ j, st.at_ ≤ j → j < k → isHex ((strI t).getD j 0) = true := fun j j1 j2 => runE_all j1 (by omega)
 refine WP.ite (fun h => ?_) (fun h => ?_)
 ·have hk := of_decide_eq_true h
  have hh := hgo.2 hk
  refine WP.nilck (WP.ld s 0 rfl (o := 3) rfl (At_weirref4_six_p _) ?_)
  have ew : IntKind.wrap .i64 ((k : Int) - (live st).p) = ((k - st.at_ : Nat) : Int) := by
   show IntKind.wrap .i64 ((k : Int) - (st.at_ : Int)) = _
   rw [wrap_i64 (by omega) (by omega)]
   omega
  rw [ew, wrap_i64 (n := (k : Int) + 1) (by omega) (by omega)]
  refine WP.ite (fun h4 => ?_) (fun h4 => ?_)
  ·refine WP.nilck (WP.ld s 0 rfl (o := 0) (by simp [Addr.add]) (At_weirref4_six_s _) (WP.chk ⟨by omega, by simp only; omega⟩ (WP.step (worth_wp _ (sb_byt t k)) ?_)))
   rintro _ _ ⟨rfl, rfl⟩
   have hv := of_decide_eq_true hh.2
   have htk : ((strI t).drop st.at_).take (min (k + 1 - st.at_) 4) = ((strI t).drop st.at_).take (min (k - st.at_) 4) ++ [(strI t).getD k 0] := by
    rw [Nat.min_eq_left (by omega), Nat.min_eq_left (by omega), show k + 1 - st.at_ = (k - st.at_) + 1 by omega, List.take_add_one, List.getElem?_drop, show st.at_ + (k - st.at_) = k by omega, List.getD, List.getElem?_eq_getElem (by omega)]
    rfl
   refine WP.next ⟨k + 1, ⟨?_, by omega, by omega, s⟩, by omega⟩
   rw [htk, hexN_snoc, sb_get]
   have hN := hexN4_snoc (l := strI t) (i := st.at_) (k := k) hhex (by omega) k1 (by omega)
   have hN2 : 16 ^ (k - st.at_) ≤ 16 ^ 3 := Nat.pow_le_pow_right (by omega) (by omega)
   rw [Nat.min_eq_left (by omega)]
   have hx := hexV_lt ((strI t).getD k 0)
   generalize hexN (((strI t).drop st.at_).take (k - st.at_)) = N at hN
   generalize hexV ((strI t).getD k 0) = x at hv hx
   have h163 : 16 ^ 3 = 4096 := by decide
   rw [wrap_i64 (n := 16 * (N : Int)) (by omega) (by omega), wrap_i64 (by omega) (by omega)]
   refine Prod.ext (by simp) ?_
   simp only
   omega
  ·refine WP.next ⟨k + 1, ⟨?_, by omega, by omega, s⟩, by omega⟩
   rw [show min (k + 1 - st.at_) 4 = min (k - st.at_) 4 by omega]
   refine Prod.ext (by simp) rfl
 have hk : k = runE isHex (strI t) st.at_ := by
  have : ¬ k < runE isHex (strI t) st.at_ := fun h' => h (decide_eq_true h')
  omega
 refine WP.step ?_ (fun r w h => WP.done h)
 unfold r4_six_group.K2 groupM
 rw [← hk]
 have hgl := (s.vec_len (i := 1) rfl).1
 rw [List.length_map] at hgl
 have hgl : g.len = st.gs.length := hgl
 refine WP.nilck (WP.ld s 0 rfl (o := 3) rfl (At_weirref4_six_p _) ?_)
 refine WP.ite (fun h => ?_) (fun h => ?_)
 ·have h : (k : Int) = (st.at_ : Int) := h
  rw [if_pos (by omega)]
  refine WP.draw' s (fun w s => WP.nilck (WP.ld s 0 rfl (o := 0) (by simp [Addr.add]) (At_weirref4_six_s _) (WP.nilck (WP.ld s 0 rfl (o := 3) rfl (At_weirref4_six_p _) (WP.step (here_wp t st.at_ ha) ?_)))))
  rintro _ _ ⟨rfl, rfl⟩
  refine WP.step (fail_wp s.closeR6 rfl _ _) (fun _ w s => WP.ret ⟨rfl, s⟩)
 have h : ¬ (k : Int) = (st.at_ : Int) := h
 have hne : ¬ k = st.at_ := by omega
 rw [if_neg hne]
 refine WP.nilck (WP.ld s 0 rfl (o := 0) (by simp [Addr.add]) (At_weirref4_six_s _) ?_)
 refine WP.step (R := fun y w' => y = decide (k < (strI t).length ∧ (strI t).getD k 0 = 46) ∧ w = w') (WP.ite (fun h => WP.nilck (WP.ld s 0 rfl (o := 0) (by simp [Addr.add]) (At_weirref4_six_s _) (WP.chk ⟨by omega, h⟩ (WP.ret ⟨?_, rfl⟩)))) (fun h => WP.ret ⟨?_, rfl⟩)) ?_
 ·have h : (k : Int) < (t.size : Int) := h
  rw [sb_get, Bool.eq_iff_iff, decide_eq_true_iff, beq_iff_eq]
  exact ⟨fun h' => ⟨by omega, h'⟩, fun h' => h'.2⟩
 ·have h : ¬ (k : Int) < (t.size : Int) := h
  exact (decide_eq_false fun h' => by omega).symm
 rintro _ _ ⟨rfl, rfl⟩
 refine WP.step (R := fun y w' => y = decide (k < (strI t).length ∧ (strI t).getD k 0 = 46 ∧ (st.gs ≠ [] ∨ st.gap ≥ 0)) ∧ w = w') (WP.ite (fun h1 => WP.nilck (WP.ld s 0 rfl (o := 3) rfl (At_weirref4_six_p _) (WP.ret ⟨?_, rfl⟩))) (fun h1 => WP.ret ⟨?_, rfl⟩)) ?_
 ·have h1 := of_decide_eq_true h1
  show decide ((st.at_ : Int) > 0) = _
  exact decide_eq_decide.2 ⟨fun h' => ⟨h1.1, h1.2, hp.1 (by omega)⟩, fun h' => by have := hp.2 h'.2.2; omega⟩
 ·exact (decide_eq_false fun h' => h1 (decide_eq_true ⟨h'.1, h'.2.1⟩)).symm
 rintro _ _ ⟨rfl, rfl⟩
 -- room
 have hroom : ∀ (j : Nat), j ≤ 2 → ((IntKind.wrap .i64 ((g.len : Int) + (j : Int)) > (if st.gap ≥ 0 then (7 : Int) else 8)) ↔ st.room < (j : Int)) := by
  intro j hj
  rw [wrap_i64 (by omega) (by omega)]
  unfold S6.room
  split <;> omega
 refine WP.ite (fun h => ?_) (fun h => ?_)
 ·rw [if_pos (of_decide_eq_true h)]
  unfold r4_six_group.K1
  refine WP.draw' s (fun w s => WP.nilck (WP.ld s 0 rfl (o := 1) rfl (At_weirref4_six_groups _) (WP.step (rroom_wp s.closeR6) ?_)))
  rintro _ _ ⟨rfl, rfl⟩
  refine WP.same s 0 rfl (o := 1) rfl (At_weirref4_six_groups _) (WP.ite (fun h2 => ?_) (fun h2 => ?_))
  ·rw [if_pos (show st.room < 2 from (hroom 2 (by omega)).1 h2)]
   refine WP.nilck (WP.ld s 0 rfl (o := 3) rfl (At_weirref4_six_p _) (WP.step (fail_wp s.closeR6 rfl _ _) (fun _ w s => WP.ret ⟨rfl, s⟩)))
  rw [if_neg (show ¬ st.room < 2 from fun h' => h2 ((hroom 2 (by omega)).2 h'))]
  refine WP.ite (fun _ => WP.draw' s (fun w s => WP.nilck (WP.ld s 0 rfl (o := 0) (by simp [Addr.add]) (At_weirref4_six_s _) (WP.nilck (WP.ld s 0 rfl (o := 3) rfl (At_weirref4_six_p _) (WP.step (rdotted_wp s t ht st.at_ ha) ?_)))))) (fun h' => absurd h h')
  rintro ⟨d, e, at'⟩ w hr
  cases hfm : fourM (strI t) st.at_ with
  | error f =>
   rw [hfm] at hr
   obtain ⟨hr, s⟩ := hr
   cases hr
   have hb := (fourM_bad (by omega) hfm).1
   refine WP.ite (fun _ => WP.step (fail_wp s.closeR6 rfl _ _) (fun _ w s => WP.ret ⟨rfl, s⟩)) (fun h' => absurd hb h')
  | ok a =>
   rw [hfm] at hr
   obtain ⟨hr, sp', s⟩ := hr
   cases hr
   obtain ⟨a4, a5⟩ := fourM_ok (by omega) hfm
   obtain ⟨n1, n2, n3, n4, rfl⟩ : ∃ n1 n2 n3 n4, a = [n1, n2, n3, n4] := by
    match a, a4 with
    | [n1, n2, n3, n4], _ => exact ⟨n1, n2, n3, n4, rfl⟩
   have b1 := a5 n1 (by simp)
   have b2 := a5 n2 (by simp)
   have b3 := a5 n3 (by simp)
   have b4 := a5 n4 (by simp)
   refine WP.ite (fun h' => absurd rfl h') (fun _ => WP.draw' s (fun w s => WP.nilck (WP.ld s 1 rfl (o := 1) rfl (At_weirref4_six_groups _) ?_)))
   refine WP.rdxp0 s 0 rfl vec_rdb (by omega) (x := (n1 : Int)) (y := (n1 : Int)) rfl rfl (At.whole _) ?_
   refine WP.rdxp0 s 0 rfl vec_rdb (by omega) (x := (n2 : Int)) (y := (n2 : Int)) rfl rfl (At.whole _) ?_
   refine WP.rdxp0 s 0 rfl vec_rdb (by omega) (x := (n3 : Int)) (y := (n3 : Int)) rfl rfl (At.whole _) ?_
   refine WP.rdxp0 s 0 rfl vec_rdb (by omega) (x := (n4 : Int)) (y := (n4 : Int)) rfl rfl (At.whole _) ?_
   have ev : ∀ x y : Nat, x ≤ 255 → y ≤ 255 → IntKind.wrap .i64 (IntKind.wrap .i64 (256 * IntKind.wrap .i64 (x : Int)) + IntKind.wrap .i64 (y : Int)) = ((256 * x + y : Nat) : Int) := by
    intro x y hx hy
    rw [wrap_i64 (n := (x : Int)) (by omega) (by omega), wrap_i64 (n := (y : Int)) (by omega) (by omega), wrap_i64 (n := 256 * _) (by omega) (by omega), wrap_i64 (by omega) (by omega)]
    omega
   rw [ev n1 n2 b1 b2, ev n3 n4 b3 b4]
   refine WP.slot' s (fun _ w s => WP.same s 1 rfl (o := 1) rfl (At_weirref4_six_groups _) ?_)
   refine WP.appl s 2 rfl (by simp only [List.length_map, List.length_cons, List.length_nil, live]; omega) (by decide) (fun g' w sp2 s => WP.nilck ?_)
   refine WP.st s 1 rfl (o := 1) rfl (Up_weirref4_six_groups _ _) (fun w s => WP.nilck (WP.ld s 1 rfl (o := 0) (by simp [Addr.add]) (At_weirref4_six_s _) (WP.nilck ?_)))
   refine WP.st s 1 rfl (o := 3) rfl (Up_weirref4_six_p _ _) (fun w s => WP.ret ⟨by simp, (t.size : Int), fun h => (by cases h), ?_⟩)
   refine Ss.closeR6 (g := g') (sp := sp2) ?_
   unfold R6Hs
   rw [List.map_append]
   exact s.drop
 ·rw [if_neg (fun h' => h (decide_eq_true h'))]
  unfold r4_six_group.K1
  refine WP.draw' s (fun w s => WP.nilck (WP.ld s 0 rfl (o := 1) rfl (At_weirref4_six_groups _) (WP.step (rroom_wp s.closeR6) ?_)))
  rintro _ _ ⟨rfl, rfl⟩
  refine WP.same s 0 rfl (o := 1) rfl (At_weirref4_six_groups _) (WP.ite (fun h2 => ?_) (fun h2 => ?_))
  ·rw [if_pos (show st.room < 1 from (hroom 1 (by omega)).1 h2)]
   refine WP.nilck (WP.ld s 0 rfl (o := 3) rfl (At_weirref4_six_p _) (WP.step (fail_wp s.closeR6 rfl _ _) (fun _ w s => WP.ret ⟨rfl, s⟩)))
  rw [if_neg (show ¬ st.room < 1 from fun h' => h2 ((hroom 1 (by omega)).2 h'))]
  refine WP.ite (fun h' => absurd h' h) (fun _ => WP.nilck (WP.ld s 0 rfl (o := 3) rfl (At_weirref4_six_p _) ?_))
  have ew : IntKind.wrap .i64 ((k : Int) - (live st).p) = ((k - st.at_ : Nat) : Int) := by
   show IntKind.wrap .i64 ((k : Int) - (st.at_ : Int)) = _
   rw [wrap_i64 (by omega) (by omega)]
   omega
  rw [ew]
  refine WP.ite (fun h4 => ?_) (fun h4 => ?_)
  ·rw [if_pos (by omega)]
   refine WP.nilck (WP.ld s 0 rfl (o := 3) rfl (At_weirref4_six_p _) (WP.step (fail_wp s.closeR6 rfl _ _) (fun _ w s => WP.ret ⟨rfl, s⟩)))
  rw [if_neg (by omega), Nat.min_eq_left (show k - st.at_ ≤ 4 by omega)]
  refine WP.nilck (WP.ld s 0 rfl (o := 1) rfl (At_weirref4_six_groups _) (WP.slot' s (fun _ w s => ?_)))
  refine WP.appl s 1 rfl (by simp only [List.length_map, List.length_cons, List.length_nil, live]; omega) (by decide) (fun g' w sp2 s => WP.nilck ?_)
  refine WP.st s 0 rfl (o := 1) rfl (Up_weirref4_six_groups _ _) (fun w s => WP.nilck ?_)
  refine WP.st s 0 rfl (o := 3) rfl (Up_weirref4_six_p _ _) (fun w s => WP.nilck (WP.ld s 0 rfl (o := 0) (by simp [Addr.add]) (At_weirref4_six_s _) (WP.ret ⟨?_, (k : Int), fun _ => rfl, ?_⟩)))
  ·rw [Bool.eq_iff_iff, beq_iff_eq, decide_eq_true_iff]
   simp only [Bool.false_eq_true, false_or]
   omega
  ·refine Ss.closeR6 (g := g') (sp := sp2) ?_
   unfold R6Hs
   rw [List.map_append]
   exact s
def betM (l : List Int) (st : S6) : Except Flt S6 := match doubleM l st with
 | .error f => .error f
 | .ok (y, st2) => if y = true then .ok st2 else if l.getD st2.at_ 0 ≠ 58 then .error (41, st2.at_) else .ok ⟨st2.at_ + 1, st2.gs, st2.gap⟩
theorem between_wp {b : Nat} {t : ByteArray} {st : S6} (s : Ss W (R6P b t (live st) :: Hs) w) (hg : st.gs.length ≤ 8) (ht : t.size ≤ 1000) (ha : st.at_ < t.size) : WP (r4_six_between (some (pt b 0))) w (fun r w' => match betM (strI t) st with
  | .error f => r = false ∧ Ss W (R6P b t ⟨st.gs, st.gap, (st.at_ : Int), f.1, (f.2 : Int)⟩ :: Hs) w'
  | .ok st2 => r = decide (dblAt (strI t) st.at_ ∧ st2.at_ = t.size) ∧ Ss W (R6P b t (live st2) :: Hs) w') := by
 have hl := strI_len t
 obtain ⟨g, sp, s⟩ := s.openR6
 have hgl := (s.vec_len (i := 1) rfl).1
 rw [List.length_map] at hgl
 have hgl : g.len = st.gs.length := hgl
 unfold r4_six_between
 refine WP.draw' s (fun w s => WP.nilck (WP.ld s 0 rfl (o := 0) (by simp [Addr.add]) (At_weirref4_six_s _) (WP.nilck (WP.ld s 0 rfl (o := 3) rfl (At_weirref4_six_p _) (WP.step (two_wp t ht st.at_ (by omega)) ?_)))))
 rintro _ _ ⟨rfl, rfl⟩
 refine WP.step (R := fun y w' => y = decide (dblAt (strI t) st.at_ ∧ (st.gap ≥ 0 ∨ st.gs.length = 8)) ∧ w = w') (WP.ite (fun h => WP.nilck (WP.ld s 0 rfl (o := 2) rfl (At_weirref4_six_gap _) ?_)) (fun h => WP.ret ⟨(decide_eq_false fun h' => h (decide_eq_true h'.1)).symm, rfl⟩)) ?_
 ·have h := of_decide_eq_true h
  refine WP.step (R := fun y w' => y = decide (dblAt (strI t) st.at_ ∧ (st.gap ≥ 0 ∨ st.gs.length = 8)) ∧ w = w') (WP.ite (fun h2 => WP.ret ⟨(decide_eq_true ⟨h, .inl h2⟩).symm, rfl⟩) (fun h2 => WP.nilck (WP.ld s 0 rfl (o := 1) rfl (At_weirref4_six_groups _) (WP.ret ⟨?_, rfl⟩)))) (fun r w h => WP.ret h)
  rw [Bool.eq_iff_iff, beq_iff_eq, decide_eq_true_iff]
  have h2 : ¬ st.gap ≥ 0 := h2
  exact ⟨fun h' => ⟨h, .inr (by have h' : (g.len : Int) = 8 := h'; omega)⟩, fun h' => by have := h'.2.resolve_left h2; show (g.len : Int) = 8; omega⟩
 rintro _ _ ⟨rfl, rfl⟩
 refine WP.ite (fun h => ?_) (fun h => ?_)
 ·obtain ⟨h1, h2⟩ := of_decide_eq_true h
  have e : betM (strI t) st = .error (44, st.at_) := by
   unfold betM doubleM
   rw [if_neg (fun h' => h' h1), if_pos h2]
  rw [e]
  refine WP.nilck (WP.ld s 0 rfl (o := 3) rfl (At_weirref4_six_p _) (WP.step (fail_wp s.closeR6 rfl _ _) (fun _ w s => WP.ret ⟨rfl, s⟩)))
 have h : ¬ (dblAt (strI t) st.at_ ∧ (st.gap ≥ 0 ∨ st.gs.length = 8)) := fun h' => h (decide_eq_true h')
 refine WP.ite (fun h1 => ?_) (fun h1 => ?_)
 ·have h1 := of_decide_eq_true h1
  have e : betM (strI t) st = .ok ⟨st.at_ + 2, st.gs, st.gs.length⟩ := by
   unfold betM doubleM
   rw [if_neg (fun h' => h' h1), if_neg (fun h' => h ⟨h1, h'⟩)]
   rfl
  rw [e]
  refine WP.nilck (WP.ld s 0 rfl (o := 1) rfl (At_weirref4_six_groups _) (WP.nilck (WP.st s 0 rfl (o := 2) rfl (Up_weirref4_six_gap _ _) (fun w s => WP.nilck (WP.ld s 0 rfl (o := 3) rfl (At_weirref4_six_p _) (WP.nilck ?_))))))
  refine WP.st s 0 rfl (o := 3) rfl (Up_weirref4_six_p _ _) (fun w s => WP.draw' s (fun w s => WP.nilck (WP.ld s 0 rfl (o := 3) rfl (At_weirref4_six_p _) (WP.nilck (WP.ld s 0 rfl (o := 0) (by simp [Addr.add]) (At_weirref4_six_s _) (WP.ret ⟨?_, ?_⟩))))))
  ·simp only [live]
   rw [wrap_i64 (by omega) (by omega), Bool.eq_iff_iff, beq_iff_eq, decide_eq_true_iff]
   exact ⟨fun h' => ⟨h1, by omega⟩, fun h' => by have := h'.2; omega⟩
  ·refine Ss.closeR6 (g := g) (sp := sp) ?_
   have e3 : IntKind.wrap .i64 ((st.at_ : Int) + 2) = ((st.at_ + 2 : Nat) : Int) := by
    rw [wrap_i64 (by omega) (by omega)]
    omega
   simp only [live, hgl, e3] at s
   exact s
 ·have h1 : ¬ dblAt (strI t) st.at_ := fun h' => h1 (decide_eq_true h')
  have e : betM (strI t) st = if (strI t).getD st.at_ 0 ≠ 58 then .error (41, st.at_) else .ok ⟨st.at_ + 1, st.gs, st.gap⟩ := by
   unfold betM doubleM
   rw [if_pos h1]
   rfl
  rw [e]
  refine WP.draw' s (fun w s => WP.nilck (WP.ld s 0 rfl (o := 0) (by simp [Addr.add]) (At_weirref4_six_s _) (WP.nilck (WP.ld s 0 rfl (o := 3) rfl (At_weirref4_six_p _) (WP.chk ⟨by simp only [live]; omega, by simp only [live]; omega⟩ ?_)))))
  have esb : sb t (live st).p = (strI t).getD st.at_ 0 := sb_get
  rw [esb]
  refine WP.ite (fun h2 => ?_) (fun h2 => ?_)
  ·rw [if_neg (fun h' => h' h2)]
   refine WP.nilck (WP.ld s 0 rfl (o := 3) rfl (At_weirref4_six_p _) (WP.nilck (WP.st s 0 rfl (o := 3) rfl (Up_weirref4_six_p _ _) (fun w s => WP.ret ⟨(decide_eq_false fun h' => h1 h'.1).symm, ?_⟩))))
   refine Ss.closeR6 (g := g) (sp := sp) ?_
   have e3 : IntKind.wrap .i64 ((st.at_ : Int) + 1) = ((st.at_ + 1 : Nat) : Int) := by
    rw [wrap_i64 (by omega) (by omega)]
    omega
   simp only [live, e3] at s
   exact s
  ·rw [if_pos h2]
   refine WP.nilck (WP.ld s 0 rfl (o := 3) rfl (At_weirref4_six_p _) (WP.step (fail_wp s.closeR6 rfl _ _) (fun _ w s => WP.ret ⟨rfl, s⟩)))
end
def endM (l : List Int) (st : S6) : Except Flt S6 := if st.gap < 0 ∧ st.gs.length ≠ 8 then .error (42, l.length) else .ok st
theorem readF_step {l : List Int} {f : Nat} {op : Bool} {st : S6} (h : ¬ (st.at_ = l.length ∧ op = true)) : readF l (f + 1) op st = match groupM l st with
  | .error e => .error e
  | .ok (done, st1) => if done = true ∨ st1.at_ = l.length then endM l st1 else match betM l st1 with
   | .error e => .error e
   | .ok st2 => readF l f (decide (dblAt l st1.at_)) st2 := by
 conv => lhs; unfold readF
 rw [if_neg h]
 cases groupM l st with
 | error e => rfl
 | ok x =>
  obtain ⟨done, st1⟩ := x
  simp only
  split
  ·rfl
  ·unfold betM
   by_cases hd : dblAt l st1.at_
   ·cases hm : doubleM l st1 with
    | error e => rfl
    | ok y =>
     obtain ⟨y, st2⟩ := y
     have hy : y = true := by
      unfold doubleM at hm
      rw [if_neg (fun h => h hd)] at hm
      split at hm
      ·cases hm
      ·cases hm
       rfl
     subst hy
     rw [decide_eq_true hd]
     rfl
   ·have hm : doubleM l st1 = .ok (false, st1) := by
     unfold doubleM
     rw [if_pos hd]
    rw [hm]
    simp only
    rw [if_neg (by decide), decide_eq_false hd]
    by_cases h58 : l.getD st1.at_ 0 ≠ 58
    ·rw [if_pos h58, if_neg (show ¬ false = true by decide), if_pos h58]
    ·rw [if_neg h58, if_neg (show ¬ false = true by decide), if_neg h58]
theorem betM_ok {l : List Int} {st st2 : S6} (ok : Ok6 l st) (hn : st.at_ ≠ l.length) (h : betM l st = .ok st2) : Ok6 l st2 ∧ st2.gs = st.gs ∧ st.at_ < st2.at_ := by
 unfold betM at h
 have ha := ok.a
 cases hd : doubleM l st with
 | error e =>
  rw [hd] at h
  cases h
 | ok x =>
  obtain ⟨y, st'⟩ := x
  rw [hd] at h
  obtain ⟨m1, m2, m3⟩ := doubleM_ok ok hd
  simp only at h
  have hgs : st'.gs = st.gs := by
   unfold doubleM at hd
   split at hd
   ·cases hd
    rfl
   ·split at hd
    ·cases hd
    ·cases hd
     rfl
  split at h
  ·rename_i hy
   cases h
   have := (m3 hy).1
   exact ⟨m1, hgs, by omega⟩
  ·rename_i hy
   have e2 := m2 (by simpa using hy)
   subst e2
   split at h
   ·cases h
   ·cases h
    exact ⟨⟨by show st'.at_ + 1 ≤ l.length; omega, m1.g, m1.p1, m1.p2, m1.p3, m1.v⟩, rfl, by show st'.at_ < st'.at_ + 1; omega⟩
theorem betM_bad {l : List Int} {st : S6} {f : Flt} (ha : st.at_ ≤ l.length) (h : betM l st = .error f) : Bad l f := by
 unfold betM at h
 cases hd : doubleM l st with
 | error e =>
  rw [hd] at h
  cases h
  exact doubleM_bad ha hd
 | ok x =>
  obtain ⟨y, st'⟩ := x
  rw [hd] at h
  simp only at h
  split at h
  ·cases h
  ·rename_i hy
   split at h
   ·cases h
    have : st' = st := by
     unfold doubleM at hd
     split at hd
     ·cases hd
      rfl
     ·split at hd
      ·cases hd
      ·cases hd
       exact absurd rfl hy
    subst this
    exact ⟨by simp, ha⟩
   ·cases h
theorem groupM_gs {l : List Int} {st st1 : S6} {y : Bool} (h : groupM l st = .ok (y, st1)) (hy : y = false) : st1.gs ≠ [] := by
 subst hy
 unfold groupM at h
 split at h
 ·cases h
 ·split at h
  ·split at h
   ·cases h
   ·cases hf : fourM l st.at_ with
    | error g =>
     rw [hf] at h
     cases h
    | ok x =>
     rw [hf] at h
     cases h
  ·split at h
   ·cases h
   ·split at h
    ·cases h
    ·cases h
     simp
def SixR (W : World) (Hs : List HP) (x : Except Flt S6) (r : Vec Int 16 × Int × Int) (w : World) : Prop :=
 match x with
 | .error f => r.2 = (f.1, (f.2 : Int)) ∧ Ss W Hs w
 | .ok st => r = (st.bytes, 0, 0) ∧ Ss W Hs w
def SixI (W : World) (Hs : List HP) (b : Nat) (t : ByteArray) (X : Except Flt S6) (g : Option (Nat × Bool × S6)) (y : Bool) (w : World) : Prop :=
 match g with
 | some (f, op, st) => y = false ∧ Ok6 (strI t) st ∧ (0 < st.at_ ↔ (st.gs ≠ [] ∨ st.gap ≥ 0)) ∧ t.size + 1 ≤ f + st.at_ ∧ ¬ (st.at_ = (strI t).length ∧ op = true) ∧ readF (strI t) f op st = X ∧ Ss W (R6P b t (live st) :: Hs) w
 | none => ∃ r : R6, (r.err = 0 → y = true ∧ ∃ st : S6, st.gs = r.gs ∧ st.gap = r.gap ∧ Ok6 (strI t) st ∧ X = endM (strI t) st) ∧ (r.err ≠ 0 → ∃ k : Nat, r.at_ = (k : Int) ∧ X = .error (r.err, k)) ∧ Ss W (R6P b t r :: Hs) w
section
variable {W w : World} {Hs : List HP}
theorem lay_wp {b : Nat} {t : ByteArray} {r : R6} {st : S6} (s : Ss W (R6P b t r :: Hs) w) (hgs : st.gs = r.gs) (hgap : st.gap = r.gap) (ok : Ok6 (strI t) st) : WP (loopM (fun s_ : (Int × (Vec Int 16)) => r4_sixes.L1 b s_.1 s_.2) (0, (Vec.rep 16 0))) w (fun x w' => x = (st.bytes, 0, 0) ∧ Ss W Hs w') := by
 have o1 := ok.g
 have o2 := ok.p1
 have o3 := ok.p2
 have o4 := ok.p3
 obtain ⟨gs, gap, p, e, a⟩ := r
 simp only at hgs hgap
 subst hgs hgap
 obtain ⟨g, sp, s⟩ := s.openR6
 have hl := (s.vec_len (i := 1) rfl).1
 rw [List.length_map] at hl
 refine WP.loopG (γ := Nat) (fun i (p' : Int × Vec Int 16) w => p'.1 = (i : Int) ∧ p'.2.l = two (st.words i) ∧ i ≤ st.gs.length ∧ Ss W (R6Hs b t g ⟨st.gs, st.gap, p, e, a⟩ sp ++ Hs) w) (fun i _ => st.gs.length - i) 0 ⟨rfl, rfl, Nat.zero_le _, s⟩ ?_
 clear s
 rintro i ⟨_, v⟩ w ⟨rfl, hv, hi, s⟩
 simp only at hv
 show WP (r4_sixes.L1 b (i : Int) v) w _
 unfold r4_sixes.L1
 have K1 : ∀ {w : World} (j : Nat), j = st.pos i → i < st.gs.length → Ss W (R6Hs b t g ⟨st.gs, st.gap, p, e, a⟩ sp ++ Hs) w → WP (r4_sixes.K1 b (i : Int) v (j : Int)) w (WP.Rd (fun p' w => ∃ g' : Nat, (p'.1 = (g' : Int) ∧ p'.2.l = two (st.words g') ∧ g' ≤ st.gs.length ∧ Ss W (R6Hs b t g ⟨st.gs, st.gap, p, e, a⟩ sp ++ Hs) w) ∧ st.gs.length - g' < st.gs.length - i) (fun x w' => x = (st.bytes, 0, 0) ∧ Ss W Hs w')) := by
  intro w j hj hil s
  have hj8 : j < 8 := by
   rw [hj]
   unfold S6.pos
   split <;> omega
  unfold r4_sixes.K1
  have e1 : IntKind.wrap .i64 (2 * (j : Int)) = ((2 * j : Nat) : Int) := by
   rw [wrap_i64 (by omega) (by omega)]
   omega
  have e2 : IntKind.wrap .i64 (((2 * j : Nat) : Int) + 1) = ((2 * j + 1 : Nat) : Int) := by
   rw [wrap_i64 (by omega) (by omega)]
   omega
  rw [e1, e2]
  have hx : (st.gs.getD i 0) < 65536 := by
   rw [List.getD, List.getElem?_eq_getElem hil]
   exact ok.v _ (List.getElem_mem _)
  have hxi : (st.gs.map fun n : Nat => (n : Int))[Int.toNat (i : Int)]? = some ((st.gs.getD i 0 : Nat) : Int) := by
   rw [Int.toNat_natCast, List.getElem?_map, List.getD, List.getElem?_eq_getElem hil]
   rfl
  refine WP.ld s 0 rfl (o := 1) rfl (At_weirref4_six_groups _) ?_
  refine WP.rdxp0 s 1 rfl vec_rdb (by omega) (x := ((st.gs.getD i 0 : Nat) : Int)) (y := ((st.gs.getD i 0 : Nat) : Int)) hxi rfl (At.whole _) (WP.chk ⟨by omega, by omega⟩ ?_)
  refine WP.ld s 0 rfl (o := 1) rfl (At_weirref4_six_groups _) ?_
  refine WP.rdxp0 s 1 rfl vec_rdb (by omega) (x := ((st.gs.getD i 0 : Nat) : Int)) (y := ((st.gs.getD i 0 : Nat) : Int)) hxi rfl (At.whole _) (WP.chk ⟨by omega, by omega⟩ ?_)
  have d1 : IntKind.wrap .u8 (IntKind.wrap .i64 (Int.tdiv ((st.gs.getD i 0 : Nat) : Int) 256)) = ((st.gs.getD i 0 / 256 : Nat) : Int) := by
   rw [Int.tdiv_eq_ediv_of_nonneg (by omega), wrap_i64 (by omega) (by omega), wrap_u8 (by omega) (by omega)]
   omega
  have d2 : IntKind.wrap .u8 (Int.tmod ((st.gs.getD i 0 : Nat) : Int) 256) = ((st.gs.getD i 0 % 256 : Nat) : Int) := by
   rw [Int.tmod_eq_emod_of_nonneg (by omega), wrap_u8 (by omega) (by omega)]
   omega
  rw [d1, d2]
  refine WP.next ⟨i + 1, ⟨?_, ?_, by omega, s⟩, by omega⟩
  ·show IntKind.wrap .i64 ((i : Int) + 1) = _
   rw [wrap_i64 (by omega) (by omega)]
   omega
  ·show ((v.l.set _ _).set _ _) = _
   rw [hv, Int.toNat_natCast, Int.toNat_natCast, two_set, hj]
   rfl
 refine WP.ld s 0 rfl (o := 1) rfl (At_weirref4_six_groups _) ?_
 refine WP.ite (fun h => ?_) (fun h => WP.done ⟨?_, s.drop.drop⟩)
 ·have h : (i : Int) < (g.len : Int) := h
  have hl : g.len = st.gs.length := hl
  have hil : i < st.gs.length := by omega
  refine WP.ld s 0 rfl (o := 2) rfl (At_weirref4_six_gap _) ?_
  refine WP.step (R := fun y w' => y = decide (st.gap ≥ 0 ∧ (i : Int) ≥ st.gap) ∧ w = w') (WP.ite (fun h => WP.ld s 0 rfl (o := 2) rfl (At_weirref4_six_gap _) (WP.ret ⟨?_, rfl⟩)) (fun h => WP.ret ⟨?_, rfl⟩)) ?_
  ·show decide ((i : Int) ≥ st.gap) = _
   exact decide_eq_decide.2 ⟨fun h' => ⟨h, h'⟩, fun h' => h'.2⟩
  ·exact (decide_eq_false fun h' => h h'.1).symm
  rintro _ _ ⟨rfl, rfl⟩
  refine WP.ite (fun h => ?_) (fun h => ?_)
  ·have h := of_decide_eq_true h
   refine WP.ld s 0 rfl (o := 1) rfl (At_weirref4_six_groups _) ?_
   have e1 : IntKind.wrap .i64 (IntKind.wrap .i64 (8 - (g.len : Int)) + (i : Int)) = ((i + (8 - st.gs.length) : Nat) : Int) := by
    rw [wrap_i64 (n := 8 - _) (by omega) (by omega), wrap_i64 (by omega) (by omega)]
    omega
   simp only
   rw [e1]
   exact K1 _ (by unfold S6.pos; rw [if_pos h]) hil s
  ·exact K1 _ (by unfold S6.pos; rw [if_neg (fun h' => h (decide_eq_true h'))]) hil s
 ·have h : ¬ (i : Int) < (g.len : Int) := h
  have hl : g.len = st.gs.length := hl
  have : i = st.gs.length := by omega
  subst this
  have : v = st.bytes := Vec.eq hv
  rw [this]
theorem six_K3 {b : Nat} {t : ByteArray} {X : Except Flt S6} {y : Bool} (s : SixI W Hs b t X none y w) : WP (r4_sixes.K3 t b) w (SixR W Hs X) := by
 have hl := strI_len t
 obtain ⟨r, h1, h2, s⟩ := s
 have K2 : ∀ {r : R6} {w : World}, (r.err = 0 → ∃ st : S6, st.gs = r.gs ∧ st.gap = r.gap ∧ Ok6 (strI t) st ∧ X = .ok st) → (r.err ≠ 0 → ∃ k : Nat, r.at_ = (k : Int) ∧ X = .error (r.err, k)) → Ss W (R6P b t r :: Hs) w → WP (r4_sixes.K2 b) w (SixR W Hs X) := by
  intro r w h1 h2 s
  unfold r4_sixes.K2
  obtain ⟨g, sp, s⟩ := s.openR6
  refine WP.ld s 0 rfl (o := 4) rfl (At_weirref4_six_err _) (WP.ite (fun h => ?_) (fun h => ?_))
  ·have h : r.err ≠ 0 := h
   obtain ⟨k, k1, k2⟩ := h2 h
   refine WP.draw' s (fun w s => WP.ld s 0 rfl (o := 4) rfl (At_weirref4_six_err _) (WP.ld s 0 rfl (o := 5) rfl (At_weirref4_six_at_ _) (WP.same s 0 rfl (o := 5) rfl (At_weirref4_six_at_ _) (WP.same s 0 rfl (o := 4) rfl (At_weirref4_six_err _) (WP.ret ?_)))))
   rw [k2]
   refine ⟨?_, s.drop.drop⟩
   simp only
   rw [k1]
  ·have h : r.err = 0 := Decidable.not_not.1 h
   obtain ⟨st, e1, e2, e3, e4⟩ := h1 h
   rw [e4]
   exact lay_wp s.closeR6 e1 e2 e3
 unfold r4_sixes.K3
 obtain ⟨g, sp, s⟩ := s.openR6
 have hgl := (s.vec_len (i := 1) rfl).1
 rw [List.length_map] at hgl
 have hgl : g.len = r.gs.length := hgl
 refine WP.ld s 0 rfl (o := 4) rfl (At_weirref4_six_err _) ?_
 refine WP.step (R := fun z w' => z = decide (r.err = 0 ∧ r.gap < 0) ∧ w = w') (WP.ite (fun h => WP.ld s 0 rfl (o := 2) rfl (At_weirref4_six_gap _) (WP.ret ⟨?_, rfl⟩)) (fun h => WP.ret ⟨?_, rfl⟩)) ?_
 ·have h : r.err = 0 := h
  show decide (r.gap < 0) = _
  exact decide_eq_decide.2 ⟨fun h' => ⟨h, h'⟩, fun h' => h'.2⟩
 ·have h : ¬ r.err = 0 := h
  exact (decide_eq_false fun h' => h h'.1).symm
 rintro _ _ ⟨rfl, rfl⟩
 refine WP.step (R := fun z w' => z = decide (r.err = 0 ∧ r.gap < 0 ∧ r.gs.length < 8) ∧ w = w') (WP.ite (fun h => WP.ld s 0 rfl (o := 1) rfl (At_weirref4_six_groups _) (WP.ret ⟨?_, rfl⟩)) (fun h => WP.ret ⟨?_, rfl⟩)) ?_
 ·have h := of_decide_eq_true h
  show decide ((g.len : Int) < 8) = _
  exact decide_eq_decide.2 ⟨fun h' => ⟨h.1, h.2, by omega⟩, fun h' => by omega⟩
 ·exact (decide_eq_false fun h' => h (decide_eq_true ⟨h'.1, h'.2.1⟩)).symm
 rintro _ _ ⟨rfl, rfl⟩
 refine WP.ite (fun h => ?_) (fun h => ?_)
 ·obtain ⟨e0, e1, e2⟩ := of_decide_eq_true h
  obtain ⟨_, st, f1, f2, f3, f4⟩ := h1 e0
  refine WP.step (fail_wp s.closeR6 e0 _ _) (fun _ w s => K2 (fun h => absurd h (by simp)) (fun _ => ⟨t.size, rfl, ?_⟩) s)
  rw [f4]
  unfold endM
  rw [if_pos (by rw [f1, f2]; exact ⟨e1, by omega⟩), hl]
 ·have h : ¬ (r.err = 0 ∧ r.gap < 0 ∧ r.gs.length < 8) := fun h' => h (decide_eq_true h')
  refine K2 (fun e0 => ?_) h2 s.closeR6
  obtain ⟨_, st, f1, f2, f3, f4⟩ := h1 e0
  refine ⟨st, f1, f2, f3, ?_⟩
  rw [f4]
  unfold endM
  have := f3.g
  rw [if_neg (fun h' => h ⟨e0, by rw [← f2]; exact h'.1, by rw [← f1]; omega⟩)]
theorem six_loop {b : Nat} {t : ByteArray} (ht : t.size ≤ 1000) {X : Except Flt S6} {g : Option (Nat × Bool × S6)} {y : Bool} (s : SixI W Hs b t X g y w) : WP (r4_sixes.K4 t b y) w (SixR W Hs X) := by
 have hl := strI_len t
 unfold r4_sixes.K4
 refine WP.loopG (γ := Option (Nat × Bool × S6)) (fun g (y : Bool) w => SixI W Hs b t X g y w) (fun g _ => match g with | some (f, _, _) => f + 1 | none => 0) g s ?_
 clear s g y
 rintro g y w s
 unfold r4_sixes.L2
 cases g with
 | none =>
  have s0 := s
  obtain ⟨r, h1, h2, s⟩ := s
  obtain ⟨g, sp, s⟩ := s.openR6
  refine WP.step (R := fun z w' => z = false ∧ w = w') (WP.ite (fun h => WP.ld s 0 rfl (o := 4) rfl (At_weirref4_six_err _) (WP.ret ⟨?_, rfl⟩)) (fun h => WP.ret ⟨rfl, rfl⟩)) ?_
  ·refine beq_eq_false_iff_ne.2 fun h' => h (h1 h').1
  rintro _ _ ⟨rfl, rfl⟩
  refine WP.ite (fun h => by cases h) (fun _ => WP.step (six_K3 s0) (fun r w h => WP.done h))
 | some x =>
  obtain ⟨f, op, st⟩ := x
  obtain ⟨rfl, ok, hp, hf, hop, hX, s⟩ := s
  have oka := ok.a
  have okg := ok.g
  obtain ⟨f, rfl⟩ : ∃ k, f = k + 1 := ⟨f - 1, by omega⟩
  rw [readF_step hop] at hX
  refine WP.step (R := fun z w' => z = true ∧ w = w') (WP.ite (fun h => ?_) (fun h => absurd (by decide) h)) ?_
  ·obtain ⟨g, sp, s⟩ := s.openR6
   exact WP.ld s 0 rfl (o := 4) rfl (At_weirref4_six_err _) (WP.ret ⟨rfl, rfl⟩)
  rintro _ _ ⟨rfl, rfl⟩
  refine WP.ite (fun _ => WP.step (rgroup_wp s okg ht (by omega) hp) ?_) (fun h => absurd rfl h)
  clear s
  intro r w hr
  cases hg : groupM (strI t) st with
  | error e =>
   rw [hg] at hr hX
   obtain ⟨rfl, s⟩ := hr
   have hb := (groupM_bad (l := strI t) (st := st) (by omega) hg).1
   refine WP.step (R := fun z w' => z = false ∧ w = w') (WP.ite (fun h => absurd rfl h) (fun _ => WP.ret ⟨rfl, rfl⟩)) ?_
   rintro _ _ ⟨rfl, rfl⟩
   refine WP.ite (fun h => by cases h) (fun _ => WP.next ⟨none, ⟨_, fun h => absurd h hb, fun _ => ⟨e.2, rfl, hX.symm⟩, s⟩, by simp only; omega⟩)
  | ok x =>
   obtain ⟨done, st1⟩ := x
   rw [hg] at hr hX
   obtain ⟨rfl, p, hpp, s⟩ := hr
   obtain ⟨k1, -, k2⟩ := groupM_ok ok hg
   simp only at hX
   by_cases hd : done = true ∨ st1.at_ = (strI t).length
   ·rw [if_pos hd] at hX
    rw [hl] at hd
    rw [decide_eq_true hd]
    refine WP.step (R := fun z w' => z = false ∧ w = w') (WP.ite (fun h => absurd rfl h) (fun _ => WP.ret ⟨rfl, rfl⟩)) ?_
    rintro _ _ ⟨rfl, rfl⟩
    refine WP.ite (fun h => by cases h) (fun _ => WP.next ⟨none, ⟨_, fun _ => ⟨rfl, st1, rfl, rfl, k1, hX.symm⟩, fun h => absurd rfl h, s⟩, by simp only; omega⟩)
   ·rw [if_neg hd] at hX
    have hne : st1.at_ ≠ (strI t).length := fun h => hd (.inr h)
    have hdf : done = false := by cases done with | false => rfl | true => exact absurd (.inl rfl) hd
    have k3 := k2 hdf
    have k1a := k1.a
    have k1g := k1.g
    rw [hl] at hd
    rw [decide_eq_false hd]
    have hpe := hpp hdf
    subst hpe
    have s : Ss W (R6P b t (live st1) :: Hs) w := s
    refine WP.step (R := fun z w' => z = true ∧ w = w') (WP.ite (fun h => ?_) (fun h => absurd (by decide) h)) ?_
    ·obtain ⟨g, sp, s⟩ := s.openR6
     exact WP.ld s 0 rfl (o := 4) rfl (At_weirref4_six_err _) (WP.ret ⟨rfl, rfl⟩)
    rintro _ _ ⟨rfl, rfl⟩
    refine WP.ite (fun _ => WP.step (between_wp s k1g ht (by omega)) ?_) (fun h => absurd rfl h)
    clear s
    intro r w hr
    cases hb : betM (strI t) st1 with
    | error e =>
     rw [hb] at hr hX
     obtain ⟨rfl, s⟩ := hr
     have hbad := (betM_bad k1.a hb).1
     exact WP.next ⟨none, ⟨_, fun h => absurd h hbad, fun _ => ⟨e.2, rfl, hX.symm⟩, s⟩, by simp only; omega⟩
    | ok st2 =>
     rw [hb] at hr hX
     obtain ⟨rfl, s⟩ := hr
     simp only at hX
     obtain ⟨m1, m2, m3⟩ := betM_ok k1 hne hb
     have m1a := m1.a
     by_cases hend : dblAt (strI t) st1.at_ ∧ st2.at_ = t.size
     ·rw [decide_eq_true hend]
      have hfp : ∃ q, f = q + 1 := ⟨f - 1, by omega⟩
      obtain ⟨q, rfl⟩ := hfp
      rw [decide_eq_true hend.1] at hX
      unfold readF at hX
      rw [if_pos ⟨by omega, rfl⟩] at hX
      refine WP.next ⟨none, ⟨_, fun _ => ⟨rfl, st2, rfl, rfl, m1, ?_⟩, fun h => absurd rfl h, s⟩, by simp only; omega⟩
      rw [← hX]
      unfold endM
      have hgap : st2.gap ≥ 0 := by
       unfold betM doubleM at hb
       rw [if_neg (fun h => h hend.1)] at hb
       split at hb
       ·cases hb
       ·rename_i x y z hz
        split at hz
        ·cases hz
        ·cases hz
         simp only at hb
         cases hb
         simp only
         omega
      rw [if_neg (by omega)]
     ·rw [decide_eq_false hend]
      refine WP.next ⟨some (f, decide (dblAt (strI t) st1.at_), st2), ⟨rfl, m1, ⟨fun _ => .inl (by rw [m2]; exact groupM_gs hg hdf), fun _ => by omega⟩, by omega, fun h => hend ⟨of_decide_eq_true h.2, by omega⟩, hX, s⟩, by simp only; omega⟩
theorem sixes_wp (s : Ss W Hs w) (t : ByteArray) (ht : t.size ≤ 1000) : WP (r4_sixes t) w (SixR W Hs (readM (strI t))) := by
 have hl := strI_len t
 unfold r4_sixes
 refine WP.slot' s (fun _ w s => WP.slot' s (fun _ w s => WP.newv s (fun b w s => ?_)))
 have s : Ss W (R6P b t ⟨[], -1, 0, 0, 0⟩ :: Hs) w := Ss.closeR6 (g := Sl.nil) (sp := []) ((s.mk0 (A := vec (cI .i64) Sl.nil [] []) vec_nil).use [1, 0] (r := Hs) rfl)
 refine WP.step (two_wp t ht 0 (Nat.zero_le _)) ?_
 rintro _ _ ⟨rfl, rfl⟩
 refine WP.ite (fun h => ?_) (fun h => ?_)
 ·have h := of_decide_eq_true h
  have hX : readM (strI t) = readF (strI t) ((strI t).length + 1) true ⟨2, [], 0⟩ := by
   unfold readM doubleM
   rw [if_neg (fun h' => h' h), if_neg (by simp)]
   rfl
  have h2 := (dbl_iff.1 h).1
  obtain ⟨g, sp, s⟩ := s.openR6
  refine WP.st s 0 rfl (o := 2) rfl (Up_weirref4_six_gap _ _) (fun w s => ?_)
  refine WP.st s 0 rfl (o := 3) rfl (Up_weirref4_six_p _ _) (fun w s => ?_)
  have s : Ss W (R6P b t (live ⟨2, [], 0⟩) :: Hs) w := Ss.closeR6 (g := g) (sp := sp) s
  have ok2 : Ok6 (strI t) ⟨2, [], 0⟩ := ⟨by show 2 ≤ _; omega, by simp, by simp, by simp, fun h => by simp, fun x h => by cases h⟩
  by_cases h3 : t.size = 2
  ·rw [show ((t.size : Int) == 2) = true from beq_iff_eq.2 (by omega)]
   refine six_loop ht (g := none) ⟨_, fun _ => ⟨rfl, ⟨2, [], 0⟩, rfl, rfl, ok2, ?_⟩, fun h => absurd rfl h, s⟩
   rw [hX]
   unfold readF
   rw [if_pos ⟨by show 2 = _; omega, rfl⟩]
   rfl
  ·rw [show ((t.size : Int) == 2) = false from beq_eq_false_iff_ne.2 (by omega)]
   exact six_loop ht (g := some ((strI t).length + 1, true, ⟨2, [], 0⟩)) ⟨rfl, ok2, by simp, by simp only; omega, fun h => h3 (by have : 2 = (strI t).length := h.1; omega), hX.symm, s⟩
 ·have h : ¬ dblAt (strI t) 0 := fun h' => h (decide_eq_true h')
  have hX : readM (strI t) = readF (strI t) ((strI t).length + 1) false ⟨0, [], -1⟩ := by
   unfold readM doubleM
   rw [if_pos h]
   rfl
  have ok0 : Ok6 (strI t) ⟨0, [], -1⟩ := ⟨by simp, by simp, by simp, by simp, fun h => by simp, fun x h => by cases h⟩
  exact six_loop ht (g := some ((strI t).length + 1, false, ⟨0, [], -1⟩)) ⟨rfl, ok0, by simp, by simp only; omega, fun h => (by cases h.2), hX.symm, s⟩
end
section
variable {W w : World} {Hs : List HP}
theorem rParseIP_wp (s : Ss W Hs w) (t : ByteArray) : WP (r4_ParseIP t) w (fun r w' => r = ipM (strI t) ∧ Ss W Hs w') := by
 have hl := strI_len t
 unfold r4_ParseIP ipM parseM
 refine WP.slot' s (fun _ w s => WP.ite (fun h => WP.ret ⟨?_, s⟩) (fun h => WP.step (has_wp s t (by omega) 58) ?_))
 ·rw [if_pos (by omega)]
  rfl
 rw [if_neg (by omega)]
 rintro _ w ⟨rfl, s⟩
 refine WP.ite (fun h58 => WP.step (sixes_wp s t (by omega)) ?_) (fun h58 => WP.step (rdotted_wp s t (by omega) 0 (Nat.zero_le _)) ?_)
 ·rw [if_pos (of_decide_eq_true h58)]
  intro r w hr
  cases hm : readM (strI t) with
  | error f =>
   rw [hm] at hr
   obtain ⟨hr, s⟩ := hr
   obtain ⟨v, e, a⟩ := r
   cases hr
   have hb := (readM_bad hm).1
   exact WP.slot' s (fun _ w s => WP.ite (fun _ => WP.ret ⟨rfl, s⟩) (fun h => absurd hb h))
  | ok st =>
   rw [hm] at hr
   obtain ⟨rfl, s⟩ := hr
   exact WP.slot' s (fun _ w s => WP.ite (fun h => absurd rfl h) (fun _ => WP.ret ⟨rfl, s⟩))
 ·rw [if_neg (fun h => h58 (decide_eq_true h))]
  rintro ⟨sl, e, at'⟩ w hr
  cases hm : fourM (strI t) 0 with
  | error f =>
   rw [hm] at hr
   obtain ⟨hr, s⟩ := hr
   cases hr
   have hb := (fourM_bad (Nat.zero_le _) hm).1
   exact WP.ite (fun _ => WP.ret ⟨rfl, s⟩) (fun h => absurd hb h)
  | ok a =>
   rw [hm] at hr
   obtain ⟨hr, sp, s⟩ := hr
   cases hr
   obtain ⟨a4, a5⟩ := fourM_ok (Nat.zero_le _) hm
   obtain ⟨n1, n2, n3, n4, rfl⟩ : ∃ n1 n2 n3 n4, a = [n1, n2, n3, n4] := by
    match a, a4 with
    | [n1, n2, n3, n4], _ => exact ⟨n1, n2, n3, n4, rfl⟩
   refine WP.ite (fun h => absurd rfl h) (fun _ => WP.slot' s (fun _ w s => ?_))
   refine WP.loopG (γ := Nat) (fun i (x : Int × api_IP) w => x.1 = (i : Int) ∧ i ≤ 4 ∧ x.2 = ⟨4, v4V ([n1, n2, n3, n4].take i)⟩ ∧ Ss W (vec (cI .u8) sl ([n1, n2, n3, n4].map (fun n : Nat => (n : Int))) sp :: Hs) w) (fun i _ => 4 - i) 0 ⟨rfl, by omega, rfl, s⟩ ?_
   clear s
   rintro i ⟨_, _⟩ w ⟨rfl, hi, rfl, s⟩
   show WP (r4_ParseIP.L1 (sl, 0, 0) (i : Int) ⟨4, v4V ([n1, n2, n3, n4].take i)⟩) w _
   unfold r4_ParseIP.L1
   refine WP.ite (fun h => ?_) (fun h => WP.done ⟨?_, s.drop⟩)
   ·have hi4 : i < 4 := by omega
    refine WP.rdxp0 s 0 rfl vec_rdb (by omega) (x := (([n1, n2, n3, n4].getD i 0 : Nat) : Int)) (y := (([n1, n2, n3, n4].getD i 0 : Nat) : Int)) ?_ rfl (At.whole _) (WP.chk ⟨by omega, by omega⟩ ?_)
    ·rw [Int.toNat_natCast]
     match i, hi4 with
     | 0, _ => rfl
     | 1, _ => rfl
     | 2, _ => rfl
     | 3, _ => rfl
    ·rw [wrap_i64 (by omega) (by omega)]
     refine WP.next ⟨i + 1, ⟨by simp, hi4, ?_, s⟩, by omega⟩
     match i, hi4 with
     | 0, _ => rfl
     | 1, _ => rfl
     | 2, _ => rfl
     | 3, _ => rfl
   ·have : i = 4 := by omega
    subst this
    rfl
theorem rParsePrefix_wp (s : Ss W Hs w) (t : ByteArray) : WP (r4_ParsePrefix t) w (fun r w' => r = prefixM (strI t) ∧ Ss W Hs w') := by
 have hl := strI_len t
 unfold r4_ParsePrefix prefixM
 refine WP.slot' s (fun _ w s => WP.ite (fun h => WP.ret ⟨?_, s⟩) (fun h => ?_))
 ·unfold prefM
  rw [if_pos (by omega)]
  rfl
 have h49 : ¬ (strI t).length > 49 := by omega
 have hfl := firstM_le (strI t) 47
 refine WP.loopG (γ := Nat) (fun k (x : Int) w => x = (k : Int) ∧ k ≤ firstM (strI t) 47 ∧ Ss W Hs w) (fun k _ => t.size - k) 0 ⟨rfl, Nat.zero_le _, s⟩ ?_
 clear s
 rintro k _ w ⟨rfl, hk, s⟩
 show WP (r4_ParsePrefix.L2 t (k : Int)) w _
 unfold r4_ParsePrefix.L2
 have hgo := runE_go (p := fun c => decide (c ≠ 47)) (l := strI t) (i := 0) (k := k) (Nat.zero_le _) hk
 have hgo : (k < t.size ∧ (strI t).getD k 0 ≠ 47) ↔ k < firstM (strI t) 47 := by
  rw [← hl, show (k < firstM (strI t) 47) ↔ _ from hgo.symm]
  simp
 refine WP.step (R := fun y w' => y = decide (k < firstM (strI t) 47) ∧ w = w') (WP.ite (fun h => WP.chk ⟨by omega, by omega⟩ (WP.ret ⟨?_, rfl⟩)) (fun h => WP.ret ⟨?_, rfl⟩)) ?_
 ·rw [sb_get, Bool.eq_iff_iff, decide_eq_true_iff, ← hgo, bne_iff_ne]
  exact ⟨fun h' => ⟨by omega, h'⟩, And.right⟩
 ·exact (decide_eq_false fun h' => h (by have := (hgo.2 h').1; omega)).symm
 rintro _ _ ⟨rfl, rfl⟩
 refine WP.ite (fun h => ?_) (fun h => ?_)
 ·have h := of_decide_eq_true h
  rw [wrap_i64 (by omega) (by omega)]
  exact WP.next ⟨k + 1, ⟨by simp, by omega, s⟩, by omega⟩
 have hk : firstM (strI t) 47 = k := by
  have : ¬ k < firstM (strI t) 47 := fun h' => h (decide_eq_true h')
  omega
 refine WP.step ?_ (fun r w h => WP.done h)
 unfold r4_ParsePrefix.K2 prefM
 rw [if_neg h49, hk]
 refine WP.ite (fun h => WP.ret ⟨?_, s⟩) (fun h => WP.chk ⟨by omega, by omega, by omega⟩ (WP.step (rParseIP_wp s _) ?_))
 ·rw [if_neg (by omega)]
  simp only
  rw [hl]
 rw [if_pos (by omega)]
 have ex : strI (ByteArray.extract t (Int.toNat 0) (Int.toNat (k : Int))) = (strI t).take k := by
  rw [strI_extract]
  simp
 rw [ex]
 rintro _ w ⟨rfl, s⟩
 cases hm : parseM ((strI t).take k) with
 | error f =>
  have hb := (parseM_bad hm).1
  have e : ipM ((strI t).take k) = (z_api_IP, f.1, (f.2 : Int)) := by
   unfold ipM
   rw [hm]
  rw [e]
  exact WP.slot' s (fun _ w s => WP.ite (fun _ => WP.ret ⟨rfl, s⟩) (fun h => absurd hb h))
 | ok ip =>
  have hsz := parseM_size hm
  have hby := parseM_byt hm
  have e : ipM ((strI t).take k) = (ip, 0, 0) := by
   unfold ipM
   rw [hm]
  rw [e]
  refine WP.slot' s (fun _ w s => WP.ite (fun h => absurd rfl h) (fun _ => ?_))
  simp only
  have hk1 : k + 1 ≤ t.size := by omega
  have ek : IntKind.wrap .i64 ((k : Int) + 1) = ((k + 1 : Nat) : Int) := by
   rw [wrap_i64 (by omega) (by omega)]
   omega
  rw [ek]
  obtain ⟨r1, r2⟩ := runE_le (p := isDig) (l := strI t) (i := k + 1) (by omega)
  refine WP.loopG (γ := Nat) (fun q (x : Int) w => x = (q : Int) ∧ k + 1 ≤ q ∧ q ≤ runE isDig (strI t) (k + 1) ∧ Ss W Hs w) (fun q _ => t.size - q) (k + 1) ⟨rfl, Nat.le_refl _, r1, s⟩ ?_
  clear s
  rintro q _ w ⟨rfl, q1, q2, s⟩
  show WP (r4_ParsePrefix.L1 t (k : Int) (ip, 0, 0) (q : Int)) w _
  unfold r4_ParsePrefix.L1
  have hgo := runE_go q1 q2
  rw [hl] at hgo
  refine WP.step (R := fun y w' => y = decide (q < runE isDig (strI t) (k + 1)) ∧ w = w') (WP.ite (fun h => WP.chk ⟨by omega, by omega⟩ (WP.step (rdigit_wp _) ?_)) (fun h => WP.ret ⟨?_, rfl⟩)) ?_
  ·rintro _ _ ⟨rfl, rfl⟩
   refine WP.ret ⟨?_, rfl⟩
   rw [sb_get, Bool.eq_iff_iff, decide_eq_true_iff, ← hgo]
   exact ⟨fun h' => ⟨by omega, h'⟩, fun h' => h'.2⟩
  ·refine (decide_eq_false fun h' => ?_).symm
   have := hgo.2 h'
   omega
  rintro _ _ ⟨rfl, rfl⟩
  refine WP.ite (fun h => WP.next ⟨q + 1, ⟨?_, by omega, by have := of_decide_eq_true h; omega, s⟩, by have := of_decide_eq_true h; omega⟩) (fun h => ?_)
  ·rw [wrap_i64 (by omega) (by omega)]
   simp
  have hq : q = runE isDig (strI t) (k + 1) := by
   have : ¬ q < runE isDig (strI t) (k + 1) := fun h' => h (decide_eq_true h')
   omega
  have hdig : ∀ j, k + 1 ≤ j → j < q → isDig ((strI t).getD j 0) = true := fun j j1 j2 => runE_all j1 (by omega)
  have hnm := numM_dec (strI t) (k + 1) (sizeM ip) 45
  rw [← hq] at hnm
  rw [hnm]
  refine WP.step ?_ (fun r w h => WP.done h)
  unfold r4_ParsePrefix.K1
  rw [ek]
  refine WP.ite (fun h => WP.step (here_wp t q (by omega)) ?_) (fun h => ?_)
  ·rintro _ _ ⟨rfl, rfl⟩
   rw [if_pos (by omega), show q = k + 1 by omega]
   exact WP.ret ⟨rfl, s⟩
  rw [if_neg (by omega)]
  refine WP.step (width_wp s ip hsz) ?_
  rintro _ w ⟨rfl, s⟩
  refine WP.step (decimal_wp s t (by omega) q1 (by omega) (sizeM ip) hdig) ?_
  rintro _ w ⟨rfl, s⟩
  refine WP.ite (fun h => WP.ret ⟨by rw [if_pos h], s⟩) (fun h => ?_)
  rw [if_neg h]
  simp only
  have hcast : (((decM (strI t) (k + 1) q (sizeM ip)).toNat : Nat) : Int) = decM (strI t) (k + 1) q (sizeM ip) := by omega
  refine WP.ite (fun h => WP.ret ⟨by rw [if_pos (by omega)], s⟩) (fun h => ?_)
  rw [if_neg (by omega), hcast]
  refine WP.slot' s (fun _ w s => WP.step (rValidPrefix_wp s ⟨ip, _⟩ hby) ?_)
  rintro _ w ⟨rfl, s⟩
  refine WP.ite (fun h => WP.ret ⟨by rw [if_pos h]; rfl, s⟩) (fun h => WP.ret ⟨by rw [if_neg h], s⟩)
end
theorem macB_nib {l : List Int} {i : Nat} (h3 : i % 3 ≠ 2) (hp : ∀ j, j < i → macOk l j = true) : 0 ≤ macB l i (i / 3) ∧ macB l i (i / 3) ≤ 15 := by
 unfold macB
 rw [if_neg (by omega)]
 split
 ·have hq := hp (3 * (i / 3)) (by omega)
  unfold macOk at hq
  rw [if_neg (by omega)] at hq
  have hq := of_decide_eq_true hq
  have hq2 := hexV_lt (l.getD (3 * (i / 3)) 0)
  omega
 ·omega
theorem macV_set2 {l : List Int} {i : Nat} (hi : i < 17) (h3 : i % 3 ≠ 2) (hex : 0 ≤ hexV (l.getD i 0)) (hp : ∀ j, j < i → macOk l j = true) :
  Vec.s (macV l i) ((i / 3 : Nat) : Int) (IntKind.wrap .u8 (IntKind.wrap .u8 (Vec.g (macV l i) ((i / 3 : Nat) : Int) 0 * 16) + IntKind.wrap .u8 (hexV (l.getD i 0)))) = macV l (i + 1) := by
 rw [← macV_set hi h3 hex hp]
 congr 1
 have hv := hexV_lt (l.getD i 0)
 have hg : Vec.g (macV l i) ((i / 3 : Nat) : Int) 0 = macB l i (i / 3) := by
  unfold Vec.g macV
  rw [Int.toNat_natCast, List.getD, List.getElem?_map, List.getElem?_range (by omega)]
  rfl
 have hn := macB_nib h3 hp
 rw [hg, nib hn.1 hn.2 hex hv.2, wrap_u8 (n := macB l i (i / 3) * 16) (by omega) (by omega), wrap_u8 (n := hexV _) (by omega) (by omega), wrap_u8 (by omega) (by omega)]
 omega
section
variable {W w : World} {Hs : List HP}
theorem rParseMac_wp (s : Ss W Hs w) (t : ByteArray) : WP (r4_ParseMac t) w (fun r w' => r = macP (strI t) ∧ Ss W Hs w') := by
 have hl := strI_len t
 unfold r4_ParseMac macP
 refine WP.slot' s (fun _ w s => WP.ite (fun h => WP.ret ⟨?_, s⟩) (fun h => ?_))
 ·rw [if_pos (by omega)]
 rw [if_neg (by omega)]
 generalize hX : macF (strI t) 17 0 = X
 refine WP.slot' s (fun _ w s => ?_)
 refine WP.loopG (γ := Nat) (fun i (p : Int × Vec Int 6 × Vec Int 6) w => p.1 = (i : Int) ∧ p.2.1 = macV (strI t) i ∧ i ≤ 17 ∧ i ≤ t.size ∧ (∀ j, j < i → macOk (strI t) j = true) ∧ macF (strI t) (17 - i) i = X ∧ Ss W Hs w) (fun i _ => 17 - i) 0 ⟨rfl, rfl, Nat.zero_le _, Nat.zero_le _, fun j hj => by omega, hX, s⟩ ?_
 clear s hX
 rintro i ⟨_, v, v2⟩ w ⟨rfl, hv, hi, hit, hp, hF, s⟩
 simp only at hv
 subst hv
 show WP (r4_ParseMac.L1 t (i : Int) (macV (strI t) i) v2) w _
 unfold r4_ParseMac.L1
 have e3 : Int.tmod (i : Int) 3 = ((i % 3 : Nat) : Int) := rfl
 have e4 : IntKind.wrap .i64 (Int.tdiv (i : Int) 3) = ((i / 3 : Nat) : Int) := by
  rw [show Int.tdiv (i : Int) 3 = ((i / 3 : Nat) : Int) from rfl, wrap_i64 (by omega) (by omega)]
 have e5 : IntKind.wrap .i64 ((i : Int) + 1) = ((i + 1 : Nat) : Int) := by
  rw [wrap_i64 (by omega) (by omega)]
  rfl
 rw [e3, e4, e5]
 refine WP.ite (fun h => ?_) (fun h => WP.done ⟨?_, s⟩)
 ·have hi17 : i < 17 := by omega
  obtain ⟨k, hk⟩ : ∃ k, 17 - i = k + 1 := ⟨16 - i, by omega⟩
  rw [hk] at hF
  unfold macF at hF
  refine WP.ite (fun h => WP.done ⟨?_, s⟩) (fun h => ?_)
  ·rw [if_pos (by omega)] at hF
   rw [← hF]
  rw [if_neg (by omega)] at hF
  have hok : macOk (strI t) i = decide ((i % 3 = 2 ∧ (strI t).getD i 0 = 58) ∨ (i % 3 ≠ 2 ∧ 0 ≤ hexV ((strI t).getD i 0))) := by
   unfold macOk isHex
   by_cases h3 : i % 3 = 2
   ·rw [if_pos h3]
    exact decide_eq_decide.2 ⟨fun h => .inl ⟨h3, h⟩, fun h => by rcases h with h | h; exact h.2; exact absurd h3 h.1⟩
   ·rw [if_neg h3]
    exact decide_eq_decide.2 ⟨fun h => .inr ⟨h3, h⟩, fun h => by rcases h with h | h; exact absurd h.1 h3; exact h.2⟩
  have h58 : hexV 58 = -1 := by decide
  refine WP.chk ⟨by omega, by omega⟩ ?_
  rw [sb_get]
  refine WP.step (R := fun y w' => y = decide (¬ macOk (strI t) i = true) ∧ w = w') (WP.ite (fun hc => WP.ret ⟨?_, rfl⟩) (fun hc => WP.step (R := fun y w' => y = decide (¬ macOk (strI t) i = true) ∧ w = w') (WP.ite (fun h3 => WP.chk ⟨by omega, by omega⟩ (WP.step (worth_wp _ (getD_b (Byt.strI t) i)) ?_)) (fun h3 => WP.ret ⟨?_, rfl⟩)) (fun r w h => WP.ret h))) ?_
  ·refine (decide_eq_true (show ¬ macOk (strI t) i = true from fun hm => hc ?_)).symm
   rw [hok] at hm
   rw [Bool.eq_iff_iff, beq_iff_eq, beq_iff_eq]
   rcases of_decide_eq_true hm with ⟨a, b⟩ | ⟨a, b⟩
   ·exact ⟨fun _ => b, fun _ => by omega⟩
   ·exact ⟨fun h => absurd (show i % 3 = 2 by omega) a, fun h => by rw [h, h58] at b; omega⟩
  ·rintro _ _ ⟨rfl, rfl⟩
   refine WP.ret ⟨?_, rfl⟩
   refine decide_eq_decide.2 ⟨fun h hm => ?_, fun h => ?_⟩
   ·rw [hok] at hm
    rcases of_decide_eq_true hm with ⟨a, b⟩ | ⟨a, b⟩ <;> omega
   ·rw [hok] at h
    have h := fun x => h (decide_eq_true x)
    exact Int.not_le.1 fun x => h (.inr ⟨by omega, x⟩)
  ·refine (decide_eq_false (not_not_intro ?_)).symm
   rw [hok]
   have h2 : i % 3 = 2 := by omega
   have hc := Decidable.not_not.1 hc
   rw [Bool.eq_iff_iff, beq_iff_eq, beq_iff_eq] at hc
   exact decide_eq_true (.inl ⟨h2, hc.1 (by omega)⟩)
  rintro _ _ ⟨rfl, rfl⟩
  refine WP.ite (fun hc => WP.done ⟨?_, s⟩) (fun hc => ?_)
  ·rw [if_neg (of_decide_eq_true hc)] at hF
   rw [← hF]
  have hm : macOk (strI t) i = true := Decidable.not_not.1 fun h' => hc (decide_eq_true h')
  rw [if_pos hm] at hF
  have hp' : ∀ j, j < i + 1 → macOk (strI t) j = true := fun j hj => by
   by_cases ej : j = i
   ·subst ej
    exact hm
   ·exact hp j (by omega)
  refine WP.ite (fun h3 => ?_) (fun h3 => ?_)
  ·have h3 : i % 3 ≠ 2 := by omega
   have hx : 0 ≤ hexV ((strI t).getD i 0) := by
    rw [hok] at hm
    rcases of_decide_eq_true hm with ⟨a, b⟩ | ⟨a, b⟩
    ·exact absurd a h3
    ·exact b
   refine WP.draw' s (fun w s => WP.chk ⟨by omega, by omega⟩ (WP.chk ⟨by omega, by omega⟩ (WP.step (worth_wp _ (getD_b (Byt.strI t) i)) ?_)))
   rintro _ _ ⟨rfl, rfl⟩
   refine WP.chk ⟨by omega, by omega⟩ (WP.next ⟨i + 1, ⟨rfl, macV_set2 hi17 h3 hx hp, by omega, by omega, hp', by rw [← hF, show 17 - (i + 1) = k by omega], s⟩, by omega⟩)
  ·exact WP.next ⟨i + 1, ⟨rfl, macV_skip (by omega), by omega, by omega, hp', by rw [← hF, show 17 - (i + 1) = k by omega], s⟩, by omega⟩
 ·have hi : i = 17 := by omega
  subst hi
  rw [← hF]
  rfl
end
theorem dec3_le3 {n : Nat} (h : n < 1000) : (dec3 n).length ≤ 3 := by
 rw [dec3_len]
 unfold ndig
 split
 ·omega
 ·split <;> omega
def decL : Nat → Nat → List Int
 | 0, n => [48 + ((n % 10 : Nat) : Int)]
 | f + 1, n => if n < 10 then [48 + (n : Int)] else decL f (n / 10) ++ [48 + ((n % 10 : Nat) : Int)]
theorem decL_tab : ∀ k : _root_.Fin 1000, decL 2 k.val = dec3 k.val := by decide +kernel
theorem zrun_go : ∀ (l : List Nat) (n : Nat), n ≤ zrun l → ((n < l.length ∧ l.getD n 0 = 0) ↔ n < zrun l)
 | [], n, h => by simp [zrun]
 | x :: r, n, h => by
  unfold zrun at h ⊢
  by_cases hx : x = 0
  ·have e : (x :: r).takeWhile (· == 0) = x :: r.takeWhile (· == 0) := by
    rw [List.takeWhile_cons, if_pos (beq_iff_eq.2 hx)]
   rw [e, List.length_cons] at h ⊢
   cases n with
   | zero => simp [hx]
   | succ n =>
    have := zrun_go r n (by unfold zrun; omega)
    unfold zrun at this
    simp only [List.length_cons, List.getD_cons_succ]
    omega
  ·have e : (x :: r).takeWhile (· == 0) = [] := by
    rw [List.takeWhile_cons, if_neg (fun h => hx (beq_iff_eq.1 h))]
   rw [e, List.length_nil] at h ⊢
   have : n = 0 := by omega
   subst this
   simp [hx]
theorem grps_at {a : List Int} {k : Nat} (h : k < 8) : (grps a).getD k 0 = grp a k := by
 unfold grps
 rw [List.getD, List.getElem?_map, List.getElem?_range h]
 rfl
theorem grp_zero {a : List Int} (hb : Byt a) {k : Nat} : grp a k = 0 ↔ (a.getD (2 * k) 0 = 0 ∧ a.getD (2 * k + 1) 0 = 0) := by
 have h1 := getD_b hb (2 * k)
 have h2 := getD_b hb (2 * k + 1)
 unfold grp
 omega
theorem drop_getD (l : List Nat) (i n : Nat) : (l.drop i).getD n 0 = l.getD (i + n) 0 := by
 rw [List.getD, List.getD, List.getElem?_drop]
theorem list16 {a : List Int} (h : a.length = 16) : a = (List.range 16).map fun i => a.getD i 0 := by
 apply List.ext_getElem?
 intro i
 by_cases hi : i < 16
 ·rw [List.getElem?_map, List.getElem?_range hi, List.getElem?_eq_getElem (by omega)]
  show _ = some (a.getD i 0)
  rw [List.getD, List.getElem?_eq_getElem (by omega)]
  rfl
 ·rw [List.getElem?_eq_none (by omega), List.getElem?_eq_none (by simp; omega)]
theorem mapped_iff {a : List Int} (hb : Byt a) (hl : a.length = 16) : (zrun (grps a) = 5 ∧ a.getD 10 0 = 255 ∧ a.getD 11 0 = 255) ↔ a.take 12 = [0, 0, 0, 0, 0, 0, 0, 0, 0, 0, 255, 255] := by
 have e12 : a.take 12 = [a.getD 0 0, a.getD 1 0, a.getD 2 0, a.getD 3 0, a.getD 4 0, a.getD 5 0, a.getD 6 0, a.getD 7 0, a.getD 8 0, a.getD 9 0, a.getD 10 0, a.getD 11 0] := by
  conv => lhs; rw [list16 hl]
  rfl
 have hg := zrun_go (grps a)
 have h8 := grps_len a
 have hzl := zrun_le (grps a)
 constructor
 ·rintro ⟨h5, h10, h11⟩
  have z : ∀ k, k < 5 → a.getD (2 * k) 0 = 0 ∧ a.getD (2 * k + 1) 0 = 0 := fun k hk => by
   have := ((hg k (by omega)).2 (by omega)).2
   rw [grps_at (by omega)] at this
   exact (grp_zero hb).1 this
  rw [e12, (z 0 (by omega)).1, (z 0 (by omega)).2, (z 1 (by omega)).1, (z 1 (by omega)).2, (z 2 (by omega)).1, (z 2 (by omega)).2, (z 3 (by omega)).1, (z 3 (by omega)).2, (z 4 (by omega)).1, (z 4 (by omega)).2, h10, h11]
 ·intro h
  rw [e12] at h
  simp only [List.cons.injEq, and_true] at h
  obtain ⟨a0, a1, a2, a3, a4, a5, a6, a7, a8, a9, a10, a11⟩ := h
  refine ⟨?_, a10, a11⟩
  have z : ∀ k, k < 5 → (grps a).getD k 0 = 0 := fun k hk => by
   rw [grps_at (by omega), grp_zero hb]
   match k, hk with
   | 0, _ => exact ⟨a0, a1⟩
   | 1, _ => exact ⟨a2, a3⟩
   | 2, _ => exact ⟨a4, a5⟩
   | 3, _ => exact ⟨a6, a7⟩
   | 4, _ => exact ⟨a8, a9⟩
  have n5 : (grps a).getD 5 0 ≠ 0 := by
   rw [grps_at (by omega)]
   intro h
   have := ((grp_zero hb).1 h).1
   rw [show 2 * 5 = 10 from rfl, a10] at this
   cases this
  have up : ∀ k, k ≤ 5 → k ≤ zrun (grps a) := by
   intro k
   induction k with
   | zero => intro _; exact Nat.zero_le _
   | succ k ih =>
    intro hk
    have := (hg k (ih (by omega))).1 ⟨by omega, z k (by omega)⟩
    omega
  have h5 := up 5 (Nat.le_refl _)
  have hn : ¬ 5 < zrun (grps a) := fun h => n5 ((hg 5 h5).2 h).2
  omega
theorem colM_snoc (l : List Nat) (x : Nat) : colM (l ++ [x]) = if l = [] then hex4 x else colM l ++ 58 :: hex4 x := by
 cases l with
 | nil => simp [colM, joinL]
 | cons y r => simp [colM, joinL]
def Pri (g : List Nat) (at_ : Int) (long k : Nat) : List Int :=
 if at_ < 0 ∨ (k : Int) ≤ at_ then colM (g.take k) else colM (g.take at_.toNat) ++ [58, 58] ++ colM ((g.take k).drop (at_.toNat + long))
theorem Pri_len {g : List Nat} (hg : g.length = 8) (at_ : Int) (long k : Nat) : (Pri g at_ long k).length ≤ 200 := by
 unfold Pri
 split
 ·have := colM_len (gs := g.take k) (by rw [List.length_take]; omega)
  omega
 ·have h1 := colM_len (gs := g.take at_.toNat) (by rw [List.length_take]; omega)
  have h2 := colM_len (gs := (g.take k).drop (at_.toNat + long)) (by rw [List.length_drop, List.length_take]; omega)
  simp only [List.length_append, List.length_cons, List.length_nil]
  omega
theorem take_snocN {g : List Nat} {k : Nat} (h : k < g.length) : g.take (k + 1) = g.take k ++ [g.getD k 0] := by
 rw [List.take_add_one, List.getElem?_eq_getElem h, List.getD, List.getElem?_eq_getElem h]
 rfl
section
variable {W w : World} {Hs : List HP}
theorem one_wp {β : Type} {T : TypeId} {x : Int} {f : ByteArray → M β} {Q : β → World → Prop} (s : Ss W Hs w) (k : ∀ w', Ss W Hs w' → WP (f (bstr [x])) w' Q) : WP (newv T ((cI .u8).arr 1) (⟨[x], rfl⟩ : Vec Int 1) >>= fun b => toStr (⟨some (pt b 0), 1, 1⟩ : Sl) >>= f) w Q :=
 WP.newv s (fun b w s => WP.toStr s 0 rfl (Holds.rdb (xs := [x]) Holds.pts) (k _ s.drop))
theorem decL_len : ∀ (f n : Nat), (decL f n).length ≤ f + 1
 | 0, n => by simp [decL]
 | f + 1, n => by
  unfold decL
  have := decL_len f (n / 10)
  split
  ·simp
  ·simp only [List.length_append, List.length_cons, List.length_nil]
   omega
theorem number_go : ∀ (f N n : Nat) {Hs : List HP} {w : World}, f < N → f < 10 → n < 10 ^ (f + 1) → Ss W Hs w → WP (r4_number.go N (n : Int)) w (fun r w' => r = bstr (decL f n) ∧ Ss W Hs w') := by
 intro f
 induction f with
 | zero =>
  intro N n Hs w hN _ hn s
  obtain ⟨N, rfl⟩ : ∃ m, N = m + 1 := ⟨N - 1, by omega⟩
  show WP (r4_number.body (r4_number.go N) (n : Int)) w _
  unfold r4_number.body
  have hn : n < 10 := by simpa using hn
  rw [wrap_i64 (n := 48 + (n : Int)) (by omega) (by omega), wrap_u8 (n := 48 + (n : Int)) (by omega) (by omega)]
  refine WP.ite (fun h => one_wp s (fun w s => WP.ret ⟨?_, s⟩)) (fun h => absurd (by omega) h)
  unfold decL
  rw [show n % 10 = n by omega]
 | succ f ih =>
  intro N n Hs w hN hf hn s
  obtain ⟨N, rfl⟩ : ∃ m, N = m + 1 := ⟨N - 1, by omega⟩
  show WP (r4_number.body (r4_number.go N) (n : Int)) w _
  unfold r4_number.body
  have hbig : n < 10 ^ 10 := Nat.lt_of_lt_of_le hn (Nat.pow_le_pow_right (by omega) (by omega))
  have hbig : n < 10000000000 := hbig
  have hlen := decL_len f (n / 10)
  have hdiv : n / 10 < 10 ^ (f + 1) := by
   rw [Nat.div_lt_iff_lt_mul (by omega), ← Nat.pow_succ]
   exact hn
  refine WP.ite (fun h => ?_) (fun h => ?_)
  ·rw [wrap_i64 (n := 48 + (n : Int)) (by omega) (by omega), wrap_u8 (n := 48 + (n : Int)) (by omega) (by omega)]
   refine one_wp s (fun w s => WP.ret ⟨?_, s⟩)
   unfold decL
   rw [if_pos (by omega)]
  ·have e1 : IntKind.wrap .i64 (Int.tdiv (n : Int) 10) = ((n / 10 : Nat) : Int) := by
    rw [show Int.tdiv (n : Int) 10 = ((n / 10 : Nat) : Int) from rfl, wrap_i64 (by omega) (by omega)]
   have e2 : IntKind.wrap .u8 (IntKind.wrap .i64 (48 + Int.tmod (n : Int) 10)) = 48 + ((n % 10 : Nat) : Int) := by
    rw [show Int.tmod (n : Int) 10 = ((n % 10 : Nat) : Int) from rfl, wrap_i64 (by omega) (by omega), wrap_u8 (by omega) (by omega)]
   have e3 : bstr (decL f (n / 10)) ++ bstr [48 + ((n % 10 : Nat) : Int)] = bstr (decL (f + 1) n) := by
    rw [catb]
    conv => rhs; unfold decL
    rw [if_neg (by omega)]
   rw [e1, e2]
   have hsz : (((bstr (decL f (n / 10))).size + (bstr [48 + ((n % 10 : Nat) : Int)]).size : Nat) : Int) ≤ 9223372036854775807 := by
    rw [bstr_size, bstr_size]
    simp only [List.length_cons, List.length_nil]
    omega
   refine WP.draws s (fun σ w s => WP.ite (fun _ => ?_) (fun _ => WP.ite (fun _ => ?_) (fun _ => ?_)))
   ·refine WP.step (ih N (n / 10) (by omega) (by omega) hdiv s) ?_
    rintro _ w ⟨rfl, s⟩
    exact one_wp s (fun w s => WP.chk hsz (WP.ret ⟨e3, s⟩))
   ·refine WP.newv s (fun b w s => WP.step (ih N (n / 10) (by omega) (by omega) hdiv s) ?_)
    rintro _ w ⟨rfl, s⟩
    exact WP.toStr s 0 rfl (Holds.rdb (xs := [48 + ((n % 10 : Nat) : Int)]) Holds.pts) (WP.chk hsz (WP.ret ⟨e3, s.drop⟩))
   ·refine one_wp s (fun w s => WP.step (ih N (n / 10) (by omega) (by omega) hdiv s) ?_)
    rintro _ w ⟨rfl, s⟩
    exact WP.chk hsz (WP.ret ⟨e3, s⟩)
theorem rnumber_wp (s : Ss W Hs w) {n : Nat} (h : n < 1000) : WP (r4_number (n : Int)) w (fun r w' => r = bstr (dec3 n) ∧ Ss W Hs w') := by
 unfold r4_number
 refine (number_go 2 1000000000000 n (by omega) (by omega) h s).mono ?_
 rintro r w ⟨rfl, s⟩
 exact ⟨congrArg bstr (decL_tab ⟨n, h⟩), s⟩
theorem small16 : ∀ k : _root_.Fin 16, sb str12 (k.val : Int) = hexd k.val := by decide +kernel
theorem hex_go : ∀ (f N n : Nat) {Hs : List HP} {w : World}, f < N → f < 8 → n < 16 ^ (f + 1) → Ss W Hs w → WP (r4_hex.go N (n : Int)) w (fun r w' => r = bstr (hexL f n) ∧ Ss W Hs w') := by
 have hs16 : (str12).size = 16 := by decide +kernel
 intro f
 induction f with
 | zero =>
  intro N n Hs w hN _ hn s
  obtain ⟨N, rfl⟩ : ∃ m, N = m + 1 := ⟨N - 1, by omega⟩
  show WP (r4_hex.body (r4_hex.go N) (n : Int)) w _
  unfold r4_hex.body
  have hn : n < 16 := by simpa using hn
  have e : sb str12 (n : Int) = hexd n := small16 ⟨n, hn⟩
  rw [e, hs16]
  refine WP.ite (fun h => WP.chk ⟨by omega, by omega⟩ (one_wp s (fun w s => WP.ret ⟨?_, s⟩))) (fun h => absurd (by omega) h)
  unfold hexL
  rw [show n % 16 = n by omega]
 | succ f ih =>
  intro N n Hs w hN hf hn s
  obtain ⟨N, rfl⟩ : ∃ m, N = m + 1 := ⟨N - 1, by omega⟩
  show WP (r4_hex.body (r4_hex.go N) (n : Int)) w _
  unfold r4_hex.body
  have hbig : n < 16 ^ 9 := Nat.lt_of_lt_of_le hn (Nat.pow_le_pow_right (by omega) (by omega))
  have hbig : n < 68719476736 := hbig
  have hlen := (hexL_len f (n / 16)).2
  have hdiv : n / 16 < 16 ^ (f + 1) := by
   rw [Nat.div_lt_iff_lt_mul (by omega), ← Nat.pow_succ]
   exact hn
  rw [hs16]
  refine WP.ite (fun h => ?_) (fun h => ?_)
  ·have e : sb str12 (n : Int) = hexd n := small16 ⟨n, by omega⟩
   rw [e]
   refine WP.chk ⟨by omega, by omega⟩ (one_wp s (fun w s => WP.ret ⟨?_, s⟩))
   unfold hexL
   rw [if_pos (by omega)]
  ·have e1 : IntKind.wrap .i64 (Int.tdiv (n : Int) 16) = ((n / 16 : Nat) : Int) := by
    rw [show Int.tdiv (n : Int) 16 = ((n / 16 : Nat) : Int) from rfl, wrap_i64 (by omega) (by omega)]
   have e0 : Int.tmod (n : Int) 16 = ((n % 16 : Nat) : Int) := rfl
   have e2 : sb str12 ((n % 16 : Nat) : Int) = hexd (n % 16) := small16 ⟨n % 16, by omega⟩
   have e3 : bstr (hexL f (n / 16)) ++ bstr [hexd (n % 16)] = bstr (hexL (f + 1) n) := by
    rw [catb]
    conv => rhs; unfold hexL
    rw [if_neg (by omega)]
   rw [e1, e0, e2]
   have hsz : (((bstr (hexL f (n / 16))).size + (bstr [hexd (n % 16)]).size : Nat) : Int) ≤ 9223372036854775807 := by
    rw [bstr_size, bstr_size]
    simp only [List.length_cons, List.length_nil]
    omega
   refine WP.draws s (fun σ w s => WP.ite (fun _ => ?_) (fun _ => WP.ite (fun _ => ?_) (fun _ => ?_)))
   ·refine WP.step (ih N (n / 16) (by omega) (by omega) hdiv s) ?_
    rintro _ w ⟨rfl, s⟩
    exact WP.chk ⟨by omega, by omega⟩ (one_wp s (fun w s => WP.chk hsz (WP.ret ⟨e3, s⟩)))
   ·refine WP.chk ⟨by omega, by omega⟩ (WP.newv s (fun b w s => WP.step (ih N (n / 16) (by omega) (by omega) hdiv s) ?_))
    rintro _ w ⟨rfl, s⟩
    exact WP.toStr s 0 rfl (Holds.rdb (xs := [hexd (n % 16)]) Holds.pts) (WP.chk hsz (WP.ret ⟨e3, s.drop⟩))
   ·refine WP.chk ⟨by omega, by omega⟩ (one_wp s (fun w s => WP.step (ih N (n / 16) (by omega) (by omega) hdiv s) ?_))
    rintro _ w ⟨rfl, s⟩
    exact WP.chk hsz (WP.ret ⟨e3, s⟩)
theorem rhex_wp (s : Ss W Hs w) {n : Nat} (h : n < 65536) : WP (r4_hex (n : Int)) w (fun r w' => r = bstr (hex4 n) ∧ Ss W Hs w') := by
 unfold r4_hex
 exact hex_go 3 1000000000000 n (by omega) (by omega) h s
theorem rdots_wp (s : Ss W Hs w) (a : Vec Int 16) (hb : Byt a.l) {i : Nat} (hi : i + 3 < 16) : WP (r4_dots a (i : Int)) w (fun r w' => r = bstr (dotM [a.l.getD i 0, a.l.getD (i + 1) 0, a.l.getD (i + 2) 0, a.l.getD (i + 3) 0]) ∧ Ss W Hs w') := by
 have hdot : str8 = bstr [46] := by decide +kernel
 have num : ∀ k {w : World}, Ss W Hs w → WP (r4_number (IntKind.wrap .i64 (a.l.getD k 0))) w (fun r w' => r = bstr (dec3 (a.l.getD k 0).toNat) ∧ Ss W Hs w') := by
  intro k w s
  have h := getD_b hb k
  rw [wrap_i64 (by omega) (by omega)]
  have := rnumber_wp s (n := (a.l.getD k 0).toNat) (by omega)
  rwa [show (((a.l.getD k 0).toNat : Nat) : Int) = a.l.getD k 0 by omega] at this
 have hl : ∀ k, (dec3 (a.l.getD k 0).toNat).length ≤ 3 := fun k => dec3_le3 (by have := getD_b hb k; omega)
 have l0 := hl i
 have l1 := hl (i + 1)
 have l2 := hl (i + 2)
 have l3 := hl (i + 3)
 unfold r4_dots
 rw [show IntKind.wrap .i64 ((i : Int) + 1) = ((i + 1 : Nat) : Int) by rw [wrap_i64 (by omega) (by omega)]; omega, show IntKind.wrap .i64 ((i : Int) + 2) = ((i + 2 : Nat) : Int) by rw [wrap_i64 (by omega) (by omega)]; omega, show IntKind.wrap .i64 ((i : Int) + 3) = ((i + 3 : Nat) : Int) by rw [wrap_i64 (by omega) (by omega)]; omega, vecg, vecg, vecg, vecg, hdot]
 refine WP.slot' s (fun _ w s => WP.draw' s (fun w s => WP.chk ⟨by omega, by omega⟩ (WP.chk ⟨by omega, by omega⟩ (WP.chk ⟨by omega, by omega⟩ (WP.chk ⟨by omega, by omega⟩ (WP.step (num i s) ?_))))))
 rintro _ w ⟨rfl, s⟩
 refine WP.chk (by simp only [catb, bstr_size, List.length_append, List.length_cons, List.length_nil]; omega) (WP.step (num (i + 1) s) ?_)
 rintro _ w ⟨rfl, s⟩
 refine WP.chk (by simp only [catb, bstr_size, List.length_append, List.length_cons, List.length_nil]; omega) (WP.chk (by simp only [catb, bstr_size, List.length_append, List.length_cons, List.length_nil]; omega) (WP.step (num (i + 2) s) ?_))
 rintro _ w ⟨rfl, s⟩
 refine WP.chk (by simp only [catb, bstr_size, List.length_append, List.length_cons, List.length_nil]; omega) (WP.chk (by simp only [catb, bstr_size, List.length_append, List.length_cons, List.length_nil]; omega) (WP.step (num (i + 3) s) ?_))
 rintro _ w ⟨rfl, s⟩
 refine WP.chk (by simp only [catb, bstr_size, List.length_append, List.length_cons, List.length_nil]; omega) (WP.ret ⟨?_, s⟩)
 simp only [catb]
 congr 1
 simp [dotM, joinL]
theorem zeros_wp (s : Ss W Hs w) (a : Vec Int 16) (hb : Byt a.l) {i : Nat} (hi : i ≤ 8) : WP (r4_zeros a (i : Int)) w (fun r w' => r = (zrun ((grps a.l).drop i) : Int) ∧ Ss W Hs w') := by
 have h8 := grps_len a.l
 have hzl := zrun_le ((grps a.l).drop i)
 rw [List.length_drop, h8] at hzl
 unfold r4_zeros
 refine WP.slot' s (fun _ w s => ?_)
 refine WP.loopG (γ := Nat) (fun n (x : Int) w => x = (n : Int) ∧ n ≤ zrun ((grps a.l).drop i) ∧ Ss W Hs w) (fun n _ => 8 - n) 0 ⟨rfl, Nat.zero_le _, s⟩ ?_
 clear s
 rintro n _ w ⟨rfl, hn, s⟩
 show WP (r4_zeros.L1 a (i : Int) (n : Int)) w _
 unfold r4_zeros.L1
 have hgo := zrun_go ((grps a.l).drop i) n hn
 rw [List.length_drop, h8, drop_getD] at hgo
 rw [show IntKind.wrap .i64 ((i : Int) + (n : Int)) = ((i + n : Nat) : Int) by rw [wrap_i64 (by omega) (by omega)]; omega, show IntKind.wrap .i64 (2 * ((i + n : Nat) : Int)) = ((2 * (i + n) : Nat) : Int) by rw [wrap_i64 (by omega) (by omega)]; omega, show IntKind.wrap .i64 (((2 * (i + n) : Nat) : Int) + 1) = ((2 * (i + n) + 1 : Nat) : Int) by rw [wrap_i64 (by omega) (by omega)]; omega, vecg, vecg]
 refine WP.step (R := fun y w' => y = decide (i + n < 8 ∧ a.l.getD (2 * (i + n)) 0 = 0) ∧ w = w') (WP.ite (fun h => WP.chk ⟨by omega, by omega⟩ (WP.ret ⟨?_, rfl⟩)) (fun h => WP.ret ⟨?_, rfl⟩)) ?_
 ·rw [Bool.eq_iff_iff, beq_iff_eq, decide_eq_true_iff]
  exact ⟨fun h' => ⟨by omega, h'⟩, And.right⟩
 ·exact (decide_eq_false fun h' => h (by omega)).symm
 rintro _ _ ⟨rfl, rfl⟩
 refine WP.step (R := fun y w' => y = decide (n < zrun ((grps a.l).drop i)) ∧ w = w') (WP.ite (fun h => ?_) (fun h => WP.ret ⟨?_, rfl⟩)) ?_
 ·obtain ⟨h1, h2⟩ := of_decide_eq_true h
  refine WP.chk ⟨by omega, by omega⟩ (WP.ret ⟨?_, rfl⟩)
  rw [Bool.eq_iff_iff, beq_iff_eq, decide_eq_true_iff, ← hgo, grps_at h1, grp_zero hb]
  exact ⟨fun h' => ⟨by omega, h2, h'⟩, fun h' => h'.2.2⟩
 ·refine (decide_eq_false fun h' => h (decide_eq_true ?_)).symm
  have := hgo.2 h'
  have h1 : i + n < 8 := by omega
  rw [grps_at h1, grp_zero hb] at this
  exact ⟨h1, this.2.1⟩
 rintro _ _ ⟨rfl, rfl⟩
 refine WP.ite (fun h => ?_) (fun h => WP.done ⟨?_, s⟩)
 ·have h := of_decide_eq_true h
  rw [wrap_i64 (by omega) (by omega)]
  exact WP.next ⟨n + 1, ⟨by simp, h, s⟩, by omega⟩
 ·have : ¬ n < zrun ((grps a.l).drop i) := fun h' => h (decide_eq_true h')
  omega
theorem mapped_wp (s : Ss W Hs w) (a : Vec Int 16) (hb : Byt a.l) : WP (r4_mapped a) w (fun r w' => r = decide (a.l.take 12 = [0, 0, 0, 0, 0, 0, 0, 0, 0, 0, 255, 255]) ∧ Ss W Hs w') := by
 have hm := mapped_iff hb a.h
 unfold r4_mapped
 refine WP.slot' s (fun _ w s => WP.step (zeros_wp s a hb (i := 0) (by omega)) ?_)
 rintro _ w ⟨rfl, s⟩
 rw [List.drop_zero]
 have g10 : Vec.g a 10 0 = a.l.getD 10 0 := rfl
 have g11 : Vec.g a 11 0 = a.l.getD 11 0 := rfl
 rw [g10, g11]
 refine WP.step (R := fun y w' => y = decide (zrun (grps a.l) = 5 ∧ a.l.getD 10 0 = 255) ∧ w = w') (WP.ite (fun h => WP.ret ⟨?_, rfl⟩) (fun h => WP.ret ⟨?_, rfl⟩)) ?_
 ·rw [Bool.eq_iff_iff, beq_iff_eq, decide_eq_true_iff]
  exact ⟨fun h' => ⟨by omega, h'⟩, And.right⟩
 ·exact (decide_eq_false fun h' => h (by omega)).symm
 rintro _ _ ⟨rfl, rfl⟩
 refine WP.step (R := fun y w' => y = decide (a.l.take 12 = [0, 0, 0, 0, 0, 0, 0, 0, 0, 0, 255, 255]) ∧ w = w') (WP.ite (fun h => WP.ret ⟨?_, rfl⟩) (fun h => WP.ret ⟨?_, rfl⟩)) (fun r w h => by obtain ⟨h1, rfl⟩ := h; exact WP.ret ⟨h1, s⟩)
 ·have h := of_decide_eq_true h
  rw [Bool.eq_iff_iff, beq_iff_eq, decide_eq_true_iff, ← hm]
  exact ⟨fun h' => ⟨h.1, h.2, h'⟩, fun h' => h'.2.2⟩
 ·refine (decide_eq_false fun h' => h (decide_eq_true ?_)).symm
  have := hm.2 h'
  exact ⟨this.1, this.2.1⟩
theorem rPrintIP_wp (s : Ss W Hs w) (ip : api_IP) (hb : Byt ip.A.l) : WP (r4_PrintIP ip) w (fun r w' => r = piM ip ∧ Ss W Hs w') := by
 have hlen := ip.A.h
 have h8 := grps_len ip.A.l
 have e16 := list16 hlen
 unfold r4_PrintIP piM
 refine WP.slot' s (fun _ w s => WP.step (rValid_wp s ip) ?_)
 rintro _ w ⟨rfl, s⟩
 refine WP.ite (fun h => WP.ret ⟨?_, s⟩) (fun h => ?_)
 ·rw [if_neg (fun h' => h (decide_eq_true h'))]
 rw [if_pos (of_decide_eq_true (Decidable.not_not.1 h))]
 unfold prIP
 refine WP.ite (fun h4 => WP.step (rdots_wp s ip.A hb (i := 0) (by omega)) ?_) (fun h4 => WP.step (mapped_wp s ip.A hb) ?_)
 ·rintro _ w ⟨rfl, s⟩
  refine WP.ret ⟨?_, s⟩
  rw [if_pos h4]
  have : ip.A.l.take 4 = [ip.A.l.getD 0 0, ip.A.l.getD 1 0, ip.A.l.getD 2 0, ip.A.l.getD 3 0] := by
   conv => lhs; rw [e16]
   rfl
  rw [this]
 rintro _ w ⟨rfl, s⟩
 rw [if_neg h4]
 refine WP.ite (fun hm => WP.step (rdots_wp s ip.A hb (i := 12) (by omega)) ?_) (fun hm => ?_)
 ·rintro _ w ⟨rfl, s⟩
  have hff : str9 = bstr [58, 58, 102, 102, 102, 102, 58] := by decide +kernel
  have h64 := dotM_len (xs := [ip.A.l.getD 12 0, ip.A.l.getD (12 + 1) 0, ip.A.l.getD (12 + 2) 0, ip.A.l.getD (12 + 3) 0]) (by simp)
  rw [hff]
  refine WP.chk (by rw [bstr_size, bstr_size]; simp only [List.length_cons, List.length_nil]; omega) (WP.ret ⟨?_, s⟩)
  rw [if_pos (of_decide_eq_true hm), catb]
  have : ip.A.l.drop 12 = [ip.A.l.getD 12 0, ip.A.l.getD 13 0, ip.A.l.getD 14 0, ip.A.l.getD 15 0] := by
   conv => lhs; rw [e16]
   rfl
  rw [this]
 rw [if_neg (fun h => hm (decide_eq_true h))]
 generalize hg : grps ip.A.l = g at h8
 have fin : (if (longM g).1 < 0 then colM g else colM (g.take (longM g).1.toNat) ++ [58, 58] ++ colM (g.drop ((longM g).1.toNat + (longM g).2))) = Pri g (longF g 8).1 (longF g 8).2 8 := by
  have hi := longF_inv h8 8 (Nat.le_refl _)
  unfold Pri longM
  by_cases hn : (longF g 8).1 < 0
  ·rw [if_pos hn, if_pos (.inl hn), List.take_of_length_le (by omega)]
  ·rw [if_neg hn, if_neg (by omega), List.take_of_length_le (show g.length ≤ 8 by omega)]
 rw [fin]
 refine WP.loopG (γ := Nat) (fun i (x : Int × Int × Int) w => x.1 = (longF g i).1 ∧ x.2.1 = ((longF g i).2 : Int) ∧ x.2.2 = (i : Int) ∧ i ≤ 8 ∧ Ss W Hs w) (fun i _ => 8 - i) 0 ⟨rfl, rfl, rfl, by omega, s⟩ ?_
 clear s
 rintro i ⟨_, _, _⟩ w ⟨rfl, rfl, rfl, hi, s⟩
 show WP (r4_PrintIP.L2 ip (longF g i).1 ((longF g i).2 : Int) (i : Int)) w _
 unfold r4_PrintIP.L2
 refine WP.ite (fun h => WP.step (zeros_wp s ip.A hb hi) ?_) (fun h => ?_)
 ·rintro _ w ⟨rfl, s⟩
  rw [hg, wrap_i64 (by omega) (by omega)]
  refine WP.ite (fun h1 => WP.next ⟨i + 1, ⟨?_, ?_, by simp, by omega, s⟩, by omega⟩) (fun h1 => WP.next ⟨i + 1, ⟨?_, ?_, by simp, by omega, s⟩, by omega⟩)
  ·show (i : Int) = (longF g (i + 1)).1
   unfold longF
   rw [if_pos (by omega)]
  ·show ((zrun (g.drop i) : Nat) : Int) = ((longF g (i + 1)).2 : Int)
   conv => rhs; unfold longF
   rw [if_pos (by omega)]
  ·show (longF g i).1 = (longF g (i + 1)).1
   conv => rhs; unfold longF
   rw [if_neg (by omega)]
  ·show ((longF g i).2 : Int) = ((longF g (i + 1)).2 : Int)
   conv => rhs; unfold longF
   rw [if_neg (by omega)]
 have hi8 : i = 8 := by omega
 subst hi8
 refine WP.step ?_ (fun r w h => WP.done h)
 obtain ⟨i1, i2, i3, i4, i5⟩ := longF_inv h8 8 (Nat.le_refl _)
 generalize (longF g 8).1 = at_ at i1 i2 i5 ⊢
 generalize (longF g 8).2 = long at i3 i4 i5 ⊢
 unfold r4_PrintIP.K2
 refine WP.loopG (γ := Nat) (fun k (x : ByteArray × Int) w => x.1 = bstr (Pri g at_ long k) ∧ x.2 = (k : Int) ∧ k ≤ 8 ∧ Ss W Hs w) (fun k _ => 8 - k) 0 ⟨?_, rfl, by omega, s⟩ ?_
 ·unfold Pri
  rw [if_pos (by omega)]
  rfl
 clear s
 rintro k ⟨_, _⟩ w ⟨rfl, rfl, hk, s⟩
 show WP (r4_PrintIP.L1 ip at_ (long : Int) (bstr (Pri g at_ long k)) (k : Int)) w _
 unfold r4_PrintIP.L1
 have hpl := Pri_len h8 at_ long k
 have c1 : str1 = bstr [58] := by decide +kernel
 have c2 : str0 = bstr [58, 58] := by decide +kernel
 rw [c1, c2]
 refine WP.ite (fun h => ?_) (fun h => ?_)
 ·have hk8 : k < 8 := by omega
  have ek : IntKind.wrap .i64 ((k : Int) + 1) = ((k + 1 : Nat) : Int) := by rw [wrap_i64 (by omega) (by omega)]; omega
  have el : IntKind.wrap .i64 (at_ + (long : Int)) = at_ + (long : Int) := wrap_i64 (by omega) (by omega)
  have hsn := take_snocN (g := g) (k := k) (by omega)
  rw [ek, el]
  refine WP.ite (fun h1 => ?_) (fun h1 => ?_)
  ·refine WP.chk (by rw [bstr_size, bstr_size]; simp only [List.length_cons, List.length_nil]; omega) ?_
   rw [catb]
   refine WP.next ⟨k + 1, ⟨?_, rfl, by omega, s⟩, by omega⟩
   simp only
   congr 1
   unfold Pri
   rw [if_pos (by omega), if_neg (by omega), List.drop_of_length_le (by rw [List.length_take]; omega), show at_.toNat = k by omega]
   simp [colM, joinL]
  refine WP.step (R := fun y w' => y = decide (at_ ≥ 0 ∧ (k : Int) > at_) ∧ w = w') (WP.ite (fun h => WP.ret ⟨decide_eq_decide.2 ⟨fun h' => ⟨h, h'⟩, And.right⟩, rfl⟩) (fun h => WP.ret ⟨(decide_eq_false fun h' => h h'.1).symm, rfl⟩)) ?_
  rintro _ _ ⟨rfl, rfl⟩
  refine WP.step (R := fun y w' => y = decide (at_ ≥ 0 ∧ (k : Int) > at_ ∧ (k : Int) < at_ + (long : Int)) ∧ w = w') (WP.ite (fun h => WP.ret ⟨?_, rfl⟩) (fun h => WP.ret ⟨?_, rfl⟩)) ?_
  ·have h := of_decide_eq_true h
   exact decide_eq_decide.2 ⟨fun h' => ⟨h.1, h.2, h'⟩, fun h' => h'.2.2⟩
  ·exact (decide_eq_false fun h' => h (decide_eq_true ⟨h'.1, h'.2.1⟩)).symm
  rintro _ _ ⟨rfl, rfl⟩
  refine WP.ite (fun h2 => ?_) (fun h2 => ?_)
  ·obtain ⟨a1, a2, a3⟩ := of_decide_eq_true h2
   refine WP.next ⟨k + 1, ⟨?_, rfl, by omega, s⟩, by omega⟩
   simp only
   congr 1
   unfold Pri
   rw [if_neg (by omega), if_neg (by omega), List.drop_of_length_le (by rw [List.length_take]; omega), List.drop_of_length_le (by rw [List.length_take]; omega)]
  have h2 : ¬ (at_ ≥ 0 ∧ (k : Int) > at_ ∧ (k : Int) < at_ + (long : Int)) := fun h' => h2 (decide_eq_true h')
  -- a group
  have hstep : Pri g at_ long (k + 1) = (if 0 < k ∧ ((k : Int) ≠ at_ + (long : Int) ∨ at_ < 0) then Pri g at_ long k ++ [58] else Pri g at_ long k) ++ hex4 (g.getD k 0) := by
   by_cases hc : at_ < 0 ∨ (k : Int) < at_
   ·have e1 : Pri g at_ long (k + 1) = colM (g.take (k + 1)) := by
     unfold Pri
     rw [if_pos (show at_ < 0 ∨ ((k + 1 : Nat) : Int) ≤ at_ by omega)]
    have e0 : Pri g at_ long k = colM (g.take k) := by
     unfold Pri
     rw [if_pos (show at_ < 0 ∨ (k : Int) ≤ at_ by omega)]
    rw [e1, e0, hsn, colM_snoc]
    by_cases h0 : k = 0
    ·subst h0
     rw [if_pos (show g.take 0 = [] from rfl), if_neg (show ¬ (0 < 0 ∧ (((0 : Nat) : Int) ≠ at_ + (long : Int) ∨ at_ < 0)) by omega)]
     rfl
    ·have hne : g.take k ≠ [] := by
      intro h'
      have := congrArg List.length h'
      rw [List.length_take] at this
      simp only [List.length_nil] at this
      omega
     rw [if_neg hne, if_pos (show 0 < k ∧ ((k : Int) ≠ at_ + (long : Int) ∨ at_ < 0) by omega), List.append_assoc]
     rfl
   ·have e1 : Pri g at_ long (k + 1) = colM (g.take at_.toNat) ++ [58, 58] ++ colM ((g.take (k + 1)).drop (at_.toNat + long)) := by
     unfold Pri
     rw [if_neg (show ¬ (at_ < 0 ∨ ((k + 1 : Nat) : Int) ≤ at_) by omega)]
    have e0 : Pri g at_ long k = colM (g.take at_.toNat) ++ [58, 58] ++ colM ((g.take k).drop (at_.toNat + long)) := by
     unfold Pri
     rw [if_neg (show ¬ (at_ < 0 ∨ (k : Int) ≤ at_) by omega)]
    rw [e1, e0, hsn, List.drop_append_of_le_length (by rw [List.length_take]; omega), colM_snoc]
    by_cases h0 : (k : Int) = at_ + (long : Int)
    ·have e2 : (g.take k).drop (at_.toNat + long) = [] := List.drop_of_length_le (by rw [List.length_take]; omega)
     rw [e2, if_pos rfl, if_neg (show ¬ (0 < k ∧ ((k : Int) ≠ at_ + (long : Int) ∨ at_ < 0)) by omega)]
     simp [colM, joinL]
    ·have hne : (g.take k).drop (at_.toNat + long) ≠ [] := by
      intro h'
      have := congrArg List.length h'
      rw [List.length_drop, List.length_take] at this
      simp only [List.length_nil] at this
      omega
     rw [if_neg hne, if_pos (show 0 < k ∧ ((k : Int) ≠ at_ + (long : Int) ∨ at_ < 0) by omega)]
     simp
  have K1 : ∀ {l : List Int} {w : World}, l.length ≤ 300 → l ++ hex4 (g.getD k 0) = Pri g at_ long (k + 1) → Ss W Hs w → WP (r4_PrintIP.K1 ip (k : Int) (bstr l)) w (WP.Rd (fun (x : ByteArray × Int) w' => ∃ k' : Nat, (x.1 = bstr (Pri g at_ long k') ∧ x.2 = (k' : Int) ∧ k' ≤ 8 ∧ Ss W Hs w') ∧ 8 - k' < 8 - k) (fun r w' => r = (bstr (Pri g at_ long 8), 0) ∧ Ss W Hs w')) := by
   intro l w hl he s
   unfold r4_PrintIP.K1
   have b1 := getD_b hb (2 * k)
   have b2 := getD_b hb (2 * k + 1)
   rw [show IntKind.wrap .i64 (2 * (k : Int)) = ((2 * k : Nat) : Int) by rw [wrap_i64 (by omega) (by omega)]; omega, show IntKind.wrap .i64 (((2 * k : Nat) : Int) + 1) = ((2 * k + 1 : Nat) : Int) by rw [wrap_i64 (by omega) (by omega)]; omega, vecg, vecg, ek]
   have eg : IntKind.wrap .i64 (IntKind.wrap .i64 (256 * IntKind.wrap .i64 (ip.A.l.getD (2 * k) 0)) + IntKind.wrap .i64 (ip.A.l.getD (2 * k + 1) 0)) = ((g.getD k 0 : Nat) : Int) := by
    rw [wrap_i64 (n := ip.A.l.getD (2 * k) 0) (by omega) (by omega), wrap_i64 (n := ip.A.l.getD (2 * k + 1) 0) (by omega) (by omega), wrap_i64 (n := 256 * _) (by omega) (by omega), wrap_i64 (by omega) (by omega), ← hg, grps_at hk8]
    unfold grp
    omega
   rw [eg]
   have hlt : g.getD k 0 < 65536 := by
    rw [← hg, grps_at hk8]
    unfold grp
    omega
   refine WP.draw' s (fun w s => WP.chk ⟨by omega, by omega⟩ (WP.chk ⟨by omega, by omega⟩ (WP.step (rhex_wp s hlt) ?_)))
   rintro _ w ⟨rfl, s⟩
   have := (hexL_len 3 (g.getD k 0)).2
   refine WP.chk (by rw [bstr_size, bstr_size]; unfold hex4; omega) ?_
   rw [catb, he]
   exact WP.next ⟨k + 1, ⟨rfl, rfl, by omega, s⟩, by omega⟩
  refine WP.step (R := fun y w' => y = decide (0 < k ∧ (k : Int) ≠ at_ + (long : Int)) ∧ w = w') (WP.ite (fun h => WP.ret ⟨?_, rfl⟩) (fun h => WP.ret ⟨(decide_eq_false fun h' => h (by omega)).symm, rfl⟩)) ?_
  ·rw [Bool.eq_iff_iff, bne_iff_ne, decide_eq_true_iff]
   exact ⟨fun h' => ⟨by omega, h'⟩, And.right⟩
  rintro _ _ ⟨rfl, rfl⟩
  refine WP.step (R := fun y w' => y = decide (0 < k ∧ ((k : Int) ≠ at_ + (long : Int) ∨ at_ < 0)) ∧ w = w') (WP.ite (fun h => WP.ret ⟨?_, rfl⟩) (fun h => WP.step (R := fun y w' => y = decide (0 < k ∧ ((k : Int) ≠ at_ + (long : Int) ∨ at_ < 0)) ∧ w = w') (WP.ite (fun h' => WP.ret ⟨?_, rfl⟩) (fun h' => WP.ret ⟨?_, rfl⟩)) (fun r w h => WP.ret h))) ?_
  ·have h := of_decide_eq_true h
   exact (decide_eq_true ⟨h.1, .inl h.2⟩).symm
  ·have h : ¬ (0 < k ∧ (k : Int) ≠ at_ + (long : Int)) := fun h' => h (decide_eq_true h')
   exact decide_eq_decide.2 ⟨fun x => ⟨by omega, .inr x⟩, fun x => by omega⟩
  ·exact (decide_eq_false fun x => h' (by omega)).symm
  rintro _ _ ⟨rfl, rfl⟩
  refine WP.ite (fun h3 => ?_) (fun h3 => ?_)
  ·rw [if_pos (of_decide_eq_true h3)] at hstep
   refine WP.chk (by rw [bstr_size, bstr_size]; simp only [List.length_cons, List.length_nil]; omega) ?_
   rw [catb]
   exact K1 (by simp only [List.length_append, List.length_cons, List.length_nil]; omega) hstep.symm s
  ·rw [if_neg (fun h' => h3 (decide_eq_true h'))] at hstep
   exact K1 (by omega) hstep.symm s
 ·have : k = 8 := by omega
  subst this
  exact WP.done ⟨rfl, s⟩
theorem rPrintPrefix_wp (s : Ss W Hs w) (p : api_Prefix) (hb : Byt p.IP.A.l) : WP (r4_PrintPrefix p) w (fun r w' => r = ppM p ∧ Ss W Hs w') := by
 unfold r4_PrintPrefix
 refine WP.slot' s (fun _ w s => WP.step (rValidPrefix_wp s p hb) ?_)
 rintro _ w ⟨rfl, s⟩
 refine WP.ite (fun h => WP.ret ⟨by unfold ppM; rw [if_neg h], s⟩) (fun h => ?_)
 have hv : vpM p = 0 := Decidable.not_not.1 h
 obtain ⟨v0, v1, v2, v3⟩ := vpM_len hv
 have hz := sizeM_le p.IP
 refine WP.step (rPrintIP_wp s p.IP hb) ?_
 rintro _ w ⟨rfl, s⟩
 have hp : piM p.IP = (bstr (prIP p.IP), 0) := by
  unfold piM
  rw [if_pos (by omega)]
 rw [hp]
 have hlen := prIP_len (ip := p.IP)
 have e : str11 = bstr [47] := by decide +kernel
 rw [e]
 refine WP.chk (by rw [bstr_size, bstr_size]; simp only [List.length_cons, List.length_nil]; omega) ?_
 rw [show p.Len = ((p.Len.toNat : Nat) : Int) by omega]
 refine WP.step (rnumber_wp s (n := p.Len.toNat) (by omega)) ?_
 rintro _ w ⟨rfl, s⟩
 simp only
 rw [catb]
 have hd := dec3_le3 (n := p.Len.toNat) (by omega)
 refine WP.chk (by rw [bstr_size, bstr_size, List.length_append]; simp only [List.length_cons, List.length_nil]; omega) (WP.ret ⟨?_, s⟩)
 rw [catb]
 unfold ppM
 rw [if_pos hv, List.append_assoc]
 rfl
theorem rPrintMac_wp (s : Ss W Hs w) (m : Vec Int 6) (hb : Byt m.l) : WP (r4_PrintMac m) w (fun r w' => r = bstr (macL m.l) ∧ Ss W Hs w') := by
 unfold r4_PrintMac
 have hm := m.h
 have hs16 : (str12).size = 16 := by decide +kernel
 have c1 : str1 = bstr [58] := by decide +kernel
 have hbl : ∀ i, i ≤ 6 → (joinL [58] ((m.l.take i).map byte2)).length ≤ 18 := fun i hi => by
  have := joinL_len (sep := [58]) (l := (m.l.take i).map byte2) (k := 2) (fun x hx => by
   obtain ⟨y, _, rfl⟩ := List.mem_map.1 hx
   simp [byte2])
  rw [List.length_map, List.length_take] at this
  simp only [List.length_cons, List.length_nil] at this
  omega
 refine WP.slot' s (fun _ w s => ?_)
 refine WP.loopG (γ := Nat) (fun i (x : ByteArray × Int) w => x.1 = bstr (joinL [58] ((m.l.take i).map byte2)) ∧ x.2 = (i : Int) ∧ i ≤ 6 ∧ Ss W Hs w) (fun i _ => 6 - i) 0 ⟨rfl, rfl, by omega, s⟩ ?_
 clear s
 rintro i ⟨_, _⟩ w ⟨rfl, rfl, hi, s⟩
 show WP (r4_PrintMac.L1 m (bstr (joinL [58] ((m.l.take i).map byte2))) (i : Int)) w _
 unfold r4_PrintMac.L1
 have hli := hbl i hi
 refine WP.ite (fun h => ?_) (fun h => WP.done ⟨?_, s⟩)
 ·have hi6 : i < 6 := by omega
  obtain ⟨c, hc0⟩ : ∃ c, m.l[i]? = some c := ⟨_, List.getElem?_eq_getElem (by omega)⟩
  have hg : Vec.g m (i : Int) 0 = c := by
   show m.l.getD (Int.toNat (i : Int)) 0 = c
   rw [Int.toNat_natCast, List.getD, hc0]
   rfl
  have hc := hb _ (List.mem_of_getElem? hc0)
  have htake : m.l.take (i + 1) = m.l.take i ++ [c] := by
   rw [List.take_add_one, hc0]
   rfl
  have K1 : ∀ {w : World} {pre : List Int}, pre.length ≤ 20 → pre ++ byte2 c = joinL [58] ((m.l.take (i + 1)).map byte2) → Ss W Hs w → WP (r4_PrintMac.K1 m (i : Int) (bstr pre)) w (WP.Rd (fun (x : ByteArray × Int) w' => ∃ i' : Nat, (x.1 = bstr (joinL [58] ((m.l.take i').map byte2)) ∧ x.2 = (i' : Int) ∧ i' ≤ 6 ∧ Ss W Hs w') ∧ 6 - i' < 6 - i) (fun r w' => r = bstr (macL m.l) ∧ Ss W Hs w')) := by
   intro w pre hpl hpre s
   unfold r4_PrintMac.K1
   have d1 : IntKind.wrap .u8 (Int.tdiv c 16) = ((c.toNat / 16 : Nat) : Int) := by
    rw [Int.tdiv_eq_ediv_of_nonneg hc.1, wrap_u8 (by omega) (by omega)]
    omega
   have d2 : Int.tmod c 16 = ((c.toNat % 16 : Nat) : Int) := by
    rw [Int.tmod_eq_emod_of_nonneg hc.1]
    omega
   have q1 : sb str12 ((c.toNat / 16 : Nat) : Int) = hexd (c.toNat / 16) := small16 ⟨c.toNat / 16, by omega⟩
   have q2 : sb str12 ((c.toNat % 16 : Nat) : Int) = hexd (c.toNat % 16) := small16 ⟨c.toNat % 16, by omega⟩
   rw [hg, d1, d2, q1, q2, hs16]
   refine WP.draw' s (fun w s => WP.chk ⟨by omega, by omega⟩ (WP.chk ⟨by omega, by omega⟩ (WP.chk ⟨by omega, by omega⟩ (WP.chk ⟨by omega, by omega⟩ (WP.newv s (fun b w s => WP.toStr s 0 rfl (Holds.rdb (xs := [hexd (c.toNat / 16), hexd (c.toNat % 16)]) Holds.pts) ?_))))))
   refine WP.chk (by rw [bstr_size, bstr_size]; simp only [List.length_cons, List.length_nil]; omega) ?_
   rw [catb, show pre ++ [hexd (c.toNat / 16), hexd (c.toNat % 16)] = pre ++ byte2 c from rfl, hpre, wrap_i64 (by omega) (by omega)]
   exact WP.next ⟨i + 1, ⟨rfl, by simp, by omega, s.drop⟩, by omega⟩
  refine WP.ite (fun h0 => ?_) (fun h0 => K1 (by omega) ?_ s)
  ·rw [c1]
   refine WP.chk (by rw [bstr_size, bstr_size]; simp only [List.length_cons, List.length_nil]; omega) ?_
   rw [catb]
   refine K1 (by rw [List.length_append]; simp only [List.length_cons, List.length_nil]; omega) ?_ s
   rw [htake, List.map_append]
   cases hx : (m.l.take i).map byte2 with
   | nil =>
    have := congrArg List.length hx
    rw [List.length_map, List.length_take] at this
    simp only [List.length_nil] at this
    omega
   | cons y r => simp [joinL]
  ·have : i = 0 := by omega
   subst this
   rw [htake]
   simp [joinL]
 ·have : i = 6 := by omega
  subst this
  rw [List.take_of_length_le (by omega)]
  rfl
end
theorem band127_tab : ∀ c : _root_.Fin 256, band .u8 (c.val : Int) 127 = ((c.val % 128 : Nat) : Int) := by decide +kernel
theorem band127 {c : Int} (h : 0 ≤ c ∧ c ≤ 255) : band .u8 c 127 = c % 128 ∧ Int.tmod c 128 = c % 128 := by
 have := band127_tab ⟨c.toNat, by omega⟩
 simp only [show ((c.toNat : Nat) : Int) = c by omega] at this
 refine ⟨by rw [this]; omega, Int.tmod_eq_emod_of_nonneg h.1⟩
def gmM (ip : api_IP) : Vec Int 6 × Int :=
 if classM ip ≠ 3 then (⟨[0, 0, 0, 0, 0, 0], rfl⟩, 40)
 else if ip.V = 4 then (⟨[1, 0, 94, ip.A.l.getD 1 0 % 128, ip.A.l.getD 2 0, ip.A.l.getD 3 0], rfl⟩, 0)
 else (⟨[51, 51, ip.A.l.getD 12 0, ip.A.l.getD 13 0, ip.A.l.getD 14 0, ip.A.l.getD 15 0], rfl⟩, 0)
def solM (ip : api_IP) : api_IP × Int :=
 if ip.V ≠ 6 ∨ classM ip = 1 ∨ classM ip = 3 then (z_api_IP, 40)
 else (⟨6, ⟨[255, 2, 0, 0, 0, 0, 0, 0, 0, 0, 0, 1, 255, ip.A.l.getD 13 0, ip.A.l.getD 14 0, ip.A.l.getD 15 0], rfl⟩⟩, 0)
def pfx (n : addr_net) : api_Prefix := ⟨⟨n.v, n.a⟩, n.bits⟩
structure NetT (t : ByteArray) (n : addr_net) : Prop where
 p : prefixM (strI t) = (pfx n, 0, 0)
 v : vpM (pfx n) = 0
 b : Byt n.a.l
theorem t0 : NetT str13 ⟨4, v16 [], 32, 1⟩ := ⟨by decide +kernel, by decide +kernel, by unfold Byt; decide +kernel⟩
theorem t1 : NetT str14 ⟨6, v16 [], 128, 1⟩ := ⟨by decide +kernel, by decide +kernel, by unfold Byt; decide +kernel⟩
theorem t2 : NetT str15 ⟨4, v16 [127], 8, 2⟩ := ⟨by decide +kernel, by decide +kernel, by unfold Byt; decide +kernel⟩
theorem t3 : NetT str16 ⟨6, v16 (List.replicate 15 0 ++ [1]), 128, 2⟩ := ⟨by decide +kernel, by decide +kernel, by unfold Byt; decide +kernel⟩
theorem t4 : NetT str17 ⟨4, v16 [224], 4, 3⟩ := ⟨by decide +kernel, by decide +kernel, by unfold Byt; decide +kernel⟩
theorem t5 : NetT str18 ⟨6, v16 [255], 8, 3⟩ := ⟨by decide +kernel, by decide +kernel, by unfold Byt; decide +kernel⟩
theorem t6 : NetT str19 ⟨4, v16 [169, 254], 16, 4⟩ := ⟨by decide +kernel, by decide +kernel, by unfold Byt; decide +kernel⟩
theorem t7 : NetT str20 ⟨6, v16 [254, 128], 10, 4⟩ := ⟨by decide +kernel, by decide +kernel, by unfold Byt; decide +kernel⟩
theorem t8 : NetT str21 ⟨4, v16 [255, 255, 255, 255], 32, 5⟩ := ⟨by decide +kernel, by decide +kernel, by unfold Byt; decide +kernel⟩
theorem t9 : NetT str22 ⟨4, v16 [], 8, 6⟩ := ⟨by decide +kernel, by decide +kernel, by unfold Byt; decide +kernel⟩
theorem t10 : NetT str23 ⟨4, v16 [240], 4, 6⟩ := ⟨by decide +kernel, by decide +kernel, by unfold Byt; decide +kernel⟩
theorem t11 : NetT str24 ⟨6, v16 [], 8, 6⟩ := ⟨by decide +kernel, by decide +kernel, by unfold Byt; decide +kernel⟩
theorem sol_ip : ipM (strI str25) = (⟨6, ⟨[255, 2, 0, 0, 0, 0, 0, 0, 0, 0, 0, 1, 255, 0, 0, 0], rfl⟩⟩, 0, 0) := by decide +kernel
section
variable {W w : World} {Hs : List HP}
theorem of_wp (s : Ss W Hs w) {t : ByteArray} {n : addr_net} (h : NetT t n) (ip : api_IP) (hb : Byt ip.A.l) (hs : sizeM ip > 0) : WP (r4_of t ip) w (fun r w' => r = inNet ip n ∧ Ss W Hs w') := by
 unfold r4_of
 refine WP.slot' s (fun _ w s => WP.step (rParsePrefix_wp s t) ?_)
 rintro _ w ⟨rfl, s⟩
 rw [h.p]
 refine WP.slot' s (fun _ w s => WP.step (rContains_wp s _ h.b ip hb) ?_)
 rintro _ w ⟨rfl, s⟩
 refine WP.ret ⟨?_, s⟩
 unfold ctM inNet
 exact decide_eq_decide.2 ⟨fun x => x.2.2, fun x => ⟨h.v, hs, x⟩⟩
theorem of2_wp {β : Type} (s : Ss W Hs w) {t t' : ByteArray} {n n' : addr_net} (h : NetT t n) (h' : NetT t' n') (ip : api_IP) (hb : Byt ip.A.l) (hs : sizeM ip > 0) {f : Bool → M β} {Q : β → World → Prop} (k : ∀ w', Ss W Hs w' → WP (f (inNet ip n || inNet ip n')) w' Q) :
  WP (r4_of t ip >>= fun r => (if r = true then pure true else r4_of t' ip >>= fun r2 => pure r2) >>= f) w Q := by
 refine WP.step (of_wp s h ip hb hs) ?_
 rintro _ w ⟨rfl, s⟩
 refine WP.step (R := fun y w' => y = (inNet ip n || inNet ip n') ∧ Ss W Hs w') (WP.ite (fun h1 => WP.ret ⟨by rw [h1]; rfl, s⟩) (fun h1 => WP.step (of_wp s h' ip hb hs) ?_)) ?_
 ·rintro _ w ⟨rfl, s⟩
  refine WP.ret ⟨?_, s⟩
  cases hx : inNet ip n with
  | true => exact absurd hx h1
  | false => rfl
 rintro _ w ⟨rfl, s⟩
 exact k w s
theorem rClass_wp (s : Ss W Hs w) (ip : api_IP) (hb : Byt ip.A.l) : WP (r4_Class ip) w (fun r w' => r = classM ip ∧ Ss W Hs w') := by
 unfold r4_Class
 refine WP.slot' s (fun _ w s => WP.step (rValid_wp s ip) ?_)
 rintro _ w ⟨rfl, s⟩
 refine WP.ite (fun h => WP.ret ⟨by unfold classM; rw [if_neg (fun h' => h (decide_eq_true h'))], s⟩) (fun h => ?_)
 have hs : sizeM ip > 0 := of_decide_eq_true (Decidable.not_not.1 h)
 have hc : classM ip = if inNet ip ⟨4, v16 [], 32, 1⟩ = true then 1 else if inNet ip ⟨6, v16 [], 128, 1⟩ = true then 1 else if inNet ip ⟨4, v16 [127], 8, 2⟩ = true then 2 else if inNet ip ⟨6, v16 (List.replicate 15 0 ++ [1]), 128, 2⟩ = true then 2 else if inNet ip ⟨4, v16 [224], 4, 3⟩ = true then 3 else if inNet ip ⟨6, v16 [255], 8, 3⟩ = true then 3 else if inNet ip ⟨4, v16 [169, 254], 16, 4⟩ = true then 4 else if inNet ip ⟨6, v16 [254, 128], 10, 4⟩ = true then 4 else if inNet ip ⟨4, v16 [255, 255, 255, 255], 32, 5⟩ = true then 5 else if inNet ip ⟨4, v16 [], 8, 6⟩ = true then 6 else if inNet ip ⟨4, v16 [240], 4, 6⟩ = true then 6 else if inNet ip ⟨6, v16 [], 8, 6⟩ = true then 6 else 7 := by
  unfold classM
  rw [if_pos hs]
  rfl
 rw [hc]
 refine of2_wp s t0 t1 ip hb hs (fun w s => WP.ite (fun h0 => WP.ret ⟨?_, s⟩) (fun h0 => ?_))
 ·rcases Bool.or_eq_true_iff.1 h0 with h | h
  ·rw [if_pos h]
  ·rw [if_pos h]
   split <;> rfl
 rw [Bool.or_eq_true_iff, not_or] at h0
 rw [if_neg h0.1, if_neg h0.2]
 refine of2_wp s t2 t3 ip hb hs (fun w s => WP.ite (fun h0 => WP.ret ⟨?_, s⟩) (fun h0 => ?_))
 ·rcases Bool.or_eq_true_iff.1 h0 with h | h
  ·rw [if_pos h]
  ·rw [if_pos h]
   split <;> rfl
 rw [Bool.or_eq_true_iff, not_or] at h0
 rw [if_neg h0.1, if_neg h0.2]
 refine of2_wp s t4 t5 ip hb hs (fun w s => WP.ite (fun h0 => WP.ret ⟨?_, s⟩) (fun h0 => ?_))
 ·rcases Bool.or_eq_true_iff.1 h0 with h | h
  ·rw [if_pos h]
  ·rw [if_pos h]
   split <;> rfl
 rw [Bool.or_eq_true_iff, not_or] at h0
 rw [if_neg h0.1, if_neg h0.2]
 refine of2_wp s t6 t7 ip hb hs (fun w s => WP.ite (fun h0 => WP.ret ⟨?_, s⟩) (fun h0 => ?_))
 ·rcases Bool.or_eq_true_iff.1 h0 with h | h
  ·rw [if_pos h]
  ·rw [if_pos h]
   split <;> rfl
 rw [Bool.or_eq_true_iff, not_or] at h0
 rw [if_neg h0.1, if_neg h0.2]
 refine WP.step (of_wp s t8 ip hb hs) ?_
 rintro _ w ⟨rfl, s⟩
 refine WP.ite (fun h0 => WP.ret ⟨by rw [if_pos h0], s⟩) (fun h0 => ?_)
 rw [if_neg h0]
 refine of2_wp s t9 t10 ip hb hs (fun w s => ?_)
 refine WP.step (R := fun y w' => y = ((inNet ip ⟨4, v16 [], 8, 6⟩ || inNet ip ⟨4, v16 [240], 4, 6⟩) || inNet ip ⟨6, v16 [], 8, 6⟩) ∧ Ss W Hs w') (WP.ite (fun h1 => WP.ret ⟨by rw [h1]; rfl, s⟩) (fun h1 => WP.step (of_wp s t11 ip hb hs) ?_)) ?_
 ·rintro _ w ⟨rfl, s⟩
  refine WP.ret ⟨?_, s⟩
  cases hx : (inNet ip ⟨4, v16 [], 8, 6⟩ || inNet ip ⟨4, v16 [240], 4, 6⟩) with
  | true => exact absurd hx h1
  | false => rfl
 rintro _ w ⟨rfl, s⟩
 refine WP.ite (fun h0 => WP.ret ⟨?_, s⟩) (fun h0 => WP.ret ⟨?_, s⟩)
 ·rcases Bool.or_eq_true_iff.1 h0 with h | h
  ·rcases Bool.or_eq_true_iff.1 h with h | h
   ·rw [if_pos h]
   ·rw [if_pos h]
    split <;> rfl
  ·rw [if_pos h]
   split
   ·rfl
   ·split <;> rfl
 ·rw [Bool.or_eq_true_iff, Bool.or_eq_true_iff, not_or, not_or] at h0
  rw [if_neg h0.1.1, if_neg h0.1.2, if_neg h0.2]
theorem GroupMac_wp (s : Ss W Hs w) (t' : Nat) (et' : nth Hs t' = some TabC) (ip : api_IP) (hb : Byt ip.A.l) : WP (addr_GroupMac ip) w (fun r w' => r = gmM ip ∧ Ss W Hs w') := by
 unfold addr_GroupMac gmM
 refine WP.slot' s (fun _ w s => WP.slot' s (fun _ w s => WP.slot' s (fun _ w s => WP.step (Class_wp s t' et' ip hb) ?_)))
 rintro _ w ⟨rfl, s⟩
 refine WP.ite (fun h => WP.ret ⟨by rw [if_pos h], s⟩) (fun h => ?_)
 rw [if_neg h]
 refine WP.ite (fun h => WP.ret ⟨?_, s⟩) (fun h => WP.ret ⟨by rw [if_neg h]; rfl, s⟩)
 rw [if_pos h, ← (band127 (getD_b hb 1)).1]
 rfl
theorem rGroupMac_wp (s : Ss W Hs w) (ip : api_IP) (hb : Byt ip.A.l) : WP (r4_GroupMac ip) w (fun r w' => r = gmM ip ∧ Ss W Hs w') := by
 unfold r4_GroupMac gmM
 refine WP.slot' s (fun _ w s => WP.slot' s (fun _ w s => WP.step (rClass_wp s ip hb) ?_))
 rintro _ w ⟨rfl, s⟩
 refine WP.ite (fun h => WP.ret ⟨by rw [if_pos h], s⟩) (fun h => ?_)
 rw [if_neg h]
 refine WP.ite (fun h => WP.ret ⟨?_, s⟩) (fun h => WP.ret ⟨by rw [if_neg h]; rfl, s⟩)
 rw [if_pos h, ← (band127 (getD_b hb 1)).2]
 rfl
theorem sol_if (s : Ss W Hs w) (ip : api_IP) {β : Type} {f : Bool → M β} {Q : β → World → Prop} (k : ∀ w', Ss W Hs w' → WP (f (decide (ip.V ≠ 6 ∨ classM ip = 1 ∨ classM ip = 3))) w' Q) :
  WP ((if ip.V ≠ 6 then pure true else pure (classM ip == 1)) >>= fun y4 => (if y4 = true then pure true else pure (classM ip == 3)) >>= f) w Q := by
 refine WP.step (R := fun y w' => y = decide (ip.V ≠ 6 ∨ classM ip = 1) ∧ w = w') (WP.ite (fun h => WP.ret ⟨(decide_eq_true (.inl h)).symm, rfl⟩) (fun h => WP.ret ⟨?_, rfl⟩)) ?_
 ·rw [Bool.eq_iff_iff, beq_iff_eq, decide_eq_true_iff]
  exact ⟨.inr, fun h' => h'.resolve_left h⟩
 rintro _ _ ⟨rfl, rfl⟩
 refine WP.step (R := fun y w' => y = decide (ip.V ≠ 6 ∨ classM ip = 1 ∨ classM ip = 3) ∧ w = w') (WP.ite (fun h => WP.ret ⟨?_, rfl⟩) (fun h => WP.ret ⟨?_, rfl⟩)) ?_
 ·refine (decide_eq_true ?_).symm
  rcases of_decide_eq_true h with h | h
  ·exact .inl h
  ·exact .inr (.inl h)
 ·rw [Bool.eq_iff_iff, beq_iff_eq, decide_eq_true_iff]
  refine ⟨fun h' => .inr (.inr h'), fun h' => ?_⟩
  rcases h' with h' | h' | h'
  ·exact absurd (decide_eq_true (.inl h')) h
  ·exact absurd (decide_eq_true (.inr h')) h
  ·exact h'
 rintro _ _ ⟨rfl, rfl⟩
 exact k _ s
theorem Solicited_wp (s : Ss W Hs w) (t' : Nat) (et' : nth Hs t' = some TabC) (ip : api_IP) (hb : Byt ip.A.l) : WP (addr_Solicited ip) w (fun r w' => r = solM ip ∧ Ss W Hs w') := by
 unfold addr_Solicited solM
 refine WP.slot' s (fun _ w s => WP.slot' s (fun _ w s => WP.step (Class_wp s t' et' ip hb) ?_))
 rintro _ w ⟨rfl, s⟩
 refine sol_if s ip (fun w s => WP.ite (fun h => WP.ret ⟨by rw [if_pos (of_decide_eq_true h)], s⟩) (fun h => WP.ret ⟨?_, s⟩))
 rw [if_neg (fun h' => h (decide_eq_true h'))]
 rfl
theorem rSolicited_wp (s : Ss W Hs w) (ip : api_IP) (hb : Byt ip.A.l) : WP (r4_Solicited ip) w (fun r w' => r = solM ip ∧ Ss W Hs w') := by
 unfold r4_Solicited solM
 refine WP.slot' s (fun _ w s => WP.slot' s (fun _ w s => WP.step (rClass_wp s ip hb) ?_))
 rintro _ w ⟨rfl, s⟩
 refine sol_if s ip (fun w s => WP.ite (fun h => WP.ret ⟨by rw [if_pos (of_decide_eq_true h)], s⟩) (fun h => WP.step (rParseIP_wp s _) ?_))
 rintro _ w ⟨rfl, s⟩
 rw [if_neg (fun h' => h (decide_eq_true h')), sol_ip]
 refine WP.slot' s (fun _ w s => ?_)
 refine WP.loopG (γ := Nat) (fun i (x : Int × api_IP) w => x.1 = (i : Int) ∧ 13 ≤ i ∧ i ≤ 16 ∧ x.2 = ⟨6, ⟨[255, 2, 0, 0, 0, 0, 0, 0, 0, 0, 0, 1, 255, if 13 < i then ip.A.l.getD 13 0 else 0, if 14 < i then ip.A.l.getD 14 0 else 0, if 15 < i then ip.A.l.getD 15 0 else 0], rfl⟩⟩ ∧ Ss W Hs w) (fun i _ => 16 - i) 13 ⟨rfl, by omega, by omega, rfl, s⟩ ?_
 clear s
 rintro i ⟨_, _⟩ w ⟨rfl, h1, h2, rfl, s⟩
 show WP (r4_Solicited.L1 ip (i : Int) _) w _
 unfold r4_Solicited.L1
 refine WP.ite (fun h => WP.chk ⟨by omega, by omega⟩ (WP.chk ⟨by omega, by omega⟩ ?_)) (fun h => WP.done ⟨?_, s⟩)
 ·have hi : i = 13 ∨ i = 14 ∨ i = 15 := by omega
  rcases hi with rfl | rfl | rfl
  ·exact WP.next ⟨14, ⟨show IntKind.wrap .i64 (((13 : Nat) : Int) + 1) = ((14 : Nat) : Int) by decide, by omega, by omega, rfl, s⟩, by omega⟩
  ·exact WP.next ⟨15, ⟨show IntKind.wrap .i64 (((14 : Nat) : Int) + 1) = ((15 : Nat) : Int) by decide, by omega, by omega, rfl, s⟩, by omega⟩
  ·exact WP.next ⟨16, ⟨show IntKind.wrap .i64 (((15 : Nat) : Int) + 1) = ((16 : Nat) : Int) by decide, by omega, by omega, rfl, s⟩, by omega⟩
 ·have : i = 16 := by omega
  subst this
  rfl
end
section
variable {W w : World} {Hs : List HP}
theorem parsed_wp (s : Ss W Hs w) (o : l4_Op) : WP (l4_parsed o) w (fun r w' => r = true ∧ Ss W Hs w') := by
 unfold l4_parsed
 refine WP.slot' s (fun _ w s => WP.ite (fun _ => WP.step (ParseIP_wp s _) ?_) (fun _ => WP.ite (fun _ => WP.step (ParsePrefix_wp s _) ?_) (fun _ => WP.step (ParseMac_wp s _) ?_)))
 ·rintro _ w ⟨rfl, s⟩
  refine WP.slot' s (fun _ w s => WP.step (rParseIP_wp s _) ?_)
  rintro _ w ⟨rfl, s⟩
  exact WP.slot' s (fun _ w s => trip_wp s _)
 ·rintro _ w ⟨rfl, s⟩
  refine WP.slot' s (fun _ w s => WP.step (rParsePrefix_wp s _) ?_)
  rintro _ w ⟨rfl, s⟩
  exact WP.slot' s (fun _ w s => trip_wp s _)
 ·rintro _ w ⟨rfl, s⟩
  refine WP.slot' s (fun _ w s => WP.step (rParseMac_wp s _) ?_)
  rintro _ w ⟨rfl, s⟩
  exact WP.slot' s (fun _ w s => trip_wp s _)
end
section
variable {W w : World} {Hs : List HP}
theorem printed_wp (s : Ss W Hs w) (t : Nat) (et : nth Hs t = some TabN) (o : l4_Op) (h : OpB o) : WP (l4_printed o) w (fun r w' => r = true ∧ Ss W Hs w') := by
 unfold l4_printed
 refine WP.slot' s (fun _ w s => WP.ite (fun _ => WP.step (PrintIP_wp s t et _ h.a) ?_) (fun _ => WP.ite (fun _ => WP.step (PrintPrefix_wp s t et _ h.p) ?_) (fun _ => WP.step (PrintMac_wp s _ h.m) ?_)))
 ·rintro _ w ⟨rfl, s⟩
  refine WP.step (rPrintIP_wp s _ h.a) ?_
  rintro _ w ⟨rfl, s⟩
  exact pairT_wp s _
 ·rintro _ w ⟨rfl, s⟩
  refine WP.step (rPrintPrefix_wp s _ h.p) ?_
  rintro _ w ⟨rfl, s⟩
  exact pairT_wp s _
 ·rintro _ w ⟨rfl, s⟩
  refine WP.step (rPrintMac_wp s _ h.m) ?_
  rintro _ w ⟨rfl, s⟩
  exact WP.ret ⟨beq_iff_eq.2 rfl, s⟩
end
section
variable {W w : World} {Hs : List HP}
theorem known_wp (s : Ss W Hs w) (t' : Nat) (et' : nth Hs t' = some TabC) (o : l4_Op) (h : OpB o) : WP (l4_known o) w (fun r w' => r = true ∧ Ss W Hs w') := by
 unfold l4_known
 refine WP.slot' s (fun _ w s => WP.ite (fun _ => WP.step (Valid_wp s _) ?_) (fun _ => WP.ite (fun _ => WP.step (ValidPrefix_wp s _ h.p) ?_) (fun _ => WP.ite (fun _ => WP.step (Mask_wp s _ h.a _) ?_) (fun _ => WP.ite (fun _ => WP.step (Contains_wp s _ h.p _ h.a) ?_) (fun _ => WP.ite (fun _ => WP.step (Class_wp s t' et' _ h.a) ?_) (fun _ => WP.step (Less_wp s _ _) ?_))))))
 ·rintro _ w ⟨rfl, s⟩
  refine WP.step (rValid_wp s _) ?_
  rintro _ w ⟨rfl, s⟩
  exact WP.ret ⟨beq_iff_eq.2 rfl, s⟩
 ·rintro _ w ⟨rfl, s⟩
  refine WP.step (rValidPrefix_wp s _ h.p) ?_
  rintro _ w ⟨rfl, s⟩
  exact num_wp (WP.ret ⟨beq_iff_eq.2 rfl, s⟩)
 ·rintro _ w ⟨rfl, s⟩
  refine WP.slot' s (fun _ w s => WP.step (rMask_wp s _ h.a _) ?_)
  rintro _ w ⟨rfl, s⟩
  exact WP.slot' s (fun _ w s => pair2_wp s _)
 ·rintro _ w ⟨rfl, s⟩
  refine WP.step (rContains_wp s _ h.p _ h.a) ?_
  rintro _ w ⟨rfl, s⟩
  exact WP.ret ⟨beq_iff_eq.2 rfl, s⟩
 ·rintro _ w ⟨rfl, s⟩
  refine WP.step (rClass_wp s _ h.a) ?_
  rintro _ w ⟨rfl, s⟩
  exact WP.ret ⟨beq_iff_eq.2 rfl, s⟩
 ·rintro _ w ⟨rfl, s⟩
  refine WP.step (rLess_wp s _ _) ?_
  rintro _ w ⟨rfl, s⟩
  exact WP.ret ⟨beq_iff_eq.2 rfl, s⟩
theorem plays_K1 (s : Ss W Hs w) (t' : Nat) (et' : nth Hs t' = some TabC) (o : l4_Op) (h : OpB o) (j : Bool) : WP (l4_plays.K1 o j) w (fun r w' => r = true ∧ Ss W Hs w') := by
 unfold l4_plays.K1
 refine WP.ite (fun _ => WP.step (known_wp s t' et' o h) (fun r w h => WP.ret h)) (fun _ => WP.ite (fun _ => WP.step (GroupMac_wp s t' et' _ h.a) ?_) (fun _ => WP.ite (fun _ => WP.step (Solicited_wp s t' et' _ h.a) ?_) (fun _ => WP.ret ⟨rfl, s⟩)))
 ·rintro _ w ⟨rfl, s⟩
  refine WP.slot' s (fun _ w s => WP.step (rGroupMac_wp s _ h.a) ?_)
  rintro _ w ⟨rfl, s⟩
  exact WP.slot' s (fun _ w s => pair2_wp s _)
 ·rintro _ w ⟨rfl, s⟩
  refine WP.slot' s (fun _ w s => WP.step (rSolicited_wp s _ h.a) ?_)
  rintro _ w ⟨rfl, s⟩
  exact WP.slot' s (fun _ w s => pair2_wp s _)
end
section
variable {W w : World} {Hs : List HP}
theorem plays_K6 (s : Ss W Hs w) (t t' : Nat) (et : nth Hs t = some TabN) (et' : nth Hs t' = some TabC) (o : l4_Op) (h : OpB o) (j : Bool) : WP (l4_plays.K6 o j) w (fun r w' => r = true ∧ Ss W Hs w') := by
 have k1 : ∀ j, WP (l4_plays.K1 o j) w (fun r w' => r = true ∧ Ss W Hs w') := plays_K1 s t' et' o h
 unfold l4_plays.K6 l4_plays.K5 l4_plays.K4 l4_plays.K3 l4_plays.K2
 exact WP.ite (fun _ => WP.step (printed_wp s t et o h) (fun r w h => WP.ret h)) (fun _ => WP.ite (fun _ => k1 _) (fun _ => WP.ite (fun _ => k1 _) (fun _ => WP.ite (fun _ => k1 _) (fun _ => WP.ite (fun _ => k1 _) (fun _ => WP.ite (fun _ => k1 _) (fun _ => k1 _))))))
theorem plays_K8 (s : Ss W Hs w) (t t' : Nat) (et : nth Hs t = some TabN) (et' : nth Hs t' = some TabC) (o : l4_Op) (h : OpB o) (j : Bool) : WP (l4_plays.K8 o j) w (fun r w' => r = true ∧ Ss W Hs w') := by
 have k6 : ∀ j, WP (l4_plays.K6 o j) w (fun r w' => r = true ∧ Ss W Hs w') := plays_K6 s t t' et et' o h
 unfold l4_plays.K8 l4_plays.K7
 exact WP.ite (fun _ => WP.step (parsed_wp s o) (fun r w h => WP.ret h)) (fun _ => WP.ite (fun _ => k6 _) (fun _ => WP.ite (fun _ => k6 _) (fun _ => k6 _)))
theorem plays_wp (s : Ss W Hs w) (t t' : Nat) (et : nth Hs t = some TabN) (et' : nth Hs t' = some TabC) (o : l4_Op) (h : OpB o) : WP (l4_plays o) w (fun r w' => r = true ∧ Ss W Hs w') := by
 unfold l4_plays l4_plays.K9
 refine WP.slot' s (fun _ w s => ?_)
 have k8 : ∀ j, WP (l4_plays.K8 o j) w (fun r w' => r = true ∧ Ss W Hs w') := plays_K8 s t t' et et' o h
 exact WP.ite (fun _ => k8 _) (fun _ => WP.ite (fun _ => k8 _) (fun _ => k8 _))
end
end Go.Proofs.YtddmmgcfanpmmaaGreatDoor.Lx
