/- weirlaw4.upTo: every call of a script. -/
import Derived.Test.YtddmmgcfanpmmaaGreatDoorAddrStart
set_option linter.unusedVariables false
set_option linter.unusedSimpArgs false
namespace Go.Proofs.YtddmmgcfanpmmaaGreatDoor.Lx
open Go Go.Proofs Go.RowKit
structure OpB (o : weirlaw4_Op) : Prop where
  a : Byt o.A.A.l
  b : Byt o.B.A.l
  p : Byt o.P.IP.A.l
  m : Byt o.M.l
section
variable {W w : World} {Hs : List HP}
theorem pair2_wp {α : Type} [DecidableEq α] (s : Ss W Hs w) (x : α × Int) :
    WP ((if x.1 = x.1 then weirlaw4_num x.2 >>= fun r28 => pure (r28 == x.2) else pure false) >>= fun y30 => pure y30) w (fun r w' => r = true ∧ Ss W Hs w') := by
  refine WP.step (R := fun y w' => y = true ∧ w = w') (WP.ite (fun _ => num_wp (WP.ret ⟨beq_iff_eq.2 rfl, rfl⟩)) (fun h => absurd rfl h)) ?_
  rintro _ _ ⟨rfl, rfl⟩
  exact WP.ret ⟨rfl, s⟩
theorem upTo_wp (s : Ss W Hs w) (t t' p : Nat) (et : nth Hs t = some TabN) (et' : nth Hs t' = some TabC) {u : Sl} {ops : List weirlaw4_Op} (ep : nth Hs p = some (rdS c_weirlaw4_Op false u ops)) (hl : ops.length ≤ 140737488351232) (h : ∀ o ∈ ops, OpB o) (lo hi : Int) (pl : ∀ (o : weirlaw4_Op) (w : World), OpB o → lo ≤ o.Kind → o.Kind ≤ hi → Ss W Hs w → WP (weirlaw4_plays o) w (fun r w' => r = true ∧ Ss W Hs w')) : WP (weirlaw4_upTo u lo hi) w (fun r w' => r = true ∧ Ss W Hs w') := by
  unfold weirlaw4_upTo
  have hlen := (s.rd_len ep rdS_rdb).1
  refine WP.loopG (γ := Nat) (fun k (x : Int) w => x = (k : Int) ∧ k ≤ ops.length ∧ Ss W Hs w) (fun k _ => ops.length - k) 0 ⟨rfl, Nat.zero_le _, s⟩ ?_
  clear s
  rintro k _ w ⟨rfl, hk, s⟩
  show WP (weirlaw4_upTo.L1 u lo hi (k : Int)) w _
  unfold weirlaw4_upTo.L1
  refine WP.ite (fun h1 => ?_) (fun h1 => WP.done ⟨rfl, s⟩)
  have hk' : k < ops.length := by omega
  have hx : ops[Int.toNat (k : Int)]? = some ops[k] := by rw [Int.toNat_natCast, List.getElem?_eq_getElem hk']
  rw [wrap_i64 (by omega) (by omega)]
  have nx : ∀ {w : World}, Ss W Hs w → WP (pure (LS.next ((k : Int) + 1)) : M (LS Int Bool)) w (WP.Rd (fun (x : Int) w' => ∃ k' : Nat, (x = (k' : Int) ∧ k' ≤ ops.length ∧ Ss W Hs w') ∧ ops.length - k' < ops.length - k) (fun r w' => r = true ∧ Ss W Hs w')) := fun s => WP.next ⟨k + 1, ⟨by simp, hk', s⟩, by omega⟩
  refine WP.rdxp0 s p ep rdS_rdb (by omega) hx rfl (At_weirlaw4_Op_Kind _) ?_
  refine WP.step (R := fun y w' => (y = true → lo ≤ ops[k].Kind ∧ ops[k].Kind ≤ hi) ∧ w = w') (WP.ite (fun hlo => ?_) (fun _ => WP.ret ⟨fun h => (by cases h), rfl⟩)) ?_
  · exact WP.rdxp0 s p ep rdS_rdb (by omega) hx rfl (At_weirlaw4_Op_Kind _) (WP.ret ⟨fun h => ⟨hlo, of_decide_eq_true h⟩, rfl⟩)
  rintro y _ ⟨hy, rfl⟩
  refine WP.ite (fun hyt => ?_) (fun _ => nx s)
  refine WP.rdxp0 s p ep rdS_rdb (by omega) hx rfl (At.whole _) (WP.step (pl _ _ (h _ (List.getElem_mem hk')) (hy hyt).1 (hy hyt).2 s) ?_)
  rintro _ w ⟨rfl, s⟩
  exact WP.ite (fun h => absurd rfl h) (fun _ => nx s)
theorem script_wp (s : Ss W Hs w) (t t' p : Nat) (et : nth Hs t = some TabN) (et' : nth Hs t' = some TabC) {u : Sl} {ops : List weirlaw4_Op} (ep : nth Hs p = some (rdS c_weirlaw4_Op false u ops)) (hl : ops.length ≤ 140737488351232) (h : ∀ o ∈ ops, OpB o) (lo hi : Int) (pl : ∀ (o : weirlaw4_Op) (w : World), OpB o → lo ≤ o.Kind → o.Kind ≤ hi → Ss W Hs w → WP (weirlaw4_plays o) w (fun r w' => r = true ∧ Ss W Hs w')) :
    WP (weirlaw4_started >>= fun r1 => (if r1 = true then weirlaw4_upTo u lo hi >>= fun r2 => pure r2 else pure false) >>= fun y3 => pure y3) w (fun r w' => r = true ∧ Ss W Hs w') := by
  refine WP.step (started_wp s t t' et et') ?_
  rintro _ w ⟨rfl, s⟩
  refine WP.step (WP.ite (fun _ => WP.step (upTo_wp s t t' p et et' ep hl h lo hi pl) (fun r w h => WP.ret h)) (fun h => absurd rfl h)) (fun r w h => WP.ret h)
end
end Go.Proofs.YtddmmgcfanpmmaaGreatDoor.Lx
