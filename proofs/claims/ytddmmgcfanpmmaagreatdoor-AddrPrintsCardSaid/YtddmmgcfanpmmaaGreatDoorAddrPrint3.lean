/- PrintPrefix, PrintMac and Class (package addr), of their programs in the M-world. -/
import Derived.Test.YtddmmgcfanpmmaaGreatDoorAddrPrint2
set_option linter.unusedVariables false
set_option linter.unusedSimpArgs false
namespace Go.Proofs.YtddmmgcfanpmmaaGreatDoor.Lx
open Go Go.Proofs Go.RowKit
def byte2 (c : Int) : List Int := [hexd (c.toNat / 16), hexd (c.toNat % 16)]
def macL (m : List Int) : List Int := joinL [58] (m.map byte2)
theorem prIP_len {ip : api_IP} : (prIP ip).length ≤ 200 := by
  have hl := ip.A.h
  unfold prIP
  split
  · have := dotM_len (xs := ip.A.l.take 4) (by rw [List.length_take]; omega)
    omega
  · split
    · have := dotM_len (xs := ip.A.l.drop 12) (by rw [List.length_drop]; omega)
      rw [List.length_append]
      simp only [List.length_cons, List.length_nil]
      omega
    · have hg := grps_len ip.A.l
      split
      · have := colM_len (gs := grps ip.A.l) (by omega)
        omega
      · have h1 := colM_len (gs := (grps ip.A.l).take (longM (grps ip.A.l)).1.toNat) (by rw [List.length_take]; omega)
        have h2 := colM_len (gs := (grps ip.A.l).drop ((longM (grps ip.A.l)).1.toNat + (longM (grps ip.A.l)).2)) (by rw [List.length_drop]; omega)
        rw [List.length_append, List.length_append]
        simp only [List.length_cons, List.length_nil]
        omega
theorem hex_tab : ∀ k : _root_.Fin 256, sb str12 (Int.fdiv (k.val : Int) (2 ^ 4)) = hexd (k.val / 16) ∧ sb str12 (band .u8 (k.val : Int) 15) = hexd (k.val % 16) ∧ 0 ≤ Int.fdiv (k.val : Int) (2 ^ 4) ∧ Int.fdiv (k.val : Int) (2 ^ 4) < 16 ∧ 0 ≤ band .u8 (k.val : Int) 15 ∧ band .u8 (k.val : Int) 15 < 16 := by decide +kernel
section
variable {W w : World} {Hs : List HP}
theorem PrintPrefix_wp (s : Ss W Hs w) (t : Nat) (et : nth Hs t = some TabN) (p : api_Prefix) (hb : Byt p.IP.A.l) : WP (addr_PrintPrefix p) w (fun r w' => r = ppM p ∧ Ss W Hs w') := by
  unfold addr_PrintPrefix
  refine WP.slot' s (fun _ w s => WP.step (ValidPrefix_wp s p hb) ?_)
  rintro _ w ⟨rfl, s⟩
  refine WP.ite (fun h => WP.ret ⟨by unfold ppM; rw [if_neg h], s⟩) (fun h => ?_)
  have hv : vpM p = 0 := Decidable.not_not.1 h
  obtain ⟨v0, v1, v2, v3⟩ := vpM_len hv
  have hz := sizeM_le p.IP
  refine WP.step (PrintIP_wp s t et p.IP hb) ?_
  rintro _ w ⟨rfl, s⟩
  have hp : piM p.IP = (bstr (prIP p.IP), 0) := by
    unfold piM
    rw [if_pos (by omega)]
  rw [hp]
  have hlen := prIP_len (ip := p.IP)
  have hs1 : (str11).size = 1 := by decide +kernel
  refine WP.chk (by rw [bstr_size, hs1]; omega) ?_
  rw [show p.Len = ((p.Len.toNat : Nat) : Int) by omega]
  refine WP.step (Itoa_wp s t et (n := p.Len.toNat) (by omega)) ?_
  rintro _ w ⟨rfl, s⟩
  have e : str11 = bstr [47] := by decide +kernel
  simp only
  rw [e, catb]
  have hd : (dec3 p.Len.toNat).length ≤ 3 := by
    rw [dec3_len]
    unfold ndig
    split
    · omega
    · split <;> omega
  refine WP.chk (by rw [bstr_size, bstr_size, List.length_append]; simp only [List.length_cons, List.length_nil]; omega) (WP.ret ⟨?_, s⟩)
  rw [catb]
  unfold ppM
  rw [if_pos hv, List.append_assoc]
  rfl
theorem PrintMac_wp (s : Ss W Hs w) (m : Vec Int 6) (hb : Byt m.l) : WP (addr_PrintMac m) w (fun r w' => r = bstr (macL m.l) ∧ Ss W Hs w') := by
  unfold addr_PrintMac
  refine WP.slot' s (fun _ w s => WP.newvS s (fun b w s => ?_))
  have s := bld_new s
  have hm := m.h
  have hs16 : (str12).size = 16 := by decide +kernel
  have hj : ∀ (l : List (List Int)) (x : List Int), l ≠ [] → joinL [58] (l ++ [x]) = joinL [58] l ++ (58 :: x) := by
    intro l x hl
    cases l with
    | nil => exact absurd rfl hl
    | cons y l => simp [joinL]
  have hbl : ∀ i, i ≤ 6 → (joinL [58] ((m.l.take i).map byte2)).length ≤ 18 := fun i hi => by
    have := joinL_len (sep := [58]) (l := (m.l.take i).map byte2) (k := 2) (fun x hx => by
      obtain ⟨y, _, rfl⟩ := List.mem_map.1 hx
      simp [byte2])
    rw [List.length_map, List.length_take] at this
    simp only [List.length_cons, List.length_nil] at this
    omega
  refine WP.loopG (γ := Nat) (fun i (p : Int) w => p = (i : Int) ∧ i ≤ 6 ∧ Ss W (BldP b (joinL [58] ((m.l.take i).map byte2)) :: Hs) w) (fun i _ => 6 - i) 0 ⟨rfl, by omega, s⟩ ?_
  clear s
  rintro i _ w ⟨rfl, hi, s⟩
  show WP (addr_PrintMac.L1 m b (i : Int)) w _
  unfold addr_PrintMac.L1
  have hli := hbl i hi
  refine WP.ite (fun h => ?_) (fun h => ?_)
  · have hi6 : i < 6 := by omega
    refine WP.chk ⟨by omega, by omega⟩ ?_
    have hx : m.l[i]? = some (m.g (i : Int) 0) := by
      show _ = some (m.l.getD (Int.toNat (i : Int)) 0)
      rw [Int.toNat_natCast, List.getD, List.getElem?_eq_getElem (by omega)]
      rfl
    have hc := hb _ (List.mem_of_getElem? hx)
    have htake : m.l.take (i + 1) = m.l.take i ++ [m.g (i : Int) 0] := by
      rw [List.take_add_one, hx]
      rfl
    generalize m.g (i : Int) 0 = c at hx hc htake
    have K1 : ∀ {w : World} {pre : List Int}, pre.length ≤ 20 → pre ++ byte2 c = joinL [58] ((m.l.take (i + 1)).map byte2) → Ss W (BldP b pre :: Hs) w → m.g (i : Int) 0 = c → WP (addr_PrintMac.K1 m b (i : Int)) w (WP.Rd (fun x' w' => ∃ g' : Nat, (x' = (g' : Int) ∧ g' ≤ 6 ∧ Ss W (BldP b (joinL [58] ((m.l.take g').map byte2)) :: Hs) w') ∧ 6 - g' < 6 - i) (fun r w' => r = bstr (macL m.l) ∧ Ss W Hs w')) := by
      intro w pre hpl hpre s hg
      unfold addr_PrintMac.K1
      rw [hg]
      obtain ⟨q1, q2, q3, q4, q5, q6⟩ := hex_tab ⟨c.toNat, by omega⟩
      simp only at q1 q2 q3 q4 q5 q6
      rw [show ((c.toNat : Nat) : Int) = c by omega] at q1 q2 q3 q4 q5 q6
      rw [hs16, q1, q2]
      refine WP.chk ⟨q3, by omega⟩ (WP.step (WriteByte_wp s _ (by omega)) ?_)
      rintro _ w s
      refine WP.chk ⟨q5, by omega⟩ (WP.step (WriteByte_wp s _ (by rw [List.length_append]; simp only [List.length_cons, List.length_nil]; omega)) ?_)
      rintro _ w s
      refine WP.next ⟨i + 1, ⟨?_, by omega, ?_⟩, by omega⟩
      · rw [wrap_i64 (by omega) (by omega)]
        simp
      · rw [← hpre]
        rw [List.append_assoc] at s
        exact s
    have hg : m.g (i : Int) 0 = c := by
      show m.l.getD (Int.toNat (i : Int)) 0 = c
      rw [Int.toNat_natCast, List.getD, hx]
      rfl
    refine WP.ite (fun h0 => WP.step (WriteByte_wp s _ (by omega)) ?_) (fun h0 => K1 (by omega) ?_ s hg)
    · rintro _ w s
      refine K1 (by rw [List.length_append]; simp only [List.length_cons, List.length_nil]; omega) ?_ s hg
      rw [htake, List.map_append]
      have := hj ((m.l.take i).map byte2) (byte2 c) (by
        intro h'
        have := congrArg List.length h'
        rw [List.length_map, List.length_take] at this
        simp only [List.length_nil] at this
        omega)
      rw [List.append_assoc]
      exact this.symm
    · have : i = 0 := by omega
      subst this
      rw [htake]
      simp [joinL]
  · have hi6 : i = 6 := by omega
    subst hi6
    have ht : m.l.take 6 = m.l := List.take_of_length_le (by omega)
    rw [ht] at s hli
    refine WP.step (String_wp s (joinL_byt (fun x hx => by rw [List.mem_singleton] at hx; omega) (fun x hx => ?_)) (by omega)) ?_
    · obtain ⟨c, hc, rfl⟩ := List.mem_map.1 hx
      have := hb c hc
      intro y hy
      simp only [byte2, List.mem_cons, List.not_mem_nil, or_false] at hy
      rcases hy with rfl | rfl
      · exact hexd_byt _ (by omega)
      · exact hexd_byt _ (by omega)
    rintro _ w ⟨rfl, s⟩
    exact WP.done ⟨rfl, s⟩
end
end Go.Proofs.YtddmmgcfanpmmaaGreatDoor.Lx
