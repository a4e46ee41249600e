/- An address is read (package addr: parse, ParseIP, ParsePrefix). -/
import Derived.Test.YtddmmgcfanpmmaaGreatDoorAddrParse
set_option linter.unusedVariables false
set_option linter.unusedSimpArgs false
namespace Go.Proofs.YtddmmgcfanpmmaaGreatDoor.Lx
open Go Go.Proofs Go.RowKit
theorem readF_ok {l : List Int} : ∀ (f : Nat) (op : Bool) (st r : S6), Ok6 l st → readF l f op st = .ok r → Ok6 l r
  | 0, _, _, _, _, h => by cases h
  | f + 1, op, st, r, ok, h => by
    unfold readF at h
    split at h
    · cases h
      exact ok
    · cases hg : groupM l st with
      | error e =>
        rw [hg] at h
        cases h
      | ok x =>
        obtain ⟨done, st1⟩ := x
        rw [hg] at h
        obtain ⟨k1, -, -⟩ := groupM_ok ok hg
        simp only at h
        split at h
        · split at h
          · cases h
          · cases h
            exact k1
        · rename_i hn
          cases hd : doubleM l st1 with
          | error e =>
            rw [hd] at h
            cases h
          | ok x =>
            obtain ⟨y, st2⟩ := x
            rw [hd] at h
            obtain ⟨m1, m2, m3⟩ := doubleM_ok k1 hd
            simp only at h
            split at h
            · exact readF_ok f true st2 r m1 h
            · rename_i hy
              split at h
              · cases h
              · have e2 := m2 (by simpa using hy)
                have h3 := k1.a
                have h4 : st1.at_ ≠ l.length := fun h' => hn (.inr h')
                refine readF_ok f false ⟨st2.at_ + 1, st2.gs, st2.gap⟩ r ⟨?_, m1.g, m1.p1, m1.p2, m1.p3, m1.v⟩ h
                show st2.at_ + 1 ≤ l.length
                rw [e2]
                omega
theorem readM_ok {l : List Int} {r : S6} (h : readM l = .ok r) : Ok6 l r := by
  have ok0 : Ok6 l ⟨0, [], -1⟩ := ⟨by simp, by simp, by simp, by simp, fun h => by simp, fun x h => by cases h⟩
  unfold readM at h
  cases hd : doubleM l ⟨0, [], -1⟩ with
  | error e =>
    rw [hd] at h
    cases h
  | ok x =>
    obtain ⟨y, st⟩ := x
    rw [hd] at h
    exact readF_ok _ _ _ _ (doubleM_ok ok0 hd).1 h
def v4V (a : List Nat) : Vec Int 16 := ⟨((a.map fun n : Nat => (n : Int)) ++ List.replicate 16 0).take 16, by simp⟩
def parseM (l : List Int) : Except Flt api_IP :=
  if l.length > 45 then .error (2, 45)
  else if firstM l 58 < l.length then match readM l with
    | .error f => .error f
    | .ok st => .ok ⟨6, st.bytes⟩
  else match fourM l 0 with
    | .error f => .error f
    | .ok a => .ok ⟨4, v4V a⟩
theorem two_byt {l : List Nat} (h : ∀ x ∈ l, x < 65536) : Byt (two l) := by
  intro x hx
  unfold two at hx
  rw [List.mem_flatten] at hx
  obtain ⟨p, hp, hx⟩ := hx
  rw [List.mem_map] at hp
  obtain ⟨n, hn, rfl⟩ := hp
  have := h n hn
  simp only [List.mem_cons, List.not_mem_nil, or_false] at hx
  constructor <;> rcases hx with rfl | rfl <;> omega
theorem words_lt {st : S6} {l : List Int} (ok : Ok6 l st) : ∀ i, ∀ x ∈ st.words i, x < 65536
  | 0, x, hx => by
    have := List.eq_of_mem_replicate hx
    omega
  | i + 1, x, hx => by
    rcases List.mem_or_eq_of_mem_set hx with h | rfl
    · exact words_lt ok i x h
    · rw [List.getD]
      cases hy : st.gs[i]? with
      | none => simp
      | some y => exact ok.v y (List.mem_of_getElem? hy)
theorem parseM_byt {l : List Int} {ip : api_IP} (h : parseM l = .ok ip) : Byt ip.A.l := by
  unfold parseM at h
  split at h
  · cases h
  · split at h
    · cases hr : readM l with
      | error f =>
        rw [hr] at h
        cases h
      | ok st =>
        rw [hr] at h
        cases h
        exact two_byt (words_lt (readM_ok hr) _)
    · cases hr : fourM l 0 with
      | error f =>
        rw [hr] at h
        cases h
      | ok a =>
        rw [hr] at h
        cases h
        obtain ⟨h4, h5⟩ := fourM_ok (Nat.zero_le _) hr
        intro x hx
        have hx := List.mem_of_mem_take hx
        rw [List.mem_append, List.mem_map] at hx
        rcases hx with ⟨n, hn, rfl⟩ | hx
        · have := h5 n hn
          constructor <;> omega
        · have := List.eq_of_mem_replicate hx
          omega
def ipM (l : List Int) : api_IP × Int × Int := match parseM l with
  | .error f => (z_api_IP, f.1, (f.2 : Int))
  | .ok ip => (ip, 0, 0)
def prefM (l : List Int) : Except Flt api_Prefix :=
  if l.length > 49 then .error (2, 49)
  else if firstM l 47 < l.length then match parseM (l.take (firstM l 47)) with
    | .error f => .error f
    | .ok ip => match numM l (firstM l 47 + 1) (sizeM ip) 45 with
      | .error f => .error f
      | .ok (n, e) => if e < l.length then .error (41, e) else if vpM ⟨ip, (n : Int)⟩ ≠ 0 then .error (46, 0) else .ok ⟨ip, (n : Int)⟩
  else .error (42, l.length)
def prefixM (l : List Int) : api_Prefix × Int × Int := match prefM l with
  | .error f => (z_api_Prefix, f.1, (f.2 : Int))
  | .ok p => (p, 0, 0)
section
variable {W w : World} {Hs : List HP}
def ParseA (W : World) (Hs : List HP) (x : Except Flt api_IP) (r : api_IP × Option Addr) (w : World) : Prop :=
  match x with
  | .ok ip => r = (ip, none) ∧ Ss W Hs w
  | .error f => ∃ b, r.2 = some (pt b 0) ∧ Ss W (pts true (pt b 0) (flt f) :: Hs) w
theorem parse_wp (s : Ss W Hs w) (t : ByteArray) : WP (addr_parse t) w (ParseA W Hs (parseM (strI t))) := by
  have hl := strI_len t
  unfold addr_parse parseM
  refine WP.slot' s (fun _ w s => WP.ite (fun h => WP.newv s (fun b w s => WP.ret ?_)) (fun h => ?_))
  · rw [if_pos (by omega)]
    exact ⟨b, rfl, s⟩
  rw [if_neg (by omega)]
  refine WP.step (Contains1_wp t (q := 58) (by omega) (by decide)) ?_
  rintro _ _ ⟨rfl, rfl⟩
  refine WP.ite (fun h => ?_) (fun h => ?_)
  · have h : ¬ firstM (strI t) 58 < (strI t).length := fun h' => h (decide_eq_true (by rw [← hl]; exact h'))
    rw [if_neg h]
    refine WP.step (four_wp s t (by omega) 0 (by omega)) ?_
    intro r w hr
    cases hm : fourM (strI t) 0 with
    | error f =>
      rw [hm] at hr
      obtain ⟨b, hb, s⟩ := hr
      exact WP.slot' s (fun _ w s => WP.ite (fun _ => WP.ret ⟨b, hb, s⟩) (fun h => absurd (by rw [hb]; simp) h))
    | ok a =>
      rw [hm] at hr
      obtain ⟨ha, hb, s⟩ := hr
      refine WP.slot' s (fun _ w s => WP.ite (fun h => absurd hb h) (fun _ => WP.ret ⟨?_, s⟩))
      obtain ⟨h4, -⟩ := fourM_ok (Nat.zero_le _) hm
      match a, h4 with
      | [a, b, c, d], _ =>
        have e : (⟨[r.1.g 0 0, r.1.g 1 0, r.1.g 2 0, r.1.g 3 0, 0, 0, 0, 0, 0, 0, 0, 0, 0, 0, 0, 0], rfl⟩ : Vec Int 16) = v4V [a, b, c, d] := by
          refine Vec.eq ?_
          unfold Vec.g
          rw [ha]
          rfl
        rw [e]
  · have h : firstM (strI t) 58 < (strI t).length := by
      rw [hl]
      exact of_decide_eq_true (by simpa using h)
    rw [if_pos h]
    refine WP.newv s (fun b w s => ?_)
    have s1 : Ss W (SixP b t ⟨0, [], -1⟩ :: Hs) w := Ss.closeX (g := Sl.nil) (sp := []) ((s.mk0 (A := vec (cI .i64) Sl.nil [] []) vec_nil).use [1, 0] (s := [_, _]) (r := Hs) rfl)
    refine WP.step (read_wp s1 (by omega)) ?_
    intro r w hr
    cases hm : readM (strI t) with
    | error f =>
      rw [hm] at hr
      obtain ⟨b, rfl, s⟩ := hr
      exact WP.ite (fun _ => WP.ret ⟨b, rfl, s⟩) (fun h => absurd (by simp) h)
    | ok st =>
      rw [hm] at hr
      obtain ⟨rfl, s⟩ := hr
      refine WP.ite (fun h => absurd rfl h) (fun _ => WP.step (bytes_wp s (readM_ok hm)) ?_)
      rintro _ w ⟨rfl, s⟩
      exact WP.ret ⟨rfl, s.drop⟩
theorem ParseIP_wp (s : Ss W Hs w) (t : ByteArray) : WP (addr_ParseIP t) w (fun r w' => r = ipM (strI t) ∧ Ss W Hs w') := by
  unfold addr_ParseIP ipM
  refine WP.slot' s (fun _ w s => WP.step (parse_wp s t) ?_)
  intro r w hr
  cases hm : parseM (strI t) with
  | error f =>
    rw [hm] at hr
    obtain ⟨b, hb, s⟩ := hr
    refine WP.slot' s (fun _ w s => ?_)
    rw [hb]
    exact WP.ite (fun _ => WP.draw' s (fun w s => WP.nilck (WP.ld s 0 rfl (o := 0) (by simp [Addr.add]) (At_addr_fault_why _) (WP.nilck (WP.ld s 0 rfl (o := 1) rfl (At_addr_fault_at_ _) (WP.same s 0 rfl (o := 1) rfl (At_addr_fault_at_ _) (WP.same s 0 rfl (o := 0) (by simp [Addr.add]) (At_addr_fault_why _) (WP.ret ⟨rfl, s.drop⟩)))))))) (fun h => absurd (by simp) h)
  | ok ip =>
    rw [hm] at hr
    obtain ⟨rfl, s⟩ := hr
    exact WP.slot' s (fun _ w s => WP.ite (fun h => absurd rfl h) (fun _ => WP.ret ⟨rfl, s⟩))
end
end Go.Proofs.YtddmmgcfanpmmaaGreatDoor.Lx
