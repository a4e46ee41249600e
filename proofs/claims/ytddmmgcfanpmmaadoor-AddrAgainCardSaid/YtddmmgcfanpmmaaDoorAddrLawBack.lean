/- weirlaw4.AddrBack: what is written is read back. -/
import Derived.Test.YtddmmgcfanpmmaaDoorAddrStart
set_option linter.unusedVariables false
set_option linter.unusedSimpArgs false
namespace Go.Proofs.YtddmmgcfanpmmaaDoor.Lx
open Go Go.Proofs Go.RowKit
theorem isHex_byt {c : Int} (h : isHex c = true) : 0 ≤ c ∧ c ≤ 255 := by
  have h := of_decide_eq_true h
  unfold hexV at h
  split at h
  · omega
  · split at h
    · omega
    · split at h <;> omega
theorem wcols_byt {ms : List (List Int)} {ns : List Nat} (h : Grps ms ns) : Byt (wcols ms) := by
  induction h with
  | nil => intro c hc; cases hc
  | @cons m n ms ns g h ih =>
    intro c hc
    rw [wcols_cons] at hc
    rcases List.mem_cons.1 hc with rfl | hc
    · omega
    · rcases List.mem_append.1 hc with hc | hc
      · exact isHex_byt (g.x c hc)
      · exact ih c hc
theorem wtext_byt {ms : List (List Int)} {ns : List Nat} (h : Grps ms ns) : Byt (wtext ms) := by
  cases h with
  | nil => intro c hc; cases hc
  | @cons m n ms ns g h =>
    intro c hc
    rcases List.mem_append.1 (show c ∈ m ++ wcols ms from hc) with hc | hc
    · exact isHex_byt (g.x c hc)
    · exact wcols_byt h c hc
theorem dotM_byt2 {a : List Int} (hb : Byt a) : Byt (dotM a) := by
  intro c hc
  cases a with
  | nil => cases hc
  | cons x r =>
    rw [dotM_eq] at hc
    rcases List.mem_append.1 hc with hc | hc
    · have h1 := (hb x (by simp)).2
      have := dec3_dig (n := x.toNat) (by omega) hc
      omega
    · rcases dots_mem (fun y hy => by
        obtain ⟨z, hz, rfl⟩ := List.mem_map.1 hy
        have := (hb z (by simp [hz])).2
        omega) hc with h | h <;> omega
theorem prIP_byt2 {ip : api_IP} (hb : Byt ip.A.l) : Byt (prIP ip) := by
  have hlt := grps_lt hb
  unfold prIP
  split
  · exact dotM_byt2 (fun x hx => hb x (List.mem_of_mem_take hx))
  · split
    · intro c hc
      rcases List.mem_append.1 hc with hc | hc
      · simp only [List.mem_cons, List.not_mem_nil, or_false] at hc
        omega
      · exact dotM_byt2 (fun x hx => hb x (List.mem_of_mem_drop hx)) c hc
    · split
      · rw [colM_eq]
        exact wtext_byt (grps_of hlt)
      · intro c hc
        rw [colM_eq, colM_eq] at hc
        rcases List.mem_append.1 hc with hc | hc
        · rcases List.mem_append.1 hc with hc | hc
          · exact wtext_byt (grps_of (fun x hx => hlt x (List.mem_of_mem_take hx))) c hc
          · simp only [List.mem_cons, List.not_mem_nil, or_false] at hc
            omega
        · exact wtext_byt (grps_of (fun x hx => hlt x (List.mem_of_mem_drop hx))) c hc
theorem macL_byt2 {m : Vec Int 6} (hb : Byt m.l) : Byt (macL m.l) := by
  refine joinL_byt (by intro x hx; rw [List.mem_singleton] at hx; omega) fun x hx => ?_
  obtain ⟨c, hc, rfl⟩ := List.mem_map.1 hx
  have := hb c hc
  intro y hy
  simp only [byte2, List.mem_cons, List.not_mem_nil, or_false] at hy
  rcases hy with rfl | rfl
  · exact hexd_byt _ (by omega)
  · exact hexd_byt _ (by omega)
theorem ip_again {ip : api_IP} (hb : Byt ip.A.l) (h : sizeM ip > 0) : ipM (strI (bstr (prIP ip))) = (ip, 0, 0) := by
  unfold ipM
  rw [strI_bstr (prIP_byt2 hb), ip_back hb h]
theorem pref_again {p : api_Prefix} (hb : Byt p.IP.A.l) (h : vpM p = 0) : prefixM (strI (bstr (prIP p.IP ++ 47 :: dec3 p.Len.toNat))) = (p, 0, 0) := by
  obtain ⟨h1, h2, h3, h4⟩ := vpM_len h
  have h5 := sizeM_le p.IP
  unfold prefixM
  rw [strI_bstr (fun c hc => by
    rcases List.mem_append.1 hc with hc | hc
    · exact prIP_byt2 hb c hc
    · rcases List.mem_cons.1 hc with rfl | hc
      · omega
      · have := dec3_dig (n := p.Len.toNat) (by omega) hc
        omega), pref_back hb h]
theorem mac_again {m : Vec Int 6} (hb : Byt m.l) : macP (strI (bstr (macL m.l))) = (m, 0, 0) := by
  rw [strI_bstr (macL_byt2 hb), mac_back hb]
end Go.Proofs.YtddmmgcfanpmmaaDoor.Lx
