/- Plain law: a prefix that is written is read back. -/
import Derived.Test.YtddmmgcfanpmmaaDoorAddrBack13
set_option linter.unusedVariables false
set_option linter.unusedSimpArgs false
namespace Go.Proofs.YtddmmgcfanpmmaaDoor.Lx
open Go Go.Proofs Go.RowKit
theorem firstM_at2 {pre post : List Int} {q : Int} (h : ∀ c ∈ pre, c ≠ q) : firstM (pre ++ q :: post) q = pre.length := by
  have := run_at (p := fun c => decide (c ≠ q)) (pre := []) (mid := pre) (post := q :: post) (fun c hc => decide_eq_true (h c hc)) (by
    intro c r hh
    cases hh
    simp)
  unfold firstM
  simpa using this
theorem hex_47 {c : Int} (h : isHex c = true) : c ≠ 47 := by
  rintro rfl
  exact absurd h (by decide)
theorem wcols_47 {ms : List (List Int)} {ns : List Nat} (h : Grps ms ns) : ∀ c ∈ wcols ms, c ≠ 47 := by
  induction h with
  | nil => intro c hc; cases hc
  | @cons m n ms ns g h ih =>
    intro c hc
    rw [wcols_cons] at hc
    rcases List.mem_cons.1 hc with rfl | hc
    · decide
    · rcases List.mem_append.1 hc with hc | hc
      · exact hex_47 (g.x c hc)
      · exact ih c hc
theorem wtext_47 {ms : List (List Int)} {ns : List Nat} (h : Grps ms ns) : ∀ c ∈ wtext ms, c ≠ 47 := by
  cases h with
  | nil => intro c hc; cases hc
  | @cons m n ms ns g h =>
    intro c hc
    rcases List.mem_append.1 (show c ∈ m ++ wcols ms from hc) with hc | hc
    · exact hex_47 (g.x c hc)
    · exact wcols_47 h c hc
theorem dotM_47 {a : List Int} (hb : Byt a) : ∀ c ∈ dotM a, c ≠ 47 := by
  intro c hc
  cases a with
  | nil => cases hc
  | cons x r =>
    rw [dotM_eq] at hc
    rcases List.mem_append.1 hc with hc | hc
    · have h1 := (hb x (by simp)).2
      have := dec3_dig (n := x.toNat) (by omega) hc
      omega
    · rcases dots_mem (fun y hy => by
        obtain ⟨z, hz, rfl⟩ := List.mem_map.1 hy
        have := (hb z (by simp [hz])).2
        omega) hc with h | h <;> omega
theorem prIP_47 {ip : api_IP} (hb : Byt ip.A.l) : ∀ c ∈ prIP ip, c ≠ 47 := by
  have hlt := grps_lt hb
  unfold prIP
  split
  · exact dotM_47 (fun x hx => hb x (List.mem_of_mem_take hx))
  · split
    · intro c hc
      rcases List.mem_append.1 hc with hc | hc
      · simp only [List.mem_cons, List.not_mem_nil, or_false] at hc
        omega
      · exact dotM_47 (fun x hx => hb x (List.mem_of_mem_drop hx)) c hc
    · split
      · rw [colM_eq]
        exact wtext_47 (grps_of hlt)
      · intro c hc
        rw [colM_eq, colM_eq] at hc
        rcases List.mem_append.1 hc with hc | hc
        · rcases List.mem_append.1 hc with hc | hc
          · exact wtext_47 (grps_of (fun x hx => hlt x (List.mem_of_mem_take hx))) c hc
          · simp only [List.mem_cons, List.not_mem_nil, or_false] at hc
            omega
        · exact wtext_47 (grps_of (fun x hx => hlt x (List.mem_of_mem_drop hx))) c hc
theorem parseM_len {l : List Int} {ip : api_IP} (h : parseM l = .ok ip) : l.length ≤ 45 := by
  unfold parseM at h
  split at h
  · cases h
  · omega
theorem pref_back {p : api_Prefix} (hb : Byt p.IP.A.l) (h : vpM p = 0) : prefM (prIP p.IP ++ 47 :: dec3 p.Len.toNat) = .ok p := by
  obtain ⟨h1, h2, h3, h4⟩ := vpM_len h
  have h5 := sizeM_le p.IP
  have hb0 := ip_back hb (by omega)
  have hlen := parseM_len hb0
  have hd := dec3_le (n := p.Len.toNat) (by omega)
  have hf := firstM_at2 (post := dec3 p.Len.toNat) (prIP_47 hb)
  unfold prefM
  rw [if_neg (by simp only [List.length_append, List.length_cons]; omega), hf, if_pos (by simp), List.take_left, hb0]
  simp only
  have hn := numM_at (pre := prIP p.IP ++ [47]) (n := p.Len.toNat) (post := []) (most := sizeM p.IP) (wrong := 45) (by omega) (by omega) (by intro c r hh; cases hh)
  have e1 : prIP p.IP ++ [47] ++ (dec3 p.Len.toNat ++ []) = prIP p.IP ++ 47 :: dec3 p.Len.toNat := by simp
  have e2 : (prIP p.IP ++ [47]).length = (prIP p.IP).length + 1 := by simp
  rw [e1, e2] at hn
  rw [hn]
  simp only
  have e3 : (⟨p.IP, ((p.Len.toNat : Nat) : Int)⟩ : api_Prefix) = p := by
    rw [Int.toNat_of_nonneg h2]
  rw [if_neg (by simp; omega), e3, if_neg (fun hh => hh h)]
end Go.Proofs.YtddmmgcfanpmmaaDoor.Lx
