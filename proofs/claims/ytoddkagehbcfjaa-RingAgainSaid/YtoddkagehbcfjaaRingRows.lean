/- Lists of lists of bytes, to be read, one by one; what a buffer's frame is. -/
import Derived.Test.YtoddkagehbcfjaaRingAlike
set_option linter.unusedVariables false
set_option linter.unusedSimpArgs false
namespace Go.Proofs.Ytoddkagehbcfjaa.Lx
open Go Go.Proofs Go.RowKit

theorem getD_set_self {α : Type} {l : List α} {i : Nat} {x z : α} (h : i < l.length) : (l.set i x).getD i z = x := by rw [List.getD, List.getElem?_set_self h]; rfl
theorem getD_set_ne' {α : Type} {l : List α} {i j : Nat} {x z : α} (h : j ≠ i) : (l.set i x).getD j z = l.getD j z := by rw [List.getD, List.getD, List.getElem?_set_ne (fun e => h e.symm)]
abbrev rdB : Sl → List Int → HP := rdS (cI .u8) false
theorem row_rdb {sls : List Sl} {cs : List (List Int)} {i : Nat} {sl : Sl} {c : List Int} (h : sls[i]? = some sl) (h' : cs[i]? = some c) : Rdb (seps (zipH rdB sls cs)) (cI .u8) sl c := by
  intro k hk
  obtain ⟨h1, a1, l1⟩ := seps_nth hk (zipH_nth (P := rdB) h h')
  obtain ⟨r1, r2, r3⟩ := (rdS_rdb (c := cI .u8) (q := false) (s := sl) (xs := c)) h1 a1
  refine ⟨r1, r2, fun j x a hx ha => ?_⟩
  obtain ⟨sp, hp⟩ := r3 j x a hx ha
  exact ⟨sp, fun y v hv => by
    obtain ⟨q, hq⟩ := hp y v hv
    exact ⟨q, l1 _ _ _ hq⟩⟩
/-- a buffer's frame -/
def con (m : RM) (i : Nat) : List Int := (m.dat.getD i []).take (m.len.getD i 0).toNat
theorem con_bytes {m : RM} (ok : m.Ok) {i : Nat} (hi : i < m.n) : Bytes (con m i) := by
  intro x hx
  have hd := getD_get (z := ([] : List Int)) (l := m.dat) (i := i) hi
  exact (ok.d _ (List.mem_of_getElem? hd)).2 x (List.mem_of_mem_take hx)
theorem con_set {m : RM} {i j : Nat} (d : List Int) (x : Int) (h : j ≠ i) : con ((m.setd i d).setl i x) j = con m j := by
  unfold con RM.setd RM.setl
  simp only
  rw [List.getD, List.getD, List.getElem?_set_ne (fun e => h e.symm), List.getElem?_set_ne (fun e => h e.symm)]
  rfl
theorem con_own {m : RM} {i : Nat} (d : List Int) (x : Int) (hi : i < m.n) (hl : m.len.length = m.n) : con ((m.setd i d).setl i x) i = d.take x.toNat := by
  unfold con RM.setd RM.setl
  simp only
  rw [List.getD, List.getD, List.getElem?_set_self hi, List.getElem?_set_self (by rw [hl]; exact hi)]
  rfl
theorem con_len {m : RM} (ok : m.Ok) {i : Nat} (hi : i < m.n) : (m.len.getD i 0).toNat ≤ m.size ∧ (m.dat.getD i []).length = m.size ∧ 0 ≤ m.len.getD i 0 ∧ m.len.getD i 0 ≤ m.size ∧ m.dat[i]? = some (m.dat.getD i []) := by
  have hd := getD_get (z := ([] : List Int)) (l := m.dat) (i := i) hi
  have hlen := getD_get (z := (0 : Int)) (l := m.len) (i := i) (by rw [ok.ll]; exact hi)
  have hlb := ok.l _ (List.mem_of_getElem? hlen)
  have hdd := ok.d _ (List.mem_of_getElem? hd)
  exact ⟨by omega, hdd.1, hlb.1, hlb.2, hd⟩
/-- what an arrival does: refused, or the frame comes last of the filled ones -/
theorem arrive_cases {m : RM} (ok : m.Ok) (xs : List Int) : ((m.arrive xs).2 ≠ 0 ∧ (m.arrive xs).1 = m) ∨ ((m.arrive xs).2 = 0 ∧ ∃ i t, m.L 2 = i :: t ∧ (m.arrive xs).1 = (((m.setd i (xs ++ (m.dat.getD i []).drop xs.length)).setl i xs.length).out 2).mv i 3 ∧ xs.length ≤ m.size) := by
  unfold RM.arrive
  split
  · exact .inl ⟨(by decide : (2 : Int) ≠ 0), rfl⟩
  · split
    · exact .inl ⟨(by decide : (30 : Int) ≠ 0), rfl⟩
    · split
      · exact .inl ⟨(by decide : (31 : Int) ≠ 0), rfl⟩
      · rename_i h1 h2 _ i t hL
        exact .inr ⟨rfl, i, t, hL, rfl, by omega⟩
theorem map_ext {α β : Type} {f g : α → β} {l : List α} (h : ∀ x ∈ l, f x = g x) : l.map f = l.map g := List.map_congr_left h
/-- the frames that came and are yet to be taken, those that go out and are yet to be drained -/
structure FF (m : RM) (cs os : List (List Int)) : Prop where
  c : cs = (m.L 3).map (con m)
  o : os = (m.L 5).map (con m)
theorem FF.arrive {m : RM} {cs os : List (List Int)} (F : FF m cs os) (ok : m.Ok) {xs : List Int} {i : Nat} {t : List Nat} (hL : m.L 2 = i :: t) (hx : xs.length ≤ m.size) : FF ((((m.setd i (xs ++ (m.dat.getD i []).drop xs.length)).setl i xs.length).out 2).mv i 3) (cs ++ [xs]) os := by
  have hi := ok.lt (k := 2) (.inr (.inl rfl)) (by rw [hL]; simp : i ∈ m.L 2)
  have n3 : i ∉ m.L 3 := ok.apart (k := 2) (k' := 3) (.inr (.inl rfl)) (.inr (.inr (.inl rfl))) (by decide) (by rw [hL]; simp)
  have n5 : i ∉ m.L 5 := ok.apart (k := 2) (k' := 5) (.inr (.inl rfl)) (.inr (.inr (.inr rfl))) (by decide) (by rw [hL]; simp)
  have e : ∀ j, con ((((m.setd i (xs ++ (m.dat.getD i []).drop xs.length)).setl i xs.length).out 2).mv i 3) j = con ((m.setd i (xs ++ (m.dat.getD i []).drop xs.length)).setl i xs.length) j := fun _ => rfl
  have e3 : ((((m.setd i (xs ++ (m.dat.getD i []).drop xs.length)).setl i xs.length).out 2).mv i 3).L 3 = m.L 3 ++ [i] := by simp [RM.mv, RM.out, RM.setd, RM.setl]
  have e5 : ((((m.setd i (xs ++ (m.dat.getD i []).drop xs.length)).setl i xs.length).out 2).mv i 3).L 5 = m.L 5 := by simp [RM.mv, RM.out, RM.setd, RM.setl]
  refine ⟨?_, ?_⟩
  · rw [e3, List.map_append, F.c]
    congr 1
    · exact map_ext (fun j hj => by rw [e, con_set _ _ (show j ≠ i from fun h => n3 (by rw [← h]; exact hj))])
    · show [xs] = [con _ i]
      rw [e, con_own _ _ hi ok.ll, Int.toNat_natCast, List.take_left]
  · rw [e5, F.o]
    exact map_ext (fun j hj => by rw [e, con_set _ _ (show j ≠ i from fun h => n5 (by rw [← h]; exact hj))])
end Go.Proofs.Ytoddkagehbcfjaa.Lx
