/- The document's port and the plain port: they stand for the same; every call of the document's does to the one what the plain call does to the other. -/
import Derived.Test.YtoddkagehbcfjaaRingRef
set_option linter.unusedVariables false
set_option linter.unusedSimpArgs false
namespace Go.Proofs.Ytoddkagehbcfjaa.Lx
open Go Go.Proofs Go.RowKit

def sinceOf (bufs : List weirref3_Buf) (i : Nat) : Int := (bufs.map (·.Since)).getD i 0
structure RefOk (r : weirref3_Port) (m : RM) (bufs : List weirref3_Buf) (ds : List (List Int)) (T : Nat) : Prop where
  rx : r.Rx = m.rx
  tx : r.Tx = m.tx
  sz : r.Size = m.size
  nb : bufs.length = m.n
  nd : ds.length = m.n
  place : bufs.map (·.Place) = m.place
  len : bufs.map (·.N) = m.len
  dl : ∀ d ∈ ds, d.length ≤ m.size
  dat : ∀ (i : Nat) (d : List Int), ds[i]? = some d → m.dat[i]? = some (pad m.size d)
  line : ∀ k, isL k → (m.L k).Pairwise (fun i j => sinceOf bufs i < sinceOf bufs j)
  now : ∀ b ∈ bufs, b.Since < r.Now
  n0 : 0 ≤ r.Now
  nT : r.Now ≤ T
/-- the document's port in memory: to be read, never written -/
def RefP (r : weirref3_Port) (m : RM) (T : Nat) : HP := fun h => ∃ bufs ds, RefOk r m bufs ds T ∧ seps [rdS cRB false r.L bufs, seps (zipH bd bufs ds)] h
theorem zip_same : ∀ {bufs : List weirref3_Buf} {ds : List (List Int)} {i : Nat} {b b' : weirref3_Buf}, bufs[i]? = some b → b'.Data = b.Data → zipH bd (bufs.set i b') ds = zipH bd bufs ds
  | [], _, i, b, b', h, _ => by simp at h
  | x :: xs, [], i, b, b', h, hd => by cases i <;> rfl
  | x :: xs, d :: ds, 0, b, b', h, hd => by
    simp at h
    subst h
    show bd b' d :: _ = bd x d :: _
    unfold bd
    rw [hd]
  | x :: xs, d :: ds, i + 1, b, b', h, hd => by
    show bd x d :: zipH bd (xs.set i b') ds = bd x d :: zipH bd xs ds
    rw [zip_same (by simpa using h) hd]
section
variable {W w : World} {R : List HP} {r : weirref3_Port} {m : RM} {T : Nat} {bufs : List weirref3_Buf} {ds : List (List Int)}
theorem Ss.openF (s : Ss W (RefP r m T :: R) w) : ∃ bufs ds, RefOk r m bufs ds T ∧ Ss W (rdS cRB false r.L bufs :: seps (zipH bd bufs ds) :: R) w := by
  obtain ⟨hb, k, ⟨h1, h2, e, l1, l2, ⟨bufs, ds, a1, a2⟩, b⟩, hw⟩ := s
  exact ⟨bufs, ds, a1, Ss.split ⟨hb, k, ⟨h1, h2, e, l1, l2, a2, b⟩, hw⟩⟩
theorem Ss.closeF (s : Ss W (rdS cRB false r.L bufs :: seps (zipH bd bufs ds) :: R) w) (ro : RefOk r m bufs ds T) : Ss W (RefP r m T :: R) w := (Ss.group (l := [_, _]) s).first (fun h hh => ⟨bufs, ds, ro, hh⟩)
theorem RefOk.more (ro : RefOk r m bufs ds T) {T' : Nat} (h : T ≤ T') : RefOk r m bufs ds T' := ⟨ro.rx, ro.tx, ro.sz, ro.nb, ro.nd, ro.place, ro.len, ro.dl, ro.dat, ro.line, ro.now, ro.n0, by have := ro.nT; omega⟩
theorem Ss.moreF (s : Ss W (RefP r m T :: R) w) {T' : Nat} (h : T ≤ T') : Ss W (RefP r m T' :: R) w := by
  obtain ⟨bufs, ds, ro, s⟩ := s.openF
  exact s.closeF (ro.more h)
theorem RefOk.get (ro : RefOk r m bufs ds T) {i : Nat} (h : i < m.n) : ∃ b d, bufs[i]? = some b ∧ ds[i]? = some d ∧ m.place[i]? = some b.Place ∧ m.len[i]? = some b.N ∧ m.dat[i]? = some (pad m.size d) ∧ d.length ≤ m.size ∧ sinceOf bufs i = b.Since ∧ b.Since < r.Now := by
  have hb := List.getElem?_eq_getElem (show i < bufs.length by rw [ro.nb]; exact h)
  have hd := List.getElem?_eq_getElem (show i < ds.length by rw [ro.nd]; exact h)
  refine ⟨_, _, hb, hd, ?_, ?_, ro.dat _ _ hd, ro.dl _ (List.mem_of_getElem? hd), ?_, ro.now _ (List.mem_of_getElem? hb)⟩
  · rw [← ro.place, List.getElem?_map, hb]
    rfl
  · rw [← ro.len, List.getElem?_map, hb]
    rfl
  · unfold sinceOf
    rw [List.getD, List.getElem?_map, hb]
    rfl
theorem RefOk.nlt (ro : RefOk r m bufs ds T) (ok : m.Ok) : bufs.length ≤ 8192 := by rw [ro.nb]; exact ok.n1
theorem getElem?_set_cases {α : Type} {l : List α} {i j : Nat} {x y : α} (h : (l.set i x)[j]? = some y) : (j = i ∧ y = x) ∨ (j ≠ i ∧ l[j]? = some y) := by
  by_cases e : j = i
  · subst e
    have := (List.getElem?_eq_some_iff.1 h).1
    rw [List.length_set] at this
    rw [List.getElem?_set_self this] at h
    cases h
    exact .inl ⟨rfl, rfl⟩
  · rw [List.getElem?_set_ne (fun h => e h.symm)] at h
    exact .inr ⟨e, h⟩
theorem since_set {i j : Nat} {b : weirref3_Buf} (hi : i < bufs.length) : sinceOf (bufs.set i b) j = if j = i then b.Since else sinceOf bufs j := by
  unfold sinceOf
  by_cases e : j = i
  · subst e
    rw [if_pos rfl, List.map_set, getD_set_self (by rw [List.length_map]; exact hi)]
  · rw [if_neg e, List.map_set, getD_set_ne' e]
/-- the first one at a place is its line's first -/
theorem RefOk.first (ro : RefOk r m bufs ds T) (ok : m.Ok) {k : Nat} (hk : isL k) {x : Int} (h : FirstN bufs (k : Int) bufs.length x) : (m.L k = [] ∧ x = -1) ∨ ∃ i t, m.L k = i :: t ∧ x = (i : Int) ∧ i < m.n := by
  have hin : ∀ i b, bufs[i]? = some b → b.Place = (k : Int) → i ∈ m.L k := by
    intro i b hb hp
    have : m.place[i]? = some (k : Int) := by
      rw [← ro.place, List.getElem?_map, hb, ← hp]
      rfl
    obtain ⟨k2, e, _, _, h4⟩ := ok.p i _ this
    have : k2 = k := by omega
    subst this
    exact h4 (isL_ne4 hk)
  rcases h with ⟨rfl, h⟩ | ⟨i, b, rfl, h1, h2, h3, h4⟩
  · left
    refine ⟨?_, rfl⟩
    cases hL : m.L k with
    | nil => rfl
    | cons y t =>
      have hy := ok.lt hk (by rw [hL]; simp : y ∈ m.L k)
      obtain ⟨b, d, hb, _, hp, _⟩ := ro.get hy
      have := ok.f k y hk (by rw [hL]; simp)
      rw [hp] at this
      exact absurd (Option.some.inj this) (h y b (by rw [ro.nb]; exact hy) hb)
  · right
    have hi := hin i b h2 h3
    cases hL : m.L k with
    | nil => rw [hL] at hi; simp at hi
    | cons y t =>
      refine ⟨y, t, rfl, ?_, ok.lt hk (by rw [hL]; simp)⟩
      by_cases e : i = y
      · rw [e]
      · exfalso
        rw [hL] at hi
        have hit := (List.mem_cons.1 hi).resolve_left e
        have hpw := ro.line k hk
        rw [hL, List.pairwise_cons] at hpw
        have hlt := hpw.1 i hit
        have hy := ok.lt hk (by rw [hL]; simp : y ∈ m.L k)
        obtain ⟨b2, d2, hb2, _, hp2, _, _, _, hs2, _⟩ := ro.get hy
        have hpy := ok.f k y hk (by rw [hL]; simp)
        rw [hp2] at hpy
        have := h4 y b2 (by rw [ro.nb]; exact hy) hb2 (Option.some.inj hpy)
        have hs : sinceOf bufs i = b.Since := by
          unfold sinceOf
          rw [List.getD, List.getElem?_map, h2]
          rfl
        omega
/-- one moves: it comes last -/
theorem RefOk.mv (ro : RefOk r m bufs ds T) (ok : m.Ok) (hT : T ≤ 1000000000000000000) {m' : RM} {i : Nat} {b : weirref3_Buf} {k : Int} {l : Sl} (hb : bufs[i]? = some b) (hl : ∀ j, isL j → ∃ l, l.Sublist (m.L j) ∧ i ∉ l ∧ (m'.L j = l ∨ m'.L j = l ++ [i])) (hp : m'.place = m.place.set i k) (h1 : m'.size = m.size) (h2 : m'.rx = m.rx) (h3 : m'.tx = m.tx) (h4 : m'.dat = m.dat) (h5 : m'.len = m.len) :
    RefOk ⟨r.Rx, r.Tx, r.Size, l, IntKind.wrap .i64 (r.Now + 1)⟩ m' (bufs.set i ⟨k, r.Now, b.N, b.Data⟩) ds (T + 1) := by
  have hn : m'.n = m.n := by unfold RM.n; rw [h4]
  have hi := (List.getElem?_eq_some_iff.1 hb).1
  have hN := ro.n0
  have hNT := ro.nT
  refine ⟨by rw [h2]; exact ro.rx, by rw [h3]; exact ro.tx, by rw [h1]; exact ro.sz, by rw [List.length_set, hn]; exact ro.nb, by rw [hn]; exact ro.nd, ?_, ?_, by rw [h1]; exact ro.dl, by rw [h1, h4]; exact ro.dat, fun j hj => ?_, fun x hx => ?_, ?_, ?_⟩
  · rw [List.map_set, ro.place, hp]
  · rw [List.map_set, ro.len, h5]
    refine set_eq ?_
    rw [← ro.len, List.getElem?_map, hb]
    rfl
  · obtain ⟨l, hs, hil, hd⟩ := hl j hj
    have hpw := (ro.line j hj).sublist hs
    have hlt : ∀ x ∈ l, sinceOf bufs x < r.Now := by
      intro x hx
      obtain ⟨b, d, _, _, _, _, _, _, h1, h2⟩ := ro.get (ok.lt hj (hs.subset hx))
      rw [h1]
      exact h2
    have hpw2 : l.Pairwise (fun x y => sinceOf (bufs.set i ⟨k, r.Now, b.N, b.Data⟩) x < sinceOf (bufs.set i ⟨k, r.Now, b.N, b.Data⟩) y) := by
      refine hpw.imp_of_mem (fun {x y} hx hy hxy => ?_)
      rw [since_set hi, since_set hi, if_neg (fun (e : x = i) => hil (e ▸ hx)), if_neg (fun (e : y = i) => hil (e ▸ hy))]
      exact hxy
    rcases hd with e | e
    · rw [e]
      exact hpw2
    · rw [e, List.pairwise_append]
      refine ⟨hpw2, by simp, fun x hx y hy => ?_⟩
      simp only [List.mem_singleton] at hy
      subst hy
      rw [since_set hi, since_set hi, if_pos rfl, if_neg (fun (e : x = y) => hil (e ▸ hx))]
      exact hlt x hx
  · show x.Since < IntKind.wrap .i64 (r.Now + 1)
    rw [wrap_i64 (by omega) (by omega)]
    rcases List.mem_or_eq_of_mem_set hx with hx | rfl
    · have := ro.now x hx
      omega
    · show r.Now < r.Now + 1
      omega
  · show 0 ≤ IntKind.wrap .i64 (r.Now + 1)
    rw [wrap_i64 (by omega) (by omega)]
    omega
  · show IntKind.wrap .i64 (r.Now + 1) ≤ _
    rw [wrap_i64 (by omega) (by omega)]
    omega
theorem lines_out (ok : m.Ok) {j i : Nat} {t : List Nat} (hj : isL j) (hL : m.L j = i :: t) (k : Nat) : ∀ q, isL q → ∃ l, l.Sublist (m.L q) ∧ i ∉ l ∧ (((m.out j).mv i k).L q = l ∨ ((m.out j).mv i k).L q = l ++ [i]) := by
  intro q hq
  refine ⟨(m.out j).L q, ?_, ?_, ?_⟩
  · show (if q = j then (m.L j).tail else m.L q).Sublist _
    split
    · rename_i e
      rw [e]
      exact List.tail_sublist _
    · exact List.Sublist.refl _
  · show i ∉ (if q = j then (m.L j).tail else m.L q)
    split
    · have := ok.nd j hj
      rw [hL, List.nodup_cons] at this
      rw [hL]
      exact this.1
    · rename_i e
      exact ok.apart hj hq (fun h => e h.symm) (by rw [hL]; simp)
  · show (if q = k ∧ k ≠ 4 then (m.out j).L q ++ [i] else (m.out j).L q) = _ ∨ _
    split
    · rename_i e
      exact .inr (if_pos e)
    · exact .inl rfl
theorem lines_held (ok : m.Ok) {i : Nat} (hp : m.place[i]? = some 4) (k : Nat) : ∀ q, isL q → ∃ l, l.Sublist (m.L q) ∧ i ∉ l ∧ ((m.mv i k).L q = l ∨ (m.mv i k).L q = l ++ [i]) := by
  intro q hq
  refine ⟨m.L q, List.Sublist.refl _, fun h => ?_, ?_⟩
  · have := ok.f q i hq h
    rw [hp] at this
    have := Option.some.inj this
    exact isL_ne4 hq (by omega)
  · show (if q = k ∧ k ≠ 4 then m.L q ++ [i] else m.L q) = _ ∨ _
    split
    · rename_i e
      exact .inr (if_pos e)
    · exact .inl rfl
/-- a buffer's bytes and length anew -/
theorem RefOk.put (ro : RefOk r m bufs ds T) {i : Nat} {b : weirref3_Buf} {l D : Sl} {d' e : List Int} {x : Int} (hb : bufs[i]? = some b) (hd : d'.length ≤ m.size) (he : e = pad m.size d') : RefOk ⟨r.Rx, r.Tx, r.Size, l, r.Now⟩ ((m.setd i e).setl i x) (bufs.set i ⟨b.Place, b.Since, x, D⟩) (ds.set i d') T := by
  have hn : ((m.setd i e).setl i x).n = m.n := setd_n m i e
  have hi := (List.getElem?_eq_some_iff.1 hb).1
  refine ⟨ro.rx, ro.tx, ro.sz, by rw [List.length_set, hn]; exact ro.nb, by rw [List.length_set, hn]; exact ro.nd, ?_, ?_, fun y hy => ?_, fun j d hj => ?_, fun j hj => ?_, fun y hy => ?_, ro.n0, ro.nT⟩
  · rw [List.map_set]
    show _ = m.place
    rw [← ro.place]
    refine set_eq ?_
    rw [List.getElem?_map, hb]
    rfl
  · rw [List.map_set]
    show _ = m.len.set i x
    rw [← ro.len]
  · rcases List.mem_or_eq_of_mem_set hy with hy | rfl
    · exact ro.dl y hy
    · exact hd
  · show (m.dat.set i e)[j]? = some (pad m.size d)
    rcases getElem?_set_cases hj with ⟨rfl, rfl⟩ | ⟨h1, h2⟩
    · rw [List.getElem?_set_self (by have := ro.nb; unfold RM.n at this; omega), he]
    · rw [List.getElem?_set_ne (fun h => h1 h.symm)]
      exact ro.dat j d h2
  · have h : ∀ z, sinceOf (bufs.set i ⟨b.Place, b.Since, x, D⟩) z = sinceOf bufs z := fun z => by
      rw [since_set hi]
      split
      · rename_i e
        subst e
        unfold sinceOf
        rw [List.getD, List.getElem?_map, hb]
        rfl
      · rfl
    refine (ro.line j hj).imp (fun {y z} hyz => ?_)
    rw [h, h]
    exact hyz
  · rcases List.mem_or_eq_of_mem_set hy with hy | rfl
    · exact ro.now y hy
    · exact ro.now b (List.mem_of_getElem? hb)
end
end Go.Proofs.Ytoddkagehbcfjaa.Lx
