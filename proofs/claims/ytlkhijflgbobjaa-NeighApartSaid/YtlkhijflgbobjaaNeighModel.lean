/- A cache of neighbours as a plain value: its entries in their order; what each call makes of it; what a cache always is. -/
import Derived.Test.YtlkhijflgbobjaaNeighLess
set_option linter.unusedVariables false
set_option linter.unusedSimpArgs false
namespace Go.Proofs.Ytlkhijflgbobjaa.Lx
open Go Go.Proofs Go.RowKit
structure NE where
  k : neigh_key
  mac : Vec Int 6
  st : Int
  age : Int
  tries : Int
  items : List Int
structure NM where
  c : api_NeighConfig
  l : List NE
abbrev zm : Vec Int 6 := ⟨[0, 0, 0, 0, 0, 0], rfl⟩
theorem zm_bts : Bts zm.l := by decide
def addrB (ip : api_IP) : Bool := decide (ip.V = 6) || (decide (ip.V = 4) && (ip.A.l.drop 4).all (· == 0))
def placeB (port : Int) (ip : api_IP) : Bool := decide (0 ≤ port) && decide (port ≤ 7) && addrB ip
def stationB (m : Vec Int 6) : Bool := decide (m ≠ zm) && decide (m.g 0 0 % 2 = 0)
def NE.told (e : NE) : api_Neighbour := ⟨e.k.port, e.k.ip, e.mac, e.st, e.age, e.tries, (e.items.length : Int)⟩
def NE.ask (e : NE) : api_Ask := ⟨e.k.port, e.k.ip, e.mac, e.tries⟩
namespace NM
def find (l : List NE) (k : neigh_key) : Option Nat := l.findIdx? (fun e => decide (e.k = k))
def insAt (l : List NE) (k : neigh_key) : Nat := (l.takeWhile (fun e => klt e.k k)).length
def ins (l : List NE) (e : NE) : List NE := l.take (insAt l e.k) ++ e :: l.drop (insAt l e.k)
def old (l : List NE) : Nat → Option Nat
  | 0 => none
  | n + 1 => match l[n]? with
    | none => old l n
    | some e => if e.st = 3 ∧ (∀ k ∈ old l n, ∀ x ∈ l[k]?, x.age < e.age) then some n else old l n
def room (m : NM) : Option NM := if (m.l.length : Int) < m.c.Max then some m else (old m.l m.l.length).map fun k => { m with l := m.l.eraseIdx k }
def put (m : NM) (i : Nat) (e : NE) : NM := { m with l := m.l.set i e }
def want (m : NM) (port : Int) (ip : api_IP) (item : Int) : NM × Vec Int 6 × Int × Int :=
  if placeB port ip = false then (m, zm, 5, 1) else
  match find m.l ⟨port, ip⟩ with
  | none => match m.room with
    | none => (m, zm, 5, 151)
    | some m' => ({ m' with l := ins m'.l ⟨⟨port, ip⟩, zm, 1, 0, 1, [item]⟩ }, zm, 3, 0)
  | some i => match m.l[i]? with
    | none => (m, zm, 0, 0)
    | some e =>
      if e.st = 3 then (m.put i { e with st := 4, age := 0, tries := 1 }, e.mac, 2, 0)
      else if e.st ≠ 1 then (m, e.mac, 1, 0)
      else if (e.items.length : Int) = m.c.Line then (m, zm, 5, 152)
      else (m.put i { e with items := e.items ++ [item] }, zm, 4, 0)
def learn (m : NM) (port : Int) (ip : api_IP) (mac : Vec Int 6) (how : Int) : NM × List Int × Int :=
  if placeB port ip = false ∨ stationB mac = false ∨ how < 1 ∨ how > 3 then (m, [], 1) else
  match find m.l ⟨port, ip⟩ with
  | none => if how ≠ 2 then (m, [], 0) else match m.room with
    | none => (m, [], 151)
    | some m' => ({ m' with l := ins m'.l ⟨⟨port, ip⟩, mac, 3, 0, 0, []⟩ }, [], 0)
  | some i => match m.l[i]? with
    | none => (m, [], 0)
    | some e => if how = 1 then (m.put i ⟨e.k, mac, 2, 0, 0, []⟩, e.items, 0)
      else if e.st = 1 ∨ e.mac ≠ mac then (m.put i ⟨e.k, mac, 3, 0, 0, []⟩, e.items, 0)
      else (m, [], 0)
def older (c : api_NeighConfig) (e : NE) : NE :=
  let e := if e.st ≠ 3 ∨ e.age < 1048576 then { e with age := e.age + 1 } else e
  if e.st = 2 ∧ e.age = c.Fresh then { e with st := 3, age := 0 } else e
def stepE (c : api_NeighConfig) (e : NE) : Option NE × List api_Ask × List Int :=
  let e := older c e
  if (e.st = 1 ∨ e.st = 4) ∧ e.age = c.Every then
    if e.tries < c.Tries then (some { e with age := 0, tries := e.tries + 1 }, [{ e with age := 0, tries := e.tries + 1 : NE }.ask], [])
    else (none, [], e.items)
  else (some e, [], [])
def tick (m : NM) : NM × List api_Ask × List Int :=
  ({ m with l := m.l.filterMap fun e => (stepE m.c e).1 }, m.l.flatMap fun e => (stepE m.c e).2.1, m.l.flatMap fun e => (stepE m.c e).2.2)
def get (m : NM) (port : Int) (ip : api_IP) : api_Neighbour × Bool := match (find m.l ⟨port, ip⟩).bind (m.l[·]?) with
  | some e => (e.told, true)
  | none => (z_api_Neighbour, false)
def all (m : NM) : List api_Neighbour := m.l.map NE.told
end NM
structure CfgOk (c : api_NeighConfig) : Prop where
  m0 : 1 ≤ c.Max
  m1 : c.Max ≤ 1024
  l0 : 1 ≤ c.Line
  l1 : c.Line ≤ 64
  e0 : 1 ≤ c.Every
  e1 : c.Every ≤ 1048576
  t0 : 1 ≤ c.Tries
  t1 : c.Tries ≤ 16
  f0 : 1 ≤ c.Fresh
  f1 : c.Fresh ≤ 1048576
structure EOk (c : api_NeighConfig) (e : NE) : Prop where
  k : KeyOk e.k
  mb : Bts e.mac.l
  s0 : 1 ≤ e.st
  s1 : e.st ≤ 4
  a0 : 0 ≤ e.age
  a1 : e.age ≤ 1048576
  ad : e.st = 1 ∨ e.st = 4 → e.age < c.Every
  af : e.st = 2 → e.age < c.Fresh
  t0 : 0 ≤ e.tries
  t1 : e.tries ≤ c.Tries
  i : (e.items.length : Int) ≤ c.Line
  ie : e.st = 1 ↔ e.items ≠ []
structure NM.Ok (m : NM) : Prop where
  c : CfgOk m.c
  n : (m.l.length : Int) ≤ m.c.Max
  s : m.l.Pairwise fun a b => klt a.k b.k = true
  e : ∀ e ∈ m.l, EOk m.c e
namespace NM
theorem find_some {l : List NE} {k : neigh_key} {i : Nat} (h : find l k = some i) : ∃ e, l[i]? = some e ∧ e.k = k := by
  obtain ⟨h1, h2, _⟩ := List.findIdx?_eq_some_iff_getElem.1 h
  exact ⟨l[i], List.getElem?_eq_getElem h1, of_decide_eq_true h2⟩
theorem find_none {l : List NE} {k : neigh_key} (h : find l k = none) : ∀ e ∈ l, e.k ≠ k := fun e he => by
  have := List.findIdx?_eq_none_iff.1 h e he
  exact of_decide_eq_false this
theorem find_at {l : List NE} (s : l.Pairwise fun a b => klt a.k b.k = true) {i : Nat} {e : NE} (h : l[i]? = some e) : find l e.k = some i := by
  cases hf : find l e.k with
  | none => exact absurd rfl (find_none hf e (List.mem_of_getElem? h))
  | some j =>
    obtain ⟨e', h1, h2⟩ := find_some hf
    rw [List.pairwise_iff_getElem] at s
    have hi := (List.getElem?_eq_some_iff.1 h)
    have hj := (List.getElem?_eq_some_iff.1 h1)
    rcases Nat.lt_trichotomy i j with hlt | rfl | hlt
    · have := s i j hi.1 hj.1 hlt
      rw [hi.2, hj.2, h2, klt_irrefl] at this
      cases this
    · rfl
    · have := s j i hj.1 hi.1 hlt
      rw [hi.2, hj.2, h2, klt_irrefl] at this
      cases this
theorem insAt_le (l : List NE) (k : neigh_key) : insAt l k ≤ l.length := by
  unfold insAt
  exact (List.takeWhile_sublist _).length_le
theorem takeWhile_take (l : List NE) (k : neigh_key) : l.take (insAt l k) = l.takeWhile (fun e => klt e.k k) ∧ l.drop (insAt l k) = l.dropWhile (fun e => klt e.k k) := by
  have h := List.takeWhile_append_dropWhile (p := fun e : NE => klt e.k k) (l := l)
  unfold insAt
  generalize hn : (l.takeWhile fun e => klt e.k k).length = n
  constructor
  · calc l.take n = (l.takeWhile (fun e => klt e.k k) ++ l.dropWhile (fun e => klt e.k k)).take n := by rw [h]
      _ = _ := List.take_left' hn
  · calc l.drop n = (l.takeWhile (fun e => klt e.k k) ++ l.dropWhile (fun e => klt e.k k)).drop n := by rw [h]
      _ = _ := List.drop_left' hn
theorem dropWhile_ge {l : List NE} {k : neigh_key} (s : l.Pairwise fun a b => klt a.k b.k = true) (hk : ∀ e ∈ l, e.k ≠ k) : ∀ e ∈ l.dropWhile (fun e => klt e.k k), klt k e.k = true := by
  induction l with
  | nil => simp
  | cons a l ih =>
    rw [List.pairwise_cons] at s
    intro e he
    rw [List.dropWhile_cons] at he
    split at he
    · exact ih s.2 (fun x hx => hk x (by simp [hx])) e he
    · rename_i hn
      have ha : klt k a.k = true := by
        cases h : klt k a.k with
        | true => rfl
        | false => exact absurd (klt_total _ _ (by simpa using hn) h) (hk a (by simp))
      rcases List.mem_cons.1 he with rfl | he
      · exact ha
      · exact klt_trans _ _ _ ha (s.1 e he)
theorem ins_sorted {l : List NE} {e : NE} (s : l.Pairwise fun a b => klt a.k b.k = true) (hk : ∀ x ∈ l, x.k ≠ e.k) : (ins l e).Pairwise fun a b => klt a.k b.k = true := by
  unfold ins
  obtain ⟨h1, h2⟩ := takeWhile_take l e.k
  have hge := dropWhile_ge s hk
  rw [← h2] at hge
  have hlt : ∀ x ∈ l.take (insAt l e.k), klt x.k e.k = true := by
    rw [h1]
    intro x hx
    exact List.all_eq_true.1 List.all_takeWhile x hx
  have s' := s
  rw [← List.take_append_drop (insAt l e.k) l, List.pairwise_append] at s'
  rw [List.pairwise_append, List.pairwise_cons]
  refine ⟨s'.1, ⟨fun x hx => hge x hx, s'.2.1⟩, fun x hx y hy => ?_⟩
  rcases List.mem_cons.1 hy with rfl | hy
  · exact hlt x hx
  · exact s'.2.2 x hx y hy
theorem ins_mem {l : List NE} {e x : NE} (h : x ∈ ins l e) : x ∈ l ∨ x = e := by
  unfold ins at h
  rcases List.mem_append.1 h with h | h
  · exact .inl (List.mem_of_mem_take h)
  · rcases List.mem_cons.1 h with h | h
    · exact .inr h
    · exact .inl (List.mem_of_mem_drop h)
theorem ins_length (l : List NE) (e : NE) : (ins l e).length = l.length + 1 := by
  have := insAt_le l e.k
  unfold ins
  rw [List.length_append, List.length_cons, List.length_take, List.length_drop]
  omega
theorem old_spec {l : List NE} : ∀ {n : Nat}, n ≤ l.length → ∀ {k : Nat}, old l n = some k → k < n ∧ ∃ e, l[k]? = some e ∧ e.st = 3
  | 0, _, k, h => by simp [old] at h
  | n + 1, hn, k, h => by
    unfold old at h
    rw [List.getElem?_eq_getElem (show n < l.length by omega)] at h
    simp only at h
    split at h
    · rename_i hc
      cases h
      exact ⟨by omega, _, List.getElem?_eq_getElem (by omega), hc.1⟩
    · obtain ⟨h1, h2⟩ := old_spec (by omega) h
      exact ⟨by omega, h2⟩
theorem Ok.put {m : NM} (ok : m.Ok) {i : Nat} {e e' : NE} (hi : m.l[i]? = some e) (hk : e'.k = e.k) (he : EOk m.c e') : (m.put i e').Ok := by
  refine ⟨ok.c, by show ((m.l.set i e').length : Int) ≤ _; rw [List.length_set]; exact ok.n, ?_, fun x hx => ?_⟩
  · have h1 : (m.l.map (·.k)).Pairwise fun a b => klt a b = true := by rw [List.pairwise_map]; exact ok.s
    have h2 : (m.l.set i e').map (·.k) = m.l.map (·.k) := by
      rw [List.map_set, hk]
      refine List.ext_getElem? fun j => ?_
      rw [List.getElem?_set]
      split
      · rename_i h
        subst h
        have hlt := (List.getElem?_eq_some_iff.1 hi).1
        simp [hlt, hi]
        rw [List.getElem?_eq_getElem hlt] at hi
        cases hi
        rfl
      · rfl
    show (m.l.set i e').Pairwise _
    rw [← h2, List.pairwise_map] at h1
    exact h1
  · rcases List.mem_or_eq_of_mem_set hx with hx | rfl
    · exact ok.e x hx
    · exact he
theorem Ok.erase {m : NM} (ok : m.Ok) (i : Nat) : ({ m with l := m.l.eraseIdx i } : NM).Ok :=
  ⟨ok.c, by
    have := (List.eraseIdx_sublist m.l i).length_le
    have := ok.n
    show ((m.l.eraseIdx i).length : Int) ≤ m.c.Max
    omega, ok.s.sublist (List.eraseIdx_sublist _ _), fun e he => ok.e e ((List.eraseIdx_sublist _ _).subset he)⟩
theorem room_spec {m m' : NM} (ok : m.Ok) (h : m.room = some m') : m'.Ok ∧ m'.c = m.c ∧ (m'.l.length : Int) < m.c.Max ∧ ∀ e ∈ m'.l, e ∈ m.l := by
  unfold room at h
  split at h
  · cases h
    exact ⟨ok, rfl, by assumption, fun e he => he⟩
  · obtain ⟨k, hk, rfl⟩ := Option.map_eq_some_iff.1 h
    obtain ⟨h1, _⟩ := old_spec (Nat.le_refl _) hk
    refine ⟨ok.erase k, rfl, ?_, fun e he => (List.eraseIdx_sublist _ _).subset he⟩
    show ((m.l.eraseIdx k).length : Int) < _
    have := ok.n
    rw [List.length_eraseIdx, if_pos h1]
    omega
theorem Ok.ins {m : NM} (ok : m.Ok) {e : NE} (hl : (m.l.length : Int) < m.c.Max) (hk : ∀ x ∈ m.l, x.k ≠ e.k) (he : EOk m.c e) : ({ m with l := ins m.l e } : NM).Ok :=
  ⟨ok.c, by show ((NM.ins m.l e).length : Int) ≤ m.c.Max; rw [ins_length]; omega, ins_sorted ok.s hk, fun x hx => by
    rcases ins_mem hx with hx | rfl
    · exact ok.e x hx
    · exact he⟩
theorem placeB_ok {port : Int} {ip : api_IP} (h : placeB port ip = true) (hb : Bts ip.A.l) : KeyOk ⟨port, ip⟩ := by
  unfold placeB addrB at h
  simp only [Bool.and_eq_true, Bool.or_eq_true, decide_eq_true_eq] at h
  exact ⟨h.1.1, h.1.2, h.2.symm.imp (fun h => h.1) (fun h => h), hb⟩
theorem want_ok {m : NM} (ok : m.Ok) {port : Int} {ip : api_IP} (hb : Bts ip.A.l) (item : Int) : (m.want port ip item).1.Ok := by
  have := ok.c.e0; have := ok.c.t0; have := ok.c.l0
  unfold want
  split
  · exact ok
  rename_i hp
  split
  · rename_i hf
    split
    · exact ok
    · rename_i m' hr
      obtain ⟨h1, h2, h3, h4⟩ := room_spec ok hr
      refine h1.ins (by rw [h2]; exact h3) (fun x hx => find_none hf x (h4 x hx)) ?_
      rw [h2]
      exact ⟨placeB_ok (by simpa using hp) hb, zm_bts, by simp, by simp, by simp, by simp, fun _ => by simp only; omega, by simp, by simp, by simp only; omega, by simp only [List.length_singleton]; omega, by simp⟩
  · rename_i i hf
    split
    · exact ok
    · rename_i e he
      have ek := ok.e e (List.mem_of_getElem? he)
      split
      · refine ok.put (e := e) he rfl ⟨ek.k, ek.mb, by simp, by simp, by simp, by simp, fun _ => by simp only; omega, by simp, by simp, by simp only; omega, ek.i, ?_⟩
        have := ek.ie
        simp only
        constructor
        · intro h; omega
        · intro h
          have := this.2 h
          omega
      · split
        · exact ok
        · rename_i h1
          simp only [ne_eq, Decidable.not_not] at h1
          split
          · exact ok
          · refine ok.put (e := e) he rfl ⟨ek.k, ek.mb, ek.s0, ek.s1, ek.a0, ek.a1, ek.ad, ek.af, ek.t0, ek.t1, ?_, ?_⟩
            · have := ek.i
              simp only [List.length_append, List.length_singleton]
              omega
            · simp [h1]
theorem learn_ok {m : NM} (ok : m.Ok) {port : Int} {ip : api_IP} (hb : Bts ip.A.l) {mac : Vec Int 6} (hm : Bts mac.l) (how : Int) : (m.learn port ip mac how).1.Ok := by
  have := ok.c.e0; have := ok.c.t0; have := ok.c.l0; have := ok.c.f0
  unfold learn
  split
  · exact ok
  rename_i hp
  have hp : placeB port ip = true := by
    cases h : placeB port ip with
    | true => rfl
    | false => exact absurd (.inl h) hp
  split
  · rename_i hf
    split
    · exact ok
    · split
      · exact ok
      · rename_i m' hr
        obtain ⟨h1, h2, h3, h4⟩ := room_spec ok hr
        refine h1.ins (by rw [h2]; exact h3) (fun x hx => find_none hf x (h4 x hx)) ?_
        rw [h2]
        exact ⟨placeB_ok hp hb, hm, by simp, by simp, by simp, by simp, by simp, by simp, by simp, by simp only; omega, by simp only [List.length_nil]; omega, by simp⟩
  · rename_i i hf
    split
    · exact ok
    · rename_i e he
      have ek := ok.e e (List.mem_of_getElem? he)
      split
      · exact ok.put (e := e) he rfl ⟨ek.k, hm, by simp, by simp, by simp, by simp, by simp, fun _ => by simp only; omega, by simp, by simp only; omega, by simp only [List.length_nil]; omega, by simp⟩
      · split
        · exact ok.put (e := e) he rfl ⟨ek.k, hm, by simp, by simp, by simp, by simp, by simp, by simp, by simp, by simp only; omega, by simp only [List.length_nil]; omega, by simp⟩
        · exact ok
theorem older_spec {c : api_NeighConfig} (ck : CfgOk c) {e : NE} (ek : EOk c e) : (older c e).k = e.k ∧ (older c e).mac = e.mac ∧ (older c e).tries = e.tries ∧ (older c e).items = e.items ∧ 1 ≤ (older c e).st ∧ (older c e).st ≤ 4 ∧ 0 ≤ (older c e).age ∧ (older c e).age ≤ 1048576 ∧ ((older c e).st = 1 ∨ (older c e).st = 4 → (older c e).age ≤ c.Every) ∧ ((older c e).st = 2 → (older c e).age < c.Fresh) ∧ ((older c e).st = 1 ↔ e.st = 1) := by
  have := ek.s0; have := ek.s1; have := ek.a0; have := ek.a1; have h1 := ek.ad; have h2 := ek.af
  have := ck.f1; have := ck.e1; have := ck.f0
  unfold older
  simp only
  by_cases h : e.st ≠ 3 ∨ e.age < 1048576
  · simp only [if_pos h]
    by_cases h' : e.st = 2 ∧ e.age + 1 = c.Fresh
    · simp only [if_pos h']
      refine ⟨trivial, trivial, trivial, trivial, by omega, by omega, by omega, by omega, ?_, ?_, ?_⟩ <;> omega
    · simp only [if_neg h']
      refine ⟨trivial, trivial, trivial, trivial, by omega, by omega, by omega, ?_, ?_, ?_, trivial⟩
      · omega
      · intro h3
        have := h1 h3
        omega
      · intro h3
        have := h2 h3
        omega
  · simp only [if_neg h]
    have h' : ¬ (e.st = 2 ∧ e.age = c.Fresh) := fun hh => by have := h2 hh.1; omega
    simp only [if_neg h']
    exact ⟨trivial, trivial, trivial, trivial, by omega, by omega, by omega, by omega, fun h => by have := h1 h; omega, h2, trivial⟩
theorem stepE_ok {c : api_NeighConfig} (ck : CfgOk c) {e e' : NE} (ek : EOk c e) (h : (stepE c e).1 = some e') : EOk c e' ∧ e'.k = e.k := by
  obtain ⟨o1, o2, o3, o4, o5, o6, o7, o8, o9, o10, o11⟩ := older_spec ck ek
  have := ck.e0; have := ck.f0
  have h1 := ek.ie
  unfold stepE at h
  simp only at h
  split at h
  · rename_i hd
    split at h
    · rename_i ht
      cases h
      refine ⟨⟨by simp only; rw [o1]; exact ek.k, by simp only; rw [o2]; exact ek.mb, o5, o6, by simp, by simp, fun _ => by simp only; omega, fun _ => by simp only; omega, ?_, ?_, by simp only; rw [o4]; exact ek.i, ?_⟩, o1⟩
      · simp only; rw [o3]; have := ek.t0; omega
      · simp only; omega
      · simp only; rw [o4, o11]; exact h1
    · cases h
  · rename_i hd
    cases h
    refine ⟨⟨by rw [o1]; exact ek.k, by rw [o2]; exact ek.mb, o5, o6, o7, o8, fun h => ?_, o10, by rw [o3]; exact ek.t0, by rw [o3]; exact ek.t1, by rw [o4]; exact ek.i, by rw [o4, o11]; exact h1⟩, o1⟩
    have := o9 h
    have : (older c e).age ≠ c.Every := fun h2 => hd ⟨h, h2⟩
    omega
theorem tick_ok {m : NM} (ok : m.Ok) : m.tick.1.Ok := by
  refine ⟨ok.c, ?_, ?_, fun x hx => ?_⟩
  · have := List.length_filterMap_le (fun e => (stepE m.c e).1) m.l
    have := ok.n
    show ((m.l.filterMap _).length : Int) ≤ m.c.Max
    omega
  · have hs : m.l.Pairwise fun a b => klt a.k b.k = true ∧ a ∈ m.l ∧ b ∈ m.l := by
      have := ok.s
      rw [List.pairwise_iff_getElem] at this ⊢
      exact fun i j hi hj hij => ⟨this i j hi hj hij, List.getElem_mem _, List.getElem_mem _⟩
    show (m.l.filterMap _).Pairwise _
    rw [List.pairwise_filterMap]
    refine hs.imp ?_
    rintro a b ⟨h1, h2, h3⟩ x hx y hy
    rw [(stepE_ok ok.c (ok.e a h2) hx).2, (stepE_ok ok.c (ok.e b h3) hy).2]
    exact h1
  · obtain ⟨e, he, h⟩ := List.mem_filterMap.1 hx
    exact (stepE_ok ok.c (ok.e e he) h).1
theorem new_ok {c : api_NeighConfig} (ck : CfgOk c) : ({ c := c, l := [] } : NM).Ok := ⟨ck, by have := ck.m0; simp; omega, by simp, by simp⟩
end NM
end Go.Proofs.Ytlkhijflgbobjaa.Lx
