
import Derived.Test.YtpmhinidiplhiaaGreatDoorAddrPrint3
set_option linter.unusedVariables false
set_option linter.unusedSimpArgs false
namespace Go.Proofs.YtpmhinidiplhiaaGreatDoor.Lx
open Go Go.Proofs Go.RowKit
structure ZcT where
 Not : Bool
 nets : List Zap
 ports : List ZaZ
 deriving DecidableEq
structure Za9 where
 Act : Int
 Class : Int
 Kind : Int
 Proto : Int
 In : Int
 Vid : Int
 From : ZcT
 To : ZcT
 Set : Int
 Clear : Int
 Type_ : Int
 Pieces : Bool
 deriving DecidableEq
def zSd : ZcT := ⟨false, [], []⟩
def zRl : Za9 := ⟨0, 0, 0, 0, 0, 0, zSd, zSd, 0, 0, 0, false⟩
def tx (s : String) : List Int := s.toList.map fun c => ((c.toNat : Nat) : Int)
def ZdW (n : Int) : Bool := decide (n = 6 ∨ n = 17)
def Zfm (n : Int) : Bool := decide (n = 1 ∨ n = 58)
def verM (kind : Int) : Int := if kind = 1 ∨ kind = 2 then 4 else if kind = 3 then 6 else 0
def Zgq (p : Zap) (kind : Int) : Bool := decide (vpM p = 0 ∧ (verM kind = 0 ∨ p.IP.V = verM kind))
def Zef (r : ZaZ) : Bool := decide (0 ≤ r.Lo ∧ r.Hi ≤ 65535 ∧ r.Lo ≤ r.Hi)
def Zd6 (s : ZcT) (kind proto : Int) : Int :=
 if s.nets.length > 16 ∨ (s.Not = true ∧ s.nets = []) then 163
 else if ¬ (∀ p ∈ s.nets, Zgq p kind = true) then 163
 else if s.ports.length > 16 then 164
 else if ¬ (∀ r ∈ s.ports, Zef r = true) then 164
 else if s.ports ≠ [] ∧ ZdW proto = false then 165 else 0
def hasB (n : Int) (k : Nat) : Bool := decide (n / 2 ^ k % 2 = 1)
def Zgu (a b : Int) : Bool := (List.range 8).any fun k => hasB a k && hasB b k
def inR (n lo hi : Int) : Bool := decide (lo ≤ n ∧ n ≤ hi)
def Zjf (m : Za9) : Bool := inR m.Act 1 3 && inR m.Class 0 7 && inR m.Kind 0 3 && inR m.Proto 0 255 && inR m.In 0 8 && inR m.Vid 0 4094 && inR m.Set 0 255 && inR m.Clear 0 255 && inR m.Type_ 0 256 && !Zgu m.Set m.Clear
def Zi4 (m : Za9) : Bool := decide ((m.Class ≠ 0 ∧ m.Act ≠ 1) ∨ (m.Proto ≠ 0 ∧ m.Kind = 1) ∨ ((m.Set ≠ 0 ∨ m.Clear ≠ 0) ∧ m.Proto ≠ 6) ∨ (m.Type_ ≠ 0 ∧ Zfm m.Proto = false))
def ckM (m : Za9) : Int := if Zjf m = false then 166 else if Zi4 m = true then 165 else if Zd6 m.From m.Kind m.Proto ≠ 0 then Zd6 m.From m.Kind m.Proto else Zd6 m.To m.Kind m.Proto
abbrev Wd := List Int × Int
def Zin (c : Int) : Bool := decide (32 < c ∧ c < 127 ∧ c ≠ 44)
def lexM (cur : List Int) (p : Int) : List Int → Except Int (List Wd)
 | [] => .ok (if cur = [] then [] else [(cur, p - cur.length)])
 | c :: cs => if Zin c = true then lexM (cur ++ [c]) (p + 1) cs
  else match (if c = 44 then (match lexM [] (p + 1) cs with
    | .error q => .error q
    | .ok r => .ok (([44], p) :: r))
   else if c = 32 ∨ c = 9 then lexM [] (p + 1) cs else .error p) with
   | .error q => .error q
   | .ok r => .ok (if cur = [] then r else (cur, p - cur.length) :: r)
abbrev PF := Int × Int
abbrev PE (α : Type) := Except PF α
def comma : List Int := [44]
def numR (t : List Int) (lo hi : Int) : Option Int :=
 if t = [] ∨ t.length > 9 ∨ (t.getD 0 0 = 48 ∧ t.length > 1) ∨ t.all Zew = false then none
 else if lo ≤ (valD t : Int) ∧ (valD t : Int) ≤ hi then some (valD t) else none
def numP (e lo hi : Int) : List Wd → PE (Int × List Wd)
 | [] => .error (161, e)
 | w :: ws => if w.1 = comma then .error (160, w.2) else match numR w.1 lo hi with
  | none => .error (162, w.2)
  | some n => .ok (n, ws)
def netR (t : List Int) : Option Zap := match Zmu t with
 | .ok p => some p
 | .error _ => match Zfp t with
  | .ok ip => some ⟨ip, if ip.V = 6 then 128 else 32⟩
  | .error _ => none
def Zh2 (e kind : Int) : List Zap → List Wd → PE (List Zap × List Wd)
 | acc, [] => .error (161, e)
 | acc, w :: ws => if w.1 = comma then .error (160, w.2) else match netR w.1 with
  | none => .error (163, w.2)
  | some p => if acc.length = 16 ∨ Zgq p kind = false then .error (163, w.2) else match ws with
   | [] => .ok (acc ++ [p], [])
   | c :: ws => if c.1 = comma then Zh2 e kind (acc ++ [p]) ws else .ok (acc ++ [p], c :: ws)
def ZkS (t : List Int) : Option ZaZ := match numR (t.take (ZbE t 45)) 0 65535, numR (if ZbE t 45 < t.length then t.drop (ZbE t 45 + 1) else t.take (ZbE t 45)) 0 65535 with
 | some a, some b => if a ≤ b then some ⟨a, b⟩ else none
 | _, _ => none
def ZfP (e : Int) : List ZaZ → List Wd → PE (List ZaZ × List Wd)
 | acc, [] => .error (161, e)
 | acc, w :: ws => if w.1 = comma then .error (160, w.2) else match ZkS w.1 with
  | none => .error (164, w.2)
  | some p => if acc.length = 16 then .error (164, w.2) else match ws with
   | [] => .ok (acc ++ [p], [])
   | c :: ws => if c.1 = comma then ZfP e (acc ++ [p]) ws else .ok (acc ++ [p], c :: ws)
def Zd7 (t : List Int) : List Wd → Option (List Wd)
 | [] => none
 | w :: ws => if w.1 = t then some ws else none
def Zr5 (e kind : Int) (ws : List Wd) : PE ((Bool × List Zap) × List Wd) := match Zd7 (tx "any") ws with
 | some r => .ok ((false, []), r)
 | none => match Zh2 e kind [] ((Zd7 (tx "not") ws).getD ws) with
  | .error f => .error f
  | .ok (l, r) => .ok (((Zd7 (tx "not") ws).isSome, l), r)
def ZeF (e proto : Int) : List Wd → PE (List ZaZ × List Wd)
 | [] => .ok ([], [])
 | w :: ws => if w.1 = tx "port" then (if ZdW proto = true then ZfP e [] ws else .error (165, w.2)) else .ok ([], w :: ws)
def Zmf (e kind proto : Int) (ws : List Wd) : PE (ZcT × List Wd) := match Zr5 e kind ws with
 | .error f => .error f
 | .ok (a, r) => match ZeF e proto r with
  | .error f => .error f
  | .ok (ps, r) => .ok (⟨a.1, a.2, ps⟩, r)
def ZeG : List (List Int) := [tx "fin", tx "syn", tx "rst", tx "psh", tx "ack", tx "urg", tx "ece", tx "cwr"]
def actN : List (List Int) := [tx "permit", tx "deny", tx "reject"]
def ZeS : List (List Int) := [tx "arp", tx "ip4", tx "ip6"]
def idxT (l : List (List Int)) (t : List Int) : Option Nat := l.findIdx? fun x => decide (x = t)
def ZgN (t : List Int) : Bool × Option Nat := if t.head? = some 33 then (true, idxT ZeG t.tail) else (false, idxT ZeG t)
def Zfs (e : Int) : Int → Int → List Wd → PE ((Int × Int) × List Wd)
 | s, c, [] => .error (161, e)
 | s, c, w :: ws => if w.1 = comma then .error (160, w.2) else match (ZgN w.1).2 with
  | none => .error (160, w.2)
  | some k => if (hasB s k || hasB c k) = true then .error (165, w.2) else match ws with
   | [] => .ok ((if (ZgN w.1).1 = true then (s, c + 2 ^ k) else (s + 2 ^ k, c)), [])
   | d :: ws => if d.1 = comma then (if (ZgN w.1).1 = true then Zfs e s (c + 2 ^ k) ws else Zfs e (s + 2 ^ k) c ws)
    else .ok ((if (ZgN w.1).1 = true then (s, c + 2 ^ k) else (s + 2 ^ k, c)), d :: ws)
def Znz (e : Int) : List Wd → PE (Int × List Wd)
 | [] => .error (161, e)
 | w :: ws => if w.1 = comma then .error (160, w.2) else match (if w.1.head? = some 112 then numR w.1.tail 0 7 else none) with
  | none => .error (162, w.2)
  | some n => .ok (n, ws)
def Zf6 (e : Int) (t : List Int) (m : Za9) (ws : List Wd) : Option (PE (Za9 × List Wd)) :=
 if t = tx "on" then some (match Znz e ws with
  | .error f => .error f
  | .ok (n, r) => .ok ({ m with In := n + 1 }, r))
 else if t = tx "vid" then some (match numP e 1 4094 ws with
  | .error f => .error f
  | .ok (n, r) => .ok ({ m with Vid := n }, r))
 else if t = tx "from" then some (match Zmf e m.Kind m.Proto ws with
  | .error f => .error f
  | .ok (n, r) => .ok ({ m with From := n }, r))
 else if t = tx "to" then some (match Zmf e m.Kind m.Proto ws with
  | .error f => .error f
  | .ok (n, r) => .ok ({ m with To := n }, r))
 else if t = tx "flags" then some (match Zfs e m.Set m.Clear ws with
  | .error f => .error f
  | .ok (n, r) => .ok ({ m with Set := n.1, Clear := n.2 }, r))
 else if t = tx "type" then some (match numP e 0 255 ws with
  | .error f => .error f
  | .ok (n, r) => .ok ({ m with Type_ := n + 1 }, r))
 else if t = tx "pieces" then some (.ok ({ m with Pieces := true }, ws))
 else none
def mayM (seen : List (List Int)) (m : Za9) (t : List Int) : Bool := decide (t ∉ seen ∧ (t = tx "flags" → m.Proto = 6) ∧ (t = tx "type" → Zfm m.Proto = true))
def Zjd (e : Int) : Nat → List (List Int) → Za9 → List Wd → PE Za9
 | 0, _, m, _ => .ok m
 | f + 1, seen, m, [] => .ok m
 | f + 1, seen, m, w :: ws => if mayM seen m w.1 = false then .error (165, w.2) else match Zf6 e w.1 m ws with
  | none => .error (160, w.2)
  | some (.error q) => .error q
  | some (.ok (m', r)) => Zjd e f (w.1 :: seen) m' r
def ZkV (t : List Int) : Option Int := if t = tx "tcp" then some 6 else if t = tx "udp" then some 17 else if t = tx "icmp" then some 1 else if t = tx "icmp6" then some 58 else none
def ZeT (t : List Int) : Bool := (ZkV t).isSome || decide (t = tx "proto")
def ZgE (e kind : Int) (w : Wd) (ws : List Wd) : PE (Int × List Wd) := if kind = 1 then .error (165, w.2) else match ZkV w.1 with
 | some n => .ok (n, ws)
 | none => numP e 1 255 ws
def Zid (e : Int) (a : Nat) (ws : List Wd) : PE (Int × List Wd) := if a = 0 then (match Zd7 (tx "class") ws with
  | none => .ok (0, ws)
  | some r => numP e 0 7 r) else .ok (0, ws)
def Zmb (e : Int) : List Wd → PE ((Int × Int) × List Wd)
 | [] => .error (161, e)
 | w :: ws => if w.1 = tx "any" then .ok ((0, 0), ws) else match idxT ZeS w.1 with
  | none => if ZeT w.1 = true then (match ZgE e 0 w ws with
    | .error f => .error f
    | .ok (n, r) => .ok ((0, n), r)) else .error (160, w.2)
  | some k => match ws with
   | [] => .ok (((k : Int) + 1, 0), [])
   | v :: r => if ZeT v.1 = true then (match ZgE e ((k : Int) + 1) v r with
    | .error f => .error f
    | .ok (n, r) => .ok (((k : Int) + 1, n), r)) else .ok (((k : Int) + 1, 0), v :: r)
def Zpd (e : Int) : List Wd → PE (Za9 × List Wd)
 | [] => .error (161, e)
 | w :: ws => match idxT actN w.1 with
  | none => .error (160, w.2)
  | some a => match Zid e a ws with
   | .error f => .error f
   | .ok (c, r) => match Zmb e r with
    | .error f => .error f
    | .ok (k, r) => .ok ({ zRl with Act := (a : Int) + 1, Class := c, Kind := k.1, Proto := k.2 }, r)
def Zrp (t : List Int) : PE Za9 := if t.length > 1024 then .error (2, 1024) else match lexM [] 0 t with
 | .error p => .error (160, p)
 | .ok ws => match Zpd t.length ws with
  | .error f => .error f
  | .ok (m, r) => Zjd t.length (ws.length + 1) [] m r
def decF : Nat → Nat → List Int
 | 0, n => [48 + ((n % 10 : Nat) : Int)]
 | f + 1, n => if n < 10 then [48 + (n : Int)] else decF f (n / 10) ++ [48 + ((n % 10 : Nat) : Int)]
def decM (n : Int) : List Int := decF 5 n.toNat
def netT (p : Zap) : List Int := if (p.Len = 32 ∧ p.IP.V = 4) ∨ p.Len = 128 then prIP p.IP else prIP p.IP ++ 47 :: dec3 p.Len.toNat
def ZcV (r : ZaZ) : List Int := if r.Hi ≠ r.Lo then decM r.Lo ++ 45 :: decM r.Hi else decM r.Lo
def Zet (n : Int) : List Int := if n = 6 then tx "tcp" else if n = 17 then tx "udp" else if n = 1 then tx "icmp" else if n = 58 then tx "icmp6" else []
def Zgm (name : List Int) (s : ZcT) : List Int :=
 if s.nets = [] ∧ s.ports = [] then [] else
  [32] ++ name ++ [32] ++ (if s.nets = [] then tx "any" else (if s.Not = true then tx "not " else []) ++ ZcS [44] (s.nets.map netT)) ++ (if s.ports = [] then [] else tx " port " ++ ZcS [44] (s.ports.map ZcV))
def ZgM (m : Za9) : List (List Int) := (List.range 8).flatMap fun k => (if hasB m.Set k = true then [ZeG.getD k []] else []) ++ (if hasB m.Clear k = true then [33 :: ZeG.getD k []] else [])
def Zkr (m : Za9) : List Int :=
 (if m.Kind > 0 then [32] ++ ZeS.getD (m.Kind - 1).toNat [] else []) ++ (if Zet m.Proto ≠ [] then [32] ++ Zet m.Proto else if m.Proto > 0 then tx " proto " ++ decM m.Proto else if m.Kind = 0 then tx " any" else [])
def ZmH (m : Za9) : List Int :=
 actN.getD (m.Act - 1).toNat [] ++ (if m.Class > 0 then tx " class " ++ decM m.Class else []) ++ Zkr m ++ (if m.In > 0 then tx " on p" ++ decM (m.In - 1) else []) ++ (if m.Vid > 0 then tx " vid " ++ decM m.Vid else [])
  ++ (Zgm (tx "from") m.From ++ Zgm (tx "to") m.To) ++ (if ZgM m = [] then [] else tx " flags " ++ ZcS [44] (ZgM m)) ++ (if m.Type_ > 0 then tx " type " ++ decM (m.Type_ - 1) else []) ++ (if m.Pieces = true then tx " pieces" else [])
def Zpb : List Int := tx "permit tcp from 10.0.0.0/8 to any port 80"
def ZoW : Za9 := { zRl with Act := 1, Proto := 6, From := ⟨false, [⟨⟨4, ⟨[10, 0, 0, 0, 0, 0, 0, 0, 0, 0, 0, 0, 0, 0, 0, 0], rfl⟩⟩, 8⟩], []⟩, To := ⟨false, [], [⟨80, 80⟩]⟩ }
instance exceptDec {ε α : Type} [DecidableEq ε] [DecidableEq α] : DecidableEq (Except ε α)
 | .error a, .error b => if h : a = b then .isTrue (by rw [h]) else .isFalse (fun e => h (by cases e; rfl))
 | .ok a, .ok b => if h : a = b then .isTrue (by rw [h]) else .isFalse (fun e => h (by cases e; rfl))
 | .error _, .ok _ => .isFalse (fun e => by cases e)
 | .ok _, .error _ => .isFalse (fun e => by cases e)
theorem ZtE : Zrp Zpb = .ok ZoW := by decide +kernel
theorem ZtL : ZmH ZoW = Zpb := by decide +kernel
theorem ck_x : ckM ZoW = 0 := by decide +kernel
end Go.Proofs.YtpmhinidiplhiaaGreatDoor.Lx
