
import Derived.Test.YtpmhinidiplhiaaGreatDoorRulesBackB
set_option linter.unusedVariables false
set_option linter.unusedSimpArgs false
namespace Go.Proofs.YtpmhinidiplhiaaGreatDoor.Lx
open Go Go.Proofs Go.RowKit
def cOn (m : Za9) : List (List Int) := if m.In > 0 then [tx "on", 112 :: decM (m.In - 1)] else []
def cVid (m : Za9) : List (List Int) := if m.Vid > 0 then [tx "vid", decM m.Vid] else []
def Zt1 (name : List Int) (s : ZcT) : List (List Int) := if s.nets = [] ∧ s.ports = [] then [] else name :: Zun s
def Zt2 (m : Za9) : List (List Int) := if ZgM m = [] then [] else tx "flags" :: ZrD (ZgM m)
def Zur (m : Za9) : List (List Int) := if m.Type_ > 0 then [tx "type", decM (m.Type_ - 1)] else []
def Ztb (m : Za9) : List (List Int) := if m.Pieces = true then [tx "pieces"] else []
def HdIn (c : List (List Int)) : Prop := ∀ t r, c = t :: r → t ∈ clN
theorem HdIn.app {c b : List (List Int)} (h : HdIn c) (hb : Zgi b) : Zgi (c ++ b) := fun t r e => by
 cases c with
 | nil => exact hb t r e
 | cons u us =>
  have e : u :: (us ++ b) = t :: r := e
  cases e
  exact h _ _ rfl
theorem ZrH {p : Prop} [Decidable p] {t : List Int} {l : List (List Int)} (h : t ∈ clN) : HdIn (if p then t :: l else []) := fun u r e => by
 split at e
 ·cases e
  exact h
 ·cases e
theorem Zqq {p : Prop} [Decidable p] {t : List Int} {l : List (List Int)} (h : t ∈ clN) : HdIn (if p then [] else t :: l) := fun u r e => by
 split at e
 ·cases e
 ·cases e
  exact h
def b7 (m : Za9) : List (List Int) := Ztb m ++ []
def b6 (m : Za9) : List (List Int) := Zur m ++ b7 m
def b5 (m : Za9) : List (List Int) := Zt2 m ++ b6 m
def b4 (m : Za9) : List (List Int) := Zt1 (tx "to") m.To ++ b5 m
def b3 (m : Za9) : List (List Int) := Zt1 (tx "from") m.From ++ b4 m
def b2 (m : Za9) : List (List Int) := cVid m ++ b3 m
def b1 (m : Za9) : List (List Int) := cOn m ++ b2 m
theorem Zf3 : tx "on" ∈ clN ∧ tx "vid" ∈ clN ∧ tx "from" ∈ clN ∧ tx "to" ∈ clN ∧ tx "flags" ∈ clN ∧ tx "type" ∈ clN ∧ tx "pieces" ∈ clN := by decide +kernel
theorem hb7 (m : Za9) : Zgi (b7 m) := (ZrH Zf3.2.2.2.2.2.2).app Zgi.nil
theorem hb6 (m : Za9) : Zgi (b6 m) := (ZrH Zf3.2.2.2.2.2.1).app (hb7 m)
theorem hb5 (m : Za9) : Zgi (b5 m) := (Zqq Zf3.2.2.2.2.1).app (hb6 m)
theorem hb4 (m : Za9) : Zgi (b4 m) := (Zqq Zf3.2.2.2.1).app (hb5 m)
theorem hb3 (m : Za9) : Zgi (b3 m) := (Zqq Zf3.2.2.1).app (hb4 m)
theorem hb2 (m : Za9) : Zgi (b2 m) := (ZrH Zf3.2.1).app (hb3 m)
theorem hb1 (m : Za9) : Zgi (b1 m) := (ZrH Zf3.1).app (hb2 m)
section
variable {e : Int}
def Lp (e : Int) (n : Nat) (k : Za9) (toks : List (List Int)) (m : Za9) : Prop := ∀ (fuel : Nat) (seen : List (List Int)) (ws : List Wd), (∀ t ∈ seen, t ∈ clN.take n) → Tk ws toks → ws.length < fuel → Zjd e fuel seen k ws = .ok m
theorem Lp.skip {n : Nat} {k m : Za9} {toks : List (List Int)} (h : Lp e (n + 1) k toks m) : Lp e n k toks m := fun fuel seen ws hs ht hf =>
 h fuel seen ws (fun t hm => by
  have := hs t hm
  exact (List.take_sublist_take_left (l := clN) (Nat.le_succ n)).subset this) ht hf
theorem Lp.step {n : Nat} {k k' m : Za9} {t : List Int} {args b : List (List Int)} (hn : t ∉ clN.take n) (hn2 : t ∈ clN.take (n + 1)) (h1 : t = tx "flags" → k.Proto = 6) (h2 : t = tx "type" → Zfm k.Proto = true)
  (hc : ∀ ws, Tk ws (args ++ b) → ∃ r, Zf6 e t k ws = some (.ok (k', r)) ∧ Tk r b) (h : Lp e (n + 1) k' b m) : Lp e n k (t :: args ++ b) m := fun fuel seen ws hs ht hf => by
 obtain ⟨p, r, rfl, hr⟩ := Zsq (show Tk ws (t :: (args ++ b)) from ht)
 obtain ⟨fu, rfl⟩ : ∃ j, fuel = j + 1 := ⟨fuel - 1, by omega⟩
 obtain ⟨r2, h3, h4⟩ := hc r hr
 have hm : mayM seen k t = true := decide_eq_true ⟨fun hm => hn (hs t hm), h1, h2⟩
 rw [show Zjd e (fu + 1) seen k ((t, p) :: r) = if mayM seen k t = false then .error (165, p) else match Zf6 e t k r with
  | none => .error (160, p)
  | some (.error q) => .error q
  | some (.ok (m', r)) => Zjd e fu (t :: seen) m' r from rfl, hm, if_neg (by decide), h3]
 have hl := (Zkh h3).1
 simp only [List.length_cons] at hf
 exact h fu (t :: seen) r2 (fun u hu => by
  rcases List.mem_cons.1 hu with rfl | hu
  ·exact hn2
  ·exact (List.take_sublist_take_left (l := clN) (Nat.le_succ n)).subset (hs u hu)) h4 (by omega)
def st1 (m : Za9) : Za9 := ⟨m.Act, m.Class, m.Kind, m.Proto, m.In, 0, zSd, zSd, 0, 0, 0, false⟩
def st2 (m : Za9) : Za9 := ⟨m.Act, m.Class, m.Kind, m.Proto, m.In, m.Vid, zSd, zSd, 0, 0, 0, false⟩
end
end Go.Proofs.YtpmhinidiplhiaaGreatDoor.Lx
