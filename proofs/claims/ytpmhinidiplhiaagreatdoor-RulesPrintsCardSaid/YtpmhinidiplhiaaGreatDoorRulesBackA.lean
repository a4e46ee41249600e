
import Derived.Test.YtpmhinidiplhiaaGreatDoorRulesNum
set_option linter.unusedVariables false
set_option linter.unusedSimpArgs false
namespace Go.Proofs.YtpmhinidiplhiaaGreatDoor.Lx
open Go Go.Proofs Go.RowKit
abbrev Tk (ws : List Wd) (ts : List (List Int)) : Prop := ws.map (·.1) = ts
theorem Zsq {ws : List Wd} {t : List Int} {ts : List (List Int)} (h : Tk ws (t :: ts)) : ∃ p r, ws = (t, p) :: r ∧ Tk r ts := by
 cases ws with
 | nil => cases h
 | cons w r =>
  obtain ⟨a, p⟩ := w
  have h : a :: r.map (·.1) = t :: ts := h
  cases h
  exact ⟨p, r, rfl, rfl⟩
def clN : List (List Int) := [tx "on", tx "vid", tx "from", tx "to", tx "flags", tx "type", tx "pieces"]
def Zgi (b : List (List Int)) : Prop := ∀ t r, b = t :: r → t ∈ clN
theorem Zgi.nil : Zgi [] := fun t r h => by cases h
section
variable {e : Int}
def Zun (s : ZcT) : List (List Int) := (if s.nets = [] then [tx "any"] else (if s.Not = true then [tx "not"] else []) ++ ZrD (s.nets.map netT)) ++ (if s.ports = [] then [] else tx "port" :: ZrD (s.ports.map ZcV))
structure SdB (s : ZcT) (kind proto : Int) : Prop where
 ok : SdOk s
 fits : ∀ p ∈ s.nets, Zgq p kind = true
 no : s.nets = [] → s.Not = false
 ported : s.ports ≠ [] → ZdW proto = true
end
end Go.Proofs.YtpmhinidiplhiaaGreatDoor.Lx
