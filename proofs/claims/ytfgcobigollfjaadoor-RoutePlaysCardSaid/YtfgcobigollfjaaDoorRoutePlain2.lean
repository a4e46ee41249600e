
import Derived.Test.YtfgcobigollfjaaDoorRoutePlain
set_option linter.unusedVariables false
set_option linter.unusedSimpArgs false
namespace Go.Proofs.YtfgcobigollfjaaDoor.Lx
open Go Go.Proofs Go.RowKit
theorem Zk2 {L M : List Zab} (nd : (L.map (·.Prefix)).Nodup) (p : L.Perm M) (k : Zar) : ZcN L k = ZcN M k := by
 have nd2 : (M.map (·.Prefix)).Nodup := ((p.map _).nodup_iff).1 nd
 cases h : ZcN M k with
 | none => exact ZdJ.2 fun x hx => ZdJ.1 h x (p.mem_iff.1 hx)
 | some x =>
  obtain ⟨h1, h2⟩ := ZeR h
  exact Zep nd (p.mem_iff.2 h1) h2
theorem Zfd {α β : Type} {f g : α → Option β} : ∀ {l : List α}, (∀ x ∈ l, f x = g x) → l.findSome? f = l.findSome? g
 | [], _ => rfl
 | a :: l, h => by
  rw [List.findSome?_cons, List.findSome?_cons, h a (List.mem_cons_self ..), Zfd (l := l) (fun x hx => h x (List.mem_cons_of_mem _ hx))]
theorem Zli {L M : List Zab} (nd : (L.map (·.Prefix)).Nodup) (p : L.Perm M) (ip : ZaH) : ZeB L ip = ZeB M ip := by
 unfold ZeB
 rw [Zfd (fun k _ => Zk2 nd p k)]
end Go.Proofs.YtfgcobigollfjaaDoor.Lx
