
import Derived.Test.YtpmhinidiplhiaaGreatDoorRulesModel
set_option linter.unusedVariables false
set_option linter.unusedSimpArgs false
namespace Go.Proofs.YtpmhinidiplhiaaGreatDoor.Lx
open Go Go.Proofs Go.RowKit
def LxC (cur l : List Int) (ts : List (List Int)) : Prop := ∀ p : Int, ∃ ws, lexM cur p l = .ok ws ∧ ws.map (·.1) = ts
def Cont (l : List Int) (ts : List (List Int)) : Prop := ∀ cur : List Int, cur ≠ [] → LxC cur l (cur :: ts)
def Seg (S : List Int) (T : List (List Int)) : Prop := ∀ l ts, Cont l ts → Cont (S ++ l) (T ++ ts)
def Wrd (t : List Int) : Prop := t ≠ [] ∧ t.all Zin = true
theorem LxC.word {t : List Int} : ∀ {cur l : List Int} {ts : List (List Int)}, t.all Zin = true → LxC (cur ++ t) l ts → LxC cur (t ++ l) ts := by
 induction t with
 | nil =>
  intro cur l ts _ h
  rw [List.append_nil] at h
  exact h
 | cons c t ih =>
  intro cur l ts hw h p
  rw [List.all_cons, Bool.and_eq_true] at hw
  obtain ⟨ws, h1, h2⟩ := ih (cur := cur ++ [c]) hw.2 (by rw [List.append_assoc]; exact h) (p + 1)
  refine ⟨ws, ?_, h2⟩
  rw [List.cons_append, lexM, if_pos hw.1]
  exact h1
theorem Cont.nil : Cont [] [] := fun cur hc p => ⟨[(cur, p - cur.length)], by rw [lexM, if_neg hc], rfl⟩
theorem Cont.sp {l : List Int} {ts : List (List Int)} (h : LxC [] l ts) : Cont (32 :: l) ts := fun cur hc p => by
 obtain ⟨ws, h1, h2⟩ := h (p + 1)
 refine ⟨(cur, p - cur.length) :: ws, ?_, by rw [List.map_cons, h2]⟩
 rw [lexM, if_neg (by decide), if_neg (by decide), if_pos (by decide), h1]
 simp only
 rw [if_neg hc]
theorem Cont.comma {l : List Int} {ts : List (List Int)} (h : LxC [] l ts) : Cont (44 :: l) ([44] :: ts) := fun cur hc p => by
 obtain ⟨ws, h1, h2⟩ := h (p + 1)
 refine ⟨(cur, p - cur.length) :: ([44], p) :: ws, ?_, by rw [List.map_cons, List.map_cons, h2]⟩
 rw [lexM, if_neg (by decide), if_pos rfl, h1]
 simp only
 rw [if_neg hc]
theorem Cont.begin {t l : List Int} {ts : List (List Int)} (ht : Wrd t) (h : Cont l ts) : LxC [] (t ++ l) (t :: ts) := by
 refine LxC.word ht.2 ?_
 rw [List.nil_append]
 exact h t ht.1
theorem Seg.nil : Seg [] [] := fun l ts h => h
theorem Seg.app {S S' : List Int} {T T' : List (List Int)} (h : Seg S T) (h' : Seg S' T') : Seg (S ++ S') (T ++ T') := fun l ts hc => by
 rw [List.append_assoc, List.append_assoc]
 exact h _ _ (h' _ _ hc)
theorem Seg.sp {t : List Int} (ht : Wrd t) : Seg (32 :: t) [t] := fun l ts h => Cont.sp (Cont.begin ht h)
theorem Seg.comma {t : List Int} (ht : Wrd t) : Seg (44 :: t) [[44], t] := fun l ts h => Cont.comma (Cont.begin ht h)
def ZrD : List (List Int) → List (List Int)
 | [] => []
 | x :: r => x :: r.flatMap (fun y => [[44], y])
theorem Seg.commas : ∀ {l : List (List Int)}, (∀ x ∈ l, Wrd x) → Seg (l.flatMap fun y => [44] ++ y) (l.flatMap fun y => [[44], y])
 | [], _ => Seg.nil
 | x :: r, h => by
  rw [List.flatMap_cons, List.flatMap_cons]
  exact Seg.app (Seg.comma (h x (by simp))) (Seg.commas (fun y hy => h y (by simp [hy])))
theorem Seg.join {l : List (List Int)} (h0 : l ≠ []) (h : ∀ x ∈ l, Wrd x) : Seg (32 :: ZcS [44] l) (ZrD l) := by
 cases l with
 | nil => exact absurd rfl h0
 | cons x r => exact Seg.app (Seg.sp (h x (by simp))) (Seg.commas (fun y hy => h y (by simp [hy])))
theorem Seg.one {S : List Int} {T : List (List Int)} (t : List Int) (ht : Wrd t) (h : Seg S T) : Seg (32 :: t ++ S) (t :: T) := Seg.app (Seg.sp ht) h
end Go.Proofs.YtpmhinidiplhiaaGreatDoor.Lx
