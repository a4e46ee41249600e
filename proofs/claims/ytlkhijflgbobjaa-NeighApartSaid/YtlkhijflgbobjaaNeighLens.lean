/- How long the lists are that a cache tells. -/
import Derived.Test.YtlkhijflgbobjaaNeighRefN
set_option linter.unusedVariables false
set_option linter.unusedSimpArgs false
namespace Go.Proofs.Ytlkhijflgbobjaa.Lx
open Go Go.Proofs Go.RowKit
theorem tick_len {m : NM} (ok : m.Ok) : m.tick.2.1.length ≤ 1024 ∧ m.tick.2.2.length ≤ 65536 := by
  have h1 := ok.n
  have h2 := ok.c.m1
  constructor
  · have := flm_len (l := m.l) (g := fun e => (NM.stepE m.c e).2.1) (k := 1) (fun e _ => ask_len m.c (none, e))
    show (m.l.flatMap _).length ≤ _
    omega
  · have := flm_len (l := m.l) (g := fun e => (NM.stepE m.c e).2.2) (k := 64) (fun e he => lost_len ok.c (x := (none, e)) (ok.e e he))
    show (m.l.flatMap _).length ≤ _
    omega
theorem learn_len {m : NM} (ok : m.Ok) (port : Int) (ip : api_IP) (mac : Vec Int 6) (how : Int) : (m.learn port ip mac how).2.1.length ≤ 64 := by
  have hc := ok.c.l1
  unfold NM.learn
  split
  · simp
  split
  · split
    · simp
    · split <;> simp
  · split
    · simp
    · rename_i e he
      have h := (ok.e e (List.mem_of_getElem? he)).i
      split
      · simp only; omega
      · split
        · simp only; omega
        · simp
end Go.Proofs.Ytlkhijflgbobjaa.Lx
