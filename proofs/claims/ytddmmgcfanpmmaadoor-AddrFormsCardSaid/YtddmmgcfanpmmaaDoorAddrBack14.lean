/- Plain law: a prefix that is written is read back. -/
import Derived.Test.YtddmmgcfanpmmaaDoorAddrBack13
set_option linter.unusedVariables false
set_option linter.unusedSimpArgs false
namespace Go.Proofs.YtddmmgcfanpmmaaDoor.Lx
open Go Go.Proofs Go.RowKit
theorem parseM_len {l : List Int} {ip : api_IP} (h : parseM l = .ok ip) : l.length ≤ 45 := by
  unfold parseM at h
  split at h
  · cases h
  · omega
end Go.Proofs.YtddmmgcfanpmmaaDoor.Lx
