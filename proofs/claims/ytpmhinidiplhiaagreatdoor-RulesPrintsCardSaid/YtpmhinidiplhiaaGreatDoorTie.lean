/-
  DERIVED. GIVEN WITH THE SEED: THE PROGRAM's TIES (one call each: nine closed facts by the kernel) AND EACH ROW's TIE, after the 31st guide's Derived/Test/Toyas{Tie, Card}.lean. No idea stands in it: it is a product of the set-up. Laid BY PROGRAM, IN A SANDBOX (cutbox-door.mjs). By AI agents, Wed Nov 11 2026. No macro, syntax, notation, axiom, sorry.
-/
import Derived.Test.YtpmhinidiplhiaaGreatDoorRows
import Derived.LaidByTextLater
import Derived.SevenTiedAt
import Derived.LaidSub
import Derived.LaidOnce
namespace Go.Proofs.YtpmhinidiplhiaaGreatDoor
open Go
set_option maxRecDepth 100000
theorem seatTie1 : Tryz.prog.laidByTextLater [("math/bits.deBruijn32tab", Rows.laid_math_bits_deBruijn32tab), ("math/bits.deBruijn64tab", Rows.laid_math_bits_deBruijn64tab), ("internal/strconv.uint64pow10", Rows.laid_internal_strconv_uint64pow10), ("unicode/utf8.acceptRanges", Rows.laid_unicode_utf8_acceptRanges), ("weir/rules.kinds", Rows.laid_weir_rules_kinds), ("weir/rules.acts", Rows.laid_weir_rules_acts), ("weir/rules.flags", Rows.laid_weir_rules_flags)] [.data, .data, .data, .data, .widerDeep, .widerDeep, .widerDeep] true :=
  Program.laidByTextLater_by_one 49 8 65 (by kernel_rfl) (by kernel_rfl) (by kernel_rfl) (by kernel_rfl) (by kernel_rfl) (by kernel_rfl) (fun _ _ => by kernel_rfl)
theorem pin_laid_unicode_utf8_first : Tryz.pinned.checked.prog.pinnedFits "unicode/utf8.first" = true := by kernel_rfl
theorem noOwnUnsafe : Tryz.pinned.checked.prog.headLifts.contains "ownunsafe" = false := by kernel_rfl
theorem tie : Tryz.prog.laidByTextLater [("math/bits.deBruijn32tab", Rows.laid_math_bits_deBruijn32tab), ("math/bits.deBruijn64tab", Rows.laid_math_bits_deBruijn64tab), ("internal/strconv.uint64pow10", Rows.laid_internal_strconv_uint64pow10), ("weir/rules.kinds", Rows.laid_weir_rules_kinds), ("weir/rules.acts", Rows.laid_weir_rules_acts), ("weir/rules.flags", Rows.laid_weir_rules_flags)] [.data, .data, .data, .widerDeep, .widerDeep, .widerDeep] true :=
  Program.laidByTextLater.sub seatTie1 ["math/bits.deBruijn32tab", "math/bits.deBruijn64tab", "internal/strconv.uint64pow10", "weir/rules.kinds", "weir/rules.acts", "weir/rules.flags"] (by kernel_rfl) (by kernel_rfl)
theorem rulesLines_row_tie : Rows.rulesLinesRow.laidByTextAt .later Tryz.pinned [.data, .data, .data, .widerDeep, .widerDeep, .widerDeep] true :=
  OpenClaim.laidByTextAt_later rfl rfl tie noOwnUnsafe
theorem rulesPrints_row_tie : Rows.rulesPrintsRow.laidByTextAt .later Tryz.pinned [.data, .data, .data, .widerDeep, .widerDeep, .widerDeep] true :=
  OpenClaim.laidByTextAt_later rfl rfl tie noOwnUnsafe
theorem rulesLent_row_tie : Rows.rulesLentRow.laidByTextAt .later Tryz.pinned [.data, .data, .data, .widerDeep, .widerDeep, .widerDeep] true :=
  OpenClaim.laidByTextAt_later rfl rfl tie noOwnUnsafe
theorem rulesFirst_row_tie : Rows.rulesFirstRow.laidByTextAt .later Tryz.pinned [.data, .data, .data, .widerDeep, .widerDeep, .widerDeep] true :=
  OpenClaim.laidByTextAt_later rfl rfl tie noOwnUnsafe
theorem rulesAny_row_tie : Rows.rulesAnyRow.laidByTextAt .later Tryz.pinned [.data, .data, .data, .widerDeep, .widerDeep, .widerDeep] true :=
  OpenClaim.laidByTextAt_later rfl rfl tie noOwnUnsafe
theorem rulesNot_row_tie : Rows.rulesNotRow.laidByTextAt .later Tryz.pinned [.data, .data, .data, .widerDeep, .widerDeep, .widerDeep] true :=
  OpenClaim.laidByTextAt_later rfl rfl tie noOwnUnsafe
theorem rulesCase_row_tie : Rows.rulesCaseRow.laidByTextAt .later Tryz.pinned [.data, .data, .data, .widerDeep, .widerDeep, .widerDeep] true :=
  OpenClaim.laidByTextAt_later rfl rfl tie noOwnUnsafe
theorem rulesSets_row_tie : Rows.rulesSetsRow.laidByTextAt .later Tryz.pinned [.data, .data, .data, .widerDeep, .widerDeep, .widerDeep] true :=
  OpenClaim.laidByTextAt_later rfl rfl tie noOwnUnsafe
theorem fits2 : Tryz.pinned.checked.prog.listedFits [("math/bits.deBruijn32tab", Rows.laid_math_bits_deBruijn32tab), ("math/bits.deBruijn64tab", Rows.laid_math_bits_deBruijn64tab), ("internal/strconv.uint64pow10", Rows.laid_internal_strconv_uint64pow10), ("unicode/utf8.acceptRanges", Rows.laid_unicode_utf8_acceptRanges), ("weir/rules.kinds", Rows.laid_weir_rules_kinds), ("weir/rules.acts", Rows.laid_weir_rules_acts), ("weir/rules.flags", Rows.laid_weir_rules_flags), ("unicode/utf8.first", Rows.laid_unicode_utf8_first)] = true := by
  unfold Program.listedFits
  rw [noOwnUnsafe]
  kernel_rfl
theorem tie2 : Tryz.prog.laidByTextLater [("math/bits.deBruijn32tab", Rows.laid_math_bits_deBruijn32tab), ("math/bits.deBruijn64tab", Rows.laid_math_bits_deBruijn64tab), ("internal/strconv.uint64pow10", Rows.laid_internal_strconv_uint64pow10), ("unicode/utf8.acceptRanges", Rows.laid_unicode_utf8_acceptRanges), ("weir/rules.kinds", Rows.laid_weir_rules_kinds), ("weir/rules.acts", Rows.laid_weir_rules_acts), ("weir/rules.flags", Rows.laid_weir_rules_flags)] [.data, .data, .data, .data, .widerDeep, .widerDeep, .widerDeep] true :=
  Program.laidByTextLater.sub seatTie1 ["math/bits.deBruijn32tab", "math/bits.deBruijn64tab", "internal/strconv.uint64pow10", "unicode/utf8.acceptRanges", "weir/rules.kinds", "weir/rules.acts", "weir/rules.flags"] (by kernel_rfl) (by kernel_rfl)
theorem rulesParse_row_tie : Rows.rulesParseRow.laidByTextAt .later Tryz.pinned [.data, .data, .data, .data, .widerDeep, .widerDeep, .widerDeep, .pinned] true :=
  OpenClaim.laidByTextAt_pinned rfl rfl tie2 rfl rfl rfl rfl (fun y hy _e => by
    simp only [Rows.rulesParseRow, List.zip_cons_cons, List.zip_nil_right, List.mem_cons, List.mem_nil_iff, or_false] at hy
    rcases hy with rfl | rfl | rfl | rfl | rfl | rfl | rfl | rfl
    · cases _e
    · cases _e
    · cases _e
    · cases _e
    · cases _e
    · cases _e
    · cases _e
    · exact ⟨pin_laid_unicode_utf8_first, by kernel_rfl⟩) fits2
theorem rulesTwo_row_tie : Rows.rulesTwoRow.laidByTextAt .later Tryz.pinned [.data, .data, .data, .data, .widerDeep, .widerDeep, .widerDeep, .pinned] true :=
  OpenClaim.laidByTextAt_pinned rfl rfl tie2 rfl rfl rfl rfl (fun y hy _e => by
    simp only [Rows.rulesTwoRow, List.zip_cons_cons, List.zip_nil_right, List.mem_cons, List.mem_nil_iff, or_false] at hy
    rcases hy with rfl | rfl | rfl | rfl | rfl | rfl | rfl | rfl
    · cases _e
    · cases _e
    · cases _e
    · cases _e
    · cases _e
    · cases _e
    · cases _e
    · exact ⟨pin_laid_unicode_utf8_first, by kernel_rfl⟩) fits2
theorem rulesTurned_row_tie : Rows.rulesTurnedRow.laidByTextAt .later Tryz.pinned [.data, .data, .data, .data, .widerDeep, .widerDeep, .widerDeep, .pinned] true :=
  OpenClaim.laidByTextAt_pinned rfl rfl tie2 rfl rfl rfl rfl (fun y hy _e => by
    simp only [Rows.rulesTurnedRow, List.zip_cons_cons, List.zip_nil_right, List.mem_cons, List.mem_nil_iff, or_false] at hy
    rcases hy with rfl | rfl | rfl | rfl | rfl | rfl | rfl | rfl
    · cases _e
    · cases _e
    · cases _e
    · cases _e
    · cases _e
    · cases _e
    · cases _e
    · exact ⟨pin_laid_unicode_utf8_first, by kernel_rfl⟩) fits2
theorem rulesLinesUpto_row_tie : Rows.rulesLinesUptoRow.laidByTextAt .later Tryz.pinned [.data, .data, .data, .widerDeep, .widerDeep, .widerDeep] true :=
  OpenClaim.laidByTextAt_later rfl rfl tie noOwnUnsafe
theorem rulesPrintsUpto_row_tie : Rows.rulesPrintsUptoRow.laidByTextAt .later Tryz.pinned [.data, .data, .data, .widerDeep, .widerDeep, .widerDeep] true :=
  OpenClaim.laidByTextAt_later rfl rfl tie noOwnUnsafe
theorem rulesLentUpto_row_tie : Rows.rulesLentUptoRow.laidByTextAt .later Tryz.pinned [.data, .data, .data, .widerDeep, .widerDeep, .widerDeep] true :=
  OpenClaim.laidByTextAt_later rfl rfl tie noOwnUnsafe
theorem rulesFirstUpto_row_tie : Rows.rulesFirstUptoRow.laidByTextAt .later Tryz.pinned [.data, .data, .data, .widerDeep, .widerDeep, .widerDeep] true :=
  OpenClaim.laidByTextAt_later rfl rfl tie noOwnUnsafe
theorem rulesAnyUpto_row_tie : Rows.rulesAnyUptoRow.laidByTextAt .later Tryz.pinned [.data, .data, .data, .widerDeep, .widerDeep, .widerDeep] true :=
  OpenClaim.laidByTextAt_later rfl rfl tie noOwnUnsafe
theorem rulesNotUpto_row_tie : Rows.rulesNotUptoRow.laidByTextAt .later Tryz.pinned [.data, .data, .data, .widerDeep, .widerDeep, .widerDeep] true :=
  OpenClaim.laidByTextAt_later rfl rfl tie noOwnUnsafe
theorem rulesCaseUpto_row_tie : Rows.rulesCaseUptoRow.laidByTextAt .later Tryz.pinned [.data, .data, .data, .widerDeep, .widerDeep, .widerDeep] true :=
  OpenClaim.laidByTextAt_later rfl rfl tie noOwnUnsafe
theorem rulesSetsUpto_row_tie : Rows.rulesSetsUptoRow.laidByTextAt .later Tryz.pinned [.data, .data, .data, .widerDeep, .widerDeep, .widerDeep] true :=
  OpenClaim.laidByTextAt_later rfl rfl tie noOwnUnsafe
theorem rulesParseUpto_row_tie : Rows.rulesParseUptoRow.laidByTextAt .later Tryz.pinned [.data, .data, .data, .data, .widerDeep, .widerDeep, .widerDeep, .pinned] true :=
  OpenClaim.laidByTextAt_pinned rfl rfl tie2 rfl rfl rfl rfl (fun y hy _e => by
    simp only [Rows.rulesParseUptoRow, List.zip_cons_cons, List.zip_nil_right, List.mem_cons, List.mem_nil_iff, or_false] at hy
    rcases hy with rfl | rfl | rfl | rfl | rfl | rfl | rfl | rfl
    · cases _e
    · cases _e
    · cases _e
    · cases _e
    · cases _e
    · cases _e
    · cases _e
    · exact ⟨pin_laid_unicode_utf8_first, by kernel_rfl⟩) fits2
theorem rulesTwoUpto_row_tie : Rows.rulesTwoUptoRow.laidByTextAt .later Tryz.pinned [.data, .data, .data, .data, .widerDeep, .widerDeep, .widerDeep, .pinned] true :=
  OpenClaim.laidByTextAt_pinned rfl rfl tie2 rfl rfl rfl rfl (fun y hy _e => by
    simp only [Rows.rulesTwoUptoRow, List.zip_cons_cons, List.zip_nil_right, List.mem_cons, List.mem_nil_iff, or_false] at hy
    rcases hy with rfl | rfl | rfl | rfl | rfl | rfl | rfl | rfl
    · cases _e
    · cases _e
    · cases _e
    · cases _e
    · cases _e
    · cases _e
    · cases _e
    · exact ⟨pin_laid_unicode_utf8_first, by kernel_rfl⟩) fits2
theorem rulesTurnedUpto_row_tie : Rows.rulesTurnedUptoRow.laidByTextAt .later Tryz.pinned [.data, .data, .data, .data, .widerDeep, .widerDeep, .widerDeep, .pinned] true :=
  OpenClaim.laidByTextAt_pinned rfl rfl tie2 rfl rfl rfl rfl (fun y hy _e => by
    simp only [Rows.rulesTurnedUptoRow, List.zip_cons_cons, List.zip_nil_right, List.mem_cons, List.mem_nil_iff, or_false] at hy
    rcases hy with rfl | rfl | rfl | rfl | rfl | rfl | rfl | rfl
    · cases _e
    · cases _e
    · cases _e
    · cases _e
    · cases _e
    · cases _e
    · cases _e
    · exact ⟨pin_laid_unicode_utf8_first, by kernel_rfl⟩) fits2
end Go.Proofs.YtpmhinidiplhiaaGreatDoor
