/- Proved here: what the token rows list of the library's tables gives the fact 'Laid' (turned from the kit's bridges on unicode/utf8's tables). -/
import Derived.Test.YtpefkehcibdjgaaDoorH0
import Derived.Test.YtpefkehcibdjgaaDoorHL
import Derived.Test.YtpefkehcibdjgaaDoorRows
import Derived.PinnedBridge
import Derived.Lib.LaidU8T
import Derived.Lib.LaidTab
set_option linter.unusedVariables false
namespace Go.Proofs.YtpefkehcibdjgaaDoor.H
open Go.Shelf Go.Lib
set_option maxRecDepth 100000 in
theorem fold_eq : Rows.laid_unicode_asciiFold = (tabData .u16 ((List.range 128).map foldT) : DataW Unit) := by kernel_rfl
set_option maxRecDepth 100000 in
theorem laid_of {W : World} {l : List (String × DataW Unit)} (hL : laidMet Tryd.prog l W) (h1 : ("unicode/utf8.acceptRanges", Rows.laid_unicode_utf8_acceptRanges) ∈ l) (h2 : ("unicode.asciiFold", Rows.laid_unicode_asciiFold) ∈ l) (h3 : ("unicode/utf8.first", Rows.laid_unicode_utf8_first) ∈ l) : Laid W := by
  have hU : Lib.Utf8Tabs 3 4 W := utf8Tabs_of_readsT (U8Types.of260 Tryd.lays260) ⟨by kernel_rfl, by kernel_rfl, by kernel_rfl, by kernel_rfl, by kernel_rfl, by kernel_rfl, by kernel_rfl⟩
    (Pinned.utf8First_eq ▸ Lib.laidMet.reads hL h3) ((show Rows.laid_unicode_utf8_acceptRanges = acceptData by kernel_rfl) ▸ Lib.laidMet.reads hL h1)
  refine ⟨⟨hU, World.block_lt_of_cell? _ _ (hU.2 0 (by omega)).1⟩, fun c hc => ?_⟩
  have hF := Lib.laidMet.reads hL h2
  rw [fold_eq] at hF
  obtain ⟨g, t, cs, fuel, p, hg, hty, hvar, hd⟩ := hF
  obtain rfl := Option.some.inj ((show Tryd.prog.globalNamed "unicode.asciiFold" = some 0 by kernel_rfl).symm.trans hg)
  obtain rfl := Option.some.inj ((show (Tryd.prog.globals[0]?).map (·.type) = some 101 by kernel_rfl).symm.trans hty)
  have hcs := cells_of_tab Tryd.underlying101 Tryd.underlying48 (by kernel_rfl) (by kernel_rfl) hd
  have := World.var?_cell hg hvar c
  rw [this, ← Array.getElem?_toList, hcs]
  simp [hc]
end Go.Proofs.YtpefkehcibdjgaaDoor.H
