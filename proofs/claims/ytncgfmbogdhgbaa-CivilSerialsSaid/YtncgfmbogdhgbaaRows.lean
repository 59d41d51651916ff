/-
  No cell of these rows narrows 'for every input' (looked for: loops, veiled, ifaces, maps, wideKeys, modest, calm, conditions, laid).
  DERIVED. THE GIVEN ROWS OF THIS SEAT. 5 by the template 'for every input the law returns true; each argument reads behind the call as it read before'; 0 by the template 'total and deterministic' (their statements: YtncgfmbogdhgbaaTotals.lean).
  GIVEN WITH THE SEED: the statements are not yours to turn. If you find one false, say at which input.
  Laid BY PROGRAM, IN A SANDBOX (cutbox-rows.mjs): the forced cells as the released guide's own fill.sh prints them over the translation 351e97c6f64612dc… (all of the seat's roots in one cut). By AI agents, Wed Nov 11 2026. No macro, syntax, notation, axiom, sorry.
-/
import Derived.Test.YtncgfmbogdhgbaaChecked
import GoSem.Claim
import GoSem.ClaimJoined
import GoSem.ClaimMapViews
import Derived.JoinedTies
import Derived.KernelRfl
namespace Go.Proofs.Ytncgfmbogdhgbaa
/- THE CELL 'sum', in the pinned program and in every row, IS THE sha256 OF THE DUMP (.gsa) THAT YtncgfmbogdhgbaaProg.lean LOADS. Nothing in Lean hashes anything: it is a label: what it is worth is what the hold of that sum in a sandbox is worth. -/
noncomputable def Try.pinned : Pinned := { name := "ytncgfmbogdhgbaa", sum := "351e97c6f64612dc472f3ed17575bdf28b91da2a329e80cb8741b5291851c2a8", checked := Try.checked }
namespace Rows
def none {H : Type} : Left H := { results := [], args := [] }

/-- 'numerarylaw24.CivilDays': WHATEVER THE INPUT: true; the input reads as it did. -/
def civilDaysSpec : ChangeSpec := { name := "civilDays", fn := fun _ => fun
  | [d1, d2] => { results := [.lit (.bool true)], args := [d1, d2] }
  | _ => none }
def civilDaysRow : OpenClaim := { program := "ytncgfmbogdhgbaa", sum := "351e97c6f64612dc472f3ed17575bdf28b91da2a329e80cb8741b5291851c2a8", func := "numerary/numerarylaw24.CivilDays", spec := "civilDays", apart := false }
def CivilDaysSaid : Prop := civilDaysRow.holds Try.pinned (OpenSpec.ofChange civilDaysSpec)

/-- ITS FALSE NEIGHBOUR: 'it returns false'. Refute it at one input. -/
def civilDaysWrong : ChangeSpec := { name := "civilDays", fn := fun _ => fun
  | [d1, d2] => { results := [.lit (.bool false)], args := [d1, d2] }
  | _ => none }
def CivilDaysWrongFalsely : Prop := civilDaysRow.holds Try.pinned (OpenSpec.ofChange civilDaysWrong)

/-- 'numerarylaw24.CivilSerials': WHATEVER THE INPUT: true; the input reads as it did. -/
def civilSerialsSpec : ChangeSpec := { name := "civilSerials", fn := fun _ => fun
  | [d1, d2] => { results := [.lit (.bool true)], args := [d1, d2] }
  | _ => none }
def civilSerialsRow : OpenClaim := { program := "ytncgfmbogdhgbaa", sum := "351e97c6f64612dc472f3ed17575bdf28b91da2a329e80cb8741b5291851c2a8", func := "numerary/numerarylaw24.CivilSerials", spec := "civilSerials", apart := false }
def CivilSerialsSaid : Prop := civilSerialsRow.holds Try.pinned (OpenSpec.ofChange civilSerialsSpec)

/-- ITS FALSE NEIGHBOUR: 'it returns false'. Refute it at one input. -/
def civilSerialsWrong : ChangeSpec := { name := "civilSerials", fn := fun _ => fun
  | [d1, d2] => { results := [.lit (.bool false)], args := [d1, d2] }
  | _ => none }
def CivilSerialsWrongFalsely : Prop := civilSerialsRow.holds Try.pinned (OpenSpec.ofChange civilSerialsWrong)

/-- 'numerarylaw24.CivilYears': WHATEVER THE INPUT: true; the input reads as it did. -/
def civilYearsSpec : ChangeSpec := { name := "civilYears", fn := fun _ => fun
  | [d1, d2] => { results := [.lit (.bool true)], args := [d1, d2] }
  | _ => none }
def civilYearsRow : OpenClaim := { program := "ytncgfmbogdhgbaa", sum := "351e97c6f64612dc472f3ed17575bdf28b91da2a329e80cb8741b5291851c2a8", func := "numerary/numerarylaw24.CivilYears", spec := "civilYears", apart := false }
def CivilYearsSaid : Prop := civilYearsRow.holds Try.pinned (OpenSpec.ofChange civilYearsSpec)

/-- ITS FALSE NEIGHBOUR: 'it returns false'. Refute it at one input. -/
def civilYearsWrong : ChangeSpec := { name := "civilYears", fn := fun _ => fun
  | [d1, d2] => { results := [.lit (.bool false)], args := [d1, d2] }
  | _ => none }
def CivilYearsWrongFalsely : Prop := civilYearsRow.holds Try.pinned (OpenSpec.ofChange civilYearsWrong)

/-- 'numerarylaw24.CivilNext': WHATEVER THE INPUT: true; the input reads as it did. -/
def civilNextSpec : ChangeSpec := { name := "civilNext", fn := fun _ => fun
  | [d] => { results := [.lit (.bool true)], args := [d] }
  | _ => none }
def civilNextRow : OpenClaim := { program := "ytncgfmbogdhgbaa", sum := "351e97c6f64612dc472f3ed17575bdf28b91da2a329e80cb8741b5291851c2a8", func := "numerary/numerarylaw24.CivilNext", spec := "civilNext", apart := false }
def CivilNextSaid : Prop := civilNextRow.holds Try.pinned (OpenSpec.ofChange civilNextSpec)

/-- ITS FALSE NEIGHBOUR: 'it returns false'. Refute it at one input. -/
def civilNextWrong : ChangeSpec := { name := "civilNext", fn := fun _ => fun
  | [d] => { results := [.lit (.bool false)], args := [d] }
  | _ => none }
def CivilNextWrongFalsely : Prop := civilNextRow.holds Try.pinned (OpenSpec.ofChange civilNextWrong)

/-- 'numerarylaw24.CivilMonths': WHATEVER THE INPUT: true; the input reads as it did. -/
def civilMonthsSpec : ChangeSpec := { name := "civilMonths", fn := fun _ => fun
  | [d1, d2, d3] => { results := [.lit (.bool true)], args := [d1, d2, d3] }
  | _ => none }
def civilMonthsRow : OpenClaim := { program := "ytncgfmbogdhgbaa", sum := "351e97c6f64612dc472f3ed17575bdf28b91da2a329e80cb8741b5291851c2a8", func := "numerary/numerarylaw24.CivilMonths", spec := "civilMonths", apart := false }
def CivilMonthsSaid : Prop := civilMonthsRow.holds Try.pinned (OpenSpec.ofChange civilMonthsSpec)

/-- ITS FALSE NEIGHBOUR: 'it returns false'. Refute it at one input. -/
def civilMonthsWrong : ChangeSpec := { name := "civilMonths", fn := fun _ => fun
  | [d1, d2, d3] => { results := [.lit (.bool false)], args := [d1, d2, d3] }
  | _ => none }
def CivilMonthsWrongFalsely : Prop := civilMonthsRow.holds Try.pinned (OpenSpec.ofChange civilMonthsWrong)

/- THE SECOND FORM. 'bulk': how many values and letters a reading holds, each counted each time it is reached (what is shared counts as often as it is met; a slice's spare places count too). A statement '..UptoSaid' is the law's where the arguments, and the package variables that the reading takes, are together of bulk at most 1048576: NARROWER than '..Said'. Prove '..Said' where nothing that the law and all that it calls make is longer than what came in: it says more and counts as full. Else prove '..UptoSaid'. A law counts once. -/
mutual
def uptoBulk {H : Type} : DataW H → Nat
  | .lit (.string bytes) => bytes.length + 1
  | .lit _ => 1
  | .nil => 1
  | .ptr d => uptoBulk d + 1
  | .slice elems spare => uptoBulkAll elems + uptoBulkAll spare + 1
  | .agg parts => uptoBulkAll parts + 1
  | .iface _ d => uptoBulk d + 1
  | .map entries => uptoBulkEntries entries + 1
  | .held _ => 1
def uptoBulkAll {H : Type} : List (DataW H) → Nat
  | [] => 0
  | d :: r => uptoBulk d + uptoBulkAll r
def uptoBulkEntries {H : Type} : List (Lit × DataW H) → Nat
  | [] => 0
  | x :: r => uptoBulkEntry x + uptoBulkEntries r
def uptoBulkEntry {H : Type} : Lit × DataW H → Nat
  | (.string bytes, d) => bytes.length + uptoBulk d + 1
  | (_, d) => uptoBulk d + 1
 end
def uptoSmall : (H : Type) → List (DataW H) → Bool := fun _ ds => decide (uptoBulkAll ds ≤ 1048576)
def OpenSpec.upto (s : _root_.Go.ChangeSpec) : _root_.Go.OpenSpec := { _root_.Go.OpenSpec.ofChange s with cond := some uptoSmall }

/-- 'numerarylaw24.CivilDays', WHERE WHAT IT READS IS OF BULK AT MOST 1048576: true; the input reads as it did. -/
def civilDaysUptoRow : OpenClaim := { program := "ytncgfmbogdhgbaa", sum := "351e97c6f64612dc472f3ed17575bdf28b91da2a329e80cb8741b5291851c2a8", func := "numerary/numerarylaw24.CivilDays", spec := "civilDays", apart := false, narrowed := true }
def CivilDaysUptoSaid : Prop := civilDaysUptoRow.holds Try.pinned (OpenSpec.upto civilDaysSpec)

/-- 'numerarylaw24.CivilSerials', WHERE WHAT IT READS IS OF BULK AT MOST 1048576: true; the input reads as it did. -/
def civilSerialsUptoRow : OpenClaim := { program := "ytncgfmbogdhgbaa", sum := "351e97c6f64612dc472f3ed17575bdf28b91da2a329e80cb8741b5291851c2a8", func := "numerary/numerarylaw24.CivilSerials", spec := "civilSerials", apart := false, narrowed := true }
def CivilSerialsUptoSaid : Prop := civilSerialsUptoRow.holds Try.pinned (OpenSpec.upto civilSerialsSpec)

/-- 'numerarylaw24.CivilYears', WHERE WHAT IT READS IS OF BULK AT MOST 1048576: true; the input reads as it did. -/
def civilYearsUptoRow : OpenClaim := { program := "ytncgfmbogdhgbaa", sum := "351e97c6f64612dc472f3ed17575bdf28b91da2a329e80cb8741b5291851c2a8", func := "numerary/numerarylaw24.CivilYears", spec := "civilYears", apart := false, narrowed := true }
def CivilYearsUptoSaid : Prop := civilYearsUptoRow.holds Try.pinned (OpenSpec.upto civilYearsSpec)

/-- 'numerarylaw24.CivilNext', WHERE WHAT IT READS IS OF BULK AT MOST 1048576: true; the input reads as it did. -/
def civilNextUptoRow : OpenClaim := { program := "ytncgfmbogdhgbaa", sum := "351e97c6f64612dc472f3ed17575bdf28b91da2a329e80cb8741b5291851c2a8", func := "numerary/numerarylaw24.CivilNext", spec := "civilNext", apart := false, narrowed := true }
def CivilNextUptoSaid : Prop := civilNextUptoRow.holds Try.pinned (OpenSpec.upto civilNextSpec)

/-- 'numerarylaw24.CivilMonths', WHERE WHAT IT READS IS OF BULK AT MOST 1048576: true; the input reads as it did. -/
def civilMonthsUptoRow : OpenClaim := { program := "ytncgfmbogdhgbaa", sum := "351e97c6f64612dc472f3ed17575bdf28b91da2a329e80cb8741b5291851c2a8", func := "numerary/numerarylaw24.CivilMonths", spec := "civilMonths", apart := false, narrowed := true }
def CivilMonthsUptoSaid : Prop := civilMonthsUptoRow.holds Try.pinned (OpenSpec.upto civilMonthsSpec)

end Rows
end Go.Proofs.Ytncgfmbogdhgbaa
