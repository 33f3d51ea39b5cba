/-
  No cell of these rows narrows 'for every input' (looked for: loops, veiled, ifaces, maps, wideKeys, modest, calm, conditions, laid).
  DERIVED. THE GIVEN ROWS OF THIS SEAT. 8 by the template 'for every input the law returns true; each argument reads behind the call as it read before'; 0 by the template 'total and deterministic' (their statements: YtdmolcopnehkbaaTotals.lean).
  GIVEN WITH THE SEED: the statements are not yours to turn. If you find one false, say at which input.
  Laid BY PROGRAM, IN A SANDBOX (cutbox-rows.mjs): the forced cells as the released guide's own fill.sh prints them over the translation eab9789d33692a6b… (all of the seat's roots in one cut). By AI agents, Wed Nov 11 2026. No macro, syntax, notation, axiom, sorry.
-/
import Derived.Test.YtdmolcopnehkbaaChecked
import GoSem.Claim
import GoSem.ClaimJoined
import GoSem.ClaimMapViews
import Derived.JoinedTies
import Derived.KernelRfl
namespace Go.Proofs.Ytdmolcopnehkbaa
/- THE CELL 'sum', in the pinned program and in every row, IS THE sha256 OF THE DUMP (.gsa) THAT YtdmolcopnehkbaaProg.lean LOADS. Nothing in Lean hashes anything: it is a label: what it is worth is what the hold of that sum in a sandbox is worth. -/
noncomputable def Try.pinned : Pinned := { name := "ytdmolcopnehkbaa", sum := "eab9789d33692a6b5c2203006ca474a066fe0b68a720e0a95b85b59de8187760", checked := Try.checked }
namespace Rows
def none {H : Type} : Left H := { results := [], args := [] }

/-- 'algebristlaw01.NatSums': WHATEVER THE INPUT: true; the input reads as it did. -/
def natSumsSpec : ChangeSpec := { name := "natSums", fn := fun _ => fun
  | [d1, d2] => { results := [.lit (.bool true)], args := [d1, d2] }
  | _ => none }
def natSumsRow : OpenClaim := { program := "ytdmolcopnehkbaa", sum := "eab9789d33692a6b5c2203006ca474a066fe0b68a720e0a95b85b59de8187760", func := "algebrist/algebristlaw01.NatSums", spec := "natSums", named := ["math/bits.overflowError"], apart := false }
def NatSumsSaid : Prop := natSumsRow.holds Try.pinned (OpenSpec.ofChange natSumsSpec)

/-- ITS FALSE NEIGHBOUR: 'it returns false'. Refute it at one input. -/
def natSumsWrong : ChangeSpec := { name := "natSums", fn := fun _ => fun
  | [d1, d2] => { results := [.lit (.bool false)], args := [d1, d2] }
  | _ => none }
def NatSumsWrongFalsely : Prop := natSumsRow.holds Try.pinned (OpenSpec.ofChange natSumsWrong)

/-- 'algebristlaw01.NatProducts': WHATEVER THE INPUT: true; the input reads as it did. -/
def natProductsSpec : ChangeSpec := { name := "natProducts", fn := fun _ => fun
  | [d1, d2] => { results := [.lit (.bool true)], args := [d1, d2] }
  | _ => none }
def natProductsRow : OpenClaim := { program := "ytdmolcopnehkbaa", sum := "eab9789d33692a6b5c2203006ca474a066fe0b68a720e0a95b85b59de8187760", func := "algebrist/algebristlaw01.NatProducts", spec := "natProducts", named := ["math/bits.overflowError"], apart := false }
def NatProductsSaid : Prop := natProductsRow.holds Try.pinned (OpenSpec.ofChange natProductsSpec)

/-- ITS FALSE NEIGHBOUR: 'it returns false'. Refute it at one input. -/
def natProductsWrong : ChangeSpec := { name := "natProducts", fn := fun _ => fun
  | [d1, d2] => { results := [.lit (.bool false)], args := [d1, d2] }
  | _ => none }
def NatProductsWrongFalsely : Prop := natProductsRow.holds Try.pinned (OpenSpec.ofChange natProductsWrong)

/-- 'algebristlaw01.NatShifts': WHATEVER THE INPUT: true; the input reads as it did. -/
def natShiftsSpec : ChangeSpec := { name := "natShifts", fn := fun _ => fun
  | [d1, d2] => { results := [.lit (.bool true)], args := [d1, d2] }
  | _ => none }
def natShiftsRow : OpenClaim := { program := "ytdmolcopnehkbaa", sum := "eab9789d33692a6b5c2203006ca474a066fe0b68a720e0a95b85b59de8187760", func := "algebrist/algebristlaw01.NatShifts", spec := "natShifts", named := ["math/bits.overflowError"], apart := false }
def NatShiftsSaid : Prop := natShiftsRow.holds Try.pinned (OpenSpec.ofChange natShiftsSpec)

/-- ITS FALSE NEIGHBOUR: 'it returns false'. Refute it at one input. -/
def natShiftsWrong : ChangeSpec := { name := "natShifts", fn := fun _ => fun
  | [d1, d2] => { results := [.lit (.bool false)], args := [d1, d2] }
  | _ => none }
def NatShiftsWrongFalsely : Prop := natShiftsRow.holds Try.pinned (OpenSpec.ofChange natShiftsWrong)

/-- 'algebristlaw01.NatPowers': WHATEVER THE INPUT: true; the input reads as it did. -/
def natPowersSpec : ChangeSpec := { name := "natPowers", fn := fun _ => fun
  | [d1, d2, d3] => { results := [.lit (.bool true)], args := [d1, d2, d3] }
  | _ => none }
def natPowersRow : OpenClaim := { program := "ytdmolcopnehkbaa", sum := "eab9789d33692a6b5c2203006ca474a066fe0b68a720e0a95b85b59de8187760", func := "algebrist/algebristlaw01.NatPowers", spec := "natPowers", named := ["math/bits.overflowError"], apart := false }
def NatPowersSaid : Prop := natPowersRow.holds Try.pinned (OpenSpec.ofChange natPowersSpec)

/-- ITS FALSE NEIGHBOUR: 'it returns false'. Refute it at one input. -/
def natPowersWrong : ChangeSpec := { name := "natPowers", fn := fun _ => fun
  | [d1, d2, d3] => { results := [.lit (.bool false)], args := [d1, d2, d3] }
  | _ => none }
def NatPowersWrongFalsely : Prop := natPowersRow.holds Try.pinned (OpenSpec.ofChange natPowersWrong)

/-- 'algebristlaw01.NatUints': WHATEVER THE INPUT: true; the input reads as it did. -/
def natUintsSpec : ChangeSpec := { name := "natUints", fn := fun _ => fun
  | [d1, d2, d3] => { results := [.lit (.bool true)], args := [d1, d2, d3] }
  | _ => none }
def natUintsRow : OpenClaim := { program := "ytdmolcopnehkbaa", sum := "eab9789d33692a6b5c2203006ca474a066fe0b68a720e0a95b85b59de8187760", func := "algebrist/algebristlaw01.NatUints", spec := "natUints", named := ["math/bits.overflowError"], apart := false }
def NatUintsSaid : Prop := natUintsRow.holds Try.pinned (OpenSpec.ofChange natUintsSpec)

/-- ITS FALSE NEIGHBOUR: 'it returns false'. Refute it at one input. -/
def natUintsWrong : ChangeSpec := { name := "natUints", fn := fun _ => fun
  | [d1, d2, d3] => { results := [.lit (.bool false)], args := [d1, d2, d3] }
  | _ => none }
def NatUintsWrongFalsely : Prop := natUintsRow.holds Try.pinned (OpenSpec.ofChange natUintsWrong)

/-- 'algebristlaw01.NatBack': WHATEVER THE INPUT: true; the input reads as it did. -/
def natBackSpec : ChangeSpec := { name := "natBack", fn := fun _ => fun
  | [d1, d2, d3] => { results := [.lit (.bool true)], args := [d1, d2, d3] }
  | _ => none }
def natBackRow : OpenClaim := { program := "ytdmolcopnehkbaa", sum := "eab9789d33692a6b5c2203006ca474a066fe0b68a720e0a95b85b59de8187760", func := "algebrist/algebristlaw01.NatBack", spec := "natBack", named := ["math/bits.overflowError"], apart := false }
def NatBackSaid : Prop := natBackRow.holds Try.pinned (OpenSpec.ofChange natBackSpec)

/-- ITS FALSE NEIGHBOUR: 'it returns false'. Refute it at one input. -/
def natBackWrong : ChangeSpec := { name := "natBack", fn := fun _ => fun
  | [d1, d2, d3] => { results := [.lit (.bool false)], args := [d1, d2, d3] }
  | _ => none }
def NatBackWrongFalsely : Prop := natBackRow.holds Try.pinned (OpenSpec.ofChange natBackWrong)

/-- 'algebristlaw01.NatRest': WHATEVER THE INPUT: true; the input reads as it did. -/
def natRestSpec : ChangeSpec := { name := "natRest", fn := fun _ => fun
  | [d1, d2] => { results := [.lit (.bool true)], args := [d1, d2] }
  | _ => none }
def natRestRow : OpenClaim := { program := "ytdmolcopnehkbaa", sum := "eab9789d33692a6b5c2203006ca474a066fe0b68a720e0a95b85b59de8187760", func := "algebrist/algebristlaw01.NatRest", spec := "natRest", named := ["math/bits.overflowError"], apart := false }
def NatRestSaid : Prop := natRestRow.holds Try.pinned (OpenSpec.ofChange natRestSpec)

/-- ITS FALSE NEIGHBOUR: 'it returns false'. Refute it at one input. -/
def natRestWrong : ChangeSpec := { name := "natRest", fn := fun _ => fun
  | [d1, d2] => { results := [.lit (.bool false)], args := [d1, d2] }
  | _ => none }
def NatRestWrongFalsely : Prop := natRestRow.holds Try.pinned (OpenSpec.ofChange natRestWrong)

/-- 'algebristlaw01.NatLaws': WHATEVER THE INPUT: true; the input reads as it did. -/
def natLawsSpec : ChangeSpec := { name := "natLaws", fn := fun _ => fun
  | [d1, d2, d3] => { results := [.lit (.bool true)], args := [d1, d2, d3] }
  | _ => none }
def natLawsRow : OpenClaim := { program := "ytdmolcopnehkbaa", sum := "eab9789d33692a6b5c2203006ca474a066fe0b68a720e0a95b85b59de8187760", func := "algebrist/algebristlaw01.NatLaws", spec := "natLaws", named := ["math/bits.overflowError"], apart := false }
def NatLawsSaid : Prop := natLawsRow.holds Try.pinned (OpenSpec.ofChange natLawsSpec)

/-- ITS FALSE NEIGHBOUR: 'it returns false'. Refute it at one input. -/
def natLawsWrong : ChangeSpec := { name := "natLaws", fn := fun _ => fun
  | [d1, d2, d3] => { results := [.lit (.bool false)], args := [d1, d2, d3] }
  | _ => none }
def NatLawsWrongFalsely : Prop := natLawsRow.holds Try.pinned (OpenSpec.ofChange natLawsWrong)

/- THE SECOND FORM. 'bulk': how many values and letters a reading holds, each counted each time it is reached (what is shared counts as often as it is met; a slice's spare places count too). A statement '..UptoSaid' is the law's where the arguments, and the package variables that the reading takes, are together of bulk at most 1048576: NARROWER than '..Said'. Prove '..Said' where nothing that the law and all that it calls make is longer than what came in: it says more and counts as full. Else prove '..UptoSaid'. A law counts once. -/
mutual
def uptoBulk {H : Type} : DataW H → Nat
  | .lit (.string bytes) => bytes.length + 1
  | .lit _ => 1
  | .nil => 1
  | .ptr d => uptoBulk d + 1
  | .slice elems spare => uptoBulkAll elems + uptoBulkAll spare + 1
  | .agg parts => uptoBulkAll parts + 1
  | .iface _ d => uptoBulk d + 1
  | .map entries => uptoBulkEntries entries + 1
  | .held _ => 1
def uptoBulkAll {H : Type} : List (DataW H) → Nat
  | [] => 0
  | d :: r => uptoBulk d + uptoBulkAll r
def uptoBulkEntries {H : Type} : List (Lit × DataW H) → Nat
  | [] => 0
  | x :: r => uptoBulkEntry x + uptoBulkEntries r
def uptoBulkEntry {H : Type} : Lit × DataW H → Nat
  | (.string bytes, d) => bytes.length + uptoBulk d + 1
  | (_, d) => uptoBulk d + 1
 end
def uptoSmall : (H : Type) → List (DataW H) → Bool := fun _ ds => decide (uptoBulkAll ds ≤ 1048576)
def OpenSpec.upto (s : _root_.Go.ChangeSpec) : _root_.Go.OpenSpec := { _root_.Go.OpenSpec.ofChange s with cond := some uptoSmall }

/-- 'algebristlaw01.NatSums', WHERE WHAT IT READS IS OF BULK AT MOST 1048576: true; the input reads as it did. -/
def natSumsUptoRow : OpenClaim := { program := "ytdmolcopnehkbaa", sum := "eab9789d33692a6b5c2203006ca474a066fe0b68a720e0a95b85b59de8187760", func := "algebrist/algebristlaw01.NatSums", spec := "natSums", named := ["math/bits.overflowError"], apart := false, narrowed := true }
def NatSumsUptoSaid : Prop := natSumsUptoRow.holds Try.pinned (OpenSpec.upto natSumsSpec)

/-- 'algebristlaw01.NatProducts', WHERE WHAT IT READS IS OF BULK AT MOST 1048576: true; the input reads as it did. -/
def natProductsUptoRow : OpenClaim := { program := "ytdmolcopnehkbaa", sum := "eab9789d33692a6b5c2203006ca474a066fe0b68a720e0a95b85b59de8187760", func := "algebrist/algebristlaw01.NatProducts", spec := "natProducts", named := ["math/bits.overflowError"], apart := false, narrowed := true }
def NatProductsUptoSaid : Prop := natProductsUptoRow.holds Try.pinned (OpenSpec.upto natProductsSpec)

/-- 'algebristlaw01.NatShifts', WHERE WHAT IT READS IS OF BULK AT MOST 1048576: true; the input reads as it did. -/
def natShiftsUptoRow : OpenClaim := { program := "ytdmolcopnehkbaa", sum := "eab9789d33692a6b5c2203006ca474a066fe0b68a720e0a95b85b59de8187760", func := "algebrist/algebristlaw01.NatShifts", spec := "natShifts", named := ["math/bits.overflowError"], apart := false, narrowed := true }
def NatShiftsUptoSaid : Prop := natShiftsUptoRow.holds Try.pinned (OpenSpec.upto natShiftsSpec)

/-- 'algebristlaw01.NatPowers', WHERE WHAT IT READS IS OF BULK AT MOST 1048576: true; the input reads as it did. -/
def natPowersUptoRow : OpenClaim := { program := "ytdmolcopnehkbaa", sum := "eab9789d33692a6b5c2203006ca474a066fe0b68a720e0a95b85b59de8187760", func := "algebrist/algebristlaw01.NatPowers", spec := "natPowers", named := ["math/bits.overflowError"], apart := false, narrowed := true }
def NatPowersUptoSaid : Prop := natPowersUptoRow.holds Try.pinned (OpenSpec.upto natPowersSpec)

/-- 'algebristlaw01.NatUints', WHERE WHAT IT READS IS OF BULK AT MOST 1048576: true; the input reads as it did. -/
def natUintsUptoRow : OpenClaim := { program := "ytdmolcopnehkbaa", sum := "eab9789d33692a6b5c2203006ca474a066fe0b68a720e0a95b85b59de8187760", func := "algebrist/algebristlaw01.NatUints", spec := "natUints", named := ["math/bits.overflowError"], apart := false, narrowed := true }
def NatUintsUptoSaid : Prop := natUintsUptoRow.holds Try.pinned (OpenSpec.upto natUintsSpec)

/-- 'algebristlaw01.NatBack', WHERE WHAT IT READS IS OF BULK AT MOST 1048576: true; the input reads as it did. -/
def natBackUptoRow : OpenClaim := { program := "ytdmolcopnehkbaa", sum := "eab9789d33692a6b5c2203006ca474a066fe0b68a720e0a95b85b59de8187760", func := "algebrist/algebristlaw01.NatBack", spec := "natBack", named := ["math/bits.overflowError"], apart := false, narrowed := true }
def NatBackUptoSaid : Prop := natBackUptoRow.holds Try.pinned (OpenSpec.upto natBackSpec)

/-- 'algebristlaw01.NatRest', WHERE WHAT IT READS IS OF BULK AT MOST 1048576: true; the input reads as it did. -/
def natRestUptoRow : OpenClaim := { program := "ytdmolcopnehkbaa", sum := "eab9789d33692a6b5c2203006ca474a066fe0b68a720e0a95b85b59de8187760", func := "algebrist/algebristlaw01.NatRest", spec := "natRest", named := ["math/bits.overflowError"], apart := false, narrowed := true }
def NatRestUptoSaid : Prop := natRestUptoRow.holds Try.pinned (OpenSpec.upto natRestSpec)

/-- 'algebristlaw01.NatLaws', WHERE WHAT IT READS IS OF BULK AT MOST 1048576: true; the input reads as it did. -/
def natLawsUptoRow : OpenClaim := { program := "ytdmolcopnehkbaa", sum := "eab9789d33692a6b5c2203006ca474a066fe0b68a720e0a95b85b59de8187760", func := "algebrist/algebristlaw01.NatLaws", spec := "natLaws", named := ["math/bits.overflowError"], apart := false, narrowed := true }
def NatLawsUptoSaid : Prop := natLawsUptoRow.holds Try.pinned (OpenSpec.upto natLawsSpec)

end Rows
end Go.Proofs.Ytdmolcopnehkbaa
