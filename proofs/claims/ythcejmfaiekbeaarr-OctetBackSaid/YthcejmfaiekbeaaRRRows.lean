/-
  No cell of these rows narrows 'for every input' (looked for: loops, veiled, ifaces, maps, wideKeys, modest, calm, conditions, laid).
  DERIVED. THE GIVEN ROWS OF THIS SEAT. 17 by the template 'for every input the law returns true; each argument reads behind the call as it read before'; 0 by the template 'total and deterministic' (their statements: YthcejmfaiekbeaaRRTotals.lean).
  GIVEN WITH THE SEED: the statements are not yours to turn. If you find one false, say at which input.
  Laid BY PROGRAM, IN A SANDBOX (cutbox-rows.mjs): the forced cells as the released guide's own fill.sh prints them over the translation c36be7775266ad27… (all of the seat's roots in one cut). By AI agents, Wed Nov 11 2026. No macro, syntax, notation, axiom, sorry.
-/
import Derived.Test.YthcejmfaiekbeaaRRChecked
import GoSem.Claim
import GoSem.ClaimJoined
import GoSem.ClaimMapViews
import Derived.JoinedTies
import Derived.KernelRfl
namespace Go.Proofs.YthcejmfaiekbeaaRR
/- THE CELL 'sum', in the pinned program and in every row, IS THE sha256 OF THE DUMP (.gsa) THAT YthcejmfaiekbeaaRRProg.lean LOADS. Nothing in Lean hashes anything: it is a label: what it is worth is what the hold of that sum in a sandbox is worth. -/
noncomputable def Try.pinned : Pinned := { name := "ythcejmfaiekbeaarr", sum := "c36be7775266ad277b6a0c952af2981d11ad3f3ebafb7fa5376cf2e0e8980605", checked := Try.checked }
namespace Rows
def none {H : Type} : Left H := { results := [], args := [] }

/-- 'tollhouselaw01.OctetLays': WHATEVER THE INPUT: true; the input reads as it did. -/
def octetLaysSpec : ChangeSpec := { name := "octetLays", fn := fun _ => fun
  | [d1, d2] => { results := [.lit (.bool true)], args := [d1, d2] }
  | _ => none }
def octetLaysRow : OpenClaim := { program := "ythcejmfaiekbeaarr", sum := "c36be7775266ad277b6a0c952af2981d11ad3f3ebafb7fa5376cf2e0e8980605", func := "tollhouse/tollhouselaw01.OctetLays", spec := "octetLays", plainKeys := false, apart := false }
def OctetLaysSaid : Prop := octetLaysRow.holds Try.pinned (OpenSpec.ofChange octetLaysSpec)

/-- ITS FALSE NEIGHBOUR: 'it returns false'. Refute it at one input. -/
def octetLaysWrong : ChangeSpec := { name := "octetLays", fn := fun _ => fun
  | [d1, d2] => { results := [.lit (.bool false)], args := [d1, d2] }
  | _ => none }
def OctetLaysWrongFalsely : Prop := octetLaysRow.holds Try.pinned (OpenSpec.ofChange octetLaysWrong)

/-- 'tollhouselaw01.OctetOnes': WHATEVER THE INPUT: true; the input reads as it did. -/
def octetOnesSpec : ChangeSpec := { name := "octetOnes", fn := fun _ => fun
  | [d1, d2, d3, d4] => { results := [.lit (.bool true)], args := [d1, d2, d3, d4] }
  | _ => none }
def octetOnesRow : OpenClaim := { program := "ythcejmfaiekbeaarr", sum := "c36be7775266ad277b6a0c952af2981d11ad3f3ebafb7fa5376cf2e0e8980605", func := "tollhouse/tollhouselaw01.OctetOnes", spec := "octetOnes", plainKeys := false, apart := false }
def OctetOnesSaid : Prop := octetOnesRow.holds Try.pinned (OpenSpec.ofChange octetOnesSpec)

/-- ITS FALSE NEIGHBOUR: 'it returns false'. Refute it at one input. -/
def octetOnesWrong : ChangeSpec := { name := "octetOnes", fn := fun _ => fun
  | [d1, d2, d3, d4] => { results := [.lit (.bool false)], args := [d1, d2, d3, d4] }
  | _ => none }
def OctetOnesWrongFalsely : Prop := octetOnesRow.holds Try.pinned (OpenSpec.ofChange octetOnesWrong)

/-- 'tollhouselaw18.MemoSizes': WHATEVER THE INPUT: true; the input reads as it did. -/
def memoSizesSpec : ChangeSpec := { name := "memoSizes", fn := fun _ => fun
  | [d1, d2, d3] => { results := [.lit (.bool true)], args := [d1, d2, d3] }
  | _ => none }
def memoSizesRow : OpenClaim := { program := "ythcejmfaiekbeaarr", sum := "c36be7775266ad277b6a0c952af2981d11ad3f3ebafb7fa5376cf2e0e8980605", func := "tollhouse/tollhouselaw18.MemoSizes", spec := "memoSizes", plainKeys := false, apart := false }
def MemoSizesSaid : Prop := memoSizesRow.holds Try.pinned (OpenSpec.ofChange memoSizesSpec)

/-- ITS FALSE NEIGHBOUR: 'it returns false'. Refute it at one input. -/
def memoSizesWrong : ChangeSpec := { name := "memoSizes", fn := fun _ => fun
  | [d1, d2, d3] => { results := [.lit (.bool false)], args := [d1, d2, d3] }
  | _ => none }
def MemoSizesWrongFalsely : Prop := memoSizesRow.holds Try.pinned (OpenSpec.ofChange memoSizesWrong)

/-- 'tollhouselaw01.OctetNil': WHATEVER THE INPUT: true; the input reads as it did. -/
def octetNilSpec : ChangeSpec := { name := "octetNil", fn := fun _ => fun
  | [d] => { results := [.lit (.bool true)], args := [d] }
  | _ => none }
def octetNilRow : OpenClaim := { program := "ythcejmfaiekbeaarr", sum := "c36be7775266ad277b6a0c952af2981d11ad3f3ebafb7fa5376cf2e0e8980605", func := "tollhouse/tollhouselaw01.OctetNil", spec := "octetNil", plainKeys := false, apart := false }
def OctetNilSaid : Prop := octetNilRow.holds Try.pinned (OpenSpec.ofChange octetNilSpec)

/-- ITS FALSE NEIGHBOUR: 'it returns false'. Refute it at one input. -/
def octetNilWrong : ChangeSpec := { name := "octetNil", fn := fun _ => fun
  | [d] => { results := [.lit (.bool false)], args := [d] }
  | _ => none }
def OctetNilWrongFalsely : Prop := octetNilRow.holds Try.pinned (OpenSpec.ofChange octetNilWrong)

/-- 'tollhouselaw18.MemoWrites': WHATEVER THE INPUT: true; the input reads as it did. -/
def memoWritesSpec : ChangeSpec := { name := "memoWrites", fn := fun _ => fun
  | [d] => { results := [.lit (.bool true)], args := [d] }
  | _ => none }
def memoWritesRow : OpenClaim := { program := "ythcejmfaiekbeaarr", sum := "c36be7775266ad277b6a0c952af2981d11ad3f3ebafb7fa5376cf2e0e8980605", func := "tollhouse/tollhouselaw18.MemoWrites", spec := "memoWrites", plainKeys := false, apart := false }
def MemoWritesSaid : Prop := memoWritesRow.holds Try.pinned (OpenSpec.ofChange memoWritesSpec)

/-- ITS FALSE NEIGHBOUR: 'it returns false'. Refute it at one input. -/
def memoWritesWrong : ChangeSpec := { name := "memoWrites", fn := fun _ => fun
  | [d] => { results := [.lit (.bool false)], args := [d] }
  | _ => none }
def MemoWritesWrongFalsely : Prop := memoWritesRow.holds Try.pinned (OpenSpec.ofChange memoWritesWrong)

/-- 'tollhouselaw01.OctetBack': WHATEVER THE INPUT: true; the input reads as it did. -/
def octetBackSpec : ChangeSpec := { name := "octetBack", fn := fun _ => fun
  | [d] => { results := [.lit (.bool true)], args := [d] }
  | _ => none }
def octetBackRow : OpenClaim := { program := "ythcejmfaiekbeaarr", sum := "c36be7775266ad277b6a0c952af2981d11ad3f3ebafb7fa5376cf2e0e8980605", func := "tollhouse/tollhouselaw01.OctetBack", spec := "octetBack", plainKeys := false, apart := false }
def OctetBackSaid : Prop := octetBackRow.holds Try.pinned (OpenSpec.ofChange octetBackSpec)

/-- ITS FALSE NEIGHBOUR: 'it returns false'. Refute it at one input. -/
def octetBackWrong : ChangeSpec := { name := "octetBack", fn := fun _ => fun
  | [d] => { results := [.lit (.bool false)], args := [d] }
  | _ => none }
def OctetBackWrongFalsely : Prop := octetBackRow.holds Try.pinned (OpenSpec.ofChange octetBackWrong)

/-- 'tollhouselaw03.MillSums': WHATEVER THE INPUT: true; the input reads as it did. -/
def millSumsSpec : ChangeSpec := { name := "millSums", fn := fun _ => fun
  | [d] => { results := [.lit (.bool true)], args := [d] }
  | _ => none }
def millSumsRow : OpenClaim := { program := "ythcejmfaiekbeaarr", sum := "c36be7775266ad277b6a0c952af2981d11ad3f3ebafb7fa5376cf2e0e8980605", func := "tollhouse/tollhouselaw03.MillSums", spec := "millSums", plainKeys := false, apart := false }
def MillSumsSaid : Prop := millSumsRow.holds Try.pinned (OpenSpec.ofChange millSumsSpec)

/-- ITS FALSE NEIGHBOUR: 'it returns false'. Refute it at one input. -/
def millSumsWrong : ChangeSpec := { name := "millSums", fn := fun _ => fun
  | [d] => { results := [.lit (.bool false)], args := [d] }
  | _ => none }
def MillSumsWrongFalsely : Prop := millSumsRow.holds Try.pinned (OpenSpec.ofChange millSumsWrong)

/-- 'tollhouselaw03.MillParts': WHATEVER THE INPUT: true; the input reads as it did. -/
def millPartsSpec : ChangeSpec := { name := "millParts", fn := fun _ => fun
  | [d] => { results := [.lit (.bool true)], args := [d] }
  | _ => none }
def millPartsRow : OpenClaim := { program := "ythcejmfaiekbeaarr", sum := "c36be7775266ad277b6a0c952af2981d11ad3f3ebafb7fa5376cf2e0e8980605", func := "tollhouse/tollhouselaw03.MillParts", spec := "millParts", plainKeys := false, apart := false }
def MillPartsSaid : Prop := millPartsRow.holds Try.pinned (OpenSpec.ofChange millPartsSpec)

/-- ITS FALSE NEIGHBOUR: 'it returns false'. Refute it at one input. -/
def millPartsWrong : ChangeSpec := { name := "millParts", fn := fun _ => fun
  | [d] => { results := [.lit (.bool false)], args := [d] }
  | _ => none }
def MillPartsWrongFalsely : Prop := millPartsRow.holds Try.pinned (OpenSpec.ofChange millPartsWrong)

/-- 'tollhouselaw03.MillApart': WHATEVER THE INPUT: true; the input reads as it did. -/
def millApartSpec : ChangeSpec := { name := "millApart", fn := fun _ => fun
  | [d1, d2, d3, d4] => { results := [.lit (.bool true)], args := [d1, d2, d3, d4] }
  | _ => none }
def millApartRow : OpenClaim := { program := "ythcejmfaiekbeaarr", sum := "c36be7775266ad277b6a0c952af2981d11ad3f3ebafb7fa5376cf2e0e8980605", func := "tollhouse/tollhouselaw03.MillApart", spec := "millApart", plainKeys := false, apart := false }
def MillApartSaid : Prop := millApartRow.holds Try.pinned (OpenSpec.ofChange millApartSpec)

/-- ITS FALSE NEIGHBOUR: 'it returns false'. Refute it at one input. -/
def millApartWrong : ChangeSpec := { name := "millApart", fn := fun _ => fun
  | [d1, d2, d3, d4] => { results := [.lit (.bool false)], args := [d1, d2, d3, d4] }
  | _ => none }
def MillApartWrongFalsely : Prop := millApartRow.holds Try.pinned (OpenSpec.ofChange millApartWrong)

/-- 'tollhouselaw03.MillFor': WHATEVER THE INPUT: true; the input reads as it did. -/
def millForSpec : ChangeSpec := { name := "millFor", fn := fun _ => fun
  | [d1, d2, d3] => { results := [.lit (.bool true)], args := [d1, d2, d3] }
  | _ => none }
def millForRow : OpenClaim := { program := "ythcejmfaiekbeaarr", sum := "c36be7775266ad277b6a0c952af2981d11ad3f3ebafb7fa5376cf2e0e8980605", func := "tollhouse/tollhouselaw03.MillFor", spec := "millFor", plainKeys := false, apart := false }
def MillForSaid : Prop := millForRow.holds Try.pinned (OpenSpec.ofChange millForSpec)

/-- ITS FALSE NEIGHBOUR: 'it returns false'. Refute it at one input. -/
def millForWrong : ChangeSpec := { name := "millFor", fn := fun _ => fun
  | [d1, d2, d3] => { results := [.lit (.bool false)], args := [d1, d2, d3] }
  | _ => none }
def MillForWrongFalsely : Prop := millForRow.holds Try.pinned (OpenSpec.ofChange millForWrong)

/-- 'tollhouselaw03.MillLogs': WHATEVER THE INPUT: true; the input reads as it did. -/
def millLogsSpec : ChangeSpec := { name := "millLogs", fn := fun _ => fun
  | [d1, d2] => { results := [.lit (.bool true)], args := [d1, d2] }
  | _ => none }
def millLogsRow : OpenClaim := { program := "ythcejmfaiekbeaarr", sum := "c36be7775266ad277b6a0c952af2981d11ad3f3ebafb7fa5376cf2e0e8980605", func := "tollhouse/tollhouselaw03.MillLogs", spec := "millLogs", plainKeys := false, apart := false }
def MillLogsSaid : Prop := millLogsRow.holds Try.pinned (OpenSpec.ofChange millLogsSpec)

/-- ITS FALSE NEIGHBOUR: 'it returns false'. Refute it at one input. -/
def millLogsWrong : ChangeSpec := { name := "millLogs", fn := fun _ => fun
  | [d1, d2] => { results := [.lit (.bool false)], args := [d1, d2] }
  | _ => none }
def MillLogsWrongFalsely : Prop := millLogsRow.holds Try.pinned (OpenSpec.ofChange millLogsWrong)

/-- 'tollhouselaw03.MillGoes': WHATEVER THE INPUT: true; the input reads as it did. -/
def millGoesSpec : ChangeSpec := { name := "millGoes", fn := fun _ => fun
  | [d] => { results := [.lit (.bool true)], args := [d] }
  | _ => none }
def millGoesRow : OpenClaim := { program := "ythcejmfaiekbeaarr", sum := "c36be7775266ad277b6a0c952af2981d11ad3f3ebafb7fa5376cf2e0e8980605", func := "tollhouse/tollhouselaw03.MillGoes", spec := "millGoes", plainKeys := false, apart := false }
def MillGoesSaid : Prop := millGoesRow.holds Try.pinned (OpenSpec.ofChange millGoesSpec)

/-- ITS FALSE NEIGHBOUR: 'it returns false'. Refute it at one input. -/
def millGoesWrong : ChangeSpec := { name := "millGoes", fn := fun _ => fun
  | [d] => { results := [.lit (.bool false)], args := [d] }
  | _ => none }
def MillGoesWrongFalsely : Prop := millGoesRow.holds Try.pinned (OpenSpec.ofChange millGoesWrong)

/-- 'tollhouselaw04.LampSigns': WHATEVER THE INPUT: true; the input reads as it did. -/
def lampSignsSpec : ChangeSpec := { name := "lampSigns", fn := fun _ => fun
  | [d1, d2, d3] => { results := [.lit (.bool true)], args := [d1, d2, d3] }
  | _ => none }
def lampSignsRow : OpenClaim := { program := "ythcejmfaiekbeaarr", sum := "c36be7775266ad277b6a0c952af2981d11ad3f3ebafb7fa5376cf2e0e8980605", func := "tollhouse/tollhouselaw04.LampSigns", spec := "lampSigns", plainKeys := false, apart := false }
def LampSignsSaid : Prop := lampSignsRow.holds Try.pinned (OpenSpec.ofChange lampSignsSpec)

/-- ITS FALSE NEIGHBOUR: 'it returns false'. Refute it at one input. -/
def lampSignsWrong : ChangeSpec := { name := "lampSigns", fn := fun _ => fun
  | [d1, d2, d3] => { results := [.lit (.bool false)], args := [d1, d2, d3] }
  | _ => none }
def LampSignsWrongFalsely : Prop := lampSignsRow.holds Try.pinned (OpenSpec.ofChange lampSignsWrong)

/-- 'tollhouselaw04.LampFroms': WHATEVER THE INPUT: true; the input reads as it did. -/
def lampFromsSpec : ChangeSpec := { name := "lampFroms", fn := fun _ => fun
  | [d1, d2] => { results := [.lit (.bool true)], args := [d1, d2] }
  | _ => none }
def lampFromsRow : OpenClaim := { program := "ythcejmfaiekbeaarr", sum := "c36be7775266ad277b6a0c952af2981d11ad3f3ebafb7fa5376cf2e0e8980605", func := "tollhouse/tollhouselaw04.LampFroms", spec := "lampFroms", plainKeys := false, apart := false }
def LampFromsSaid : Prop := lampFromsRow.holds Try.pinned (OpenSpec.ofChange lampFromsSpec)

/-- ITS FALSE NEIGHBOUR: 'it returns false'. Refute it at one input. -/
def lampFromsWrong : ChangeSpec := { name := "lampFroms", fn := fun _ => fun
  | [d1, d2] => { results := [.lit (.bool false)], args := [d1, d2] }
  | _ => none }
def LampFromsWrongFalsely : Prop := lampFromsRow.holds Try.pinned (OpenSpec.ofChange lampFromsWrong)

/-- 'tollhouselaw04.LampSound': WHATEVER THE INPUT: true; the input reads as it did. -/
def lampSoundSpec : ChangeSpec := { name := "lampSound", fn := fun _ => fun
  | [d1, d2, d3, d4, d5, d6] => { results := [.lit (.bool true)], args := [d1, d2, d3, d4, d5, d6] }
  | _ => none }
def lampSoundRow : OpenClaim := { program := "ythcejmfaiekbeaarr", sum := "c36be7775266ad277b6a0c952af2981d11ad3f3ebafb7fa5376cf2e0e8980605", func := "tollhouse/tollhouselaw04.LampSound", spec := "lampSound", plainKeys := false, apart := false }
def LampSoundSaid : Prop := lampSoundRow.holds Try.pinned (OpenSpec.ofChange lampSoundSpec)

/-- ITS FALSE NEIGHBOUR: 'it returns false'. Refute it at one input. -/
def lampSoundWrong : ChangeSpec := { name := "lampSound", fn := fun _ => fun
  | [d1, d2, d3, d4, d5, d6] => { results := [.lit (.bool false)], args := [d1, d2, d3, d4, d5, d6] }
  | _ => none }
def LampSoundWrongFalsely : Prop := lampSoundRow.holds Try.pinned (OpenSpec.ofChange lampSoundWrong)

/-- 'tollhouselaw04.LampLong': WHATEVER THE INPUT: true; the input reads as it did. -/
def lampLongSpec : ChangeSpec := { name := "lampLong", fn := fun _ => fun
  | [d1, d2] => { results := [.lit (.bool true)], args := [d1, d2] }
  | _ => none }
def lampLongRow : OpenClaim := { program := "ythcejmfaiekbeaarr", sum := "c36be7775266ad277b6a0c952af2981d11ad3f3ebafb7fa5376cf2e0e8980605", func := "tollhouse/tollhouselaw04.LampLong", spec := "lampLong", plainKeys := false, apart := false }
def LampLongSaid : Prop := lampLongRow.holds Try.pinned (OpenSpec.ofChange lampLongSpec)

/-- ITS FALSE NEIGHBOUR: 'it returns false'. Refute it at one input. -/
def lampLongWrong : ChangeSpec := { name := "lampLong", fn := fun _ => fun
  | [d1, d2] => { results := [.lit (.bool false)], args := [d1, d2] }
  | _ => none }
def LampLongWrongFalsely : Prop := lampLongRow.holds Try.pinned (OpenSpec.ofChange lampLongWrong)

/-- 'tollhouselaw04.LampBytes': WHATEVER THE INPUT: true; the input reads as it did. -/
def lampBytesSpec : ChangeSpec := { name := "lampBytes", fn := fun _ => fun
  | [d1, d2] => { results := [.lit (.bool true)], args := [d1, d2] }
  | _ => none }
def lampBytesRow : OpenClaim := { program := "ythcejmfaiekbeaarr", sum := "c36be7775266ad277b6a0c952af2981d11ad3f3ebafb7fa5376cf2e0e8980605", func := "tollhouse/tollhouselaw04.LampBytes", spec := "lampBytes", plainKeys := false, apart := false }
def LampBytesSaid : Prop := lampBytesRow.holds Try.pinned (OpenSpec.ofChange lampBytesSpec)

/-- ITS FALSE NEIGHBOUR: 'it returns false'. Refute it at one input. -/
def lampBytesWrong : ChangeSpec := { name := "lampBytes", fn := fun _ => fun
  | [d1, d2] => { results := [.lit (.bool false)], args := [d1, d2] }
  | _ => none }
def LampBytesWrongFalsely : Prop := lampBytesRow.holds Try.pinned (OpenSpec.ofChange lampBytesWrong)

/- THE SECOND FORM. 'bulk': how many values and letters a reading holds, each counted each time it is reached (what is shared counts as often as it is met; a slice's spare places count too). A statement '..UptoSaid' is the law's where the arguments, and the package variables that the reading takes, are together of bulk at most 1048576: NARROWER than '..Said'. Prove '..Said' where nothing that the law and all that it calls make is longer than what came in: it says more and counts as full. Else prove '..UptoSaid'. A law counts once. -/
mutual
def uptoBulk {H : Type} : DataW H → Nat
  | .lit (.string bytes) => bytes.length + 1
  | .lit _ => 1
  | .nil => 1
  | .ptr d => uptoBulk d + 1
  | .slice elems spare => uptoBulkAll elems + uptoBulkAll spare + 1
  | .agg parts => uptoBulkAll parts + 1
  | .iface _ d => uptoBulk d + 1
  | .map entries => uptoBulkEntries entries + 1
  | .held _ => 1
def uptoBulkAll {H : Type} : List (DataW H) → Nat
  | [] => 0
  | d :: r => uptoBulk d + uptoBulkAll r
def uptoBulkEntries {H : Type} : List (Lit × DataW H) → Nat
  | [] => 0
  | x :: r => uptoBulkEntry x + uptoBulkEntries r
def uptoBulkEntry {H : Type} : Lit × DataW H → Nat
  | (.string bytes, d) => bytes.length + uptoBulk d + 1
  | (_, d) => uptoBulk d + 1
 end
def uptoSmall : (H : Type) → List (DataW H) → Bool := fun _ ds => decide (uptoBulkAll ds ≤ 1048576)
def OpenSpec.upto (s : _root_.Go.ChangeSpec) : _root_.Go.OpenSpec := { _root_.Go.OpenSpec.ofChange s with cond := some uptoSmall }

/-- 'tollhouselaw01.OctetLays', WHERE WHAT IT READS IS OF BULK AT MOST 1048576: true; the input reads as it did. -/
def octetLaysUptoRow : OpenClaim := { program := "ythcejmfaiekbeaarr", sum := "c36be7775266ad277b6a0c952af2981d11ad3f3ebafb7fa5376cf2e0e8980605", func := "tollhouse/tollhouselaw01.OctetLays", spec := "octetLays", plainKeys := false, apart := false, narrowed := true }
def OctetLaysUptoSaid : Prop := octetLaysUptoRow.holds Try.pinned (OpenSpec.upto octetLaysSpec)

/-- 'tollhouselaw01.OctetOnes', WHERE WHAT IT READS IS OF BULK AT MOST 1048576: true; the input reads as it did. -/
def octetOnesUptoRow : OpenClaim := { program := "ythcejmfaiekbeaarr", sum := "c36be7775266ad277b6a0c952af2981d11ad3f3ebafb7fa5376cf2e0e8980605", func := "tollhouse/tollhouselaw01.OctetOnes", spec := "octetOnes", plainKeys := false, apart := false, narrowed := true }
def OctetOnesUptoSaid : Prop := octetOnesUptoRow.holds Try.pinned (OpenSpec.upto octetOnesSpec)

/-- 'tollhouselaw18.MemoSizes', WHERE WHAT IT READS IS OF BULK AT MOST 1048576: true; the input reads as it did. -/
def memoSizesUptoRow : OpenClaim := { program := "ythcejmfaiekbeaarr", sum := "c36be7775266ad277b6a0c952af2981d11ad3f3ebafb7fa5376cf2e0e8980605", func := "tollhouse/tollhouselaw18.MemoSizes", spec := "memoSizes", plainKeys := false, apart := false, narrowed := true }
def MemoSizesUptoSaid : Prop := memoSizesUptoRow.holds Try.pinned (OpenSpec.upto memoSizesSpec)

/-- 'tollhouselaw01.OctetNil', WHERE WHAT IT READS IS OF BULK AT MOST 1048576: true; the input reads as it did. -/
def octetNilUptoRow : OpenClaim := { program := "ythcejmfaiekbeaarr", sum := "c36be7775266ad277b6a0c952af2981d11ad3f3ebafb7fa5376cf2e0e8980605", func := "tollhouse/tollhouselaw01.OctetNil", spec := "octetNil", plainKeys := false, apart := false, narrowed := true }
def OctetNilUptoSaid : Prop := octetNilUptoRow.holds Try.pinned (OpenSpec.upto octetNilSpec)

/-- 'tollhouselaw18.MemoWrites', WHERE WHAT IT READS IS OF BULK AT MOST 1048576: true; the input reads as it did. -/
def memoWritesUptoRow : OpenClaim := { program := "ythcejmfaiekbeaarr", sum := "c36be7775266ad277b6a0c952af2981d11ad3f3ebafb7fa5376cf2e0e8980605", func := "tollhouse/tollhouselaw18.MemoWrites", spec := "memoWrites", plainKeys := false, apart := false, narrowed := true }
def MemoWritesUptoSaid : Prop := memoWritesUptoRow.holds Try.pinned (OpenSpec.upto memoWritesSpec)

/-- 'tollhouselaw01.OctetBack', WHERE WHAT IT READS IS OF BULK AT MOST 1048576: true; the input reads as it did. -/
def octetBackUptoRow : OpenClaim := { program := "ythcejmfaiekbeaarr", sum := "c36be7775266ad277b6a0c952af2981d11ad3f3ebafb7fa5376cf2e0e8980605", func := "tollhouse/tollhouselaw01.OctetBack", spec := "octetBack", plainKeys := false, apart := false, narrowed := true }
def OctetBackUptoSaid : Prop := octetBackUptoRow.holds Try.pinned (OpenSpec.upto octetBackSpec)

/-- 'tollhouselaw03.MillSums', WHERE WHAT IT READS IS OF BULK AT MOST 1048576: true; the input reads as it did. -/
def millSumsUptoRow : OpenClaim := { program := "ythcejmfaiekbeaarr", sum := "c36be7775266ad277b6a0c952af2981d11ad3f3ebafb7fa5376cf2e0e8980605", func := "tollhouse/tollhouselaw03.MillSums", spec := "millSums", plainKeys := false, apart := false, narrowed := true }
def MillSumsUptoSaid : Prop := millSumsUptoRow.holds Try.pinned (OpenSpec.upto millSumsSpec)

/-- 'tollhouselaw03.MillParts', WHERE WHAT IT READS IS OF BULK AT MOST 1048576: true; the input reads as it did. -/
def millPartsUptoRow : OpenClaim := { program := "ythcejmfaiekbeaarr", sum := "c36be7775266ad277b6a0c952af2981d11ad3f3ebafb7fa5376cf2e0e8980605", func := "tollhouse/tollhouselaw03.MillParts", spec := "millParts", plainKeys := false, apart := false, narrowed := true }
def MillPartsUptoSaid : Prop := millPartsUptoRow.holds Try.pinned (OpenSpec.upto millPartsSpec)

/-- 'tollhouselaw03.MillApart', WHERE WHAT IT READS IS OF BULK AT MOST 1048576: true; the input reads as it did. -/
def millApartUptoRow : OpenClaim := { program := "ythcejmfaiekbeaarr", sum := "c36be7775266ad277b6a0c952af2981d11ad3f3ebafb7fa5376cf2e0e8980605", func := "tollhouse/tollhouselaw03.MillApart", spec := "millApart", plainKeys := false, apart := false, narrowed := true }
def MillApartUptoSaid : Prop := millApartUptoRow.holds Try.pinned (OpenSpec.upto millApartSpec)

/-- 'tollhouselaw03.MillFor', WHERE WHAT IT READS IS OF BULK AT MOST 1048576: true; the input reads as it did. -/
def millForUptoRow : OpenClaim := { program := "ythcejmfaiekbeaarr", sum := "c36be7775266ad277b6a0c952af2981d11ad3f3ebafb7fa5376cf2e0e8980605", func := "tollhouse/tollhouselaw03.MillFor", spec := "millFor", plainKeys := false, apart := false, narrowed := true }
def MillForUptoSaid : Prop := millForUptoRow.holds Try.pinned (OpenSpec.upto millForSpec)

/-- 'tollhouselaw03.MillLogs', WHERE WHAT IT READS IS OF BULK AT MOST 1048576: true; the input reads as it did. -/
def millLogsUptoRow : OpenClaim := { program := "ythcejmfaiekbeaarr", sum := "c36be7775266ad277b6a0c952af2981d11ad3f3ebafb7fa5376cf2e0e8980605", func := "tollhouse/tollhouselaw03.MillLogs", spec := "millLogs", plainKeys := false, apart := false, narrowed := true }
def MillLogsUptoSaid : Prop := millLogsUptoRow.holds Try.pinned (OpenSpec.upto millLogsSpec)

/-- 'tollhouselaw03.MillGoes', WHERE WHAT IT READS IS OF BULK AT MOST 1048576: true; the input reads as it did. -/
def millGoesUptoRow : OpenClaim := { program := "ythcejmfaiekbeaarr", sum := "c36be7775266ad277b6a0c952af2981d11ad3f3ebafb7fa5376cf2e0e8980605", func := "tollhouse/tollhouselaw03.MillGoes", spec := "millGoes", plainKeys := false, apart := false, narrowed := true }
def MillGoesUptoSaid : Prop := millGoesUptoRow.holds Try.pinned (OpenSpec.upto millGoesSpec)

/-- 'tollhouselaw04.LampSigns', WHERE WHAT IT READS IS OF BULK AT MOST 1048576: true; the input reads as it did. -/
def lampSignsUptoRow : OpenClaim := { program := "ythcejmfaiekbeaarr", sum := "c36be7775266ad277b6a0c952af2981d11ad3f3ebafb7fa5376cf2e0e8980605", func := "tollhouse/tollhouselaw04.LampSigns", spec := "lampSigns", plainKeys := false, apart := false, narrowed := true }
def LampSignsUptoSaid : Prop := lampSignsUptoRow.holds Try.pinned (OpenSpec.upto lampSignsSpec)

/-- 'tollhouselaw04.LampFroms', WHERE WHAT IT READS IS OF BULK AT MOST 1048576: true; the input reads as it did. -/
def lampFromsUptoRow : OpenClaim := { program := "ythcejmfaiekbeaarr", sum := "c36be7775266ad277b6a0c952af2981d11ad3f3ebafb7fa5376cf2e0e8980605", func := "tollhouse/tollhouselaw04.LampFroms", spec := "lampFroms", plainKeys := false, apart := false, narrowed := true }
def LampFromsUptoSaid : Prop := lampFromsUptoRow.holds Try.pinned (OpenSpec.upto lampFromsSpec)

/-- 'tollhouselaw04.LampSound', WHERE WHAT IT READS IS OF BULK AT MOST 1048576: true; the input reads as it did. -/
def lampSoundUptoRow : OpenClaim := { program := "ythcejmfaiekbeaarr", sum := "c36be7775266ad277b6a0c952af2981d11ad3f3ebafb7fa5376cf2e0e8980605", func := "tollhouse/tollhouselaw04.LampSound", spec := "lampSound", plainKeys := false, apart := false, narrowed := true }
def LampSoundUptoSaid : Prop := lampSoundUptoRow.holds Try.pinned (OpenSpec.upto lampSoundSpec)

/-- 'tollhouselaw04.LampLong', WHERE WHAT IT READS IS OF BULK AT MOST 1048576: true; the input reads as it did. -/
def lampLongUptoRow : OpenClaim := { program := "ythcejmfaiekbeaarr", sum := "c36be7775266ad277b6a0c952af2981d11ad3f3ebafb7fa5376cf2e0e8980605", func := "tollhouse/tollhouselaw04.LampLong", spec := "lampLong", plainKeys := false, apart := false, narrowed := true }
def LampLongUptoSaid : Prop := lampLongUptoRow.holds Try.pinned (OpenSpec.upto lampLongSpec)

/-- 'tollhouselaw04.LampBytes', WHERE WHAT IT READS IS OF BULK AT MOST 1048576: true; the input reads as it did. -/
def lampBytesUptoRow : OpenClaim := { program := "ythcejmfaiekbeaarr", sum := "c36be7775266ad277b6a0c952af2981d11ad3f3ebafb7fa5376cf2e0e8980605", func := "tollhouse/tollhouselaw04.LampBytes", spec := "lampBytes", plainKeys := false, apart := false, narrowed := true }
def LampBytesUptoSaid : Prop := lampBytesUptoRow.holds Try.pinned (OpenSpec.upto lampBytesSpec)

end Rows
end Go.Proofs.YthcejmfaiekbeaaRR
