/-
  No cell of these rows narrows 'for every input' (looked for: loops, veiled, ifaces, maps, wideKeys, modest, calm, conditions, laid).
  DERIVED. THE GIVEN ROWS OF THIS SEAT. 16 by the template 'for every input the law returns true; each argument reads behind the call as it read before'; 0 by the template 'total and deterministic' (their statements: YtljokmmgkecjbaaTotals.lean).
  GIVEN WITH THE SEED: the statements are not yours to turn. If you find one false, say at which input.
  Laid BY PROGRAM, IN A SANDBOX (cutbox-rows.mjs): the forced cells as the released guide's own fill.sh prints them over the translation 2f73dd0a5977d8d4… (all of the seat's roots in one cut). By AI agents, Wed Nov 11 2026. No macro, syntax, notation, axiom, sorry.
-/
import Derived.Test.YtljokmmgkecjbaaChecked
import GoSem.Claim
import GoSem.ClaimJoined
import GoSem.ClaimMapViews
import Derived.JoinedTies
import Derived.KernelRfl
namespace Go.Proofs.Ytljokmmgkecjbaa
/- THE CELL 'sum', in the pinned program and in every row, IS THE sha256 OF THE DUMP (.gsa) THAT YtljokmmgkecjbaaProg.lean LOADS. Nothing in Lean hashes anything: it is a label: what it is worth is what the hold of that sum in a sandbox is worth. -/
noncomputable def Try.pinned : Pinned := { name := "ytljokmmgkecjbaa", sum := "2f73dd0a5977d8d4f8c09c27179b686c577cab1f15b8d25e46f3b17f9ace46e7", checked := Try.checked }
namespace Rows
def none {H : Type} : Left H := { results := [], args := [] }

/-- 'dasdlaw16.KeyNumbers': WHATEVER THE INPUT: true; the input reads as it did. -/
def keyNumbersSpec : ChangeSpec := { name := "keyNumbers", fn := fun _ => fun
  | [d1, d2, d3] => { results := [.lit (.bool true)], args := [d1, d2, d3] }
  | _ => none }
def keyNumbersRow : OpenClaim := { program := "ytljokmmgkecjbaa", sum := "2f73dd0a5977d8d4f8c09c27179b686c577cab1f15b8d25e46f3b17f9ace46e7", func := "dasd/dasdlaw16.KeyNumbers", spec := "keyNumbers", unfollowed := true, recurses := true, apart := false }
def KeyNumbersSaid : Prop := keyNumbersRow.holds Try.pinned (OpenSpec.ofChange keyNumbersSpec)

/-- ITS FALSE NEIGHBOUR: 'it returns false'. Refute it at one input. -/
def keyNumbersWrong : ChangeSpec := { name := "keyNumbers", fn := fun _ => fun
  | [d1, d2, d3] => { results := [.lit (.bool false)], args := [d1, d2, d3] }
  | _ => none }
def KeyNumbersWrongFalsely : Prop := keyNumbersRow.holds Try.pinned (OpenSpec.ofChange keyNumbersWrong)

/-- 'dasdlaw16.KeySeparators': WHATEVER THE INPUT: true; the input reads as it did. -/
def keySeparatorsSpec : ChangeSpec := { name := "keySeparators", fn := fun _ => fun
  | [d1, d2] => { results := [.lit (.bool true)], args := [d1, d2] }
  | _ => none }
def keySeparatorsRow : OpenClaim := { program := "ytljokmmgkecjbaa", sum := "2f73dd0a5977d8d4f8c09c27179b686c577cab1f15b8d25e46f3b17f9ace46e7", func := "dasd/dasdlaw16.KeySeparators", spec := "keySeparators", unfollowed := true, recurses := true, apart := false }
def KeySeparatorsSaid : Prop := keySeparatorsRow.holds Try.pinned (OpenSpec.ofChange keySeparatorsSpec)

/-- ITS FALSE NEIGHBOUR: 'it returns false'. Refute it at one input. -/
def keySeparatorsWrong : ChangeSpec := { name := "keySeparators", fn := fun _ => fun
  | [d1, d2] => { results := [.lit (.bool false)], args := [d1, d2] }
  | _ => none }
def KeySeparatorsWrongFalsely : Prop := keySeparatorsRow.holds Try.pinned (OpenSpec.ofChange keySeparatorsWrong)

/-- 'dasdlaw16.KeyHelly': WHATEVER THE INPUT: true; the input reads as it did. -/
def keyHellySpec : ChangeSpec := { name := "keyHelly", fn := fun _ => fun
  | [d1, d2, d3] => { results := [.lit (.bool true)], args := [d1, d2, d3] }
  | _ => none }
def keyHellyRow : OpenClaim := { program := "ytljokmmgkecjbaa", sum := "2f73dd0a5977d8d4f8c09c27179b686c577cab1f15b8d25e46f3b17f9ace46e7", func := "dasd/dasdlaw16.KeyHelly", spec := "keyHelly", unfollowed := true, recurses := true, apart := false }
def KeyHellySaid : Prop := keyHellyRow.holds Try.pinned (OpenSpec.ofChange keyHellySpec)

/-- ITS FALSE NEIGHBOUR: 'it returns false'. Refute it at one input. -/
def keyHellyWrong : ChangeSpec := { name := "keyHelly", fn := fun _ => fun
  | [d1, d2, d3] => { results := [.lit (.bool false)], args := [d1, d2, d3] }
  | _ => none }
def KeyHellyWrongFalsely : Prop := keyHellyRow.holds Try.pinned (OpenSpec.ofChange keyHellyWrong)

/-- 'dasdlaw16.KeyDescriptions': WHATEVER THE INPUT: true; the input reads as it did. -/
def keyDescriptionsSpec : ChangeSpec := { name := "keyDescriptions", fn := fun _ => fun
  | [d1, d2] => { results := [.lit (.bool true)], args := [d1, d2] }
  | _ => none }
def keyDescriptionsRow : OpenClaim := { program := "ytljokmmgkecjbaa", sum := "2f73dd0a5977d8d4f8c09c27179b686c577cab1f15b8d25e46f3b17f9ace46e7", func := "dasd/dasdlaw16.KeyDescriptions", spec := "keyDescriptions", unfollowed := true, recurses := true, apart := false }
def KeyDescriptionsSaid : Prop := keyDescriptionsRow.holds Try.pinned (OpenSpec.ofChange keyDescriptionsSpec)

/-- ITS FALSE NEIGHBOUR: 'it returns false'. Refute it at one input. -/
def keyDescriptionsWrong : ChangeSpec := { name := "keyDescriptions", fn := fun _ => fun
  | [d1, d2] => { results := [.lit (.bool false)], args := [d1, d2] }
  | _ => none }
def KeyDescriptionsWrongFalsely : Prop := keyDescriptionsRow.holds Try.pinned (OpenSpec.ofChange keyDescriptionsWrong)

/-- 'dasdlaw16.KeyAsks': WHATEVER THE INPUT: true; the input reads as it did. -/
def keyAsksSpec : ChangeSpec := { name := "keyAsks", fn := fun _ => fun
  | [d1, d2, d3] => { results := [.lit (.bool true)], args := [d1, d2, d3] }
  | _ => none }
def keyAsksRow : OpenClaim := { program := "ytljokmmgkecjbaa", sum := "2f73dd0a5977d8d4f8c09c27179b686c577cab1f15b8d25e46f3b17f9ace46e7", func := "dasd/dasdlaw16.KeyAsks", spec := "keyAsks", unfollowed := true, recurses := true, apart := false }
def KeyAsksSaid : Prop := keyAsksRow.holds Try.pinned (OpenSpec.ofChange keyAsksSpec)

/-- ITS FALSE NEIGHBOUR: 'it returns false'. Refute it at one input. -/
def keyAsksWrong : ChangeSpec := { name := "keyAsks", fn := fun _ => fun
  | [d1, d2, d3] => { results := [.lit (.bool false)], args := [d1, d2, d3] }
  | _ => none }
def KeyAsksWrongFalsely : Prop := keyAsksRow.holds Try.pinned (OpenSpec.ofChange keyAsksWrong)

/-- 'dasdlaw16.KeyRanges': WHATEVER THE INPUT: true; the input reads as it did. -/
def keyRangesSpec : ChangeSpec := { name := "keyRanges", fn := fun _ => fun
  | [d1, d2, d3] => { results := [.lit (.bool true)], args := [d1, d2, d3] }
  | _ => none }
def keyRangesRow : OpenClaim := { program := "ytljokmmgkecjbaa", sum := "2f73dd0a5977d8d4f8c09c27179b686c577cab1f15b8d25e46f3b17f9ace46e7", func := "dasd/dasdlaw16.KeyRanges", spec := "keyRanges", inPlace := ["internal/bytealg.abigen_runtime_cmpstring"], unfollowed := true, recurses := true, apart := false }
def KeyRangesSaid : Prop := keyRangesRow.holds Try.pinned (OpenSpec.ofChange keyRangesSpec)

/-- ITS FALSE NEIGHBOUR: 'it returns false'. Refute it at one input. -/
def keyRangesWrong : ChangeSpec := { name := "keyRanges", fn := fun _ => fun
  | [d1, d2, d3] => { results := [.lit (.bool false)], args := [d1, d2, d3] }
  | _ => none }
def KeyRangesWrongFalsely : Prop := keyRangesRow.holds Try.pinned (OpenSpec.ofChange keyRangesWrong)

/-- 'dasdlaw16.KeyMeets': WHATEVER THE INPUT: true; the input reads as it did. -/
def keyMeetsSpec : ChangeSpec := { name := "keyMeets", fn := fun _ => fun
  | [d1, d2, d3] => { results := [.lit (.bool true)], args := [d1, d2, d3] }
  | _ => none }
def keyMeetsRow : OpenClaim := { program := "ytljokmmgkecjbaa", sum := "2f73dd0a5977d8d4f8c09c27179b686c577cab1f15b8d25e46f3b17f9ace46e7", func := "dasd/dasdlaw16.KeyMeets", spec := "keyMeets", inPlace := ["internal/bytealg.abigen_runtime_cmpstring"], unfollowed := true, recurses := true, apart := false }
def KeyMeetsSaid : Prop := keyMeetsRow.holds Try.pinned (OpenSpec.ofChange keyMeetsSpec)

/-- ITS FALSE NEIGHBOUR: 'it returns false'. Refute it at one input. -/
def keyMeetsWrong : ChangeSpec := { name := "keyMeets", fn := fun _ => fun
  | [d1, d2, d3] => { results := [.lit (.bool false)], args := [d1, d2, d3] }
  | _ => none }
def KeyMeetsWrongFalsely : Prop := keyMeetsRow.holds Try.pinned (OpenSpec.ofChange keyMeetsWrong)

/-- 'dasdlaw46.LockAcyclic': WHATEVER THE INPUT: true; the input reads as it did. -/
def lockAcyclicSpec : ChangeSpec := { name := "lockAcyclic", fn := fun _ => fun
  | [d] => { results := [.lit (.bool true)], args := [d] }
  | _ => none }
def lockAcyclicRow : OpenClaim := { program := "ytljokmmgkecjbaa", sum := "2f73dd0a5977d8d4f8c09c27179b686c577cab1f15b8d25e46f3b17f9ace46e7", func := "dasd/dasdlaw46.LockAcyclic", spec := "lockAcyclic", inPlace := ["internal/bytealg.abigen_runtime_cmpstring"], unfollowed := true, recurses := true, apart := false }
def LockAcyclicSaid : Prop := lockAcyclicRow.holds Try.pinned (OpenSpec.ofChange lockAcyclicSpec)

/-- ITS FALSE NEIGHBOUR: 'it returns false'. Refute it at one input. -/
def lockAcyclicWrong : ChangeSpec := { name := "lockAcyclic", fn := fun _ => fun
  | [d] => { results := [.lit (.bool false)], args := [d] }
  | _ => none }
def LockAcyclicWrongFalsely : Prop := lockAcyclicRow.holds Try.pinned (OpenSpec.ofChange lockAcyclicWrong)

/-- 'dasdlaw46.LockRules': WHATEVER THE INPUT: true; the input reads as it did. -/
def lockRulesSpec : ChangeSpec := { name := "lockRules", fn := fun _ => fun
  | [d] => { results := [.lit (.bool true)], args := [d] }
  | _ => none }
def lockRulesRow : OpenClaim := { program := "ytljokmmgkecjbaa", sum := "2f73dd0a5977d8d4f8c09c27179b686c577cab1f15b8d25e46f3b17f9ace46e7", func := "dasd/dasdlaw46.LockRules", spec := "lockRules", inPlace := ["internal/bytealg.abigen_runtime_cmpstring"], unfollowed := true, recurses := true, apart := false }
def LockRulesSaid : Prop := lockRulesRow.holds Try.pinned (OpenSpec.ofChange lockRulesSpec)

/-- ITS FALSE NEIGHBOUR: 'it returns false'. Refute it at one input. -/
def lockRulesWrong : ChangeSpec := { name := "lockRules", fn := fun _ => fun
  | [d] => { results := [.lit (.bool false)], args := [d] }
  | _ => none }
def LockRulesWrongFalsely : Prop := lockRulesRow.holds Try.pinned (OpenSpec.ofChange lockRulesWrong)

/-- 'dasdlaw46.LockCompatible': WHATEVER THE INPUT: true; the input reads as it did. -/
def lockCompatibleSpec : ChangeSpec := { name := "lockCompatible", fn := fun _ => fun
  | [d] => { results := [.lit (.bool true)], args := [d] }
  | _ => none }
def lockCompatibleRow : OpenClaim := { program := "ytljokmmgkecjbaa", sum := "2f73dd0a5977d8d4f8c09c27179b686c577cab1f15b8d25e46f3b17f9ace46e7", func := "dasd/dasdlaw46.LockCompatible", spec := "lockCompatible", inPlace := ["internal/bytealg.abigen_runtime_cmpstring"], unfollowed := true, recurses := true, apart := false }
def LockCompatibleSaid : Prop := lockCompatibleRow.holds Try.pinned (OpenSpec.ofChange lockCompatibleSpec)

/-- ITS FALSE NEIGHBOUR: 'it returns false'. Refute it at one input. -/
def lockCompatibleWrong : ChangeSpec := { name := "lockCompatible", fn := fun _ => fun
  | [d] => { results := [.lit (.bool false)], args := [d] }
  | _ => none }
def LockCompatibleWrongFalsely : Prop := lockCompatibleRow.holds Try.pinned (OpenSpec.ofChange lockCompatibleWrong)

/-- 'dasdlaw46.LockOrder': WHATEVER THE INPUT: true; the input reads as it did. -/
def lockOrderSpec : ChangeSpec := { name := "lockOrder", fn := fun _ => fun
  | [d1, d2] => { results := [.lit (.bool true)], args := [d1, d2] }
  | _ => none }
def lockOrderRow : OpenClaim := { program := "ytljokmmgkecjbaa", sum := "2f73dd0a5977d8d4f8c09c27179b686c577cab1f15b8d25e46f3b17f9ace46e7", func := "dasd/dasdlaw46.LockOrder", spec := "lockOrder", inPlace := ["internal/bytealg.abigen_runtime_cmpstring"], unfollowed := true, recurses := true, apart := false }
def LockOrderSaid : Prop := lockOrderRow.holds Try.pinned (OpenSpec.ofChange lockOrderSpec)

/-- ITS FALSE NEIGHBOUR: 'it returns false'. Refute it at one input. -/
def lockOrderWrong : ChangeSpec := { name := "lockOrder", fn := fun _ => fun
  | [d1, d2] => { results := [.lit (.bool false)], args := [d1, d2] }
  | _ => none }
def LockOrderWrongFalsely : Prop := lockOrderRow.holds Try.pinned (OpenSpec.ofChange lockOrderWrong)

/-- 'dasdlaw46.LockAgain': WHATEVER THE INPUT: true; the input reads as it did. -/
def lockAgainSpec : ChangeSpec := { name := "lockAgain", fn := fun _ => fun
  | [d1, d2] => { results := [.lit (.bool true)], args := [d1, d2] }
  | _ => none }
def lockAgainRow : OpenClaim := { program := "ytljokmmgkecjbaa", sum := "2f73dd0a5977d8d4f8c09c27179b686c577cab1f15b8d25e46f3b17f9ace46e7", func := "dasd/dasdlaw46.LockAgain", spec := "lockAgain", inPlace := ["internal/bytealg.abigen_runtime_cmpstring"], unfollowed := true, recurses := true, apart := false }
def LockAgainSaid : Prop := lockAgainRow.holds Try.pinned (OpenSpec.ofChange lockAgainSpec)

/-- ITS FALSE NEIGHBOUR: 'it returns false'. Refute it at one input. -/
def lockAgainWrong : ChangeSpec := { name := "lockAgain", fn := fun _ => fun
  | [d1, d2] => { results := [.lit (.bool false)], args := [d1, d2] }
  | _ => none }
def LockAgainWrongFalsely : Prop := lockAgainRow.holds Try.pinned (OpenSpec.ofChange lockAgainWrong)

/-- 'dasdlaw46.LockCalls': WHATEVER THE INPUT: true; the input reads as it did. -/
def lockCallsSpec : ChangeSpec := { name := "lockCalls", fn := fun _ => fun
  | [d] => { results := [.lit (.bool true)], args := [d] }
  | _ => none }
def lockCallsRow : OpenClaim := { program := "ytljokmmgkecjbaa", sum := "2f73dd0a5977d8d4f8c09c27179b686c577cab1f15b8d25e46f3b17f9ace46e7", func := "dasd/dasdlaw46.LockCalls", spec := "lockCalls", inPlace := ["internal/bytealg.abigen_runtime_cmpstring"], unfollowed := true, recurses := true, apart := false }
def LockCallsSaid : Prop := lockCallsRow.holds Try.pinned (OpenSpec.ofChange lockCallsSpec)

/-- ITS FALSE NEIGHBOUR: 'it returns false'. Refute it at one input. -/
def lockCallsWrong : ChangeSpec := { name := "lockCalls", fn := fun _ => fun
  | [d] => { results := [.lit (.bool false)], args := [d] }
  | _ => none }
def LockCallsWrongFalsely : Prop := lockCallsRow.holds Try.pinned (OpenSpec.ofChange lockCallsWrong)

/-- 'dasdlaw46.LockEnds': WHATEVER THE INPUT: true; the input reads as it did. -/
def lockEndsSpec : ChangeSpec := { name := "lockEnds", fn := fun _ => fun
  | [d] => { results := [.lit (.bool true)], args := [d] }
  | _ => none }
def lockEndsRow : OpenClaim := { program := "ytljokmmgkecjbaa", sum := "2f73dd0a5977d8d4f8c09c27179b686c577cab1f15b8d25e46f3b17f9ace46e7", func := "dasd/dasdlaw46.LockEnds", spec := "lockEnds", inPlace := ["internal/bytealg.abigen_runtime_cmpstring"], unfollowed := true, recurses := true, apart := false }
def LockEndsSaid : Prop := lockEndsRow.holds Try.pinned (OpenSpec.ofChange lockEndsSpec)

/-- ITS FALSE NEIGHBOUR: 'it returns false'. Refute it at one input. -/
def lockEndsWrong : ChangeSpec := { name := "lockEnds", fn := fun _ => fun
  | [d] => { results := [.lit (.bool false)], args := [d] }
  | _ => none }
def LockEndsWrongFalsely : Prop := lockEndsRow.holds Try.pinned (OpenSpec.ofChange lockEndsWrong)

/-- 'dasdlaw52.CouplingClasses': WHATEVER THE INPUT: true; the input reads as it did. -/
def couplingClassesSpec : ChangeSpec := { name := "couplingClasses", fn := fun _ => fun
  | [d] => { results := [.lit (.bool true)], args := [d] }
  | _ => none }
def couplingClassesRow : OpenClaim := { program := "ytljokmmgkecjbaa", sum := "2f73dd0a5977d8d4f8c09c27179b686c577cab1f15b8d25e46f3b17f9ace46e7", func := "dasd/dasdlaw52.CouplingClasses", spec := "couplingClasses", inPlace := ["internal/bytealg.abigen_runtime_cmpstring"], unfollowed := true, recurses := true, apart := false }
def CouplingClassesSaid : Prop := couplingClassesRow.holds Try.pinned (OpenSpec.ofChange couplingClassesSpec)

/-- ITS FALSE NEIGHBOUR: 'it returns false'. Refute it at one input. -/
def couplingClassesWrong : ChangeSpec := { name := "couplingClasses", fn := fun _ => fun
  | [d] => { results := [.lit (.bool false)], args := [d] }
  | _ => none }
def CouplingClassesWrongFalsely : Prop := couplingClassesRow.holds Try.pinned (OpenSpec.ofChange couplingClassesWrong)

/-- 'dasdlaw52.CouplingDecides': WHATEVER THE INPUT: true; the input reads as it did. -/
def couplingDecidesSpec : ChangeSpec := { name := "couplingDecides", fn := fun _ => fun
  | [d] => { results := [.lit (.bool true)], args := [d] }
  | _ => none }
def couplingDecidesRow : OpenClaim := { program := "ytljokmmgkecjbaa", sum := "2f73dd0a5977d8d4f8c09c27179b686c577cab1f15b8d25e46f3b17f9ace46e7", func := "dasd/dasdlaw52.CouplingDecides", spec := "couplingDecides", inPlace := ["internal/bytealg.abigen_runtime_cmpstring"], unfollowed := true, recurses := true, apart := false }
def CouplingDecidesSaid : Prop := couplingDecidesRow.holds Try.pinned (OpenSpec.ofChange couplingDecidesSpec)

/-- ITS FALSE NEIGHBOUR: 'it returns false'. Refute it at one input. -/
def couplingDecidesWrong : ChangeSpec := { name := "couplingDecides", fn := fun _ => fun
  | [d] => { results := [.lit (.bool false)], args := [d] }
  | _ => none }
def CouplingDecidesWrongFalsely : Prop := couplingDecidesRow.holds Try.pinned (OpenSpec.ofChange couplingDecidesWrong)

/- THE SECOND FORM. 'bulk': how many values and letters a reading holds, each counted each time it is reached (what is shared counts as often as it is met; a slice's spare places count too). A statement '..UptoSaid' is the law's where the arguments, and the package variables that the reading takes, are together of bulk at most 1048576: NARROWER than '..Said'. Prove '..Said' where nothing that the law and all that it calls make is longer than what came in: it says more and counts as full. Else prove '..UptoSaid'. A law counts once. -/
mutual
def uptoBulk {H : Type} : DataW H → Nat
  | .lit (.string bytes) => bytes.length + 1
  | .lit _ => 1
  | .nil => 1
  | .ptr d => uptoBulk d + 1
  | .slice elems spare => uptoBulkAll elems + uptoBulkAll spare + 1
  | .agg parts => uptoBulkAll parts + 1
  | .iface _ d => uptoBulk d + 1
  | .map entries => uptoBulkEntries entries + 1
  | .held _ => 1
def uptoBulkAll {H : Type} : List (DataW H) → Nat
  | [] => 0
  | d :: r => uptoBulk d + uptoBulkAll r
def uptoBulkEntries {H : Type} : List (Lit × DataW H) → Nat
  | [] => 0
  | x :: r => uptoBulkEntry x + uptoBulkEntries r
def uptoBulkEntry {H : Type} : Lit × DataW H → Nat
  | (.string bytes, d) => bytes.length + uptoBulk d + 1
  | (_, d) => uptoBulk d + 1
 end
def uptoSmall : (H : Type) → List (DataW H) → Bool := fun _ ds => decide (uptoBulkAll ds ≤ 1048576)
def OpenSpec.upto (s : _root_.Go.ChangeSpec) : _root_.Go.OpenSpec := { _root_.Go.OpenSpec.ofChange s with cond := some uptoSmall }

/-- 'dasdlaw16.KeyNumbers', WHERE WHAT IT READS IS OF BULK AT MOST 1048576: true; the input reads as it did. -/
def keyNumbersUptoRow : OpenClaim := { program := "ytljokmmgkecjbaa", sum := "2f73dd0a5977d8d4f8c09c27179b686c577cab1f15b8d25e46f3b17f9ace46e7", func := "dasd/dasdlaw16.KeyNumbers", spec := "keyNumbers", unfollowed := true, recurses := true, apart := false, narrowed := true }
def KeyNumbersUptoSaid : Prop := keyNumbersUptoRow.holds Try.pinned (OpenSpec.upto keyNumbersSpec)

/-- 'dasdlaw16.KeySeparators', WHERE WHAT IT READS IS OF BULK AT MOST 1048576: true; the input reads as it did. -/
def keySeparatorsUptoRow : OpenClaim := { program := "ytljokmmgkecjbaa", sum := "2f73dd0a5977d8d4f8c09c27179b686c577cab1f15b8d25e46f3b17f9ace46e7", func := "dasd/dasdlaw16.KeySeparators", spec := "keySeparators", unfollowed := true, recurses := true, apart := false, narrowed := true }
def KeySeparatorsUptoSaid : Prop := keySeparatorsUptoRow.holds Try.pinned (OpenSpec.upto keySeparatorsSpec)

/-- 'dasdlaw16.KeyHelly', WHERE WHAT IT READS IS OF BULK AT MOST 1048576: true; the input reads as it did. -/
def keyHellyUptoRow : OpenClaim := { program := "ytljokmmgkecjbaa", sum := "2f73dd0a5977d8d4f8c09c27179b686c577cab1f15b8d25e46f3b17f9ace46e7", func := "dasd/dasdlaw16.KeyHelly", spec := "keyHelly", unfollowed := true, recurses := true, apart := false, narrowed := true }
def KeyHellyUptoSaid : Prop := keyHellyUptoRow.holds Try.pinned (OpenSpec.upto keyHellySpec)

/-- 'dasdlaw16.KeyDescriptions', WHERE WHAT IT READS IS OF BULK AT MOST 1048576: true; the input reads as it did. -/
def keyDescriptionsUptoRow : OpenClaim := { program := "ytljokmmgkecjbaa", sum := "2f73dd0a5977d8d4f8c09c27179b686c577cab1f15b8d25e46f3b17f9ace46e7", func := "dasd/dasdlaw16.KeyDescriptions", spec := "keyDescriptions", unfollowed := true, recurses := true, apart := false, narrowed := true }
def KeyDescriptionsUptoSaid : Prop := keyDescriptionsUptoRow.holds Try.pinned (OpenSpec.upto keyDescriptionsSpec)

/-- 'dasdlaw16.KeyAsks', WHERE WHAT IT READS IS OF BULK AT MOST 1048576: true; the input reads as it did. -/
def keyAsksUptoRow : OpenClaim := { program := "ytljokmmgkecjbaa", sum := "2f73dd0a5977d8d4f8c09c27179b686c577cab1f15b8d25e46f3b17f9ace46e7", func := "dasd/dasdlaw16.KeyAsks", spec := "keyAsks", unfollowed := true, recurses := true, apart := false, narrowed := true }
def KeyAsksUptoSaid : Prop := keyAsksUptoRow.holds Try.pinned (OpenSpec.upto keyAsksSpec)

/-- 'dasdlaw16.KeyRanges', WHERE WHAT IT READS IS OF BULK AT MOST 1048576: true; the input reads as it did. -/
def keyRangesUptoRow : OpenClaim := { program := "ytljokmmgkecjbaa", sum := "2f73dd0a5977d8d4f8c09c27179b686c577cab1f15b8d25e46f3b17f9ace46e7", func := "dasd/dasdlaw16.KeyRanges", spec := "keyRanges", inPlace := ["internal/bytealg.abigen_runtime_cmpstring"], unfollowed := true, recurses := true, apart := false, narrowed := true }
def KeyRangesUptoSaid : Prop := keyRangesUptoRow.holds Try.pinned (OpenSpec.upto keyRangesSpec)

/-- 'dasdlaw16.KeyMeets', WHERE WHAT IT READS IS OF BULK AT MOST 1048576: true; the input reads as it did. -/
def keyMeetsUptoRow : OpenClaim := { program := "ytljokmmgkecjbaa", sum := "2f73dd0a5977d8d4f8c09c27179b686c577cab1f15b8d25e46f3b17f9ace46e7", func := "dasd/dasdlaw16.KeyMeets", spec := "keyMeets", inPlace := ["internal/bytealg.abigen_runtime_cmpstring"], unfollowed := true, recurses := true, apart := false, narrowed := true }
def KeyMeetsUptoSaid : Prop := keyMeetsUptoRow.holds Try.pinned (OpenSpec.upto keyMeetsSpec)

/-- 'dasdlaw46.LockAcyclic', WHERE WHAT IT READS IS OF BULK AT MOST 1048576: true; the input reads as it did. -/
def lockAcyclicUptoRow : OpenClaim := { program := "ytljokmmgkecjbaa", sum := "2f73dd0a5977d8d4f8c09c27179b686c577cab1f15b8d25e46f3b17f9ace46e7", func := "dasd/dasdlaw46.LockAcyclic", spec := "lockAcyclic", inPlace := ["internal/bytealg.abigen_runtime_cmpstring"], unfollowed := true, recurses := true, apart := false, narrowed := true }
def LockAcyclicUptoSaid : Prop := lockAcyclicUptoRow.holds Try.pinned (OpenSpec.upto lockAcyclicSpec)

/-- 'dasdlaw46.LockRules', WHERE WHAT IT READS IS OF BULK AT MOST 1048576: true; the input reads as it did. -/
def lockRulesUptoRow : OpenClaim := { program := "ytljokmmgkecjbaa", sum := "2f73dd0a5977d8d4f8c09c27179b686c577cab1f15b8d25e46f3b17f9ace46e7", func := "dasd/dasdlaw46.LockRules", spec := "lockRules", inPlace := ["internal/bytealg.abigen_runtime_cmpstring"], unfollowed := true, recurses := true, apart := false, narrowed := true }
def LockRulesUptoSaid : Prop := lockRulesUptoRow.holds Try.pinned (OpenSpec.upto lockRulesSpec)

/-- 'dasdlaw46.LockCompatible', WHERE WHAT IT READS IS OF BULK AT MOST 1048576: true; the input reads as it did. -/
def lockCompatibleUptoRow : OpenClaim := { program := "ytljokmmgkecjbaa", sum := "2f73dd0a5977d8d4f8c09c27179b686c577cab1f15b8d25e46f3b17f9ace46e7", func := "dasd/dasdlaw46.LockCompatible", spec := "lockCompatible", inPlace := ["internal/bytealg.abigen_runtime_cmpstring"], unfollowed := true, recurses := true, apart := false, narrowed := true }
def LockCompatibleUptoSaid : Prop := lockCompatibleUptoRow.holds Try.pinned (OpenSpec.upto lockCompatibleSpec)

/-- 'dasdlaw46.LockOrder', WHERE WHAT IT READS IS OF BULK AT MOST 1048576: true; the input reads as it did. -/
def lockOrderUptoRow : OpenClaim := { program := "ytljokmmgkecjbaa", sum := "2f73dd0a5977d8d4f8c09c27179b686c577cab1f15b8d25e46f3b17f9ace46e7", func := "dasd/dasdlaw46.LockOrder", spec := "lockOrder", inPlace := ["internal/bytealg.abigen_runtime_cmpstring"], unfollowed := true, recurses := true, apart := false, narrowed := true }
def LockOrderUptoSaid : Prop := lockOrderUptoRow.holds Try.pinned (OpenSpec.upto lockOrderSpec)

/-- 'dasdlaw46.LockAgain', WHERE WHAT IT READS IS OF BULK AT MOST 1048576: true; the input reads as it did. -/
def lockAgainUptoRow : OpenClaim := { program := "ytljokmmgkecjbaa", sum := "2f73dd0a5977d8d4f8c09c27179b686c577cab1f15b8d25e46f3b17f9ace46e7", func := "dasd/dasdlaw46.LockAgain", spec := "lockAgain", inPlace := ["internal/bytealg.abigen_runtime_cmpstring"], unfollowed := true, recurses := true, apart := false, narrowed := true }
def LockAgainUptoSaid : Prop := lockAgainUptoRow.holds Try.pinned (OpenSpec.upto lockAgainSpec)

/-- 'dasdlaw46.LockCalls', WHERE WHAT IT READS IS OF BULK AT MOST 1048576: true; the input reads as it did. -/
def lockCallsUptoRow : OpenClaim := { program := "ytljokmmgkecjbaa", sum := "2f73dd0a5977d8d4f8c09c27179b686c577cab1f15b8d25e46f3b17f9ace46e7", func := "dasd/dasdlaw46.LockCalls", spec := "lockCalls", inPlace := ["internal/bytealg.abigen_runtime_cmpstring"], unfollowed := true, recurses := true, apart := false, narrowed := true }
def LockCallsUptoSaid : Prop := lockCallsUptoRow.holds Try.pinned (OpenSpec.upto lockCallsSpec)

/-- 'dasdlaw46.LockEnds', WHERE WHAT IT READS IS OF BULK AT MOST 1048576: true; the input reads as it did. -/
def lockEndsUptoRow : OpenClaim := { program := "ytljokmmgkecjbaa", sum := "2f73dd0a5977d8d4f8c09c27179b686c577cab1f15b8d25e46f3b17f9ace46e7", func := "dasd/dasdlaw46.LockEnds", spec := "lockEnds", inPlace := ["internal/bytealg.abigen_runtime_cmpstring"], unfollowed := true, recurses := true, apart := false, narrowed := true }
def LockEndsUptoSaid : Prop := lockEndsUptoRow.holds Try.pinned (OpenSpec.upto lockEndsSpec)

/-- 'dasdlaw52.CouplingClasses', WHERE WHAT IT READS IS OF BULK AT MOST 1048576: true; the input reads as it did. -/
def couplingClassesUptoRow : OpenClaim := { program := "ytljokmmgkecjbaa", sum := "2f73dd0a5977d8d4f8c09c27179b686c577cab1f15b8d25e46f3b17f9ace46e7", func := "dasd/dasdlaw52.CouplingClasses", spec := "couplingClasses", inPlace := ["internal/bytealg.abigen_runtime_cmpstring"], unfollowed := true, recurses := true, apart := false, narrowed := true }
def CouplingClassesUptoSaid : Prop := couplingClassesUptoRow.holds Try.pinned (OpenSpec.upto couplingClassesSpec)

/-- 'dasdlaw52.CouplingDecides', WHERE WHAT IT READS IS OF BULK AT MOST 1048576: true; the input reads as it did. -/
def couplingDecidesUptoRow : OpenClaim := { program := "ytljokmmgkecjbaa", sum := "2f73dd0a5977d8d4f8c09c27179b686c577cab1f15b8d25e46f3b17f9ace46e7", func := "dasd/dasdlaw52.CouplingDecides", spec := "couplingDecides", inPlace := ["internal/bytealg.abigen_runtime_cmpstring"], unfollowed := true, recurses := true, apart := false, narrowed := true }
def CouplingDecidesUptoSaid : Prop := couplingDecidesUptoRow.holds Try.pinned (OpenSpec.upto couplingDecidesSpec)

end Rows
end Go.Proofs.Ytljokmmgkecjbaa
