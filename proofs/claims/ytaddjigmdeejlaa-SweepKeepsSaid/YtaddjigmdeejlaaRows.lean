/-
  No cell of these rows narrows 'for every input' (looked for: loops, veiled, ifaces, maps, wideKeys, modest, calm, conditions, laid).
  DERIVED. THE GIVEN ROWS OF THIS SEAT. 19 by the template 'for every input the law returns true; each argument reads behind the call as it read before'; 0 by the template 'total and deterministic' (their statements: YtaddjigmdeejlaaTotals.lean).
  GIVEN WITH THE SEED: the statements are not yours to turn. If you find one false, say at which input.
  Laid BY PROGRAM, IN A SANDBOX (cutbox-rows.mjs): the forced cells as the released guide's own fill.sh prints them over the translation 107046c021c42285… (all of the seat's roots in one cut). By AI agents, Wed Nov 11 2026. No macro, syntax, notation, axiom, sorry.
-/
import Derived.Test.YtaddjigmdeejlaaChecked
import GoSem.Claim
import GoSem.ClaimJoined
import GoSem.ClaimMapViews
import Derived.JoinedTies
import Derived.KernelRfl
namespace Go.Proofs.Ytaddjigmdeejlaa
/- THE CELL 'sum', in the pinned program and in every row, IS THE sha256 OF THE DUMP (.gsa) THAT YtaddjigmdeejlaaProg.lean LOADS. Nothing in Lean hashes anything: it is a label: what it is worth is what the hold of that sum in a sandbox is worth. -/
noncomputable def Try.pinned : Pinned := { name := "ytaddjigmdeejlaa", sum := "107046c021c422851a76ab4f9e941a7da2fbaa4199e5300ffde553ecaba23ec8", checked := Try.checked }
namespace Rows
def none {H : Type} : Left H := { results := [], args := [] }

/-- 'stepstonelaw09.ClaimAlone': WHATEVER THE INPUT: true; the input reads as it did. -/
def claimAloneSpec : ChangeSpec := { name := "claimAlone", fn := fun _ => fun
  | [d1, d2, d3] => { results := [.lit (.bool true)], args := [d1, d2, d3] }
  | _ => none }
def claimAloneRow : OpenClaim := { program := "ytaddjigmdeejlaa", sum := "107046c021c422851a76ab4f9e941a7da2fbaa4199e5300ffde553ecaba23ec8", func := "stepstone/stepstonelaw09.ClaimAlone", spec := "claimAlone", unfollowed := true, recurses := true, apart := false }
def ClaimAloneSaid : Prop := claimAloneRow.holds Try.pinned (OpenSpec.ofChange claimAloneSpec)

/-- ITS FALSE NEIGHBOUR: 'it returns false'. Refute it at one input. -/
def claimAloneWrong : ChangeSpec := { name := "claimAlone", fn := fun _ => fun
  | [d1, d2, d3] => { results := [.lit (.bool false)], args := [d1, d2, d3] }
  | _ => none }
def ClaimAloneWrongFalsely : Prop := claimAloneRow.holds Try.pinned (OpenSpec.ofChange claimAloneWrong)

/-- 'stepstonelaw10.GuardStands': WHATEVER THE INPUT: true; the input reads as it did. -/
def guardStandsSpec : ChangeSpec := { name := "guardStands", fn := fun _ => fun
  | [d1, d2, d3] => { results := [.lit (.bool true)], args := [d1, d2, d3] }
  | _ => none }
def guardStandsRow : OpenClaim := { program := "ytaddjigmdeejlaa", sum := "107046c021c422851a76ab4f9e941a7da2fbaa4199e5300ffde553ecaba23ec8", func := "stepstone/stepstonelaw10.GuardStands", spec := "guardStands", unfollowed := true, recurses := true, apart := false }
def GuardStandsSaid : Prop := guardStandsRow.holds Try.pinned (OpenSpec.ofChange guardStandsSpec)

/-- ITS FALSE NEIGHBOUR: 'it returns false'. Refute it at one input. -/
def guardStandsWrong : ChangeSpec := { name := "guardStands", fn := fun _ => fun
  | [d1, d2, d3] => { results := [.lit (.bool false)], args := [d1, d2, d3] }
  | _ => none }
def GuardStandsWrongFalsely : Prop := guardStandsRow.holds Try.pinned (OpenSpec.ofChange guardStandsWrong)

/-- 'stepstonelaw10.GuardTwo': WHATEVER THE INPUT: true; the input reads as it did. -/
def guardTwoSpec : ChangeSpec := { name := "guardTwo", fn := fun _ => fun
  | [d1, d2, d3] => { results := [.lit (.bool true)], args := [d1, d2, d3] }
  | _ => none }
def guardTwoRow : OpenClaim := { program := "ytaddjigmdeejlaa", sum := "107046c021c422851a76ab4f9e941a7da2fbaa4199e5300ffde553ecaba23ec8", func := "stepstone/stepstonelaw10.GuardTwo", spec := "guardTwo", unfollowed := true, recurses := true, apart := false }
def GuardTwoSaid : Prop := guardTwoRow.holds Try.pinned (OpenSpec.ofChange guardTwoSpec)

/-- ITS FALSE NEIGHBOUR: 'it returns false'. Refute it at one input. -/
def guardTwoWrong : ChangeSpec := { name := "guardTwo", fn := fun _ => fun
  | [d1, d2, d3] => { results := [.lit (.bool false)], args := [d1, d2, d3] }
  | _ => none }
def GuardTwoWrongFalsely : Prop := guardTwoRow.holds Try.pinned (OpenSpec.ofChange guardTwoWrong)

/-- 'stepstonelaw11.FindAlone': WHATEVER THE INPUT: true; the input reads as it did. -/
def findAloneSpec : ChangeSpec := { name := "findAlone", fn := fun _ => fun
  | [d1, d2, d3] => { results := [.lit (.bool true)], args := [d1, d2, d3] }
  | _ => none }
def findAloneRow : OpenClaim := { program := "ytaddjigmdeejlaa", sum := "107046c021c422851a76ab4f9e941a7da2fbaa4199e5300ffde553ecaba23ec8", func := "stepstone/stepstonelaw11.FindAlone", spec := "findAlone", unfollowed := true, recurses := true, apart := false }
def FindAloneSaid : Prop := findAloneRow.holds Try.pinned (OpenSpec.ofChange findAloneSpec)

/-- ITS FALSE NEIGHBOUR: 'it returns false'. Refute it at one input. -/
def findAloneWrong : ChangeSpec := { name := "findAlone", fn := fun _ => fun
  | [d1, d2, d3] => { results := [.lit (.bool false)], args := [d1, d2, d3] }
  | _ => none }
def FindAloneWrongFalsely : Prop := findAloneRow.holds Try.pinned (OpenSpec.ofChange findAloneWrong)

/-- 'stepstonelaw11.FindUnlinks': WHATEVER THE INPUT: true; the input reads as it did. -/
def findUnlinksSpec : ChangeSpec := { name := "findUnlinks", fn := fun _ => fun
  | [d1, d2, d3] => { results := [.lit (.bool true)], args := [d1, d2, d3] }
  | _ => none }
def findUnlinksRow : OpenClaim := { program := "ytaddjigmdeejlaa", sum := "107046c021c422851a76ab4f9e941a7da2fbaa4199e5300ffde553ecaba23ec8", func := "stepstone/stepstonelaw11.FindUnlinks", spec := "findUnlinks", unfollowed := true, recurses := true, apart := false }
def FindUnlinksSaid : Prop := findUnlinksRow.holds Try.pinned (OpenSpec.ofChange findUnlinksSpec)

/-- ITS FALSE NEIGHBOUR: 'it returns false'. Refute it at one input. -/
def findUnlinksWrong : ChangeSpec := { name := "findUnlinks", fn := fun _ => fun
  | [d1, d2, d3] => { results := [.lit (.bool false)], args := [d1, d2, d3] }
  | _ => none }
def FindUnlinksWrongFalsely : Prop := findUnlinksRow.holds Try.pinned (OpenSpec.ofChange findUnlinksWrong)

/-- 'stepstonelaw11.FindTicks': WHATEVER THE INPUT: true; the input reads as it did. -/
def findTicksSpec : ChangeSpec := { name := "findTicks", fn := fun _ => fun
  | [d1, d2, d3] => { results := [.lit (.bool true)], args := [d1, d2, d3] }
  | _ => none }
def findTicksRow : OpenClaim := { program := "ytaddjigmdeejlaa", sum := "107046c021c422851a76ab4f9e941a7da2fbaa4199e5300ffde553ecaba23ec8", func := "stepstone/stepstonelaw11.FindTicks", spec := "findTicks", unfollowed := true, recurses := true, apart := false }
def FindTicksSaid : Prop := findTicksRow.holds Try.pinned (OpenSpec.ofChange findTicksSpec)

/-- ITS FALSE NEIGHBOUR: 'it returns false'. Refute it at one input. -/
def findTicksWrong : ChangeSpec := { name := "findTicks", fn := fun _ => fun
  | [d1, d2, d3] => { results := [.lit (.bool false)], args := [d1, d2, d3] }
  | _ => none }
def FindTicksWrongFalsely : Prop := findTicksRow.holds Try.pinned (OpenSpec.ofChange findTicksWrong)

/-- 'stepstonelaw11.FindTwice': WHATEVER THE INPUT: true; the input reads as it did. -/
def findTwiceSpec : ChangeSpec := { name := "findTwice", fn := fun _ => fun
  | [d1, d2, d3] => { results := [.lit (.bool true)], args := [d1, d2, d3] }
  | _ => none }
def findTwiceRow : OpenClaim := { program := "ytaddjigmdeejlaa", sum := "107046c021c422851a76ab4f9e941a7da2fbaa4199e5300ffde553ecaba23ec8", func := "stepstone/stepstonelaw11.FindTwice", spec := "findTwice", unfollowed := true, recurses := true, apart := false }
def FindTwiceSaid : Prop := findTwiceRow.holds Try.pinned (OpenSpec.ofChange findTwiceSpec)

/-- ITS FALSE NEIGHBOUR: 'it returns false'. Refute it at one input. -/
def findTwiceWrong : ChangeSpec := { name := "findTwice", fn := fun _ => fun
  | [d1, d2, d3] => { results := [.lit (.bool false)], args := [d1, d2, d3] }
  | _ => none }
def FindTwiceWrongFalsely : Prop := findTwiceRow.holds Try.pinned (OpenSpec.ofChange findTwiceWrong)

/-- 'stepstonelaw11.FindOnly': WHATEVER THE INPUT: true; the input reads as it did. -/
def findOnlySpec : ChangeSpec := { name := "findOnly", fn := fun _ => fun
  | [d1, d2, d3] => { results := [.lit (.bool true)], args := [d1, d2, d3] }
  | _ => none }
def findOnlyRow : OpenClaim := { program := "ytaddjigmdeejlaa", sum := "107046c021c422851a76ab4f9e941a7da2fbaa4199e5300ffde553ecaba23ec8", func := "stepstone/stepstonelaw11.FindOnly", spec := "findOnly", unfollowed := true, recurses := true, apart := false }
def FindOnlySaid : Prop := findOnlyRow.holds Try.pinned (OpenSpec.ofChange findOnlySpec)

/-- ITS FALSE NEIGHBOUR: 'it returns false'. Refute it at one input. -/
def findOnlyWrong : ChangeSpec := { name := "findOnly", fn := fun _ => fun
  | [d1, d2, d3] => { results := [.lit (.bool false)], args := [d1, d2, d3] }
  | _ => none }
def FindOnlyWrongFalsely : Prop := findOnlyRow.holds Try.pinned (OpenSpec.ofChange findOnlyWrong)

/-- 'stepstonelaw14.RetireTwo': WHATEVER THE INPUT: true; the input reads as it did. -/
def retireTwoSpec : ChangeSpec := { name := "retireTwo", fn := fun _ => fun
  | [d1, d2, d3] => { results := [.lit (.bool true)], args := [d1, d2, d3] }
  | _ => none }
def retireTwoRow : OpenClaim := { program := "ytaddjigmdeejlaa", sum := "107046c021c422851a76ab4f9e941a7da2fbaa4199e5300ffde553ecaba23ec8", func := "stepstone/stepstonelaw14.RetireTwo", spec := "retireTwo", unfollowed := true, recurses := true, apart := false }
def RetireTwoSaid : Prop := retireTwoRow.holds Try.pinned (OpenSpec.ofChange retireTwoSpec)

/-- ITS FALSE NEIGHBOUR: 'it returns false'. Refute it at one input. -/
def retireTwoWrong : ChangeSpec := { name := "retireTwo", fn := fun _ => fun
  | [d1, d2, d3] => { results := [.lit (.bool false)], args := [d1, d2, d3] }
  | _ => none }
def RetireTwoWrongFalsely : Prop := retireTwoRow.holds Try.pinned (OpenSpec.ofChange retireTwoWrong)

/-- 'stepstonelaw14.RetireOnce': WHATEVER THE INPUT: true; the input reads as it did. -/
def retireOnceSpec : ChangeSpec := { name := "retireOnce", fn := fun _ => fun
  | [d1, d2, d3] => { results := [.lit (.bool true)], args := [d1, d2, d3] }
  | _ => none }
def retireOnceRow : OpenClaim := { program := "ytaddjigmdeejlaa", sum := "107046c021c422851a76ab4f9e941a7da2fbaa4199e5300ffde553ecaba23ec8", func := "stepstone/stepstonelaw14.RetireOnce", spec := "retireOnce", unfollowed := true, recurses := true, apart := false }
def RetireOnceSaid : Prop := retireOnceRow.holds Try.pinned (OpenSpec.ofChange retireOnceSpec)

/-- ITS FALSE NEIGHBOUR: 'it returns false'. Refute it at one input. -/
def retireOnceWrong : ChangeSpec := { name := "retireOnce", fn := fun _ => fun
  | [d1, d2, d3] => { results := [.lit (.bool false)], args := [d1, d2, d3] }
  | _ => none }
def RetireOnceWrongFalsely : Prop := retireOnceRow.holds Try.pinned (OpenSpec.ofChange retireOnceWrong)

/-- 'stepstonelaw14.RetireLast': WHATEVER THE INPUT: true; the input reads as it did. -/
def retireLastSpec : ChangeSpec := { name := "retireLast", fn := fun _ => fun
  | [d1, d2, d3] => { results := [.lit (.bool true)], args := [d1, d2, d3] }
  | _ => none }
def retireLastRow : OpenClaim := { program := "ytaddjigmdeejlaa", sum := "107046c021c422851a76ab4f9e941a7da2fbaa4199e5300ffde553ecaba23ec8", func := "stepstone/stepstonelaw14.RetireLast", spec := "retireLast", unfollowed := true, recurses := true, apart := false }
def RetireLastSaid : Prop := retireLastRow.holds Try.pinned (OpenSpec.ofChange retireLastSpec)

/-- ITS FALSE NEIGHBOUR: 'it returns false'. Refute it at one input. -/
def retireLastWrong : ChangeSpec := { name := "retireLast", fn := fun _ => fun
  | [d1, d2, d3] => { results := [.lit (.bool false)], args := [d1, d2, d3] }
  | _ => none }
def RetireLastWrongFalsely : Prop := retireLastRow.holds Try.pinned (OpenSpec.ofChange retireLastWrong)

/-- 'stepstonelaw14.RetireLate': WHATEVER THE INPUT: true; the input reads as it did. -/
def retireLateSpec : ChangeSpec := { name := "retireLate", fn := fun _ => fun
  | [d1, d2, d3] => { results := [.lit (.bool true)], args := [d1, d2, d3] }
  | _ => none }
def retireLateRow : OpenClaim := { program := "ytaddjigmdeejlaa", sum := "107046c021c422851a76ab4f9e941a7da2fbaa4199e5300ffde553ecaba23ec8", func := "stepstone/stepstonelaw14.RetireLate", spec := "retireLate", unfollowed := true, recurses := true, apart := false }
def RetireLateSaid : Prop := retireLateRow.holds Try.pinned (OpenSpec.ofChange retireLateSpec)

/-- ITS FALSE NEIGHBOUR: 'it returns false'. Refute it at one input. -/
def retireLateWrong : ChangeSpec := { name := "retireLate", fn := fun _ => fun
  | [d1, d2, d3] => { results := [.lit (.bool false)], args := [d1, d2, d3] }
  | _ => none }
def RetireLateWrongFalsely : Prop := retireLateRow.holds Try.pinned (OpenSpec.ofChange retireLateWrong)

/-- 'stepstonelaw14.RetireFirst': WHATEVER THE INPUT: true; the input reads as it did. -/
def retireFirstSpec : ChangeSpec := { name := "retireFirst", fn := fun _ => fun
  | [d1, d2, d3] => { results := [.lit (.bool true)], args := [d1, d2, d3] }
  | _ => none }
def retireFirstRow : OpenClaim := { program := "ytaddjigmdeejlaa", sum := "107046c021c422851a76ab4f9e941a7da2fbaa4199e5300ffde553ecaba23ec8", func := "stepstone/stepstonelaw14.RetireFirst", spec := "retireFirst", unfollowed := true, recurses := true, apart := false }
def RetireFirstSaid : Prop := retireFirstRow.holds Try.pinned (OpenSpec.ofChange retireFirstSpec)

/-- ITS FALSE NEIGHBOUR: 'it returns false'. Refute it at one input. -/
def retireFirstWrong : ChangeSpec := { name := "retireFirst", fn := fun _ => fun
  | [d1, d2, d3] => { results := [.lit (.bool false)], args := [d1, d2, d3] }
  | _ => none }
def RetireFirstWrongFalsely : Prop := retireFirstRow.holds Try.pinned (OpenSpec.ofChange retireFirstWrong)

/-- 'stepstonelaw15.SweepNone': WHATEVER THE INPUT: true; the input reads as it did. -/
def sweepNoneSpec : ChangeSpec := { name := "sweepNone", fn := fun _ => fun
  | [d1, d2] => { results := [.lit (.bool true)], args := [d1, d2] }
  | _ => none }
def sweepNoneRow : OpenClaim := { program := "ytaddjigmdeejlaa", sum := "107046c021c422851a76ab4f9e941a7da2fbaa4199e5300ffde553ecaba23ec8", func := "stepstone/stepstonelaw15.SweepNone", spec := "sweepNone", unfollowed := true, recurses := true, apart := false }
def SweepNoneSaid : Prop := sweepNoneRow.holds Try.pinned (OpenSpec.ofChange sweepNoneSpec)

/-- ITS FALSE NEIGHBOUR: 'it returns false'. Refute it at one input. -/
def sweepNoneWrong : ChangeSpec := { name := "sweepNone", fn := fun _ => fun
  | [d1, d2] => { results := [.lit (.bool false)], args := [d1, d2] }
  | _ => none }
def SweepNoneWrongFalsely : Prop := sweepNoneRow.holds Try.pinned (OpenSpec.ofChange sweepNoneWrong)

/-- 'stepstonelaw15.SweepStalled': WHATEVER THE INPUT: true; the input reads as it did. -/
def sweepStalledSpec : ChangeSpec := { name := "sweepStalled", fn := fun _ => fun
  | [d1, d2, d3] => { results := [.lit (.bool true)], args := [d1, d2, d3] }
  | _ => none }
def sweepStalledRow : OpenClaim := { program := "ytaddjigmdeejlaa", sum := "107046c021c422851a76ab4f9e941a7da2fbaa4199e5300ffde553ecaba23ec8", func := "stepstone/stepstonelaw15.SweepStalled", spec := "sweepStalled", unfollowed := true, recurses := true, apart := false }
def SweepStalledSaid : Prop := sweepStalledRow.holds Try.pinned (OpenSpec.ofChange sweepStalledSpec)

/-- ITS FALSE NEIGHBOUR: 'it returns false'. Refute it at one input. -/
def sweepStalledWrong : ChangeSpec := { name := "sweepStalled", fn := fun _ => fun
  | [d1, d2, d3] => { results := [.lit (.bool false)], args := [d1, d2, d3] }
  | _ => none }
def SweepStalledWrongFalsely : Prop := sweepStalledRow.holds Try.pinned (OpenSpec.ofChange sweepStalledWrong)

/-- 'stepstonelaw15.SweepKeeps': WHATEVER THE INPUT: true; the input reads as it did. -/
def sweepKeepsSpec : ChangeSpec := { name := "sweepKeeps", fn := fun _ => fun
  | [d1, d2, d3] => { results := [.lit (.bool true)], args := [d1, d2, d3] }
  | _ => none }
def sweepKeepsRow : OpenClaim := { program := "ytaddjigmdeejlaa", sum := "107046c021c422851a76ab4f9e941a7da2fbaa4199e5300ffde553ecaba23ec8", func := "stepstone/stepstonelaw15.SweepKeeps", spec := "sweepKeeps", unfollowed := true, recurses := true, apart := false }
def SweepKeepsSaid : Prop := sweepKeepsRow.holds Try.pinned (OpenSpec.ofChange sweepKeepsSpec)

/-- ITS FALSE NEIGHBOUR: 'it returns false'. Refute it at one input. -/
def sweepKeepsWrong : ChangeSpec := { name := "sweepKeeps", fn := fun _ => fun
  | [d1, d2, d3] => { results := [.lit (.bool false)], args := [d1, d2, d3] }
  | _ => none }
def SweepKeepsWrongFalsely : Prop := sweepKeepsRow.holds Try.pinned (OpenSpec.ofChange sweepKeepsWrong)

/-- 'stepstonelaw15.SweepSteps': WHATEVER THE INPUT: true; the input reads as it did. -/
def sweepStepsSpec : ChangeSpec := { name := "sweepSteps", fn := fun _ => fun
  | [d1, d2, d3] => { results := [.lit (.bool true)], args := [d1, d2, d3] }
  | _ => none }
def sweepStepsRow : OpenClaim := { program := "ytaddjigmdeejlaa", sum := "107046c021c422851a76ab4f9e941a7da2fbaa4199e5300ffde553ecaba23ec8", func := "stepstone/stepstonelaw15.SweepSteps", spec := "sweepSteps", unfollowed := true, recurses := true, apart := false }
def SweepStepsSaid : Prop := sweepStepsRow.holds Try.pinned (OpenSpec.ofChange sweepStepsSpec)

/-- ITS FALSE NEIGHBOUR: 'it returns false'. Refute it at one input. -/
def sweepStepsWrong : ChangeSpec := { name := "sweepSteps", fn := fun _ => fun
  | [d1, d2, d3] => { results := [.lit (.bool false)], args := [d1, d2, d3] }
  | _ => none }
def SweepStepsWrongFalsely : Prop := sweepStepsRow.holds Try.pinned (OpenSpec.ofChange sweepStepsWrong)

/-- 'stepstonelaw15.SweepOwn': WHATEVER THE INPUT: true; the input reads as it did. -/
def sweepOwnSpec : ChangeSpec := { name := "sweepOwn", fn := fun _ => fun
  | [d1, d2, d3] => { results := [.lit (.bool true)], args := [d1, d2, d3] }
  | _ => none }
def sweepOwnRow : OpenClaim := { program := "ytaddjigmdeejlaa", sum := "107046c021c422851a76ab4f9e941a7da2fbaa4199e5300ffde553ecaba23ec8", func := "stepstone/stepstonelaw15.SweepOwn", spec := "sweepOwn", unfollowed := true, recurses := true, apart := false }
def SweepOwnSaid : Prop := sweepOwnRow.holds Try.pinned (OpenSpec.ofChange sweepOwnSpec)

/-- ITS FALSE NEIGHBOUR: 'it returns false'. Refute it at one input. -/
def sweepOwnWrong : ChangeSpec := { name := "sweepOwn", fn := fun _ => fun
  | [d1, d2, d3] => { results := [.lit (.bool false)], args := [d1, d2, d3] }
  | _ => none }
def SweepOwnWrongFalsely : Prop := sweepOwnRow.holds Try.pinned (OpenSpec.ofChange sweepOwnWrong)

/-- 'stepstonelaw15.SweepFrees': WHATEVER THE INPUT: true; the input reads as it did. -/
def sweepFreesSpec : ChangeSpec := { name := "sweepFrees", fn := fun _ => fun
  | [d1, d2, d3] => { results := [.lit (.bool true)], args := [d1, d2, d3] }
  | _ => none }
def sweepFreesRow : OpenClaim := { program := "ytaddjigmdeejlaa", sum := "107046c021c422851a76ab4f9e941a7da2fbaa4199e5300ffde553ecaba23ec8", func := "stepstone/stepstonelaw15.SweepFrees", spec := "sweepFrees", unfollowed := true, recurses := true, apart := false }
def SweepFreesSaid : Prop := sweepFreesRow.holds Try.pinned (OpenSpec.ofChange sweepFreesSpec)

/-- ITS FALSE NEIGHBOUR: 'it returns false'. Refute it at one input. -/
def sweepFreesWrong : ChangeSpec := { name := "sweepFrees", fn := fun _ => fun
  | [d1, d2, d3] => { results := [.lit (.bool false)], args := [d1, d2, d3] }
  | _ => none }
def SweepFreesWrongFalsely : Prop := sweepFreesRow.holds Try.pinned (OpenSpec.ofChange sweepFreesWrong)

/- THE SECOND FORM. 'bulk': how many values and letters a reading holds, each counted each time it is reached (what is shared counts as often as it is met; a slice's spare places count too). A statement '..UptoSaid' is the law's where the arguments, and the package variables that the reading takes, are together of bulk at most 1048576: NARROWER than '..Said'. Prove '..Said' where nothing that the law and all that it calls make is longer than what came in: it says more and counts as full. Else prove '..UptoSaid'. A law counts once. -/
mutual
def uptoBulk {H : Type} : DataW H → Nat
  | .lit (.string bytes) => bytes.length + 1
  | .lit _ => 1
  | .nil => 1
  | .ptr d => uptoBulk d + 1
  | .slice elems spare => uptoBulkAll elems + uptoBulkAll spare + 1
  | .agg parts => uptoBulkAll parts + 1
  | .iface _ d => uptoBulk d + 1
  | .map entries => uptoBulkEntries entries + 1
  | .held _ => 1
def uptoBulkAll {H : Type} : List (DataW H) → Nat
  | [] => 0
  | d :: r => uptoBulk d + uptoBulkAll r
def uptoBulkEntries {H : Type} : List (Lit × DataW H) → Nat
  | [] => 0
  | x :: r => uptoBulkEntry x + uptoBulkEntries r
def uptoBulkEntry {H : Type} : Lit × DataW H → Nat
  | (.string bytes, d) => bytes.length + uptoBulk d + 1
  | (_, d) => uptoBulk d + 1
 end
def uptoSmall : (H : Type) → List (DataW H) → Bool := fun _ ds => decide (uptoBulkAll ds ≤ 1048576)
def OpenSpec.upto (s : _root_.Go.ChangeSpec) : _root_.Go.OpenSpec := { _root_.Go.OpenSpec.ofChange s with cond := some uptoSmall }

/-- 'stepstonelaw09.ClaimAlone', WHERE WHAT IT READS IS OF BULK AT MOST 1048576: true; the input reads as it did. -/
def claimAloneUptoRow : OpenClaim := { program := "ytaddjigmdeejlaa", sum := "107046c021c422851a76ab4f9e941a7da2fbaa4199e5300ffde553ecaba23ec8", func := "stepstone/stepstonelaw09.ClaimAlone", spec := "claimAlone", unfollowed := true, recurses := true, apart := false, narrowed := true }
def ClaimAloneUptoSaid : Prop := claimAloneUptoRow.holds Try.pinned (OpenSpec.upto claimAloneSpec)

/-- 'stepstonelaw10.GuardStands', WHERE WHAT IT READS IS OF BULK AT MOST 1048576: true; the input reads as it did. -/
def guardStandsUptoRow : OpenClaim := { program := "ytaddjigmdeejlaa", sum := "107046c021c422851a76ab4f9e941a7da2fbaa4199e5300ffde553ecaba23ec8", func := "stepstone/stepstonelaw10.GuardStands", spec := "guardStands", unfollowed := true, recurses := true, apart := false, narrowed := true }
def GuardStandsUptoSaid : Prop := guardStandsUptoRow.holds Try.pinned (OpenSpec.upto guardStandsSpec)

/-- 'stepstonelaw10.GuardTwo', WHERE WHAT IT READS IS OF BULK AT MOST 1048576: true; the input reads as it did. -/
def guardTwoUptoRow : OpenClaim := { program := "ytaddjigmdeejlaa", sum := "107046c021c422851a76ab4f9e941a7da2fbaa4199e5300ffde553ecaba23ec8", func := "stepstone/stepstonelaw10.GuardTwo", spec := "guardTwo", unfollowed := true, recurses := true, apart := false, narrowed := true }
def GuardTwoUptoSaid : Prop := guardTwoUptoRow.holds Try.pinned (OpenSpec.upto guardTwoSpec)

/-- 'stepstonelaw11.FindAlone', WHERE WHAT IT READS IS OF BULK AT MOST 1048576: true; the input reads as it did. -/
def findAloneUptoRow : OpenClaim := { program := "ytaddjigmdeejlaa", sum := "107046c021c422851a76ab4f9e941a7da2fbaa4199e5300ffde553ecaba23ec8", func := "stepstone/stepstonelaw11.FindAlone", spec := "findAlone", unfollowed := true, recurses := true, apart := false, narrowed := true }
def FindAloneUptoSaid : Prop := findAloneUptoRow.holds Try.pinned (OpenSpec.upto findAloneSpec)

/-- 'stepstonelaw11.FindUnlinks', WHERE WHAT IT READS IS OF BULK AT MOST 1048576: true; the input reads as it did. -/
def findUnlinksUptoRow : OpenClaim := { program := "ytaddjigmdeejlaa", sum := "107046c021c422851a76ab4f9e941a7da2fbaa4199e5300ffde553ecaba23ec8", func := "stepstone/stepstonelaw11.FindUnlinks", spec := "findUnlinks", unfollowed := true, recurses := true, apart := false, narrowed := true }
def FindUnlinksUptoSaid : Prop := findUnlinksUptoRow.holds Try.pinned (OpenSpec.upto findUnlinksSpec)

/-- 'stepstonelaw11.FindTicks', WHERE WHAT IT READS IS OF BULK AT MOST 1048576: true; the input reads as it did. -/
def findTicksUptoRow : OpenClaim := { program := "ytaddjigmdeejlaa", sum := "107046c021c422851a76ab4f9e941a7da2fbaa4199e5300ffde553ecaba23ec8", func := "stepstone/stepstonelaw11.FindTicks", spec := "findTicks", unfollowed := true, recurses := true, apart := false, narrowed := true }
def FindTicksUptoSaid : Prop := findTicksUptoRow.holds Try.pinned (OpenSpec.upto findTicksSpec)

/-- 'stepstonelaw11.FindTwice', WHERE WHAT IT READS IS OF BULK AT MOST 1048576: true; the input reads as it did. -/
def findTwiceUptoRow : OpenClaim := { program := "ytaddjigmdeejlaa", sum := "107046c021c422851a76ab4f9e941a7da2fbaa4199e5300ffde553ecaba23ec8", func := "stepstone/stepstonelaw11.FindTwice", spec := "findTwice", unfollowed := true, recurses := true, apart := false, narrowed := true }
def FindTwiceUptoSaid : Prop := findTwiceUptoRow.holds Try.pinned (OpenSpec.upto findTwiceSpec)

/-- 'stepstonelaw11.FindOnly', WHERE WHAT IT READS IS OF BULK AT MOST 1048576: true; the input reads as it did. -/
def findOnlyUptoRow : OpenClaim := { program := "ytaddjigmdeejlaa", sum := "107046c021c422851a76ab4f9e941a7da2fbaa4199e5300ffde553ecaba23ec8", func := "stepstone/stepstonelaw11.FindOnly", spec := "findOnly", unfollowed := true, recurses := true, apart := false, narrowed := true }
def FindOnlyUptoSaid : Prop := findOnlyUptoRow.holds Try.pinned (OpenSpec.upto findOnlySpec)

/-- 'stepstonelaw14.RetireTwo', WHERE WHAT IT READS IS OF BULK AT MOST 1048576: true; the input reads as it did. -/
def retireTwoUptoRow : OpenClaim := { program := "ytaddjigmdeejlaa", sum := "107046c021c422851a76ab4f9e941a7da2fbaa4199e5300ffde553ecaba23ec8", func := "stepstone/stepstonelaw14.RetireTwo", spec := "retireTwo", unfollowed := true, recurses := true, apart := false, narrowed := true }
def RetireTwoUptoSaid : Prop := retireTwoUptoRow.holds Try.pinned (OpenSpec.upto retireTwoSpec)

/-- 'stepstonelaw14.RetireOnce', WHERE WHAT IT READS IS OF BULK AT MOST 1048576: true; the input reads as it did. -/
def retireOnceUptoRow : OpenClaim := { program := "ytaddjigmdeejlaa", sum := "107046c021c422851a76ab4f9e941a7da2fbaa4199e5300ffde553ecaba23ec8", func := "stepstone/stepstonelaw14.RetireOnce", spec := "retireOnce", unfollowed := true, recurses := true, apart := false, narrowed := true }
def RetireOnceUptoSaid : Prop := retireOnceUptoRow.holds Try.pinned (OpenSpec.upto retireOnceSpec)

/-- 'stepstonelaw14.RetireLast', WHERE WHAT IT READS IS OF BULK AT MOST 1048576: true; the input reads as it did. -/
def retireLastUptoRow : OpenClaim := { program := "ytaddjigmdeejlaa", sum := "107046c021c422851a76ab4f9e941a7da2fbaa4199e5300ffde553ecaba23ec8", func := "stepstone/stepstonelaw14.RetireLast", spec := "retireLast", unfollowed := true, recurses := true, apart := false, narrowed := true }
def RetireLastUptoSaid : Prop := retireLastUptoRow.holds Try.pinned (OpenSpec.upto retireLastSpec)

/-- 'stepstonelaw14.RetireLate', WHERE WHAT IT READS IS OF BULK AT MOST 1048576: true; the input reads as it did. -/
def retireLateUptoRow : OpenClaim := { program := "ytaddjigmdeejlaa", sum := "107046c021c422851a76ab4f9e941a7da2fbaa4199e5300ffde553ecaba23ec8", func := "stepstone/stepstonelaw14.RetireLate", spec := "retireLate", unfollowed := true, recurses := true, apart := false, narrowed := true }
def RetireLateUptoSaid : Prop := retireLateUptoRow.holds Try.pinned (OpenSpec.upto retireLateSpec)

/-- 'stepstonelaw14.RetireFirst', WHERE WHAT IT READS IS OF BULK AT MOST 1048576: true; the input reads as it did. -/
def retireFirstUptoRow : OpenClaim := { program := "ytaddjigmdeejlaa", sum := "107046c021c422851a76ab4f9e941a7da2fbaa4199e5300ffde553ecaba23ec8", func := "stepstone/stepstonelaw14.RetireFirst", spec := "retireFirst", unfollowed := true, recurses := true, apart := false, narrowed := true }
def RetireFirstUptoSaid : Prop := retireFirstUptoRow.holds Try.pinned (OpenSpec.upto retireFirstSpec)

/-- 'stepstonelaw15.SweepNone', WHERE WHAT IT READS IS OF BULK AT MOST 1048576: true; the input reads as it did. -/
def sweepNoneUptoRow : OpenClaim := { program := "ytaddjigmdeejlaa", sum := "107046c021c422851a76ab4f9e941a7da2fbaa4199e5300ffde553ecaba23ec8", func := "stepstone/stepstonelaw15.SweepNone", spec := "sweepNone", unfollowed := true, recurses := true, apart := false, narrowed := true }
def SweepNoneUptoSaid : Prop := sweepNoneUptoRow.holds Try.pinned (OpenSpec.upto sweepNoneSpec)

/-- 'stepstonelaw15.SweepStalled', WHERE WHAT IT READS IS OF BULK AT MOST 1048576: true; the input reads as it did. -/
def sweepStalledUptoRow : OpenClaim := { program := "ytaddjigmdeejlaa", sum := "107046c021c422851a76ab4f9e941a7da2fbaa4199e5300ffde553ecaba23ec8", func := "stepstone/stepstonelaw15.SweepStalled", spec := "sweepStalled", unfollowed := true, recurses := true, apart := false, narrowed := true }
def SweepStalledUptoSaid : Prop := sweepStalledUptoRow.holds Try.pinned (OpenSpec.upto sweepStalledSpec)

/-- 'stepstonelaw15.SweepKeeps', WHERE WHAT IT READS IS OF BULK AT MOST 1048576: true; the input reads as it did. -/
def sweepKeepsUptoRow : OpenClaim := { program := "ytaddjigmdeejlaa", sum := "107046c021c422851a76ab4f9e941a7da2fbaa4199e5300ffde553ecaba23ec8", func := "stepstone/stepstonelaw15.SweepKeeps", spec := "sweepKeeps", unfollowed := true, recurses := true, apart := false, narrowed := true }
def SweepKeepsUptoSaid : Prop := sweepKeepsUptoRow.holds Try.pinned (OpenSpec.upto sweepKeepsSpec)

/-- 'stepstonelaw15.SweepSteps', WHERE WHAT IT READS IS OF BULK AT MOST 1048576: true; the input reads as it did. -/
def sweepStepsUptoRow : OpenClaim := { program := "ytaddjigmdeejlaa", sum := "107046c021c422851a76ab4f9e941a7da2fbaa4199e5300ffde553ecaba23ec8", func := "stepstone/stepstonelaw15.SweepSteps", spec := "sweepSteps", unfollowed := true, recurses := true, apart := false, narrowed := true }
def SweepStepsUptoSaid : Prop := sweepStepsUptoRow.holds Try.pinned (OpenSpec.upto sweepStepsSpec)

/-- 'stepstonelaw15.SweepOwn', WHERE WHAT IT READS IS OF BULK AT MOST 1048576: true; the input reads as it did. -/
def sweepOwnUptoRow : OpenClaim := { program := "ytaddjigmdeejlaa", sum := "107046c021c422851a76ab4f9e941a7da2fbaa4199e5300ffde553ecaba23ec8", func := "stepstone/stepstonelaw15.SweepOwn", spec := "sweepOwn", unfollowed := true, recurses := true, apart := false, narrowed := true }
def SweepOwnUptoSaid : Prop := sweepOwnUptoRow.holds Try.pinned (OpenSpec.upto sweepOwnSpec)

/-- 'stepstonelaw15.SweepFrees', WHERE WHAT IT READS IS OF BULK AT MOST 1048576: true; the input reads as it did. -/
def sweepFreesUptoRow : OpenClaim := { program := "ytaddjigmdeejlaa", sum := "107046c021c422851a76ab4f9e941a7da2fbaa4199e5300ffde553ecaba23ec8", func := "stepstone/stepstonelaw15.SweepFrees", spec := "sweepFrees", unfollowed := true, recurses := true, apart := false, narrowed := true }
def SweepFreesUptoSaid : Prop := sweepFreesUptoRow.holds Try.pinned (OpenSpec.upto sweepFreesSpec)

end Rows
end Go.Proofs.Ytaddjigmdeejlaa
