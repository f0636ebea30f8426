/-
  No cell of these rows narrows 'for every input' (looked for: loops, veiled, ifaces, maps, wideKeys, modest, calm, conditions, laid).
  DERIVED. THE GIVEN ROWS OF THIS SEAT. 6 by the template 'for every input the law returns true; each argument reads behind the call as it read before'; 0 by the template 'total and deterministic' (their statements: YtadmocbjnalnmaaGreatTotals.lean).
  GIVEN WITH THE SEED: the statements are not yours to turn. If you find one false, say at which input.
  Laid BY PROGRAM, IN A SANDBOX (cutbox-rows.mjs): the forced cells as the released guide's own fill.sh prints them over the translation 3ef5f3f0a3f879e2… (all of the seat's roots in one cut). By AI agents, Wed Nov 11 2026. No macro, syntax, notation, axiom, sorry.
-/
import Derived.Test.YtadmocbjnalnmaaGreatChecked
import GoSem.Claim
import GoSem.ClaimJoined
import GoSem.ClaimMapViews
import Derived.JoinedTies
import Derived.KernelRfl
namespace Go.Proofs.YtadmocbjnalnmaaGreat
/- THE CELL 'sum', in the pinned program and in every row, IS THE sha256 OF THE DUMP (.gsa) THAT YtadmocbjnalnmaaGreatProg.lean LOADS. Nothing in Lean hashes anything: it is a label: what it is worth is what the hold of that sum in a sandbox is worth. -/
noncomputable def Tryz.pinned : Pinned := { name := "ytadmocbjnalnmaagreat", sum := "3ef5f3f0a3f879e29b1646574111c44b829368aacbf06991dc7e190a200fae69", checked := Tryz.checked }
namespace Rows
def none {H : Type} : Left H := { results := [], args := [] }

/-- 'spilelaw25.AgeReads': WHATEVER THE INPUT: true; the input reads as it did. -/
def ageReadsSpec : ChangeSpec := { name := "ageReads", fn := fun _ => fun
  | [d1, d2, d3] => { results := [.lit (.bool true)], args := [d1, d2, d3] }
  | _ => none }
def ageReadsRow : OpenClaim := { program := "ytadmocbjnalnmaagreat", sum := "3ef5f3f0a3f879e29b1646574111c44b829368aacbf06991dc7e190a200fae69", func := "spile/spilelaw25.AgeReads", spec := "ageReads", inPlace := ["slices.overlaps[spile/api.Lot]"], unfollowed := true, recurses := true, named := ["math/bits.divideError", "math/bits.overflowError"], apart := false }
def AgeReadsSaid : Prop := ageReadsRow.holds Tryz.pinned (OpenSpec.ofChange ageReadsSpec)

/-- ITS FALSE NEIGHBOUR: 'it returns false'. Refute it at one input. -/
def ageReadsWrong : ChangeSpec := { name := "ageReads", fn := fun _ => fun
  | [d1, d2, d3] => { results := [.lit (.bool false)], args := [d1, d2, d3] }
  | _ => none }
def AgeReadsWrongFalsely : Prop := ageReadsRow.holds Tryz.pinned (OpenSpec.ofChange ageReadsWrong)

/-- 'spilelaw25.AgeLeast': WHATEVER THE INPUT: true; the input reads as it did. -/
def ageLeastSpec : ChangeSpec := { name := "ageLeast", fn := fun _ => fun
  | [d1, d2, d3] => { results := [.lit (.bool true)], args := [d1, d2, d3] }
  | _ => none }
def ageLeastRow : OpenClaim := { program := "ytadmocbjnalnmaagreat", sum := "3ef5f3f0a3f879e29b1646574111c44b829368aacbf06991dc7e190a200fae69", func := "spile/spilelaw25.AgeLeast", spec := "ageLeast", inPlace := ["slices.overlaps[spile/api.Lot]"], unfollowed := true, recurses := true, named := ["math/bits.divideError", "math/bits.overflowError"], apart := false }
def AgeLeastSaid : Prop := ageLeastRow.holds Tryz.pinned (OpenSpec.ofChange ageLeastSpec)

/-- ITS FALSE NEIGHBOUR: 'it returns false'. Refute it at one input. -/
def ageLeastWrong : ChangeSpec := { name := "ageLeast", fn := fun _ => fun
  | [d1, d2, d3] => { results := [.lit (.bool false)], args := [d1, d2, d3] }
  | _ => none }
def AgeLeastWrongFalsely : Prop := ageLeastRow.holds Tryz.pinned (OpenSpec.ofChange ageLeastWrong)

/-- 'spilelaw25.AgeDays': WHATEVER THE INPUT: true; the input reads as it did. -/
def ageDaysSpec : ChangeSpec := { name := "ageDays", fn := fun _ => fun
  | [d1, d2, d3, d4] => { results := [.lit (.bool true)], args := [d1, d2, d3, d4] }
  | _ => none }
def ageDaysRow : OpenClaim := { program := "ytadmocbjnalnmaagreat", sum := "3ef5f3f0a3f879e29b1646574111c44b829368aacbf06991dc7e190a200fae69", func := "spile/spilelaw25.AgeDays", spec := "ageDays", inPlace := ["slices.overlaps[spile/api.Lot]"], unfollowed := true, recurses := true, named := ["math/bits.divideError", "math/bits.overflowError"], apart := false }
def AgeDaysSaid : Prop := ageDaysRow.holds Tryz.pinned (OpenSpec.ofChange ageDaysSpec)

/-- ITS FALSE NEIGHBOUR: 'it returns false'. Refute it at one input. -/
def ageDaysWrong : ChangeSpec := { name := "ageDays", fn := fun _ => fun
  | [d1, d2, d3, d4] => { results := [.lit (.bool false)], args := [d1, d2, d3, d4] }
  | _ => none }
def AgeDaysWrongFalsely : Prop := ageDaysRow.holds Tryz.pinned (OpenSpec.ofChange ageDaysWrong)

/-- 'spilelaw25.AgeSteps': WHATEVER THE INPUT: true; the input reads as it did. -/
def ageStepsSpec : ChangeSpec := { name := "ageSteps", fn := fun _ => fun
  | [d1, d2] => { results := [.lit (.bool true)], args := [d1, d2] }
  | _ => none }
def ageStepsRow : OpenClaim := { program := "ytadmocbjnalnmaagreat", sum := "3ef5f3f0a3f879e29b1646574111c44b829368aacbf06991dc7e190a200fae69", func := "spile/spilelaw25.AgeSteps", spec := "ageSteps", inPlace := ["slices.overlaps[spile/api.Lot]"], unfollowed := true, recurses := true, named := ["math/bits.divideError", "math/bits.overflowError"], apart := false }
def AgeStepsSaid : Prop := ageStepsRow.holds Tryz.pinned (OpenSpec.ofChange ageStepsSpec)

/-- ITS FALSE NEIGHBOUR: 'it returns false'. Refute it at one input. -/
def ageStepsWrong : ChangeSpec := { name := "ageSteps", fn := fun _ => fun
  | [d1, d2] => { results := [.lit (.bool false)], args := [d1, d2] }
  | _ => none }
def AgeStepsWrongFalsely : Prop := ageStepsRow.holds Tryz.pinned (OpenSpec.ofChange ageStepsWrong)

/-- 'spilelaw25.AgeRipens': WHATEVER THE INPUT: true; the input reads as it did. -/
def ageRipensSpec : ChangeSpec := { name := "ageRipens", fn := fun _ => fun
  | [d1, d2, d3, d4] => { results := [.lit (.bool true)], args := [d1, d2, d3, d4] }
  | _ => none }
def ageRipensRow : OpenClaim := { program := "ytadmocbjnalnmaagreat", sum := "3ef5f3f0a3f879e29b1646574111c44b829368aacbf06991dc7e190a200fae69", func := "spile/spilelaw25.AgeRipens", spec := "ageRipens", inPlace := ["slices.overlaps[spile/api.Lot]"], unfollowed := true, recurses := true, named := ["math/bits.divideError", "math/bits.overflowError"], apart := false }
def AgeRipensSaid : Prop := ageRipensRow.holds Tryz.pinned (OpenSpec.ofChange ageRipensSpec)

/-- ITS FALSE NEIGHBOUR: 'it returns false'. Refute it at one input. -/
def ageRipensWrong : ChangeSpec := { name := "ageRipens", fn := fun _ => fun
  | [d1, d2, d3, d4] => { results := [.lit (.bool false)], args := [d1, d2, d3, d4] }
  | _ => none }
def AgeRipensWrongFalsely : Prop := ageRipensRow.holds Tryz.pinned (OpenSpec.ofChange ageRipensWrong)

/-- 'spilelaw25.AgeOld': WHATEVER THE INPUT: true; the input reads as it did. -/
def ageOldSpec : ChangeSpec := { name := "ageOld", fn := fun _ => fun
  | [d1, d2, d3] => { results := [.lit (.bool true)], args := [d1, d2, d3] }
  | _ => none }
def ageOldRow : OpenClaim := { program := "ytadmocbjnalnmaagreat", sum := "3ef5f3f0a3f879e29b1646574111c44b829368aacbf06991dc7e190a200fae69", func := "spile/spilelaw25.AgeOld", spec := "ageOld", inPlace := ["slices.overlaps[spile/api.Lot]"], unfollowed := true, recurses := true, named := ["math/bits.divideError", "math/bits.overflowError"], apart := false }
def AgeOldSaid : Prop := ageOldRow.holds Tryz.pinned (OpenSpec.ofChange ageOldSpec)

/-- ITS FALSE NEIGHBOUR: 'it returns false'. Refute it at one input. -/
def ageOldWrong : ChangeSpec := { name := "ageOld", fn := fun _ => fun
  | [d1, d2, d3] => { results := [.lit (.bool false)], args := [d1, d2, d3] }
  | _ => none }
def AgeOldWrongFalsely : Prop := ageOldRow.holds Tryz.pinned (OpenSpec.ofChange ageOldWrong)

/- THE SECOND FORM. 'bulk': how many values and letters a reading holds, each counted each time it is reached (what is shared counts as often as it is met; a slice's spare places count too). A statement '..UptoSaid' is the law's where the arguments, and the package variables that the reading takes, are together of bulk at most 1048576: NARROWER than '..Said'. Prove '..Said' where nothing that the law and all that it calls make is longer than what came in: it says more and counts as full. Else prove '..UptoSaid'. A law counts once. -/
mutual
def uptoBulk {H : Type} : DataW H → Nat
  | .lit (.string bytes) => bytes.length + 1
  | .lit _ => 1
  | .nil => 1
  | .ptr d => uptoBulk d + 1
  | .slice elems spare => uptoBulkAll elems + uptoBulkAll spare + 1
  | .agg parts => uptoBulkAll parts + 1
  | .iface _ d => uptoBulk d + 1
  | .map entries => uptoBulkEntries entries + 1
  | .held _ => 1
def uptoBulkAll {H : Type} : List (DataW H) → Nat
  | [] => 0
  | d :: r => uptoBulk d + uptoBulkAll r
def uptoBulkEntries {H : Type} : List (Lit × DataW H) → Nat
  | [] => 0
  | x :: r => uptoBulkEntry x + uptoBulkEntries r
def uptoBulkEntry {H : Type} : Lit × DataW H → Nat
  | (.string bytes, d) => bytes.length + uptoBulk d + 1
  | (_, d) => uptoBulk d + 1
 end
def uptoSmall : (H : Type) → List (DataW H) → Bool := fun _ ds => decide (uptoBulkAll ds ≤ 1048576)
def OpenSpec.upto (s : _root_.Go.ChangeSpec) : _root_.Go.OpenSpec := { _root_.Go.OpenSpec.ofChange s with cond := some uptoSmall }

/-- 'spilelaw25.AgeReads', WHERE WHAT IT READS IS OF BULK AT MOST 1048576: true; the input reads as it did. -/
def ageReadsUptoRow : OpenClaim := { program := "ytadmocbjnalnmaagreat", sum := "3ef5f3f0a3f879e29b1646574111c44b829368aacbf06991dc7e190a200fae69", func := "spile/spilelaw25.AgeReads", spec := "ageReads", inPlace := ["slices.overlaps[spile/api.Lot]"], unfollowed := true, recurses := true, named := ["math/bits.divideError", "math/bits.overflowError"], apart := false, narrowed := true }
def AgeReadsUptoSaid : Prop := ageReadsUptoRow.holds Tryz.pinned (OpenSpec.upto ageReadsSpec)

/-- 'spilelaw25.AgeLeast', WHERE WHAT IT READS IS OF BULK AT MOST 1048576: true; the input reads as it did. -/
def ageLeastUptoRow : OpenClaim := { program := "ytadmocbjnalnmaagreat", sum := "3ef5f3f0a3f879e29b1646574111c44b829368aacbf06991dc7e190a200fae69", func := "spile/spilelaw25.AgeLeast", spec := "ageLeast", inPlace := ["slices.overlaps[spile/api.Lot]"], unfollowed := true, recurses := true, named := ["math/bits.divideError", "math/bits.overflowError"], apart := false, narrowed := true }
def AgeLeastUptoSaid : Prop := ageLeastUptoRow.holds Tryz.pinned (OpenSpec.upto ageLeastSpec)

/-- 'spilelaw25.AgeDays', WHERE WHAT IT READS IS OF BULK AT MOST 1048576: true; the input reads as it did. -/
def ageDaysUptoRow : OpenClaim := { program := "ytadmocbjnalnmaagreat", sum := "3ef5f3f0a3f879e29b1646574111c44b829368aacbf06991dc7e190a200fae69", func := "spile/spilelaw25.AgeDays", spec := "ageDays", inPlace := ["slices.overlaps[spile/api.Lot]"], unfollowed := true, recurses := true, named := ["math/bits.divideError", "math/bits.overflowError"], apart := false, narrowed := true }
def AgeDaysUptoSaid : Prop := ageDaysUptoRow.holds Tryz.pinned (OpenSpec.upto ageDaysSpec)

/-- 'spilelaw25.AgeSteps', WHERE WHAT IT READS IS OF BULK AT MOST 1048576: true; the input reads as it did. -/
def ageStepsUptoRow : OpenClaim := { program := "ytadmocbjnalnmaagreat", sum := "3ef5f3f0a3f879e29b1646574111c44b829368aacbf06991dc7e190a200fae69", func := "spile/spilelaw25.AgeSteps", spec := "ageSteps", inPlace := ["slices.overlaps[spile/api.Lot]"], unfollowed := true, recurses := true, named := ["math/bits.divideError", "math/bits.overflowError"], apart := false, narrowed := true }
def AgeStepsUptoSaid : Prop := ageStepsUptoRow.holds Tryz.pinned (OpenSpec.upto ageStepsSpec)

/-- 'spilelaw25.AgeRipens', WHERE WHAT IT READS IS OF BULK AT MOST 1048576: true; the input reads as it did. -/
def ageRipensUptoRow : OpenClaim := { program := "ytadmocbjnalnmaagreat", sum := "3ef5f3f0a3f879e29b1646574111c44b829368aacbf06991dc7e190a200fae69", func := "spile/spilelaw25.AgeRipens", spec := "ageRipens", inPlace := ["slices.overlaps[spile/api.Lot]"], unfollowed := true, recurses := true, named := ["math/bits.divideError", "math/bits.overflowError"], apart := false, narrowed := true }
def AgeRipensUptoSaid : Prop := ageRipensUptoRow.holds Tryz.pinned (OpenSpec.upto ageRipensSpec)

/-- 'spilelaw25.AgeOld', WHERE WHAT IT READS IS OF BULK AT MOST 1048576: true; the input reads as it did. -/
def ageOldUptoRow : OpenClaim := { program := "ytadmocbjnalnmaagreat", sum := "3ef5f3f0a3f879e29b1646574111c44b829368aacbf06991dc7e190a200fae69", func := "spile/spilelaw25.AgeOld", spec := "ageOld", inPlace := ["slices.overlaps[spile/api.Lot]"], unfollowed := true, recurses := true, named := ["math/bits.divideError", "math/bits.overflowError"], apart := false, narrowed := true }
def AgeOldUptoSaid : Prop := ageOldUptoRow.holds Tryz.pinned (OpenSpec.upto ageOldSpec)

end Rows
end Go.Proofs.YtadmocbjnalnmaaGreat
