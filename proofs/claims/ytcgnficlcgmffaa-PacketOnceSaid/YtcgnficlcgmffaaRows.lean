/-
  No cell of these rows narrows 'for every input' (looked for: loops, veiled, ifaces, maps, wideKeys, modest, calm, conditions, laid).
  DERIVED. THE GIVEN ROWS OF THIS SEAT. 9 by the template 'for every input the law returns true; each argument reads behind the call as it read before'; 0 by the template 'total and deterministic' (their statements: YtcgnficlcgmffaaTotals.lean).
  GIVEN WITH THE SEED: the statements are not yours to turn. If you find one false, say at which input.
  Laid BY PROGRAM, IN A SANDBOX (cutbox-rows.mjs): the forced cells as the released guide's own fill.sh prints them over the translation e3ff0cf7564a113f… (all of the seat's roots in one cut). By AI agents, Wed Nov 11 2026. No macro, syntax, notation, axiom, sorry.
-/
import Derived.Test.YtcgnficlcgmffaaChecked
import GoSem.Claim
import GoSem.ClaimJoined
import GoSem.ClaimMapViews
import Derived.JoinedTies
import Derived.KernelRfl
namespace Go.Proofs.Ytcgnficlcgmffaa
/- THE CELL 'sum', in the pinned program and in every row, IS THE sha256 OF THE DUMP (.gsa) THAT YtcgnficlcgmffaaProg.lean LOADS. Nothing in Lean hashes anything: it is a label: what it is worth is what the hold of that sum in a sandbox is worth. -/
noncomputable def Try.pinned : Pinned := { name := "ytcgnficlcgmffaa", sum := "e3ff0cf7564a113f0e0d3e06dca52c614cf2c5072b8c3bc08600c0bc70e39799", checked := Try.checked }
namespace Rows
def none {H : Type} : Left H := { results := [], args := [] }

/-- 'dustmanlaw11.PacketHeld': WHATEVER THE INPUT: true; the input reads as it did. -/
def packetHeldSpec : ChangeSpec := { name := "packetHeld", fn := fun _ => fun
  | [d1, d2, d3] => { results := [.lit (.bool true)], args := [d1, d2, d3] }
  | _ => none }
def packetHeldRow : OpenClaim := { program := "ytcgnficlcgmffaa", sum := "e3ff0cf7564a113f0e0d3e06dca52c614cf2c5072b8c3bc08600c0bc70e39799", func := "dustman/dustmanlaw11.PacketHeld", spec := "packetHeld", unfollowed := true, recurses := true, apart := false }
def PacketHeldSaid : Prop := packetHeldRow.holds Try.pinned (OpenSpec.ofChange packetHeldSpec)

/-- ITS FALSE NEIGHBOUR: 'it returns false'. Refute it at one input. -/
def packetHeldWrong : ChangeSpec := { name := "packetHeld", fn := fun _ => fun
  | [d1, d2, d3] => { results := [.lit (.bool false)], args := [d1, d2, d3] }
  | _ => none }
def PacketHeldWrongFalsely : Prop := packetHeldRow.holds Try.pinned (OpenSpec.ofChange packetHeldWrong)

/-- 'dustmanlaw11.PacketOnce': WHATEVER THE INPUT: true; the input reads as it did. -/
def packetOnceSpec : ChangeSpec := { name := "packetOnce", fn := fun _ => fun
  | [d1, d2, d3] => { results := [.lit (.bool true)], args := [d1, d2, d3] }
  | _ => none }
def packetOnceRow : OpenClaim := { program := "ytcgnficlcgmffaa", sum := "e3ff0cf7564a113f0e0d3e06dca52c614cf2c5072b8c3bc08600c0bc70e39799", func := "dustman/dustmanlaw11.PacketOnce", spec := "packetOnce", unfollowed := true, recurses := true, apart := false }
def PacketOnceSaid : Prop := packetOnceRow.holds Try.pinned (OpenSpec.ofChange packetOnceSpec)

/-- ITS FALSE NEIGHBOUR: 'it returns false'. Refute it at one input. -/
def packetOnceWrong : ChangeSpec := { name := "packetOnce", fn := fun _ => fun
  | [d1, d2, d3] => { results := [.lit (.bool false)], args := [d1, d2, d3] }
  | _ => none }
def PacketOnceWrongFalsely : Prop := packetOnceRow.holds Try.pinned (OpenSpec.ofChange packetOnceWrong)

/-- 'dustmanlaw11.PacketSteps': WHATEVER THE INPUT: true; the input reads as it did. -/
def packetStepsSpec : ChangeSpec := { name := "packetSteps", fn := fun _ => fun
  | [d1, d2, d3, d4, d5, d6] => { results := [.lit (.bool true)], args := [d1, d2, d3, d4, d5, d6] }
  | _ => none }
def packetStepsRow : OpenClaim := { program := "ytcgnficlcgmffaa", sum := "e3ff0cf7564a113f0e0d3e06dca52c614cf2c5072b8c3bc08600c0bc70e39799", func := "dustman/dustmanlaw11.PacketSteps", spec := "packetSteps", unfollowed := true, recurses := true, apart := false }
def PacketStepsSaid : Prop := packetStepsRow.holds Try.pinned (OpenSpec.ofChange packetStepsSpec)

/-- ITS FALSE NEIGHBOUR: 'it returns false'. Refute it at one input. -/
def packetStepsWrong : ChangeSpec := { name := "packetSteps", fn := fun _ => fun
  | [d1, d2, d3, d4, d5, d6] => { results := [.lit (.bool false)], args := [d1, d2, d3, d4, d5, d6] }
  | _ => none }
def PacketStepsWrongFalsely : Prop := packetStepsRow.holds Try.pinned (OpenSpec.ofChange packetStepsWrong)

/-- 'dustmanlaw13.AddOnce': WHATEVER THE INPUT: true; the input reads as it did. -/
def addOnceSpec : ChangeSpec := { name := "addOnce", fn := fun _ => fun
  | [d1, d2, d3] => { results := [.lit (.bool true)], args := [d1, d2, d3] }
  | _ => none }
def addOnceRow : OpenClaim := { program := "ytcgnficlcgmffaa", sum := "e3ff0cf7564a113f0e0d3e06dca52c614cf2c5072b8c3bc08600c0bc70e39799", func := "dustman/dustmanlaw13.AddOnce", spec := "addOnce", unfollowed := true, recurses := true, apart := false }
def AddOnceSaid : Prop := addOnceRow.holds Try.pinned (OpenSpec.ofChange addOnceSpec)

/-- ITS FALSE NEIGHBOUR: 'it returns false'. Refute it at one input. -/
def addOnceWrong : ChangeSpec := { name := "addOnce", fn := fun _ => fun
  | [d1, d2, d3] => { results := [.lit (.bool false)], args := [d1, d2, d3] }
  | _ => none }
def AddOnceWrongFalsely : Prop := addOnceRow.holds Try.pinned (OpenSpec.ofChange addOnceWrong)

/-- 'dustmanlaw18.BufferTwo': WHATEVER THE INPUT: true; the input reads as it did. -/
def bufferTwoSpec : ChangeSpec := { name := "bufferTwo", fn := fun _ => fun
  | [d1, d2, d3, d4] => { results := [.lit (.bool true)], args := [d1, d2, d3, d4] }
  | _ => none }
def bufferTwoRow : OpenClaim := { program := "ytcgnficlcgmffaa", sum := "e3ff0cf7564a113f0e0d3e06dca52c614cf2c5072b8c3bc08600c0bc70e39799", func := "dustman/dustmanlaw18.BufferTwo", spec := "bufferTwo", unfollowed := true, recurses := true, apart := false }
def BufferTwoSaid : Prop := bufferTwoRow.holds Try.pinned (OpenSpec.ofChange bufferTwoSpec)

/-- ITS FALSE NEIGHBOUR: 'it returns false'. Refute it at one input. -/
def bufferTwoWrong : ChangeSpec := { name := "bufferTwo", fn := fun _ => fun
  | [d1, d2, d3, d4] => { results := [.lit (.bool false)], args := [d1, d2, d3, d4] }
  | _ => none }
def BufferTwoWrongFalsely : Prop := bufferTwoRow.holds Try.pinned (OpenSpec.ofChange bufferTwoWrong)

/-- 'dustmanlaw23.AuditCensus': WHATEVER THE INPUT: true; the input reads as it did. -/
def auditCensusSpec : ChangeSpec := { name := "auditCensus", fn := fun _ => fun
  | [d1, d2, d3, d4] => { results := [.lit (.bool true)], args := [d1, d2, d3, d4] }
  | _ => none }
def auditCensusRow : OpenClaim := { program := "ytcgnficlcgmffaa", sum := "e3ff0cf7564a113f0e0d3e06dca52c614cf2c5072b8c3bc08600c0bc70e39799", func := "dustman/dustmanlaw23.AuditCensus", spec := "auditCensus", unfollowed := true, recurses := true, apart := false }
def AuditCensusSaid : Prop := auditCensusRow.holds Try.pinned (OpenSpec.ofChange auditCensusSpec)

/-- ITS FALSE NEIGHBOUR: 'it returns false'. Refute it at one input. -/
def auditCensusWrong : ChangeSpec := { name := "auditCensus", fn := fun _ => fun
  | [d1, d2, d3, d4] => { results := [.lit (.bool false)], args := [d1, d2, d3, d4] }
  | _ => none }
def AuditCensusWrongFalsely : Prop := auditCensusRow.holds Try.pinned (OpenSpec.ofChange auditCensusWrong)

/-- 'dustmanlaw23.AuditReach': WHATEVER THE INPUT: true; the input reads as it did. -/
def auditReachSpec : ChangeSpec := { name := "auditReach", fn := fun _ => fun
  | [d1, d2, d3, d4] => { results := [.lit (.bool true)], args := [d1, d2, d3, d4] }
  | _ => none }
def auditReachRow : OpenClaim := { program := "ytcgnficlcgmffaa", sum := "e3ff0cf7564a113f0e0d3e06dca52c614cf2c5072b8c3bc08600c0bc70e39799", func := "dustman/dustmanlaw23.AuditReach", spec := "auditReach", unfollowed := true, recurses := true, apart := false }
def AuditReachSaid : Prop := auditReachRow.holds Try.pinned (OpenSpec.ofChange auditReachSpec)

/-- ITS FALSE NEIGHBOUR: 'it returns false'. Refute it at one input. -/
def auditReachWrong : ChangeSpec := { name := "auditReach", fn := fun _ => fun
  | [d1, d2, d3, d4] => { results := [.lit (.bool false)], args := [d1, d2, d3, d4] }
  | _ => none }
def AuditReachWrongFalsely : Prop := auditReachRow.holds Try.pinned (OpenSpec.ofChange auditReachWrong)

/-- 'dustmanlaw23.AuditClosed': WHATEVER THE INPUT: true; the input reads as it did. -/
def auditClosedSpec : ChangeSpec := { name := "auditClosed", fn := fun _ => fun
  | [d1, d2, d3, d4] => { results := [.lit (.bool true)], args := [d1, d2, d3, d4] }
  | _ => none }
def auditClosedRow : OpenClaim := { program := "ytcgnficlcgmffaa", sum := "e3ff0cf7564a113f0e0d3e06dca52c614cf2c5072b8c3bc08600c0bc70e39799", func := "dustman/dustmanlaw23.AuditClosed", spec := "auditClosed", unfollowed := true, recurses := true, apart := false }
def AuditClosedSaid : Prop := auditClosedRow.holds Try.pinned (OpenSpec.ofChange auditClosedSpec)

/-- ITS FALSE NEIGHBOUR: 'it returns false'. Refute it at one input. -/
def auditClosedWrong : ChangeSpec := { name := "auditClosed", fn := fun _ => fun
  | [d1, d2, d3, d4] => { results := [.lit (.bool false)], args := [d1, d2, d3, d4] }
  | _ => none }
def AuditClosedWrongFalsely : Prop := auditClosedRow.holds Try.pinned (OpenSpec.ofChange auditClosedWrong)

/-- 'dustmanlaw23.AuditTotal': WHATEVER THE INPUT: true; the input reads as it did. -/
def auditTotalSpec : ChangeSpec := { name := "auditTotal", fn := fun _ => fun
  | [d1, d2, d3] => { results := [.lit (.bool true)], args := [d1, d2, d3] }
  | _ => none }
def auditTotalRow : OpenClaim := { program := "ytcgnficlcgmffaa", sum := "e3ff0cf7564a113f0e0d3e06dca52c614cf2c5072b8c3bc08600c0bc70e39799", func := "dustman/dustmanlaw23.AuditTotal", spec := "auditTotal", unfollowed := true, recurses := true, apart := false }
def AuditTotalSaid : Prop := auditTotalRow.holds Try.pinned (OpenSpec.ofChange auditTotalSpec)

/-- ITS FALSE NEIGHBOUR: 'it returns false'. Refute it at one input. -/
def auditTotalWrong : ChangeSpec := { name := "auditTotal", fn := fun _ => fun
  | [d1, d2, d3] => { results := [.lit (.bool false)], args := [d1, d2, d3] }
  | _ => none }
def AuditTotalWrongFalsely : Prop := auditTotalRow.holds Try.pinned (OpenSpec.ofChange auditTotalWrong)

/- THE SECOND FORM. 'bulk': how many values and letters a reading holds, each counted each time it is reached (what is shared counts as often as it is met; a slice's spare places count too). A statement '..UptoSaid' is the law's where the arguments, and the package variables that the reading takes, are together of bulk at most 1048576: NARROWER than '..Said'. Prove '..Said' where nothing that the law and all that it calls make is longer than what came in: it says more and counts as full. Else prove '..UptoSaid'. A law counts once. -/
mutual
def uptoBulk {H : Type} : DataW H → Nat
  | .lit (.string bytes) => bytes.length + 1
  | .lit _ => 1
  | .nil => 1
  | .ptr d => uptoBulk d + 1
  | .slice elems spare => uptoBulkAll elems + uptoBulkAll spare + 1
  | .agg parts => uptoBulkAll parts + 1
  | .iface _ d => uptoBulk d + 1
  | .map entries => uptoBulkEntries entries + 1
  | .held _ => 1
def uptoBulkAll {H : Type} : List (DataW H) → Nat
  | [] => 0
  | d :: r => uptoBulk d + uptoBulkAll r
def uptoBulkEntries {H : Type} : List (Lit × DataW H) → Nat
  | [] => 0
  | x :: r => uptoBulkEntry x + uptoBulkEntries r
def uptoBulkEntry {H : Type} : Lit × DataW H → Nat
  | (.string bytes, d) => bytes.length + uptoBulk d + 1
  | (_, d) => uptoBulk d + 1
 end
def uptoSmall : (H : Type) → List (DataW H) → Bool := fun _ ds => decide (uptoBulkAll ds ≤ 1048576)
def OpenSpec.upto (s : _root_.Go.ChangeSpec) : _root_.Go.OpenSpec := { _root_.Go.OpenSpec.ofChange s with cond := some uptoSmall }

/-- 'dustmanlaw11.PacketHeld', WHERE WHAT IT READS IS OF BULK AT MOST 1048576: true; the input reads as it did. -/
def packetHeldUptoRow : OpenClaim := { program := "ytcgnficlcgmffaa", sum := "e3ff0cf7564a113f0e0d3e06dca52c614cf2c5072b8c3bc08600c0bc70e39799", func := "dustman/dustmanlaw11.PacketHeld", spec := "packetHeld", unfollowed := true, recurses := true, apart := false, narrowed := true }
def PacketHeldUptoSaid : Prop := packetHeldUptoRow.holds Try.pinned (OpenSpec.upto packetHeldSpec)

/-- 'dustmanlaw11.PacketOnce', WHERE WHAT IT READS IS OF BULK AT MOST 1048576: true; the input reads as it did. -/
def packetOnceUptoRow : OpenClaim := { program := "ytcgnficlcgmffaa", sum := "e3ff0cf7564a113f0e0d3e06dca52c614cf2c5072b8c3bc08600c0bc70e39799", func := "dustman/dustmanlaw11.PacketOnce", spec := "packetOnce", unfollowed := true, recurses := true, apart := false, narrowed := true }
def PacketOnceUptoSaid : Prop := packetOnceUptoRow.holds Try.pinned (OpenSpec.upto packetOnceSpec)

/-- 'dustmanlaw11.PacketSteps', WHERE WHAT IT READS IS OF BULK AT MOST 1048576: true; the input reads as it did. -/
def packetStepsUptoRow : OpenClaim := { program := "ytcgnficlcgmffaa", sum := "e3ff0cf7564a113f0e0d3e06dca52c614cf2c5072b8c3bc08600c0bc70e39799", func := "dustman/dustmanlaw11.PacketSteps", spec := "packetSteps", unfollowed := true, recurses := true, apart := false, narrowed := true }
def PacketStepsUptoSaid : Prop := packetStepsUptoRow.holds Try.pinned (OpenSpec.upto packetStepsSpec)

/-- 'dustmanlaw13.AddOnce', WHERE WHAT IT READS IS OF BULK AT MOST 1048576: true; the input reads as it did. -/
def addOnceUptoRow : OpenClaim := { program := "ytcgnficlcgmffaa", sum := "e3ff0cf7564a113f0e0d3e06dca52c614cf2c5072b8c3bc08600c0bc70e39799", func := "dustman/dustmanlaw13.AddOnce", spec := "addOnce", unfollowed := true, recurses := true, apart := false, narrowed := true }
def AddOnceUptoSaid : Prop := addOnceUptoRow.holds Try.pinned (OpenSpec.upto addOnceSpec)

/-- 'dustmanlaw18.BufferTwo', WHERE WHAT IT READS IS OF BULK AT MOST 1048576: true; the input reads as it did. -/
def bufferTwoUptoRow : OpenClaim := { program := "ytcgnficlcgmffaa", sum := "e3ff0cf7564a113f0e0d3e06dca52c614cf2c5072b8c3bc08600c0bc70e39799", func := "dustman/dustmanlaw18.BufferTwo", spec := "bufferTwo", unfollowed := true, recurses := true, apart := false, narrowed := true }
def BufferTwoUptoSaid : Prop := bufferTwoUptoRow.holds Try.pinned (OpenSpec.upto bufferTwoSpec)

/-- 'dustmanlaw23.AuditCensus', WHERE WHAT IT READS IS OF BULK AT MOST 1048576: true; the input reads as it did. -/
def auditCensusUptoRow : OpenClaim := { program := "ytcgnficlcgmffaa", sum := "e3ff0cf7564a113f0e0d3e06dca52c614cf2c5072b8c3bc08600c0bc70e39799", func := "dustman/dustmanlaw23.AuditCensus", spec := "auditCensus", unfollowed := true, recurses := true, apart := false, narrowed := true }
def AuditCensusUptoSaid : Prop := auditCensusUptoRow.holds Try.pinned (OpenSpec.upto auditCensusSpec)

/-- 'dustmanlaw23.AuditReach', WHERE WHAT IT READS IS OF BULK AT MOST 1048576: true; the input reads as it did. -/
def auditReachUptoRow : OpenClaim := { program := "ytcgnficlcgmffaa", sum := "e3ff0cf7564a113f0e0d3e06dca52c614cf2c5072b8c3bc08600c0bc70e39799", func := "dustman/dustmanlaw23.AuditReach", spec := "auditReach", unfollowed := true, recurses := true, apart := false, narrowed := true }
def AuditReachUptoSaid : Prop := auditReachUptoRow.holds Try.pinned (OpenSpec.upto auditReachSpec)

/-- 'dustmanlaw23.AuditClosed', WHERE WHAT IT READS IS OF BULK AT MOST 1048576: true; the input reads as it did. -/
def auditClosedUptoRow : OpenClaim := { program := "ytcgnficlcgmffaa", sum := "e3ff0cf7564a113f0e0d3e06dca52c614cf2c5072b8c3bc08600c0bc70e39799", func := "dustman/dustmanlaw23.AuditClosed", spec := "auditClosed", unfollowed := true, recurses := true, apart := false, narrowed := true }
def AuditClosedUptoSaid : Prop := auditClosedUptoRow.holds Try.pinned (OpenSpec.upto auditClosedSpec)

/-- 'dustmanlaw23.AuditTotal', WHERE WHAT IT READS IS OF BULK AT MOST 1048576: true; the input reads as it did. -/
def auditTotalUptoRow : OpenClaim := { program := "ytcgnficlcgmffaa", sum := "e3ff0cf7564a113f0e0d3e06dca52c614cf2c5072b8c3bc08600c0bc70e39799", func := "dustman/dustmanlaw23.AuditTotal", spec := "auditTotal", unfollowed := true, recurses := true, apart := false, narrowed := true }
def AuditTotalUptoSaid : Prop := auditTotalUptoRow.holds Try.pinned (OpenSpec.upto auditTotalSpec)

end Rows
end Go.Proofs.Ytcgnficlcgmffaa
