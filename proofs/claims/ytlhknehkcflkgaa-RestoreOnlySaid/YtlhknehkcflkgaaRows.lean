/-
  No cell of these rows narrows 'for every input' (looked for: loops, veiled, ifaces, maps, wideKeys, modest, calm, conditions, laid).
  DERIVED. THE GIVEN ROWS OF THIS SEAT. 6 by the template 'for every input the law returns true; each argument reads behind the call as it read before'; 0 by the template 'total and deterministic' (their statements: YtlhknehkcflkgaaTotals.lean).
  GIVEN WITH THE SEED: the statements are not yours to turn. If you find one false, say at which input.
  Laid BY PROGRAM, IN A SANDBOX (cutbox-rows.mjs): the forced cells as the released guide's own fill.sh prints them over the translation 08eec3a3889b23f6… (all of the seat's roots in one cut). By AI agents, Wed Nov 11 2026. No macro, syntax, notation, axiom, sorry.
-/
import Derived.Test.YtlhknehkcflkgaaChecked
import GoSem.Claim
import GoSem.ClaimJoined
import GoSem.ClaimMapViews
import Derived.JoinedTies
import Derived.KernelRfl
namespace Go.Proofs.Ytlhknehkcflkgaa
/- THE CELL 'sum', in the pinned program and in every row, IS THE sha256 OF THE DUMP (.gsa) THAT YtlhknehkcflkgaaProg.lean LOADS. Nothing in Lean hashes anything: it is a label: what it is worth is what the hold of that sum in a sandbox is worth. -/
noncomputable def Try.pinned : Pinned := { name := "ytlhknehkcflkgaa", sum := "08eec3a3889b23f6303ec833e8841f7d5fa23840a5df97b7690c97f777e51771", checked := Try.checked }
namespace Rows
def none {H : Type} : Left H := { results := [], args := [] }

/-- 'minecontrollaw21.RestoreReady': WHATEVER THE INPUT: true; the input reads as it did. -/
def restoreReadySpec : ChangeSpec := { name := "restoreReady", fn := fun _ => fun
  | [d1, d2, d3, d4, d5] => { results := [.lit (.bool true)], args := [d1, d2, d3, d4, d5] }
  | _ => none }
def restoreReadyRow : OpenClaim := { program := "ytlhknehkcflkgaa", sum := "08eec3a3889b23f6303ec833e8841f7d5fa23840a5df97b7690c97f777e51771", func := "minecontrol/minecontrollaw21.RestoreReady", spec := "restoreReady", unfollowed := true, recurses := true, apart := false }
def RestoreReadySaid : Prop := restoreReadyRow.holds Try.pinned (OpenSpec.ofChange restoreReadySpec)

/-- ITS FALSE NEIGHBOUR: 'it returns false'. Refute it at one input. -/
def restoreReadyWrong : ChangeSpec := { name := "restoreReady", fn := fun _ => fun
  | [d1, d2, d3, d4, d5] => { results := [.lit (.bool false)], args := [d1, d2, d3, d4, d5] }
  | _ => none }
def RestoreReadyWrongFalsely : Prop := restoreReadyRow.holds Try.pinned (OpenSpec.ofChange restoreReadyWrong)

/-- 'minecontrollaw21.RestoreOnly': WHATEVER THE INPUT: true; the input reads as it did. -/
def restoreOnlySpec : ChangeSpec := { name := "restoreOnly", fn := fun _ => fun
  | [d] => { results := [.lit (.bool true)], args := [d] }
  | _ => none }
def restoreOnlyRow : OpenClaim := { program := "ytlhknehkcflkgaa", sum := "08eec3a3889b23f6303ec833e8841f7d5fa23840a5df97b7690c97f777e51771", func := "minecontrol/minecontrollaw21.RestoreOnly", spec := "restoreOnly", unfollowed := true, recurses := true, apart := false }
def RestoreOnlySaid : Prop := restoreOnlyRow.holds Try.pinned (OpenSpec.ofChange restoreOnlySpec)

/-- ITS FALSE NEIGHBOUR: 'it returns false'. Refute it at one input. -/
def restoreOnlyWrong : ChangeSpec := { name := "restoreOnly", fn := fun _ => fun
  | [d] => { results := [.lit (.bool false)], args := [d] }
  | _ => none }
def RestoreOnlyWrongFalsely : Prop := restoreOnlyRow.holds Try.pinned (OpenSpec.ofChange restoreOnlyWrong)

/-- 'minecontrollaw21.RestoreTopDown': WHATEVER THE INPUT: true; the input reads as it did. -/
def restoreTopDownSpec : ChangeSpec := { name := "restoreTopDown", fn := fun _ => fun
  | [d] => { results := [.lit (.bool true)], args := [d] }
  | _ => none }
def restoreTopDownRow : OpenClaim := { program := "ytlhknehkcflkgaa", sum := "08eec3a3889b23f6303ec833e8841f7d5fa23840a5df97b7690c97f777e51771", func := "minecontrol/minecontrollaw21.RestoreTopDown", spec := "restoreTopDown", unfollowed := true, recurses := true, apart := false }
def RestoreTopDownSaid : Prop := restoreTopDownRow.holds Try.pinned (OpenSpec.ofChange restoreTopDownSpec)

/-- ITS FALSE NEIGHBOUR: 'it returns false'. Refute it at one input. -/
def restoreTopDownWrong : ChangeSpec := { name := "restoreTopDown", fn := fun _ => fun
  | [d] => { results := [.lit (.bool false)], args := [d] }
  | _ => none }
def RestoreTopDownWrongFalsely : Prop := restoreTopDownRow.holds Try.pinned (OpenSpec.ofChange restoreTopDownWrong)

/-- 'minecontrollaw21.RestoreLate': WHATEVER THE INPUT: true; the input reads as it did. -/
def restoreLateSpec : ChangeSpec := { name := "restoreLate", fn := fun _ => fun
  | [d1, d2, d3] => { results := [.lit (.bool true)], args := [d1, d2, d3] }
  | _ => none }
def restoreLateRow : OpenClaim := { program := "ytlhknehkcflkgaa", sum := "08eec3a3889b23f6303ec833e8841f7d5fa23840a5df97b7690c97f777e51771", func := "minecontrol/minecontrollaw21.RestoreLate", spec := "restoreLate", unfollowed := true, recurses := true, apart := false }
def RestoreLateSaid : Prop := restoreLateRow.holds Try.pinned (OpenSpec.ofChange restoreLateSpec)

/-- ITS FALSE NEIGHBOUR: 'it returns false'. Refute it at one input. -/
def restoreLateWrong : ChangeSpec := { name := "restoreLate", fn := fun _ => fun
  | [d1, d2, d3] => { results := [.lit (.bool false)], args := [d1, d2, d3] }
  | _ => none }
def RestoreLateWrongFalsely : Prop := restoreLateRow.holds Try.pinned (OpenSpec.ofChange restoreLateWrong)

/-- 'minecontrollaw21.RestoreExact': WHATEVER THE INPUT: true; the input reads as it did. -/
def restoreExactSpec : ChangeSpec := { name := "restoreExact", fn := fun _ => fun
  | [d1, d2, d3] => { results := [.lit (.bool true)], args := [d1, d2, d3] }
  | _ => none }
def restoreExactRow : OpenClaim := { program := "ytlhknehkcflkgaa", sum := "08eec3a3889b23f6303ec833e8841f7d5fa23840a5df97b7690c97f777e51771", func := "minecontrol/minecontrollaw21.RestoreExact", spec := "restoreExact", unfollowed := true, recurses := true, apart := false }
def RestoreExactSaid : Prop := restoreExactRow.holds Try.pinned (OpenSpec.ofChange restoreExactSpec)

/-- ITS FALSE NEIGHBOUR: 'it returns false'. Refute it at one input. -/
def restoreExactWrong : ChangeSpec := { name := "restoreExact", fn := fun _ => fun
  | [d1, d2, d3] => { results := [.lit (.bool false)], args := [d1, d2, d3] }
  | _ => none }
def RestoreExactWrongFalsely : Prop := restoreExactRow.holds Try.pinned (OpenSpec.ofChange restoreExactWrong)

/-- 'minecontrollaw21.RestoreOthers': WHATEVER THE INPUT: true; the input reads as it did. -/
def restoreOthersSpec : ChangeSpec := { name := "restoreOthers", fn := fun _ => fun
  | [d] => { results := [.lit (.bool true)], args := [d] }
  | _ => none }
def restoreOthersRow : OpenClaim := { program := "ytlhknehkcflkgaa", sum := "08eec3a3889b23f6303ec833e8841f7d5fa23840a5df97b7690c97f777e51771", func := "minecontrol/minecontrollaw21.RestoreOthers", spec := "restoreOthers", unfollowed := true, recurses := true, apart := false }
def RestoreOthersSaid : Prop := restoreOthersRow.holds Try.pinned (OpenSpec.ofChange restoreOthersSpec)

/-- ITS FALSE NEIGHBOUR: 'it returns false'. Refute it at one input. -/
def restoreOthersWrong : ChangeSpec := { name := "restoreOthers", fn := fun _ => fun
  | [d] => { results := [.lit (.bool false)], args := [d] }
  | _ => none }
def RestoreOthersWrongFalsely : Prop := restoreOthersRow.holds Try.pinned (OpenSpec.ofChange restoreOthersWrong)

/- THE SECOND FORM. 'bulk': how many values and letters a reading holds, each counted each time it is reached (what is shared counts as often as it is met; a slice's spare places count too). A statement '..UptoSaid' is the law's where the arguments, and the package variables that the reading takes, are together of bulk at most 1048576: NARROWER than '..Said'. Prove '..Said' where nothing that the law and all that it calls make is longer than what came in: it says more and counts as full. Else prove '..UptoSaid'. A law counts once. -/
mutual
def uptoBulk {H : Type} : DataW H → Nat
  | .lit (.string bytes) => bytes.length + 1
  | .lit _ => 1
  | .nil => 1
  | .ptr d => uptoBulk d + 1
  | .slice elems spare => uptoBulkAll elems + uptoBulkAll spare + 1
  | .agg parts => uptoBulkAll parts + 1
  | .iface _ d => uptoBulk d + 1
  | .map entries => uptoBulkEntries entries + 1
  | .held _ => 1
def uptoBulkAll {H : Type} : List (DataW H) → Nat
  | [] => 0
  | d :: r => uptoBulk d + uptoBulkAll r
def uptoBulkEntries {H : Type} : List (Lit × DataW H) → Nat
  | [] => 0
  | x :: r => uptoBulkEntry x + uptoBulkEntries r
def uptoBulkEntry {H : Type} : Lit × DataW H → Nat
  | (.string bytes, d) => bytes.length + uptoBulk d + 1
  | (_, d) => uptoBulk d + 1
 end
def uptoSmall : (H : Type) → List (DataW H) → Bool := fun _ ds => decide (uptoBulkAll ds ≤ 1048576)
def OpenSpec.upto (s : _root_.Go.ChangeSpec) : _root_.Go.OpenSpec := { _root_.Go.OpenSpec.ofChange s with cond := some uptoSmall }

/-- 'minecontrollaw21.RestoreReady', WHERE WHAT IT READS IS OF BULK AT MOST 1048576: true; the input reads as it did. -/
def restoreReadyUptoRow : OpenClaim := { program := "ytlhknehkcflkgaa", sum := "08eec3a3889b23f6303ec833e8841f7d5fa23840a5df97b7690c97f777e51771", func := "minecontrol/minecontrollaw21.RestoreReady", spec := "restoreReady", unfollowed := true, recurses := true, apart := false, narrowed := true }
def RestoreReadyUptoSaid : Prop := restoreReadyUptoRow.holds Try.pinned (OpenSpec.upto restoreReadySpec)

/-- 'minecontrollaw21.RestoreOnly', WHERE WHAT IT READS IS OF BULK AT MOST 1048576: true; the input reads as it did. -/
def restoreOnlyUptoRow : OpenClaim := { program := "ytlhknehkcflkgaa", sum := "08eec3a3889b23f6303ec833e8841f7d5fa23840a5df97b7690c97f777e51771", func := "minecontrol/minecontrollaw21.RestoreOnly", spec := "restoreOnly", unfollowed := true, recurses := true, apart := false, narrowed := true }
def RestoreOnlyUptoSaid : Prop := restoreOnlyUptoRow.holds Try.pinned (OpenSpec.upto restoreOnlySpec)

/-- 'minecontrollaw21.RestoreTopDown', WHERE WHAT IT READS IS OF BULK AT MOST 1048576: true; the input reads as it did. -/
def restoreTopDownUptoRow : OpenClaim := { program := "ytlhknehkcflkgaa", sum := "08eec3a3889b23f6303ec833e8841f7d5fa23840a5df97b7690c97f777e51771", func := "minecontrol/minecontrollaw21.RestoreTopDown", spec := "restoreTopDown", unfollowed := true, recurses := true, apart := false, narrowed := true }
def RestoreTopDownUptoSaid : Prop := restoreTopDownUptoRow.holds Try.pinned (OpenSpec.upto restoreTopDownSpec)

/-- 'minecontrollaw21.RestoreLate', WHERE WHAT IT READS IS OF BULK AT MOST 1048576: true; the input reads as it did. -/
def restoreLateUptoRow : OpenClaim := { program := "ytlhknehkcflkgaa", sum := "08eec3a3889b23f6303ec833e8841f7d5fa23840a5df97b7690c97f777e51771", func := "minecontrol/minecontrollaw21.RestoreLate", spec := "restoreLate", unfollowed := true, recurses := true, apart := false, narrowed := true }
def RestoreLateUptoSaid : Prop := restoreLateUptoRow.holds Try.pinned (OpenSpec.upto restoreLateSpec)

/-- 'minecontrollaw21.RestoreExact', WHERE WHAT IT READS IS OF BULK AT MOST 1048576: true; the input reads as it did. -/
def restoreExactUptoRow : OpenClaim := { program := "ytlhknehkcflkgaa", sum := "08eec3a3889b23f6303ec833e8841f7d5fa23840a5df97b7690c97f777e51771", func := "minecontrol/minecontrollaw21.RestoreExact", spec := "restoreExact", unfollowed := true, recurses := true, apart := false, narrowed := true }
def RestoreExactUptoSaid : Prop := restoreExactUptoRow.holds Try.pinned (OpenSpec.upto restoreExactSpec)

/-- 'minecontrollaw21.RestoreOthers', WHERE WHAT IT READS IS OF BULK AT MOST 1048576: true; the input reads as it did. -/
def restoreOthersUptoRow : OpenClaim := { program := "ytlhknehkcflkgaa", sum := "08eec3a3889b23f6303ec833e8841f7d5fa23840a5df97b7690c97f777e51771", func := "minecontrol/minecontrollaw21.RestoreOthers", spec := "restoreOthers", unfollowed := true, recurses := true, apart := false, narrowed := true }
def RestoreOthersUptoSaid : Prop := restoreOthersUptoRow.holds Try.pinned (OpenSpec.upto restoreOthersSpec)

end Rows
end Go.Proofs.Ytlhknehkcflkgaa
