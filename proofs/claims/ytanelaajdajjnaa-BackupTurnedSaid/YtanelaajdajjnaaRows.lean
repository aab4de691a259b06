/-
  No cell of these rows narrows 'for every input' (looked for: loops, veiled, ifaces, maps, wideKeys, modest, calm, conditions, laid).
  DERIVED. THE GIVEN ROWS OF THIS SEAT. 4 by the template 'for every input the law returns true; each argument reads behind the call as it read before'; 0 by the template 'total and deterministic' (their statements: YtanelaajdajjnaaTotals.lean).
  GIVEN WITH THE SEED: the statements are not yours to turn. If you find one false, say at which input.
  Laid BY PROGRAM, IN A SANDBOX (cutbox-rows.mjs): the forced cells as the released guide's own fill.sh prints them over the translation 42be4afb89626744… (all of the seat's roots in one cut). By AI agents, Wed Nov 11 2026. No macro, syntax, notation, axiom, sorry.
-/
import Derived.Test.YtanelaajdajjnaaChecked
import GoSem.Claim
import GoSem.ClaimJoined
import GoSem.ClaimMapViews
import Derived.JoinedTies
import Derived.KernelRfl
namespace Go.Proofs.Ytanelaajdajjnaa
/- THE CELL 'sum', in the pinned program and in every row, IS THE sha256 OF THE DUMP (.gsa) THAT YtanelaajdajjnaaProg.lean LOADS. Nothing in Lean hashes anything: it is a label: what it is worth is what the hold of that sum in a sandbox is worth. -/
noncomputable def Try.pinned : Pinned := { name := "ytanelaajdajjnaa", sum := "42be4afb896267449ba4a904f9b21ea75a05729324eb1ecec721699bfa34cd5d", checked := Try.checked }
namespace Rows
def none {H : Type} : Left H := { results := [], args := [] }

/-- 'trencherlaw33.BackupApart': WHATEVER THE INPUT: true; the input reads as it did. -/
def backupApartSpec : ChangeSpec := { name := "backupApart", fn := fun _ => fun
  | [d1, d2] => { results := [.lit (.bool true)], args := [d1, d2] }
  | _ => none }
def backupApartRow : OpenClaim := { program := "ytanelaajdajjnaa", sum := "42be4afb896267449ba4a904f9b21ea75a05729324eb1ecec721699bfa34cd5d", func := "trencher/trencherlaw33.BackupApart", spec := "backupApart", unfollowed := true, recurses := true, apart := false }
def BackupApartSaid : Prop := backupApartRow.holds Try.pinned (OpenSpec.ofChange backupApartSpec)

/-- ITS FALSE NEIGHBOUR: 'it returns false'. Refute it at one input. -/
def backupApartWrong : ChangeSpec := { name := "backupApart", fn := fun _ => fun
  | [d1, d2] => { results := [.lit (.bool false)], args := [d1, d2] }
  | _ => none }
def BackupApartWrongFalsely : Prop := backupApartRow.holds Try.pinned (OpenSpec.ofChange backupApartWrong)

/-- 'trencherlaw33.BackupReads': WHATEVER THE INPUT: true; the input reads as it did. -/
def backupReadsSpec : ChangeSpec := { name := "backupReads", fn := fun _ => fun
  | [d] => { results := [.lit (.bool true)], args := [d] }
  | _ => none }
def backupReadsRow : OpenClaim := { program := "ytanelaajdajjnaa", sum := "42be4afb896267449ba4a904f9b21ea75a05729324eb1ecec721699bfa34cd5d", func := "trencher/trencherlaw33.BackupReads", spec := "backupReads", unfollowed := true, recurses := true, apart := false }
def BackupReadsSaid : Prop := backupReadsRow.holds Try.pinned (OpenSpec.ofChange backupReadsSpec)

/-- ITS FALSE NEIGHBOUR: 'it returns false'. Refute it at one input. -/
def backupReadsWrong : ChangeSpec := { name := "backupReads", fn := fun _ => fun
  | [d] => { results := [.lit (.bool false)], args := [d] }
  | _ => none }
def BackupReadsWrongFalsely : Prop := backupReadsRow.holds Try.pinned (OpenSpec.ofChange backupReadsWrong)

/-- 'trencherlaw33.BackupTurned': WHATEVER THE INPUT: true; the input reads as it did. -/
def backupTurnedSpec : ChangeSpec := { name := "backupTurned", fn := fun _ => fun
  | [d1, d2, d3] => { results := [.lit (.bool true)], args := [d1, d2, d3] }
  | _ => none }
def backupTurnedRow : OpenClaim := { program := "ytanelaajdajjnaa", sum := "42be4afb896267449ba4a904f9b21ea75a05729324eb1ecec721699bfa34cd5d", func := "trencher/trencherlaw33.BackupTurned", spec := "backupTurned", unfollowed := true, recurses := true, apart := false }
def BackupTurnedSaid : Prop := backupTurnedRow.holds Try.pinned (OpenSpec.ofChange backupTurnedSpec)

/-- ITS FALSE NEIGHBOUR: 'it returns false'. Refute it at one input. -/
def backupTurnedWrong : ChangeSpec := { name := "backupTurned", fn := fun _ => fun
  | [d1, d2, d3] => { results := [.lit (.bool false)], args := [d1, d2, d3] }
  | _ => none }
def BackupTurnedWrongFalsely : Prop := backupTurnedRow.holds Try.pinned (OpenSpec.ofChange backupTurnedWrong)

/-- 'trencherlaw33.BackupWrites': WHATEVER THE INPUT: true; the input reads as it did. -/
def backupWritesSpec : ChangeSpec := { name := "backupWrites", fn := fun _ => fun
  | [d] => { results := [.lit (.bool true)], args := [d] }
  | _ => none }
def backupWritesRow : OpenClaim := { program := "ytanelaajdajjnaa", sum := "42be4afb896267449ba4a904f9b21ea75a05729324eb1ecec721699bfa34cd5d", func := "trencher/trencherlaw33.BackupWrites", spec := "backupWrites", unfollowed := true, recurses := true, apart := false }
def BackupWritesSaid : Prop := backupWritesRow.holds Try.pinned (OpenSpec.ofChange backupWritesSpec)

/-- ITS FALSE NEIGHBOUR: 'it returns false'. Refute it at one input. -/
def backupWritesWrong : ChangeSpec := { name := "backupWrites", fn := fun _ => fun
  | [d] => { results := [.lit (.bool false)], args := [d] }
  | _ => none }
def BackupWritesWrongFalsely : Prop := backupWritesRow.holds Try.pinned (OpenSpec.ofChange backupWritesWrong)

/- THE SECOND FORM. 'bulk': how many values and letters a reading holds, each counted each time it is reached (what is shared counts as often as it is met; a slice's spare places count too). A statement '..UptoSaid' is the law's where the arguments, and the package variables that the reading takes, are together of bulk at most 1048576: NARROWER than '..Said'. Prove '..Said' where nothing that the law and all that it calls make is longer than what came in: it says more and counts as full. Else prove '..UptoSaid'. A law counts once. -/
mutual
def uptoBulk {H : Type} : DataW H → Nat
  | .lit (.string bytes) => bytes.length + 1
  | .lit _ => 1
  | .nil => 1
  | .ptr d => uptoBulk d + 1
  | .slice elems spare => uptoBulkAll elems + uptoBulkAll spare + 1
  | .agg parts => uptoBulkAll parts + 1
  | .iface _ d => uptoBulk d + 1
  | .map entries => uptoBulkEntries entries + 1
  | .held _ => 1
def uptoBulkAll {H : Type} : List (DataW H) → Nat
  | [] => 0
  | d :: r => uptoBulk d + uptoBulkAll r
def uptoBulkEntries {H : Type} : List (Lit × DataW H) → Nat
  | [] => 0
  | x :: r => uptoBulkEntry x + uptoBulkEntries r
def uptoBulkEntry {H : Type} : Lit × DataW H → Nat
  | (.string bytes, d) => bytes.length + uptoBulk d + 1
  | (_, d) => uptoBulk d + 1
 end
def uptoSmall : (H : Type) → List (DataW H) → Bool := fun _ ds => decide (uptoBulkAll ds ≤ 1048576)
def OpenSpec.upto (s : _root_.Go.ChangeSpec) : _root_.Go.OpenSpec := { _root_.Go.OpenSpec.ofChange s with cond := some uptoSmall }

/-- 'trencherlaw33.BackupApart', WHERE WHAT IT READS IS OF BULK AT MOST 1048576: true; the input reads as it did. -/
def backupApartUptoRow : OpenClaim := { program := "ytanelaajdajjnaa", sum := "42be4afb896267449ba4a904f9b21ea75a05729324eb1ecec721699bfa34cd5d", func := "trencher/trencherlaw33.BackupApart", spec := "backupApart", unfollowed := true, recurses := true, apart := false, narrowed := true }
def BackupApartUptoSaid : Prop := backupApartUptoRow.holds Try.pinned (OpenSpec.upto backupApartSpec)

/-- 'trencherlaw33.BackupReads', WHERE WHAT IT READS IS OF BULK AT MOST 1048576: true; the input reads as it did. -/
def backupReadsUptoRow : OpenClaim := { program := "ytanelaajdajjnaa", sum := "42be4afb896267449ba4a904f9b21ea75a05729324eb1ecec721699bfa34cd5d", func := "trencher/trencherlaw33.BackupReads", spec := "backupReads", unfollowed := true, recurses := true, apart := false, narrowed := true }
def BackupReadsUptoSaid : Prop := backupReadsUptoRow.holds Try.pinned (OpenSpec.upto backupReadsSpec)

/-- 'trencherlaw33.BackupTurned', WHERE WHAT IT READS IS OF BULK AT MOST 1048576: true; the input reads as it did. -/
def backupTurnedUptoRow : OpenClaim := { program := "ytanelaajdajjnaa", sum := "42be4afb896267449ba4a904f9b21ea75a05729324eb1ecec721699bfa34cd5d", func := "trencher/trencherlaw33.BackupTurned", spec := "backupTurned", unfollowed := true, recurses := true, apart := false, narrowed := true }
def BackupTurnedUptoSaid : Prop := backupTurnedUptoRow.holds Try.pinned (OpenSpec.upto backupTurnedSpec)

/-- 'trencherlaw33.BackupWrites', WHERE WHAT IT READS IS OF BULK AT MOST 1048576: true; the input reads as it did. -/
def backupWritesUptoRow : OpenClaim := { program := "ytanelaajdajjnaa", sum := "42be4afb896267449ba4a904f9b21ea75a05729324eb1ecec721699bfa34cd5d", func := "trencher/trencherlaw33.BackupWrites", spec := "backupWrites", unfollowed := true, recurses := true, apart := false, narrowed := true }
def BackupWritesUptoSaid : Prop := backupWritesUptoRow.holds Try.pinned (OpenSpec.upto backupWritesSpec)

end Rows
end Go.Proofs.Ytanelaajdajjnaa
