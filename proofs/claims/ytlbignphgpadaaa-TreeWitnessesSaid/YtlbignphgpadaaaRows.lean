/-
  No cell of these rows narrows 'for every input' (looked for: loops, veiled, ifaces, maps, wideKeys, modest, calm, conditions, laid).
  DERIVED. THE GIVEN ROWS OF THIS SEAT. 2 by the template 'for every input the law returns true; each argument reads behind the call as it read before'; 0 by the template 'total and deterministic' (their statements: YtlbignphgpadaaaTotals.lean).
  GIVEN WITH THE SEED: the statements are not yours to turn. If you find one false, say at which input.
  Laid BY PROGRAM, IN A SANDBOX (cutbox-rows.mjs): the forced cells as the released guide's own fill.sh prints them over the translation fe80f2706486b94a… (all of the seat's roots in one cut). By AI agents, Wed Nov 11 2026. No macro, syntax, notation, axiom, sorry.
-/
import Derived.Test.YtlbignphgpadaaaChecked
import GoSem.Claim
import GoSem.ClaimJoined
import GoSem.ClaimMapViews
import Derived.JoinedTies
import Derived.KernelRfl
namespace Go.Proofs.Ytlbignphgpadaaa
/- THE CELL 'sum', in the pinned program and in every row, IS THE sha256 OF THE DUMP (.gsa) THAT YtlbignphgpadaaaProg.lean LOADS. Nothing in Lean hashes anything: it is a label: what it is worth is what the hold of that sum in a sandbox is worth. -/
noncomputable def Try.pinned : Pinned := { name := "ytlbignphgpadaaa", sum := "fe80f2706486b94a622b11e256fea8684a52c9df0bad092ae8edac205e8cc3fe", checked := Try.checked }
namespace Rows
def none {H : Type} : Left H := { results := [], args := [] }

/-- 'familychecklaw07.TreeAccepts': WHATEVER THE INPUT: true; the input reads as it did. -/
def treeAcceptsSpec : ChangeSpec := { name := "treeAccepts", fn := fun _ => fun
  | [d1, d2] => { results := [.lit (.bool true)], args := [d1, d2] }
  | _ => none }
def treeAcceptsRow : OpenClaim := { program := "ytlbignphgpadaaa", sum := "fe80f2706486b94a622b11e256fea8684a52c9df0bad092ae8edac205e8cc3fe", func := "familycheck/familychecklaw07.TreeAccepts", spec := "treeAccepts", unfollowed := true, recurses := true, apart := false }
def TreeAcceptsSaid : Prop := treeAcceptsRow.holds Try.pinned (OpenSpec.ofChange treeAcceptsSpec)

/-- ITS FALSE NEIGHBOUR: 'it returns false'. Refute it at one input. -/
def treeAcceptsWrong : ChangeSpec := { name := "treeAccepts", fn := fun _ => fun
  | [d1, d2] => { results := [.lit (.bool false)], args := [d1, d2] }
  | _ => none }
def TreeAcceptsWrongFalsely : Prop := treeAcceptsRow.holds Try.pinned (OpenSpec.ofChange treeAcceptsWrong)

/-- 'familychecklaw07.TreeWitnesses': WHATEVER THE INPUT: true; the input reads as it did. -/
def treeWitnessesSpec : ChangeSpec := { name := "treeWitnesses", fn := fun _ => fun
  | [d] => { results := [.lit (.bool true)], args := [d] }
  | _ => none }
def treeWitnessesRow : OpenClaim := { program := "ytlbignphgpadaaa", sum := "fe80f2706486b94a622b11e256fea8684a52c9df0bad092ae8edac205e8cc3fe", func := "familycheck/familychecklaw07.TreeWitnesses", spec := "treeWitnesses", unfollowed := true, recurses := true, apart := false }
def TreeWitnessesSaid : Prop := treeWitnessesRow.holds Try.pinned (OpenSpec.ofChange treeWitnessesSpec)

/-- ITS FALSE NEIGHBOUR: 'it returns false'. Refute it at one input. -/
def treeWitnessesWrong : ChangeSpec := { name := "treeWitnesses", fn := fun _ => fun
  | [d] => { results := [.lit (.bool false)], args := [d] }
  | _ => none }
def TreeWitnessesWrongFalsely : Prop := treeWitnessesRow.holds Try.pinned (OpenSpec.ofChange treeWitnessesWrong)

/- THE SECOND FORM. 'bulk': how many values and letters a reading holds, each counted each time it is reached (what is shared counts as often as it is met; a slice's spare places count too). A statement '..UptoSaid' is the law's where the arguments, and the package variables that the reading takes, are together of bulk at most 1048576: NARROWER than '..Said'. Prove '..Said' where nothing that the law and all that it calls make is longer than what came in: it says more and counts as full. Else prove '..UptoSaid'. A law counts once. -/
mutual
def uptoBulk {H : Type} : DataW H → Nat
  | .lit (.string bytes) => bytes.length + 1
  | .lit _ => 1
  | .nil => 1
  | .ptr d => uptoBulk d + 1
  | .slice elems spare => uptoBulkAll elems + uptoBulkAll spare + 1
  | .agg parts => uptoBulkAll parts + 1
  | .iface _ d => uptoBulk d + 1
  | .map entries => uptoBulkEntries entries + 1
  | .held _ => 1
def uptoBulkAll {H : Type} : List (DataW H) → Nat
  | [] => 0
  | d :: r => uptoBulk d + uptoBulkAll r
def uptoBulkEntries {H : Type} : List (Lit × DataW H) → Nat
  | [] => 0
  | x :: r => uptoBulkEntry x + uptoBulkEntries r
def uptoBulkEntry {H : Type} : Lit × DataW H → Nat
  | (.string bytes, d) => bytes.length + uptoBulk d + 1
  | (_, d) => uptoBulk d + 1
 end
def uptoSmall : (H : Type) → List (DataW H) → Bool := fun _ ds => decide (uptoBulkAll ds ≤ 1048576)
def OpenSpec.upto (s : _root_.Go.ChangeSpec) : _root_.Go.OpenSpec := { _root_.Go.OpenSpec.ofChange s with cond := some uptoSmall }

/-- 'familychecklaw07.TreeAccepts', WHERE WHAT IT READS IS OF BULK AT MOST 1048576: true; the input reads as it did. -/
def treeAcceptsUptoRow : OpenClaim := { program := "ytlbignphgpadaaa", sum := "fe80f2706486b94a622b11e256fea8684a52c9df0bad092ae8edac205e8cc3fe", func := "familycheck/familychecklaw07.TreeAccepts", spec := "treeAccepts", unfollowed := true, recurses := true, apart := false, narrowed := true }
def TreeAcceptsUptoSaid : Prop := treeAcceptsUptoRow.holds Try.pinned (OpenSpec.upto treeAcceptsSpec)

/-- 'familychecklaw07.TreeWitnesses', WHERE WHAT IT READS IS OF BULK AT MOST 1048576: true; the input reads as it did. -/
def treeWitnessesUptoRow : OpenClaim := { program := "ytlbignphgpadaaa", sum := "fe80f2706486b94a622b11e256fea8684a52c9df0bad092ae8edac205e8cc3fe", func := "familycheck/familychecklaw07.TreeWitnesses", spec := "treeWitnesses", unfollowed := true, recurses := true, apart := false, narrowed := true }
def TreeWitnessesUptoSaid : Prop := treeWitnessesUptoRow.holds Try.pinned (OpenSpec.upto treeWitnessesSpec)

end Rows
end Go.Proofs.Ytlbignphgpadaaa
