/-
  No cell of these rows narrows 'for every input' (looked for: loops, veiled, ifaces, maps, wideKeys, modest, calm, conditions, laid).
  DERIVED. THE GIVEN ROWS OF THIS SEAT. 3 by the template 'for every input the law returns true; each argument reads behind the call as it read before'; 0 by the template 'total and deterministic' (their statements: YtclejdlklcabgaaTotals.lean).
  GIVEN WITH THE SEED: the statements are not yours to turn. If you find one false, say at which input.
  Laid BY PROGRAM, IN A SANDBOX (cutbox-rows.mjs): the forced cells as the released guide's own fill.sh prints them over the translation a42f6e1f678f52e3… (all of the seat's roots in one cut). By AI agents, Wed Nov 11 2026. No macro, syntax, notation, axiom, sorry.
-/
import Derived.Test.YtclejdlklcabgaaChecked
import GoSem.Claim
import GoSem.ClaimJoined
import GoSem.ClaimMapViews
import Derived.JoinedTies
import Derived.KernelRfl
namespace Go.Proofs.Ytclejdlklcabgaa
/- THE CELL 'sum', in the pinned program and in every row, IS THE sha256 OF THE DUMP (.gsa) THAT YtclejdlklcabgaaProg.lean LOADS. Nothing in Lean hashes anything: it is a label: what it is worth is what the hold of that sum in a sandbox is worth. -/
noncomputable def Try.pinned : Pinned := { name := "ytclejdlklcabgaa", sum := "a42f6e1f678f52e3ee9addd22e80892e7c0435d5610d74e78f182874d961069b", checked := Try.checked }
namespace Rows
def none {H : Type} : Left H := { results := [], args := [] }

/-- 'tabularylaw15.GrowCovers': WHATEVER THE INPUT: true; the input reads as it did. -/
def growCoversSpec : ChangeSpec := { name := "growCovers", fn := fun _ => fun
  | [d1, d2] => { results := [.lit (.bool true)], args := [d1, d2] }
  | _ => none }
def growCoversRow : OpenClaim := { program := "ytclejdlklcabgaa", sum := "a42f6e1f678f52e3ee9addd22e80892e7c0435d5610d74e78f182874d961069b", func := "tabulary/tabularylaw15.GrowCovers", spec := "growCovers", unfollowed := true, recurses := true, apart := false }
def GrowCoversSaid : Prop := growCoversRow.holds Try.pinned (OpenSpec.ofChange growCoversSpec)

/-- ITS FALSE NEIGHBOUR: 'it returns false'. Refute it at one input. -/
def growCoversWrong : ChangeSpec := { name := "growCovers", fn := fun _ => fun
  | [d1, d2] => { results := [.lit (.bool false)], args := [d1, d2] }
  | _ => none }
def GrowCoversWrongFalsely : Prop := growCoversRow.holds Try.pinned (OpenSpec.ofChange growCoversWrong)

/-- 'tabularylaw13.TreeHalves': WHATEVER THE INPUT: true; the input reads as it did. -/
def treeHalvesSpec : ChangeSpec := { name := "treeHalves", fn := fun _ => fun
  | [d] => { results := [.lit (.bool true)], args := [d] }
  | _ => none }
def treeHalvesRow : OpenClaim := { program := "ytclejdlklcabgaa", sum := "a42f6e1f678f52e3ee9addd22e80892e7c0435d5610d74e78f182874d961069b", func := "tabulary/tabularylaw13.TreeHalves", spec := "treeHalves", apart := false }
def TreeHalvesSaid : Prop := treeHalvesRow.holds Try.pinned (OpenSpec.ofChange treeHalvesSpec)

/-- ITS FALSE NEIGHBOUR: 'it returns false'. Refute it at one input. -/
def treeHalvesWrong : ChangeSpec := { name := "treeHalves", fn := fun _ => fun
  | [d] => { results := [.lit (.bool false)], args := [d] }
  | _ => none }
def TreeHalvesWrongFalsely : Prop := treeHalvesRow.holds Try.pinned (OpenSpec.ofChange treeHalvesWrong)

/-- 'tabularylaw14.MemberSteps': WHATEVER THE INPUT: true; the input reads as it did. -/
def memberStepsSpec : ChangeSpec := { name := "memberSteps", fn := fun _ => fun
  | [d1, d2] => { results := [.lit (.bool true)], args := [d1, d2] }
  | _ => none }
def memberStepsRow : OpenClaim := { program := "ytclejdlklcabgaa", sum := "a42f6e1f678f52e3ee9addd22e80892e7c0435d5610d74e78f182874d961069b", func := "tabulary/tabularylaw14.MemberSteps", spec := "memberSteps", unfollowed := true, recurses := true, apart := false }
def MemberStepsSaid : Prop := memberStepsRow.holds Try.pinned (OpenSpec.ofChange memberStepsSpec)

/-- ITS FALSE NEIGHBOUR: 'it returns false'. Refute it at one input. -/
def memberStepsWrong : ChangeSpec := { name := "memberSteps", fn := fun _ => fun
  | [d1, d2] => { results := [.lit (.bool false)], args := [d1, d2] }
  | _ => none }
def MemberStepsWrongFalsely : Prop := memberStepsRow.holds Try.pinned (OpenSpec.ofChange memberStepsWrong)

/- THE SECOND FORM. 'bulk': how many values and letters a reading holds, each counted each time it is reached (what is shared counts as often as it is met; a slice's spare places count too). A statement '..UptoSaid' is the law's where the arguments, and the package variables that the reading takes, are together of bulk at most 1048576: NARROWER than '..Said'. Prove '..Said' where nothing that the law and all that it calls make is longer than what came in: it says more and counts as full. Else prove '..UptoSaid'. A law counts once. -/
mutual
def uptoBulk {H : Type} : DataW H → Nat
  | .lit (.string bytes) => bytes.length + 1
  | .lit _ => 1
  | .nil => 1
  | .ptr d => uptoBulk d + 1
  | .slice elems spare => uptoBulkAll elems + uptoBulkAll spare + 1
  | .agg parts => uptoBulkAll parts + 1
  | .iface _ d => uptoBulk d + 1
  | .map entries => uptoBulkEntries entries + 1
  | .held _ => 1
def uptoBulkAll {H : Type} : List (DataW H) → Nat
  | [] => 0
  | d :: r => uptoBulk d + uptoBulkAll r
def uptoBulkEntries {H : Type} : List (Lit × DataW H) → Nat
  | [] => 0
  | x :: r => uptoBulkEntry x + uptoBulkEntries r
def uptoBulkEntry {H : Type} : Lit × DataW H → Nat
  | (.string bytes, d) => bytes.length + uptoBulk d + 1
  | (_, d) => uptoBulk d + 1
 end
def uptoSmall : (H : Type) → List (DataW H) → Bool := fun _ ds => decide (uptoBulkAll ds ≤ 1048576)
def OpenSpec.upto (s : _root_.Go.ChangeSpec) : _root_.Go.OpenSpec := { _root_.Go.OpenSpec.ofChange s with cond := some uptoSmall }

/-- 'tabularylaw15.GrowCovers', WHERE WHAT IT READS IS OF BULK AT MOST 1048576: true; the input reads as it did. -/
def growCoversUptoRow : OpenClaim := { program := "ytclejdlklcabgaa", sum := "a42f6e1f678f52e3ee9addd22e80892e7c0435d5610d74e78f182874d961069b", func := "tabulary/tabularylaw15.GrowCovers", spec := "growCovers", unfollowed := true, recurses := true, apart := false, narrowed := true }
def GrowCoversUptoSaid : Prop := growCoversUptoRow.holds Try.pinned (OpenSpec.upto growCoversSpec)

/-- 'tabularylaw13.TreeHalves', WHERE WHAT IT READS IS OF BULK AT MOST 1048576: true; the input reads as it did. -/
def treeHalvesUptoRow : OpenClaim := { program := "ytclejdlklcabgaa", sum := "a42f6e1f678f52e3ee9addd22e80892e7c0435d5610d74e78f182874d961069b", func := "tabulary/tabularylaw13.TreeHalves", spec := "treeHalves", apart := false, narrowed := true }
def TreeHalvesUptoSaid : Prop := treeHalvesUptoRow.holds Try.pinned (OpenSpec.upto treeHalvesSpec)

/-- 'tabularylaw14.MemberSteps', WHERE WHAT IT READS IS OF BULK AT MOST 1048576: true; the input reads as it did. -/
def memberStepsUptoRow : OpenClaim := { program := "ytclejdlklcabgaa", sum := "a42f6e1f678f52e3ee9addd22e80892e7c0435d5610d74e78f182874d961069b", func := "tabulary/tabularylaw14.MemberSteps", spec := "memberSteps", unfollowed := true, recurses := true, apart := false, narrowed := true }
def MemberStepsUptoSaid : Prop := memberStepsUptoRow.holds Try.pinned (OpenSpec.upto memberStepsSpec)

end Rows
end Go.Proofs.Ytclejdlklcabgaa
