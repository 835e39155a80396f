/-
  No cell of these rows narrows 'for every input' (looked for: loops, veiled, ifaces, maps, wideKeys, modest, calm, conditions, laid).
  DERIVED. THE GIVEN ROWS OF THIS SEAT. 4 by the template 'for every input the law returns true; each argument reads behind the call as it read before'; 0 by the template 'total and deterministic' (their statements: YtkfaaeefbndkjaaGreatTotals.lean).
  GIVEN WITH THE SEED: the statements are not yours to turn. If you find one false, say at which input.
  Laid BY PROGRAM, IN A SANDBOX (cutbox-rows.mjs): the forced cells as the released guide's own fill.sh prints them over the translation 533739bddd6d12ff… (all of the seat's roots in one cut). By AI agents, Wed Nov 11 2026. No macro, syntax, notation, axiom, sorry.
-/
import Derived.Test.YtkfaaeefbndkjaaGreatChecked
import GoSem.Claim
import GoSem.ClaimJoined
import GoSem.ClaimMapViews
import Derived.JoinedTies
import Derived.KernelRfl
namespace Go.Proofs.YtkfaaeefbndkjaaGreat
/- THE CELL 'sum', in the pinned program and in every row, IS THE sha256 OF THE DUMP (.gsa) THAT YtkfaaeefbndkjaaGreatProg.lean LOADS. Nothing in Lean hashes anything: it is a label: what it is worth is what the hold of that sum in a sandbox is worth. -/
noncomputable def Tryz.pinned : Pinned := { name := "ytkfaaeefbndkjaagreat", sum := "533739bddd6d12ff579a7f4ef119e0d99d22e0ee6940312edee256f12ab6db10", checked := Tryz.checked }
namespace Rows
def none {H : Type} : Left H := { results := [], args := [] }

/-- 'pontagelaw22.IssueNone': WHATEVER THE INPUT: true; the input reads as it did. -/
def issueNoneSpec : ChangeSpec := { name := "issueNone", fn := fun _ => fun
  | [d1, d2] => { results := [.lit (.bool true)], args := [d1, d2] }
  | _ => none }
def issueNoneRow : OpenClaim := { program := "ytkfaaeefbndkjaagreat", sum := "533739bddd6d12ff579a7f4ef119e0d99d22e0ee6940312edee256f12ab6db10", func := "pontage/pontagelaw22.IssueNone", spec := "issueNone", inPlace := ["math/bits.Add64", "math/bits.Sub64"], unfollowed := true, recurses := true, plainKeys := false, apart := false }
def IssueNoneSaid : Prop := issueNoneRow.holds Tryz.pinned (OpenSpec.ofChange issueNoneSpec)

/-- ITS FALSE NEIGHBOUR: 'it returns false'. Refute it at one input. -/
def issueNoneWrong : ChangeSpec := { name := "issueNone", fn := fun _ => fun
  | [d1, d2] => { results := [.lit (.bool false)], args := [d1, d2] }
  | _ => none }
def IssueNoneWrongFalsely : Prop := issueNoneRow.holds Tryz.pinned (OpenSpec.ofChange issueNoneWrong)

/-- 'pontagelaw23.RedeemNone': WHATEVER THE INPUT: true; the input reads as it did. -/
def redeemNoneSpec : ChangeSpec := { name := "redeemNone", fn := fun _ => fun
  | [d1, d2] => { results := [.lit (.bool true)], args := [d1, d2] }
  | _ => none }
def redeemNoneRow : OpenClaim := { program := "ytkfaaeefbndkjaagreat", sum := "533739bddd6d12ff579a7f4ef119e0d99d22e0ee6940312edee256f12ab6db10", func := "pontage/pontagelaw23.RedeemNone", spec := "redeemNone", inPlace := ["math/bits.Add64", "math/bits.Sub64"], unfollowed := true, recurses := true, plainKeys := false, apart := false }
def RedeemNoneSaid : Prop := redeemNoneRow.holds Tryz.pinned (OpenSpec.ofChange redeemNoneSpec)

/-- ITS FALSE NEIGHBOUR: 'it returns false'. Refute it at one input. -/
def redeemNoneWrong : ChangeSpec := { name := "redeemNone", fn := fun _ => fun
  | [d1, d2] => { results := [.lit (.bool false)], args := [d1, d2] }
  | _ => none }
def RedeemNoneWrongFalsely : Prop := redeemNoneRow.holds Tryz.pinned (OpenSpec.ofChange redeemNoneWrong)

/-- 'pontagelaw24.ReplaceNone': WHATEVER THE INPUT: true; the input reads as it did. -/
def replaceNoneSpec : ChangeSpec := { name := "replaceNone", fn := fun _ => fun
  | [d] => { results := [.lit (.bool true)], args := [d] }
  | _ => none }
def replaceNoneRow : OpenClaim := { program := "ytkfaaeefbndkjaagreat", sum := "533739bddd6d12ff579a7f4ef119e0d99d22e0ee6940312edee256f12ab6db10", func := "pontage/pontagelaw24.ReplaceNone", spec := "replaceNone", inPlace := ["math/bits.Add64", "math/bits.Sub64"], unfollowed := true, recurses := true, plainKeys := false, apart := false }
def ReplaceNoneSaid : Prop := replaceNoneRow.holds Tryz.pinned (OpenSpec.ofChange replaceNoneSpec)

/-- ITS FALSE NEIGHBOUR: 'it returns false'. Refute it at one input. -/
def replaceNoneWrong : ChangeSpec := { name := "replaceNone", fn := fun _ => fun
  | [d] => { results := [.lit (.bool false)], args := [d] }
  | _ => none }
def ReplaceNoneWrongFalsely : Prop := replaceNoneRow.holds Tryz.pinned (OpenSpec.ofChange replaceNoneWrong)

/-- 'pontagelaw23.RedeemEnds': WHATEVER THE INPUT: true; the input reads as it did. -/
def redeemEndsSpec : ChangeSpec := { name := "redeemEnds", fn := fun _ => fun
  | [d1, d2, d3, d4, d5] => { results := [.lit (.bool true)], args := [d1, d2, d3, d4, d5] }
  | _ => none }
def redeemEndsRow : OpenClaim := { program := "ytkfaaeefbndkjaagreat", sum := "533739bddd6d12ff579a7f4ef119e0d99d22e0ee6940312edee256f12ab6db10", func := "pontage/pontagelaw23.RedeemEnds", spec := "redeemEnds", inPlace := ["math/bits.Add64", "math/bits.Sub64"], unfollowed := true, recurses := true, plainKeys := false, apart := false }
def RedeemEndsSaid : Prop := redeemEndsRow.holds Tryz.pinned (OpenSpec.ofChange redeemEndsSpec)

/-- ITS FALSE NEIGHBOUR: 'it returns false'. Refute it at one input. -/
def redeemEndsWrong : ChangeSpec := { name := "redeemEnds", fn := fun _ => fun
  | [d1, d2, d3, d4, d5] => { results := [.lit (.bool false)], args := [d1, d2, d3, d4, d5] }
  | _ => none }
def RedeemEndsWrongFalsely : Prop := redeemEndsRow.holds Tryz.pinned (OpenSpec.ofChange redeemEndsWrong)

/- THE SECOND FORM. 'bulk': how many values and letters a reading holds, each counted each time it is reached (what is shared counts as often as it is met; a slice's spare places count too). A statement '..UptoSaid' is the law's where the arguments, and the package variables that the reading takes, are together of bulk at most 1048576: NARROWER than '..Said'. Prove '..Said' where nothing that the law and all that it calls make is longer than what came in: it says more and counts as full. Else prove '..UptoSaid'. A law counts once. -/
mutual
def uptoBulk {H : Type} : DataW H → Nat
  | .lit (.string bytes) => bytes.length + 1
  | .lit _ => 1
  | .nil => 1
  | .ptr d => uptoBulk d + 1
  | .slice elems spare => uptoBulkAll elems + uptoBulkAll spare + 1
  | .agg parts => uptoBulkAll parts + 1
  | .iface _ d => uptoBulk d + 1
  | .map entries => uptoBulkEntries entries + 1
  | .held _ => 1
def uptoBulkAll {H : Type} : List (DataW H) → Nat
  | [] => 0
  | d :: r => uptoBulk d + uptoBulkAll r
def uptoBulkEntries {H : Type} : List (Lit × DataW H) → Nat
  | [] => 0
  | x :: r => uptoBulkEntry x + uptoBulkEntries r
def uptoBulkEntry {H : Type} : Lit × DataW H → Nat
  | (.string bytes, d) => bytes.length + uptoBulk d + 1
  | (_, d) => uptoBulk d + 1
 end
def uptoSmall : (H : Type) → List (DataW H) → Bool := fun _ ds => decide (uptoBulkAll ds ≤ 1048576)
def OpenSpec.upto (s : _root_.Go.ChangeSpec) : _root_.Go.OpenSpec := { _root_.Go.OpenSpec.ofChange s with cond := some uptoSmall }

/-- 'pontagelaw22.IssueNone', WHERE WHAT IT READS IS OF BULK AT MOST 1048576: true; the input reads as it did. -/
def issueNoneUptoRow : OpenClaim := { program := "ytkfaaeefbndkjaagreat", sum := "533739bddd6d12ff579a7f4ef119e0d99d22e0ee6940312edee256f12ab6db10", func := "pontage/pontagelaw22.IssueNone", spec := "issueNone", inPlace := ["math/bits.Add64", "math/bits.Sub64"], unfollowed := true, recurses := true, plainKeys := false, apart := false, narrowed := true }
def IssueNoneUptoSaid : Prop := issueNoneUptoRow.holds Tryz.pinned (OpenSpec.upto issueNoneSpec)

/-- 'pontagelaw23.RedeemNone', WHERE WHAT IT READS IS OF BULK AT MOST 1048576: true; the input reads as it did. -/
def redeemNoneUptoRow : OpenClaim := { program := "ytkfaaeefbndkjaagreat", sum := "533739bddd6d12ff579a7f4ef119e0d99d22e0ee6940312edee256f12ab6db10", func := "pontage/pontagelaw23.RedeemNone", spec := "redeemNone", inPlace := ["math/bits.Add64", "math/bits.Sub64"], unfollowed := true, recurses := true, plainKeys := false, apart := false, narrowed := true }
def RedeemNoneUptoSaid : Prop := redeemNoneUptoRow.holds Tryz.pinned (OpenSpec.upto redeemNoneSpec)

/-- 'pontagelaw24.ReplaceNone', WHERE WHAT IT READS IS OF BULK AT MOST 1048576: true; the input reads as it did. -/
def replaceNoneUptoRow : OpenClaim := { program := "ytkfaaeefbndkjaagreat", sum := "533739bddd6d12ff579a7f4ef119e0d99d22e0ee6940312edee256f12ab6db10", func := "pontage/pontagelaw24.ReplaceNone", spec := "replaceNone", inPlace := ["math/bits.Add64", "math/bits.Sub64"], unfollowed := true, recurses := true, plainKeys := false, apart := false, narrowed := true }
def ReplaceNoneUptoSaid : Prop := replaceNoneUptoRow.holds Tryz.pinned (OpenSpec.upto replaceNoneSpec)

/-- 'pontagelaw23.RedeemEnds', WHERE WHAT IT READS IS OF BULK AT MOST 1048576: true; the input reads as it did. -/
def redeemEndsUptoRow : OpenClaim := { program := "ytkfaaeefbndkjaagreat", sum := "533739bddd6d12ff579a7f4ef119e0d99d22e0ee6940312edee256f12ab6db10", func := "pontage/pontagelaw23.RedeemEnds", spec := "redeemEnds", inPlace := ["math/bits.Add64", "math/bits.Sub64"], unfollowed := true, recurses := true, plainKeys := false, apart := false, narrowed := true }
def RedeemEndsUptoSaid : Prop := redeemEndsUptoRow.holds Tryz.pinned (OpenSpec.upto redeemEndsSpec)

end Rows
end Go.Proofs.YtkfaaeefbndkjaaGreat
