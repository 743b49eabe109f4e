/-
  No cell of these rows narrows 'for every input' (looked for: loops, veiled, ifaces, maps, wideKeys, modest, calm, conditions, laid).
  DERIVED. THE GIVEN ROWS OF THIS SEAT. 5 by the template 'for every input the law returns true; each argument reads behind the call as it read before'; 0 by the template 'total and deterministic' (their statements: YtdoldlbcjcfmdaaTotals.lean).
  GIVEN WITH THE SEED: the statements are not yours to turn. If you find one false, say at which input.
  Laid BY PROGRAM, IN A SANDBOX (cutbox-rows.mjs): the forced cells as the released guide's own fill.sh prints them over the translation 0af061a7d3c4d5ab… (all of the seat's roots in one cut). By AI agents, Wed Nov 11 2026. No macro, syntax, notation, axiom, sorry.
-/
import Derived.Test.YtdoldlbcjcfmdaaChecked
import GoSem.Claim
import GoSem.ClaimJoined
import GoSem.ClaimMapViews
import Derived.JoinedTies
import Derived.KernelRfl
namespace Go.Proofs.Ytdoldlbcjcfmdaa
/- THE CELL 'sum', in the pinned program and in every row, IS THE sha256 OF THE DUMP (.gsa) THAT YtdoldlbcjcfmdaaProg.lean LOADS. Nothing in Lean hashes anything: it is a label: what it is worth is what the hold of that sum in a sandbox is worth. -/
noncomputable def Try.pinned : Pinned := { name := "ytdoldlbcjcfmdaa", sum := "0af061a7d3c4d5ab675d5846d1c11015cb6df629cf68e2e77811985a79d61029", checked := Try.checked }
namespace Rows
def none {H : Type} : Left H := { results := [], args := [] }

/-- 'archivumlaw25.SuccessionBoth': WHATEVER THE INPUT: true; the input reads as it did. -/
def successionBothSpec : ChangeSpec := { name := "successionBoth", fn := fun _ => fun
  | [d1, d2, d3] => { results := [.lit (.bool true)], args := [d1, d2, d3] }
  | _ => none }
def successionBothRow : OpenClaim := { program := "ytdoldlbcjcfmdaa", sum := "0af061a7d3c4d5ab675d5846d1c11015cb6df629cf68e2e77811985a79d61029", func := "archivum/archivumlaw25.SuccessionBoth", spec := "successionBoth", inPlace := ["internal/bytealg.IndexByteString", "internal/bytealg.IndexString"], unfollowed := true, recurses := true, named := ["internal/bytealg.MaxLen"], apart := false }
def SuccessionBothSaid : Prop := successionBothRow.holds Try.pinned (OpenSpec.ofChange successionBothSpec)

/-- ITS FALSE NEIGHBOUR: 'it returns false'. Refute it at one input. -/
def successionBothWrong : ChangeSpec := { name := "successionBoth", fn := fun _ => fun
  | [d1, d2, d3] => { results := [.lit (.bool false)], args := [d1, d2, d3] }
  | _ => none }
def SuccessionBothWrongFalsely : Prop := successionBothRow.holds Try.pinned (OpenSpec.ofChange successionBothWrong)

/-- 'archivumlaw25.SuccessionSums': WHATEVER THE INPUT: true; the input reads as it did. -/
def successionSumsSpec : ChangeSpec := { name := "successionSums", fn := fun _ => fun
  | [d1, d2, d3] => { results := [.lit (.bool true)], args := [d1, d2, d3] }
  | _ => none }
def successionSumsRow : OpenClaim := { program := "ytdoldlbcjcfmdaa", sum := "0af061a7d3c4d5ab675d5846d1c11015cb6df629cf68e2e77811985a79d61029", func := "archivum/archivumlaw25.SuccessionSums", spec := "successionSums", inPlace := ["internal/bytealg.IndexByteString", "internal/bytealg.IndexString"], unfollowed := true, recurses := true, named := ["internal/bytealg.MaxLen"], apart := false }
def SuccessionSumsSaid : Prop := successionSumsRow.holds Try.pinned (OpenSpec.ofChange successionSumsSpec)

/-- ITS FALSE NEIGHBOUR: 'it returns false'. Refute it at one input. -/
def successionSumsWrong : ChangeSpec := { name := "successionSums", fn := fun _ => fun
  | [d1, d2, d3] => { results := [.lit (.bool false)], args := [d1, d2, d3] }
  | _ => none }
def SuccessionSumsWrongFalsely : Prop := successionSumsRow.holds Try.pinned (OpenSpec.ofChange successionSumsWrong)

/-- 'archivumlaw25.SuccessionMeets': WHATEVER THE INPUT: true; the input reads as it did. -/
def successionMeetsSpec : ChangeSpec := { name := "successionMeets", fn := fun _ => fun
  | [d1, d2, d3] => { results := [.lit (.bool true)], args := [d1, d2, d3] }
  | _ => none }
def successionMeetsRow : OpenClaim := { program := "ytdoldlbcjcfmdaa", sum := "0af061a7d3c4d5ab675d5846d1c11015cb6df629cf68e2e77811985a79d61029", func := "archivum/archivumlaw25.SuccessionMeets", spec := "successionMeets", inPlace := ["internal/bytealg.IndexByteString", "internal/bytealg.IndexString"], unfollowed := true, recurses := true, named := ["internal/bytealg.MaxLen"], apart := false }
def SuccessionMeetsSaid : Prop := successionMeetsRow.holds Try.pinned (OpenSpec.ofChange successionMeetsSpec)

/-- ITS FALSE NEIGHBOUR: 'it returns false'. Refute it at one input. -/
def successionMeetsWrong : ChangeSpec := { name := "successionMeets", fn := fun _ => fun
  | [d1, d2, d3] => { results := [.lit (.bool false)], args := [d1, d2, d3] }
  | _ => none }
def SuccessionMeetsWrongFalsely : Prop := successionMeetsRow.holds Try.pinned (OpenSpec.ofChange successionMeetsWrong)

/-- 'archivumlaw25.SuccessionOrder': WHATEVER THE INPUT: true; the input reads as it did. -/
def successionOrderSpec : ChangeSpec := { name := "successionOrder", fn := fun _ => fun
  | [d] => { results := [.lit (.bool true)], args := [d] }
  | _ => none }
def successionOrderRow : OpenClaim := { program := "ytdoldlbcjcfmdaa", sum := "0af061a7d3c4d5ab675d5846d1c11015cb6df629cf68e2e77811985a79d61029", func := "archivum/archivumlaw25.SuccessionOrder", spec := "successionOrder", inPlace := ["internal/bytealg.IndexByteString", "internal/bytealg.IndexString"], unfollowed := true, recurses := true, named := ["internal/bytealg.MaxLen"], apart := false }
def SuccessionOrderSaid : Prop := successionOrderRow.holds Try.pinned (OpenSpec.ofChange successionOrderSpec)

/-- ITS FALSE NEIGHBOUR: 'it returns false'. Refute it at one input. -/
def successionOrderWrong : ChangeSpec := { name := "successionOrder", fn := fun _ => fun
  | [d] => { results := [.lit (.bool false)], args := [d] }
  | _ => none }
def SuccessionOrderWrongFalsely : Prop := successionOrderRow.holds Try.pinned (OpenSpec.ofChange successionOrderWrong)

/-- 'archivumlaw25.SuccessionTime': WHATEVER THE INPUT: true; the input reads as it did. -/
def successionTimeSpec : ChangeSpec := { name := "successionTime", fn := fun _ => fun
  | [d1, d2, d3] => { results := [.lit (.bool true)], args := [d1, d2, d3] }
  | _ => none }
def successionTimeRow : OpenClaim := { program := "ytdoldlbcjcfmdaa", sum := "0af061a7d3c4d5ab675d5846d1c11015cb6df629cf68e2e77811985a79d61029", func := "archivum/archivumlaw25.SuccessionTime", spec := "successionTime", inPlace := ["internal/bytealg.IndexByteString", "internal/bytealg.IndexString"], unfollowed := true, recurses := true, named := ["internal/bytealg.MaxLen"], apart := false }
def SuccessionTimeSaid : Prop := successionTimeRow.holds Try.pinned (OpenSpec.ofChange successionTimeSpec)

/-- ITS FALSE NEIGHBOUR: 'it returns false'. Refute it at one input. -/
def successionTimeWrong : ChangeSpec := { name := "successionTime", fn := fun _ => fun
  | [d1, d2, d3] => { results := [.lit (.bool false)], args := [d1, d2, d3] }
  | _ => none }
def SuccessionTimeWrongFalsely : Prop := successionTimeRow.holds Try.pinned (OpenSpec.ofChange successionTimeWrong)

/- THE SECOND FORM. 'bulk': how many values and letters a reading holds, each counted each time it is reached (what is shared counts as often as it is met; a slice's spare places count too). A statement '..UptoSaid' is the law's where the arguments, and the package variables that the reading takes, are together of bulk at most 1048576: NARROWER than '..Said'. Prove '..Said' where nothing that the law and all that it calls make is longer than what came in: it says more and counts as full. Else prove '..UptoSaid'. A law counts once. -/
mutual
def uptoBulk {H : Type} : DataW H → Nat
  | .lit (.string bytes) => bytes.length + 1
  | .lit _ => 1
  | .nil => 1
  | .ptr d => uptoBulk d + 1
  | .slice elems spare => uptoBulkAll elems + uptoBulkAll spare + 1
  | .agg parts => uptoBulkAll parts + 1
  | .iface _ d => uptoBulk d + 1
  | .map entries => uptoBulkEntries entries + 1
  | .held _ => 1
def uptoBulkAll {H : Type} : List (DataW H) → Nat
  | [] => 0
  | d :: r => uptoBulk d + uptoBulkAll r
def uptoBulkEntries {H : Type} : List (Lit × DataW H) → Nat
  | [] => 0
  | x :: r => uptoBulkEntry x + uptoBulkEntries r
def uptoBulkEntry {H : Type} : Lit × DataW H → Nat
  | (.string bytes, d) => bytes.length + uptoBulk d + 1
  | (_, d) => uptoBulk d + 1
 end
def uptoSmall : (H : Type) → List (DataW H) → Bool := fun _ ds => decide (uptoBulkAll ds ≤ 1048576)
def OpenSpec.upto (s : _root_.Go.ChangeSpec) : _root_.Go.OpenSpec := { _root_.Go.OpenSpec.ofChange s with cond := some uptoSmall }

/-- 'archivumlaw25.SuccessionBoth', WHERE WHAT IT READS IS OF BULK AT MOST 1048576: true; the input reads as it did. -/
def successionBothUptoRow : OpenClaim := { program := "ytdoldlbcjcfmdaa", sum := "0af061a7d3c4d5ab675d5846d1c11015cb6df629cf68e2e77811985a79d61029", func := "archivum/archivumlaw25.SuccessionBoth", spec := "successionBoth", inPlace := ["internal/bytealg.IndexByteString", "internal/bytealg.IndexString"], unfollowed := true, recurses := true, named := ["internal/bytealg.MaxLen"], apart := false, narrowed := true }
def SuccessionBothUptoSaid : Prop := successionBothUptoRow.holds Try.pinned (OpenSpec.upto successionBothSpec)

/-- 'archivumlaw25.SuccessionSums', WHERE WHAT IT READS IS OF BULK AT MOST 1048576: true; the input reads as it did. -/
def successionSumsUptoRow : OpenClaim := { program := "ytdoldlbcjcfmdaa", sum := "0af061a7d3c4d5ab675d5846d1c11015cb6df629cf68e2e77811985a79d61029", func := "archivum/archivumlaw25.SuccessionSums", spec := "successionSums", inPlace := ["internal/bytealg.IndexByteString", "internal/bytealg.IndexString"], unfollowed := true, recurses := true, named := ["internal/bytealg.MaxLen"], apart := false, narrowed := true }
def SuccessionSumsUptoSaid : Prop := successionSumsUptoRow.holds Try.pinned (OpenSpec.upto successionSumsSpec)

/-- 'archivumlaw25.SuccessionMeets', WHERE WHAT IT READS IS OF BULK AT MOST 1048576: true; the input reads as it did. -/
def successionMeetsUptoRow : OpenClaim := { program := "ytdoldlbcjcfmdaa", sum := "0af061a7d3c4d5ab675d5846d1c11015cb6df629cf68e2e77811985a79d61029", func := "archivum/archivumlaw25.SuccessionMeets", spec := "successionMeets", inPlace := ["internal/bytealg.IndexByteString", "internal/bytealg.IndexString"], unfollowed := true, recurses := true, named := ["internal/bytealg.MaxLen"], apart := false, narrowed := true }
def SuccessionMeetsUptoSaid : Prop := successionMeetsUptoRow.holds Try.pinned (OpenSpec.upto successionMeetsSpec)

/-- 'archivumlaw25.SuccessionOrder', WHERE WHAT IT READS IS OF BULK AT MOST 1048576: true; the input reads as it did. -/
def successionOrderUptoRow : OpenClaim := { program := "ytdoldlbcjcfmdaa", sum := "0af061a7d3c4d5ab675d5846d1c11015cb6df629cf68e2e77811985a79d61029", func := "archivum/archivumlaw25.SuccessionOrder", spec := "successionOrder", inPlace := ["internal/bytealg.IndexByteString", "internal/bytealg.IndexString"], unfollowed := true, recurses := true, named := ["internal/bytealg.MaxLen"], apart := false, narrowed := true }
def SuccessionOrderUptoSaid : Prop := successionOrderUptoRow.holds Try.pinned (OpenSpec.upto successionOrderSpec)

/-- 'archivumlaw25.SuccessionTime', WHERE WHAT IT READS IS OF BULK AT MOST 1048576: true; the input reads as it did. -/
def successionTimeUptoRow : OpenClaim := { program := "ytdoldlbcjcfmdaa", sum := "0af061a7d3c4d5ab675d5846d1c11015cb6df629cf68e2e77811985a79d61029", func := "archivum/archivumlaw25.SuccessionTime", spec := "successionTime", inPlace := ["internal/bytealg.IndexByteString", "internal/bytealg.IndexString"], unfollowed := true, recurses := true, named := ["internal/bytealg.MaxLen"], apart := false, narrowed := true }
def SuccessionTimeUptoSaid : Prop := successionTimeUptoRow.holds Try.pinned (OpenSpec.upto successionTimeSpec)

end Rows
end Go.Proofs.Ytdoldlbcjcfmdaa
