/-
  No cell of these rows narrows 'for every input' (looked for: loops, veiled, ifaces, maps, wideKeys, modest, calm, conditions, laid).
  DERIVED. THE GIVEN ROWS OF THIS SEAT. 3 by the template 'for every input the law returns true; each argument reads behind the call as it read before'; 0 by the template 'total and deterministic' (their statements: YtdoldlbcjcfmdaaGreatTotals.lean).
  GIVEN WITH THE SEED: the statements are not yours to turn. If you find one false, say at which input.
  Laid BY PROGRAM, IN A SANDBOX (cutbox-rows.mjs): the forced cells as the released guide's own fill.sh prints them over the translation b39de5db0875a254… (all of the seat's roots in one cut). By AI agents, Wed Nov 11 2026. No macro, syntax, notation, axiom, sorry.
-/
import Derived.Test.YtdoldlbcjcfmdaaGreatChecked
import GoSem.Claim
import GoSem.ClaimJoined
import GoSem.ClaimMapViews
import Derived.JoinedTies
import Derived.KernelRfl
namespace Go.Proofs.YtdoldlbcjcfmdaaGreat
/- THE CELL 'sum', in the pinned program and in every row, IS THE sha256 OF THE DUMP (.gsa) THAT YtdoldlbcjcfmdaaGreatProg.lean LOADS. Nothing in Lean hashes anything: it is a label: what it is worth is what the hold of that sum in a sandbox is worth. -/
noncomputable def Tryz.pinned : Pinned := { name := "ytdoldlbcjcfmdaagreat", sum := "b39de5db0875a254d6c399234dd30b8fe94322d40d0c3d7b7da179809ec2b614", checked := Tryz.checked }
namespace Rows
def none {H : Type} : Left H := { results := [], args := [] }

/-- 'archivumlaw25.SuccessionFollows': WHATEVER THE INPUT: true; the input reads as it did. -/
def successionFollowsSpec : ChangeSpec := { name := "successionFollows", fn := fun _ => fun
  | [d1, d2, d3] => { results := [.lit (.bool true)], args := [d1, d2, d3] }
  | _ => none }
def successionFollowsRow : OpenClaim := { program := "ytdoldlbcjcfmdaagreat", sum := "b39de5db0875a254d6c399234dd30b8fe94322d40d0c3d7b7da179809ec2b614", func := "archivum/archivumlaw25.SuccessionFollows", spec := "successionFollows", inPlace := ["internal/bytealg.IndexByteString", "internal/bytealg.IndexString"], unfollowed := true, recurses := true, named := ["internal/bytealg.MaxLen"], apart := false }
def SuccessionFollowsSaid : Prop := successionFollowsRow.holds Tryz.pinned (OpenSpec.ofChange successionFollowsSpec)

/-- ITS FALSE NEIGHBOUR: 'it returns false'. Refute it at one input. -/
def successionFollowsWrong : ChangeSpec := { name := "successionFollows", fn := fun _ => fun
  | [d1, d2, d3] => { results := [.lit (.bool false)], args := [d1, d2, d3] }
  | _ => none }
def SuccessionFollowsWrongFalsely : Prop := successionFollowsRow.holds Tryz.pinned (OpenSpec.ofChange successionFollowsWrong)

/-- 'archivumlaw25.SuccessionWays': WHATEVER THE INPUT: true; the input reads as it did. -/
def successionWaysSpec : ChangeSpec := { name := "successionWays", fn := fun _ => fun
  | [d1, d2, d3] => { results := [.lit (.bool true)], args := [d1, d2, d3] }
  | _ => none }
def successionWaysRow : OpenClaim := { program := "ytdoldlbcjcfmdaagreat", sum := "b39de5db0875a254d6c399234dd30b8fe94322d40d0c3d7b7da179809ec2b614", func := "archivum/archivumlaw25.SuccessionWays", spec := "successionWays", inPlace := ["internal/bytealg.IndexByteString", "internal/bytealg.IndexString"], unfollowed := true, recurses := true, named := ["internal/bytealg.MaxLen"], apart := false }
def SuccessionWaysSaid : Prop := successionWaysRow.holds Tryz.pinned (OpenSpec.ofChange successionWaysSpec)

/-- ITS FALSE NEIGHBOUR: 'it returns false'. Refute it at one input. -/
def successionWaysWrong : ChangeSpec := { name := "successionWays", fn := fun _ => fun
  | [d1, d2, d3] => { results := [.lit (.bool false)], args := [d1, d2, d3] }
  | _ => none }
def SuccessionWaysWrongFalsely : Prop := successionWaysRow.holds Tryz.pinned (OpenSpec.ofChange successionWaysWrong)

/-- 'archivumlaw25.SuccessionAges': WHATEVER THE INPUT: true; the input reads as it did. -/
def successionAgesSpec : ChangeSpec := { name := "successionAges", fn := fun _ => fun
  | [d] => { results := [.lit (.bool true)], args := [d] }
  | _ => none }
def successionAgesRow : OpenClaim := { program := "ytdoldlbcjcfmdaagreat", sum := "b39de5db0875a254d6c399234dd30b8fe94322d40d0c3d7b7da179809ec2b614", func := "archivum/archivumlaw25.SuccessionAges", spec := "successionAges", inPlace := ["internal/bytealg.IndexByteString", "internal/bytealg.IndexString"], unfollowed := true, recurses := true, named := ["internal/bytealg.MaxLen"], apart := false }
def SuccessionAgesSaid : Prop := successionAgesRow.holds Tryz.pinned (OpenSpec.ofChange successionAgesSpec)

/-- ITS FALSE NEIGHBOUR: 'it returns false'. Refute it at one input. -/
def successionAgesWrong : ChangeSpec := { name := "successionAges", fn := fun _ => fun
  | [d] => { results := [.lit (.bool false)], args := [d] }
  | _ => none }
def SuccessionAgesWrongFalsely : Prop := successionAgesRow.holds Tryz.pinned (OpenSpec.ofChange successionAgesWrong)

/- THE SECOND FORM. 'bulk': how many values and letters a reading holds, each counted each time it is reached (what is shared counts as often as it is met; a slice's spare places count too). A statement '..UptoSaid' is the law's where the arguments, and the package variables that the reading takes, are together of bulk at most 1048576: NARROWER than '..Said'. Prove '..Said' where nothing that the law and all that it calls make is longer than what came in: it says more and counts as full. Else prove '..UptoSaid'. A law counts once. -/
mutual
def uptoBulk {H : Type} : DataW H → Nat
  | .lit (.string bytes) => bytes.length + 1
  | .lit _ => 1
  | .nil => 1
  | .ptr d => uptoBulk d + 1
  | .slice elems spare => uptoBulkAll elems + uptoBulkAll spare + 1
  | .agg parts => uptoBulkAll parts + 1
  | .iface _ d => uptoBulk d + 1
  | .map entries => uptoBulkEntries entries + 1
  | .held _ => 1
def uptoBulkAll {H : Type} : List (DataW H) → Nat
  | [] => 0
  | d :: r => uptoBulk d + uptoBulkAll r
def uptoBulkEntries {H : Type} : List (Lit × DataW H) → Nat
  | [] => 0
  | x :: r => uptoBulkEntry x + uptoBulkEntries r
def uptoBulkEntry {H : Type} : Lit × DataW H → Nat
  | (.string bytes, d) => bytes.length + uptoBulk d + 1
  | (_, d) => uptoBulk d + 1
 end
def uptoSmall : (H : Type) → List (DataW H) → Bool := fun _ ds => decide (uptoBulkAll ds ≤ 1048576)
def OpenSpec.upto (s : _root_.Go.ChangeSpec) : _root_.Go.OpenSpec := { _root_.Go.OpenSpec.ofChange s with cond := some uptoSmall }

/-- 'archivumlaw25.SuccessionFollows', WHERE WHAT IT READS IS OF BULK AT MOST 1048576: true; the input reads as it did. -/
def successionFollowsUptoRow : OpenClaim := { program := "ytdoldlbcjcfmdaagreat", sum := "b39de5db0875a254d6c399234dd30b8fe94322d40d0c3d7b7da179809ec2b614", func := "archivum/archivumlaw25.SuccessionFollows", spec := "successionFollows", inPlace := ["internal/bytealg.IndexByteString", "internal/bytealg.IndexString"], unfollowed := true, recurses := true, named := ["internal/bytealg.MaxLen"], apart := false, narrowed := true }
def SuccessionFollowsUptoSaid : Prop := successionFollowsUptoRow.holds Tryz.pinned (OpenSpec.upto successionFollowsSpec)

/-- 'archivumlaw25.SuccessionWays', WHERE WHAT IT READS IS OF BULK AT MOST 1048576: true; the input reads as it did. -/
def successionWaysUptoRow : OpenClaim := { program := "ytdoldlbcjcfmdaagreat", sum := "b39de5db0875a254d6c399234dd30b8fe94322d40d0c3d7b7da179809ec2b614", func := "archivum/archivumlaw25.SuccessionWays", spec := "successionWays", inPlace := ["internal/bytealg.IndexByteString", "internal/bytealg.IndexString"], unfollowed := true, recurses := true, named := ["internal/bytealg.MaxLen"], apart := false, narrowed := true }
def SuccessionWaysUptoSaid : Prop := successionWaysUptoRow.holds Tryz.pinned (OpenSpec.upto successionWaysSpec)

/-- 'archivumlaw25.SuccessionAges', WHERE WHAT IT READS IS OF BULK AT MOST 1048576: true; the input reads as it did. -/
def successionAgesUptoRow : OpenClaim := { program := "ytdoldlbcjcfmdaagreat", sum := "b39de5db0875a254d6c399234dd30b8fe94322d40d0c3d7b7da179809ec2b614", func := "archivum/archivumlaw25.SuccessionAges", spec := "successionAges", inPlace := ["internal/bytealg.IndexByteString", "internal/bytealg.IndexString"], unfollowed := true, recurses := true, named := ["internal/bytealg.MaxLen"], apart := false, narrowed := true }
def SuccessionAgesUptoSaid : Prop := successionAgesUptoRow.holds Tryz.pinned (OpenSpec.upto successionAgesSpec)

end Rows
end Go.Proofs.YtdoldlbcjcfmdaaGreat
