import Derived.OpenShut
import Derived.ProofKit
import Derived.Test.YtibiibjbmhckgaaGreatDoorCards
import Derived.Test.YtibiibjbmhckgaaGreatDoorTie
set_option linter.unusedVariables false
set_option linter.unusedSimpArgs false
set_option maxRecDepth 100000
namespace Go.Proofs.YtibiibjbmhckgaaGreatDoor
open Go Proofs.Tryz
theorem cq0{a b:Bool}(h:a=true)(h':b=true):(a&&b)=true:=by rw[h,h'];rfl
set_option maxHeartbeats 40000000 in
theorem cG0:joinedFacts prog 4 Tryz.f4 (OpenSpec.ofChange Rows.topMarksUniqueSpec).bare Rows.topMarksUniqueRow=true:=by
 unfold joinedFacts
 repeat' (with_reducible refine cq0 ?_ ?_)
 all_goals as_aux_lemma=>kernel_rfl
end Go.Proofs.YtibiibjbmhckgaaGreatDoor
