/- Functions of the program as functions of Lean, each with its contract (printed by a program). -/
import Derived.Test.YtihjmnhamaicpaaGreatDoorGR
import Derived.Test.YtihjmnhamaicpaaGreatDoorGS
import Derived.Test.YtihjmnhamaicpaaGreatDoorGD
namespace Go.Proofs.YtihjmnhamaicpaaGreatDoor
open Go Go.Abs
set_option maxRecDepth 10000
set_option maxHeartbeats 400000
abbrev lCodeNames_E (y : Bool) : CV := B y
def lCodeNames_F (a : Str) (b : Str) (l : List Str) : Option (Bool) := Option.bind (lawake_S) fun y1 => bif (!y1) then some (false) else (bif decide ((a.length : Int) > 100) then some (true) else (bif decide ((b.length : Int) > 100) then some (true) else (bif decide (((l.map cStr).length : Int) > 30) then some (true) else (Option.bind (rFew_S l) fun y7 => bif (!y7) then some (true) else (Option.bind (pName_S a) fun y10 => Option.bind (rName_S a) fun y12 => bif (y10 == y12) then (Option.bind (pNatural_S a b) fun y15 => Option.bind (rNatural_S a b) fun y17 => bif (y15 == y17) then (Option.bind (pSort_S l) fun y20 => Option.bind (rSort_S l) fun y22 => Option.bind (rSameStrings_S y20 y22) fun y24 => some (y24)) else some (false)) else some (false))))))
set_option linter.unusedVariables false in
theorem lCodeNames_Fh {a : Str} {b : Str} {l : List Str} {r : Bool} (hF : lCodeNames_F a b l = some r) : Holds Tryz.prog Gw 9 [S a, S b, .sl 1 (l.map cStr)] (lCodeNames_E r) := by
  refine holds_of_wq tabOk mixed Tryz.func9 (by decide) rfl (Nat.le_of_ble_eq_true rfl) ?_
  refine obind hF fun y1 h2 hF => ?_
  refine Or.inl ⟨_, lawake_h h2, rfl, ?_⟩
  refine And.intro (fun h3 => ?_) (fun h3 => ?_)
  · have hF := cpos h3 hF
    exact Or.inl ⟨rfl, congrArg (Option.map lCodeNames_E) hF⟩
  · have hF := cneg h3 hF
    refine And.intro (fun h4 => ?_) (fun h4 => ?_)
    · have hF := cpos h4 hF
      exact Or.inl ⟨rfl, congrArg (Option.map lCodeNames_E) hF⟩
    · have hF := cneg h4 hF
      refine And.intro (fun h5 => ?_) (fun h5 => ?_)
      · have hF := cpos h5 hF
        exact Or.inl ⟨rfl, congrArg (Option.map lCodeNames_E) hF⟩
      · have hF := cneg h5 hF
        refine And.intro (fun h6 => ?_) (fun h6 => ?_)
        · have hF := cpos h6 hF
          exact Or.inl ⟨rfl, congrArg (Option.map lCodeNames_E) hF⟩
        · have hF := cneg h6 hF
          refine obind hF fun y7 h8 hF => ?_
          refine Or.inl ⟨_, rFew_h h8, rfl, ?_⟩
          refine And.intro (fun h9 => ?_) (fun h9 => ?_)
          · have hF := cpos h9 hF
            exact Or.inl ⟨rfl, congrArg (Option.map lCodeNames_E) hF⟩
          · have hF := cneg h9 hF
            refine obind hF fun y10 h11 hF => ?_
            refine Or.inl ⟨_, pName_h h11, rfl, ?_⟩
            refine obind hF fun y12 h13 hF => ?_
            refine Or.inl ⟨_, rName_h h13, rfl, ?_⟩
            refine And.intro (fun h14 => ?_) (fun h14 => ?_)
            · have hF := cpos h14 hF
              refine obind hF fun y15 h16 hF => ?_
              refine Or.inl ⟨_, pNatural_h h16, rfl, ?_⟩
              refine obind hF fun y17 h18 hF => ?_
              refine Or.inl ⟨_, rNatural_h h18, rfl, ?_⟩
              refine And.intro (fun h19 => ?_) (fun h19 => ?_)
              · have hF := cpos h19 hF
                refine obind hF fun y20 h21 hF => ?_
                refine Or.inl ⟨_, pSort_h h21, rfl, ?_⟩
                refine obind hF fun y22 h23 hF => ?_
                refine Or.inl ⟨_, rSort_h h23, rfl, ?_⟩
                refine obind hF fun y24 h25 hF => ?_
                refine Or.inl ⟨_, rSameStrings_h h25, rfl, ?_⟩
                exact Or.inl ⟨rfl, congrArg (Option.map lCodeNames_E) hF⟩
              · have hF := cneg h19 hF
                exact Or.inl ⟨rfl, congrArg (Option.map lCodeNames_E) hF⟩
            · have hF := cneg h14 hF
              exact Or.inl ⟨rfl, congrArg (Option.map lCodeNames_E) hF⟩
abbrev lCodeNames_S (a : Str) (b : Str) (l : List Str) : Option (Bool) := lCodeNames_F a b l
theorem lCodeNames_h {a : Str} {b : Str} {l : List Str} {r : Bool} (h : lCodeNames_S a b l = some r) : Holds Tryz.prog Gw 9 [S a, S b, .sl 1 (l.map cStr)] (lCodeNames_E r) := lCodeNames_Fh  h
end Go.Proofs.YtihjmnhamaicpaaGreatDoor
