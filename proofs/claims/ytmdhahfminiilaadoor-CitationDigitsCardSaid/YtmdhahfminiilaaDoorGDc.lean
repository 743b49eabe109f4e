/- Functions of the program as functions of Lean, each with its contract (printed by a program). -/
import Derived.Test.YtmdhahfminiilaaDoorGC
namespace Go.Proofs.YtmdhahfminiilaaDoor
open Go Go.Abs
set_option maxRecDepth 10000
set_option maxHeartbeats 400000
abbrev lCitationCodes_E (y : Bool) : CV := B y
def lCitationCodes_F (unit : Int) (version : Int) (code : Str) : Option (Bool) := Option.bind (lawake_S) fun y1 => bif (!y1) then some (false) else (bif decide ((code.length : Int) > 40) then some (true) else (Option.bind (pFormat_S unit version) fun y5 => Option.bind (rFormat_S unit version) fun y7 => Option.bind (pParse_S code) fun y9 => Option.bind (rParse_S code) fun y11 => bif (!(y5.1 == y7.1)) then some (false) else (bif (y5.2 != y7.2) then some (false) else (bif (y9.1 != y11.1) then some (false) else (bif (y9.2.1 != y11.2.1) then some (false) else (bif (y9.2.2 != y11.2.2) then some (false) else (bif (y5.2 == 0) then (Option.bind (pParse_S y5.1) fun y19 => bif (y19.1 == unit) then (bif (y19.2.1 == version) then some ((y19.2.2 == 0)) else some (false)) else some (false)) else some (true))))))))
set_option linter.unusedVariables false in
theorem lCitationCodes_Fh {unit : Int} {version : Int} {code : Str} {r : Bool} (hF : lCitationCodes_F unit version code = some r) : Holds Tryd.prog Gw 3 [I unit, I version, S code] (lCitationCodes_E r) := by
  refine holds_of_wq tabOk mixed Tryd.func3 (by decide) rfl (Nat.le_of_ble_eq_true rfl) ?_
  refine obind hF fun y1 h2 hF => ?_
  refine Or.inl ⟨_, lawake_h h2, rfl, ?_⟩
  refine And.intro (fun h3 => ?_) (fun h3 => ?_)
  · have hF := cpos h3 hF
    exact Or.inl ⟨rfl, congrArg (Option.map lCitationCodes_E) hF⟩
  · have hF := cneg h3 hF
    refine And.intro (fun h4 => ?_) (fun h4 => ?_)
    · have hF := cpos h4 hF
      exact Or.inl ⟨rfl, congrArg (Option.map lCitationCodes_E) hF⟩
    · have hF := cneg h4 hF
      refine obind hF fun y5 h6 hF => ?_
      refine Or.inl ⟨_, pFormat_h h6, rfl, ?_⟩
      refine obind hF fun y7 h8 hF => ?_
      refine Or.inl ⟨_, rFormat_h h8, rfl, ?_⟩
      refine obind hF fun y9 h10 hF => ?_
      refine Or.inl ⟨_, pParse_h h10, rfl, ?_⟩
      refine obind hF fun y11 h12 hF => ?_
      refine Or.inl ⟨_, rParse_h h12, rfl, ?_⟩
      refine And.intro (fun h13 => ?_) (fun h13 => ?_)
      · have hF := cpos h13 hF
        exact Or.inl ⟨rfl, congrArg (Option.map lCitationCodes_E) hF⟩
      · have hF := cneg h13 hF
        refine And.intro (fun h14 => ?_) (fun h14 => ?_)
        · have hF := cpos h14 hF
          exact Or.inl ⟨rfl, congrArg (Option.map lCitationCodes_E) hF⟩
        · have hF := cneg h14 hF
          refine And.intro (fun h15 => ?_) (fun h15 => ?_)
          · have hF := cpos h15 hF
            exact Or.inl ⟨rfl, congrArg (Option.map lCitationCodes_E) hF⟩
          · have hF := cneg h15 hF
            refine And.intro (fun h16 => ?_) (fun h16 => ?_)
            · have hF := cpos h16 hF
              exact Or.inl ⟨rfl, congrArg (Option.map lCitationCodes_E) hF⟩
            · have hF := cneg h16 hF
              refine And.intro (fun h17 => ?_) (fun h17 => ?_)
              · have hF := cpos h17 hF
                exact Or.inl ⟨rfl, congrArg (Option.map lCitationCodes_E) hF⟩
              · have hF := cneg h17 hF
                refine And.intro (fun h18 => ?_) (fun h18 => ?_)
                · have hF := cpos h18 hF
                  refine obind hF fun y19 h20 hF => ?_
                  refine Or.inl ⟨_, pParse_h h20, rfl, ?_⟩
                  refine And.intro (fun h21 => ?_) (fun h21 => ?_)
                  · have hF := cpos h21 hF
                    refine And.intro (fun h22 => ?_) (fun h22 => ?_)
                    · have hF := cpos h22 hF
                      exact Or.inl ⟨rfl, congrArg (Option.map lCitationCodes_E) hF⟩
                    · have hF := cneg h22 hF
                      exact Or.inl ⟨rfl, congrArg (Option.map lCitationCodes_E) hF⟩
                  · have hF := cneg h21 hF
                    exact Or.inl ⟨rfl, congrArg (Option.map lCitationCodes_E) hF⟩
                · have hF := cneg h18 hF
                  exact Or.inl ⟨rfl, congrArg (Option.map lCitationCodes_E) hF⟩
abbrev lCitationCodes_S (unit : Int) (version : Int) (code : Str) : Option (Bool) := lCitationCodes_F unit version code
theorem lCitationCodes_h {unit : Int} {version : Int} {code : Str} {r : Bool} (h : lCitationCodes_S unit version code = some r) : Holds Tryd.prog Gw 3 [I unit, I version, S code] (lCitationCodes_E r) := lCitationCodes_Fh  h
end Go.Proofs.YtmdhahfminiilaaDoor
