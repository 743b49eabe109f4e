/- Functions of the program as functions of Lean, each with its contract (printed by a program). -/
import Derived.Test.YtmdhahfminiilaaDoorGC
namespace Go.Proofs.YtmdhahfminiilaaDoor
open Go Go.Abs
set_option maxRecDepth 10000
set_option maxHeartbeats 400000
abbrev lCitationTombs_E (y : Bool) : CV := B y
def lCitationTombs_F (h_ : List Shot) (unit : Int) (version : Int) : Option (Bool) := Option.bind (lawake_S) fun y1 => bif (!y1) then some (false) else (Option.bind (qFew_S h_) fun y4 => bif (!y4) then some (true) else (Option.bind (qCopy_S h_) fun y7 => Option.bind (pVersions_S y7 unit) fun y9 => Option.bind (pFormat_S unit version) fun y11 => bif (y11.2 != 0) then some ((y11.1 == ([] : Str))) else (Option.bind (qCopy_S h_) fun y14 => Option.bind (pLatest_S y14 y11.1) fun y16 => bif (y9.2 != 0) then (bif (y16.2.2 != 0) then (bif (!y16.2.1) then (Option.bind (rSame_S y16.1 (⟨0, 0, (⟨0, 0, 0, ([] : Str), ([] : Str)⟩ : Standing), ([] : List Int)⟩ : Version)) fun y21 => some (y21)) else some (false)) else some (false)) else (bif decide (version > ((y9.1.map cVersion).length : Int)) then (bif (y16.2.2 != 0) then (bif (!y16.2.1) then (Option.bind (rSame_S y16.1 (⟨0, 0, (⟨0, 0, 0, ([] : Str), ([] : Str)⟩ : Standing), ([] : List Int)⟩ : Version)) fun y26 => some (y26)) else some (false)) else some (false)) else (Option.bind (qCopy_S h_) fun y28 => Option.bind (kStanding_S y28 unit 1048575) fun y30 => bif (y16.2.2 == 0) then (Option.bind (ix y9.1 (IntKind.i64.wrap (((y9.1.map cVersion).length : Int) - 1))) fun x33 => Option.bind (rSame_S y16.1 x33) fun y35 => bif y35 then (bif (y16.2.1 == y30.2) then (Option.bind (sCount_S y11.1 ([45] : Str)) fun y39 => some ((y39 == 2))) else some (false)) else some (false)) else some (false))))))
set_option linter.unusedVariables false in
theorem lCitationTombs_Fh {h_ : List Shot} {unit : Int} {version : Int} {r : Bool} (hF : lCitationTombs_F h_ unit version = some r) : Holds Tryd.prog Gw 6 [.sl 2 (h_.map cShot), I unit, I version] (lCitationTombs_E r) := by
  refine holds_of_wq tabOk mixed Tryd.func6 (by decide) rfl (Nat.le_of_ble_eq_true rfl) ?_
  refine obind hF fun y1 h2 hF => ?_
  refine Or.inl ⟨_, lawake_h h2, rfl, ?_⟩
  refine And.intro (fun h3 => ?_) (fun h3 => ?_)
  · have hF := cpos h3 hF
    exact Or.inl ⟨rfl, congrArg (Option.map lCitationTombs_E) hF⟩
  · have hF := cneg h3 hF
    refine obind hF fun y4 h5 hF => ?_
    refine Or.inl ⟨_, qFew_h h5, rfl, ?_⟩
    refine And.intro (fun h6 => ?_) (fun h6 => ?_)
    · have hF := cpos h6 hF
      exact Or.inl ⟨rfl, congrArg (Option.map lCitationTombs_E) hF⟩
    · have hF := cneg h6 hF
      refine obind hF fun y7 h8 hF => ?_
      refine Or.inl ⟨_, qCopy_h h8, rfl, ?_⟩
      refine obind hF fun y9 h10 hF => ?_
      refine Or.inl ⟨_, pVersions_h h10, rfl, ?_⟩
      refine obind hF fun y11 h12 hF => ?_
      refine Or.inl ⟨_, pFormat_h h12, rfl, ?_⟩
      refine And.intro (fun h13 => ?_) (fun h13 => ?_)
      · have hF := cpos h13 hF
        exact Or.inl ⟨rfl, congrArg (Option.map lCitationTombs_E) hF⟩
      · have hF := cneg h13 hF
        refine obind hF fun y14 h15 hF => ?_
        refine Or.inl ⟨_, qCopy_h h15, rfl, ?_⟩
        refine obind hF fun y16 h17 hF => ?_
        refine Or.inl ⟨_, pLatest_h h17, rfl, ?_⟩
        refine Or.inl ?_
        refine And.intro (fun h18 => ?_) (fun h18 => ?_)
        · have hF := cpos h18 hF
          refine And.intro (fun h19 => ?_) (fun h19 => ?_)
          · have hF := cpos h19 hF
            refine And.intro (fun h20 => ?_) (fun h20 => ?_)
            · have hF := cpos h20 hF
              refine obind hF fun y21 h22 hF => ?_
              refine Or.inl ⟨_, rSame_h h22, rfl, ?_⟩
              exact Or.inl ⟨rfl, congrArg (Option.map lCitationTombs_E) hF⟩
            · have hF := cneg h20 hF
              exact Or.inl ⟨rfl, congrArg (Option.map lCitationTombs_E) hF⟩
          · have hF := cneg h19 hF
            exact Or.inl ⟨rfl, congrArg (Option.map lCitationTombs_E) hF⟩
        · have hF := cneg h18 hF
          refine And.intro (fun h23 => ?_) (fun h23 => ?_)
          · have hF := cpos h23 hF
            refine And.intro (fun h24 => ?_) (fun h24 => ?_)
            · have hF := cpos h24 hF
              refine And.intro (fun h25 => ?_) (fun h25 => ?_)
              · have hF := cpos h25 hF
                refine obind hF fun y26 h27 hF => ?_
                refine Or.inl ⟨_, rSame_h h27, rfl, ?_⟩
                exact Or.inl ⟨rfl, congrArg (Option.map lCitationTombs_E) hF⟩
              · have hF := cneg h25 hF
                exact Or.inl ⟨rfl, congrArg (Option.map lCitationTombs_E) hF⟩
            · have hF := cneg h24 hF
              exact Or.inl ⟨rfl, congrArg (Option.map lCitationTombs_E) hF⟩
          · have hF := cneg h23 hF
            refine obind hF fun y28 h29 hF => ?_
            refine Or.inl ⟨_, qCopy_h h29, rfl, ?_⟩
            refine obind hF fun y30 h31 hF => ?_
            refine Or.inl ⟨_, kStanding_h h31, rfl, ?_⟩
            refine Or.inl ?_
            refine And.intro (fun h32 => ?_) (fun h32 => ?_)
            · have hF := cpos h32 hF
              refine obind hF fun x33 h34 hF => ?_
              refine ⟨ix_nn h34, .inl rfl, _, ix_map cVersion h34, ?_⟩
              refine obind hF fun y35 h36 hF => ?_
              refine Or.inl ⟨_, rSame_h h36, rfl, ?_⟩
              refine And.intro (fun h37 => ?_) (fun h37 => ?_)
              · have hF := cpos h37 hF
                refine And.intro (fun h38 => ?_) (fun h38 => ?_)
                · have hF := cpos h38 hF
                  refine obind hF fun y39 h40 hF => ?_
                  refine Or.inl ⟨_, sCount_h h40, rfl, ?_⟩
                  refine And.intro (by kernel_rfl) ?_
                  exact Or.inl ⟨rfl, congrArg (Option.map lCitationTombs_E) hF⟩
                · have hF := cneg h38 hF
                  refine And.intro (by kernel_rfl) ?_
                  exact Or.inl ⟨rfl, congrArg (Option.map lCitationTombs_E) hF⟩
              · have hF := cneg h37 hF
                refine And.intro (by kernel_rfl) ?_
                exact Or.inl ⟨rfl, congrArg (Option.map lCitationTombs_E) hF⟩
            · have hF := cneg h32 hF
              refine And.intro (by kernel_rfl) ?_
              exact Or.inl ⟨rfl, congrArg (Option.map lCitationTombs_E) hF⟩
abbrev lCitationTombs_S (h_ : List Shot) (unit : Int) (version : Int) : Option (Bool) := lCitationTombs_F h_ unit version
theorem lCitationTombs_h {h_ : List Shot} {unit : Int} {version : Int} {r : Bool} (h : lCitationTombs_S h_ unit version = some r) : Holds Tryd.prog Gw 6 [.sl 2 (h_.map cShot), I unit, I version] (lCitationTombs_E r) := lCitationTombs_Fh  h
end Go.Proofs.YtmdhahfminiilaaDoor
