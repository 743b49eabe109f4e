/- Functions of the program as functions of Lean, each with its contract (printed by a program). -/
import Derived.Test.YtmdhahfminiilaaGreatDoorGE
namespace Go.Proofs.YtmdhahfminiilaaGreatDoor
open Go Go.Abs
set_option maxRecDepth 10000
set_option maxHeartbeats 400000
abbrev lCitationVersions_E (y : Bool) : CV := B y
def lCitationVersions_F (h_ : List Shot) (unit : Int) : Option (Bool) := Option.bind (lawake_S) fun y1 => bif (!y1) then some (false) else (Option.bind (qFew_S h_) fun y4 => bif (!y4) then some (true) else (Option.bind (qCopy_S h_) fun y7 => Option.bind (pVersions_S y7 unit) fun y9 => Option.bind (rVersions_S h_ unit) fun y11 => Option.bind (rSameAll_S y9.1 y11.1) fun y13 => bif y13 then some ((y9.2 == y11.2)) else some (false)))
set_option linter.unusedVariables false in
theorem lCitationVersions_Fh {h_ : List Shot} {unit : Int} {r : Bool} (hF : lCitationVersions_F h_ unit = some r) : Holds Tryz.prog Gw 3 [.sl 2 (h_.map cShot), I unit] (lCitationVersions_E r) := by
  refine holds_of_wq tabOk mixed Tryz.func3 (by decide) rfl (Nat.le_of_ble_eq_true rfl) ?_
  refine obind hF fun y1 h2 hF => ?_
  refine Or.inl ⟨_, lawake_h h2, rfl, ?_⟩
  refine And.intro (fun h3 => ?_) (fun h3 => ?_)
  · have hF := cpos h3 hF
    exact Or.inl ⟨rfl, congrArg (Option.map lCitationVersions_E) hF⟩
  · have hF := cneg h3 hF
    refine obind hF fun y4 h5 hF => ?_
    refine Or.inl ⟨_, qFew_h h5, rfl, ?_⟩
    refine And.intro (fun h6 => ?_) (fun h6 => ?_)
    · have hF := cpos h6 hF
      exact Or.inl ⟨rfl, congrArg (Option.map lCitationVersions_E) hF⟩
    · have hF := cneg h6 hF
      refine obind hF fun y7 h8 hF => ?_
      refine Or.inl ⟨_, qCopy_h h8, rfl, ?_⟩
      refine obind hF fun y9 h10 hF => ?_
      refine Or.inl ⟨_, pVersions_h h10, rfl, ?_⟩
      refine obind hF fun y11 h12 hF => ?_
      refine Or.inl ⟨_, rVersions_h h12, rfl, ?_⟩
      refine obind hF fun y13 h14 hF => ?_
      refine Or.inl ⟨_, rSameAll_h h14, rfl, ?_⟩
      refine And.intro (fun h15 => ?_) (fun h15 => ?_)
      · have hF := cpos h15 hF
        exact Or.inl ⟨rfl, congrArg (Option.map lCitationVersions_E) hF⟩
      · have hF := cneg h15 hF
        exact Or.inl ⟨rfl, congrArg (Option.map lCitationVersions_E) hF⟩
abbrev lCitationVersions_S (h_ : List Shot) (unit : Int) : Option (Bool) := lCitationVersions_F h_ unit
theorem lCitationVersions_h {h_ : List Shot} {unit : Int} {r : Bool} (h : lCitationVersions_S h_ unit = some r) : Holds Tryz.prog Gw 3 [.sl 2 (h_.map cShot), I unit] (lCitationVersions_E r) := lCitationVersions_Fh  h
abbrev lCitationResolves_E (y : Bool) : CV := B y
def lCitationResolves_F (h_ : List Shot) (unit : Int) (day : Int) (code : Str) : Option (Bool) := Option.bind (lawake_S) fun y1 => bif (!y1) then some (false) else (Option.bind (qFew_S h_) fun y4 => bif (!y4) then some (true) else (bif decide ((code.length : Int) > 40) then some (true) else (Option.bind (qCopy_S h_) fun y8 => Option.bind (pCite_S y8 unit day) fun y10 => Option.bind (rCite_S h_ unit day) fun y12 => Option.bind (qCopy_S h_) fun y14 => Option.bind (pResolve_S y14 code) fun y16 => Option.bind (rResolve_S h_ code) fun y18 => Option.bind (qCopy_S h_) fun y20 => Option.bind (pLatest_S y20 code) fun y22 => Option.bind (rLatest_S h_ code) fun y24 => bif (y10.1 == y12.1) then (bif (y10.2 == y12.2) then (Option.bind (rSame_S y16.1 y18.1) fun y28 => bif y28 then (bif (y16.2 == y18.2) then (Option.bind (rSame_S y22.1 y24.1) fun y32 => bif y32 then (bif (y22.2.1 == y24.2.1) then some ((y22.2.2 == y24.2.2)) else some (false)) else some (false)) else some (false)) else some (false)) else some (false)) else some (false))))
set_option linter.unusedVariables false in
theorem lCitationResolves_Fh {h_ : List Shot} {unit : Int} {day : Int} {code : Str} {r : Bool} (hF : lCitationResolves_F h_ unit day code = some r) : Holds Tryz.prog Gw 4 [.sl 2 (h_.map cShot), I unit, I day, S code] (lCitationResolves_E r) := by
  refine holds_of_wq tabOk mixed Tryz.func4 (by decide) rfl (Nat.le_of_ble_eq_true rfl) ?_
  refine obind hF fun y1 h2 hF => ?_
  refine Or.inl ⟨_, lawake_h h2, rfl, ?_⟩
  refine And.intro (fun h3 => ?_) (fun h3 => ?_)
  · have hF := cpos h3 hF
    exact Or.inl ⟨rfl, congrArg (Option.map lCitationResolves_E) hF⟩
  · have hF := cneg h3 hF
    refine obind hF fun y4 h5 hF => ?_
    refine Or.inl ⟨_, qFew_h h5, rfl, ?_⟩
    refine And.intro (fun h6 => ?_) (fun h6 => ?_)
    · have hF := cpos h6 hF
      exact Or.inl ⟨rfl, congrArg (Option.map lCitationResolves_E) hF⟩
    · have hF := cneg h6 hF
      refine And.intro (fun h7 => ?_) (fun h7 => ?_)
      · have hF := cpos h7 hF
        exact Or.inl ⟨rfl, congrArg (Option.map lCitationResolves_E) hF⟩
      · have hF := cneg h7 hF
        refine obind hF fun y8 h9 hF => ?_
        refine Or.inl ⟨_, qCopy_h h9, rfl, ?_⟩
        refine obind hF fun y10 h11 hF => ?_
        refine Or.inl ⟨_, pCite_h h11, rfl, ?_⟩
        refine obind hF fun y12 h13 hF => ?_
        refine Or.inl ⟨_, rCite_h h13, rfl, ?_⟩
        refine obind hF fun y14 h15 hF => ?_
        refine Or.inl ⟨_, qCopy_h h15, rfl, ?_⟩
        refine obind hF fun y16 h17 hF => ?_
        refine Or.inl ⟨_, pResolve_h h17, rfl, ?_⟩
        refine Or.inl ?_
        refine obind hF fun y18 h19 hF => ?_
        refine Or.inl ⟨_, rResolve_h h19, rfl, ?_⟩
        refine Or.inl ?_
        refine obind hF fun y20 h21 hF => ?_
        refine Or.inl ⟨_, qCopy_h h21, rfl, ?_⟩
        refine obind hF fun y22 h23 hF => ?_
        refine Or.inl ⟨_, pLatest_h h23, rfl, ?_⟩
        refine Or.inl ?_
        refine obind hF fun y24 h25 hF => ?_
        refine Or.inl ⟨_, rLatest_h h25, rfl, ?_⟩
        refine Or.inl ?_
        refine And.intro (fun h26 => ?_) (fun h26 => ?_)
        · have hF := cpos h26 hF
          refine And.intro (fun h27 => ?_) (fun h27 => ?_)
          · have hF := cpos h27 hF
            refine obind hF fun y28 h29 hF => ?_
            refine Or.inl ⟨_, rSame_h h29, rfl, ?_⟩
            refine And.intro (fun h30 => ?_) (fun h30 => ?_)
            · have hF := cpos h30 hF
              refine And.intro (fun h31 => ?_) (fun h31 => ?_)
              · have hF := cpos h31 hF
                refine obind hF fun y32 h33 hF => ?_
                refine Or.inl ⟨_, rSame_h h33, rfl, ?_⟩
                refine And.intro (fun h34 => ?_) (fun h34 => ?_)
                · have hF := cpos h34 hF
                  refine And.intro (fun h35 => ?_) (fun h35 => ?_)
                  · have hF := cpos h35 hF
                    exact Or.inl ⟨rfl, congrArg (Option.map lCitationResolves_E) hF⟩
                  · have hF := cneg h35 hF
                    exact Or.inl ⟨rfl, congrArg (Option.map lCitationResolves_E) hF⟩
                · have hF := cneg h34 hF
                  exact Or.inl ⟨rfl, congrArg (Option.map lCitationResolves_E) hF⟩
              · have hF := cneg h31 hF
                exact Or.inl ⟨rfl, congrArg (Option.map lCitationResolves_E) hF⟩
            · have hF := cneg h30 hF
              exact Or.inl ⟨rfl, congrArg (Option.map lCitationResolves_E) hF⟩
          · have hF := cneg h27 hF
            exact Or.inl ⟨rfl, congrArg (Option.map lCitationResolves_E) hF⟩
        · have hF := cneg h26 hF
          exact Or.inl ⟨rfl, congrArg (Option.map lCitationResolves_E) hF⟩
abbrev lCitationResolves_S (h_ : List Shot) (unit : Int) (day : Int) (code : Str) : Option (Bool) := lCitationResolves_F h_ unit day code
theorem lCitationResolves_h {h_ : List Shot} {unit : Int} {day : Int} {code : Str} {r : Bool} (h : lCitationResolves_S h_ unit day code = some r) : Holds Tryz.prog Gw 4 [.sl 2 (h_.map cShot), I unit, I day, S code] (lCitationResolves_E r) := lCitationResolves_Fh  h
end Go.Proofs.YtmdhahfminiilaaGreatDoor
