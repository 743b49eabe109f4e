/- Functions of the program as functions of Lean, each with its contract (printed by a program). -/
import Derived.Test.YtmdhahfminiilaaDoorGCa
namespace Go.Proofs.YtmdhahfminiilaaDoor
open Go Go.Abs
set_option maxRecDepth 10000
set_option maxHeartbeats 400000
abbrev pCite_E (y : Str × Int) : CV := .tup [S y.1, I y.2]
def pCite_F (h_ : List Shot) (unit : Int) (day : Int) : Option (Str × Int) := Option.bind (kCheck_S h_) fun y1 => bif (y1 != 0) then some (([] : Str), 1) else (Option.bind (kStanding_S h_ unit day) fun y4 => bif (!y4.2) then some (([] : Str), 7) else (Option.bind (pversions_11_XS day 0 h_ unit) fun y7 => bif y7.1 then (Option.bind (pFormat_S unit y7.2) fun y10 => some (y10.1, y10.2)) else (Option.bind (pFormat_S unit y7.2) fun y12 => some (y12.1, y12.2))))
set_option linter.unusedVariables false in
theorem pCite_Fh {h_ : List Shot} {unit : Int} {day : Int} {r : Str × Int} (hF : pCite_F h_ unit day = some r) : Holds Tryd.prog Gw 14 [.sl 2 (h_.map cShot), I unit, I day] (pCite_E r) := by
  refine holds_of_wq tabOk mixed Tryd.func14 (by decide) rfl (Nat.le_of_ble_eq_true rfl) ?_
  refine Or.inl ?_
  refine obind hF fun y1 h2 hF => ?_
  refine Or.inl ⟨_, kCheck_h h2, rfl, ?_⟩
  refine And.intro (fun h3 => ?_) (fun h3 => ?_)
  · have hF := cpos h3 hF
    exact Or.inl ⟨rfl, congrArg (Option.map pCite_E) hF⟩
  · have hF := cneg h3 hF
    refine obind hF fun y4 h5 hF => ?_
    refine Or.inl ⟨_, kStanding_h h5, rfl, ?_⟩
    refine Or.inl ?_
    refine And.intro (fun h6 => ?_) (fun h6 => ?_)
    · have hF := cpos h6 hF
      exact Or.inl ⟨rfl, congrArg (Option.map pCite_E) hF⟩
    · have hF := cneg h6 hF
      refine Or.inl ?_
      refine Or.inr (Or.inr ⟨[], 0, _, _, _, _, rfl, rfl, eff_call rfl (Or.inr ⟨_, rfl, rfl⟩) pversions_K, rfl, ?_⟩)
      refine obind hF fun y7 h8 hF => ?_
      refine rangeP.mk ?_
      refine ⟨60000, envL [(5, .pm 5 1 0), (10, .pm 10 1 0)] 39 0, _, _, Or.inl rfl, rfl, (by refine envSub_L ?_ 39 0; exact ⟨rfl, rfl, trivial⟩), fun l R hp ha hb hn => ⟨[(60000, 1), (5, 1), (10, 1), (26, 1), (65562, 1)], 0, _, _, _, _, rfl, rfl, pversions_11_Xh ⟨hp, ha, hb, hn⟩ h8, rfl, _, y7.1, (.exit 0), rfl, fun h9 => ?_, fun h9 => ?_⟩⟩
      · have hF := cpos h9 hF
        refine obind hF fun y10 h11 hF => ?_
        refine Or.inl ⟨_, pFormat_h h11, rfl, ?_⟩
        exact Or.inl ⟨rfl, congrArg (Option.map pCite_E) hF⟩
      · have hF := cneg h9 hF
        refine obind hF fun y12 h13 hF => ?_
        refine Or.inl ⟨_, pFormat_h h13, rfl, ?_⟩
        exact Or.inl ⟨rfl, congrArg (Option.map pCite_E) hF⟩
abbrev pCite_S (h_ : List Shot) (unit : Int) (day : Int) : Option (Str × Int) := pCite_F h_ unit day
theorem pCite_h {h_ : List Shot} {unit : Int} {day : Int} {r : Str × Int} (h : pCite_S h_ unit day = some r) : Holds Tryd.prog Gw 14 [.sl 2 (h_.map cShot), I unit, I day] (pCite_E r) := pCite_Fh  h
abbrev pcited_E (y : List Version × Int × Int) : CV := .tup [.sl 8 (y.1.map cVersion), I y.2.1, I y.2.2]
def pcited_F (h_ : List Shot) (code : Str) : Option (List Version × Int × Int) := Option.bind (kCheck_S h_) fun y1 => bif (y1 != 0) then some (([] : List Version), 0, 1) else (Option.bind (pParse_S code) fun y4 => bif (y4.2.2 != 0) then some (([] : List Version), 0, y4.2.2) else (Option.bind (pVersions_S h_ y4.1) fun y7 => bif decide (y4.2.1 > ((y7.1.map cVersion).length : Int)) then some (([] : List Version), 0, 7) else some (y7.1, y4.2.1, 0)))
set_option linter.unusedVariables false in
theorem pcited_Fh {h_ : List Shot} {code : Str} {r : List Version × Int × Int} (hF : pcited_F h_ code = some r) : Holds Tryd.prog Gw 42 [.sl 2 (h_.map cShot), S code] (pcited_E r) := by
  refine holds_of_wq tabOk mixed Tryd.func42 (by decide) rfl (Nat.le_of_ble_eq_true rfl) ?_
  refine Or.inl ?_
  refine obind hF fun y1 h2 hF => ?_
  refine Or.inl ⟨_, kCheck_h h2, rfl, ?_⟩
  refine And.intro (fun h3 => ?_) (fun h3 => ?_)
  · have hF := cpos h3 hF
    refine Or.inl ?_
    exact Or.inl ⟨rfl, congrArg (Option.map pcited_E) hF⟩
  · have hF := cneg h3 hF
    refine obind hF fun y4 h5 hF => ?_
    refine Or.inl ⟨_, pParse_h h5, rfl, ?_⟩
    refine And.intro (fun h6 => ?_) (fun h6 => ?_)
    · have hF := cpos h6 hF
      refine Or.inl ?_
      exact Or.inl ⟨rfl, congrArg (Option.map pcited_E) hF⟩
    · have hF := cneg h6 hF
      refine obind hF fun y7 h8 hF => ?_
      refine Or.inl ⟨_, pVersions_h h8, rfl, ?_⟩
      refine And.intro (fun h9 => ?_) (fun h9 => ?_)
      · have hF := cpos h9 hF
        refine Or.inl ?_
        exact Or.inl ⟨rfl, congrArg (Option.map pcited_E) hF⟩
      · have hF := cneg h9 hF
        exact Or.inl ⟨rfl, congrArg (Option.map pcited_E) hF⟩
abbrev pcited_S (h_ : List Shot) (code : Str) : Option (List Version × Int × Int) := pcited_F h_ code
theorem pcited_h {h_ : List Shot} {code : Str} {r : List Version × Int × Int} (h : pcited_S h_ code = some r) : Holds Tryd.prog Gw 42 [.sl 2 (h_.map cShot), S code] (pcited_E r) := pcited_Fh  h
abbrev pResolve_E (y : Version × Int) : CV := .tup [.agg (cVersion y.1), I y.2]
def pResolve_F (h_ : List Shot) (code : Str) : Option (Version × Int) := Option.bind (pcited_S h_ code) fun y1 => bif (y1.2.2 != 0) then some ((⟨0, 0, (⟨0, 0, 0, ([] : Str), ([] : Str)⟩ : Standing), ([] : List Int)⟩ : Version), y1.2.2) else (Option.bind (ix y1.1 (IntKind.i64.wrap (y1.2.1 - 1))) fun x4 => some (x4, 0))
set_option linter.unusedVariables false in
theorem pResolve_Fh {h_ : List Shot} {code : Str} {r : Version × Int} (hF : pResolve_F h_ code = some r) : Holds Tryd.prog Gw 17 [.sl 2 (h_.map cShot), S code] (pResolve_E r) := by
  refine holds_of_wq tabOk mixed Tryd.func17 (by decide) rfl (Nat.le_of_ble_eq_true rfl) ?_
  refine Or.inl ?_
  refine obind hF fun y1 h2 hF => ?_
  refine Or.inl ⟨_, pcited_h h2, rfl, ?_⟩
  refine And.intro (fun h3 => ?_) (fun h3 => ?_)
  · have hF := cpos h3 hF
    refine Or.inl ?_
    exact Or.inl ⟨rfl, congrArg (Option.map pResolve_E) hF⟩
  · have hF := cneg h3 hF
    refine obind hF fun x4 h5 hF => ?_
    refine ⟨ix_nn h5, .inl rfl, _, ix_map cVersion h5, ?_⟩
    exact Or.inl ⟨rfl, congrArg (Option.map pResolve_E) hF⟩
abbrev pResolve_S (h_ : List Shot) (code : Str) : Option (Version × Int) := pResolve_F h_ code
theorem pResolve_h {h_ : List Shot} {code : Str} {r : Version × Int} (h : pResolve_S h_ code = some r) : Holds Tryd.prog Gw 17 [.sl 2 (h_.map cShot), S code] (pResolve_E r) := pResolve_Fh  h
abbrev pLatest_E (y : Version × Bool × Int) : CV := .tup [.agg (cVersion y.1), B y.2.1, I y.2.2]
def pLatest_F (h_ : List Shot) (code : Str) : Option (Version × Bool × Int) := Option.bind (pcited_S h_ code) fun y1 => bif (y1.2.2 != 0) then some ((⟨0, 0, (⟨0, 0, 0, ([] : Str), ([] : Str)⟩ : Standing), ([] : List Int)⟩ : Version), false, y1.2.2) else (Option.bind (ix y1.1 (IntKind.i64.wrap (((y1.1.map cVersion).length : Int) - 1))) fun x4 => Option.bind (ix h_ (IntKind.i64.wrap (((h_.map cShot).length : Int) - 1))) fun x6 => Option.bind (pfind_S x6.Units x4.Unit.Unit) fun y8 => some (x4, y8.2, 0))
set_option linter.unusedVariables false in
theorem pLatest_Fh {h_ : List Shot} {code : Str} {r : Version × Bool × Int} (hF : pLatest_F h_ code = some r) : Holds Tryd.prog Gw 21 [.sl 2 (h_.map cShot), S code] (pLatest_E r) := by
  refine holds_of_wq tabOk mixed Tryd.func21 (by decide) rfl (Nat.le_of_ble_eq_true rfl) ?_
  refine Or.inl ?_
  refine obind hF fun y1 h2 hF => ?_
  refine Or.inl ⟨_, pcited_h h2, rfl, ?_⟩
  refine And.intro (fun h3 => ?_) (fun h3 => ?_)
  · have hF := cpos h3 hF
    refine Or.inl ?_
    exact Or.inl ⟨rfl, congrArg (Option.map pLatest_E) hF⟩
  · have hF := cneg h3 hF
    refine obind hF fun x4 h5 hF => ?_
    refine ⟨ix_nn h5, .inl rfl, _, ix_map cVersion h5, ?_⟩
    refine Or.inl ?_
    refine obind hF fun x6 h7 hF => ?_
    refine ⟨ix_nn h7, .inl rfl, _, ix_map cShot h7, ?_⟩
    refine obind hF fun y8 h9 hF => ?_
    refine Or.inl ⟨_, pfind_h h9, rfl, ?_⟩
    refine Or.inl ?_
    refine And.intro (by kernel_rfl) ?_
    exact Or.inl ⟨rfl, congrArg (Option.map pLatest_E) hF⟩
abbrev pLatest_S (h_ : List Shot) (code : Str) : Option (Version × Bool × Int) := pLatest_F h_ code
theorem pLatest_h {h_ : List Shot} {code : Str} {r : Version × Bool × Int} (h : pLatest_S h_ code = some r) : Holds Tryd.prog Gw 21 [.sl 2 (h_.map cShot), S code] (pLatest_E r) := pLatest_Fh  h
abbrev lawake_E (y : Bool) : CV := B y
def lawake_F : Option (Bool) := Option.bind (lTown_S) fun y1 => Option.bind (pVersions_S y1 1) fun y3 => Option.bind (pCite_S y1 1 29) fun y5 => Option.bind (pResolve_S y1 ([49, 45, 50, 45, 54, 50] : Str)) fun y7 => Option.bind (pLatest_S y1 ([49, 45, 50, 45, 54, 50] : Str)) fun y9 => Option.bind (pParse_S ([49, 45, 50, 45, 54, 50] : Str)) fun y11 => bif (y3.2 == 0) then (bif (y5.2 == 0) then (bif (y7.2 == 0) then (bif (y9.2.2 == 0) then (bif (y11.2.2 == 0) then (bif (((y3.1.map cVersion).length : Int) == 3) then (bif (y5.1 == ([49, 45, 50, 45, 54, 50] : Str)) then (bif (y7.1.Unit.Mark == ([66] : Str)) then (bif (y7.1.Day == 20) then (bif (y9.1.Number == 3) then (bif y9.2.1 then (bif (y11.1 == 1) then some ((y11.2.1 == 2)) else some (false)) else some (false)) else some (false)) else some (false)) else some (false)) else some (false)) else some (false)) else some (false)) else some (false)) else some (false)) else some (false)) else some (false)
set_option linter.unusedVariables false in
theorem lawake_Fh {r : Bool} (hF : lawake_F  = some r) : Holds Tryd.prog Gw 8 [] (lawake_E r) := by
  refine holds_of_wq tabOk mixed Tryd.func8 (by decide) rfl (Nat.le_of_ble_eq_true rfl) ?_
  refine obind hF fun y1 h2 hF => ?_
  refine Or.inl ⟨_, lTown_h h2, rfl, ?_⟩
  refine obind hF fun y3 h4 hF => ?_
  refine Or.inl ⟨_, pVersions_h h4, rfl, ?_⟩
  refine obind hF fun y5 h6 hF => ?_
  refine Or.inl ⟨_, pCite_h h6, rfl, ?_⟩
  refine obind hF fun y7 h8 hF => ?_
  refine Or.inl ⟨_, pResolve_h h8, rfl, ?_⟩
  refine Or.inl ?_
  refine obind hF fun y9 h10 hF => ?_
  refine Or.inl ⟨_, pLatest_h h10, rfl, ?_⟩
  refine Or.inl ?_
  refine obind hF fun y11 h12 hF => ?_
  refine Or.inl ⟨_, pParse_h h12, rfl, ?_⟩
  refine And.intro (fun h13 => ?_) (fun h13 => ?_)
  · have hF := cpos h13 hF
    refine And.intro (fun h14 => ?_) (fun h14 => ?_)
    · have hF := cpos h14 hF
      refine And.intro (fun h15 => ?_) (fun h15 => ?_)
      · have hF := cpos h15 hF
        refine And.intro (fun h16 => ?_) (fun h16 => ?_)
        · have hF := cpos h16 hF
          refine And.intro (fun h17 => ?_) (fun h17 => ?_)
          · have hF := cpos h17 hF
            refine And.intro (fun h18 => ?_) (fun h18 => ?_)
            · have hF := cpos h18 hF
              refine And.intro (fun h19 => ?_) (fun h19 => ?_)
              · have hF := cpos h19 hF
                refine And.intro (fun h20 => ?_) (fun h20 => ?_)
                · have hF := cpos h20 hF
                  refine And.intro (fun h21 => ?_) (fun h21 => ?_)
                  · have hF := cpos h21 hF
                    refine And.intro (fun h22 => ?_) (fun h22 => ?_)
                    · have hF := cpos h22 hF
                      refine And.intro (fun h23 => ?_) (fun h23 => ?_)
                      · have hF := cpos h23 hF
                        refine And.intro (fun h24 => ?_) (fun h24 => ?_)
                        · have hF := cpos h24 hF
                          exact Or.inl ⟨rfl, congrArg (Option.map lawake_E) hF⟩
                        · have hF := cneg h24 hF
                          exact Or.inl ⟨rfl, congrArg (Option.map lawake_E) hF⟩
                      · have hF := cneg h23 hF
                        exact Or.inl ⟨rfl, congrArg (Option.map lawake_E) hF⟩
                    · have hF := cneg h22 hF
                      exact Or.inl ⟨rfl, congrArg (Option.map lawake_E) hF⟩
                  · have hF := cneg h21 hF
                    exact Or.inl ⟨rfl, congrArg (Option.map lawake_E) hF⟩
                · have hF := cneg h20 hF
                  exact Or.inl ⟨rfl, congrArg (Option.map lawake_E) hF⟩
              · have hF := cneg h19 hF
                exact Or.inl ⟨rfl, congrArg (Option.map lawake_E) hF⟩
            · have hF := cneg h18 hF
              exact Or.inl ⟨rfl, congrArg (Option.map lawake_E) hF⟩
          · have hF := cneg h17 hF
            exact Or.inl ⟨rfl, congrArg (Option.map lawake_E) hF⟩
        · have hF := cneg h16 hF
          exact Or.inl ⟨rfl, congrArg (Option.map lawake_E) hF⟩
      · have hF := cneg h15 hF
        exact Or.inl ⟨rfl, congrArg (Option.map lawake_E) hF⟩
    · have hF := cneg h14 hF
      exact Or.inl ⟨rfl, congrArg (Option.map lawake_E) hF⟩
  · have hF := cneg h13 hF
    exact Or.inl ⟨rfl, congrArg (Option.map lawake_E) hF⟩
abbrev lawake_S : Option (Bool) := lawake_F 
theorem lawake_h {r : Bool} (h : lawake_S = some r) : Holds Tryd.prog Gw 8 [] (lawake_E r) := lawake_Fh  h
end Go.Proofs.YtmdhahfminiilaaDoor
