/- Functions of the program as functions of Lean, each with its contract (printed by a program). -/
import Derived.Test.YtmdhahfminiilaaDoorGC
namespace Go.Proofs.YtmdhahfminiilaaDoor
open Go Go.Abs
set_option maxRecDepth 10000
set_option maxHeartbeats 400000
abbrev lCitationEver_E (y : Bool) : CV := B y
def lCitationEver_F (h_ : List Shot) (more : Shot) (unit : Int) (day : Int) : Option (Bool) := Option.bind (lawake_S) fun y1 => bif (!y1) then some (false) else (Option.bind (qFew_S h_) fun y4 => bif (!y4) then some (true) else (Option.bind (qFew_S ([more] : List Shot)) fun y7 => bif (!y7) then some (true) else (bif decide (((h_.map cShot).length : Int) > 11) then some (true) else (Option.bind (qCopy_S h_) fun y11 => Option.bind (pCite_S y11 unit day) fun y13 => Option.bind (qCopy_S h_) fun y15 => Option.bind (kStanding_S y15 unit day) fun y17 => bif (y13.2 != 0) then (bif (y13.1 == ([] : Str)) then some ((!y17.2)) else some (false)) else (Option.bind (qCopy_S h_) fun y21 => Option.bind (pResolve_S y21 y13.1) fun y23 => bif (!y17.2) then some (false) else (bif (y23.2 != 0) then some (false) else (bif (!(y23.1.Unit == y17.1)) then some (false) else (bif decide (y23.1.Day > day) then some (false) else (Option.bind (qCopy_S h_) fun y29 => bif decide (y29.length + ([more] : List Shot).length ≤ 4294967296) then Option.bind (kCheck_S (y29 ++ ([more] : List Shot))) fun y31 => bif (y31 != 0) then some (true) else (Option.bind (pResolve_S (y29 ++ ([more] : List Shot)) y13.1) fun y34 => bif (y34.2 == 0) then (Option.bind (rSame_S y23.1 y34.1) fun y37 => some (y37)) else some (false)) else none)))))))))
set_option linter.unusedVariables false in
theorem lCitationEver_Fh {h_ : List Shot} {more : Shot} {unit : Int} {day : Int} {r : Bool} (hF : lCitationEver_F h_ more unit day = some r) : Holds Tryd.prog Gw 4 [.sl 2 (h_.map cShot), .agg (cShot more), I unit, I day] (lCitationEver_E r) := by
  refine holds_of_wq tabOk mixed Tryd.func4 (by decide) rfl (Nat.le_of_ble_eq_true rfl) ?_
  refine Or.inl ?_
  refine obind hF fun y1 h2 hF => ?_
  refine Or.inl ⟨_, lawake_h h2, rfl, ?_⟩
  refine And.intro (fun h3 => ?_) (fun h3 => ?_)
  · have hF := cpos h3 hF
    exact Or.inl ⟨rfl, congrArg (Option.map lCitationEver_E) hF⟩
  · have hF := cneg h3 hF
    refine obind hF fun y4 h5 hF => ?_
    refine Or.inl ⟨_, qFew_h h5, rfl, ?_⟩
    refine And.intro (fun h6 => ?_) (fun h6 => ?_)
    · have hF := cpos h6 hF
      exact Or.inl ⟨rfl, congrArg (Option.map lCitationEver_E) hF⟩
    · have hF := cneg h6 hF
      refine Or.inl ?_
      refine obind hF fun y7 h8 hF => ?_
      refine Or.inl ⟨_, qFew_h h8, rfl, ?_⟩
      refine And.intro (fun h9 => ?_) (fun h9 => ?_)
      · have hF := cpos h9 hF
        exact Or.inl ⟨rfl, congrArg (Option.map lCitationEver_E) hF⟩
      · have hF := cneg h9 hF
        refine And.intro (fun h10 => ?_) (fun h10 => ?_)
        · have hF := cpos h10 hF
          exact Or.inl ⟨rfl, congrArg (Option.map lCitationEver_E) hF⟩
        · have hF := cneg h10 hF
          refine obind hF fun y11 h12 hF => ?_
          refine Or.inl ⟨_, qCopy_h h12, rfl, ?_⟩
          refine obind hF fun y13 h14 hF => ?_
          refine Or.inl ⟨_, pCite_h h14, rfl, ?_⟩
          refine obind hF fun y15 h16 hF => ?_
          refine Or.inl ⟨_, qCopy_h h16, rfl, ?_⟩
          refine obind hF fun y17 h18 hF => ?_
          refine Or.inl ⟨_, kStanding_h h18, rfl, ?_⟩
          refine Or.inl ?_
          refine And.intro (fun h19 => ?_) (fun h19 => ?_)
          · have hF := cpos h19 hF
            refine And.intro (fun h20 => ?_) (fun h20 => ?_)
            · have hF := cpos h20 hF
              exact Or.inl ⟨rfl, congrArg (Option.map lCitationEver_E) hF⟩
            · have hF := cneg h20 hF
              exact Or.inl ⟨rfl, congrArg (Option.map lCitationEver_E) hF⟩
          · have hF := cneg h19 hF
            refine obind hF fun y21 h22 hF => ?_
            refine Or.inl ⟨_, qCopy_h h22, rfl, ?_⟩
            refine obind hF fun y23 h24 hF => ?_
            refine Or.inl ⟨_, pResolve_h h24, rfl, ?_⟩
            refine Or.inl ?_
            refine And.intro (fun h25 => ?_) (fun h25 => ?_)
            · have hF := cpos h25 hF
              exact Or.inl ⟨rfl, congrArg (Option.map lCitationEver_E) hF⟩
            · have hF := cneg h25 hF
              refine And.intro (fun h26 => ?_) (fun h26 => ?_)
              · have hF := cpos h26 hF
                exact Or.inl ⟨rfl, congrArg (Option.map lCitationEver_E) hF⟩
              · have hF := cneg h26 hF
                refine Or.inr ⟨[], 0, _, _, _, _, rfl, rfl, sne_Standing y23.1.Unit y17.1, rfl, ?_⟩
                refine And.intro (fun h27 => ?_) (fun h27 => ?_)
                · have hF := cpos h27 hF
                  exact Or.inl ⟨rfl, congrArg (Option.map lCitationEver_E) hF⟩
                · have hF := cneg h27 hF
                  refine And.intro (fun h28 => ?_) (fun h28 => ?_)
                  · have hF := cpos h28 hF
                    exact Or.inl ⟨rfl, congrArg (Option.map lCitationEver_E) hF⟩
                  · have hF := cneg h28 hF
                    refine obind hF fun y29 h30 hF => ?_
                    refine Or.inr (Or.inl ⟨_, _, qCopy_Oh h30, ?_⟩)
                    refine Or.inl ?_
                    refine gpos hF fun h39 hF => ?_
                    refine Or.inr ⟨[(84, 1)], 0, _, _, _, _, rfl, rfl, eff_append (cf := cShot) (l := y29) (ns := ([more] : List Shot)) tok29.u tok32 (by decide) (by decide) (fun _ => rfl) h39, rfl, ?_⟩
                    refine And.intro (by kernel_rfl) ?_
                    refine obind hF fun y31 h32 hF => ?_
                    refine Or.inl ⟨_, kCheck_h h32, rfl, ?_⟩
                    refine And.intro (fun h33 => ?_) (fun h33 => ?_)
                    · have hF := cpos h33 hF
                      exact Or.inl ⟨rfl, congrArg (Option.map lCitationEver_E) hF⟩
                    · have hF := cneg h33 hF
                      refine obind hF fun y34 h35 hF => ?_
                      refine Or.inr (Or.inr ⟨[(84, 2)], 0, _, _, _, _, rfl, rfl, eff_call rfl (Or.inr ⟨_, rfl, rfl⟩) (effn_seal2 rfl (pResolve_h h35)), rfl, ?_⟩)
                      refine Or.inl ?_
                      refine And.intro (fun h36 => ?_) (fun h36 => ?_)
                      · have hF := cpos h36 hF
                        refine obind hF fun y37 h38 hF => ?_
                        refine Or.inl ⟨_, rSame_h h38, rfl, ?_⟩
                        exact Or.inl ⟨rfl, congrArg (Option.map lCitationEver_E) hF⟩
                      · have hF := cneg h36 hF
                        exact Or.inl ⟨rfl, congrArg (Option.map lCitationEver_E) hF⟩
abbrev lCitationEver_S (h_ : List Shot) (more : Shot) (unit : Int) (day : Int) : Option (Bool) := lCitationEver_F h_ more unit day
theorem lCitationEver_h {h_ : List Shot} {more : Shot} {unit : Int} {day : Int} {r : Bool} (h : lCitationEver_S h_ more unit day = some r) : Holds Tryd.prog Gw 4 [.sl 2 (h_.map cShot), .agg (cShot more), I unit, I day] (lCitationEver_E r) := lCitationEver_Fh  h
end Go.Proofs.YtmdhahfminiilaaDoor
