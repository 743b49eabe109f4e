/- Functions of the program as functions of Lean, each with its contract (printed by a program). -/
import Derived.Test.YtmdhahfminiilaaDoorGC
import Derived.Test.YtmdhahfminiilaaDoorAbsByt
namespace Go.Proofs.YtmdhahfminiilaaDoor
open Go Go.Abs
set_option maxRecDepth 10000
set_option maxHeartbeats 400000
abbrev lCitationDigits_E (y : Bool) : CV := B y
def lCitationDigits_F (unit : Int) (version : Int) (at_ : Int) (by_ : Int) : Option (Bool) := Option.bind (lawake_S) fun y1 => bif (!y1) then some (false) else (Option.bind (pFormat_S (IntKind.i64.wrap (1 + (Int.tmod (IntKind.i64.wrap unit) 1073741824))) (IntKind.i64.wrap (1 + (Int.tmod (IntKind.i64.wrap version) 64)))) fun y4 => bif (y4.2 != 0) then some (false) else (bif decide ((y4.1.length : Int) < 6) then some (false) else (bif decide ((y4.1.length : Int) = 0) then none else Option.bind (ix y4.1 (Int.tmod (IntKind.i64.wrap at_) (y4.1.length : Int))) fun b8 => bif ((b8.toNat : Int) == 45) then some (true) else (Option.bind (ix y4.1 (Int.tmod (IntKind.i64.wrap at_) (y4.1.length : Int))) fun x11 => bif decide (0 ≤ ((IntKind.u8.wrap (48 + (Int.tmod (IntKind.u8.wrap ((IntKind.u8.wrap ((IntKind.u8.wrap ((x11.toNat : Int) - 48)) + 1)) + (Int.tmod by_ 9))) 10))) : Int) ∧ ((IntKind.u8.wrap (48 + (Int.tmod (IntKind.u8.wrap ((IntKind.u8.wrap ((IntKind.u8.wrap ((x11.toNat : Int) - 48)) + 1)) + (Int.tmod by_ 9))) 10))) : Int) ≤ 255) then Option.bind (pParse_S (y4.1.set ((Int.tmod (IntKind.i64.wrap at_) (y4.1.length : Int)) : Int).toNat (UInt8.ofNat ((IntKind.u8.wrap (48 + (Int.tmod (IntKind.u8.wrap ((IntKind.u8.wrap ((IntKind.u8.wrap ((x11.toNat : Int) - 48)) + 1)) + (Int.tmod by_ 9))) 10))) : Int).toNat))) fun y14 => bif (y14.2.2 != 3) then (bif (y14.2.2 != 14) then some (false) else (bif decide ((IntKind.i64.wrap ((Int.tmod (IntKind.i64.wrap at_) (y4.1.length : Int)) + 1)) ≥ (y4.1.length : Int)) then some (true) else (Option.bind (ix y4.1 (IntKind.i64.wrap ((Int.tmod (IntKind.i64.wrap at_) (y4.1.length : Int)) + 1))) fun b19 => bif ((b19.toNat : Int) == 45) then some (true) else (Option.bind (ix y4.1 (Int.tmod (IntKind.i64.wrap at_) (y4.1.length : Int))) fun b22 => Option.bind (ix y4.1 (IntKind.i64.wrap ((Int.tmod (IntKind.i64.wrap at_) (y4.1.length : Int)) + 1))) fun b24 => bif ((b22.toNat : Int) == (b24.toNat : Int)) then some (true) else (Option.bind (ix y4.1 (IntKind.i64.wrap ((Int.tmod (IntKind.i64.wrap at_) (y4.1.length : Int)) + 1))) fun x27 => Option.bind (ix y4.1 (Int.tmod (IntKind.i64.wrap at_) (y4.1.length : Int))) fun x29 => bif decide (0 ≤ ((x27.toNat : Int) : Int) ∧ ((x27.toNat : Int) : Int) ≤ 255) then Option.bind (ix (y4.1.set ((Int.tmod (IntKind.i64.wrap at_) (y4.1.length : Int)) : Int).toNat (UInt8.ofNat ((x27.toNat : Int) : Int).toNat)) (IntKind.i64.wrap ((Int.tmod (IntKind.i64.wrap at_) (y4.1.length : Int)) + 1))) fun x32 => bif decide (0 ≤ ((x29.toNat : Int) : Int) ∧ ((x29.toNat : Int) : Int) ≤ 255) then Option.bind (pParse_S ((y4.1.set ((Int.tmod (IntKind.i64.wrap at_) (y4.1.length : Int)) : Int).toNat (UInt8.ofNat ((x27.toNat : Int) : Int).toNat)).set ((IntKind.i64.wrap ((Int.tmod (IntKind.i64.wrap at_) (y4.1.length : Int)) + 1)) : Int).toNat (UInt8.ofNat ((x29.toNat : Int) : Int).toNat))) fun y35 => bif (y35.2.2 == 3) then some (true) else some ((y35.2.2 == 14)) else none else none))))) else (bif decide ((IntKind.i64.wrap ((Int.tmod (IntKind.i64.wrap at_) (y4.1.length : Int)) + 1)) ≥ (y4.1.length : Int)) then some (true) else (Option.bind (ix y4.1 (IntKind.i64.wrap ((Int.tmod (IntKind.i64.wrap at_) (y4.1.length : Int)) + 1))) fun b39 => bif ((b39.toNat : Int) == 45) then some (true) else (Option.bind (ix y4.1 (Int.tmod (IntKind.i64.wrap at_) (y4.1.length : Int))) fun b42 => Option.bind (ix y4.1 (IntKind.i64.wrap ((Int.tmod (IntKind.i64.wrap at_) (y4.1.length : Int)) + 1))) fun b44 => bif ((b42.toNat : Int) == (b44.toNat : Int)) then some (true) else (Option.bind (ix y4.1 (IntKind.i64.wrap ((Int.tmod (IntKind.i64.wrap at_) (y4.1.length : Int)) + 1))) fun x47 => Option.bind (ix y4.1 (Int.tmod (IntKind.i64.wrap at_) (y4.1.length : Int))) fun x49 => bif decide (0 ≤ ((x47.toNat : Int) : Int) ∧ ((x47.toNat : Int) : Int) ≤ 255) then Option.bind (ix (y4.1.set ((Int.tmod (IntKind.i64.wrap at_) (y4.1.length : Int)) : Int).toNat (UInt8.ofNat ((x47.toNat : Int) : Int).toNat)) (IntKind.i64.wrap ((Int.tmod (IntKind.i64.wrap at_) (y4.1.length : Int)) + 1))) fun x52 => bif decide (0 ≤ ((x49.toNat : Int) : Int) ∧ ((x49.toNat : Int) : Int) ≤ 255) then Option.bind (pParse_S ((y4.1.set ((Int.tmod (IntKind.i64.wrap at_) (y4.1.length : Int)) : Int).toNat (UInt8.ofNat ((x47.toNat : Int) : Int).toNat)).set ((IntKind.i64.wrap ((Int.tmod (IntKind.i64.wrap at_) (y4.1.length : Int)) + 1)) : Int).toNat (UInt8.ofNat ((x49.toNat : Int) : Int).toNat))) fun y55 => bif (y55.2.2 == 3) then some (true) else some ((y55.2.2 == 14)) else none else none)))) else none))))
set_option linter.unusedVariables false in
theorem lCitationDigits_Fh {unit : Int} {version : Int} {at_ : Int} {by_ : Int} {r : Bool} (hF : lCitationDigits_F unit version at_ by_ = some r) : Holds Tryd.prog Gw 5 [.v (.int .u32 unit), .v (.int .u8 version), .v (.int .u8 at_), .v (.int .u8 by_)] (lCitationDigits_E r) := by
  refine holds_of_wq tabOk mixed Tryd.func5 (by decide) rfl (Nat.le_of_ble_eq_true rfl) ?_
  refine obind hF fun y1 h2 hF => ?_
  refine Or.inl ⟨_, lawake_h h2, rfl, ?_⟩
  refine And.intro (fun h3 => ?_) (fun h3 => ?_)
  · have hF := cpos h3 hF
    exact Or.inl ⟨rfl, congrArg (Option.map lCitationDigits_E) hF⟩
  · have hF := cneg h3 hF
    refine ⟨rfl, by decide, ?_⟩
    refine ⟨rfl, by decide, ?_⟩
    refine obind hF fun y4 h5 hF => ?_
    refine Or.inl ⟨_, pFormat_h h5, rfl, ?_⟩
    refine And.intro (fun h6 => ?_) (fun h6 => ?_)
    · have hF := cpos h6 hF
      exact Or.inl ⟨rfl, congrArg (Option.map lCitationDigits_E) hF⟩
    · have hF := cneg h6 hF
      refine And.intro (fun h7 => ?_) (fun h7 => ?_)
      · have hF := cpos h7 hF
        exact Or.inl ⟨rfl, congrArg (Option.map lCitationDigits_E) hF⟩
      · have hF := cneg h7 hF
        refine gneg hF fun h60 hF => ?_
        refine ⟨rfl, of_decide_eq_false h60, ?_⟩
        refine Or.inl ?_
        refine obind hF fun b8 h9 hF => ?_
        refine ⟨ix_nn h9, _, ix_str h9, ?_⟩
        refine And.intro (fun h10 => ?_) (fun h10 => ?_)
        · have hF := cpos h10 hF
          exact Or.inl ⟨rfl, congrArg (Option.map lCitationDigits_E) hF⟩
        · have hF := cneg h10 hF
          refine Or.inr ⟨[], 0, _, _, _, _, rfl, rfl, eff_bynew (l := y4.1) tok9.u tok49.u tok5.u, rfl, ?_⟩
          refine obind hF fun x11 h12 hF => ?_
          refine Or.inr ⟨[(51, 1)], 7777, _, _, _, [], rfl, rfl, eff_byidx tok49.u tok5 rfl h12, rfl, ?_⟩
          refine Or.inr ⟨[(51, 1)], 7777, _, _, _, [], rfl, rfl, eff_byload tok5 rfl h12, rfl, ?_⟩
          refine ⟨rfl, by decide, ?_⟩
          refine ⟨rfl, by decide, ?_⟩
          refine Or.inr ⟨[(51, 1)], 7777, _, _, _, [], rfl, rfl, eff_byidx tok49.u tok5 rfl h12, rfl, ?_⟩
          refine gpos hF fun h13 hF => ?_
          refine Or.inr ⟨[(51, 1)], 0, _, _, _, _, rfl, rfl, eff_byput tok5 rfl h12 h13, rfl, ?_⟩
          refine Or.inr ⟨[(51, 1)], 7777, _, _, _, [], rfl, rfl, eff_bystr tok9.u tok49.u tok5.u, rfl, ?_⟩
          refine obind hF fun y14 h15 hF => ?_
          refine Or.inl ⟨_, pParse_h h15, rfl, ?_⟩
          refine And.intro (fun h16 => ?_) (fun h16 => ?_)
          · have hF := cpos h16 hF
            refine And.intro (fun h17 => ?_) (fun h17 => ?_)
            · have hF := cpos h17 hF
              exact Or.inl ⟨rfl, congrArg (Option.map lCitationDigits_E) hF⟩
            · have hF := cneg h17 hF
              refine And.intro (fun h18 => ?_) (fun h18 => ?_)
              · have hF := cpos h18 hF
                refine And.intro (by kernel_rfl) ?_
                exact Or.inl ⟨rfl, congrArg (Option.map lCitationDigits_E) hF⟩
              · have hF := cneg h18 hF
                refine Or.inl ?_
                refine obind hF fun b19 h20 hF => ?_
                refine ⟨ix_nn h20, _, ix_str h20, ?_⟩
                refine And.intro (fun h21 => ?_) (fun h21 => ?_)
                · have hF := cpos h21 hF
                  refine And.intro (by kernel_rfl) ?_
                  exact Or.inl ⟨rfl, congrArg (Option.map lCitationDigits_E) hF⟩
                · have hF := cneg h21 hF
                  refine Or.inl ?_
                  refine obind hF fun b22 h23 hF => ?_
                  refine ⟨ix_nn h23, _, ix_str h23, ?_⟩
                  refine Or.inl ?_
                  refine obind hF fun b24 h25 hF => ?_
                  refine ⟨ix_nn h25, _, ix_str h25, ?_⟩
                  refine And.intro (by kernel_rfl) ?_
                  refine And.intro (fun h26 => ?_) (fun h26 => ?_)
                  · have hF := cpos h26 hF
                    exact Or.inl ⟨rfl, congrArg (Option.map lCitationDigits_E) hF⟩
                  · have hF := cneg h26 hF
                    refine Or.inr ⟨[], 0, _, _, _, _, rfl, rfl, eff_bynew (l := y4.1) tok9.u tok49.u tok5.u, rfl, ?_⟩
                    refine obind hF fun x27 h28 hF => ?_
                    refine Or.inr ⟨[(102, 1)], 7777, _, _, _, [], rfl, rfl, eff_byidx tok49.u tok5 rfl h28, rfl, ?_⟩
                    refine Or.inr ⟨[(102, 1)], 7777, _, _, _, [], rfl, rfl, eff_byload tok5 rfl h28, rfl, ?_⟩
                    refine obind hF fun x29 h30 hF => ?_
                    refine Or.inr ⟨[(102, 1)], 7777, _, _, _, [], rfl, rfl, eff_byidx tok49.u tok5 rfl h30, rfl, ?_⟩
                    refine Or.inr ⟨[(102, 1)], 7777, _, _, _, [], rfl, rfl, eff_byload tok5 rfl h30, rfl, ?_⟩
                    refine Or.inr ⟨[(102, 1)], 7777, _, _, _, [], rfl, rfl, eff_byidx tok49.u tok5 rfl h30, rfl, ?_⟩
                    refine gpos hF fun h31 hF => ?_
                    refine Or.inr ⟨[(102, 1)], 0, _, _, _, _, rfl, rfl, eff_byput tok5 rfl h30 h31, rfl, ?_⟩
                    refine obind hF fun x32 h33 hF => ?_
                    refine Or.inr ⟨[(102, 1)], 7777, _, _, _, [], rfl, rfl, eff_byidx tok49.u tok5 rfl h33, rfl, ?_⟩
                    refine gpos hF fun h34 hF => ?_
                    refine Or.inr ⟨[(102, 1)], 0, _, _, _, _, rfl, rfl, eff_byput tok5 rfl h33 h34, rfl, ?_⟩
                    refine And.intro (by kernel_rfl) ?_
                    refine Or.inr ⟨[(102, 1)], 7777, _, _, _, [], rfl, rfl, eff_bystr tok9.u tok49.u tok5.u, rfl, ?_⟩
                    refine obind hF fun y35 h36 hF => ?_
                    refine Or.inl ⟨_, pParse_h h36, rfl, ?_⟩
                    refine And.intro (fun h37 => ?_) (fun h37 => ?_)
                    · have hF := cpos h37 hF
                      exact Or.inl ⟨rfl, congrArg (Option.map lCitationDigits_E) hF⟩
                    · have hF := cneg h37 hF
                      exact Or.inl ⟨rfl, congrArg (Option.map lCitationDigits_E) hF⟩
          · have hF := cneg h16 hF
            refine And.intro (fun h38 => ?_) (fun h38 => ?_)
            · have hF := cpos h38 hF
              refine And.intro (by kernel_rfl) ?_
              exact Or.inl ⟨rfl, congrArg (Option.map lCitationDigits_E) hF⟩
            · have hF := cneg h38 hF
              refine Or.inl ?_
              refine obind hF fun b39 h40 hF => ?_
              refine ⟨ix_nn h40, _, ix_str h40, ?_⟩
              refine And.intro (fun h41 => ?_) (fun h41 => ?_)
              · have hF := cpos h41 hF
                refine And.intro (by kernel_rfl) ?_
                exact Or.inl ⟨rfl, congrArg (Option.map lCitationDigits_E) hF⟩
              · have hF := cneg h41 hF
                refine Or.inl ?_
                refine obind hF fun b42 h43 hF => ?_
                refine ⟨ix_nn h43, _, ix_str h43, ?_⟩
                refine Or.inl ?_
                refine obind hF fun b44 h45 hF => ?_
                refine ⟨ix_nn h45, _, ix_str h45, ?_⟩
                refine And.intro (by kernel_rfl) ?_
                refine And.intro (fun h46 => ?_) (fun h46 => ?_)
                · have hF := cpos h46 hF
                  exact Or.inl ⟨rfl, congrArg (Option.map lCitationDigits_E) hF⟩
                · have hF := cneg h46 hF
                  refine Or.inr ⟨[], 0, _, _, _, _, rfl, rfl, eff_bynew (l := y4.1) tok9.u tok49.u tok5.u, rfl, ?_⟩
                  refine obind hF fun x47 h48 hF => ?_
                  refine Or.inr ⟨[(102, 1)], 7777, _, _, _, [], rfl, rfl, eff_byidx tok49.u tok5 rfl h48, rfl, ?_⟩
                  refine Or.inr ⟨[(102, 1)], 7777, _, _, _, [], rfl, rfl, eff_byload tok5 rfl h48, rfl, ?_⟩
                  refine obind hF fun x49 h50 hF => ?_
                  refine Or.inr ⟨[(102, 1)], 7777, _, _, _, [], rfl, rfl, eff_byidx tok49.u tok5 rfl h50, rfl, ?_⟩
                  refine Or.inr ⟨[(102, 1)], 7777, _, _, _, [], rfl, rfl, eff_byload tok5 rfl h50, rfl, ?_⟩
                  refine Or.inr ⟨[(102, 1)], 7777, _, _, _, [], rfl, rfl, eff_byidx tok49.u tok5 rfl h50, rfl, ?_⟩
                  refine gpos hF fun h51 hF => ?_
                  refine Or.inr ⟨[(102, 1)], 0, _, _, _, _, rfl, rfl, eff_byput tok5 rfl h50 h51, rfl, ?_⟩
                  refine obind hF fun x52 h53 hF => ?_
                  refine Or.inr ⟨[(102, 1)], 7777, _, _, _, [], rfl, rfl, eff_byidx tok49.u tok5 rfl h53, rfl, ?_⟩
                  refine gpos hF fun h54 hF => ?_
                  refine Or.inr ⟨[(102, 1)], 0, _, _, _, _, rfl, rfl, eff_byput tok5 rfl h53 h54, rfl, ?_⟩
                  refine And.intro (by kernel_rfl) ?_
                  refine Or.inr ⟨[(102, 1)], 7777, _, _, _, [], rfl, rfl, eff_bystr tok9.u tok49.u tok5.u, rfl, ?_⟩
                  refine obind hF fun y55 h56 hF => ?_
                  refine Or.inl ⟨_, pParse_h h56, rfl, ?_⟩
                  refine And.intro (fun h57 => ?_) (fun h57 => ?_)
                  · have hF := cpos h57 hF
                    exact Or.inl ⟨rfl, congrArg (Option.map lCitationDigits_E) hF⟩
                  · have hF := cneg h57 hF
                    exact Or.inl ⟨rfl, congrArg (Option.map lCitationDigits_E) hF⟩
abbrev lCitationDigits_S (unit : Int) (version : Int) (at_ : Int) (by_ : Int) : Option (Bool) := lCitationDigits_F unit version at_ by_
theorem lCitationDigits_h {unit : Int} {version : Int} {at_ : Int} {by_ : Int} {r : Bool} (h : lCitationDigits_S unit version at_ by_ = some r) : Holds Tryd.prog Gw 5 [.v (.int .u32 unit), .v (.int .u8 version), .v (.int .u8 at_), .v (.int .u8 by_)] (lCitationDigits_E r) := lCitationDigits_Fh  h
end Go.Proofs.YtmdhahfminiilaaDoor
