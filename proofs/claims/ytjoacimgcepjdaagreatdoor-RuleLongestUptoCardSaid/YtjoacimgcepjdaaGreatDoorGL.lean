/- Functions of the program as functions of Lean, each with its contract (printed by a program). -/
import Derived.Test.YtjoacimgcepjdaaGreatDoorGP
import Derived.Test.YtjoacimgcepjdaaGreatDoorGD
namespace Go.Proofs.YtjoacimgcepjdaaGreatDoor
open Go Go.Abs
set_option maxRecDepth 10000
set_option maxHeartbeats 400000
abbrev lawake_E (y : Bool) : CV := B y
def lawake_F : Option (Bool) := Option.bind (lexample_S) fun y1 => Option.bind (qPrint_S ([y1.1] : List Rule)) fun y3 => Option.bind (qParse_S y1.2) fun y5 => Option.bind (qDue_S y1.1 (⟨142935, 142935⟩ : Dating)) fun y7 => bif (y3.2 == 0) then (bif (y3.1 == y1.2) then (bif (y5.2.2 == 0) then (bif (y5.2.1 == (-1)) then (bif (((y5.1.map cRule).length : Int) == 1) then (Option.bind (ix y5.1 0) fun x14 => bif (x14 == y1.1) then (bif (y7.2 == 0) then (bif (y7.1 == 146827) then (Option.bind (qApply_S y5.1 ([51, 46, 49, 46, 52] : Str) 142445) fun y19 => Option.bind (slEqual_S y19 ([12] : List Int)) fun y21 => some (y21)) else some (false)) else some (false)) else some (false)) else some (false)) else some (false)) else some (false)) else some (false)) else some (false)
set_option linter.unusedVariables false in
theorem lawake_Fh {r : Bool} (hF : lawake_F  = some r) : Holds Tryz.prog Gw 9 [] (lawake_E r) := by
  refine holds_of_wq tabOk mixed Tryz.func9 (by decide) rfl (Nat.le_of_ble_eq_true rfl) ?_
  refine obind hF fun y1 h2 hF => ?_
  refine Or.inl ⟨_, lexample_h h2, rfl, ?_⟩
  refine Or.inl ?_
  refine Or.inl ?_
  refine obind hF fun y3 h4 hF => ?_
  refine Or.inl ⟨_, qPrint_h h4, rfl, ?_⟩
  refine obind hF fun y5 h6 hF => ?_
  refine Or.inl ⟨_, qParse_h h6, rfl, ?_⟩
  refine Or.inl ?_
  refine obind hF fun y7 h8 hF => ?_
  refine Or.inl ⟨_, qDue_h h8, rfl, ?_⟩
  refine And.intro (fun h9 => ?_) (fun h9 => ?_)
  · have hF := cpos h9 hF
    refine And.intro (fun h10 => ?_) (fun h10 => ?_)
    · have hF := cpos h10 hF
      refine And.intro (fun h11 => ?_) (fun h11 => ?_)
      · have hF := cpos h11 hF
        refine And.intro (fun h12 => ?_) (fun h12 => ?_)
        · have hF := cpos h12 hF
          refine And.intro (fun h13 => ?_) (fun h13 => ?_)
          · have hF := cpos h13 hF
            refine obind hF fun x14 h15 hF => ?_
            refine ⟨ix_nn h15, .inl rfl, _, ix_map cRule h15, ?_⟩
            refine Or.inr ⟨[], 0, _, _, _, _, rfl, rfl, seq_Rule x14 y1.1, rfl, ?_⟩
            refine And.intro (fun h16 => ?_) (fun h16 => ?_)
            · have hF := cpos h16 hF
              refine And.intro (fun h17 => ?_) (fun h17 => ?_)
              · have hF := cpos h17 hF
                refine And.intro (fun h18 => ?_) (fun h18 => ?_)
                · have hF := cpos h18 hF
                  refine obind hF fun y19 h20 hF => ?_
                  refine Or.inl ⟨_, qApply_h h20, rfl, ?_⟩
                  refine Or.inl ?_
                  refine obind hF fun y21 h22 hF => ?_
                  refine Or.inl ⟨_, slEqual_h h22, rfl, ?_⟩
                  refine And.intro (by kernel_rfl) ?_
                  exact Or.inl ⟨rfl, congrArg (Option.map lawake_E) hF⟩
                · have hF := cneg h18 hF
                  refine And.intro (by kernel_rfl) ?_
                  exact Or.inl ⟨rfl, congrArg (Option.map lawake_E) hF⟩
              · have hF := cneg h17 hF
                refine And.intro (by kernel_rfl) ?_
                exact Or.inl ⟨rfl, congrArg (Option.map lawake_E) hF⟩
            · have hF := cneg h16 hF
              refine And.intro (by kernel_rfl) ?_
              exact Or.inl ⟨rfl, congrArg (Option.map lawake_E) hF⟩
          · have hF := cneg h13 hF
            refine And.intro (by kernel_rfl) ?_
            exact Or.inl ⟨rfl, congrArg (Option.map lawake_E) hF⟩
        · have hF := cneg h12 hF
          refine And.intro (by kernel_rfl) ?_
          exact Or.inl ⟨rfl, congrArg (Option.map lawake_E) hF⟩
      · have hF := cneg h11 hF
        refine And.intro (by kernel_rfl) ?_
        exact Or.inl ⟨rfl, congrArg (Option.map lawake_E) hF⟩
    · have hF := cneg h10 hF
      refine And.intro (by kernel_rfl) ?_
      exact Or.inl ⟨rfl, congrArg (Option.map lawake_E) hF⟩
  · have hF := cneg h9 hF
    refine And.intro (by kernel_rfl) ?_
    exact Or.inl ⟨rfl, congrArg (Option.map lawake_E) hF⟩
abbrev lawake_S : Option (Bool) := lawake_F 
theorem lawake_h {r : Bool} (h : lawake_S = some r) : Holds Tryz.prog Gw 9 [] (lawake_E r) := lawake_Fh  h
abbrev lRuleChecks_E (y : Bool) : CV := B y
def lRuleChecks_F (l : List Rule) (id : Int) : Option (Bool) := Option.bind (lawake_S) fun y1 => bif (!y1) then some (false) else (Option.bind (xFew_S l) fun y4 => bif (!y4) then some (true) else (Option.bind (qCheck_S l) fun y7 => Option.bind (xCheck_S l) fun y9 => bif (y7.1 == y9.1) then (bif (y7.2 == y9.2) then (Option.bind (qFind_S l id) fun y13 => Option.bind (xFind_S l id) fun y15 => some ((y13 == y15))) else some (false)) else some (false)))
set_option linter.unusedVariables false in
theorem lRuleChecks_Fh {l : List Rule} {id : Int} {r : Bool} (hF : lRuleChecks_F l id = some r) : Holds Tryz.prog Gw 5 [.sl 8 (l.map cRule), I id] (lRuleChecks_E r) := by
  refine holds_of_wq tabOk mixed Tryz.func5 (by decide) rfl (Nat.le_of_ble_eq_true rfl) ?_
  refine obind hF fun y1 h2 hF => ?_
  refine Or.inl ⟨_, lawake_h h2, rfl, ?_⟩
  refine And.intro (fun h3 => ?_) (fun h3 => ?_)
  · have hF := cpos h3 hF
    exact Or.inl ⟨rfl, congrArg (Option.map lRuleChecks_E) hF⟩
  · have hF := cneg h3 hF
    refine obind hF fun y4 h5 hF => ?_
    refine Or.inl ⟨_, xFew_h h5, rfl, ?_⟩
    refine And.intro (fun h6 => ?_) (fun h6 => ?_)
    · have hF := cpos h6 hF
      exact Or.inl ⟨rfl, congrArg (Option.map lRuleChecks_E) hF⟩
    · have hF := cneg h6 hF
      refine obind hF fun y7 h8 hF => ?_
      refine Or.inl ⟨_, qCheck_h h8, rfl, ?_⟩
      refine obind hF fun y9 h10 hF => ?_
      refine Or.inl ⟨_, xCheck_h h10, rfl, ?_⟩
      refine And.intro (fun h11 => ?_) (fun h11 => ?_)
      · have hF := cpos h11 hF
        refine And.intro (fun h12 => ?_) (fun h12 => ?_)
        · have hF := cpos h12 hF
          refine obind hF fun y13 h14 hF => ?_
          refine Or.inl ⟨_, qFind_h h14, rfl, ?_⟩
          refine obind hF fun y15 h16 hF => ?_
          refine Or.inl ⟨_, xFind_h h16, rfl, ?_⟩
          exact Or.inl ⟨rfl, congrArg (Option.map lRuleChecks_E) hF⟩
        · have hF := cneg h12 hF
          exact Or.inl ⟨rfl, congrArg (Option.map lRuleChecks_E) hF⟩
      · have hF := cneg h11 hF
        exact Or.inl ⟨rfl, congrArg (Option.map lRuleChecks_E) hF⟩
abbrev lRuleChecks_S (l : List Rule) (id : Int) : Option (Bool) := lRuleChecks_F l id
theorem lRuleChecks_h {l : List Rule} {id : Int} {r : Bool} (h : lRuleChecks_S l id = some r) : Holds Tryz.prog Gw 5 [.sl 8 (l.map cRule), I id] (lRuleChecks_E r) := lRuleChecks_Fh  h
abbrev lRuleApplies_E (y : Bool) : CV := B y
def lRuleApplies_F (l : List Rule) (s : Str) (day : Int) (r_ : Rule) (x : Dating) (id : Int) : Option (Bool) := Option.bind (lawake_S) fun y1 => bif (!y1) then some (false) else (Option.bind (xFew_S l) fun y4 => bif (!y4) then some (true) else (Option.bind (xFew_S ([r_] : List Rule)) fun y7 => bif (!y7) then some (true) else (bif decide ((s.length : Int) > 100) then some (true) else (Option.bind (qDue_S r_ x) fun y11 => Option.bind (xDue_S r_ x) fun y13 => Option.bind (qEnd_S l id day) fun y15 => Option.bind (xEnd_S l id day) fun y17 => Option.bind (qApply_S l s day) fun y19 => Option.bind (xApply_S l s day) fun y21 => Option.bind (rSameInts_S y19 y21) fun y23 => bif y23 then (bif (y11.1 == y13.1) then (bif (y11.2 == y13.2) then (Option.bind (xSame_S y15.1 y17.1) fun y28 => bif y28 then some ((y15.2 == y17.2)) else some (false)) else some (false)) else some (false)) else some (false)))))
set_option linter.unusedVariables false in
theorem lRuleApplies_Fh {l : List Rule} {s : Str} {day : Int} {r_ : Rule} {x : Dating} {id : Int} {r : Bool} (hF : lRuleApplies_F l s day r_ x id = some r) : Holds Tryz.prog Gw 7 [.sl 8 (l.map cRule), S s, I day, .agg (cRule r_), .agg (cDating x), I id] (lRuleApplies_E r) := by
  refine holds_of_wq tabOk mixed Tryz.func7 (by decide) rfl (Nat.le_of_ble_eq_true rfl) ?_
  refine Or.inl ?_
  refine Or.inl ?_
  refine obind hF fun y1 h2 hF => ?_
  refine Or.inl ⟨_, lawake_h h2, rfl, ?_⟩
  refine And.intro (fun h3 => ?_) (fun h3 => ?_)
  · have hF := cpos h3 hF
    exact Or.inl ⟨rfl, congrArg (Option.map lRuleApplies_E) hF⟩
  · have hF := cneg h3 hF
    refine obind hF fun y4 h5 hF => ?_
    refine Or.inl ⟨_, xFew_h h5, rfl, ?_⟩
    refine And.intro (fun h6 => ?_) (fun h6 => ?_)
    · have hF := cpos h6 hF
      exact Or.inl ⟨rfl, congrArg (Option.map lRuleApplies_E) hF⟩
    · have hF := cneg h6 hF
      refine Or.inl ?_
      refine obind hF fun y7 h8 hF => ?_
      refine Or.inl ⟨_, xFew_h h8, rfl, ?_⟩
      refine And.intro (fun h9 => ?_) (fun h9 => ?_)
      · have hF := cpos h9 hF
        exact Or.inl ⟨rfl, congrArg (Option.map lRuleApplies_E) hF⟩
      · have hF := cneg h9 hF
        refine And.intro (fun h10 => ?_) (fun h10 => ?_)
        · have hF := cpos h10 hF
          exact Or.inl ⟨rfl, congrArg (Option.map lRuleApplies_E) hF⟩
        · have hF := cneg h10 hF
          refine obind hF fun y11 h12 hF => ?_
          refine Or.inl ⟨_, qDue_h h12, rfl, ?_⟩
          refine obind hF fun y13 h14 hF => ?_
          refine Or.inl ⟨_, xDue_h h14, rfl, ?_⟩
          refine obind hF fun y15 h16 hF => ?_
          refine Or.inl ⟨_, qEnd_h h16, rfl, ?_⟩
          refine obind hF fun y17 h18 hF => ?_
          refine Or.inl ⟨_, xEnd_h h18, rfl, ?_⟩
          refine obind hF fun y19 h20 hF => ?_
          refine Or.inl ⟨_, qApply_h h20, rfl, ?_⟩
          refine obind hF fun y21 h22 hF => ?_
          refine Or.inl ⟨_, xApply_h h22, rfl, ?_⟩
          refine obind hF fun y23 h24 hF => ?_
          refine Or.inl ⟨_, rSameInts_h h24, rfl, ?_⟩
          refine And.intro (fun h25 => ?_) (fun h25 => ?_)
          · have hF := cpos h25 hF
            refine And.intro (fun h26 => ?_) (fun h26 => ?_)
            · have hF := cpos h26 hF
              refine And.intro (fun h27 => ?_) (fun h27 => ?_)
              · have hF := cpos h27 hF
                refine obind hF fun y28 h29 hF => ?_
                refine Or.inl ⟨_, xSame_h h29, rfl, ?_⟩
                refine And.intro (fun h30 => ?_) (fun h30 => ?_)
                · have hF := cpos h30 hF
                  exact Or.inl ⟨rfl, congrArg (Option.map lRuleApplies_E) hF⟩
                · have hF := cneg h30 hF
                  exact Or.inl ⟨rfl, congrArg (Option.map lRuleApplies_E) hF⟩
              · have hF := cneg h27 hF
                exact Or.inl ⟨rfl, congrArg (Option.map lRuleApplies_E) hF⟩
            · have hF := cneg h26 hF
              exact Or.inl ⟨rfl, congrArg (Option.map lRuleApplies_E) hF⟩
          · have hF := cneg h25 hF
            exact Or.inl ⟨rfl, congrArg (Option.map lRuleApplies_E) hF⟩
abbrev lRuleApplies_S (l : List Rule) (s : Str) (day : Int) (r_ : Rule) (x : Dating) (id : Int) : Option (Bool) := lRuleApplies_F l s day r_ x id
theorem lRuleApplies_h {l : List Rule} {s : Str} {day : Int} {r_ : Rule} {x : Dating} {id : Int} {r : Bool} (h : lRuleApplies_S l s day r_ x id = some r) : Holds Tryz.prog Gw 7 [.sl 8 (l.map cRule), S s, I day, .agg (cRule r_), .agg (cDating x), I id] (lRuleApplies_E r) := lRuleApplies_Fh  h
abbrev lRuleLater_E (y : Bool) : CV := B y
def lRuleLater_F (r_ : Rule) (a : Dating) (b : Dating) (more : Int) : Option (Bool) := Option.bind (lawake_S) fun y1 => bif (!y1) then some (false) else (bif decide ((r_.Class.length : Int) > 100) then some (true) else (bif decide ((r_.Trigger.length : Int) > 100) then some (true) else (Option.bind (qDue_S r_ a) fun y6 => Option.bind (qDue_S r_ b) fun y8 => bif (y6.2 != 0) then (bif (y6.2 == 0) then (bif (y8.2 == 0) then some (true) else some ((y8.1 == 0))) else (bif (y6.1 == 0) then (bif (y8.2 == 0) then some (true) else some ((y8.1 == 0))) else some (false))) else (bif (y8.2 != 0) then (bif (y6.2 == 0) then (bif (y8.2 == 0) then some (true) else some ((y8.1 == 0))) else (bif (y6.1 == 0) then (bif (y8.2 == 0) then some (true) else some ((y8.1 == 0))) else some (false))) else (bif decide (y6.1 < a.Last) then some (false) else (bif decide (a.Last ≤ b.Last) then (bif decide (y6.1 > y8.1) then some (false) else (bif (r_.Action == 3) then some (true) else (Option.bind (qDue_S (⟨r_.ID, r_.Class, r_.Trigger, (if 200 < (IntKind.i64.wrap (r_.Years + (IntKind.i64.wrap more))) then 200 else (IntKind.i64.wrap (r_.Years + (IntKind.i64.wrap more)))), r_.YearEnd, r_.Action, r_.In⟩ : Rule) a) fun y24 => Option.bind (qDue_S (⟨r_.ID, r_.Class, r_.Trigger, r_.Years, true, r_.Action, r_.In⟩ : Rule) a) fun y26 => bif (y24.2 == 0) then (bif (y26.2 == 0) then (bif decide (y24.1 ≥ y6.1) then (bif decide (y26.1 ≥ y6.1) then some (decide (y26.1 ≤ (IntKind.i64.wrap (y6.1 + 365)))) else some (false)) else some (false)) else some (false)) else some (false)))) else (bif (r_.Action == 3) then some (true) else (Option.bind (qDue_S (⟨r_.ID, r_.Class, r_.Trigger, (if 200 < (IntKind.i64.wrap (r_.Years + (IntKind.i64.wrap more))) then 200 else (IntKind.i64.wrap (r_.Years + (IntKind.i64.wrap more)))), r_.YearEnd, r_.Action, r_.In⟩ : Rule) a) fun y33 => Option.bind (qDue_S (⟨r_.ID, r_.Class, r_.Trigger, r_.Years, true, r_.Action, r_.In⟩ : Rule) a) fun y35 => bif (y33.2 == 0) then (bif (y35.2 == 0) then (bif decide (y33.1 ≥ y6.1) then (bif decide (y35.1 ≥ y6.1) then some (decide (y35.1 ≤ (IntKind.i64.wrap (y6.1 + 365)))) else some (false)) else some (false)) else some (false)) else some (false)))))))))
set_option linter.unusedVariables false in
theorem lRuleLater_Fh {r_ : Rule} {a : Dating} {b : Dating} {more : Int} {r : Bool} (hF : lRuleLater_F r_ a b more = some r) : Holds Tryz.prog Gw 4 [.agg (cRule r_), .agg (cDating a), .agg (cDating b), .v (.int .u8 more)] (lRuleLater_E r) := by
  refine holds_of_wq tabOk mixed Tryz.func4 (by decide) rfl (Nat.le_of_ble_eq_true rfl) ?_
  refine Or.inl ?_
  refine Or.inl ?_
  refine Or.inl ?_
  refine obind hF fun y1 h2 hF => ?_
  refine Or.inl ⟨_, lawake_h h2, rfl, ?_⟩
  refine And.intro (fun h3 => ?_) (fun h3 => ?_)
  · have hF := cpos h3 hF
    exact Or.inl ⟨rfl, congrArg (Option.map lRuleLater_E) hF⟩
  · have hF := cneg h3 hF
    refine And.intro (fun h4 => ?_) (fun h4 => ?_)
    · have hF := cpos h4 hF
      exact Or.inl ⟨rfl, congrArg (Option.map lRuleLater_E) hF⟩
    · have hF := cneg h4 hF
      refine And.intro (fun h5 => ?_) (fun h5 => ?_)
      · have hF := cpos h5 hF
        exact Or.inl ⟨rfl, congrArg (Option.map lRuleLater_E) hF⟩
      · have hF := cneg h5 hF
        refine obind hF fun y6 h7 hF => ?_
        refine Or.inl ⟨_, qDue_h h7, rfl, ?_⟩
        refine obind hF fun y8 h9 hF => ?_
        refine Or.inl ⟨_, qDue_h h9, rfl, ?_⟩
        refine And.intro (fun h10 => ?_) (fun h10 => ?_)
        · have hF := cpos h10 hF
          refine And.intro (fun h11 => ?_) (fun h11 => ?_)
          · have hF := cpos h11 hF
            refine And.intro (fun h12 => ?_) (fun h12 => ?_)
            · have hF := cpos h12 hF
              exact Or.inl ⟨rfl, congrArg (Option.map lRuleLater_E) hF⟩
            · have hF := cneg h12 hF
              exact Or.inl ⟨rfl, congrArg (Option.map lRuleLater_E) hF⟩
          · have hF := cneg h11 hF
            refine And.intro (fun h13 => ?_) (fun h13 => ?_)
            · have hF := cpos h13 hF
              refine And.intro (fun h14 => ?_) (fun h14 => ?_)
              · have hF := cpos h14 hF
                exact Or.inl ⟨rfl, congrArg (Option.map lRuleLater_E) hF⟩
              · have hF := cneg h14 hF
                exact Or.inl ⟨rfl, congrArg (Option.map lRuleLater_E) hF⟩
            · have hF := cneg h13 hF
              exact Or.inl ⟨rfl, congrArg (Option.map lRuleLater_E) hF⟩
        · have hF := cneg h10 hF
          refine And.intro (fun h15 => ?_) (fun h15 => ?_)
          · have hF := cpos h15 hF
            refine And.intro (fun h16 => ?_) (fun h16 => ?_)
            · have hF := cpos h16 hF
              refine And.intro (fun h17 => ?_) (fun h17 => ?_)
              · have hF := cpos h17 hF
                exact Or.inl ⟨rfl, congrArg (Option.map lRuleLater_E) hF⟩
              · have hF := cneg h17 hF
                exact Or.inl ⟨rfl, congrArg (Option.map lRuleLater_E) hF⟩
            · have hF := cneg h16 hF
              refine And.intro (fun h18 => ?_) (fun h18 => ?_)
              · have hF := cpos h18 hF
                refine And.intro (fun h19 => ?_) (fun h19 => ?_)
                · have hF := cpos h19 hF
                  exact Or.inl ⟨rfl, congrArg (Option.map lRuleLater_E) hF⟩
                · have hF := cneg h19 hF
                  exact Or.inl ⟨rfl, congrArg (Option.map lRuleLater_E) hF⟩
              · have hF := cneg h18 hF
                exact Or.inl ⟨rfl, congrArg (Option.map lRuleLater_E) hF⟩
          · have hF := cneg h15 hF
            refine And.intro (fun h20 => ?_) (fun h20 => ?_)
            · have hF := cpos h20 hF
              exact Or.inl ⟨rfl, congrArg (Option.map lRuleLater_E) hF⟩
            · have hF := cneg h20 hF
              refine And.intro (fun h21 => ?_) (fun h21 => ?_)
              · have hF := cpos h21 hF
                refine And.intro (fun h22 => ?_) (fun h22 => ?_)
                · have hF := cpos h22 hF
                  exact Or.inl ⟨rfl, congrArg (Option.map lRuleLater_E) hF⟩
                · have hF := cneg h22 hF
                  refine Or.inl ?_
                  refine Or.inl ?_
                  refine And.intro (by kernel_rfl) ?_
                  refine And.intro (fun h23 => ?_) (fun h23 => ?_)
                  · have hF := cpos h23 hF
                    exact Or.inl ⟨rfl, congrArg (Option.map lRuleLater_E) hF⟩
                  · have hF := cneg h23 hF
                    refine obind hF fun y24 h25 hF => ?_
                    refine Or.inl ⟨_, qDue_h h25, rfl, ?_⟩
                    refine obind hF fun y26 h27 hF => ?_
                    refine Or.inl ⟨_, qDue_h h27, rfl, ?_⟩
                    refine And.intro (fun h28 => ?_) (fun h28 => ?_)
                    · have hF := cpos h28 hF
                      refine And.intro (fun h29 => ?_) (fun h29 => ?_)
                      · have hF := cpos h29 hF
                        refine And.intro (fun h30 => ?_) (fun h30 => ?_)
                        · have hF := cpos h30 hF
                          refine And.intro (fun h31 => ?_) (fun h31 => ?_)
                          · have hF := cpos h31 hF
                            exact Or.inl ⟨rfl, congrArg (Option.map lRuleLater_E) hF⟩
                          · have hF := cneg h31 hF
                            exact Or.inl ⟨rfl, congrArg (Option.map lRuleLater_E) hF⟩
                        · have hF := cneg h30 hF
                          exact Or.inl ⟨rfl, congrArg (Option.map lRuleLater_E) hF⟩
                      · have hF := cneg h29 hF
                        exact Or.inl ⟨rfl, congrArg (Option.map lRuleLater_E) hF⟩
                    · have hF := cneg h28 hF
                      exact Or.inl ⟨rfl, congrArg (Option.map lRuleLater_E) hF⟩
              · have hF := cneg h21 hF
                refine Or.inl ?_
                refine Or.inl ?_
                refine And.intro (by kernel_rfl) ?_
                refine And.intro (fun h32 => ?_) (fun h32 => ?_)
                · have hF := cpos h32 hF
                  exact Or.inl ⟨rfl, congrArg (Option.map lRuleLater_E) hF⟩
                · have hF := cneg h32 hF
                  refine obind hF fun y33 h34 hF => ?_
                  refine Or.inl ⟨_, qDue_h h34, rfl, ?_⟩
                  refine obind hF fun y35 h36 hF => ?_
                  refine Or.inl ⟨_, qDue_h h36, rfl, ?_⟩
                  refine And.intro (fun h37 => ?_) (fun h37 => ?_)
                  · have hF := cpos h37 hF
                    refine And.intro (fun h38 => ?_) (fun h38 => ?_)
                    · have hF := cpos h38 hF
                      refine And.intro (fun h39 => ?_) (fun h39 => ?_)
                      · have hF := cpos h39 hF
                        refine And.intro (fun h40 => ?_) (fun h40 => ?_)
                        · have hF := cpos h40 hF
                          exact Or.inl ⟨rfl, congrArg (Option.map lRuleLater_E) hF⟩
                        · have hF := cneg h40 hF
                          exact Or.inl ⟨rfl, congrArg (Option.map lRuleLater_E) hF⟩
                      · have hF := cneg h39 hF
                        exact Or.inl ⟨rfl, congrArg (Option.map lRuleLater_E) hF⟩
                    · have hF := cneg h38 hF
                      exact Or.inl ⟨rfl, congrArg (Option.map lRuleLater_E) hF⟩
                  · have hF := cneg h37 hF
                    exact Or.inl ⟨rfl, congrArg (Option.map lRuleLater_E) hF⟩
abbrev lRuleLater_S (r_ : Rule) (a : Dating) (b : Dating) (more : Int) : Option (Bool) := lRuleLater_F r_ a b more
theorem lRuleLater_h {r_ : Rule} {a : Dating} {b : Dating} {more : Int} {r : Bool} (h : lRuleLater_S r_ a b more = some r) : Holds Tryz.prog Gw 4 [.agg (cRule r_), .agg (cDating a), .agg (cDating b), .v (.int .u8 more)] (lRuleLater_E r) := lRuleLater_Fh  h
abbrev lRuleEnds_E (y : Bool) : CV := B y
def lRuleEnds_F (l : List Rule) (id : Int) (end_ : Int) (s : Str) (day : Int) : Option (Bool) := Option.bind (lawake_S) fun y1 => bif (!y1) then some (false) else (Option.bind (xFew_S l) fun y4 => bif (!y4) then some (true) else (bif decide ((s.length : Int) > 100) then some (true) else (Option.bind (qEnd_S l id end_) fun y8 => bif (y8.2 != 0) then some ((((y8.1.map cRule).length : Int) == 0)) else (Option.bind (qCheck_S y8.1) fun y11 => bif (y11.2 != 0) then some (false) else (bif (((y8.1.map cRule).length : Int) != ((l.map cRule).length : Int)) then some (false) else (Option.bind (qApply_S l s day) fun y15 => Option.bind (qApply_S y8.1 s day) fun y17 => bif decide (day < end_) then (Option.bind (slEqual_S y15 y17) fun y20 => some (y20)) else (Option.bind (slContainsI_S y17 id) fun y22 => some ((!y22)))))))))
set_option linter.unusedVariables false in
theorem lRuleEnds_Fh {l : List Rule} {id : Int} {end_ : Int} {s : Str} {day : Int} {r : Bool} (hF : lRuleEnds_F l id end_ s day = some r) : Holds Tryz.prog Gw 8 [.sl 8 (l.map cRule), I id, I end_, S s, I day] (lRuleEnds_E r) := by
  refine holds_of_wq tabOk mixed Tryz.func8 (by decide) rfl (Nat.le_of_ble_eq_true rfl) ?_
  refine obind hF fun y1 h2 hF => ?_
  refine Or.inl ⟨_, lawake_h h2, rfl, ?_⟩
  refine And.intro (fun h3 => ?_) (fun h3 => ?_)
  · have hF := cpos h3 hF
    exact Or.inl ⟨rfl, congrArg (Option.map lRuleEnds_E) hF⟩
  · have hF := cneg h3 hF
    refine obind hF fun y4 h5 hF => ?_
    refine Or.inl ⟨_, xFew_h h5, rfl, ?_⟩
    refine And.intro (fun h6 => ?_) (fun h6 => ?_)
    · have hF := cpos h6 hF
      exact Or.inl ⟨rfl, congrArg (Option.map lRuleEnds_E) hF⟩
    · have hF := cneg h6 hF
      refine And.intro (fun h7 => ?_) (fun h7 => ?_)
      · have hF := cpos h7 hF
        exact Or.inl ⟨rfl, congrArg (Option.map lRuleEnds_E) hF⟩
      · have hF := cneg h7 hF
        refine obind hF fun y8 h9 hF => ?_
        refine Or.inl ⟨_, qEnd_h h9, rfl, ?_⟩
        refine And.intro (fun h10 => ?_) (fun h10 => ?_)
        · have hF := cpos h10 hF
          exact Or.inl ⟨rfl, congrArg (Option.map lRuleEnds_E) hF⟩
        · have hF := cneg h10 hF
          refine obind hF fun y11 h12 hF => ?_
          refine Or.inl ⟨_, qCheck_h h12, rfl, ?_⟩
          refine And.intro (fun h13 => ?_) (fun h13 => ?_)
          · have hF := cpos h13 hF
            exact Or.inl ⟨rfl, congrArg (Option.map lRuleEnds_E) hF⟩
          · have hF := cneg h13 hF
            refine And.intro (fun h14 => ?_) (fun h14 => ?_)
            · have hF := cpos h14 hF
              exact Or.inl ⟨rfl, congrArg (Option.map lRuleEnds_E) hF⟩
            · have hF := cneg h14 hF
              refine obind hF fun y15 h16 hF => ?_
              refine Or.inl ⟨_, qApply_h h16, rfl, ?_⟩
              refine obind hF fun y17 h18 hF => ?_
              refine Or.inl ⟨_, qApply_h h18, rfl, ?_⟩
              refine And.intro (fun h19 => ?_) (fun h19 => ?_)
              · have hF := cpos h19 hF
                refine obind hF fun y20 h21 hF => ?_
                refine Or.inl ⟨_, slEqual_h h21, rfl, ?_⟩
                exact Or.inl ⟨rfl, congrArg (Option.map lRuleEnds_E) hF⟩
              · have hF := cneg h19 hF
                refine obind hF fun y22 h23 hF => ?_
                refine Or.inl ⟨_, slContainsI_h h23, rfl, ?_⟩
                exact Or.inl ⟨rfl, congrArg (Option.map lRuleEnds_E) hF⟩
abbrev lRuleEnds_S (l : List Rule) (id : Int) (end_ : Int) (s : Str) (day : Int) : Option (Bool) := lRuleEnds_F l id end_ s day
theorem lRuleEnds_h {l : List Rule} {id : Int} {end_ : Int} {s : Str} {day : Int} {r : Bool} (h : lRuleEnds_S l id end_ s day = some r) : Holds Tryz.prog Gw 8 [.sl 8 (l.map cRule), I id, I end_, S s, I day] (lRuleEnds_E r) := lRuleEnds_Fh  h
abbrev lRuleLongest_E (y : Bool) : CV := B y
def lRuleLongest_L2 (l : List Rule) (s : Str) (day : Int) (y11 : List Int) (v13 : Str) : Nat → Int → Option (Bool)
  | 0, _ => none
  | fu2 + 1, v30 => bif decide (v30 < ((l.map cRule).length : Int)) then (Option.bind (ix l v30) fun x32 => bif decide (x32.In.From ≤ day) then (bif decide (day < x32.In.Until) then (Option.bind (pWithin_S s x32.Class) fun y36 => Option.bind (slContainsI_S y11 x32.ID) fun y38 => bif y38 then (bif (!y36) then some (false) else lRuleLongest_L2 l s day y11 v13 fu2 (IntKind.i64.wrap (v30 + 1))) else (bif y36 then (bif (v13 == ([] : Str)) then some (false) else (Option.bind (pWithin_S x32.Class v13) fun y44 => bif y44 then some (false) else lRuleLongest_L2 l s day y11 v13 fu2 (IntKind.i64.wrap (v30 + 1)))) else lRuleLongest_L2 l s day y11 v13 fu2 (IntKind.i64.wrap (v30 + 1)))) else (Option.bind (slContainsI_S y11 x32.ID) fun y47 => bif y47 then some (false) else lRuleLongest_L2 l s day y11 v13 fu2 (IntKind.i64.wrap (v30 + 1)))) else (Option.bind (slContainsI_S y11 x32.ID) fun y50 => bif y50 then some (false) else lRuleLongest_L2 l s day y11 v13 fu2 (IntKind.i64.wrap (v30 + 1)))) else some (decide (((y11.map cInt).length : Int) ≤ ((l.map cRule).length : Int)))
def lRuleLongest_L1 (l : List Rule) (s : Str) (day : Int) (y11 : List Int) (N : Nat) : Nat → Str → Int → Option (Bool)
  | 0, _, _ => none
  | fu1 + 1, v13, v14 => bif decide (v14 < ((y11.map cInt).length : Int)) then (Option.bind (ix y11 v14) fun x16 => Option.bind (qFind_S l x16) fun y18 => bif decide (y18 < 0) then some (false) else (bif decide (y18 ≥ ((l.map cRule).length : Int)) then some (false) else (bif (!(v13 == ([] : Str))) then (Option.bind (ix l y18) fun x23 => bif (!(x23.Class == v13)) then some (false) else (Option.bind (ix l y18) fun x26 => lRuleLongest_L1 l s day y11 N fu1 x26.Class (IntKind.i64.wrap (v14 + 1)))) else (Option.bind (ix l y18) fun x28 => lRuleLongest_L1 l s day y11 N fu1 x28.Class (IntKind.i64.wrap (v14 + 1)))))) else lRuleLongest_L2 l s day y11 v13 N 0
def lRuleLongest_F (N : Nat) (l : List Rule) (s : Str) (day : Int) : Option (Bool) := Option.bind (lawake_S) fun y1 => bif (!y1) then some (false) else (Option.bind (qCheck_S l) fun y4 => Option.bind (xFew_S l) fun y6 => bif (!y6) then some (true) else (bif (y4.2 != 0) then some (true) else (bif decide ((s.length : Int) > 100) then some (true) else (Option.bind (qApply_S l s day) fun y11 => lRuleLongest_L1 l s day y11 N N ([] : Str) 0))))
set_option linter.unusedVariables false in
theorem lRuleLongest_Fh {N : Nat} {l : List Rule} {s : Str} {day : Int} {r : Bool} (hF : lRuleLongest_F N l s day = some r) : Holds Tryz.prog Gw 6 [.sl 8 (l.map cRule), S s, I day] (lRuleLongest_E r) := by
  refine holds_of_wq tabOk mixed Tryz.func6 (by decide) rfl (Nat.le_of_ble_eq_true rfl) ?_
  refine obind hF fun y1 h2 hF => ?_
  refine Or.inl ⟨_, lawake_h h2, rfl, ?_⟩
  refine And.intro (fun h3 => ?_) (fun h3 => ?_)
  · have hF := cpos h3 hF
    exact Or.inl ⟨rfl, congrArg (Option.map lRuleLongest_E) hF⟩
  · have hF := cneg h3 hF
    refine obind hF fun y4 h5 hF => ?_
    refine Or.inl ⟨_, qCheck_h h5, rfl, ?_⟩
    refine obind hF fun y6 h7 hF => ?_
    refine Or.inl ⟨_, xFew_h h7, rfl, ?_⟩
    refine And.intro (fun h8 => ?_) (fun h8 => ?_)
    · have hF := cpos h8 hF
      exact Or.inl ⟨rfl, congrArg (Option.map lRuleLongest_E) hF⟩
    · have hF := cneg h8 hF
      refine And.intro (fun h9 => ?_) (fun h9 => ?_)
      · have hF := cpos h9 hF
        exact Or.inl ⟨rfl, congrArg (Option.map lRuleLongest_E) hF⟩
      · have hF := cneg h9 hF
        refine And.intro (fun h10 => ?_) (fun h10 => ?_)
        · have hF := cpos h10 hF
          exact Or.inl ⟨rfl, congrArg (Option.map lRuleLongest_E) hF⟩
        · have hF := cneg h10 hF
          refine obind hF fun y11 h12 hF => ?_
          refine Or.inl ⟨_, qApply_h h12, rfl, ?_⟩
          refine loop_oq (fun p : Nat × Str × Int => [(0, .c (.sl 8 (l.map cRule))), (1, .c (S s)), (2, .c (I day)), (9, .c (.sl 1 (y11.map cInt))), (10, .c (S p.2.1)), (40, .c (.sl 1 (y11.map cInt))), (41, .c (I ((y11.map cInt).length : Int))), (42, .c (I p.2.2))]) (fun _ => []) (fun p => lRuleLongest_L1 l s day y11 N p.1 p.2.1 p.2.2 = some r) (fun p => p.1) (N, ([] : Str), 0) hF ⟨rfl, rfl, rfl, rfl, rfl, rfl, rfl, rfl, trivial⟩ trivial ?_
          rintro ⟨fu1, v13, v14⟩ hF
          cases fu1 with
          | zero => exact nomatch hF
          | succ fu1 =>
            refine join_no ?_
            refine And.intro (fun h15 => ?_) (fun h15 => ?_)
            · have hF := cpos h15 hF
              refine join_no ?_
              refine obind hF fun x16 h17 hF => ?_
              refine ⟨ix_nn h17, .inl rfl, _, ix_map cInt h17, ?_⟩
              refine obind hF fun y18 h19 hF => ?_
              refine Or.inl ⟨_, qFind_h h19, rfl, ?_⟩
              refine And.intro (fun h20 => ?_) (fun h20 => ?_)
              · have hF := cpos h20 hF
                exact Or.inl ⟨rfl, congrArg (Option.map lRuleLongest_E) hF⟩
              · have hF := cneg h20 hF
                refine And.intro (fun h21 => ?_) (fun h21 => ?_)
                · have hF := cpos h21 hF
                  exact Or.inl ⟨rfl, congrArg (Option.map lRuleLongest_E) hF⟩
                · have hF := cneg h21 hF
                  refine And.intro (fun h22 => ?_) (fun h22 => ?_)
                  · have hF := cpos h22 hF
                    refine obind hF fun x23 h24 hF => ?_
                    refine ⟨ix_nn h24, .inl rfl, _, ix_map cRule h24, ?_⟩
                    refine And.intro (fun h25 => ?_) (fun h25 => ?_)
                    · have hF := cpos h25 hF
                      exact Or.inl ⟨rfl, congrArg (Option.map lRuleLongest_E) hF⟩
                    · have hF := cneg h25 hF
                      refine obind hF fun x26 h27 hF => ?_
                      refine ⟨ix_nn h27, .inl rfl, _, ix_map cRule h27, ?_⟩
                      exact ⟨(fu1, x26.Class, (IntKind.i64.wrap (v14 + 1))), Nat.lt_succ_self _, hF, ⟨rfl, rfl, rfl, rfl, rfl, rfl, rfl, rfl, trivial⟩, trivial⟩
                  · have hF := cneg h22 hF
                    refine obind hF fun x28 h29 hF => ?_
                    refine ⟨ix_nn h29, .inl rfl, _, ix_map cRule h29, ?_⟩
                    exact ⟨(fu1, x28.Class, (IntKind.i64.wrap (v14 + 1))), Nat.lt_succ_self _, hF, ⟨rfl, rfl, rfl, rfl, rfl, rfl, rfl, rfl, trivial⟩, trivial⟩
            · have hF := cneg h15 hF
              refine loop_oq (fun p : Nat × Int => [(0, .c (.sl 8 (l.map cRule))), (1, .c (S s)), (2, .c (I day)), (9, .c (.sl 1 (y11.map cInt))), (10, .c (S v13)), (76, .c (.sl 8 (l.map cRule))), (77, .c (I ((l.map cRule).length : Int))), (78, .c (I p.2))]) (fun _ => []) (fun p => lRuleLongest_L2 l s day y11 v13 p.1 p.2 = some r) (fun p => p.1) (N, 0) hF ⟨rfl, rfl, rfl, rfl, rfl, rfl, rfl, rfl, trivial⟩ trivial ?_
              rintro ⟨fu2, v30⟩ hF
              cases fu2 with
              | zero => exact nomatch hF
              | succ fu2 =>
                refine join_no ?_
                refine And.intro (fun h31 => ?_) (fun h31 => ?_)
                · have hF := cpos h31 hF
                  refine join_no ?_
                  refine obind hF fun x32 h33 hF => ?_
                  refine ⟨ix_nn h33, .inl rfl, _, ix_map cRule h33, ?_⟩
                  refine Or.inl ?_
                  refine And.intro (fun h34 => ?_) (fun h34 => ?_)
                  · have hF := cpos h34 hF
                    refine And.intro (fun h35 => ?_) (fun h35 => ?_)
                    · have hF := cpos h35 hF
                      refine obind hF fun y36 h37 hF => ?_
                      refine Or.inl ⟨_, pWithin_h h37, rfl, ?_⟩
                      refine obind hF fun y38 h39 hF => ?_
                      refine Or.inl ⟨_, slContainsI_h h39, rfl, ?_⟩
                      refine And.intro (fun h40 => ?_) (fun h40 => ?_)
                      · have hF := cpos h40 hF
                        refine And.intro (fun h41 => ?_) (fun h41 => ?_)
                        · have hF := cpos h41 hF
                          exact Or.inl ⟨rfl, congrArg (Option.map lRuleLongest_E) hF⟩
                        · have hF := cneg h41 hF
                          exact ⟨(fu2, (IntKind.i64.wrap (v30 + 1))), Nat.lt_succ_self _, hF, ⟨rfl, rfl, rfl, rfl, rfl, rfl, rfl, rfl, trivial⟩, trivial⟩
                      · have hF := cneg h40 hF
                        refine And.intro (fun h42 => ?_) (fun h42 => ?_)
                        · have hF := cpos h42 hF
                          refine And.intro (fun h43 => ?_) (fun h43 => ?_)
                          · have hF := cpos h43 hF
                            exact Or.inl ⟨rfl, congrArg (Option.map lRuleLongest_E) hF⟩
                          · have hF := cneg h43 hF
                            refine obind hF fun y44 h45 hF => ?_
                            refine Or.inl ⟨_, pWithin_h h45, rfl, ?_⟩
                            refine And.intro (fun h46 => ?_) (fun h46 => ?_)
                            · have hF := cpos h46 hF
                              exact Or.inl ⟨rfl, congrArg (Option.map lRuleLongest_E) hF⟩
                            · have hF := cneg h46 hF
                              exact ⟨(fu2, (IntKind.i64.wrap (v30 + 1))), Nat.lt_succ_self _, hF, ⟨rfl, rfl, rfl, rfl, rfl, rfl, rfl, rfl, trivial⟩, trivial⟩
                        · have hF := cneg h42 hF
                          exact ⟨(fu2, (IntKind.i64.wrap (v30 + 1))), Nat.lt_succ_self _, hF, ⟨rfl, rfl, rfl, rfl, rfl, rfl, rfl, rfl, trivial⟩, trivial⟩
                    · have hF := cneg h35 hF
                      refine obind hF fun y47 h48 hF => ?_
                      refine Or.inl ⟨_, slContainsI_h h48, rfl, ?_⟩
                      refine And.intro (fun h49 => ?_) (fun h49 => ?_)
                      · have hF := cpos h49 hF
                        exact Or.inl ⟨rfl, congrArg (Option.map lRuleLongest_E) hF⟩
                      · have hF := cneg h49 hF
                        exact ⟨(fu2, (IntKind.i64.wrap (v30 + 1))), Nat.lt_succ_self _, hF, ⟨rfl, rfl, rfl, rfl, rfl, rfl, rfl, rfl, trivial⟩, trivial⟩
                  · have hF := cneg h34 hF
                    refine obind hF fun y50 h51 hF => ?_
                    refine Or.inl ⟨_, slContainsI_h h51, rfl, ?_⟩
                    refine And.intro (fun h52 => ?_) (fun h52 => ?_)
                    · have hF := cpos h52 hF
                      exact Or.inl ⟨rfl, congrArg (Option.map lRuleLongest_E) hF⟩
                    · have hF := cneg h52 hF
                      exact ⟨(fu2, (IntKind.i64.wrap (v30 + 1))), Nat.lt_succ_self _, hF, ⟨rfl, rfl, rfl, rfl, rfl, rfl, rfl, rfl, trivial⟩, trivial⟩
                · have hF := cneg h31 hF
                  exact Or.inl ⟨rfl, congrArg (Option.map lRuleLongest_E) hF⟩
abbrev lRuleLongest_S (l : List Rule) (s : Str) (day : Int) : Option (Bool) := lRuleLongest_F (l.length + 1) l s day
theorem lRuleLongest_h {l : List Rule} {s : Str} {day : Int} {r : Bool} (h : lRuleLongest_S l s day = some r) : Holds Tryz.prog Gw 6 [.sl 8 (l.map cRule), S s, I day] (lRuleLongest_E r) := lRuleLongest_Fh  h
abbrev lRuleBack_E (y : Bool) : CV := B y
def lRuleBack_F (l : List Rule) (text : Str) : Option (Bool) := Option.bind (lawake_S) fun y1 => bif (!y1) then some (false) else (Option.bind (xFew_S l) fun y4 => bif (!y4) then some (true) else (bif decide ((text.length : Int) > 1500) then some (true) else (Option.bind (qPrint_S l) fun y8 => bif (y8.2 == 0) then (Option.bind (qParse_S y8.1) fun y11 => bif (y11.2.2 != 0) then some (false) else (bif (y11.2.1 != (-1)) then some (false) else (Option.bind (slEqualR_S y11.1 l) fun y15 => bif (!y15) then some (false) else (Option.bind (qParse_S text) fun y18 => bif (y18.2.2 != 0) then some ((((y18.1.map cRule).length : Int) == 0)) else (Option.bind (qPrint_S y18.1) fun y21 => Option.bind (qCheck_S y18.1) fun y23 => bif (y21.2 == 0) then (bif (y23.2 == 0) then some ((y21.1 == text)) else some (false)) else some (false)))))) else (bif (!(y8.1 == ([] : Str))) then some (false) else (Option.bind (qParse_S text) fun y28 => bif (y28.2.2 != 0) then some ((((y28.1.map cRule).length : Int) == 0)) else (Option.bind (qPrint_S y28.1) fun y31 => Option.bind (qCheck_S y28.1) fun y33 => bif (y31.2 == 0) then (bif (y33.2 == 0) then some ((y31.1 == text)) else some (false)) else some (false)))))))
set_option linter.unusedVariables false in
theorem lRuleBack_Fh {l : List Rule} {text : Str} {r : Bool} (hF : lRuleBack_F l text = some r) : Holds Tryz.prog Gw 3 [.sl 8 (l.map cRule), S text] (lRuleBack_E r) := by
  refine holds_of_wq tabOk mixed Tryz.func3 (by decide) rfl (Nat.le_of_ble_eq_true rfl) ?_
  refine obind hF fun y1 h2 hF => ?_
  refine Or.inl ⟨_, lawake_h h2, rfl, ?_⟩
  refine And.intro (fun h3 => ?_) (fun h3 => ?_)
  · have hF := cpos h3 hF
    exact Or.inl ⟨rfl, congrArg (Option.map lRuleBack_E) hF⟩
  · have hF := cneg h3 hF
    refine obind hF fun y4 h5 hF => ?_
    refine Or.inl ⟨_, xFew_h h5, rfl, ?_⟩
    refine And.intro (fun h6 => ?_) (fun h6 => ?_)
    · have hF := cpos h6 hF
      exact Or.inl ⟨rfl, congrArg (Option.map lRuleBack_E) hF⟩
    · have hF := cneg h6 hF
      refine And.intro (fun h7 => ?_) (fun h7 => ?_)
      · have hF := cpos h7 hF
        exact Or.inl ⟨rfl, congrArg (Option.map lRuleBack_E) hF⟩
      · have hF := cneg h7 hF
        refine obind hF fun y8 h9 hF => ?_
        refine Or.inl ⟨_, qPrint_h h9, rfl, ?_⟩
        refine And.intro (fun h10 => ?_) (fun h10 => ?_)
        · have hF := cpos h10 hF
          refine obind hF fun y11 h12 hF => ?_
          refine Or.inl ⟨_, qParse_h h12, rfl, ?_⟩
          refine And.intro (fun h13 => ?_) (fun h13 => ?_)
          · have hF := cpos h13 hF
            exact Or.inl ⟨rfl, congrArg (Option.map lRuleBack_E) hF⟩
          · have hF := cneg h13 hF
            refine And.intro (fun h14 => ?_) (fun h14 => ?_)
            · have hF := cpos h14 hF
              exact Or.inl ⟨rfl, congrArg (Option.map lRuleBack_E) hF⟩
            · have hF := cneg h14 hF
              refine obind hF fun y15 h16 hF => ?_
              refine Or.inl ⟨_, slEqualR_h h16, rfl, ?_⟩
              refine And.intro (fun h17 => ?_) (fun h17 => ?_)
              · have hF := cpos h17 hF
                exact Or.inl ⟨rfl, congrArg (Option.map lRuleBack_E) hF⟩
              · have hF := cneg h17 hF
                refine obind hF fun y18 h19 hF => ?_
                refine Or.inl ⟨_, qParse_h h19, rfl, ?_⟩
                refine And.intro (fun h20 => ?_) (fun h20 => ?_)
                · have hF := cpos h20 hF
                  exact Or.inl ⟨rfl, congrArg (Option.map lRuleBack_E) hF⟩
                · have hF := cneg h20 hF
                  refine obind hF fun y21 h22 hF => ?_
                  refine Or.inl ⟨_, qPrint_h h22, rfl, ?_⟩
                  refine obind hF fun y23 h24 hF => ?_
                  refine Or.inl ⟨_, qCheck_h h24, rfl, ?_⟩
                  refine And.intro (fun h25 => ?_) (fun h25 => ?_)
                  · have hF := cpos h25 hF
                    refine And.intro (fun h26 => ?_) (fun h26 => ?_)
                    · have hF := cpos h26 hF
                      exact Or.inl ⟨rfl, congrArg (Option.map lRuleBack_E) hF⟩
                    · have hF := cneg h26 hF
                      exact Or.inl ⟨rfl, congrArg (Option.map lRuleBack_E) hF⟩
                  · have hF := cneg h25 hF
                    exact Or.inl ⟨rfl, congrArg (Option.map lRuleBack_E) hF⟩
        · have hF := cneg h10 hF
          refine And.intro (fun h27 => ?_) (fun h27 => ?_)
          · have hF := cpos h27 hF
            exact Or.inl ⟨rfl, congrArg (Option.map lRuleBack_E) hF⟩
          · have hF := cneg h27 hF
            refine obind hF fun y28 h29 hF => ?_
            refine Or.inl ⟨_, qParse_h h29, rfl, ?_⟩
            refine And.intro (fun h30 => ?_) (fun h30 => ?_)
            · have hF := cpos h30 hF
              exact Or.inl ⟨rfl, congrArg (Option.map lRuleBack_E) hF⟩
            · have hF := cneg h30 hF
              refine obind hF fun y31 h32 hF => ?_
              refine Or.inl ⟨_, qPrint_h h32, rfl, ?_⟩
              refine obind hF fun y33 h34 hF => ?_
              refine Or.inl ⟨_, qCheck_h h34, rfl, ?_⟩
              refine And.intro (fun h35 => ?_) (fun h35 => ?_)
              · have hF := cpos h35 hF
                refine And.intro (fun h36 => ?_) (fun h36 => ?_)
                · have hF := cpos h36 hF
                  exact Or.inl ⟨rfl, congrArg (Option.map lRuleBack_E) hF⟩
                · have hF := cneg h36 hF
                  exact Or.inl ⟨rfl, congrArg (Option.map lRuleBack_E) hF⟩
              · have hF := cneg h35 hF
                exact Or.inl ⟨rfl, congrArg (Option.map lRuleBack_E) hF⟩
abbrev lRuleBack_S (l : List Rule) (text : Str) : Option (Bool) := lRuleBack_F l text
theorem lRuleBack_h {l : List Rule} {text : Str} {r : Bool} (h : lRuleBack_S l text = some r) : Holds Tryz.prog Gw 3 [.sl 8 (l.map cRule), S text] (lRuleBack_E r) := lRuleBack_Fh  h
end Go.Proofs.YtjoacimgcepjdaaGreatDoor
