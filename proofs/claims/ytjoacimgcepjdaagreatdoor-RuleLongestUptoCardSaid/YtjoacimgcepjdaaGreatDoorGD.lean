/- Functions of the program as functions of Lean, each with its contract (printed by a program). -/
import Derived.Test.YtjoacimgcepjdaaGreatDoorGC
namespace Go.Proofs.YtjoacimgcepjdaaGreatDoor
open Go Go.Abs
set_option maxRecDepth 10000
set_option maxHeartbeats 400000
abbrev xquoted_E (y : Bool) : CV := B y
def xquoted_L1 (s : Str) : Nat → Int → Option (Bool)
  | 0, _ => none
  | fu1 + 1, i1 => bif decide (i1 < (s.length : Int)) then (Option.bind (ix s i1) fun b3 => bif ((b3.toNat : Int) == 34) then some (true) else xquoted_L1 s fu1 (IntKind.i64.wrap (i1 + 1))) else some (false)
def xquoted_F (N : Nat) (s : Str) : Option (Bool) := xquoted_L1 s N 0
set_option linter.unusedVariables false in
theorem xquoted_Fh {N : Nat} {s : Str} {r : Bool} (hF : xquoted_F N s = some r) : Holds Tryz.prog Gw 74 [S s] (xquoted_E r) := by
  refine holds_of_wq tabOk mixed Tryz.func74 (by decide) rfl (Nat.le_of_ble_eq_true rfl) ?_
  refine loop_oq (fun p : Nat × Int => [(0, .c (S s)), (3, .c (I p.2))]) (fun _ => []) (fun p => xquoted_L1 s p.1 p.2 = some r) (fun p => p.1) (N, 0) hF ⟨rfl, rfl, trivial⟩ trivial ?_
  rintro ⟨fu1, i1⟩ hF
  cases fu1 with
  | zero => exact nomatch hF
  | succ fu1 =>
    refine And.intro (fun h2 => ?_) (fun h2 => ?_)
    · have hF := cpos h2 hF
      refine join_no ?_
      refine Or.inl ?_
      refine obind hF fun b3 h4 hF => ?_
      refine ⟨ix_nn h4, _, ix_str h4, ?_⟩
      refine And.intro (fun h5 => ?_) (fun h5 => ?_)
      · have hF := cpos h5 hF
        exact Or.inl ⟨rfl, congrArg (Option.map xquoted_E) hF⟩
      · have hF := cneg h5 hF
        exact ⟨(fu1, (IntKind.i64.wrap (i1 + 1))), Nat.lt_succ_self _, hF, ⟨rfl, rfl, trivial⟩, trivial⟩
    · have hF := cneg h2 hF
      exact Or.inl ⟨rfl, congrArg (Option.map xquoted_E) hF⟩
abbrev xquoted_S (s : Str) : Option (Bool) := xquoted_F (s.length + 1) s
theorem xquoted_h {s : Str} {r : Bool} (h : xquoted_S s = some r) : Holds Tryz.prog Gw 74 [S s] (xquoted_E r) := xquoted_Fh  h
abbrev xfault_E (y : Int) : CV := I y
def xfault_F (r_ : Rule) : Option (Int) := bif decide (r_.ID < 1) then some (2) else (bif decide (r_.ID > 1073741824) then some (2) else (bif decide (r_.Years < 0) then some (2) else (bif decide (r_.Years > 200) then some (2) else (bif decide (r_.Action < 1) then some (2) else (bif decide (r_.Action > 3) then some (2) else (Option.bind (gGood_S r_.In) fun y7 => bif (!y7) then some (2) else some (0)))))))
set_option linter.unusedVariables false in
theorem xfault_Fh {r_ : Rule} {r : Int} (hF : xfault_F r_ = some r) : Holds Tryz.prog Gw 39 [.agg (cRule r_)] (xfault_E r) := by
  refine holds_of_wq tabOk mixed Tryz.func39 (by decide) rfl (Nat.le_of_ble_eq_true rfl) ?_
  refine Or.inl ?_
  refine And.intro (fun h1 => ?_) (fun h1 => ?_)
  · have hF := cpos h1 hF
    exact Or.inl ⟨rfl, congrArg (Option.map xfault_E) hF⟩
  · have hF := cneg h1 hF
    refine And.intro (fun h2 => ?_) (fun h2 => ?_)
    · have hF := cpos h2 hF
      exact Or.inl ⟨rfl, congrArg (Option.map xfault_E) hF⟩
    · have hF := cneg h2 hF
      refine And.intro (fun h3 => ?_) (fun h3 => ?_)
      · have hF := cpos h3 hF
        exact Or.inl ⟨rfl, congrArg (Option.map xfault_E) hF⟩
      · have hF := cneg h3 hF
        refine And.intro (fun h4 => ?_) (fun h4 => ?_)
        · have hF := cpos h4 hF
          exact Or.inl ⟨rfl, congrArg (Option.map xfault_E) hF⟩
        · have hF := cneg h4 hF
          refine And.intro (fun h5 => ?_) (fun h5 => ?_)
          · have hF := cpos h5 hF
            exact Or.inl ⟨rfl, congrArg (Option.map xfault_E) hF⟩
          · have hF := cneg h5 hF
            refine And.intro (fun h6 => ?_) (fun h6 => ?_)
            · have hF := cpos h6 hF
              exact Or.inl ⟨rfl, congrArg (Option.map xfault_E) hF⟩
            · have hF := cneg h6 hF
              refine obind hF fun y7 h8 hF => ?_
              refine Or.inl ⟨_, gGood_h h8, rfl, ?_⟩
              refine And.intro (fun h9 => ?_) (fun h9 => ?_)
              · have hF := cpos h9 hF
                exact Or.inl ⟨rfl, congrArg (Option.map xfault_E) hF⟩
              · have hF := cneg h9 hF
                exact Or.inl ⟨rfl, congrArg (Option.map xfault_E) hF⟩
abbrev xfault_S (r_ : Rule) : Option (Int) := xfault_F r_
theorem xfault_h {r_ : Rule} {r : Int} (h : xfault_S r_ = some r) : Holds Tryz.prog Gw 39 [.agg (cRule r_)] (xfault_E r) := xfault_Fh  h
abbrev xrest_E (y : Int) : CV := I y
def xrest_F (r_ : Rule) : Option (Int) := Option.bind (rGood_S r_.Class) fun y1 => bif (!y1) then some (3) else (Option.bind (rName_S r_.Trigger) fun y4 => bif (!y4) then some (4) else (Option.bind (xquoted_S r_.Trigger) fun y7 => bif y7 then some (4) else (bif (r_.Action == 3) then (bif (!(r_.Trigger == ([111, 112, 101, 110, 101, 100] : Str))) then some (1) else (bif (r_.Years != 0) then some (1) else (bif r_.YearEnd then some (1) else some (0)))) else some (0))))
set_option linter.unusedVariables false in
theorem xrest_Fh {r_ : Rule} {r : Int} (hF : xrest_F r_ = some r) : Holds Tryz.prog Gw 40 [.agg (cRule r_)] (xrest_E r) := by
  refine holds_of_wq tabOk mixed Tryz.func40 (by decide) rfl (Nat.le_of_ble_eq_true rfl) ?_
  refine Or.inl ?_
  refine obind hF fun y1 h2 hF => ?_
  refine Or.inl ⟨_, rGood_h h2, rfl, ?_⟩
  refine And.intro (fun h3 => ?_) (fun h3 => ?_)
  · have hF := cpos h3 hF
    exact Or.inl ⟨rfl, congrArg (Option.map xrest_E) hF⟩
  · have hF := cneg h3 hF
    refine obind hF fun y4 h5 hF => ?_
    refine Or.inl ⟨_, rName_h h5, rfl, ?_⟩
    refine And.intro (fun h6 => ?_) (fun h6 => ?_)
    · have hF := cpos h6 hF
      exact Or.inl ⟨rfl, congrArg (Option.map xrest_E) hF⟩
    · have hF := cneg h6 hF
      refine obind hF fun y7 h8 hF => ?_
      refine Or.inl ⟨_, xquoted_h h8, rfl, ?_⟩
      refine And.intro (fun h9 => ?_) (fun h9 => ?_)
      · have hF := cpos h9 hF
        exact Or.inl ⟨rfl, congrArg (Option.map xrest_E) hF⟩
      · have hF := cneg h9 hF
        refine And.intro (fun h10 => ?_) (fun h10 => ?_)
        · have hF := cpos h10 hF
          refine And.intro (fun h11 => ?_) (fun h11 => ?_)
          · have hF := cpos h11 hF
            exact Or.inl ⟨rfl, congrArg (Option.map xrest_E) hF⟩
          · have hF := cneg h11 hF
            refine And.intro (fun h12 => ?_) (fun h12 => ?_)
            · have hF := cpos h12 hF
              exact Or.inl ⟨rfl, congrArg (Option.map xrest_E) hF⟩
            · have hF := cneg h12 hF
              refine And.intro (fun h13 => ?_) (fun h13 => ?_)
              · have hF := cpos h13 hF
                exact Or.inl ⟨rfl, congrArg (Option.map xrest_E) hF⟩
              · have hF := cneg h13 hF
                exact Or.inl ⟨rfl, congrArg (Option.map xrest_E) hF⟩
        · have hF := cneg h10 hF
          exact Or.inl ⟨rfl, congrArg (Option.map xrest_E) hF⟩
abbrev xrest_S (r_ : Rule) : Option (Int) := xrest_F r_
theorem xrest_h {r_ : Rule} {r : Int} (h : xrest_S r_ = some r) : Holds Tryz.prog Gw 40 [.agg (cRule r_)] (xrest_E r) := xrest_Fh  h
abbrev xCheck_E (y : Int × Int) : CV := .tup [I y.1, I y.2]
def xCheck_L1 (l : List Rule) : Nat → Int → Option (Int × Int)
  | 0, _ => none
  | fu1 + 1, i2 => bif decide (i2 < ((l.map cRule).length : Int)) then (Option.bind (ix l i2) fun x4 => Option.bind (xfault_S x4) fun y6 => bif (y6 == 0) then (bif decide (i2 > 0) then (Option.bind (ix l i2) fun x10 => Option.bind (ix l (IntKind.i64.wrap (i2 - 1))) fun x12 => bif decide (x10.ID ≤ x12.ID) then some (i2, 5) else (bif (y6 == 0) then (Option.bind (ix l i2) fun x18 => Option.bind (xrest_S x18) fun y20 => bif (y20 != 0) then some (i2, y20) else xCheck_L1 l fu1 (IntKind.i64.wrap (i2 + 1))) else (bif (y6 != 0) then some (i2, y6) else xCheck_L1 l fu1 (IntKind.i64.wrap (i2 + 1))))) else (bif (y6 == 0) then (Option.bind (ix l i2) fun x25 => Option.bind (xrest_S x25) fun y27 => bif (y27 != 0) then some (i2, y27) else xCheck_L1 l fu1 (IntKind.i64.wrap (i2 + 1))) else (bif (y6 != 0) then some (i2, y6) else xCheck_L1 l fu1 (IntKind.i64.wrap (i2 + 1))))) else (bif (y6 == 0) then (Option.bind (ix l i2) fun x32 => Option.bind (xrest_S x32) fun y34 => bif (y34 != 0) then some (i2, y34) else xCheck_L1 l fu1 (IntKind.i64.wrap (i2 + 1))) else (bif (y6 != 0) then some (i2, y6) else xCheck_L1 l fu1 (IntKind.i64.wrap (i2 + 1))))) else some ((-1), 0)
def xCheck_F (N : Nat) (l : List Rule) : Option (Int × Int) := bif decide (((l.map cRule).length : Int) > 64) then some ((-1), 8) else xCheck_L1 l N 0
set_option linter.unusedVariables false in
theorem xCheck_Fh {N : Nat} {l : List Rule} {r : Int × Int} (hF : xCheck_F N l = some r) : Holds Tryz.prog Gw 16 [.sl 8 (l.map cRule)] (xCheck_E r) := by
  refine holds_of_wq tabOk mixed Tryz.func16 (by decide) rfl (Nat.le_of_ble_eq_true rfl) ?_
  refine And.intro (fun h1 => ?_) (fun h1 => ?_)
  · have hF := cpos h1 hF
    exact Or.inl ⟨rfl, congrArg (Option.map xCheck_E) hF⟩
  · have hF := cneg h1 hF
    refine loop_oq (fun p : Nat × Int => [(0, .c (.sl 8 (l.map cRule))), (4, .c (I p.2))]) (fun _ => []) (fun p => xCheck_L1 l p.1 p.2 = some r) (fun p => p.1) (N, 0) hF ⟨rfl, rfl, trivial⟩ trivial ?_
    rintro ⟨fu1, i2⟩ hF
    cases fu1 with
    | zero => exact nomatch hF
    | succ fu1 =>
      refine And.intro (fun h3 => ?_) (fun h3 => ?_)
      · have hF := cpos h3 hF
        refine join_no ?_
        refine obind hF fun x4 h5 hF => ?_
        refine ⟨ix_nn h5, .inl rfl, _, ix_map cRule h5, ?_⟩
        refine obind hF fun y6 h7 hF => ?_
        refine Or.inl ⟨_, xfault_h h7, rfl, ?_⟩
        refine And.intro (fun h8 => ?_) (fun h8 => ?_)
        · have hF := cpos h8 hF
          refine And.intro (fun h9 => ?_) (fun h9 => ?_)
          · have hF := cpos h9 hF
            refine obind hF fun x10 h11 hF => ?_
            refine ⟨ix_nn h11, .inl rfl, _, ix_map cRule h11, ?_⟩
            refine obind hF fun x12 h13 hF => ?_
            refine ⟨ix_nn h13, .inl rfl, _, ix_map cRule h13, ?_⟩
            refine And.intro (by kernel_rfl) ?_
            refine And.intro (fun h14 => ?_) (fun h14 => ?_)
            · have hF := cpos h14 hF
              refine And.intro (fun h15 => ?_) (fun h15 => ?_)
              · exact absurd h15 (by simp)
              · skip
                refine And.intro (fun h16 => ?_) (fun h16 => ?_)
                · skip
                  exact Or.inl ⟨rfl, congrArg (Option.map xCheck_E) hF⟩
                · exact absurd h16 (by simp)
            · have hF := cneg h14 hF
              refine And.intro (fun h17 => ?_) (fun h17 => ?_)
              · have hF := cpos h17 hF
                refine obind hF fun x18 h19 hF => ?_
                refine ⟨ix_nn h19, .inl rfl, _, ix_map cRule h19, ?_⟩
                refine obind hF fun y20 h21 hF => ?_
                refine Or.inl ⟨_, xrest_h h21, rfl, ?_⟩
                refine And.intro (fun h22 => ?_) (fun h22 => ?_)
                · have hF := cpos h22 hF
                  exact Or.inl ⟨rfl, congrArg (Option.map xCheck_E) hF⟩
                · have hF := cneg h22 hF
                  exact ⟨(fu1, (IntKind.i64.wrap (i2 + 1))), Nat.lt_succ_self _, hF, ⟨rfl, rfl, trivial⟩, trivial⟩
              · have hF := cneg h17 hF
                refine And.intro (fun h23 => ?_) (fun h23 => ?_)
                · have hF := cpos h23 hF
                  exact Or.inl ⟨rfl, congrArg (Option.map xCheck_E) hF⟩
                · have hF := cneg h23 hF
                  exact ⟨(fu1, (IntKind.i64.wrap (i2 + 1))), Nat.lt_succ_self _, hF, ⟨rfl, rfl, trivial⟩, trivial⟩
          · have hF := cneg h9 hF
            refine And.intro (by kernel_rfl) ?_
            refine And.intro (fun h24 => ?_) (fun h24 => ?_)
            · have hF := cpos h24 hF
              refine obind hF fun x25 h26 hF => ?_
              refine ⟨ix_nn h26, .inl rfl, _, ix_map cRule h26, ?_⟩
              refine obind hF fun y27 h28 hF => ?_
              refine Or.inl ⟨_, xrest_h h28, rfl, ?_⟩
              refine And.intro (fun h29 => ?_) (fun h29 => ?_)
              · have hF := cpos h29 hF
                exact Or.inl ⟨rfl, congrArg (Option.map xCheck_E) hF⟩
              · have hF := cneg h29 hF
                exact ⟨(fu1, (IntKind.i64.wrap (i2 + 1))), Nat.lt_succ_self _, hF, ⟨rfl, rfl, trivial⟩, trivial⟩
            · have hF := cneg h24 hF
              refine And.intro (fun h30 => ?_) (fun h30 => ?_)
              · have hF := cpos h30 hF
                exact Or.inl ⟨rfl, congrArg (Option.map xCheck_E) hF⟩
              · have hF := cneg h30 hF
                exact ⟨(fu1, (IntKind.i64.wrap (i2 + 1))), Nat.lt_succ_self _, hF, ⟨rfl, rfl, trivial⟩, trivial⟩
        · have hF := cneg h8 hF
          refine And.intro (by kernel_rfl) ?_
          refine And.intro (fun h31 => ?_) (fun h31 => ?_)
          · have hF := cpos h31 hF
            refine obind hF fun x32 h33 hF => ?_
            refine ⟨ix_nn h33, .inl rfl, _, ix_map cRule h33, ?_⟩
            refine obind hF fun y34 h35 hF => ?_
            refine Or.inl ⟨_, xrest_h h35, rfl, ?_⟩
            refine And.intro (fun h36 => ?_) (fun h36 => ?_)
            · have hF := cpos h36 hF
              exact Or.inl ⟨rfl, congrArg (Option.map xCheck_E) hF⟩
            · have hF := cneg h36 hF
              exact ⟨(fu1, (IntKind.i64.wrap (i2 + 1))), Nat.lt_succ_self _, hF, ⟨rfl, rfl, trivial⟩, trivial⟩
          · have hF := cneg h31 hF
            refine And.intro (fun h37 => ?_) (fun h37 => ?_)
            · have hF := cpos h37 hF
              exact Or.inl ⟨rfl, congrArg (Option.map xCheck_E) hF⟩
            · have hF := cneg h37 hF
              exact ⟨(fu1, (IntKind.i64.wrap (i2 + 1))), Nat.lt_succ_self _, hF, ⟨rfl, rfl, trivial⟩, trivial⟩
      · have hF := cneg h3 hF
        exact Or.inl ⟨rfl, congrArg (Option.map xCheck_E) hF⟩
abbrev xCheck_S (l : List Rule) : Option (Int × Int) := xCheck_F (l.length + 1) l
theorem xCheck_h {l : List Rule} {r : Int × Int} (h : xCheck_S l = some r) : Holds Tryz.prog Gw 16 [.sl 8 (l.map cRule)] (xCheck_E r) := xCheck_Fh  h
abbrev xFind_E (y : Int) : CV := I y
def xFind_L1 (l : List Rule) (id : Int) : Nat → Int → Option (Int)
  | 0, _ => none
  | fu1 + 1, i1 => bif decide (i1 < ((l.map cRule).length : Int)) then (Option.bind (ix l i1) fun x3 => bif (x3.ID == id) then some (i1) else xFind_L1 l id fu1 (IntKind.i64.wrap (i1 + 1))) else some ((-1))
def xFind_F (N : Nat) (l : List Rule) (id : Int) : Option (Int) := xFind_L1 l id N 0
set_option linter.unusedVariables false in
theorem xFind_Fh {N : Nat} {l : List Rule} {id : Int} {r : Int} (hF : xFind_F N l id = some r) : Holds Tryz.prog Gw 18 [.sl 8 (l.map cRule), I id] (xFind_E r) := by
  refine holds_of_wq tabOk mixed Tryz.func18 (by decide) rfl (Nat.le_of_ble_eq_true rfl) ?_
  refine loop_oq (fun p : Nat × Int => [(0, .c (.sl 8 (l.map cRule))), (1, .c (I id)), (5, .c (I p.2))]) (fun _ => []) (fun p => xFind_L1 l id p.1 p.2 = some r) (fun p => p.1) (N, 0) hF ⟨rfl, rfl, rfl, trivial⟩ trivial ?_
  rintro ⟨fu1, i1⟩ hF
  cases fu1 with
  | zero => exact nomatch hF
  | succ fu1 =>
    refine And.intro (fun h2 => ?_) (fun h2 => ?_)
    · have hF := cpos h2 hF
      refine join_no ?_
      refine obind hF fun x3 h4 hF => ?_
      refine ⟨ix_nn h4, .inl rfl, _, ix_map cRule h4, ?_⟩
      refine And.intro (fun h5 => ?_) (fun h5 => ?_)
      · have hF := cpos h5 hF
        exact Or.inl ⟨rfl, congrArg (Option.map xFind_E) hF⟩
      · have hF := cneg h5 hF
        exact ⟨(fu1, (IntKind.i64.wrap (i1 + 1))), Nat.lt_succ_self _, hF, ⟨rfl, rfl, rfl, trivial⟩, trivial⟩
    · have hF := cneg h2 hF
      exact Or.inl ⟨rfl, congrArg (Option.map xFind_E) hF⟩
abbrev xFind_S (l : List Rule) (id : Int) : Option (Int) := xFind_F (l.length + 1) l id
theorem xFind_h {l : List Rule} {id : Int} {r : Int} (h : xFind_S l id = some r) : Holds Tryz.prog Gw 18 [.sl 8 (l.map cRule), I id] (xFind_E r) := xFind_Fh  h
abbrev xGood_E (y : Bool) : CV := B y
def xGood_F (l : List Rule) : Option (Bool) := Option.bind (xCheck_S l) fun y1 => some ((y1.2 == 0))
set_option linter.unusedVariables false in
theorem xGood_Fh {l : List Rule} {r : Bool} (hF : xGood_F l = some r) : Holds Tryz.prog Gw 46 [.sl 8 (l.map cRule)] (xGood_E r) := by
  refine holds_of_wq tabOk mixed Tryz.func46 (by decide) rfl (Nat.le_of_ble_eq_true rfl) ?_
  refine obind hF fun y1 h2 hF => ?_
  refine Or.inl ⟨_, xCheck_h h2, rfl, ?_⟩
  exact Or.inl ⟨rfl, congrArg (Option.map xGood_E) hF⟩
abbrev xGood_S (l : List Rule) : Option (Bool) := xGood_F l
theorem xGood_h {l : List Rule} {r : Bool} (h : xGood_S l = some r) : Holds Tryz.prog Gw 46 [.sl 8 (l.map cRule)] (xGood_E r) := xGood_Fh  h
abbrev xDue_E (y : Int × Int) : CV := .tup [I y.1, I y.2]
def xDue_F (r_ : Rule) (trigger : Dating) : Option (Int × Int) := Option.bind (xGood_S ([r_] : List Rule)) fun y1 => bif (!y1) then some (0, 1) else (Option.bind (fGood_S trigger) fun y4 => bif (!y4) then some (0, 1) else (Option.bind (eYears_S trigger.Last r_.Years) fun y7 => bif r_.YearEnd then (Option.bind (eYearEnd_S y7.1) fun y10 => some (y10.1, 0)) else some (y7.1, 0)))
set_option linter.unusedVariables false in
theorem xDue_Fh {r_ : Rule} {trigger : Dating} {r : Int × Int} (hF : xDue_F r_ trigger = some r) : Holds Tryz.prog Gw 22 [.agg (cRule r_), .agg (cDating trigger)] (xDue_E r) := by
  refine holds_of_wq tabOk mixed Tryz.func22 (by decide) rfl (Nat.le_of_ble_eq_true rfl) ?_
  refine Or.inl ?_
  refine Or.inl ?_
  refine Or.inl ?_
  refine obind hF fun y1 h2 hF => ?_
  refine Or.inl ⟨_, xGood_h h2, rfl, ?_⟩
  refine And.intro (fun h3 => ?_) (fun h3 => ?_)
  · have hF := cpos h3 hF
    exact Or.inl ⟨rfl, congrArg (Option.map xDue_E) hF⟩
  · have hF := cneg h3 hF
    refine obind hF fun y4 h5 hF => ?_
    refine Or.inl ⟨_, fGood_h h5, rfl, ?_⟩
    refine And.intro (fun h6 => ?_) (fun h6 => ?_)
    · have hF := cpos h6 hF
      exact Or.inl ⟨rfl, congrArg (Option.map xDue_E) hF⟩
    · have hF := cneg h6 hF
      refine obind hF fun y7 h8 hF => ?_
      refine Or.inl ⟨_, eYears_h h8, rfl, ?_⟩
      refine And.intro (fun h9 => ?_) (fun h9 => ?_)
      · have hF := cpos h9 hF
        refine obind hF fun y10 h11 hF => ?_
        refine Or.inl ⟨_, eYearEnd_h h11, rfl, ?_⟩
        exact Or.inl ⟨rfl, congrArg (Option.map xDue_E) hF⟩
      · have hF := cneg h9 hF
        exact Or.inl ⟨rfl, congrArg (Option.map xDue_E) hF⟩
abbrev xDue_S (r_ : Rule) (trigger : Dating) : Option (Int × Int) := xDue_F r_ trigger
theorem xDue_h {r_ : Rule} {trigger : Dating} {r : Int × Int} (h : xDue_S r_ trigger = some r) : Holds Tryz.prog Gw 22 [.agg (cRule r_), .agg (cDating trigger)] (xDue_E r) := xDue_Fh  h
abbrev xEnd_E (y : List Rule × Int) : CV := .tup [.sl 8 (y.1.map cRule), I y.2]
def xEnd_F (l : List Rule) (id : Int) (day : Int) : Option (List Rule × Int) := Option.bind (xGood_S l) fun y1 => bif (!y1) then some (([] : List Rule), 1) else (Option.bind (xFind_S l id) fun y4 => bif decide (y4 < 0) then some (([] : List Rule), 7) else (Option.bind (ix l y4) fun x7 => bif decide (day ≤ x7.In.From) then some (([] : List Rule), 2) else (Option.bind (ix l y4) fun x10 => bif decide (day > x10.In.Until) then some (([] : List Rule), 2) else (bif decide (([] : List Rule).length + l.length ≤ 4294967296) then Option.bind (ix (([] : List Rule) ++ l) y4) fun x13 => some (((([] : List Rule) ++ l).set (y4).toNat (⟨x13.ID, x13.Class, x13.Trigger, x13.Years, x13.YearEnd, x13.Action, (⟨x13.In.From, day⟩ : Span)⟩ : Rule)), 0) else none))))
set_option linter.unusedVariables false in
theorem xEnd_Fh {l : List Rule} {id : Int} {day : Int} {r : List Rule × Int} (hF : xEnd_F l id day = some r) : Holds Tryz.prog Gw 24 [.sl 8 (l.map cRule), I id, I day] (xEnd_E r) := by
  refine holds_of_wq tabOk mixed Tryz.func24 (by decide) rfl (Nat.le_of_ble_eq_true rfl) ?_
  refine Or.inl ?_
  refine obind hF fun y1 h2 hF => ?_
  refine Or.inl ⟨_, xGood_h h2, rfl, ?_⟩
  refine And.intro (fun h3 => ?_) (fun h3 => ?_)
  · have hF := cpos h3 hF
    refine Or.inl ?_
    exact Or.inl ⟨rfl, congrArg (Option.map xEnd_E) hF⟩
  · have hF := cneg h3 hF
    refine obind hF fun y4 h5 hF => ?_
    refine Or.inl ⟨_, xFind_h h5, rfl, ?_⟩
    refine And.intro (fun h6 => ?_) (fun h6 => ?_)
    · have hF := cpos h6 hF
      refine Or.inl ?_
      exact Or.inl ⟨rfl, congrArg (Option.map xEnd_E) hF⟩
    · have hF := cneg h6 hF
      refine obind hF fun x7 h8 hF => ?_
      refine ⟨ix_nn h8, .inl rfl, _, ix_map cRule h8, ?_⟩
      refine And.intro (fun h9 => ?_) (fun h9 => ?_)
      · have hF := cpos h9 hF
        refine Or.inl ?_
        exact Or.inl ⟨rfl, congrArg (Option.map xEnd_E) hF⟩
      · have hF := cneg h9 hF
        refine obind hF fun x10 h11 hF => ?_
        refine ⟨ix_nn h11, .inl rfl, _, ix_map cRule h11, ?_⟩
        refine And.intro (fun h12 => ?_) (fun h12 => ?_)
        · have hF := cpos h12 hF
          refine Or.inl ?_
          exact Or.inl ⟨rfl, congrArg (Option.map xEnd_E) hF⟩
        · have hF := cneg h12 hF
          refine Or.inr ⟨[], 0, _, _, _, _, rfl, rfl, eff_build0 tok22.u tok34 (by decide), rfl, ?_⟩
          refine gpos hF fun h15 hF => ?_
          refine Or.inr ⟨[(36, 1)], 0, _, _, _, _, rfl, rfl, eff_append (cf := cRule) (l := ([] : List Rule)) (ns := l) tok22.u tok34 (by decide) (by decide) (fun _ => rfl) h15, rfl, ?_⟩
          refine obind hF fun x13 h14 hF => ?_
          refine Or.inl ⟨ix_nn h14, ix_lt h14, ?_⟩
          refine Or.inl ?_
          refine Or.inl ?_
          refine Or.inl ⟨_, ix_map cRule h14, ?_⟩
          refine ⟨((([] : List Rule) ++ l).set (y4).toNat (⟨x13.ID, x13.Class, x13.Trigger, x13.Years, x13.YearEnd, x13.Action, (⟨x13.In.From, day⟩ : Span)⟩ : Rule)).map cRule, _, .inl ⟨rfl, set_map _ _ _ _, rfl⟩, ?_⟩
          refine ret_eq (p := fun r => resFin tab _ (xEnd_E r) _) hF ?_
          exact Or.inr ⟨⟨⟨rfl, _, rfl, rfl⟩, rfl, rfl⟩, by decide⟩
abbrev xEnd_S (l : List Rule) (id : Int) (day : Int) : Option (List Rule × Int) := xEnd_F l id day
theorem xEnd_h {l : List Rule} {id : Int} {day : Int} {r : List Rule × Int} (h : xEnd_S l id day = some r) : Holds Tryz.prog Gw 24 [.sl 8 (l.map cRule), I id, I day] (xEnd_E r) := xEnd_Fh  h
abbrev xApply_E (y : List Int) : CV := .sl 1 (y.map cInt)
def xApply_L2 (l : List Rule) (code : Str) (day : Int) (longest1 : Int) : Nat → List Int → Int → Option (List Int)
  | 0, _, _ => none
  | fu2 + 1, out18, i19 => bif decide (i19 < ((l.map cRule).length : Int)) then (Option.bind (ix l i19) fun x21 => Option.bind (rParse_S x21.Class) fun y23 => Option.bind (ix l i19) fun x25 => Option.bind (gIn_S x25.In day) fun y27 => bif y27 then (Option.bind (ix l i19) fun x30 => Option.bind (rWithin_S code x30.Class) fun y32 => bif y32 then (bif (((y23.1.map cInt).length : Int) == longest1) then (Option.bind (ix l i19) fun x36 => bif decide (out18.length + ([x36.ID] : List Int).length ≤ 4294967296) then xApply_L2 l code day longest1 fu2 (out18 ++ ([x36.ID] : List Int)) (IntKind.i64.wrap (i19 + 1)) else none) else xApply_L2 l code day longest1 fu2 out18 (IntKind.i64.wrap (i19 + 1))) else xApply_L2 l code day longest1 fu2 out18 (IntKind.i64.wrap (i19 + 1))) else xApply_L2 l code day longest1 fu2 out18 (IntKind.i64.wrap (i19 + 1))) else some (out18)
def xApply_L1 (l : List Rule) (code : Str) (day : Int) (N : Nat) : Nat → Int → Int → Option (List Int)
  | 0, _, _ => none
  | fu1 + 1, longest1, i2 => bif decide (i2 < ((l.map cRule).length : Int)) then (Option.bind (ix l i2) fun x4 => Option.bind (rParse_S x4.Class) fun y6 => Option.bind (ix l i2) fun x8 => Option.bind (gIn_S x8.In day) fun y10 => bif y10 then (Option.bind (ix l i2) fun x13 => Option.bind (rWithin_S code x13.Class) fun y15 => bif y15 then xApply_L1 l code day N fu1 (if longest1 < ((y6.1.map cInt).length : Int) then ((y6.1.map cInt).length : Int) else longest1) (IntKind.i64.wrap (i2 + 1)) else xApply_L1 l code day N fu1 longest1 (IntKind.i64.wrap (i2 + 1))) else xApply_L1 l code day N fu1 longest1 (IntKind.i64.wrap (i2 + 1))) else xApply_L2 l code day longest1 N ([] : List Int) 0
def xApply_F (N : Nat) (l : List Rule) (code : Str) (day : Int) : Option (List Int) := xApply_L1 l code day N N 0 0
set_option linter.unusedVariables false in
theorem xApply_Fh {N : Nat} {l : List Rule} {code : Str} {day : Int} {r : List Int} (hF : xApply_F N l code day = some r) : Holds Tryz.prog Gw 26 [.sl 8 (l.map cRule), S code, I day] (xApply_E r) := by
  refine holds_of_wq tabOk mixed Tryz.func26 (by decide) rfl (Nat.le_of_ble_eq_true rfl) ?_
  refine Or.inl ?_
  refine loop_oq (fun p : Nat × Int × Int => [(0, .c (.sl 8 (l.map cRule))), (1, .c (S code)), (2, .c (I day)), (7, .c (I p.2.1)), (8, .c (I p.2.2))]) (fun _ => []) (fun p => xApply_L1 l code day N p.1 p.2.1 p.2.2 = some r) (fun p => p.1) (N, 0, 0) hF ⟨rfl, rfl, rfl, rfl, rfl, trivial⟩ trivial ?_
  rintro ⟨fu1, longest1, i2⟩ hF
  cases fu1 with
  | zero => exact nomatch hF
  | succ fu1 =>
    refine And.intro (fun h3 => ?_) (fun h3 => ?_)
    · have hF := cpos h3 hF
      refine join_no ?_
      refine obind hF fun x4 h5 hF => ?_
      refine ⟨ix_nn h5, .inl rfl, _, ix_map cRule h5, ?_⟩
      refine obind hF fun y6 h7 hF => ?_
      refine Or.inl ⟨_, rParse_h h7, rfl, ?_⟩
      refine obind hF fun x8 h9 hF => ?_
      refine ⟨ix_nn h9, .inl rfl, _, ix_map cRule h9, ?_⟩
      refine obind hF fun y10 h11 hF => ?_
      refine Or.inl ⟨_, gIn_h h11, rfl, ?_⟩
      refine And.intro (fun h12 => ?_) (fun h12 => ?_)
      · have hF := cpos h12 hF
        refine obind hF fun x13 h14 hF => ?_
        refine ⟨ix_nn h14, .inl rfl, _, ix_map cRule h14, ?_⟩
        refine obind hF fun y15 h16 hF => ?_
        refine Or.inl ⟨_, rWithin_h h16, rfl, ?_⟩
        refine And.intro (fun h17 => ?_) (fun h17 => ?_)
        · have hF := cpos h17 hF
          exact ⟨(fu1, (if longest1 < ((y6.1.map cInt).length : Int) then ((y6.1.map cInt).length : Int) else longest1), (IntKind.i64.wrap (i2 + 1))), Nat.lt_succ_self _, hF, ⟨rfl, rfl, rfl, rfl, rfl, trivial⟩, trivial⟩
        · have hF := cneg h17 hF
          exact ⟨(fu1, longest1, (IntKind.i64.wrap (i2 + 1))), Nat.lt_succ_self _, hF, ⟨rfl, rfl, rfl, rfl, rfl, trivial⟩, trivial⟩
      · have hF := cneg h12 hF
        exact ⟨(fu1, longest1, (IntKind.i64.wrap (i2 + 1))), Nat.lt_succ_self _, hF, ⟨rfl, rfl, rfl, rfl, rfl, trivial⟩, trivial⟩
    · have hF := cneg h3 hF
      refine Or.inl ?_
      refine loop_oq (fun p : Nat × List Int × Int => [(0, .c (.sl 8 (l.map cRule))), (1, .c (S code)), (2, .c (I day)), (7, .c (I longest1)), (11, .ap 11 0 1 (p.2.1.map cInt)), (12, .c (I p.2.2))]) (fun p : Nat × List Int × Int => [(11, .tok 3 1)]) (fun p => xApply_L2 l code day longest1 p.1 p.2.1 p.2.2 = some r) (fun p => p.1) (N, ([] : List Int), 0) hF ⟨rfl, rfl, rfl, rfl, rfl, rfl, trivial⟩ ⟨rfl, trivial⟩ ?_
      rintro ⟨fu2, out18, i19⟩ hF
      cases fu2 with
      | zero => exact nomatch hF
      | succ fu2 =>
        refine And.intro (fun h20 => ?_) (fun h20 => ?_)
        · have hF := cpos h20 hF
          refine join_no ?_
          refine obind hF fun x21 h22 hF => ?_
          refine ⟨ix_nn h22, .inl rfl, _, ix_map cRule h22, ?_⟩
          refine obind hF fun y23 h24 hF => ?_
          refine Or.inl ⟨_, rParse_h h24, rfl, ?_⟩
          refine obind hF fun x25 h26 hF => ?_
          refine ⟨ix_nn h26, .inl rfl, _, ix_map cRule h26, ?_⟩
          refine obind hF fun y27 h28 hF => ?_
          refine Or.inl ⟨_, gIn_h h28, rfl, ?_⟩
          refine And.intro (fun h29 => ?_) (fun h29 => ?_)
          · have hF := cpos h29 hF
            refine obind hF fun x30 h31 hF => ?_
            refine ⟨ix_nn h31, .inl rfl, _, ix_map cRule h31, ?_⟩
            refine obind hF fun y32 h33 hF => ?_
            refine Or.inl ⟨_, rWithin_h h33, rfl, ?_⟩
            refine And.intro (fun h34 => ?_) (fun h34 => ?_)
            · have hF := cpos h34 hF
              refine And.intro (fun h35 => ?_) (fun h35 => ?_)
              · have hF := cpos h35 hF
                refine obind hF fun x36 h37 hF => ?_
                refine ⟨ix_nn h37, .inl rfl, _, ix_map cRule h37, ?_⟩
                refine Or.inl ?_
                refine gpos hF fun h38 hF => ?_
                refine Or.inl ⟨len_all rfl, app_le (f := cInt) h38, (out18 ++ ([x36.ID] : List Int)).map cInt, map_app _ _ _, ?_⟩
                exact ⟨(fu2, (out18 ++ ([x36.ID] : List Int)), (IntKind.i64.wrap (i19 + 1))), Nat.lt_succ_self _, hF, ⟨rfl, rfl, rfl, rfl, rfl, rfl, trivial⟩, ⟨rfl, trivial⟩⟩
              · have hF := cneg h35 hF
                exact ⟨(fu2, out18, (IntKind.i64.wrap (i19 + 1))), Nat.lt_succ_self _, hF, ⟨rfl, rfl, rfl, rfl, rfl, rfl, trivial⟩, ⟨rfl, trivial⟩⟩
            · have hF := cneg h34 hF
              exact ⟨(fu2, out18, (IntKind.i64.wrap (i19 + 1))), Nat.lt_succ_self _, hF, ⟨rfl, rfl, rfl, rfl, rfl, rfl, trivial⟩, ⟨rfl, trivial⟩⟩
          · have hF := cneg h29 hF
            exact ⟨(fu2, out18, (IntKind.i64.wrap (i19 + 1))), Nat.lt_succ_self _, hF, ⟨rfl, rfl, rfl, rfl, rfl, rfl, trivial⟩, ⟨rfl, trivial⟩⟩
        · have hF := cneg h20 hF
          exact Or.inl ⟨rfl, congrArg (Option.map xApply_E) hF⟩
abbrev xApply_S (l : List Rule) (code : Str) (day : Int) : Option (List Int) := xApply_F (l.length + 1) l code day
theorem xApply_h {l : List Rule} {code : Str} {day : Int} {r : List Int} (h : xApply_S l code day = some r) : Holds Tryz.prog Gw 26 [.sl 8 (l.map cRule), S code, I day] (xApply_E r) := xApply_Fh  h
abbrev xSame_E (y : Bool) : CV := B y
def xSame_L1 (a : List Rule) (b : List Rule) : Nat → Int → Option (Bool)
  | 0, _ => none
  | fu1 + 1, i2 => bif decide (i2 < ((a.map cRule).length : Int)) then (Option.bind (ix a i2) fun x4 => Option.bind (ix b i2) fun x6 => bif (!(x4 == x6)) then some (false) else xSame_L1 a b fu1 (IntKind.i64.wrap (i2 + 1))) else some (true)
def xSame_F (N : Nat) (a : List Rule) (b : List Rule) : Option (Bool) := bif (((a.map cRule).length : Int) != ((b.map cRule).length : Int)) then some (false) else xSame_L1 a b N 0
set_option linter.unusedVariables false in
theorem xSame_Fh {N : Nat} {a : List Rule} {b : List Rule} {r : Bool} (hF : xSame_F N a b = some r) : Holds Tryz.prog Gw 27 [.sl 8 (a.map cRule), .sl 8 (b.map cRule)] (xSame_E r) := by
  refine holds_of_wq tabOk mixed Tryz.func27 (by decide) rfl (Nat.le_of_ble_eq_true rfl) ?_
  refine And.intro (fun h1 => ?_) (fun h1 => ?_)
  · have hF := cpos h1 hF
    exact Or.inl ⟨rfl, congrArg (Option.map xSame_E) hF⟩
  · have hF := cneg h1 hF
    refine loop_oq (fun p : Nat × Int => [(0, .c (.sl 8 (a.map cRule))), (1, .c (.sl 8 (b.map cRule))), (5, .c (I p.2))]) (fun _ => []) (fun p => xSame_L1 a b p.1 p.2 = some r) (fun p => p.1) (N, 0) hF ⟨rfl, rfl, rfl, trivial⟩ trivial ?_
    rintro ⟨fu1, i2⟩ hF
    cases fu1 with
    | zero => exact nomatch hF
    | succ fu1 =>
      refine And.intro (fun h3 => ?_) (fun h3 => ?_)
      · have hF := cpos h3 hF
        refine join_no ?_
        refine obind hF fun x4 h5 hF => ?_
        refine ⟨ix_nn h5, .inl rfl, _, ix_map cRule h5, ?_⟩
        refine obind hF fun x6 h7 hF => ?_
        refine ⟨ix_nn h7, .inl rfl, _, ix_map cRule h7, ?_⟩
        refine Or.inr ⟨[], 0, _, _, _, _, rfl, rfl, sne_Rule x4 x6, rfl, ?_⟩
        refine And.intro (by kernel_rfl) ?_
        refine And.intro (fun h8 => ?_) (fun h8 => ?_)
        · have hF := cpos h8 hF
          exact Or.inl ⟨rfl, congrArg (Option.map xSame_E) hF⟩
        · have hF := cneg h8 hF
          exact ⟨(fu1, (IntKind.i64.wrap (i2 + 1))), Nat.lt_succ_self _, hF, ⟨rfl, rfl, rfl, trivial⟩, trivial⟩
      · have hF := cneg h3 hF
        exact Or.inl ⟨rfl, congrArg (Option.map xSame_E) hF⟩
abbrev xSame_S (a : List Rule) (b : List Rule) : Option (Bool) := xSame_F (a.length + 1) a b
theorem xSame_h {a : List Rule} {b : List Rule} {r : Bool} (h : xSame_S a b = some r) : Holds Tryz.prog Gw 27 [.sl 8 (a.map cRule), .sl 8 (b.map cRule)] (xSame_E r) := xSame_Fh  h
abbrev xFew_E (y : Bool) : CV := B y
def xFew_L1 (l : List Rule) : Nat → Int → Option (Bool)
  | 0, _ => none
  | fu1 + 1, i4 => bif decide (i4 < ((l.map cRule).length : Int)) then (Option.bind (ix l i4) fun x6 => bif decide ((x6.Class.length : Int) > 100) then some (false) else (Option.bind (ix l i4) fun x9 => bif decide ((x9.Trigger.length : Int) > 100) then some (false) else xFew_L1 l fu1 (IntKind.i64.wrap (i4 + 1)))) else some (true)
def xFew_L2 (l : List Rule) : Nat → Int → Option (Bool)
  | 0, _ => none
  | fu2 + 1, i13 => bif decide (i13 < ((l.map cRule).length : Int)) then (Option.bind (ix l i13) fun x15 => bif decide ((x15.Class.length : Int) > 100) then some (false) else (Option.bind (ix l i13) fun x18 => bif decide ((x18.Trigger.length : Int) > 100) then some (false) else xFew_L2 l fu2 (IntKind.i64.wrap (i13 + 1)))) else some (true)
def xFew_F (N : Nat) (l : List Rule) : Option (Bool) := bif decide (((l.map cRule).length : Int) > 12) then (bif decide (((l.map cRule).length : Int) ≤ 64) then some (false) else (bif decide (((l.map cRule).length : Int) > 69) then some (false) else xFew_L1 l N 0)) else (bif decide (((l.map cRule).length : Int) > 69) then some (false) else xFew_L2 l N 0)
set_option linter.unusedVariables false in
theorem xFew_Fh {N : Nat} {l : List Rule} {r : Bool} (hF : xFew_F N l = some r) : Holds Tryz.prog Gw 10 [.sl 8 (l.map cRule)] (xFew_E r) := by
  refine holds_of_wq tabOk mixed Tryz.func10 (by decide) rfl (Nat.le_of_ble_eq_true rfl) ?_
  refine And.intro (fun h1 => ?_) (fun h1 => ?_)
  · have hF := cpos h1 hF
    refine And.intro (fun h2 => ?_) (fun h2 => ?_)
    · have hF := cpos h2 hF
      exact Or.inl ⟨rfl, congrArg (Option.map xFew_E) hF⟩
    · have hF := cneg h2 hF
      refine And.intro (fun h3 => ?_) (fun h3 => ?_)
      · have hF := cpos h3 hF
        exact Or.inl ⟨rfl, congrArg (Option.map xFew_E) hF⟩
      · have hF := cneg h3 hF
        refine loop_oq (fun p : Nat × Int => [(0, .c (.sl 8 (l.map cRule))), (3, .c (I p.2))]) (fun _ => []) (fun p => xFew_L1 l p.1 p.2 = some r) (fun p => p.1) (N, 0) hF ⟨rfl, rfl, trivial⟩ trivial ?_
        rintro ⟨fu1, i4⟩ hF
        cases fu1 with
        | zero => exact nomatch hF
        | succ fu1 =>
          refine And.intro (fun h5 => ?_) (fun h5 => ?_)
          · have hF := cpos h5 hF
            refine join_no ?_
            refine obind hF fun x6 h7 hF => ?_
            refine ⟨ix_nn h7, .inl rfl, _, ix_map cRule h7, ?_⟩
            refine And.intro (fun h8 => ?_) (fun h8 => ?_)
            · have hF := cpos h8 hF
              exact Or.inl ⟨rfl, congrArg (Option.map xFew_E) hF⟩
            · have hF := cneg h8 hF
              refine obind hF fun x9 h10 hF => ?_
              refine ⟨ix_nn h10, .inl rfl, _, ix_map cRule h10, ?_⟩
              refine And.intro (fun h11 => ?_) (fun h11 => ?_)
              · have hF := cpos h11 hF
                exact Or.inl ⟨rfl, congrArg (Option.map xFew_E) hF⟩
              · have hF := cneg h11 hF
                exact ⟨(fu1, (IntKind.i64.wrap (i4 + 1))), Nat.lt_succ_self _, hF, ⟨rfl, rfl, trivial⟩, trivial⟩
          · have hF := cneg h5 hF
            exact Or.inl ⟨rfl, congrArg (Option.map xFew_E) hF⟩
  · have hF := cneg h1 hF
    refine And.intro (fun h12 => ?_) (fun h12 => ?_)
    · have hF := cpos h12 hF
      exact Or.inl ⟨rfl, congrArg (Option.map xFew_E) hF⟩
    · have hF := cneg h12 hF
      refine loop_oq (fun p : Nat × Int => [(0, .c (.sl 8 (l.map cRule))), (3, .c (I p.2))]) (fun _ => []) (fun p => xFew_L2 l p.1 p.2 = some r) (fun p => p.1) (N, 0) hF ⟨rfl, rfl, trivial⟩ trivial ?_
      rintro ⟨fu2, i13⟩ hF
      cases fu2 with
      | zero => exact nomatch hF
      | succ fu2 =>
        refine And.intro (fun h14 => ?_) (fun h14 => ?_)
        · have hF := cpos h14 hF
          refine join_no ?_
          refine obind hF fun x15 h16 hF => ?_
          refine ⟨ix_nn h16, .inl rfl, _, ix_map cRule h16, ?_⟩
          refine And.intro (fun h17 => ?_) (fun h17 => ?_)
          · have hF := cpos h17 hF
            exact Or.inl ⟨rfl, congrArg (Option.map xFew_E) hF⟩
          · have hF := cneg h17 hF
            refine obind hF fun x18 h19 hF => ?_
            refine ⟨ix_nn h19, .inl rfl, _, ix_map cRule h19, ?_⟩
            refine And.intro (fun h20 => ?_) (fun h20 => ?_)
            · have hF := cpos h20 hF
              exact Or.inl ⟨rfl, congrArg (Option.map xFew_E) hF⟩
            · have hF := cneg h20 hF
              exact ⟨(fu2, (IntKind.i64.wrap (i13 + 1))), Nat.lt_succ_self _, hF, ⟨rfl, rfl, trivial⟩, trivial⟩
        · have hF := cneg h14 hF
          exact Or.inl ⟨rfl, congrArg (Option.map xFew_E) hF⟩
abbrev xFew_S (l : List Rule) : Option (Bool) := xFew_F (l.length + 1) l
theorem xFew_h {l : List Rule} {r : Bool} (h : xFew_S l = some r) : Holds Tryz.prog Gw 10 [.sl 8 (l.map cRule)] (xFew_E r) := xFew_Fh  h
abbrev lexample_E (y : Rule × Str) : CV := .tup [.agg (cRule y.1), S y.2]
def lexample_F : Option (Rule × Str) := some ((⟨12, ([51, 46, 49] : Str), ([99, 108, 111, 115, 101, 100] : Str), 10, true, 1, (⟨142445, 147924⟩ : Span)⟩ : Rule), ([114, 117, 108, 101, 32, 49, 50, 32, 99, 108, 97, 115, 115, 32, 51, 46, 49, 32, 97, 102, 116, 101, 114, 32, 34, 99, 108, 111, 115, 101, 100, 34, 32, 49, 48, 32, 121, 101, 97, 114, 115, 32, 101, 110, 100, 32, 100, 101, 115, 116, 114, 111, 121, 32, 102, 114, 111, 109, 32, 49, 57, 57, 48, 45, 48, 49, 45, 48, 49, 32, 117, 110, 116, 105, 108, 32, 50, 48, 48, 53, 45, 48, 49, 45, 48, 49, 10] : Str))
set_option linter.unusedVariables false in
theorem lexample_Fh {r : Rule × Str} (hF : lexample_F  = some r) : Holds Tryz.prog Gw 29 [] (lexample_E r) := by
  refine holds_of_wq tabOk mixed Tryz.func29 (by decide) rfl (Nat.le_of_ble_eq_true rfl) ?_
  refine Or.inl ?_
  refine Or.inl ?_
  refine Or.inl ?_
  exact Or.inl ⟨rfl, congrArg (Option.map lexample_E) hF⟩
abbrev lexample_S : Option (Rule × Str) := lexample_F 
theorem lexample_h {r : Rule × Str} (h : lexample_S = some r) : Holds Tryz.prog Gw 29 [] (lexample_E r) := lexample_Fh  h
end Go.Proofs.YtjoacimgcepjdaaGreatDoor
