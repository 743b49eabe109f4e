/- Functions of the program as functions of Lean, each with its contract (printed by a program). -/
import Derived.Test.YtjoacimgcepjdaaGreatDoorGB
namespace Go.Proofs.YtjoacimgcepjdaaGreatDoor
open Go Go.Abs
set_option maxRecDepth 10000
set_option maxHeartbeats 400000
abbrev qFind_1_E (y : Bool) : CV := B y
def qFind_1_F (r_ : Rule) (c0 : Int) : Option (Bool) := some ((r_.ID == c0))
set_option linter.unusedVariables false in
theorem qFind_1_Fh {r_ : Rule} {c0 : Int} {r : Bool} (hF : qFind_1_F r_ c0 = some r) : Holds Tryz.prog Gw 42 [.agg (cRule r_), .pi [I c0] 0] (qFind_1_E r) := by
  refine holds_of_wq tabOk mixed Tryz.func42 (by decide) rfl (Nat.le_of_ble_eq_true rfl) ?_
  refine Or.inl ?_
  exact Or.inl ⟨rfl, congrArg (Option.map qFind_1_E) hF⟩
abbrev qFind_1_S (r_ : Rule) (c0 : Int) : Option (Bool) := qFind_1_F r_ c0
theorem qFind_1_h {r_ : Rule} {c0 : Int} {r : Bool} (h : qFind_1_S r_ c0 = some r) : Holds Tryz.prog Gw 42 [.agg (cRule r_), .pi [I c0] 0] (qFind_1_E r) := qFind_1_Fh  h
abbrev slIndexFuncR_E (y : Int) : CV := I y
def slIndexFuncR_L1 (s : List Rule) (f : Rule → Option Bool) : Nat → Int → Option (Int)
  | 0, _ => none
  | fu1 + 1, v1 => bif decide (v1 < ((s.map cRule).length : Int)) then (Option.bind (ix s v1) fun x3 => Option.bind (f x3) fun y5 => bif y5 then some (v1) else slIndexFuncR_L1 s f fu1 (IntKind.i64.wrap (v1 + 1))) else some ((-1))
def slIndexFuncR_F (N : Nat) (s : List Rule) (f : Rule → Option Bool) : Option (Int) := slIndexFuncR_L1 s f N 0
set_option linter.unusedVariables false in
theorem slIndexFuncR_Fh {N : Nat} {s : List Rule} {f : Rule → Option Bool} {r : Int} {f_f : FuncId} {f_c : List CV} (f_h : ∀ z0 y, f z0 = some y → Holds Tryz.prog Gw f_f (.agg (cRule z0) :: f_c) (B y)) (hF : slIndexFuncR_F N s f = some r) : Holds Tryz.prog Gw 41 [.sl 8 (s.map cRule), .fn f_f f_c] (slIndexFuncR_E r) := by
  refine holds_of_wq tabOk mixed Tryz.func41 (by decide) rfl (Nat.le_of_ble_eq_true rfl) ?_
  refine loop_oq (fun p : Nat × Int => [(0, .c (.sl 8 (s.map cRule))), (1, .c (.fn f_f f_c)), (7, .c (I ((s.map cRule).length : Int))), (8, .c (I p.2))]) (fun _ => []) (fun p => slIndexFuncR_L1 s f p.1 p.2 = some r) (fun p => p.1) (N, 0) hF ⟨rfl, rfl, rfl, rfl, trivial⟩ trivial ?_
  rintro ⟨fu1, v1⟩ hF
  cases fu1 with
  | zero => exact nomatch hF
  | succ fu1 =>
    refine join_no ?_
    refine And.intro (fun h2 => ?_) (fun h2 => ?_)
    · have hF := cpos h2 hF
      refine join_no ?_
      refine obind hF fun x3 h4 hF => ?_
      refine ⟨ix_nn h4, .inl rfl, _, ix_map cRule h4, ?_⟩
      refine obind hF fun y5 h6 hF => ?_
      refine Or.inl ⟨_, f_h _ _ h6, rfl, ?_⟩
      refine And.intro (fun h7 => ?_) (fun h7 => ?_)
      · have hF := cpos h7 hF
        exact Or.inl ⟨rfl, congrArg (Option.map slIndexFuncR_E) hF⟩
      · have hF := cneg h7 hF
        exact ⟨(fu1, (IntKind.i64.wrap (v1 + 1))), Nat.lt_succ_self _, hF, ⟨rfl, rfl, rfl, rfl, trivial⟩, trivial⟩
    · have hF := cneg h2 hF
      exact Or.inl ⟨rfl, congrArg (Option.map slIndexFuncR_E) hF⟩
abbrev slIndexFuncR_S (s : List Rule) (f : Rule → Option Bool) : Option (Int) := slIndexFuncR_F (s.length + 1) s f
theorem slIndexFuncR_h {s : List Rule} {f : Rule → Option Bool} {r : Int} {f_f : FuncId} {f_c : List CV} (f_h : ∀ z0 y, f z0 = some y → Holds Tryz.prog Gw f_f (.agg (cRule z0) :: f_c) (B y)) (h : slIndexFuncR_S s f = some r) : Holds Tryz.prog Gw 41 [.sl 8 (s.map cRule), .fn f_f f_c] (slIndexFuncR_E r) := slIndexFuncR_Fh f_h h
abbrev qFind_E (y : Int) : CV := I y
def qFind_F (l : List Rule) (id : Int) : Option (Int) := Option.bind (slIndexFuncR_S l (fun z0 => qFind_1_S z0 id)) fun y1 => some (y1)
set_option linter.unusedVariables false in
theorem qFind_Fh {l : List Rule} {id : Int} {r : Int} (hF : qFind_F l id = some r) : Holds Tryz.prog Gw 17 [.sl 8 (l.map cRule), I id] (qFind_E r) := by
  refine holds_of_wq tabOk mixed Tryz.func17 (by decide) rfl (Nat.le_of_ble_eq_true rfl) ?_
  refine Or.inl ?_
  refine obind hF fun y1 h2 hF => ?_
  refine Or.inl ⟨_, slIndexFuncR_h (fun _ _ h => qFind_1_h h) h2, rfl, ?_⟩
  exact Or.inl ⟨rfl, congrArg (Option.map qFind_E) hF⟩
abbrev qFind_S (l : List Rule) (id : Int) : Option (Int) := qFind_F l id
theorem qFind_h {l : List Rule} {id : Int} {r : Int} (h : qFind_S l id = some r) : Holds Tryz.prog Gw 17 [.sl 8 (l.map cRule), I id] (qFind_E r) := qFind_Fh  h
abbrev qvalid_E (y : Bool) : CV := B y
def qvalid_F (s : Span) : Option (Bool) := bif decide (s.From ≥ 0) then (bif decide (s.From < s.Until) then some (decide (s.Until ≤ 1048576)) else some (false)) else some (false)
set_option linter.unusedVariables false in
theorem qvalid_Fh {s : Span} {r : Bool} (hF : qvalid_F s = some r) : Holds Tryz.prog Gw 64 [.agg (cSpan s)] (qvalid_E r) := by
  refine holds_of_wq tabOk mixed Tryz.func64 (by decide) rfl (Nat.le_of_ble_eq_true rfl) ?_
  refine Or.inl ?_
  refine And.intro (fun h1 => ?_) (fun h1 => ?_)
  · have hF := cpos h1 hF
    refine And.intro (fun h2 => ?_) (fun h2 => ?_)
    · have hF := cpos h2 hF
      exact Or.inl ⟨rfl, congrArg (Option.map qvalid_E) hF⟩
    · have hF := cneg h2 hF
      exact Or.inl ⟨rfl, congrArg (Option.map qvalid_E) hF⟩
  · have hF := cneg h1 hF
    exact Or.inl ⟨rfl, congrArg (Option.map qvalid_E) hF⟩
abbrev qvalid_S (s : Span) : Option (Bool) := qvalid_F s
theorem qvalid_h {s : Span} {r : Bool} (h : qvalid_S s = some r) : Holds Tryz.prog Gw 64 [.agg (cSpan s)] (qvalid_E r) := qvalid_Fh  h
abbrev qcheck_E (y : Int) : CV := I y
def qcheck_F (l : List Rule) (i : Int) : Option (Int) := Option.bind (ix l i) fun x1 => Option.bind (pParse_S x1.Class) fun y3 => bif decide (x1.ID < 1) then some (2) else (bif decide (x1.ID > 1073741824) then some (2) else (bif decide (x1.Years < 0) then some (2) else (bif decide (x1.Years > 200) then some (2) else (bif decide (x1.Action < 1) then some (2) else (bif decide (x1.Action > 3) then some (2) else (Option.bind (qvalid_S x1.In) fun y11 => bif (!y11) then some (2) else (bif decide (i > 0) then (Option.bind (ix l (IntKind.i64.wrap (i - 1))) fun x15 => bif decide (x15.ID ≥ x1.ID) then some (5) else (bif (y3.2 != 0) then some (3) else (Option.bind (pName_S x1.Trigger) fun y19 => bif (!y19) then some (4) else (Option.bind (sContains_S x1.Trigger ([34] : Str)) fun y22 => bif y22 then some (4) else (bif (x1.Action == 3) then (bif (!(x1.Trigger == ([111, 112, 101, 110, 101, 100] : Str))) then some (1) else (bif (x1.Years != 0) then some (1) else (bif x1.YearEnd then some (1) else some (0)))) else some (0)))))) else (bif (y3.2 != 0) then some (3) else (Option.bind (pName_S x1.Trigger) fun y30 => bif (!y30) then some (4) else (Option.bind (sContains_S x1.Trigger ([34] : Str)) fun y33 => bif y33 then some (4) else (bif (x1.Action == 3) then (bif (!(x1.Trigger == ([111, 112, 101, 110, 101, 100] : Str))) then some (1) else (bif (x1.Years != 0) then some (1) else (bif x1.YearEnd then some (1) else some (0)))) else some (0))))))))))))
set_option linter.unusedVariables false in
theorem qcheck_Fh {l : List Rule} {i : Int} {r : Int} (hF : qcheck_F l i = some r) : Holds Tryz.prog Gw 35 [.sl 8 (l.map cRule), I i] (qcheck_E r) := by
  refine holds_of_wq tabOk mixed Tryz.func35 (by decide) rfl (Nat.le_of_ble_eq_true rfl) ?_
  refine obind hF fun x1 h2 hF => ?_
  refine ⟨ix_nn h2, .inl rfl, _, ix_map cRule h2, ?_⟩
  refine Or.inl ?_
  refine obind hF fun y3 h4 hF => ?_
  refine Or.inl ⟨_, pParse_h h4, rfl, ?_⟩
  refine join_no ?_
  refine And.intro (fun h5 => ?_) (fun h5 => ?_)
  · have hF := cpos h5 hF
    exact Or.inl ⟨rfl, congrArg (Option.map qcheck_E) hF⟩
  · have hF := cneg h5 hF
    refine And.intro (fun h6 => ?_) (fun h6 => ?_)
    · have hF := cpos h6 hF
      exact Or.inl ⟨rfl, congrArg (Option.map qcheck_E) hF⟩
    · have hF := cneg h6 hF
      refine And.intro (fun h7 => ?_) (fun h7 => ?_)
      · have hF := cpos h7 hF
        exact Or.inl ⟨rfl, congrArg (Option.map qcheck_E) hF⟩
      · have hF := cneg h7 hF
        refine And.intro (fun h8 => ?_) (fun h8 => ?_)
        · have hF := cpos h8 hF
          exact Or.inl ⟨rfl, congrArg (Option.map qcheck_E) hF⟩
        · have hF := cneg h8 hF
          refine And.intro (fun h9 => ?_) (fun h9 => ?_)
          · have hF := cpos h9 hF
            exact Or.inl ⟨rfl, congrArg (Option.map qcheck_E) hF⟩
          · have hF := cneg h9 hF
            refine And.intro (fun h10 => ?_) (fun h10 => ?_)
            · have hF := cpos h10 hF
              exact Or.inl ⟨rfl, congrArg (Option.map qcheck_E) hF⟩
            · have hF := cneg h10 hF
              refine obind hF fun y11 h12 hF => ?_
              refine Or.inl ⟨_, qvalid_h h12, rfl, ?_⟩
              refine And.intro (fun h13 => ?_) (fun h13 => ?_)
              · have hF := cpos h13 hF
                exact Or.inl ⟨rfl, congrArg (Option.map qcheck_E) hF⟩
              · have hF := cneg h13 hF
                refine And.intro (fun h14 => ?_) (fun h14 => ?_)
                · have hF := cpos h14 hF
                  refine obind hF fun x15 h16 hF => ?_
                  refine ⟨ix_nn h16, .inl rfl, _, ix_map cRule h16, ?_⟩
                  refine And.intro (by kernel_rfl) ?_
                  refine And.intro (fun h17 => ?_) (fun h17 => ?_)
                  · have hF := cpos h17 hF
                    exact Or.inl ⟨rfl, congrArg (Option.map qcheck_E) hF⟩
                  · have hF := cneg h17 hF
                    refine And.intro (fun h18 => ?_) (fun h18 => ?_)
                    · have hF := cpos h18 hF
                      exact Or.inl ⟨rfl, congrArg (Option.map qcheck_E) hF⟩
                    · have hF := cneg h18 hF
                      refine obind hF fun y19 h20 hF => ?_
                      refine Or.inl ⟨_, pName_h h20, rfl, ?_⟩
                      refine And.intro (fun h21 => ?_) (fun h21 => ?_)
                      · have hF := cpos h21 hF
                        exact Or.inl ⟨rfl, congrArg (Option.map qcheck_E) hF⟩
                      · have hF := cneg h21 hF
                        refine obind hF fun y22 h23 hF => ?_
                        refine Or.inl ⟨_, sContains_h h23, rfl, ?_⟩
                        refine And.intro (fun h24 => ?_) (fun h24 => ?_)
                        · have hF := cpos h24 hF
                          exact Or.inl ⟨rfl, congrArg (Option.map qcheck_E) hF⟩
                        · have hF := cneg h24 hF
                          refine And.intro (fun h25 => ?_) (fun h25 => ?_)
                          · have hF := cpos h25 hF
                            refine And.intro (fun h26 => ?_) (fun h26 => ?_)
                            · have hF := cpos h26 hF
                              exact Or.inl ⟨rfl, congrArg (Option.map qcheck_E) hF⟩
                            · have hF := cneg h26 hF
                              refine And.intro (fun h27 => ?_) (fun h27 => ?_)
                              · have hF := cpos h27 hF
                                exact Or.inl ⟨rfl, congrArg (Option.map qcheck_E) hF⟩
                              · have hF := cneg h27 hF
                                refine And.intro (fun h28 => ?_) (fun h28 => ?_)
                                · have hF := cpos h28 hF
                                  exact Or.inl ⟨rfl, congrArg (Option.map qcheck_E) hF⟩
                                · have hF := cneg h28 hF
                                  exact Or.inl ⟨rfl, congrArg (Option.map qcheck_E) hF⟩
                          · have hF := cneg h25 hF
                            exact Or.inl ⟨rfl, congrArg (Option.map qcheck_E) hF⟩
                · have hF := cneg h14 hF
                  refine And.intro (by kernel_rfl) ?_
                  refine And.intro (fun h29 => ?_) (fun h29 => ?_)
                  · have hF := cpos h29 hF
                    exact Or.inl ⟨rfl, congrArg (Option.map qcheck_E) hF⟩
                  · have hF := cneg h29 hF
                    refine obind hF fun y30 h31 hF => ?_
                    refine Or.inl ⟨_, pName_h h31, rfl, ?_⟩
                    refine And.intro (fun h32 => ?_) (fun h32 => ?_)
                    · have hF := cpos h32 hF
                      exact Or.inl ⟨rfl, congrArg (Option.map qcheck_E) hF⟩
                    · have hF := cneg h32 hF
                      refine obind hF fun y33 h34 hF => ?_
                      refine Or.inl ⟨_, sContains_h h34, rfl, ?_⟩
                      refine And.intro (fun h35 => ?_) (fun h35 => ?_)
                      · have hF := cpos h35 hF
                        exact Or.inl ⟨rfl, congrArg (Option.map qcheck_E) hF⟩
                      · have hF := cneg h35 hF
                        refine And.intro (fun h36 => ?_) (fun h36 => ?_)
                        · have hF := cpos h36 hF
                          refine And.intro (fun h37 => ?_) (fun h37 => ?_)
                          · have hF := cpos h37 hF
                            exact Or.inl ⟨rfl, congrArg (Option.map qcheck_E) hF⟩
                          · have hF := cneg h37 hF
                            refine And.intro (fun h38 => ?_) (fun h38 => ?_)
                            · have hF := cpos h38 hF
                              exact Or.inl ⟨rfl, congrArg (Option.map qcheck_E) hF⟩
                            · have hF := cneg h38 hF
                              refine And.intro (fun h39 => ?_) (fun h39 => ?_)
                              · have hF := cpos h39 hF
                                exact Or.inl ⟨rfl, congrArg (Option.map qcheck_E) hF⟩
                              · have hF := cneg h39 hF
                                exact Or.inl ⟨rfl, congrArg (Option.map qcheck_E) hF⟩
                        · have hF := cneg h36 hF
                          exact Or.inl ⟨rfl, congrArg (Option.map qcheck_E) hF⟩
abbrev qcheck_S (l : List Rule) (i : Int) : Option (Int) := qcheck_F l i
theorem qcheck_h {l : List Rule} {i : Int} {r : Int} (h : qcheck_S l i = some r) : Holds Tryz.prog Gw 35 [.sl 8 (l.map cRule), I i] (qcheck_E r) := qcheck_Fh  h
abbrev qCheck_E (y : Int × Int) : CV := .tup [I y.1, I y.2]
def qCheck_L1 (l : List Rule) : Nat → Int → Option (Int × Int)
  | 0, _ => none
  | fu1 + 1, v2 => bif decide (v2 < ((l.map cRule).length : Int)) then (Option.bind (qcheck_S l v2) fun y4 => bif (y4 != 0) then some (v2, y4) else qCheck_L1 l fu1 (IntKind.i64.wrap (v2 + 1))) else some ((-1), 0)
def qCheck_F (N : Nat) (l : List Rule) : Option (Int × Int) := bif decide (((l.map cRule).length : Int) > 64) then some ((-1), 8) else qCheck_L1 l N 0
set_option linter.unusedVariables false in
theorem qCheck_Fh {N : Nat} {l : List Rule} {r : Int × Int} (hF : qCheck_F N l = some r) : Holds Tryz.prog Gw 14 [.sl 8 (l.map cRule)] (qCheck_E r) := by
  refine holds_of_wq tabOk mixed Tryz.func14 (by decide) rfl (Nat.le_of_ble_eq_true rfl) ?_
  refine And.intro (fun h1 => ?_) (fun h1 => ?_)
  · have hF := cpos h1 hF
    exact Or.inl ⟨rfl, congrArg (Option.map qCheck_E) hF⟩
  · have hF := cneg h1 hF
    refine loop_oq (fun p : Nat × Int => [(0, .c (.sl 8 (l.map cRule))), (10, .c (I ((l.map cRule).length : Int))), (11, .c (I p.2))]) (fun _ => []) (fun p => qCheck_L1 l p.1 p.2 = some r) (fun p => p.1) (N, 0) hF ⟨rfl, rfl, rfl, trivial⟩ trivial ?_
    rintro ⟨fu1, v2⟩ hF
    cases fu1 with
    | zero => exact nomatch hF
    | succ fu1 =>
      refine join_no ?_
      refine And.intro (fun h3 => ?_) (fun h3 => ?_)
      · have hF := cpos h3 hF
        refine join_no ?_
        refine obind hF fun y4 h5 hF => ?_
        refine Or.inl ⟨_, qcheck_h h5, rfl, ?_⟩
        refine And.intro (fun h6 => ?_) (fun h6 => ?_)
        · have hF := cpos h6 hF
          exact Or.inl ⟨rfl, congrArg (Option.map qCheck_E) hF⟩
        · have hF := cneg h6 hF
          exact ⟨(fu1, (IntKind.i64.wrap (v2 + 1))), Nat.lt_succ_self _, hF, ⟨rfl, rfl, rfl, trivial⟩, trivial⟩
      · have hF := cneg h3 hF
        exact Or.inl ⟨rfl, congrArg (Option.map qCheck_E) hF⟩
abbrev qCheck_S (l : List Rule) : Option (Int × Int) := qCheck_F (l.length + 1) l
theorem qCheck_h {l : List Rule} {r : Int × Int} (h : qCheck_S l = some r) : Holds Tryz.prog Gw 14 [.sl 8 (l.map cRule)] (qCheck_E r) := qCheck_Fh  h
abbrev qDue_E (y : Int × Int) : CV := .tup [I y.1, I y.2]
def qDue_F (r_ : Rule) (trigger : Dating) : Option (Int × Int) := Option.bind (qCheck_S ([r_] : List Rule)) fun y1 => bif (y1.2 != 0) then some (0, 1) else (Option.bind (hCheck_S trigger) fun y4 => bif (y4 != 0) then some (0, 1) else (Option.bind (dYears_S trigger.Last r_.Years) fun y7 => bif r_.YearEnd then (Option.bind (dYearEnd_S y7.1) fun y10 => some (y10.1, 0)) else some (y7.1, 0)))
set_option linter.unusedVariables false in
theorem qDue_Fh {r_ : Rule} {trigger : Dating} {r : Int × Int} (hF : qDue_F r_ trigger = some r) : Holds Tryz.prog Gw 15 [.agg (cRule r_), .agg (cDating trigger)] (qDue_E r) := by
  refine holds_of_wq tabOk mixed Tryz.func15 (by decide) rfl (Nat.le_of_ble_eq_true rfl) ?_
  refine Or.inl ?_
  refine Or.inl ?_
  refine Or.inl ?_
  refine obind hF fun y1 h2 hF => ?_
  refine Or.inl ⟨_, qCheck_h h2, rfl, ?_⟩
  refine And.intro (fun h3 => ?_) (fun h3 => ?_)
  · have hF := cpos h3 hF
    exact Or.inl ⟨rfl, congrArg (Option.map qDue_E) hF⟩
  · have hF := cneg h3 hF
    refine obind hF fun y4 h5 hF => ?_
    refine Or.inl ⟨_, hCheck_h h5, rfl, ?_⟩
    refine And.intro (fun h6 => ?_) (fun h6 => ?_)
    · have hF := cpos h6 hF
      exact Or.inl ⟨rfl, congrArg (Option.map qDue_E) hF⟩
    · have hF := cneg h6 hF
      refine obind hF fun y7 h8 hF => ?_
      refine Or.inl ⟨_, dYears_h h8, rfl, ?_⟩
      refine And.intro (fun h9 => ?_) (fun h9 => ?_)
      · have hF := cpos h9 hF
        refine obind hF fun y10 h11 hF => ?_
        refine Or.inl ⟨_, dYearEnd_h h11, rfl, ?_⟩
        exact Or.inl ⟨rfl, congrArg (Option.map qDue_E) hF⟩
      · have hF := cneg h9 hF
        exact Or.inl ⟨rfl, congrArg (Option.map qDue_E) hF⟩
abbrev qDue_S (r_ : Rule) (trigger : Dating) : Option (Int × Int) := qDue_F r_ trigger
theorem qDue_h {r_ : Rule} {trigger : Dating} {r : Int × Int} (h : qDue_S r_ trigger = some r) : Holds Tryz.prog Gw 15 [.agg (cRule r_), .agg (cDating trigger)] (qDue_E r) := qDue_Fh  h
abbrev slCloneR_E (y : List Rule) : CV := .sl 8 (y.map cRule)
def slCloneR_F (s : List Rule) : Option (List Rule) := bif s.isEmpty then oboth (some (([] : List Rule))) (bif decide (([] : List Rule).length + s.length ≤ 4294967296) then some ((([] : List Rule) ++ s)) else none) else (bif decide (([] : List Rule).length + s.length ≤ 4294967296) then some ((([] : List Rule) ++ s)) else none)
set_option linter.unusedVariables false in
theorem slCloneR_Fh {s : List Rule} {r : List Rule} (hF : slCloneR_F s = some r) : Holds Tryz.prog Gw 50 [.sl 8 (s.map cRule)] (slCloneR_E r) := by
  refine holds_of_wq tabOk mixed Tryz.func50 (by decide) rfl (Nat.le_of_ble_eq_true rfl) ?_
  refine Or.inr ⟨[], 0, _, _, _, _, rfl, rfl, eff_nilS (e := 34) (ie := ti34) (by decide), rfl, ?_⟩
  refine nilc (cf := cRule) hF ?_ ?_
  · intro hF
    refine Or.inr ⟨[], 0, _, _, _, _, rfl, rfl, eff_nilS (e := 34) (ie := ti34) (by decide), rfl, ?_⟩
    refine ret_eq (p := fun r => resFin tab _ (slCloneR_E r) _) hF ?_
    exact Or.inr ⟨rfl, _, rfl, rfl⟩
  · intro hF
    refine Or.inr ⟨[], 0, _, _, _, _, rfl, rfl, eff_build0 tok22.u tok34 (by decide), rfl, ?_⟩
    refine gpos hF fun h1 hF => ?_
    refine Or.inr ⟨[(5, 1)], 0, _, _, _, _, rfl, rfl, eff_append (cf := cRule) (l := ([] : List Rule)) (ns := s) tok22.u tok34 (by decide) (by decide) (fun _ => rfl) h1, rfl, ?_⟩
    refine ret_eq (p := fun r => resFin tab _ (slCloneR_E r) _) hF ?_
    exact Or.inr ⟨rfl, _, rfl, rfl⟩
abbrev slCloneR_O (y : List Rule) : CV := .wo (.ow 0) [(34, 8, y.map cRule, none)]
set_option linter.unusedVariables false in
theorem slCloneR_Oh {s : List Rule} {r : List Rule} (hF : slCloneR_F s = some r) : Holds Tryz.prog Gw 50 [.sl 8 (s.map cRule)] (slCloneR_O r) := by
  refine holds_of_wq tabOk mixed Tryz.func50 (by decide) rfl (Nat.le_of_ble_eq_true rfl) ?_
  refine Or.inr ⟨[], 0, _, _, _, _, rfl, rfl, eff_nilS (e := 34) (ie := ti34) (by decide), rfl, ?_⟩
  refine nilc (cf := cRule) hF ?_ ?_
  · intro hF
    refine Or.inr ⟨[], 0, _, _, _, _, rfl, rfl, eff_nilS (e := 34) (ie := ti34) (by decide), rfl, ?_⟩
    refine ret_eq (p := fun r => resFin tab _ (slCloneR_O r) _) hF ?_
    exact Or.inr ⟨[(2, 2)], rfl, ⟨rfl, rfl⟩, rfl⟩
  · intro hF
    refine Or.inr ⟨[], 0, _, _, _, _, rfl, rfl, eff_build0 tok22.u tok34 (by decide), rfl, ?_⟩
    refine gpos hF fun h1 hF => ?_
    refine Or.inr ⟨[(5, 1)], 0, _, _, _, _, rfl, rfl, eff_append (cf := cRule) (l := ([] : List Rule)) (ns := s) tok22.u tok34 (by decide) (by decide) (fun _ => rfl) h1, rfl, ?_⟩
    refine ret_eq (p := fun r => resFin tab _ (slCloneR_O r) _) hF ?_
    exact Or.inr ⟨[(5, 2)], rfl, ⟨rfl, rfl⟩, rfl⟩
abbrev slCloneR_S (s : List Rule) : Option (List Rule) := slCloneR_F s
theorem slCloneR_h {s : List Rule} {r : List Rule} (h : slCloneR_S s = some r) : Holds Tryz.prog Gw 50 [.sl 8 (s.map cRule)] (slCloneR_E r) := slCloneR_Fh  h
abbrev qEnd_E (y : List Rule × Int) : CV := .tup [.sl 8 (y.1.map cRule), I y.2]
def qEnd_F (l : List Rule) (id : Int) (day : Int) : Option (List Rule × Int) := Option.bind (qCheck_S l) fun y1 => bif (y1.2 != 0) then some (([] : List Rule), 1) else (Option.bind (qFind_S l id) fun y4 => bif decide (y4 < 0) then some (([] : List Rule), 7) else (Option.bind (ix l y4) fun x7 => bif decide (day ≤ x7.In.From) then some (([] : List Rule), 2) else (Option.bind (ix l y4) fun x10 => bif decide (day > x10.In.Until) then some (([] : List Rule), 2) else (Option.bind (slCloneR_S l) fun y13 => Option.bind (ix y13 y4) fun x15 => some ((y13.set (y4).toNat (⟨x15.ID, x15.Class, x15.Trigger, x15.Years, x15.YearEnd, x15.Action, (⟨x15.In.From, day⟩ : Span)⟩ : Rule)), 0)))))
set_option linter.unusedVariables false in
theorem qEnd_Fh {l : List Rule} {id : Int} {day : Int} {r : List Rule × Int} (hF : qEnd_F l id day = some r) : Holds Tryz.prog Gw 23 [.sl 8 (l.map cRule), I id, I day] (qEnd_E r) := by
  refine holds_of_wq tabOk mixed Tryz.func23 (by decide) rfl (Nat.le_of_ble_eq_true rfl) ?_
  refine Or.inl ?_
  refine obind hF fun y1 h2 hF => ?_
  refine Or.inl ⟨_, qCheck_h h2, rfl, ?_⟩
  refine And.intro (fun h3 => ?_) (fun h3 => ?_)
  · have hF := cpos h3 hF
    refine Or.inl ?_
    exact Or.inl ⟨rfl, congrArg (Option.map qEnd_E) hF⟩
  · have hF := cneg h3 hF
    refine obind hF fun y4 h5 hF => ?_
    refine Or.inl ⟨_, qFind_h h5, rfl, ?_⟩
    refine And.intro (fun h6 => ?_) (fun h6 => ?_)
    · have hF := cpos h6 hF
      refine Or.inl ?_
      exact Or.inl ⟨rfl, congrArg (Option.map qEnd_E) hF⟩
    · have hF := cneg h6 hF
      refine obind hF fun x7 h8 hF => ?_
      refine ⟨ix_nn h8, .inl rfl, _, ix_map cRule h8, ?_⟩
      refine And.intro (fun h9 => ?_) (fun h9 => ?_)
      · have hF := cpos h9 hF
        refine Or.inl ?_
        exact Or.inl ⟨rfl, congrArg (Option.map qEnd_E) hF⟩
      · have hF := cneg h9 hF
        refine obind hF fun x10 h11 hF => ?_
        refine ⟨ix_nn h11, .inl rfl, _, ix_map cRule h11, ?_⟩
        refine And.intro (fun h12 => ?_) (fun h12 => ?_)
        · have hF := cpos h12 hF
          refine Or.inl ?_
          exact Or.inl ⟨rfl, congrArg (Option.map qEnd_E) hF⟩
        · have hF := cneg h12 hF
          refine obind hF fun y13 h14 hF => ?_
          refine Or.inr (Or.inl ⟨_, _, slCloneR_Oh h14, ?_⟩)
          refine obind hF fun x15 h16 hF => ?_
          refine Or.inl ⟨ix_nn h16, ix_lt h16, ?_⟩
          refine Or.inl ?_
          refine Or.inl ?_
          refine Or.inl ⟨_, ix_map cRule h16, ?_⟩
          refine ⟨(y13.set (y4).toNat (⟨x15.ID, x15.Class, x15.Trigger, x15.Years, x15.YearEnd, x15.Action, (⟨x15.In.From, day⟩ : Span)⟩ : Rule)).map cRule, _, .inl ⟨rfl, set_map _ _ _ _, rfl⟩, ?_⟩
          refine ret_eq (p := fun r => resFin tab _ (qEnd_E r) _) hF ?_
          exact Or.inr ⟨⟨⟨rfl, _, rfl, rfl⟩, rfl, rfl⟩, by decide⟩
abbrev qEnd_S (l : List Rule) (id : Int) (day : Int) : Option (List Rule × Int) := qEnd_F l id day
theorem qEnd_h {l : List Rule} {id : Int} {day : Int} {r : List Rule × Int} (h : qEnd_S l id day = some r) : Holds Tryz.prog Gw 23 [.sl 8 (l.map cRule), I id, I day] (qEnd_E r) := qEnd_Fh  h
abbrev qApply_E (y : List Int) : CV := .sl 1 (y.map cInt)
def qApply_L1 (l : List Rule) (class_ : Str) (day : Int) : Nat → Int → List Int → Int → Option (List Int)
  | 0, _, _, _ => none
  | fu1 + 1, most1, out2, v3 => bif decide (v3 < ((l.map cRule).length : Int)) then (Option.bind (ix l v3) fun x5 => bif decide (x5.In.From > day) then qApply_L1 l class_ day fu1 most1 out2 (IntKind.i64.wrap (v3 + 1)) else (bif decide (day ≥ x5.In.Until) then qApply_L1 l class_ day fu1 most1 out2 (IntKind.i64.wrap (v3 + 1)) else (Option.bind (pWithin_S class_ x5.Class) fun y9 => bif (!y9) then qApply_L1 l class_ day fu1 most1 out2 (IntKind.i64.wrap (v3 + 1)) else (Option.bind (pParse_S x5.Class) fun y12 => bif decide (((y12.1.map cInt).length : Int) > most1) then (bif (((y12.1.map cInt).length : Int) == ((y12.1.map cInt).length : Int)) then (bif decide (([] : List Int).length + ([x5.ID] : List Int).length ≤ 4294967296) then qApply_L1 l class_ day fu1 ((y12.1.map cInt).length : Int) (([] : List Int) ++ ([x5.ID] : List Int)) (IntKind.i64.wrap (v3 + 1)) else none) else qApply_L1 l class_ day fu1 ((y12.1.map cInt).length : Int) ([] : List Int) (IntKind.i64.wrap (v3 + 1))) else (bif (((y12.1.map cInt).length : Int) == most1) then (bif decide (out2.length + ([x5.ID] : List Int).length ≤ 4294967296) then qApply_L1 l class_ day fu1 most1 (out2 ++ ([x5.ID] : List Int)) (IntKind.i64.wrap (v3 + 1)) else none) else qApply_L1 l class_ day fu1 most1 out2 (IntKind.i64.wrap (v3 + 1))))))) else some (out2)
def qApply_F (N : Nat) (l : List Rule) (class_ : Str) (day : Int) : Option (List Int) := qApply_L1 l class_ day N 0 ([] : List Int) 0
set_option linter.unusedVariables false in
theorem qApply_Fh {N : Nat} {l : List Rule} {class_ : Str} {day : Int} {r : List Int} (hF : qApply_F N l class_ day = some r) : Holds Tryz.prog Gw 19 [.sl 8 (l.map cRule), S class_, I day] (qApply_E r) := by
  refine holds_of_wq tabOk mixed Tryz.func19 (by decide) rfl (Nat.le_of_ble_eq_true rfl) ?_
  refine Or.inl ?_
  refine Or.inl ?_
  refine loop_oq (fun p : Nat × Int × List Int × Int => [(1, .c (S class_)), (2, .c (I day)), (7, .c (I p.2.1)), (8, .ap 8 0 1 (p.2.2.1.map cInt)), (13, .c (.sl 8 (l.map cRule))), (14, .c (I ((l.map cRule).length : Int))), (15, .c (I p.2.2.2))]) (fun p : Nat × Int × List Int × Int => [(8, .tok 3 1)]) (fun p => qApply_L1 l class_ day p.1 p.2.1 p.2.2.1 p.2.2.2 = some r) (fun p => p.1) (N, 0, ([] : List Int), 0) hF ⟨rfl, rfl, rfl, rfl, rfl, rfl, rfl, trivial⟩ ⟨rfl, trivial⟩ ?_
  rintro ⟨fu1, most1, out2, v3⟩ hF
  cases fu1 with
  | zero => exact nomatch hF
  | succ fu1 =>
    refine join_no ?_
    refine And.intro (fun h4 => ?_) (fun h4 => ?_)
    · have hF := cpos h4 hF
      refine join_no ?_
      refine obind hF fun x5 h6 hF => ?_
      refine ⟨ix_nn h6, .inl rfl, _, ix_map cRule h6, ?_⟩
      refine Or.inl ?_
      refine And.intro (fun h7 => ?_) (fun h7 => ?_)
      · have hF := cpos h7 hF
        exact ⟨(fu1, most1, out2, (IntKind.i64.wrap (v3 + 1))), Nat.lt_succ_self _, hF, ⟨rfl, rfl, rfl, rfl, rfl, rfl, rfl, trivial⟩, ⟨rfl, trivial⟩⟩
      · have hF := cneg h7 hF
        refine And.intro (fun h8 => ?_) (fun h8 => ?_)
        · have hF := cpos h8 hF
          exact ⟨(fu1, most1, out2, (IntKind.i64.wrap (v3 + 1))), Nat.lt_succ_self _, hF, ⟨rfl, rfl, rfl, rfl, rfl, rfl, rfl, trivial⟩, ⟨rfl, trivial⟩⟩
        · have hF := cneg h8 hF
          refine obind hF fun y9 h10 hF => ?_
          refine Or.inl ⟨_, pWithin_h h10, rfl, ?_⟩
          refine And.intro (fun h11 => ?_) (fun h11 => ?_)
          · have hF := cpos h11 hF
            exact ⟨(fu1, most1, out2, (IntKind.i64.wrap (v3 + 1))), Nat.lt_succ_self _, hF, ⟨rfl, rfl, rfl, rfl, rfl, rfl, rfl, trivial⟩, ⟨rfl, trivial⟩⟩
          · have hF := cneg h11 hF
            refine obind hF fun y12 h13 hF => ?_
            refine Or.inl ⟨_, pParse_h h13, rfl, ?_⟩
            refine And.intro (fun h14 => ?_) (fun h14 => ?_)
            · have hF := cpos h14 hF
              refine Or.inl ?_
              refine And.intro (fun h15 => ?_) (fun h15 => ?_)
              · have hF := cpos h15 hF
                refine Or.inl ?_
                refine gpos hF fun h16 hF => ?_
                refine Or.inl ⟨len_all rfl, app_le (f := cInt) h16, (([] : List Int) ++ ([x5.ID] : List Int)).map cInt, map_app _ _ _, ?_⟩
                exact ⟨(fu1, ((y12.1.map cInt).length : Int), (([] : List Int) ++ ([x5.ID] : List Int)), (IntKind.i64.wrap (v3 + 1))), Nat.lt_succ_self _, hF, ⟨rfl, rfl, rfl, rfl, rfl, rfl, rfl, trivial⟩, ⟨rfl, trivial⟩⟩
              · have hF := cneg h15 hF
                exact ⟨(fu1, ((y12.1.map cInt).length : Int), ([] : List Int), (IntKind.i64.wrap (v3 + 1))), Nat.lt_succ_self _, hF, ⟨rfl, rfl, rfl, rfl, rfl, rfl, rfl, trivial⟩, ⟨rfl, trivial⟩⟩
            · have hF := cneg h14 hF
              refine And.intro (fun h17 => ?_) (fun h17 => ?_)
              · have hF := cpos h17 hF
                refine Or.inl ?_
                refine gpos hF fun h18 hF => ?_
                refine Or.inl ⟨len_all rfl, app_le (f := cInt) h18, (out2 ++ ([x5.ID] : List Int)).map cInt, map_app _ _ _, ?_⟩
                exact ⟨(fu1, most1, (out2 ++ ([x5.ID] : List Int)), (IntKind.i64.wrap (v3 + 1))), Nat.lt_succ_self _, hF, ⟨rfl, rfl, rfl, rfl, rfl, rfl, rfl, trivial⟩, ⟨rfl, trivial⟩⟩
              · have hF := cneg h17 hF
                exact ⟨(fu1, most1, out2, (IntKind.i64.wrap (v3 + 1))), Nat.lt_succ_self _, hF, ⟨rfl, rfl, rfl, rfl, rfl, rfl, rfl, trivial⟩, ⟨rfl, trivial⟩⟩
    · have hF := cneg h4 hF
      exact Or.inl ⟨rfl, congrArg (Option.map qApply_E) hF⟩
abbrev qApply_S (l : List Rule) (class_ : Str) (day : Int) : Option (List Int) := qApply_F (l.length + 1) l class_ day
theorem qApply_h {l : List Rule} {class_ : Str} {day : Int} {r : List Int} (h : qApply_S l class_ day = some r) : Holds Tryz.prog Gw 19 [.sl 8 (l.map cRule), S class_, I day] (qApply_E r) := qApply_Fh  h
abbrev qdate_E (y : Str) : CV := S y
def qdate_F (d : Int) : Option (Str) := Option.bind (dFormat_S d) fun y1 => some (y1.1)
set_option linter.unusedVariables false in
theorem qdate_Fh {d : Int} {r : Str} (hF : qdate_F d = some r) : Holds Tryz.prog Gw 56 [I d] (qdate_E r) := by
  refine holds_of_wq tabOk mixed Tryz.func56 (by decide) rfl (Nat.le_of_ble_eq_true rfl) ?_
  refine obind hF fun y1 h2 hF => ?_
  refine Or.inl ⟨_, dFormat_h h2, rfl, ?_⟩
  exact Or.inl ⟨rfl, congrArg (Option.map qdate_E) hF⟩
abbrev qdate_S (d : Int) : Option (Str) := qdate_F d
theorem qdate_h {d : Int} {r : Str} (h : qdate_S d = some r) : Holds Tryz.prog Gw 56 [I d] (qdate_E r) := qdate_Fh  h
abbrev qline_E (y : Str) : CV := S y
def qline_F (r_ : Rule) : Option (Str) := Option.bind (itoa_S r_.ID) fun y1 => bif decide (([114, 117, 108, 101, 32] : Str).length + y1.length ≤ 9223372036854775807) then bif decide ((([114, 117, 108, 101, 32] : Str) ++ y1).length + ([32, 99, 108, 97, 115, 115, 32] : Str).length ≤ 9223372036854775807) then bif decide (((([114, 117, 108, 101, 32] : Str) ++ y1) ++ ([32, 99, 108, 97, 115, 115, 32] : Str)).length + r_.Class.length ≤ 9223372036854775807) then bif (r_.Action == 3) then (bif decide ((((([114, 117, 108, 101, 32] : Str) ++ y1) ++ ([32, 99, 108, 97, 115, 115, 32] : Str)) ++ r_.Class).length + ([32, 107, 101, 101, 112] : Str).length ≤ 9223372036854775807) then Option.bind (qdate_S r_.In.From) fun y8 => bif decide (([32, 102, 114, 111, 109, 32] : Str).length + y8.length ≤ 9223372036854775807) then bif decide (((((([114, 117, 108, 101, 32] : Str) ++ y1) ++ ([32, 99, 108, 97, 115, 115, 32] : Str)) ++ r_.Class) ++ ([32, 107, 101, 101, 112] : Str)).length + (([32, 102, 114, 111, 109, 32] : Str) ++ y8).length ≤ 9223372036854775807) then bif (r_.In.Until != 1048576) then (Option.bind (qdate_S r_.In.Until) fun y13 => bif decide (([32, 117, 110, 116, 105, 108, 32] : Str).length + y13.length ≤ 9223372036854775807) then bif decide ((((((([114, 117, 108, 101, 32] : Str) ++ y1) ++ ([32, 99, 108, 97, 115, 115, 32] : Str)) ++ r_.Class) ++ ([32, 107, 101, 101, 112] : Str)) ++ (([32, 102, 114, 111, 109, 32] : Str) ++ y8)).length + (([32, 117, 110, 116, 105, 108, 32] : Str) ++ y13).length ≤ 9223372036854775807) then bif decide (((((((([114, 117, 108, 101, 32] : Str) ++ y1) ++ ([32, 99, 108, 97, 115, 115, 32] : Str)) ++ r_.Class) ++ ([32, 107, 101, 101, 112] : Str)) ++ (([32, 102, 114, 111, 109, 32] : Str) ++ y8)) ++ (([32, 117, 110, 116, 105, 108, 32] : Str) ++ y13)).length + ([10] : Str).length ≤ 9223372036854775807) then some ((((((((([114, 117, 108, 101, 32] : Str) ++ y1) ++ ([32, 99, 108, 97, 115, 115, 32] : Str)) ++ r_.Class) ++ ([32, 107, 101, 101, 112] : Str)) ++ (([32, 102, 114, 111, 109, 32] : Str) ++ y8)) ++ (([32, 117, 110, 116, 105, 108, 32] : Str) ++ y13)) ++ ([10] : Str))) else none else none else none) else (bif decide ((((((([114, 117, 108, 101, 32] : Str) ++ y1) ++ ([32, 99, 108, 97, 115, 115, 32] : Str)) ++ r_.Class) ++ ([32, 107, 101, 101, 112] : Str)) ++ (([32, 102, 114, 111, 109, 32] : Str) ++ y8)).length + ([10] : Str).length ≤ 9223372036854775807) then some (((((((([114, 117, 108, 101, 32] : Str) ++ y1) ++ ([32, 99, 108, 97, 115, 115, 32] : Str)) ++ r_.Class) ++ ([32, 107, 101, 101, 112] : Str)) ++ (([32, 102, 114, 111, 109, 32] : Str) ++ y8)) ++ ([10] : Str))) else none) else none else none else none) else (bif decide (([32, 97, 102, 116, 101, 114, 32, 34] : Str).length + r_.Trigger.length ≤ 9223372036854775807) then bif decide ((([32, 97, 102, 116, 101, 114, 32, 34] : Str) ++ r_.Trigger).length + ([34, 32] : Str).length ≤ 9223372036854775807) then Option.bind (itoa_S r_.Years) fun y21 => bif decide (((([32, 97, 102, 116, 101, 114, 32, 34] : Str) ++ r_.Trigger) ++ ([34, 32] : Str)).length + y21.length ≤ 9223372036854775807) then bif decide ((((([32, 97, 102, 116, 101, 114, 32, 34] : Str) ++ r_.Trigger) ++ ([34, 32] : Str)) ++ y21).length + ([32, 121, 101, 97, 114, 115] : Str).length ≤ 9223372036854775807) then bif decide ((((([114, 117, 108, 101, 32] : Str) ++ y1) ++ ([32, 99, 108, 97, 115, 115, 32] : Str)) ++ r_.Class).length + ((((([32, 97, 102, 116, 101, 114, 32, 34] : Str) ++ r_.Trigger) ++ ([34, 32] : Str)) ++ y21) ++ ([32, 121, 101, 97, 114, 115] : Str)).length ≤ 9223372036854775807) then bif r_.YearEnd then (bif decide (((((([114, 117, 108, 101, 32] : Str) ++ y1) ++ ([32, 99, 108, 97, 115, 115, 32] : Str)) ++ r_.Class) ++ ((((([32, 97, 102, 116, 101, 114, 32, 34] : Str) ++ r_.Trigger) ++ ([34, 32] : Str)) ++ y21) ++ ([32, 121, 101, 97, 114, 115] : Str))).length + ([32, 101, 110, 100] : Str).length ≤ 9223372036854775807) then bif (r_.Action == 1) then (bif decide ((((((([114, 117, 108, 101, 32] : Str) ++ y1) ++ ([32, 99, 108, 97, 115, 115, 32] : Str)) ++ r_.Class) ++ ((((([32, 97, 102, 116, 101, 114, 32, 34] : Str) ++ r_.Trigger) ++ ([34, 32] : Str)) ++ y21) ++ ([32, 121, 101, 97, 114, 115] : Str))) ++ ([32, 101, 110, 100] : Str)).length + ([32, 100, 101, 115, 116, 114, 111, 121] : Str).length ≤ 9223372036854775807) then Option.bind (qdate_S r_.In.From) fun y30 => bif decide (([32, 102, 114, 111, 109, 32] : Str).length + y30.length ≤ 9223372036854775807) then bif decide (((((((([114, 117, 108, 101, 32] : Str) ++ y1) ++ ([32, 99, 108, 97, 115, 115, 32] : Str)) ++ r_.Class) ++ ((((([32, 97, 102, 116, 101, 114, 32, 34] : Str) ++ r_.Trigger) ++ ([34, 32] : Str)) ++ y21) ++ ([32, 121, 101, 97, 114, 115] : Str))) ++ ([32, 101, 110, 100] : Str)) ++ ([32, 100, 101, 115, 116, 114, 111, 121] : Str)).length + (([32, 102, 114, 111, 109, 32] : Str) ++ y30).length ≤ 9223372036854775807) then bif (r_.In.Until != 1048576) then (Option.bind (qdate_S r_.In.Until) fun y35 => bif decide (([32, 117, 110, 116, 105, 108, 32] : Str).length + y35.length ≤ 9223372036854775807) then bif decide ((((((((([114, 117, 108, 101, 32] : Str) ++ y1) ++ ([32, 99, 108, 97, 115, 115, 32] : Str)) ++ r_.Class) ++ ((((([32, 97, 102, 116, 101, 114, 32, 34] : Str) ++ r_.Trigger) ++ ([34, 32] : Str)) ++ y21) ++ ([32, 121, 101, 97, 114, 115] : Str))) ++ ([32, 101, 110, 100] : Str)) ++ ([32, 100, 101, 115, 116, 114, 111, 121] : Str)) ++ (([32, 102, 114, 111, 109, 32] : Str) ++ y30)).length + (([32, 117, 110, 116, 105, 108, 32] : Str) ++ y35).length ≤ 9223372036854775807) then bif decide (((((((((([114, 117, 108, 101, 32] : Str) ++ y1) ++ ([32, 99, 108, 97, 115, 115, 32] : Str)) ++ r_.Class) ++ ((((([32, 97, 102, 116, 101, 114, 32, 34] : Str) ++ r_.Trigger) ++ ([34, 32] : Str)) ++ y21) ++ ([32, 121, 101, 97, 114, 115] : Str))) ++ ([32, 101, 110, 100] : Str)) ++ ([32, 100, 101, 115, 116, 114, 111, 121] : Str)) ++ (([32, 102, 114, 111, 109, 32] : Str) ++ y30)) ++ (([32, 117, 110, 116, 105, 108, 32] : Str) ++ y35)).length + ([10] : Str).length ≤ 9223372036854775807) then some ((((((((((([114, 117, 108, 101, 32] : Str) ++ y1) ++ ([32, 99, 108, 97, 115, 115, 32] : Str)) ++ r_.Class) ++ ((((([32, 97, 102, 116, 101, 114, 32, 34] : Str) ++ r_.Trigger) ++ ([34, 32] : Str)) ++ y21) ++ ([32, 121, 101, 97, 114, 115] : Str))) ++ ([32, 101, 110, 100] : Str)) ++ ([32, 100, 101, 115, 116, 114, 111, 121] : Str)) ++ (([32, 102, 114, 111, 109, 32] : Str) ++ y30)) ++ (([32, 117, 110, 116, 105, 108, 32] : Str) ++ y35)) ++ ([10] : Str))) else none else none else none) else (bif decide ((((((((([114, 117, 108, 101, 32] : Str) ++ y1) ++ ([32, 99, 108, 97, 115, 115, 32] : Str)) ++ r_.Class) ++ ((((([32, 97, 102, 116, 101, 114, 32, 34] : Str) ++ r_.Trigger) ++ ([34, 32] : Str)) ++ y21) ++ ([32, 121, 101, 97, 114, 115] : Str))) ++ ([32, 101, 110, 100] : Str)) ++ ([32, 100, 101, 115, 116, 114, 111, 121] : Str)) ++ (([32, 102, 114, 111, 109, 32] : Str) ++ y30)).length + ([10] : Str).length ≤ 9223372036854775807) then some (((((((((([114, 117, 108, 101, 32] : Str) ++ y1) ++ ([32, 99, 108, 97, 115, 115, 32] : Str)) ++ r_.Class) ++ ((((([32, 97, 102, 116, 101, 114, 32, 34] : Str) ++ r_.Trigger) ++ ([34, 32] : Str)) ++ y21) ++ ([32, 121, 101, 97, 114, 115] : Str))) ++ ([32, 101, 110, 100] : Str)) ++ ([32, 100, 101, 115, 116, 114, 111, 121] : Str)) ++ (([32, 102, 114, 111, 109, 32] : Str) ++ y30)) ++ ([10] : Str))) else none) else none else none else none) else (bif decide ((((((([114, 117, 108, 101, 32] : Str) ++ y1) ++ ([32, 99, 108, 97, 115, 115, 32] : Str)) ++ r_.Class) ++ ((((([32, 97, 102, 116, 101, 114, 32, 34] : Str) ++ r_.Trigger) ++ ([34, 32] : Str)) ++ y21) ++ ([32, 121, 101, 97, 114, 115] : Str))) ++ ([32, 101, 110, 100] : Str)).length + ([32, 116, 114, 97, 110, 115, 102, 101, 114] : Str).length ≤ 9223372036854775807) then Option.bind (qdate_S r_.In.From) fun y42 => bif decide (([32, 102, 114, 111, 109, 32] : Str).length + y42.length ≤ 9223372036854775807) then bif decide (((((((([114, 117, 108, 101, 32] : Str) ++ y1) ++ ([32, 99, 108, 97, 115, 115, 32] : Str)) ++ r_.Class) ++ ((((([32, 97, 102, 116, 101, 114, 32, 34] : Str) ++ r_.Trigger) ++ ([34, 32] : Str)) ++ y21) ++ ([32, 121, 101, 97, 114, 115] : Str))) ++ ([32, 101, 110, 100] : Str)) ++ ([32, 116, 114, 97, 110, 115, 102, 101, 114] : Str)).length + (([32, 102, 114, 111, 109, 32] : Str) ++ y42).length ≤ 9223372036854775807) then bif (r_.In.Until != 1048576) then (Option.bind (qdate_S r_.In.Until) fun y47 => bif decide (([32, 117, 110, 116, 105, 108, 32] : Str).length + y47.length ≤ 9223372036854775807) then bif decide ((((((((([114, 117, 108, 101, 32] : Str) ++ y1) ++ ([32, 99, 108, 97, 115, 115, 32] : Str)) ++ r_.Class) ++ ((((([32, 97, 102, 116, 101, 114, 32, 34] : Str) ++ r_.Trigger) ++ ([34, 32] : Str)) ++ y21) ++ ([32, 121, 101, 97, 114, 115] : Str))) ++ ([32, 101, 110, 100] : Str)) ++ ([32, 116, 114, 97, 110, 115, 102, 101, 114] : Str)) ++ (([32, 102, 114, 111, 109, 32] : Str) ++ y42)).length + (([32, 117, 110, 116, 105, 108, 32] : Str) ++ y47).length ≤ 9223372036854775807) then bif decide (((((((((([114, 117, 108, 101, 32] : Str) ++ y1) ++ ([32, 99, 108, 97, 115, 115, 32] : Str)) ++ r_.Class) ++ ((((([32, 97, 102, 116, 101, 114, 32, 34] : Str) ++ r_.Trigger) ++ ([34, 32] : Str)) ++ y21) ++ ([32, 121, 101, 97, 114, 115] : Str))) ++ ([32, 101, 110, 100] : Str)) ++ ([32, 116, 114, 97, 110, 115, 102, 101, 114] : Str)) ++ (([32, 102, 114, 111, 109, 32] : Str) ++ y42)) ++ (([32, 117, 110, 116, 105, 108, 32] : Str) ++ y47)).length + ([10] : Str).length ≤ 9223372036854775807) then some ((((((((((([114, 117, 108, 101, 32] : Str) ++ y1) ++ ([32, 99, 108, 97, 115, 115, 32] : Str)) ++ r_.Class) ++ ((((([32, 97, 102, 116, 101, 114, 32, 34] : Str) ++ r_.Trigger) ++ ([34, 32] : Str)) ++ y21) ++ ([32, 121, 101, 97, 114, 115] : Str))) ++ ([32, 101, 110, 100] : Str)) ++ ([32, 116, 114, 97, 110, 115, 102, 101, 114] : Str)) ++ (([32, 102, 114, 111, 109, 32] : Str) ++ y42)) ++ (([32, 117, 110, 116, 105, 108, 32] : Str) ++ y47)) ++ ([10] : Str))) else none else none else none) else (bif decide ((((((((([114, 117, 108, 101, 32] : Str) ++ y1) ++ ([32, 99, 108, 97, 115, 115, 32] : Str)) ++ r_.Class) ++ ((((([32, 97, 102, 116, 101, 114, 32, 34] : Str) ++ r_.Trigger) ++ ([34, 32] : Str)) ++ y21) ++ ([32, 121, 101, 97, 114, 115] : Str))) ++ ([32, 101, 110, 100] : Str)) ++ ([32, 116, 114, 97, 110, 115, 102, 101, 114] : Str)) ++ (([32, 102, 114, 111, 109, 32] : Str) ++ y42)).length + ([10] : Str).length ≤ 9223372036854775807) then some (((((((((([114, 117, 108, 101, 32] : Str) ++ y1) ++ ([32, 99, 108, 97, 115, 115, 32] : Str)) ++ r_.Class) ++ ((((([32, 97, 102, 116, 101, 114, 32, 34] : Str) ++ r_.Trigger) ++ ([34, 32] : Str)) ++ y21) ++ ([32, 121, 101, 97, 114, 115] : Str))) ++ ([32, 101, 110, 100] : Str)) ++ ([32, 116, 114, 97, 110, 115, 102, 101, 114] : Str)) ++ (([32, 102, 114, 111, 109, 32] : Str) ++ y42)) ++ ([10] : Str))) else none) else none else none else none) else none) else (bif (r_.Action == 1) then (bif decide (((((([114, 117, 108, 101, 32] : Str) ++ y1) ++ ([32, 99, 108, 97, 115, 115, 32] : Str)) ++ r_.Class) ++ ((((([32, 97, 102, 116, 101, 114, 32, 34] : Str) ++ r_.Trigger) ++ ([34, 32] : Str)) ++ y21) ++ ([32, 121, 101, 97, 114, 115] : Str))).length + ([32, 100, 101, 115, 116, 114, 111, 121] : Str).length ≤ 9223372036854775807) then Option.bind (qdate_S r_.In.From) fun y55 => bif decide (([32, 102, 114, 111, 109, 32] : Str).length + y55.length ≤ 9223372036854775807) then bif decide ((((((([114, 117, 108, 101, 32] : Str) ++ y1) ++ ([32, 99, 108, 97, 115, 115, 32] : Str)) ++ r_.Class) ++ ((((([32, 97, 102, 116, 101, 114, 32, 34] : Str) ++ r_.Trigger) ++ ([34, 32] : Str)) ++ y21) ++ ([32, 121, 101, 97, 114, 115] : Str))) ++ ([32, 100, 101, 115, 116, 114, 111, 121] : Str)).length + (([32, 102, 114, 111, 109, 32] : Str) ++ y55).length ≤ 9223372036854775807) then bif (r_.In.Until != 1048576) then (Option.bind (qdate_S r_.In.Until) fun y60 => bif decide (([32, 117, 110, 116, 105, 108, 32] : Str).length + y60.length ≤ 9223372036854775807) then bif decide (((((((([114, 117, 108, 101, 32] : Str) ++ y1) ++ ([32, 99, 108, 97, 115, 115, 32] : Str)) ++ r_.Class) ++ ((((([32, 97, 102, 116, 101, 114, 32, 34] : Str) ++ r_.Trigger) ++ ([34, 32] : Str)) ++ y21) ++ ([32, 121, 101, 97, 114, 115] : Str))) ++ ([32, 100, 101, 115, 116, 114, 111, 121] : Str)) ++ (([32, 102, 114, 111, 109, 32] : Str) ++ y55)).length + (([32, 117, 110, 116, 105, 108, 32] : Str) ++ y60).length ≤ 9223372036854775807) then bif decide ((((((((([114, 117, 108, 101, 32] : Str) ++ y1) ++ ([32, 99, 108, 97, 115, 115, 32] : Str)) ++ r_.Class) ++ ((((([32, 97, 102, 116, 101, 114, 32, 34] : Str) ++ r_.Trigger) ++ ([34, 32] : Str)) ++ y21) ++ ([32, 121, 101, 97, 114, 115] : Str))) ++ ([32, 100, 101, 115, 116, 114, 111, 121] : Str)) ++ (([32, 102, 114, 111, 109, 32] : Str) ++ y55)) ++ (([32, 117, 110, 116, 105, 108, 32] : Str) ++ y60)).length + ([10] : Str).length ≤ 9223372036854775807) then some (((((((((([114, 117, 108, 101, 32] : Str) ++ y1) ++ ([32, 99, 108, 97, 115, 115, 32] : Str)) ++ r_.Class) ++ ((((([32, 97, 102, 116, 101, 114, 32, 34] : Str) ++ r_.Trigger) ++ ([34, 32] : Str)) ++ y21) ++ ([32, 121, 101, 97, 114, 115] : Str))) ++ ([32, 100, 101, 115, 116, 114, 111, 121] : Str)) ++ (([32, 102, 114, 111, 109, 32] : Str) ++ y55)) ++ (([32, 117, 110, 116, 105, 108, 32] : Str) ++ y60)) ++ ([10] : Str))) else none else none else none) else (bif decide (((((((([114, 117, 108, 101, 32] : Str) ++ y1) ++ ([32, 99, 108, 97, 115, 115, 32] : Str)) ++ r_.Class) ++ ((((([32, 97, 102, 116, 101, 114, 32, 34] : Str) ++ r_.Trigger) ++ ([34, 32] : Str)) ++ y21) ++ ([32, 121, 101, 97, 114, 115] : Str))) ++ ([32, 100, 101, 115, 116, 114, 111, 121] : Str)) ++ (([32, 102, 114, 111, 109, 32] : Str) ++ y55)).length + ([10] : Str).length ≤ 9223372036854775807) then some ((((((((([114, 117, 108, 101, 32] : Str) ++ y1) ++ ([32, 99, 108, 97, 115, 115, 32] : Str)) ++ r_.Class) ++ ((((([32, 97, 102, 116, 101, 114, 32, 34] : Str) ++ r_.Trigger) ++ ([34, 32] : Str)) ++ y21) ++ ([32, 121, 101, 97, 114, 115] : Str))) ++ ([32, 100, 101, 115, 116, 114, 111, 121] : Str)) ++ (([32, 102, 114, 111, 109, 32] : Str) ++ y55)) ++ ([10] : Str))) else none) else none else none else none) else (bif decide (((((([114, 117, 108, 101, 32] : Str) ++ y1) ++ ([32, 99, 108, 97, 115, 115, 32] : Str)) ++ r_.Class) ++ ((((([32, 97, 102, 116, 101, 114, 32, 34] : Str) ++ r_.Trigger) ++ ([34, 32] : Str)) ++ y21) ++ ([32, 121, 101, 97, 114, 115] : Str))).length + ([32, 116, 114, 97, 110, 115, 102, 101, 114] : Str).length ≤ 9223372036854775807) then Option.bind (qdate_S r_.In.From) fun y67 => bif decide (([32, 102, 114, 111, 109, 32] : Str).length + y67.length ≤ 9223372036854775807) then bif decide ((((((([114, 117, 108, 101, 32] : Str) ++ y1) ++ ([32, 99, 108, 97, 115, 115, 32] : Str)) ++ r_.Class) ++ ((((([32, 97, 102, 116, 101, 114, 32, 34] : Str) ++ r_.Trigger) ++ ([34, 32] : Str)) ++ y21) ++ ([32, 121, 101, 97, 114, 115] : Str))) ++ ([32, 116, 114, 97, 110, 115, 102, 101, 114] : Str)).length + (([32, 102, 114, 111, 109, 32] : Str) ++ y67).length ≤ 9223372036854775807) then bif (r_.In.Until != 1048576) then (Option.bind (qdate_S r_.In.Until) fun y72 => bif decide (([32, 117, 110, 116, 105, 108, 32] : Str).length + y72.length ≤ 9223372036854775807) then bif decide (((((((([114, 117, 108, 101, 32] : Str) ++ y1) ++ ([32, 99, 108, 97, 115, 115, 32] : Str)) ++ r_.Class) ++ ((((([32, 97, 102, 116, 101, 114, 32, 34] : Str) ++ r_.Trigger) ++ ([34, 32] : Str)) ++ y21) ++ ([32, 121, 101, 97, 114, 115] : Str))) ++ ([32, 116, 114, 97, 110, 115, 102, 101, 114] : Str)) ++ (([32, 102, 114, 111, 109, 32] : Str) ++ y67)).length + (([32, 117, 110, 116, 105, 108, 32] : Str) ++ y72).length ≤ 9223372036854775807) then bif decide ((((((((([114, 117, 108, 101, 32] : Str) ++ y1) ++ ([32, 99, 108, 97, 115, 115, 32] : Str)) ++ r_.Class) ++ ((((([32, 97, 102, 116, 101, 114, 32, 34] : Str) ++ r_.Trigger) ++ ([34, 32] : Str)) ++ y21) ++ ([32, 121, 101, 97, 114, 115] : Str))) ++ ([32, 116, 114, 97, 110, 115, 102, 101, 114] : Str)) ++ (([32, 102, 114, 111, 109, 32] : Str) ++ y67)) ++ (([32, 117, 110, 116, 105, 108, 32] : Str) ++ y72)).length + ([10] : Str).length ≤ 9223372036854775807) then some (((((((((([114, 117, 108, 101, 32] : Str) ++ y1) ++ ([32, 99, 108, 97, 115, 115, 32] : Str)) ++ r_.Class) ++ ((((([32, 97, 102, 116, 101, 114, 32, 34] : Str) ++ r_.Trigger) ++ ([34, 32] : Str)) ++ y21) ++ ([32, 121, 101, 97, 114, 115] : Str))) ++ ([32, 116, 114, 97, 110, 115, 102, 101, 114] : Str)) ++ (([32, 102, 114, 111, 109, 32] : Str) ++ y67)) ++ (([32, 117, 110, 116, 105, 108, 32] : Str) ++ y72)) ++ ([10] : Str))) else none else none else none) else (bif decide (((((((([114, 117, 108, 101, 32] : Str) ++ y1) ++ ([32, 99, 108, 97, 115, 115, 32] : Str)) ++ r_.Class) ++ ((((([32, 97, 102, 116, 101, 114, 32, 34] : Str) ++ r_.Trigger) ++ ([34, 32] : Str)) ++ y21) ++ ([32, 121, 101, 97, 114, 115] : Str))) ++ ([32, 116, 114, 97, 110, 115, 102, 101, 114] : Str)) ++ (([32, 102, 114, 111, 109, 32] : Str) ++ y67)).length + ([10] : Str).length ≤ 9223372036854775807) then some ((((((((([114, 117, 108, 101, 32] : Str) ++ y1) ++ ([32, 99, 108, 97, 115, 115, 32] : Str)) ++ r_.Class) ++ ((((([32, 97, 102, 116, 101, 114, 32, 34] : Str) ++ r_.Trigger) ++ ([34, 32] : Str)) ++ y21) ++ ([32, 121, 101, 97, 114, 115] : Str))) ++ ([32, 116, 114, 97, 110, 115, 102, 101, 114] : Str)) ++ (([32, 102, 114, 111, 109, 32] : Str) ++ y67)) ++ ([10] : Str))) else none) else none else none else none)) else none else none else none else none else none) else none else none else none
set_option linter.unusedVariables false in
theorem qline_Fh {r_ : Rule} {r : Str} (hF : qline_F r_ = some r) : Holds Tryz.prog Gw 31 [.agg (cRule r_)] (qline_E r) := by
  refine holds_of_wq tabOk mixed Tryz.func31 (by decide) rfl (Nat.le_of_ble_eq_true rfl) ?_
  refine Or.inl ?_
  refine obind hF fun y1 h2 hF => ?_
  refine Or.inl ⟨_, itoa_h h2, rfl, ?_⟩
  refine gpos hF fun h3 hF => ?_
  refine ⟨of_decide_eq_true h3, _, scat _ _, ?_⟩
  refine gpos hF fun h4 hF => ?_
  refine ⟨of_decide_eq_true h4, _, scat _ _, ?_⟩
  refine gpos hF fun h5 hF => ?_
  refine ⟨of_decide_eq_true h5, _, scat _ _, ?_⟩
  refine And.intro (by kernel_rfl) ?_
  refine And.intro (fun h6 => ?_) (fun h6 => ?_)
  · have hF := cpos h6 hF
    refine gpos hF fun h7 hF => ?_
    refine ⟨of_decide_eq_true h7, _, scat _ _, ?_⟩
    refine obind hF fun y8 h9 hF => ?_
    refine Or.inl ⟨_, qdate_h h9, rfl, ?_⟩
    refine gpos hF fun h10 hF => ?_
    refine ⟨of_decide_eq_true h10, _, scat _ _, ?_⟩
    refine gpos hF fun h11 hF => ?_
    refine ⟨of_decide_eq_true h11, _, scat _ _, ?_⟩
    refine And.intro (fun h12 => ?_) (fun h12 => ?_)
    · have hF := cpos h12 hF
      refine obind hF fun y13 h14 hF => ?_
      refine Or.inl ⟨_, qdate_h h14, rfl, ?_⟩
      refine gpos hF fun h15 hF => ?_
      refine ⟨of_decide_eq_true h15, _, scat _ _, ?_⟩
      refine gpos hF fun h16 hF => ?_
      refine ⟨of_decide_eq_true h16, _, scat _ _, ?_⟩
      refine gpos hF fun h17 hF => ?_
      refine ⟨of_decide_eq_true h17, _, scat _ _, ?_⟩
      exact Or.inl ⟨rfl, congrArg (Option.map qline_E) hF⟩
    · have hF := cneg h12 hF
      refine gpos hF fun h18 hF => ?_
      refine ⟨of_decide_eq_true h18, _, scat _ _, ?_⟩
      exact Or.inl ⟨rfl, congrArg (Option.map qline_E) hF⟩
  · have hF := cneg h6 hF
    refine gpos hF fun h19 hF => ?_
    refine ⟨of_decide_eq_true h19, _, scat _ _, ?_⟩
    refine gpos hF fun h20 hF => ?_
    refine ⟨of_decide_eq_true h20, _, scat _ _, ?_⟩
    refine obind hF fun y21 h22 hF => ?_
    refine Or.inl ⟨_, itoa_h h22, rfl, ?_⟩
    refine gpos hF fun h23 hF => ?_
    refine ⟨of_decide_eq_true h23, _, scat _ _, ?_⟩
    refine gpos hF fun h24 hF => ?_
    refine ⟨of_decide_eq_true h24, _, scat _ _, ?_⟩
    refine gpos hF fun h25 hF => ?_
    refine ⟨of_decide_eq_true h25, _, scat _ _, ?_⟩
    refine And.intro (by kernel_rfl) ?_
    refine And.intro (fun h26 => ?_) (fun h26 => ?_)
    · have hF := cpos h26 hF
      refine gpos hF fun h27 hF => ?_
      refine ⟨of_decide_eq_true h27, _, scat _ _, ?_⟩
      refine And.intro (fun h28 => ?_) (fun h28 => ?_)
      · have hF := cpos h28 hF
        refine gpos hF fun h29 hF => ?_
        refine ⟨of_decide_eq_true h29, _, scat _ _, ?_⟩
        refine obind hF fun y30 h31 hF => ?_
        refine Or.inl ⟨_, qdate_h h31, rfl, ?_⟩
        refine gpos hF fun h32 hF => ?_
        refine ⟨of_decide_eq_true h32, _, scat _ _, ?_⟩
        refine gpos hF fun h33 hF => ?_
        refine ⟨of_decide_eq_true h33, _, scat _ _, ?_⟩
        refine And.intro (fun h34 => ?_) (fun h34 => ?_)
        · have hF := cpos h34 hF
          refine obind hF fun y35 h36 hF => ?_
          refine Or.inl ⟨_, qdate_h h36, rfl, ?_⟩
          refine gpos hF fun h37 hF => ?_
          refine ⟨of_decide_eq_true h37, _, scat _ _, ?_⟩
          refine gpos hF fun h38 hF => ?_
          refine ⟨of_decide_eq_true h38, _, scat _ _, ?_⟩
          refine gpos hF fun h39 hF => ?_
          refine ⟨of_decide_eq_true h39, _, scat _ _, ?_⟩
          exact Or.inl ⟨rfl, congrArg (Option.map qline_E) hF⟩
        · have hF := cneg h34 hF
          refine gpos hF fun h40 hF => ?_
          refine ⟨of_decide_eq_true h40, _, scat _ _, ?_⟩
          exact Or.inl ⟨rfl, congrArg (Option.map qline_E) hF⟩
      · have hF := cneg h28 hF
        refine gpos hF fun h41 hF => ?_
        refine ⟨of_decide_eq_true h41, _, scat _ _, ?_⟩
        refine obind hF fun y42 h43 hF => ?_
        refine Or.inl ⟨_, qdate_h h43, rfl, ?_⟩
        refine gpos hF fun h44 hF => ?_
        refine ⟨of_decide_eq_true h44, _, scat _ _, ?_⟩
        refine gpos hF fun h45 hF => ?_
        refine ⟨of_decide_eq_true h45, _, scat _ _, ?_⟩
        refine And.intro (fun h46 => ?_) (fun h46 => ?_)
        · have hF := cpos h46 hF
          refine obind hF fun y47 h48 hF => ?_
          refine Or.inl ⟨_, qdate_h h48, rfl, ?_⟩
          refine gpos hF fun h49 hF => ?_
          refine ⟨of_decide_eq_true h49, _, scat _ _, ?_⟩
          refine gpos hF fun h50 hF => ?_
          refine ⟨of_decide_eq_true h50, _, scat _ _, ?_⟩
          refine gpos hF fun h51 hF => ?_
          refine ⟨of_decide_eq_true h51, _, scat _ _, ?_⟩
          exact Or.inl ⟨rfl, congrArg (Option.map qline_E) hF⟩
        · have hF := cneg h46 hF
          refine gpos hF fun h52 hF => ?_
          refine ⟨of_decide_eq_true h52, _, scat _ _, ?_⟩
          exact Or.inl ⟨rfl, congrArg (Option.map qline_E) hF⟩
    · have hF := cneg h26 hF
      refine And.intro (fun h53 => ?_) (fun h53 => ?_)
      · have hF := cpos h53 hF
        refine gpos hF fun h54 hF => ?_
        refine ⟨of_decide_eq_true h54, _, scat _ _, ?_⟩
        refine obind hF fun y55 h56 hF => ?_
        refine Or.inl ⟨_, qdate_h h56, rfl, ?_⟩
        refine gpos hF fun h57 hF => ?_
        refine ⟨of_decide_eq_true h57, _, scat _ _, ?_⟩
        refine gpos hF fun h58 hF => ?_
        refine ⟨of_decide_eq_true h58, _, scat _ _, ?_⟩
        refine And.intro (fun h59 => ?_) (fun h59 => ?_)
        · have hF := cpos h59 hF
          refine obind hF fun y60 h61 hF => ?_
          refine Or.inl ⟨_, qdate_h h61, rfl, ?_⟩
          refine gpos hF fun h62 hF => ?_
          refine ⟨of_decide_eq_true h62, _, scat _ _, ?_⟩
          refine gpos hF fun h63 hF => ?_
          refine ⟨of_decide_eq_true h63, _, scat _ _, ?_⟩
          refine gpos hF fun h64 hF => ?_
          refine ⟨of_decide_eq_true h64, _, scat _ _, ?_⟩
          exact Or.inl ⟨rfl, congrArg (Option.map qline_E) hF⟩
        · have hF := cneg h59 hF
          refine gpos hF fun h65 hF => ?_
          refine ⟨of_decide_eq_true h65, _, scat _ _, ?_⟩
          exact Or.inl ⟨rfl, congrArg (Option.map qline_E) hF⟩
      · have hF := cneg h53 hF
        refine gpos hF fun h66 hF => ?_
        refine ⟨of_decide_eq_true h66, _, scat _ _, ?_⟩
        refine obind hF fun y67 h68 hF => ?_
        refine Or.inl ⟨_, qdate_h h68, rfl, ?_⟩
        refine gpos hF fun h69 hF => ?_
        refine ⟨of_decide_eq_true h69, _, scat _ _, ?_⟩
        refine gpos hF fun h70 hF => ?_
        refine ⟨of_decide_eq_true h70, _, scat _ _, ?_⟩
        refine And.intro (fun h71 => ?_) (fun h71 => ?_)
        · have hF := cpos h71 hF
          refine obind hF fun y72 h73 hF => ?_
          refine Or.inl ⟨_, qdate_h h73, rfl, ?_⟩
          refine gpos hF fun h74 hF => ?_
          refine ⟨of_decide_eq_true h74, _, scat _ _, ?_⟩
          refine gpos hF fun h75 hF => ?_
          refine ⟨of_decide_eq_true h75, _, scat _ _, ?_⟩
          refine gpos hF fun h76 hF => ?_
          refine ⟨of_decide_eq_true h76, _, scat _ _, ?_⟩
          exact Or.inl ⟨rfl, congrArg (Option.map qline_E) hF⟩
        · have hF := cneg h71 hF
          refine gpos hF fun h77 hF => ?_
          refine ⟨of_decide_eq_true h77, _, scat _ _, ?_⟩
          exact Or.inl ⟨rfl, congrArg (Option.map qline_E) hF⟩
abbrev qline_S (r_ : Rule) : Option (Str) := qline_F r_
theorem qline_h {r_ : Rule} {r : Str} (h : qline_S r_ = some r) : Holds Tryz.prog Gw 31 [.agg (cRule r_)] (qline_E r) := qline_Fh  h
def ttry_F (u0 : RestT) (s : Str) : Option (Bool × RestT) := Option.bind (sCutPrefix_S u0.s s) fun y1 => some (y1.2, (⟨y1.1, u0.bad⟩ : RestT))
set_option linter.unusedVariables false in
theorem ttry_XFh {u0 : RestT} {s : Str} {r : Bool × RestT} (hF : ttry_F u0 s = some r) : EffFn Tryz.prog Gw 62 [.pm 0 0 0, .c (S s)] [(0, .var [S u0.s, B u0.bad])] (.c (B r.1)) [(0, .var [S r.2.s, B r.2.bad])] := by
  refine effn_of_wq tabOk mixed Tryz.func62 (by decide) rfl (Nat.le_of_ble_eq_true rfl) rfl ?_
  refine obind hF fun y1 h2 hF => ?_
  refine Or.inl ⟨_, sCutPrefix_h h2, rfl, ?_⟩
  refine ret_eq (p := fun r => effFin tab _ 1 (.c (B r.1)) [(0, .var [S r.2.s, B r.2.bad])] _) hF ?_
  exact ⟨[(4294967296, 0)], [0], rfl, rfl, rfl⟩
abbrev ttry_XS (u0 : RestT) (s : Str) : Option (Bool × RestT) := ttry_F u0 s
theorem ttry_Xh {u0 : RestT} {s : Str} {r : Bool × RestT} (h : ttry_XS u0 s = some r) : EffFn Tryz.prog Gw 62 [.pm 0 0 0, .c (S s)] [(0, .var [S u0.s, B u0.bad])] (.c (B r.1)) [(0, .var [S r.2.s, B r.2.bad])] := ttry_XFh  h
def ttake_F (u0 : RestT) (s : Str) : Option (RestT) := Option.bind (ttry_XS u0 s) fun y1 => bif (!y1.1) then some ((⟨y1.2.s, true⟩ : RestT)) else some (y1.2)
set_option linter.unusedVariables false in
theorem ttake_XFh {u0 : RestT} {s : Str} {r : RestT} (hF : ttake_F u0 s = some r) : EffFn Tryz.prog Gw 59 [.pm 0 0 0, .c (S s)] [(0, .var [S u0.s, B u0.bad])] (.c (.tup [])) [(0, .var [S r.s, B r.bad])] := by
  refine effn_of_wq tabOk mixed Tryz.func59 (by decide) rfl (Nat.le_of_ble_eq_true rfl) rfl ?_
  refine obind hF fun y1 h2 hF => ?_
  refine Or.inr (Or.inr ⟨[(4294967296, 0)], 0, _, _, _, _, rfl, rfl, eff_call rfl (Or.inr ⟨_, rfl, rfl⟩) (ttry_Xh h2), rfl, ?_⟩)
  refine And.intro (fun h3 => ?_) (fun h3 => ?_)
  · have hF := cpos h3 hF
    refine ret_eq (p := fun r => effFin tab _ 1 (.c (.tup [])) [(0, .var [S r.s, B r.bad])] _) hF ?_
    exact ⟨[(4294967296, 0)], [0], rfl, rfl, rfl⟩
  · have hF := cneg h3 hF
    refine ret_eq (p := fun r => effFin tab _ 1 (.c (.tup [])) [(0, .var [S r.s, B r.bad])] _) hF ?_
    exact ⟨[(4294967296, 0)], [0], rfl, rfl, rfl⟩
abbrev ttake_XS (u0 : RestT) (s : Str) : Option (RestT) := ttake_F u0 s
theorem ttake_Xh {u0 : RestT} {s : Str} {r : RestT} (h : ttake_XS u0 s = some r) : EffFn Tryz.prog Gw 59 [.pm 0 0 0, .c (S s)] [(0, .var [S u0.s, B u0.bad])] (.c (.tup [])) [(0, .var [S r.s, B r.bad])] := ttake_XFh  h
def tuntil_F (u0 : RestT) (bytes : Str) : Option (Str × RestT) := Option.bind (sIndexAny_S u0.s bytes) fun y1 => bif decide (y1 < 0) then (Option.bind (slc u0.s 0 (u0.s.length : Int)) fun y4 => Option.bind (slc u0.s (u0.s.length : Int) (u0.s.length : Int)) fun y6 => some (y4, (⟨y6, u0.bad⟩ : RestT))) else (Option.bind (slc u0.s 0 y1) fun y8 => Option.bind (slc u0.s y1 (u0.s.length : Int)) fun y10 => some (y8, (⟨y10, u0.bad⟩ : RestT)))
set_option linter.unusedVariables false in
theorem tuntil_XFh {u0 : RestT} {bytes : Str} {r : Str × RestT} (hF : tuntil_F u0 bytes = some r) : EffFn Tryz.prog Gw 61 [.pm 0 0 0, .c (S bytes)] [(0, .var [S u0.s, B u0.bad])] (.c (S r.1)) [(0, .var [S r.2.s, B r.2.bad])] := by
  refine effn_of_wq tabOk mixed Tryz.func61 (by decide) rfl (Nat.le_of_ble_eq_true rfl) rfl ?_
  refine obind hF fun y1 h2 hF => ?_
  refine Or.inl ⟨_, sIndexAny_h h2, rfl, ?_⟩
  refine And.intro (fun h3 => ?_) (fun h3 => ?_)
  · have hF := cpos h3 hF
    refine obind hF fun y4 h5 hF => ?_
    refine Or.inr ⟨[], 0, _, _, _, _, rfl, rfl, eff_sslice_h tok9.u h5, rfl, ?_⟩
    refine obind hF fun y6 h7 hF => ?_
    refine Or.inr ⟨[], 0, _, _, _, _, rfl, rfl, eff_sslice_l tok9.u h7, rfl, ?_⟩
    refine ret_eq (p := fun r => effFin tab _ 1 (.c (S r.1)) [(0, .var [S r.2.s, B r.2.bad])] _) hF ?_
    exact ⟨[(4294967296, 0)], [0], rfl, rfl, rfl⟩
  · have hF := cneg h3 hF
    refine obind hF fun y8 h9 hF => ?_
    refine Or.inr ⟨[], 0, _, _, _, _, rfl, rfl, eff_sslice_h tok9.u h9, rfl, ?_⟩
    refine obind hF fun y10 h11 hF => ?_
    refine Or.inr ⟨[], 0, _, _, _, _, rfl, rfl, eff_sslice_l tok9.u h11, rfl, ?_⟩
    refine ret_eq (p := fun r => effFin tab _ 1 (.c (S r.1)) [(0, .var [S r.2.s, B r.2.bad])] _) hF ?_
    exact ⟨[(4294967296, 0)], [0], rfl, rfl, rfl⟩
abbrev tuntil_XS (u0 : RestT) (bytes : Str) : Option (Str × RestT) := tuntil_F u0 bytes
theorem tuntil_Xh {u0 : RestT} {bytes : Str} {r : Str × RestT} (h : tuntil_XS u0 bytes = some r) : EffFn Tryz.prog Gw 61 [.pm 0 0 0, .c (S bytes)] [(0, .var [S u0.s, B u0.bad])] (.c (S r.1)) [(0, .var [S r.2.s, B r.2.bad])] := tuntil_XFh  h
def tnumber_F (u0 : RestT) : Option (Int × RestT) := Option.bind (tuntil_XS u0 ([32] : Str)) fun y1 => Option.bind (atoi_S y1.1) fun y3 => bif y3.2 then some (y3.1, (⟨y1.2.s, true⟩ : RestT)) else (bif decide (y3.1 < 0) then some (y3.1, (⟨y1.2.s, true⟩ : RestT)) else (bif decide (y3.1 > 1073741824) then some (y3.1, (⟨y1.2.s, true⟩ : RestT)) else (Option.bind (itoa_S y3.1) fun y8 => bif (!(y8 == y1.1)) then some (y3.1, (⟨y1.2.s, true⟩ : RestT)) else some (y3.1, y1.2))))
set_option linter.unusedVariables false in
theorem tnumber_XFh {u0 : RestT} {r : Int × RestT} (hF : tnumber_F u0 = some r) : EffFn Tryz.prog Gw 60 [.pm 0 0 0] [(0, .var [S u0.s, B u0.bad])] (.c (I r.1)) [(0, .var [S r.2.s, B r.2.bad])] := by
  refine effn_of_wq tabOk mixed Tryz.func60 (by decide) rfl (Nat.le_of_ble_eq_true rfl) rfl ?_
  refine obind hF fun y1 h2 hF => ?_
  refine Or.inr (Or.inr ⟨[(4294967296, 0)], 0, _, _, _, _, rfl, rfl, eff_call rfl (Or.inr ⟨_, rfl, rfl⟩) (tuntil_Xh h2), rfl, ?_⟩)
  refine obind hF fun y3 h4 hF => ?_
  refine Or.inl ⟨_, atoi_h h4, rfl, ?_⟩
  refine Or.inr ⟨[], 0, _, _, _, _, rfl, rfl, eff_errn errTy, rfl, ?_⟩
  refine And.intro (fun h5 => ?_) (fun h5 => ?_)
  · have hF := cpos h5 hF
    refine ret_eq (p := fun r => effFin tab _ 1 (.c (I r.1)) [(0, .var [S r.2.s, B r.2.bad])] _) hF ?_
    exact ⟨[(4294967296, 0)], [0], rfl, rfl, rfl⟩
  · have hF := cneg h5 hF
    refine And.intro (fun h6 => ?_) (fun h6 => ?_)
    · have hF := cpos h6 hF
      refine ret_eq (p := fun r => effFin tab _ 1 (.c (I r.1)) [(0, .var [S r.2.s, B r.2.bad])] _) hF ?_
      exact ⟨[(4294967296, 0)], [0], rfl, rfl, rfl⟩
    · have hF := cneg h6 hF
      refine And.intro (fun h7 => ?_) (fun h7 => ?_)
      · have hF := cpos h7 hF
        refine ret_eq (p := fun r => effFin tab _ 1 (.c (I r.1)) [(0, .var [S r.2.s, B r.2.bad])] _) hF ?_
        exact ⟨[(4294967296, 0)], [0], rfl, rfl, rfl⟩
      · have hF := cneg h7 hF
        refine obind hF fun y8 h9 hF => ?_
        refine Or.inl ⟨_, itoa_h h9, rfl, ?_⟩
        refine And.intro (fun h10 => ?_) (fun h10 => ?_)
        · have hF := cpos h10 hF
          refine ret_eq (p := fun r => effFin tab _ 1 (.c (I r.1)) [(0, .var [S r.2.s, B r.2.bad])] _) hF ?_
          exact ⟨[(4294967296, 0)], [0], rfl, rfl, rfl⟩
        · have hF := cneg h10 hF
          refine ret_eq (p := fun r => effFin tab _ 1 (.c (I r.1)) [(0, .var [S r.2.s, B r.2.bad])] _) hF ?_
          exact ⟨[(4294967296, 0)], [0], rfl, rfl, rfl⟩
abbrev tnumber_XS (u0 : RestT) : Option (Int × RestT) := tnumber_F u0
theorem tnumber_Xh {u0 : RestT} {r : Int × RestT} (h : tnumber_XS u0 = some r) : EffFn Tryz.prog Gw 60 [.pm 0 0 0] [(0, .var [S u0.s, B u0.bad])] (.c (I r.1)) [(0, .var [S r.2.s, B r.2.bad])] := tnumber_XFh  h
def tdate_F (u0 : RestT) : Option (Int × RestT) := Option.bind (tuntil_XS u0 ([32] : Str)) fun y1 => Option.bind (dParse_S y1.1) fun y3 => bif (y3.2 != 0) then some (y3.1, (⟨y1.2.s, true⟩ : RestT)) else some (y3.1, y1.2)
set_option linter.unusedVariables false in
theorem tdate_XFh {u0 : RestT} {r : Int × RestT} (hF : tdate_F u0 = some r) : EffFn Tryz.prog Gw 63 [.pm 0 0 0] [(0, .var [S u0.s, B u0.bad])] (.c (I r.1)) [(0, .var [S r.2.s, B r.2.bad])] := by
  refine effn_of_wq tabOk mixed Tryz.func63 (by decide) rfl (Nat.le_of_ble_eq_true rfl) rfl ?_
  refine obind hF fun y1 h2 hF => ?_
  refine Or.inr (Or.inr ⟨[(4294967296, 0)], 0, _, _, _, _, rfl, rfl, eff_call rfl (Or.inr ⟨_, rfl, rfl⟩) (tuntil_Xh h2), rfl, ?_⟩)
  refine obind hF fun y3 h4 hF => ?_
  refine Or.inl ⟨_, dParse_h h4, rfl, ?_⟩
  refine And.intro (fun h5 => ?_) (fun h5 => ?_)
  · have hF := cpos h5 hF
    refine ret_eq (p := fun r => effFin tab _ 1 (.c (I r.1)) [(0, .var [S r.2.s, B r.2.bad])] _) hF ?_
    exact ⟨[(4294967296, 0)], [0], rfl, rfl, rfl⟩
  · have hF := cneg h5 hF
    refine ret_eq (p := fun r => effFin tab _ 1 (.c (I r.1)) [(0, .var [S r.2.s, B r.2.bad])] _) hF ?_
    exact ⟨[(4294967296, 0)], [0], rfl, rfl, rfl⟩
abbrev tdate_XS (u0 : RestT) : Option (Int × RestT) := tdate_F u0
theorem tdate_Xh {u0 : RestT} {r : Int × RestT} (h : tdate_XS u0 = some r) : EffFn Tryz.prog Gw 63 [.pm 0 0 0] [(0, .var [S u0.s, B u0.bad])] (.c (I r.1)) [(0, .var [S r.2.s, B r.2.bad])] := tdate_XFh  h
abbrev qread_E (y : Rule × Bool) : CV := .tup [.agg (cRule y.1), B y.2]
def qread_F (s : Str) : Option (Rule × Bool) := Option.bind (ttake_XS (⟨s, false⟩ : RestT) ([114, 117, 108, 101, 32] : Str)) fun y1 => Option.bind (tnumber_XS y1) fun y3 => Option.bind (ttake_XS y3.2 ([32, 99, 108, 97, 115, 115, 32] : Str)) fun y5 => Option.bind (tuntil_XS y5 ([32] : Str)) fun y7 => Option.bind (pParse_S y7.1) fun y9 => bif (y9.2 != 0) then (Option.bind (ttry_XS (⟨y7.2.s, true⟩ : RestT) ([32, 107, 101, 101, 112] : Str)) fun y12 => bif y12.1 then (Option.bind (ttake_XS y12.2 ([32, 102, 114, 111, 109, 32] : Str)) fun y15 => Option.bind (tdate_XS y15) fun y17 => Option.bind (ttry_XS y17.2 ([32, 117, 110, 116, 105, 108, 32] : Str)) fun y19 => bif y19.1 then (Option.bind (tdate_XS y19.2) fun y22 => bif (!y22.2.bad) then some ((⟨y3.1, y7.1, ([111, 112, 101, 110, 101, 100] : Str), 0, false, 3, (⟨y17.1, y22.1⟩ : Span)⟩ : Rule), (y22.2.s == ([] : Str))) else some ((⟨y3.1, y7.1, ([111, 112, 101, 110, 101, 100] : Str), 0, false, 3, (⟨y17.1, y22.1⟩ : Span)⟩ : Rule), false)) else (bif (!y19.2.bad) then some ((⟨y3.1, y7.1, ([111, 112, 101, 110, 101, 100] : Str), 0, false, 3, (⟨y17.1, 1048576⟩ : Span)⟩ : Rule), (y19.2.s == ([] : Str))) else some ((⟨y3.1, y7.1, ([111, 112, 101, 110, 101, 100] : Str), 0, false, 3, (⟨y17.1, 1048576⟩ : Span)⟩ : Rule), false))) else (Option.bind (ttake_XS y12.2 ([32, 97, 102, 116, 101, 114, 32, 34] : Str)) fun y26 => Option.bind (tuntil_XS y26 ([34] : Str)) fun y28 => Option.bind (ttake_XS y28.2 ([34, 32] : Str)) fun y30 => Option.bind (tnumber_XS y30) fun y32 => Option.bind (ttake_XS y32.2 ([32, 121, 101, 97, 114, 115] : Str)) fun y34 => Option.bind (ttry_XS y34 ([32, 101, 110, 100] : Str)) fun y36 => Option.bind (ttry_XS y36.2 ([32, 100, 101, 115, 116, 114, 111, 121] : Str)) fun y38 => bif (!y38.1) then (Option.bind (ttake_XS y38.2 ([32, 116, 114, 97, 110, 115, 102, 101, 114] : Str)) fun y41 => Option.bind (ttake_XS y41 ([32, 102, 114, 111, 109, 32] : Str)) fun y43 => Option.bind (tdate_XS y43) fun y45 => Option.bind (ttry_XS y45.2 ([32, 117, 110, 116, 105, 108, 32] : Str)) fun y47 => bif y47.1 then (Option.bind (tdate_XS y47.2) fun y50 => bif (!y50.2.bad) then some ((⟨y3.1, y7.1, y28.1, y32.1, y36.1, 2, (⟨y45.1, y50.1⟩ : Span)⟩ : Rule), (y50.2.s == ([] : Str))) else some ((⟨y3.1, y7.1, y28.1, y32.1, y36.1, 2, (⟨y45.1, y50.1⟩ : Span)⟩ : Rule), false)) else (bif (!y47.2.bad) then some ((⟨y3.1, y7.1, y28.1, y32.1, y36.1, 2, (⟨y45.1, 1048576⟩ : Span)⟩ : Rule), (y47.2.s == ([] : Str))) else some ((⟨y3.1, y7.1, y28.1, y32.1, y36.1, 2, (⟨y45.1, 1048576⟩ : Span)⟩ : Rule), false))) else (Option.bind (ttake_XS y38.2 ([32, 102, 114, 111, 109, 32] : Str)) fun y54 => Option.bind (tdate_XS y54) fun y56 => Option.bind (ttry_XS y56.2 ([32, 117, 110, 116, 105, 108, 32] : Str)) fun y58 => bif y58.1 then (Option.bind (tdate_XS y58.2) fun y61 => bif (!y61.2.bad) then some ((⟨y3.1, y7.1, y28.1, y32.1, y36.1, 1, (⟨y56.1, y61.1⟩ : Span)⟩ : Rule), (y61.2.s == ([] : Str))) else some ((⟨y3.1, y7.1, y28.1, y32.1, y36.1, 1, (⟨y56.1, y61.1⟩ : Span)⟩ : Rule), false)) else (bif (!y58.2.bad) then some ((⟨y3.1, y7.1, y28.1, y32.1, y36.1, 1, (⟨y56.1, 1048576⟩ : Span)⟩ : Rule), (y58.2.s == ([] : Str))) else some ((⟨y3.1, y7.1, y28.1, y32.1, y36.1, 1, (⟨y56.1, 1048576⟩ : Span)⟩ : Rule), false))))) else (Option.bind (ttry_XS y7.2 ([32, 107, 101, 101, 112] : Str)) fun y65 => bif y65.1 then (Option.bind (ttake_XS y65.2 ([32, 102, 114, 111, 109, 32] : Str)) fun y68 => Option.bind (tdate_XS y68) fun y70 => Option.bind (ttry_XS y70.2 ([32, 117, 110, 116, 105, 108, 32] : Str)) fun y72 => bif y72.1 then (Option.bind (tdate_XS y72.2) fun y75 => bif (!y75.2.bad) then some ((⟨y3.1, y7.1, ([111, 112, 101, 110, 101, 100] : Str), 0, false, 3, (⟨y70.1, y75.1⟩ : Span)⟩ : Rule), (y75.2.s == ([] : Str))) else some ((⟨y3.1, y7.1, ([111, 112, 101, 110, 101, 100] : Str), 0, false, 3, (⟨y70.1, y75.1⟩ : Span)⟩ : Rule), false)) else (bif (!y72.2.bad) then some ((⟨y3.1, y7.1, ([111, 112, 101, 110, 101, 100] : Str), 0, false, 3, (⟨y70.1, 1048576⟩ : Span)⟩ : Rule), (y72.2.s == ([] : Str))) else some ((⟨y3.1, y7.1, ([111, 112, 101, 110, 101, 100] : Str), 0, false, 3, (⟨y70.1, 1048576⟩ : Span)⟩ : Rule), false))) else (Option.bind (ttake_XS y65.2 ([32, 97, 102, 116, 101, 114, 32, 34] : Str)) fun y79 => Option.bind (tuntil_XS y79 ([34] : Str)) fun y81 => Option.bind (ttake_XS y81.2 ([34, 32] : Str)) fun y83 => Option.bind (tnumber_XS y83) fun y85 => Option.bind (ttake_XS y85.2 ([32, 121, 101, 97, 114, 115] : Str)) fun y87 => Option.bind (ttry_XS y87 ([32, 101, 110, 100] : Str)) fun y89 => Option.bind (ttry_XS y89.2 ([32, 100, 101, 115, 116, 114, 111, 121] : Str)) fun y91 => bif (!y91.1) then (Option.bind (ttake_XS y91.2 ([32, 116, 114, 97, 110, 115, 102, 101, 114] : Str)) fun y94 => Option.bind (ttake_XS y94 ([32, 102, 114, 111, 109, 32] : Str)) fun y96 => Option.bind (tdate_XS y96) fun y98 => Option.bind (ttry_XS y98.2 ([32, 117, 110, 116, 105, 108, 32] : Str)) fun y100 => bif y100.1 then (Option.bind (tdate_XS y100.2) fun y103 => bif (!y103.2.bad) then some ((⟨y3.1, y7.1, y81.1, y85.1, y89.1, 2, (⟨y98.1, y103.1⟩ : Span)⟩ : Rule), (y103.2.s == ([] : Str))) else some ((⟨y3.1, y7.1, y81.1, y85.1, y89.1, 2, (⟨y98.1, y103.1⟩ : Span)⟩ : Rule), false)) else (bif (!y100.2.bad) then some ((⟨y3.1, y7.1, y81.1, y85.1, y89.1, 2, (⟨y98.1, 1048576⟩ : Span)⟩ : Rule), (y100.2.s == ([] : Str))) else some ((⟨y3.1, y7.1, y81.1, y85.1, y89.1, 2, (⟨y98.1, 1048576⟩ : Span)⟩ : Rule), false))) else (Option.bind (ttake_XS y91.2 ([32, 102, 114, 111, 109, 32] : Str)) fun y107 => Option.bind (tdate_XS y107) fun y109 => Option.bind (ttry_XS y109.2 ([32, 117, 110, 116, 105, 108, 32] : Str)) fun y111 => bif y111.1 then (Option.bind (tdate_XS y111.2) fun y114 => bif (!y114.2.bad) then some ((⟨y3.1, y7.1, y81.1, y85.1, y89.1, 1, (⟨y109.1, y114.1⟩ : Span)⟩ : Rule), (y114.2.s == ([] : Str))) else some ((⟨y3.1, y7.1, y81.1, y85.1, y89.1, 1, (⟨y109.1, y114.1⟩ : Span)⟩ : Rule), false)) else (bif (!y111.2.bad) then some ((⟨y3.1, y7.1, y81.1, y85.1, y89.1, 1, (⟨y109.1, 1048576⟩ : Span)⟩ : Rule), (y111.2.s == ([] : Str))) else some ((⟨y3.1, y7.1, y81.1, y85.1, y89.1, 1, (⟨y109.1, 1048576⟩ : Span)⟩ : Rule), false)))))
set_option linter.unusedVariables false in
theorem qread_Fh {s : Str} {r : Rule × Bool} (hF : qread_F s = some r) : Holds Tryz.prog Gw 34 [S s] (qread_E r) := by
  refine holds_of_wq tabOk mixed Tryz.func34 (by decide) rfl (Nat.le_of_ble_eq_true rfl) ?_
  refine Or.inl ?_
  refine Or.inl ?_
  refine Or.inl ?_
  refine Or.inl ?_
  refine obind hF fun y1 h2 hF => ?_
  refine Or.inr (Or.inr ⟨[(10, 1)], 0, _, _, _, _, rfl, rfl, eff_call rfl (Or.inr ⟨_, rfl, rfl⟩) (ttake_Xh h2), rfl, ?_⟩)
  refine obind hF fun y3 h4 hF => ?_
  refine Or.inr (Or.inr ⟨[(10, 1)], 0, _, _, _, _, rfl, rfl, eff_call rfl (Or.inr ⟨_, rfl, rfl⟩) (tnumber_Xh h4), rfl, ?_⟩)
  refine obind hF fun y5 h6 hF => ?_
  refine Or.inr (Or.inr ⟨[(10, 1)], 0, _, _, _, _, rfl, rfl, eff_call rfl (Or.inr ⟨_, rfl, rfl⟩) (ttake_Xh h6), rfl, ?_⟩)
  refine obind hF fun y7 h8 hF => ?_
  refine Or.inr (Or.inr ⟨[(10, 1)], 0, _, _, _, _, rfl, rfl, eff_call rfl (Or.inr ⟨_, rfl, rfl⟩) (tuntil_Xh h8), rfl, ?_⟩)
  refine obind hF fun y9 h10 hF => ?_
  refine Or.inl ⟨_, pParse_h h10, rfl, ?_⟩
  refine And.intro (fun h11 => ?_) (fun h11 => ?_)
  · have hF := cpos h11 hF
    refine obind hF fun y12 h13 hF => ?_
    refine Or.inr (Or.inr ⟨[(10, 1)], 0, _, _, _, _, rfl, rfl, eff_call rfl (Or.inr ⟨_, rfl, rfl⟩) (ttry_Xh h13), rfl, ?_⟩)
    refine And.intro (fun h14 => ?_) (fun h14 => ?_)
    · have hF := cpos h14 hF
      refine obind hF fun y15 h16 hF => ?_
      refine Or.inr (Or.inr ⟨[(10, 1)], 0, _, _, _, _, rfl, rfl, eff_call rfl (Or.inr ⟨_, rfl, rfl⟩) (ttake_Xh h16), rfl, ?_⟩)
      refine obind hF fun y17 h18 hF => ?_
      refine Or.inr (Or.inr ⟨[(10, 1)], 0, _, _, _, _, rfl, rfl, eff_call rfl (Or.inr ⟨_, rfl, rfl⟩) (tdate_Xh h18), rfl, ?_⟩)
      refine Or.inl ?_
      refine obind hF fun y19 h20 hF => ?_
      refine Or.inr (Or.inr ⟨[(10, 1)], 0, _, _, _, _, rfl, rfl, eff_call rfl (Or.inr ⟨_, rfl, rfl⟩) (ttry_Xh h20), rfl, ?_⟩)
      refine And.intro (fun h21 => ?_) (fun h21 => ?_)
      · have hF := cpos h21 hF
        refine obind hF fun y22 h23 hF => ?_
        refine Or.inr (Or.inr ⟨[(10, 1)], 0, _, _, _, _, rfl, rfl, eff_call rfl (Or.inr ⟨_, rfl, rfl⟩) (tdate_Xh h23), rfl, ?_⟩)
        refine And.intro (fun h24 => ?_) (fun h24 => ?_)
        · have hF := cpos h24 hF
          refine And.intro (by kernel_rfl) ?_
          exact Or.inl ⟨rfl, congrArg (Option.map qread_E) hF⟩
        · have hF := cneg h24 hF
          refine And.intro (by kernel_rfl) ?_
          exact Or.inl ⟨rfl, congrArg (Option.map qread_E) hF⟩
      · have hF := cneg h21 hF
        refine And.intro (fun h25 => ?_) (fun h25 => ?_)
        · have hF := cpos h25 hF
          refine And.intro (by kernel_rfl) ?_
          exact Or.inl ⟨rfl, congrArg (Option.map qread_E) hF⟩
        · have hF := cneg h25 hF
          refine And.intro (by kernel_rfl) ?_
          exact Or.inl ⟨rfl, congrArg (Option.map qread_E) hF⟩
    · have hF := cneg h14 hF
      refine obind hF fun y26 h27 hF => ?_
      refine Or.inr (Or.inr ⟨[(10, 1)], 0, _, _, _, _, rfl, rfl, eff_call rfl (Or.inr ⟨_, rfl, rfl⟩) (ttake_Xh h27), rfl, ?_⟩)
      refine obind hF fun y28 h29 hF => ?_
      refine Or.inr (Or.inr ⟨[(10, 1)], 0, _, _, _, _, rfl, rfl, eff_call rfl (Or.inr ⟨_, rfl, rfl⟩) (tuntil_Xh h29), rfl, ?_⟩)
      refine obind hF fun y30 h31 hF => ?_
      refine Or.inr (Or.inr ⟨[(10, 1)], 0, _, _, _, _, rfl, rfl, eff_call rfl (Or.inr ⟨_, rfl, rfl⟩) (ttake_Xh h31), rfl, ?_⟩)
      refine obind hF fun y32 h33 hF => ?_
      refine Or.inr (Or.inr ⟨[(10, 1)], 0, _, _, _, _, rfl, rfl, eff_call rfl (Or.inr ⟨_, rfl, rfl⟩) (tnumber_Xh h33), rfl, ?_⟩)
      refine obind hF fun y34 h35 hF => ?_
      refine Or.inr (Or.inr ⟨[(10, 1)], 0, _, _, _, _, rfl, rfl, eff_call rfl (Or.inr ⟨_, rfl, rfl⟩) (ttake_Xh h35), rfl, ?_⟩)
      refine obind hF fun y36 h37 hF => ?_
      refine Or.inr (Or.inr ⟨[(10, 1)], 0, _, _, _, _, rfl, rfl, eff_call rfl (Or.inr ⟨_, rfl, rfl⟩) (ttry_Xh h37), rfl, ?_⟩)
      refine obind hF fun y38 h39 hF => ?_
      refine Or.inr (Or.inr ⟨[(10, 1)], 0, _, _, _, _, rfl, rfl, eff_call rfl (Or.inr ⟨_, rfl, rfl⟩) (ttry_Xh h39), rfl, ?_⟩)
      refine And.intro (fun h40 => ?_) (fun h40 => ?_)
      · have hF := cpos h40 hF
        refine obind hF fun y41 h42 hF => ?_
        refine Or.inr (Or.inr ⟨[(10, 1)], 0, _, _, _, _, rfl, rfl, eff_call rfl (Or.inr ⟨_, rfl, rfl⟩) (ttake_Xh h42), rfl, ?_⟩)
        refine obind hF fun y43 h44 hF => ?_
        refine Or.inr (Or.inr ⟨[(10, 1)], 0, _, _, _, _, rfl, rfl, eff_call rfl (Or.inr ⟨_, rfl, rfl⟩) (ttake_Xh h44), rfl, ?_⟩)
        refine obind hF fun y45 h46 hF => ?_
        refine Or.inr (Or.inr ⟨[(10, 1)], 0, _, _, _, _, rfl, rfl, eff_call rfl (Or.inr ⟨_, rfl, rfl⟩) (tdate_Xh h46), rfl, ?_⟩)
        refine Or.inl ?_
        refine obind hF fun y47 h48 hF => ?_
        refine Or.inr (Or.inr ⟨[(10, 1)], 0, _, _, _, _, rfl, rfl, eff_call rfl (Or.inr ⟨_, rfl, rfl⟩) (ttry_Xh h48), rfl, ?_⟩)
        refine And.intro (fun h49 => ?_) (fun h49 => ?_)
        · have hF := cpos h49 hF
          refine obind hF fun y50 h51 hF => ?_
          refine Or.inr (Or.inr ⟨[(10, 1)], 0, _, _, _, _, rfl, rfl, eff_call rfl (Or.inr ⟨_, rfl, rfl⟩) (tdate_Xh h51), rfl, ?_⟩)
          refine And.intro (fun h52 => ?_) (fun h52 => ?_)
          · have hF := cpos h52 hF
            refine And.intro (by kernel_rfl) ?_
            exact Or.inl ⟨rfl, congrArg (Option.map qread_E) hF⟩
          · have hF := cneg h52 hF
            refine And.intro (by kernel_rfl) ?_
            exact Or.inl ⟨rfl, congrArg (Option.map qread_E) hF⟩
        · have hF := cneg h49 hF
          refine And.intro (fun h53 => ?_) (fun h53 => ?_)
          · have hF := cpos h53 hF
            refine And.intro (by kernel_rfl) ?_
            exact Or.inl ⟨rfl, congrArg (Option.map qread_E) hF⟩
          · have hF := cneg h53 hF
            refine And.intro (by kernel_rfl) ?_
            exact Or.inl ⟨rfl, congrArg (Option.map qread_E) hF⟩
      · have hF := cneg h40 hF
        refine obind hF fun y54 h55 hF => ?_
        refine Or.inr (Or.inr ⟨[(10, 1)], 0, _, _, _, _, rfl, rfl, eff_call rfl (Or.inr ⟨_, rfl, rfl⟩) (ttake_Xh h55), rfl, ?_⟩)
        refine obind hF fun y56 h57 hF => ?_
        refine Or.inr (Or.inr ⟨[(10, 1)], 0, _, _, _, _, rfl, rfl, eff_call rfl (Or.inr ⟨_, rfl, rfl⟩) (tdate_Xh h57), rfl, ?_⟩)
        refine Or.inl ?_
        refine obind hF fun y58 h59 hF => ?_
        refine Or.inr (Or.inr ⟨[(10, 1)], 0, _, _, _, _, rfl, rfl, eff_call rfl (Or.inr ⟨_, rfl, rfl⟩) (ttry_Xh h59), rfl, ?_⟩)
        refine And.intro (fun h60 => ?_) (fun h60 => ?_)
        · have hF := cpos h60 hF
          refine obind hF fun y61 h62 hF => ?_
          refine Or.inr (Or.inr ⟨[(10, 1)], 0, _, _, _, _, rfl, rfl, eff_call rfl (Or.inr ⟨_, rfl, rfl⟩) (tdate_Xh h62), rfl, ?_⟩)
          refine And.intro (fun h63 => ?_) (fun h63 => ?_)
          · have hF := cpos h63 hF
            refine And.intro (by kernel_rfl) ?_
            exact Or.inl ⟨rfl, congrArg (Option.map qread_E) hF⟩
          · have hF := cneg h63 hF
            refine And.intro (by kernel_rfl) ?_
            exact Or.inl ⟨rfl, congrArg (Option.map qread_E) hF⟩
        · have hF := cneg h60 hF
          refine And.intro (fun h64 => ?_) (fun h64 => ?_)
          · have hF := cpos h64 hF
            refine And.intro (by kernel_rfl) ?_
            exact Or.inl ⟨rfl, congrArg (Option.map qread_E) hF⟩
          · have hF := cneg h64 hF
            refine And.intro (by kernel_rfl) ?_
            exact Or.inl ⟨rfl, congrArg (Option.map qread_E) hF⟩
  · have hF := cneg h11 hF
    refine obind hF fun y65 h66 hF => ?_
    refine Or.inr (Or.inr ⟨[(10, 1)], 0, _, _, _, _, rfl, rfl, eff_call rfl (Or.inr ⟨_, rfl, rfl⟩) (ttry_Xh h66), rfl, ?_⟩)
    refine And.intro (fun h67 => ?_) (fun h67 => ?_)
    · have hF := cpos h67 hF
      refine obind hF fun y68 h69 hF => ?_
      refine Or.inr (Or.inr ⟨[(10, 1)], 0, _, _, _, _, rfl, rfl, eff_call rfl (Or.inr ⟨_, rfl, rfl⟩) (ttake_Xh h69), rfl, ?_⟩)
      refine obind hF fun y70 h71 hF => ?_
      refine Or.inr (Or.inr ⟨[(10, 1)], 0, _, _, _, _, rfl, rfl, eff_call rfl (Or.inr ⟨_, rfl, rfl⟩) (tdate_Xh h71), rfl, ?_⟩)
      refine Or.inl ?_
      refine obind hF fun y72 h73 hF => ?_
      refine Or.inr (Or.inr ⟨[(10, 1)], 0, _, _, _, _, rfl, rfl, eff_call rfl (Or.inr ⟨_, rfl, rfl⟩) (ttry_Xh h73), rfl, ?_⟩)
      refine And.intro (fun h74 => ?_) (fun h74 => ?_)
      · have hF := cpos h74 hF
        refine obind hF fun y75 h76 hF => ?_
        refine Or.inr (Or.inr ⟨[(10, 1)], 0, _, _, _, _, rfl, rfl, eff_call rfl (Or.inr ⟨_, rfl, rfl⟩) (tdate_Xh h76), rfl, ?_⟩)
        refine And.intro (fun h77 => ?_) (fun h77 => ?_)
        · have hF := cpos h77 hF
          refine And.intro (by kernel_rfl) ?_
          exact Or.inl ⟨rfl, congrArg (Option.map qread_E) hF⟩
        · have hF := cneg h77 hF
          refine And.intro (by kernel_rfl) ?_
          exact Or.inl ⟨rfl, congrArg (Option.map qread_E) hF⟩
      · have hF := cneg h74 hF
        refine And.intro (fun h78 => ?_) (fun h78 => ?_)
        · have hF := cpos h78 hF
          refine And.intro (by kernel_rfl) ?_
          exact Or.inl ⟨rfl, congrArg (Option.map qread_E) hF⟩
        · have hF := cneg h78 hF
          refine And.intro (by kernel_rfl) ?_
          exact Or.inl ⟨rfl, congrArg (Option.map qread_E) hF⟩
    · have hF := cneg h67 hF
      refine obind hF fun y79 h80 hF => ?_
      refine Or.inr (Or.inr ⟨[(10, 1)], 0, _, _, _, _, rfl, rfl, eff_call rfl (Or.inr ⟨_, rfl, rfl⟩) (ttake_Xh h80), rfl, ?_⟩)
      refine obind hF fun y81 h82 hF => ?_
      refine Or.inr (Or.inr ⟨[(10, 1)], 0, _, _, _, _, rfl, rfl, eff_call rfl (Or.inr ⟨_, rfl, rfl⟩) (tuntil_Xh h82), rfl, ?_⟩)
      refine obind hF fun y83 h84 hF => ?_
      refine Or.inr (Or.inr ⟨[(10, 1)], 0, _, _, _, _, rfl, rfl, eff_call rfl (Or.inr ⟨_, rfl, rfl⟩) (ttake_Xh h84), rfl, ?_⟩)
      refine obind hF fun y85 h86 hF => ?_
      refine Or.inr (Or.inr ⟨[(10, 1)], 0, _, _, _, _, rfl, rfl, eff_call rfl (Or.inr ⟨_, rfl, rfl⟩) (tnumber_Xh h86), rfl, ?_⟩)
      refine obind hF fun y87 h88 hF => ?_
      refine Or.inr (Or.inr ⟨[(10, 1)], 0, _, _, _, _, rfl, rfl, eff_call rfl (Or.inr ⟨_, rfl, rfl⟩) (ttake_Xh h88), rfl, ?_⟩)
      refine obind hF fun y89 h90 hF => ?_
      refine Or.inr (Or.inr ⟨[(10, 1)], 0, _, _, _, _, rfl, rfl, eff_call rfl (Or.inr ⟨_, rfl, rfl⟩) (ttry_Xh h90), rfl, ?_⟩)
      refine obind hF fun y91 h92 hF => ?_
      refine Or.inr (Or.inr ⟨[(10, 1)], 0, _, _, _, _, rfl, rfl, eff_call rfl (Or.inr ⟨_, rfl, rfl⟩) (ttry_Xh h92), rfl, ?_⟩)
      refine And.intro (fun h93 => ?_) (fun h93 => ?_)
      · have hF := cpos h93 hF
        refine obind hF fun y94 h95 hF => ?_
        refine Or.inr (Or.inr ⟨[(10, 1)], 0, _, _, _, _, rfl, rfl, eff_call rfl (Or.inr ⟨_, rfl, rfl⟩) (ttake_Xh h95), rfl, ?_⟩)
        refine obind hF fun y96 h97 hF => ?_
        refine Or.inr (Or.inr ⟨[(10, 1)], 0, _, _, _, _, rfl, rfl, eff_call rfl (Or.inr ⟨_, rfl, rfl⟩) (ttake_Xh h97), rfl, ?_⟩)
        refine obind hF fun y98 h99 hF => ?_
        refine Or.inr (Or.inr ⟨[(10, 1)], 0, _, _, _, _, rfl, rfl, eff_call rfl (Or.inr ⟨_, rfl, rfl⟩) (tdate_Xh h99), rfl, ?_⟩)
        refine Or.inl ?_
        refine obind hF fun y100 h101 hF => ?_
        refine Or.inr (Or.inr ⟨[(10, 1)], 0, _, _, _, _, rfl, rfl, eff_call rfl (Or.inr ⟨_, rfl, rfl⟩) (ttry_Xh h101), rfl, ?_⟩)
        refine And.intro (fun h102 => ?_) (fun h102 => ?_)
        · have hF := cpos h102 hF
          refine obind hF fun y103 h104 hF => ?_
          refine Or.inr (Or.inr ⟨[(10, 1)], 0, _, _, _, _, rfl, rfl, eff_call rfl (Or.inr ⟨_, rfl, rfl⟩) (tdate_Xh h104), rfl, ?_⟩)
          refine And.intro (fun h105 => ?_) (fun h105 => ?_)
          · have hF := cpos h105 hF
            refine And.intro (by kernel_rfl) ?_
            exact Or.inl ⟨rfl, congrArg (Option.map qread_E) hF⟩
          · have hF := cneg h105 hF
            refine And.intro (by kernel_rfl) ?_
            exact Or.inl ⟨rfl, congrArg (Option.map qread_E) hF⟩
        · have hF := cneg h102 hF
          refine And.intro (fun h106 => ?_) (fun h106 => ?_)
          · have hF := cpos h106 hF
            refine And.intro (by kernel_rfl) ?_
            exact Or.inl ⟨rfl, congrArg (Option.map qread_E) hF⟩
          · have hF := cneg h106 hF
            refine And.intro (by kernel_rfl) ?_
            exact Or.inl ⟨rfl, congrArg (Option.map qread_E) hF⟩
      · have hF := cneg h93 hF
        refine obind hF fun y107 h108 hF => ?_
        refine Or.inr (Or.inr ⟨[(10, 1)], 0, _, _, _, _, rfl, rfl, eff_call rfl (Or.inr ⟨_, rfl, rfl⟩) (ttake_Xh h108), rfl, ?_⟩)
        refine obind hF fun y109 h110 hF => ?_
        refine Or.inr (Or.inr ⟨[(10, 1)], 0, _, _, _, _, rfl, rfl, eff_call rfl (Or.inr ⟨_, rfl, rfl⟩) (tdate_Xh h110), rfl, ?_⟩)
        refine Or.inl ?_
        refine obind hF fun y111 h112 hF => ?_
        refine Or.inr (Or.inr ⟨[(10, 1)], 0, _, _, _, _, rfl, rfl, eff_call rfl (Or.inr ⟨_, rfl, rfl⟩) (ttry_Xh h112), rfl, ?_⟩)
        refine And.intro (fun h113 => ?_) (fun h113 => ?_)
        · have hF := cpos h113 hF
          refine obind hF fun y114 h115 hF => ?_
          refine Or.inr (Or.inr ⟨[(10, 1)], 0, _, _, _, _, rfl, rfl, eff_call rfl (Or.inr ⟨_, rfl, rfl⟩) (tdate_Xh h115), rfl, ?_⟩)
          refine And.intro (fun h116 => ?_) (fun h116 => ?_)
          · have hF := cpos h116 hF
            refine And.intro (by kernel_rfl) ?_
            exact Or.inl ⟨rfl, congrArg (Option.map qread_E) hF⟩
          · have hF := cneg h116 hF
            refine And.intro (by kernel_rfl) ?_
            exact Or.inl ⟨rfl, congrArg (Option.map qread_E) hF⟩
        · have hF := cneg h113 hF
          refine And.intro (fun h117 => ?_) (fun h117 => ?_)
          · have hF := cpos h117 hF
            refine And.intro (by kernel_rfl) ?_
            exact Or.inl ⟨rfl, congrArg (Option.map qread_E) hF⟩
          · have hF := cneg h117 hF
            refine And.intro (by kernel_rfl) ?_
            exact Or.inl ⟨rfl, congrArg (Option.map qread_E) hF⟩
abbrev qread_S (s : Str) : Option (Rule × Bool) := qread_F s
theorem qread_h {s : Str} {r : Rule × Bool} (h : qread_S s = some r) : Holds Tryz.prog Gw 34 [S s] (qread_E r) := qread_Fh  h
def qParse_R0_X : {p : Array Nat × Code × Code // (rangesOf (Tryz.f12.body.getD .skip))[0]? = some p} := ⟨(_, _, _), rfl⟩
def qParse_R0_R (R : Loop) : Prop := R.params = qParse_R0_X.1.1 ∧ R.assign = qParse_R0_X.1.2.1 ∧ R.body = qParse_R0_X.1.2.2 ∧ R.tmps.size = 44
theorem qParse_R0_n {R : Loop} (h : qParse_R0_R R) : 2 = R.params.size := by rw [h.1]; rfl
def qParse_R0_F (u1 : List Rule) (u2 : Int) (u3 : Int) (o5 : List Rule) (a17 : Str) (a18 : Bool) : Option (Bool × List Rule × Int × Int × List Rule) := Option.bind (qread_S a17) fun y1 => bif (!y1.2) then some (false, ([] : List Rule), ((o5.map cRule).length : Int), 3, o5) else (bif (!a18) then some (false, ([] : List Rule), ((o5.map cRule).length : Int), 3, o5) else (bif decide (o5.length + ([y1.1] : List Rule).length ≤ 4294967296) then some (true, u1, u2, u3, (o5 ++ ([y1.1] : List Rule))) else none))
set_option linter.unusedVariables false in
theorem qParse_R0_XFh {u1 : List Rule} {u2 : Int} {u3 : Int} {o5 : List Rule} {a17 : Str} {a18 : Bool} {r : Bool × List Rule × Int × Int × List Rule} {l : Nat} {R : Loop} (hR : qParse_R0_R R) (hF : qParse_R0_F u1 u2 u3 o5 a17 a18 = some r) : EffRnd Tryz.prog Gw l R (envL [(2, .pm 1 0 0), (3, .pm 2 0 0), (4, .pm 3 0 0), (5, .pm 4 0 0)] 44 0) [.c (S a17), .c (B a18)] [(0, .lp l R .on), (0, .var [.sl 8 (u1.map cRule)]), (0, .var [I u2]), (0, .var [I u3]), (0, .varx [.rs 5 0]), (0, .arr 34 8 (o5.map cRule) none)] (.c (.v (.bool r.1))) [(0, .lp l R (lpq r.1 .ret)), (0, .var [.sl 8 (r.2.1.map cRule)]), (0, .var [I r.2.2.1]), (0, .var [I r.2.2.2.1]), (0, .varx [.rs 5 1]), (1, .arr 34 8 (r.2.2.2.2.map cRule) none)] := by
  refine effrnd_of_wq [5] tabOk mixed 0 hR.1 hR.2.1 hR.2.2.1 hR.2.2.2 rfl ?_
  refine ⟨rfl, ?_⟩
  refine obind hF fun y1 h2 hF => ?_
  refine Or.inl ⟨_, qread_h h2, rfl, ?_⟩
  refine Or.inl ?_
  refine And.intro (fun h3 => ?_) (fun h3 => ?_)
  · have hF := cpos h3 hF
    refine Or.inl ?_
    refine Or.inl ?_
    refine And.intro (by kernel_rfl) ?_
    refine ret_eq (p := fun r => rndFin [5] 0 l R 6 (.c (.v (.bool r.1))) [(0, .lp l R (lpq r.1 .ret)), (0, .var [.sl 8 (r.2.1.map cRule)]), (0, .var [I r.2.2.1]), (0, .var [I r.2.2.2.1]), (0, .varx [.rs 5 1]), (1, .arr 34 8 (r.2.2.2.2.map cRule) none)] (.off .ret) false _) hF ?_
    exact ⟨rfl, rfl, [(4294967296, 0), (4295032832, 0), (4295098368, 0), (4295163904, 0), (4295229440, 0), (2147811328, 0)], [0, 0, 0, 0, 0, 1], rfl, rfl⟩
  · have hF := cneg h3 hF
    refine And.intro (fun h4 => ?_) (fun h4 => ?_)
    · have hF := cpos h4 hF
      refine Or.inl ?_
      refine Or.inl ?_
      refine And.intro (by kernel_rfl) ?_
      refine ret_eq (p := fun r => rndFin [5] 0 l R 6 (.c (.v (.bool r.1))) [(0, .lp l R (lpq r.1 .ret)), (0, .var [.sl 8 (r.2.1.map cRule)]), (0, .var [I r.2.2.1]), (0, .var [I r.2.2.2.1]), (0, .varx [.rs 5 1]), (1, .arr 34 8 (r.2.2.2.2.map cRule) none)] (.off .ret) false _) hF ?_
      exact ⟨rfl, rfl, [(4294967296, 0), (4295032832, 0), (4295098368, 0), (4295163904, 0), (4295229440, 0), (2147811328, 0)], [0, 0, 0, 0, 0, 1], rfl, rfl⟩
    · have hF := cneg h4 hF
      refine Or.inl ?_
      refine Or.inl ?_
      refine gpos hF fun h5 hF => ?_
      refine Or.inr ⟨[(2147811328, 0)], 0, _, _, _, _, rfl, rfl, eff_append (cf := cRule) (l := o5) (ns := ([y1.1] : List Rule)) tok22.u tok34 (by decide) (by decide) (fun _ => rfl) h5, rfl, ?_⟩
      refine Or.inl ?_
      refine ret_eq (p := fun r => rndFin [5] 0 l R 6 (.c (.v (.bool r.1))) [(0, .lp l R (lpq r.1 .ret)), (0, .var [.sl 8 (r.2.1.map cRule)]), (0, .var [I r.2.2.1]), (0, .var [I r.2.2.2.1]), (0, .varx [.rs 5 1]), (1, .arr 34 8 (r.2.2.2.2.map cRule) none)] .on true _) hF ?_
      exact ⟨rfl, rfl, [(4294967296, 0), (4295032832, 0), (4295098368, 0), (4295163904, 0), (4295229440, 0), (2147811328, 1)], [0, 0, 0, 0, 0, 1], rfl, rfl⟩
abbrev qParse_R0_XS (u1 : List Rule) (u2 : Int) (u3 : Int) (o5 : List Rule) (a17 : Str) (a18 : Bool) : Option (Bool × List Rule × Int × Int × List Rule) := qParse_R0_F u1 u2 u3 o5 a17 a18
theorem qParse_R0_Xh {u1 : List Rule} {u2 : Int} {u3 : Int} {o5 : List Rule} {a17 : Str} {a18 : Bool} {r : Bool × List Rule × Int × Int × List Rule} {l : Nat} {R : Loop} (hR : qParse_R0_R R) (h : qParse_R0_XS u1 u2 u3 o5 a17 a18 = some r) : EffRnd Tryz.prog Gw l R (envL [(2, .pm 1 0 0), (3, .pm 2 0 0), (4, .pm 3 0 0), (5, .pm 4 0 0)] 44 0) [.c (S a17), .c (B a18)] [(0, .lp l R .on), (0, .var [.sl 8 (u1.map cRule)]), (0, .var [I u2]), (0, .var [I u3]), (0, .varx [.rs 5 0]), (0, .arr 34 8 (o5.map cRule) none)] (.c (.v (.bool r.1))) [(0, .lp l R (lpq r.1 .ret)), (0, .var [.sl 8 (r.2.1.map cRule)]), (0, .var [I r.2.2.1]), (0, .var [I r.2.2.2.1]), (0, .varx [.rs 5 1]), (1, .arr 34 8 (r.2.2.2.2.map cRule) none)] := qParse_R0_XFh hR h
def qlines_1_L1 : Nat → List Rule → Int → Int → Str → List Rule → Option (Bool × List Rule × Int × Int × List Rule × Str)
  | 0, _, _, _, _, _ => none
  | fu1 + 1, v_1, v_2, v_3, v_4, v5 => bif (!(v_4 == ([] : Str))) then (Option.bind (sCut_S v_4 ([10] : Str)) fun y7 => Option.bind (qParse_R0_XS v_1 v_2 v_3 v5 y7.1 y7.2.2) fun y9 => bif y9.1 then qlines_1_L1 fu1 y9.2.1 y9.2.2.1 y9.2.2.2.1 y7.2.1 y9.2.2.2.2 else some (false, y9.2.1, y9.2.2.1, y9.2.2.2.1, y9.2.2.2.2, v_4)) else some (true, v_1, v_2, v_3, v5, v_4)
def qlines_1_F (N : Nat) (u1 : List Rule) (u2 : Int) (u3 : Int) (o5 : List Rule) (u6 : Str) : Option (Bool × List Rule × Int × Int × List Rule × Str) := qlines_1_L1 N u1 u2 u3 u6 o5
set_option linter.unusedVariables false in
theorem qlines_1_XFh {N : Nat} {u1 : List Rule} {u2 : Int} {u3 : Int} {o5 : List Rule} {u6 : Str} {r : Bool × List Rule × Int × Int × List Rule × Str} {l : Nat} {R : Loop} (hR : qParse_R0_R R) (hF : qlines_1_F N u1 u2 u3 o5 u6 = some r) : EffFn Tryz.prog Gw 57 [.fnr (.yl l R.tmps.toList) (envL [(2, .pm 1 0 0), (3, .pm 2 0 0), (4, .pm 3 0 0), (5, .pm 4 0 0)] 44 0), .pm 6 0 0] [(0, .lp l R .on), (0, .var [.sl 8 (u1.map cRule)]), (0, .var [I u2]), (0, .var [I u3]), (0, .varx [.rs 5 0]), (0, .arr 34 8 (o5.map cRule) none), (0, .var [S u6])] (.c (.tup [])) [(0, .lp l R (lpq r.1 .ret)), (0, .var [.sl 8 (r.2.1.map cRule)]), (0, .var [I r.2.2.1]), (0, .var [I r.2.2.2.1]), (0, .varx [.rs 5 1]), (1, .arr 34 8 (r.2.2.2.2.1.map cRule) none), (0, .var [S r.2.2.2.2.2])] := by
  refine effn_of_wqM [5] tabOk mixed Tryz.func57 (by decide) rfl (Nat.le_of_ble_eq_true rfl) rfl ?_
  refine loop_oq (fun p : Nat × List Rule × Int × Int × Str × List Rule => [(0, .fnr (.yl l R.tmps.toList) (envL [(2, .pm 4295032832 0 0), (3, .pm 4295098368 0 0), (4, .pm 4295163904 0 0), (5, .pm 4295229440 0 0)] 44 0)), (1, .pm 4295360512 0 0)]) (fun p : Nat × List Rule × Int × Int × Str × List Rule => [(4294967296, .lp l R .on), (4295032832, .var [.sl 8 (p.2.1.map cRule)]), (4295098368, .var [I p.2.2.1]), (4295163904, .var [I p.2.2.2.1]), (4295229440, .varx [.rs 2147811328 0]), (4295360512, .var [S p.2.2.2.2.1]), (2147811328, .arr 34 8 (p.2.2.2.2.2.map cRule) none)]) (fun p => qlines_1_L1 p.1 p.2.1 p.2.2.1 p.2.2.2.1 p.2.2.2.2.1 p.2.2.2.2.2 = some r) (fun p => p.1) (N, u1, u2, u3, u6, o5) hF ⟨rfl, rfl, trivial⟩ ⟨rfl, rfl, rfl, rfl, rfl, rfl, rfl, trivial⟩ ?_
  rintro ⟨fu1, v_1, v_2, v_3, v_4, v5⟩ hF
  cases fu1 with
  | zero => exact nomatch hF
  | succ fu1 =>
    refine And.intro (fun h6 => ?_) (fun h6 => ?_)
    · have hF := cpos h6 hF
      refine obind hF fun y7 h8 hF => ?_
      refine Or.inl ⟨_, sCut_h h8, rfl, ?_⟩
      refine obind hF fun y9 h10 hF => ?_
      rcases y9 with ⟨_ | _, y11⟩
      · have hF := cneg rfl hF
        refine Or.inr ⟨[(4294967296, 0), (4295032832, 0), (4295098368, 0), (4295163904, 0), (4295229440, 0), (2147811328, 0)], 0, _, _, _, _, rfl, rfl, eff_round rfl 0 rfl (qParse_R0_n hR) (qParse_R0_Xh hR h10), rfl, ?_⟩
        refine And.intro (fun h12 => ?_) (fun h12 => ?_)
        · skip
          refine ret_eq (p := fun r => effFinM tab _ 7 [5] (.c (.tup [])) [(0, .lp l R (lpq r.1 .ret)), (0, .var [.sl 8 (r.2.1.map cRule)]), (0, .var [I r.2.2.1]), (0, .var [I r.2.2.2.1]), (0, .varx [.rs 5 1]), (1, .arr 34 8 (r.2.2.2.2.1.map cRule) none), (0, .var [S r.2.2.2.2.2])] _) hF ?_
          exact ⟨[(4294967296, 0), (4295032832, 0), (4295098368, 0), (4295163904, 0), (4295229440, 0), (2147811328, 1), (4295360512, 0)], [0, 0, 0, 0, 0, 1, 0], rfl, rfl, rfl⟩
        · exact absurd h12 (by simp)
      · have hF := cpos rfl hF
        refine Or.inr ⟨[(4294967296, 0), (4295032832, 0), (4295098368, 0), (4295163904, 0), (4295229440, 0), (2147811328, 0)], 0, _, _, _, _, rfl, rfl, eff_round rfl 0 rfl (qParse_R0_n hR) (qParse_R0_Xh hR h10), rfl, ?_⟩
        refine And.intro (fun h13 => ?_) (fun h13 => ?_)
        · exact absurd h13 (by simp)
        · skip
          exact ⟨(fu1, y11.1, y11.2.1, y11.2.2.1, y7.2.1, y11.2.2.2), Nat.lt_succ_self _, hF, ⟨rfl, rfl, trivial⟩, ⟨rfl, rfl, rfl, rfl, rfl, rfl, rfl, trivial⟩⟩
    · have hF := cneg h6 hF
      refine ret_eq (p := fun r => effFinM tab _ 7 [5] (.c (.tup [])) [(0, .lp l R (lpq r.1 .ret)), (0, .var [.sl 8 (r.2.1.map cRule)]), (0, .var [I r.2.2.1]), (0, .var [I r.2.2.2.1]), (0, .varx [.rs 5 1]), (1, .arr 34 8 (r.2.2.2.2.1.map cRule) none), (0, .var [S r.2.2.2.2.2])] _) hF ?_
      exact ⟨[(4294967296, 0), (4295032832, 0), (4295098368, 0), (4295163904, 0), (4295229440, 0), (2147811328, 0), (4295360512, 0)], [0, 0, 0, 0, 0, 1, 0], rfl, rfl, rfl⟩
abbrev qlines_1_XS (u1 : List Rule) (u2 : Int) (u3 : Int) (o5 : List Rule) (u6 : Str) : Option (Bool × List Rule × Int × Int × List Rule × Str) := qlines_1_F 70000 u1 u2 u3 o5 u6
theorem qlines_1_Xh {u1 : List Rule} {u2 : Int} {u3 : Int} {o5 : List Rule} {u6 : Str} {r : Bool × List Rule × Int × Int × List Rule × Str} {l : Nat} {R : Loop} (hR : qParse_R0_R R) (h : qlines_1_XS u1 u2 u3 o5 u6 = some r) : EffFn Tryz.prog Gw 57 [.fnr (.yl l R.tmps.toList) (envL [(2, .pm 1 0 0), (3, .pm 2 0 0), (4, .pm 3 0 0), (5, .pm 4 0 0)] 44 0), .pm 6 0 0] [(0, .lp l R .on), (0, .var [.sl 8 (u1.map cRule)]), (0, .var [I u2]), (0, .var [I u3]), (0, .varx [.rs 5 0]), (0, .arr 34 8 (o5.map cRule) none), (0, .var [S u6])] (.c (.tup [])) [(0, .lp l R (lpq r.1 .ret)), (0, .var [.sl 8 (r.2.1.map cRule)]), (0, .var [I r.2.2.1]), (0, .var [I r.2.2.2.1]), (0, .varx [.rs 5 1]), (1, .arr 34 8 (r.2.2.2.2.1.map cRule) none), (0, .var [S r.2.2.2.2.2])] := qlines_1_XFh hR h
theorem qlines_K {text : Str} : EffFn Tryz.prog Gw 33 [.c (S text)] [] (.fnr 57 [.pm 0 1 0]) [(1, .var [S text])] := by
  refine effn_of_wq tabOk mixed Tryz.func33 (by decide) rfl (Nat.le_of_ble_eq_true rfl) rfl ?_
  refine Or.inl ?_
  exact ⟨[(1, 1)], [1], rfl, rfl, rfl⟩
abbrev qParse_E (y : List Rule × Int × Int) : CV := .tup [.sl 8 (y.1.map cRule), I y.2.1, I y.2.2]
def qParse_F (text : Str) : Option (List Rule × Int × Int) := bif decide ((text.length : Int) > 65536) then some (([] : List Rule), (-1), 8) else (Option.bind (qlines_1_XS ([] : List Rule) 0 0 ([] : List Rule) text) fun y2 => bif y2.1 then (Option.bind (qCheck_S y2.2.2.2.2.1) fun y5 => bif (y5.2 != 0) then some (([] : List Rule), (-1), 1) else some (y2.2.2.2.2.1, (-1), 0)) else some (y2.2.1, y2.2.2.1, y2.2.2.2.1))
set_option linter.unusedVariables false in
theorem qParse_Fh {text : Str} {r : List Rule × Int × Int} (hF : qParse_F text = some r) : Holds Tryz.prog Gw 12 [S text] (qParse_E r) := by
  refine holds_of_wq tabOk mixed Tryz.func12 (by decide) rfl (Nat.le_of_ble_eq_true rfl) ?_
  refine Or.inl ?_
  refine Or.inl ?_
  refine Or.inl ?_
  refine And.intro (fun h1 => ?_) (fun h1 => ?_)
  · have hF := cpos h1 hF
    exact Or.inl ⟨rfl, congrArg (Option.map qParse_E) hF⟩
  · have hF := cneg h1 hF
    refine Or.inr ⟨[], 0, _, _, _, _, rfl, rfl, eff_allocS (e := 34) (ie := ti34) tok22 rfl rfl (by decide), rfl, ?_⟩
    refine Or.inr (Or.inr ⟨[], 0, _, _, _, _, rfl, rfl, eff_call rfl (Or.inr ⟨_, rfl, rfl⟩) qlines_K, rfl, ?_⟩)
    refine obind hF fun y2 h3 hF => ?_
    refine rangeP.mk ?_
    refine ⟨60000, envL [(2, .pm 2 1 0), (3, .pm 3 1 0), (4, .pm 4 1 0), (5, .pm 5 1 0)] 44 0, _, _, Or.inl rfl, rfl, (by refine envSub_L ?_ 44 0; exact ⟨rfl, rfl, rfl, rfl, trivial⟩), fun l R hp ha hb hn => ⟨[(60000, 1), (2, 1), (3, 1), (4, 1), (5, 1), (65541, 1), (16, 1)], 0, _, _, _, _, rfl, rfl, qlines_1_Xh ⟨hp, ha, hb, hn⟩ h3, rfl, _, y2.1, .ret, rfl, fun h4 => ?_, fun h4 => ?_⟩⟩
    · have hF := cpos h4 hF
      refine Or.inl ?_
      refine obind hF fun y5 h6 hF => ?_
      refine Or.inl ⟨_, qCheck_h h6, rfl, ?_⟩
      refine And.intro (fun h7 => ?_) (fun h7 => ?_)
      · have hF := cpos h7 hF
        exact Or.inl ⟨rfl, congrArg (Option.map qParse_E) hF⟩
      · have hF := cneg h7 hF
        refine Or.inl ?_
        refine Or.inl ?_
        refine ret_eq (p := fun r => resFin tab _ (qParse_E r) _) hF ?_
        exact Or.inr ⟨⟨⟨rfl, _, rfl, rfl⟩, rfl, rfl, rfl⟩, by decide⟩
    · have hF := cneg h4 hF
      exact Or.inl ⟨rfl, congrArg (Option.map qParse_E) hF⟩
abbrev qParse_S (text : Str) : Option (List Rule × Int × Int) := qParse_F text
theorem qParse_h {text : Str} {r : List Rule × Int × Int} (h : qParse_S text = some r) : Holds Tryz.prog Gw 12 [S text] (qParse_E r) := qParse_Fh  h
abbrev slEqualR_E (y : Bool) : CV := B y
def slEqualR_L1 (s1 : List Rule) (s2 : List Rule) : Nat → Int → Option (Bool)
  | 0, _ => none
  | fu1 + 1, v2 => bif decide (v2 < ((s1.map cRule).length : Int)) then (Option.bind (ix s1 v2) fun x4 => Option.bind (ix s2 v2) fun x6 => bif (!(x4 == x6)) then some (false) else slEqualR_L1 s1 s2 fu1 (IntKind.i64.wrap (v2 + 1))) else some (true)
def slEqualR_F (N : Nat) (s1 : List Rule) (s2 : List Rule) : Option (Bool) := bif (((s1.map cRule).length : Int) != ((s2.map cRule).length : Int)) then some (false) else slEqualR_L1 s1 s2 N 0
set_option linter.unusedVariables false in
theorem slEqualR_Fh {N : Nat} {s1 : List Rule} {s2 : List Rule} {r : Bool} (hF : slEqualR_F N s1 s2 = some r) : Holds Tryz.prog Gw 13 [.sl 8 (s1.map cRule), .sl 8 (s2.map cRule)] (slEqualR_E r) := by
  refine holds_of_wq tabOk mixed Tryz.func13 (by decide) rfl (Nat.le_of_ble_eq_true rfl) ?_
  refine And.intro (fun h1 => ?_) (fun h1 => ?_)
  · have hF := cpos h1 hF
    exact Or.inl ⟨rfl, congrArg (Option.map slEqualR_E) hF⟩
  · have hF := cneg h1 hF
    refine loop_oq (fun p : Nat × Int => [(0, .c (.sl 8 (s1.map cRule))), (1, .c (.sl 8 (s2.map cRule))), (12, .c (I ((s1.map cRule).length : Int))), (13, .c (I p.2))]) (fun _ => []) (fun p => slEqualR_L1 s1 s2 p.1 p.2 = some r) (fun p => p.1) (N, 0) hF ⟨rfl, rfl, rfl, rfl, trivial⟩ trivial ?_
    rintro ⟨fu1, v2⟩ hF
    cases fu1 with
    | zero => exact nomatch hF
    | succ fu1 =>
      refine join_no ?_
      refine And.intro (fun h3 => ?_) (fun h3 => ?_)
      · have hF := cpos h3 hF
        refine join_no ?_
        refine obind hF fun x4 h5 hF => ?_
        refine ⟨ix_nn h5, .inl rfl, _, ix_map cRule h5, ?_⟩
        refine obind hF fun x6 h7 hF => ?_
        refine ⟨ix_nn h7, .inl rfl, _, ix_map cRule h7, ?_⟩
        refine Or.inr ⟨[], 0, _, _, _, _, rfl, rfl, sne_Rule x4 x6, rfl, ?_⟩
        refine And.intro (by kernel_rfl) ?_
        refine And.intro (fun h8 => ?_) (fun h8 => ?_)
        · have hF := cpos h8 hF
          exact Or.inl ⟨rfl, congrArg (Option.map slEqualR_E) hF⟩
        · have hF := cneg h8 hF
          exact ⟨(fu1, (IntKind.i64.wrap (v2 + 1))), Nat.lt_succ_self _, hF, ⟨rfl, rfl, rfl, rfl, trivial⟩, trivial⟩
      · have hF := cneg h3 hF
        exact Or.inl ⟨rfl, congrArg (Option.map slEqualR_E) hF⟩
abbrev slEqualR_S (s1 : List Rule) (s2 : List Rule) : Option (Bool) := slEqualR_F (s1.length + 1) s1 s2
theorem slEqualR_h {s1 : List Rule} {s2 : List Rule} {r : Bool} (h : slEqualR_S s1 s2 = some r) : Holds Tryz.prog Gw 13 [.sl 8 (s1.map cRule), .sl 8 (s2.map cRule)] (slEqualR_E r) := slEqualR_Fh  h
end Go.Proofs.YtjoacimgcepjdaaGreatDoor
