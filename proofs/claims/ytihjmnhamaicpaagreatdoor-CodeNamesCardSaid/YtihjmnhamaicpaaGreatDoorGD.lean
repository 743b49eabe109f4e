/- Functions of the program as functions of Lean, each with its contract (printed by a program). -/
import Derived.Test.YtihjmnhamaicpaaGreatDoorGC
namespace Go.Proofs.YtihjmnhamaicpaaGreatDoor
open Go Go.Abs
set_option maxRecDepth 10000
set_option maxHeartbeats 400000
abbrev lCodeReads_E (y : Bool) : CV := B y
def lCodeReads_F (s : Str) (l : List Int) : Option (Bool) := Option.bind (lawake_S) fun y1 => bif (!y1) then some (false) else (bif decide ((s.length : Int) > 100) then some (true) else (bif decide (((l.map cInt).length : Int) > 12) then some (true) else (Option.bind (pParse_S s) fun y6 => Option.bind (rParse_S s) fun y8 => Option.bind (pFormat_S l) fun y10 => Option.bind (rFormat_S l) fun y12 => Option.bind (pParent_S s) fun y14 => Option.bind (rParent_S s) fun y16 => Option.bind (rSameInts_S y6.1 y8.1) fun y18 => bif y18 then (bif (y6.2 == y8.2) then (bif (y10.1 == y12.1) then (bif (y10.2 == y12.2) then (bif (y14.1 == y16.1) then some ((y14.2 == y16.2)) else some (false)) else some (false)) else some (false)) else some (false)) else some (false))))
set_option linter.unusedVariables false in
theorem lCodeReads_Fh {s : Str} {l : List Int} {r : Bool} (hF : lCodeReads_F s l = some r) : Holds Tryz.prog Gw 6 [S s, .sl 1 (l.map cInt)] (lCodeReads_E r) := by
  refine holds_of_wq tabOk mixed Tryz.func6 (by decide) rfl (Nat.le_of_ble_eq_true rfl) ?_
  refine obind hF fun y1 h2 hF => ?_
  refine Or.inl ⟨_, lawake_h h2, rfl, ?_⟩
  refine And.intro (fun h3 => ?_) (fun h3 => ?_)
  · have hF := cpos h3 hF
    exact Or.inl ⟨rfl, congrArg (Option.map lCodeReads_E) hF⟩
  · have hF := cneg h3 hF
    refine And.intro (fun h4 => ?_) (fun h4 => ?_)
    · have hF := cpos h4 hF
      exact Or.inl ⟨rfl, congrArg (Option.map lCodeReads_E) hF⟩
    · have hF := cneg h4 hF
      refine And.intro (fun h5 => ?_) (fun h5 => ?_)
      · have hF := cpos h5 hF
        exact Or.inl ⟨rfl, congrArg (Option.map lCodeReads_E) hF⟩
      · have hF := cneg h5 hF
        refine obind hF fun y6 h7 hF => ?_
        refine Or.inl ⟨_, pParse_h h7, rfl, ?_⟩
        refine obind hF fun y8 h9 hF => ?_
        refine Or.inl ⟨_, rParse_h h9, rfl, ?_⟩
        refine obind hF fun y10 h11 hF => ?_
        refine Or.inl ⟨_, pFormat_h h11, rfl, ?_⟩
        refine obind hF fun y12 h13 hF => ?_
        refine Or.inl ⟨_, rFormat_h h13, rfl, ?_⟩
        refine obind hF fun y14 h15 hF => ?_
        refine Or.inl ⟨_, pParent_h h15, rfl, ?_⟩
        refine obind hF fun y16 h17 hF => ?_
        refine Or.inl ⟨_, rParent_h h17, rfl, ?_⟩
        refine obind hF fun y18 h19 hF => ?_
        refine Or.inl ⟨_, rSameInts_h h19, rfl, ?_⟩
        refine And.intro (fun h20 => ?_) (fun h20 => ?_)
        · have hF := cpos h20 hF
          refine And.intro (fun h21 => ?_) (fun h21 => ?_)
          · have hF := cpos h21 hF
            refine And.intro (fun h22 => ?_) (fun h22 => ?_)
            · have hF := cpos h22 hF
              refine And.intro (fun h23 => ?_) (fun h23 => ?_)
              · have hF := cpos h23 hF
                refine And.intro (fun h24 => ?_) (fun h24 => ?_)
                · have hF := cpos h24 hF
                  exact Or.inl ⟨rfl, congrArg (Option.map lCodeReads_E) hF⟩
                · have hF := cneg h24 hF
                  exact Or.inl ⟨rfl, congrArg (Option.map lCodeReads_E) hF⟩
              · have hF := cneg h23 hF
                exact Or.inl ⟨rfl, congrArg (Option.map lCodeReads_E) hF⟩
            · have hF := cneg h22 hF
              exact Or.inl ⟨rfl, congrArg (Option.map lCodeReads_E) hF⟩
          · have hF := cneg h21 hF
            exact Or.inl ⟨rfl, congrArg (Option.map lCodeReads_E) hF⟩
        · have hF := cneg h20 hF
          exact Or.inl ⟨rfl, congrArg (Option.map lCodeReads_E) hF⟩
abbrev lCodeReads_S (s : Str) (l : List Int) : Option (Bool) := lCodeReads_F s l
theorem lCodeReads_h {s : Str} {l : List Int} {r : Bool} (h : lCodeReads_S s l = some r) : Holds Tryz.prog Gw 6 [S s, .sl 1 (l.map cInt)] (lCodeReads_E r) := lCodeReads_Fh  h
abbrev lCodeOrders_E (y : Bool) : CV := B y
def lCodeOrders_F (a : Str) (b : Str) (taken : List Str) : Option (Bool) := Option.bind (lawake_S) fun y1 => bif (!y1) then some (false) else (bif decide ((a.length : Int) > 100) then some (true) else (bif decide ((b.length : Int) > 100) then some (true) else (Option.bind (rFew_S taken) fun y6 => bif (!y6) then some (true) else (Option.bind (pCompare_S a b) fun y9 => Option.bind (rCompare_S a b) fun y11 => Option.bind (pFree_S taken a) fun y13 => Option.bind (rFree_S taken a) fun y15 => bif (y9.1 == y11.1) then (bif (y9.2 == y11.2) then (Option.bind (pWithin_S a b) fun y19 => Option.bind (rWithin_S a b) fun y21 => bif (y19 == y21) then (bif (y13.1 == y15.1) then some ((y13.2 == y15.2)) else some (false)) else some (false)) else some (false)) else some (false)))))
set_option linter.unusedVariables false in
theorem lCodeOrders_Fh {a : Str} {b : Str} {taken : List Str} {r : Bool} (hF : lCodeOrders_F a b taken = some r) : Holds Tryz.prog Gw 3 [S a, S b, .sl 1 (taken.map cStr)] (lCodeOrders_E r) := by
  refine holds_of_wq tabOk mixed Tryz.func3 (by decide) rfl (Nat.le_of_ble_eq_true rfl) ?_
  refine obind hF fun y1 h2 hF => ?_
  refine Or.inl ⟨_, lawake_h h2, rfl, ?_⟩
  refine And.intro (fun h3 => ?_) (fun h3 => ?_)
  · have hF := cpos h3 hF
    exact Or.inl ⟨rfl, congrArg (Option.map lCodeOrders_E) hF⟩
  · have hF := cneg h3 hF
    refine And.intro (fun h4 => ?_) (fun h4 => ?_)
    · have hF := cpos h4 hF
      exact Or.inl ⟨rfl, congrArg (Option.map lCodeOrders_E) hF⟩
    · have hF := cneg h4 hF
      refine And.intro (fun h5 => ?_) (fun h5 => ?_)
      · have hF := cpos h5 hF
        exact Or.inl ⟨rfl, congrArg (Option.map lCodeOrders_E) hF⟩
      · have hF := cneg h5 hF
        refine obind hF fun y6 h7 hF => ?_
        refine Or.inl ⟨_, rFew_h h7, rfl, ?_⟩
        refine And.intro (fun h8 => ?_) (fun h8 => ?_)
        · have hF := cpos h8 hF
          exact Or.inl ⟨rfl, congrArg (Option.map lCodeOrders_E) hF⟩
        · have hF := cneg h8 hF
          refine obind hF fun y9 h10 hF => ?_
          refine Or.inl ⟨_, pCompare_h h10, rfl, ?_⟩
          refine obind hF fun y11 h12 hF => ?_
          refine Or.inl ⟨_, rCompare_h h12, rfl, ?_⟩
          refine obind hF fun y13 h14 hF => ?_
          refine Or.inl ⟨_, pFree_h h14, rfl, ?_⟩
          refine obind hF fun y15 h16 hF => ?_
          refine Or.inl ⟨_, rFree_h h16, rfl, ?_⟩
          refine And.intro (fun h17 => ?_) (fun h17 => ?_)
          · have hF := cpos h17 hF
            refine And.intro (fun h18 => ?_) (fun h18 => ?_)
            · have hF := cpos h18 hF
              refine obind hF fun y19 h20 hF => ?_
              refine Or.inl ⟨_, pWithin_h h20, rfl, ?_⟩
              refine obind hF fun y21 h22 hF => ?_
              refine Or.inl ⟨_, rWithin_h h22, rfl, ?_⟩
              refine And.intro (fun h23 => ?_) (fun h23 => ?_)
              · have hF := cpos h23 hF
                refine And.intro (fun h24 => ?_) (fun h24 => ?_)
                · have hF := cpos h24 hF
                  exact Or.inl ⟨rfl, congrArg (Option.map lCodeOrders_E) hF⟩
                · have hF := cneg h24 hF
                  exact Or.inl ⟨rfl, congrArg (Option.map lCodeOrders_E) hF⟩
              · have hF := cneg h23 hF
                exact Or.inl ⟨rfl, congrArg (Option.map lCodeOrders_E) hF⟩
            · have hF := cneg h18 hF
              exact Or.inl ⟨rfl, congrArg (Option.map lCodeOrders_E) hF⟩
          · have hF := cneg h17 hF
            exact Or.inl ⟨rfl, congrArg (Option.map lCodeOrders_E) hF⟩
abbrev lCodeOrders_S (a : Str) (b : Str) (taken : List Str) : Option (Bool) := lCodeOrders_F a b taken
theorem lCodeOrders_h {a : Str} {b : Str} {taken : List Str} {r : Bool} (h : lCodeOrders_S a b taken = some r) : Holds Tryz.prog Gw 3 [S a, S b, .sl 1 (taken.map cStr)] (lCodeOrders_E r) := lCodeOrders_Fh  h
abbrev lCodeBack_E (y : Bool) : CV := B y
def lCodeBack_F (s : Str) (l : List Int) : Option (Bool) := Option.bind (lawake_S) fun y1 => bif (!y1) then some (false) else (bif decide ((s.length : Int) > 100) then some (true) else (bif decide (((l.map cInt).length : Int) > 12) then some (true) else (Option.bind (pParse_S s) fun y6 => bif (y6.2 == 0) then (Option.bind (pFormat_S y6.1) fun y9 => bif (y9.2 != 0) then some (false) else (bif (!(y9.1 == s)) then some (false) else (Option.bind (pFormat_S l) fun y13 => bif (y13.2 != 0) then some ((y13.1 == ([] : Str))) else (Option.bind (pParse_S y13.1) fun y16 => bif (y16.2 == 0) then (Option.bind (slEqual_S y16.1 l) fun y19 => some (y19)) else some (false))))) else (bif (((y6.1.map cInt).length : Int) != 0) then some (false) else (Option.bind (pFormat_S l) fun y22 => bif (y22.2 != 0) then some ((y22.1 == ([] : Str))) else (Option.bind (pParse_S y22.1) fun y25 => bif (y25.2 == 0) then (Option.bind (slEqual_S y25.1 l) fun y28 => some (y28)) else some (false)))))))
set_option linter.unusedVariables false in
theorem lCodeBack_Fh {s : Str} {l : List Int} {r : Bool} (hF : lCodeBack_F s l = some r) : Holds Tryz.prog Gw 7 [S s, .sl 1 (l.map cInt)] (lCodeBack_E r) := by
  refine holds_of_wq tabOk mixed Tryz.func7 (by decide) rfl (Nat.le_of_ble_eq_true rfl) ?_
  refine obind hF fun y1 h2 hF => ?_
  refine Or.inl ⟨_, lawake_h h2, rfl, ?_⟩
  refine And.intro (fun h3 => ?_) (fun h3 => ?_)
  · have hF := cpos h3 hF
    exact Or.inl ⟨rfl, congrArg (Option.map lCodeBack_E) hF⟩
  · have hF := cneg h3 hF
    refine And.intro (fun h4 => ?_) (fun h4 => ?_)
    · have hF := cpos h4 hF
      exact Or.inl ⟨rfl, congrArg (Option.map lCodeBack_E) hF⟩
    · have hF := cneg h4 hF
      refine And.intro (fun h5 => ?_) (fun h5 => ?_)
      · have hF := cpos h5 hF
        exact Or.inl ⟨rfl, congrArg (Option.map lCodeBack_E) hF⟩
      · have hF := cneg h5 hF
        refine obind hF fun y6 h7 hF => ?_
        refine Or.inl ⟨_, pParse_h h7, rfl, ?_⟩
        refine And.intro (fun h8 => ?_) (fun h8 => ?_)
        · have hF := cpos h8 hF
          refine obind hF fun y9 h10 hF => ?_
          refine Or.inl ⟨_, pFormat_h h10, rfl, ?_⟩
          refine And.intro (fun h11 => ?_) (fun h11 => ?_)
          · have hF := cpos h11 hF
            exact Or.inl ⟨rfl, congrArg (Option.map lCodeBack_E) hF⟩
          · have hF := cneg h11 hF
            refine And.intro (fun h12 => ?_) (fun h12 => ?_)
            · have hF := cpos h12 hF
              exact Or.inl ⟨rfl, congrArg (Option.map lCodeBack_E) hF⟩
            · have hF := cneg h12 hF
              refine obind hF fun y13 h14 hF => ?_
              refine Or.inl ⟨_, pFormat_h h14, rfl, ?_⟩
              refine And.intro (fun h15 => ?_) (fun h15 => ?_)
              · have hF := cpos h15 hF
                exact Or.inl ⟨rfl, congrArg (Option.map lCodeBack_E) hF⟩
              · have hF := cneg h15 hF
                refine obind hF fun y16 h17 hF => ?_
                refine Or.inl ⟨_, pParse_h h17, rfl, ?_⟩
                refine And.intro (fun h18 => ?_) (fun h18 => ?_)
                · have hF := cpos h18 hF
                  refine obind hF fun y19 h20 hF => ?_
                  refine Or.inl ⟨_, slEqual_h h20, rfl, ?_⟩
                  exact Or.inl ⟨rfl, congrArg (Option.map lCodeBack_E) hF⟩
                · have hF := cneg h18 hF
                  exact Or.inl ⟨rfl, congrArg (Option.map lCodeBack_E) hF⟩
        · have hF := cneg h8 hF
          refine And.intro (fun h21 => ?_) (fun h21 => ?_)
          · have hF := cpos h21 hF
            exact Or.inl ⟨rfl, congrArg (Option.map lCodeBack_E) hF⟩
          · have hF := cneg h21 hF
            refine obind hF fun y22 h23 hF => ?_
            refine Or.inl ⟨_, pFormat_h h23, rfl, ?_⟩
            refine And.intro (fun h24 => ?_) (fun h24 => ?_)
            · have hF := cpos h24 hF
              exact Or.inl ⟨rfl, congrArg (Option.map lCodeBack_E) hF⟩
            · have hF := cneg h24 hF
              refine obind hF fun y25 h26 hF => ?_
              refine Or.inl ⟨_, pParse_h h26, rfl, ?_⟩
              refine And.intro (fun h27 => ?_) (fun h27 => ?_)
              · have hF := cpos h27 hF
                refine obind hF fun y28 h29 hF => ?_
                refine Or.inl ⟨_, slEqual_h h29, rfl, ?_⟩
                exact Or.inl ⟨rfl, congrArg (Option.map lCodeBack_E) hF⟩
              · have hF := cneg h27 hF
                exact Or.inl ⟨rfl, congrArg (Option.map lCodeBack_E) hF⟩
abbrev lCodeBack_S (s : Str) (l : List Int) : Option (Bool) := lCodeBack_F s l
theorem lCodeBack_h {s : Str} {l : List Int} {r : Bool} (h : lCodeBack_S s l = some r) : Holds Tryz.prog Gw 7 [S s, .sl 1 (l.map cInt)] (lCodeBack_E r) := lCodeBack_Fh  h
abbrev lCodeTree_E (y : Bool) : CV := B y
def lCodeTree_L1 (a : Str) (b : Str) : Nat → Bool → Str → Bool → Int → Option (Bool)
  | 0, _, _, _, _ => none
  | fu1 + 1, within8, v9, ok10, v11 => bif decide (v11 < 8) then (bif (!ok10) then (bif (!ok10) then (Option.bind (pWithin_S a b) fun y15 => some ((y15 == within8))) else some (false)) else (bif within8 then (Option.bind (pParent_S v9) fun y18 => bif y18.2 then (Option.bind (pCompare_S y18.1 v9) fun y21 => bif (y21.2 != 0) then some (false) else (bif (y21.1 != (-1)) then some (false) else lCodeTree_L1 a b fu1 true y18.1 y18.2 (IntKind.i64.wrap (v11 + 1)))) else lCodeTree_L1 a b fu1 true y18.1 y18.2 (IntKind.i64.wrap (v11 + 1))) else (Option.bind (pParent_S v9) fun y25 => bif y25.2 then (Option.bind (pCompare_S y25.1 v9) fun y28 => bif (y28.2 != 0) then some (false) else (bif (y28.1 != (-1)) then some (false) else lCodeTree_L1 a b fu1 (v9 == b) y25.1 y25.2 (IntKind.i64.wrap (v11 + 1)))) else lCodeTree_L1 a b fu1 (v9 == b) y25.1 y25.2 (IntKind.i64.wrap (v11 + 1))))) else (bif (!ok10) then (Option.bind (pWithin_S a b) fun y33 => some ((y33 == within8))) else some (false))
def lCodeTree_F (N : Nat) (a : Str) (b : Str) : Option (Bool) := Option.bind (lawake_S) fun y1 => bif (!y1) then some (false) else (bif decide ((a.length : Int) > 100) then some (true) else (bif decide ((b.length : Int) > 100) then some (true) else (Option.bind (pParse_S a) fun y6 => lCodeTree_L1 a b N false a (y6.2 == 0) 0)))
set_option linter.unusedVariables false in
theorem lCodeTree_Fh {N : Nat} {a : Str} {b : Str} {r : Bool} (hF : lCodeTree_F N a b = some r) : Holds Tryz.prog Gw 4 [S a, S b] (lCodeTree_E r) := by
  refine holds_of_wq tabOk mixed Tryz.func4 (by decide) rfl (Nat.le_of_ble_eq_true rfl) ?_
  refine obind hF fun y1 h2 hF => ?_
  refine Or.inl ⟨_, lawake_h h2, rfl, ?_⟩
  refine And.intro (fun h3 => ?_) (fun h3 => ?_)
  · have hF := cpos h3 hF
    exact Or.inl ⟨rfl, congrArg (Option.map lCodeTree_E) hF⟩
  · have hF := cneg h3 hF
    refine And.intro (fun h4 => ?_) (fun h4 => ?_)
    · have hF := cpos h4 hF
      exact Or.inl ⟨rfl, congrArg (Option.map lCodeTree_E) hF⟩
    · have hF := cneg h4 hF
      refine And.intro (fun h5 => ?_) (fun h5 => ?_)
      · have hF := cpos h5 hF
        exact Or.inl ⟨rfl, congrArg (Option.map lCodeTree_E) hF⟩
      · have hF := cneg h5 hF
        refine obind hF fun y6 h7 hF => ?_
        refine Or.inl ⟨_, pParse_h h7, rfl, ?_⟩
        refine loop_oq (fun p : Nat × Bool × Str × Bool × Int => [(0, .c (S a)), (1, .c (S b)), (7, .c (B p.2.1)), (8, .c (S p.2.2.1)), (9, .c (B p.2.2.2.1)), (32, .c (I p.2.2.2.2))]) (fun _ => []) (fun p => lCodeTree_L1 a b p.1 p.2.1 p.2.2.1 p.2.2.2.1 p.2.2.2.2 = some r) (fun p => p.1) (N, false, a, (y6.2 == 0), 0) hF ⟨rfl, rfl, rfl, rfl, rfl, rfl, trivial⟩ trivial ?_
        rintro ⟨fu1, within8, v9, ok10, v11⟩ hF
        cases fu1 with
        | zero => exact nomatch hF
        | succ fu1 =>
          refine join_no ?_
          refine And.intro (fun h12 => ?_) (fun h12 => ?_)
          · have hF := cpos h12 hF
            refine join_no ?_
            refine And.intro (fun h13 => ?_) (fun h13 => ?_)
            · have hF := cpos h13 hF
              refine And.intro (fun h14 => ?_) (fun h14 => ?_)
              · have hF := cpos h14 hF
                refine obind hF fun y15 h16 hF => ?_
                refine Or.inl ⟨_, pWithin_h h16, rfl, ?_⟩
                exact Or.inl ⟨rfl, congrArg (Option.map lCodeTree_E) hF⟩
              · have hF := cneg h14 hF
                exact Or.inl ⟨rfl, congrArg (Option.map lCodeTree_E) hF⟩
            · have hF := cneg h13 hF
              refine And.intro (fun h17 => ?_) (fun h17 => ?_)
              · have hF := cpos h17 hF
                refine obind hF fun y18 h19 hF => ?_
                refine Or.inl ⟨_, pParent_h h19, rfl, ?_⟩
                refine And.intro (fun h20 => ?_) (fun h20 => ?_)
                · have hF := cpos h20 hF
                  refine obind hF fun y21 h22 hF => ?_
                  refine Or.inl ⟨_, pCompare_h h22, rfl, ?_⟩
                  refine And.intro (fun h23 => ?_) (fun h23 => ?_)
                  · have hF := cpos h23 hF
                    exact Or.inl ⟨rfl, congrArg (Option.map lCodeTree_E) hF⟩
                  · have hF := cneg h23 hF
                    refine And.intro (fun h24 => ?_) (fun h24 => ?_)
                    · have hF := cpos h24 hF
                      exact Or.inl ⟨rfl, congrArg (Option.map lCodeTree_E) hF⟩
                    · have hF := cneg h24 hF
                      exact ⟨(fu1, true, y18.1, y18.2, (IntKind.i64.wrap (v11 + 1))), Nat.lt_succ_self _, hF, ⟨rfl, rfl, rfl, rfl, rfl, rfl, trivial⟩, trivial⟩
                · have hF := cneg h20 hF
                  exact ⟨(fu1, true, y18.1, y18.2, (IntKind.i64.wrap (v11 + 1))), Nat.lt_succ_self _, hF, ⟨rfl, rfl, rfl, rfl, rfl, rfl, trivial⟩, trivial⟩
              · have hF := cneg h17 hF
                refine obind hF fun y25 h26 hF => ?_
                refine Or.inl ⟨_, pParent_h h26, rfl, ?_⟩
                refine And.intro (fun h27 => ?_) (fun h27 => ?_)
                · have hF := cpos h27 hF
                  refine obind hF fun y28 h29 hF => ?_
                  refine Or.inl ⟨_, pCompare_h h29, rfl, ?_⟩
                  refine And.intro (fun h30 => ?_) (fun h30 => ?_)
                  · have hF := cpos h30 hF
                    exact Or.inl ⟨rfl, congrArg (Option.map lCodeTree_E) hF⟩
                  · have hF := cneg h30 hF
                    refine And.intro (fun h31 => ?_) (fun h31 => ?_)
                    · have hF := cpos h31 hF
                      exact Or.inl ⟨rfl, congrArg (Option.map lCodeTree_E) hF⟩
                    · have hF := cneg h31 hF
                      exact ⟨(fu1, (v9 == b), y25.1, y25.2, (IntKind.i64.wrap (v11 + 1))), Nat.lt_succ_self _, hF, ⟨rfl, rfl, rfl, rfl, rfl, rfl, trivial⟩, trivial⟩
                · have hF := cneg h27 hF
                  exact ⟨(fu1, (v9 == b), y25.1, y25.2, (IntKind.i64.wrap (v11 + 1))), Nat.lt_succ_self _, hF, ⟨rfl, rfl, rfl, rfl, rfl, rfl, trivial⟩, trivial⟩
          · have hF := cneg h12 hF
            refine And.intro (fun h32 => ?_) (fun h32 => ?_)
            · have hF := cpos h32 hF
              refine obind hF fun y33 h34 hF => ?_
              refine Or.inl ⟨_, pWithin_h h34, rfl, ?_⟩
              exact Or.inl ⟨rfl, congrArg (Option.map lCodeTree_E) hF⟩
            · have hF := cneg h32 hF
              exact Or.inl ⟨rfl, congrArg (Option.map lCodeTree_E) hF⟩
abbrev lCodeTree_S (a : Str) (b : Str) : Option (Bool) := lCodeTree_F 10 a b
theorem lCodeTree_h {a : Str} {b : Str} {r : Bool} (h : lCodeTree_S a b = some r) : Holds Tryz.prog Gw 4 [S a, S b] (lCodeTree_E r) := lCodeTree_Fh  h
abbrev lCodeTotal_E (y : Bool) : CV := B y
def lCodeTotal_F (a : Str) (b : Str) (c : Str) : Option (Bool) := Option.bind (lawake_S) fun y1 => bif (!y1) then some (false) else (bif decide ((a.length : Int) > 100) then some (true) else (bif decide ((b.length : Int) > 100) then some (true) else (bif decide ((c.length : Int) > 100) then some (true) else (Option.bind (pCompare_S a b) fun y7 => Option.bind (pCompare_S b a) fun y9 => Option.bind (pCompare_S b c) fun y11 => Option.bind (pCompare_S a c) fun y13 => bif (y7.2 != 0) then (bif (y7.2 == 0) then (bif (y11.2 == 0) then some (true) else some ((y11.1 == 0))) else (bif (y7.1 == 0) then (bif (y11.2 == 0) then some (true) else some ((y11.1 == 0))) else some (false))) else (bif (y11.2 != 0) then (bif (y7.2 == 0) then (bif (y11.2 == 0) then some (true) else some ((y11.1 == 0))) else (bif (y7.1 == 0) then (bif (y11.2 == 0) then some (true) else some ((y11.1 == 0))) else some (false))) else (bif (y9.2 != 0) then some (false) else (bif (y13.2 != 0) then some (false) else (bif (y7.1 != (IntKind.i64.wrap (0 - y9.1))) then some (false) else (bif decide (y7.1 < (-1)) then some (false) else (bif decide (y7.1 > 1) then some (false) else (bif (!((y7.1 == 0) == (a == b))) then some (false) else (bif decide (y7.1 ≤ 0) then (bif decide (y11.1 ≤ 0) then (bif decide (y13.1 > 0) then some (false) else (bif decide (y7.1 ≤ 0) then (bif decide (y11.1 ≤ 0) then (Option.bind (pWithin_S c a) fun y36 => bif (!y36) then some (true) else (Option.bind (pWithin_S b a) fun y39 => some (y39))) else some (true)) else some (true))) else (bif decide (y7.1 ≤ 0) then (bif decide (y11.1 ≤ 0) then (Option.bind (pWithin_S c a) fun y43 => bif (!y43) then some (true) else (Option.bind (pWithin_S b a) fun y46 => some (y46))) else some (true)) else some (true))) else (bif decide (y7.1 ≤ 0) then (bif decide (y11.1 ≤ 0) then (Option.bind (pWithin_S c a) fun y50 => bif (!y50) then some (true) else (Option.bind (pWithin_S b a) fun y53 => some (y53))) else some (true)) else some (true))))))))))))))
set_option linter.unusedVariables false in
theorem lCodeTotal_Fh {a : Str} {b : Str} {c : Str} {r : Bool} (hF : lCodeTotal_F a b c = some r) : Holds Tryz.prog Gw 5 [S a, S b, S c] (lCodeTotal_E r) := by
  refine holds_of_wq tabOk mixed Tryz.func5 (by decide) rfl (Nat.le_of_ble_eq_true rfl) ?_
  refine obind hF fun y1 h2 hF => ?_
  refine Or.inl ⟨_, lawake_h h2, rfl, ?_⟩
  refine And.intro (fun h3 => ?_) (fun h3 => ?_)
  · have hF := cpos h3 hF
    exact Or.inl ⟨rfl, congrArg (Option.map lCodeTotal_E) hF⟩
  · have hF := cneg h3 hF
    refine And.intro (fun h4 => ?_) (fun h4 => ?_)
    · have hF := cpos h4 hF
      exact Or.inl ⟨rfl, congrArg (Option.map lCodeTotal_E) hF⟩
    · have hF := cneg h4 hF
      refine And.intro (fun h5 => ?_) (fun h5 => ?_)
      · have hF := cpos h5 hF
        exact Or.inl ⟨rfl, congrArg (Option.map lCodeTotal_E) hF⟩
      · have hF := cneg h5 hF
        refine And.intro (fun h6 => ?_) (fun h6 => ?_)
        · have hF := cpos h6 hF
          exact Or.inl ⟨rfl, congrArg (Option.map lCodeTotal_E) hF⟩
        · have hF := cneg h6 hF
          refine obind hF fun y7 h8 hF => ?_
          refine Or.inl ⟨_, pCompare_h h8, rfl, ?_⟩
          refine obind hF fun y9 h10 hF => ?_
          refine Or.inl ⟨_, pCompare_h h10, rfl, ?_⟩
          refine obind hF fun y11 h12 hF => ?_
          refine Or.inl ⟨_, pCompare_h h12, rfl, ?_⟩
          refine obind hF fun y13 h14 hF => ?_
          refine Or.inl ⟨_, pCompare_h h14, rfl, ?_⟩
          refine And.intro (fun h15 => ?_) (fun h15 => ?_)
          · have hF := cpos h15 hF
            refine And.intro (fun h16 => ?_) (fun h16 => ?_)
            · have hF := cpos h16 hF
              refine And.intro (fun h17 => ?_) (fun h17 => ?_)
              · have hF := cpos h17 hF
                exact Or.inl ⟨rfl, congrArg (Option.map lCodeTotal_E) hF⟩
              · have hF := cneg h17 hF
                exact Or.inl ⟨rfl, congrArg (Option.map lCodeTotal_E) hF⟩
            · have hF := cneg h16 hF
              refine And.intro (fun h18 => ?_) (fun h18 => ?_)
              · have hF := cpos h18 hF
                refine And.intro (fun h19 => ?_) (fun h19 => ?_)
                · have hF := cpos h19 hF
                  exact Or.inl ⟨rfl, congrArg (Option.map lCodeTotal_E) hF⟩
                · have hF := cneg h19 hF
                  exact Or.inl ⟨rfl, congrArg (Option.map lCodeTotal_E) hF⟩
              · have hF := cneg h18 hF
                exact Or.inl ⟨rfl, congrArg (Option.map lCodeTotal_E) hF⟩
          · have hF := cneg h15 hF
            refine And.intro (fun h20 => ?_) (fun h20 => ?_)
            · have hF := cpos h20 hF
              refine And.intro (fun h21 => ?_) (fun h21 => ?_)
              · have hF := cpos h21 hF
                refine And.intro (fun h22 => ?_) (fun h22 => ?_)
                · have hF := cpos h22 hF
                  exact Or.inl ⟨rfl, congrArg (Option.map lCodeTotal_E) hF⟩
                · have hF := cneg h22 hF
                  exact Or.inl ⟨rfl, congrArg (Option.map lCodeTotal_E) hF⟩
              · have hF := cneg h21 hF
                refine And.intro (fun h23 => ?_) (fun h23 => ?_)
                · have hF := cpos h23 hF
                  refine And.intro (fun h24 => ?_) (fun h24 => ?_)
                  · have hF := cpos h24 hF
                    exact Or.inl ⟨rfl, congrArg (Option.map lCodeTotal_E) hF⟩
                  · have hF := cneg h24 hF
                    exact Or.inl ⟨rfl, congrArg (Option.map lCodeTotal_E) hF⟩
                · have hF := cneg h23 hF
                  exact Or.inl ⟨rfl, congrArg (Option.map lCodeTotal_E) hF⟩
            · have hF := cneg h20 hF
              refine And.intro (fun h25 => ?_) (fun h25 => ?_)
              · have hF := cpos h25 hF
                exact Or.inl ⟨rfl, congrArg (Option.map lCodeTotal_E) hF⟩
              · have hF := cneg h25 hF
                refine And.intro (fun h26 => ?_) (fun h26 => ?_)
                · have hF := cpos h26 hF
                  exact Or.inl ⟨rfl, congrArg (Option.map lCodeTotal_E) hF⟩
                · have hF := cneg h26 hF
                  refine And.intro (fun h27 => ?_) (fun h27 => ?_)
                  · have hF := cpos h27 hF
                    exact Or.inl ⟨rfl, congrArg (Option.map lCodeTotal_E) hF⟩
                  · have hF := cneg h27 hF
                    refine And.intro (fun h28 => ?_) (fun h28 => ?_)
                    · have hF := cpos h28 hF
                      exact Or.inl ⟨rfl, congrArg (Option.map lCodeTotal_E) hF⟩
                    · have hF := cneg h28 hF
                      refine And.intro (fun h29 => ?_) (fun h29 => ?_)
                      · have hF := cpos h29 hF
                        exact Or.inl ⟨rfl, congrArg (Option.map lCodeTotal_E) hF⟩
                      · have hF := cneg h29 hF
                        refine And.intro (fun h30 => ?_) (fun h30 => ?_)
                        · have hF := cpos h30 hF
                          exact Or.inl ⟨rfl, congrArg (Option.map lCodeTotal_E) hF⟩
                        · have hF := cneg h30 hF
                          refine And.intro (fun h31 => ?_) (fun h31 => ?_)
                          · have hF := cpos h31 hF
                            refine And.intro (fun h32 => ?_) (fun h32 => ?_)
                            · have hF := cpos h32 hF
                              refine And.intro (fun h33 => ?_) (fun h33 => ?_)
                              · have hF := cpos h33 hF
                                exact Or.inl ⟨rfl, congrArg (Option.map lCodeTotal_E) hF⟩
                              · have hF := cneg h33 hF
                                refine And.intro (fun h34 => ?_) (fun h34 => ?_)
                                · have hF := cpos h34 hF
                                  refine And.intro (fun h35 => ?_) (fun h35 => ?_)
                                  · have hF := cpos h35 hF
                                    refine obind hF fun y36 h37 hF => ?_
                                    refine Or.inl ⟨_, pWithin_h h37, rfl, ?_⟩
                                    refine And.intro (fun h38 => ?_) (fun h38 => ?_)
                                    · have hF := cpos h38 hF
                                      exact Or.inl ⟨rfl, congrArg (Option.map lCodeTotal_E) hF⟩
                                    · have hF := cneg h38 hF
                                      refine obind hF fun y39 h40 hF => ?_
                                      refine Or.inl ⟨_, pWithin_h h40, rfl, ?_⟩
                                      exact Or.inl ⟨rfl, congrArg (Option.map lCodeTotal_E) hF⟩
                                  · have hF := cneg h35 hF
                                    exact Or.inl ⟨rfl, congrArg (Option.map lCodeTotal_E) hF⟩
                                · have hF := cneg h34 hF
                                  exact Or.inl ⟨rfl, congrArg (Option.map lCodeTotal_E) hF⟩
                            · have hF := cneg h32 hF
                              refine And.intro (fun h41 => ?_) (fun h41 => ?_)
                              · have hF := cpos h41 hF
                                refine And.intro (fun h42 => ?_) (fun h42 => ?_)
                                · have hF := cpos h42 hF
                                  refine obind hF fun y43 h44 hF => ?_
                                  refine Or.inl ⟨_, pWithin_h h44, rfl, ?_⟩
                                  refine And.intro (fun h45 => ?_) (fun h45 => ?_)
                                  · have hF := cpos h45 hF
                                    exact Or.inl ⟨rfl, congrArg (Option.map lCodeTotal_E) hF⟩
                                  · have hF := cneg h45 hF
                                    refine obind hF fun y46 h47 hF => ?_
                                    refine Or.inl ⟨_, pWithin_h h47, rfl, ?_⟩
                                    exact Or.inl ⟨rfl, congrArg (Option.map lCodeTotal_E) hF⟩
                                · have hF := cneg h42 hF
                                  exact Or.inl ⟨rfl, congrArg (Option.map lCodeTotal_E) hF⟩
                              · have hF := cneg h41 hF
                                exact Or.inl ⟨rfl, congrArg (Option.map lCodeTotal_E) hF⟩
                          · have hF := cneg h31 hF
                            refine And.intro (fun h48 => ?_) (fun h48 => ?_)
                            · have hF := cpos h48 hF
                              refine And.intro (fun h49 => ?_) (fun h49 => ?_)
                              · have hF := cpos h49 hF
                                refine obind hF fun y50 h51 hF => ?_
                                refine Or.inl ⟨_, pWithin_h h51, rfl, ?_⟩
                                refine And.intro (fun h52 => ?_) (fun h52 => ?_)
                                · have hF := cpos h52 hF
                                  exact Or.inl ⟨rfl, congrArg (Option.map lCodeTotal_E) hF⟩
                                · have hF := cneg h52 hF
                                  refine obind hF fun y53 h54 hF => ?_
                                  refine Or.inl ⟨_, pWithin_h h54, rfl, ?_⟩
                                  exact Or.inl ⟨rfl, congrArg (Option.map lCodeTotal_E) hF⟩
                              · have hF := cneg h49 hF
                                exact Or.inl ⟨rfl, congrArg (Option.map lCodeTotal_E) hF⟩
                            · have hF := cneg h48 hF
                              exact Or.inl ⟨rfl, congrArg (Option.map lCodeTotal_E) hF⟩
abbrev lCodeTotal_S (a : Str) (b : Str) (c : Str) : Option (Bool) := lCodeTotal_F a b c
theorem lCodeTotal_h {a : Str} {b : Str} {c : Str} {r : Bool} (h : lCodeTotal_S a b c = some r) : Holds Tryz.prog Gw 5 [S a, S b, S c] (lCodeTotal_E r) := lCodeTotal_Fh  h
end Go.Proofs.YtihjmnhamaicpaaGreatDoor
