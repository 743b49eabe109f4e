/- Functions of the program as functions of Lean, each with its contract (printed by a program). -/
import Derived.Test.YtihjmnhamaicpaaGreatDoorGS
import Derived.Test.YtihjmnhamaicpaaGreatDoorGD
namespace Go.Proofs.YtihjmnhamaicpaaGreatDoor
open Go Go.Abs
set_option maxRecDepth 10000
set_option maxHeartbeats 400000
abbrev lCodeNatural_1_E (y : Int) : CV := I y
def lCodeNatural_1_L1 (in_ : List Str) (c0 : Str) : Nat → Int → Int → Option (Int)
  | 0, _, _ => none
  | fu1 + 1, k1, v2 => bif decide (v2 < ((in_.map cStr).length : Int)) then (Option.bind (ix in_ v2) fun x4 => bif (x4 == c0) then lCodeNatural_1_L1 in_ c0 fu1 (IntKind.i64.wrap (k1 + 1)) (IntKind.i64.wrap (v2 + 1)) else lCodeNatural_1_L1 in_ c0 fu1 k1 (IntKind.i64.wrap (v2 + 1))) else some (k1)
def lCodeNatural_1_F (N : Nat) (in_ : List Str) (c0 : Str) : Option (Int) := lCodeNatural_1_L1 in_ c0 N 0 0
set_option linter.unusedVariables false in
theorem lCodeNatural_1_Fh {N : Nat} {in_ : List Str} {c0 : Str} {r : Int} (hF : lCodeNatural_1_F N in_ c0 = some r) : Holds Tryz.prog Gw 36 [.sl 1 (in_.map cStr), .pi [S c0] 0] (lCodeNatural_1_E r) := by
  refine holds_of_wq tabOk mixed Tryz.func36 (by decide) rfl (Nat.le_of_ble_eq_true rfl) ?_
  refine loop_oq (fun p : Nat × Int × Int => [(1, .c (.pi [S c0] 0)), (4, .c (I p.2.1)), (7, .c (.sl 1 (in_.map cStr))), (8, .c (I ((in_.map cStr).length : Int))), (9, .c (I p.2.2))]) (fun _ => []) (fun p => lCodeNatural_1_L1 in_ c0 p.1 p.2.1 p.2.2 = some r) (fun p => p.1) (N, 0, 0) hF ⟨rfl, rfl, rfl, rfl, rfl, trivial⟩ trivial ?_
  rintro ⟨fu1, k1, v2⟩ hF
  cases fu1 with
  | zero => exact nomatch hF
  | succ fu1 =>
    refine join_no ?_
    refine And.intro (fun h3 => ?_) (fun h3 => ?_)
    · have hF := cpos h3 hF
      refine join_no ?_
      refine obind hF fun x4 h5 hF => ?_
      refine ⟨ix_nn h5, .inl rfl, _, ix_map cStr h5, ?_⟩
      refine And.intro (fun h6 => ?_) (fun h6 => ?_)
      · have hF := cpos h6 hF
        exact ⟨(fu1, (IntKind.i64.wrap (k1 + 1)), (IntKind.i64.wrap (v2 + 1))), Nat.lt_succ_self _, hF, ⟨rfl, rfl, rfl, rfl, rfl, trivial⟩, trivial⟩
      · have hF := cneg h6 hF
        exact ⟨(fu1, k1, (IntKind.i64.wrap (v2 + 1))), Nat.lt_succ_self _, hF, ⟨rfl, rfl, rfl, rfl, rfl, trivial⟩, trivial⟩
    · have hF := cneg h3 hF
      exact Or.inl ⟨rfl, congrArg (Option.map lCodeNatural_1_E) hF⟩
abbrev lCodeNatural_1_S (in_ : List Str) (c0 : Str) : Option (Int) := lCodeNatural_1_F (in_.length + 1) in_ c0
theorem lCodeNatural_1_h {in_ : List Str} {c0 : Str} {r : Int} (h : lCodeNatural_1_S in_ c0 = some r) : Holds Tryz.prog Gw 36 [.sl 1 (in_.map cStr), .pi [S c0] 0] (lCodeNatural_1_E r) := lCodeNatural_1_Fh  h
abbrev lCodeNatural_E (y : Bool) : CV := B y
def lCodeNatural_L1 (l : List Str) (y35 : List Str) : Nat → Int → Option (Bool)
  | 0, _ => none
  | fu1 + 1, v38 => bif decide (v38 < ((y35.map cStr).length : Int)) then (Option.bind (ix y35 v38) fun x40 => bif decide (v38 > 0) then (Option.bind (ix y35 (IntKind.i64.wrap (v38 - 1))) fun x43 => Option.bind (pNatural_S x43 x40) fun y45 => bif decide (y45 > 0) then some (false) else (Option.bind (lCodeNatural_1_S y35 x40) fun y48 => Option.bind (lCodeNatural_1_S l x40) fun y50 => bif (y48 != y50) then some (false) else lCodeNatural_L1 l y35 fu1 (IntKind.i64.wrap (v38 + 1)))) else (Option.bind (lCodeNatural_1_S y35 x40) fun y53 => Option.bind (lCodeNatural_1_S l x40) fun y55 => bif (y53 != y55) then some (false) else lCodeNatural_L1 l y35 fu1 (IntKind.i64.wrap (v38 + 1)))) else some (true)
def lCodeNatural_L2 (l : List Str) (y67 : List Str) : Nat → Int → Option (Bool)
  | 0, _ => none
  | fu2 + 1, v70 => bif decide (v70 < ((y67.map cStr).length : Int)) then (Option.bind (ix y67 v70) fun x72 => bif decide (v70 > 0) then (Option.bind (ix y67 (IntKind.i64.wrap (v70 - 1))) fun x75 => Option.bind (pNatural_S x75 x72) fun y77 => bif decide (y77 > 0) then some (false) else (Option.bind (lCodeNatural_1_S y67 x72) fun y80 => Option.bind (lCodeNatural_1_S l x72) fun y82 => bif (y80 != y82) then some (false) else lCodeNatural_L2 l y67 fu2 (IntKind.i64.wrap (v70 + 1)))) else (Option.bind (lCodeNatural_1_S y67 x72) fun y85 => Option.bind (lCodeNatural_1_S l x72) fun y87 => bif (y85 != y87) then some (false) else lCodeNatural_L2 l y67 fu2 (IntKind.i64.wrap (v70 + 1)))) else some (true)
def lCodeNatural_L3 (l : List Str) (y99 : List Str) : Nat → Int → Option (Bool)
  | 0, _ => none
  | fu3 + 1, v102 => bif decide (v102 < ((y99.map cStr).length : Int)) then (Option.bind (ix y99 v102) fun x104 => bif decide (v102 > 0) then (Option.bind (ix y99 (IntKind.i64.wrap (v102 - 1))) fun x107 => Option.bind (pNatural_S x107 x104) fun y109 => bif decide (y109 > 0) then some (false) else (Option.bind (lCodeNatural_1_S y99 x104) fun y112 => Option.bind (lCodeNatural_1_S l x104) fun y114 => bif (y112 != y114) then some (false) else lCodeNatural_L3 l y99 fu3 (IntKind.i64.wrap (v102 + 1)))) else (Option.bind (lCodeNatural_1_S y99 x104) fun y117 => Option.bind (lCodeNatural_1_S l x104) fun y119 => bif (y117 != y119) then some (false) else lCodeNatural_L3 l y99 fu3 (IntKind.i64.wrap (v102 + 1)))) else some (true)
def lCodeNatural_F (N : Nat) (a : Str) (b : Str) (c : Str) (l : List Str) (x : Int) (y : Int) : Option (Bool) := Option.bind (lawake_S) fun y1 => bif (!y1) then some (false) else (bif decide ((a.length : Int) > 100) then some (true) else (bif decide ((b.length : Int) > 100) then some (true) else (bif decide ((c.length : Int) > 100) then some (true) else (bif decide (((l.map cStr).length : Int) > 30) then some (true) else (Option.bind (rFew_S l) fun y8 => bif (!y8) then some (true) else (Option.bind (pNatural_S a b) fun y11 => Option.bind (pNatural_S b a) fun y13 => Option.bind (pNatural_S b c) fun y15 => Option.bind (pNatural_S a c) fun y17 => bif (y11 != (IntKind.i64.wrap (0 - y13))) then some (false) else (bif decide (y11 < (-1)) then some (false) else (bif decide (y11 > 1) then some (false) else (bif (!((y11 == 0) == (a == b))) then some (false) else (bif decide (y11 ≤ 0) then (bif decide (y15 ≤ 0) then (bif decide (y17 > 0) then some (false) else (Option.bind (rDecimal_S (IntKind.i64.wrap x)) fun y26 => bif decide (([78, 32] : Str).length + y26.length ≤ 9223372036854775807) then Option.bind (rDecimal_S (IntKind.i64.wrap y)) fun y29 => bif decide (([78, 32] : Str).length + y29.length ≤ 9223372036854775807) then Option.bind (pNatural_S (([78, 32] : Str) ++ y26) (([78, 32] : Str) ++ y29)) fun y32 => bif (!((decide (y32 < 0)) == (decide (x < y)))) then some (false) else (Option.bind (pSort_S l) fun y35 => bif (((y35.map cStr).length : Int) != ((l.map cStr).length : Int)) then some (false) else lCodeNatural_L1 l y35 N 0) else none else none)) else (Option.bind (rDecimal_S (IntKind.i64.wrap x)) fun y58 => bif decide (([78, 32] : Str).length + y58.length ≤ 9223372036854775807) then Option.bind (rDecimal_S (IntKind.i64.wrap y)) fun y61 => bif decide (([78, 32] : Str).length + y61.length ≤ 9223372036854775807) then Option.bind (pNatural_S (([78, 32] : Str) ++ y58) (([78, 32] : Str) ++ y61)) fun y64 => bif (!((decide (y64 < 0)) == (decide (x < y)))) then some (false) else (Option.bind (pSort_S l) fun y67 => bif (((y67.map cStr).length : Int) != ((l.map cStr).length : Int)) then some (false) else lCodeNatural_L2 l y67 N 0) else none else none)) else (Option.bind (rDecimal_S (IntKind.i64.wrap x)) fun y90 => bif decide (([78, 32] : Str).length + y90.length ≤ 9223372036854775807) then Option.bind (rDecimal_S (IntKind.i64.wrap y)) fun y93 => bif decide (([78, 32] : Str).length + y93.length ≤ 9223372036854775807) then Option.bind (pNatural_S (([78, 32] : Str) ++ y90) (([78, 32] : Str) ++ y93)) fun y96 => bif (!((decide (y96 < 0)) == (decide (x < y)))) then some (false) else (Option.bind (pSort_S l) fun y99 => bif (((y99.map cStr).length : Int) != ((l.map cStr).length : Int)) then some (false) else lCodeNatural_L3 l y99 N 0) else none else none)))))))))))
set_option linter.unusedVariables false in
theorem lCodeNatural_Fh {N : Nat} {a : Str} {b : Str} {c : Str} {l : List Str} {x : Int} {y : Int} {r : Bool} (hF : lCodeNatural_F N a b c l x y = some r) : Holds Tryz.prog Gw 10 [S a, S b, S c, .sl 1 (l.map cStr), .v (.int .u16 x), .v (.int .u16 y)] (lCodeNatural_E r) := by
  refine holds_of_wq tabOk mixed Tryz.func10 (by decide) rfl (Nat.le_of_ble_eq_true rfl) ?_
  refine obind hF fun y1 h2 hF => ?_
  refine Or.inl ⟨_, lawake_h h2, rfl, ?_⟩
  refine And.intro (fun h3 => ?_) (fun h3 => ?_)
  · have hF := cpos h3 hF
    exact Or.inl ⟨rfl, congrArg (Option.map lCodeNatural_E) hF⟩
  · have hF := cneg h3 hF
    refine And.intro (fun h4 => ?_) (fun h4 => ?_)
    · have hF := cpos h4 hF
      exact Or.inl ⟨rfl, congrArg (Option.map lCodeNatural_E) hF⟩
    · have hF := cneg h4 hF
      refine And.intro (fun h5 => ?_) (fun h5 => ?_)
      · have hF := cpos h5 hF
        exact Or.inl ⟨rfl, congrArg (Option.map lCodeNatural_E) hF⟩
      · have hF := cneg h5 hF
        refine And.intro (fun h6 => ?_) (fun h6 => ?_)
        · have hF := cpos h6 hF
          exact Or.inl ⟨rfl, congrArg (Option.map lCodeNatural_E) hF⟩
        · have hF := cneg h6 hF
          refine And.intro (fun h7 => ?_) (fun h7 => ?_)
          · have hF := cpos h7 hF
            exact Or.inl ⟨rfl, congrArg (Option.map lCodeNatural_E) hF⟩
          · have hF := cneg h7 hF
            refine obind hF fun y8 h9 hF => ?_
            refine Or.inl ⟨_, rFew_h h9, rfl, ?_⟩
            refine And.intro (fun h10 => ?_) (fun h10 => ?_)
            · have hF := cpos h10 hF
              exact Or.inl ⟨rfl, congrArg (Option.map lCodeNatural_E) hF⟩
            · have hF := cneg h10 hF
              refine obind hF fun y11 h12 hF => ?_
              refine Or.inl ⟨_, pNatural_h h12, rfl, ?_⟩
              refine obind hF fun y13 h14 hF => ?_
              refine Or.inl ⟨_, pNatural_h h14, rfl, ?_⟩
              refine obind hF fun y15 h16 hF => ?_
              refine Or.inl ⟨_, pNatural_h h16, rfl, ?_⟩
              refine obind hF fun y17 h18 hF => ?_
              refine Or.inl ⟨_, pNatural_h h18, rfl, ?_⟩
              refine And.intro (fun h19 => ?_) (fun h19 => ?_)
              · have hF := cpos h19 hF
                exact Or.inl ⟨rfl, congrArg (Option.map lCodeNatural_E) hF⟩
              · have hF := cneg h19 hF
                refine And.intro (fun h20 => ?_) (fun h20 => ?_)
                · have hF := cpos h20 hF
                  exact Or.inl ⟨rfl, congrArg (Option.map lCodeNatural_E) hF⟩
                · have hF := cneg h20 hF
                  refine And.intro (fun h21 => ?_) (fun h21 => ?_)
                  · have hF := cpos h21 hF
                    exact Or.inl ⟨rfl, congrArg (Option.map lCodeNatural_E) hF⟩
                  · have hF := cneg h21 hF
                    refine And.intro (fun h22 => ?_) (fun h22 => ?_)
                    · have hF := cpos h22 hF
                      exact Or.inl ⟨rfl, congrArg (Option.map lCodeNatural_E) hF⟩
                    · have hF := cneg h22 hF
                      refine And.intro (fun h23 => ?_) (fun h23 => ?_)
                      · have hF := cpos h23 hF
                        refine And.intro (fun h24 => ?_) (fun h24 => ?_)
                        · have hF := cpos h24 hF
                          refine And.intro (fun h25 => ?_) (fun h25 => ?_)
                          · have hF := cpos h25 hF
                            exact Or.inl ⟨rfl, congrArg (Option.map lCodeNatural_E) hF⟩
                          · have hF := cneg h25 hF
                            refine obind hF fun y26 h27 hF => ?_
                            refine Or.inl ⟨_, rDecimal_h h27, rfl, ?_⟩
                            refine gpos hF fun h28 hF => ?_
                            refine ⟨of_decide_eq_true h28, _, scat _ _, ?_⟩
                            refine obind hF fun y29 h30 hF => ?_
                            refine Or.inl ⟨_, rDecimal_h h30, rfl, ?_⟩
                            refine gpos hF fun h31 hF => ?_
                            refine ⟨of_decide_eq_true h31, _, scat _ _, ?_⟩
                            refine obind hF fun y32 h33 hF => ?_
                            refine Or.inl ⟨_, pNatural_h h33, rfl, ?_⟩
                            refine And.intro (fun h34 => ?_) (fun h34 => ?_)
                            · have hF := cpos h34 hF
                              exact Or.inl ⟨rfl, congrArg (Option.map lCodeNatural_E) hF⟩
                            · have hF := cneg h34 hF
                              refine obind hF fun y35 h36 hF => ?_
                              refine Or.inl ⟨_, pSort_h h36, rfl, ?_⟩
                              refine And.intro (fun h37 => ?_) (fun h37 => ?_)
                              · have hF := cpos h37 hF
                                exact Or.inl ⟨rfl, congrArg (Option.map lCodeNatural_E) hF⟩
                              · have hF := cneg h37 hF
                                refine loop_oq (fun p : Nat × Int => [(3, .c (.sl 1 (l.map cStr))), (19, .c (.sl 1 (y35.map cStr))), (115, .c (.sl 1 (y35.map cStr))), (116, .c (I ((y35.map cStr).length : Int))), (117, .c (I p.2))]) (fun _ => []) (fun p => lCodeNatural_L1 l y35 p.1 p.2 = some r) (fun p => p.1) (N, 0) hF ⟨rfl, rfl, rfl, rfl, rfl, trivial⟩ trivial ?_
                                rintro ⟨fu1, v38⟩ hF
                                cases fu1 with
                                | zero => exact nomatch hF
                                | succ fu1 =>
                                  refine join_no ?_
                                  refine And.intro (fun h39 => ?_) (fun h39 => ?_)
                                  · have hF := cpos h39 hF
                                    refine join_no ?_
                                    refine obind hF fun x40 h41 hF => ?_
                                    refine ⟨ix_nn h41, .inl rfl, _, ix_map cStr h41, ?_⟩
                                    refine Or.inl ?_
                                    refine And.intro (fun h42 => ?_) (fun h42 => ?_)
                                    · have hF := cpos h42 hF
                                      refine obind hF fun x43 h44 hF => ?_
                                      refine ⟨ix_nn h44, .inl rfl, _, ix_map cStr h44, ?_⟩
                                      refine obind hF fun y45 h46 hF => ?_
                                      refine Or.inl ⟨_, pNatural_h h46, rfl, ?_⟩
                                      refine And.intro (fun h47 => ?_) (fun h47 => ?_)
                                      · have hF := cpos h47 hF
                                        refine And.intro (by kernel_rfl) ?_
                                        exact Or.inl ⟨rfl, congrArg (Option.map lCodeNatural_E) hF⟩
                                      · have hF := cneg h47 hF
                                        refine obind hF fun y48 h49 hF => ?_
                                        refine Or.inl ⟨_, lCodeNatural_1_h h49, rfl, ?_⟩
                                        refine obind hF fun y50 h51 hF => ?_
                                        refine Or.inl ⟨_, lCodeNatural_1_h h51, rfl, ?_⟩
                                        refine And.intro (by kernel_rfl) ?_
                                        refine And.intro (fun h52 => ?_) (fun h52 => ?_)
                                        · have hF := cpos h52 hF
                                          exact Or.inl ⟨rfl, congrArg (Option.map lCodeNatural_E) hF⟩
                                        · have hF := cneg h52 hF
                                          exact ⟨(fu1, (IntKind.i64.wrap (v38 + 1))), Nat.lt_succ_self _, hF, ⟨rfl, rfl, rfl, rfl, rfl, trivial⟩, trivial⟩
                                    · have hF := cneg h42 hF
                                      refine obind hF fun y53 h54 hF => ?_
                                      refine Or.inl ⟨_, lCodeNatural_1_h h54, rfl, ?_⟩
                                      refine obind hF fun y55 h56 hF => ?_
                                      refine Or.inl ⟨_, lCodeNatural_1_h h56, rfl, ?_⟩
                                      refine And.intro (by kernel_rfl) ?_
                                      refine And.intro (fun h57 => ?_) (fun h57 => ?_)
                                      · have hF := cpos h57 hF
                                        exact Or.inl ⟨rfl, congrArg (Option.map lCodeNatural_E) hF⟩
                                      · have hF := cneg h57 hF
                                        exact ⟨(fu1, (IntKind.i64.wrap (v38 + 1))), Nat.lt_succ_self _, hF, ⟨rfl, rfl, rfl, rfl, rfl, trivial⟩, trivial⟩
                                  · have hF := cneg h39 hF
                                    exact Or.inl ⟨rfl, congrArg (Option.map lCodeNatural_E) hF⟩
                        · have hF := cneg h24 hF
                          refine obind hF fun y58 h59 hF => ?_
                          refine Or.inl ⟨_, rDecimal_h h59, rfl, ?_⟩
                          refine gpos hF fun h60 hF => ?_
                          refine ⟨of_decide_eq_true h60, _, scat _ _, ?_⟩
                          refine obind hF fun y61 h62 hF => ?_
                          refine Or.inl ⟨_, rDecimal_h h62, rfl, ?_⟩
                          refine gpos hF fun h63 hF => ?_
                          refine ⟨of_decide_eq_true h63, _, scat _ _, ?_⟩
                          refine obind hF fun y64 h65 hF => ?_
                          refine Or.inl ⟨_, pNatural_h h65, rfl, ?_⟩
                          refine And.intro (fun h66 => ?_) (fun h66 => ?_)
                          · have hF := cpos h66 hF
                            exact Or.inl ⟨rfl, congrArg (Option.map lCodeNatural_E) hF⟩
                          · have hF := cneg h66 hF
                            refine obind hF fun y67 h68 hF => ?_
                            refine Or.inl ⟨_, pSort_h h68, rfl, ?_⟩
                            refine And.intro (fun h69 => ?_) (fun h69 => ?_)
                            · have hF := cpos h69 hF
                              exact Or.inl ⟨rfl, congrArg (Option.map lCodeNatural_E) hF⟩
                            · have hF := cneg h69 hF
                              refine loop_oq (fun p : Nat × Int => [(3, .c (.sl 1 (l.map cStr))), (19, .c (.sl 1 (y67.map cStr))), (115, .c (.sl 1 (y67.map cStr))), (116, .c (I ((y67.map cStr).length : Int))), (117, .c (I p.2))]) (fun _ => []) (fun p => lCodeNatural_L2 l y67 p.1 p.2 = some r) (fun p => p.1) (N, 0) hF ⟨rfl, rfl, rfl, rfl, rfl, trivial⟩ trivial ?_
                              rintro ⟨fu2, v70⟩ hF
                              cases fu2 with
                              | zero => exact nomatch hF
                              | succ fu2 =>
                                refine join_no ?_
                                refine And.intro (fun h71 => ?_) (fun h71 => ?_)
                                · have hF := cpos h71 hF
                                  refine join_no ?_
                                  refine obind hF fun x72 h73 hF => ?_
                                  refine ⟨ix_nn h73, .inl rfl, _, ix_map cStr h73, ?_⟩
                                  refine Or.inl ?_
                                  refine And.intro (fun h74 => ?_) (fun h74 => ?_)
                                  · have hF := cpos h74 hF
                                    refine obind hF fun x75 h76 hF => ?_
                                    refine ⟨ix_nn h76, .inl rfl, _, ix_map cStr h76, ?_⟩
                                    refine obind hF fun y77 h78 hF => ?_
                                    refine Or.inl ⟨_, pNatural_h h78, rfl, ?_⟩
                                    refine And.intro (fun h79 => ?_) (fun h79 => ?_)
                                    · have hF := cpos h79 hF
                                      refine And.intro (by kernel_rfl) ?_
                                      exact Or.inl ⟨rfl, congrArg (Option.map lCodeNatural_E) hF⟩
                                    · have hF := cneg h79 hF
                                      refine obind hF fun y80 h81 hF => ?_
                                      refine Or.inl ⟨_, lCodeNatural_1_h h81, rfl, ?_⟩
                                      refine obind hF fun y82 h83 hF => ?_
                                      refine Or.inl ⟨_, lCodeNatural_1_h h83, rfl, ?_⟩
                                      refine And.intro (by kernel_rfl) ?_
                                      refine And.intro (fun h84 => ?_) (fun h84 => ?_)
                                      · have hF := cpos h84 hF
                                        exact Or.inl ⟨rfl, congrArg (Option.map lCodeNatural_E) hF⟩
                                      · have hF := cneg h84 hF
                                        exact ⟨(fu2, (IntKind.i64.wrap (v70 + 1))), Nat.lt_succ_self _, hF, ⟨rfl, rfl, rfl, rfl, rfl, trivial⟩, trivial⟩
                                  · have hF := cneg h74 hF
                                    refine obind hF fun y85 h86 hF => ?_
                                    refine Or.inl ⟨_, lCodeNatural_1_h h86, rfl, ?_⟩
                                    refine obind hF fun y87 h88 hF => ?_
                                    refine Or.inl ⟨_, lCodeNatural_1_h h88, rfl, ?_⟩
                                    refine And.intro (by kernel_rfl) ?_
                                    refine And.intro (fun h89 => ?_) (fun h89 => ?_)
                                    · have hF := cpos h89 hF
                                      exact Or.inl ⟨rfl, congrArg (Option.map lCodeNatural_E) hF⟩
                                    · have hF := cneg h89 hF
                                      exact ⟨(fu2, (IntKind.i64.wrap (v70 + 1))), Nat.lt_succ_self _, hF, ⟨rfl, rfl, rfl, rfl, rfl, trivial⟩, trivial⟩
                                · have hF := cneg h71 hF
                                  exact Or.inl ⟨rfl, congrArg (Option.map lCodeNatural_E) hF⟩
                      · have hF := cneg h23 hF
                        refine obind hF fun y90 h91 hF => ?_
                        refine Or.inl ⟨_, rDecimal_h h91, rfl, ?_⟩
                        refine gpos hF fun h92 hF => ?_
                        refine ⟨of_decide_eq_true h92, _, scat _ _, ?_⟩
                        refine obind hF fun y93 h94 hF => ?_
                        refine Or.inl ⟨_, rDecimal_h h94, rfl, ?_⟩
                        refine gpos hF fun h95 hF => ?_
                        refine ⟨of_decide_eq_true h95, _, scat _ _, ?_⟩
                        refine obind hF fun y96 h97 hF => ?_
                        refine Or.inl ⟨_, pNatural_h h97, rfl, ?_⟩
                        refine And.intro (fun h98 => ?_) (fun h98 => ?_)
                        · have hF := cpos h98 hF
                          exact Or.inl ⟨rfl, congrArg (Option.map lCodeNatural_E) hF⟩
                        · have hF := cneg h98 hF
                          refine obind hF fun y99 h100 hF => ?_
                          refine Or.inl ⟨_, pSort_h h100, rfl, ?_⟩
                          refine And.intro (fun h101 => ?_) (fun h101 => ?_)
                          · have hF := cpos h101 hF
                            exact Or.inl ⟨rfl, congrArg (Option.map lCodeNatural_E) hF⟩
                          · have hF := cneg h101 hF
                            refine loop_oq (fun p : Nat × Int => [(3, .c (.sl 1 (l.map cStr))), (19, .c (.sl 1 (y99.map cStr))), (115, .c (.sl 1 (y99.map cStr))), (116, .c (I ((y99.map cStr).length : Int))), (117, .c (I p.2))]) (fun _ => []) (fun p => lCodeNatural_L3 l y99 p.1 p.2 = some r) (fun p => p.1) (N, 0) hF ⟨rfl, rfl, rfl, rfl, rfl, trivial⟩ trivial ?_
                            rintro ⟨fu3, v102⟩ hF
                            cases fu3 with
                            | zero => exact nomatch hF
                            | succ fu3 =>
                              refine join_no ?_
                              refine And.intro (fun h103 => ?_) (fun h103 => ?_)
                              · have hF := cpos h103 hF
                                refine join_no ?_
                                refine obind hF fun x104 h105 hF => ?_
                                refine ⟨ix_nn h105, .inl rfl, _, ix_map cStr h105, ?_⟩
                                refine Or.inl ?_
                                refine And.intro (fun h106 => ?_) (fun h106 => ?_)
                                · have hF := cpos h106 hF
                                  refine obind hF fun x107 h108 hF => ?_
                                  refine ⟨ix_nn h108, .inl rfl, _, ix_map cStr h108, ?_⟩
                                  refine obind hF fun y109 h110 hF => ?_
                                  refine Or.inl ⟨_, pNatural_h h110, rfl, ?_⟩
                                  refine And.intro (fun h111 => ?_) (fun h111 => ?_)
                                  · have hF := cpos h111 hF
                                    refine And.intro (by kernel_rfl) ?_
                                    exact Or.inl ⟨rfl, congrArg (Option.map lCodeNatural_E) hF⟩
                                  · have hF := cneg h111 hF
                                    refine obind hF fun y112 h113 hF => ?_
                                    refine Or.inl ⟨_, lCodeNatural_1_h h113, rfl, ?_⟩
                                    refine obind hF fun y114 h115 hF => ?_
                                    refine Or.inl ⟨_, lCodeNatural_1_h h115, rfl, ?_⟩
                                    refine And.intro (by kernel_rfl) ?_
                                    refine And.intro (fun h116 => ?_) (fun h116 => ?_)
                                    · have hF := cpos h116 hF
                                      exact Or.inl ⟨rfl, congrArg (Option.map lCodeNatural_E) hF⟩
                                    · have hF := cneg h116 hF
                                      exact ⟨(fu3, (IntKind.i64.wrap (v102 + 1))), Nat.lt_succ_self _, hF, ⟨rfl, rfl, rfl, rfl, rfl, trivial⟩, trivial⟩
                                · have hF := cneg h106 hF
                                  refine obind hF fun y117 h118 hF => ?_
                                  refine Or.inl ⟨_, lCodeNatural_1_h h118, rfl, ?_⟩
                                  refine obind hF fun y119 h120 hF => ?_
                                  refine Or.inl ⟨_, lCodeNatural_1_h h120, rfl, ?_⟩
                                  refine And.intro (by kernel_rfl) ?_
                                  refine And.intro (fun h121 => ?_) (fun h121 => ?_)
                                  · have hF := cpos h121 hF
                                    exact Or.inl ⟨rfl, congrArg (Option.map lCodeNatural_E) hF⟩
                                  · have hF := cneg h121 hF
                                    exact ⟨(fu3, (IntKind.i64.wrap (v102 + 1))), Nat.lt_succ_self _, hF, ⟨rfl, rfl, rfl, rfl, rfl, trivial⟩, trivial⟩
                              · have hF := cneg h103 hF
                                exact Or.inl ⟨rfl, congrArg (Option.map lCodeNatural_E) hF⟩
abbrev lCodeNatural_S (a : Str) (b : Str) (c : Str) (l : List Str) (x : Int) (y : Int) : Option (Bool) := lCodeNatural_F 100 a b c l x y
theorem lCodeNatural_h {a : Str} {b : Str} {c : Str} {l : List Str} {x : Int} {y : Int} {r : Bool} (h : lCodeNatural_S a b c l x y = some r) : Holds Tryz.prog Gw 10 [S a, S b, S c, .sl 1 (l.map cStr), .v (.int .u16 x), .v (.int .u16 y)] (lCodeNatural_E r) := lCodeNatural_Fh  h
end Go.Proofs.YtihjmnhamaicpaaGreatDoor
