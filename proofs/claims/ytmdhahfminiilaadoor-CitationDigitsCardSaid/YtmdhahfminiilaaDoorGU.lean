/- Functions of the program as functions of Lean, each with its contract (printed by a program). -/
import Derived.Test.YtmdhahfminiilaaDoorLibD
namespace Go.Proofs.YtmdhahfminiilaaDoor
open Go Go.Abs
set_option maxRecDepth 10000
set_option maxHeartbeats 400000
abbrev iLower_E (y : Int) : CV := .v (.int .u8 y)
def iLower_F (c : Int) : Option (Int) := some ((IntKind.u8.wrap (((BitVec.ofInt (IntKind.bits .u8) c) ||| (BitVec.ofInt (IntKind.bits .u8) 32)).toNat : Int)))
set_option linter.unusedVariables false in
theorem iLower_Fh {c : Int} {r : Int} (hF : iLower_F c = some r) : Holds Tryd.prog Gw 72 [.v (.int .u8 c)] (iLower_E r) := by
  refine holds_of_wq tabOk mixed Tryd.func72 (by decide) rfl (Nat.le_of_ble_eq_true rfl) ?_
  exact Or.inl ⟨rfl, congrArg (Option.map iLower_E) hF⟩
abbrev iLower_S (c : Int) : Option (Int) := iLower_F c
theorem iLower_h {c : Int} {r : Int} (h : iLower_S c = some r) : Holds Tryd.prog Gw 72 [.v (.int .u8 c)] (iLower_E r) := iLower_Fh  h
abbrev iParseUint_E (y : Int × Int) : CV := .tup [.v (.int .u64 y.1), .v (ifcV 109 y.2)]
def iParseUint_L1 (s : Str) : Nat → Int → Int → Option (Int × Int)
  | 0, _, _ => none
  | fu1 + 1, n8, v9 => bif decide (v9 < (((s2b s).map cInt_u8).length : Int)) then (Option.bind (ix (s2b s) v9) fun x11 => bif (x11 == 95) then (bif decide (48 ≤ x11) then (bif decide (x11 ≤ 57) then (bif decide ((IntKind.u8.wrap (x11 - 48)) ≥ 10) then some (0, 2) else (bif decide (n8 ≥ 1844674407370955162) then some ((IntKind.u64.wrap ((IntKind.u64.wrap (1 * 1099511627776)) - 1)), 1) else (bif decide ((IntKind.u64.wrap ((IntKind.u64.wrap (n8 * 10)) + (IntKind.u64.wrap (IntKind.u8.wrap (x11 - 48))))) < (IntKind.u64.wrap (n8 * 10))) then some ((IntKind.u64.wrap ((IntKind.u64.wrap (1 * 1099511627776)) - 1)), 1) else (bif decide ((IntKind.u64.wrap ((IntKind.u64.wrap (n8 * 10)) + (IntKind.u64.wrap (IntKind.u8.wrap (x11 - 48))))) > (IntKind.u64.wrap ((IntKind.u64.wrap (1 * 1099511627776)) - 1))) then some ((IntKind.u64.wrap ((IntKind.u64.wrap (1 * 1099511627776)) - 1)), 1) else iParseUint_L1 s fu1 (IntKind.u64.wrap ((IntKind.u64.wrap (n8 * 10)) + (IntKind.u64.wrap (IntKind.u8.wrap (x11 - 48))))) (IntKind.i64.wrap (v9 + 1)))))) else (Option.bind (iLower_S x11) fun y21 => bif decide (97 ≤ y21) then (Option.bind (iLower_S x11) fun y24 => bif decide (y24 ≤ 122) then (Option.bind (iLower_S x11) fun y27 => bif decide ((IntKind.u8.wrap ((IntKind.u8.wrap (y27 - 97)) + 10)) ≥ 10) then some (0, 2) else (bif decide (n8 ≥ 1844674407370955162) then some ((IntKind.u64.wrap ((IntKind.u64.wrap (1 * 1099511627776)) - 1)), 1) else (bif decide ((IntKind.u64.wrap ((IntKind.u64.wrap (n8 * 10)) + (IntKind.u64.wrap (IntKind.u8.wrap ((IntKind.u8.wrap (y27 - 97)) + 10))))) < (IntKind.u64.wrap (n8 * 10))) then some ((IntKind.u64.wrap ((IntKind.u64.wrap (1 * 1099511627776)) - 1)), 1) else (bif decide ((IntKind.u64.wrap ((IntKind.u64.wrap (n8 * 10)) + (IntKind.u64.wrap (IntKind.u8.wrap ((IntKind.u8.wrap (y27 - 97)) + 10))))) > (IntKind.u64.wrap ((IntKind.u64.wrap (1 * 1099511627776)) - 1))) then some ((IntKind.u64.wrap ((IntKind.u64.wrap (1 * 1099511627776)) - 1)), 1) else iParseUint_L1 s fu1 (IntKind.u64.wrap ((IntKind.u64.wrap (n8 * 10)) + (IntKind.u64.wrap (IntKind.u8.wrap ((IntKind.u8.wrap (y27 - 97)) + 10))))) (IntKind.i64.wrap (v9 + 1)))))) else some (0, 2)) else some (0, 2))) else (Option.bind (iLower_S x11) fun y33 => bif decide (97 ≤ y33) then (Option.bind (iLower_S x11) fun y36 => bif decide (y36 ≤ 122) then (Option.bind (iLower_S x11) fun y39 => bif decide ((IntKind.u8.wrap ((IntKind.u8.wrap (y39 - 97)) + 10)) ≥ 10) then some (0, 2) else (bif decide (n8 ≥ 1844674407370955162) then some ((IntKind.u64.wrap ((IntKind.u64.wrap (1 * 1099511627776)) - 1)), 1) else (bif decide ((IntKind.u64.wrap ((IntKind.u64.wrap (n8 * 10)) + (IntKind.u64.wrap (IntKind.u8.wrap ((IntKind.u8.wrap (y39 - 97)) + 10))))) < (IntKind.u64.wrap (n8 * 10))) then some ((IntKind.u64.wrap ((IntKind.u64.wrap (1 * 1099511627776)) - 1)), 1) else (bif decide ((IntKind.u64.wrap ((IntKind.u64.wrap (n8 * 10)) + (IntKind.u64.wrap (IntKind.u8.wrap ((IntKind.u8.wrap (y39 - 97)) + 10))))) > (IntKind.u64.wrap ((IntKind.u64.wrap (1 * 1099511627776)) - 1))) then some ((IntKind.u64.wrap ((IntKind.u64.wrap (1 * 1099511627776)) - 1)), 1) else iParseUint_L1 s fu1 (IntKind.u64.wrap ((IntKind.u64.wrap (n8 * 10)) + (IntKind.u64.wrap (IntKind.u8.wrap ((IntKind.u8.wrap (y39 - 97)) + 10))))) (IntKind.i64.wrap (v9 + 1)))))) else some (0, 2)) else some (0, 2))) else (bif decide (48 ≤ x11) then (bif decide (x11 ≤ 57) then (bif decide ((IntKind.u8.wrap (x11 - 48)) ≥ 10) then some (0, 2) else (bif decide (n8 ≥ 1844674407370955162) then some ((IntKind.u64.wrap ((IntKind.u64.wrap (1 * 1099511627776)) - 1)), 1) else (bif decide ((IntKind.u64.wrap ((IntKind.u64.wrap (n8 * 10)) + (IntKind.u64.wrap (IntKind.u8.wrap (x11 - 48))))) < (IntKind.u64.wrap (n8 * 10))) then some ((IntKind.u64.wrap ((IntKind.u64.wrap (1 * 1099511627776)) - 1)), 1) else (bif decide ((IntKind.u64.wrap ((IntKind.u64.wrap (n8 * 10)) + (IntKind.u64.wrap (IntKind.u8.wrap (x11 - 48))))) > (IntKind.u64.wrap ((IntKind.u64.wrap (1 * 1099511627776)) - 1))) then some ((IntKind.u64.wrap ((IntKind.u64.wrap (1 * 1099511627776)) - 1)), 1) else iParseUint_L1 s fu1 (IntKind.u64.wrap ((IntKind.u64.wrap (n8 * 10)) + (IntKind.u64.wrap (IntKind.u8.wrap (x11 - 48))))) (IntKind.i64.wrap (v9 + 1)))))) else (Option.bind (iLower_S x11) fun y51 => bif decide (97 ≤ y51) then (Option.bind (iLower_S x11) fun y54 => bif decide (y54 ≤ 122) then (Option.bind (iLower_S x11) fun y57 => bif decide ((IntKind.u8.wrap ((IntKind.u8.wrap (y57 - 97)) + 10)) ≥ 10) then some (0, 2) else (bif decide (n8 ≥ 1844674407370955162) then some ((IntKind.u64.wrap ((IntKind.u64.wrap (1 * 1099511627776)) - 1)), 1) else (bif decide ((IntKind.u64.wrap ((IntKind.u64.wrap (n8 * 10)) + (IntKind.u64.wrap (IntKind.u8.wrap ((IntKind.u8.wrap (y57 - 97)) + 10))))) < (IntKind.u64.wrap (n8 * 10))) then some ((IntKind.u64.wrap ((IntKind.u64.wrap (1 * 1099511627776)) - 1)), 1) else (bif decide ((IntKind.u64.wrap ((IntKind.u64.wrap (n8 * 10)) + (IntKind.u64.wrap (IntKind.u8.wrap ((IntKind.u8.wrap (y57 - 97)) + 10))))) > (IntKind.u64.wrap ((IntKind.u64.wrap (1 * 1099511627776)) - 1))) then some ((IntKind.u64.wrap ((IntKind.u64.wrap (1 * 1099511627776)) - 1)), 1) else iParseUint_L1 s fu1 (IntKind.u64.wrap ((IntKind.u64.wrap (n8 * 10)) + (IntKind.u64.wrap (IntKind.u8.wrap ((IntKind.u8.wrap (y57 - 97)) + 10))))) (IntKind.i64.wrap (v9 + 1)))))) else some (0, 2)) else some (0, 2))) else (Option.bind (iLower_S x11) fun y63 => bif decide (97 ≤ y63) then (Option.bind (iLower_S x11) fun y66 => bif decide (y66 ≤ 122) then (Option.bind (iLower_S x11) fun y69 => bif decide ((IntKind.u8.wrap ((IntKind.u8.wrap (y69 - 97)) + 10)) ≥ 10) then some (0, 2) else (bif decide (n8 ≥ 1844674407370955162) then some ((IntKind.u64.wrap ((IntKind.u64.wrap (1 * 1099511627776)) - 1)), 1) else (bif decide ((IntKind.u64.wrap ((IntKind.u64.wrap (n8 * 10)) + (IntKind.u64.wrap (IntKind.u8.wrap ((IntKind.u8.wrap (y69 - 97)) + 10))))) < (IntKind.u64.wrap (n8 * 10))) then some ((IntKind.u64.wrap ((IntKind.u64.wrap (1 * 1099511627776)) - 1)), 1) else (bif decide ((IntKind.u64.wrap ((IntKind.u64.wrap (n8 * 10)) + (IntKind.u64.wrap (IntKind.u8.wrap ((IntKind.u8.wrap (y69 - 97)) + 10))))) > (IntKind.u64.wrap ((IntKind.u64.wrap (1 * 1099511627776)) - 1))) then some ((IntKind.u64.wrap ((IntKind.u64.wrap (1 * 1099511627776)) - 1)), 1) else iParseUint_L1 s fu1 (IntKind.u64.wrap ((IntKind.u64.wrap (n8 * 10)) + (IntKind.u64.wrap (IntKind.u8.wrap ((IntKind.u8.wrap (y69 - 97)) + 10))))) (IntKind.i64.wrap (v9 + 1)))))) else some (0, 2)) else some (0, 2)))) else some (n8, (0 : Int))
def iParseUint_F (N : Nat) (s : Str) : Option (Int × Int) := bif (s == ([] : Str)) then some (0, 2) else iParseUint_L1 s N 0 0
set_option linter.unusedVariables false in
theorem iParseUint_Fh {N : Nat} {s : Str} {r : Int × Int} (hF : iParseUint_F N s = some r) : Holds Tryd.prog Gw 54 [S s, I 10, I 40] (iParseUint_E r) := by
  refine holds_of_wq tabOk mixed Tryd.func54 (by decide) rfl (Nat.le_of_ble_eq_true rfl) ?_
  refine And.intro (fun h1 => ?_) (fun h1 => ?_)
  · have hF := cpos h1 hF
    refine Or.inr ⟨[], 0, _, _, _, _, rfl, rfl, eff_mkif (v := .int .i64 2) tok109.u, rfl, ?_⟩
    exact Or.inl ⟨rfl, congrArg (Option.map iParseUint_E) hF⟩
  · have hF := cneg h1 hF
    refine join_no ?_
    refine And.intro (fun h2 => ?_) (fun h2 => ?_)
    · skip
      refine And.intro (fun h3 => ?_) (fun h3 => ?_)
      · skip
        refine And.intro (fun h4 => ?_) (fun h4 => ?_)
        · exact absurd h4 (by simp)
        · skip
          refine And.intro (fun h5 => ?_) (fun h5 => ?_)
          · exact absurd h5 (by simp)
          · skip
            refine And.intro (fun h6 => ?_) (fun h6 => ?_)
            · exact absurd h6 (by simp)
            · skip
              refine And.intro (fun h7 => ?_) (fun h7 => ?_)
              · skip
                refine ⟨by decide, ?_⟩
                refine Or.inr ⟨[], 0, _, _, _, _, rfl, rfl, eff_s2b (l := s) tok9.u tok49.u tok5.u, rfl, ?_⟩
                refine loop_oq (fun p : Nat × Int × Int => [(1, .c (I 10)), (8, .c (B (10 == 0))), (9, .c (S s)), (10, .c (.v (.int .u64 1844674407370955162))), (11, .c (.v (.int .u64 (IntKind.u64.wrap ((IntKind.u64.wrap (1 * 1099511627776)) - 1))))), (12, .c (B false)), (13, .c (.v (.int .u64 p.2.1))), (99, .c (.sl 1 ((s2b s).map cInt_u8))), (100, .c (I (((s2b s).map cInt_u8).length : Int))), (101, .c (I p.2.2))]) (fun _ => []) (fun p => iParseUint_L1 s p.1 p.2.1 p.2.2 = some r) (fun p => p.1) (N, 0, 0) hF ⟨rfl, rfl, rfl, rfl, rfl, rfl, rfl, rfl, rfl, rfl, trivial⟩ trivial ?_
                rintro ⟨fu1, n8, v9⟩ hF
                cases fu1 with
                | zero => exact nomatch hF
                | succ fu1 =>
                  refine join_no ?_
                  refine And.intro (fun h10 => ?_) (fun h10 => ?_)
                  · have hF := cpos h10 hF
                    refine join_no ?_
                    refine obind hF fun x11 h12 hF => ?_
                    refine ⟨ix_nn h12, .inl rfl, _, ix_map cInt_u8 h12, ?_⟩
                    refine join_no ?_
                    refine And.intro (fun h13 => ?_) (fun h13 => ?_)
                    · have hF := cpos h13 hF
                      refine And.intro (fun h14 => ?_) (fun h14 => ?_)
                      · exact absurd h14 (by simp)
                      · skip
                        refine And.intro (fun h15 => ?_) (fun h15 => ?_)
                        · have hF := cpos h15 hF
                          refine And.intro (fun h16 => ?_) (fun h16 => ?_)
                          · have hF := cpos h16 hF
                            refine And.intro (fun h17 => ?_) (fun h17 => ?_)
                            · have hF := cpos h17 hF
                              refine Or.inr ⟨[], 0, _, _, _, _, rfl, rfl, eff_mkif (v := .int .i64 2) tok109.u, rfl, ?_⟩
                              exact Or.inl ⟨rfl, congrArg (Option.map iParseUint_E) hF⟩
                            · have hF := cneg h17 hF
                              refine And.intro (fun h18 => ?_) (fun h18 => ?_)
                              · have hF := cpos h18 hF
                                refine Or.inr ⟨[], 0, _, _, _, _, rfl, rfl, eff_mkif (v := .int .i64 1) tok109.u, rfl, ?_⟩
                                exact Or.inl ⟨rfl, congrArg (Option.map iParseUint_E) hF⟩
                              · have hF := cneg h18 hF
                                refine And.intro (fun h19 => ?_) (fun h19 => ?_)
                                · have hF := cpos h19 hF
                                  refine Or.inr ⟨[], 0, _, _, _, _, rfl, rfl, eff_mkif (v := .int .i64 1) tok109.u, rfl, ?_⟩
                                  exact Or.inl ⟨rfl, congrArg (Option.map iParseUint_E) hF⟩
                                · have hF := cneg h19 hF
                                  refine And.intro (fun h20 => ?_) (fun h20 => ?_)
                                  · have hF := cpos h20 hF
                                    refine Or.inr ⟨[], 0, _, _, _, _, rfl, rfl, eff_mkif (v := .int .i64 1) tok109.u, rfl, ?_⟩
                                    exact Or.inl ⟨rfl, congrArg (Option.map iParseUint_E) hF⟩
                                  · have hF := cneg h20 hF
                                    exact ⟨(fu1, (IntKind.u64.wrap ((IntKind.u64.wrap (n8 * 10)) + (IntKind.u64.wrap (IntKind.u8.wrap (x11 - 48))))), (IntKind.i64.wrap (v9 + 1))), Nat.lt_succ_self _, hF, ⟨rfl, rfl, rfl, rfl, rfl, rfl, rfl, rfl, rfl, rfl, trivial⟩, trivial⟩
                          · have hF := cneg h16 hF
                            refine obind hF fun y21 h22 hF => ?_
                            refine Or.inl ⟨_, iLower_h h22, rfl, ?_⟩
                            refine And.intro (fun h23 => ?_) (fun h23 => ?_)
                            · have hF := cpos h23 hF
                              refine obind hF fun y24 h25 hF => ?_
                              refine Or.inl ⟨_, iLower_h h25, rfl, ?_⟩
                              refine And.intro (fun h26 => ?_) (fun h26 => ?_)
                              · have hF := cpos h26 hF
                                refine obind hF fun y27 h28 hF => ?_
                                refine Or.inl ⟨_, iLower_h h28, rfl, ?_⟩
                                refine And.intro (fun h29 => ?_) (fun h29 => ?_)
                                · have hF := cpos h29 hF
                                  refine Or.inr ⟨[], 0, _, _, _, _, rfl, rfl, eff_mkif (v := .int .i64 2) tok109.u, rfl, ?_⟩
                                  exact Or.inl ⟨rfl, congrArg (Option.map iParseUint_E) hF⟩
                                · have hF := cneg h29 hF
                                  refine And.intro (fun h30 => ?_) (fun h30 => ?_)
                                  · have hF := cpos h30 hF
                                    refine Or.inr ⟨[], 0, _, _, _, _, rfl, rfl, eff_mkif (v := .int .i64 1) tok109.u, rfl, ?_⟩
                                    exact Or.inl ⟨rfl, congrArg (Option.map iParseUint_E) hF⟩
                                  · have hF := cneg h30 hF
                                    refine And.intro (fun h31 => ?_) (fun h31 => ?_)
                                    · have hF := cpos h31 hF
                                      refine Or.inr ⟨[], 0, _, _, _, _, rfl, rfl, eff_mkif (v := .int .i64 1) tok109.u, rfl, ?_⟩
                                      exact Or.inl ⟨rfl, congrArg (Option.map iParseUint_E) hF⟩
                                    · have hF := cneg h31 hF
                                      refine And.intro (fun h32 => ?_) (fun h32 => ?_)
                                      · have hF := cpos h32 hF
                                        refine Or.inr ⟨[], 0, _, _, _, _, rfl, rfl, eff_mkif (v := .int .i64 1) tok109.u, rfl, ?_⟩
                                        exact Or.inl ⟨rfl, congrArg (Option.map iParseUint_E) hF⟩
                                      · have hF := cneg h32 hF
                                        exact ⟨(fu1, (IntKind.u64.wrap ((IntKind.u64.wrap (n8 * 10)) + (IntKind.u64.wrap (IntKind.u8.wrap ((IntKind.u8.wrap (y27 - 97)) + 10))))), (IntKind.i64.wrap (v9 + 1))), Nat.lt_succ_self _, hF, ⟨rfl, rfl, rfl, rfl, rfl, rfl, rfl, rfl, rfl, rfl, trivial⟩, trivial⟩
                              · have hF := cneg h26 hF
                                refine Or.inr ⟨[], 0, _, _, _, _, rfl, rfl, eff_mkif (v := .int .i64 2) tok109.u, rfl, ?_⟩
                                exact Or.inl ⟨rfl, congrArg (Option.map iParseUint_E) hF⟩
                            · have hF := cneg h23 hF
                              refine Or.inr ⟨[], 0, _, _, _, _, rfl, rfl, eff_mkif (v := .int .i64 2) tok109.u, rfl, ?_⟩
                              exact Or.inl ⟨rfl, congrArg (Option.map iParseUint_E) hF⟩
                        · have hF := cneg h15 hF
                          refine obind hF fun y33 h34 hF => ?_
                          refine Or.inl ⟨_, iLower_h h34, rfl, ?_⟩
                          refine And.intro (fun h35 => ?_) (fun h35 => ?_)
                          · have hF := cpos h35 hF
                            refine obind hF fun y36 h37 hF => ?_
                            refine Or.inl ⟨_, iLower_h h37, rfl, ?_⟩
                            refine And.intro (fun h38 => ?_) (fun h38 => ?_)
                            · have hF := cpos h38 hF
                              refine obind hF fun y39 h40 hF => ?_
                              refine Or.inl ⟨_, iLower_h h40, rfl, ?_⟩
                              refine And.intro (fun h41 => ?_) (fun h41 => ?_)
                              · have hF := cpos h41 hF
                                refine Or.inr ⟨[], 0, _, _, _, _, rfl, rfl, eff_mkif (v := .int .i64 2) tok109.u, rfl, ?_⟩
                                exact Or.inl ⟨rfl, congrArg (Option.map iParseUint_E) hF⟩
                              · have hF := cneg h41 hF
                                refine And.intro (fun h42 => ?_) (fun h42 => ?_)
                                · have hF := cpos h42 hF
                                  refine Or.inr ⟨[], 0, _, _, _, _, rfl, rfl, eff_mkif (v := .int .i64 1) tok109.u, rfl, ?_⟩
                                  exact Or.inl ⟨rfl, congrArg (Option.map iParseUint_E) hF⟩
                                · have hF := cneg h42 hF
                                  refine And.intro (fun h43 => ?_) (fun h43 => ?_)
                                  · have hF := cpos h43 hF
                                    refine Or.inr ⟨[], 0, _, _, _, _, rfl, rfl, eff_mkif (v := .int .i64 1) tok109.u, rfl, ?_⟩
                                    exact Or.inl ⟨rfl, congrArg (Option.map iParseUint_E) hF⟩
                                  · have hF := cneg h43 hF
                                    refine And.intro (fun h44 => ?_) (fun h44 => ?_)
                                    · have hF := cpos h44 hF
                                      refine Or.inr ⟨[], 0, _, _, _, _, rfl, rfl, eff_mkif (v := .int .i64 1) tok109.u, rfl, ?_⟩
                                      exact Or.inl ⟨rfl, congrArg (Option.map iParseUint_E) hF⟩
                                    · have hF := cneg h44 hF
                                      exact ⟨(fu1, (IntKind.u64.wrap ((IntKind.u64.wrap (n8 * 10)) + (IntKind.u64.wrap (IntKind.u8.wrap ((IntKind.u8.wrap (y39 - 97)) + 10))))), (IntKind.i64.wrap (v9 + 1))), Nat.lt_succ_self _, hF, ⟨rfl, rfl, rfl, rfl, rfl, rfl, rfl, rfl, rfl, rfl, trivial⟩, trivial⟩
                            · have hF := cneg h38 hF
                              refine Or.inr ⟨[], 0, _, _, _, _, rfl, rfl, eff_mkif (v := .int .i64 2) tok109.u, rfl, ?_⟩
                              exact Or.inl ⟨rfl, congrArg (Option.map iParseUint_E) hF⟩
                          · have hF := cneg h35 hF
                            refine Or.inr ⟨[], 0, _, _, _, _, rfl, rfl, eff_mkif (v := .int .i64 2) tok109.u, rfl, ?_⟩
                            exact Or.inl ⟨rfl, congrArg (Option.map iParseUint_E) hF⟩
                    · have hF := cneg h13 hF
                      refine And.intro (fun h45 => ?_) (fun h45 => ?_)
                      · have hF := cpos h45 hF
                        refine And.intro (fun h46 => ?_) (fun h46 => ?_)
                        · have hF := cpos h46 hF
                          refine And.intro (fun h47 => ?_) (fun h47 => ?_)
                          · have hF := cpos h47 hF
                            refine Or.inr ⟨[], 0, _, _, _, _, rfl, rfl, eff_mkif (v := .int .i64 2) tok109.u, rfl, ?_⟩
                            exact Or.inl ⟨rfl, congrArg (Option.map iParseUint_E) hF⟩
                          · have hF := cneg h47 hF
                            refine And.intro (fun h48 => ?_) (fun h48 => ?_)
                            · have hF := cpos h48 hF
                              refine Or.inr ⟨[], 0, _, _, _, _, rfl, rfl, eff_mkif (v := .int .i64 1) tok109.u, rfl, ?_⟩
                              exact Or.inl ⟨rfl, congrArg (Option.map iParseUint_E) hF⟩
                            · have hF := cneg h48 hF
                              refine And.intro (fun h49 => ?_) (fun h49 => ?_)
                              · have hF := cpos h49 hF
                                refine Or.inr ⟨[], 0, _, _, _, _, rfl, rfl, eff_mkif (v := .int .i64 1) tok109.u, rfl, ?_⟩
                                exact Or.inl ⟨rfl, congrArg (Option.map iParseUint_E) hF⟩
                              · have hF := cneg h49 hF
                                refine And.intro (fun h50 => ?_) (fun h50 => ?_)
                                · have hF := cpos h50 hF
                                  refine Or.inr ⟨[], 0, _, _, _, _, rfl, rfl, eff_mkif (v := .int .i64 1) tok109.u, rfl, ?_⟩
                                  exact Or.inl ⟨rfl, congrArg (Option.map iParseUint_E) hF⟩
                                · have hF := cneg h50 hF
                                  exact ⟨(fu1, (IntKind.u64.wrap ((IntKind.u64.wrap (n8 * 10)) + (IntKind.u64.wrap (IntKind.u8.wrap (x11 - 48))))), (IntKind.i64.wrap (v9 + 1))), Nat.lt_succ_self _, hF, ⟨rfl, rfl, rfl, rfl, rfl, rfl, rfl, rfl, rfl, rfl, trivial⟩, trivial⟩
                        · have hF := cneg h46 hF
                          refine obind hF fun y51 h52 hF => ?_
                          refine Or.inl ⟨_, iLower_h h52, rfl, ?_⟩
                          refine And.intro (fun h53 => ?_) (fun h53 => ?_)
                          · have hF := cpos h53 hF
                            refine obind hF fun y54 h55 hF => ?_
                            refine Or.inl ⟨_, iLower_h h55, rfl, ?_⟩
                            refine And.intro (fun h56 => ?_) (fun h56 => ?_)
                            · have hF := cpos h56 hF
                              refine obind hF fun y57 h58 hF => ?_
                              refine Or.inl ⟨_, iLower_h h58, rfl, ?_⟩
                              refine And.intro (fun h59 => ?_) (fun h59 => ?_)
                              · have hF := cpos h59 hF
                                refine Or.inr ⟨[], 0, _, _, _, _, rfl, rfl, eff_mkif (v := .int .i64 2) tok109.u, rfl, ?_⟩
                                exact Or.inl ⟨rfl, congrArg (Option.map iParseUint_E) hF⟩
                              · have hF := cneg h59 hF
                                refine And.intro (fun h60 => ?_) (fun h60 => ?_)
                                · have hF := cpos h60 hF
                                  refine Or.inr ⟨[], 0, _, _, _, _, rfl, rfl, eff_mkif (v := .int .i64 1) tok109.u, rfl, ?_⟩
                                  exact Or.inl ⟨rfl, congrArg (Option.map iParseUint_E) hF⟩
                                · have hF := cneg h60 hF
                                  refine And.intro (fun h61 => ?_) (fun h61 => ?_)
                                  · have hF := cpos h61 hF
                                    refine Or.inr ⟨[], 0, _, _, _, _, rfl, rfl, eff_mkif (v := .int .i64 1) tok109.u, rfl, ?_⟩
                                    exact Or.inl ⟨rfl, congrArg (Option.map iParseUint_E) hF⟩
                                  · have hF := cneg h61 hF
                                    refine And.intro (fun h62 => ?_) (fun h62 => ?_)
                                    · have hF := cpos h62 hF
                                      refine Or.inr ⟨[], 0, _, _, _, _, rfl, rfl, eff_mkif (v := .int .i64 1) tok109.u, rfl, ?_⟩
                                      exact Or.inl ⟨rfl, congrArg (Option.map iParseUint_E) hF⟩
                                    · have hF := cneg h62 hF
                                      exact ⟨(fu1, (IntKind.u64.wrap ((IntKind.u64.wrap (n8 * 10)) + (IntKind.u64.wrap (IntKind.u8.wrap ((IntKind.u8.wrap (y57 - 97)) + 10))))), (IntKind.i64.wrap (v9 + 1))), Nat.lt_succ_self _, hF, ⟨rfl, rfl, rfl, rfl, rfl, rfl, rfl, rfl, rfl, rfl, trivial⟩, trivial⟩
                            · have hF := cneg h56 hF
                              refine Or.inr ⟨[], 0, _, _, _, _, rfl, rfl, eff_mkif (v := .int .i64 2) tok109.u, rfl, ?_⟩
                              exact Or.inl ⟨rfl, congrArg (Option.map iParseUint_E) hF⟩
                          · have hF := cneg h53 hF
                            refine Or.inr ⟨[], 0, _, _, _, _, rfl, rfl, eff_mkif (v := .int .i64 2) tok109.u, rfl, ?_⟩
                            exact Or.inl ⟨rfl, congrArg (Option.map iParseUint_E) hF⟩
                      · have hF := cneg h45 hF
                        refine obind hF fun y63 h64 hF => ?_
                        refine Or.inl ⟨_, iLower_h h64, rfl, ?_⟩
                        refine And.intro (fun h65 => ?_) (fun h65 => ?_)
                        · have hF := cpos h65 hF
                          refine obind hF fun y66 h67 hF => ?_
                          refine Or.inl ⟨_, iLower_h h67, rfl, ?_⟩
                          refine And.intro (fun h68 => ?_) (fun h68 => ?_)
                          · have hF := cpos h68 hF
                            refine obind hF fun y69 h70 hF => ?_
                            refine Or.inl ⟨_, iLower_h h70, rfl, ?_⟩
                            refine And.intro (fun h71 => ?_) (fun h71 => ?_)
                            · have hF := cpos h71 hF
                              refine Or.inr ⟨[], 0, _, _, _, _, rfl, rfl, eff_mkif (v := .int .i64 2) tok109.u, rfl, ?_⟩
                              exact Or.inl ⟨rfl, congrArg (Option.map iParseUint_E) hF⟩
                            · have hF := cneg h71 hF
                              refine And.intro (fun h72 => ?_) (fun h72 => ?_)
                              · have hF := cpos h72 hF
                                refine Or.inr ⟨[], 0, _, _, _, _, rfl, rfl, eff_mkif (v := .int .i64 1) tok109.u, rfl, ?_⟩
                                exact Or.inl ⟨rfl, congrArg (Option.map iParseUint_E) hF⟩
                              · have hF := cneg h72 hF
                                refine And.intro (fun h73 => ?_) (fun h73 => ?_)
                                · have hF := cpos h73 hF
                                  refine Or.inr ⟨[], 0, _, _, _, _, rfl, rfl, eff_mkif (v := .int .i64 1) tok109.u, rfl, ?_⟩
                                  exact Or.inl ⟨rfl, congrArg (Option.map iParseUint_E) hF⟩
                                · have hF := cneg h73 hF
                                  refine And.intro (fun h74 => ?_) (fun h74 => ?_)
                                  · have hF := cpos h74 hF
                                    refine Or.inr ⟨[], 0, _, _, _, _, rfl, rfl, eff_mkif (v := .int .i64 1) tok109.u, rfl, ?_⟩
                                    exact Or.inl ⟨rfl, congrArg (Option.map iParseUint_E) hF⟩
                                  · have hF := cneg h74 hF
                                    exact ⟨(fu1, (IntKind.u64.wrap ((IntKind.u64.wrap (n8 * 10)) + (IntKind.u64.wrap (IntKind.u8.wrap ((IntKind.u8.wrap (y69 - 97)) + 10))))), (IntKind.i64.wrap (v9 + 1))), Nat.lt_succ_self _, hF, ⟨rfl, rfl, rfl, rfl, rfl, rfl, rfl, rfl, rfl, rfl, trivial⟩, trivial⟩
                          · have hF := cneg h68 hF
                            refine Or.inr ⟨[], 0, _, _, _, _, rfl, rfl, eff_mkif (v := .int .i64 2) tok109.u, rfl, ?_⟩
                            exact Or.inl ⟨rfl, congrArg (Option.map iParseUint_E) hF⟩
                        · have hF := cneg h65 hF
                          refine Or.inr ⟨[], 0, _, _, _, _, rfl, rfl, eff_mkif (v := .int .i64 2) tok109.u, rfl, ?_⟩
                          exact Or.inl ⟨rfl, congrArg (Option.map iParseUint_E) hF⟩
                  · have hF := cneg h10 hF
                    refine And.intro (fun h75 => ?_) (fun h75 => ?_)
                    · exact absurd h75 (by simp)
                    · skip
                      exact Or.inl ⟨rfl, congrArg (Option.map iParseUint_E) hF⟩
              · exact absurd h7 (by simp)
      · exact absurd h3 (by simp)
    · exact absurd h2 (by simp)
abbrev iParseUint_S (s : Str) : Option (Int × Int) := iParseUint_F (s.length + 1) s
theorem iParseUint_h {s : Str} {r : Int × Int} (h : iParseUint_S s = some r) : Holds Tryd.prog Gw 54 [S s, I 10, I 40] (iParseUint_E r) := iParseUint_Fh  h
abbrev parseUintC_E (y : Int × Bool) : CV := .tup [.v (.int .u64 y.1), errC y.2]
def parseUintC_F (s : Str) : Option (Int × Bool) := Option.bind (iParseUint_S s) fun y1 => bif (y1.2 != 0) then (Option.bind (toErr_S ([80, 97, 114, 115, 101, 85, 105, 110, 116] : Str) s 10 40 y1.2) fun y4 => some (y1.1, true)) else some (y1.1, false)
set_option linter.unusedVariables false in
theorem parseUintC_Fh {s : Str} {r : Int × Bool} (hF : parseUintC_F s = some r) : Holds Tryd.prog Gw 35 [S s, I 10, I 40] (parseUintC_E r) := by
  refine holds_of_wq tabOk mixed Tryd.func35 (by decide) rfl (Nat.le_of_ble_eq_true rfl) ?_
  refine obind hF fun y1 h2 hF => ?_
  refine Or.inl ⟨_, iParseUint_h h2, rfl, ?_⟩
  refine Or.inr ⟨[], 0, _, _, _, _, rfl, rfl, eff_ifn (e := y1.2) errTy, rfl, ?_⟩
  refine And.intro (fun h3 => ?_) (fun h3 => ?_)
  · have hF := cpos h3 hF
    refine obind hF fun y4 h5 hF => ?_
    refine Or.inl ⟨_, toErr_h h5, rfl, ?_⟩
    exact Or.inl ⟨rfl, congrArg (Option.map parseUintC_E) hF⟩
  · have hF := cneg h3 hF
    exact Or.inl ⟨rfl, congrArg (Option.map parseUintC_E) hF⟩
abbrev parseUintC_S (s : Str) : Option (Int × Bool) := parseUintC_F s
theorem parseUintC_h {s : Str} {r : Int × Bool} (h : parseUintC_S s = some r) : Holds Tryd.prog Gw 35 [S s, I 10, I 40] (parseUintC_E r) := parseUintC_Fh  h
end Go.Proofs.YtmdhahfminiilaaDoor
