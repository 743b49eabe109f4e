/- Functions of the program as functions of Lean, each with its contract (printed by a program). -/
import Derived.Test.YtihjmnhamaicpaaGreatDoorAbsSeal
import Derived.Test.YtihjmnhamaicpaaGreatDoorGD
namespace Go.Proofs.YtihjmnhamaicpaaGreatDoor
open Go Go.Abs
set_option maxRecDepth 10000
set_option maxHeartbeats 400000
def pParseN_L1 (y1 : List Str) : Nat → Int → List Int → Option (List Int × Int)
  | 0, _, _ => none
  | fu1 + 1, v4, out5 => bif decide (v4 < ((y1.map cStr).length : Int)) then (Option.bind (ix y1 v4) fun x7 => Option.bind (atoi_S x7) fun y9 => bif y9.2 then some (([] : List Int), 3) else (bif decide (y9.1 < 1) then some (([] : List Int), 3) else (bif decide (y9.1 > 999) then some (([] : List Int), 3) else (Option.bind (itoa_S y9.1) fun y14 => bif (!(y14 == x7)) then some (([] : List Int), 3) else (bif decide (out5.length + ([y9.1] : List Int).length ≤ 4294967296) then pParseN_L1 y1 fu1 (IntKind.i64.wrap (v4 + 1)) (out5 ++ ([y9.1] : List Int)) else none))))) else some (out5, 0)
def pParseN_F (N : Nat) (code : Str) : Option (List Int × Int) := Option.bind (sSplit_S code ([46] : Str)) fun y1 => bif decide (((y1.map cStr).length : Int) > 6) then some (([] : List Int), 3) else pParseN_L1 y1 N 0 ([] : List Int)
set_option linter.unusedVariables false in
theorem pParseN_XFh {N : Nat} {code : Str} {r : List Int × Int} (hF : pParseN_F N code = some r) : EffFn Tryz.prog Gw 19 [.c (S code)] [] (.tpx [.rs 0 1, I r.2]) [(1, .arr 3 1 (r.1.map cInt) none)] := by
  refine effn_of_wq tabOk mixed Tryz.func19 (by decide) rfl (Nat.le_of_ble_eq_true rfl) rfl ?_
  refine Or.inr ⟨[], 0, _, _, _, _, rfl, rfl, eff_nilS (e := 3) (ie := ti3) (by decide), rfl, ?_⟩
  refine obind hF fun y1 h2 hF => ?_
  refine Or.inl ⟨_, sSplit_h h2, rfl, ?_⟩
  refine And.intro (fun h3 => ?_) (fun h3 => ?_)
  · have hF := cpos h3 hF
    refine Or.inr ⟨[], 0, _, _, _, _, rfl, rfl, eff_nilS (e := 3) (ie := ti3) (by decide), rfl, ?_⟩
    refine ret_eq (p := fun r => effFin tab _ 0 (.tpx [.rs 0 1, I r.2]) [(1, .arr 3 1 (r.1.map cInt) none)] _) hF ?_
    exact ⟨[(2, 2)], [1], rfl, rfl, rfl⟩
  · have hF := cneg h3 hF
    refine Or.inr ⟨[], 0, _, _, _, _, rfl, rfl, eff_nilS (e := 3) (ie := ti3) (by decide), rfl, ?_⟩
    refine loop_oq (fun p : Nat × Int × List Int => [(5, .rs 5 0), (15, .c (.sl 1 (y1.map cStr))), (16, .c (I ((y1.map cStr).length : Int))), (17, .c (I p.2.1))]) (fun p : Nat × Int × List Int => [(5, .arr 3 1 (p.2.2.map cInt) none)]) (fun p => pParseN_L1 y1 p.1 p.2.1 p.2.2 = some r) (fun p => p.1) (N, 0, ([] : List Int)) hF ⟨rfl, rfl, rfl, rfl, trivial⟩ ⟨rfl, trivial⟩ ?_
    rintro ⟨fu1, v4, out5⟩ hF
    cases fu1 with
    | zero => exact nomatch hF
    | succ fu1 =>
      refine join_no ?_
      refine And.intro (fun h6 => ?_) (fun h6 => ?_)
      · have hF := cpos h6 hF
        refine join_no ?_
        refine obind hF fun x7 h8 hF => ?_
        refine ⟨ix_nn h8, .inl rfl, _, ix_map cStr h8, ?_⟩
        refine obind hF fun y9 h10 hF => ?_
        refine Or.inl ⟨_, atoi_h h10, rfl, ?_⟩
        refine Or.inr ⟨[], 0, _, _, _, _, rfl, rfl, eff_errn errTy, rfl, ?_⟩
        refine And.intro (fun h11 => ?_) (fun h11 => ?_)
        · have hF := cpos h11 hF
          refine Or.inr ⟨[], 0, _, _, _, _, rfl, rfl, eff_nilS (e := 3) (ie := ti3) (by decide), rfl, ?_⟩
          refine ret_eq (p := fun r => effFin tab _ 0 (.tpx [.rs 0 1, I r.2]) [(1, .arr 3 1 (r.1.map cInt) none)] _) hF ?_
          exact ⟨[(2, 1)], [1], rfl, rfl, rfl⟩
        · have hF := cneg h11 hF
          refine And.intro (fun h12 => ?_) (fun h12 => ?_)
          · have hF := cpos h12 hF
            refine Or.inr ⟨[], 0, _, _, _, _, rfl, rfl, eff_nilS (e := 3) (ie := ti3) (by decide), rfl, ?_⟩
            refine ret_eq (p := fun r => effFin tab _ 0 (.tpx [.rs 0 1, I r.2]) [(1, .arr 3 1 (r.1.map cInt) none)] _) hF ?_
            exact ⟨[(2, 1)], [1], rfl, rfl, rfl⟩
          · have hF := cneg h12 hF
            refine And.intro (fun h13 => ?_) (fun h13 => ?_)
            · have hF := cpos h13 hF
              refine Or.inr ⟨[], 0, _, _, _, _, rfl, rfl, eff_nilS (e := 3) (ie := ti3) (by decide), rfl, ?_⟩
              refine ret_eq (p := fun r => effFin tab _ 0 (.tpx [.rs 0 1, I r.2]) [(1, .arr 3 1 (r.1.map cInt) none)] _) hF ?_
              exact ⟨[(2, 1)], [1], rfl, rfl, rfl⟩
            · have hF := cneg h13 hF
              refine obind hF fun y14 h15 hF => ?_
              refine Or.inl ⟨_, itoa_h h15, rfl, ?_⟩
              refine And.intro (fun h16 => ?_) (fun h16 => ?_)
              · have hF := cpos h16 hF
                refine Or.inr ⟨[], 0, _, _, _, _, rfl, rfl, eff_nilS (e := 3) (ie := ti3) (by decide), rfl, ?_⟩
                refine ret_eq (p := fun r => effFin tab _ 0 (.tpx [.rs 0 1, I r.2]) [(1, .arr 3 1 (r.1.map cInt) none)] _) hF ?_
                exact ⟨[(2, 1)], [1], rfl, rfl, rfl⟩
              · have hF := cneg h16 hF
                refine Or.inl ?_
                refine gpos hF fun h17 hF => ?_
                refine Or.inr ⟨[(5, 0)], 0, _, _, _, _, rfl, rfl, eff_append (cf := cInt) (l := out5) (ns := ([y9.1] : List Int)) tok32.u tok3 (by decide) (by decide) (fun _ => rfl) h17, rfl, ?_⟩
                exact ⟨(fu1, (IntKind.i64.wrap (v4 + 1)), (out5 ++ ([y9.1] : List Int))), Nat.lt_succ_self _, hF, ⟨rfl, rfl, rfl, rfl, trivial⟩, ⟨rfl, trivial⟩⟩
      · have hF := cneg h6 hF
        refine ret_eq (p := fun r => effFin tab _ 0 (.tpx [.rs 0 1, I r.2]) [(1, .arr 3 1 (r.1.map cInt) none)] _) hF ?_
        exact ⟨[(5, 0)], [1], rfl, rfl, rfl⟩
abbrev pParseN_XS (code : Str) : Option (List Int × Int) := pParseN_F 1000 code
theorem pParseN_Xh {code : Str} {r : List Int × Int} (h : pParseN_XS code = some r) : EffFn Tryz.prog Gw 19 [.c (S code)] [] (.tpx [.rs 0 1, I r.2]) [(1, .arr 3 1 (r.1.map cInt) none)] := pParseN_XFh  h
abbrev lCodeFree_E (y : Bool) : CV := B y
def lCodeFree_F (taken : List Str) (above : Str) (n : Int) : Option (Bool) := Option.bind (lawake_S) fun y1 => bif (!y1) then some (false) else (bif decide (((taken.map cStr).length : Int) > 30) then some (true) else (Option.bind (rFew_S taken) fun y5 => bif (!y5) then some (true) else (bif decide ((above.length : Int) > 100) then some (true) else (Option.bind (pFree_S taken above) fun y9 => bif (y9.2 != 0) then some ((y9.1 == ([] : Str))) else (Option.bind (pParseN_XS y9.1) fun y12 => Option.bind (pParent_S y9.1) fun y14 => bif (y12.2 != 0) then some (false) else (bif (((y12.1.map cInt).length : Int) == 0) then some (false) else (bif (!(y14.1 == above)) then some (false) else (Option.bind (slContainsS_S taken y9.1) fun y19 => bif y19 then some (false) else (Option.bind (ix y12.1 (IntKind.i64.wrap (((y12.1.map cInt).length : Int) - 1))) fun x22 => bif decide ((IntKind.i64.wrap (1 + (Int.tmod (IntKind.i64.wrap n) 999))) ≥ x22) then some (true) else (Option.bind (pFormat_S (y12.1.set ((IntKind.i64.wrap (((y12.1.map cInt).length : Int) - 1))).toNat (IntKind.i64.wrap (1 + (Int.tmod (IntKind.i64.wrap n) 999))))) fun y25 => bif (y25.2 == 0) then (Option.bind (slContainsS_S taken y25.1) fun y28 => some (y28)) else some (false)))))))))))
set_option linter.unusedVariables false in
theorem lCodeFree_Fh {taken : List Str} {above : Str} {n : Int} {r : Bool} (hF : lCodeFree_F taken above n = some r) : Holds Tryz.prog Gw 8 [.sl 1 (taken.map cStr), S above, .v (.int .u16 n)] (lCodeFree_E r) := by
  refine holds_of_wq tabOk mixed Tryz.func8 (by decide) rfl (Nat.le_of_ble_eq_true rfl) ?_
  refine obind hF fun y1 h2 hF => ?_
  refine Or.inl ⟨_, lawake_h h2, rfl, ?_⟩
  refine And.intro (fun h3 => ?_) (fun h3 => ?_)
  · have hF := cpos h3 hF
    exact Or.inl ⟨rfl, congrArg (Option.map lCodeFree_E) hF⟩
  · have hF := cneg h3 hF
    refine And.intro (fun h4 => ?_) (fun h4 => ?_)
    · have hF := cpos h4 hF
      exact Or.inl ⟨rfl, congrArg (Option.map lCodeFree_E) hF⟩
    · have hF := cneg h4 hF
      refine obind hF fun y5 h6 hF => ?_
      refine Or.inl ⟨_, rFew_h h6, rfl, ?_⟩
      refine And.intro (fun h7 => ?_) (fun h7 => ?_)
      · have hF := cpos h7 hF
        exact Or.inl ⟨rfl, congrArg (Option.map lCodeFree_E) hF⟩
      · have hF := cneg h7 hF
        refine And.intro (fun h8 => ?_) (fun h8 => ?_)
        · have hF := cpos h8 hF
          exact Or.inl ⟨rfl, congrArg (Option.map lCodeFree_E) hF⟩
        · have hF := cneg h8 hF
          refine obind hF fun y9 h10 hF => ?_
          refine Or.inl ⟨_, pFree_h h10, rfl, ?_⟩
          refine And.intro (fun h11 => ?_) (fun h11 => ?_)
          · have hF := cpos h11 hF
            exact Or.inl ⟨rfl, congrArg (Option.map lCodeFree_E) hF⟩
          · have hF := cneg h11 hF
            refine obind hF fun y12 h13 hF => ?_
            refine Or.inr (Or.inr ⟨[], 0, _, _, _, _, rfl, rfl, eff_call rfl (Or.inr ⟨_, rfl, rfl⟩) (pParseN_Xh h13), rfl, ?_⟩)
            refine Or.inr ⟨[(43, 1)], 0, _, _, _, _, rfl, rfl, eff_extract rfl, rfl, ?_⟩
            refine Or.inr ⟨[(43, 1)], 0, _, _, _, _, rfl, rfl, eff_extract rfl, rfl, ?_⟩
            refine obind hF fun y14 h15 hF => ?_
            refine Or.inl ⟨_, pParent_h h15, rfl, ?_⟩
            refine And.intro (fun h16 => ?_) (fun h16 => ?_)
            · have hF := cpos h16 hF
              exact Or.inl ⟨rfl, congrArg (Option.map lCodeFree_E) hF⟩
            · have hF := cneg h16 hF
              refine Or.inl ?_
              refine And.intro (fun h17 => ?_) (fun h17 => ?_)
              · have hF := cpos h17 hF
                exact Or.inl ⟨rfl, congrArg (Option.map lCodeFree_E) hF⟩
              · have hF := cneg h17 hF
                refine And.intro (fun h18 => ?_) (fun h18 => ?_)
                · have hF := cpos h18 hF
                  exact Or.inl ⟨rfl, congrArg (Option.map lCodeFree_E) hF⟩
                · have hF := cneg h18 hF
                  refine obind hF fun y19 h20 hF => ?_
                  refine Or.inl ⟨_, slContainsS_h h20, rfl, ?_⟩
                  refine And.intro (fun h21 => ?_) (fun h21 => ?_)
                  · have hF := cpos h21 hF
                    exact Or.inl ⟨rfl, congrArg (Option.map lCodeFree_E) hF⟩
                  · have hF := cneg h21 hF
                    refine ⟨rfl, by decide, ?_⟩
                    refine Or.inl ?_
                    refine obind hF fun x22 h23 hF => ?_
                    refine Or.inl ⟨ix_nn h23, ix_lt h23, ?_⟩
                    refine Or.inl ⟨_, ix_map cInt h23, ?_⟩
                    refine And.intro (fun h24 => ?_) (fun h24 => ?_)
                    · have hF := cpos h24 hF
                      exact Or.inl ⟨rfl, congrArg (Option.map lCodeFree_E) hF⟩
                    · have hF := cneg h24 hF
                      refine Or.inl ?_
                      refine Or.inl ⟨ix_nn h23, ix_lt h23, ?_⟩
                      refine Or.inl ⟨_, ix_map cInt h23, ?_⟩
                      refine ⟨(y12.1.set ((IntKind.i64.wrap (((y12.1.map cInt).length : Int) - 1))).toNat (IntKind.i64.wrap (1 + (Int.tmod (IntKind.i64.wrap n) 999)))).map cInt, _, .inl ⟨rfl, set_map _ _ _ _, rfl⟩, ?_⟩
                      refine obind hF fun y25 h26 hF => ?_
                      refine Or.inl ⟨_, pFormat_h h26, rfl, ?_⟩
                      refine And.intro (fun h27 => ?_) (fun h27 => ?_)
                      · have hF := cpos h27 hF
                        refine obind hF fun y28 h29 hF => ?_
                        refine Or.inl ⟨_, slContainsS_h h29, rfl, ?_⟩
                        exact Or.inl ⟨rfl, congrArg (Option.map lCodeFree_E) hF⟩
                      · have hF := cneg h27 hF
                        exact Or.inl ⟨rfl, congrArg (Option.map lCodeFree_E) hF⟩
abbrev lCodeFree_S (taken : List Str) (above : Str) (n : Int) : Option (Bool) := lCodeFree_F taken above n
theorem lCodeFree_h {taken : List Str} {above : Str} {n : Int} {r : Bool} (h : lCodeFree_S taken above n = some r) : Holds Tryz.prog Gw 8 [.sl 1 (taken.map cStr), S above, .v (.int .u16 n)] (lCodeFree_E r) := lCodeFree_Fh  h
end Go.Proofs.YtihjmnhamaicpaaGreatDoor
