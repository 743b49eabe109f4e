/- Functions of the program as functions of Lean, each with its contract (printed by a program). -/
import Derived.Test.YtihjmnhamaicpaaGreatDoorGA
namespace Go.Proofs.YtihjmnhamaicpaaGreatDoor
open Go Go.Abs
set_option maxRecDepth 10000
set_option maxHeartbeats 400000
abbrev slCloneI_E (y : List Int) : CV := .sl 1 (y.map cInt)
def slCloneI_F (s : List Int) : Option (List Int) := bif s.isEmpty then oboth (some (([] : List Int))) (bif decide (([] : List Int).length + s.length ≤ 4294967296) then some ((([] : List Int) ++ s)) else none) else (bif decide (([] : List Int).length + s.length ≤ 4294967296) then some ((([] : List Int) ++ s)) else none)
set_option linter.unusedVariables false in
theorem slCloneI_Fh {s : List Int} {r : List Int} (hF : slCloneI_F s = some r) : Holds Tryz.prog Gw 43 [.sl 1 (s.map cInt)] (slCloneI_E r) := by
  refine holds_of_wq tabOk mixed Tryz.func43 (by decide) rfl (Nat.le_of_ble_eq_true rfl) ?_
  refine Or.inr ⟨[], 0, _, _, _, _, rfl, rfl, eff_nilS (e := 3) (ie := ti3) (by decide), rfl, ?_⟩
  refine nilc (cf := cInt) hF ?_ ?_
  · intro hF
    refine Or.inr ⟨[], 0, _, _, _, _, rfl, rfl, eff_nilS (e := 3) (ie := ti3) (by decide), rfl, ?_⟩
    refine ret_eq (p := fun r => resFin tab _ (slCloneI_E r) _) hF ?_
    exact Or.inr ⟨rfl, _, rfl, rfl⟩
  · intro hF
    refine Or.inr ⟨[], 0, _, _, _, _, rfl, rfl, eff_build0 tok32.u tok3 (by decide), rfl, ?_⟩
    refine gpos hF fun h1 hF => ?_
    refine Or.inr ⟨[(5, 1)], 0, _, _, _, _, rfl, rfl, eff_append (cf := cInt) (l := ([] : List Int)) (ns := s) tok32.u tok3 (by decide) (by decide) (fun _ => rfl) h1, rfl, ?_⟩
    refine ret_eq (p := fun r => resFin tab _ (slCloneI_E r) _) hF ?_
    exact Or.inr ⟨rfl, _, rfl, rfl⟩
abbrev slCloneI_O (y : List Int) : CV := .wo (.ow 0) [(3, 1, y.map cInt, none)]
set_option linter.unusedVariables false in
theorem slCloneI_Oh {s : List Int} {r : List Int} (hF : slCloneI_F s = some r) : Holds Tryz.prog Gw 43 [.sl 1 (s.map cInt)] (slCloneI_O r) := by
  refine holds_of_wq tabOk mixed Tryz.func43 (by decide) rfl (Nat.le_of_ble_eq_true rfl) ?_
  refine Or.inr ⟨[], 0, _, _, _, _, rfl, rfl, eff_nilS (e := 3) (ie := ti3) (by decide), rfl, ?_⟩
  refine nilc (cf := cInt) hF ?_ ?_
  · intro hF
    refine Or.inr ⟨[], 0, _, _, _, _, rfl, rfl, eff_nilS (e := 3) (ie := ti3) (by decide), rfl, ?_⟩
    refine ret_eq (p := fun r => resFin tab _ (slCloneI_O r) _) hF ?_
    exact Or.inr ⟨[(2, 2)], rfl, ⟨rfl, rfl⟩, rfl⟩
  · intro hF
    refine Or.inr ⟨[], 0, _, _, _, _, rfl, rfl, eff_build0 tok32.u tok3 (by decide), rfl, ?_⟩
    refine gpos hF fun h1 hF => ?_
    refine Or.inr ⟨[(5, 1)], 0, _, _, _, _, rfl, rfl, eff_append (cf := cInt) (l := ([] : List Int)) (ns := s) tok32.u tok3 (by decide) (by decide) (fun _ => rfl) h1, rfl, ?_⟩
    refine ret_eq (p := fun r => resFin tab _ (slCloneI_O r) _) hF ?_
    exact Or.inr ⟨[(5, 2)], rfl, ⟨rfl, rfl⟩, rfl⟩
abbrev slCloneI_S (s : List Int) : Option (List Int) := slCloneI_F s
theorem slCloneI_h {s : List Int} {r : List Int} (h : slCloneI_S s = some r) : Holds Tryz.prog Gw 43 [.sl 1 (s.map cInt)] (slCloneI_E r) := slCloneI_Fh  h
abbrev pFree_E (y : Str × Int) : CV := .tup [S y.1, I y.2]
def pFree_L1 (taken : List Str) (y9 : List Int × Int) : Nat → Int → Option (Str × Int)
  | 0, _ => none
  | fu1 + 1, v12 => bif decide (v12 < 999) then (Option.bind (slCloneI_S y9.1) fun y14 => bif decide (y14.length + ([(IntKind.i64.wrap (v12 + 1))] : List Int).length ≤ 4294967296) then Option.bind (pformat_S (y14 ++ ([(IntKind.i64.wrap (v12 + 1))] : List Int))) fun y16 => Option.bind (slContainsS_S taken y16) fun y18 => bif (!y18) then some (y16, 0) else pFree_L1 taken y9 fu1 (IntKind.i64.wrap (v12 + 1)) else none) else some (([] : Str), 12)
def pFree_L2 (taken : List Str) (y22 : List Int × Int) : Nat → Int → Option (Str × Int)
  | 0, _ => none
  | fu2 + 1, v25 => bif decide (v25 < 999) then (Option.bind (slCloneI_S y22.1) fun y27 => bif decide (y27.length + ([(IntKind.i64.wrap (v25 + 1))] : List Int).length ≤ 4294967296) then Option.bind (pformat_S (y27 ++ ([(IntKind.i64.wrap (v25 + 1))] : List Int))) fun y29 => Option.bind (slContainsS_S taken y29) fun y31 => bif (!y31) then some (y29, 0) else pFree_L2 taken y22 fu2 (IntKind.i64.wrap (v25 + 1)) else none) else some (([] : Str), 12)
def pFree_F (N : Nat) (taken : List Str) (above : Str) : Option (Str × Int) := bif decide (((taken.map cStr).length : Int) > 1024) then some (([] : Str), 8) else (Option.bind (slContainsFuncS_S taken (fun z0 => pFree_1_S z0)) fun y2 => bif y2 then some (([] : Str), 3) else (bif (!(above == ([] : Str))) then (Option.bind (pFree_1_S above) fun y6 => bif y6 then some (([] : Str), 3) else (Option.bind (pParse_S above) fun y9 => bif (((y9.1.map cInt).length : Int) == 6) then some (([] : Str), 12) else pFree_L1 taken y9 N 0)) else (Option.bind (pParse_S above) fun y22 => bif (((y22.1.map cInt).length : Int) == 6) then some (([] : Str), 12) else pFree_L2 taken y22 N 0)))
set_option linter.unusedVariables false in
theorem pFree_Fh {N : Nat} {taken : List Str} {above : Str} {r : Str × Int} (hF : pFree_F N taken above = some r) : Holds Tryz.prog Gw 15 [.sl 1 (taken.map cStr), S above] (pFree_E r) := by
  refine holds_of_wq tabOk mixed Tryz.func15 (by decide) rfl (Nat.le_of_ble_eq_true rfl) ?_
  refine And.intro (fun h1 => ?_) (fun h1 => ?_)
  · have hF := cpos h1 hF
    exact Or.inl ⟨rfl, congrArg (Option.map pFree_E) hF⟩
  · have hF := cneg h1 hF
    refine obind hF fun y2 h3 hF => ?_
    refine Or.inl ⟨_, slContainsFuncS_h (fun _ _ h => pFree_1_h h) h3, rfl, ?_⟩
    refine And.intro (fun h4 => ?_) (fun h4 => ?_)
    · have hF := cpos h4 hF
      exact Or.inl ⟨rfl, congrArg (Option.map pFree_E) hF⟩
    · have hF := cneg h4 hF
      refine And.intro (fun h5 => ?_) (fun h5 => ?_)
      · have hF := cpos h5 hF
        refine obind hF fun y6 h7 hF => ?_
        refine Or.inl ⟨_, pFree_1_h h7, rfl, ?_⟩
        refine And.intro (fun h8 => ?_) (fun h8 => ?_)
        · have hF := cpos h8 hF
          exact Or.inl ⟨rfl, congrArg (Option.map pFree_E) hF⟩
        · have hF := cneg h8 hF
          refine obind hF fun y9 h10 hF => ?_
          refine Or.inl ⟨_, pParse_h h10, rfl, ?_⟩
          refine And.intro (fun h11 => ?_) (fun h11 => ?_)
          · have hF := cpos h11 hF
            exact Or.inl ⟨rfl, congrArg (Option.map pFree_E) hF⟩
          · have hF := cneg h11 hF
            refine loop_oq (fun p : Nat × Int => [(0, .c (.sl 1 (taken.map cStr))), (7, .c (.sl 1 (y9.1.map cInt))), (34, .c (I p.2))]) (fun _ => []) (fun p => pFree_L1 taken y9 p.1 p.2 = some r) (fun p => p.1) (N, 0) hF ⟨rfl, rfl, rfl, trivial⟩ trivial ?_
            rintro ⟨fu1, v12⟩ hF
            cases fu1 with
            | zero => exact nomatch hF
            | succ fu1 =>
              refine join_no ?_
              refine And.intro (fun h13 => ?_) (fun h13 => ?_)
              · have hF := cpos h13 hF
                refine join_no ?_
                refine obind hF fun y14 h15 hF => ?_
                refine Or.inr (Or.inl ⟨_, _, slCloneI_Oh h15, ?_⟩)
                refine Or.inl ?_
                refine gpos hF fun h21 hF => ?_
                refine Or.inr ⟨[(38, 1)], 0, _, _, _, _, rfl, rfl, eff_append (cf := cInt) (l := y14) (ns := ([(IntKind.i64.wrap (v12 + 1))] : List Int)) tok32.u tok3 (by decide) (by decide) (fun _ => rfl) h21, rfl, ?_⟩
                refine obind hF fun y16 h17 hF => ?_
                refine Or.inl ⟨_, pformat_h h17, rfl, ?_⟩
                refine obind hF fun y18 h19 hF => ?_
                refine Or.inl ⟨_, slContainsS_h h19, rfl, ?_⟩
                refine And.intro (fun h20 => ?_) (fun h20 => ?_)
                · have hF := cpos h20 hF
                  exact Or.inl ⟨rfl, congrArg (Option.map pFree_E) hF⟩
                · have hF := cneg h20 hF
                  exact ⟨(fu1, (IntKind.i64.wrap (v12 + 1))), Nat.lt_succ_self _, hF, ⟨rfl, rfl, rfl, trivial⟩, trivial⟩
              · have hF := cneg h13 hF
                exact Or.inl ⟨rfl, congrArg (Option.map pFree_E) hF⟩
      · have hF := cneg h5 hF
        refine obind hF fun y22 h23 hF => ?_
        refine Or.inl ⟨_, pParse_h h23, rfl, ?_⟩
        refine And.intro (fun h24 => ?_) (fun h24 => ?_)
        · have hF := cpos h24 hF
          exact Or.inl ⟨rfl, congrArg (Option.map pFree_E) hF⟩
        · have hF := cneg h24 hF
          refine loop_oq (fun p : Nat × Int => [(0, .c (.sl 1 (taken.map cStr))), (7, .c (.sl 1 (y22.1.map cInt))), (34, .c (I p.2))]) (fun _ => []) (fun p => pFree_L2 taken y22 p.1 p.2 = some r) (fun p => p.1) (N, 0) hF ⟨rfl, rfl, rfl, trivial⟩ trivial ?_
          rintro ⟨fu2, v25⟩ hF
          cases fu2 with
          | zero => exact nomatch hF
          | succ fu2 =>
            refine join_no ?_
            refine And.intro (fun h26 => ?_) (fun h26 => ?_)
            · have hF := cpos h26 hF
              refine join_no ?_
              refine obind hF fun y27 h28 hF => ?_
              refine Or.inr (Or.inl ⟨_, _, slCloneI_Oh h28, ?_⟩)
              refine Or.inl ?_
              refine gpos hF fun h34 hF => ?_
              refine Or.inr ⟨[(38, 1)], 0, _, _, _, _, rfl, rfl, eff_append (cf := cInt) (l := y27) (ns := ([(IntKind.i64.wrap (v25 + 1))] : List Int)) tok32.u tok3 (by decide) (by decide) (fun _ => rfl) h34, rfl, ?_⟩
              refine obind hF fun y29 h30 hF => ?_
              refine Or.inl ⟨_, pformat_h h30, rfl, ?_⟩
              refine obind hF fun y31 h32 hF => ?_
              refine Or.inl ⟨_, slContainsS_h h32, rfl, ?_⟩
              refine And.intro (fun h33 => ?_) (fun h33 => ?_)
              · have hF := cpos h33 hF
                exact Or.inl ⟨rfl, congrArg (Option.map pFree_E) hF⟩
              · have hF := cneg h33 hF
                exact ⟨(fu2, (IntKind.i64.wrap (v25 + 1))), Nat.lt_succ_self _, hF, ⟨rfl, rfl, rfl, trivial⟩, trivial⟩
            · have hF := cneg h26 hF
              exact Or.inl ⟨rfl, congrArg (Option.map pFree_E) hF⟩
abbrev pFree_S (taken : List Str) (above : Str) : Option (Str × Int) := pFree_F 1001 taken above
theorem pFree_h {taken : List Str} {above : Str} {r : Str × Int} (h : pFree_S taken above = some r) : Holds Tryz.prog Gw 15 [.sl 1 (taken.map cStr), S above] (pFree_E r) := pFree_Fh  h
abbrev pName_E (y : Bool) : CV := B y
def pName_L1 (s : Str) : Nat → Int → Option (Bool)
  | 0, _ => none
  | fu1 + 1, v9 => bif decide (v9 < (s.length : Int)) then (Option.bind (ix s v9) fun b11 => bif decide ((b11.toNat : Int) < 32) then some (false) else (Option.bind (ix s v9) fun b14 => bif decide ((b14.toNat : Int) > 126) then some (false) else pName_L1 s fu1 (IntKind.i64.wrap (v9 + 1)))) else some (true)
def pName_F (N : Nat) (s : Str) : Option (Bool) := bif decide ((s.length : Int) < 1) then some (false) else (bif decide ((s.length : Int) > 64) then some (false) else (Option.bind (sTrimSpace_S s) fun y3 => bif (!(y3 == s)) then some (false) else (Option.bind (sContains_S s ([32, 32] : Str)) fun y6 => bif y6 then some (false) else pName_L1 s N 0)))
set_option linter.unusedVariables false in
theorem pName_Fh {N : Nat} {s : Str} {r : Bool} (hF : pName_F N s = some r) : Holds Tryz.prog Gw 28 [S s] (pName_E r) := by
  refine holds_of_wq tabOk mixed Tryz.func28 (by decide) rfl (Nat.le_of_ble_eq_true rfl) ?_
  refine And.intro (fun h1 => ?_) (fun h1 => ?_)
  · have hF := cpos h1 hF
    exact Or.inl ⟨rfl, congrArg (Option.map pName_E) hF⟩
  · have hF := cneg h1 hF
    refine And.intro (fun h2 => ?_) (fun h2 => ?_)
    · have hF := cpos h2 hF
      exact Or.inl ⟨rfl, congrArg (Option.map pName_E) hF⟩
    · have hF := cneg h2 hF
      refine obind hF fun y3 h4 hF => ?_
      refine Or.inl ⟨_, sTrimSpace_h h4, rfl, ?_⟩
      refine And.intro (fun h5 => ?_) (fun h5 => ?_)
      · have hF := cpos h5 hF
        exact Or.inl ⟨rfl, congrArg (Option.map pName_E) hF⟩
      · have hF := cneg h5 hF
        refine obind hF fun y6 h7 hF => ?_
        refine Or.inl ⟨_, sContains_h h7, rfl, ?_⟩
        refine And.intro (fun h8 => ?_) (fun h8 => ?_)
        · have hF := cpos h8 hF
          exact Or.inl ⟨rfl, congrArg (Option.map pName_E) hF⟩
        · have hF := cneg h8 hF
          refine loop_oq (fun p : Nat × Int => [(0, .c (S s)), (23, .c (I (s.length : Int))), (24, .c (I p.2))]) (fun _ => []) (fun p => pName_L1 s p.1 p.2 = some r) (fun p => p.1) (N, 0) hF ⟨rfl, rfl, rfl, trivial⟩ trivial ?_
          rintro ⟨fu1, v9⟩ hF
          cases fu1 with
          | zero => exact nomatch hF
          | succ fu1 =>
            refine join_no ?_
            refine And.intro (fun h10 => ?_) (fun h10 => ?_)
            · have hF := cpos h10 hF
              refine join_no ?_
              refine obind hF fun b11 h12 hF => ?_
              refine ⟨ix_nn h12, _, ix_str h12, ?_⟩
              refine And.intro (fun h13 => ?_) (fun h13 => ?_)
              · have hF := cpos h13 hF
                exact Or.inl ⟨rfl, congrArg (Option.map pName_E) hF⟩
              · have hF := cneg h13 hF
                refine obind hF fun b14 h15 hF => ?_
                refine ⟨ix_nn h15, _, ix_str h15, ?_⟩
                refine And.intro (fun h16 => ?_) (fun h16 => ?_)
                · have hF := cpos h16 hF
                  exact Or.inl ⟨rfl, congrArg (Option.map pName_E) hF⟩
                · have hF := cneg h16 hF
                  exact ⟨(fu1, (IntKind.i64.wrap (v9 + 1))), Nat.lt_succ_self _, hF, ⟨rfl, rfl, rfl, trivial⟩, trivial⟩
            · have hF := cneg h10 hF
              exact Or.inl ⟨rfl, congrArg (Option.map pName_E) hF⟩
abbrev pName_S (s : Str) : Option (Bool) := pName_F (s.length + 1) s
theorem pName_h {s : Str} {r : Bool} (h : pName_S s = some r) : Holds Tryz.prog Gw 28 [S s] (pName_E r) := pName_Fh  h
abbrev rdigit_E (y : Bool) : CV := B y
def rdigit_F (c : Int) : Option (Bool) := bif decide (c ≥ 48) then some (decide (c ≤ 57)) else some (false)
set_option linter.unusedVariables false in
theorem rdigit_Fh {c : Int} {r : Bool} (hF : rdigit_F c = some r) : Holds Tryz.prog Gw 82 [.v (.int .u8 c)] (rdigit_E r) := by
  refine holds_of_wq tabOk mixed Tryz.func82 (by decide) rfl (Nat.le_of_ble_eq_true rfl) ?_
  refine And.intro (fun h1 => ?_) (fun h1 => ?_)
  · have hF := cpos h1 hF
    exact Or.inl ⟨rfl, congrArg (Option.map rdigit_E) hF⟩
  · have hF := cneg h1 hF
    exact Or.inl ⟨rfl, congrArg (Option.map rdigit_E) hF⟩
abbrev rdigit_S (c : Int) : Option (Bool) := rdigit_F c
theorem rdigit_h {c : Int} {r : Bool} (h : rdigit_S c = some r) : Holds Tryz.prog Gw 82 [.v (.int .u8 c)] (rdigit_E r) := rdigit_Fh  h
abbrev rDecimal_E (y : Str) : CV := S y
def rDecimal_F : Nat → Int → Option (Str)
  | 0, _ => none
  | N + 1, n => bif decide (n < 10) then (Option.bind (slc ([48, 49, 50, 51, 52, 53, 54, 55, 56, 57] : Str) n (IntKind.i64.wrap (n + 1))) fun y2 => some (y2)) else (Option.bind ((rDecimal_F N) (IntKind.i64.wrap (Int.tdiv n 10))) fun y4 => Option.bind (slc ([48, 49, 50, 51, 52, 53, 54, 55, 56, 57] : Str) (Int.tmod n 10) (IntKind.i64.wrap ((Int.tmod n 10) + 1))) fun y6 => bif decide (y4.length + y6.length ≤ 9223372036854775807) then some ((y4 ++ y6)) else none)
set_option linter.unusedVariables false in
theorem rDecimal_Fh : ∀ (N : Nat) (n : Int) (r : Str), rDecimal_F N n = some r → Holds Tryz.prog Gw 35 [I n] (rDecimal_E r) := by
  intro N
  induction N with
  | zero => intro n r hF; exact nomatch hF
  | succ N ih =>
    intro n r hF
    refine holds_of_wq tabOk mixed Tryz.func35 (by decide) rfl (Nat.le_of_ble_eq_true rfl) ?_
    refine And.intro (fun h1 => ?_) (fun h1 => ?_)
    · have hF := cpos h1 hF
      refine obind hF fun y2 h3 hF => ?_
      refine Or.inr ⟨[], 0, _, _, _, _, rfl, rfl, eff_sslice_lh tok9.u h3, rfl, ?_⟩
      exact Or.inl ⟨rfl, congrArg (Option.map rDecimal_E) hF⟩
    · have hF := cneg h1 hF
      refine ⟨rfl, by decide, ?_⟩
      refine obind hF fun y4 h5 hF => ?_
      refine Or.inl ⟨_, ih _ _ h5, rfl, ?_⟩
      refine ⟨rfl, by decide, ?_⟩
      refine ⟨rfl, by decide, ?_⟩
      refine obind hF fun y6 h7 hF => ?_
      refine Or.inr ⟨[], 0, _, _, _, _, rfl, rfl, eff_sslice_lh tok9.u h7, rfl, ?_⟩
      refine gpos hF fun h8 hF => ?_
      refine ⟨of_decide_eq_true h8, _, scat _ _, ?_⟩
      refine And.intro (by kernel_rfl) ?_
      exact Or.inl ⟨rfl, congrArg (Option.map rDecimal_E) hF⟩
abbrev rDecimal_S (n : Int) : Option (Str) := rDecimal_F 30 n
theorem rDecimal_h {n : Int} {r : Str} (h : rDecimal_S n = some r) : Holds Tryz.prog Gw 35 [I n] (rDecimal_E r) := rDecimal_Fh _ _ _ h
abbrev rpart_E (y : Int × Bool) : CV := .tup [I y.1, B y.2]
def rpart_L1 (s : Str) : Nat → Int → Int → Option (Int × Bool)
  | 0, _, _ => none
  | fu1 + 1, n6, i7 => bif decide (i7 < (s.length : Int)) then (Option.bind (ix s i7) fun b9 => bif decide ((b9.toNat : Int) < 48) then some (0, false) else (Option.bind (ix s i7) fun b12 => bif decide ((b12.toNat : Int) > 57) then some (0, false) else (Option.bind (ix s i7) fun b15 => rpart_L1 s fu1 (IntKind.i64.wrap ((IntKind.i64.wrap (10 * n6)) + (IntKind.i64.wrap (IntKind.u8.wrap ((b15.toNat : Int) - 48))))) (IntKind.i64.wrap (i7 + 1))))) else some (n6, true)
def rpart_F (N : Nat) (s : Str) : Option (Int × Bool) := bif decide ((s.length : Int) < 1) then some (0, false) else (bif decide ((s.length : Int) > 3) then some (0, false) else (Option.bind (ix s 0) fun b3 => bif ((b3.toNat : Int) == 48) then some (0, false) else rpart_L1 s N 0 0))
set_option linter.unusedVariables false in
theorem rpart_Fh {N : Nat} {s : Str} {r : Int × Bool} (hF : rpart_F N s = some r) : Holds Tryz.prog Gw 49 [S s] (rpart_E r) := by
  refine holds_of_wq tabOk mixed Tryz.func49 (by decide) rfl (Nat.le_of_ble_eq_true rfl) ?_
  refine And.intro (fun h1 => ?_) (fun h1 => ?_)
  · have hF := cpos h1 hF
    exact Or.inl ⟨rfl, congrArg (Option.map rpart_E) hF⟩
  · have hF := cneg h1 hF
    refine And.intro (fun h2 => ?_) (fun h2 => ?_)
    · have hF := cpos h2 hF
      exact Or.inl ⟨rfl, congrArg (Option.map rpart_E) hF⟩
    · have hF := cneg h2 hF
      refine obind hF fun b3 h4 hF => ?_
      refine ⟨ix_nn h4, _, ix_str h4, ?_⟩
      refine And.intro (fun h5 => ?_) (fun h5 => ?_)
      · have hF := cpos h5 hF
        exact Or.inl ⟨rfl, congrArg (Option.map rpart_E) hF⟩
      · have hF := cneg h5 hF
        refine loop_oq (fun p : Nat × Int × Int => [(0, .c (S s)), (4, .c (I p.2.1)), (5, .c (I p.2.2))]) (fun _ => []) (fun p => rpart_L1 s p.1 p.2.1 p.2.2 = some r) (fun p => p.1) (N, 0, 0) hF ⟨rfl, rfl, rfl, trivial⟩ trivial ?_
        rintro ⟨fu1, n6, i7⟩ hF
        cases fu1 with
        | zero => exact nomatch hF
        | succ fu1 =>
          refine And.intro (fun h8 => ?_) (fun h8 => ?_)
          · have hF := cpos h8 hF
            refine join_no ?_
            refine obind hF fun b9 h10 hF => ?_
            refine ⟨ix_nn h10, _, ix_str h10, ?_⟩
            refine And.intro (fun h11 => ?_) (fun h11 => ?_)
            · have hF := cpos h11 hF
              exact Or.inl ⟨rfl, congrArg (Option.map rpart_E) hF⟩
            · have hF := cneg h11 hF
              refine obind hF fun b12 h13 hF => ?_
              refine ⟨ix_nn h13, _, ix_str h13, ?_⟩
              refine And.intro (fun h14 => ?_) (fun h14 => ?_)
              · have hF := cpos h14 hF
                exact Or.inl ⟨rfl, congrArg (Option.map rpart_E) hF⟩
              · have hF := cneg h14 hF
                refine obind hF fun b15 h16 hF => ?_
                refine ⟨ix_nn h16, _, ix_str h16, ?_⟩
                exact ⟨(fu1, (IntKind.i64.wrap ((IntKind.i64.wrap (10 * n6)) + (IntKind.i64.wrap (IntKind.u8.wrap ((b15.toNat : Int) - 48))))), (IntKind.i64.wrap (i7 + 1))), Nat.lt_succ_self _, hF, ⟨rfl, rfl, rfl, trivial⟩, trivial⟩
          · have hF := cneg h8 hF
            exact Or.inl ⟨rfl, congrArg (Option.map rpart_E) hF⟩
abbrev rpart_S (s : Str) : Option (Int × Bool) := rpart_F (s.length + 1) s
theorem rpart_h {s : Str} {r : Int × Bool} (h : rpart_S s = some r) : Holds Tryz.prog Gw 49 [S s] (rpart_E r) := rpart_Fh  h
abbrev rParse_E (y : List Int × Int) : CV := .tup [.sl 1 (y.1.map cInt), I y.2]
def rParse_L1 (code : Str) : Nat → List Int → Int → Int → Option (List Int × Int)
  | 0, _, _, _ => none
  | fu1 + 1, out1, v2, i3 => bif decide (i3 ≤ (code.length : Int)) then (bif (i3 == (code.length : Int)) then (Option.bind (slc code v2 i3) fun y6 => Option.bind (rpart_S y6) fun y8 => bif (!y8.2) then some (([] : List Int), 3) else (bif decide (out1.length + ([y8.1] : List Int).length ≤ 4294967296) then rParse_L1 code fu1 (out1 ++ ([y8.1] : List Int)) (IntKind.i64.wrap (i3 + 1)) (IntKind.i64.wrap (i3 + 1)) else none)) else (Option.bind (ix code i3) fun b12 => bif ((b12.toNat : Int) == 46) then (Option.bind (slc code v2 i3) fun y15 => Option.bind (rpart_S y15) fun y17 => bif (!y17.2) then some (([] : List Int), 3) else (bif decide (out1.length + ([y17.1] : List Int).length ≤ 4294967296) then rParse_L1 code fu1 (out1 ++ ([y17.1] : List Int)) (IntKind.i64.wrap (i3 + 1)) (IntKind.i64.wrap (i3 + 1)) else none)) else rParse_L1 code fu1 out1 v2 (IntKind.i64.wrap (i3 + 1)))) else (bif decide (((out1.map cInt).length : Int) > 6) then some (([] : List Int), 3) else some (out1, 0))
def rParse_F (N : Nat) (code : Str) : Option (List Int × Int) := rParse_L1 code N ([] : List Int) 0 0
set_option linter.unusedVariables false in
theorem rParse_Fh {N : Nat} {code : Str} {r : List Int × Int} (hF : rParse_F N code = some r) : Holds Tryz.prog Gw 21 [S code] (rParse_E r) := by
  refine holds_of_wq tabOk mixed Tryz.func21 (by decide) rfl (Nat.le_of_ble_eq_true rfl) ?_
  refine Or.inl ?_
  refine Or.inl ?_
  refine loop_oq (fun p : Nat × List Int × Int × Int => [(0, .c (S code)), (4, .ap 4 0 1 (p.2.1.map cInt)), (5, .c (I p.2.2.1)), (6, .c (I p.2.2.2))]) (fun p : Nat × List Int × Int × Int => [(4, .tok 3 1)]) (fun p => rParse_L1 code p.1 p.2.1 p.2.2.1 p.2.2.2 = some r) (fun p => p.1) (N, ([] : List Int), 0, 0) hF ⟨rfl, rfl, rfl, rfl, trivial⟩ ⟨rfl, trivial⟩ ?_
  rintro ⟨fu1, out1, v2, i3⟩ hF
  cases fu1 with
  | zero => exact nomatch hF
  | succ fu1 =>
    refine And.intro (fun h4 => ?_) (fun h4 => ?_)
    · have hF := cpos h4 hF
      refine join_no ?_
      refine And.intro (fun h5 => ?_) (fun h5 => ?_)
      · have hF := cpos h5 hF
        refine obind hF fun y6 h7 hF => ?_
        refine Or.inr ⟨[], 0, _, _, _, _, rfl, rfl, eff_sslice_lh tok9.u h7, rfl, ?_⟩
        refine obind hF fun y8 h9 hF => ?_
        refine Or.inl ⟨_, rpart_h h9, rfl, ?_⟩
        refine And.intro (fun h10 => ?_) (fun h10 => ?_)
        · have hF := cpos h10 hF
          refine Or.inl ?_
          exact Or.inl ⟨rfl, congrArg (Option.map rParse_E) hF⟩
        · have hF := cneg h10 hF
          refine Or.inl ?_
          refine gpos hF fun h11 hF => ?_
          refine Or.inl ⟨len_all rfl, app_le h11, (out1 ++ ([y8.1] : List Int)).map cInt, map_app _ _ _, ?_⟩
          exact ⟨(fu1, (out1 ++ ([y8.1] : List Int)), (IntKind.i64.wrap (i3 + 1)), (IntKind.i64.wrap (i3 + 1))), Nat.lt_succ_self _, hF, ⟨rfl, rfl, rfl, rfl, trivial⟩, ⟨rfl, trivial⟩⟩
      · have hF := cneg h5 hF
        refine obind hF fun b12 h13 hF => ?_
        refine ⟨ix_nn h13, _, ix_str h13, ?_⟩
        refine And.intro (fun h14 => ?_) (fun h14 => ?_)
        · have hF := cpos h14 hF
          refine obind hF fun y15 h16 hF => ?_
          refine Or.inr ⟨[], 0, _, _, _, _, rfl, rfl, eff_sslice_lh tok9.u h16, rfl, ?_⟩
          refine obind hF fun y17 h18 hF => ?_
          refine Or.inl ⟨_, rpart_h h18, rfl, ?_⟩
          refine And.intro (fun h19 => ?_) (fun h19 => ?_)
          · have hF := cpos h19 hF
            refine Or.inl ?_
            exact Or.inl ⟨rfl, congrArg (Option.map rParse_E) hF⟩
          · have hF := cneg h19 hF
            refine Or.inl ?_
            refine gpos hF fun h20 hF => ?_
            refine Or.inl ⟨len_all rfl, app_le h20, (out1 ++ ([y17.1] : List Int)).map cInt, map_app _ _ _, ?_⟩
            exact ⟨(fu1, (out1 ++ ([y17.1] : List Int)), (IntKind.i64.wrap (i3 + 1)), (IntKind.i64.wrap (i3 + 1))), Nat.lt_succ_self _, hF, ⟨rfl, rfl, rfl, rfl, trivial⟩, ⟨rfl, trivial⟩⟩
        · have hF := cneg h14 hF
          exact ⟨(fu1, out1, v2, (IntKind.i64.wrap (i3 + 1))), Nat.lt_succ_self _, hF, ⟨rfl, rfl, rfl, rfl, trivial⟩, ⟨rfl, trivial⟩⟩
    · have hF := cneg h4 hF
      refine And.intro (fun h21 => ?_) (fun h21 => ?_)
      · have hF := cpos h21 hF
        refine Or.inl ?_
        exact Or.inl ⟨rfl, congrArg (Option.map rParse_E) hF⟩
      · have hF := cneg h21 hF
        exact Or.inl ⟨rfl, congrArg (Option.map rParse_E) hF⟩
abbrev rParse_S (code : Str) : Option (List Int × Int) := rParse_F (code.length + 2) code
theorem rParse_h {code : Str} {r : List Int × Int} (h : rParse_S code = some r) : Holds Tryz.prog Gw 21 [S code] (rParse_E r) := rParse_Fh  h
abbrev rGood_E (y : Bool) : CV := B y
def rGood_F (code : Str) : Option (Bool) := Option.bind (rParse_S code) fun y1 => some ((y1.2 == 0))
set_option linter.unusedVariables false in
theorem rGood_Fh {code : Str} {r : Bool} (hF : rGood_F code = some r) : Holds Tryz.prog Gw 44 [S code] (rGood_E r) := by
  refine holds_of_wq tabOk mixed Tryz.func44 (by decide) rfl (Nat.le_of_ble_eq_true rfl) ?_
  refine obind hF fun y1 h2 hF => ?_
  refine Or.inl ⟨_, rParse_h h2, rfl, ?_⟩
  exact Or.inl ⟨rfl, congrArg (Option.map rGood_E) hF⟩
abbrev rGood_S (code : Str) : Option (Bool) := rGood_F code
theorem rGood_h {code : Str} {r : Bool} (h : rGood_S code = some r) : Holds Tryz.prog Gw 44 [S code] (rGood_E r) := rGood_Fh  h
abbrev rFormat_E (y : Str × Int) : CV := .tup [S y.1, I y.2]
def rFormat_L1 (l : List Int) : Nat → Str → Int → Option (Str × Int)
  | 0, _, _ => none
  | fu1 + 1, out3, i4 => bif decide (i4 < ((l.map cInt).length : Int)) then (Option.bind (ix l i4) fun x6 => bif decide (x6 < 1) then some (([] : Str), 2) else (Option.bind (ix l i4) fun x9 => bif decide (x9 > 999) then some (([] : Str), 2) else (bif decide (i4 > 0) then (bif decide (out3.length + ([46] : Str).length ≤ 9223372036854775807) then Option.bind (ix l i4) fun x14 => Option.bind (rDecimal_S x14) fun y16 => bif decide ((out3 ++ ([46] : Str)).length + y16.length ≤ 9223372036854775807) then rFormat_L1 l fu1 ((out3 ++ ([46] : Str)) ++ y16) (IntKind.i64.wrap (i4 + 1)) else none else none) else (Option.bind (ix l i4) fun x19 => Option.bind (rDecimal_S x19) fun y21 => bif decide (out3.length + y21.length ≤ 9223372036854775807) then rFormat_L1 l fu1 (out3 ++ y21) (IntKind.i64.wrap (i4 + 1)) else none)))) else some (out3, 0)
def rFormat_F (N : Nat) (l : List Int) : Option (Str × Int) := bif decide (((l.map cInt).length : Int) < 1) then some (([] : Str), 2) else (bif decide (((l.map cInt).length : Int) > 6) then some (([] : Str), 2) else rFormat_L1 l N ([] : Str) 0)
set_option linter.unusedVariables false in
theorem rFormat_Fh {N : Nat} {l : List Int} {r : Str × Int} (hF : rFormat_F N l = some r) : Holds Tryz.prog Gw 23 [.sl 1 (l.map cInt)] (rFormat_E r) := by
  refine holds_of_wq tabOk mixed Tryz.func23 (by decide) rfl (Nat.le_of_ble_eq_true rfl) ?_
  refine And.intro (fun h1 => ?_) (fun h1 => ?_)
  · have hF := cpos h1 hF
    exact Or.inl ⟨rfl, congrArg (Option.map rFormat_E) hF⟩
  · have hF := cneg h1 hF
    refine And.intro (fun h2 => ?_) (fun h2 => ?_)
    · have hF := cpos h2 hF
      exact Or.inl ⟨rfl, congrArg (Option.map rFormat_E) hF⟩
    · have hF := cneg h2 hF
      refine loop_oq (fun p : Nat × Str × Int => [(0, .c (.sl 1 (l.map cInt))), (4, .c (S p.2.1)), (5, .c (I p.2.2))]) (fun _ => []) (fun p => rFormat_L1 l p.1 p.2.1 p.2.2 = some r) (fun p => p.1) (N, ([] : Str), 0) hF ⟨rfl, rfl, rfl, trivial⟩ trivial ?_
      rintro ⟨fu1, out3, i4⟩ hF
      cases fu1 with
      | zero => exact nomatch hF
      | succ fu1 =>
        refine And.intro (fun h5 => ?_) (fun h5 => ?_)
        · have hF := cpos h5 hF
          refine join_no ?_
          refine obind hF fun x6 h7 hF => ?_
          refine ⟨ix_nn h7, .inl rfl, _, ix_map cInt h7, ?_⟩
          refine And.intro (fun h8 => ?_) (fun h8 => ?_)
          · have hF := cpos h8 hF
            exact Or.inl ⟨rfl, congrArg (Option.map rFormat_E) hF⟩
          · have hF := cneg h8 hF
            refine obind hF fun x9 h10 hF => ?_
            refine ⟨ix_nn h10, .inl rfl, _, ix_map cInt h10, ?_⟩
            refine And.intro (fun h11 => ?_) (fun h11 => ?_)
            · have hF := cpos h11 hF
              exact Or.inl ⟨rfl, congrArg (Option.map rFormat_E) hF⟩
            · have hF := cneg h11 hF
              refine And.intro (fun h12 => ?_) (fun h12 => ?_)
              · have hF := cpos h12 hF
                refine gpos hF fun h13 hF => ?_
                refine ⟨of_decide_eq_true h13, _, scat _ _, ?_⟩
                refine obind hF fun x14 h15 hF => ?_
                refine ⟨ix_nn h15, .inl rfl, _, ix_map cInt h15, ?_⟩
                refine obind hF fun y16 h17 hF => ?_
                refine Or.inl ⟨_, rDecimal_h h17, rfl, ?_⟩
                refine gpos hF fun h18 hF => ?_
                refine ⟨of_decide_eq_true h18, _, scat _ _, ?_⟩
                exact ⟨(fu1, ((out3 ++ ([46] : Str)) ++ y16), (IntKind.i64.wrap (i4 + 1))), Nat.lt_succ_self _, hF, ⟨rfl, rfl, rfl, trivial⟩, trivial⟩
              · have hF := cneg h12 hF
                refine obind hF fun x19 h20 hF => ?_
                refine ⟨ix_nn h20, .inl rfl, _, ix_map cInt h20, ?_⟩
                refine obind hF fun y21 h22 hF => ?_
                refine Or.inl ⟨_, rDecimal_h h22, rfl, ?_⟩
                refine gpos hF fun h23 hF => ?_
                refine ⟨of_decide_eq_true h23, _, scat _ _, ?_⟩
                exact ⟨(fu1, (out3 ++ y21), (IntKind.i64.wrap (i4 + 1))), Nat.lt_succ_self _, hF, ⟨rfl, rfl, rfl, trivial⟩, trivial⟩
        · have hF := cneg h5 hF
          exact Or.inl ⟨rfl, congrArg (Option.map rFormat_E) hF⟩
abbrev rFormat_S (l : List Int) : Option (Str × Int) := rFormat_F (l.length + 1) l
theorem rFormat_h {l : List Int} {r : Str × Int} (h : rFormat_S l = some r) : Holds Tryz.prog Gw 23 [.sl 1 (l.map cInt)] (rFormat_E r) := rFormat_Fh  h
abbrev rParent_E (y : Str × Bool) : CV := .tup [S y.1, B y.2]
def rParent_F (code : Str) : Option (Str × Bool) := Option.bind (rParse_S code) fun y1 => bif (y1.2 != 0) then some (([] : Str), false) else (bif decide (((y1.1.map cInt).length : Int) < 2) then some (([] : Str), false) else (Option.bind (slc y1.1 0 (IntKind.i64.wrap (((y1.1.map cInt).length : Int) - 1))) fun y5 => Option.bind (rFormat_S y5) fun y7 => some (y7.1, true)))
set_option linter.unusedVariables false in
theorem rParent_Fh {code : Str} {r : Str × Bool} (hF : rParent_F code = some r) : Holds Tryz.prog Gw 24 [S code] (rParent_E r) := by
  refine holds_of_wq tabOk mixed Tryz.func24 (by decide) rfl (Nat.le_of_ble_eq_true rfl) ?_
  refine obind hF fun y1 h2 hF => ?_
  refine Or.inl ⟨_, rParse_h h2, rfl, ?_⟩
  refine And.intro (fun h3 => ?_) (fun h3 => ?_)
  · have hF := cpos h3 hF
    exact Or.inl ⟨rfl, congrArg (Option.map rParent_E) hF⟩
  · have hF := cneg h3 hF
    refine And.intro (fun h4 => ?_) (fun h4 => ?_)
    · have hF := cpos h4 hF
      exact Or.inl ⟨rfl, congrArg (Option.map rParent_E) hF⟩
    · have hF := cneg h4 hF
      refine obind hF fun y5 h6 hF => ?_
      refine Or.inr ⟨[], 0, _, _, _, _, rfl, rfl, eff_slice_h (cf := cInt) tok32.u tok3 h6, rfl, ?_⟩
      refine obind hF fun y7 h8 hF => ?_
      refine Or.inl ⟨_, rFormat_h h8, rfl, ?_⟩
      exact Or.inl ⟨rfl, congrArg (Option.map rParent_E) hF⟩
abbrev rParent_S (code : Str) : Option (Str × Bool) := rParent_F code
theorem rParent_h {code : Str} {r : Str × Bool} (h : rParent_S code = some r) : Holds Tryz.prog Gw 24 [S code] (rParent_E r) := rParent_Fh  h
abbrev rless_E (y : Int) : CV := I y
def rless_L1 (a : List Int) (b : List Int) : Nat → Int → Option (Int)
  | 0, _ => none
  | fu1 + 1, i1 => bif decide (i1 < ((a.map cInt).length : Int)) then (bif decide (i1 < ((b.map cInt).length : Int)) then (Option.bind (ix a i1) fun x4 => Option.bind (ix b i1) fun x6 => bif decide (x4 < x6) then some ((-1)) else (Option.bind (ix a i1) fun x9 => Option.bind (ix b i1) fun x11 => bif decide (x9 > x11) then some (1) else rless_L1 a b fu1 (IntKind.i64.wrap (i1 + 1)))) else (bif decide (((a.map cInt).length : Int) < ((b.map cInt).length : Int)) then some ((-1)) else (bif decide (((a.map cInt).length : Int) > ((b.map cInt).length : Int)) then some (1) else some (0)))) else (bif decide (((a.map cInt).length : Int) < ((b.map cInt).length : Int)) then some ((-1)) else (bif decide (((a.map cInt).length : Int) > ((b.map cInt).length : Int)) then some (1) else some (0)))
def rless_F (N : Nat) (a : List Int) (b : List Int) : Option (Int) := rless_L1 a b N 0
set_option linter.unusedVariables false in
theorem rless_Fh {N : Nat} {a : List Int} {b : List Int} {r : Int} (hF : rless_F N a b = some r) : Holds Tryz.prog Gw 39 [.sl 1 (a.map cInt), .sl 1 (b.map cInt)] (rless_E r) := by
  refine holds_of_wq tabOk mixed Tryz.func39 (by decide) rfl (Nat.le_of_ble_eq_true rfl) ?_
  refine loop_oq (fun p : Nat × Int => [(0, .c (.sl 1 (a.map cInt))), (1, .c (.sl 1 (b.map cInt))), (5, .c (I p.2))]) (fun _ => []) (fun p => rless_L1 a b p.1 p.2 = some r) (fun p => p.1) (N, 0) hF ⟨rfl, rfl, rfl, trivial⟩ trivial ?_
  rintro ⟨fu1, i1⟩ hF
  cases fu1 with
  | zero => exact nomatch hF
  | succ fu1 =>
    refine And.intro (fun h2 => ?_) (fun h2 => ?_)
    · have hF := cpos h2 hF
      refine And.intro (fun h3 => ?_) (fun h3 => ?_)
      · have hF := cpos h3 hF
        refine join_no ?_
        refine obind hF fun x4 h5 hF => ?_
        refine ⟨ix_nn h5, .inl rfl, _, ix_map cInt h5, ?_⟩
        refine obind hF fun x6 h7 hF => ?_
        refine ⟨ix_nn h7, .inl rfl, _, ix_map cInt h7, ?_⟩
        refine And.intro (by kernel_rfl) ?_
        refine And.intro (fun h8 => ?_) (fun h8 => ?_)
        · have hF := cpos h8 hF
          exact Or.inl ⟨rfl, congrArg (Option.map rless_E) hF⟩
        · have hF := cneg h8 hF
          refine obind hF fun x9 h10 hF => ?_
          refine ⟨ix_nn h10, .inl rfl, _, ix_map cInt h10, ?_⟩
          refine obind hF fun x11 h12 hF => ?_
          refine ⟨ix_nn h12, .inl rfl, _, ix_map cInt h12, ?_⟩
          refine And.intro (by kernel_rfl) ?_
          refine And.intro (fun h13 => ?_) (fun h13 => ?_)
          · have hF := cpos h13 hF
            exact Or.inl ⟨rfl, congrArg (Option.map rless_E) hF⟩
          · have hF := cneg h13 hF
            exact ⟨(fu1, (IntKind.i64.wrap (i1 + 1))), Nat.lt_succ_self _, hF, ⟨rfl, rfl, rfl, trivial⟩, trivial⟩
      · have hF := cneg h3 hF
        refine And.intro (fun h14 => ?_) (fun h14 => ?_)
        · have hF := cpos h14 hF
          exact Or.inl ⟨rfl, congrArg (Option.map rless_E) hF⟩
        · have hF := cneg h14 hF
          refine And.intro (fun h15 => ?_) (fun h15 => ?_)
          · have hF := cpos h15 hF
            exact Or.inl ⟨rfl, congrArg (Option.map rless_E) hF⟩
          · have hF := cneg h15 hF
            exact Or.inl ⟨rfl, congrArg (Option.map rless_E) hF⟩
    · have hF := cneg h2 hF
      refine And.intro (fun h16 => ?_) (fun h16 => ?_)
      · have hF := cpos h16 hF
        exact Or.inl ⟨rfl, congrArg (Option.map rless_E) hF⟩
      · have hF := cneg h16 hF
        refine And.intro (fun h17 => ?_) (fun h17 => ?_)
        · have hF := cpos h17 hF
          exact Or.inl ⟨rfl, congrArg (Option.map rless_E) hF⟩
        · have hF := cneg h17 hF
          exact Or.inl ⟨rfl, congrArg (Option.map rless_E) hF⟩
abbrev rless_S (a : List Int) (b : List Int) : Option (Int) := rless_F (a.length + 1) a b
theorem rless_h {a : List Int} {b : List Int} {r : Int} (h : rless_S a b = some r) : Holds Tryz.prog Gw 39 [.sl 1 (a.map cInt), .sl 1 (b.map cInt)] (rless_E r) := rless_Fh  h
abbrev rCompare_E (y : Int × Int) : CV := .tup [I y.1, I y.2]
def rCompare_F (a : Str) (b : Str) : Option (Int × Int) := Option.bind (rParse_S a) fun y1 => Option.bind (rParse_S b) fun y3 => bif (y1.2 != 0) then some (0, 3) else (bif (y3.2 != 0) then some (0, 3) else (Option.bind (rless_S y1.1 y3.1) fun y7 => some (y7, 0)))
set_option linter.unusedVariables false in
theorem rCompare_Fh {a : Str} {b : Str} {r : Int × Int} (hF : rCompare_F a b = some r) : Holds Tryz.prog Gw 14 [S a, S b] (rCompare_E r) := by
  refine holds_of_wq tabOk mixed Tryz.func14 (by decide) rfl (Nat.le_of_ble_eq_true rfl) ?_
  refine obind hF fun y1 h2 hF => ?_
  refine Or.inl ⟨_, rParse_h h2, rfl, ?_⟩
  refine obind hF fun y3 h4 hF => ?_
  refine Or.inl ⟨_, rParse_h h4, rfl, ?_⟩
  refine And.intro (fun h5 => ?_) (fun h5 => ?_)
  · have hF := cpos h5 hF
    exact Or.inl ⟨rfl, congrArg (Option.map rCompare_E) hF⟩
  · have hF := cneg h5 hF
    refine And.intro (fun h6 => ?_) (fun h6 => ?_)
    · have hF := cpos h6 hF
      exact Or.inl ⟨rfl, congrArg (Option.map rCompare_E) hF⟩
    · have hF := cneg h6 hF
      refine obind hF fun y7 h8 hF => ?_
      refine Or.inl ⟨_, rless_h h8, rfl, ?_⟩
      exact Or.inl ⟨rfl, congrArg (Option.map rCompare_E) hF⟩
abbrev rCompare_S (a : Str) (b : Str) : Option (Int × Int) := rCompare_F a b
theorem rCompare_h {a : Str} {b : Str} {r : Int × Int} (h : rCompare_S a b = some r) : Holds Tryz.prog Gw 14 [S a, S b] (rCompare_E r) := rCompare_Fh  h
abbrev rWithin_E (y : Bool) : CV := B y
def rWithin_F (code : Str) (above : Str) : Option (Bool) := Option.bind (rParse_S code) fun y1 => Option.bind (rParse_S above) fun y3 => bif (y1.2 == 0) then (bif (y3.2 == 0) then (bif decide (((y1.1.map cInt).length : Int) ≥ ((y3.1.map cInt).length : Int)) then (Option.bind (slc y1.1 0 ((y3.1.map cInt).length : Int)) fun y8 => Option.bind (rless_S y8 y3.1) fun y10 => some ((y10 == 0))) else some (false)) else some (false)) else some (false)
set_option linter.unusedVariables false in
theorem rWithin_Fh {code : Str} {above : Str} {r : Bool} (hF : rWithin_F code above = some r) : Holds Tryz.prog Gw 18 [S code, S above] (rWithin_E r) := by
  refine holds_of_wq tabOk mixed Tryz.func18 (by decide) rfl (Nat.le_of_ble_eq_true rfl) ?_
  refine obind hF fun y1 h2 hF => ?_
  refine Or.inl ⟨_, rParse_h h2, rfl, ?_⟩
  refine obind hF fun y3 h4 hF => ?_
  refine Or.inl ⟨_, rParse_h h4, rfl, ?_⟩
  refine And.intro (fun h5 => ?_) (fun h5 => ?_)
  · have hF := cpos h5 hF
    refine And.intro (fun h6 => ?_) (fun h6 => ?_)
    · have hF := cpos h6 hF
      refine And.intro (fun h7 => ?_) (fun h7 => ?_)
      · have hF := cpos h7 hF
        refine obind hF fun y8 h9 hF => ?_
        refine Or.inr ⟨[], 0, _, _, _, _, rfl, rfl, eff_slice_h (cf := cInt) tok32.u tok3 h9, rfl, ?_⟩
        refine obind hF fun y10 h11 hF => ?_
        refine Or.inl ⟨_, rless_h h11, rfl, ?_⟩
        exact Or.inl ⟨rfl, congrArg (Option.map rWithin_E) hF⟩
      · have hF := cneg h7 hF
        exact Or.inl ⟨rfl, congrArg (Option.map rWithin_E) hF⟩
    · have hF := cneg h6 hF
      exact Or.inl ⟨rfl, congrArg (Option.map rWithin_E) hF⟩
  · have hF := cneg h5 hF
    exact Or.inl ⟨rfl, congrArg (Option.map rWithin_E) hF⟩
abbrev rWithin_S (code : Str) (above : Str) : Option (Bool) := rWithin_F code above
theorem rWithin_h {code : Str} {above : Str} {r : Bool} (h : rWithin_S code above = some r) : Holds Tryz.prog Gw 18 [S code, S above] (rWithin_E r) := rWithin_Fh  h
abbrev rhas_E (y : Bool) : CV := B y
def rhas_L1 (l : List Str) (s : Str) : Nat → Int → Option (Bool)
  | 0, _ => none
  | fu1 + 1, i1 => bif decide (i1 < ((l.map cStr).length : Int)) then (Option.bind (ix l i1) fun x3 => bif (x3 == s) then some (true) else rhas_L1 l s fu1 (IntKind.i64.wrap (i1 + 1))) else some (false)
def rhas_F (N : Nat) (l : List Str) (s : Str) : Option (Bool) := rhas_L1 l s N 0
set_option linter.unusedVariables false in
theorem rhas_Fh {N : Nat} {l : List Str} {s : Str} {r : Bool} (hF : rhas_F N l s = some r) : Holds Tryz.prog Gw 45 [.sl 1 (l.map cStr), S s] (rhas_E r) := by
  refine holds_of_wq tabOk mixed Tryz.func45 (by decide) rfl (Nat.le_of_ble_eq_true rfl) ?_
  refine loop_oq (fun p : Nat × Int => [(0, .c (.sl 1 (l.map cStr))), (1, .c (S s)), (5, .c (I p.2))]) (fun _ => []) (fun p => rhas_L1 l s p.1 p.2 = some r) (fun p => p.1) (N, 0) hF ⟨rfl, rfl, rfl, trivial⟩ trivial ?_
  rintro ⟨fu1, i1⟩ hF
  cases fu1 with
  | zero => exact nomatch hF
  | succ fu1 =>
    refine And.intro (fun h2 => ?_) (fun h2 => ?_)
    · have hF := cpos h2 hF
      refine join_no ?_
      refine obind hF fun x3 h4 hF => ?_
      refine ⟨ix_nn h4, .inl rfl, _, ix_map cStr h4, ?_⟩
      refine And.intro (fun h5 => ?_) (fun h5 => ?_)
      · have hF := cpos h5 hF
        exact Or.inl ⟨rfl, congrArg (Option.map rhas_E) hF⟩
      · have hF := cneg h5 hF
        exact ⟨(fu1, (IntKind.i64.wrap (i1 + 1))), Nat.lt_succ_self _, hF, ⟨rfl, rfl, rfl, trivial⟩, trivial⟩
    · have hF := cneg h2 hF
      exact Or.inl ⟨rfl, congrArg (Option.map rhas_E) hF⟩
abbrev rhas_S (l : List Str) (s : Str) : Option (Bool) := rhas_F (l.length + 1) l s
theorem rhas_h {l : List Str} {s : Str} {r : Bool} (h : rhas_S l s = some r) : Holds Tryz.prog Gw 45 [.sl 1 (l.map cStr), S s] (rhas_E r) := rhas_Fh  h
abbrev rFree_E (y : Str × Int) : CV := .tup [S y.1, I y.2]
def rFree_L2 (taken : List Str) (above : Str) : Nat → Int → Option (Str × Int)
  | 0, _ => none
  | fu2 + 1, n16 => bif decide (n16 ≤ 999) then (Option.bind (rDecimal_S n16) fun y18 => bif decide ((above ++ ([46] : Str)).length + y18.length ≤ 9223372036854775807) then Option.bind (rhas_S taken ((above ++ ([46] : Str)) ++ y18)) fun y21 => bif (!y21) then (Option.bind (rDecimal_S n16) fun y24 => bif decide ((above ++ ([46] : Str)).length + y24.length ≤ 9223372036854775807) then some (((above ++ ([46] : Str)) ++ y24), 0) else none) else rFree_L2 taken above fu2 (IntKind.i64.wrap (n16 + 1)) else none) else some (([] : Str), 12)
def rFree_L3 (taken : List Str) : Nat → Int → Option (Str × Int)
  | 0, _ => none
  | fu3 + 1, n27 => bif decide (n27 ≤ 999) then (Option.bind (rDecimal_S n27) fun y29 => bif decide (([] : Str).length + y29.length ≤ 9223372036854775807) then Option.bind (rhas_S taken (([] : Str) ++ y29)) fun y32 => bif (!y32) then (Option.bind (rDecimal_S n27) fun y35 => bif decide (([] : Str).length + y35.length ≤ 9223372036854775807) then some ((([] : Str) ++ y35), 0) else none) else rFree_L3 taken fu3 (IntKind.i64.wrap (n27 + 1)) else none) else some (([] : Str), 12)
def rFree_L4 (taken : List Str) (above : Str) : Nat → Int → Option (Str × Int)
  | 0, _ => none
  | fu4 + 1, n41 => bif decide (n41 ≤ 999) then (Option.bind (rDecimal_S n41) fun y43 => bif decide ((above ++ ([46] : Str)).length + y43.length ≤ 9223372036854775807) then Option.bind (rhas_S taken ((above ++ ([46] : Str)) ++ y43)) fun y46 => bif (!y46) then (Option.bind (rDecimal_S n41) fun y49 => bif decide ((above ++ ([46] : Str)).length + y49.length ≤ 9223372036854775807) then some (((above ++ ([46] : Str)) ++ y49), 0) else none) else rFree_L4 taken above fu4 (IntKind.i64.wrap (n41 + 1)) else none) else some (([] : Str), 12)
def rFree_L5 (taken : List Str) : Nat → Int → Option (Str × Int)
  | 0, _ => none
  | fu5 + 1, n52 => bif decide (n52 ≤ 999) then (Option.bind (rDecimal_S n52) fun y54 => bif decide (([] : Str).length + y54.length ≤ 9223372036854775807) then Option.bind (rhas_S taken (([] : Str) ++ y54)) fun y57 => bif (!y57) then (Option.bind (rDecimal_S n52) fun y60 => bif decide (([] : Str).length + y60.length ≤ 9223372036854775807) then some ((([] : Str) ++ y60), 0) else none) else rFree_L5 taken fu5 (IntKind.i64.wrap (n52 + 1)) else none) else some (([] : Str), 12)
def rFree_L1 (taken : List Str) (above : Str) (N : Nat) : Nat → Int → Option (Str × Int)
  | 0, _ => none
  | fu1 + 1, i2 => bif decide (i2 < ((taken.map cStr).length : Int)) then (Option.bind (ix taken i2) fun x4 => Option.bind (rGood_S x4) fun y6 => bif (!y6) then some (([] : Str), 3) else rFree_L1 taken above N fu1 (IntKind.i64.wrap (i2 + 1))) else (Option.bind (rParse_S above) fun y9 => bif (!(above == ([] : Str))) then (bif (y9.2 != 0) then some (([] : Str), 3) else (bif decide (((y9.1.map cInt).length : Int) ≥ 6) then some (([] : Str), 12) else (bif (!(above == ([] : Str))) then (bif decide (above.length + ([46] : Str).length ≤ 9223372036854775807) then rFree_L2 taken above N 1 else none) else rFree_L3 taken N 1))) else (bif decide (((y9.1.map cInt).length : Int) ≥ 6) then some (([] : Str), 12) else (bif (!(above == ([] : Str))) then (bif decide (above.length + ([46] : Str).length ≤ 9223372036854775807) then rFree_L4 taken above N 1 else none) else rFree_L5 taken N 1)))
def rFree_F (N : Nat) (taken : List Str) (above : Str) : Option (Str × Int) := bif decide (((taken.map cStr).length : Int) > 1024) then some (([] : Str), 8) else rFree_L1 taken above N N 0
set_option linter.unusedVariables false in
theorem rFree_Fh {N : Nat} {taken : List Str} {above : Str} {r : Str × Int} (hF : rFree_F N taken above = some r) : Holds Tryz.prog Gw 16 [.sl 1 (taken.map cStr), S above] (rFree_E r) := by
  refine holds_of_wq tabOk mixed Tryz.func16 (by decide) rfl (Nat.le_of_ble_eq_true rfl) ?_
  refine And.intro (fun h1 => ?_) (fun h1 => ?_)
  · have hF := cpos h1 hF
    exact Or.inl ⟨rfl, congrArg (Option.map rFree_E) hF⟩
  · have hF := cneg h1 hF
    refine loop_oq (fun p : Nat × Int => [(0, .c (.sl 1 (taken.map cStr))), (1, .c (S above)), (6, .c (I p.2))]) (fun _ => []) (fun p => rFree_L1 taken above N p.1 p.2 = some r) (fun p => p.1) (N, 0) hF ⟨rfl, rfl, rfl, trivial⟩ trivial ?_
    rintro ⟨fu1, i2⟩ hF
    cases fu1 with
    | zero => exact nomatch hF
    | succ fu1 =>
      refine And.intro (fun h3 => ?_) (fun h3 => ?_)
      · have hF := cpos h3 hF
        refine join_no ?_
        refine obind hF fun x4 h5 hF => ?_
        refine ⟨ix_nn h5, .inl rfl, _, ix_map cStr h5, ?_⟩
        refine obind hF fun y6 h7 hF => ?_
        refine Or.inl ⟨_, rGood_h h7, rfl, ?_⟩
        refine And.intro (fun h8 => ?_) (fun h8 => ?_)
        · have hF := cpos h8 hF
          exact Or.inl ⟨rfl, congrArg (Option.map rFree_E) hF⟩
        · have hF := cneg h8 hF
          exact ⟨(fu1, (IntKind.i64.wrap (i2 + 1))), Nat.lt_succ_self _, hF, ⟨rfl, rfl, rfl, trivial⟩, trivial⟩
      · have hF := cneg h3 hF
        refine obind hF fun y9 h10 hF => ?_
        refine Or.inl ⟨_, rParse_h h10, rfl, ?_⟩
        refine And.intro (fun h11 => ?_) (fun h11 => ?_)
        · have hF := cpos h11 hF
          refine And.intro (fun h12 => ?_) (fun h12 => ?_)
          · have hF := cpos h12 hF
            exact Or.inl ⟨rfl, congrArg (Option.map rFree_E) hF⟩
          · have hF := cneg h12 hF
            refine And.intro (fun h13 => ?_) (fun h13 => ?_)
            · have hF := cpos h13 hF
              exact Or.inl ⟨rfl, congrArg (Option.map rFree_E) hF⟩
            · have hF := cneg h13 hF
              refine And.intro (fun h14 => ?_) (fun h14 => ?_)
              · have hF := cpos h14 hF
                refine gpos hF fun h15 hF => ?_
                refine ⟨of_decide_eq_true h15, _, scat _ _, ?_⟩
                refine loop_oq (fun p : Nat × Int => [(0, .c (.sl 1 (taken.map cStr))), (9, .c (S (above ++ ([46] : Str)))), (10, .c (I p.2))]) (fun _ => []) (fun p => rFree_L2 taken above p.1 p.2 = some r) (fun p => p.1) (N, 1) hF ⟨rfl, rfl, rfl, trivial⟩ trivial ?_
                rintro ⟨fu2, n16⟩ hF
                cases fu2 with
                | zero => exact nomatch hF
                | succ fu2 =>
                  refine And.intro (fun h17 => ?_) (fun h17 => ?_)
                  · have hF := cpos h17 hF
                    refine join_no ?_
                    refine obind hF fun y18 h19 hF => ?_
                    refine Or.inl ⟨_, rDecimal_h h19, rfl, ?_⟩
                    refine gpos hF fun h20 hF => ?_
                    refine ⟨of_decide_eq_true h20, _, scat _ _, ?_⟩
                    refine obind hF fun y21 h22 hF => ?_
                    refine Or.inl ⟨_, rhas_h h22, rfl, ?_⟩
                    refine And.intro (fun h23 => ?_) (fun h23 => ?_)
                    · have hF := cpos h23 hF
                      refine obind hF fun y24 h25 hF => ?_
                      refine Or.inl ⟨_, rDecimal_h h25, rfl, ?_⟩
                      refine gpos hF fun h26 hF => ?_
                      refine ⟨of_decide_eq_true h26, _, scat _ _, ?_⟩
                      exact Or.inl ⟨rfl, congrArg (Option.map rFree_E) hF⟩
                    · have hF := cneg h23 hF
                      exact ⟨(fu2, (IntKind.i64.wrap (n16 + 1))), Nat.lt_succ_self _, hF, ⟨rfl, rfl, rfl, trivial⟩, trivial⟩
                  · have hF := cneg h17 hF
                    exact Or.inl ⟨rfl, congrArg (Option.map rFree_E) hF⟩
              · have hF := cneg h14 hF
                refine loop_oq (fun p : Nat × Int => [(0, .c (.sl 1 (taken.map cStr))), (9, .c (S ([] : Str))), (10, .c (I p.2))]) (fun _ => []) (fun p => rFree_L3 taken p.1 p.2 = some r) (fun p => p.1) (N, 1) hF ⟨rfl, rfl, rfl, trivial⟩ trivial ?_
                rintro ⟨fu3, n27⟩ hF
                cases fu3 with
                | zero => exact nomatch hF
                | succ fu3 =>
                  refine And.intro (fun h28 => ?_) (fun h28 => ?_)
                  · have hF := cpos h28 hF
                    refine join_no ?_
                    refine obind hF fun y29 h30 hF => ?_
                    refine Or.inl ⟨_, rDecimal_h h30, rfl, ?_⟩
                    refine gpos hF fun h31 hF => ?_
                    refine ⟨of_decide_eq_true h31, _, scat _ _, ?_⟩
                    refine obind hF fun y32 h33 hF => ?_
                    refine Or.inl ⟨_, rhas_h h33, rfl, ?_⟩
                    refine And.intro (fun h34 => ?_) (fun h34 => ?_)
                    · have hF := cpos h34 hF
                      refine obind hF fun y35 h36 hF => ?_
                      refine Or.inl ⟨_, rDecimal_h h36, rfl, ?_⟩
                      refine gpos hF fun h37 hF => ?_
                      refine ⟨of_decide_eq_true h37, _, scat _ _, ?_⟩
                      exact Or.inl ⟨rfl, congrArg (Option.map rFree_E) hF⟩
                    · have hF := cneg h34 hF
                      exact ⟨(fu3, (IntKind.i64.wrap (n27 + 1))), Nat.lt_succ_self _, hF, ⟨rfl, rfl, rfl, trivial⟩, trivial⟩
                  · have hF := cneg h28 hF
                    exact Or.inl ⟨rfl, congrArg (Option.map rFree_E) hF⟩
        · have hF := cneg h11 hF
          refine And.intro (fun h38 => ?_) (fun h38 => ?_)
          · have hF := cpos h38 hF
            exact Or.inl ⟨rfl, congrArg (Option.map rFree_E) hF⟩
          · have hF := cneg h38 hF
            refine And.intro (fun h39 => ?_) (fun h39 => ?_)
            · have hF := cpos h39 hF
              refine gpos hF fun h40 hF => ?_
              refine ⟨of_decide_eq_true h40, _, scat _ _, ?_⟩
              refine loop_oq (fun p : Nat × Int => [(0, .c (.sl 1 (taken.map cStr))), (9, .c (S (above ++ ([46] : Str)))), (10, .c (I p.2))]) (fun _ => []) (fun p => rFree_L4 taken above p.1 p.2 = some r) (fun p => p.1) (N, 1) hF ⟨rfl, rfl, rfl, trivial⟩ trivial ?_
              rintro ⟨fu4, n41⟩ hF
              cases fu4 with
              | zero => exact nomatch hF
              | succ fu4 =>
                refine And.intro (fun h42 => ?_) (fun h42 => ?_)
                · have hF := cpos h42 hF
                  refine join_no ?_
                  refine obind hF fun y43 h44 hF => ?_
                  refine Or.inl ⟨_, rDecimal_h h44, rfl, ?_⟩
                  refine gpos hF fun h45 hF => ?_
                  refine ⟨of_decide_eq_true h45, _, scat _ _, ?_⟩
                  refine obind hF fun y46 h47 hF => ?_
                  refine Or.inl ⟨_, rhas_h h47, rfl, ?_⟩
                  refine And.intro (fun h48 => ?_) (fun h48 => ?_)
                  · have hF := cpos h48 hF
                    refine obind hF fun y49 h50 hF => ?_
                    refine Or.inl ⟨_, rDecimal_h h50, rfl, ?_⟩
                    refine gpos hF fun h51 hF => ?_
                    refine ⟨of_decide_eq_true h51, _, scat _ _, ?_⟩
                    exact Or.inl ⟨rfl, congrArg (Option.map rFree_E) hF⟩
                  · have hF := cneg h48 hF
                    exact ⟨(fu4, (IntKind.i64.wrap (n41 + 1))), Nat.lt_succ_self _, hF, ⟨rfl, rfl, rfl, trivial⟩, trivial⟩
                · have hF := cneg h42 hF
                  exact Or.inl ⟨rfl, congrArg (Option.map rFree_E) hF⟩
            · have hF := cneg h39 hF
              refine loop_oq (fun p : Nat × Int => [(0, .c (.sl 1 (taken.map cStr))), (9, .c (S ([] : Str))), (10, .c (I p.2))]) (fun _ => []) (fun p => rFree_L5 taken p.1 p.2 = some r) (fun p => p.1) (N, 1) hF ⟨rfl, rfl, rfl, trivial⟩ trivial ?_
              rintro ⟨fu5, n52⟩ hF
              cases fu5 with
              | zero => exact nomatch hF
              | succ fu5 =>
                refine And.intro (fun h53 => ?_) (fun h53 => ?_)
                · have hF := cpos h53 hF
                  refine join_no ?_
                  refine obind hF fun y54 h55 hF => ?_
                  refine Or.inl ⟨_, rDecimal_h h55, rfl, ?_⟩
                  refine gpos hF fun h56 hF => ?_
                  refine ⟨of_decide_eq_true h56, _, scat _ _, ?_⟩
                  refine obind hF fun y57 h58 hF => ?_
                  refine Or.inl ⟨_, rhas_h h58, rfl, ?_⟩
                  refine And.intro (fun h59 => ?_) (fun h59 => ?_)
                  · have hF := cpos h59 hF
                    refine obind hF fun y60 h61 hF => ?_
                    refine Or.inl ⟨_, rDecimal_h h61, rfl, ?_⟩
                    refine gpos hF fun h62 hF => ?_
                    refine ⟨of_decide_eq_true h62, _, scat _ _, ?_⟩
                    exact Or.inl ⟨rfl, congrArg (Option.map rFree_E) hF⟩
                  · have hF := cneg h59 hF
                    exact ⟨(fu5, (IntKind.i64.wrap (n52 + 1))), Nat.lt_succ_self _, hF, ⟨rfl, rfl, rfl, trivial⟩, trivial⟩
                · have hF := cneg h53 hF
                  exact Or.inl ⟨rfl, congrArg (Option.map rFree_E) hF⟩
abbrev rFree_S (taken : List Str) (above : Str) : Option (Str × Int) := rFree_F 1100 taken above
theorem rFree_h {taken : List Str} {above : Str} {r : Str × Int} (h : rFree_S taken above = some r) : Holds Tryz.prog Gw 16 [.sl 1 (taken.map cStr), S above] (rFree_E r) := rFree_Fh  h
abbrev rName_E (y : Bool) : CV := B y
def rName_L1 (s : Str) : Nat → Int → Option (Bool)
  | 0, _ => none
  | fu1 + 1, i9 => bif decide (i9 < (s.length : Int)) then (Option.bind (ix s i9) fun b11 => bif decide ((b11.toNat : Int) < 32) then some (false) else (Option.bind (ix s i9) fun b14 => bif decide ((b14.toNat : Int) > 126) then some (false) else (bif decide (i9 > 0) then (Option.bind (ix s i9) fun b18 => bif ((b18.toNat : Int) == 32) then (Option.bind (ix s (IntKind.i64.wrap (i9 - 1))) fun b21 => bif ((b21.toNat : Int) == 32) then some (false) else rName_L1 s fu1 (IntKind.i64.wrap (i9 + 1))) else rName_L1 s fu1 (IntKind.i64.wrap (i9 + 1))) else rName_L1 s fu1 (IntKind.i64.wrap (i9 + 1))))) else some (true)
def rName_F (N : Nat) (s : Str) : Option (Bool) := bif decide ((s.length : Int) < 1) then some (false) else (bif decide ((s.length : Int) > 64) then some (false) else (Option.bind (ix s 0) fun b3 => bif ((b3.toNat : Int) == 32) then some (false) else (Option.bind (ix s (IntKind.i64.wrap ((s.length : Int) - 1))) fun b6 => bif ((b6.toNat : Int) == 32) then some (false) else rName_L1 s N 0)))
set_option linter.unusedVariables false in
theorem rName_Fh {N : Nat} {s : Str} {r : Bool} (hF : rName_F N s = some r) : Holds Tryz.prog Gw 29 [S s] (rName_E r) := by
  refine holds_of_wq tabOk mixed Tryz.func29 (by decide) rfl (Nat.le_of_ble_eq_true rfl) ?_
  refine And.intro (fun h1 => ?_) (fun h1 => ?_)
  · have hF := cpos h1 hF
    exact Or.inl ⟨rfl, congrArg (Option.map rName_E) hF⟩
  · have hF := cneg h1 hF
    refine And.intro (fun h2 => ?_) (fun h2 => ?_)
    · have hF := cpos h2 hF
      exact Or.inl ⟨rfl, congrArg (Option.map rName_E) hF⟩
    · have hF := cneg h2 hF
      refine obind hF fun b3 h4 hF => ?_
      refine ⟨ix_nn h4, _, ix_str h4, ?_⟩
      refine And.intro (fun h5 => ?_) (fun h5 => ?_)
      · have hF := cpos h5 hF
        exact Or.inl ⟨rfl, congrArg (Option.map rName_E) hF⟩
      · have hF := cneg h5 hF
        refine obind hF fun b6 h7 hF => ?_
        refine ⟨ix_nn h7, _, ix_str h7, ?_⟩
        refine And.intro (fun h8 => ?_) (fun h8 => ?_)
        · have hF := cpos h8 hF
          exact Or.inl ⟨rfl, congrArg (Option.map rName_E) hF⟩
        · have hF := cneg h8 hF
          refine loop_oq (fun p : Nat × Int => [(0, .c (S s)), (3, .c (I p.2))]) (fun _ => []) (fun p => rName_L1 s p.1 p.2 = some r) (fun p => p.1) (N, 0) hF ⟨rfl, rfl, trivial⟩ trivial ?_
          rintro ⟨fu1, i9⟩ hF
          cases fu1 with
          | zero => exact nomatch hF
          | succ fu1 =>
            refine And.intro (fun h10 => ?_) (fun h10 => ?_)
            · have hF := cpos h10 hF
              refine join_no ?_
              refine obind hF fun b11 h12 hF => ?_
              refine ⟨ix_nn h12, _, ix_str h12, ?_⟩
              refine And.intro (fun h13 => ?_) (fun h13 => ?_)
              · have hF := cpos h13 hF
                exact Or.inl ⟨rfl, congrArg (Option.map rName_E) hF⟩
              · have hF := cneg h13 hF
                refine obind hF fun b14 h15 hF => ?_
                refine ⟨ix_nn h15, _, ix_str h15, ?_⟩
                refine And.intro (fun h16 => ?_) (fun h16 => ?_)
                · have hF := cpos h16 hF
                  exact Or.inl ⟨rfl, congrArg (Option.map rName_E) hF⟩
                · have hF := cneg h16 hF
                  refine And.intro (fun h17 => ?_) (fun h17 => ?_)
                  · have hF := cpos h17 hF
                    refine obind hF fun b18 h19 hF => ?_
                    refine ⟨ix_nn h19, _, ix_str h19, ?_⟩
                    refine And.intro (fun h20 => ?_) (fun h20 => ?_)
                    · have hF := cpos h20 hF
                      refine obind hF fun b21 h22 hF => ?_
                      refine ⟨ix_nn h22, _, ix_str h22, ?_⟩
                      refine And.intro (fun h23 => ?_) (fun h23 => ?_)
                      · have hF := cpos h23 hF
                        exact Or.inl ⟨rfl, congrArg (Option.map rName_E) hF⟩
                      · have hF := cneg h23 hF
                        exact ⟨(fu1, (IntKind.i64.wrap (i9 + 1))), Nat.lt_succ_self _, hF, ⟨rfl, rfl, trivial⟩, trivial⟩
                    · have hF := cneg h20 hF
                      exact ⟨(fu1, (IntKind.i64.wrap (i9 + 1))), Nat.lt_succ_self _, hF, ⟨rfl, rfl, trivial⟩, trivial⟩
                  · have hF := cneg h17 hF
                    exact ⟨(fu1, (IntKind.i64.wrap (i9 + 1))), Nat.lt_succ_self _, hF, ⟨rfl, rfl, trivial⟩, trivial⟩
            · have hF := cneg h10 hF
              exact Or.inl ⟨rfl, congrArg (Option.map rName_E) hF⟩
abbrev rName_S (s : Str) : Option (Bool) := rName_F (s.length + 1) s
theorem rName_h {s : Str} {r : Bool} (h : rName_S s = some r) : Holds Tryz.prog Gw 29 [S s] (rName_E r) := rName_Fh  h
abbrev rrun_E (y : Int) : CV := I y
def rrun_L1 (s : Str) : Nat → Int → Option (Int)
  | 0, _ => none
  | fu1 + 1, to6 => bif decide (to6 < (s.length : Int)) then (Option.bind (ix s to6) fun b8 => Option.bind (rdigit_S (b8.toNat : Int)) fun y10 => bif y10 then rrun_L1 s fu1 (IntKind.i64.wrap (to6 + 1)) else some (to6)) else some (to6)
def rrun_F (N : Nat) (s : Str) (from_ : Int) : Option (Int) := Option.bind (ix s from_) fun b1 => Option.bind (rdigit_S (b1.toNat : Int)) fun y3 => bif (!y3) then some ((IntKind.i64.wrap (from_ + 1))) else rrun_L1 s N from_
set_option linter.unusedVariables false in
theorem rrun_Fh {N : Nat} {s : Str} {from_ : Int} {r : Int} (hF : rrun_F N s from_ = some r) : Holds Tryz.prog Gw 61 [S s, I from_] (rrun_E r) := by
  refine holds_of_wq tabOk mixed Tryz.func61 (by decide) rfl (Nat.le_of_ble_eq_true rfl) ?_
  refine obind hF fun b1 h2 hF => ?_
  refine ⟨ix_nn h2, _, ix_str h2, ?_⟩
  refine obind hF fun y3 h4 hF => ?_
  refine Or.inl ⟨_, rdigit_h h4, rfl, ?_⟩
  refine And.intro (fun h5 => ?_) (fun h5 => ?_)
  · have hF := cpos h5 hF
    exact Or.inl ⟨rfl, congrArg (Option.map rrun_E) hF⟩
  · have hF := cneg h5 hF
    refine join_no ?_
    refine loop_oq (fun p : Nat × Int => [(0, .c (S s)), (5, .c (I p.2))]) (fun _ => []) (fun p => rrun_L1 s p.1 p.2 = some r) (fun p => p.1) (N, from_) hF ⟨rfl, rfl, trivial⟩ trivial ?_
    rintro ⟨fu1, to6⟩ hF
    cases fu1 with
    | zero => exact nomatch hF
    | succ fu1 =>
      refine And.intro (fun h7 => ?_) (fun h7 => ?_)
      · have hF := cpos h7 hF
        refine obind hF fun b8 h9 hF => ?_
        refine ⟨ix_nn h9, _, ix_str h9, ?_⟩
        refine obind hF fun y10 h11 hF => ?_
        refine Or.inl ⟨_, rdigit_h h11, rfl, ?_⟩
        refine And.intro (fun h12 => ?_) (fun h12 => ?_)
        · have hF := cpos h12 hF
          exact ⟨(fu1, (IntKind.i64.wrap (to6 + 1))), Nat.lt_succ_self _, hF, ⟨rfl, rfl, trivial⟩, trivial⟩
        · have hF := cneg h12 hF
          exact Or.inl ⟨rfl, congrArg (Option.map rrun_E) hF⟩
      · have hF := cneg h7 hF
        exact Or.inl ⟨rfl, congrArg (Option.map rrun_E) hF⟩
abbrev rrun_S (s : Str) (from_ : Int) : Option (Int) := rrun_F (s.length + 1) s from_
theorem rrun_h {s : Str} {from_ : Int} {r : Int} (h : rrun_S s from_ = some r) : Holds Tryz.prog Gw 61 [S s, I from_] (rrun_E r) := rrun_Fh  h
abbrev rstrip_E (y : Str) : CV := S y
def rstrip_L1 : Nat → Str → Option (Str)
  | 0, _ => none
  | fu1 + 1, s1 => bif decide ((s1.length : Int) > 0) then (Option.bind (ix s1 0) fun b3 => bif ((b3.toNat : Int) == 48) then (Option.bind (slc s1 1 (s1.length : Int)) fun y6 => rstrip_L1 fu1 y6) else some (s1)) else some (s1)
def rstrip_F (N : Nat) (s : Str) : Option (Str) := rstrip_L1 N s
set_option linter.unusedVariables false in
theorem rstrip_Fh {N : Nat} {s : Str} {r : Str} (hF : rstrip_F N s = some r) : Holds Tryz.prog Gw 83 [S s] (rstrip_E r) := by
  refine holds_of_wq tabOk mixed Tryz.func83 (by decide) rfl (Nat.le_of_ble_eq_true rfl) ?_
  refine join_no ?_
  refine loop_oq (fun p : Nat × Str => [(0, .c (S p.2))]) (fun _ => []) (fun p => rstrip_L1 p.1 p.2 = some r) (fun p => p.1) (N, s) hF ⟨rfl, trivial⟩ trivial ?_
  rintro ⟨fu1, s1⟩ hF
  cases fu1 with
  | zero => exact nomatch hF
  | succ fu1 =>
    refine And.intro (fun h2 => ?_) (fun h2 => ?_)
    · have hF := cpos h2 hF
      refine obind hF fun b3 h4 hF => ?_
      refine ⟨ix_nn h4, _, ix_str h4, ?_⟩
      refine And.intro (fun h5 => ?_) (fun h5 => ?_)
      · have hF := cpos h5 hF
        refine obind hF fun y6 h7 hF => ?_
        refine Or.inr ⟨[], 0, _, _, _, _, rfl, rfl, eff_sslice_l tok9.u h7, rfl, ?_⟩
        exact ⟨(fu1, y6), Nat.lt_succ_self _, hF, ⟨rfl, trivial⟩, trivial⟩
      · have hF := cneg h5 hF
        exact Or.inl ⟨rfl, congrArg (Option.map rstrip_E) hF⟩
    · have hF := cneg h2 hF
      exact Or.inl ⟨rfl, congrArg (Option.map rstrip_E) hF⟩
abbrev rstrip_S (s : Str) : Option (Str) := rstrip_F (s.length + 1) s
theorem rstrip_h {s : Str} {r : Str} (h : rstrip_S s = some r) : Holds Tryz.prog Gw 83 [S s] (rstrip_E r) := rstrip_Fh  h
abbrev rorder_E (y : Int) : CV := I y
def rorder_F (a : Str) (b : Str) : Option (Int) := bif Op.bytesLess a b then some ((-1)) else (bif (!(Op.bytesLess a b || a == b)) then some (1) else some (0))
set_option linter.unusedVariables false in
theorem rorder_Fh {a : Str} {b : Str} {r : Int} (hF : rorder_F a b = some r) : Holds Tryz.prog Gw 63 [S a, S b] (rorder_E r) := by
  refine holds_of_wq tabOk mixed Tryz.func63 (by decide) rfl (Nat.le_of_ble_eq_true rfl) ?_
  refine And.intro (fun h1 => ?_) (fun h1 => ?_)
  · have hF := cpos h1 hF
    exact Or.inl ⟨rfl, congrArg (Option.map rorder_E) hF⟩
  · have hF := cneg h1 hF
    refine And.intro (fun h2 => ?_) (fun h2 => ?_)
    · have hF := cpos h2 hF
      exact Or.inl ⟨rfl, congrArg (Option.map rorder_E) hF⟩
    · have hF := cneg h2 hF
      exact Or.inl ⟨rfl, congrArg (Option.map rorder_E) hF⟩
abbrev rorder_S (a : Str) (b : Str) : Option (Int) := rorder_F a b
theorem rorder_h {a : Str} {b : Str} {r : Int} (h : rorder_S a b = some r) : Holds Tryz.prog Gw 63 [S a, S b] (rorder_E r) := rorder_Fh  h
abbrev rparts_E (y : Int) : CV := I y
def rparts_F (a : Str) (b : Str) : Option (Int) := Option.bind (ix a 0) fun b1 => Option.bind (rdigit_S (b1.toNat : Int)) fun y3 => bif y3 then (Option.bind (ix b 0) fun b6 => Option.bind (rdigit_S (b6.toNat : Int)) fun y8 => bif y8 then (Option.bind (rstrip_S a) fun y11 => Option.bind (rstrip_S b) fun y13 => bif ((y11.length : Int) != (y13.length : Int)) then (bif decide ((y11.length : Int) < (y13.length : Int)) then some ((-1)) else some (1)) else (Option.bind (rorder_S y11 y13) fun y17 => some (y17))) else (Option.bind (ix a 0) fun b19 => Option.bind (rdigit_S (b19.toNat : Int)) fun y21 => bif y21 then some ((-1)) else (Option.bind (ix b 0) fun b24 => Option.bind (rdigit_S (b24.toNat : Int)) fun y26 => bif y26 then some (1) else (Option.bind (rorder_S a b) fun y29 => some (y29))))) else (Option.bind (ix a 0) fun b31 => Option.bind (rdigit_S (b31.toNat : Int)) fun y33 => bif y33 then some ((-1)) else (Option.bind (ix b 0) fun b36 => Option.bind (rdigit_S (b36.toNat : Int)) fun y38 => bif y38 then some (1) else (Option.bind (rorder_S a b) fun y41 => some (y41))))
set_option linter.unusedVariables false in
theorem rparts_Fh {a : Str} {b : Str} {r : Int} (hF : rparts_F a b = some r) : Holds Tryz.prog Gw 62 [S a, S b] (rparts_E r) := by
  refine holds_of_wq tabOk mixed Tryz.func62 (by decide) rfl (Nat.le_of_ble_eq_true rfl) ?_
  refine obind hF fun b1 h2 hF => ?_
  refine ⟨ix_nn h2, _, ix_str h2, ?_⟩
  refine obind hF fun y3 h4 hF => ?_
  refine Or.inl ⟨_, rdigit_h h4, rfl, ?_⟩
  refine And.intro (fun h5 => ?_) (fun h5 => ?_)
  · have hF := cpos h5 hF
    refine obind hF fun b6 h7 hF => ?_
    refine ⟨ix_nn h7, _, ix_str h7, ?_⟩
    refine obind hF fun y8 h9 hF => ?_
    refine Or.inl ⟨_, rdigit_h h9, rfl, ?_⟩
    refine And.intro (fun h10 => ?_) (fun h10 => ?_)
    · have hF := cpos h10 hF
      refine obind hF fun y11 h12 hF => ?_
      refine Or.inl ⟨_, rstrip_h h12, rfl, ?_⟩
      refine obind hF fun y13 h14 hF => ?_
      refine Or.inl ⟨_, rstrip_h h14, rfl, ?_⟩
      refine And.intro (fun h15 => ?_) (fun h15 => ?_)
      · have hF := cpos h15 hF
        refine And.intro (fun h16 => ?_) (fun h16 => ?_)
        · have hF := cpos h16 hF
          exact Or.inl ⟨rfl, congrArg (Option.map rparts_E) hF⟩
        · have hF := cneg h16 hF
          exact Or.inl ⟨rfl, congrArg (Option.map rparts_E) hF⟩
      · have hF := cneg h15 hF
        refine obind hF fun y17 h18 hF => ?_
        refine Or.inl ⟨_, rorder_h h18, rfl, ?_⟩
        exact Or.inl ⟨rfl, congrArg (Option.map rparts_E) hF⟩
    · have hF := cneg h10 hF
      refine obind hF fun b19 h20 hF => ?_
      refine ⟨ix_nn h20, _, ix_str h20, ?_⟩
      refine obind hF fun y21 h22 hF => ?_
      refine Or.inl ⟨_, rdigit_h h22, rfl, ?_⟩
      refine And.intro (fun h23 => ?_) (fun h23 => ?_)
      · have hF := cpos h23 hF
        exact Or.inl ⟨rfl, congrArg (Option.map rparts_E) hF⟩
      · have hF := cneg h23 hF
        refine obind hF fun b24 h25 hF => ?_
        refine ⟨ix_nn h25, _, ix_str h25, ?_⟩
        refine obind hF fun y26 h27 hF => ?_
        refine Or.inl ⟨_, rdigit_h h27, rfl, ?_⟩
        refine And.intro (fun h28 => ?_) (fun h28 => ?_)
        · have hF := cpos h28 hF
          exact Or.inl ⟨rfl, congrArg (Option.map rparts_E) hF⟩
        · have hF := cneg h28 hF
          refine obind hF fun y29 h30 hF => ?_
          refine Or.inl ⟨_, rorder_h h30, rfl, ?_⟩
          exact Or.inl ⟨rfl, congrArg (Option.map rparts_E) hF⟩
  · have hF := cneg h5 hF
    refine obind hF fun b31 h32 hF => ?_
    refine ⟨ix_nn h32, _, ix_str h32, ?_⟩
    refine obind hF fun y33 h34 hF => ?_
    refine Or.inl ⟨_, rdigit_h h34, rfl, ?_⟩
    refine And.intro (fun h35 => ?_) (fun h35 => ?_)
    · have hF := cpos h35 hF
      exact Or.inl ⟨rfl, congrArg (Option.map rparts_E) hF⟩
    · have hF := cneg h35 hF
      refine obind hF fun b36 h37 hF => ?_
      refine ⟨ix_nn h37, _, ix_str h37, ?_⟩
      refine obind hF fun y38 h39 hF => ?_
      refine Or.inl ⟨_, rdigit_h h39, rfl, ?_⟩
      refine And.intro (fun h40 => ?_) (fun h40 => ?_)
      · have hF := cpos h40 hF
        exact Or.inl ⟨rfl, congrArg (Option.map rparts_E) hF⟩
      · have hF := cneg h40 hF
        refine obind hF fun y41 h42 hF => ?_
        refine Or.inl ⟨_, rorder_h h42, rfl, ?_⟩
        exact Or.inl ⟨rfl, congrArg (Option.map rparts_E) hF⟩
abbrev rparts_S (a : Str) (b : Str) : Option (Int) := rparts_F a b
theorem rparts_h {a : Str} {b : Str} {r : Int} (h : rparts_S a b = some r) : Holds Tryz.prog Gw 62 [S a, S b] (rparts_E r) := rparts_Fh  h
abbrev rNatural_E (y : Int) : CV := I y
def rNatural_L1 (a : Str) (b : Str) : Nat → Int → Int → Option (Int)
  | 0, _, _ => none
  | fu1 + 1, i1, k2 => bif decide (i1 < (a.length : Int)) then (bif decide (k2 < (b.length : Int)) then (Option.bind (rrun_S a i1) fun y5 => Option.bind (rrun_S b k2) fun y7 => Option.bind (slc a i1 y5) fun y9 => Option.bind (slc b k2 y7) fun y11 => Option.bind (rparts_S y9 y11) fun y13 => bif (y13 != 0) then some (y13) else rNatural_L1 a b fu1 y5 y7) else (bif decide (i1 < (a.length : Int)) then some (1) else (bif decide (k2 < (b.length : Int)) then some ((-1)) else (Option.bind (rorder_S a b) fun y18 => some (y18))))) else (bif decide (i1 < (a.length : Int)) then some (1) else (bif decide (k2 < (b.length : Int)) then some ((-1)) else (Option.bind (rorder_S a b) fun y22 => some (y22))))
def rNatural_F (N : Nat) (a : Str) (b : Str) : Option (Int) := rNatural_L1 a b N 0 0
set_option linter.unusedVariables false in
theorem rNatural_Fh {N : Nat} {a : Str} {b : Str} {r : Int} (hF : rNatural_F N a b = some r) : Holds Tryz.prog Gw 31 [S a, S b] (rNatural_E r) := by
  refine holds_of_wq tabOk mixed Tryz.func31 (by decide) rfl (Nat.le_of_ble_eq_true rfl) ?_
  refine join_no ?_
  refine loop_oq (fun p : Nat × Int × Int => [(0, .c (S a)), (1, .c (S b)), (5, .c (I p.2.1)), (6, .c (I p.2.2))]) (fun _ => []) (fun p => rNatural_L1 a b p.1 p.2.1 p.2.2 = some r) (fun p => p.1) (N, 0, 0) hF ⟨rfl, rfl, rfl, rfl, trivial⟩ trivial ?_
  rintro ⟨fu1, i1, k2⟩ hF
  cases fu1 with
  | zero => exact nomatch hF
  | succ fu1 =>
    refine And.intro (fun h3 => ?_) (fun h3 => ?_)
    · have hF := cpos h3 hF
      refine And.intro (fun h4 => ?_) (fun h4 => ?_)
      · have hF := cpos h4 hF
        refine obind hF fun y5 h6 hF => ?_
        refine Or.inl ⟨_, rrun_h h6, rfl, ?_⟩
        refine obind hF fun y7 h8 hF => ?_
        refine Or.inl ⟨_, rrun_h h8, rfl, ?_⟩
        refine obind hF fun y9 h10 hF => ?_
        refine Or.inr ⟨[], 0, _, _, _, _, rfl, rfl, eff_sslice_lh tok9.u h10, rfl, ?_⟩
        refine obind hF fun y11 h12 hF => ?_
        refine Or.inr ⟨[], 0, _, _, _, _, rfl, rfl, eff_sslice_lh tok9.u h12, rfl, ?_⟩
        refine obind hF fun y13 h14 hF => ?_
        refine Or.inl ⟨_, rparts_h h14, rfl, ?_⟩
        refine And.intro (by kernel_rfl) ?_
        refine And.intro (fun h15 => ?_) (fun h15 => ?_)
        · have hF := cpos h15 hF
          exact Or.inl ⟨rfl, congrArg (Option.map rNatural_E) hF⟩
        · have hF := cneg h15 hF
          exact ⟨(fu1, y5, y7), Nat.lt_succ_self _, hF, ⟨rfl, rfl, rfl, rfl, trivial⟩, trivial⟩
      · have hF := cneg h4 hF
        refine And.intro (fun h16 => ?_) (fun h16 => ?_)
        · have hF := cpos h16 hF
          exact Or.inl ⟨rfl, congrArg (Option.map rNatural_E) hF⟩
        · have hF := cneg h16 hF
          refine And.intro (fun h17 => ?_) (fun h17 => ?_)
          · have hF := cpos h17 hF
            exact Or.inl ⟨rfl, congrArg (Option.map rNatural_E) hF⟩
          · have hF := cneg h17 hF
            refine obind hF fun y18 h19 hF => ?_
            refine Or.inl ⟨_, rorder_h h19, rfl, ?_⟩
            exact Or.inl ⟨rfl, congrArg (Option.map rNatural_E) hF⟩
    · have hF := cneg h3 hF
      refine And.intro (fun h20 => ?_) (fun h20 => ?_)
      · have hF := cpos h20 hF
        exact Or.inl ⟨rfl, congrArg (Option.map rNatural_E) hF⟩
      · have hF := cneg h20 hF
        refine And.intro (fun h21 => ?_) (fun h21 => ?_)
        · have hF := cpos h21 hF
          exact Or.inl ⟨rfl, congrArg (Option.map rNatural_E) hF⟩
        · have hF := cneg h21 hF
          refine obind hF fun y22 h23 hF => ?_
          refine Or.inl ⟨_, rorder_h h23, rfl, ?_⟩
          exact Or.inl ⟨rfl, congrArg (Option.map rNatural_E) hF⟩
abbrev rNatural_S (a : Str) (b : Str) : Option (Int) := rNatural_F (a.length + 1) a b
theorem rNatural_h {a : Str} {b : Str} {r : Int} (h : rNatural_S a b = some r) : Holds Tryz.prog Gw 31 [S a, S b] (rNatural_E r) := rNatural_Fh  h
abbrev rSameInts_E (y : Bool) : CV := B y
def rSameInts_L1 (a : List Int) (b : List Int) : Nat → Int → Option (Bool)
  | 0, _ => none
  | fu1 + 1, i2 => bif decide (i2 < ((a.map cInt).length : Int)) then (Option.bind (ix a i2) fun x4 => Option.bind (ix b i2) fun x6 => bif (x4 != x6) then some (false) else rSameInts_L1 a b fu1 (IntKind.i64.wrap (i2 + 1))) else some (true)
def rSameInts_F (N : Nat) (a : List Int) (b : List Int) : Option (Bool) := bif (((a.map cInt).length : Int) != ((b.map cInt).length : Int)) then some (false) else rSameInts_L1 a b N 0
set_option linter.unusedVariables false in
theorem rSameInts_Fh {N : Nat} {a : List Int} {b : List Int} {r : Bool} (hF : rSameInts_F N a b = some r) : Holds Tryz.prog Gw 25 [.sl 1 (a.map cInt), .sl 1 (b.map cInt)] (rSameInts_E r) := by
  refine holds_of_wq tabOk mixed Tryz.func25 (by decide) rfl (Nat.le_of_ble_eq_true rfl) ?_
  refine And.intro (fun h1 => ?_) (fun h1 => ?_)
  · have hF := cpos h1 hF
    exact Or.inl ⟨rfl, congrArg (Option.map rSameInts_E) hF⟩
  · have hF := cneg h1 hF
    refine loop_oq (fun p : Nat × Int => [(0, .c (.sl 1 (a.map cInt))), (1, .c (.sl 1 (b.map cInt))), (5, .c (I p.2))]) (fun _ => []) (fun p => rSameInts_L1 a b p.1 p.2 = some r) (fun p => p.1) (N, 0) hF ⟨rfl, rfl, rfl, trivial⟩ trivial ?_
    rintro ⟨fu1, i2⟩ hF
    cases fu1 with
    | zero => exact nomatch hF
    | succ fu1 =>
      refine And.intro (fun h3 => ?_) (fun h3 => ?_)
      · have hF := cpos h3 hF
        refine join_no ?_
        refine obind hF fun x4 h5 hF => ?_
        refine ⟨ix_nn h5, .inl rfl, _, ix_map cInt h5, ?_⟩
        refine obind hF fun x6 h7 hF => ?_
        refine ⟨ix_nn h7, .inl rfl, _, ix_map cInt h7, ?_⟩
        refine And.intro (by kernel_rfl) ?_
        refine And.intro (fun h8 => ?_) (fun h8 => ?_)
        · have hF := cpos h8 hF
          exact Or.inl ⟨rfl, congrArg (Option.map rSameInts_E) hF⟩
        · have hF := cneg h8 hF
          exact ⟨(fu1, (IntKind.i64.wrap (i2 + 1))), Nat.lt_succ_self _, hF, ⟨rfl, rfl, rfl, trivial⟩, trivial⟩
      · have hF := cneg h3 hF
        exact Or.inl ⟨rfl, congrArg (Option.map rSameInts_E) hF⟩
abbrev rSameInts_S (a : List Int) (b : List Int) : Option (Bool) := rSameInts_F (a.length + 1) a b
theorem rSameInts_h {a : List Int} {b : List Int} {r : Bool} (h : rSameInts_S a b = some r) : Holds Tryz.prog Gw 25 [.sl 1 (a.map cInt), .sl 1 (b.map cInt)] (rSameInts_E r) := rSameInts_Fh  h
abbrev rSameStrings_E (y : Bool) : CV := B y
def rSameStrings_L1 (a : List Str) (b : List Str) : Nat → Int → Option (Bool)
  | 0, _ => none
  | fu1 + 1, i2 => bif decide (i2 < ((a.map cStr).length : Int)) then (Option.bind (ix a i2) fun x4 => Option.bind (ix b i2) fun x6 => bif (!(x4 == x6)) then some (false) else rSameStrings_L1 a b fu1 (IntKind.i64.wrap (i2 + 1))) else some (true)
def rSameStrings_F (N : Nat) (a : List Str) (b : List Str) : Option (Bool) := bif (((a.map cStr).length : Int) != ((b.map cStr).length : Int)) then some (false) else rSameStrings_L1 a b N 0
set_option linter.unusedVariables false in
theorem rSameStrings_Fh {N : Nat} {a : List Str} {b : List Str} {r : Bool} (hF : rSameStrings_F N a b = some r) : Holds Tryz.prog Gw 32 [.sl 1 (a.map cStr), .sl 1 (b.map cStr)] (rSameStrings_E r) := by
  refine holds_of_wq tabOk mixed Tryz.func32 (by decide) rfl (Nat.le_of_ble_eq_true rfl) ?_
  refine And.intro (fun h1 => ?_) (fun h1 => ?_)
  · have hF := cpos h1 hF
    exact Or.inl ⟨rfl, congrArg (Option.map rSameStrings_E) hF⟩
  · have hF := cneg h1 hF
    refine loop_oq (fun p : Nat × Int => [(0, .c (.sl 1 (a.map cStr))), (1, .c (.sl 1 (b.map cStr))), (5, .c (I p.2))]) (fun _ => []) (fun p => rSameStrings_L1 a b p.1 p.2 = some r) (fun p => p.1) (N, 0) hF ⟨rfl, rfl, rfl, trivial⟩ trivial ?_
    rintro ⟨fu1, i2⟩ hF
    cases fu1 with
    | zero => exact nomatch hF
    | succ fu1 =>
      refine And.intro (fun h3 => ?_) (fun h3 => ?_)
      · have hF := cpos h3 hF
        refine join_no ?_
        refine obind hF fun x4 h5 hF => ?_
        refine ⟨ix_nn h5, .inl rfl, _, ix_map cStr h5, ?_⟩
        refine obind hF fun x6 h7 hF => ?_
        refine ⟨ix_nn h7, .inl rfl, _, ix_map cStr h7, ?_⟩
        refine And.intro (by kernel_rfl) ?_
        refine And.intro (fun h8 => ?_) (fun h8 => ?_)
        · have hF := cpos h8 hF
          exact Or.inl ⟨rfl, congrArg (Option.map rSameStrings_E) hF⟩
        · have hF := cneg h8 hF
          exact ⟨(fu1, (IntKind.i64.wrap (i2 + 1))), Nat.lt_succ_self _, hF, ⟨rfl, rfl, rfl, trivial⟩, trivial⟩
      · have hF := cneg h3 hF
        exact Or.inl ⟨rfl, congrArg (Option.map rSameStrings_E) hF⟩
abbrev rSameStrings_S (a : List Str) (b : List Str) : Option (Bool) := rSameStrings_F (a.length + 1) a b
theorem rSameStrings_h {a : List Str} {b : List Str} {r : Bool} (h : rSameStrings_S a b = some r) : Holds Tryz.prog Gw 32 [.sl 1 (a.map cStr), .sl 1 (b.map cStr)] (rSameStrings_E r) := rSameStrings_Fh  h
abbrev rFew_E (y : Bool) : CV := B y
def rFew_L1 (l : List Str) : Nat → Int → Option (Bool)
  | 0, _ => none
  | fu1 + 1, i4 => bif decide (i4 < ((l.map cStr).length : Int)) then (Option.bind (ix l i4) fun x6 => bif decide ((x6.length : Int) > 100) then some (false) else rFew_L1 l fu1 (IntKind.i64.wrap (i4 + 1))) else some (true)
def rFew_L2 (l : List Str) : Nat → Int → Option (Bool)
  | 0, _ => none
  | fu2 + 1, i10 => bif decide (i10 < ((l.map cStr).length : Int)) then (Option.bind (ix l i10) fun x12 => bif decide ((x12.length : Int) > 100) then some (false) else rFew_L2 l fu2 (IntKind.i64.wrap (i10 + 1))) else some (true)
def rFew_F (N : Nat) (l : List Str) : Option (Bool) := bif decide (((l.map cStr).length : Int) > 30) then (bif decide (((l.map cStr).length : Int) ≤ 1024) then some (false) else (bif decide (((l.map cStr).length : Int) > 1034) then some (false) else rFew_L1 l N 0)) else (bif decide (((l.map cStr).length : Int) > 1034) then some (false) else rFew_L2 l N 0)
set_option linter.unusedVariables false in
theorem rFew_Fh {N : Nat} {l : List Str} {r : Bool} (hF : rFew_F N l = some r) : Holds Tryz.prog Gw 12 [.sl 1 (l.map cStr)] (rFew_E r) := by
  refine holds_of_wq tabOk mixed Tryz.func12 (by decide) rfl (Nat.le_of_ble_eq_true rfl) ?_
  refine And.intro (fun h1 => ?_) (fun h1 => ?_)
  · have hF := cpos h1 hF
    refine And.intro (fun h2 => ?_) (fun h2 => ?_)
    · have hF := cpos h2 hF
      exact Or.inl ⟨rfl, congrArg (Option.map rFew_E) hF⟩
    · have hF := cneg h2 hF
      refine And.intro (fun h3 => ?_) (fun h3 => ?_)
      · have hF := cpos h3 hF
        exact Or.inl ⟨rfl, congrArg (Option.map rFew_E) hF⟩
      · have hF := cneg h3 hF
        refine loop_oq (fun p : Nat × Int => [(0, .c (.sl 1 (l.map cStr))), (3, .c (I p.2))]) (fun _ => []) (fun p => rFew_L1 l p.1 p.2 = some r) (fun p => p.1) (N, 0) hF ⟨rfl, rfl, trivial⟩ trivial ?_
        rintro ⟨fu1, i4⟩ hF
        cases fu1 with
        | zero => exact nomatch hF
        | succ fu1 =>
          refine And.intro (fun h5 => ?_) (fun h5 => ?_)
          · have hF := cpos h5 hF
            refine join_no ?_
            refine obind hF fun x6 h7 hF => ?_
            refine ⟨ix_nn h7, .inl rfl, _, ix_map cStr h7, ?_⟩
            refine And.intro (fun h8 => ?_) (fun h8 => ?_)
            · have hF := cpos h8 hF
              exact Or.inl ⟨rfl, congrArg (Option.map rFew_E) hF⟩
            · have hF := cneg h8 hF
              exact ⟨(fu1, (IntKind.i64.wrap (i4 + 1))), Nat.lt_succ_self _, hF, ⟨rfl, rfl, trivial⟩, trivial⟩
          · have hF := cneg h5 hF
            exact Or.inl ⟨rfl, congrArg (Option.map rFew_E) hF⟩
  · have hF := cneg h1 hF
    refine And.intro (fun h9 => ?_) (fun h9 => ?_)
    · have hF := cpos h9 hF
      exact Or.inl ⟨rfl, congrArg (Option.map rFew_E) hF⟩
    · have hF := cneg h9 hF
      refine loop_oq (fun p : Nat × Int => [(0, .c (.sl 1 (l.map cStr))), (3, .c (I p.2))]) (fun _ => []) (fun p => rFew_L2 l p.1 p.2 = some r) (fun p => p.1) (N, 0) hF ⟨rfl, rfl, trivial⟩ trivial ?_
      rintro ⟨fu2, i10⟩ hF
      cases fu2 with
      | zero => exact nomatch hF
      | succ fu2 =>
        refine And.intro (fun h11 => ?_) (fun h11 => ?_)
        · have hF := cpos h11 hF
          refine join_no ?_
          refine obind hF fun x12 h13 hF => ?_
          refine ⟨ix_nn h13, .inl rfl, _, ix_map cStr h13, ?_⟩
          refine And.intro (fun h14 => ?_) (fun h14 => ?_)
          · have hF := cpos h14 hF
            exact Or.inl ⟨rfl, congrArg (Option.map rFew_E) hF⟩
          · have hF := cneg h14 hF
            exact ⟨(fu2, (IntKind.i64.wrap (i10 + 1))), Nat.lt_succ_self _, hF, ⟨rfl, rfl, trivial⟩, trivial⟩
        · have hF := cneg h11 hF
          exact Or.inl ⟨rfl, congrArg (Option.map rFew_E) hF⟩
abbrev rFew_S (l : List Str) : Option (Bool) := rFew_F (l.length + 1) l
theorem rFew_h {l : List Str} {r : Bool} (h : rFew_S l = some r) : Holds Tryz.prog Gw 12 [.sl 1 (l.map cStr)] (rFew_E r) := rFew_Fh  h
end Go.Proofs.YtihjmnhamaicpaaGreatDoor
