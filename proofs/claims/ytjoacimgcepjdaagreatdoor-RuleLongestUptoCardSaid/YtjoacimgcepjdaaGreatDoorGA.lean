/- Functions of the program as functions of Lean, each with its contract (printed by a program). -/
import Derived.Test.YtjoacimgcepjdaaGreatDoorLibL
namespace Go.Proofs.YtjoacimgcepjdaaGreatDoor
open Go Go.Abs
set_option maxRecDepth 10000
set_option maxHeartbeats 400000
abbrev slIndexI_E (y : Int) : CV := I y
def slIndexI_L1 (s : List Int) (v : Int) : Nat → Int → Option (Int)
  | 0, _ => none
  | fu1 + 1, v1 => bif decide (v1 < ((s.map cInt).length : Int)) then (Option.bind (ix s v1) fun x3 => bif (v == x3) then some (v1) else slIndexI_L1 s v fu1 (IntKind.i64.wrap (v1 + 1))) else some ((-1))
def slIndexI_F (N : Nat) (s : List Int) (v : Int) : Option (Int) := slIndexI_L1 s v N 0
set_option linter.unusedVariables false in
theorem slIndexI_Fh {N : Nat} {s : List Int} {v : Int} {r : Int} (hF : slIndexI_F N s v = some r) : Holds Tryz.prog Gw 45 [.sl 1 (s.map cInt), I v] (slIndexI_E r) := by
  refine holds_of_wq tabOk mixed Tryz.func45 (by decide) rfl (Nat.le_of_ble_eq_true rfl) ?_
  refine loop_oq (fun p : Nat × Int => [(0, .c (.sl 1 (s.map cInt))), (1, .c (I v)), (7, .c (I ((s.map cInt).length : Int))), (8, .c (I p.2))]) (fun _ => []) (fun p => slIndexI_L1 s v p.1 p.2 = some r) (fun p => p.1) (N, 0) hF ⟨rfl, rfl, rfl, rfl, trivial⟩ trivial ?_
  rintro ⟨fu1, v1⟩ hF
  cases fu1 with
  | zero => exact nomatch hF
  | succ fu1 =>
    refine join_no ?_
    refine And.intro (fun h2 => ?_) (fun h2 => ?_)
    · have hF := cpos h2 hF
      refine join_no ?_
      refine obind hF fun x3 h4 hF => ?_
      refine ⟨ix_nn h4, .inl rfl, _, ix_map cInt h4, ?_⟩
      refine And.intro (fun h5 => ?_) (fun h5 => ?_)
      · have hF := cpos h5 hF
        exact Or.inl ⟨rfl, congrArg (Option.map slIndexI_E) hF⟩
      · have hF := cneg h5 hF
        exact ⟨(fu1, (IntKind.i64.wrap (v1 + 1))), Nat.lt_succ_self _, hF, ⟨rfl, rfl, rfl, rfl, trivial⟩, trivial⟩
    · have hF := cneg h2 hF
      exact Or.inl ⟨rfl, congrArg (Option.map slIndexI_E) hF⟩
abbrev slIndexI_S (s : List Int) (v : Int) : Option (Int) := slIndexI_F (s.length + 1) s v
theorem slIndexI_h {s : List Int} {v : Int} {r : Int} (h : slIndexI_S s v = some r) : Holds Tryz.prog Gw 45 [.sl 1 (s.map cInt), I v] (slIndexI_E r) := slIndexI_Fh  h
abbrev slContainsI_E (y : Bool) : CV := B y
def slContainsI_F (s : List Int) (v : Int) : Option (Bool) := Option.bind (slIndexI_S s v) fun y1 => some (decide (y1 ≥ 0))
set_option linter.unusedVariables false in
theorem slContainsI_Fh {s : List Int} {v : Int} {r : Bool} (hF : slContainsI_F s v = some r) : Holds Tryz.prog Gw 21 [.sl 1 (s.map cInt), I v] (slContainsI_E r) := by
  refine holds_of_wq tabOk mixed Tryz.func21 (by decide) rfl (Nat.le_of_ble_eq_true rfl) ?_
  refine obind hF fun y1 h2 hF => ?_
  refine Or.inl ⟨_, slIndexI_h h2, rfl, ?_⟩
  exact Or.inl ⟨rfl, congrArg (Option.map slContainsI_E) hF⟩
abbrev slContainsI_S (s : List Int) (v : Int) : Option (Bool) := slContainsI_F s v
theorem slContainsI_h {s : List Int} {v : Int} {r : Bool} (h : slContainsI_S s v = some r) : Holds Tryz.prog Gw 21 [.sl 1 (s.map cInt), I v] (slContainsI_E r) := slContainsI_Fh  h
abbrev slEqual_E (y : Bool) : CV := B y
def slEqual_L1 (s1 : List Int) (s2 : List Int) : Nat → Int → Option (Bool)
  | 0, _ => none
  | fu1 + 1, v2 => bif decide (v2 < ((s1.map cInt).length : Int)) then (Option.bind (ix s1 v2) fun x4 => Option.bind (ix s2 v2) fun x6 => bif (x4 != x6) then some (false) else slEqual_L1 s1 s2 fu1 (IntKind.i64.wrap (v2 + 1))) else some (true)
def slEqual_F (N : Nat) (s1 : List Int) (s2 : List Int) : Option (Bool) := bif (((s1.map cInt).length : Int) != ((s2.map cInt).length : Int)) then some (false) else slEqual_L1 s1 s2 N 0
set_option linter.unusedVariables false in
theorem slEqual_Fh {N : Nat} {s1 : List Int} {s2 : List Int} {r : Bool} (hF : slEqual_F N s1 s2 = some r) : Holds Tryz.prog Gw 28 [.sl 1 (s1.map cInt), .sl 1 (s2.map cInt)] (slEqual_E r) := by
  refine holds_of_wq tabOk mixed Tryz.func28 (by decide) rfl (Nat.le_of_ble_eq_true rfl) ?_
  refine And.intro (fun h1 => ?_) (fun h1 => ?_)
  · have hF := cpos h1 hF
    exact Or.inl ⟨rfl, congrArg (Option.map slEqual_E) hF⟩
  · have hF := cneg h1 hF
    refine loop_oq (fun p : Nat × Int => [(0, .c (.sl 1 (s1.map cInt))), (1, .c (.sl 1 (s2.map cInt))), (12, .c (I ((s1.map cInt).length : Int))), (13, .c (I p.2))]) (fun _ => []) (fun p => slEqual_L1 s1 s2 p.1 p.2 = some r) (fun p => p.1) (N, 0) hF ⟨rfl, rfl, rfl, rfl, trivial⟩ trivial ?_
    rintro ⟨fu1, v2⟩ hF
    cases fu1 with
    | zero => exact nomatch hF
    | succ fu1 =>
      refine join_no ?_
      refine And.intro (fun h3 => ?_) (fun h3 => ?_)
      · have hF := cpos h3 hF
        refine join_no ?_
        refine obind hF fun x4 h5 hF => ?_
        refine ⟨ix_nn h5, .inl rfl, _, ix_map cInt h5, ?_⟩
        refine obind hF fun x6 h7 hF => ?_
        refine ⟨ix_nn h7, .inl rfl, _, ix_map cInt h7, ?_⟩
        refine And.intro (by kernel_rfl) ?_
        refine And.intro (fun h8 => ?_) (fun h8 => ?_)
        · have hF := cpos h8 hF
          exact Or.inl ⟨rfl, congrArg (Option.map slEqual_E) hF⟩
        · have hF := cneg h8 hF
          exact ⟨(fu1, (IntKind.i64.wrap (v2 + 1))), Nat.lt_succ_self _, hF, ⟨rfl, rfl, rfl, rfl, trivial⟩, trivial⟩
      · have hF := cneg h3 hF
        exact Or.inl ⟨rfl, congrArg (Option.map slEqual_E) hF⟩
abbrev slEqual_S (s1 : List Int) (s2 : List Int) : Option (Bool) := slEqual_F (s1.length + 1) s1 s2
theorem slEqual_h {s1 : List Int} {s2 : List Int} {r : Bool} (h : slEqual_S s1 s2 = some r) : Holds Tryz.prog Gw 28 [.sl 1 (s1.map cInt), .sl 1 (s2.map cInt)] (slEqual_E r) := slEqual_Fh  h
abbrev pParse_E (y : List Int × Int) : CV := .tup [.sl 1 (y.1.map cInt), I y.2]
def pParse_L1 (y1 : List Str) : Nat → List Int → Int → Option (List Int × Int)
  | 0, _, _ => none
  | fu1 + 1, out4, v5 => bif decide (v5 < ((y1.map cStr).length : Int)) then (Option.bind (ix y1 v5) fun x7 => Option.bind (atoi_S x7) fun y9 => bif y9.2 then some (([] : List Int), 3) else (bif decide (y9.1 < 1) then some (([] : List Int), 3) else (bif decide (y9.1 > 999) then some (([] : List Int), 3) else (Option.bind (itoa_S y9.1) fun y14 => bif (!(y14 == x7)) then some (([] : List Int), 3) else (bif decide (out4.length + ([y9.1] : List Int).length ≤ 4294967296) then pParse_L1 y1 fu1 (out4 ++ ([y9.1] : List Int)) (IntKind.i64.wrap (v5 + 1)) else none))))) else some (out4, 0)
def pParse_F (N : Nat) (code : Str) : Option (List Int × Int) := Option.bind (sSplit_S code ([46] : Str)) fun y1 => bif decide (((y1.map cStr).length : Int) > 6) then some (([] : List Int), 3) else pParse_L1 y1 N ([] : List Int) 0
set_option linter.unusedVariables false in
theorem pParse_Fh {N : Nat} {code : Str} {r : List Int × Int} (hF : pParse_F N code = some r) : Holds Tryz.prog Gw 43 [S code] (pParse_E r) := by
  refine holds_of_wq tabOk mixed Tryz.func43 (by decide) rfl (Nat.le_of_ble_eq_true rfl) ?_
  refine Or.inl ?_
  refine obind hF fun y1 h2 hF => ?_
  refine Or.inl ⟨_, sSplit_h h2, rfl, ?_⟩
  refine And.intro (fun h3 => ?_) (fun h3 => ?_)
  · have hF := cpos h3 hF
    refine Or.inl ?_
    exact Or.inl ⟨rfl, congrArg (Option.map pParse_E) hF⟩
  · have hF := cneg h3 hF
    refine Or.inl ?_
    refine loop_oq (fun p : Nat × List Int × Int => [(5, .ap 5 0 1 (p.2.1.map cInt)), (15, .c (.sl 1 (y1.map cStr))), (16, .c (I ((y1.map cStr).length : Int))), (17, .c (I p.2.2))]) (fun p : Nat × List Int × Int => [(5, .tok 3 1)]) (fun p => pParse_L1 y1 p.1 p.2.1 p.2.2 = some r) (fun p => p.1) (N, ([] : List Int), 0) hF ⟨rfl, rfl, rfl, rfl, trivial⟩ ⟨rfl, trivial⟩ ?_
    rintro ⟨fu1, out4, v5⟩ hF
    cases fu1 with
    | zero => exact nomatch hF
    | succ fu1 =>
      refine join_no ?_
      refine And.intro (fun h6 => ?_) (fun h6 => ?_)
      · have hF := cpos h6 hF
        refine join_no ?_
        refine obind hF fun x7 h8 hF => ?_
        refine ⟨ix_nn h8, .inl rfl, _, ix_map cStr h8, ?_⟩
        refine obind hF fun y9 h10 hF => ?_
        refine Or.inl ⟨_, atoi_h h10, rfl, ?_⟩
        refine Or.inr ⟨[], 0, _, _, _, _, rfl, rfl, eff_errn errTy, rfl, ?_⟩
        refine And.intro (fun h11 => ?_) (fun h11 => ?_)
        · have hF := cpos h11 hF
          refine Or.inl ?_
          exact Or.inl ⟨rfl, congrArg (Option.map pParse_E) hF⟩
        · have hF := cneg h11 hF
          refine And.intro (fun h12 => ?_) (fun h12 => ?_)
          · have hF := cpos h12 hF
            refine Or.inl ?_
            exact Or.inl ⟨rfl, congrArg (Option.map pParse_E) hF⟩
          · have hF := cneg h12 hF
            refine And.intro (fun h13 => ?_) (fun h13 => ?_)
            · have hF := cpos h13 hF
              refine Or.inl ?_
              exact Or.inl ⟨rfl, congrArg (Option.map pParse_E) hF⟩
            · have hF := cneg h13 hF
              refine obind hF fun y14 h15 hF => ?_
              refine Or.inl ⟨_, itoa_h h15, rfl, ?_⟩
              refine And.intro (fun h16 => ?_) (fun h16 => ?_)
              · have hF := cpos h16 hF
                refine Or.inl ?_
                exact Or.inl ⟨rfl, congrArg (Option.map pParse_E) hF⟩
              · have hF := cneg h16 hF
                refine Or.inl ?_
                refine gpos hF fun h17 hF => ?_
                refine Or.inl ⟨len_all rfl, app_le (f := cInt) h17, (out4 ++ ([y9.1] : List Int)).map cInt, map_app _ _ _, ?_⟩
                exact ⟨(fu1, (out4 ++ ([y9.1] : List Int)), (IntKind.i64.wrap (v5 + 1))), Nat.lt_succ_self _, hF, ⟨rfl, rfl, rfl, rfl, trivial⟩, ⟨rfl, trivial⟩⟩
      · have hF := cneg h6 hF
        exact Or.inl ⟨rfl, congrArg (Option.map pParse_E) hF⟩
abbrev pParse_S (code : Str) : Option (List Int × Int) := pParse_F 1000 code
theorem pParse_h {code : Str} {r : List Int × Int} (h : pParse_S code = some r) : Holds Tryz.prog Gw 43 [S code] (pParse_E r) := pParse_Fh  h
abbrev pboth_E (y : List Int × List Int × Bool) : CV := .tup [.sl 1 (y.1.map cInt), .sl 1 (y.2.1.map cInt), B y.2.2]
def pboth_F (a : Str) (b : Str) : Option (List Int × List Int × Bool) := Option.bind (pParse_S a) fun y1 => Option.bind (pParse_S b) fun y3 => bif (y1.2 == 0) then some (y1.1, y3.1, (y3.2 == 0)) else some (y1.1, y3.1, false)
set_option linter.unusedVariables false in
theorem pboth_Fh {a : Str} {b : Str} {r : List Int × List Int × Bool} (hF : pboth_F a b = some r) : Holds Tryz.prog Gw 44 [S a, S b] (pboth_E r) := by
  refine holds_of_wq tabOk mixed Tryz.func44 (by decide) rfl (Nat.le_of_ble_eq_true rfl) ?_
  refine Or.inl ?_
  refine Or.inl ?_
  refine obind hF fun y1 h2 hF => ?_
  refine Or.inl ⟨_, pParse_h h2, rfl, ?_⟩
  refine obind hF fun y3 h4 hF => ?_
  refine Or.inl ⟨_, pParse_h h4, rfl, ?_⟩
  refine And.intro (fun h5 => ?_) (fun h5 => ?_)
  · have hF := cpos h5 hF
    exact Or.inl ⟨rfl, congrArg (Option.map pboth_E) hF⟩
  · have hF := cneg h5 hF
    exact Or.inl ⟨rfl, congrArg (Option.map pboth_E) hF⟩
abbrev pboth_S (a : Str) (b : Str) : Option (List Int × List Int × Bool) := pboth_F a b
theorem pboth_h {a : Str} {b : Str} {r : List Int × List Int × Bool} (h : pboth_S a b = some r) : Holds Tryz.prog Gw 44 [S a, S b] (pboth_E r) := pboth_Fh  h
abbrev pWithin_E (y : Bool) : CV := B y
def pWithin_F (code : Str) (above : Str) : Option (Bool) := Option.bind (pboth_S code above) fun y1 => bif y1.2.2 then (bif decide (((y1.1.map cInt).length : Int) ≥ ((y1.2.1.map cInt).length : Int)) then (Option.bind (slc y1.1 0 ((y1.2.1.map cInt).length : Int)) fun y5 => Option.bind (slEqual_S y5 y1.2.1) fun y7 => some (y7)) else some (false)) else some (false)
set_option linter.unusedVariables false in
theorem pWithin_Fh {code : Str} {above : Str} {r : Bool} (hF : pWithin_F code above = some r) : Holds Tryz.prog Gw 20 [S code, S above] (pWithin_E r) := by
  refine holds_of_wq tabOk mixed Tryz.func20 (by decide) rfl (Nat.le_of_ble_eq_true rfl) ?_
  refine obind hF fun y1 h2 hF => ?_
  refine Or.inl ⟨_, pboth_h h2, rfl, ?_⟩
  refine And.intro (fun h3 => ?_) (fun h3 => ?_)
  · have hF := cpos h3 hF
    refine And.intro (fun h4 => ?_) (fun h4 => ?_)
    · have hF := cpos h4 hF
      refine obind hF fun y5 h6 hF => ?_
      refine Or.inr ⟨[], 0, _, _, _, _, rfl, rfl, eff_slice_h (cf := cInt) tok44.u tok3 h6, rfl, ?_⟩
      refine obind hF fun y7 h8 hF => ?_
      refine Or.inl ⟨_, slEqual_h h8, rfl, ?_⟩
      exact Or.inl ⟨rfl, congrArg (Option.map pWithin_E) hF⟩
    · have hF := cneg h4 hF
      exact Or.inl ⟨rfl, congrArg (Option.map pWithin_E) hF⟩
  · have hF := cneg h3 hF
    exact Or.inl ⟨rfl, congrArg (Option.map pWithin_E) hF⟩
abbrev pWithin_S (code : Str) (above : Str) : Option (Bool) := pWithin_F code above
theorem pWithin_h {code : Str} {above : Str} {r : Bool} (h : pWithin_S code above = some r) : Holds Tryz.prog Gw 20 [S code, S above] (pWithin_E r) := pWithin_Fh  h
abbrev pName_E (y : Bool) : CV := B y
def pName_L1 (s : Str) : Nat → Int → Option (Bool)
  | 0, _ => none
  | fu1 + 1, v9 => bif decide (v9 < (s.length : Int)) then (Option.bind (ix s v9) fun b11 => bif decide ((b11.toNat : Int) < 32) then some (false) else (Option.bind (ix s v9) fun b14 => bif decide ((b14.toNat : Int) > 126) then some (false) else pName_L1 s fu1 (IntKind.i64.wrap (v9 + 1)))) else some (true)
def pName_F (N : Nat) (s : Str) : Option (Bool) := bif decide ((s.length : Int) < 1) then some (false) else (bif decide ((s.length : Int) > 64) then some (false) else (Option.bind (sTrimSpace_S s) fun y3 => bif (!(y3 == s)) then some (false) else (Option.bind (sContains_S s ([32, 32] : Str)) fun y6 => bif y6 then some (false) else pName_L1 s N 0)))
set_option linter.unusedVariables false in
theorem pName_Fh {N : Nat} {s : Str} {r : Bool} (hF : pName_F N s = some r) : Holds Tryz.prog Gw 65 [S s] (pName_E r) := by
  refine holds_of_wq tabOk mixed Tryz.func65 (by decide) rfl (Nat.le_of_ble_eq_true rfl) ?_
  refine And.intro (fun h1 => ?_) (fun h1 => ?_)
  · have hF := cpos h1 hF
    exact Or.inl ⟨rfl, congrArg (Option.map pName_E) hF⟩
  · have hF := cneg h1 hF
    refine And.intro (fun h2 => ?_) (fun h2 => ?_)
    · have hF := cpos h2 hF
      exact Or.inl ⟨rfl, congrArg (Option.map pName_E) hF⟩
    · have hF := cneg h2 hF
      refine obind hF fun y3 h4 hF => ?_
      refine Or.inl ⟨_, sTrimSpace_h h4, rfl, ?_⟩
      refine And.intro (fun h5 => ?_) (fun h5 => ?_)
      · have hF := cpos h5 hF
        exact Or.inl ⟨rfl, congrArg (Option.map pName_E) hF⟩
      · have hF := cneg h5 hF
        refine obind hF fun y6 h7 hF => ?_
        refine Or.inl ⟨_, sContains_h h7, rfl, ?_⟩
        refine And.intro (fun h8 => ?_) (fun h8 => ?_)
        · have hF := cpos h8 hF
          exact Or.inl ⟨rfl, congrArg (Option.map pName_E) hF⟩
        · have hF := cneg h8 hF
          refine loop_oq (fun p : Nat × Int => [(0, .c (S s)), (23, .c (I (s.length : Int))), (24, .c (I p.2))]) (fun _ => []) (fun p => pName_L1 s p.1 p.2 = some r) (fun p => p.1) (N, 0) hF ⟨rfl, rfl, rfl, trivial⟩ trivial ?_
          rintro ⟨fu1, v9⟩ hF
          cases fu1 with
          | zero => exact nomatch hF
          | succ fu1 =>
            refine join_no ?_
            refine And.intro (fun h10 => ?_) (fun h10 => ?_)
            · have hF := cpos h10 hF
              refine join_no ?_
              refine Or.inl ?_
              refine obind hF fun b11 h12 hF => ?_
              refine ⟨ix_nn h12, _, ix_str h12, ?_⟩
              refine And.intro (fun h13 => ?_) (fun h13 => ?_)
              · have hF := cpos h13 hF
                exact Or.inl ⟨rfl, congrArg (Option.map pName_E) hF⟩
              · have hF := cneg h13 hF
                refine Or.inl ?_
                refine obind hF fun b14 h15 hF => ?_
                refine ⟨ix_nn h15, _, ix_str h15, ?_⟩
                refine And.intro (fun h16 => ?_) (fun h16 => ?_)
                · have hF := cpos h16 hF
                  exact Or.inl ⟨rfl, congrArg (Option.map pName_E) hF⟩
                · have hF := cneg h16 hF
                  exact ⟨(fu1, (IntKind.i64.wrap (v9 + 1))), Nat.lt_succ_self _, hF, ⟨rfl, rfl, rfl, trivial⟩, trivial⟩
            · have hF := cneg h10 hF
              exact Or.inl ⟨rfl, congrArg (Option.map pName_E) hF⟩
abbrev pName_S (s : Str) : Option (Bool) := pName_F (s.length + 1) s
theorem pName_h {s : Str} {r : Bool} (h : pName_S s = some r) : Holds Tryz.prog Gw 65 [S s] (pName_E r) := pName_Fh  h
abbrev rpart_E (y : Int × Bool) : CV := .tup [I y.1, B y.2]
def rpart_L1 (s : Str) : Nat → Int → Int → Option (Int × Bool)
  | 0, _, _ => none
  | fu1 + 1, n6, i7 => bif decide (i7 < (s.length : Int)) then (Option.bind (ix s i7) fun b9 => bif decide ((b9.toNat : Int) < 48) then some (0, false) else (Option.bind (ix s i7) fun b12 => bif decide ((b12.toNat : Int) > 57) then some (0, false) else (Option.bind (ix s i7) fun b15 => rpart_L1 s fu1 (IntKind.i64.wrap ((IntKind.i64.wrap (10 * n6)) + (IntKind.i64.wrap (IntKind.u8.wrap ((b15.toNat : Int) - 48))))) (IntKind.i64.wrap (i7 + 1))))) else some (n6, true)
def rpart_F (N : Nat) (s : Str) : Option (Int × Bool) := bif decide ((s.length : Int) < 1) then some (0, false) else (bif decide ((s.length : Int) > 3) then some (0, false) else (Option.bind (ix s 0) fun b3 => bif ((b3.toNat : Int) == 48) then some (0, false) else rpart_L1 s N 0 0))
set_option linter.unusedVariables false in
theorem rpart_Fh {N : Nat} {s : Str} {r : Int × Bool} (hF : rpart_F N s = some r) : Holds Tryz.prog Gw 81 [S s] (rpart_E r) := by
  refine holds_of_wq tabOk mixed Tryz.func81 (by decide) rfl (Nat.le_of_ble_eq_true rfl) ?_
  refine And.intro (fun h1 => ?_) (fun h1 => ?_)
  · have hF := cpos h1 hF
    exact Or.inl ⟨rfl, congrArg (Option.map rpart_E) hF⟩
  · have hF := cneg h1 hF
    refine And.intro (fun h2 => ?_) (fun h2 => ?_)
    · have hF := cpos h2 hF
      exact Or.inl ⟨rfl, congrArg (Option.map rpart_E) hF⟩
    · have hF := cneg h2 hF
      refine Or.inl ?_
      refine obind hF fun b3 h4 hF => ?_
      refine ⟨ix_nn h4, _, ix_str h4, ?_⟩
      refine And.intro (fun h5 => ?_) (fun h5 => ?_)
      · have hF := cpos h5 hF
        exact Or.inl ⟨rfl, congrArg (Option.map rpart_E) hF⟩
      · have hF := cneg h5 hF
        refine loop_oq (fun p : Nat × Int × Int => [(0, .c (S s)), (4, .c (I p.2.1)), (5, .c (I p.2.2))]) (fun _ => []) (fun p => rpart_L1 s p.1 p.2.1 p.2.2 = some r) (fun p => p.1) (N, 0, 0) hF ⟨rfl, rfl, rfl, trivial⟩ trivial ?_
        rintro ⟨fu1, n6, i7⟩ hF
        cases fu1 with
        | zero => exact nomatch hF
        | succ fu1 =>
          refine And.intro (fun h8 => ?_) (fun h8 => ?_)
          · have hF := cpos h8 hF
            refine join_no ?_
            refine Or.inl ?_
            refine obind hF fun b9 h10 hF => ?_
            refine ⟨ix_nn h10, _, ix_str h10, ?_⟩
            refine And.intro (fun h11 => ?_) (fun h11 => ?_)
            · have hF := cpos h11 hF
              exact Or.inl ⟨rfl, congrArg (Option.map rpart_E) hF⟩
            · have hF := cneg h11 hF
              refine Or.inl ?_
              refine obind hF fun b12 h13 hF => ?_
              refine ⟨ix_nn h13, _, ix_str h13, ?_⟩
              refine And.intro (fun h14 => ?_) (fun h14 => ?_)
              · have hF := cpos h14 hF
                exact Or.inl ⟨rfl, congrArg (Option.map rpart_E) hF⟩
              · have hF := cneg h14 hF
                refine Or.inl ?_
                refine obind hF fun b15 h16 hF => ?_
                refine ⟨ix_nn h16, _, ix_str h16, ?_⟩
                exact ⟨(fu1, (IntKind.i64.wrap ((IntKind.i64.wrap (10 * n6)) + (IntKind.i64.wrap (IntKind.u8.wrap ((b15.toNat : Int) - 48))))), (IntKind.i64.wrap (i7 + 1))), Nat.lt_succ_self _, hF, ⟨rfl, rfl, rfl, trivial⟩, trivial⟩
          · have hF := cneg h8 hF
            exact Or.inl ⟨rfl, congrArg (Option.map rpart_E) hF⟩
abbrev rpart_S (s : Str) : Option (Int × Bool) := rpart_F (s.length + 1) s
theorem rpart_h {s : Str} {r : Int × Bool} (h : rpart_S s = some r) : Holds Tryz.prog Gw 81 [S s] (rpart_E r) := rpart_Fh  h
abbrev rParse_E (y : List Int × Int) : CV := .tup [.sl 1 (y.1.map cInt), I y.2]
def rParse_L1 (code : Str) : Nat → List Int → Int → Int → Option (List Int × Int)
  | 0, _, _, _ => none
  | fu1 + 1, out1, v2, i3 => bif decide (i3 ≤ (code.length : Int)) then (bif (i3 == (code.length : Int)) then (Option.bind (slc code v2 i3) fun y6 => Option.bind (rpart_S y6) fun y8 => bif (!y8.2) then some (([] : List Int), 3) else (bif decide (out1.length + ([y8.1] : List Int).length ≤ 4294967296) then rParse_L1 code fu1 (out1 ++ ([y8.1] : List Int)) (IntKind.i64.wrap (i3 + 1)) (IntKind.i64.wrap (i3 + 1)) else none)) else (Option.bind (ix code i3) fun b12 => bif ((b12.toNat : Int) == 46) then (Option.bind (slc code v2 i3) fun y15 => Option.bind (rpart_S y15) fun y17 => bif (!y17.2) then some (([] : List Int), 3) else (bif decide (out1.length + ([y17.1] : List Int).length ≤ 4294967296) then rParse_L1 code fu1 (out1 ++ ([y17.1] : List Int)) (IntKind.i64.wrap (i3 + 1)) (IntKind.i64.wrap (i3 + 1)) else none)) else rParse_L1 code fu1 out1 v2 (IntKind.i64.wrap (i3 + 1)))) else (bif decide (((out1.map cInt).length : Int) > 6) then some (([] : List Int), 3) else some (out1, 0))
def rParse_F (N : Nat) (code : Str) : Option (List Int × Int) := rParse_L1 code N ([] : List Int) 0 0
set_option linter.unusedVariables false in
theorem rParse_Fh {N : Nat} {code : Str} {r : List Int × Int} (hF : rParse_F N code = some r) : Holds Tryz.prog Gw 51 [S code] (rParse_E r) := by
  refine holds_of_wq tabOk mixed Tryz.func51 (by decide) rfl (Nat.le_of_ble_eq_true rfl) ?_
  refine Or.inl ?_
  refine Or.inl ?_
  refine loop_oq (fun p : Nat × List Int × Int × Int => [(0, .c (S code)), (4, .ap 4 0 1 (p.2.1.map cInt)), (5, .c (I p.2.2.1)), (6, .c (I p.2.2.2))]) (fun p : Nat × List Int × Int × Int => [(4, .tok 3 1)]) (fun p => rParse_L1 code p.1 p.2.1 p.2.2.1 p.2.2.2 = some r) (fun p => p.1) (N, ([] : List Int), 0, 0) hF ⟨rfl, rfl, rfl, rfl, trivial⟩ ⟨rfl, trivial⟩ ?_
  rintro ⟨fu1, out1, v2, i3⟩ hF
  cases fu1 with
  | zero => exact nomatch hF
  | succ fu1 =>
    refine And.intro (fun h4 => ?_) (fun h4 => ?_)
    · have hF := cpos h4 hF
      refine join_no ?_
      refine And.intro (fun h5 => ?_) (fun h5 => ?_)
      · have hF := cpos h5 hF
        refine obind hF fun y6 h7 hF => ?_
        refine Or.inr ⟨[], 0, _, _, _, _, rfl, rfl, eff_sslice_lh tok9.u h7, rfl, ?_⟩
        refine obind hF fun y8 h9 hF => ?_
        refine Or.inl ⟨_, rpart_h h9, rfl, ?_⟩
        refine And.intro (fun h10 => ?_) (fun h10 => ?_)
        · have hF := cpos h10 hF
          refine Or.inl ?_
          exact Or.inl ⟨rfl, congrArg (Option.map rParse_E) hF⟩
        · have hF := cneg h10 hF
          refine Or.inl ?_
          refine gpos hF fun h11 hF => ?_
          refine Or.inl ⟨len_all rfl, app_le (f := cInt) h11, (out1 ++ ([y8.1] : List Int)).map cInt, map_app _ _ _, ?_⟩
          exact ⟨(fu1, (out1 ++ ([y8.1] : List Int)), (IntKind.i64.wrap (i3 + 1)), (IntKind.i64.wrap (i3 + 1))), Nat.lt_succ_self _, hF, ⟨rfl, rfl, rfl, rfl, trivial⟩, ⟨rfl, trivial⟩⟩
      · have hF := cneg h5 hF
        refine Or.inl ?_
        refine obind hF fun b12 h13 hF => ?_
        refine ⟨ix_nn h13, _, ix_str h13, ?_⟩
        refine And.intro (fun h14 => ?_) (fun h14 => ?_)
        · have hF := cpos h14 hF
          refine obind hF fun y15 h16 hF => ?_
          refine Or.inr ⟨[], 0, _, _, _, _, rfl, rfl, eff_sslice_lh tok9.u h16, rfl, ?_⟩
          refine obind hF fun y17 h18 hF => ?_
          refine Or.inl ⟨_, rpart_h h18, rfl, ?_⟩
          refine And.intro (fun h19 => ?_) (fun h19 => ?_)
          · have hF := cpos h19 hF
            refine Or.inl ?_
            exact Or.inl ⟨rfl, congrArg (Option.map rParse_E) hF⟩
          · have hF := cneg h19 hF
            refine Or.inl ?_
            refine gpos hF fun h20 hF => ?_
            refine Or.inl ⟨len_all rfl, app_le (f := cInt) h20, (out1 ++ ([y17.1] : List Int)).map cInt, map_app _ _ _, ?_⟩
            exact ⟨(fu1, (out1 ++ ([y17.1] : List Int)), (IntKind.i64.wrap (i3 + 1)), (IntKind.i64.wrap (i3 + 1))), Nat.lt_succ_self _, hF, ⟨rfl, rfl, rfl, rfl, trivial⟩, ⟨rfl, trivial⟩⟩
        · have hF := cneg h14 hF
          exact ⟨(fu1, out1, v2, (IntKind.i64.wrap (i3 + 1))), Nat.lt_succ_self _, hF, ⟨rfl, rfl, rfl, rfl, trivial⟩, ⟨rfl, trivial⟩⟩
    · have hF := cneg h4 hF
      refine And.intro (fun h21 => ?_) (fun h21 => ?_)
      · have hF := cpos h21 hF
        refine Or.inl ?_
        exact Or.inl ⟨rfl, congrArg (Option.map rParse_E) hF⟩
      · have hF := cneg h21 hF
        exact Or.inl ⟨rfl, congrArg (Option.map rParse_E) hF⟩
abbrev rParse_S (code : Str) : Option (List Int × Int) := rParse_F (code.length + 2) code
theorem rParse_h {code : Str} {r : List Int × Int} (h : rParse_S code = some r) : Holds Tryz.prog Gw 51 [S code] (rParse_E r) := rParse_Fh  h
abbrev rGood_E (y : Bool) : CV := B y
def rGood_F (code : Str) : Option (Bool) := Option.bind (rParse_S code) fun y1 => some ((y1.2 == 0))
set_option linter.unusedVariables false in
theorem rGood_Fh {code : Str} {r : Bool} (hF : rGood_F code = some r) : Holds Tryz.prog Gw 72 [S code] (rGood_E r) := by
  refine holds_of_wq tabOk mixed Tryz.func72 (by decide) rfl (Nat.le_of_ble_eq_true rfl) ?_
  refine obind hF fun y1 h2 hF => ?_
  refine Or.inl ⟨_, rParse_h h2, rfl, ?_⟩
  exact Or.inl ⟨rfl, congrArg (Option.map rGood_E) hF⟩
abbrev rGood_S (code : Str) : Option (Bool) := rGood_F code
theorem rGood_h {code : Str} {r : Bool} (h : rGood_S code = some r) : Holds Tryz.prog Gw 72 [S code] (rGood_E r) := rGood_Fh  h
abbrev rless_E (y : Int) : CV := I y
def rless_L1 (a : List Int) (b : List Int) : Nat → Int → Option (Int)
  | 0, _ => none
  | fu1 + 1, i1 => bif decide (i1 < ((a.map cInt).length : Int)) then (bif decide (i1 < ((b.map cInt).length : Int)) then (Option.bind (ix a i1) fun x4 => Option.bind (ix b i1) fun x6 => bif decide (x4 < x6) then some ((-1)) else (Option.bind (ix a i1) fun x9 => Option.bind (ix b i1) fun x11 => bif decide (x9 > x11) then some (1) else rless_L1 a b fu1 (IntKind.i64.wrap (i1 + 1)))) else (bif decide (((a.map cInt).length : Int) < ((b.map cInt).length : Int)) then some ((-1)) else (bif decide (((a.map cInt).length : Int) > ((b.map cInt).length : Int)) then some (1) else some (0)))) else (bif decide (((a.map cInt).length : Int) < ((b.map cInt).length : Int)) then some ((-1)) else (bif decide (((a.map cInt).length : Int) > ((b.map cInt).length : Int)) then some (1) else some (0)))
def rless_F (N : Nat) (a : List Int) (b : List Int) : Option (Int) := rless_L1 a b N 0
set_option linter.unusedVariables false in
theorem rless_Fh {N : Nat} {a : List Int} {b : List Int} {r : Int} (hF : rless_F N a b = some r) : Holds Tryz.prog Gw 82 [.sl 1 (a.map cInt), .sl 1 (b.map cInt)] (rless_E r) := by
  refine holds_of_wq tabOk mixed Tryz.func82 (by decide) rfl (Nat.le_of_ble_eq_true rfl) ?_
  refine loop_oq (fun p : Nat × Int => [(0, .c (.sl 1 (a.map cInt))), (1, .c (.sl 1 (b.map cInt))), (5, .c (I p.2))]) (fun _ => []) (fun p => rless_L1 a b p.1 p.2 = some r) (fun p => p.1) (N, 0) hF ⟨rfl, rfl, rfl, trivial⟩ trivial ?_
  rintro ⟨fu1, i1⟩ hF
  cases fu1 with
  | zero => exact nomatch hF
  | succ fu1 =>
    refine And.intro (fun h2 => ?_) (fun h2 => ?_)
    · have hF := cpos h2 hF
      refine And.intro (fun h3 => ?_) (fun h3 => ?_)
      · have hF := cpos h3 hF
        refine join_no ?_
        refine obind hF fun x4 h5 hF => ?_
        refine ⟨ix_nn h5, .inl rfl, _, ix_map cInt h5, ?_⟩
        refine obind hF fun x6 h7 hF => ?_
        refine ⟨ix_nn h7, .inl rfl, _, ix_map cInt h7, ?_⟩
        refine And.intro (by kernel_rfl) ?_
        refine And.intro (fun h8 => ?_) (fun h8 => ?_)
        · have hF := cpos h8 hF
          exact Or.inl ⟨rfl, congrArg (Option.map rless_E) hF⟩
        · have hF := cneg h8 hF
          refine obind hF fun x9 h10 hF => ?_
          refine ⟨ix_nn h10, .inl rfl, _, ix_map cInt h10, ?_⟩
          refine obind hF fun x11 h12 hF => ?_
          refine ⟨ix_nn h12, .inl rfl, _, ix_map cInt h12, ?_⟩
          refine And.intro (by kernel_rfl) ?_
          refine And.intro (fun h13 => ?_) (fun h13 => ?_)
          · have hF := cpos h13 hF
            exact Or.inl ⟨rfl, congrArg (Option.map rless_E) hF⟩
          · have hF := cneg h13 hF
            exact ⟨(fu1, (IntKind.i64.wrap (i1 + 1))), Nat.lt_succ_self _, hF, ⟨rfl, rfl, rfl, trivial⟩, trivial⟩
      · have hF := cneg h3 hF
        refine And.intro (fun h14 => ?_) (fun h14 => ?_)
        · have hF := cpos h14 hF
          exact Or.inl ⟨rfl, congrArg (Option.map rless_E) hF⟩
        · have hF := cneg h14 hF
          refine And.intro (fun h15 => ?_) (fun h15 => ?_)
          · have hF := cpos h15 hF
            exact Or.inl ⟨rfl, congrArg (Option.map rless_E) hF⟩
          · have hF := cneg h15 hF
            exact Or.inl ⟨rfl, congrArg (Option.map rless_E) hF⟩
    · have hF := cneg h2 hF
      refine And.intro (fun h16 => ?_) (fun h16 => ?_)
      · have hF := cpos h16 hF
        exact Or.inl ⟨rfl, congrArg (Option.map rless_E) hF⟩
      · have hF := cneg h16 hF
        refine And.intro (fun h17 => ?_) (fun h17 => ?_)
        · have hF := cpos h17 hF
          exact Or.inl ⟨rfl, congrArg (Option.map rless_E) hF⟩
        · have hF := cneg h17 hF
          exact Or.inl ⟨rfl, congrArg (Option.map rless_E) hF⟩
abbrev rless_S (a : List Int) (b : List Int) : Option (Int) := rless_F (a.length + 1) a b
theorem rless_h {a : List Int} {b : List Int} {r : Int} (h : rless_S a b = some r) : Holds Tryz.prog Gw 82 [.sl 1 (a.map cInt), .sl 1 (b.map cInt)] (rless_E r) := rless_Fh  h
abbrev rWithin_E (y : Bool) : CV := B y
def rWithin_F (code : Str) (above : Str) : Option (Bool) := Option.bind (rParse_S code) fun y1 => Option.bind (rParse_S above) fun y3 => bif (y1.2 == 0) then (bif (y3.2 == 0) then (bif decide (((y1.1.map cInt).length : Int) ≥ ((y3.1.map cInt).length : Int)) then (Option.bind (slc y1.1 0 ((y3.1.map cInt).length : Int)) fun y8 => Option.bind (rless_S y8 y3.1) fun y10 => some ((y10 == 0))) else some (false)) else some (false)) else some (false)
set_option linter.unusedVariables false in
theorem rWithin_Fh {code : Str} {above : Str} {r : Bool} (hF : rWithin_F code above = some r) : Holds Tryz.prog Gw 53 [S code, S above] (rWithin_E r) := by
  refine holds_of_wq tabOk mixed Tryz.func53 (by decide) rfl (Nat.le_of_ble_eq_true rfl) ?_
  refine obind hF fun y1 h2 hF => ?_
  refine Or.inl ⟨_, rParse_h h2, rfl, ?_⟩
  refine obind hF fun y3 h4 hF => ?_
  refine Or.inl ⟨_, rParse_h h4, rfl, ?_⟩
  refine And.intro (fun h5 => ?_) (fun h5 => ?_)
  · have hF := cpos h5 hF
    refine And.intro (fun h6 => ?_) (fun h6 => ?_)
    · have hF := cpos h6 hF
      refine And.intro (fun h7 => ?_) (fun h7 => ?_)
      · have hF := cpos h7 hF
        refine obind hF fun y8 h9 hF => ?_
        refine Or.inr ⟨[], 0, _, _, _, _, rfl, rfl, eff_slice_h (cf := cInt) tok44.u tok3 h9, rfl, ?_⟩
        refine obind hF fun y10 h11 hF => ?_
        refine Or.inl ⟨_, rless_h h11, rfl, ?_⟩
        exact Or.inl ⟨rfl, congrArg (Option.map rWithin_E) hF⟩
      · have hF := cneg h7 hF
        exact Or.inl ⟨rfl, congrArg (Option.map rWithin_E) hF⟩
    · have hF := cneg h6 hF
      exact Or.inl ⟨rfl, congrArg (Option.map rWithin_E) hF⟩
  · have hF := cneg h5 hF
    exact Or.inl ⟨rfl, congrArg (Option.map rWithin_E) hF⟩
abbrev rWithin_S (code : Str) (above : Str) : Option (Bool) := rWithin_F code above
theorem rWithin_h {code : Str} {above : Str} {r : Bool} (h : rWithin_S code above = some r) : Holds Tryz.prog Gw 53 [S code, S above] (rWithin_E r) := rWithin_Fh  h
abbrev rName_E (y : Bool) : CV := B y
def rName_L1 (s : Str) : Nat → Int → Option (Bool)
  | 0, _ => none
  | fu1 + 1, i9 => bif decide (i9 < (s.length : Int)) then (Option.bind (ix s i9) fun b11 => bif decide ((b11.toNat : Int) < 32) then some (false) else (Option.bind (ix s i9) fun b14 => bif decide ((b14.toNat : Int) > 126) then some (false) else (bif decide (i9 > 0) then (Option.bind (ix s i9) fun b18 => bif ((b18.toNat : Int) == 32) then (Option.bind (ix s (IntKind.i64.wrap (i9 - 1))) fun b21 => bif ((b21.toNat : Int) == 32) then some (false) else rName_L1 s fu1 (IntKind.i64.wrap (i9 + 1))) else rName_L1 s fu1 (IntKind.i64.wrap (i9 + 1))) else rName_L1 s fu1 (IntKind.i64.wrap (i9 + 1))))) else some (true)
def rName_F (N : Nat) (s : Str) : Option (Bool) := bif decide ((s.length : Int) < 1) then some (false) else (bif decide ((s.length : Int) > 64) then some (false) else (Option.bind (ix s 0) fun b3 => bif ((b3.toNat : Int) == 32) then some (false) else (Option.bind (ix s (IntKind.i64.wrap ((s.length : Int) - 1))) fun b6 => bif ((b6.toNat : Int) == 32) then some (false) else rName_L1 s N 0)))
set_option linter.unusedVariables false in
theorem rName_Fh {N : Nat} {s : Str} {r : Bool} (hF : rName_F N s = some r) : Holds Tryz.prog Gw 73 [S s] (rName_E r) := by
  refine holds_of_wq tabOk mixed Tryz.func73 (by decide) rfl (Nat.le_of_ble_eq_true rfl) ?_
  refine And.intro (fun h1 => ?_) (fun h1 => ?_)
  · have hF := cpos h1 hF
    exact Or.inl ⟨rfl, congrArg (Option.map rName_E) hF⟩
  · have hF := cneg h1 hF
    refine And.intro (fun h2 => ?_) (fun h2 => ?_)
    · have hF := cpos h2 hF
      exact Or.inl ⟨rfl, congrArg (Option.map rName_E) hF⟩
    · have hF := cneg h2 hF
      refine Or.inl ?_
      refine obind hF fun b3 h4 hF => ?_
      refine ⟨ix_nn h4, _, ix_str h4, ?_⟩
      refine And.intro (fun h5 => ?_) (fun h5 => ?_)
      · have hF := cpos h5 hF
        exact Or.inl ⟨rfl, congrArg (Option.map rName_E) hF⟩
      · have hF := cneg h5 hF
        refine Or.inl ?_
        refine obind hF fun b6 h7 hF => ?_
        refine ⟨ix_nn h7, _, ix_str h7, ?_⟩
        refine And.intro (fun h8 => ?_) (fun h8 => ?_)
        · have hF := cpos h8 hF
          exact Or.inl ⟨rfl, congrArg (Option.map rName_E) hF⟩
        · have hF := cneg h8 hF
          refine loop_oq (fun p : Nat × Int => [(0, .c (S s)), (3, .c (I p.2))]) (fun _ => []) (fun p => rName_L1 s p.1 p.2 = some r) (fun p => p.1) (N, 0) hF ⟨rfl, rfl, trivial⟩ trivial ?_
          rintro ⟨fu1, i9⟩ hF
          cases fu1 with
          | zero => exact nomatch hF
          | succ fu1 =>
            refine And.intro (fun h10 => ?_) (fun h10 => ?_)
            · have hF := cpos h10 hF
              refine join_no ?_
              refine Or.inl ?_
              refine obind hF fun b11 h12 hF => ?_
              refine ⟨ix_nn h12, _, ix_str h12, ?_⟩
              refine And.intro (fun h13 => ?_) (fun h13 => ?_)
              · have hF := cpos h13 hF
                exact Or.inl ⟨rfl, congrArg (Option.map rName_E) hF⟩
              · have hF := cneg h13 hF
                refine Or.inl ?_
                refine obind hF fun b14 h15 hF => ?_
                refine ⟨ix_nn h15, _, ix_str h15, ?_⟩
                refine And.intro (fun h16 => ?_) (fun h16 => ?_)
                · have hF := cpos h16 hF
                  exact Or.inl ⟨rfl, congrArg (Option.map rName_E) hF⟩
                · have hF := cneg h16 hF
                  refine And.intro (fun h17 => ?_) (fun h17 => ?_)
                  · have hF := cpos h17 hF
                    refine Or.inl ?_
                    refine obind hF fun b18 h19 hF => ?_
                    refine ⟨ix_nn h19, _, ix_str h19, ?_⟩
                    refine And.intro (fun h20 => ?_) (fun h20 => ?_)
                    · have hF := cpos h20 hF
                      refine Or.inl ?_
                      refine obind hF fun b21 h22 hF => ?_
                      refine ⟨ix_nn h22, _, ix_str h22, ?_⟩
                      refine And.intro (fun h23 => ?_) (fun h23 => ?_)
                      · have hF := cpos h23 hF
                        exact Or.inl ⟨rfl, congrArg (Option.map rName_E) hF⟩
                      · have hF := cneg h23 hF
                        exact ⟨(fu1, (IntKind.i64.wrap (i9 + 1))), Nat.lt_succ_self _, hF, ⟨rfl, rfl, trivial⟩, trivial⟩
                    · have hF := cneg h20 hF
                      exact ⟨(fu1, (IntKind.i64.wrap (i9 + 1))), Nat.lt_succ_self _, hF, ⟨rfl, rfl, trivial⟩, trivial⟩
                  · have hF := cneg h17 hF
                    exact ⟨(fu1, (IntKind.i64.wrap (i9 + 1))), Nat.lt_succ_self _, hF, ⟨rfl, rfl, trivial⟩, trivial⟩
            · have hF := cneg h10 hF
              exact Or.inl ⟨rfl, congrArg (Option.map rName_E) hF⟩
abbrev rName_S (s : Str) : Option (Bool) := rName_F (s.length + 1) s
theorem rName_h {s : Str} {r : Bool} (h : rName_S s = some r) : Holds Tryz.prog Gw 73 [S s] (rName_E r) := rName_Fh  h
abbrev rSameInts_E (y : Bool) : CV := B y
def rSameInts_L1 (a : List Int) (b : List Int) : Nat → Int → Option (Bool)
  | 0, _ => none
  | fu1 + 1, i2 => bif decide (i2 < ((a.map cInt).length : Int)) then (Option.bind (ix a i2) fun x4 => Option.bind (ix b i2) fun x6 => bif (x4 != x6) then some (false) else rSameInts_L1 a b fu1 (IntKind.i64.wrap (i2 + 1))) else some (true)
def rSameInts_F (N : Nat) (a : List Int) (b : List Int) : Option (Bool) := bif (((a.map cInt).length : Int) != ((b.map cInt).length : Int)) then some (false) else rSameInts_L1 a b N 0
set_option linter.unusedVariables false in
theorem rSameInts_Fh {N : Nat} {a : List Int} {b : List Int} {r : Bool} (hF : rSameInts_F N a b = some r) : Holds Tryz.prog Gw 25 [.sl 1 (a.map cInt), .sl 1 (b.map cInt)] (rSameInts_E r) := by
  refine holds_of_wq tabOk mixed Tryz.func25 (by decide) rfl (Nat.le_of_ble_eq_true rfl) ?_
  refine And.intro (fun h1 => ?_) (fun h1 => ?_)
  · have hF := cpos h1 hF
    exact Or.inl ⟨rfl, congrArg (Option.map rSameInts_E) hF⟩
  · have hF := cneg h1 hF
    refine loop_oq (fun p : Nat × Int => [(0, .c (.sl 1 (a.map cInt))), (1, .c (.sl 1 (b.map cInt))), (5, .c (I p.2))]) (fun _ => []) (fun p => rSameInts_L1 a b p.1 p.2 = some r) (fun p => p.1) (N, 0) hF ⟨rfl, rfl, rfl, trivial⟩ trivial ?_
    rintro ⟨fu1, i2⟩ hF
    cases fu1 with
    | zero => exact nomatch hF
    | succ fu1 =>
      refine And.intro (fun h3 => ?_) (fun h3 => ?_)
      · have hF := cpos h3 hF
        refine join_no ?_
        refine obind hF fun x4 h5 hF => ?_
        refine ⟨ix_nn h5, .inl rfl, _, ix_map cInt h5, ?_⟩
        refine obind hF fun x6 h7 hF => ?_
        refine ⟨ix_nn h7, .inl rfl, _, ix_map cInt h7, ?_⟩
        refine And.intro (by kernel_rfl) ?_
        refine And.intro (fun h8 => ?_) (fun h8 => ?_)
        · have hF := cpos h8 hF
          exact Or.inl ⟨rfl, congrArg (Option.map rSameInts_E) hF⟩
        · have hF := cneg h8 hF
          exact ⟨(fu1, (IntKind.i64.wrap (i2 + 1))), Nat.lt_succ_self _, hF, ⟨rfl, rfl, rfl, trivial⟩, trivial⟩
      · have hF := cneg h3 hF
        exact Or.inl ⟨rfl, congrArg (Option.map rSameInts_E) hF⟩
abbrev rSameInts_S (a : List Int) (b : List Int) : Option (Bool) := rSameInts_F (a.length + 1) a b
theorem rSameInts_h {a : List Int} {b : List Int} {r : Bool} (h : rSameInts_S a b = some r) : Holds Tryz.prog Gw 25 [.sl 1 (a.map cInt), .sl 1 (b.map cInt)] (rSameInts_E r) := rSameInts_Fh  h
end Go.Proofs.YtjoacimgcepjdaaGreatDoor
