/- Functions of the program as functions of Lean, each with its contract (printed by a program). -/
import Derived.Test.YtihjmnhamaicpaaGreatDoorLib
namespace Go.Proofs.YtihjmnhamaicpaaGreatDoor
open Go Go.Abs
set_option maxRecDepth 10000
set_option maxHeartbeats 400000
abbrev pFormat_1_E (y : Bool) : CV := B y
def pFormat_1_F (n : Int) : Option (Bool) := bif decide (n < 1) then some (true) else some (decide (n > 999))
set_option linter.unusedVariables false in
theorem pFormat_1_Fh {n : Int} {r : Bool} (hF : pFormat_1_F n = some r) : Holds Tryz.prog Gw 51 [I n] (pFormat_1_E r) := by
  refine holds_of_wq tabOk mixed Tryz.func51 (by decide) rfl (Nat.le_of_ble_eq_true rfl) ?_
  refine And.intro (fun h1 => ?_) (fun h1 => ?_)
  · have hF := cpos h1 hF
    exact Or.inl ⟨rfl, congrArg (Option.map pFormat_1_E) hF⟩
  · have hF := cneg h1 hF
    exact Or.inl ⟨rfl, congrArg (Option.map pFormat_1_E) hF⟩
abbrev pFormat_1_S (n : Int) : Option (Bool) := pFormat_1_F n
theorem pFormat_1_h {n : Int} {r : Bool} (h : pFormat_1_S n = some r) : Holds Tryz.prog Gw 51 [I n] (pFormat_1_E r) := pFormat_1_Fh  h
abbrev slIndexFuncI_E (y : Int) : CV := I y
def slIndexFuncI_L1 (s : List Int) (f : Int → Option Bool) : Nat → Int → Option (Int)
  | 0, _ => none
  | fu1 + 1, v1 => bif decide (v1 < ((s.map cInt).length : Int)) then (Option.bind (ix s v1) fun x3 => Option.bind (f x3) fun y5 => bif y5 then some (v1) else slIndexFuncI_L1 s f fu1 (IntKind.i64.wrap (v1 + 1))) else some ((-1))
def slIndexFuncI_F (N : Nat) (s : List Int) (f : Int → Option Bool) : Option (Int) := slIndexFuncI_L1 s f N 0
set_option linter.unusedVariables false in
theorem slIndexFuncI_Fh {N : Nat} {s : List Int} {f : Int → Option Bool} {r : Int} {f_f : FuncId} {f_c : List CV} (f_h : ∀ z0 y, f z0 = some y → Holds Tryz.prog Gw f_f (I z0 :: f_c) (B y)) (hF : slIndexFuncI_F N s f = some r) : Holds Tryz.prog Gw 72 [.sl 1 (s.map cInt), .fn f_f f_c] (slIndexFuncI_E r) := by
  refine holds_of_wq tabOk mixed Tryz.func72 (by decide) rfl (Nat.le_of_ble_eq_true rfl) ?_
  refine loop_oq (fun p : Nat × Int => [(0, .c (.sl 1 (s.map cInt))), (1, .c (.fn f_f f_c)), (7, .c (I ((s.map cInt).length : Int))), (8, .c (I p.2))]) (fun _ => []) (fun p => slIndexFuncI_L1 s f p.1 p.2 = some r) (fun p => p.1) (N, 0) hF ⟨rfl, rfl, rfl, rfl, trivial⟩ trivial ?_
  rintro ⟨fu1, v1⟩ hF
  cases fu1 with
  | zero => exact nomatch hF
  | succ fu1 =>
    refine join_no ?_
    refine And.intro (fun h2 => ?_) (fun h2 => ?_)
    · have hF := cpos h2 hF
      refine join_no ?_
      refine obind hF fun x3 h4 hF => ?_
      refine ⟨ix_nn h4, .inl rfl, _, ix_map cInt h4, ?_⟩
      refine obind hF fun y5 h6 hF => ?_
      refine Or.inl ⟨_, f_h _ _ h6, rfl, ?_⟩
      refine And.intro (fun h7 => ?_) (fun h7 => ?_)
      · have hF := cpos h7 hF
        exact Or.inl ⟨rfl, congrArg (Option.map slIndexFuncI_E) hF⟩
      · have hF := cneg h7 hF
        exact ⟨(fu1, (IntKind.i64.wrap (v1 + 1))), Nat.lt_succ_self _, hF, ⟨rfl, rfl, rfl, rfl, trivial⟩, trivial⟩
    · have hF := cneg h2 hF
      exact Or.inl ⟨rfl, congrArg (Option.map slIndexFuncI_E) hF⟩
abbrev slIndexFuncI_S (s : List Int) (f : Int → Option Bool) : Option (Int) := slIndexFuncI_F (s.length + 1) s f
theorem slIndexFuncI_h {s : List Int} {f : Int → Option Bool} {r : Int} {f_f : FuncId} {f_c : List CV} (f_h : ∀ z0 y, f z0 = some y → Holds Tryz.prog Gw f_f (I z0 :: f_c) (B y)) (h : slIndexFuncI_S s f = some r) : Holds Tryz.prog Gw 72 [.sl 1 (s.map cInt), .fn f_f f_c] (slIndexFuncI_E r) := slIndexFuncI_Fh f_h h
abbrev slContainsFuncI_E (y : Bool) : CV := B y
def slContainsFuncI_F (s : List Int) (f : Int → Option Bool) : Option (Bool) := Option.bind (slIndexFuncI_S s f) fun y1 => some (decide (y1 ≥ 0))
set_option linter.unusedVariables false in
theorem slContainsFuncI_Fh {s : List Int} {f : Int → Option Bool} {r : Bool} {f_f : FuncId} {f_c : List CV} (f_h : ∀ z0 y, f z0 = some y → Holds Tryz.prog Gw f_f (I z0 :: f_c) (B y)) (hF : slContainsFuncI_F s f = some r) : Holds Tryz.prog Gw 50 [.sl 1 (s.map cInt), .fn f_f f_c] (slContainsFuncI_E r) := by
  refine holds_of_wq tabOk mixed Tryz.func50 (by decide) rfl (Nat.le_of_ble_eq_true rfl) ?_
  refine obind hF fun y1 h2 hF => ?_
  refine Or.inl ⟨_, slIndexFuncI_h f_h h2, rfl, ?_⟩
  exact Or.inl ⟨rfl, congrArg (Option.map slContainsFuncI_E) hF⟩
abbrev slContainsFuncI_S (s : List Int) (f : Int → Option Bool) : Option (Bool) := slContainsFuncI_F s f
theorem slContainsFuncI_h {s : List Int} {f : Int → Option Bool} {r : Bool} {f_f : FuncId} {f_c : List CV} (f_h : ∀ z0 y, f z0 = some y → Holds Tryz.prog Gw f_f (I z0 :: f_c) (B y)) (h : slContainsFuncI_S s f = some r) : Holds Tryz.prog Gw 50 [.sl 1 (s.map cInt), .fn f_f f_c] (slContainsFuncI_E r) := slContainsFuncI_Fh f_h h
abbrev slIndexFuncS_E (y : Int) : CV := I y
def slIndexFuncS_L1 (s : List Str) (f : Str → Option Bool) : Nat → Int → Option (Int)
  | 0, _ => none
  | fu1 + 1, v1 => bif decide (v1 < ((s.map cStr).length : Int)) then (Option.bind (ix s v1) fun x3 => Option.bind (f x3) fun y5 => bif y5 then some (v1) else slIndexFuncS_L1 s f fu1 (IntKind.i64.wrap (v1 + 1))) else some ((-1))
def slIndexFuncS_F (N : Nat) (s : List Str) (f : Str → Option Bool) : Option (Int) := slIndexFuncS_L1 s f N 0
set_option linter.unusedVariables false in
theorem slIndexFuncS_Fh {N : Nat} {s : List Str} {f : Str → Option Bool} {r : Int} {f_f : FuncId} {f_c : List CV} (f_h : ∀ z0 y, f z0 = some y → Holds Tryz.prog Gw f_f (S z0 :: f_c) (B y)) (hF : slIndexFuncS_F N s f = some r) : Holds Tryz.prog Gw 66 [.sl 1 (s.map cStr), .fn f_f f_c] (slIndexFuncS_E r) := by
  refine holds_of_wq tabOk mixed Tryz.func66 (by decide) rfl (Nat.le_of_ble_eq_true rfl) ?_
  refine loop_oq (fun p : Nat × Int => [(0, .c (.sl 1 (s.map cStr))), (1, .c (.fn f_f f_c)), (7, .c (I ((s.map cStr).length : Int))), (8, .c (I p.2))]) (fun _ => []) (fun p => slIndexFuncS_L1 s f p.1 p.2 = some r) (fun p => p.1) (N, 0) hF ⟨rfl, rfl, rfl, rfl, trivial⟩ trivial ?_
  rintro ⟨fu1, v1⟩ hF
  cases fu1 with
  | zero => exact nomatch hF
  | succ fu1 =>
    refine join_no ?_
    refine And.intro (fun h2 => ?_) (fun h2 => ?_)
    · have hF := cpos h2 hF
      refine join_no ?_
      refine obind hF fun x3 h4 hF => ?_
      refine ⟨ix_nn h4, .inl rfl, _, ix_map cStr h4, ?_⟩
      refine obind hF fun y5 h6 hF => ?_
      refine Or.inl ⟨_, f_h _ _ h6, rfl, ?_⟩
      refine And.intro (fun h7 => ?_) (fun h7 => ?_)
      · have hF := cpos h7 hF
        exact Or.inl ⟨rfl, congrArg (Option.map slIndexFuncS_E) hF⟩
      · have hF := cneg h7 hF
        exact ⟨(fu1, (IntKind.i64.wrap (v1 + 1))), Nat.lt_succ_self _, hF, ⟨rfl, rfl, rfl, rfl, trivial⟩, trivial⟩
    · have hF := cneg h2 hF
      exact Or.inl ⟨rfl, congrArg (Option.map slIndexFuncS_E) hF⟩
abbrev slIndexFuncS_S (s : List Str) (f : Str → Option Bool) : Option (Int) := slIndexFuncS_F (s.length + 1) s f
theorem slIndexFuncS_h {s : List Str} {f : Str → Option Bool} {r : Int} {f_f : FuncId} {f_c : List CV} (f_h : ∀ z0 y, f z0 = some y → Holds Tryz.prog Gw f_f (S z0 :: f_c) (B y)) (h : slIndexFuncS_S s f = some r) : Holds Tryz.prog Gw 66 [.sl 1 (s.map cStr), .fn f_f f_c] (slIndexFuncS_E r) := slIndexFuncS_Fh f_h h
abbrev slContainsFuncS_E (y : Bool) : CV := B y
def slContainsFuncS_F (s : List Str) (f : Str → Option Bool) : Option (Bool) := Option.bind (slIndexFuncS_S s f) fun y1 => some (decide (y1 ≥ 0))
set_option linter.unusedVariables false in
theorem slContainsFuncS_Fh {s : List Str} {f : Str → Option Bool} {r : Bool} {f_f : FuncId} {f_c : List CV} (f_h : ∀ z0 y, f z0 = some y → Holds Tryz.prog Gw f_f (S z0 :: f_c) (B y)) (hF : slContainsFuncS_F s f = some r) : Holds Tryz.prog Gw 41 [.sl 1 (s.map cStr), .fn f_f f_c] (slContainsFuncS_E r) := by
  refine holds_of_wq tabOk mixed Tryz.func41 (by decide) rfl (Nat.le_of_ble_eq_true rfl) ?_
  refine obind hF fun y1 h2 hF => ?_
  refine Or.inl ⟨_, slIndexFuncS_h f_h h2, rfl, ?_⟩
  exact Or.inl ⟨rfl, congrArg (Option.map slContainsFuncS_E) hF⟩
abbrev slContainsFuncS_S (s : List Str) (f : Str → Option Bool) : Option (Bool) := slContainsFuncS_F s f
theorem slContainsFuncS_h {s : List Str} {f : Str → Option Bool} {r : Bool} {f_f : FuncId} {f_c : List CV} (f_h : ∀ z0 y, f z0 = some y → Holds Tryz.prog Gw f_f (S z0 :: f_c) (B y)) (h : slContainsFuncS_S s f = some r) : Holds Tryz.prog Gw 41 [.sl 1 (s.map cStr), .fn f_f f_c] (slContainsFuncS_E r) := slContainsFuncS_Fh f_h h
abbrev slIndexS_E (y : Int) : CV := I y
def slIndexS_L1 (s : List Str) (v : Str) : Nat → Int → Option (Int)
  | 0, _ => none
  | fu1 + 1, v1 => bif decide (v1 < ((s.map cStr).length : Int)) then (Option.bind (ix s v1) fun x3 => bif (v == x3) then some (v1) else slIndexS_L1 s v fu1 (IntKind.i64.wrap (v1 + 1))) else some ((-1))
def slIndexS_F (N : Nat) (s : List Str) (v : Str) : Option (Int) := slIndexS_L1 s v N 0
set_option linter.unusedVariables false in
theorem slIndexS_Fh {N : Nat} {s : List Str} {v : Str} {r : Int} (hF : slIndexS_F N s v = some r) : Holds Tryz.prog Gw 52 [.sl 1 (s.map cStr), S v] (slIndexS_E r) := by
  refine holds_of_wq tabOk mixed Tryz.func52 (by decide) rfl (Nat.le_of_ble_eq_true rfl) ?_
  refine loop_oq (fun p : Nat × Int => [(0, .c (.sl 1 (s.map cStr))), (1, .c (S v)), (7, .c (I ((s.map cStr).length : Int))), (8, .c (I p.2))]) (fun _ => []) (fun p => slIndexS_L1 s v p.1 p.2 = some r) (fun p => p.1) (N, 0) hF ⟨rfl, rfl, rfl, rfl, trivial⟩ trivial ?_
  rintro ⟨fu1, v1⟩ hF
  cases fu1 with
  | zero => exact nomatch hF
  | succ fu1 =>
    refine join_no ?_
    refine And.intro (fun h2 => ?_) (fun h2 => ?_)
    · have hF := cpos h2 hF
      refine join_no ?_
      refine obind hF fun x3 h4 hF => ?_
      refine ⟨ix_nn h4, .inl rfl, _, ix_map cStr h4, ?_⟩
      refine And.intro (fun h5 => ?_) (fun h5 => ?_)
      · have hF := cpos h5 hF
        exact Or.inl ⟨rfl, congrArg (Option.map slIndexS_E) hF⟩
      · have hF := cneg h5 hF
        exact ⟨(fu1, (IntKind.i64.wrap (v1 + 1))), Nat.lt_succ_self _, hF, ⟨rfl, rfl, rfl, rfl, trivial⟩, trivial⟩
    · have hF := cneg h2 hF
      exact Or.inl ⟨rfl, congrArg (Option.map slIndexS_E) hF⟩
abbrev slIndexS_S (s : List Str) (v : Str) : Option (Int) := slIndexS_F (s.length + 1) s v
theorem slIndexS_h {s : List Str} {v : Str} {r : Int} (h : slIndexS_S s v = some r) : Holds Tryz.prog Gw 52 [.sl 1 (s.map cStr), S v] (slIndexS_E r) := slIndexS_Fh  h
abbrev slContainsS_E (y : Bool) : CV := B y
def slContainsS_F (s : List Str) (v : Str) : Option (Bool) := Option.bind (slIndexS_S s v) fun y1 => some (decide (y1 ≥ 0))
set_option linter.unusedVariables false in
theorem slContainsS_Fh {s : List Str} {v : Str} {r : Bool} (hF : slContainsS_F s v = some r) : Holds Tryz.prog Gw 27 [.sl 1 (s.map cStr), S v] (slContainsS_E r) := by
  refine holds_of_wq tabOk mixed Tryz.func27 (by decide) rfl (Nat.le_of_ble_eq_true rfl) ?_
  refine obind hF fun y1 h2 hF => ?_
  refine Or.inl ⟨_, slIndexS_h h2, rfl, ?_⟩
  exact Or.inl ⟨rfl, congrArg (Option.map slContainsS_E) hF⟩
abbrev slContainsS_S (s : List Str) (v : Str) : Option (Bool) := slContainsS_F s v
theorem slContainsS_h {s : List Str} {v : Str} {r : Bool} (h : slContainsS_S s v = some r) : Holds Tryz.prog Gw 27 [.sl 1 (s.map cStr), S v] (slContainsS_E r) := slContainsS_Fh  h
abbrev slEqual_E (y : Bool) : CV := B y
def slEqual_L1 (s1 : List Int) (s2 : List Int) : Nat → Int → Option (Bool)
  | 0, _ => none
  | fu1 + 1, v2 => bif decide (v2 < ((s1.map cInt).length : Int)) then (Option.bind (ix s1 v2) fun x4 => Option.bind (ix s2 v2) fun x6 => bif (x4 != x6) then some (false) else slEqual_L1 s1 s2 fu1 (IntKind.i64.wrap (v2 + 1))) else some (true)
def slEqual_F (N : Nat) (s1 : List Int) (s2 : List Int) : Option (Bool) := bif (((s1.map cInt).length : Int) != ((s2.map cInt).length : Int)) then some (false) else slEqual_L1 s1 s2 N 0
set_option linter.unusedVariables false in
theorem slEqual_Fh {N : Nat} {s1 : List Int} {s2 : List Int} {r : Bool} (hF : slEqual_F N s1 s2 = some r) : Holds Tryz.prog Gw 26 [.sl 1 (s1.map cInt), .sl 1 (s2.map cInt)] (slEqual_E r) := by
  refine holds_of_wq tabOk mixed Tryz.func26 (by decide) rfl (Nat.le_of_ble_eq_true rfl) ?_
  refine And.intro (fun h1 => ?_) (fun h1 => ?_)
  · have hF := cpos h1 hF
    exact Or.inl ⟨rfl, congrArg (Option.map slEqual_E) hF⟩
  · have hF := cneg h1 hF
    refine loop_oq (fun p : Nat × Int => [(0, .c (.sl 1 (s1.map cInt))), (1, .c (.sl 1 (s2.map cInt))), (12, .c (I ((s1.map cInt).length : Int))), (13, .c (I p.2))]) (fun _ => []) (fun p => slEqual_L1 s1 s2 p.1 p.2 = some r) (fun p => p.1) (N, 0) hF ⟨rfl, rfl, rfl, rfl, trivial⟩ trivial ?_
    rintro ⟨fu1, v2⟩ hF
    cases fu1 with
    | zero => exact nomatch hF
    | succ fu1 =>
      refine join_no ?_
      refine And.intro (fun h3 => ?_) (fun h3 => ?_)
      · have hF := cpos h3 hF
        refine join_no ?_
        refine obind hF fun x4 h5 hF => ?_
        refine ⟨ix_nn h5, .inl rfl, _, ix_map cInt h5, ?_⟩
        refine obind hF fun x6 h7 hF => ?_
        refine ⟨ix_nn h7, .inl rfl, _, ix_map cInt h7, ?_⟩
        refine And.intro (by kernel_rfl) ?_
        refine And.intro (fun h8 => ?_) (fun h8 => ?_)
        · have hF := cpos h8 hF
          exact Or.inl ⟨rfl, congrArg (Option.map slEqual_E) hF⟩
        · have hF := cneg h8 hF
          exact ⟨(fu1, (IntKind.i64.wrap (v2 + 1))), Nat.lt_succ_self _, hF, ⟨rfl, rfl, rfl, rfl, trivial⟩, trivial⟩
      · have hF := cneg h3 hF
        exact Or.inl ⟨rfl, congrArg (Option.map slEqual_E) hF⟩
abbrev slEqual_S (s1 : List Int) (s2 : List Int) : Option (Bool) := slEqual_F (s1.length + 1) s1 s2
theorem slEqual_h {s1 : List Int} {s2 : List Int} {r : Bool} (h : slEqual_S s1 s2 = some r) : Holds Tryz.prog Gw 26 [.sl 1 (s1.map cInt), .sl 1 (s2.map cInt)] (slEqual_E r) := slEqual_Fh  h
abbrev cmpIsNaN_E (y : Bool) : CV := B y
def cmpIsNaN_F (x : Int) : Option (Bool) := some ((x != x))
set_option linter.unusedVariables false in
theorem cmpIsNaN_Fh {x : Int} {r : Bool} (hF : cmpIsNaN_F x = some r) : Holds Tryz.prog Gw 86 [I x] (cmpIsNaN_E r) := by
  refine holds_of_wq tabOk mixed Tryz.func86 (by decide) rfl (Nat.le_of_ble_eq_true rfl) ?_
  exact Or.inl ⟨rfl, congrArg (Option.map cmpIsNaN_E) hF⟩
abbrev cmpIsNaN_S (x : Int) : Option (Bool) := cmpIsNaN_F x
theorem cmpIsNaN_h {x : Int} {r : Bool} (h : cmpIsNaN_S x = some r) : Holds Tryz.prog Gw 86 [I x] (cmpIsNaN_E r) := cmpIsNaN_Fh  h
abbrev cmpCompare_E (y : Int) : CV := I y
def cmpCompare_F (x : Int) (y : Int) : Option (Int) := Option.bind (cmpIsNaN_S x) fun y1 => Option.bind (cmpIsNaN_S y) fun y3 => bif y1 then (bif y3 then some (0) else some ((-1))) else (bif y3 then some (1) else (bif decide (x < y) then some ((-1)) else (bif decide (x > y) then some (1) else some (0))))
set_option linter.unusedVariables false in
theorem cmpCompare_Fh {x : Int} {y : Int} {r : Int} (hF : cmpCompare_F x y = some r) : Holds Tryz.prog Gw 65 [I x, I y] (cmpCompare_E r) := by
  refine holds_of_wq tabOk mixed Tryz.func65 (by decide) rfl (Nat.le_of_ble_eq_true rfl) ?_
  refine obind hF fun y1 h2 hF => ?_
  refine Or.inl ⟨_, cmpIsNaN_h h2, rfl, ?_⟩
  refine obind hF fun y3 h4 hF => ?_
  refine Or.inl ⟨_, cmpIsNaN_h h4, rfl, ?_⟩
  refine And.intro (fun h5 => ?_) (fun h5 => ?_)
  · have hF := cpos h5 hF
    refine And.intro (fun h6 => ?_) (fun h6 => ?_)
    · have hF := cpos h6 hF
      exact Or.inl ⟨rfl, congrArg (Option.map cmpCompare_E) hF⟩
    · have hF := cneg h6 hF
      exact Or.inl ⟨rfl, congrArg (Option.map cmpCompare_E) hF⟩
  · have hF := cneg h5 hF
    refine And.intro (fun h7 => ?_) (fun h7 => ?_)
    · have hF := cpos h7 hF
      exact Or.inl ⟨rfl, congrArg (Option.map cmpCompare_E) hF⟩
    · have hF := cneg h7 hF
      refine And.intro (fun h8 => ?_) (fun h8 => ?_)
      · have hF := cpos h8 hF
        exact Or.inl ⟨rfl, congrArg (Option.map cmpCompare_E) hF⟩
      · have hF := cneg h8 hF
        refine And.intro (fun h9 => ?_) (fun h9 => ?_)
        · have hF := cpos h9 hF
          exact Or.inl ⟨rfl, congrArg (Option.map cmpCompare_E) hF⟩
        · have hF := cneg h9 hF
          exact Or.inl ⟨rfl, congrArg (Option.map cmpCompare_E) hF⟩
abbrev cmpCompare_S (x : Int) (y : Int) : Option (Int) := cmpCompare_F x y
theorem cmpCompare_h {x : Int} {y : Int} {r : Int} (h : cmpCompare_S x y = some r) : Holds Tryz.prog Gw 65 [I x, I y] (cmpCompare_E r) := cmpCompare_Fh  h
abbrev cmpIsNaNS_E (y : Bool) : CV := B y
def cmpIsNaNS_F (x : Str) : Option (Bool) := some ((!(x == x)))
set_option linter.unusedVariables false in
theorem cmpIsNaNS_Fh {x : Str} {r : Bool} (hF : cmpIsNaNS_F x = some r) : Holds Tryz.prog Gw 81 [S x] (cmpIsNaNS_E r) := by
  refine holds_of_wq tabOk mixed Tryz.func81 (by decide) rfl (Nat.le_of_ble_eq_true rfl) ?_
  exact Or.inl ⟨rfl, congrArg (Option.map cmpIsNaNS_E) hF⟩
abbrev cmpIsNaNS_S (x : Str) : Option (Bool) := cmpIsNaNS_F x
theorem cmpIsNaNS_h {x : Str} {r : Bool} (h : cmpIsNaNS_S x = some r) : Holds Tryz.prog Gw 81 [S x] (cmpIsNaNS_E r) := cmpIsNaNS_Fh  h
abbrev cmpCompareS_E (y : Int) : CV := I y
def cmpCompareS_F (x : Str) (y : Str) : Option (Int) := Option.bind (cmpIsNaNS_S x) fun y1 => Option.bind (cmpIsNaNS_S y) fun y3 => bif y1 then (bif y3 then some (0) else some ((-1))) else (bif y3 then some (1) else (bif Op.bytesLess x y then some ((-1)) else (bif (!(Op.bytesLess x y || x == y)) then some (1) else some (0))))
set_option linter.unusedVariables false in
theorem cmpCompareS_Fh {x : Str} {y : Str} {r : Int} (hF : cmpCompareS_F x y = some r) : Holds Tryz.prog Gw 60 [S x, S y] (cmpCompareS_E r) := by
  refine holds_of_wq tabOk mixed Tryz.func60 (by decide) rfl (Nat.le_of_ble_eq_true rfl) ?_
  refine obind hF fun y1 h2 hF => ?_
  refine Or.inl ⟨_, cmpIsNaNS_h h2, rfl, ?_⟩
  refine obind hF fun y3 h4 hF => ?_
  refine Or.inl ⟨_, cmpIsNaNS_h h4, rfl, ?_⟩
  refine And.intro (fun h5 => ?_) (fun h5 => ?_)
  · have hF := cpos h5 hF
    refine And.intro (fun h6 => ?_) (fun h6 => ?_)
    · have hF := cpos h6 hF
      exact Or.inl ⟨rfl, congrArg (Option.map cmpCompareS_E) hF⟩
    · have hF := cneg h6 hF
      exact Or.inl ⟨rfl, congrArg (Option.map cmpCompareS_E) hF⟩
  · have hF := cneg h5 hF
    refine And.intro (fun h7 => ?_) (fun h7 => ?_)
    · have hF := cpos h7 hF
      exact Or.inl ⟨rfl, congrArg (Option.map cmpCompareS_E) hF⟩
    · have hF := cneg h7 hF
      refine And.intro (fun h8 => ?_) (fun h8 => ?_)
      · have hF := cpos h8 hF
        exact Or.inl ⟨rfl, congrArg (Option.map cmpCompareS_E) hF⟩
      · have hF := cneg h8 hF
        refine And.intro (fun h9 => ?_) (fun h9 => ?_)
        · have hF := cpos h9 hF
          exact Or.inl ⟨rfl, congrArg (Option.map cmpCompareS_E) hF⟩
        · have hF := cneg h9 hF
          exact Or.inl ⟨rfl, congrArg (Option.map cmpCompareS_E) hF⟩
abbrev cmpCompareS_S (x : Str) (y : Str) : Option (Int) := cmpCompareS_F x y
theorem cmpCompareS_h {x : Str} {y : Str} {r : Int} (h : cmpCompareS_S x y = some r) : Holds Tryz.prog Gw 60 [S x, S y] (cmpCompareS_E r) := cmpCompareS_Fh  h
abbrev cmpOr_E (y : Int) : CV := I y
def cmpOr_L1 (vals : List Int) : Nat → Int → Option (Int)
  | 0, _ => none
  | fu1 + 1, v1 => bif decide (v1 < ((vals.map cInt).length : Int)) then (Option.bind (ix vals v1) fun x3 => bif (x3 != 0) then some (x3) else cmpOr_L1 vals fu1 (IntKind.i64.wrap (v1 + 1))) else some (0)
def cmpOr_F (N : Nat) (vals : List Int) : Option (Int) := cmpOr_L1 vals N 0
set_option linter.unusedVariables false in
theorem cmpOr_Fh {N : Nat} {vals : List Int} {r : Int} (hF : cmpOr_F N vals = some r) : Holds Tryz.prog Gw 57 [.sl 1 (vals.map cInt)] (cmpOr_E r) := by
  refine holds_of_wq tabOk mixed Tryz.func57 (by decide) rfl (Nat.le_of_ble_eq_true rfl) ?_
  refine loop_oq (fun p : Nat × Int => [(3, .c (I 0)), (6, .c (.sl 1 (vals.map cInt))), (7, .c (I ((vals.map cInt).length : Int))), (8, .c (I p.2))]) (fun _ => []) (fun p => cmpOr_L1 vals p.1 p.2 = some r) (fun p => p.1) (N, 0) hF ⟨rfl, rfl, rfl, rfl, trivial⟩ trivial ?_
  rintro ⟨fu1, v1⟩ hF
  cases fu1 with
  | zero => exact nomatch hF
  | succ fu1 =>
    refine join_no ?_
    refine And.intro (fun h2 => ?_) (fun h2 => ?_)
    · have hF := cpos h2 hF
      refine join_no ?_
      refine obind hF fun x3 h4 hF => ?_
      refine ⟨ix_nn h4, .inl rfl, _, ix_map cInt h4, ?_⟩
      refine And.intro (fun h5 => ?_) (fun h5 => ?_)
      · have hF := cpos h5 hF
        exact Or.inl ⟨rfl, congrArg (Option.map cmpOr_E) hF⟩
      · have hF := cneg h5 hF
        exact ⟨(fu1, (IntKind.i64.wrap (v1 + 1))), Nat.lt_succ_self _, hF, ⟨rfl, rfl, rfl, rfl, trivial⟩, trivial⟩
    · have hF := cneg h2 hF
      exact Or.inl ⟨rfl, congrArg (Option.map cmpOr_E) hF⟩
abbrev cmpOr_S (vals : List Int) : Option (Int) := cmpOr_F (vals.length + 1) vals
theorem cmpOr_h {vals : List Int} {r : Int} (h : cmpOr_S vals = some r) : Holds Tryz.prog Gw 57 [.sl 1 (vals.map cInt)] (cmpOr_E r) := cmpOr_Fh  h
abbrev slCompare_E (y : Int) : CV := I y
def slCompare_L1 (s1 : List Int) (s2 : List Int) : Nat → Int → Option (Int)
  | 0, _ => none
  | fu1 + 1, v1 => bif decide (v1 < ((s1.map cInt).length : Int)) then (Option.bind (ix s1 v1) fun x3 => bif decide (v1 ≥ ((s2.map cInt).length : Int)) then some (1) else (Option.bind (ix s2 v1) fun x6 => Option.bind (cmpCompare_S x3 x6) fun y8 => bif (y8 != 0) then some (y8) else slCompare_L1 s1 s2 fu1 (IntKind.i64.wrap (v1 + 1)))) else (bif decide (((s1.map cInt).length : Int) < ((s2.map cInt).length : Int)) then some ((-1)) else some (0))
def slCompare_F (N : Nat) (s1 : List Int) (s2 : List Int) : Option (Int) := slCompare_L1 s1 s2 N 0
set_option linter.unusedVariables false in
theorem slCompare_Fh {N : Nat} {s1 : List Int} {s2 : List Int} {r : Int} (hF : slCompare_F N s1 s2 = some r) : Holds Tryz.prog Gw 38 [.sl 1 (s1.map cInt), .sl 1 (s2.map cInt)] (slCompare_E r) := by
  refine holds_of_wq tabOk mixed Tryz.func38 (by decide) rfl (Nat.le_of_ble_eq_true rfl) ?_
  refine loop_oq (fun p : Nat × Int => [(0, .c (.sl 1 (s1.map cInt))), (1, .c (.sl 1 (s2.map cInt))), (9, .c (.sl 1 (s1.map cInt))), (10, .c (I ((s1.map cInt).length : Int))), (11, .c (I p.2))]) (fun _ => []) (fun p => slCompare_L1 s1 s2 p.1 p.2 = some r) (fun p => p.1) (N, 0) hF ⟨rfl, rfl, rfl, rfl, rfl, trivial⟩ trivial ?_
  rintro ⟨fu1, v1⟩ hF
  cases fu1 with
  | zero => exact nomatch hF
  | succ fu1 =>
    refine join_no ?_
    refine And.intro (fun h2 => ?_) (fun h2 => ?_)
    · have hF := cpos h2 hF
      refine join_no ?_
      refine obind hF fun x3 h4 hF => ?_
      refine ⟨ix_nn h4, .inl rfl, _, ix_map cInt h4, ?_⟩
      refine And.intro (fun h5 => ?_) (fun h5 => ?_)
      · have hF := cpos h5 hF
        exact Or.inl ⟨rfl, congrArg (Option.map slCompare_E) hF⟩
      · have hF := cneg h5 hF
        refine obind hF fun x6 h7 hF => ?_
        refine ⟨ix_nn h7, .inl rfl, _, ix_map cInt h7, ?_⟩
        refine obind hF fun y8 h9 hF => ?_
        refine Or.inl ⟨_, cmpCompare_h h9, rfl, ?_⟩
        refine And.intro (fun h10 => ?_) (fun h10 => ?_)
        · have hF := cpos h10 hF
          exact Or.inl ⟨rfl, congrArg (Option.map slCompare_E) hF⟩
        · have hF := cneg h10 hF
          exact ⟨(fu1, (IntKind.i64.wrap (v1 + 1))), Nat.lt_succ_self _, hF, ⟨rfl, rfl, rfl, rfl, rfl, trivial⟩, trivial⟩
    · have hF := cneg h2 hF
      refine And.intro (fun h11 => ?_) (fun h11 => ?_)
      · have hF := cpos h11 hF
        exact Or.inl ⟨rfl, congrArg (Option.map slCompare_E) hF⟩
      · have hF := cneg h11 hF
        exact Or.inl ⟨rfl, congrArg (Option.map slCompare_E) hF⟩
abbrev slCompare_S (s1 : List Int) (s2 : List Int) : Option (Int) := slCompare_F (s1.length + 1) s1 s2
theorem slCompare_h {s1 : List Int} {s2 : List Int} {r : Int} (h : slCompare_S s1 s2 = some r) : Holds Tryz.prog Gw 38 [.sl 1 (s1.map cInt), .sl 1 (s2.map cInt)] (slCompare_E r) := slCompare_Fh  h
abbrev pdigit_E (y : Bool) : CV := B y
def pdigit_F (c : Int) : Option (Bool) := bif decide (c ≥ 48) then some (decide (c ≤ 57)) else some (false)
set_option linter.unusedVariables false in
theorem pdigit_Fh {c : Int} {r : Bool} (hF : pdigit_F c = some r) : Holds Tryz.prog Gw 79 [.v (.int .u8 c)] (pdigit_E r) := by
  refine holds_of_wq tabOk mixed Tryz.func79 (by decide) rfl (Nat.le_of_ble_eq_true rfl) ?_
  refine And.intro (fun h1 => ?_) (fun h1 => ?_)
  · have hF := cpos h1 hF
    exact Or.inl ⟨rfl, congrArg (Option.map pdigit_E) hF⟩
  · have hF := cneg h1 hF
    exact Or.inl ⟨rfl, congrArg (Option.map pdigit_E) hF⟩
abbrev pdigit_S (c : Int) : Option (Bool) := pdigit_F c
theorem pdigit_h {c : Int} {r : Bool} (h : pdigit_S c = some r) : Holds Tryz.prog Gw 79 [.v (.int .u8 c)] (pdigit_E r) := pdigit_Fh  h
abbrev pformat_E (y : Str) : CV := S y
def pformat_L1 (l : List Int) : Nat → List Str → Int → Option (Str)
  | 0, _, _ => none
  | fu1 + 1, w1, v2 => bif decide (v2 < ((l.map cInt).length : Int)) then (Option.bind (ix l v2) fun x4 => Option.bind (itoa_S x4) fun y6 => bif decide (w1.length + ([y6] : List Str).length ≤ 4294967296) then pformat_L1 l fu1 (w1 ++ ([y6] : List Str)) (IntKind.i64.wrap (v2 + 1)) else none) else (Option.bind (join_S w1 ([46] : Str)) fun y9 => some (y9))
def pformat_F (N : Nat) (l : List Int) : Option (Str) := pformat_L1 l N ([] : List Str) 0
set_option linter.unusedVariables false in
theorem pformat_Fh {N : Nat} {l : List Int} {r : Str} (hF : pformat_F N l = some r) : Holds Tryz.prog Gw 42 [.sl 1 (l.map cInt)] (pformat_E r) := by
  refine holds_of_wq tabOk mixed Tryz.func42 (by decide) rfl (Nat.le_of_ble_eq_true rfl) ?_
  refine Or.inl ?_
  refine loop_oq (fun p : Nat × List Str × Int => [(3, .ap 3 0 1 (p.2.1.map cStr)), (6, .c (.sl 1 (l.map cInt))), (7, .c (I ((l.map cInt).length : Int))), (8, .c (I p.2.2))]) (fun p : Nat × List Str × Int => [(3, .tok 9 1)]) (fun p => pformat_L1 l p.1 p.2.1 p.2.2 = some r) (fun p => p.1) (N, ([] : List Str), 0) hF ⟨rfl, rfl, rfl, rfl, trivial⟩ ⟨rfl, trivial⟩ ?_
  rintro ⟨fu1, w1, v2⟩ hF
  cases fu1 with
  | zero => exact nomatch hF
  | succ fu1 =>
    refine join_no ?_
    refine And.intro (fun h3 => ?_) (fun h3 => ?_)
    · have hF := cpos h3 hF
      refine join_no ?_
      refine obind hF fun x4 h5 hF => ?_
      refine ⟨ix_nn h5, .inl rfl, _, ix_map cInt h5, ?_⟩
      refine obind hF fun y6 h7 hF => ?_
      refine Or.inl ⟨_, itoa_h h7, rfl, ?_⟩
      refine Or.inl ?_
      refine gpos hF fun h8 hF => ?_
      refine Or.inl ⟨len_all rfl, app_le h8, (w1 ++ ([y6] : List Str)).map cStr, map_app _ _ _, ?_⟩
      exact ⟨(fu1, (w1 ++ ([y6] : List Str)), (IntKind.i64.wrap (v2 + 1))), Nat.lt_succ_self _, hF, ⟨rfl, rfl, rfl, rfl, trivial⟩, ⟨rfl, trivial⟩⟩
    · have hF := cneg h3 hF
      refine obind hF fun y9 h10 hF => ?_
      refine Or.inl ⟨_, join_h h10, rfl, ?_⟩
      exact Or.inl ⟨rfl, congrArg (Option.map pformat_E) hF⟩
abbrev pformat_S (l : List Int) : Option (Str) := pformat_F (l.length + 1) l
theorem pformat_h {l : List Int} {r : Str} (h : pformat_S l = some r) : Holds Tryz.prog Gw 42 [.sl 1 (l.map cInt)] (pformat_E r) := pformat_Fh  h
abbrev pFormat_E (y : Str × Int) : CV := .tup [S y.1, I y.2]
def pFormat_F (l : List Int) : Option (Str × Int) := bif decide (((l.map cInt).length : Int) < 1) then some (([] : Str), 2) else (bif decide (((l.map cInt).length : Int) > 6) then some (([] : Str), 2) else (Option.bind (slContainsFuncI_S l (fun z0 => pFormat_1_S z0)) fun y3 => bif y3 then some (([] : Str), 2) else (Option.bind (pformat_S l) fun y6 => some (y6, 0))))
set_option linter.unusedVariables false in
theorem pFormat_Fh {l : List Int} {r : Str × Int} (hF : pFormat_F l = some r) : Holds Tryz.prog Gw 22 [.sl 1 (l.map cInt)] (pFormat_E r) := by
  refine holds_of_wq tabOk mixed Tryz.func22 (by decide) rfl (Nat.le_of_ble_eq_true rfl) ?_
  refine And.intro (fun h1 => ?_) (fun h1 => ?_)
  · have hF := cpos h1 hF
    exact Or.inl ⟨rfl, congrArg (Option.map pFormat_E) hF⟩
  · have hF := cneg h1 hF
    refine And.intro (fun h2 => ?_) (fun h2 => ?_)
    · have hF := cpos h2 hF
      exact Or.inl ⟨rfl, congrArg (Option.map pFormat_E) hF⟩
    · have hF := cneg h2 hF
      refine obind hF fun y3 h4 hF => ?_
      refine Or.inl ⟨_, slContainsFuncI_h (fun _ _ h => pFormat_1_h h) h4, rfl, ?_⟩
      refine And.intro (fun h5 => ?_) (fun h5 => ?_)
      · have hF := cpos h5 hF
        exact Or.inl ⟨rfl, congrArg (Option.map pFormat_E) hF⟩
      · have hF := cneg h5 hF
        refine obind hF fun y6 h7 hF => ?_
        refine Or.inl ⟨_, pformat_h h7, rfl, ?_⟩
        exact Or.inl ⟨rfl, congrArg (Option.map pFormat_E) hF⟩
abbrev pFormat_S (l : List Int) : Option (Str × Int) := pFormat_F l
theorem pFormat_h {l : List Int} {r : Str × Int} (h : pFormat_S l = some r) : Holds Tryz.prog Gw 22 [.sl 1 (l.map cInt)] (pFormat_E r) := pFormat_Fh  h
abbrev pParse_E (y : List Int × Int) : CV := .tup [.sl 1 (y.1.map cInt), I y.2]
def pParse_L1 (y1 : List Str) : Nat → List Int → Int → Option (List Int × Int)
  | 0, _, _ => none
  | fu1 + 1, out4, v5 => bif decide (v5 < ((y1.map cStr).length : Int)) then (Option.bind (ix y1 v5) fun x7 => Option.bind (atoi_S x7) fun y9 => bif y9.2 then some (([] : List Int), 3) else (bif decide (y9.1 < 1) then some (([] : List Int), 3) else (bif decide (y9.1 > 999) then some (([] : List Int), 3) else (Option.bind (itoa_S y9.1) fun y14 => bif (!(y14 == x7)) then some (([] : List Int), 3) else (bif decide (out4.length + ([y9.1] : List Int).length ≤ 4294967296) then pParse_L1 y1 fu1 (out4 ++ ([y9.1] : List Int)) (IntKind.i64.wrap (v5 + 1)) else none))))) else some (out4, 0)
def pParse_F (N : Nat) (code : Str) : Option (List Int × Int) := Option.bind (sSplit_S code ([46] : Str)) fun y1 => bif decide (((y1.map cStr).length : Int) > 6) then some (([] : List Int), 3) else pParse_L1 y1 N ([] : List Int) 0
set_option linter.unusedVariables false in
theorem pParse_Fh {N : Nat} {code : Str} {r : List Int × Int} (hF : pParse_F N code = some r) : Holds Tryz.prog Gw 19 [S code] (pParse_E r) := by
  refine holds_of_wq tabOk mixed Tryz.func19 (by decide) rfl (Nat.le_of_ble_eq_true rfl) ?_
  refine Or.inl ?_
  refine obind hF fun y1 h2 hF => ?_
  refine Or.inl ⟨_, sSplit_h h2, rfl, ?_⟩
  refine And.intro (fun h3 => ?_) (fun h3 => ?_)
  · have hF := cpos h3 hF
    refine Or.inl ?_
    exact Or.inl ⟨rfl, congrArg (Option.map pParse_E) hF⟩
  · have hF := cneg h3 hF
    refine Or.inl ?_
    refine loop_oq (fun p : Nat × List Int × Int => [(5, .ap 5 0 1 (p.2.1.map cInt)), (15, .c (.sl 1 (y1.map cStr))), (16, .c (I ((y1.map cStr).length : Int))), (17, .c (I p.2.2))]) (fun p : Nat × List Int × Int => [(5, .tok 3 1)]) (fun p => pParse_L1 y1 p.1 p.2.1 p.2.2 = some r) (fun p => p.1) (N, ([] : List Int), 0) hF ⟨rfl, rfl, rfl, rfl, trivial⟩ ⟨rfl, trivial⟩ ?_
    rintro ⟨fu1, out4, v5⟩ hF
    cases fu1 with
    | zero => exact nomatch hF
    | succ fu1 =>
      refine join_no ?_
      refine And.intro (fun h6 => ?_) (fun h6 => ?_)
      · have hF := cpos h6 hF
        refine join_no ?_
        refine obind hF fun x7 h8 hF => ?_
        refine ⟨ix_nn h8, .inl rfl, _, ix_map cStr h8, ?_⟩
        refine obind hF fun y9 h10 hF => ?_
        refine Or.inl ⟨_, atoi_h h10, rfl, ?_⟩
        refine Or.inr ⟨[], 0, _, _, _, _, rfl, rfl, eff_errn errTy, rfl, ?_⟩
        refine And.intro (fun h11 => ?_) (fun h11 => ?_)
        · have hF := cpos h11 hF
          refine Or.inl ?_
          exact Or.inl ⟨rfl, congrArg (Option.map pParse_E) hF⟩
        · have hF := cneg h11 hF
          refine And.intro (fun h12 => ?_) (fun h12 => ?_)
          · have hF := cpos h12 hF
            refine Or.inl ?_
            exact Or.inl ⟨rfl, congrArg (Option.map pParse_E) hF⟩
          · have hF := cneg h12 hF
            refine And.intro (fun h13 => ?_) (fun h13 => ?_)
            · have hF := cpos h13 hF
              refine Or.inl ?_
              exact Or.inl ⟨rfl, congrArg (Option.map pParse_E) hF⟩
            · have hF := cneg h13 hF
              refine obind hF fun y14 h15 hF => ?_
              refine Or.inl ⟨_, itoa_h h15, rfl, ?_⟩
              refine And.intro (fun h16 => ?_) (fun h16 => ?_)
              · have hF := cpos h16 hF
                refine Or.inl ?_
                exact Or.inl ⟨rfl, congrArg (Option.map pParse_E) hF⟩
              · have hF := cneg h16 hF
                refine Or.inl ?_
                refine gpos hF fun h17 hF => ?_
                refine Or.inl ⟨len_all rfl, app_le h17, (out4 ++ ([y9.1] : List Int)).map cInt, map_app _ _ _, ?_⟩
                exact ⟨(fu1, (out4 ++ ([y9.1] : List Int)), (IntKind.i64.wrap (v5 + 1))), Nat.lt_succ_self _, hF, ⟨rfl, rfl, rfl, rfl, trivial⟩, ⟨rfl, trivial⟩⟩
      · have hF := cneg h6 hF
        exact Or.inl ⟨rfl, congrArg (Option.map pParse_E) hF⟩
abbrev pParse_S (code : Str) : Option (List Int × Int) := pParse_F 1000 code
theorem pParse_h {code : Str} {r : List Int × Int} (h : pParse_S code = some r) : Holds Tryz.prog Gw 19 [S code] (pParse_E r) := pParse_Fh  h
abbrev pParent_E (y : Str × Bool) : CV := .tup [S y.1, B y.2]
def pParent_F (code : Str) : Option (Str × Bool) := Option.bind (pParse_S code) fun y1 => bif (y1.2 != 0) then some (([] : Str), false) else (bif (((y1.1.map cInt).length : Int) == 1) then some (([] : Str), false) else (Option.bind (slc y1.1 0 (IntKind.i64.wrap (((y1.1.map cInt).length : Int) - 1))) fun y5 => Option.bind (pformat_S y5) fun y7 => some (y7, true)))
set_option linter.unusedVariables false in
theorem pParent_Fh {code : Str} {r : Str × Bool} (hF : pParent_F code = some r) : Holds Tryz.prog Gw 20 [S code] (pParent_E r) := by
  refine holds_of_wq tabOk mixed Tryz.func20 (by decide) rfl (Nat.le_of_ble_eq_true rfl) ?_
  refine obind hF fun y1 h2 hF => ?_
  refine Or.inl ⟨_, pParse_h h2, rfl, ?_⟩
  refine And.intro (fun h3 => ?_) (fun h3 => ?_)
  · have hF := cpos h3 hF
    exact Or.inl ⟨rfl, congrArg (Option.map pParent_E) hF⟩
  · have hF := cneg h3 hF
    refine And.intro (fun h4 => ?_) (fun h4 => ?_)
    · have hF := cpos h4 hF
      exact Or.inl ⟨rfl, congrArg (Option.map pParent_E) hF⟩
    · have hF := cneg h4 hF
      refine obind hF fun y5 h6 hF => ?_
      refine Or.inr ⟨[], 0, _, _, _, _, rfl, rfl, eff_slice_h (cf := cInt) tok32.u tok3 h6, rfl, ?_⟩
      refine obind hF fun y7 h8 hF => ?_
      refine Or.inl ⟨_, pformat_h h8, rfl, ?_⟩
      exact Or.inl ⟨rfl, congrArg (Option.map pParent_E) hF⟩
abbrev pParent_S (code : Str) : Option (Str × Bool) := pParent_F code
theorem pParent_h {code : Str} {r : Str × Bool} (h : pParent_S code = some r) : Holds Tryz.prog Gw 20 [S code] (pParent_E r) := pParent_Fh  h
abbrev pboth_E (y : List Int × List Int × Bool) : CV := .tup [.sl 1 (y.1.map cInt), .sl 1 (y.2.1.map cInt), B y.2.2]
def pboth_F (a : Str) (b : Str) : Option (List Int × List Int × Bool) := Option.bind (pParse_S a) fun y1 => Option.bind (pParse_S b) fun y3 => bif (y1.2 == 0) then some (y1.1, y3.1, (y3.2 == 0)) else some (y1.1, y3.1, false)
set_option linter.unusedVariables false in
theorem pboth_Fh {a : Str} {b : Str} {r : List Int × List Int × Bool} (hF : pboth_F a b = some r) : Holds Tryz.prog Gw 37 [S a, S b] (pboth_E r) := by
  refine holds_of_wq tabOk mixed Tryz.func37 (by decide) rfl (Nat.le_of_ble_eq_true rfl) ?_
  refine Or.inl ?_
  refine Or.inl ?_
  refine obind hF fun y1 h2 hF => ?_
  refine Or.inl ⟨_, pParse_h h2, rfl, ?_⟩
  refine obind hF fun y3 h4 hF => ?_
  refine Or.inl ⟨_, pParse_h h4, rfl, ?_⟩
  refine And.intro (fun h5 => ?_) (fun h5 => ?_)
  · have hF := cpos h5 hF
    exact Or.inl ⟨rfl, congrArg (Option.map pboth_E) hF⟩
  · have hF := cneg h5 hF
    exact Or.inl ⟨rfl, congrArg (Option.map pboth_E) hF⟩
abbrev pboth_S (a : Str) (b : Str) : Option (List Int × List Int × Bool) := pboth_F a b
theorem pboth_h {a : Str} {b : Str} {r : List Int × List Int × Bool} (h : pboth_S a b = some r) : Holds Tryz.prog Gw 37 [S a, S b] (pboth_E r) := pboth_Fh  h
abbrev pCompare_E (y : Int × Int) : CV := .tup [I y.1, I y.2]
def pCompare_F (a : Str) (b : Str) : Option (Int × Int) := Option.bind (pboth_S a b) fun y1 => bif (!y1.2.2) then some (0, 3) else (Option.bind (slCompare_S y1.1 y1.2.1) fun y4 => some (y4, 0))
set_option linter.unusedVariables false in
theorem pCompare_Fh {a : Str} {b : Str} {r : Int × Int} (hF : pCompare_F a b = some r) : Holds Tryz.prog Gw 13 [S a, S b] (pCompare_E r) := by
  refine holds_of_wq tabOk mixed Tryz.func13 (by decide) rfl (Nat.le_of_ble_eq_true rfl) ?_
  refine obind hF fun y1 h2 hF => ?_
  refine Or.inl ⟨_, pboth_h h2, rfl, ?_⟩
  refine And.intro (fun h3 => ?_) (fun h3 => ?_)
  · have hF := cpos h3 hF
    exact Or.inl ⟨rfl, congrArg (Option.map pCompare_E) hF⟩
  · have hF := cneg h3 hF
    refine obind hF fun y4 h5 hF => ?_
    refine Or.inl ⟨_, slCompare_h h5, rfl, ?_⟩
    exact Or.inl ⟨rfl, congrArg (Option.map pCompare_E) hF⟩
abbrev pCompare_S (a : Str) (b : Str) : Option (Int × Int) := pCompare_F a b
theorem pCompare_h {a : Str} {b : Str} {r : Int × Int} (h : pCompare_S a b = some r) : Holds Tryz.prog Gw 13 [S a, S b] (pCompare_E r) := pCompare_Fh  h
abbrev pWithin_E (y : Bool) : CV := B y
def pWithin_F (code : Str) (above : Str) : Option (Bool) := Option.bind (pboth_S code above) fun y1 => bif y1.2.2 then (bif decide (((y1.1.map cInt).length : Int) ≥ ((y1.2.1.map cInt).length : Int)) then (Option.bind (slc y1.1 0 ((y1.2.1.map cInt).length : Int)) fun y5 => Option.bind (slEqual_S y5 y1.2.1) fun y7 => some (y7)) else some (false)) else some (false)
set_option linter.unusedVariables false in
theorem pWithin_Fh {code : Str} {above : Str} {r : Bool} (hF : pWithin_F code above = some r) : Holds Tryz.prog Gw 17 [S code, S above] (pWithin_E r) := by
  refine holds_of_wq tabOk mixed Tryz.func17 (by decide) rfl (Nat.le_of_ble_eq_true rfl) ?_
  refine obind hF fun y1 h2 hF => ?_
  refine Or.inl ⟨_, pboth_h h2, rfl, ?_⟩
  refine And.intro (fun h3 => ?_) (fun h3 => ?_)
  · have hF := cpos h3 hF
    refine And.intro (fun h4 => ?_) (fun h4 => ?_)
    · have hF := cpos h4 hF
      refine obind hF fun y5 h6 hF => ?_
      refine Or.inr ⟨[], 0, _, _, _, _, rfl, rfl, eff_slice_h (cf := cInt) tok32.u tok3 h6, rfl, ?_⟩
      refine obind hF fun y7 h8 hF => ?_
      refine Or.inl ⟨_, slEqual_h h8, rfl, ?_⟩
      exact Or.inl ⟨rfl, congrArg (Option.map pWithin_E) hF⟩
    · have hF := cneg h4 hF
      exact Or.inl ⟨rfl, congrArg (Option.map pWithin_E) hF⟩
  · have hF := cneg h3 hF
    exact Or.inl ⟨rfl, congrArg (Option.map pWithin_E) hF⟩
abbrev pWithin_S (code : Str) (above : Str) : Option (Bool) := pWithin_F code above
theorem pWithin_h {code : Str} {above : Str} {r : Bool} (h : pWithin_S code above = some r) : Holds Tryz.prog Gw 17 [S code, S above] (pWithin_E r) := pWithin_Fh  h
abbrev pFree_1_E (y : Bool) : CV := B y
def pFree_1_F (s : Str) : Option (Bool) := Option.bind (pParse_S s) fun y1 => some ((y1.2 != 0))
set_option linter.unusedVariables false in
theorem pFree_1_Fh {s : Str} {r : Bool} (hF : pFree_1_F s = some r) : Holds Tryz.prog Gw 40 [S s] (pFree_1_E r) := by
  refine holds_of_wq tabOk mixed Tryz.func40 (by decide) rfl (Nat.le_of_ble_eq_true rfl) ?_
  refine obind hF fun y1 h2 hF => ?_
  refine Or.inl ⟨_, pParse_h h2, rfl, ?_⟩
  exact Or.inl ⟨rfl, congrArg (Option.map pFree_1_E) hF⟩
abbrev pFree_1_S (s : Str) : Option (Bool) := pFree_1_F s
theorem pFree_1_h {s : Str} {r : Bool} (h : pFree_1_S s = some r) : Holds Tryz.prog Gw 40 [S s] (pFree_1_E r) := pFree_1_Fh  h
end Go.Proofs.YtihjmnhamaicpaaGreatDoor
