/- Functions of the program as functions of Lean, each with its contract (printed by a program). -/
import Derived.Test.YtmdhahfminiilaaDoorLibD2
namespace Go.Proofs.YtmdhahfminiilaaDoor
open Go Go.Abs
set_option maxRecDepth 10000
set_option maxHeartbeats 400000
abbrev pranged_E (y : Bool) : CV := B y
def pranged_F (unit : Int) (version : Int) : Option (Bool) := bif decide (unit ≥ 1) then (bif decide (unit ≤ 1073741824) then (bif decide (version ≥ 1) then some (decide (version ≤ 64)) else some (false)) else some (false)) else some (false)
set_option linter.unusedVariables false in
theorem pranged_Fh {unit : Int} {version : Int} {r : Bool} (hF : pranged_F unit version = some r) : Holds Tryd.prog Gw 28 [I unit, I version] (pranged_E r) := by
  refine holds_of_wq tabOk mixed Tryd.func28 (by decide) rfl (Nat.le_of_ble_eq_true rfl) ?_
  refine And.intro (fun h1 => ?_) (fun h1 => ?_)
  · have hF := cpos h1 hF
    refine And.intro (fun h2 => ?_) (fun h2 => ?_)
    · have hF := cpos h2 hF
      refine And.intro (fun h3 => ?_) (fun h3 => ?_)
      · have hF := cpos h3 hF
        exact Or.inl ⟨rfl, congrArg (Option.map pranged_E) hF⟩
      · have hF := cneg h3 hF
        exact Or.inl ⟨rfl, congrArg (Option.map pranged_E) hF⟩
    · have hF := cneg h2 hF
      exact Or.inl ⟨rfl, congrArg (Option.map pranged_E) hF⟩
  · have hF := cneg h1 hF
    exact Or.inl ⟨rfl, congrArg (Option.map pranged_E) hF⟩
abbrev pranged_S (unit : Int) (version : Int) : Option (Bool) := pranged_F unit version
theorem pranged_h {unit : Int} {version : Int} {r : Bool} (h : pranged_S unit version = some r) : Holds Tryd.prog Gw 28 [I unit, I version] (pranged_E r) := pranged_Fh  h
abbrev pcheck_E (y : Str) : CV := S y
def pcheck_F (unit : Int) (version : Int) : Option (Str) := Option.bind (itoa_S unit) fun y1 => Option.bind (itoa_S version) fun y3 => bif decide (y1.length + y3.length ≤ 9223372036854775807) then Option.bind (atoi_S (y1 ++ y3)) fun y6 => some ((b2s ([(IntKind.u8.wrap (IntKind.i64.wrap (48 + (IntKind.i64.wrap (Int.tdiv (IntKind.i64.wrap (98 - (Int.tmod (IntKind.i64.wrap (100 * y6.1)) 97))) 10))))), (IntKind.u8.wrap (IntKind.i64.wrap (48 + (Int.tmod (IntKind.i64.wrap (98 - (Int.tmod (IntKind.i64.wrap (100 * y6.1)) 97))) 10))))] : List Int))) else none
set_option linter.unusedVariables false in
theorem pcheck_Fh {unit : Int} {version : Int} {r : Str} (hF : pcheck_F unit version = some r) : Holds Tryd.prog Gw 30 [I unit, I version] (pcheck_E r) := by
  refine holds_of_wq tabOk mixed Tryd.func30 (by decide) rfl (Nat.le_of_ble_eq_true rfl) ?_
  refine obind hF fun y1 h2 hF => ?_
  refine Or.inl ⟨_, itoa_h h2, rfl, ?_⟩
  refine obind hF fun y3 h4 hF => ?_
  refine Or.inl ⟨_, itoa_h h4, rfl, ?_⟩
  refine gpos hF fun h5 hF => ?_
  refine ⟨of_decide_eq_true h5, _, scat _ _, ?_⟩
  refine obind hF fun y6 h7 hF => ?_
  refine Or.inl ⟨_, atoi_h h7, rfl, ?_⟩
  refine ⟨rfl, by decide, ?_⟩
  refine ⟨rfl, by decide, ?_⟩
  refine ⟨rfl, by decide, ?_⟩
  refine Or.inl ?_
  refine Or.inr ⟨[], 0, _, _, _, _, rfl, rfl, eff_b2s (l := ([(IntKind.u8.wrap (IntKind.i64.wrap (48 + (IntKind.i64.wrap (Int.tdiv (IntKind.i64.wrap (98 - (Int.tmod (IntKind.i64.wrap (100 * y6.1)) 97))) 10))))), (IntKind.u8.wrap (IntKind.i64.wrap (48 + (Int.tmod (IntKind.i64.wrap (98 - (Int.tmod (IntKind.i64.wrap (100 * y6.1)) 97))) 10))))] : List Int)) tok49.u tok5.u tok9.u, rfl, ?_⟩
  exact Or.inl ⟨rfl, congrArg (Option.map pcheck_E) hF⟩
abbrev pcheck_S (unit : Int) (version : Int) : Option (Str) := pcheck_F unit version
theorem pcheck_h {unit : Int} {version : Int} {r : Str} (h : pcheck_S unit version = some r) : Holds Tryd.prog Gw 30 [I unit, I version] (pcheck_E r) := pcheck_Fh  h
abbrev pFormat_E (y : Str × Int) : CV := .tup [S y.1, I y.2]
def pFormat_F (unit : Int) (version : Int) : Option (Str × Int) := Option.bind (pranged_S unit version) fun y1 => bif (!y1) then some (([] : Str), 2) else (Option.bind (itoa_S unit) fun y4 => bif decide (y4.length + ([45] : Str).length ≤ 9223372036854775807) then Option.bind (itoa_S version) fun y7 => bif decide ((y4 ++ ([45] : Str)).length + y7.length ≤ 9223372036854775807) then bif decide (((y4 ++ ([45] : Str)) ++ y7).length + ([45] : Str).length ≤ 9223372036854775807) then Option.bind (pcheck_S unit version) fun y11 => bif decide ((((y4 ++ ([45] : Str)) ++ y7) ++ ([45] : Str)).length + y11.length ≤ 9223372036854775807) then some (((((y4 ++ ([45] : Str)) ++ y7) ++ ([45] : Str)) ++ y11), 0) else none else none else none else none)
set_option linter.unusedVariables false in
theorem pFormat_Fh {unit : Int} {version : Int} {r : Str × Int} (hF : pFormat_F unit version = some r) : Holds Tryd.prog Gw 9 [I unit, I version] (pFormat_E r) := by
  refine holds_of_wq tabOk mixed Tryd.func9 (by decide) rfl (Nat.le_of_ble_eq_true rfl) ?_
  refine obind hF fun y1 h2 hF => ?_
  refine Or.inl ⟨_, pranged_h h2, rfl, ?_⟩
  refine And.intro (fun h3 => ?_) (fun h3 => ?_)
  · have hF := cpos h3 hF
    exact Or.inl ⟨rfl, congrArg (Option.map pFormat_E) hF⟩
  · have hF := cneg h3 hF
    refine obind hF fun y4 h5 hF => ?_
    refine Or.inl ⟨_, itoa_h h5, rfl, ?_⟩
    refine gpos hF fun h6 hF => ?_
    refine ⟨of_decide_eq_true h6, _, scat _ _, ?_⟩
    refine obind hF fun y7 h8 hF => ?_
    refine Or.inl ⟨_, itoa_h h8, rfl, ?_⟩
    refine gpos hF fun h9 hF => ?_
    refine ⟨of_decide_eq_true h9, _, scat _ _, ?_⟩
    refine gpos hF fun h10 hF => ?_
    refine ⟨of_decide_eq_true h10, _, scat _ _, ?_⟩
    refine obind hF fun y11 h12 hF => ?_
    refine Or.inl ⟨_, pcheck_h h12, rfl, ?_⟩
    refine gpos hF fun h13 hF => ?_
    refine ⟨of_decide_eq_true h13, _, scat _ _, ?_⟩
    exact Or.inl ⟨rfl, congrArg (Option.map pFormat_E) hF⟩
abbrev pFormat_S (unit : Int) (version : Int) : Option (Str × Int) := pFormat_F unit version
theorem pFormat_h {unit : Int} {version : Int} {r : Str × Int} (h : pFormat_S unit version = some r) : Holds Tryd.prog Gw 9 [I unit, I version] (pFormat_E r) := pFormat_Fh  h
abbrev pParse_1_E (y : Int) : CV := I y
def pParse_1_F (s : Str) : Option (Int) := Option.bind (parseUint_S s 10 40) fun y1 => bif y1.2 then some (0) else (Option.bind (ix s 0) fun b4 => bif ((b4.toNat : Int) == 48) then some (0) else some ((IntKind.i64.wrap y1.1)))
set_option linter.unusedVariables false in
theorem pParse_1_Fh {s : Str} {r : Int} (hF : pParse_1_F s = some r) : Holds Tryd.prog Gw 34 [S s] (pParse_1_E r) := by
  refine holds_of_wq tabOk mixed Tryd.func34 (by decide) rfl (Nat.le_of_ble_eq_true rfl) ?_
  refine obind hF fun y1 h2 hF => ?_
  refine Or.inl ⟨_, parseUint_h h2, rfl, ?_⟩
  refine Or.inr ⟨[], 0, _, _, _, _, rfl, rfl, eff_errn errTy, rfl, ?_⟩
  refine And.intro (fun h3 => ?_) (fun h3 => ?_)
  · have hF := cpos h3 hF
    exact Or.inl ⟨rfl, congrArg (Option.map pParse_1_E) hF⟩
  · have hF := cneg h3 hF
    refine Or.inl ?_
    refine obind hF fun b4 h5 hF => ?_
    refine ⟨ix_nn h5, _, ix_str h5, ?_⟩
    refine And.intro (fun h6 => ?_) (fun h6 => ?_)
    · have hF := cpos h6 hF
      exact Or.inl ⟨rfl, congrArg (Option.map pParse_1_E) hF⟩
    · have hF := cneg h6 hF
      exact Or.inl ⟨rfl, congrArg (Option.map pParse_1_E) hF⟩
abbrev pParse_1_S (s : Str) : Option (Int) := pParse_1_F s
theorem pParse_1_h {s : Str} {r : Int} (h : pParse_1_S s = some r) : Holds Tryd.prog Gw 34 [S s] (pParse_1_E r) := pParse_1_Fh  h
abbrev pParse_E (y : Int × Int × Int) : CV := .tup [I y.1, I y.2.1, I y.2.2]
def pParse_F (code : Str) : Option (Int × Int × Int) := Option.bind (sSplit_S code ([45] : Str)) fun y1 => bif (((y1.map cStr).length : Int) != 3) then some (0, 0, 3) else (Option.bind (ix y1 2) fun x4 => bif ((x4.length : Int) != 2) then some (0, 0, 3) else (Option.bind (ix y1 0) fun x7 => Option.bind (pParse_1_S x7) fun y9 => Option.bind (ix y1 1) fun x11 => Option.bind (pParse_1_S x11) fun y13 => Option.bind (pranged_S y9 y13) fun y15 => bif (!y15) then some (0, 0, 3) else (Option.bind (ix y1 2) fun x18 => Option.bind (sTrim_S x18 ([48, 49, 50, 51, 52, 53, 54, 55, 56, 57] : Str)) fun y20 => bif (!(y20 == ([] : Str))) then some (0, 0, 3) else (Option.bind (ix y1 2) fun x23 => Option.bind (pcheck_S y9 y13) fun y25 => bif (!(x23 == y25)) then some (0, 0, 14) else some (y9, y13, 0)))))
set_option linter.unusedVariables false in
theorem pParse_Fh {code : Str} {r : Int × Int × Int} (hF : pParse_F code = some r) : Holds Tryd.prog Gw 11 [S code] (pParse_E r) := by
  refine holds_of_wq tabOk mixed Tryd.func11 (by decide) rfl (Nat.le_of_ble_eq_true rfl) ?_
  refine obind hF fun y1 h2 hF => ?_
  refine Or.inl ⟨_, sSplit_h h2, rfl, ?_⟩
  refine And.intro (fun h3 => ?_) (fun h3 => ?_)
  · have hF := cpos h3 hF
    exact Or.inl ⟨rfl, congrArg (Option.map pParse_E) hF⟩
  · have hF := cneg h3 hF
    refine obind hF fun x4 h5 hF => ?_
    refine ⟨ix_nn h5, .inl rfl, _, ix_map cStr h5, ?_⟩
    refine And.intro (fun h6 => ?_) (fun h6 => ?_)
    · have hF := cpos h6 hF
      exact Or.inl ⟨rfl, congrArg (Option.map pParse_E) hF⟩
    · have hF := cneg h6 hF
      refine obind hF fun x7 h8 hF => ?_
      refine ⟨ix_nn h8, .inl rfl, _, ix_map cStr h8, ?_⟩
      refine obind hF fun y9 h10 hF => ?_
      refine Or.inl ⟨_, pParse_1_h h10, rfl, ?_⟩
      refine obind hF fun x11 h12 hF => ?_
      refine ⟨ix_nn h12, .inl rfl, _, ix_map cStr h12, ?_⟩
      refine obind hF fun y13 h14 hF => ?_
      refine Or.inl ⟨_, pParse_1_h h14, rfl, ?_⟩
      refine And.intro (by kernel_rfl) ?_
      refine obind hF fun y15 h16 hF => ?_
      refine Or.inl ⟨_, pranged_h h16, rfl, ?_⟩
      refine And.intro (fun h17 => ?_) (fun h17 => ?_)
      · have hF := cpos h17 hF
        exact Or.inl ⟨rfl, congrArg (Option.map pParse_E) hF⟩
      · have hF := cneg h17 hF
        refine obind hF fun x18 h19 hF => ?_
        refine ⟨ix_nn h19, .inl rfl, _, ix_map cStr h19, ?_⟩
        refine obind hF fun y20 h21 hF => ?_
        refine Or.inl ⟨_, sTrim_h h21, rfl, ?_⟩
        refine And.intro (fun h22 => ?_) (fun h22 => ?_)
        · have hF := cpos h22 hF
          exact Or.inl ⟨rfl, congrArg (Option.map pParse_E) hF⟩
        · have hF := cneg h22 hF
          refine obind hF fun x23 h24 hF => ?_
          refine ⟨ix_nn h24, .inl rfl, _, ix_map cStr h24, ?_⟩
          refine obind hF fun y25 h26 hF => ?_
          refine Or.inl ⟨_, pcheck_h h26, rfl, ?_⟩
          refine And.intro (by kernel_rfl) ?_
          refine And.intro (fun h27 => ?_) (fun h27 => ?_)
          · have hF := cpos h27 hF
            exact Or.inl ⟨rfl, congrArg (Option.map pParse_E) hF⟩
          · have hF := cneg h27 hF
            exact Or.inl ⟨rfl, congrArg (Option.map pParse_E) hF⟩
abbrev pParse_S (code : Str) : Option (Int × Int × Int) := pParse_F code
theorem pParse_h {code : Str} {r : Int × Int × Int} (h : pParse_S code = some r) : Holds Tryd.prog Gw 11 [S code] (pParse_E r) := pParse_Fh  h
abbrev rranged_E (y : Bool) : CV := B y
def rranged_F (unit : Int) (version : Int) : Option (Bool) := bif decide (unit ≥ 1) then (bif decide (unit ≤ 1073741824) then (bif decide (version ≥ 1) then some (decide (version ≤ 64)) else some (false)) else some (false)) else some (false)
set_option linter.unusedVariables false in
theorem rranged_Fh {unit : Int} {version : Int} {r : Bool} (hF : rranged_F unit version = some r) : Holds Tryd.prog Gw 31 [I unit, I version] (rranged_E r) := by
  refine holds_of_wq tabOk mixed Tryd.func31 (by decide) rfl (Nat.le_of_ble_eq_true rfl) ?_
  refine And.intro (fun h1 => ?_) (fun h1 => ?_)
  · have hF := cpos h1 hF
    refine And.intro (fun h2 => ?_) (fun h2 => ?_)
    · have hF := cpos h2 hF
      refine And.intro (fun h3 => ?_) (fun h3 => ?_)
      · have hF := cpos h3 hF
        exact Or.inl ⟨rfl, congrArg (Option.map rranged_E) hF⟩
      · have hF := cneg h3 hF
        exact Or.inl ⟨rfl, congrArg (Option.map rranged_E) hF⟩
    · have hF := cneg h2 hF
      exact Or.inl ⟨rfl, congrArg (Option.map rranged_E) hF⟩
  · have hF := cneg h1 hF
    exact Or.inl ⟨rfl, congrArg (Option.map rranged_E) hF⟩
abbrev rranged_S (unit : Int) (version : Int) : Option (Bool) := rranged_F unit version
theorem rranged_h {unit : Int} {version : Int} {r : Bool} (h : rranged_S unit version = some r) : Holds Tryd.prog Gw 31 [I unit, I version] (rranged_E r) := rranged_Fh  h
abbrev rdigits_E (y : Str) : CV := S y
def rdigits_F (unit : Int) (version : Int) : Option (Str) := bif decide (version ≥ 10) then (bif decide ((IntKind.i64.wrap (98 - (Int.tmod (IntKind.i64.wrap (100 * (IntKind.i64.wrap ((IntKind.i64.wrap (10 * (IntKind.i64.wrap (10 * unit)))) + version)))) 97))) < 10) then (Option.bind (itoa_S (IntKind.i64.wrap (98 - (Int.tmod (IntKind.i64.wrap (100 * (IntKind.i64.wrap ((IntKind.i64.wrap (10 * (IntKind.i64.wrap (10 * unit)))) + version)))) 97)))) fun y3 => bif decide (([48] : Str).length + y3.length ≤ 9223372036854775807) then some ((([48] : Str) ++ y3)) else none) else (Option.bind (itoa_S (IntKind.i64.wrap (98 - (Int.tmod (IntKind.i64.wrap (100 * (IntKind.i64.wrap ((IntKind.i64.wrap (10 * (IntKind.i64.wrap (10 * unit)))) + version)))) 97)))) fun y6 => some (y6))) else (bif decide ((IntKind.i64.wrap (98 - (Int.tmod (IntKind.i64.wrap (100 * (IntKind.i64.wrap ((IntKind.i64.wrap (10 * unit)) + version)))) 97))) < 10) then (Option.bind (itoa_S (IntKind.i64.wrap (98 - (Int.tmod (IntKind.i64.wrap (100 * (IntKind.i64.wrap ((IntKind.i64.wrap (10 * unit)) + version)))) 97)))) fun y10 => bif decide (([48] : Str).length + y10.length ≤ 9223372036854775807) then some ((([48] : Str) ++ y10)) else none) else (Option.bind (itoa_S (IntKind.i64.wrap (98 - (Int.tmod (IntKind.i64.wrap (100 * (IntKind.i64.wrap ((IntKind.i64.wrap (10 * unit)) + version)))) 97)))) fun y13 => some (y13)))
set_option linter.unusedVariables false in
theorem rdigits_Fh {unit : Int} {version : Int} {r : Str} (hF : rdigits_F unit version = some r) : Holds Tryd.prog Gw 32 [I unit, I version] (rdigits_E r) := by
  refine holds_of_wq tabOk mixed Tryd.func32 (by decide) rfl (Nat.le_of_ble_eq_true rfl) ?_
  refine And.intro (fun h1 => ?_) (fun h1 => ?_)
  · have hF := cpos h1 hF
    refine ⟨rfl, by decide, ?_⟩
    refine And.intro (fun h2 => ?_) (fun h2 => ?_)
    · have hF := cpos h2 hF
      refine obind hF fun y3 h4 hF => ?_
      refine Or.inl ⟨_, itoa_h h4, rfl, ?_⟩
      refine gpos hF fun h5 hF => ?_
      refine ⟨of_decide_eq_true h5, _, scat _ _, ?_⟩
      exact Or.inl ⟨rfl, congrArg (Option.map rdigits_E) hF⟩
    · have hF := cneg h2 hF
      refine obind hF fun y6 h7 hF => ?_
      refine Or.inl ⟨_, itoa_h h7, rfl, ?_⟩
      exact Or.inl ⟨rfl, congrArg (Option.map rdigits_E) hF⟩
  · have hF := cneg h1 hF
    refine ⟨rfl, by decide, ?_⟩
    refine And.intro (fun h9 => ?_) (fun h9 => ?_)
    · have hF := cpos h9 hF
      refine obind hF fun y10 h11 hF => ?_
      refine Or.inl ⟨_, itoa_h h11, rfl, ?_⟩
      refine gpos hF fun h12 hF => ?_
      refine ⟨of_decide_eq_true h12, _, scat _ _, ?_⟩
      exact Or.inl ⟨rfl, congrArg (Option.map rdigits_E) hF⟩
    · have hF := cneg h9 hF
      refine obind hF fun y13 h14 hF => ?_
      refine Or.inl ⟨_, itoa_h h14, rfl, ?_⟩
      exact Or.inl ⟨rfl, congrArg (Option.map rdigits_E) hF⟩
abbrev rdigits_S (unit : Int) (version : Int) : Option (Str) := rdigits_F unit version
theorem rdigits_h {unit : Int} {version : Int} {r : Str} (h : rdigits_S unit version = some r) : Holds Tryd.prog Gw 32 [I unit, I version] (rdigits_E r) := rdigits_Fh  h
abbrev rFormat_E (y : Str × Int) : CV := .tup [S y.1, I y.2]
def rFormat_F (unit : Int) (version : Int) : Option (Str × Int) := Option.bind (rranged_S unit version) fun y1 => bif (!y1) then some (([] : Str), 2) else (Option.bind (itoa_S unit) fun y4 => bif decide (y4.length + ([45] : Str).length ≤ 9223372036854775807) then Option.bind (itoa_S version) fun y7 => bif decide ((y4 ++ ([45] : Str)).length + y7.length ≤ 9223372036854775807) then bif decide (((y4 ++ ([45] : Str)) ++ y7).length + ([45] : Str).length ≤ 9223372036854775807) then Option.bind (rdigits_S unit version) fun y11 => bif decide ((((y4 ++ ([45] : Str)) ++ y7) ++ ([45] : Str)).length + y11.length ≤ 9223372036854775807) then some (((((y4 ++ ([45] : Str)) ++ y7) ++ ([45] : Str)) ++ y11), 0) else none else none else none else none)
set_option linter.unusedVariables false in
theorem rFormat_Fh {unit : Int} {version : Int} {r : Str × Int} (hF : rFormat_F unit version = some r) : Holds Tryd.prog Gw 10 [I unit, I version] (rFormat_E r) := by
  refine holds_of_wq tabOk mixed Tryd.func10 (by decide) rfl (Nat.le_of_ble_eq_true rfl) ?_
  refine obind hF fun y1 h2 hF => ?_
  refine Or.inl ⟨_, rranged_h h2, rfl, ?_⟩
  refine And.intro (fun h3 => ?_) (fun h3 => ?_)
  · have hF := cpos h3 hF
    exact Or.inl ⟨rfl, congrArg (Option.map rFormat_E) hF⟩
  · have hF := cneg h3 hF
    refine obind hF fun y4 h5 hF => ?_
    refine Or.inl ⟨_, itoa_h h5, rfl, ?_⟩
    refine gpos hF fun h6 hF => ?_
    refine ⟨of_decide_eq_true h6, _, scat _ _, ?_⟩
    refine obind hF fun y7 h8 hF => ?_
    refine Or.inl ⟨_, itoa_h h8, rfl, ?_⟩
    refine gpos hF fun h9 hF => ?_
    refine ⟨of_decide_eq_true h9, _, scat _ _, ?_⟩
    refine gpos hF fun h10 hF => ?_
    refine ⟨of_decide_eq_true h10, _, scat _ _, ?_⟩
    refine obind hF fun y11 h12 hF => ?_
    refine Or.inl ⟨_, rdigits_h h12, rfl, ?_⟩
    refine gpos hF fun h13 hF => ?_
    refine ⟨of_decide_eq_true h13, _, scat _ _, ?_⟩
    exact Or.inl ⟨rfl, congrArg (Option.map rFormat_E) hF⟩
abbrev rFormat_S (unit : Int) (version : Int) : Option (Str × Int) := rFormat_F unit version
theorem rFormat_h {unit : Int} {version : Int} {r : Str × Int} (h : rFormat_S unit version = some r) : Holds Tryd.prog Gw 10 [I unit, I version] (rFormat_E r) := rFormat_Fh  h
abbrev rnumber_E (y : Int × Int) : CV := .tup [I y.1, I y.2]
def rnumber_L1 (s : Str) (most : Int) : Nat → Int → Int → Option (Int × Int)
  | 0, _, _ => none
  | fu1 + 1, n1, i2 => bif decide (i2 < (s.length : Int)) then (Option.bind (ix s i2) fun b4 => bif decide ((b4.toNat : Int) ≥ 48) then (Option.bind (ix s i2) fun b7 => bif decide ((b7.toNat : Int) ≤ 57) then (Option.bind (ix s i2) fun b10 => bif ((IntKind.i64.wrap ((IntKind.i64.wrap (10 * n1)) + (IntKind.i64.wrap (IntKind.u8.wrap ((b10.toNat : Int) - 48))))) == 0) then some (0, 0) else (bif decide ((IntKind.i64.wrap ((IntKind.i64.wrap (10 * n1)) + (IntKind.i64.wrap (IntKind.u8.wrap ((b10.toNat : Int) - 48))))) > most) then some (0, 0) else rnumber_L1 s most fu1 (IntKind.i64.wrap ((IntKind.i64.wrap (10 * n1)) + (IntKind.i64.wrap (IntKind.u8.wrap ((b10.toNat : Int) - 48))))) (IntKind.i64.wrap (i2 + 1)))) else some (n1, i2)) else some (n1, i2)) else some (n1, i2)
def rnumber_F (N : Nat) (s : Str) (most : Int) : Option (Int × Int) := rnumber_L1 s most N 0 0
set_option linter.unusedVariables false in
theorem rnumber_Fh {N : Nat} {s : Str} {most : Int} {r : Int × Int} (hF : rnumber_F N s most = some r) : Holds Tryd.prog Gw 37 [S s, I most] (rnumber_E r) := by
  refine holds_of_wq tabOk mixed Tryd.func37 (by decide) rfl (Nat.le_of_ble_eq_true rfl) ?_
  refine join_no ?_
  refine loop_oq (fun p : Nat × Int × Int => [(0, .c (S s)), (1, .c (I most)), (6, .c (I p.2.1)), (7, .c (I p.2.2))]) (fun _ => []) (fun p => rnumber_L1 s most p.1 p.2.1 p.2.2 = some r) (fun p => p.1) (N, 0, 0) hF ⟨rfl, rfl, rfl, rfl, trivial⟩ trivial ?_
  rintro ⟨fu1, n1, i2⟩ hF
  cases fu1 with
  | zero => exact nomatch hF
  | succ fu1 =>
    refine And.intro (fun h3 => ?_) (fun h3 => ?_)
    · have hF := cpos h3 hF
      refine Or.inl ?_
      refine obind hF fun b4 h5 hF => ?_
      refine ⟨ix_nn h5, _, ix_str h5, ?_⟩
      refine And.intro (fun h6 => ?_) (fun h6 => ?_)
      · have hF := cpos h6 hF
        refine Or.inl ?_
        refine obind hF fun b7 h8 hF => ?_
        refine ⟨ix_nn h8, _, ix_str h8, ?_⟩
        refine And.intro (fun h9 => ?_) (fun h9 => ?_)
        · have hF := cpos h9 hF
          refine Or.inl ?_
          refine obind hF fun b10 h11 hF => ?_
          refine ⟨ix_nn h11, _, ix_str h11, ?_⟩
          refine And.intro (fun h12 => ?_) (fun h12 => ?_)
          · have hF := cpos h12 hF
            exact Or.inl ⟨rfl, congrArg (Option.map rnumber_E) hF⟩
          · have hF := cneg h12 hF
            refine And.intro (fun h13 => ?_) (fun h13 => ?_)
            · have hF := cpos h13 hF
              exact Or.inl ⟨rfl, congrArg (Option.map rnumber_E) hF⟩
            · have hF := cneg h13 hF
              exact ⟨(fu1, (IntKind.i64.wrap ((IntKind.i64.wrap (10 * n1)) + (IntKind.i64.wrap (IntKind.u8.wrap ((b10.toNat : Int) - 48))))), (IntKind.i64.wrap (i2 + 1))), Nat.lt_succ_self _, hF, ⟨rfl, rfl, rfl, rfl, trivial⟩, trivial⟩
        · have hF := cneg h9 hF
          exact Or.inl ⟨rfl, congrArg (Option.map rnumber_E) hF⟩
      · have hF := cneg h6 hF
        exact Or.inl ⟨rfl, congrArg (Option.map rnumber_E) hF⟩
    · have hF := cneg h3 hF
      exact Or.inl ⟨rfl, congrArg (Option.map rnumber_E) hF⟩
abbrev rnumber_S (s : Str) (most : Int) : Option (Int × Int) := rnumber_F 2000 s most
theorem rnumber_h {s : Str} {most : Int} {r : Int × Int} (h : rnumber_S s most = some r) : Holds Tryd.prog Gw 37 [S s, I most] (rnumber_E r) := rnumber_Fh  h
abbrev rdigit_E (y : Bool) : CV := B y
def rdigit_F (c : Int) : Option (Bool) := bif decide (c ≥ 48) then some (decide (c ≤ 57)) else some (false)
set_option linter.unusedVariables false in
theorem rdigit_Fh {c : Int} {r : Bool} (hF : rdigit_F c = some r) : Holds Tryd.prog Gw 38 [.v (.int .u8 c)] (rdigit_E r) := by
  refine holds_of_wq tabOk mixed Tryd.func38 (by decide) rfl (Nat.le_of_ble_eq_true rfl) ?_
  refine And.intro (fun h1 => ?_) (fun h1 => ?_)
  · have hF := cpos h1 hF
    exact Or.inl ⟨rfl, congrArg (Option.map rdigit_E) hF⟩
  · have hF := cneg h1 hF
    exact Or.inl ⟨rfl, congrArg (Option.map rdigit_E) hF⟩
abbrev rdigit_S (c : Int) : Option (Bool) := rdigit_F c
theorem rdigit_h {c : Int} {r : Bool} (h : rdigit_S c = some r) : Holds Tryd.prog Gw 38 [.v (.int .u8 c)] (rdigit_E r) := rdigit_Fh  h
abbrev rParse_E (y : Int × Int × Int) : CV := .tup [I y.1, I y.2.1, I y.2.2]
def rParse_F (code : Str) : Option (Int × Int × Int) := Option.bind (rnumber_S code 1073741824) fun y1 => bif (y1.2 == 0) then some (0, 0, 3) else (bif (y1.2 == (code.length : Int)) then some (0, 0, 3) else (Option.bind (ix code y1.2) fun b5 => bif ((b5.toNat : Int) != 45) then some (0, 0, 3) else (Option.bind (slc code (IntKind.i64.wrap (y1.2 + 1)) (code.length : Int)) fun y8 => Option.bind (rnumber_S y8 64) fun y10 => bif (y10.2 == 0) then some (0, 0, 3) else (bif ((y8.length : Int) != (IntKind.i64.wrap (y10.2 + 3))) then some (0, 0, 3) else (Option.bind (ix y8 y10.2) fun b14 => bif ((b14.toNat : Int) != 45) then some (0, 0, 3) else (Option.bind (ix y8 (IntKind.i64.wrap (y10.2 + 1))) fun b17 => Option.bind (rdigit_S (b17.toNat : Int)) fun y19 => bif (!y19) then some (0, 0, 3) else (Option.bind (ix y8 (IntKind.i64.wrap (y10.2 + 2))) fun b22 => Option.bind (rdigit_S (b22.toNat : Int)) fun y24 => bif (!y24) then some (0, 0, 3) else (Option.bind (slc y8 (IntKind.i64.wrap (y10.2 + 1)) (y8.length : Int)) fun y27 => Option.bind (rdigits_S y1.1 y10.1) fun y29 => bif (!(y27 == y29)) then some (0, 0, 14) else some (y1.1, y10.1, 0)))))))))
set_option linter.unusedVariables false in
theorem rParse_Fh {code : Str} {r : Int × Int × Int} (hF : rParse_F code = some r) : Holds Tryd.prog Gw 12 [S code] (rParse_E r) := by
  refine holds_of_wq tabOk mixed Tryd.func12 (by decide) rfl (Nat.le_of_ble_eq_true rfl) ?_
  refine obind hF fun y1 h2 hF => ?_
  refine Or.inl ⟨_, rnumber_h h2, rfl, ?_⟩
  refine And.intro (fun h3 => ?_) (fun h3 => ?_)
  · have hF := cpos h3 hF
    exact Or.inl ⟨rfl, congrArg (Option.map rParse_E) hF⟩
  · have hF := cneg h3 hF
    refine And.intro (fun h4 => ?_) (fun h4 => ?_)
    · have hF := cpos h4 hF
      exact Or.inl ⟨rfl, congrArg (Option.map rParse_E) hF⟩
    · have hF := cneg h4 hF
      refine Or.inl ?_
      refine obind hF fun b5 h6 hF => ?_
      refine ⟨ix_nn h6, _, ix_str h6, ?_⟩
      refine And.intro (fun h7 => ?_) (fun h7 => ?_)
      · have hF := cpos h7 hF
        exact Or.inl ⟨rfl, congrArg (Option.map rParse_E) hF⟩
      · have hF := cneg h7 hF
        refine obind hF fun y8 h9 hF => ?_
        refine Or.inr ⟨[], 0, _, _, _, _, rfl, rfl, eff_sslice_l tok9.u h9, rfl, ?_⟩
        refine obind hF fun y10 h11 hF => ?_
        refine Or.inl ⟨_, rnumber_h h11, rfl, ?_⟩
        refine And.intro (fun h12 => ?_) (fun h12 => ?_)
        · have hF := cpos h12 hF
          exact Or.inl ⟨rfl, congrArg (Option.map rParse_E) hF⟩
        · have hF := cneg h12 hF
          refine And.intro (fun h13 => ?_) (fun h13 => ?_)
          · have hF := cpos h13 hF
            exact Or.inl ⟨rfl, congrArg (Option.map rParse_E) hF⟩
          · have hF := cneg h13 hF
            refine Or.inl ?_
            refine obind hF fun b14 h15 hF => ?_
            refine ⟨ix_nn h15, _, ix_str h15, ?_⟩
            refine And.intro (fun h16 => ?_) (fun h16 => ?_)
            · have hF := cpos h16 hF
              exact Or.inl ⟨rfl, congrArg (Option.map rParse_E) hF⟩
            · have hF := cneg h16 hF
              refine Or.inl ?_
              refine obind hF fun b17 h18 hF => ?_
              refine ⟨ix_nn h18, _, ix_str h18, ?_⟩
              refine obind hF fun y19 h20 hF => ?_
              refine Or.inl ⟨_, rdigit_h h20, rfl, ?_⟩
              refine And.intro (fun h21 => ?_) (fun h21 => ?_)
              · have hF := cpos h21 hF
                exact Or.inl ⟨rfl, congrArg (Option.map rParse_E) hF⟩
              · have hF := cneg h21 hF
                refine Or.inl ?_
                refine obind hF fun b22 h23 hF => ?_
                refine ⟨ix_nn h23, _, ix_str h23, ?_⟩
                refine obind hF fun y24 h25 hF => ?_
                refine Or.inl ⟨_, rdigit_h h25, rfl, ?_⟩
                refine And.intro (fun h26 => ?_) (fun h26 => ?_)
                · have hF := cpos h26 hF
                  exact Or.inl ⟨rfl, congrArg (Option.map rParse_E) hF⟩
                · have hF := cneg h26 hF
                  refine obind hF fun y27 h28 hF => ?_
                  refine Or.inr ⟨[], 0, _, _, _, _, rfl, rfl, eff_sslice_l tok9.u h28, rfl, ?_⟩
                  refine obind hF fun y29 h30 hF => ?_
                  refine Or.inl ⟨_, rdigits_h h30, rfl, ?_⟩
                  refine And.intro (by kernel_rfl) ?_
                  refine And.intro (fun h31 => ?_) (fun h31 => ?_)
                  · have hF := cpos h31 hF
                    exact Or.inl ⟨rfl, congrArg (Option.map rParse_E) hF⟩
                  · have hF := cneg h31 hF
                    exact Or.inl ⟨rfl, congrArg (Option.map rParse_E) hF⟩
abbrev rParse_S (code : Str) : Option (Int × Int × Int) := rParse_F code
theorem rParse_h {code : Str} {r : Int × Int × Int} (h : rParse_S code = some r) : Holds Tryd.prog Gw 12 [S code] (rParse_E r) := rParse_Fh  h
abbrev rSame_E (y : Bool) : CV := B y
def rSame_L1 (a : Version) (b : Version) : Nat → Int → Option (Bool)
  | 0, _ => none
  | fu1 + 1, i5 => bif decide (i5 < ((a.Path.map cInt).length : Int)) then (Option.bind (ix a.Path i5) fun x7 => Option.bind (ix b.Path i5) fun x9 => bif (x7 != x9) then some (false) else rSame_L1 a b fu1 (IntKind.i64.wrap (i5 + 1))) else some (true)
def rSame_F (N : Nat) (a : Version) (b : Version) : Option (Bool) := bif (a.Number != b.Number) then some (false) else (bif (a.Day != b.Day) then some (false) else (bif (!(a.Unit == b.Unit)) then some (false) else (bif (((a.Path.map cInt).length : Int) != ((b.Path.map cInt).length : Int)) then some (false) else rSame_L1 a b N 0)))
set_option linter.unusedVariables false in
theorem rSame_Fh {N : Nat} {a : Version} {b : Version} {r : Bool} (hF : rSame_F N a b = some r) : Holds Tryd.prog Gw 19 [.agg (cVersion a), .agg (cVersion b)] (rSame_E r) := by
  refine holds_of_wq tabOk mixed Tryd.func19 (by decide) rfl (Nat.le_of_ble_eq_true rfl) ?_
  refine Or.inl ?_
  refine Or.inl ?_
  refine And.intro (fun h1 => ?_) (fun h1 => ?_)
  · have hF := cpos h1 hF
    exact Or.inl ⟨rfl, congrArg (Option.map rSame_E) hF⟩
  · have hF := cneg h1 hF
    refine And.intro (fun h2 => ?_) (fun h2 => ?_)
    · have hF := cpos h2 hF
      exact Or.inl ⟨rfl, congrArg (Option.map rSame_E) hF⟩
    · have hF := cneg h2 hF
      refine Or.inr ⟨[], 0, _, _, _, _, rfl, rfl, sne_Standing a.Unit b.Unit, rfl, ?_⟩
      refine And.intro (fun h3 => ?_) (fun h3 => ?_)
      · have hF := cpos h3 hF
        exact Or.inl ⟨rfl, congrArg (Option.map rSame_E) hF⟩
      · have hF := cneg h3 hF
        refine And.intro (fun h4 => ?_) (fun h4 => ?_)
        · have hF := cpos h4 hF
          exact Or.inl ⟨rfl, congrArg (Option.map rSame_E) hF⟩
        · have hF := cneg h4 hF
          refine loop_oq (fun p : Nat × Int => [(2, .pm 2 0 0), (3, .pm 3 0 0), (5, .c (I p.2))]) (fun p : Nat × Int => [(2, .var [I a.Number, I a.Day, I a.Unit.Unit, I a.Unit.Parent, I a.Unit.Level, S a.Unit.Mark, S a.Unit.Title, .sl 1 (a.Path.map cInt)]), (3, .var [I b.Number, I b.Day, I b.Unit.Unit, I b.Unit.Parent, I b.Unit.Level, S b.Unit.Mark, S b.Unit.Title, .sl 1 (b.Path.map cInt)])]) (fun p => rSame_L1 a b p.1 p.2 = some r) (fun p => p.1) (N, 0) hF ⟨rfl, rfl, rfl, trivial⟩ ⟨rfl, rfl, trivial⟩ ?_
          rintro ⟨fu1, i5⟩ hF
          cases fu1 with
          | zero => exact nomatch hF
          | succ fu1 =>
            refine And.intro (fun h6 => ?_) (fun h6 => ?_)
            · have hF := cpos h6 hF
              refine join_no ?_
              refine obind hF fun x7 h8 hF => ?_
              refine ⟨ix_nn h8, .inl rfl, _, ix_map cInt h8, ?_⟩
              refine obind hF fun x9 h10 hF => ?_
              refine ⟨ix_nn h10, .inl rfl, _, ix_map cInt h10, ?_⟩
              refine And.intro (by kernel_rfl) ?_
              refine And.intro (fun h11 => ?_) (fun h11 => ?_)
              · have hF := cpos h11 hF
                exact Or.inl ⟨rfl, congrArg (Option.map rSame_E) hF⟩
              · have hF := cneg h11 hF
                exact ⟨(fu1, (IntKind.i64.wrap (i5 + 1))), Nat.lt_succ_self _, hF, ⟨rfl, rfl, rfl, trivial⟩, ⟨rfl, rfl, trivial⟩⟩
            · have hF := cneg h6 hF
              exact Or.inl ⟨rfl, congrArg (Option.map rSame_E) hF⟩
abbrev rSame_S (a : Version) (b : Version) : Option (Bool) := rSame_F 2000 a b
theorem rSame_h {a : Version} {b : Version} {r : Bool} (h : rSame_S a b = some r) : Holds Tryd.prog Gw 19 [.agg (cVersion a), .agg (cVersion b)] (rSame_E r) := rSame_Fh  h
abbrev qFew_E (y : Bool) : CV := B y
def qFew_L2 (h_ : List Shot) (i4 : Int) (k_1 : Int → Option (Bool)) : Nat → Int → Option (Bool)
  | 0, _ => none
  | fu2 + 1, k13 => Option.bind (ix h_ i4) fun x14 => bif decide (k13 < ((x14.Units.map cStanding).length : Int)) then (Option.bind (ix h_ i4) fun x17 => Option.bind (ix x17.Units k13) fun x19 => bif decide ((x19.Mark.length : Int) > 70) then some (false) else (Option.bind (ix h_ i4) fun x22 => Option.bind (ix x22.Units k13) fun x24 => bif decide ((x24.Title.length : Int) > 70) then some (false) else qFew_L2 h_ i4 k_1 fu2 (IntKind.i64.wrap (k13 + 1)))) else k_1 (IntKind.i64.wrap (i4 + 1))
def qFew_L3 (h_ : List Shot) (i4 : Int) (k_1 : Int → Option (Bool)) : Nat → Int → Option (Bool)
  | 0, _ => none
  | fu3 + 1, k27 => Option.bind (ix h_ i4) fun x28 => bif decide (k27 < ((x28.Units.map cStanding).length : Int)) then (Option.bind (ix h_ i4) fun x31 => Option.bind (ix x31.Units k27) fun x33 => bif decide ((x33.Mark.length : Int) > 70) then some (false) else (Option.bind (ix h_ i4) fun x36 => Option.bind (ix x36.Units k27) fun x38 => bif decide ((x38.Title.length : Int) > 70) then some (false) else qFew_L3 h_ i4 k_1 fu3 (IntKind.i64.wrap (k27 + 1)))) else k_1 (IntKind.i64.wrap (i4 + 1))
def qFew_L1 (h_ : List Shot) (N : Nat) : Nat → Int → Option (Bool)
  | 0, _ => none
  | fu1 + 1, i4 => bif decide (i4 < ((h_.map cShot).length : Int)) then (Option.bind (ix h_ i4) fun x6 => bif decide (((x6.Units.map cStanding).length : Int) > 12) then some (false) else (bif decide (((h_.map cShot).length : Int) > 12) then (Option.bind (ix h_ i4) fun x10 => bif decide (((x10.Units.map cStanding).length : Int) > 1) then some (false) else qFew_L2 h_ i4 (fun q_i4 => qFew_L1 h_ N fu1 q_i4) N 0) else qFew_L3 h_ i4 (fun q_i4 => qFew_L1 h_ N fu1 q_i4) N 0)) else some (true)
def qFew_L5 (h_ : List Shot) (i42 : Int) (k_4 : Int → Option (Bool)) : Nat → Int → Option (Bool)
  | 0, _ => none
  | fu5 + 1, k51 => Option.bind (ix h_ i42) fun x52 => bif decide (k51 < ((x52.Units.map cStanding).length : Int)) then (Option.bind (ix h_ i42) fun x55 => Option.bind (ix x55.Units k51) fun x57 => bif decide ((x57.Mark.length : Int) > 70) then some (false) else (Option.bind (ix h_ i42) fun x60 => Option.bind (ix x60.Units k51) fun x62 => bif decide ((x62.Title.length : Int) > 70) then some (false) else qFew_L5 h_ i42 k_4 fu5 (IntKind.i64.wrap (k51 + 1)))) else k_4 (IntKind.i64.wrap (i42 + 1))
def qFew_L6 (h_ : List Shot) (i42 : Int) (k_4 : Int → Option (Bool)) : Nat → Int → Option (Bool)
  | 0, _ => none
  | fu6 + 1, k65 => Option.bind (ix h_ i42) fun x66 => bif decide (k65 < ((x66.Units.map cStanding).length : Int)) then (Option.bind (ix h_ i42) fun x69 => Option.bind (ix x69.Units k65) fun x71 => bif decide ((x71.Mark.length : Int) > 70) then some (false) else (Option.bind (ix h_ i42) fun x74 => Option.bind (ix x74.Units k65) fun x76 => bif decide ((x76.Title.length : Int) > 70) then some (false) else qFew_L6 h_ i42 k_4 fu6 (IntKind.i64.wrap (k65 + 1)))) else k_4 (IntKind.i64.wrap (i42 + 1))
def qFew_L4 (h_ : List Shot) (N : Nat) : Nat → Int → Option (Bool)
  | 0, _ => none
  | fu4 + 1, i42 => bif decide (i42 < ((h_.map cShot).length : Int)) then (Option.bind (ix h_ i42) fun x44 => bif decide (((x44.Units.map cStanding).length : Int) > 12) then some (false) else (bif decide (((h_.map cShot).length : Int) > 12) then (Option.bind (ix h_ i42) fun x48 => bif decide (((x48.Units.map cStanding).length : Int) > 1) then some (false) else qFew_L5 h_ i42 (fun q_i42 => qFew_L4 h_ N fu4 q_i42) N 0) else qFew_L6 h_ i42 (fun q_i42 => qFew_L4 h_ N fu4 q_i42) N 0)) else some (true)
def qFew_F (N : Nat) (h_ : List Shot) : Option (Bool) := bif decide (((h_.map cShot).length : Int) > 12) then (bif decide (((h_.map cShot).length : Int) ≤ 64) then some (false) else (bif decide (((h_.map cShot).length : Int) > 65) then some (false) else qFew_L1 h_ N N 0)) else (bif decide (((h_.map cShot).length : Int) > 65) then some (false) else qFew_L4 h_ N N 0)
set_option linter.unusedVariables false in
theorem qFew_Fh {N : Nat} {h_ : List Shot} {r : Bool} (hF : qFew_F N h_ = some r) : Holds Tryd.prog Gw 13 [.sl 2 (h_.map cShot)] (qFew_E r) := by
  refine holds_of_wq tabOk mixed Tryd.func13 (by decide) rfl (Nat.le_of_ble_eq_true rfl) ?_
  refine And.intro (fun h1 => ?_) (fun h1 => ?_)
  · have hF := cpos h1 hF
    refine And.intro (fun h2 => ?_) (fun h2 => ?_)
    · have hF := cpos h2 hF
      exact Or.inl ⟨rfl, congrArg (Option.map qFew_E) hF⟩
    · have hF := cneg h2 hF
      refine And.intro (fun h3 => ?_) (fun h3 => ?_)
      · have hF := cpos h3 hF
        exact Or.inl ⟨rfl, congrArg (Option.map qFew_E) hF⟩
      · have hF := cneg h3 hF
        refine loop_oq (fun p : Nat × Int => [(0, .c (.sl 2 (h_.map cShot))), (3, .c (I p.2))]) (fun _ => []) (fun p => qFew_L1 h_ N p.1 p.2 = some r) (fun p => p.1) (N, 0) hF ⟨rfl, rfl, trivial⟩ trivial ?_
        rintro ⟨fu1, i4⟩ hF
        cases fu1 with
        | zero => exact nomatch hF
        | succ fu1 =>
          refine And.intro (fun h5 => ?_) (fun h5 => ?_)
          · have hF := cpos h5 hF
            refine join_no ?_
            refine obind hF fun x6 h7 hF => ?_
            refine ⟨ix_nn h7, .inl rfl, _, ix_map cShot h7, ?_⟩
            refine And.intro (fun h8 => ?_) (fun h8 => ?_)
            · have hF := cpos h8 hF
              exact Or.inl ⟨rfl, congrArg (Option.map qFew_E) hF⟩
            · have hF := cneg h8 hF
              refine And.intro (fun h9 => ?_) (fun h9 => ?_)
              · have hF := cpos h9 hF
                refine obind hF fun x10 h11 hF => ?_
                refine ⟨ix_nn h11, .inl rfl, _, ix_map cShot h11, ?_⟩
                refine And.intro (fun h12 => ?_) (fun h12 => ?_)
                · have hF := cpos h12 hF
                  exact Or.inl ⟨rfl, congrArg (Option.map qFew_E) hF⟩
                · have hF := cneg h12 hF
                  refine loop_oq (fun p : Nat × Int => [(0, .c (.sl 2 (h_.map cShot))), (3, .c (I i4)), (4, .c (I p.2)), (32, .c (.sl 2 (h_.map cShot))), (33, .c (I ((h_.map cShot).length : Int))), (34, .c (B (decide (((h_.map cShot).length : Int) > 12)))), (35, .c (B true)), (36, .c (.sl 2 (h_.map cShot))), (37, .c (I i4)), (38, .c (.pi [I x10.Day, .sl 5 (x10.Units.map cStanding)] 0)), (39, .c (.pi [I x10.Day, .sl 5 (x10.Units.map cStanding)] 1)), (40, .c (.sl 5 (x10.Units.map cStanding))), (41, .c (I ((x10.Units.map cStanding).length : Int))), (42, .c (B (decide (((x10.Units.map cStanding).length : Int) > 1)))), (43, .c (B (decide (((x10.Units.map cStanding).length : Int) > 1))))]) (fun _ => []) (fun p => qFew_L2 h_ i4 (fun q_i4 => qFew_L1 h_ N fu1 q_i4) p.1 p.2 = some r) (fun p => p.1) (N, 0) hF ⟨rfl, rfl, rfl, rfl, rfl, rfl, rfl, rfl, rfl, rfl, rfl, rfl, rfl, rfl, rfl, trivial⟩ trivial ?_
                  rintro ⟨fu2, k13⟩ hF
                  cases fu2 with
                  | zero => exact nomatch hF
                  | succ fu2 =>
                    refine obind hF fun x14 h15 hF => ?_
                    refine ⟨ix_nn h15, .inl rfl, _, ix_map cShot h15, ?_⟩
                    refine And.intro (fun h16 => ?_) (fun h16 => ?_)
                    · have hF := cpos h16 hF
                      refine join_no ?_
                      refine obind hF fun x17 h18 hF => ?_
                      refine ⟨ix_nn h18, .inl rfl, _, ix_map cShot h18, ?_⟩
                      refine obind hF fun x19 h20 hF => ?_
                      refine ⟨ix_nn h20, .inl rfl, _, ix_map cStanding h20, ?_⟩
                      refine And.intro (fun h21 => ?_) (fun h21 => ?_)
                      · have hF := cpos h21 hF
                        exact Or.inl ⟨rfl, congrArg (Option.map qFew_E) hF⟩
                      · have hF := cneg h21 hF
                        refine obind hF fun x22 h23 hF => ?_
                        refine ⟨ix_nn h23, .inl rfl, _, ix_map cShot h23, ?_⟩
                        refine obind hF fun x24 h25 hF => ?_
                        refine ⟨ix_nn h25, .inl rfl, _, ix_map cStanding h25, ?_⟩
                        refine And.intro (fun h26 => ?_) (fun h26 => ?_)
                        · have hF := cpos h26 hF
                          exact Or.inl ⟨rfl, congrArg (Option.map qFew_E) hF⟩
                        · have hF := cneg h26 hF
                          exact ⟨(fu2, (IntKind.i64.wrap (k13 + 1))), Nat.lt_succ_self _, hF, ⟨rfl, rfl, rfl, rfl, rfl, rfl, rfl, rfl, rfl, rfl, rfl, rfl, rfl, rfl, rfl, trivial⟩, trivial⟩
                    · have hF := cneg h16 hF
                      exact ⟨(fu1, (IntKind.i64.wrap (i4 + 1))), Nat.lt_succ_self _, hF, ⟨rfl, rfl, trivial⟩, trivial⟩
              · have hF := cneg h9 hF
                refine loop_oq (fun p : Nat × Int => [(0, .c (.sl 2 (h_.map cShot))), (3, .c (I i4)), (4, .c (I p.2)), (32, .c (.sl 2 (h_.map cShot))), (33, .c (I ((h_.map cShot).length : Int))), (34, .c (B (decide (((h_.map cShot).length : Int) > 12)))), (35, .c (B false)), (43, .c (B false))]) (fun _ => []) (fun p => qFew_L3 h_ i4 (fun q_i4 => qFew_L1 h_ N fu1 q_i4) p.1 p.2 = some r) (fun p => p.1) (N, 0) hF ⟨rfl, rfl, rfl, rfl, rfl, rfl, rfl, rfl, trivial⟩ trivial ?_
                rintro ⟨fu3, k27⟩ hF
                cases fu3 with
                | zero => exact nomatch hF
                | succ fu3 =>
                  refine obind hF fun x28 h29 hF => ?_
                  refine ⟨ix_nn h29, .inl rfl, _, ix_map cShot h29, ?_⟩
                  refine And.intro (fun h30 => ?_) (fun h30 => ?_)
                  · have hF := cpos h30 hF
                    refine join_no ?_
                    refine obind hF fun x31 h32 hF => ?_
                    refine ⟨ix_nn h32, .inl rfl, _, ix_map cShot h32, ?_⟩
                    refine obind hF fun x33 h34 hF => ?_
                    refine ⟨ix_nn h34, .inl rfl, _, ix_map cStanding h34, ?_⟩
                    refine And.intro (fun h35 => ?_) (fun h35 => ?_)
                    · have hF := cpos h35 hF
                      exact Or.inl ⟨rfl, congrArg (Option.map qFew_E) hF⟩
                    · have hF := cneg h35 hF
                      refine obind hF fun x36 h37 hF => ?_
                      refine ⟨ix_nn h37, .inl rfl, _, ix_map cShot h37, ?_⟩
                      refine obind hF fun x38 h39 hF => ?_
                      refine ⟨ix_nn h39, .inl rfl, _, ix_map cStanding h39, ?_⟩
                      refine And.intro (fun h40 => ?_) (fun h40 => ?_)
                      · have hF := cpos h40 hF
                        exact Or.inl ⟨rfl, congrArg (Option.map qFew_E) hF⟩
                      · have hF := cneg h40 hF
                        exact ⟨(fu3, (IntKind.i64.wrap (k27 + 1))), Nat.lt_succ_self _, hF, ⟨rfl, rfl, rfl, rfl, rfl, rfl, rfl, rfl, trivial⟩, trivial⟩
                  · have hF := cneg h30 hF
                    exact ⟨(fu1, (IntKind.i64.wrap (i4 + 1))), Nat.lt_succ_self _, hF, ⟨rfl, rfl, trivial⟩, trivial⟩
          · have hF := cneg h5 hF
            exact Or.inl ⟨rfl, congrArg (Option.map qFew_E) hF⟩
  · have hF := cneg h1 hF
    refine And.intro (fun h41 => ?_) (fun h41 => ?_)
    · have hF := cpos h41 hF
      exact Or.inl ⟨rfl, congrArg (Option.map qFew_E) hF⟩
    · have hF := cneg h41 hF
      refine loop_oq (fun p : Nat × Int => [(0, .c (.sl 2 (h_.map cShot))), (3, .c (I p.2))]) (fun _ => []) (fun p => qFew_L4 h_ N p.1 p.2 = some r) (fun p => p.1) (N, 0) hF ⟨rfl, rfl, trivial⟩ trivial ?_
      rintro ⟨fu4, i42⟩ hF
      cases fu4 with
      | zero => exact nomatch hF
      | succ fu4 =>
        refine And.intro (fun h43 => ?_) (fun h43 => ?_)
        · have hF := cpos h43 hF
          refine join_no ?_
          refine obind hF fun x44 h45 hF => ?_
          refine ⟨ix_nn h45, .inl rfl, _, ix_map cShot h45, ?_⟩
          refine And.intro (fun h46 => ?_) (fun h46 => ?_)
          · have hF := cpos h46 hF
            exact Or.inl ⟨rfl, congrArg (Option.map qFew_E) hF⟩
          · have hF := cneg h46 hF
            refine And.intro (fun h47 => ?_) (fun h47 => ?_)
            · have hF := cpos h47 hF
              refine obind hF fun x48 h49 hF => ?_
              refine ⟨ix_nn h49, .inl rfl, _, ix_map cShot h49, ?_⟩
              refine And.intro (fun h50 => ?_) (fun h50 => ?_)
              · have hF := cpos h50 hF
                exact Or.inl ⟨rfl, congrArg (Option.map qFew_E) hF⟩
              · have hF := cneg h50 hF
                refine loop_oq (fun p : Nat × Int => [(0, .c (.sl 2 (h_.map cShot))), (3, .c (I i42)), (4, .c (I p.2)), (32, .c (.sl 2 (h_.map cShot))), (33, .c (I ((h_.map cShot).length : Int))), (34, .c (B (decide (((h_.map cShot).length : Int) > 12)))), (35, .c (B true)), (36, .c (.sl 2 (h_.map cShot))), (37, .c (I i42)), (38, .c (.pi [I x48.Day, .sl 5 (x48.Units.map cStanding)] 0)), (39, .c (.pi [I x48.Day, .sl 5 (x48.Units.map cStanding)] 1)), (40, .c (.sl 5 (x48.Units.map cStanding))), (41, .c (I ((x48.Units.map cStanding).length : Int))), (42, .c (B (decide (((x48.Units.map cStanding).length : Int) > 1)))), (43, .c (B (decide (((x48.Units.map cStanding).length : Int) > 1))))]) (fun _ => []) (fun p => qFew_L5 h_ i42 (fun q_i42 => qFew_L4 h_ N fu4 q_i42) p.1 p.2 = some r) (fun p => p.1) (N, 0) hF ⟨rfl, rfl, rfl, rfl, rfl, rfl, rfl, rfl, rfl, rfl, rfl, rfl, rfl, rfl, rfl, trivial⟩ trivial ?_
                rintro ⟨fu5, k51⟩ hF
                cases fu5 with
                | zero => exact nomatch hF
                | succ fu5 =>
                  refine obind hF fun x52 h53 hF => ?_
                  refine ⟨ix_nn h53, .inl rfl, _, ix_map cShot h53, ?_⟩
                  refine And.intro (fun h54 => ?_) (fun h54 => ?_)
                  · have hF := cpos h54 hF
                    refine join_no ?_
                    refine obind hF fun x55 h56 hF => ?_
                    refine ⟨ix_nn h56, .inl rfl, _, ix_map cShot h56, ?_⟩
                    refine obind hF fun x57 h58 hF => ?_
                    refine ⟨ix_nn h58, .inl rfl, _, ix_map cStanding h58, ?_⟩
                    refine And.intro (fun h59 => ?_) (fun h59 => ?_)
                    · have hF := cpos h59 hF
                      exact Or.inl ⟨rfl, congrArg (Option.map qFew_E) hF⟩
                    · have hF := cneg h59 hF
                      refine obind hF fun x60 h61 hF => ?_
                      refine ⟨ix_nn h61, .inl rfl, _, ix_map cShot h61, ?_⟩
                      refine obind hF fun x62 h63 hF => ?_
                      refine ⟨ix_nn h63, .inl rfl, _, ix_map cStanding h63, ?_⟩
                      refine And.intro (fun h64 => ?_) (fun h64 => ?_)
                      · have hF := cpos h64 hF
                        exact Or.inl ⟨rfl, congrArg (Option.map qFew_E) hF⟩
                      · have hF := cneg h64 hF
                        exact ⟨(fu5, (IntKind.i64.wrap (k51 + 1))), Nat.lt_succ_self _, hF, ⟨rfl, rfl, rfl, rfl, rfl, rfl, rfl, rfl, rfl, rfl, rfl, rfl, rfl, rfl, rfl, trivial⟩, trivial⟩
                  · have hF := cneg h54 hF
                    exact ⟨(fu4, (IntKind.i64.wrap (i42 + 1))), Nat.lt_succ_self _, hF, ⟨rfl, rfl, trivial⟩, trivial⟩
            · have hF := cneg h47 hF
              refine loop_oq (fun p : Nat × Int => [(0, .c (.sl 2 (h_.map cShot))), (3, .c (I i42)), (4, .c (I p.2)), (32, .c (.sl 2 (h_.map cShot))), (33, .c (I ((h_.map cShot).length : Int))), (34, .c (B (decide (((h_.map cShot).length : Int) > 12)))), (35, .c (B false)), (43, .c (B false))]) (fun _ => []) (fun p => qFew_L6 h_ i42 (fun q_i42 => qFew_L4 h_ N fu4 q_i42) p.1 p.2 = some r) (fun p => p.1) (N, 0) hF ⟨rfl, rfl, rfl, rfl, rfl, rfl, rfl, rfl, trivial⟩ trivial ?_
              rintro ⟨fu6, k65⟩ hF
              cases fu6 with
              | zero => exact nomatch hF
              | succ fu6 =>
                refine obind hF fun x66 h67 hF => ?_
                refine ⟨ix_nn h67, .inl rfl, _, ix_map cShot h67, ?_⟩
                refine And.intro (fun h68 => ?_) (fun h68 => ?_)
                · have hF := cpos h68 hF
                  refine join_no ?_
                  refine obind hF fun x69 h70 hF => ?_
                  refine ⟨ix_nn h70, .inl rfl, _, ix_map cShot h70, ?_⟩
                  refine obind hF fun x71 h72 hF => ?_
                  refine ⟨ix_nn h72, .inl rfl, _, ix_map cStanding h72, ?_⟩
                  refine And.intro (fun h73 => ?_) (fun h73 => ?_)
                  · have hF := cpos h73 hF
                    exact Or.inl ⟨rfl, congrArg (Option.map qFew_E) hF⟩
                  · have hF := cneg h73 hF
                    refine obind hF fun x74 h75 hF => ?_
                    refine ⟨ix_nn h75, .inl rfl, _, ix_map cShot h75, ?_⟩
                    refine obind hF fun x76 h77 hF => ?_
                    refine ⟨ix_nn h77, .inl rfl, _, ix_map cStanding h77, ?_⟩
                    refine And.intro (fun h78 => ?_) (fun h78 => ?_)
                    · have hF := cpos h78 hF
                      exact Or.inl ⟨rfl, congrArg (Option.map qFew_E) hF⟩
                    · have hF := cneg h78 hF
                      exact ⟨(fu6, (IntKind.i64.wrap (k65 + 1))), Nat.lt_succ_self _, hF, ⟨rfl, rfl, rfl, rfl, rfl, rfl, rfl, rfl, trivial⟩, trivial⟩
                · have hF := cneg h68 hF
                  exact ⟨(fu4, (IntKind.i64.wrap (i42 + 1))), Nat.lt_succ_self _, hF, ⟨rfl, rfl, trivial⟩, trivial⟩
        · have hF := cneg h43 hF
          exact Or.inl ⟨rfl, congrArg (Option.map qFew_E) hF⟩
abbrev qFew_S (h_ : List Shot) : Option (Bool) := qFew_F 2000 h_
theorem qFew_h {h_ : List Shot} {r : Bool} (h : qFew_S h_ = some r) : Holds Tryd.prog Gw 13 [.sl 2 (h_.map cShot)] (qFew_E r) := qFew_Fh  h
abbrev qCopy_E (y : List Shot) : CV := .sl 2 (y.map cShot)
def qCopy_L1 (h_ : List Shot) : Nat → Int → List Shot → Option (List Shot)
  | 0, _, _ => none
  | fu1 + 1, i1, out2 => bif decide (i1 < ((h_.map cShot).length : Int)) then (Option.bind (ix h_ i1) fun x4 => bif decide (([] : List Standing).length + x4.Units.length ≤ 4294967296) then bif decide (out2.length + ([(⟨x4.Day, (([] : List Standing) ++ x4.Units)⟩ : Shot)] : List Shot).length ≤ 4294967296) then qCopy_L1 h_ fu1 (IntKind.i64.wrap (i1 + 1)) (out2 ++ ([(⟨x4.Day, (([] : List Standing) ++ x4.Units)⟩ : Shot)] : List Shot)) else none else none) else some (out2)
def qCopy_F (N : Nat) (h_ : List Shot) : Option (List Shot) := qCopy_L1 h_ N 0 ([] : List Shot)
set_option linter.unusedVariables false in
theorem qCopy_Fh {N : Nat} {h_ : List Shot} {r : List Shot} (hF : qCopy_F N h_ = some r) : Holds Tryd.prog Gw 15 [.sl 2 (h_.map cShot)] (qCopy_E r) := by
  refine holds_of_wq tabOk mixed Tryd.func15 (by decide) rfl (Nat.le_of_ble_eq_true rfl) ?_
  refine Or.inl ?_
  refine Or.inr ⟨[], 0, _, _, _, _, rfl, rfl, eff_nilS (e := 32) (ie := ti32) (by decide), rfl, ?_⟩
  refine loop_oq (fun p : Nat × Int × List Shot => [(0, .c (.sl 2 (h_.map cShot))), (3, .rs 3 0), (4, .c (I p.2.1))]) (fun p : Nat × Int × List Shot => [(3, .arr 32 2 (p.2.2.map cShot) none)]) (fun p => qCopy_L1 h_ p.1 p.2.1 p.2.2 = some r) (fun p => p.1) (N, 0, ([] : List Shot)) hF ⟨rfl, rfl, rfl, trivial⟩ ⟨rfl, trivial⟩ ?_
  rintro ⟨fu1, i1, out2⟩ hF
  cases fu1 with
  | zero => exact nomatch hF
  | succ fu1 =>
    refine And.intro (fun h3 => ?_) (fun h3 => ?_)
    · have hF := cpos h3 hF
      refine join_no ?_
      refine obind hF fun x4 h5 hF => ?_
      refine ⟨ix_nn h5, .inl rfl, _, ix_map cShot h5, ?_⟩
      refine Or.inl ?_
      refine Or.inl ?_
      refine gpos hF fun h7 hF => ?_
      refine Or.inl ⟨len_map (fun _ => rfl), app_le (f := cStanding) h7, (([] : List Standing) ++ x4.Units).map cStanding, map_app _ _ _, ?_⟩
      refine Or.inl ?_
      refine gpos hF fun h6 hF => ?_
      refine Or.inr ⟨[(3, 0)], 0, _, _, _, _, rfl, rfl, eff_append (cf := cShot) (l := out2) (ns := ([(⟨x4.Day, (([] : List Standing) ++ x4.Units)⟩ : Shot)] : List Shot)) tok29.u tok32 (by decide) (by decide) (fun _ => rfl) h6, rfl, ?_⟩
      exact ⟨(fu1, (IntKind.i64.wrap (i1 + 1)), (out2 ++ ([(⟨x4.Day, (([] : List Standing) ++ x4.Units)⟩ : Shot)] : List Shot))), Nat.lt_succ_self _, hF, ⟨rfl, rfl, rfl, trivial⟩, ⟨rfl, trivial⟩⟩
    · have hF := cneg h3 hF
      refine ret_eq (p := fun r => resFin tab _ (qCopy_E r) _) hF ?_
      exact Or.inr ⟨rfl, _, rfl, rfl⟩
abbrev qCopy_O (y : List Shot) : CV := .wo (.ow 0) [(32, 2, y.map cShot, none)]
set_option linter.unusedVariables false in
theorem qCopy_Oh {N : Nat} {h_ : List Shot} {r : List Shot} (hF : qCopy_F N h_ = some r) : Holds Tryd.prog Gw 15 [.sl 2 (h_.map cShot)] (qCopy_O r) := by
  refine holds_of_wq tabOk mixed Tryd.func15 (by decide) rfl (Nat.le_of_ble_eq_true rfl) ?_
  refine Or.inl ?_
  refine Or.inr ⟨[], 0, _, _, _, _, rfl, rfl, eff_nilS (e := 32) (ie := ti32) (by decide), rfl, ?_⟩
  refine loop_oq (fun p : Nat × Int × List Shot => [(0, .c (.sl 2 (h_.map cShot))), (3, .rs 3 0), (4, .c (I p.2.1))]) (fun p : Nat × Int × List Shot => [(3, .arr 32 2 (p.2.2.map cShot) none)]) (fun p => qCopy_L1 h_ p.1 p.2.1 p.2.2 = some r) (fun p => p.1) (N, 0, ([] : List Shot)) hF ⟨rfl, rfl, rfl, trivial⟩ ⟨rfl, trivial⟩ ?_
  rintro ⟨fu1, i1, out2⟩ hF
  cases fu1 with
  | zero => exact nomatch hF
  | succ fu1 =>
    refine And.intro (fun h3 => ?_) (fun h3 => ?_)
    · have hF := cpos h3 hF
      refine join_no ?_
      refine obind hF fun x4 h5 hF => ?_
      refine ⟨ix_nn h5, .inl rfl, _, ix_map cShot h5, ?_⟩
      refine Or.inl ?_
      refine Or.inl ?_
      refine gpos hF fun h7 hF => ?_
      refine Or.inl ⟨len_map (fun _ => rfl), app_le (f := cStanding) h7, (([] : List Standing) ++ x4.Units).map cStanding, map_app _ _ _, ?_⟩
      refine Or.inl ?_
      refine gpos hF fun h6 hF => ?_
      refine Or.inr ⟨[(3, 0)], 0, _, _, _, _, rfl, rfl, eff_append (cf := cShot) (l := out2) (ns := ([(⟨x4.Day, (([] : List Standing) ++ x4.Units)⟩ : Shot)] : List Shot)) tok29.u tok32 (by decide) (by decide) (fun _ => rfl) h6, rfl, ?_⟩
      exact ⟨(fu1, (IntKind.i64.wrap (i1 + 1)), (out2 ++ ([(⟨x4.Day, (([] : List Standing) ++ x4.Units)⟩ : Shot)] : List Shot))), Nat.lt_succ_self _, hF, ⟨rfl, rfl, rfl, trivial⟩, ⟨rfl, trivial⟩⟩
    · have hF := cneg h3 hF
      refine ret_eq (p := fun r => resFin tab _ (qCopy_O r) _) hF ?_
      exact Or.inr ⟨[(3, 0)], rfl, ⟨rfl, rfl⟩, rfl⟩
abbrev qCopy_S (h_ : List Shot) : Option (List Shot) := qCopy_F 2000 h_
theorem qCopy_h {h_ : List Shot} {r : List Shot} (h : qCopy_S h_ = some r) : Holds Tryd.prog Gw 15 [.sl 2 (h_.map cShot)] (qCopy_E r) := qCopy_Fh  h
abbrev lTown_E (y : List Shot) : CV := .sl 2 (y.map cShot)
def lTown_F : Option (List Shot) := some (([(⟨10, ([(⟨1, 0, 1, ([65] : Str), ([120] : Str)⟩ : Standing)] : List Standing)⟩ : Shot), (⟨20, ([(⟨1, 0, 1, ([66] : Str), ([120] : Str)⟩ : Standing), (⟨2, 1, 2, ([] : Str), ([121] : Str)⟩ : Standing)] : List Standing)⟩ : Shot), (⟨30, ([(⟨1, 0, 1, ([65] : Str), ([120] : Str)⟩ : Standing), (⟨2, 1, 2, ([67] : Str), ([121] : Str)⟩ : Standing)] : List Standing)⟩ : Shot)] : List Shot))
set_option linter.unusedVariables false in
theorem lTown_Fh {r : List Shot} (hF : lTown_F  = some r) : Holds Tryd.prog Gw 27 [] (lTown_E r) := by
  refine holds_of_wq tabOk mixed Tryd.func27 (by decide) rfl (Nat.le_of_ble_eq_true rfl) ?_
  refine Or.inl ?_
  refine Or.inl ?_
  refine Or.inl ?_
  refine Or.inl ?_
  refine Or.inl ?_
  refine Or.inl ?_
  refine Or.inl ?_
  refine Or.inl ?_
  refine Or.inl ?_
  refine Or.inl ?_
  refine Or.inl ?_
  refine Or.inl ?_
  refine Or.inl ?_
  refine Or.inl ?_
  exact Or.inl ⟨rfl, congrArg (Option.map lTown_E) hF⟩
abbrev lTown_S : Option (List Shot) := lTown_F 
theorem lTown_h {r : List Shot} (h : lTown_S = some r) : Holds Tryd.prog Gw 27 [] (lTown_E r) := lTown_Fh  h
end Go.Proofs.YtmdhahfminiilaaDoor
