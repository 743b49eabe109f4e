/- Functions of the program as functions of Lean, each with its contract (printed by a program). -/
import Derived.Test.YtjoacimgcepjdaaGreatDoorGA
namespace Go.Proofs.YtjoacimgcepjdaaGreatDoor
open Go Go.Abs
set_option maxRecDepth 10000
set_option maxHeartbeats 400000
abbrev dis_E (y : Bool) : CV := B y
def dis_F (d : Int) : Option (Bool) := bif decide (d ≥ 0) then some (decide (d ≤ 1048575)) else some (false)
set_option linter.unusedVariables false in
theorem dis_Fh {d : Int} {r : Bool} (hF : dis_F d = some r) : Holds Tryz.prog Gw 92 [I d] (dis_E r) := by
  refine holds_of_wq tabOk mixed Tryz.func92 (by decide) rfl (Nat.le_of_ble_eq_true rfl) ?_
  refine And.intro (fun h1 => ?_) (fun h1 => ?_)
  · have hF := cpos h1 hF
    exact Or.inl ⟨rfl, congrArg (Option.map dis_E) hF⟩
  · have hF := cneg h1 hF
    exact Or.inl ⟨rfl, congrArg (Option.map dis_E) hF⟩
abbrev dis_S (d : Int) : Option (Bool) := dis_F d
theorem dis_h {d : Int} {r : Bool} (h : dis_S d = some r) : Holds Tryz.prog Gw 92 [I d] (dis_E r) := dis_Fh  h
abbrev dleap_E (y : Bool) : CV := B y
def dleap_F (year : Int) : Option (Bool) := bif ((Int.tmod year 4) == 0) then (bif ((Int.tmod year 100) != 0) then some (true) else some (((Int.tmod year 400) == 0))) else some (false)
set_option linter.unusedVariables false in
theorem dleap_Fh {year : Int} {r : Bool} (hF : dleap_F year = some r) : Holds Tryz.prog Gw 93 [I year] (dleap_E r) := by
  refine holds_of_wq tabOk mixed Tryz.func93 (by decide) rfl (Nat.le_of_ble_eq_true rfl) ?_
  refine ⟨rfl, by decide, ?_⟩
  refine And.intro (fun h1 => ?_) (fun h1 => ?_)
  · have hF := cpos h1 hF
    refine ⟨rfl, by decide, ?_⟩
    refine And.intro (fun h2 => ?_) (fun h2 => ?_)
    · have hF := cpos h2 hF
      exact Or.inl ⟨rfl, congrArg (Option.map dleap_E) hF⟩
    · have hF := cneg h2 hF
      refine ⟨rfl, by decide, ?_⟩
      exact Or.inl ⟨rfl, congrArg (Option.map dleap_E) hF⟩
  · have hF := cneg h1 hF
    exact Or.inl ⟨rfl, congrArg (Option.map dleap_E) hF⟩
abbrev dleap_S (year : Int) : Option (Bool) := dleap_F year
theorem dleap_h {year : Int} {r : Bool} (h : dleap_S year = some r) : Holds Tryz.prog Gw 93 [I year] (dleap_E r) := dleap_Fh  h
abbrev dLength_E (y : Int) : CV := I y
def dLength_F (year : Int) (month : Int) : Option (Int) := bif decide (year < 1600) then some (0) else (bif decide (year > 4470) then some (0) else (bif decide (month < 1) then some (0) else (bif decide (month > 12) then some (0) else (bif (month == 2) then (Option.bind (dleap_S year) fun y6 => bif y6 then some (29) else (Option.bind (dlengths_S) fun y9 => Option.bind (ixA 12 y9 (IntKind.i64.wrap (month - 1))) fun x11 => some (x11))) else (Option.bind (dlengths_S) fun y13 => Option.bind (ixA 12 y13 (IntKind.i64.wrap (month - 1))) fun x15 => some (x15))))))
set_option linter.unusedVariables false in
theorem dLength_Fh {year : Int} {month : Int} {r : Int} (hF : dLength_F year month = some r) : Holds Tryz.prog Gw 69 [I year, I month] (dLength_E r) := by
  refine holds_of_wq tabOk mixed Tryz.func69 (by decide) rfl (Nat.le_of_ble_eq_true rfl) ?_
  refine And.intro (fun h1 => ?_) (fun h1 => ?_)
  · have hF := cpos h1 hF
    exact Or.inl ⟨rfl, congrArg (Option.map dLength_E) hF⟩
  · have hF := cneg h1 hF
    refine And.intro (fun h2 => ?_) (fun h2 => ?_)
    · have hF := cpos h2 hF
      exact Or.inl ⟨rfl, congrArg (Option.map dLength_E) hF⟩
    · have hF := cneg h2 hF
      refine And.intro (fun h3 => ?_) (fun h3 => ?_)
      · have hF := cpos h3 hF
        exact Or.inl ⟨rfl, congrArg (Option.map dLength_E) hF⟩
      · have hF := cneg h3 hF
        refine And.intro (fun h4 => ?_) (fun h4 => ?_)
        · have hF := cpos h4 hF
          exact Or.inl ⟨rfl, congrArg (Option.map dLength_E) hF⟩
        · have hF := cneg h4 hF
          refine And.intro (fun h5 => ?_) (fun h5 => ?_)
          · have hF := cpos h5 hF
            refine obind hF fun y6 h7 hF => ?_
            refine Or.inl ⟨_, dleap_h h7, rfl, ?_⟩
            refine And.intro (fun h8 => ?_) (fun h8 => ?_)
            · have hF := cpos h8 hF
              exact Or.inl ⟨rfl, congrArg (Option.map dLength_E) hF⟩
            · have hF := cneg h8 hF
              refine obind hF fun y9 h10 hF => ?_
              refine Or.inl ⟨_, dlengths_h h10, rfl, ?_⟩
              refine obind hF fun x11 h12 hF => ?_
              refine Or.inr ⟨[], 0, _, _, _, _, rfl, rfl, eff_ixA Tryz.underlying117 Tryz.sizeOf3 Tryz.isAgg3 h12, rfl, ?_⟩
              exact Or.inl ⟨rfl, congrArg (Option.map dLength_E) hF⟩
          · have hF := cneg h5 hF
            refine obind hF fun y13 h14 hF => ?_
            refine Or.inl ⟨_, dlengths_h h14, rfl, ?_⟩
            refine obind hF fun x15 h16 hF => ?_
            refine Or.inr ⟨[], 0, _, _, _, _, rfl, rfl, eff_ixA Tryz.underlying117 Tryz.sizeOf3 Tryz.isAgg3 h16, rfl, ?_⟩
            exact Or.inl ⟨rfl, congrArg (Option.map dLength_E) hF⟩
abbrev dLength_S (year : Int) (month : Int) : Option (Int) := dLength_F year month
theorem dLength_h {year : Int} {month : Int} {r : Int} (h : dLength_S year month = some r) : Holds Tryz.prog Gw 69 [I year, I month] (dLength_E r) := dLength_Fh  h
abbrev dbegin_E (y : Int) : CV := I y
def dbegin_F (year : Int) : Option (Int) := some ((IntKind.i64.wrap ((IntKind.i64.wrap ((IntKind.i64.wrap ((IntKind.i64.wrap (365 * (IntKind.i64.wrap (year - 1600)))) + (IntKind.i64.wrap (Int.tdiv (IntKind.i64.wrap ((IntKind.i64.wrap (year - 1600)) + 3)) 4)))) - (IntKind.i64.wrap (Int.tdiv (IntKind.i64.wrap ((IntKind.i64.wrap (year - 1600)) + 99)) 100)))) + (IntKind.i64.wrap (Int.tdiv (IntKind.i64.wrap ((IntKind.i64.wrap (year - 1600)) + 399)) 400)))))
set_option linter.unusedVariables false in
theorem dbegin_Fh {year : Int} {r : Int} (hF : dbegin_F year = some r) : Holds Tryz.prog Gw 70 [I year] (dbegin_E r) := by
  refine holds_of_wq tabOk mixed Tryz.func70 (by decide) rfl (Nat.le_of_ble_eq_true rfl) ?_
  refine ⟨rfl, by decide, ?_⟩
  refine ⟨rfl, by decide, ?_⟩
  refine ⟨rfl, by decide, ?_⟩
  exact Or.inl ⟨rfl, congrArg (Option.map dbegin_E) hF⟩
abbrev dbegin_S (year : Int) : Option (Int) := dbegin_F year
theorem dbegin_h {year : Int} {r : Int} (h : dbegin_S year = some r) : Holds Tryz.prog Gw 70 [I year] (dbegin_E r) := dbegin_Fh  h
abbrev dOf_E (y : Int × Int) : CV := .tup [I y.1, I y.2]
def dOf_L1 (year : Int) (month : Int) : Nat → Int → Int → Option (Int × Int)
  | 0, _, _ => none
  | fu1 + 1, d7, m8 => bif decide (m8 < month) then (Option.bind (dLength_S year m8) fun y10 => dOf_L1 year month fu1 (IntKind.i64.wrap (d7 + y10)) (IntKind.i64.wrap (m8 + 1))) else (bif decide (d7 > 1048575) then some (0, 2) else some (d7, 0))
def dOf_F (N : Nat) (year : Int) (month : Int) (day : Int) : Option (Int × Int) := Option.bind (dLength_S year month) fun y1 => bif decide (day < 1) then some (0, 2) else (bif decide (day > y1) then some (0, 2) else (Option.bind (dbegin_S year) fun y5 => dOf_L1 year month N (IntKind.i64.wrap ((IntKind.i64.wrap (y5 + day)) - 1)) 1))
set_option linter.unusedVariables false in
theorem dOf_Fh {N : Nat} {year : Int} {month : Int} {day : Int} {r : Int × Int} (hF : dOf_F N year month day = some r) : Holds Tryz.prog Gw 68 [I year, I month, I day] (dOf_E r) := by
  refine holds_of_wq tabOk mixed Tryz.func68 (by decide) rfl (Nat.le_of_ble_eq_true rfl) ?_
  refine obind hF fun y1 h2 hF => ?_
  refine Or.inl ⟨_, dLength_h h2, rfl, ?_⟩
  refine And.intro (fun h3 => ?_) (fun h3 => ?_)
  · have hF := cpos h3 hF
    exact Or.inl ⟨rfl, congrArg (Option.map dOf_E) hF⟩
  · have hF := cneg h3 hF
    refine And.intro (fun h4 => ?_) (fun h4 => ?_)
    · have hF := cpos h4 hF
      exact Or.inl ⟨rfl, congrArg (Option.map dOf_E) hF⟩
    · have hF := cneg h4 hF
      refine obind hF fun y5 h6 hF => ?_
      refine Or.inl ⟨_, dbegin_h h6, rfl, ?_⟩
      refine loop_oq (fun p : Nat × Int × Int => [(0, .c (I year)), (1, .c (I month)), (9, .c (I p.2.1)), (10, .c (I p.2.2))]) (fun _ => []) (fun p => dOf_L1 year month p.1 p.2.1 p.2.2 = some r) (fun p => p.1) (N, (IntKind.i64.wrap ((IntKind.i64.wrap (y5 + day)) - 1)), 1) hF ⟨rfl, rfl, rfl, rfl, trivial⟩ trivial ?_
      rintro ⟨fu1, d7, m8⟩ hF
      cases fu1 with
      | zero => exact nomatch hF
      | succ fu1 =>
        refine And.intro (fun h9 => ?_) (fun h9 => ?_)
        · have hF := cpos h9 hF
          refine join_no ?_
          refine obind hF fun y10 h11 hF => ?_
          refine Or.inl ⟨_, dLength_h h11, rfl, ?_⟩
          exact ⟨(fu1, (IntKind.i64.wrap (d7 + y10)), (IntKind.i64.wrap (m8 + 1))), Nat.lt_succ_self _, hF, ⟨rfl, rfl, rfl, rfl, trivial⟩, trivial⟩
        · have hF := cneg h9 hF
          refine And.intro (fun h12 => ?_) (fun h12 => ?_)
          · have hF := cpos h12 hF
            exact Or.inl ⟨rfl, congrArg (Option.map dOf_E) hF⟩
          · have hF := cneg h12 hF
            exact Or.inl ⟨rfl, congrArg (Option.map dOf_E) hF⟩
abbrev dOf_S (year : Int) (month : Int) (day : Int) : Option (Int × Int) := dOf_F 2000 year month day
theorem dOf_h {year : Int} {month : Int} {day : Int} {r : Int × Int} (h : dOf_S year month day = some r) : Holds Tryz.prog Gw 68 [I year, I month, I day] (dOf_E r) := dOf_Fh  h
abbrev dDate_E (y : Int × Int × Int × Int) : CV := .tup [I y.1, I y.2.1, I y.2.2.1, I y.2.2.2]
def dDate_L2 (year4 : Int) : Nat → Int → Int → Option (Int × Int × Int × Int)
  | 0, _, _ => none
  | fu2 + 1, d10, month11 => Option.bind (dLength_S year4 month11) fun y12 => bif decide (d10 ≥ y12) then (Option.bind (dLength_S year4 month11) fun y15 => dDate_L2 year4 fu2 (IntKind.i64.wrap (d10 - y15)) (IntKind.i64.wrap (month11 + 1))) else some (year4, month11, (IntKind.i64.wrap (d10 + 1)), 0)
def dDate_L1 (d : Int) (N : Nat) : Nat → Int → Option (Int × Int × Int × Int)
  | 0, _ => none
  | fu1 + 1, year4 => Option.bind (dbegin_S (IntKind.i64.wrap (year4 + 1))) fun y5 => bif decide (y5 ≤ d) then dDate_L1 d N fu1 (IntKind.i64.wrap (year4 + 1)) else (Option.bind (dbegin_S year4) fun y8 => dDate_L2 year4 N (IntKind.i64.wrap (d - y8)) 1)
def dDate_F (N : Nat) (d : Int) : Option (Int × Int × Int × Int) := Option.bind (dis_S d) fun y1 => bif (!y1) then some (0, 0, 0, 2) else dDate_L1 d N N (IntKind.i64.wrap ((IntKind.i64.wrap (1600 + (IntKind.i64.wrap (400 * (IntKind.i64.wrap (Int.tdiv d 146097)))))) + (IntKind.i64.wrap (Int.tdiv (Int.tmod d 146097) 366))))
set_option linter.unusedVariables false in
theorem dDate_Fh {N : Nat} {d : Int} {r : Int × Int × Int × Int} (hF : dDate_F N d = some r) : Holds Tryz.prog Gw 67 [I d] (dDate_E r) := by
  refine holds_of_wq tabOk mixed Tryz.func67 (by decide) rfl (Nat.le_of_ble_eq_true rfl) ?_
  refine obind hF fun y1 h2 hF => ?_
  refine Or.inl ⟨_, dis_h h2, rfl, ?_⟩
  refine And.intro (fun h3 => ?_) (fun h3 => ?_)
  · have hF := cpos h3 hF
    exact Or.inl ⟨rfl, congrArg (Option.map dDate_E) hF⟩
  · have hF := cneg h3 hF
    refine ⟨rfl, by decide, ?_⟩
    refine ⟨rfl, by decide, ?_⟩
    refine ⟨rfl, by decide, ?_⟩
    refine join_no ?_
    refine loop_oq (fun p : Nat × Int => [(0, .c (I d)), (2, .c (I p.2))]) (fun _ => []) (fun p => dDate_L1 d N p.1 p.2 = some r) (fun p => p.1) (N, (IntKind.i64.wrap ((IntKind.i64.wrap (1600 + (IntKind.i64.wrap (400 * (IntKind.i64.wrap (Int.tdiv d 146097)))))) + (IntKind.i64.wrap (Int.tdiv (Int.tmod d 146097) 366))))) hF ⟨rfl, rfl, trivial⟩ trivial ?_
    rintro ⟨fu1, year4⟩ hF
    cases fu1 with
    | zero => exact nomatch hF
    | succ fu1 =>
      refine obind hF fun y5 h6 hF => ?_
      refine Or.inl ⟨_, dbegin_h h6, rfl, ?_⟩
      refine And.intro (fun h7 => ?_) (fun h7 => ?_)
      · have hF := cpos h7 hF
        exact ⟨(fu1, (IntKind.i64.wrap (year4 + 1))), Nat.lt_succ_self _, hF, ⟨rfl, rfl, trivial⟩, trivial⟩
      · have hF := cneg h7 hF
        refine obind hF fun y8 h9 hF => ?_
        refine Or.inl ⟨_, dbegin_h h9, rfl, ?_⟩
        refine loop_oq (fun p : Nat × Int × Int => [(0, .c (I p.2.1)), (2, .c (I year4)), (3, .c (I p.2.2))]) (fun _ => []) (fun p => dDate_L2 year4 p.1 p.2.1 p.2.2 = some r) (fun p => p.1) (N, (IntKind.i64.wrap (d - y8)), 1) hF ⟨rfl, rfl, rfl, trivial⟩ trivial ?_
        rintro ⟨fu2, d10, month11⟩ hF
        cases fu2 with
        | zero => exact nomatch hF
        | succ fu2 =>
          refine obind hF fun y12 h13 hF => ?_
          refine Or.inl ⟨_, dLength_h h13, rfl, ?_⟩
          refine And.intro (fun h14 => ?_) (fun h14 => ?_)
          · have hF := cpos h14 hF
            refine join_no ?_
            refine obind hF fun y15 h16 hF => ?_
            refine Or.inl ⟨_, dLength_h h16, rfl, ?_⟩
            exact ⟨(fu2, (IntKind.i64.wrap (d10 - y15)), (IntKind.i64.wrap (month11 + 1))), Nat.lt_succ_self _, hF, ⟨rfl, rfl, rfl, trivial⟩, trivial⟩
          · have hF := cneg h14 hF
            exact Or.inl ⟨rfl, congrArg (Option.map dDate_E) hF⟩
abbrev dDate_S (d : Int) : Option (Int × Int × Int × Int) := dDate_F 4000 d
theorem dDate_h {d : Int} {r : Int × Int × Int × Int} (h : dDate_S d = some r) : Holds Tryz.prog Gw 67 [I d] (dDate_E r) := dDate_Fh  h
abbrev dYears_E (y : Int × Int) : CV := .tup [I y.1, I y.2]
def dYears_F (d : Int) (n : Int) : Option (Int × Int) := Option.bind (dDate_S d) fun y1 => bif (y1.2.2.2 != 0) then some (0, 2) else (bif decide (n < 0) then some (0, 2) else (bif decide (n > 200) then some (0, 2) else (bif decide ((IntKind.i64.wrap (y1.1 + n)) > 4470) then some (1048575, 0) else (Option.bind (dLength_S (IntKind.i64.wrap (y1.1 + n)) y1.2.1) fun y7 => Option.bind (dOf_S (IntKind.i64.wrap (y1.1 + n)) y1.2.1 (if y7 < y1.2.2.1 then y7 else y1.2.2.1)) fun y9 => bif (y9.2 != 0) then some (1048575, 0) else some (y9.1, 0)))))
set_option linter.unusedVariables false in
theorem dYears_Fh {d : Int} {n : Int} {r : Int × Int} (hF : dYears_F d n = some r) : Holds Tryz.prog Gw 37 [I d, I n] (dYears_E r) := by
  refine holds_of_wq tabOk mixed Tryz.func37 (by decide) rfl (Nat.le_of_ble_eq_true rfl) ?_
  refine obind hF fun y1 h2 hF => ?_
  refine Or.inl ⟨_, dDate_h h2, rfl, ?_⟩
  refine And.intro (fun h3 => ?_) (fun h3 => ?_)
  · have hF := cpos h3 hF
    exact Or.inl ⟨rfl, congrArg (Option.map dYears_E) hF⟩
  · have hF := cneg h3 hF
    refine And.intro (fun h4 => ?_) (fun h4 => ?_)
    · have hF := cpos h4 hF
      exact Or.inl ⟨rfl, congrArg (Option.map dYears_E) hF⟩
    · have hF := cneg h4 hF
      refine And.intro (fun h5 => ?_) (fun h5 => ?_)
      · have hF := cpos h5 hF
        exact Or.inl ⟨rfl, congrArg (Option.map dYears_E) hF⟩
      · have hF := cneg h5 hF
        refine And.intro (fun h6 => ?_) (fun h6 => ?_)
        · have hF := cpos h6 hF
          exact Or.inl ⟨rfl, congrArg (Option.map dYears_E) hF⟩
        · have hF := cneg h6 hF
          refine obind hF fun y7 h8 hF => ?_
          refine Or.inl ⟨_, dLength_h h8, rfl, ?_⟩
          refine obind hF fun y9 h10 hF => ?_
          refine Or.inl ⟨_, dOf_h h10, rfl, ?_⟩
          refine And.intro (fun h11 => ?_) (fun h11 => ?_)
          · have hF := cpos h11 hF
            exact Or.inl ⟨rfl, congrArg (Option.map dYears_E) hF⟩
          · have hF := cneg h11 hF
            exact Or.inl ⟨rfl, congrArg (Option.map dYears_E) hF⟩
abbrev dYears_S (d : Int) (n : Int) : Option (Int × Int) := dYears_F d n
theorem dYears_h {d : Int} {n : Int} {r : Int × Int} (h : dYears_S d n = some r) : Holds Tryz.prog Gw 37 [I d, I n] (dYears_E r) := dYears_Fh  h
abbrev dYearEnd_E (y : Int × Int) : CV := .tup [I y.1, I y.2]
def dYearEnd_F (d : Int) : Option (Int × Int) := Option.bind (dDate_S d) fun y1 => bif (y1.2.2.2 != 0) then some (0, y1.2.2.2) else (Option.bind (dbegin_S (IntKind.i64.wrap (y1.1 + 1))) fun y4 => some ((if 1048575 < (IntKind.i64.wrap (y4 - 1)) then 1048575 else (IntKind.i64.wrap (y4 - 1))), 0))
set_option linter.unusedVariables false in
theorem dYearEnd_Fh {d : Int} {r : Int × Int} (hF : dYearEnd_F d = some r) : Holds Tryz.prog Gw 38 [I d] (dYearEnd_E r) := by
  refine holds_of_wq tabOk mixed Tryz.func38 (by decide) rfl (Nat.le_of_ble_eq_true rfl) ?_
  refine obind hF fun y1 h2 hF => ?_
  refine Or.inl ⟨_, dDate_h h2, rfl, ?_⟩
  refine And.intro (fun h3 => ?_) (fun h3 => ?_)
  · have hF := cpos h3 hF
    exact Or.inl ⟨rfl, congrArg (Option.map dYearEnd_E) hF⟩
  · have hF := cneg h3 hF
    refine obind hF fun y4 h5 hF => ?_
    refine Or.inl ⟨_, dbegin_h h5, rfl, ?_⟩
    exact Or.inl ⟨rfl, congrArg (Option.map dYearEnd_E) hF⟩
abbrev dYearEnd_S (d : Int) : Option (Int × Int) := dYearEnd_F d
theorem dYearEnd_h {d : Int} {r : Int × Int} (h : dYearEnd_S d = some r) : Holds Tryz.prog Gw 38 [I d] (dYearEnd_E r) := dYearEnd_Fh  h
abbrev ddigits_E (y : Str) : CV := S y
def ddigits_L1 (many : Int) (y1 : Str) : Nat → Str → Int → Option (Str)
  | 0, _, _ => none
  | fu1 + 1, s3, v4 => bif decide (v4 < (IntKind.i64.wrap (many - (y1.length : Int)))) then (bif decide (([48] : Str).length + s3.length ≤ 9223372036854775807) then ddigits_L1 many y1 fu1 (([48] : Str) ++ s3) (IntKind.i64.wrap (v4 + 1)) else none) else some (s3)
def ddigits_F (N : Nat) (n : Int) (many : Int) : Option (Str) := Option.bind (itoa_S n) fun y1 => ddigits_L1 many y1 N y1 0
set_option linter.unusedVariables false in
theorem ddigits_Fh {N : Nat} {n : Int} {many : Int} {r : Str} (hF : ddigits_F N n many = some r) : Holds Tryz.prog Gw 101 [I n, I many] (ddigits_E r) := by
  refine holds_of_wq tabOk mixed Tryz.func101 (by decide) rfl (Nat.le_of_ble_eq_true rfl) ?_
  refine obind hF fun y1 h2 hF => ?_
  refine Or.inl ⟨_, itoa_h h2, rfl, ?_⟩
  refine loop_oq (fun p : Nat × Str × Int => [(5, .c (S p.2.1)), (11, .c (I (IntKind.i64.wrap (many - (y1.length : Int))))), (12, .c (I p.2.2))]) (fun _ => []) (fun p => ddigits_L1 many y1 p.1 p.2.1 p.2.2 = some r) (fun p => p.1) (N, y1, 0) hF ⟨rfl, rfl, rfl, trivial⟩ trivial ?_
  rintro ⟨fu1, s3, v4⟩ hF
  cases fu1 with
  | zero => exact nomatch hF
  | succ fu1 =>
    refine join_no ?_
    refine And.intro (fun h5 => ?_) (fun h5 => ?_)
    · have hF := cpos h5 hF
      refine join_no ?_
      refine gpos hF fun h6 hF => ?_
      refine ⟨of_decide_eq_true h6, _, scat _ _, ?_⟩
      exact ⟨(fu1, (([48] : Str) ++ s3), (IntKind.i64.wrap (v4 + 1))), Nat.lt_succ_self _, hF, ⟨rfl, rfl, rfl, trivial⟩, trivial⟩
    · have hF := cneg h5 hF
      exact Or.inl ⟨rfl, congrArg (Option.map ddigits_E) hF⟩
abbrev ddigits_S (n : Int) (many : Int) : Option (Str) := ddigits_F 30 n many
theorem ddigits_h {n : Int} {many : Int} {r : Str} (h : ddigits_S n many = some r) : Holds Tryz.prog Gw 101 [I n, I many] (ddigits_E r) := ddigits_Fh  h
abbrev dFormat_E (y : Str × Int) : CV := .tup [S y.1, I y.2]
def dFormat_F (d : Int) : Option (Str × Int) := Option.bind (dDate_S d) fun y1 => bif (y1.2.2.2 != 0) then some (([] : Str), y1.2.2.2) else (Option.bind (ddigits_S y1.1 4) fun y4 => bif decide (y4.length + ([45] : Str).length ≤ 9223372036854775807) then Option.bind (ddigits_S y1.2.1 2) fun y7 => bif decide ((y4 ++ ([45] : Str)).length + y7.length ≤ 9223372036854775807) then bif decide (((y4 ++ ([45] : Str)) ++ y7).length + ([45] : Str).length ≤ 9223372036854775807) then Option.bind (ddigits_S y1.2.2.1 2) fun y11 => bif decide ((((y4 ++ ([45] : Str)) ++ y7) ++ ([45] : Str)).length + y11.length ≤ 9223372036854775807) then some (((((y4 ++ ([45] : Str)) ++ y7) ++ ([45] : Str)) ++ y11), 0) else none else none else none else none)
set_option linter.unusedVariables false in
theorem dFormat_Fh {d : Int} {r : Str × Int} (hF : dFormat_F d = some r) : Holds Tryz.prog Gw 85 [I d] (dFormat_E r) := by
  refine holds_of_wq tabOk mixed Tryz.func85 (by decide) rfl (Nat.le_of_ble_eq_true rfl) ?_
  refine obind hF fun y1 h2 hF => ?_
  refine Or.inl ⟨_, dDate_h h2, rfl, ?_⟩
  refine And.intro (fun h3 => ?_) (fun h3 => ?_)
  · have hF := cpos h3 hF
    exact Or.inl ⟨rfl, congrArg (Option.map dFormat_E) hF⟩
  · have hF := cneg h3 hF
    refine obind hF fun y4 h5 hF => ?_
    refine Or.inl ⟨_, ddigits_h h5, rfl, ?_⟩
    refine gpos hF fun h6 hF => ?_
    refine ⟨of_decide_eq_true h6, _, scat _ _, ?_⟩
    refine obind hF fun y7 h8 hF => ?_
    refine Or.inl ⟨_, ddigits_h h8, rfl, ?_⟩
    refine gpos hF fun h9 hF => ?_
    refine ⟨of_decide_eq_true h9, _, scat _ _, ?_⟩
    refine gpos hF fun h10 hF => ?_
    refine ⟨of_decide_eq_true h10, _, scat _ _, ?_⟩
    refine obind hF fun y11 h12 hF => ?_
    refine Or.inl ⟨_, ddigits_h h12, rfl, ?_⟩
    refine gpos hF fun h13 hF => ?_
    refine ⟨of_decide_eq_true h13, _, scat _ _, ?_⟩
    exact Or.inl ⟨rfl, congrArg (Option.map dFormat_E) hF⟩
abbrev dFormat_S (d : Int) : Option (Str × Int) := dFormat_F d
theorem dFormat_h {d : Int} {r : Str × Int} (h : dFormat_S d = some r) : Holds Tryz.prog Gw 85 [I d] (dFormat_E r) := dFormat_Fh  h
abbrev dnumber_E (y : Int) : CV := I y
def dnumber_L1 (s : Str) : Nat → Int → Int → Option (Int)
  | 0, _, _ => none
  | fu1 + 1, n1, v2 => bif decide (v2 < (s.length : Int)) then (Option.bind (ix s v2) fun b4 => bif decide ((b4.toNat : Int) < 48) then some ((-1)) else (Option.bind (ix s v2) fun b7 => bif decide ((b7.toNat : Int) > 57) then some ((-1)) else (Option.bind (ix s v2) fun b10 => dnumber_L1 s fu1 (IntKind.i64.wrap ((IntKind.i64.wrap (10 * n1)) + (IntKind.i64.wrap (IntKind.u8.wrap ((b10.toNat : Int) - 48))))) (IntKind.i64.wrap (v2 + 1))))) else some (n1)
def dnumber_F (N : Nat) (s : Str) : Option (Int) := dnumber_L1 s N 0 0
set_option linter.unusedVariables false in
theorem dnumber_Fh {N : Nat} {s : Str} {r : Int} (hF : dnumber_F N s = some r) : Holds Tryz.prog Gw 108 [S s] (dnumber_E r) := by
  refine holds_of_wq tabOk mixed Tryz.func108 (by decide) rfl (Nat.le_of_ble_eq_true rfl) ?_
  refine loop_oq (fun p : Nat × Int × Int => [(0, .c (S s)), (3, .c (I p.2.1)), (6, .c (I (s.length : Int))), (7, .c (I p.2.2))]) (fun _ => []) (fun p => dnumber_L1 s p.1 p.2.1 p.2.2 = some r) (fun p => p.1) (N, 0, 0) hF ⟨rfl, rfl, rfl, rfl, trivial⟩ trivial ?_
  rintro ⟨fu1, n1, v2⟩ hF
  cases fu1 with
  | zero => exact nomatch hF
  | succ fu1 =>
    refine join_no ?_
    refine And.intro (fun h3 => ?_) (fun h3 => ?_)
    · have hF := cpos h3 hF
      refine join_no ?_
      refine Or.inl ?_
      refine obind hF fun b4 h5 hF => ?_
      refine ⟨ix_nn h5, _, ix_str h5, ?_⟩
      refine And.intro (fun h6 => ?_) (fun h6 => ?_)
      · have hF := cpos h6 hF
        exact Or.inl ⟨rfl, congrArg (Option.map dnumber_E) hF⟩
      · have hF := cneg h6 hF
        refine Or.inl ?_
        refine obind hF fun b7 h8 hF => ?_
        refine ⟨ix_nn h8, _, ix_str h8, ?_⟩
        refine And.intro (fun h9 => ?_) (fun h9 => ?_)
        · have hF := cpos h9 hF
          exact Or.inl ⟨rfl, congrArg (Option.map dnumber_E) hF⟩
        · have hF := cneg h9 hF
          refine Or.inl ?_
          refine obind hF fun b10 h11 hF => ?_
          refine ⟨ix_nn h11, _, ix_str h11, ?_⟩
          exact ⟨(fu1, (IntKind.i64.wrap ((IntKind.i64.wrap (10 * n1)) + (IntKind.i64.wrap (IntKind.u8.wrap ((b10.toNat : Int) - 48))))), (IntKind.i64.wrap (v2 + 1))), Nat.lt_succ_self _, hF, ⟨rfl, rfl, rfl, rfl, trivial⟩, trivial⟩
    · have hF := cneg h3 hF
      exact Or.inl ⟨rfl, congrArg (Option.map dnumber_E) hF⟩
abbrev dnumber_S (s : Str) : Option (Int) := dnumber_F (s.length + 1) s
theorem dnumber_h {s : Str} {r : Int} (h : dnumber_S s = some r) : Holds Tryz.prog Gw 108 [S s] (dnumber_E r) := dnumber_Fh  h
abbrev dParse_E (y : Int × Int) : CV := .tup [I y.1, I y.2]
def dParse_F (text : Str) : Option (Int × Int) := bif ((text.length : Int) != 10) then some (0, 3) else (Option.bind (ix text 4) fun b2 => bif ((b2.toNat : Int) != 45) then some (0, 3) else (Option.bind (ix text 7) fun b5 => bif ((b5.toNat : Int) != 45) then some (0, 3) else (Option.bind (slc text 0 4) fun y8 => Option.bind (dnumber_S y8) fun y10 => Option.bind (slc text 5 7) fun y12 => Option.bind (dnumber_S y12) fun y14 => Option.bind (slc text 8 (text.length : Int)) fun y16 => Option.bind (dnumber_S y16) fun y18 => bif decide ((if y18 < (if y14 < y10 then y14 else y10) then y18 else (if y14 < y10 then y14 else y10)) < 0) then some (0, 3) else (Option.bind (dOf_S y10 y14 y18) fun y21 => some (y21.1, y21.2)))))
set_option linter.unusedVariables false in
theorem dParse_Fh {text : Str} {r : Int × Int} (hF : dParse_F text = some r) : Holds Tryz.prog Gw 89 [S text] (dParse_E r) := by
  refine holds_of_wq tabOk mixed Tryz.func89 (by decide) rfl (Nat.le_of_ble_eq_true rfl) ?_
  refine And.intro (fun h1 => ?_) (fun h1 => ?_)
  · have hF := cpos h1 hF
    exact Or.inl ⟨rfl, congrArg (Option.map dParse_E) hF⟩
  · have hF := cneg h1 hF
    refine Or.inl ?_
    refine obind hF fun b2 h3 hF => ?_
    refine ⟨ix_nn h3, _, ix_str h3, ?_⟩
    refine And.intro (fun h4 => ?_) (fun h4 => ?_)
    · have hF := cpos h4 hF
      exact Or.inl ⟨rfl, congrArg (Option.map dParse_E) hF⟩
    · have hF := cneg h4 hF
      refine Or.inl ?_
      refine obind hF fun b5 h6 hF => ?_
      refine ⟨ix_nn h6, _, ix_str h6, ?_⟩
      refine And.intro (fun h7 => ?_) (fun h7 => ?_)
      · have hF := cpos h7 hF
        exact Or.inl ⟨rfl, congrArg (Option.map dParse_E) hF⟩
      · have hF := cneg h7 hF
        refine obind hF fun y8 h9 hF => ?_
        refine Or.inr ⟨[], 0, _, _, _, _, rfl, rfl, eff_sslice_h tok9.u h9, rfl, ?_⟩
        refine obind hF fun y10 h11 hF => ?_
        refine Or.inl ⟨_, dnumber_h h11, rfl, ?_⟩
        refine obind hF fun y12 h13 hF => ?_
        refine Or.inr ⟨[], 0, _, _, _, _, rfl, rfl, eff_sslice_lh tok9.u h13, rfl, ?_⟩
        refine obind hF fun y14 h15 hF => ?_
        refine Or.inl ⟨_, dnumber_h h15, rfl, ?_⟩
        refine obind hF fun y16 h17 hF => ?_
        refine Or.inr ⟨[], 0, _, _, _, _, rfl, rfl, eff_sslice_l tok9.u h17, rfl, ?_⟩
        refine obind hF fun y18 h19 hF => ?_
        refine Or.inl ⟨_, dnumber_h h19, rfl, ?_⟩
        refine And.intro (by kernel_rfl) ?_
        refine Or.inr ⟨[], 0, _, _, _, _, rfl, rfl, eff_min3, rfl, ?_⟩
        refine And.intro (fun h20 => ?_) (fun h20 => ?_)
        · have hF := cpos h20 hF
          exact Or.inl ⟨rfl, congrArg (Option.map dParse_E) hF⟩
        · have hF := cneg h20 hF
          refine obind hF fun y21 h22 hF => ?_
          refine Or.inl ⟨_, dOf_h h22, rfl, ?_⟩
          exact Or.inl ⟨rfl, congrArg (Option.map dParse_E) hF⟩
abbrev dParse_S (text : Str) : Option (Int × Int) := dParse_F text
theorem dParse_h {text : Str} {r : Int × Int} (h : dParse_S text = some r) : Holds Tryz.prog Gw 89 [S text] (dParse_E r) := dParse_Fh  h
abbrev hCheck_E (y : Int) : CV := I y
def hCheck_F (x : Dating) : Option (Int) := bif decide (x.First < 0) then some (1) else (bif decide (x.First > x.Last) then some (1) else (bif decide (x.Last > 1048575) then some (1) else some (0)))
set_option linter.unusedVariables false in
theorem hCheck_Fh {x : Dating} {r : Int} (hF : hCheck_F x = some r) : Holds Tryz.prog Gw 36 [.agg (cDating x)] (hCheck_E r) := by
  refine holds_of_wq tabOk mixed Tryz.func36 (by decide) rfl (Nat.le_of_ble_eq_true rfl) ?_
  refine Or.inl ?_
  refine And.intro (fun h1 => ?_) (fun h1 => ?_)
  · have hF := cpos h1 hF
    exact Or.inl ⟨rfl, congrArg (Option.map hCheck_E) hF⟩
  · have hF := cneg h1 hF
    refine And.intro (fun h2 => ?_) (fun h2 => ?_)
    · have hF := cpos h2 hF
      exact Or.inl ⟨rfl, congrArg (Option.map hCheck_E) hF⟩
    · have hF := cneg h2 hF
      refine And.intro (fun h3 => ?_) (fun h3 => ?_)
      · have hF := cpos h3 hF
        exact Or.inl ⟨rfl, congrArg (Option.map hCheck_E) hF⟩
      · have hF := cneg h3 hF
        exact Or.inl ⟨rfl, congrArg (Option.map hCheck_E) hF⟩
abbrev hCheck_S (x : Dating) : Option (Int) := hCheck_F x
theorem hCheck_h {x : Dating} {r : Int} (h : hCheck_S x = some r) : Holds Tryz.prog Gw 36 [.agg (cDating x)] (hCheck_E r) := hCheck_Fh  h
abbrev eleap_E (y : Bool) : CV := B y
def eleap_F (year : Int) : Option (Bool) := bif ((Int.tmod year 4) == 0) then (bif ((Int.tmod year 100) != 0) then some (true) else some (((Int.tmod year 400) == 0))) else some (((Int.tmod year 400) == 0))
set_option linter.unusedVariables false in
theorem eleap_Fh {year : Int} {r : Bool} (hF : eleap_F year = some r) : Holds Tryz.prog Gw 79 [I year] (eleap_E r) := by
  refine holds_of_wq tabOk mixed Tryz.func79 (by decide) rfl (Nat.le_of_ble_eq_true rfl) ?_
  refine ⟨rfl, by decide, ?_⟩
  refine And.intro (fun h1 => ?_) (fun h1 => ?_)
  · have hF := cpos h1 hF
    refine ⟨rfl, by decide, ?_⟩
    refine And.intro (fun h2 => ?_) (fun h2 => ?_)
    · have hF := cpos h2 hF
      exact Or.inl ⟨rfl, congrArg (Option.map eleap_E) hF⟩
    · have hF := cneg h2 hF
      refine ⟨rfl, by decide, ?_⟩
      exact Or.inl ⟨rfl, congrArg (Option.map eleap_E) hF⟩
  · have hF := cneg h1 hF
    refine ⟨rfl, by decide, ?_⟩
    exact Or.inl ⟨rfl, congrArg (Option.map eleap_E) hF⟩
abbrev eleap_S (year : Int) : Option (Bool) := eleap_F year
theorem eleap_h {year : Int} {r : Bool} (h : eleap_S year = some r) : Holds Tryz.prog Gw 79 [I year] (eleap_E r) := eleap_Fh  h
abbrev eLength_E (y : Int) : CV := I y
def eLength_F (year : Int) (month : Int) : Option (Int) := bif decide (year < 1600) then some (0) else (bif decide (year > 4470) then some (0) else (bif decide (month < 1) then some (0) else (bif decide (month > 12) then some (0) else (bif (month == 2) then (Option.bind (eleap_S year) fun y6 => bif y6 then some (29) else (Option.bind (ixA 12 monthC (IntKind.i64.wrap (month - 1))) fun x9 => some (x9))) else (Option.bind (ixA 12 monthC (IntKind.i64.wrap (month - 1))) fun x11 => some (x11))))))
set_option linter.unusedVariables false in
theorem eLength_Fh {year : Int} {month : Int} {r : Int} (hF : eLength_F year month = some r) : Holds Tryz.prog Gw 99 [I year, I month] (eLength_E r) := by
  refine holds_of_wq tabOk mixed Tryz.func99 (by decide) rfl (Nat.le_of_ble_eq_true rfl) ?_
  refine And.intro (fun h1 => ?_) (fun h1 => ?_)
  · have hF := cpos h1 hF
    exact Or.inl ⟨rfl, congrArg (Option.map eLength_E) hF⟩
  · have hF := cneg h1 hF
    refine And.intro (fun h2 => ?_) (fun h2 => ?_)
    · have hF := cpos h2 hF
      exact Or.inl ⟨rfl, congrArg (Option.map eLength_E) hF⟩
    · have hF := cneg h2 hF
      refine And.intro (fun h3 => ?_) (fun h3 => ?_)
      · have hF := cpos h3 hF
        exact Or.inl ⟨rfl, congrArg (Option.map eLength_E) hF⟩
      · have hF := cneg h3 hF
        refine And.intro (fun h4 => ?_) (fun h4 => ?_)
        · have hF := cpos h4 hF
          exact Or.inl ⟨rfl, congrArg (Option.map eLength_E) hF⟩
        · have hF := cneg h4 hF
          refine And.intro (fun h5 => ?_) (fun h5 => ?_)
          · have hF := cpos h5 hF
            refine obind hF fun y6 h7 hF => ?_
            refine Or.inl ⟨_, eleap_h h7, rfl, ?_⟩
            refine And.intro (fun h8 => ?_) (fun h8 => ?_)
            · have hF := cpos h8 hF
              exact Or.inl ⟨rfl, congrArg (Option.map eLength_E) hF⟩
            · have hF := cneg h8 hF
              refine Or.inr ⟨[], 0, _, _, _, _, rfl, rfl, eff_build117, rfl, ?_⟩
              refine obind hF fun x9 h10 hF => ?_
              refine Or.inr ⟨[], 0, _, _, _, _, rfl, rfl, eff_ixA Tryz.underlying117 Tryz.sizeOf3 Tryz.isAgg3 h10, rfl, ?_⟩
              exact Or.inl ⟨rfl, congrArg (Option.map eLength_E) hF⟩
          · have hF := cneg h5 hF
            refine Or.inr ⟨[], 0, _, _, _, _, rfl, rfl, eff_build117, rfl, ?_⟩
            refine obind hF fun x11 h12 hF => ?_
            refine Or.inr ⟨[], 0, _, _, _, _, rfl, rfl, eff_ixA Tryz.underlying117 Tryz.sizeOf3 Tryz.isAgg3 h12, rfl, ?_⟩
            exact Or.inl ⟨rfl, congrArg (Option.map eLength_E) hF⟩
abbrev eLength_S (year : Int) (month : Int) : Option (Int) := eLength_F year month
theorem eLength_h {year : Int} {month : Int} {r : Int} (h : eLength_S year month = some r) : Holds Tryz.prog Gw 99 [I year, I month] (eLength_E r) := eLength_Fh  h
abbrev ebefore_E (y : Int) : CV := I y
def ebefore_F (year : Int) : Option (Int) := bif ((IntKind.i64.wrap (year - 1600)) == 0) then some (0) else some ((IntKind.i64.wrap ((IntKind.i64.wrap ((IntKind.i64.wrap ((IntKind.i64.wrap ((IntKind.i64.wrap ((IntKind.i64.wrap (365 * (IntKind.i64.wrap (year - 1600)))) + (IntKind.i64.wrap (Int.tdiv (IntKind.i64.wrap ((IntKind.i64.wrap (year - 1600)) - 1)) 4)))) + 1)) - (IntKind.i64.wrap ((IntKind.i64.wrap (Int.tdiv (IntKind.i64.wrap ((IntKind.i64.wrap (year - 1600)) - 1)) 100)) + 1)))) + (IntKind.i64.wrap (Int.tdiv (IntKind.i64.wrap ((IntKind.i64.wrap (year - 1600)) - 1)) 400)))) + 1)))
set_option linter.unusedVariables false in
theorem ebefore_Fh {year : Int} {r : Int} (hF : ebefore_F year = some r) : Holds Tryz.prog Gw 98 [I year] (ebefore_E r) := by
  refine holds_of_wq tabOk mixed Tryz.func98 (by decide) rfl (Nat.le_of_ble_eq_true rfl) ?_
  refine And.intro (fun h1 => ?_) (fun h1 => ?_)
  · have hF := cpos h1 hF
    exact Or.inl ⟨rfl, congrArg (Option.map ebefore_E) hF⟩
  · have hF := cneg h1 hF
    refine ⟨rfl, by decide, ?_⟩
    refine ⟨rfl, by decide, ?_⟩
    refine ⟨rfl, by decide, ?_⟩
    exact Or.inl ⟨rfl, congrArg (Option.map ebefore_E) hF⟩
abbrev ebefore_S (year : Int) : Option (Int) := ebefore_F year
theorem ebefore_h {year : Int} {r : Int} (h : ebefore_S year = some r) : Holds Tryz.prog Gw 98 [I year] (ebefore_E r) := ebefore_Fh  h
abbrev eGood_E (y : Bool) : CV := B y
def eGood_F (d : Int) : Option (Bool) := bif decide (d ≥ 0) then some (decide (d ≤ 1048575)) else some (false)
set_option linter.unusedVariables false in
theorem eGood_Fh {d : Int} {r : Bool} (hF : eGood_F d = some r) : Holds Tryz.prog Gw 77 [I d] (eGood_E r) := by
  refine holds_of_wq tabOk mixed Tryz.func77 (by decide) rfl (Nat.le_of_ble_eq_true rfl) ?_
  refine And.intro (fun h1 => ?_) (fun h1 => ?_)
  · have hF := cpos h1 hF
    exact Or.inl ⟨rfl, congrArg (Option.map eGood_E) hF⟩
  · have hF := cneg h1 hF
    exact Or.inl ⟨rfl, congrArg (Option.map eGood_E) hF⟩
abbrev eGood_S (d : Int) : Option (Bool) := eGood_F d
theorem eGood_h {d : Int} {r : Bool} (h : eGood_S d = some r) : Holds Tryz.prog Gw 77 [I d] (eGood_E r) := eGood_Fh  h
abbrev eOf_E (y : Int × Int) : CV := .tup [I y.1, I y.2]
def eOf_L1 (year : Int) (month : Int) : Nat → Int → Int → Option (Int × Int)
  | 0, _, _ => none
  | fu1 + 1, d7, m8 => bif decide (m8 < month) then (Option.bind (eLength_S year m8) fun y10 => eOf_L1 year month fu1 (IntKind.i64.wrap (d7 + y10)) (IntKind.i64.wrap (m8 + 1))) else (bif decide (d7 > 1048575) then some (0, 2) else some (d7, 0))
def eOf_F (N : Nat) (year : Int) (month : Int) (day : Int) : Option (Int × Int) := bif decide (day < 1) then some (0, 2) else (Option.bind (eLength_S year month) fun y2 => bif decide (day > y2) then some (0, 2) else (Option.bind (ebefore_S year) fun y5 => eOf_L1 year month N (IntKind.i64.wrap ((IntKind.i64.wrap (y5 + day)) - 1)) 1))
set_option linter.unusedVariables false in
theorem eOf_Fh {N : Nat} {year : Int} {month : Int} {day : Int} {r : Int × Int} (hF : eOf_F N year month day = some r) : Holds Tryz.prog Gw 80 [I year, I month, I day] (eOf_E r) := by
  refine holds_of_wq tabOk mixed Tryz.func80 (by decide) rfl (Nat.le_of_ble_eq_true rfl) ?_
  refine And.intro (fun h1 => ?_) (fun h1 => ?_)
  · have hF := cpos h1 hF
    exact Or.inl ⟨rfl, congrArg (Option.map eOf_E) hF⟩
  · have hF := cneg h1 hF
    refine obind hF fun y2 h3 hF => ?_
    refine Or.inl ⟨_, eLength_h h3, rfl, ?_⟩
    refine And.intro (fun h4 => ?_) (fun h4 => ?_)
    · have hF := cpos h4 hF
      exact Or.inl ⟨rfl, congrArg (Option.map eOf_E) hF⟩
    · have hF := cneg h4 hF
      refine obind hF fun y5 h6 hF => ?_
      refine Or.inl ⟨_, ebefore_h h6, rfl, ?_⟩
      refine loop_oq (fun p : Nat × Int × Int => [(0, .c (I year)), (1, .c (I month)), (8, .c (I p.2.1)), (9, .c (I p.2.2))]) (fun _ => []) (fun p => eOf_L1 year month p.1 p.2.1 p.2.2 = some r) (fun p => p.1) (N, (IntKind.i64.wrap ((IntKind.i64.wrap (y5 + day)) - 1)), 1) hF ⟨rfl, rfl, rfl, rfl, trivial⟩ trivial ?_
      rintro ⟨fu1, d7, m8⟩ hF
      cases fu1 with
      | zero => exact nomatch hF
      | succ fu1 =>
        refine And.intro (fun h9 => ?_) (fun h9 => ?_)
        · have hF := cpos h9 hF
          refine join_no ?_
          refine obind hF fun y10 h11 hF => ?_
          refine Or.inl ⟨_, eLength_h h11, rfl, ?_⟩
          exact ⟨(fu1, (IntKind.i64.wrap (d7 + y10)), (IntKind.i64.wrap (m8 + 1))), Nat.lt_succ_self _, hF, ⟨rfl, rfl, rfl, rfl, trivial⟩, trivial⟩
        · have hF := cneg h9 hF
          refine And.intro (fun h12 => ?_) (fun h12 => ?_)
          · have hF := cpos h12 hF
            exact Or.inl ⟨rfl, congrArg (Option.map eOf_E) hF⟩
          · have hF := cneg h12 hF
            exact Or.inl ⟨rfl, congrArg (Option.map eOf_E) hF⟩
abbrev eOf_S (year : Int) (month : Int) (day : Int) : Option (Int × Int) := eOf_F 2000 year month day
theorem eOf_h {year : Int} {month : Int} {day : Int} {r : Int × Int} (h : eOf_S year month day = some r) : Holds Tryz.prog Gw 80 [I year, I month, I day] (eOf_E r) := eOf_Fh  h
abbrev eDate_E (y : Int × Int × Int × Int) : CV := .tup [I y.1, I y.2.1, I y.2.2.1, I y.2.2.2]
def eDate_L2 (year4 : Int) : Nat → Int → Int → Option (Int × Int × Int × Int)
  | 0, _, _ => none
  | fu2 + 1, d10, month11 => Option.bind (eLength_S year4 month11) fun y12 => bif decide (d10 ≥ y12) then (Option.bind (eLength_S year4 month11) fun y15 => eDate_L2 year4 fu2 (IntKind.i64.wrap (d10 - y15)) (IntKind.i64.wrap (month11 + 1))) else some (year4, month11, (IntKind.i64.wrap (d10 + 1)), 0)
def eDate_L1 (d : Int) (N : Nat) : Nat → Int → Option (Int × Int × Int × Int)
  | 0, _ => none
  | fu1 + 1, year4 => Option.bind (ebefore_S (IntKind.i64.wrap (year4 + 1))) fun y5 => bif decide (y5 ≤ d) then eDate_L1 d N fu1 (IntKind.i64.wrap (year4 + 1)) else (Option.bind (ebefore_S year4) fun y8 => eDate_L2 year4 N (IntKind.i64.wrap (d - y8)) 1)
def eDate_F (N : Nat) (d : Int) : Option (Int × Int × Int × Int) := Option.bind (eGood_S d) fun y1 => bif (!y1) then some (0, 0, 0, 2) else eDate_L1 d N N (IntKind.i64.wrap (1600 + (IntKind.i64.wrap (Int.tdiv d 366))))
set_option linter.unusedVariables false in
theorem eDate_Fh {N : Nat} {d : Int} {r : Int × Int × Int × Int} (hF : eDate_F N d = some r) : Holds Tryz.prog Gw 78 [I d] (eDate_E r) := by
  refine holds_of_wq tabOk mixed Tryz.func78 (by decide) rfl (Nat.le_of_ble_eq_true rfl) ?_
  refine obind hF fun y1 h2 hF => ?_
  refine Or.inl ⟨_, eGood_h h2, rfl, ?_⟩
  refine And.intro (fun h3 => ?_) (fun h3 => ?_)
  · have hF := cpos h3 hF
    exact Or.inl ⟨rfl, congrArg (Option.map eDate_E) hF⟩
  · have hF := cneg h3 hF
    refine ⟨rfl, by decide, ?_⟩
    refine join_no ?_
    refine loop_oq (fun p : Nat × Int => [(0, .c (I d)), (6, .c (I p.2))]) (fun _ => []) (fun p => eDate_L1 d N p.1 p.2 = some r) (fun p => p.1) (N, (IntKind.i64.wrap (1600 + (IntKind.i64.wrap (Int.tdiv d 366))))) hF ⟨rfl, rfl, trivial⟩ trivial ?_
    rintro ⟨fu1, year4⟩ hF
    cases fu1 with
    | zero => exact nomatch hF
    | succ fu1 =>
      refine obind hF fun y5 h6 hF => ?_
      refine Or.inl ⟨_, ebefore_h h6, rfl, ?_⟩
      refine And.intro (fun h7 => ?_) (fun h7 => ?_)
      · have hF := cpos h7 hF
        exact ⟨(fu1, (IntKind.i64.wrap (year4 + 1))), Nat.lt_succ_self _, hF, ⟨rfl, rfl, trivial⟩, trivial⟩
      · have hF := cneg h7 hF
        refine obind hF fun y8 h9 hF => ?_
        refine Or.inl ⟨_, ebefore_h h9, rfl, ?_⟩
        refine join_no ?_
        refine loop_oq (fun p : Nat × Int × Int => [(0, .c (I p.2.1)), (6, .c (I year4)), (7, .c (I p.2.2))]) (fun _ => []) (fun p => eDate_L2 year4 p.1 p.2.1 p.2.2 = some r) (fun p => p.1) (N, (IntKind.i64.wrap (d - y8)), 1) hF ⟨rfl, rfl, rfl, trivial⟩ trivial ?_
        rintro ⟨fu2, d10, month11⟩ hF
        cases fu2 with
        | zero => exact nomatch hF
        | succ fu2 =>
          refine obind hF fun y12 h13 hF => ?_
          refine Or.inl ⟨_, eLength_h h13, rfl, ?_⟩
          refine And.intro (fun h14 => ?_) (fun h14 => ?_)
          · have hF := cpos h14 hF
            refine obind hF fun y15 h16 hF => ?_
            refine Or.inl ⟨_, eLength_h h16, rfl, ?_⟩
            exact ⟨(fu2, (IntKind.i64.wrap (d10 - y15)), (IntKind.i64.wrap (month11 + 1))), Nat.lt_succ_self _, hF, ⟨rfl, rfl, rfl, trivial⟩, trivial⟩
          · have hF := cneg h14 hF
            exact Or.inl ⟨rfl, congrArg (Option.map eDate_E) hF⟩
abbrev eDate_S (d : Int) : Option (Int × Int × Int × Int) := eDate_F 4000 d
theorem eDate_h {d : Int} {r : Int × Int × Int × Int} (h : eDate_S d = some r) : Holds Tryz.prog Gw 78 [I d] (eDate_E r) := eDate_Fh  h
abbrev eYears_E (y : Int × Int) : CV := .tup [I y.1, I y.2]
def eYears_F (d : Int) (n : Int) : Option (Int × Int) := Option.bind (eGood_S d) fun y1 => bif (!y1) then some (0, 2) else (bif decide (n < 0) then some (0, 2) else (bif decide (n > 200) then some (0, 2) else (Option.bind (eDate_S d) fun y6 => bif (y6.2.1 == 2) then (bif (y6.2.2.1 == 29) then (Option.bind (eleap_S (IntKind.i64.wrap (y6.1 + n))) fun y10 => bif (!y10) then (Option.bind (eOf_S (IntKind.i64.wrap (y6.1 + n)) y6.2.1 28) fun y13 => bif (y13.2 != 0) then some (1048575, 0) else some (y13.1, 0)) else (Option.bind (eOf_S (IntKind.i64.wrap (y6.1 + n)) y6.2.1 y6.2.2.1) fun y16 => bif (y16.2 != 0) then some (1048575, 0) else some (y16.1, 0))) else (Option.bind (eOf_S (IntKind.i64.wrap (y6.1 + n)) y6.2.1 y6.2.2.1) fun y19 => bif (y19.2 != 0) then some (1048575, 0) else some (y19.1, 0))) else (Option.bind (eOf_S (IntKind.i64.wrap (y6.1 + n)) y6.2.1 y6.2.2.1) fun y22 => bif (y22.2 != 0) then some (1048575, 0) else some (y22.1, 0)))))
set_option linter.unusedVariables false in
theorem eYears_Fh {d : Int} {n : Int} {r : Int × Int} (hF : eYears_F d n = some r) : Holds Tryz.prog Gw 48 [I d, I n] (eYears_E r) := by
  refine holds_of_wq tabOk mixed Tryz.func48 (by decide) rfl (Nat.le_of_ble_eq_true rfl) ?_
  refine obind hF fun y1 h2 hF => ?_
  refine Or.inl ⟨_, eGood_h h2, rfl, ?_⟩
  refine And.intro (fun h3 => ?_) (fun h3 => ?_)
  · have hF := cpos h3 hF
    exact Or.inl ⟨rfl, congrArg (Option.map eYears_E) hF⟩
  · have hF := cneg h3 hF
    refine And.intro (fun h4 => ?_) (fun h4 => ?_)
    · have hF := cpos h4 hF
      exact Or.inl ⟨rfl, congrArg (Option.map eYears_E) hF⟩
    · have hF := cneg h4 hF
      refine And.intro (fun h5 => ?_) (fun h5 => ?_)
      · have hF := cpos h5 hF
        exact Or.inl ⟨rfl, congrArg (Option.map eYears_E) hF⟩
      · have hF := cneg h5 hF
        refine obind hF fun y6 h7 hF => ?_
        refine Or.inl ⟨_, eDate_h h7, rfl, ?_⟩
        refine And.intro (fun h8 => ?_) (fun h8 => ?_)
        · have hF := cpos h8 hF
          refine And.intro (fun h9 => ?_) (fun h9 => ?_)
          · have hF := cpos h9 hF
            refine obind hF fun y10 h11 hF => ?_
            refine Or.inl ⟨_, eleap_h h11, rfl, ?_⟩
            refine And.intro (fun h12 => ?_) (fun h12 => ?_)
            · have hF := cpos h12 hF
              refine obind hF fun y13 h14 hF => ?_
              refine Or.inl ⟨_, eOf_h h14, rfl, ?_⟩
              refine And.intro (fun h15 => ?_) (fun h15 => ?_)
              · have hF := cpos h15 hF
                exact Or.inl ⟨rfl, congrArg (Option.map eYears_E) hF⟩
              · have hF := cneg h15 hF
                exact Or.inl ⟨rfl, congrArg (Option.map eYears_E) hF⟩
            · have hF := cneg h12 hF
              refine obind hF fun y16 h17 hF => ?_
              refine Or.inl ⟨_, eOf_h h17, rfl, ?_⟩
              refine And.intro (fun h18 => ?_) (fun h18 => ?_)
              · have hF := cpos h18 hF
                exact Or.inl ⟨rfl, congrArg (Option.map eYears_E) hF⟩
              · have hF := cneg h18 hF
                exact Or.inl ⟨rfl, congrArg (Option.map eYears_E) hF⟩
          · have hF := cneg h9 hF
            refine obind hF fun y19 h20 hF => ?_
            refine Or.inl ⟨_, eOf_h h20, rfl, ?_⟩
            refine And.intro (fun h21 => ?_) (fun h21 => ?_)
            · have hF := cpos h21 hF
              exact Or.inl ⟨rfl, congrArg (Option.map eYears_E) hF⟩
            · have hF := cneg h21 hF
              exact Or.inl ⟨rfl, congrArg (Option.map eYears_E) hF⟩
        · have hF := cneg h8 hF
          refine obind hF fun y22 h23 hF => ?_
          refine Or.inl ⟨_, eOf_h h23, rfl, ?_⟩
          refine And.intro (fun h24 => ?_) (fun h24 => ?_)
          · have hF := cpos h24 hF
            exact Or.inl ⟨rfl, congrArg (Option.map eYears_E) hF⟩
          · have hF := cneg h24 hF
            exact Or.inl ⟨rfl, congrArg (Option.map eYears_E) hF⟩
abbrev eYears_S (d : Int) (n : Int) : Option (Int × Int) := eYears_F d n
theorem eYears_h {d : Int} {n : Int} {r : Int × Int} (h : eYears_S d n = some r) : Holds Tryz.prog Gw 48 [I d, I n] (eYears_E r) := eYears_Fh  h
abbrev eYearEnd_E (y : Int × Int) : CV := .tup [I y.1, I y.2]
def eYearEnd_F (d : Int) : Option (Int × Int) := Option.bind (eDate_S d) fun y1 => bif (y1.2.2.2 != 0) then some (0, y1.2.2.2) else (Option.bind (eOf_S y1.1 12 31) fun y4 => bif (y4.2 != 0) then some (1048575, 0) else some (y4.1, 0))
set_option linter.unusedVariables false in
theorem eYearEnd_Fh {d : Int} {r : Int × Int} (hF : eYearEnd_F d = some r) : Holds Tryz.prog Gw 49 [I d] (eYearEnd_E r) := by
  refine holds_of_wq tabOk mixed Tryz.func49 (by decide) rfl (Nat.le_of_ble_eq_true rfl) ?_
  refine obind hF fun y1 h2 hF => ?_
  refine Or.inl ⟨_, eDate_h h2, rfl, ?_⟩
  refine And.intro (fun h3 => ?_) (fun h3 => ?_)
  · have hF := cpos h3 hF
    exact Or.inl ⟨rfl, congrArg (Option.map eYearEnd_E) hF⟩
  · have hF := cneg h3 hF
    refine obind hF fun y4 h5 hF => ?_
    refine Or.inl ⟨_, eOf_h h5, rfl, ?_⟩
    refine And.intro (fun h6 => ?_) (fun h6 => ?_)
    · have hF := cpos h6 hF
      exact Or.inl ⟨rfl, congrArg (Option.map eYearEnd_E) hF⟩
    · have hF := cneg h6 hF
      exact Or.inl ⟨rfl, congrArg (Option.map eYearEnd_E) hF⟩
abbrev eYearEnd_S (d : Int) : Option (Int × Int) := eYearEnd_F d
theorem eYearEnd_h {d : Int} {r : Int × Int} (h : eYearEnd_S d = some r) : Holds Tryz.prog Gw 49 [I d] (eYearEnd_E r) := eYearEnd_Fh  h
abbrev fGood_E (y : Bool) : CV := B y
def fGood_F (x : Dating) : Option (Bool) := bif decide (0 ≤ x.First) then (bif decide (x.First ≤ x.Last) then some (decide (x.Last ≤ 1048575)) else some (false)) else some (false)
set_option linter.unusedVariables false in
theorem fGood_Fh {x : Dating} {r : Bool} (hF : fGood_F x = some r) : Holds Tryz.prog Gw 47 [.agg (cDating x)] (fGood_E r) := by
  refine holds_of_wq tabOk mixed Tryz.func47 (by decide) rfl (Nat.le_of_ble_eq_true rfl) ?_
  refine Or.inl ?_
  refine And.intro (fun h1 => ?_) (fun h1 => ?_)
  · have hF := cpos h1 hF
    refine And.intro (fun h2 => ?_) (fun h2 => ?_)
    · have hF := cpos h2 hF
      exact Or.inl ⟨rfl, congrArg (Option.map fGood_E) hF⟩
    · have hF := cneg h2 hF
      exact Or.inl ⟨rfl, congrArg (Option.map fGood_E) hF⟩
  · have hF := cneg h1 hF
    exact Or.inl ⟨rfl, congrArg (Option.map fGood_E) hF⟩
abbrev fGood_S (x : Dating) : Option (Bool) := fGood_F x
theorem fGood_h {x : Dating} {r : Bool} (h : fGood_S x = some r) : Holds Tryz.prog Gw 47 [.agg (cDating x)] (fGood_E r) := fGood_Fh  h
abbrev gIn_E (y : Bool) : CV := B y
def gIn_F (x : Span) (day : Int) : Option (Bool) := bif decide (x.From ≤ day) then some (decide (day < x.Until)) else some (false)
set_option linter.unusedVariables false in
theorem gIn_Fh {x : Span} {day : Int} {r : Bool} (hF : gIn_F x day = some r) : Holds Tryz.prog Gw 52 [.agg (cSpan x), I day] (gIn_E r) := by
  refine holds_of_wq tabOk mixed Tryz.func52 (by decide) rfl (Nat.le_of_ble_eq_true rfl) ?_
  refine Or.inl ?_
  refine And.intro (fun h1 => ?_) (fun h1 => ?_)
  · have hF := cpos h1 hF
    exact Or.inl ⟨rfl, congrArg (Option.map gIn_E) hF⟩
  · have hF := cneg h1 hF
    exact Or.inl ⟨rfl, congrArg (Option.map gIn_E) hF⟩
abbrev gIn_S (x : Span) (day : Int) : Option (Bool) := gIn_F x day
theorem gIn_h {x : Span} {day : Int} {r : Bool} (h : gIn_S x day = some r) : Holds Tryz.prog Gw 52 [.agg (cSpan x), I day] (gIn_E r) := gIn_Fh  h
abbrev gGood_E (y : Bool) : CV := B y
def gGood_F (x : Span) : Option (Bool) := bif decide (0 ≤ x.From) then (bif decide (x.From < x.Until) then some (decide (x.Until ≤ 1048576)) else some (false)) else some (false)
set_option linter.unusedVariables false in
theorem gGood_Fh {x : Span} {r : Bool} (hF : gGood_F x = some r) : Holds Tryz.prog Gw 71 [.agg (cSpan x)] (gGood_E r) := by
  refine holds_of_wq tabOk mixed Tryz.func71 (by decide) rfl (Nat.le_of_ble_eq_true rfl) ?_
  refine Or.inl ?_
  refine And.intro (fun h1 => ?_) (fun h1 => ?_)
  · have hF := cpos h1 hF
    refine And.intro (fun h2 => ?_) (fun h2 => ?_)
    · have hF := cpos h2 hF
      exact Or.inl ⟨rfl, congrArg (Option.map gGood_E) hF⟩
    · have hF := cneg h2 hF
      exact Or.inl ⟨rfl, congrArg (Option.map gGood_E) hF⟩
  · have hF := cneg h1 hF
    exact Or.inl ⟨rfl, congrArg (Option.map gGood_E) hF⟩
abbrev gGood_S (x : Span) : Option (Bool) := gGood_F x
theorem gGood_h {x : Span} {r : Bool} (h : gGood_S x = some r) : Holds Tryz.prog Gw 71 [.agg (cSpan x)] (gGood_E r) := gGood_Fh  h
end Go.Proofs.YtjoacimgcepjdaaGreatDoor
