/- Functions of the program as functions of Lean, each with its contract (printed by a program). -/
import Derived.Test.YtdoldlbcjcfmdaaGreatGC
namespace Go.Proofs.YtdoldlbcjcfmdaaGreat
open Go Go.Abs
set_option maxRecDepth 10000
set_option maxHeartbeats 400000
abbrev slConcat_E (y : List Int) : CV := .sl 1 (y.map cInt)
def slConcat_L2 (slices : List (List Int)) : Nat → Int → List Int → Option (List Int)
  | 0, _, _ => none
  | fu2 + 1, v9, v10 => bif decide (v9 < ((slices.map cSl_Int).length : Int)) then (Option.bind (ix slices v9) fun x12 => bif decide (v10.length + x12.length ≤ 4294967296) then slConcat_L2 slices fu2 (IntKind.i64.wrap (v9 + 1)) (v10 ++ x12) else none) else some (v10)
def slConcat_L1 (slices : List (List Int)) (N : Nat) : Nat → Int → Int → Option (List Int)
  | 0, _, _ => none
  | fu1 + 1, size1, v2 => bif decide (v2 < ((slices.map cSl_Int).length : Int)) then (Option.bind (ix slices v2) fun x4 => bif decide ((IntKind.i64.wrap (size1 + ((x4.map cInt).length : Int))) < 0) then none else slConcat_L1 slices N fu1 (IntKind.i64.wrap (size1 + ((x4.map cInt).length : Int))) (IntKind.i64.wrap (v2 + 1))) else (Option.bind (slGrow_XS size1) fun y7 => slConcat_L2 slices N 0 y7)
def slConcat_F (N : Nat) (slices : List (List Int)) : Option (List Int) := slConcat_L1 slices N N 0 0
set_option linter.unusedVariables false in
theorem slConcat_Fh {N : Nat} {slices : List (List Int)} {r : List Int} (hF : slConcat_F N slices = some r) : Holds Tryz.prog Gw 33 [.sl 1 (slices.map cSl_Int)] (slConcat_E r) := by
  refine holds_of_wq tabOk mixed Tryz.func33 (by decide) rfl (Nat.le_of_ble_eq_true rfl) ?_
  refine Or.inl ?_
  refine loop_oq (fun p : Nat × Int × Int => [(0, .c (.sl 1 (slices.map cSl_Int))), (3, .c (I p.2.1)), (9, .c (.sl 1 (slices.map cSl_Int))), (10, .c (I ((slices.map cSl_Int).length : Int))), (11, .c (I p.2.2))]) (fun _ => []) (fun p => slConcat_L1 slices N p.1 p.2.1 p.2.2 = some r) (fun p => p.1) (N, 0, 0) hF ⟨rfl, rfl, rfl, rfl, rfl, trivial⟩ trivial ?_
  rintro ⟨fu1, size1, v2⟩ hF
  cases fu1 with
  | zero => exact nomatch hF
  | succ fu1 =>
    refine join_no ?_
    refine And.intro (fun h3 => ?_) (fun h3 => ?_)
    · have hF := cpos h3 hF
      refine join_no ?_
      refine obind hF fun x4 h5 hF => ?_
      refine ⟨ix_nn h5, .inl rfl, _, ix_map cSl_Int h5, ?_⟩
      refine And.intro (fun h6 => ?_) (fun h6 => ?_)
      · have hF := cpos h6 hF
        exact nomatch hF
      · have hF := cneg h6 hF
        exact ⟨(fu1, (IntKind.i64.wrap (size1 + ((x4.map cInt).length : Int))), (IntKind.i64.wrap (v2 + 1))), Nat.lt_succ_self _, hF, ⟨rfl, rfl, rfl, rfl, rfl, trivial⟩, trivial⟩
    · have hF := cneg h3 hF
      refine obind hF fun y7 h8 hF => ?_
      refine Or.inr (Or.inr ⟨[], 0, _, _, _, _, rfl, rfl, eff_callN (as' := [.c (.v (.slice none 0 0)), .c (I size1)]) rfl (Or.inr ⟨_, rfl, rfl⟩) ⟨.inr ⟨rfl, rfl⟩, .inl rfl, trivial⟩ (slGrow_Xh h8), rfl, ?_⟩)
      refine loop_oq (fun p : Nat × Int × List Int => [(6, .rs 24 0), (25, .c (.sl 1 (slices.map cSl_Int))), (26, .c (I ((slices.map cSl_Int).length : Int))), (27, .c (I p.2.1))]) (fun p : Nat × Int × List Int => [(24, .arr 3 1 (p.2.2.map cInt) none)]) (fun p => slConcat_L2 slices p.1 p.2.1 p.2.2 = some r) (fun p => p.1) (N, 0, y7) hF ⟨rfl, rfl, rfl, rfl, trivial⟩ ⟨rfl, trivial⟩ ?_
      rintro ⟨fu2, v9, v10⟩ hF
      cases fu2 with
      | zero => exact nomatch hF
      | succ fu2 =>
        refine join_no ?_
        refine And.intro (fun h11 => ?_) (fun h11 => ?_)
        · have hF := cpos h11 hF
          refine join_no ?_
          refine obind hF fun x12 h13 hF => ?_
          refine ⟨ix_nn h13, .inl rfl, _, ix_map cSl_Int h13, ?_⟩
          refine gpos hF fun h14 hF => ?_
          refine Or.inr ⟨[(24, 0)], 0, _, _, _, _, rfl, rfl, eff_append (cf := cInt) (l := v10) (ns := x12) tok25.u tok3 (by decide) (by decide) (fun _ => rfl) h14, rfl, ?_⟩
          exact ⟨(fu2, (IntKind.i64.wrap (v9 + 1)), (v10 ++ x12)), Nat.lt_succ_self _, hF, ⟨rfl, rfl, rfl, rfl, trivial⟩, ⟨rfl, trivial⟩⟩
        · have hF := cneg h11 hF
          refine ret_eq (p := fun r => resFin tab _ (slConcat_E r) _) hF ?_
          exact Or.inr ⟨rfl, _, rfl, rfl⟩
abbrev slConcat_O (y : List Int) : CV := .wo (.ow 0) [(3, 1, y.map cInt, none)]
set_option linter.unusedVariables false in
theorem slConcat_Oh {N : Nat} {slices : List (List Int)} {r : List Int} (hF : slConcat_F N slices = some r) : Holds Tryz.prog Gw 33 [.sl 1 (slices.map cSl_Int)] (slConcat_O r) := by
  refine holds_of_wq tabOk mixed Tryz.func33 (by decide) rfl (Nat.le_of_ble_eq_true rfl) ?_
  refine Or.inl ?_
  refine loop_oq (fun p : Nat × Int × Int => [(0, .c (.sl 1 (slices.map cSl_Int))), (3, .c (I p.2.1)), (9, .c (.sl 1 (slices.map cSl_Int))), (10, .c (I ((slices.map cSl_Int).length : Int))), (11, .c (I p.2.2))]) (fun _ => []) (fun p => slConcat_L1 slices N p.1 p.2.1 p.2.2 = some r) (fun p => p.1) (N, 0, 0) hF ⟨rfl, rfl, rfl, rfl, rfl, trivial⟩ trivial ?_
  rintro ⟨fu1, size1, v2⟩ hF
  cases fu1 with
  | zero => exact nomatch hF
  | succ fu1 =>
    refine join_no ?_
    refine And.intro (fun h3 => ?_) (fun h3 => ?_)
    · have hF := cpos h3 hF
      refine join_no ?_
      refine obind hF fun x4 h5 hF => ?_
      refine ⟨ix_nn h5, .inl rfl, _, ix_map cSl_Int h5, ?_⟩
      refine And.intro (fun h6 => ?_) (fun h6 => ?_)
      · have hF := cpos h6 hF
        exact nomatch hF
      · have hF := cneg h6 hF
        exact ⟨(fu1, (IntKind.i64.wrap (size1 + ((x4.map cInt).length : Int))), (IntKind.i64.wrap (v2 + 1))), Nat.lt_succ_self _, hF, ⟨rfl, rfl, rfl, rfl, rfl, trivial⟩, trivial⟩
    · have hF := cneg h3 hF
      refine obind hF fun y7 h8 hF => ?_
      refine Or.inr (Or.inr ⟨[], 0, _, _, _, _, rfl, rfl, eff_callN (as' := [.c (.v (.slice none 0 0)), .c (I size1)]) rfl (Or.inr ⟨_, rfl, rfl⟩) ⟨.inr ⟨rfl, rfl⟩, .inl rfl, trivial⟩ (slGrow_Xh h8), rfl, ?_⟩)
      refine loop_oq (fun p : Nat × Int × List Int => [(6, .rs 24 0), (25, .c (.sl 1 (slices.map cSl_Int))), (26, .c (I ((slices.map cSl_Int).length : Int))), (27, .c (I p.2.1))]) (fun p : Nat × Int × List Int => [(24, .arr 3 1 (p.2.2.map cInt) none)]) (fun p => slConcat_L2 slices p.1 p.2.1 p.2.2 = some r) (fun p => p.1) (N, 0, y7) hF ⟨rfl, rfl, rfl, rfl, trivial⟩ ⟨rfl, trivial⟩ ?_
      rintro ⟨fu2, v9, v10⟩ hF
      cases fu2 with
      | zero => exact nomatch hF
      | succ fu2 =>
        refine join_no ?_
        refine And.intro (fun h11 => ?_) (fun h11 => ?_)
        · have hF := cpos h11 hF
          refine join_no ?_
          refine obind hF fun x12 h13 hF => ?_
          refine ⟨ix_nn h13, .inl rfl, _, ix_map cSl_Int h13, ?_⟩
          refine gpos hF fun h14 hF => ?_
          refine Or.inr ⟨[(24, 0)], 0, _, _, _, _, rfl, rfl, eff_append (cf := cInt) (l := v10) (ns := x12) tok25.u tok3 (by decide) (by decide) (fun _ => rfl) h14, rfl, ?_⟩
          exact ⟨(fu2, (IntKind.i64.wrap (v9 + 1)), (v10 ++ x12)), Nat.lt_succ_self _, hF, ⟨rfl, rfl, rfl, rfl, trivial⟩, ⟨rfl, trivial⟩⟩
        · have hF := cneg h11 hF
          refine ret_eq (p := fun r => resFin tab _ (slConcat_O r) _) hF ?_
          exact Or.inr ⟨[(24, 0)], rfl, ⟨rfl, rfl⟩, rfl⟩
abbrev slConcat_S (slices : List (List Int)) : Option (List Int) := slConcat_F 1000 slices
theorem slConcat_h {slices : List (List Int)} {r : List Int} (h : slConcat_S slices = some r) : Holds Tryz.prog Gw 33 [.sl 1 (slices.map cSl_Int)] (slConcat_E r) := slConcat_Fh  h
abbrev sOn_1_E (y : Bool) : CV := B y
def sOn_1_F (n : Int) (c0 : List Aut) (c1 : Int) : Option (Bool) := Option.bind (pFind_S c0 n) fun y1 => bif decide (c1 < y1.1.In.From) then some (true) else some (decide (c1 ≥ y1.1.In.Until))
set_option linter.unusedVariables false in
theorem sOn_1_Fh {n : Int} {c0 : List Aut} {c1 : Int} {r : Bool} (hF : sOn_1_F n c0 c1 = some r) : Holds Tryz.prog Gw 37 [I n, .pi [.sl 6 (c0.map cAut)] 0, .pi [I c1] 0] (sOn_1_E r) := by
  refine holds_of_wq tabOk mixed Tryz.func37 (by decide) rfl (Nat.le_of_ble_eq_true rfl) ?_
  refine obind hF fun y1 h2 hF => ?_
  refine Or.inl ⟨_, pFind_h h2, rfl, ?_⟩
  refine Or.inl ?_
  refine And.intro (fun h3 => ?_) (fun h3 => ?_)
  · have hF := cpos h3 hF
    exact Or.inl ⟨rfl, congrArg (Option.map sOn_1_E) hF⟩
  · have hF := cneg h3 hF
    exact Or.inl ⟨rfl, congrArg (Option.map sOn_1_E) hF⟩
abbrev sOn_1_S (n : Int) (c0 : List Aut) (c1 : Int) : Option (Bool) := sOn_1_F n c0 c1
theorem sOn_1_h {n : Int} {c0 : List Aut} {c1 : Int} {r : Bool} (h : sOn_1_S n c0 c1 = some r) : Holds Tryz.prog Gw 37 [I n, .pi [.sl 6 (c0.map cAut)] 0, .pi [I c1] 0] (sOn_1_E r) := sOn_1_Fh  h
def slDeleteFunc_L1 (u1 : List Aut) (u2 : Int) : Nat → Int → Int → List Int → Option (List Int)
  | 0, _, _, _ => none
  | fu1 + 1, i4, j5, v6 => bif decide (j5 < ((v6.map cInt).length : Int)) then (Option.bind (ix v6 j5) fun x8 => Option.bind (sOn_1_S x8 u1 u2) fun y10 => bif (!y10) then (Option.bind (ix v6 i4) fun x13 => slDeleteFunc_L1 u1 u2 fu1 (IntKind.i64.wrap (i4 + 1)) (IntKind.i64.wrap (j5 + 1)) (v6.set (i4).toNat x8)) else slDeleteFunc_L1 u1 u2 fu1 i4 (IntKind.i64.wrap (j5 + 1)) v6) else (bif decide (0 ≤ i4 ∧ i4 ≤ (v6.length : Int)) && !v6.isEmpty then bif decide (0 ≤ (i4 : Int) ∧ (i4 : Int) ≤ ((wipe v6 ((i4).toNat) 0).length : Int)) then some (((wipe v6 ((i4).toNat) 0).take (i4 : Int).toNat)) else none else none)
def slDeleteFunc_F (N : Nat) (o0 : List Int) (u1 : List Aut) (u2 : Int) : Option (List Int) := Option.bind (slIndexFuncI_S o0 (fun z0 => sOn_1_S z0 u1 u2)) fun y1 => bif (y1 == (-1)) then some (o0) else slDeleteFunc_L1 u1 u2 N y1 (IntKind.i64.wrap (y1 + 1)) o0
set_option linter.unusedVariables false in
theorem slDeleteFunc_XFh {N : Nat} {o0 : List Int} {u1 : List Aut} {u2 : Int} {r : List Int} (hF : slDeleteFunc_F N o0 u1 u2 = some r) : EffFn Tryz.prog Gw 35 [.rs 0 0, .fnr 37 [.pm 1 0 0, .pm 2 0 0]] [(0, .arr 3 1 (o0.map cInt) none), (0, .var [.sl 6 (u1.map cAut)]), (0, .var [I u2])] (.rs 0 1) [(1, .arr 3 1 (r.map cInt) none), (0, .var [.sl 6 (u1.map cAut)]), (0, .var [I u2])] := by
  refine effn_of_wqM [0] tabOk mixed Tryz.func35 (by decide) rfl (Nat.le_of_ble_eq_true rfl) rfl ?_
  refine Or.inl ?_
  refine obind hF fun y1 h2 hF => ?_
  refine Or.inl ⟨_, slIndexFuncI_h (fun _ _ h => sOn_1_h h) h2, rfl, ?_⟩
  refine And.intro (fun h3 => ?_) (fun h3 => ?_)
  · have hF := cpos h3 hF
    refine ret_eq (p := fun r => effFinM tab _ 3 [0] (.rs 0 1) [(1, .arr 3 1 (r.map cInt) none), (0, .var [.sl 6 (u1.map cAut)]), (0, .var [I u2])] _) hF ?_
    exact ⟨[(2147483648, 0), (4295032832, 0), (4295098368, 0)], [1, 0, 0], rfl, rfl, rfl⟩
  · have hF := cneg h3 hF
    refine loop_oq (fun p : Nat × Int × Int × List Int => [(0, .rs 2147483648 0), (1, .fnr 37 [.pm 4295032832 0 0, .pm 4295098368 0 0]), (5, .c (I p.2.1)), (6, .c (I p.2.2.1))]) (fun p : Nat × Int × Int × List Int => [(2147483648, .arr 3 1 (p.2.2.2.map cInt) none), (4295032832, .var [.sl 6 (u1.map cAut)]), (4295098368, .var [I u2])]) (fun p => slDeleteFunc_L1 u1 u2 p.1 p.2.1 p.2.2.1 p.2.2.2 = some r) (fun p => p.1) (N, y1, (IntKind.i64.wrap (y1 + 1)), o0) hF ⟨rfl, rfl, rfl, rfl, trivial⟩ ⟨rfl, rfl, rfl, trivial⟩ ?_
    rintro ⟨fu1, i4, j5, v6⟩ hF
    cases fu1 with
    | zero => exact nomatch hF
    | succ fu1 =>
      refine Or.inl ?_
      refine And.intro (fun h7 => ?_) (fun h7 => ?_)
      · have hF := cpos h7 hF
        refine join_no ?_
        refine obind hF fun x8 h9 hF => ?_
        refine Or.inl ⟨ix_nn h9, ix_lt h9, ?_⟩
        refine Or.inl ⟨_, ix_map cInt h9, ?_⟩
        refine obind hF fun y10 h11 hF => ?_
        refine Or.inl ⟨_, sOn_1_h h11, rfl, ?_⟩
        refine And.intro (fun h12 => ?_) (fun h12 => ?_)
        · have hF := cpos h12 hF
          refine obind hF fun x13 h14 hF => ?_
          refine Or.inl ⟨ix_nn h14, ix_lt h14, ?_⟩
          refine Or.inl ⟨_, ix_map cInt h14, ?_⟩
          refine ⟨(v6.set (i4).toNat x8).map cInt, _, .inl ⟨rfl, set_map _ _ _ _, rfl⟩, ?_⟩
          exact ⟨(fu1, (IntKind.i64.wrap (i4 + 1)), (IntKind.i64.wrap (j5 + 1)), (v6.set (i4).toNat x8)), Nat.lt_succ_self _, hF, ⟨rfl, rfl, rfl, rfl, trivial⟩, ⟨rfl, rfl, rfl, trivial⟩⟩
        · have hF := cneg h12 hF
          exact ⟨(fu1, i4, (IntKind.i64.wrap (j5 + 1)), v6), Nat.lt_succ_self _, hF, ⟨rfl, rfl, rfl, rfl, trivial⟩, ⟨rfl, rfl, rfl, trivial⟩⟩
      · have hF := cneg h7 hF
        refine gpos hF fun h15 hF => ?_
        refine Or.inl ⟨(subg h15).1, (subm (cf := cInt) h15).1, (subm (cf := cInt) h15).2, ?_⟩
        refine Or.inr ⟨[(2147483648, 0)], 0, _, _, _, _, rfl, rfl, eff_clear (cf := cInt) (l := v6) (p := (i4).toNat) (z := 0) tok25.u tok3 rfl rfl rfl (fun _ => rfl) rfl, rfl, ?_⟩
        refine gpos hF fun h16 hF => ?_
        refine Or.inr ⟨[(2147483648, 0)], 0, _, _, _, _, rfl, rfl, eff_take (cf := cInt) (l := (wipe v6 ((i4).toNat) 0)) tok25.u tok3 h16, rfl, ?_⟩
        refine ret_eq (p := fun r => effFinM tab _ 3 [0] (.rs 0 1) [(1, .arr 3 1 (r.map cInt) none), (0, .var [.sl 6 (u1.map cAut)]), (0, .var [I u2])] _) hF ?_
        exact ⟨[(2147483648, 1), (4295032832, 0), (4295098368, 0)], [1, 0, 0], rfl, rfl, rfl⟩
abbrev slDeleteFunc_XS (o0 : List Int) (u1 : List Aut) (u2 : Int) : Option (List Int) := slDeleteFunc_F 1000 o0 u1 u2
theorem slDeleteFunc_Xh {o0 : List Int} {u1 : List Aut} {u2 : Int} {r : List Int} (h : slDeleteFunc_XS o0 u1 u2 = some r) : EffFn Tryz.prog Gw 35 [.rs 0 0, .fnr 37 [.pm 1 0 0, .pm 2 0 0]] [(0, .arr 3 1 (o0.map cInt) none), (0, .var [.sl 6 (u1.map cAut)]), (0, .var [I u2])] (.rs 0 1) [(1, .arr 3 1 (r.map cInt) none), (0, .var [.sl 6 (u1.map cAut)]), (0, .var [I u2])] := slDeleteFunc_XFh  h
abbrev sOn_E (y : List Int × Int) : CV := .tup [.sl 1 (y.1.map cInt), I y.2]
def sOn_F (l : List Aut) (id : Int) (day : Int) : Option (List Int × Int) := Option.bind (sasks_S l ([id] : List Int)) fun y1 => bif (y1 != 0) then some (([] : List Int), y1) else (bif decide (day < 0) then some (([] : List Int), 2) else (bif decide (day > 1048575) then some (([] : List Int), 2) else (Option.bind (sreach_S l (fun z0 => sforward_1_S z0) id) fun y6 => Option.bind (sreach_S l (fun z0 => sback_1_S z0 l) id) fun y8 => Option.bind (slConcat_S ([y6, y8] : List (List Int))) fun y10 => Option.bind (slSortI_XS y10) fun y12 => Option.bind (slCompactI_XS y12) fun y14 => Option.bind (slDeleteFunc_XS y14 l day) fun y16 => some (y16, 0))))
set_option linter.unusedVariables false in
theorem sOn_Fh {l : List Aut} {id : Int} {day : Int} {r : List Int × Int} (hF : sOn_F l id day = some r) : Holds Tryz.prog Gw 13 [.sl 6 (l.map cAut), I id, I day] (sOn_E r) := by
  refine holds_of_wq tabOk mixed Tryz.func13 (by decide) rfl (Nat.le_of_ble_eq_true rfl) ?_
  refine Or.inl ?_
  refine Or.inl ?_
  refine Or.inl ?_
  refine Or.inl ?_
  refine obind hF fun y1 h2 hF => ?_
  refine Or.inl ⟨_, sasks_h h2, rfl, ?_⟩
  refine And.intro (fun h3 => ?_) (fun h3 => ?_)
  · have hF := cpos h3 hF
    refine Or.inl ?_
    exact Or.inl ⟨rfl, congrArg (Option.map sOn_E) hF⟩
  · have hF := cneg h3 hF
    refine And.intro (fun h4 => ?_) (fun h4 => ?_)
    · have hF := cpos h4 hF
      refine Or.inl ?_
      exact Or.inl ⟨rfl, congrArg (Option.map sOn_E) hF⟩
    · have hF := cneg h4 hF
      refine And.intro (fun h5 => ?_) (fun h5 => ?_)
      · have hF := cpos h5 hF
        refine Or.inl ?_
        exact Or.inl ⟨rfl, congrArg (Option.map sOn_E) hF⟩
      · have hF := cneg h5 hF
        refine Or.inl ⟨_, sforward_h, rfl, ?_⟩
        refine obind hF fun y6 h7 hF => ?_
        refine Or.inl ⟨_, sreach_h (fun _ _ h => sforward_1_h h) h7, rfl, ?_⟩
        refine Or.inl ⟨_, sback_h, rfl, ?_⟩
        refine obind hF fun y8 h9 hF => ?_
        refine Or.inl ⟨_, sreach_h (fun _ _ h => sback_1_h h) h9, rfl, ?_⟩
        refine Or.inl ?_
        refine obind hF fun y10 h11 hF => ?_
        refine Or.inr (Or.inl ⟨_, _, slConcat_Oh h11, ?_⟩)
        refine And.intro (by kernel_rfl) ?_
        refine obind hF fun y12 h13 hF => ?_
        refine Or.inr (Or.inr ⟨[(32, 1)], 0, _, _, _, _, rfl, rfl, eff_call rfl (Or.inr ⟨_, rfl, rfl⟩) (slSortI_Xh h13), rfl, ?_⟩)
        refine obind hF fun y14 h15 hF => ?_
        refine Or.inr (Or.inr ⟨[(32, 1)], 0, _, _, _, _, rfl, rfl, eff_call rfl (Or.inr ⟨_, rfl, rfl⟩) (slCompactI_Xh h15), rfl, ?_⟩)
        refine obind hF fun y16 h17 hF => ?_
        refine Or.inr (Or.inr ⟨[(32, 2), (3, 1), (5, 1)], 0, _, _, _, _, rfl, rfl, eff_call rfl (Or.inr ⟨_, rfl, rfl⟩) (slDeleteFunc_Xh h17), rfl, ?_⟩)
        refine ret_eq (p := fun r => resFin tab _ (sOn_E r) _) hF ?_
        exact Or.inr ⟨⟨⟨rfl, _, rfl, rfl⟩, rfl, rfl⟩, by decide⟩
abbrev sOn_S (l : List Aut) (id : Int) (day : Int) : Option (List Int × Int) := sOn_F l id day
theorem sOn_h {l : List Aut} {id : Int} {day : Int} {r : List Int × Int} (h : sOn_S l id day = some r) : Holds Tryz.prog Gw 13 [.sl 6 (l.map cAut), I id, I day] (sOn_E r) := sOn_Fh  h
abbrev sMeet_1_E (y : Bool) : CV := B y
def sMeet_1_F (n : Int) (c0 : List Int) : Option (Bool) := Option.bind (slContains_S c0 n) fun y1 => some ((!y1))
set_option linter.unusedVariables false in
theorem sMeet_1_Fh {n : Int} {c0 : List Int} {r : Bool} (hF : sMeet_1_F n c0 = some r) : Holds Tryz.prog Gw 47 [I n, .pi [.sl 1 (c0.map cInt)] 0] (sMeet_1_E r) := by
  refine holds_of_wq tabOk mixed Tryz.func47 (by decide) rfl (Nat.le_of_ble_eq_true rfl) ?_
  refine obind hF fun y1 h2 hF => ?_
  refine Or.inl ⟨_, slContains_h h2, rfl, ?_⟩
  exact Or.inl ⟨rfl, congrArg (Option.map sMeet_1_E) hF⟩
abbrev sMeet_1_S (n : Int) (c0 : List Int) : Option (Bool) := sMeet_1_F n c0
theorem sMeet_1_h {n : Int} {c0 : List Int} {r : Bool} (h : sMeet_1_S n c0 = some r) : Holds Tryz.prog Gw 47 [I n, .pi [.sl 1 (c0.map cInt)] 0] (sMeet_1_E r) := sMeet_1_Fh  h
def slDeleteFunc1_L1 (u1 : List Int) : Nat → Int → Int → List Int → Option (List Int)
  | 0, _, _, _ => none
  | fu1 + 1, i4, j5, v6 => bif decide (j5 < ((v6.map cInt).length : Int)) then (Option.bind (ix v6 j5) fun x8 => Option.bind (sMeet_1_S x8 u1) fun y10 => bif (!y10) then (Option.bind (ix v6 i4) fun x13 => slDeleteFunc1_L1 u1 fu1 (IntKind.i64.wrap (i4 + 1)) (IntKind.i64.wrap (j5 + 1)) (v6.set (i4).toNat x8)) else slDeleteFunc1_L1 u1 fu1 i4 (IntKind.i64.wrap (j5 + 1)) v6) else (bif decide (0 ≤ i4 ∧ i4 ≤ (v6.length : Int)) && !v6.isEmpty then bif decide (0 ≤ (i4 : Int) ∧ (i4 : Int) ≤ ((wipe v6 ((i4).toNat) 0).length : Int)) then some (((wipe v6 ((i4).toNat) 0).take (i4 : Int).toNat)) else none else none)
def slDeleteFunc1_F (N : Nat) (o0 : List Int) (u1 : List Int) : Option (List Int) := Option.bind (slIndexFuncI_S o0 (fun z0 => sMeet_1_S z0 u1)) fun y1 => bif (y1 == (-1)) then some (o0) else slDeleteFunc1_L1 u1 N y1 (IntKind.i64.wrap (y1 + 1)) o0
set_option linter.unusedVariables false in
theorem slDeleteFunc1_XFh {N : Nat} {o0 : List Int} {u1 : List Int} {r : List Int} (hF : slDeleteFunc1_F N o0 u1 = some r) : EffFn Tryz.prog Gw 35 [.rs 0 0, .fnr 47 [.pm 1 0 0]] [(0, .arr 3 1 (o0.map cInt) none), (0, .var [.sl 1 (u1.map cInt)])] (.rs 0 1) [(1, .arr 3 1 (r.map cInt) none), (0, .var [.sl 1 (u1.map cInt)])] := by
  refine effn_of_wqM [0] tabOk mixed Tryz.func35 (by decide) rfl (Nat.le_of_ble_eq_true rfl) rfl ?_
  refine Or.inl ?_
  refine obind hF fun y1 h2 hF => ?_
  refine Or.inl ⟨_, slIndexFuncI_h (fun _ _ h => sMeet_1_h h) h2, rfl, ?_⟩
  refine And.intro (fun h3 => ?_) (fun h3 => ?_)
  · have hF := cpos h3 hF
    refine ret_eq (p := fun r => effFinM tab _ 2 [0] (.rs 0 1) [(1, .arr 3 1 (r.map cInt) none), (0, .var [.sl 1 (u1.map cInt)])] _) hF ?_
    exact ⟨[(2147483648, 0), (4295032832, 0)], [1, 0], rfl, rfl, rfl⟩
  · have hF := cneg h3 hF
    refine loop_oq (fun p : Nat × Int × Int × List Int => [(0, .rs 2147483648 0), (1, .fnr 47 [.pm 4295032832 0 0]), (5, .c (I p.2.1)), (6, .c (I p.2.2.1))]) (fun p : Nat × Int × Int × List Int => [(2147483648, .arr 3 1 (p.2.2.2.map cInt) none), (4295032832, .var [.sl 1 (u1.map cInt)])]) (fun p => slDeleteFunc1_L1 u1 p.1 p.2.1 p.2.2.1 p.2.2.2 = some r) (fun p => p.1) (N, y1, (IntKind.i64.wrap (y1 + 1)), o0) hF ⟨rfl, rfl, rfl, rfl, trivial⟩ ⟨rfl, rfl, trivial⟩ ?_
    rintro ⟨fu1, i4, j5, v6⟩ hF
    cases fu1 with
    | zero => exact nomatch hF
    | succ fu1 =>
      refine Or.inl ?_
      refine And.intro (fun h7 => ?_) (fun h7 => ?_)
      · have hF := cpos h7 hF
        refine join_no ?_
        refine obind hF fun x8 h9 hF => ?_
        refine Or.inl ⟨ix_nn h9, ix_lt h9, ?_⟩
        refine Or.inl ⟨_, ix_map cInt h9, ?_⟩
        refine obind hF fun y10 h11 hF => ?_
        refine Or.inl ⟨_, sMeet_1_h h11, rfl, ?_⟩
        refine And.intro (fun h12 => ?_) (fun h12 => ?_)
        · have hF := cpos h12 hF
          refine obind hF fun x13 h14 hF => ?_
          refine Or.inl ⟨ix_nn h14, ix_lt h14, ?_⟩
          refine Or.inl ⟨_, ix_map cInt h14, ?_⟩
          refine ⟨(v6.set (i4).toNat x8).map cInt, _, .inl ⟨rfl, set_map _ _ _ _, rfl⟩, ?_⟩
          exact ⟨(fu1, (IntKind.i64.wrap (i4 + 1)), (IntKind.i64.wrap (j5 + 1)), (v6.set (i4).toNat x8)), Nat.lt_succ_self _, hF, ⟨rfl, rfl, rfl, rfl, trivial⟩, ⟨rfl, rfl, trivial⟩⟩
        · have hF := cneg h12 hF
          exact ⟨(fu1, i4, (IntKind.i64.wrap (j5 + 1)), v6), Nat.lt_succ_self _, hF, ⟨rfl, rfl, rfl, rfl, trivial⟩, ⟨rfl, rfl, trivial⟩⟩
      · have hF := cneg h7 hF
        refine gpos hF fun h15 hF => ?_
        refine Or.inl ⟨(subg h15).1, (subm (cf := cInt) h15).1, (subm (cf := cInt) h15).2, ?_⟩
        refine Or.inr ⟨[(2147483648, 0)], 0, _, _, _, _, rfl, rfl, eff_clear (cf := cInt) (l := v6) (p := (i4).toNat) (z := 0) tok25.u tok3 rfl rfl rfl (fun _ => rfl) rfl, rfl, ?_⟩
        refine gpos hF fun h16 hF => ?_
        refine Or.inr ⟨[(2147483648, 0)], 0, _, _, _, _, rfl, rfl, eff_take (cf := cInt) (l := (wipe v6 ((i4).toNat) 0)) tok25.u tok3 h16, rfl, ?_⟩
        refine ret_eq (p := fun r => effFinM tab _ 2 [0] (.rs 0 1) [(1, .arr 3 1 (r.map cInt) none), (0, .var [.sl 1 (u1.map cInt)])] _) hF ?_
        exact ⟨[(2147483648, 1), (4295032832, 0)], [1, 0], rfl, rfl, rfl⟩
abbrev slDeleteFunc1_XS (o0 : List Int) (u1 : List Int) : Option (List Int) := slDeleteFunc1_F 1000 o0 u1
theorem slDeleteFunc1_Xh {o0 : List Int} {u1 : List Int} {r : List Int} (h : slDeleteFunc1_XS o0 u1 = some r) : EffFn Tryz.prog Gw 35 [.rs 0 0, .fnr 47 [.pm 1 0 0]] [(0, .arr 3 1 (o0.map cInt) none), (0, .var [.sl 1 (u1.map cInt)])] (.rs 0 1) [(1, .arr 3 1 (r.map cInt) none), (0, .var [.sl 1 (u1.map cInt)])] := slDeleteFunc1_XFh  h
abbrev sMeet_2_E (y : Bool) : CV := B y
def sMeet_2_F (m : Int) (c0 : List Int) : Option (Bool) := Option.bind (slContains_S c0 m) fun y1 => some (y1)
set_option linter.unusedVariables false in
theorem sMeet_2_Fh {m : Int} {c0 : List Int} {r : Bool} (hF : sMeet_2_F m c0 = some r) : Holds Tryz.prog Gw 50 [I m, .pi [.sl 1 (c0.map cInt)] 0] (sMeet_2_E r) := by
  refine holds_of_wq tabOk mixed Tryz.func50 (by decide) rfl (Nat.le_of_ble_eq_true rfl) ?_
  refine obind hF fun y1 h2 hF => ?_
  refine Or.inl ⟨_, slContains_h h2, rfl, ?_⟩
  exact Or.inl ⟨rfl, congrArg (Option.map sMeet_2_E) hF⟩
abbrev sMeet_2_S (m : Int) (c0 : List Int) : Option (Bool) := sMeet_2_F m c0
theorem sMeet_2_h {m : Int} {c0 : List Int} {r : Bool} (h : sMeet_2_S m c0 = some r) : Holds Tryz.prog Gw 50 [I m, .pi [.sl 1 (c0.map cInt)] 0] (sMeet_2_E r) := sMeet_2_Fh  h
abbrev sMeet_E (y : List Int × Int) : CV := .tup [.sl 1 (y.1.map cInt), I y.2]
def sMeet_L1 (l : List Aut) (y8 : List Int) : Nat → List Int → Int → Option (List Int × Int)
  | 0, _, _ => none
  | fu1 + 1, out10, v11 => bif decide (v11 < ((y8.map cInt).length : Int)) then (Option.bind (ix y8 v11) fun x13 => Option.bind (pFind_S l x13) fun y15 => Option.bind (sback_1_S y15.1 l) fun y17 => Option.bind (slContainsFuncI_S y17 (fun z0 => sMeet_2_S z0 y8)) fun y19 => bif (!y19) then (bif decide (out10.length + ([x13] : List Int).length ≤ 4294967296) then sMeet_L1 l y8 fu1 (out10 ++ ([x13] : List Int)) (IntKind.i64.wrap (v11 + 1)) else none) else sMeet_L1 l y8 fu1 out10 (IntKind.i64.wrap (v11 + 1))) else some (out10, 0)
def sMeet_F (N : Nat) (l : List Aut) (a : Int) (b : Int) : Option (List Int × Int) := Option.bind (sasks_S l ([a, b] : List Int)) fun y1 => bif (y1 != 0) then some (([] : List Int), y1) else (Option.bind (sreach_S l (fun z0 => sforward_1_S z0) b) fun y4 => Option.bind (sreach_S l (fun z0 => sforward_1_S z0) a) fun y6 => Option.bind (slDeleteFunc1_XS y6 y4) fun y8 => sMeet_L1 l y8 N ([] : List Int) 0)
set_option linter.unusedVariables false in
theorem sMeet_Fh {N : Nat} {l : List Aut} {a : Int} {b : Int} {r : List Int × Int} (hF : sMeet_F N l a b = some r) : Holds Tryz.prog Gw 20 [.sl 6 (l.map cAut), I a, I b] (sMeet_E r) := by
  refine holds_of_wq tabOk mixed Tryz.func20 (by decide) rfl (Nat.le_of_ble_eq_true rfl) ?_
  refine Or.inl ?_
  refine Or.inl ?_
  refine obind hF fun y1 h2 hF => ?_
  refine Or.inl ⟨_, sasks_h h2, rfl, ?_⟩
  refine And.intro (fun h3 => ?_) (fun h3 => ?_)
  · have hF := cpos h3 hF
    refine Or.inl ?_
    exact Or.inl ⟨rfl, congrArg (Option.map sMeet_E) hF⟩
  · have hF := cneg h3 hF
    refine Or.inl ⟨_, sforward_h, rfl, ?_⟩
    refine obind hF fun y4 h5 hF => ?_
    refine Or.inl ⟨_, sreach_h (fun _ _ h => sforward_1_h h) h5, rfl, ?_⟩
    refine Or.inl ?_
    refine Or.inl ⟨_, sforward_h, rfl, ?_⟩
    refine obind hF fun y6 h7 hF => ?_
    refine Or.inr (Or.inl ⟨_, _, sreach_Oh (fun _ _ h => sforward_1_h h) h7, ?_⟩)
    refine obind hF fun y8 h9 hF => ?_
    refine Or.inr (Or.inr ⟨[(32, 1), (9, 1)], 0, _, _, _, _, rfl, rfl, eff_call rfl (Or.inr ⟨_, rfl, rfl⟩) (slDeleteFunc1_Xh h9), rfl, ?_⟩)
    refine Or.inl ?_
    refine Or.inl ?_
    refine Or.inl ⟨_, sback_h, rfl, ?_⟩
    refine Or.inl ?_
    refine Or.inl ?_
    refine Or.inl ?_
    refine Or.inl ?_
    refine loop_oq (fun p : Nat × List Int × Int => [(0, .c (.sl 6 (l.map cAut))), (10, .pm 10 0 0), (11, .pm 11 0 0), (12, .ap 12 0 1 (p.2.1.map cInt)), (37, .rs 32 0), (38, .c (I ((y8.map cInt).length : Int))), (39, .c (I p.2.2))]) (fun p : Nat × List Int × Int => [(10, .varx [.rs 32 0]), (11, .var [.sl 6 (l.map cAut), .fn 60 [.pi [.sl 6 (l.map cAut)] 0]]), (12, .tok 3 1), (32, .arr 3 1 (y8.map cInt) none)]) (fun p => sMeet_L1 l y8 p.1 p.2.1 p.2.2 = some r) (fun p => p.1) (N, ([] : List Int), 0) hF ⟨rfl, rfl, rfl, rfl, rfl, rfl, rfl, trivial⟩ ⟨rfl, rfl, rfl, rfl, trivial⟩ ?_
    rintro ⟨fu1, out10, v11⟩ hF
    cases fu1 with
    | zero => exact nomatch hF
    | succ fu1 =>
      refine join_no ?_
      refine And.intro (fun h12 => ?_) (fun h12 => ?_)
      · have hF := cpos h12 hF
        refine join_no ?_
        refine obind hF fun x13 h14 hF => ?_
        refine Or.inl ⟨ix_nn h14, ix_lt h14, ?_⟩
        refine Or.inl ⟨_, ix_map cInt h14, ?_⟩
        refine obind hF fun y15 h16 hF => ?_
        refine Or.inl ⟨_, pFind_h h16, rfl, ?_⟩
        refine Or.inl ?_
        refine obind hF fun y17 h18 hF => ?_
        refine Or.inl ⟨_, sback_1_h h18, rfl, ?_⟩
        refine obind hF fun y19 h20 hF => ?_
        refine Or.inl ⟨_, slContainsFuncI_h (fun _ _ h => sMeet_2_h h) h20, rfl, ?_⟩
        refine And.intro (fun h21 => ?_) (fun h21 => ?_)
        · have hF := cpos h21 hF
          refine Or.inl ?_
          refine gpos hF fun h22 hF => ?_
          refine Or.inl ⟨len_all rfl, app_le (f := cInt) h22, (out10 ++ ([x13] : List Int)).map cInt, map_app _ _ _, ?_⟩
          exact ⟨(fu1, (out10 ++ ([x13] : List Int)), (IntKind.i64.wrap (v11 + 1))), Nat.lt_succ_self _, hF, ⟨rfl, rfl, rfl, rfl, rfl, rfl, rfl, trivial⟩, ⟨rfl, rfl, rfl, rfl, trivial⟩⟩
        · have hF := cneg h21 hF
          exact ⟨(fu1, out10, (IntKind.i64.wrap (v11 + 1))), Nat.lt_succ_self _, hF, ⟨rfl, rfl, rfl, rfl, rfl, rfl, rfl, trivial⟩, ⟨rfl, rfl, rfl, rfl, trivial⟩⟩
      · have hF := cneg h12 hF
        exact Or.inl ⟨rfl, congrArg (Option.map sMeet_E) hF⟩
abbrev sMeet_S (l : List Aut) (a : Int) (b : Int) : Option (List Int × Int) := sMeet_F 1000 l a b
theorem sMeet_h {l : List Aut} {a : Int} {b : Int} {r : List Int × Int} (h : sMeet_S l a b = some r) : Holds Tryz.prog Gw 20 [.sl 6 (l.map cAut), I a, I b] (sMeet_E r) := sMeet_Fh  h
end Go.Proofs.YtdoldlbcjcfmdaaGreat
