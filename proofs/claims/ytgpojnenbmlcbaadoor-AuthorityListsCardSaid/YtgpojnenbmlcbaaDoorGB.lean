/- Functions of the program as functions of Lean, each with its contract (printed by a program). -/
import Derived.Test.YtgpojnenbmlcbaaDoorDisp
namespace Go.Proofs.YtgpojnenbmlcbaaDoor
open Go Go.Abs
set_option maxRecDepth 10000
set_option maxHeartbeats 400000
abbrev pCheck_E (y : Int × Int) : CV := .tup [I y.1, I y.2]
def pCheck_L2 (l : List Aut) (v2 : Int) (x4 : FuncId) (k_1 : Int → Option (Int × Int)) : Nat → Int → Option (Int × Int)
  | 0, _ => none
  | fu2 + 1, v6 => bif decide (v6 < ((l.map cAut).length : Int)) then (Option.bind (pdisp x4 l v6) fun y8 => bif (y8 != 0) then some (v6, y8) else pCheck_L2 l v2 x4 k_1 fu2 (IntKind.i64.wrap (v6 + 1))) else k_1 (IntKind.i64.wrap (v2 + 1))
def pCheck_L1 (l : List Aut) (N : Nat) : Nat → Int → Option (Int × Int)
  | 0, _ => none
  | fu1 + 1, v2 => bif decide (v2 < ((([(37 : FuncId), (38 : FuncId)] : List FuncId).map cFnc).length : Int)) then (Option.bind (ix ([(37 : FuncId), (38 : FuncId)] : List FuncId) v2) fun x4 => pCheck_L2 l v2 x4 (fun q_v2 => pCheck_L1 l N fu1 q_v2) N 0) else some ((-1), 0)
def pCheck_F (N : Nat) (l : List Aut) : Option (Int × Int) := bif decide (((l.map cAut).length : Int) > 64) then some ((-1), 8) else pCheck_L1 l N N 0
set_option linter.unusedVariables false in
theorem pCheck_Fh {N : Nat} {l : List Aut} {r : Int × Int} (hF : pCheck_F N l = some r) : Holds Tryd.prog Gw 13 [.sl 6 (l.map cAut)] (pCheck_E r) := by
  refine holds_of_wq tabOk mixed Tryd.func13 (by decide) rfl (Nat.le_of_ble_eq_true rfl) ?_
  refine And.intro (fun h1 => ?_) (fun h1 => ?_)
  · have hF := cpos h1 hF
    exact Or.inl ⟨rfl, congrArg (Option.map pCheck_E) hF⟩
  · have hF := cneg h1 hF
    refine Or.inl ?_
    refine loop_oq (fun p : Nat × Int => [(0, .c (.sl 6 (l.map cAut))), (11, .ap 11 0 1 (([(37 : FuncId), (38 : FuncId)] : List FuncId).map cFnc)), (12, .c (I ((([(37 : FuncId), (38 : FuncId)] : List FuncId).map cFnc).length : Int))), (13, .c (I p.2))]) (fun p : Nat × Int => [(11, .tok 63 1)]) (fun p => pCheck_L1 l N p.1 p.2 = some r) (fun p => p.1) (N, 0) hF ⟨rfl, rfl, rfl, rfl, trivial⟩ ⟨rfl, trivial⟩ ?_
    rintro ⟨fu1, v2⟩ hF
    cases fu1 with
    | zero => exact nomatch hF
    | succ fu1 =>
      refine join_no ?_
      refine And.intro (fun h3 => ?_) (fun h3 => ?_)
      · have hF := cpos h3 hF
        refine join_no ?_
        refine obind hF fun x4 h5 hF => ?_
        refine ⟨ix_nn h5, .inl rfl, _, ix_map cFnc h5, ?_⟩
        refine loop_oq (fun p : Nat × Int => [(0, .c (.sl 6 (l.map cAut))), (5, .c (.fn x4 [])), (11, .ap 11 0 1 (([(37 : FuncId), (38 : FuncId)] : List FuncId).map cFnc)), (12, .c (I ((([(37 : FuncId), (38 : FuncId)] : List FuncId).map cFnc).length : Int))), (13, .c (I v2)), (18, .c (I ((l.map cAut).length : Int))), (19, .c (I p.2))]) (fun p : Nat × Int => [(11, .tok 63 1)]) (fun p => pCheck_L2 l v2 x4 (fun q_v2 => pCheck_L1 l N fu1 q_v2) p.1 p.2 = some r) (fun p => p.1) (N, 0) hF ⟨rfl, rfl, rfl, rfl, rfl, rfl, rfl, trivial⟩ ⟨rfl, trivial⟩ ?_
        rintro ⟨fu2, v6⟩ hF
        cases fu2 with
        | zero => exact nomatch hF
        | succ fu2 =>
          refine join_no ?_
          refine And.intro (fun h7 => ?_) (fun h7 => ?_)
          · have hF := cpos h7 hF
            refine join_no ?_
            refine obind hF fun y8 h9 hF => ?_
            refine Or.inl ⟨_, pdisp_h h9, rfl, ?_⟩
            refine And.intro (fun h10 => ?_) (fun h10 => ?_)
            · have hF := cpos h10 hF
              exact Or.inl ⟨rfl, congrArg (Option.map pCheck_E) hF⟩
            · have hF := cneg h10 hF
              exact ⟨(fu2, (IntKind.i64.wrap (v6 + 1))), Nat.lt_succ_self _, hF, ⟨rfl, rfl, rfl, rfl, rfl, rfl, rfl, trivial⟩, ⟨rfl, trivial⟩⟩
          · have hF := cneg h7 hF
            exact ⟨(fu1, (IntKind.i64.wrap (v2 + 1))), Nat.lt_succ_self _, hF, ⟨rfl, rfl, rfl, rfl, trivial⟩, ⟨rfl, trivial⟩⟩
      · have hF := cneg h3 hF
        exact Or.inl ⟨rfl, congrArg (Option.map pCheck_E) hF⟩
abbrev pCheck_S (l : List Aut) : Option (Int × Int) := pCheck_F (l.length + 3) l
theorem pCheck_h {l : List Aut} {r : Int × Int} (h : pCheck_S l = some r) : Holds Tryd.prog Gw 13 [.sl 6 (l.map cAut)] (pCheck_E r) := pCheck_Fh  h
abbrev cloneName_E (y : List Nam) : CV := .sl 3 (y.map cNam)
def cloneName_F (l : List Nam) : Option (List Nam) := bif decide (l.length ≤ 4294967296) then some (l) else none
set_option linter.unusedVariables false in
theorem cloneName_Fh {l : List Nam} {r : List Nam} (hF : cloneName_F l = some r) : Holds Tryd.prog Gw 73 [.sl 3 (l.map cNam)] (cloneName_E r) := by
  refine holds_of_wq tabOk mixed Tryd.func73 (by decide) rfl (Nat.le_of_ble_eq_true rfl) ?_
  refine Or.inl ?_
  refine gpos hF fun h1 hF => ?_
  refine Or.inl ⟨len_map (fun _ => rfl), one_le h1, ?_⟩
  refine ret_eq (p := fun r => resFin tab _ (cloneName_E r) _) hF ?_
  exact Or.inr ⟨rfl, _, rfl, rfl⟩
abbrev cloneName_O (y : List Nam) : CV := .wo (.ow 0) [(53, 3, y.map cNam, none)]
set_option linter.unusedVariables false in
theorem cloneName_Oh {l : List Nam} {r : List Nam} (hF : cloneName_F l = some r) : Holds Tryd.prog Gw 73 [.sl 3 (l.map cNam)] (cloneName_O r) := by
  refine holds_of_wq tabOk mixed Tryd.func73 (by decide) rfl (Nat.le_of_ble_eq_true rfl) ?_
  refine Or.inl ?_
  refine gpos hF fun h1 hF => ?_
  refine Or.inl ⟨len_map (fun _ => rfl), one_le h1, ?_⟩
  refine ret_eq (p := fun r => resFin tab _ (cloneName_O r) _) hF ?_
  exact Or.inr ⟨[(4, 1)], rfl, ⟨rfl, rfl⟩, rfl⟩
abbrev cloneName_S (l : List Nam) : Option (List Nam) := cloneName_F l
theorem cloneName_h {l : List Nam} {r : List Nam} (h : cloneName_S l = some r) : Holds Tryd.prog Gw 73 [.sl 3 (l.map cNam)] (cloneName_E r) := cloneName_Fh  h
abbrev cloneInt_E (y : List Int) : CV := .sl 1 (y.map cInt)
def cloneInt_F (l : List Int) : Option (List Int) := bif decide (l.length ≤ 4294967296) then some (l) else none
set_option linter.unusedVariables false in
theorem cloneInt_Fh {l : List Int} {r : List Int} (hF : cloneInt_F l = some r) : Holds Tryd.prog Gw 74 [.sl 1 (l.map cInt)] (cloneInt_E r) := by
  refine holds_of_wq tabOk mixed Tryd.func74 (by decide) rfl (Nat.le_of_ble_eq_true rfl) ?_
  refine Or.inl ?_
  refine gpos hF fun h1 hF => ?_
  refine Or.inl ⟨len_map (fun _ => rfl), one_le h1, ?_⟩
  refine ret_eq (p := fun r => resFin tab _ (cloneInt_E r) _) hF ?_
  exact Or.inr ⟨rfl, _, rfl, rfl⟩
abbrev cloneInt_O (y : List Int) : CV := .wo (.ow 0) [(3, 1, y.map cInt, none)]
set_option linter.unusedVariables false in
theorem cloneInt_Oh {l : List Int} {r : List Int} (hF : cloneInt_F l = some r) : Holds Tryd.prog Gw 74 [.sl 1 (l.map cInt)] (cloneInt_O r) := by
  refine holds_of_wq tabOk mixed Tryd.func74 (by decide) rfl (Nat.le_of_ble_eq_true rfl) ?_
  refine Or.inl ?_
  refine gpos hF fun h1 hF => ?_
  refine Or.inl ⟨len_map (fun _ => rfl), one_le h1, ?_⟩
  refine ret_eq (p := fun r => resFin tab _ (cloneInt_O r) _) hF ?_
  exact Or.inr ⟨[(4, 1)], rfl, ⟨rfl, rfl⟩, rfl⟩
abbrev cloneInt_S (l : List Int) : Option (List Int) := cloneInt_F l
theorem cloneInt_h {l : List Int} {r : List Int} (h : cloneInt_S l = some r) : Holds Tryd.prog Gw 74 [.sl 1 (l.map cInt)] (cloneInt_E r) := cloneInt_Fh  h
abbrev pown_E (y : Aut) : CV := .agg (cAut y)
def pown_F (a : Aut) : Option (Aut) := Option.bind (cloneName_S a.Names) fun y1 => Option.bind (cloneInt_S a.Next) fun y3 => some ((⟨a.ID, a.Kind, a.In, y1, y3⟩ : Aut))
set_option linter.unusedVariables false in
theorem pown_Fh {a : Aut} {r : Aut} (hF : pown_F a = some r) : Holds Tryd.prog Gw 42 [.agg (cAut a)] (pown_E r) := by
  refine holds_of_wq tabOk mixed Tryd.func42 (by decide) rfl (Nat.le_of_ble_eq_true rfl) ?_
  refine Or.inl ?_
  refine Or.inl ?_
  refine obind hF fun y1 h2 hF => ?_
  refine Or.inr (Or.inl ⟨_, _, cloneName_Oh h2, ?_⟩)
  refine obind hF fun y3 h4 hF => ?_
  refine Or.inr (Or.inl ⟨_, _, cloneInt_Oh h4, ?_⟩)
  refine Or.inl ?_
  refine Or.inl ?_
  refine Or.inl ?_
  refine And.intro (by kernel_rfl) ?_
  refine Or.inl ?_
  refine Or.inl ?_
  refine ret_eq (p := fun r => resFin tab _ (pown_E r) _) hF ?_
  exact Or.inr ⟨rfl, _, rfl, rfl⟩
abbrev pown_O (y : Aut) : CV := .wo (.agg [I y.ID, I y.Kind, I y.In.From, I y.In.Until, .ow 0, .ow 1]) [(53, 3, y.Names.map cNam, none), (3, 1, y.Next.map cInt, none)]
set_option linter.unusedVariables false in
theorem pown_Oh {a : Aut} {r : Aut} (hF : pown_F a = some r) : Holds Tryd.prog Gw 42 [.agg (cAut a)] (pown_O r) := by
  refine holds_of_wq tabOk mixed Tryd.func42 (by decide) rfl (Nat.le_of_ble_eq_true rfl) ?_
  refine Or.inl ?_
  refine Or.inl ?_
  refine obind hF fun y1 h2 hF => ?_
  refine Or.inr (Or.inl ⟨_, _, cloneName_Oh h2, ?_⟩)
  refine obind hF fun y3 h4 hF => ?_
  refine Or.inr (Or.inl ⟨_, _, cloneInt_Oh h4, ?_⟩)
  refine Or.inl ?_
  refine Or.inl ?_
  refine Or.inl ?_
  refine And.intro (by kernel_rfl) ?_
  refine Or.inl ?_
  refine Or.inl ?_
  refine ret_eq (p := fun r => resFin tab _ (pown_O r) _) hF ?_
  exact Or.inr ⟨[(5, 1), (8, 1)], rfl, ⟨rfl, ⟨rfl, rfl⟩⟩, ⟨rfl, _, rfl, rfl⟩⟩
abbrev pown_S (a : Aut) : Option (Aut) := pown_F a
theorem pown_h {a : Aut} {r : Aut} (h : pown_S a = some r) : Holds Tryd.prog Gw 42 [.agg (cAut a)] (pown_E r) := pown_Fh  h
abbrev pFind_E (y : Aut × Bool) : CV := .tup [.agg (cAut y.1), B y.2]
def pFind_F (l : List Aut) (id : Int) : Option (Aut × Bool) := Option.bind (pindex_S l id) fun y1 => bif decide (y1 < 0) then some ((⟨0, 0, (⟨0, 0⟩ : Span), ([] : List Nam), ([] : List Int)⟩ : Aut), false) else (Option.bind (ix l y1) fun x4 => Option.bind (pown_S x4) fun y6 => some (y6, true))
set_option linter.unusedVariables false in
theorem pFind_Fh {l : List Aut} {id : Int} {r : Aut × Bool} (hF : pFind_F l id = some r) : Holds Tryd.prog Gw 16 [.sl 6 (l.map cAut), I id] (pFind_E r) := by
  refine holds_of_wq tabOk mixed Tryd.func16 (by decide) rfl (Nat.le_of_ble_eq_true rfl) ?_
  refine Or.inl ?_
  refine obind hF fun y1 h2 hF => ?_
  refine Or.inl ⟨_, pindex_h h2, rfl, ?_⟩
  refine And.intro (fun h3 => ?_) (fun h3 => ?_)
  · have hF := cpos h3 hF
    exact Or.inl ⟨rfl, congrArg (Option.map pFind_E) hF⟩
  · have hF := cneg h3 hF
    refine obind hF fun x4 h5 hF => ?_
    refine ⟨ix_nn h5, .inl rfl, _, ix_map cAut h5, ?_⟩
    refine obind hF fun y6 h7 hF => ?_
    refine Or.inl ⟨_, pown_h h7, rfl, ?_⟩
    exact Or.inl ⟨rfl, congrArg (Option.map pFind_E) hF⟩
abbrev pFind_S (l : List Aut) (id : Int) : Option (Aut × Bool) := pFind_F l id
theorem pFind_h {l : List Aut} {id : Int} {r : Aut × Bool} (h : pFind_S l id = some r) : Holds Tryd.prog Gw 16 [.sl 6 (l.map cAut), I id] (pFind_E r) := pFind_Fh  h
abbrev pText_E (y : Str) : CV := S y
def pText_L1 (a : Aut) : Nat → List Str → Int → Option (Str)
  | 0, _, _ => none
  | fu1 + 1, out1, v2 => bif decide (v2 < ((a.Names.map cNam).length : Int)) then (Option.bind (ix a.Names v2) fun x4 => bif decide (x4.Text.length + ([32] : Str).length ≤ 9223372036854775807) then Option.bind (itoa_S x4.In.From) fun y7 => bif decide ((x4.Text ++ ([32] : Str)).length + y7.length ≤ 9223372036854775807) then bif decide (((x4.Text ++ ([32] : Str)) ++ y7).length + ([45] : Str).length ≤ 9223372036854775807) then bif decide (x4.In.Until < 1048576) then (Option.bind (itoa_S x4.In.Until) fun y12 => bif decide ((((x4.Text ++ ([32] : Str)) ++ y7) ++ ([45] : Str)).length + y12.length ≤ 9223372036854775807) then bif decide (out1.length + ([((((x4.Text ++ ([32] : Str)) ++ y7) ++ ([45] : Str)) ++ y12)] : List Str).length ≤ 4294967296) then pText_L1 a fu1 (out1 ++ ([((((x4.Text ++ ([32] : Str)) ++ y7) ++ ([45] : Str)) ++ y12)] : List Str)) (IntKind.i64.wrap (v2 + 1)) else none else none) else (bif decide (out1.length + ([(((x4.Text ++ ([32] : Str)) ++ y7) ++ ([45] : Str))] : List Str).length ≤ 4294967296) then pText_L1 a fu1 (out1 ++ ([(((x4.Text ++ ([32] : Str)) ++ y7) ++ ([45] : Str))] : List Str)) (IntKind.i64.wrap (v2 + 1)) else none) else none else none else none) else (Option.bind (join_S out1 ([59, 32] : Str)) fun y17 => some (y17))
def pText_F (N : Nat) (a : Aut) : Option (Str) := pText_L1 a N ([] : List Str) 0
set_option linter.unusedVariables false in
theorem pText_Fh {N : Nat} {a : Aut} {r : Str} (hF : pText_F N a = some r) : Holds Tryd.prog Gw 19 [.agg (cAut a)] (pText_E r) := by
  refine holds_of_wq tabOk mixed Tryd.func19 (by decide) rfl (Nat.le_of_ble_eq_true rfl) ?_
  refine Or.inl ?_
  refine Or.inl ?_
  refine loop_oq (fun p : Nat × List Str × Int => [(3, .ap 3 0 1 (p.2.1.map cStr)), (8, .c (.sl 3 (a.Names.map cNam))), (9, .c (I ((a.Names.map cNam).length : Int))), (10, .c (I p.2.2))]) (fun p : Nat × List Str × Int => [(3, .tok 9 1)]) (fun p => pText_L1 a p.1 p.2.1 p.2.2 = some r) (fun p => p.1) (N, ([] : List Str), 0) hF ⟨rfl, rfl, rfl, rfl, trivial⟩ ⟨rfl, trivial⟩ ?_
  rintro ⟨fu1, out1, v2⟩ hF
  cases fu1 with
  | zero => exact nomatch hF
  | succ fu1 =>
    refine join_no ?_
    refine And.intro (fun h3 => ?_) (fun h3 => ?_)
    · have hF := cpos h3 hF
      refine join_no ?_
      refine obind hF fun x4 h5 hF => ?_
      refine ⟨ix_nn h5, .inl rfl, _, ix_map cNam h5, ?_⟩
      refine Or.inl ?_
      refine gpos hF fun h6 hF => ?_
      refine ⟨of_decide_eq_true h6, _, scat _ _, ?_⟩
      refine obind hF fun y7 h8 hF => ?_
      refine Or.inl ⟨_, itoa_h h8, rfl, ?_⟩
      refine gpos hF fun h9 hF => ?_
      refine ⟨of_decide_eq_true h9, _, scat _ _, ?_⟩
      refine gpos hF fun h10 hF => ?_
      refine ⟨of_decide_eq_true h10, _, scat _ _, ?_⟩
      refine And.intro (by kernel_rfl) ?_
      refine And.intro (fun h11 => ?_) (fun h11 => ?_)
      · have hF := cpos h11 hF
        refine obind hF fun y12 h13 hF => ?_
        refine Or.inl ⟨_, itoa_h h13, rfl, ?_⟩
        refine gpos hF fun h14 hF => ?_
        refine ⟨of_decide_eq_true h14, _, scat _ _, ?_⟩
        refine Or.inl ?_
        refine gpos hF fun h15 hF => ?_
        refine Or.inl ⟨len_all rfl, app_le h15, (out1 ++ ([((((x4.Text ++ ([32] : Str)) ++ y7) ++ ([45] : Str)) ++ y12)] : List Str)).map cStr, map_app _ _ _, ?_⟩
        exact ⟨(fu1, (out1 ++ ([((((x4.Text ++ ([32] : Str)) ++ y7) ++ ([45] : Str)) ++ y12)] : List Str)), (IntKind.i64.wrap (v2 + 1))), Nat.lt_succ_self _, hF, ⟨rfl, rfl, rfl, rfl, trivial⟩, ⟨rfl, trivial⟩⟩
      · have hF := cneg h11 hF
        refine Or.inl ?_
        refine gpos hF fun h16 hF => ?_
        refine Or.inl ⟨len_all rfl, app_le h16, (out1 ++ ([(((x4.Text ++ ([32] : Str)) ++ y7) ++ ([45] : Str))] : List Str)).map cStr, map_app _ _ _, ?_⟩
        exact ⟨(fu1, (out1 ++ ([(((x4.Text ++ ([32] : Str)) ++ y7) ++ ([45] : Str))] : List Str)), (IntKind.i64.wrap (v2 + 1))), Nat.lt_succ_self _, hF, ⟨rfl, rfl, rfl, rfl, trivial⟩, ⟨rfl, trivial⟩⟩
    · have hF := cneg h3 hF
      refine obind hF fun y17 h18 hF => ?_
      refine Or.inl ⟨_, join_h h18, rfl, ?_⟩
      exact Or.inl ⟨rfl, congrArg (Option.map pText_E) hF⟩
abbrev pText_S (a : Aut) : Option (Str) := pText_F (a.Names.length + 1) a
theorem pText_h {a : Aut} {r : Str} (h : pText_S a = some r) : Holds Tryd.prog Gw 19 [.agg (cAut a)] (pText_E r) := pText_Fh  h
abbrev pasks_E (y : Int) : CV := I y
def pasks_F (l : List Aut) (day : Int) : Option (Int) := Option.bind (pCheck_S l) fun y1 => bif (y1.2 != 0) then some (1) else (Option.bind (pwithin_S day 0 1048575) fun y4 => bif (!y4) then some (2) else some (0))
set_option linter.unusedVariables false in
theorem pasks_Fh {l : List Aut} {day : Int} {r : Int} (hF : pasks_F l day = some r) : Holds Tryd.prog Gw 46 [.sl 6 (l.map cAut), I day] (pasks_E r) := by
  refine holds_of_wq tabOk mixed Tryd.func46 (by decide) rfl (Nat.le_of_ble_eq_true rfl) ?_
  refine obind hF fun y1 h2 hF => ?_
  refine Or.inl ⟨_, pCheck_h h2, rfl, ?_⟩
  refine And.intro (fun h3 => ?_) (fun h3 => ?_)
  · have hF := cpos h3 hF
    exact Or.inl ⟨rfl, congrArg (Option.map pasks_E) hF⟩
  · have hF := cneg h3 hF
    refine obind hF fun y4 h5 hF => ?_
    refine Or.inl ⟨_, pwithin_h h5, rfl, ?_⟩
    refine And.intro (fun h6 => ?_) (fun h6 => ?_)
    · have hF := cpos h6 hF
      exact Or.inl ⟨rfl, congrArg (Option.map pasks_E) hF⟩
    · have hF := cneg h6 hF
      exact Or.inl ⟨rfl, congrArg (Option.map pasks_E) hF⟩
abbrev pasks_S (l : List Aut) (day : Int) : Option (Int) := pasks_F l day
theorem pasks_h {l : List Aut} {day : Int} {r : Int} (h : pasks_S l day = some r) : Holds Tryd.prog Gw 46 [.sl 6 (l.map cAut), I day] (pasks_E r) := pasks_Fh  h
abbrev pin_E (y : Bool) : CV := B y
def pin_F (x : Span) (day : Int) : Option (Bool) := bif decide (x.From ≤ day) then some (decide (day < x.Until)) else some (false)
set_option linter.unusedVariables false in
theorem pin_Fh {x : Span} {day : Int} {r : Bool} (hF : pin_F x day = some r) : Holds Tryd.prog Gw 47 [.agg (cSpan x), I day] (pin_E r) := by
  refine holds_of_wq tabOk mixed Tryd.func47 (by decide) rfl (Nat.le_of_ble_eq_true rfl) ?_
  refine Or.inl ?_
  refine And.intro (fun h1 => ?_) (fun h1 => ?_)
  · have hF := cpos h1 hF
    exact Or.inl ⟨rfl, congrArg (Option.map pin_E) hF⟩
  · have hF := cneg h1 hF
    exact Or.inl ⟨rfl, congrArg (Option.map pin_E) hF⟩
abbrev pin_S (x : Span) (day : Int) : Option (Bool) := pin_F x day
theorem pin_h {x : Span} {day : Int} {r : Bool} (h : pin_S x day = some r) : Holds Tryd.prog Gw 47 [.agg (cSpan x), I day] (pin_E r) := pin_Fh  h
abbrev slBSF_E (y : Int × Bool) : CV := .tup [I y.1, B y.2]
def slBSF_L1 (x : List Nam) (target : Int) (cmp : Nam → Int → Option Int) : Nat → Int → Int → Option (Int × Bool)
  | 0, _, _ => none
  | fu1 + 1, i1, j2 => bif decide (i1 < j2) then (Option.bind (ix x (IntKind.i64.wrap (Int.fdiv (IntKind.u64.wrap (IntKind.i64.wrap (i1 + j2))) 2))) fun x4 => Option.bind (cmp x4 target) fun y6 => bif decide (y6 < 0) then slBSF_L1 x target cmp fu1 (IntKind.i64.wrap ((IntKind.i64.wrap (Int.fdiv (IntKind.u64.wrap (IntKind.i64.wrap (i1 + j2))) 2)) + 1)) j2 else slBSF_L1 x target cmp fu1 i1 (IntKind.i64.wrap (Int.fdiv (IntKind.u64.wrap (IntKind.i64.wrap (i1 + j2))) 2))) else (bif decide (i1 < ((x.map cNam).length : Int)) then (Option.bind (ix x i1) fun x10 => Option.bind (cmp x10 target) fun y12 => some (i1, (y12 == 0))) else some (i1, false))
def slBSF_F (N : Nat) (x : List Nam) (target : Int) (cmp : Nam → Int → Option Int) : Option (Int × Bool) := slBSF_L1 x target cmp N 0 ((x.map cNam).length : Int)
set_option linter.unusedVariables false in
theorem slBSF_Fh {N : Nat} {x : List Nam} {target : Int} {cmp : Nam → Int → Option Int} {r : Int × Bool} {cmp_f : FuncId} {cmp_c : List CV} (cmp_h : ∀ z0 z1 y, cmp z0 z1 = some y → Holds Tryd.prog Gw cmp_f (.agg (cNam z0) :: I z1 :: cmp_c) (I y)) (hF : slBSF_F N x target cmp = some r) : Holds Tryd.prog Gw 80 [.sl 3 (x.map cNam), I target, .fn cmp_f cmp_c] (slBSF_E r) := by
  refine holds_of_wq tabOk mixed Tryd.func80 (by decide) rfl (Nat.le_of_ble_eq_true rfl) ?_
  refine join_no ?_
  refine loop_oq (fun p : Nat × Int × Int => [(0, .c (.sl 3 (x.map cNam))), (1, .c (I target)), (2, .c (.fn cmp_f cmp_c)), (8, .c (I ((x.map cNam).length : Int))), (9, .c (I p.2.1)), (10, .c (I p.2.2))]) (fun _ => []) (fun p => slBSF_L1 x target cmp p.1 p.2.1 p.2.2 = some r) (fun p => p.1) (N, 0, ((x.map cNam).length : Int)) hF ⟨rfl, rfl, rfl, rfl, rfl, rfl, trivial⟩ trivial ?_
  rintro ⟨fu1, i1, j2⟩ hF
  cases fu1 with
  | zero => exact nomatch hF
  | succ fu1 =>
    refine And.intro (fun h3 => ?_) (fun h3 => ?_)
    · have hF := cpos h3 hF
      refine ⟨by decide, ?_⟩
      refine obind hF fun x4 h5 hF => ?_
      refine ⟨ix_nn h5, .inl rfl, _, ix_map cNam h5, ?_⟩
      refine obind hF fun y6 h7 hF => ?_
      refine Or.inl ⟨_, cmp_h _ _ _ h7, rfl, ?_⟩
      refine And.intro (fun h8 => ?_) (fun h8 => ?_)
      · have hF := cpos h8 hF
        exact ⟨(fu1, (IntKind.i64.wrap ((IntKind.i64.wrap (Int.fdiv (IntKind.u64.wrap (IntKind.i64.wrap (i1 + j2))) 2)) + 1)), j2), Nat.lt_succ_self _, hF, ⟨rfl, rfl, rfl, rfl, rfl, rfl, trivial⟩, trivial⟩
      · have hF := cneg h8 hF
        exact ⟨(fu1, i1, (IntKind.i64.wrap (Int.fdiv (IntKind.u64.wrap (IntKind.i64.wrap (i1 + j2))) 2))), Nat.lt_succ_self _, hF, ⟨rfl, rfl, rfl, rfl, rfl, rfl, trivial⟩, trivial⟩
    · have hF := cneg h3 hF
      refine And.intro (fun h9 => ?_) (fun h9 => ?_)
      · have hF := cpos h9 hF
        refine obind hF fun x10 h11 hF => ?_
        refine ⟨ix_nn h11, .inl rfl, _, ix_map cNam h11, ?_⟩
        refine obind hF fun y12 h13 hF => ?_
        refine Or.inl ⟨_, cmp_h _ _ _ h13, rfl, ?_⟩
        exact Or.inl ⟨rfl, congrArg (Option.map slBSF_E) hF⟩
      · have hF := cneg h9 hF
        exact Or.inl ⟨rfl, congrArg (Option.map slBSF_E) hF⟩
abbrev slBSF_S (x : List Nam) (target : Int) (cmp : Nam → Int → Option Int) : Option (Int × Bool) := slBSF_F 64 x target cmp
theorem slBSF_h {x : List Nam} {target : Int} {cmp : Nam → Int → Option Int} {r : Int × Bool} {cmp_f : FuncId} {cmp_c : List CV} (cmp_h : ∀ z0 z1 y, cmp z0 z1 = some y → Holds Tryd.prog Gw cmp_f (.agg (cNam z0) :: I z1 :: cmp_c) (I y)) (h : slBSF_S x target cmp = some r) : Holds Tryd.prog Gw 80 [.sl 3 (x.map cNam), I target, .fn cmp_f cmp_c] (slBSF_E r) := slBSF_Fh cmp_h h
abbrev cmpIsNaN_E (y : Bool) : CV := B y
def cmpIsNaN_F (x : Int) : Option (Bool) := some ((x != x))
set_option linter.unusedVariables false in
theorem cmpIsNaN_Fh {x : Int} {r : Bool} (hF : cmpIsNaN_F x = some r) : Holds Tryd.prog Gw 88 [I x] (cmpIsNaN_E r) := by
  refine holds_of_wq tabOk mixed Tryd.func88 (by decide) rfl (Nat.le_of_ble_eq_true rfl) ?_
  exact Or.inl ⟨rfl, congrArg (Option.map cmpIsNaN_E) hF⟩
abbrev cmpIsNaN_S (x : Int) : Option (Bool) := cmpIsNaN_F x
theorem cmpIsNaN_h {x : Int} {r : Bool} (h : cmpIsNaN_S x = some r) : Holds Tryd.prog Gw 88 [I x] (cmpIsNaN_E r) := cmpIsNaN_Fh  h
abbrev cmpCompare_E (y : Int) : CV := I y
def cmpCompare_F (x : Int) (y : Int) : Option (Int) := Option.bind (cmpIsNaN_S x) fun y1 => Option.bind (cmpIsNaN_S y) fun y3 => bif y1 then (bif y3 then some (0) else some ((-1))) else (bif y3 then some (1) else (bif decide (x < y) then some ((-1)) else (bif decide (x > y) then some (1) else some (0))))
set_option linter.unusedVariables false in
theorem cmpCompare_Fh {x : Int} {y : Int} {r : Int} (hF : cmpCompare_F x y = some r) : Holds Tryd.prog Gw 82 [I x, I y] (cmpCompare_E r) := by
  refine holds_of_wq tabOk mixed Tryd.func82 (by decide) rfl (Nat.le_of_ble_eq_true rfl) ?_
  refine obind hF fun y1 h2 hF => ?_
  refine Or.inl ⟨_, cmpIsNaN_h h2, rfl, ?_⟩
  refine obind hF fun y3 h4 hF => ?_
  refine Or.inl ⟨_, cmpIsNaN_h h4, rfl, ?_⟩
  refine And.intro (fun h5 => ?_) (fun h5 => ?_)
  · have hF := cpos h5 hF
    refine And.intro (fun h6 => ?_) (fun h6 => ?_)
    · have hF := cpos h6 hF
      exact Or.inl ⟨rfl, congrArg (Option.map cmpCompare_E) hF⟩
    · have hF := cneg h6 hF
      exact Or.inl ⟨rfl, congrArg (Option.map cmpCompare_E) hF⟩
  · have hF := cneg h5 hF
    refine And.intro (fun h7 => ?_) (fun h7 => ?_)
    · have hF := cpos h7 hF
      exact Or.inl ⟨rfl, congrArg (Option.map cmpCompare_E) hF⟩
    · have hF := cneg h7 hF
      refine And.intro (fun h8 => ?_) (fun h8 => ?_)
      · have hF := cpos h8 hF
        exact Or.inl ⟨rfl, congrArg (Option.map cmpCompare_E) hF⟩
      · have hF := cneg h8 hF
        refine And.intro (fun h9 => ?_) (fun h9 => ?_)
        · have hF := cpos h9 hF
          exact Or.inl ⟨rfl, congrArg (Option.map cmpCompare_E) hF⟩
        · have hF := cneg h9 hF
          exact Or.inl ⟨rfl, congrArg (Option.map cmpCompare_E) hF⟩
abbrev cmpCompare_S (x : Int) (y : Int) : Option (Int) := cmpCompare_F x y
theorem cmpCompare_h {x : Int} {y : Int} {r : Int} (h : cmpCompare_S x y = some r) : Holds Tryd.prog Gw 82 [I x, I y] (cmpCompare_E r) := cmpCompare_Fh  h
abbrev pon_1_E (y : Int) : CV := I y
def pon_1_F (n : Nam) (day : Int) : Option (Int) := Option.bind (pin_S n.In day) fun y1 => bif y1 then some (0) else (Option.bind (cmpCompare_S n.In.From day) fun y4 => some (y4))
set_option linter.unusedVariables false in
theorem pon_1_Fh {n : Nam} {day : Int} {r : Int} (hF : pon_1_F n day = some r) : Holds Tryd.prog Gw 81 [.agg (cNam n), I day] (pon_1_E r) := by
  refine holds_of_wq tabOk mixed Tryd.func81 (by decide) rfl (Nat.le_of_ble_eq_true rfl) ?_
  refine Or.inl ?_
  refine obind hF fun y1 h2 hF => ?_
  refine Or.inl ⟨_, pin_h h2, rfl, ?_⟩
  refine And.intro (fun h3 => ?_) (fun h3 => ?_)
  · have hF := cpos h3 hF
    exact Or.inl ⟨rfl, congrArg (Option.map pon_1_E) hF⟩
  · have hF := cneg h3 hF
    refine obind hF fun y4 h5 hF => ?_
    refine Or.inl ⟨_, cmpCompare_h h5, rfl, ?_⟩
    exact Or.inl ⟨rfl, congrArg (Option.map pon_1_E) hF⟩
abbrev pon_1_S (n : Nam) (day : Int) : Option (Int) := pon_1_F n day
theorem pon_1_h {n : Nam} {day : Int} {r : Int} (h : pon_1_S n day = some r) : Holds Tryd.prog Gw 81 [.agg (cNam n), I day] (pon_1_E r) := pon_1_Fh  h
abbrev pon_E (y : Str × Bool) : CV := .tup [S y.1, B y.2]
def pon_F (a : Aut) (day : Int) : Option (Str × Bool) := Option.bind (slBSF_S a.Names day (fun z0 z1 => pon_1_S z0 z1)) fun y1 => bif (!y1.2) then some (([] : Str), false) else (Option.bind (ix a.Names y1.1) fun x4 => some (x4.Text, true))
set_option linter.unusedVariables false in
theorem pon_Fh {a : Aut} {day : Int} {r : Str × Bool} (hF : pon_F a day = some r) : Holds Tryd.prog Gw 48 [.agg (cAut a), I day] (pon_E r) := by
  refine holds_of_wq tabOk mixed Tryd.func48 (by decide) rfl (Nat.le_of_ble_eq_true rfl) ?_
  refine Or.inl ?_
  refine obind hF fun y1 h2 hF => ?_
  refine Or.inl ⟨_, slBSF_h (fun _ _ _ h => pon_1_h h) h2, rfl, ?_⟩
  refine And.intro (fun h3 => ?_) (fun h3 => ?_)
  · have hF := cpos h3 hF
    exact Or.inl ⟨rfl, congrArg (Option.map pon_E) hF⟩
  · have hF := cneg h3 hF
    refine obind hF fun x4 h5 hF => ?_
    refine ⟨ix_nn h5, .inl rfl, _, ix_map cNam h5, ?_⟩
    exact Or.inl ⟨rfl, congrArg (Option.map pon_E) hF⟩
abbrev pon_S (a : Aut) (day : Int) : Option (Str × Bool) := pon_F a day
theorem pon_h {a : Aut} {day : Int} {r : Str × Bool} (h : pon_S a day = some r) : Holds Tryd.prog Gw 48 [.agg (cAut a), I day] (pon_E r) := pon_Fh  h
abbrev pName_E (y : Str × Int) : CV := .tup [S y.1, I y.2]
def pName_F (l : List Aut) (id : Int) (day : Int) : Option (Str × Int) := Option.bind (pasks_S l day) fun y1 => bif (y1 != 0) then some (([] : Str), y1) else (Option.bind (pindex_S l id) fun y4 => bif decide (y4 < 0) then some (([] : Str), 7) else (Option.bind (ix l y4) fun x7 => Option.bind (pin_S x7.In day) fun y9 => bif (!y9) then some (([] : Str), 11) else (Option.bind (ix l y4) fun x12 => Option.bind (pon_S x12 day) fun y14 => bif (!y14.2) then some (([] : Str), 9) else some (y14.1, 0))))
set_option linter.unusedVariables false in
theorem pName_Fh {l : List Aut} {id : Int} {day : Int} {r : Str × Int} (hF : pName_F l id day = some r) : Holds Tryd.prog Gw 21 [.sl 6 (l.map cAut), I id, I day] (pName_E r) := by
  refine holds_of_wq tabOk mixed Tryd.func21 (by decide) rfl (Nat.le_of_ble_eq_true rfl) ?_
  refine obind hF fun y1 h2 hF => ?_
  refine Or.inl ⟨_, pasks_h h2, rfl, ?_⟩
  refine And.intro (fun h3 => ?_) (fun h3 => ?_)
  · have hF := cpos h3 hF
    exact Or.inl ⟨rfl, congrArg (Option.map pName_E) hF⟩
  · have hF := cneg h3 hF
    refine obind hF fun y4 h5 hF => ?_
    refine Or.inl ⟨_, pindex_h h5, rfl, ?_⟩
    refine join_no ?_
    refine And.intro (fun h6 => ?_) (fun h6 => ?_)
    · have hF := cpos h6 hF
      exact Or.inl ⟨rfl, congrArg (Option.map pName_E) hF⟩
    · have hF := cneg h6 hF
      refine obind hF fun x7 h8 hF => ?_
      refine ⟨ix_nn h8, .inl rfl, _, ix_map cAut h8, ?_⟩
      refine obind hF fun y9 h10 hF => ?_
      refine Or.inl ⟨_, pin_h h10, rfl, ?_⟩
      refine And.intro (fun h11 => ?_) (fun h11 => ?_)
      · have hF := cpos h11 hF
        exact Or.inl ⟨rfl, congrArg (Option.map pName_E) hF⟩
      · have hF := cneg h11 hF
        refine obind hF fun x12 h13 hF => ?_
        refine ⟨ix_nn h13, .inl rfl, _, ix_map cAut h13, ?_⟩
        refine obind hF fun y14 h15 hF => ?_
        refine Or.inl ⟨_, pon_h h15, rfl, ?_⟩
        refine And.intro (fun h16 => ?_) (fun h16 => ?_)
        · have hF := cpos h16 hF
          exact Or.inl ⟨rfl, congrArg (Option.map pName_E) hF⟩
        · have hF := cneg h16 hF
          exact Or.inl ⟨rfl, congrArg (Option.map pName_E) hF⟩
abbrev pName_S (l : List Aut) (id : Int) (day : Int) : Option (Str × Int) := pName_F l id day
theorem pName_h {l : List Aut} {id : Int} {day : Int} {r : Str × Int} (h : pName_S l id day = some r) : Holds Tryd.prog Gw 21 [.sl 6 (l.map cAut), I id, I day] (pName_E r) := pName_Fh  h
abbrev pNamed_E (y : List Int × Int) : CV := .tup [.sl 1 (y.1.map cInt), I y.2]
def pNamed_L1 (l : List Aut) (text : Str) (day : Int) : Nat → List Int → Int → Option (List Int × Int)
  | 0, _, _ => none
  | fu1 + 1, out4, v5 => bif decide (v5 < ((l.map cAut).length : Int)) then (Option.bind (ix l v5) fun x7 => Option.bind (pon_S x7 day) fun y9 => bif y9.2 then (bif (y9.1 == text) then (bif decide (out4.length + ([x7.ID] : List Int).length ≤ 4294967296) then pNamed_L1 l text day fu1 (out4 ++ ([x7.ID] : List Int)) (IntKind.i64.wrap (v5 + 1)) else none) else pNamed_L1 l text day fu1 out4 (IntKind.i64.wrap (v5 + 1))) else pNamed_L1 l text day fu1 out4 (IntKind.i64.wrap (v5 + 1))) else some (out4, 0)
def pNamed_F (N : Nat) (l : List Aut) (text : Str) (day : Int) : Option (List Int × Int) := Option.bind (pasks_S l day) fun y1 => bif (y1 != 0) then some (([] : List Int), y1) else pNamed_L1 l text day N ([] : List Int) 0
set_option linter.unusedVariables false in
theorem pNamed_Fh {N : Nat} {l : List Aut} {text : Str} {day : Int} {r : List Int × Int} (hF : pNamed_F N l text day = some r) : Holds Tryd.prog Gw 23 [.sl 6 (l.map cAut), S text, I day] (pNamed_E r) := by
  refine holds_of_wq tabOk mixed Tryd.func23 (by decide) rfl (Nat.le_of_ble_eq_true rfl) ?_
  refine Or.inl ?_
  refine obind hF fun y1 h2 hF => ?_
  refine Or.inl ⟨_, pasks_h h2, rfl, ?_⟩
  refine And.intro (fun h3 => ?_) (fun h3 => ?_)
  · have hF := cpos h3 hF
    refine Or.inl ?_
    exact Or.inl ⟨rfl, congrArg (Option.map pNamed_E) hF⟩
  · have hF := cneg h3 hF
    refine Or.inl ?_
    refine loop_oq (fun p : Nat × List Int × Int => [(1, .c (S text)), (2, .c (I day)), (9, .ap 9 0 1 (p.2.1.map cInt)), (20, .c (.sl 6 (l.map cAut))), (21, .c (I ((l.map cAut).length : Int))), (22, .c (I p.2.2))]) (fun p : Nat × List Int × Int => [(9, .tok 3 1)]) (fun p => pNamed_L1 l text day p.1 p.2.1 p.2.2 = some r) (fun p => p.1) (N, ([] : List Int), 0) hF ⟨rfl, rfl, rfl, rfl, rfl, rfl, trivial⟩ ⟨rfl, trivial⟩ ?_
    rintro ⟨fu1, out4, v5⟩ hF
    cases fu1 with
    | zero => exact nomatch hF
    | succ fu1 =>
      refine join_no ?_
      refine And.intro (fun h6 => ?_) (fun h6 => ?_)
      · have hF := cpos h6 hF
        refine join_no ?_
        refine obind hF fun x7 h8 hF => ?_
        refine ⟨ix_nn h8, .inl rfl, _, ix_map cAut h8, ?_⟩
        refine Or.inl ?_
        refine obind hF fun y9 h10 hF => ?_
        refine Or.inl ⟨_, pon_h h10, rfl, ?_⟩
        refine And.intro (fun h11 => ?_) (fun h11 => ?_)
        · have hF := cpos h11 hF
          refine And.intro (fun h12 => ?_) (fun h12 => ?_)
          · have hF := cpos h12 hF
            refine Or.inl ?_
            refine gpos hF fun h13 hF => ?_
            refine Or.inl ⟨len_all rfl, app_le h13, (out4 ++ ([x7.ID] : List Int)).map cInt, map_app _ _ _, ?_⟩
            exact ⟨(fu1, (out4 ++ ([x7.ID] : List Int)), (IntKind.i64.wrap (v5 + 1))), Nat.lt_succ_self _, hF, ⟨rfl, rfl, rfl, rfl, rfl, rfl, trivial⟩, ⟨rfl, trivial⟩⟩
          · have hF := cneg h12 hF
            exact ⟨(fu1, out4, (IntKind.i64.wrap (v5 + 1))), Nat.lt_succ_self _, hF, ⟨rfl, rfl, rfl, rfl, rfl, rfl, trivial⟩, ⟨rfl, trivial⟩⟩
        · have hF := cneg h11 hF
          exact ⟨(fu1, out4, (IntKind.i64.wrap (v5 + 1))), Nat.lt_succ_self _, hF, ⟨rfl, rfl, rfl, rfl, rfl, rfl, trivial⟩, ⟨rfl, trivial⟩⟩
      · have hF := cneg h6 hF
        exact Or.inl ⟨rfl, congrArg (Option.map pNamed_E) hF⟩
abbrev pNamed_S (l : List Aut) (text : Str) (day : Int) : Option (List Int × Int) := pNamed_F (l.length + 1) l text day
theorem pNamed_h {l : List Aut} {text : Str} {day : Int} {r : List Int × Int} (h : pNamed_S l text day = some r) : Holds Tryd.prog Gw 23 [.sl 6 (l.map cAut), S text, I day] (pNamed_E r) := pNamed_Fh  h
abbrev slEqual_E (y : Bool) : CV := B y
def slEqual_L1 (s1 : List Int) (s2 : List Int) : Nat → Int → Option (Bool)
  | 0, _ => none
  | fu1 + 1, v2 => bif decide (v2 < ((s1.map cInt).length : Int)) then (Option.bind (ix s1 v2) fun x4 => Option.bind (ix s2 v2) fun x6 => bif (x4 != x6) then some (false) else slEqual_L1 s1 s2 fu1 (IntKind.i64.wrap (v2 + 1))) else some (true)
def slEqual_F (N : Nat) (s1 : List Int) (s2 : List Int) : Option (Bool) := bif (((s1.map cInt).length : Int) != ((s2.map cInt).length : Int)) then some (false) else slEqual_L1 s1 s2 N 0
set_option linter.unusedVariables false in
theorem slEqual_Fh {N : Nat} {s1 : List Int} {s2 : List Int} {r : Bool} (hF : slEqual_F N s1 s2 = some r) : Holds Tryd.prog Gw 25 [.sl 1 (s1.map cInt), .sl 1 (s2.map cInt)] (slEqual_E r) := by
  refine holds_of_wq tabOk mixed Tryd.func25 (by decide) rfl (Nat.le_of_ble_eq_true rfl) ?_
  refine And.intro (fun h1 => ?_) (fun h1 => ?_)
  · have hF := cpos h1 hF
    exact Or.inl ⟨rfl, congrArg (Option.map slEqual_E) hF⟩
  · have hF := cneg h1 hF
    refine loop_oq (fun p : Nat × Int => [(0, .c (.sl 1 (s1.map cInt))), (1, .c (.sl 1 (s2.map cInt))), (12, .c (I ((s1.map cInt).length : Int))), (13, .c (I p.2))]) (fun _ => []) (fun p => slEqual_L1 s1 s2 p.1 p.2 = some r) (fun p => p.1) (N, 0) hF ⟨rfl, rfl, rfl, rfl, trivial⟩ trivial ?_
    rintro ⟨fu1, v2⟩ hF
    cases fu1 with
    | zero => exact nomatch hF
    | succ fu1 =>
      refine join_no ?_
      refine And.intro (fun h3 => ?_) (fun h3 => ?_)
      · have hF := cpos h3 hF
        refine join_no ?_
        refine obind hF fun x4 h5 hF => ?_
        refine ⟨ix_nn h5, .inl rfl, _, ix_map cInt h5, ?_⟩
        refine obind hF fun x6 h7 hF => ?_
        refine ⟨ix_nn h7, .inl rfl, _, ix_map cInt h7, ?_⟩
        refine And.intro (by kernel_rfl) ?_
        refine And.intro (fun h8 => ?_) (fun h8 => ?_)
        · have hF := cpos h8 hF
          exact Or.inl ⟨rfl, congrArg (Option.map slEqual_E) hF⟩
        · have hF := cneg h8 hF
          exact ⟨(fu1, (IntKind.i64.wrap (v2 + 1))), Nat.lt_succ_self _, hF, ⟨rfl, rfl, rfl, rfl, trivial⟩, trivial⟩
      · have hF := cneg h3 hF
        exact Or.inl ⟨rfl, congrArg (Option.map slEqual_E) hF⟩
abbrev slEqual_S (s1 : List Int) (s2 : List Int) : Option (Bool) := slEqual_F (s1.length + 1) s1 s2
theorem slEqual_h {s1 : List Int} {s2 : List Int} {r : Bool} (h : slEqual_S s1 s2 = some r) : Holds Tryd.prog Gw 25 [.sl 1 (s1.map cInt), .sl 1 (s2.map cInt)] (slEqual_E r) := slEqual_Fh  h
abbrev cloneAut_E (y : List Aut) : CV := .sl 6 (y.map cAut)
def cloneAut_F (l : List Aut) : Option (List Aut) := bif decide (l.length ≤ 4294967296) then some (l) else none
set_option linter.unusedVariables false in
theorem cloneAut_Fh {l : List Aut} {r : List Aut} (hF : cloneAut_F l = some r) : Holds Tryd.prog Gw 87 [.sl 6 (l.map cAut)] (cloneAut_E r) := by
  refine holds_of_wq tabOk mixed Tryd.func87 (by decide) rfl (Nat.le_of_ble_eq_true rfl) ?_
  refine Or.inl ?_
  refine gpos hF fun h1 hF => ?_
  refine Or.inl ⟨len_map (fun _ => rfl), one_le h1, ?_⟩
  refine ret_eq (p := fun r => resFin tab _ (cloneAut_E r) _) hF ?_
  exact Or.inr ⟨rfl, _, rfl, rfl⟩
abbrev cloneAut_O (y : List Aut) : CV := .wo (.ow 0) [(28, 6, y.map cAut, none)]
set_option linter.unusedVariables false in
theorem cloneAut_Oh {l : List Aut} {r : List Aut} (hF : cloneAut_F l = some r) : Holds Tryd.prog Gw 87 [.sl 6 (l.map cAut)] (cloneAut_O r) := by
  refine holds_of_wq tabOk mixed Tryd.func87 (by decide) rfl (Nat.le_of_ble_eq_true rfl) ?_
  refine Or.inl ?_
  refine gpos hF fun h1 hF => ?_
  refine Or.inl ⟨len_map (fun _ => rfl), one_le h1, ?_⟩
  refine ret_eq (p := fun r => resFin tab _ (cloneAut_O r) _) hF ?_
  exact Or.inr ⟨[(4, 1)], rfl, ⟨rfl, rfl⟩, rfl⟩
abbrev cloneAut_S (l : List Aut) : Option (List Aut) := cloneAut_F l
theorem cloneAut_h {l : List Aut} {r : List Aut} (h : cloneAut_S l = some r) : Holds Tryd.prog Gw 87 [.sl 6 (l.map cAut)] (cloneAut_E r) := cloneAut_Fh  h
end Go.Proofs.YtgpojnenbmlcbaaDoor
