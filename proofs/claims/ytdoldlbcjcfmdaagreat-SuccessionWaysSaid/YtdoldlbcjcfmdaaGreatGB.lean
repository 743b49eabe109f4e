/- Functions of the program as functions of Lean, each with its contract (printed by a program). -/
import Derived.Test.YtdoldlbcjcfmdaaGreatDisp
namespace Go.Proofs.YtdoldlbcjcfmdaaGreat
open Go Go.Abs
set_option maxRecDepth 10000
set_option maxHeartbeats 400000
abbrev pCheck_E (y : Int × Int) : CV := .tup [I y.1, I y.2]
def pCheck_L2 (l : List Aut) (v2 : Int) (x4 : FuncId) (k_1 : Int → Option (Int × Int)) : Nat → Int → Option (Int × Int)
  | 0, _ => none
  | fu2 + 1, v6 => bif decide (v6 < ((l.map cAut).length : Int)) then (Option.bind (pdisp x4 l v6) fun y8 => bif (y8 != 0) then some (v6, y8) else pCheck_L2 l v2 x4 k_1 fu2 (IntKind.i64.wrap (v6 + 1))) else k_1 (IntKind.i64.wrap (v2 + 1))
def pCheck_L1 (l : List Aut) (N : Nat) : Nat → Int → Option (Int × Int)
  | 0, _ => none
  | fu1 + 1, v2 => bif decide (v2 < ((([(73 : FuncId), (74 : FuncId)] : List FuncId).map cFnc).length : Int)) then (Option.bind (ix ([(73 : FuncId), (74 : FuncId)] : List FuncId) v2) fun x4 => pCheck_L2 l v2 x4 (fun q_v2 => pCheck_L1 l N fu1 q_v2) N 0) else some ((-1), 0)
def pCheck_F (N : Nat) (l : List Aut) : Option (Int × Int) := bif decide (((l.map cAut).length : Int) > 64) then some ((-1), 8) else pCheck_L1 l N N 0
set_option linter.unusedVariables false in
theorem pCheck_Fh {N : Nat} {l : List Aut} {r : Int × Int} (hF : pCheck_F N l = some r) : Holds Tryz.prog Gw 55 [.sl 6 (l.map cAut)] (pCheck_E r) := by
  refine holds_of_wq tabOk mixed Tryz.func55 (by decide) rfl (Nat.le_of_ble_eq_true rfl) ?_
  refine And.intro (fun h1 => ?_) (fun h1 => ?_)
  · have hF := cpos h1 hF
    exact Or.inl ⟨rfl, congrArg (Option.map pCheck_E) hF⟩
  · have hF := cneg h1 hF
    refine Or.inl ?_
    refine loop_oq (fun p : Nat × Int => [(0, .c (.sl 6 (l.map cAut))), (11, .ap 11 0 1 (([(73 : FuncId), (74 : FuncId)] : List FuncId).map cFnc)), (12, .c (I ((([(73 : FuncId), (74 : FuncId)] : List FuncId).map cFnc).length : Int))), (13, .c (I p.2))]) (fun p : Nat × Int => [(11, .tok 52 1)]) (fun p => pCheck_L1 l N p.1 p.2 = some r) (fun p => p.1) (N, 0) hF ⟨rfl, rfl, rfl, rfl, trivial⟩ ⟨rfl, trivial⟩ ?_
    rintro ⟨fu1, v2⟩ hF
    cases fu1 with
    | zero => exact nomatch hF
    | succ fu1 =>
      refine join_no ?_
      refine And.intro (fun h3 => ?_) (fun h3 => ?_)
      · have hF := cpos h3 hF
        refine join_no ?_
        refine obind hF fun x4 h5 hF => ?_
        refine ⟨ix_nn h5, .inl rfl, _, ix_map cFnc h5, ?_⟩
        refine loop_oq (fun p : Nat × Int => [(0, .c (.sl 6 (l.map cAut))), (5, .c (.fn x4 [])), (11, .ap 11 0 1 (([(73 : FuncId), (74 : FuncId)] : List FuncId).map cFnc)), (12, .c (I ((([(73 : FuncId), (74 : FuncId)] : List FuncId).map cFnc).length : Int))), (13, .c (I v2)), (18, .c (I ((l.map cAut).length : Int))), (19, .c (I p.2))]) (fun p : Nat × Int => [(11, .tok 52 1)]) (fun p => pCheck_L2 l v2 x4 (fun q_v2 => pCheck_L1 l N fu1 q_v2) p.1 p.2 = some r) (fun p => p.1) (N, 0) hF ⟨rfl, rfl, rfl, rfl, rfl, rfl, rfl, trivial⟩ ⟨rfl, trivial⟩ ?_
        rintro ⟨fu2, v6⟩ hF
        cases fu2 with
        | zero => exact nomatch hF
        | succ fu2 =>
          refine join_no ?_
          refine And.intro (fun h7 => ?_) (fun h7 => ?_)
          · have hF := cpos h7 hF
            refine join_no ?_
            refine obind hF fun y8 h9 hF => ?_
            refine Or.inl ⟨_, pdisp_h h9, rfl, ?_⟩
            refine And.intro (fun h10 => ?_) (fun h10 => ?_)
            · have hF := cpos h10 hF
              exact Or.inl ⟨rfl, congrArg (Option.map pCheck_E) hF⟩
            · have hF := cneg h10 hF
              exact ⟨(fu2, (IntKind.i64.wrap (v6 + 1))), Nat.lt_succ_self _, hF, ⟨rfl, rfl, rfl, rfl, rfl, rfl, rfl, trivial⟩, ⟨rfl, trivial⟩⟩
          · have hF := cneg h7 hF
            exact ⟨(fu1, (IntKind.i64.wrap (v2 + 1))), Nat.lt_succ_self _, hF, ⟨rfl, rfl, rfl, rfl, trivial⟩, ⟨rfl, trivial⟩⟩
      · have hF := cneg h3 hF
        exact Or.inl ⟨rfl, congrArg (Option.map pCheck_E) hF⟩
abbrev pCheck_S (l : List Aut) : Option (Int × Int) := pCheck_F (l.length + 3) l
theorem pCheck_h {l : List Aut} {r : Int × Int} (h : pCheck_S l = some r) : Holds Tryz.prog Gw 55 [.sl 6 (l.map cAut)] (pCheck_E r) := pCheck_Fh  h
abbrev cloneName_E (y : List Nam) : CV := .sl 3 (y.map cNam)
def cloneName_F (l : List Nam) : Option (List Nam) := bif decide (l.length ≤ 4294967296) then some (l) else none
set_option linter.unusedVariables false in
theorem cloneName_Fh {l : List Nam} {r : List Nam} (hF : cloneName_F l = some r) : Holds Tryz.prog Gw 88 [.sl 3 (l.map cNam)] (cloneName_E r) := by
  refine holds_of_wq tabOk mixed Tryz.func88 (by decide) rfl (Nat.le_of_ble_eq_true rfl) ?_
  refine Or.inl ?_
  refine gpos hF fun h1 hF => ?_
  refine Or.inl ⟨len_map (fun _ => rfl), one_le h1, ?_⟩
  refine ret_eq (p := fun r => resFin tab _ (cloneName_E r) _) hF ?_
  exact Or.inr ⟨rfl, _, rfl, rfl⟩
abbrev cloneName_O (y : List Nam) : CV := .wo (.ow 0) [(76, 3, y.map cNam, none)]
set_option linter.unusedVariables false in
theorem cloneName_Oh {l : List Nam} {r : List Nam} (hF : cloneName_F l = some r) : Holds Tryz.prog Gw 88 [.sl 3 (l.map cNam)] (cloneName_O r) := by
  refine holds_of_wq tabOk mixed Tryz.func88 (by decide) rfl (Nat.le_of_ble_eq_true rfl) ?_
  refine Or.inl ?_
  refine gpos hF fun h1 hF => ?_
  refine Or.inl ⟨len_map (fun _ => rfl), one_le h1, ?_⟩
  refine ret_eq (p := fun r => resFin tab _ (cloneName_O r) _) hF ?_
  exact Or.inr ⟨[(4, 1)], rfl, ⟨rfl, rfl⟩, rfl⟩
abbrev cloneName_S (l : List Nam) : Option (List Nam) := cloneName_F l
theorem cloneName_h {l : List Nam} {r : List Nam} (h : cloneName_S l = some r) : Holds Tryz.prog Gw 88 [.sl 3 (l.map cNam)] (cloneName_E r) := cloneName_Fh  h
abbrev cloneInt_E (y : List Int) : CV := .sl 1 (y.map cInt)
def cloneInt_F (l : List Int) : Option (List Int) := bif decide (l.length ≤ 4294967296) then some (l) else none
set_option linter.unusedVariables false in
theorem cloneInt_Fh {l : List Int} {r : List Int} (hF : cloneInt_F l = some r) : Holds Tryz.prog Gw 89 [.sl 1 (l.map cInt)] (cloneInt_E r) := by
  refine holds_of_wq tabOk mixed Tryz.func89 (by decide) rfl (Nat.le_of_ble_eq_true rfl) ?_
  refine Or.inl ?_
  refine gpos hF fun h1 hF => ?_
  refine Or.inl ⟨len_map (fun _ => rfl), one_le h1, ?_⟩
  refine ret_eq (p := fun r => resFin tab _ (cloneInt_E r) _) hF ?_
  exact Or.inr ⟨rfl, _, rfl, rfl⟩
abbrev cloneInt_O (y : List Int) : CV := .wo (.ow 0) [(3, 1, y.map cInt, none)]
set_option linter.unusedVariables false in
theorem cloneInt_Oh {l : List Int} {r : List Int} (hF : cloneInt_F l = some r) : Holds Tryz.prog Gw 89 [.sl 1 (l.map cInt)] (cloneInt_O r) := by
  refine holds_of_wq tabOk mixed Tryz.func89 (by decide) rfl (Nat.le_of_ble_eq_true rfl) ?_
  refine Or.inl ?_
  refine gpos hF fun h1 hF => ?_
  refine Or.inl ⟨len_map (fun _ => rfl), one_le h1, ?_⟩
  refine ret_eq (p := fun r => resFin tab _ (cloneInt_O r) _) hF ?_
  exact Or.inr ⟨[(4, 1)], rfl, ⟨rfl, rfl⟩, rfl⟩
abbrev cloneInt_S (l : List Int) : Option (List Int) := cloneInt_F l
theorem cloneInt_h {l : List Int} {r : List Int} (h : cloneInt_S l = some r) : Holds Tryz.prog Gw 89 [.sl 1 (l.map cInt)] (cloneInt_E r) := cloneInt_Fh  h
abbrev pown_E (y : Aut) : CV := .agg (cAut y)
def pown_F (a : Aut) : Option (Aut) := Option.bind (cloneName_S a.Names) fun y1 => Option.bind (cloneInt_S a.Next) fun y3 => some ((⟨a.ID, a.Kind, a.In, y1, y3⟩ : Aut))
set_option linter.unusedVariables false in
theorem pown_Fh {a : Aut} {r : Aut} (hF : pown_F a = some r) : Holds Tryz.prog Gw 65 [.agg (cAut a)] (pown_E r) := by
  refine holds_of_wq tabOk mixed Tryz.func65 (by decide) rfl (Nat.le_of_ble_eq_true rfl) ?_
  refine Or.inl ?_
  refine Or.inl ?_
  refine obind hF fun y1 h2 hF => ?_
  refine Or.inr (Or.inl ⟨_, _, cloneName_Oh h2, ?_⟩)
  refine obind hF fun y3 h4 hF => ?_
  refine Or.inr (Or.inl ⟨_, _, cloneInt_Oh h4, ?_⟩)
  refine Or.inl ?_
  refine Or.inl ?_
  refine Or.inl ?_
  refine And.intro (by kernel_rfl) ?_
  refine Or.inl ?_
  refine Or.inl ?_
  refine ret_eq (p := fun r => resFin tab _ (pown_E r) _) hF ?_
  exact Or.inr ⟨rfl, _, rfl, rfl⟩
abbrev pown_O (y : Aut) : CV := .wo (.agg [I y.ID, I y.Kind, I y.In.From, I y.In.Until, .ow 0, .ow 1]) [(76, 3, y.Names.map cNam, none), (3, 1, y.Next.map cInt, none)]
set_option linter.unusedVariables false in
theorem pown_Oh {a : Aut} {r : Aut} (hF : pown_F a = some r) : Holds Tryz.prog Gw 65 [.agg (cAut a)] (pown_O r) := by
  refine holds_of_wq tabOk mixed Tryz.func65 (by decide) rfl (Nat.le_of_ble_eq_true rfl) ?_
  refine Or.inl ?_
  refine Or.inl ?_
  refine obind hF fun y1 h2 hF => ?_
  refine Or.inr (Or.inl ⟨_, _, cloneName_Oh h2, ?_⟩)
  refine obind hF fun y3 h4 hF => ?_
  refine Or.inr (Or.inl ⟨_, _, cloneInt_Oh h4, ?_⟩)
  refine Or.inl ?_
  refine Or.inl ?_
  refine Or.inl ?_
  refine And.intro (by kernel_rfl) ?_
  refine Or.inl ?_
  refine Or.inl ?_
  refine ret_eq (p := fun r => resFin tab _ (pown_O r) _) hF ?_
  exact Or.inr ⟨[(5, 1), (8, 1)], rfl, ⟨rfl, ⟨rfl, rfl⟩⟩, ⟨rfl, _, rfl, rfl⟩⟩
abbrev pown_S (a : Aut) : Option (Aut) := pown_F a
theorem pown_h {a : Aut} {r : Aut} (h : pown_S a = some r) : Holds Tryz.prog Gw 65 [.agg (cAut a)] (pown_E r) := pown_Fh  h
abbrev pFind_E (y : Aut × Bool) : CV := .tup [.agg (cAut y.1), B y.2]
def pFind_F (l : List Aut) (id : Int) : Option (Aut × Bool) := Option.bind (pindex_S l id) fun y1 => bif decide (y1 < 0) then some ((⟨0, 0, (⟨0, 0⟩ : Span), ([] : List Nam), ([] : List Int)⟩ : Aut), false) else (Option.bind (ix l y1) fun x4 => Option.bind (pown_S x4) fun y6 => some (y6, true))
set_option linter.unusedVariables false in
theorem pFind_Fh {l : List Aut} {id : Int} {r : Aut × Bool} (hF : pFind_F l id = some r) : Holds Tryz.prog Gw 38 [.sl 6 (l.map cAut), I id] (pFind_E r) := by
  refine holds_of_wq tabOk mixed Tryz.func38 (by decide) rfl (Nat.le_of_ble_eq_true rfl) ?_
  refine Or.inl ?_
  refine obind hF fun y1 h2 hF => ?_
  refine Or.inl ⟨_, pindex_h h2, rfl, ?_⟩
  refine And.intro (fun h3 => ?_) (fun h3 => ?_)
  · have hF := cpos h3 hF
    refine Or.inl ?_
    exact Or.inl ⟨rfl, congrArg (Option.map pFind_E) hF⟩
  · have hF := cneg h3 hF
    refine obind hF fun x4 h5 hF => ?_
    refine ⟨ix_nn h5, .inl rfl, _, ix_map cAut h5, ?_⟩
    refine obind hF fun y6 h7 hF => ?_
    refine Or.inl ⟨_, pown_h h7, rfl, ?_⟩
    exact Or.inl ⟨rfl, congrArg (Option.map pFind_E) hF⟩
abbrev pFind_S (l : List Aut) (id : Int) : Option (Aut × Bool) := pFind_F l id
theorem pFind_h {l : List Aut} {id : Int} {r : Aut × Bool} (h : pFind_S l id = some r) : Holds Tryz.prog Gw 38 [.sl 6 (l.map cAut), I id] (pFind_E r) := pFind_Fh  h
abbrev cmpIsNaN_E (y : Bool) : CV := B y
def cmpIsNaN_F (x : Int) : Option (Bool) := some ((x != x))
set_option linter.unusedVariables false in
theorem cmpIsNaN_Fh {x : Int} {r : Bool} (hF : cmpIsNaN_F x = some r) : Holds Tryz.prog Gw 91 [I x] (cmpIsNaN_E r) := by
  refine holds_of_wq tabOk mixed Tryz.func91 (by decide) rfl (Nat.le_of_ble_eq_true rfl) ?_
  exact Or.inl ⟨rfl, congrArg (Option.map cmpIsNaN_E) hF⟩
abbrev cmpIsNaN_S (x : Int) : Option (Bool) := cmpIsNaN_F x
theorem cmpIsNaN_h {x : Int} {r : Bool} (h : cmpIsNaN_S x = some r) : Holds Tryz.prog Gw 91 [I x] (cmpIsNaN_E r) := cmpIsNaN_Fh  h
abbrev cmpCompare_E (y : Int) : CV := I y
def cmpCompare_F (x : Int) (y : Int) : Option (Int) := Option.bind (cmpIsNaN_S x) fun y1 => Option.bind (cmpIsNaN_S y) fun y3 => bif y1 then (bif y3 then some (0) else some ((-1))) else (bif y3 then some (1) else (bif decide (x < y) then some ((-1)) else (bif decide (x > y) then some (1) else some (0))))
set_option linter.unusedVariables false in
theorem cmpCompare_Fh {x : Int} {y : Int} {r : Int} (hF : cmpCompare_F x y = some r) : Holds Tryz.prog Gw 70 [I x, I y] (cmpCompare_E r) := by
  refine holds_of_wq tabOk mixed Tryz.func70 (by decide) rfl (Nat.le_of_ble_eq_true rfl) ?_
  refine obind hF fun y1 h2 hF => ?_
  refine Or.inl ⟨_, cmpIsNaN_h h2, rfl, ?_⟩
  refine obind hF fun y3 h4 hF => ?_
  refine Or.inl ⟨_, cmpIsNaN_h h4, rfl, ?_⟩
  refine And.intro (fun h5 => ?_) (fun h5 => ?_)
  · have hF := cpos h5 hF
    refine And.intro (fun h6 => ?_) (fun h6 => ?_)
    · have hF := cpos h6 hF
      exact Or.inl ⟨rfl, congrArg (Option.map cmpCompare_E) hF⟩
    · have hF := cneg h6 hF
      exact Or.inl ⟨rfl, congrArg (Option.map cmpCompare_E) hF⟩
  · have hF := cneg h5 hF
    refine And.intro (fun h7 => ?_) (fun h7 => ?_)
    · have hF := cpos h7 hF
      exact Or.inl ⟨rfl, congrArg (Option.map cmpCompare_E) hF⟩
    · have hF := cneg h7 hF
      refine And.intro (fun h8 => ?_) (fun h8 => ?_)
      · have hF := cpos h8 hF
        exact Or.inl ⟨rfl, congrArg (Option.map cmpCompare_E) hF⟩
      · have hF := cneg h8 hF
        refine And.intro (fun h9 => ?_) (fun h9 => ?_)
        · have hF := cpos h9 hF
          exact Or.inl ⟨rfl, congrArg (Option.map cmpCompare_E) hF⟩
        · have hF := cneg h9 hF
          exact Or.inl ⟨rfl, congrArg (Option.map cmpCompare_E) hF⟩
abbrev cmpCompare_S (x : Int) (y : Int) : Option (Int) := cmpCompare_F x y
theorem cmpCompare_h {x : Int} {y : Int} {r : Int} (h : cmpCompare_S x y = some r) : Holds Tryz.prog Gw 70 [I x, I y] (cmpCompare_E r) := cmpCompare_Fh  h
abbrev cmpLess_E (y : Bool) : CV := B y
def cmpLess_F (x : Int) (y : Int) : Option (Bool) := Option.bind (cmpIsNaN_S x) fun y1 => bif y1 then (Option.bind (cmpIsNaN_S y) fun y4 => bif (!y4) then some (true) else some (decide (x < y))) else some (decide (x < y))
set_option linter.unusedVariables false in
theorem cmpLess_Fh {x : Int} {y : Int} {r : Bool} (hF : cmpLess_F x y = some r) : Holds Tryz.prog Gw 81 [I x, I y] (cmpLess_E r) := by
  refine holds_of_wq tabOk mixed Tryz.func81 (by decide) rfl (Nat.le_of_ble_eq_true rfl) ?_
  refine obind hF fun y1 h2 hF => ?_
  refine Or.inl ⟨_, cmpIsNaN_h h2, rfl, ?_⟩
  refine And.intro (fun h3 => ?_) (fun h3 => ?_)
  · have hF := cpos h3 hF
    refine obind hF fun y4 h5 hF => ?_
    refine Or.inl ⟨_, cmpIsNaN_h h5, rfl, ?_⟩
    refine And.intro (fun h6 => ?_) (fun h6 => ?_)
    · have hF := cpos h6 hF
      exact Or.inl ⟨rfl, congrArg (Option.map cmpLess_E) hF⟩
    · have hF := cneg h6 hF
      exact Or.inl ⟨rfl, congrArg (Option.map cmpLess_E) hF⟩
  · have hF := cneg h3 hF
    exact Or.inl ⟨rfl, congrArg (Option.map cmpLess_E) hF⟩
abbrev cmpLess_S (x : Int) (y : Int) : Option (Bool) := cmpLess_F x y
theorem cmpLess_h {x : Int} {y : Int} {r : Bool} (h : cmpLess_S x y = some r) : Holds Tryz.prog Gw 81 [I x, I y] (cmpLess_E r) := cmpLess_Fh  h
abbrev slEqual_E (y : Bool) : CV := B y
def slEqual_L1 (s1 : List Int) (s2 : List Int) : Nat → Int → Option (Bool)
  | 0, _ => none
  | fu1 + 1, v2 => bif decide (v2 < ((s1.map cInt).length : Int)) then (Option.bind (ix s1 v2) fun x4 => Option.bind (ix s2 v2) fun x6 => bif (x4 != x6) then some (false) else slEqual_L1 s1 s2 fu1 (IntKind.i64.wrap (v2 + 1))) else some (true)
def slEqual_F (N : Nat) (s1 : List Int) (s2 : List Int) : Option (Bool) := bif (((s1.map cInt).length : Int) != ((s2.map cInt).length : Int)) then some (false) else slEqual_L1 s1 s2 N 0
set_option linter.unusedVariables false in
theorem slEqual_Fh {N : Nat} {s1 : List Int} {s2 : List Int} {r : Bool} (hF : slEqual_F N s1 s2 = some r) : Holds Tryz.prog Gw 15 [.sl 1 (s1.map cInt), .sl 1 (s2.map cInt)] (slEqual_E r) := by
  refine holds_of_wq tabOk mixed Tryz.func15 (by decide) rfl (Nat.le_of_ble_eq_true rfl) ?_
  refine And.intro (fun h1 => ?_) (fun h1 => ?_)
  · have hF := cpos h1 hF
    exact Or.inl ⟨rfl, congrArg (Option.map slEqual_E) hF⟩
  · have hF := cneg h1 hF
    refine loop_oq (fun p : Nat × Int => [(0, .c (.sl 1 (s1.map cInt))), (1, .c (.sl 1 (s2.map cInt))), (12, .c (I ((s1.map cInt).length : Int))), (13, .c (I p.2))]) (fun _ => []) (fun p => slEqual_L1 s1 s2 p.1 p.2 = some r) (fun p => p.1) (N, 0) hF ⟨rfl, rfl, rfl, rfl, trivial⟩ trivial ?_
    rintro ⟨fu1, v2⟩ hF
    cases fu1 with
    | zero => exact nomatch hF
    | succ fu1 =>
      refine join_no ?_
      refine And.intro (fun h3 => ?_) (fun h3 => ?_)
      · have hF := cpos h3 hF
        refine join_no ?_
        refine obind hF fun x4 h5 hF => ?_
        refine ⟨ix_nn h5, .inl rfl, _, ix_map cInt h5, ?_⟩
        refine obind hF fun x6 h7 hF => ?_
        refine ⟨ix_nn h7, .inl rfl, _, ix_map cInt h7, ?_⟩
        refine And.intro (by kernel_rfl) ?_
        refine And.intro (fun h8 => ?_) (fun h8 => ?_)
        · have hF := cpos h8 hF
          exact Or.inl ⟨rfl, congrArg (Option.map slEqual_E) hF⟩
        · have hF := cneg h8 hF
          exact ⟨(fu1, (IntKind.i64.wrap (v2 + 1))), Nat.lt_succ_self _, hF, ⟨rfl, rfl, rfl, rfl, trivial⟩, trivial⟩
      · have hF := cneg h3 hF
        exact Or.inl ⟨rfl, congrArg (Option.map slEqual_E) hF⟩
abbrev slEqual_S (s1 : List Int) (s2 : List Int) : Option (Bool) := slEqual_F (s1.length + 1) s1 s2
theorem slEqual_h {s1 : List Int} {s2 : List Int} {r : Bool} (h : slEqual_S s1 s2 = some r) : Holds Tryz.prog Gw 15 [.sl 1 (s1.map cInt), .sl 1 (s2.map cInt)] (slEqual_E r) := slEqual_Fh  h
abbrev slIndex_E (y : Int) : CV := I y
def slIndex_L1 (s : List Int) (v : Int) : Nat → Int → Option (Int)
  | 0, _ => none
  | fu1 + 1, v1 => bif decide (v1 < ((s.map cInt).length : Int)) then (Option.bind (ix s v1) fun x3 => bif (v == x3) then some (v1) else slIndex_L1 s v fu1 (IntKind.i64.wrap (v1 + 1))) else some ((-1))
def slIndex_F (N : Nat) (s : List Int) (v : Int) : Option (Int) := slIndex_L1 s v N 0
set_option linter.unusedVariables false in
theorem slIndex_Fh {N : Nat} {s : List Int} {v : Int} {r : Int} (hF : slIndex_F N s v = some r) : Holds Tryz.prog Gw 71 [.sl 1 (s.map cInt), I v] (slIndex_E r) := by
  refine holds_of_wq tabOk mixed Tryz.func71 (by decide) rfl (Nat.le_of_ble_eq_true rfl) ?_
  refine loop_oq (fun p : Nat × Int => [(0, .c (.sl 1 (s.map cInt))), (1, .c (I v)), (7, .c (I ((s.map cInt).length : Int))), (8, .c (I p.2))]) (fun _ => []) (fun p => slIndex_L1 s v p.1 p.2 = some r) (fun p => p.1) (N, 0) hF ⟨rfl, rfl, rfl, rfl, trivial⟩ trivial ?_
  rintro ⟨fu1, v1⟩ hF
  cases fu1 with
  | zero => exact nomatch hF
  | succ fu1 =>
    refine join_no ?_
    refine And.intro (fun h2 => ?_) (fun h2 => ?_)
    · have hF := cpos h2 hF
      refine join_no ?_
      refine obind hF fun x3 h4 hF => ?_
      refine ⟨ix_nn h4, .inl rfl, _, ix_map cInt h4, ?_⟩
      refine And.intro (fun h5 => ?_) (fun h5 => ?_)
      · have hF := cpos h5 hF
        exact Or.inl ⟨rfl, congrArg (Option.map slIndex_E) hF⟩
      · have hF := cneg h5 hF
        exact ⟨(fu1, (IntKind.i64.wrap (v1 + 1))), Nat.lt_succ_self _, hF, ⟨rfl, rfl, rfl, rfl, trivial⟩, trivial⟩
    · have hF := cneg h2 hF
      exact Or.inl ⟨rfl, congrArg (Option.map slIndex_E) hF⟩
abbrev slIndex_S (s : List Int) (v : Int) : Option (Int) := slIndex_F (s.length + 1) s v
theorem slIndex_h {s : List Int} {v : Int} {r : Int} (h : slIndex_S s v = some r) : Holds Tryz.prog Gw 71 [.sl 1 (s.map cInt), I v] (slIndex_E r) := slIndex_Fh  h
abbrev slContains_E (y : Bool) : CV := B y
def slContains_F (s : List Int) (v : Int) : Option (Bool) := Option.bind (slIndex_S s v) fun y1 => some (decide (y1 ≥ 0))
set_option linter.unusedVariables false in
theorem slContains_Fh {s : List Int} {v : Int} {r : Bool} (hF : slContains_F s v = some r) : Holds Tryz.prog Gw 48 [.sl 1 (s.map cInt), I v] (slContains_E r) := by
  refine holds_of_wq tabOk mixed Tryz.func48 (by decide) rfl (Nat.le_of_ble_eq_true rfl) ?_
  refine obind hF fun y1 h2 hF => ?_
  refine Or.inl ⟨_, slIndex_h h2, rfl, ?_⟩
  exact Or.inl ⟨rfl, congrArg (Option.map slContains_E) hF⟩
abbrev slContains_S (s : List Int) (v : Int) : Option (Bool) := slContains_F s v
theorem slContains_h {s : List Int} {v : Int} {r : Bool} (h : slContains_S s v = some r) : Holds Tryz.prog Gw 48 [.sl 1 (s.map cInt), I v] (slContains_E r) := slContains_Fh  h
abbrev lexample_1_E (y : Aut) : CV := .agg (cAut y)
def lexample_1_F (id : Int) (from_ : Int) (until_ : Int) (next : List Int) : Option (Aut) := some ((⟨id, 2, (⟨from_, until_⟩ : Span), ([(⟨([120] : Str), (⟨from_, until_⟩ : Span)⟩ : Nam)] : List Nam), next⟩ : Aut))
set_option linter.unusedVariables false in
theorem lexample_1_Fh {id : Int} {from_ : Int} {until_ : Int} {next : List Int} {r : Aut} (hF : lexample_1_F id from_ until_ next = some r) : Holds Tryz.prog Gw 54 [I id, I from_, I until_, .sl 1 (next.map cInt)] (lexample_1_E r) := by
  refine holds_of_wq tabOk mixed Tryz.func54 (by decide) rfl (Nat.le_of_ble_eq_true rfl) ?_
  refine Or.inl ?_
  refine Or.inl ?_
  refine Or.inl ?_
  refine Or.inl ?_
  refine Or.inl ?_
  refine Or.inl ?_
  exact Or.inl ⟨rfl, congrArg (Option.map lexample_1_E) hF⟩
abbrev lexample_1_S (id : Int) (from_ : Int) (until_ : Int) (next : List Int) : Option (Aut) := lexample_1_F id from_ until_ next
theorem lexample_1_h {id : Int} {from_ : Int} {until_ : Int} {next : List Int} {r : Aut} (h : lexample_1_S id from_ until_ next = some r) : Holds Tryz.prog Gw 54 [I id, I from_, I until_, .sl 1 (next.map cInt)] (lexample_1_E r) := lexample_1_Fh  h
abbrev lexample_E (y : List Aut) : CV := .sl 6 (y.map cAut)
def lexample_F : Option (List Aut) := Option.bind (lexample_1_S 1 0 100 ([3] : List Int)) fun y1 => Option.bind (lexample_1_S 2 50 100 ([3, 4] : List Int)) fun y3 => Option.bind (lexample_1_S 3 100 200 ([] : List Int)) fun y5 => Option.bind (lexample_1_S 4 100 150 ([] : List Int)) fun y7 => some (([y1, y3, y5, y7] : List Aut))
set_option linter.unusedVariables false in
theorem lexample_Fh {r : List Aut} (hF : lexample_F  = some r) : Holds Tryz.prog Gw 25 [] (lexample_E r) := by
  refine holds_of_wq tabOk mixed Tryz.func25 (by decide) rfl (Nat.le_of_ble_eq_true rfl) ?_
  refine Or.inl ?_
  refine Or.inl ?_
  refine obind hF fun y1 h2 hF => ?_
  refine Or.inl ⟨_, lexample_1_h h2, rfl, ?_⟩
  refine Or.inl ?_
  refine obind hF fun y3 h4 hF => ?_
  refine Or.inl ⟨_, lexample_1_h h4, rfl, ?_⟩
  refine obind hF fun y5 h6 hF => ?_
  refine Or.inl ⟨_, holds_nil (lexample_1_h h6) ⟨.inl rfl, .inl rfl, .inl rfl, .inr ⟨_, rfl, rfl⟩, trivial⟩, rfl, ?_⟩
  refine obind hF fun y7 h8 hF => ?_
  refine Or.inl ⟨_, holds_nil (lexample_1_h h8) ⟨.inl rfl, .inl rfl, .inl rfl, .inr ⟨_, rfl, rfl⟩, trivial⟩, rfl, ?_⟩
  refine Or.inl ?_
  exact Or.inl ⟨rfl, congrArg (Option.map lexample_E) hF⟩
abbrev lexample_S : Option (List Aut) := lexample_F 
theorem lexample_h {r : List Aut} (h : lexample_S = some r) : Holds Tryz.prog Gw 25 [] (lexample_E r) := lexample_Fh  h
abbrev rFewOf_E (y : Bool) : CV := B y
def rFewOf_L1 (a : Aut) : Nat → Int → Option (Bool)
  | 0, _ => none
  | fu1 + 1, i1 => bif decide (i1 < ((a.Names.map cNam).length : Int)) then (Option.bind (ix a.Names i1) fun x3 => bif decide ((x3.Text.length : Int) > 100) then some (false) else rFewOf_L1 a fu1 (IntKind.i64.wrap (i1 + 1))) else (bif decide (((a.Names.map cNam).length : Int) ≤ 17) then some (decide (((a.Next.map cInt).length : Int) ≤ 17)) else some (false))
def rFewOf_F (N : Nat) (a : Aut) : Option (Bool) := rFewOf_L1 a N 0
set_option linter.unusedVariables false in
theorem rFewOf_Fh {N : Nat} {a : Aut} {r : Bool} (hF : rFewOf_F N a = some r) : Holds Tryz.prog Gw 26 [.agg (cAut a)] (rFewOf_E r) := by
  refine holds_of_wq tabOk mixed Tryz.func26 (by decide) rfl (Nat.le_of_ble_eq_true rfl) ?_
  refine Or.inl ?_
  refine loop_oq (fun p : Nat × Int => [(1, .pm 1 0 0), (3, .c (I p.2))]) (fun p : Nat × Int => [(1, .var [I a.ID, I a.Kind, I a.In.From, I a.In.Until, .sl 3 (a.Names.map cNam), .sl 1 (a.Next.map cInt)])]) (fun p => rFewOf_L1 a p.1 p.2 = some r) (fun p => p.1) (N, 0) hF ⟨rfl, rfl, trivial⟩ ⟨rfl, trivial⟩ ?_
  rintro ⟨fu1, i1⟩ hF
  cases fu1 with
  | zero => exact nomatch hF
  | succ fu1 =>
    refine And.intro (fun h2 => ?_) (fun h2 => ?_)
    · have hF := cpos h2 hF
      refine join_no ?_
      refine obind hF fun x3 h4 hF => ?_
      refine ⟨ix_nn h4, .inl rfl, _, ix_map cNam h4, ?_⟩
      refine And.intro (fun h5 => ?_) (fun h5 => ?_)
      · have hF := cpos h5 hF
        exact Or.inl ⟨rfl, congrArg (Option.map rFewOf_E) hF⟩
      · have hF := cneg h5 hF
        exact ⟨(fu1, (IntKind.i64.wrap (i1 + 1))), Nat.lt_succ_self _, hF, ⟨rfl, rfl, trivial⟩, ⟨rfl, trivial⟩⟩
    · have hF := cneg h2 hF
      refine And.intro (fun h6 => ?_) (fun h6 => ?_)
      · have hF := cpos h6 hF
        exact Or.inl ⟨rfl, congrArg (Option.map rFewOf_E) hF⟩
      · have hF := cneg h6 hF
        exact Or.inl ⟨rfl, congrArg (Option.map rFewOf_E) hF⟩
abbrev rFewOf_S (a : Aut) : Option (Bool) := rFewOf_F (a.Names.length + 1) a
theorem rFewOf_h {a : Aut} {r : Bool} (h : rFewOf_S a = some r) : Holds Tryz.prog Gw 26 [.agg (cAut a)] (rFewOf_E r) := rFewOf_Fh  h
abbrev rFew_E (y : Bool) : CV := B y
def rFew_L1 (l : List Aut) : Nat → Int → Option (Bool)
  | 0, _ => none
  | fu1 + 1, i1 => bif decide (i1 < ((l.map cAut).length : Int)) then (Option.bind (ix l i1) fun x3 => Option.bind (rFewOf_S x3) fun y5 => bif (!y5) then some (false) else rFew_L1 l fu1 (IntKind.i64.wrap (i1 + 1))) else (bif decide (((l.map cAut).length : Int) ≤ 12) then some (true) else some ((((l.map cAut).length : Int) == 65)))
def rFew_F (N : Nat) (l : List Aut) : Option (Bool) := rFew_L1 l N 0
set_option linter.unusedVariables false in
theorem rFew_Fh {N : Nat} {l : List Aut} {r : Bool} (hF : rFew_F N l = some r) : Holds Tryz.prog Gw 7 [.sl 6 (l.map cAut)] (rFew_E r) := by
  refine holds_of_wq tabOk mixed Tryz.func7 (by decide) rfl (Nat.le_of_ble_eq_true rfl) ?_
  refine loop_oq (fun p : Nat × Int => [(0, .c (.sl 6 (l.map cAut))), (3, .c (I p.2))]) (fun _ => []) (fun p => rFew_L1 l p.1 p.2 = some r) (fun p => p.1) (N, 0) hF ⟨rfl, rfl, trivial⟩ trivial ?_
  rintro ⟨fu1, i1⟩ hF
  cases fu1 with
  | zero => exact nomatch hF
  | succ fu1 =>
    refine And.intro (fun h2 => ?_) (fun h2 => ?_)
    · have hF := cpos h2 hF
      refine join_no ?_
      refine obind hF fun x3 h4 hF => ?_
      refine ⟨ix_nn h4, .inl rfl, _, ix_map cAut h4, ?_⟩
      refine obind hF fun y5 h6 hF => ?_
      refine Or.inl ⟨_, rFewOf_h h6, rfl, ?_⟩
      refine And.intro (fun h7 => ?_) (fun h7 => ?_)
      · have hF := cpos h7 hF
        exact Or.inl ⟨rfl, congrArg (Option.map rFew_E) hF⟩
      · have hF := cneg h7 hF
        exact ⟨(fu1, (IntKind.i64.wrap (i1 + 1))), Nat.lt_succ_self _, hF, ⟨rfl, rfl, trivial⟩, trivial⟩
    · have hF := cneg h2 hF
      refine And.intro (fun h8 => ?_) (fun h8 => ?_)
      · have hF := cpos h8 hF
        exact Or.inl ⟨rfl, congrArg (Option.map rFew_E) hF⟩
      · have hF := cneg h8 hF
        exact Or.inl ⟨rfl, congrArg (Option.map rFew_E) hF⟩
abbrev rFew_S (l : List Aut) : Option (Bool) := rFew_F (l.length + 1) l
theorem rFew_h {l : List Aut} {r : Bool} (h : rFew_S l = some r) : Holds Tryz.prog Gw 7 [.sl 6 (l.map cAut)] (rFew_E r) := rFew_Fh  h
abbrev rCopy_E (y : List Aut) : CV := .sl 6 (y.map cAut)
def rCopy_L1 (l : List Aut) : Nat → List Aut → Int → Option (List Aut)
  | 0, _, _ => none
  | fu1 + 1, out1, i2 => bif decide (i2 < ((l.map cAut).length : Int)) then (Option.bind (ix l i2) fun x4 => bif decide (([] : List Nam).length + x4.Names.length ≤ 4294967296) then bif decide (([] : List Int).length + x4.Next.length ≤ 4294967296) then bif decide (out1.length + ([(⟨x4.ID, x4.Kind, x4.In, (([] : List Nam) ++ x4.Names), (([] : List Int) ++ x4.Next)⟩ : Aut)] : List Aut).length ≤ 4294967296) then rCopy_L1 l fu1 (out1 ++ ([(⟨x4.ID, x4.Kind, x4.In, (([] : List Nam) ++ x4.Names), (([] : List Int) ++ x4.Next)⟩ : Aut)] : List Aut)) (IntKind.i64.wrap (i2 + 1)) else none else none else none) else some (out1)
def rCopy_F (N : Nat) (l : List Aut) : Option (List Aut) := rCopy_L1 l N ([] : List Aut) 0
set_option linter.unusedVariables false in
theorem rCopy_Fh {N : Nat} {l : List Aut} {r : List Aut} (hF : rCopy_F N l = some r) : Holds Tryz.prog Gw 9 [.sl 6 (l.map cAut)] (rCopy_E r) := by
  refine holds_of_wq tabOk mixed Tryz.func9 (by decide) rfl (Nat.le_of_ble_eq_true rfl) ?_
  refine Or.inl ?_
  refine Or.inl ?_
  refine loop_oq (fun p : Nat × List Aut × Int => [(0, .c (.sl 6 (l.map cAut))), (3, .ap 3 0 6 (p.2.1.map cAut)), (4, .c (I p.2.2))]) (fun p : Nat × List Aut × Int => [(3, .tok 45 6)]) (fun p => rCopy_L1 l p.1 p.2.1 p.2.2 = some r) (fun p => p.1) (N, ([] : List Aut), 0) hF ⟨rfl, rfl, rfl, trivial⟩ ⟨rfl, trivial⟩ ?_
  rintro ⟨fu1, out1, i2⟩ hF
  cases fu1 with
  | zero => exact nomatch hF
  | succ fu1 =>
    refine And.intro (fun h3 => ?_) (fun h3 => ?_)
    · have hF := cpos h3 hF
      refine join_no ?_
      refine obind hF fun x4 h5 hF => ?_
      refine ⟨ix_nn h5, .inl rfl, _, ix_map cAut h5, ?_⟩
      refine Or.inl ?_
      refine Or.inl ?_
      refine gpos hF fun h8 hF => ?_
      refine Or.inl ⟨len_map (fun _ => rfl), app_le (f := cNam) h8, (([] : List Nam) ++ x4.Names).map cNam, map_app _ _ _, ?_⟩
      refine Or.inl ?_
      refine gpos hF fun h7 hF => ?_
      refine Or.inl ⟨len_map (fun _ => rfl), app_le (f := cInt) h7, (([] : List Int) ++ x4.Next).map cInt, map_app _ _ _, ?_⟩
      refine And.intro (by kernel_rfl) ?_
      refine Or.inl ?_
      refine gpos hF fun h6 hF => ?_
      refine Or.inl ⟨len_all rfl, app_le (f := cAut) h6, (out1 ++ ([(⟨x4.ID, x4.Kind, x4.In, (([] : List Nam) ++ x4.Names), (([] : List Int) ++ x4.Next)⟩ : Aut)] : List Aut)).map cAut, map_app _ _ _, ?_⟩
      exact ⟨(fu1, (out1 ++ ([(⟨x4.ID, x4.Kind, x4.In, (([] : List Nam) ++ x4.Names), (([] : List Int) ++ x4.Next)⟩ : Aut)] : List Aut)), (IntKind.i64.wrap (i2 + 1))), Nat.lt_succ_self _, hF, ⟨rfl, rfl, rfl, trivial⟩, ⟨rfl, trivial⟩⟩
    · have hF := cneg h3 hF
      exact Or.inl ⟨rfl, congrArg (Option.map rCopy_E) hF⟩
abbrev rCopy_S (l : List Aut) : Option (List Aut) := rCopy_F (l.length + 1) l
theorem rCopy_h {l : List Aut} {r : List Aut} (h : rCopy_S l = some r) : Holds Tryz.prog Gw 9 [.sl 6 (l.map cAut)] (rCopy_E r) := rCopy_Fh  h
end Go.Proofs.YtdoldlbcjcfmdaaGreat
