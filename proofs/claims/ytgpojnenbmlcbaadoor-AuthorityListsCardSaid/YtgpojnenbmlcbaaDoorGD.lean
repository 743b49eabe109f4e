/- Functions of the program as functions of Lean, each with its contract (printed by a program). -/
import Derived.Test.YtgpojnenbmlcbaaDoorGC
namespace Go.Proofs.YtgpojnenbmlcbaaDoor
open Go Go.Abs
set_option maxRecDepth 10000
set_option maxHeartbeats 400000
abbrev rFind_E (y : Aut × Bool) : CV := .tup [.agg (cAut y.1), B y.2]
def rFind_L1 (l : List Aut) (id : Int) : Nat → Int → Option (Aut × Bool)
  | 0, _ => none
  | fu1 + 1, i1 => bif decide (i1 < ((l.map cAut).length : Int)) then (Option.bind (ix l i1) fun x3 => bif (x3.ID == id) then (Option.bind (ix l i1) fun x6 => some (x6, true)) else rFind_L1 l id fu1 (IntKind.i64.wrap (i1 + 1))) else some ((⟨0, 0, (⟨0, 0⟩ : Span), ([] : List Nam), ([] : List Int)⟩ : Aut), false)
def rFind_F (N : Nat) (l : List Aut) (id : Int) : Option (Aut × Bool) := rFind_L1 l id N 0
set_option linter.unusedVariables false in
theorem rFind_Fh {N : Nat} {l : List Aut} {id : Int} {r : Aut × Bool} (hF : rFind_F N l id = some r) : Holds Tryd.prog Gw 17 [.sl 6 (l.map cAut), I id] (rFind_E r) := by
  refine holds_of_wq tabOk mixed Tryd.func17 (by decide) rfl (Nat.le_of_ble_eq_true rfl) ?_
  refine Or.inl ?_
  refine loop_oq (fun p : Nat × Int => [(0, .c (.sl 6 (l.map cAut))), (1, .c (I id)), (4, .pm 4 0 0), (6, .c (I p.2))]) (fun p : Nat × Int => [(4, .var [I 0, I 0, I 0, I 0, .sl 3 (([] : List Nam).map cNam), .sl 1 (([] : List Int).map cInt)])]) (fun p => rFind_L1 l id p.1 p.2 = some r) (fun p => p.1) (N, 0) hF ⟨rfl, rfl, rfl, rfl, trivial⟩ ⟨rfl, trivial⟩ ?_
  rintro ⟨fu1, i1⟩ hF
  cases fu1 with
  | zero => exact nomatch hF
  | succ fu1 =>
    refine And.intro (fun h2 => ?_) (fun h2 => ?_)
    · have hF := cpos h2 hF
      refine join_no ?_
      refine obind hF fun x3 h4 hF => ?_
      refine ⟨ix_nn h4, .inl rfl, _, ix_map cAut h4, ?_⟩
      refine And.intro (fun h5 => ?_) (fun h5 => ?_)
      · have hF := cpos h5 hF
        refine obind hF fun x6 h7 hF => ?_
        refine ⟨ix_nn h7, .inl rfl, _, ix_map cAut h7, ?_⟩
        exact Or.inl ⟨rfl, congrArg (Option.map rFind_E) hF⟩
      · have hF := cneg h5 hF
        exact ⟨(fu1, (IntKind.i64.wrap (i1 + 1))), Nat.lt_succ_self _, hF, ⟨rfl, rfl, rfl, rfl, trivial⟩, ⟨rfl, trivial⟩⟩
    · have hF := cneg h2 hF
      exact Or.inl ⟨rfl, congrArg (Option.map rFind_E) hF⟩
abbrev rFind_S (l : List Aut) (id : Int) : Option (Aut × Bool) := rFind_F (l.length + 1) l id
theorem rFind_h {l : List Aut} {id : Int} {r : Aut × Bool} (h : rFind_S l id = some r) : Holds Tryd.prog Gw 17 [.sl 6 (l.map cAut), I id] (rFind_E r) := rFind_Fh  h
abbrev rIsSpan_E (y : Bool) : CV := B y
def rIsSpan_F (s : Span) : Option (Bool) := bif decide (s.From ≥ 0) then (bif decide (s.From < s.Until) then some (decide (s.Until ≤ 1048576)) else some (false)) else some (false)
set_option linter.unusedVariables false in
theorem rIsSpan_Fh {s : Span} {r : Bool} (hF : rIsSpan_F s = some r) : Holds Tryd.prog Gw 70 [.agg (cSpan s)] (rIsSpan_E r) := by
  refine holds_of_wq tabOk mixed Tryd.func70 (by decide) rfl (Nat.le_of_ble_eq_true rfl) ?_
  refine Or.inl ?_
  refine And.intro (fun h1 => ?_) (fun h1 => ?_)
  · have hF := cpos h1 hF
    refine And.intro (fun h2 => ?_) (fun h2 => ?_)
    · have hF := cpos h2 hF
      exact Or.inl ⟨rfl, congrArg (Option.map rIsSpan_E) hF⟩
    · have hF := cneg h2 hF
      exact Or.inl ⟨rfl, congrArg (Option.map rIsSpan_E) hF⟩
  · have hF := cneg h1 hF
    exact Or.inl ⟨rfl, congrArg (Option.map rIsSpan_E) hF⟩
abbrev rIsSpan_S (s : Span) : Option (Bool) := rIsSpan_F s
theorem rIsSpan_h {s : Span} {r : Bool} (h : rIsSpan_S s = some r) : Holds Tryd.prog Gw 70 [.agg (cSpan s)] (rIsSpan_E r) := rIsSpan_Fh  h
abbrev rIsName_E (y : Bool) : CV := B y
def rIsName_L1 (s : Str) : Nat → Int → Option (Bool)
  | 0, _ => none
  | fu1 + 1, i9 => bif decide (i9 < (s.length : Int)) then (Option.bind (ix s i9) fun b11 => bif decide ((b11.toNat : Int) < 32) then some (false) else (Option.bind (ix s i9) fun b14 => bif decide ((b14.toNat : Int) > 126) then some (false) else (bif decide (i9 > 0) then (Option.bind (ix s i9) fun b18 => bif ((b18.toNat : Int) == 32) then (Option.bind (ix s (IntKind.i64.wrap (i9 - 1))) fun b21 => bif ((b21.toNat : Int) == 32) then some (false) else rIsName_L1 s fu1 (IntKind.i64.wrap (i9 + 1))) else rIsName_L1 s fu1 (IntKind.i64.wrap (i9 + 1))) else rIsName_L1 s fu1 (IntKind.i64.wrap (i9 + 1))))) else some (true)
def rIsName_F (N : Nat) (s : Str) : Option (Bool) := bif decide ((s.length : Int) < 1) then some (false) else (bif decide ((s.length : Int) > 64) then some (false) else (Option.bind (ix s 0) fun b3 => bif ((b3.toNat : Int) == 32) then some (false) else (Option.bind (ix s (IntKind.i64.wrap ((s.length : Int) - 1))) fun b6 => bif ((b6.toNat : Int) == 32) then some (false) else rIsName_L1 s N 0)))
set_option linter.unusedVariables false in
theorem rIsName_Fh {N : Nat} {s : Str} {r : Bool} (hF : rIsName_F N s = some r) : Holds Tryd.prog Gw 54 [S s] (rIsName_E r) := by
  refine holds_of_wq tabOk mixed Tryd.func54 (by decide) rfl (Nat.le_of_ble_eq_true rfl) ?_
  refine And.intro (fun h1 => ?_) (fun h1 => ?_)
  · have hF := cpos h1 hF
    exact Or.inl ⟨rfl, congrArg (Option.map rIsName_E) hF⟩
  · have hF := cneg h1 hF
    refine And.intro (fun h2 => ?_) (fun h2 => ?_)
    · have hF := cpos h2 hF
      exact Or.inl ⟨rfl, congrArg (Option.map rIsName_E) hF⟩
    · have hF := cneg h2 hF
      refine obind hF fun b3 h4 hF => ?_
      refine ⟨ix_nn h4, _, ix_str h4, ?_⟩
      refine And.intro (fun h5 => ?_) (fun h5 => ?_)
      · have hF := cpos h5 hF
        exact Or.inl ⟨rfl, congrArg (Option.map rIsName_E) hF⟩
      · have hF := cneg h5 hF
        refine obind hF fun b6 h7 hF => ?_
        refine ⟨ix_nn h7, _, ix_str h7, ?_⟩
        refine And.intro (fun h8 => ?_) (fun h8 => ?_)
        · have hF := cpos h8 hF
          exact Or.inl ⟨rfl, congrArg (Option.map rIsName_E) hF⟩
        · have hF := cneg h8 hF
          refine loop_oq (fun p : Nat × Int => [(0, .c (S s)), (3, .c (I p.2))]) (fun _ => []) (fun p => rIsName_L1 s p.1 p.2 = some r) (fun p => p.1) (N, 0) hF ⟨rfl, rfl, trivial⟩ trivial ?_
          rintro ⟨fu1, i9⟩ hF
          cases fu1 with
          | zero => exact nomatch hF
          | succ fu1 =>
            refine And.intro (fun h10 => ?_) (fun h10 => ?_)
            · have hF := cpos h10 hF
              refine join_no ?_
              refine obind hF fun b11 h12 hF => ?_
              refine ⟨ix_nn h12, _, ix_str h12, ?_⟩
              refine And.intro (fun h13 => ?_) (fun h13 => ?_)
              · have hF := cpos h13 hF
                exact Or.inl ⟨rfl, congrArg (Option.map rIsName_E) hF⟩
              · have hF := cneg h13 hF
                refine obind hF fun b14 h15 hF => ?_
                refine ⟨ix_nn h15, _, ix_str h15, ?_⟩
                refine And.intro (fun h16 => ?_) (fun h16 => ?_)
                · have hF := cpos h16 hF
                  exact Or.inl ⟨rfl, congrArg (Option.map rIsName_E) hF⟩
                · have hF := cneg h16 hF
                  refine And.intro (fun h17 => ?_) (fun h17 => ?_)
                  · have hF := cpos h17 hF
                    refine obind hF fun b18 h19 hF => ?_
                    refine ⟨ix_nn h19, _, ix_str h19, ?_⟩
                    refine And.intro (fun h20 => ?_) (fun h20 => ?_)
                    · have hF := cpos h20 hF
                      refine obind hF fun b21 h22 hF => ?_
                      refine ⟨ix_nn h22, _, ix_str h22, ?_⟩
                      refine And.intro (fun h23 => ?_) (fun h23 => ?_)
                      · have hF := cpos h23 hF
                        exact Or.inl ⟨rfl, congrArg (Option.map rIsName_E) hF⟩
                      · have hF := cneg h23 hF
                        exact ⟨(fu1, (IntKind.i64.wrap (i9 + 1))), Nat.lt_succ_self _, hF, ⟨rfl, rfl, trivial⟩, trivial⟩
                    · have hF := cneg h20 hF
                      exact ⟨(fu1, (IntKind.i64.wrap (i9 + 1))), Nat.lt_succ_self _, hF, ⟨rfl, rfl, trivial⟩, trivial⟩
                  · have hF := cneg h17 hF
                    exact ⟨(fu1, (IntKind.i64.wrap (i9 + 1))), Nat.lt_succ_self _, hF, ⟨rfl, rfl, trivial⟩, trivial⟩
            · have hF := cneg h10 hF
              exact Or.inl ⟨rfl, congrArg (Option.map rIsName_E) hF⟩
abbrev rIsName_S (s : Str) : Option (Bool) := rIsName_F (s.length + 1) s
theorem rIsName_h {s : Str} {r : Bool} (h : rIsName_S s = some r) : Holds Tryd.prog Gw 54 [S s] (rIsName_E r) := rIsName_Fh  h
abbrev rnames_E (y : Int) : CV := I y
def rnames_L1 (a : Aut) : Nat → Int → Option (Int)
  | 0, _ => none
  | fu1 + 1, i3 => bif decide (i3 < ((a.Names.map cNam).length : Int)) then (Option.bind (ix a.Names i3) fun x5 => Option.bind (rIsName_S x5.Text) fun y7 => bif (!y7) then some (4) else (Option.bind (rIsSpan_S x5.In) fun y10 => bif (!y10) then some (2) else (bif decide (x5.In.From < a.In.From) then some (10) else (bif decide (x5.In.Until > a.In.Until) then some (10) else (bif decide (i3 > 0) then (Option.bind (ix a.Names (IntKind.i64.wrap (i3 - 1))) fun x16 => bif decide (x5.In.From < x16.In.Until) then some (5) else rnames_L1 a fu1 (IntKind.i64.wrap (i3 + 1))) else rnames_L1 a fu1 (IntKind.i64.wrap (i3 + 1))))))) else some (0)
def rnames_F (N : Nat) (a : Aut) : Option (Int) := bif (((a.Names.map cNam).length : Int) == 0) then some (9) else (bif decide (((a.Names.map cNam).length : Int) > 16) then some (8) else rnames_L1 a N 0)
set_option linter.unusedVariables false in
theorem rnames_Fh {N : Nat} {a : Aut} {r : Int} (hF : rnames_F N a = some r) : Holds Tryd.prog Gw 71 [.agg (cAut a)] (rnames_E r) := by
  refine holds_of_wq tabOk mixed Tryd.func71 (by decide) rfl (Nat.le_of_ble_eq_true rfl) ?_
  refine Or.inl ?_
  refine And.intro (fun h1 => ?_) (fun h1 => ?_)
  · have hF := cpos h1 hF
    exact Or.inl ⟨rfl, congrArg (Option.map rnames_E) hF⟩
  · have hF := cneg h1 hF
    refine And.intro (fun h2 => ?_) (fun h2 => ?_)
    · have hF := cpos h2 hF
      exact Or.inl ⟨rfl, congrArg (Option.map rnames_E) hF⟩
    · have hF := cneg h2 hF
      refine loop_oq (fun p : Nat × Int => [(1, .pm 1 0 0), (3, .c (I p.2))]) (fun p : Nat × Int => [(1, .var [I a.ID, I a.Kind, I a.In.From, I a.In.Until, .sl 3 (a.Names.map cNam), .sl 1 (a.Next.map cInt)])]) (fun p => rnames_L1 a p.1 p.2 = some r) (fun p => p.1) (N, 0) hF ⟨rfl, rfl, trivial⟩ ⟨rfl, trivial⟩ ?_
      rintro ⟨fu1, i3⟩ hF
      cases fu1 with
      | zero => exact nomatch hF
      | succ fu1 =>
        refine And.intro (fun h4 => ?_) (fun h4 => ?_)
        · have hF := cpos h4 hF
          refine join_no ?_
          refine obind hF fun x5 h6 hF => ?_
          refine ⟨ix_nn h6, .inl rfl, _, ix_map cNam h6, ?_⟩
          refine Or.inl ?_
          refine obind hF fun y7 h8 hF => ?_
          refine Or.inl ⟨_, rIsName_h h8, rfl, ?_⟩
          refine And.intro (fun h9 => ?_) (fun h9 => ?_)
          · have hF := cpos h9 hF
            exact Or.inl ⟨rfl, congrArg (Option.map rnames_E) hF⟩
          · have hF := cneg h9 hF
            refine obind hF fun y10 h11 hF => ?_
            refine Or.inl ⟨_, rIsSpan_h h11, rfl, ?_⟩
            refine And.intro (fun h12 => ?_) (fun h12 => ?_)
            · have hF := cpos h12 hF
              exact Or.inl ⟨rfl, congrArg (Option.map rnames_E) hF⟩
            · have hF := cneg h12 hF
              refine And.intro (fun h13 => ?_) (fun h13 => ?_)
              · have hF := cpos h13 hF
                exact Or.inl ⟨rfl, congrArg (Option.map rnames_E) hF⟩
              · have hF := cneg h13 hF
                refine And.intro (fun h14 => ?_) (fun h14 => ?_)
                · have hF := cpos h14 hF
                  exact Or.inl ⟨rfl, congrArg (Option.map rnames_E) hF⟩
                · have hF := cneg h14 hF
                  refine And.intro (fun h15 => ?_) (fun h15 => ?_)
                  · have hF := cpos h15 hF
                    refine obind hF fun x16 h17 hF => ?_
                    refine ⟨ix_nn h17, .inl rfl, _, ix_map cNam h17, ?_⟩
                    refine And.intro (by kernel_rfl) ?_
                    refine And.intro (fun h18 => ?_) (fun h18 => ?_)
                    · have hF := cpos h18 hF
                      exact Or.inl ⟨rfl, congrArg (Option.map rnames_E) hF⟩
                    · have hF := cneg h18 hF
                      exact ⟨(fu1, (IntKind.i64.wrap (i3 + 1))), Nat.lt_succ_self _, hF, ⟨rfl, rfl, trivial⟩, ⟨rfl, trivial⟩⟩
                  · have hF := cneg h15 hF
                    refine And.intro (by kernel_rfl) ?_
                    exact ⟨(fu1, (IntKind.i64.wrap (i3 + 1))), Nat.lt_succ_self _, hF, ⟨rfl, rfl, trivial⟩, ⟨rfl, trivial⟩⟩
        · have hF := cneg h4 hF
          exact Or.inl ⟨rfl, congrArg (Option.map rnames_E) hF⟩
abbrev rnames_S (a : Aut) : Option (Int) := rnames_F (a.Names.length + 1) a
theorem rnames_h {a : Aut} {r : Int} (h : rnames_S a = some r) : Holds Tryd.prog Gw 71 [.agg (cAut a)] (rnames_E r) := rnames_Fh  h
abbrev rown_E (y : Int) : CV := I y
def rown_L1 (x1 : Aut) : Nat → Int → Option (Int)
  | 0, _ => none
  | fu1 + 1, k18 => bif decide (k18 < ((x1.Next.map cInt).length : Int)) then (Option.bind (ix x1.Next k18) fun x20 => Option.bind (ix x1.Next (IntKind.i64.wrap (k18 - 1))) fun x22 => bif decide (x20 ≤ x22) then some (5) else rown_L1 x1 fu1 (IntKind.i64.wrap (k18 + 1))) else some (0)
def rown_L2 (x1 : Aut) : Nat → Int → Option (Int)
  | 0, _ => none
  | fu2 + 1, k29 => bif decide (k29 < ((x1.Next.map cInt).length : Int)) then (Option.bind (ix x1.Next k29) fun x31 => Option.bind (ix x1.Next (IntKind.i64.wrap (k29 - 1))) fun x33 => bif decide (x31 ≤ x33) then some (5) else rown_L2 x1 fu2 (IntKind.i64.wrap (k29 + 1))) else some (0)
def rown_F (N : Nat) (l : List Aut) (i : Int) : Option (Int) := Option.bind (ix l i) fun x1 => bif decide (x1.ID < 1) then some (2) else (bif decide (x1.ID > 1073741824) then some (2) else (bif decide (x1.Kind < 1) then some (2) else (bif decide (x1.Kind > 3) then some (2) else (Option.bind (rIsSpan_S x1.In) fun y7 => bif (!y7) then some (2) else (bif decide (i > 0) then (Option.bind (ix l (IntKind.i64.wrap (i - 1))) fun x11 => bif decide (x1.ID ≤ x11.ID) then some (5) else (Option.bind (rnames_S x1) fun y14 => bif (y14 != 0) then some (y14) else (bif decide (((x1.Next.map cInt).length : Int) > 16) then some (8) else rown_L1 x1 N 1))) else (Option.bind (rnames_S x1) fun y25 => bif (y25 != 0) then some (y25) else (bif decide (((x1.Next.map cInt).length : Int) > 16) then some (8) else rown_L2 x1 N 1)))))))
set_option linter.unusedVariables false in
theorem rown_Fh {N : Nat} {l : List Aut} {i : Int} {r : Int} (hF : rown_F N l i = some r) : Holds Tryd.prog Gw 39 [.sl 6 (l.map cAut), I i] (rown_E r) := by
  refine holds_of_wq tabOk mixed Tryd.func39 (by decide) rfl (Nat.le_of_ble_eq_true rfl) ?_
  refine obind hF fun x1 h2 hF => ?_
  refine ⟨ix_nn h2, .inl rfl, _, ix_map cAut h2, ?_⟩
  refine Or.inl ?_
  refine And.intro (fun h3 => ?_) (fun h3 => ?_)
  · have hF := cpos h3 hF
    exact Or.inl ⟨rfl, congrArg (Option.map rown_E) hF⟩
  · have hF := cneg h3 hF
    refine And.intro (fun h4 => ?_) (fun h4 => ?_)
    · have hF := cpos h4 hF
      exact Or.inl ⟨rfl, congrArg (Option.map rown_E) hF⟩
    · have hF := cneg h4 hF
      refine And.intro (fun h5 => ?_) (fun h5 => ?_)
      · have hF := cpos h5 hF
        exact Or.inl ⟨rfl, congrArg (Option.map rown_E) hF⟩
      · have hF := cneg h5 hF
        refine And.intro (fun h6 => ?_) (fun h6 => ?_)
        · have hF := cpos h6 hF
          exact Or.inl ⟨rfl, congrArg (Option.map rown_E) hF⟩
        · have hF := cneg h6 hF
          refine obind hF fun y7 h8 hF => ?_
          refine Or.inl ⟨_, rIsSpan_h h8, rfl, ?_⟩
          refine And.intro (fun h9 => ?_) (fun h9 => ?_)
          · have hF := cpos h9 hF
            exact Or.inl ⟨rfl, congrArg (Option.map rown_E) hF⟩
          · have hF := cneg h9 hF
            refine And.intro (fun h10 => ?_) (fun h10 => ?_)
            · have hF := cpos h10 hF
              refine obind hF fun x11 h12 hF => ?_
              refine ⟨ix_nn h12, .inl rfl, _, ix_map cAut h12, ?_⟩
              refine And.intro (by kernel_rfl) ?_
              refine And.intro (fun h13 => ?_) (fun h13 => ?_)
              · have hF := cpos h13 hF
                exact Or.inl ⟨rfl, congrArg (Option.map rown_E) hF⟩
              · have hF := cneg h13 hF
                refine obind hF fun y14 h15 hF => ?_
                refine Or.inl ⟨_, rnames_h h15, rfl, ?_⟩
                refine And.intro (fun h16 => ?_) (fun h16 => ?_)
                · have hF := cpos h16 hF
                  exact Or.inl ⟨rfl, congrArg (Option.map rown_E) hF⟩
                · have hF := cneg h16 hF
                  refine And.intro (fun h17 => ?_) (fun h17 => ?_)
                  · have hF := cpos h17 hF
                    exact Or.inl ⟨rfl, congrArg (Option.map rown_E) hF⟩
                  · have hF := cneg h17 hF
                    refine loop_oq (fun p : Nat × Int => [(5, .pm 5 0 0), (7, .c (I p.2))]) (fun p : Nat × Int => [(5, .var [I x1.ID, I x1.Kind, I x1.In.From, I x1.In.Until, .sl 3 (x1.Names.map cNam), .sl 1 (x1.Next.map cInt)])]) (fun p => rown_L1 x1 p.1 p.2 = some r) (fun p => p.1) (N, 1) hF ⟨rfl, rfl, trivial⟩ ⟨rfl, trivial⟩ ?_
                    rintro ⟨fu1, k18⟩ hF
                    cases fu1 with
                    | zero => exact nomatch hF
                    | succ fu1 =>
                      refine And.intro (fun h19 => ?_) (fun h19 => ?_)
                      · have hF := cpos h19 hF
                        refine join_no ?_
                        refine obind hF fun x20 h21 hF => ?_
                        refine ⟨ix_nn h21, .inl rfl, _, ix_map cInt h21, ?_⟩
                        refine obind hF fun x22 h23 hF => ?_
                        refine ⟨ix_nn h23, .inl rfl, _, ix_map cInt h23, ?_⟩
                        refine And.intro (by kernel_rfl) ?_
                        refine And.intro (fun h24 => ?_) (fun h24 => ?_)
                        · have hF := cpos h24 hF
                          exact Or.inl ⟨rfl, congrArg (Option.map rown_E) hF⟩
                        · have hF := cneg h24 hF
                          exact ⟨(fu1, (IntKind.i64.wrap (k18 + 1))), Nat.lt_succ_self _, hF, ⟨rfl, rfl, trivial⟩, ⟨rfl, trivial⟩⟩
                      · have hF := cneg h19 hF
                        exact Or.inl ⟨rfl, congrArg (Option.map rown_E) hF⟩
            · have hF := cneg h10 hF
              refine And.intro (by kernel_rfl) ?_
              refine obind hF fun y25 h26 hF => ?_
              refine Or.inl ⟨_, rnames_h h26, rfl, ?_⟩
              refine And.intro (fun h27 => ?_) (fun h27 => ?_)
              · have hF := cpos h27 hF
                exact Or.inl ⟨rfl, congrArg (Option.map rown_E) hF⟩
              · have hF := cneg h27 hF
                refine And.intro (fun h28 => ?_) (fun h28 => ?_)
                · have hF := cpos h28 hF
                  exact Or.inl ⟨rfl, congrArg (Option.map rown_E) hF⟩
                · have hF := cneg h28 hF
                  refine loop_oq (fun p : Nat × Int => [(5, .pm 5 0 0), (7, .c (I p.2))]) (fun p : Nat × Int => [(5, .var [I x1.ID, I x1.Kind, I x1.In.From, I x1.In.Until, .sl 3 (x1.Names.map cNam), .sl 1 (x1.Next.map cInt)])]) (fun p => rown_L2 x1 p.1 p.2 = some r) (fun p => p.1) (N, 1) hF ⟨rfl, rfl, trivial⟩ ⟨rfl, trivial⟩ ?_
                  rintro ⟨fu2, k29⟩ hF
                  cases fu2 with
                  | zero => exact nomatch hF
                  | succ fu2 =>
                    refine And.intro (fun h30 => ?_) (fun h30 => ?_)
                    · have hF := cpos h30 hF
                      refine join_no ?_
                      refine obind hF fun x31 h32 hF => ?_
                      refine ⟨ix_nn h32, .inl rfl, _, ix_map cInt h32, ?_⟩
                      refine obind hF fun x33 h34 hF => ?_
                      refine ⟨ix_nn h34, .inl rfl, _, ix_map cInt h34, ?_⟩
                      refine And.intro (by kernel_rfl) ?_
                      refine And.intro (fun h35 => ?_) (fun h35 => ?_)
                      · have hF := cpos h35 hF
                        exact Or.inl ⟨rfl, congrArg (Option.map rown_E) hF⟩
                      · have hF := cneg h35 hF
                        exact ⟨(fu2, (IntKind.i64.wrap (k29 + 1))), Nat.lt_succ_self _, hF, ⟨rfl, rfl, trivial⟩, ⟨rfl, trivial⟩⟩
                    · have hF := cneg h30 hF
                      exact Or.inl ⟨rfl, congrArg (Option.map rown_E) hF⟩
abbrev rown_S (l : List Aut) (i : Int) : Option (Int) := rown_F 100 l i
theorem rown_h {l : List Aut} {i : Int} {r : Int} (h : rown_S l i = some r) : Holds Tryd.prog Gw 39 [.sl 6 (l.map cAut), I i] (rown_E r) := rown_Fh  h
abbrev rnext_E (y : Int) : CV := I y
def rnext_L3 (l : List Aut) (a : Aut) : Nat → Int → Option (Int)
  | 0, _ => none
  | fu3 + 1, i15 => bif decide (i15 < ((a.Next.map cInt).length : Int)) then (Option.bind (ix a.Next i15) fun x17 => Option.bind (rFind_S l x17) fun y19 => bif (y19.1.In.From != a.In.Until) then some (16) else rnext_L3 l a fu3 (IntKind.i64.wrap (i15 + 1))) else some (0)
def rnext_L2 (l : List Aut) (a : Aut) (N : Nat) : Nat → Int → Option (Int)
  | 0, _ => none
  | fu2 + 1, i8 => bif decide (i8 < ((a.Next.map cInt).length : Int)) then (Option.bind (ix a.Next i8) fun x10 => Option.bind (rFind_S l x10) fun y12 => bif (y12.1.Kind != a.Kind) then some (10) else rnext_L2 l a N fu2 (IntKind.i64.wrap (i8 + 1))) else rnext_L3 l a N 0
def rnext_L1 (l : List Aut) (a : Aut) (N : Nat) : Nat → Int → Option (Int)
  | 0, _ => none
  | fu1 + 1, i1 => bif decide (i1 < ((a.Next.map cInt).length : Int)) then (Option.bind (ix a.Next i1) fun x3 => Option.bind (rFind_S l x3) fun y5 => bif (!y5.2) then some (7) else rnext_L1 l a N fu1 (IntKind.i64.wrap (i1 + 1))) else rnext_L2 l a N N 0
def rnext_F (N : Nat) (l : List Aut) (a : Aut) : Option (Int) := rnext_L1 l a N N 0
set_option linter.unusedVariables false in
theorem rnext_Fh {N : Nat} {l : List Aut} {a : Aut} {r : Int} (hF : rnext_F N l a = some r) : Holds Tryd.prog Gw 40 [.sl 6 (l.map cAut), .agg (cAut a)] (rnext_E r) := by
  refine holds_of_wq tabOk mixed Tryd.func40 (by decide) rfl (Nat.le_of_ble_eq_true rfl) ?_
  refine Or.inl ?_
  refine loop_oq (fun p : Nat × Int => [(0, .c (.sl 6 (l.map cAut))), (3, .pm 3 0 0), (5, .c (I p.2))]) (fun p : Nat × Int => [(3, .var [I a.ID, I a.Kind, I a.In.From, I a.In.Until, .sl 3 (a.Names.map cNam), .sl 1 (a.Next.map cInt)])]) (fun p => rnext_L1 l a N p.1 p.2 = some r) (fun p => p.1) (N, 0) hF ⟨rfl, rfl, rfl, trivial⟩ ⟨rfl, trivial⟩ ?_
  rintro ⟨fu1, i1⟩ hF
  cases fu1 with
  | zero => exact nomatch hF
  | succ fu1 =>
    refine And.intro (fun h2 => ?_) (fun h2 => ?_)
    · have hF := cpos h2 hF
      refine join_no ?_
      refine obind hF fun x3 h4 hF => ?_
      refine ⟨ix_nn h4, .inl rfl, _, ix_map cInt h4, ?_⟩
      refine obind hF fun y5 h6 hF => ?_
      refine Or.inl ⟨_, rFind_h h6, rfl, ?_⟩
      refine Or.inl ?_
      refine And.intro (fun h7 => ?_) (fun h7 => ?_)
      · have hF := cpos h7 hF
        exact Or.inl ⟨rfl, congrArg (Option.map rnext_E) hF⟩
      · have hF := cneg h7 hF
        exact ⟨(fu1, (IntKind.i64.wrap (i1 + 1))), Nat.lt_succ_self _, hF, ⟨rfl, rfl, rfl, trivial⟩, ⟨rfl, trivial⟩⟩
    · have hF := cneg h2 hF
      refine loop_oq (fun p : Nat × Int => [(0, .c (.sl 6 (l.map cAut))), (3, .pm 3 0 0), (8, .c (I p.2))]) (fun p : Nat × Int => [(3, .var [I a.ID, I a.Kind, I a.In.From, I a.In.Until, .sl 3 (a.Names.map cNam), .sl 1 (a.Next.map cInt)])]) (fun p => rnext_L2 l a N p.1 p.2 = some r) (fun p => p.1) (N, 0) hF ⟨rfl, rfl, rfl, trivial⟩ ⟨rfl, trivial⟩ ?_
      rintro ⟨fu2, i8⟩ hF
      cases fu2 with
      | zero => exact nomatch hF
      | succ fu2 =>
        refine And.intro (fun h9 => ?_) (fun h9 => ?_)
        · have hF := cpos h9 hF
          refine join_no ?_
          refine obind hF fun x10 h11 hF => ?_
          refine ⟨ix_nn h11, .inl rfl, _, ix_map cInt h11, ?_⟩
          refine obind hF fun y12 h13 hF => ?_
          refine Or.inl ⟨_, rFind_h h13, rfl, ?_⟩
          refine Or.inl ?_
          refine And.intro (fun h14 => ?_) (fun h14 => ?_)
          · have hF := cpos h14 hF
            exact Or.inl ⟨rfl, congrArg (Option.map rnext_E) hF⟩
          · have hF := cneg h14 hF
            exact ⟨(fu2, (IntKind.i64.wrap (i8 + 1))), Nat.lt_succ_self _, hF, ⟨rfl, rfl, rfl, trivial⟩, ⟨rfl, trivial⟩⟩
        · have hF := cneg h9 hF
          refine loop_oq (fun p : Nat × Int => [(0, .c (.sl 6 (l.map cAut))), (3, .pm 3 0 0), (11, .c (I p.2))]) (fun p : Nat × Int => [(3, .var [I a.ID, I a.Kind, I a.In.From, I a.In.Until, .sl 3 (a.Names.map cNam), .sl 1 (a.Next.map cInt)])]) (fun p => rnext_L3 l a p.1 p.2 = some r) (fun p => p.1) (N, 0) hF ⟨rfl, rfl, rfl, trivial⟩ ⟨rfl, trivial⟩ ?_
          rintro ⟨fu3, i15⟩ hF
          cases fu3 with
          | zero => exact nomatch hF
          | succ fu3 =>
            refine And.intro (fun h16 => ?_) (fun h16 => ?_)
            · have hF := cpos h16 hF
              refine join_no ?_
              refine obind hF fun x17 h18 hF => ?_
              refine ⟨ix_nn h18, .inl rfl, _, ix_map cInt h18, ?_⟩
              refine obind hF fun y19 h20 hF => ?_
              refine Or.inl ⟨_, rFind_h h20, rfl, ?_⟩
              refine Or.inl ?_
              refine And.intro (fun h21 => ?_) (fun h21 => ?_)
              · have hF := cpos h21 hF
                exact Or.inl ⟨rfl, congrArg (Option.map rnext_E) hF⟩
              · have hF := cneg h21 hF
                exact ⟨(fu3, (IntKind.i64.wrap (i15 + 1))), Nat.lt_succ_self _, hF, ⟨rfl, rfl, rfl, trivial⟩, ⟨rfl, trivial⟩⟩
            · have hF := cneg h16 hF
              exact Or.inl ⟨rfl, congrArg (Option.map rnext_E) hF⟩
abbrev rnext_S (l : List Aut) (a : Aut) : Option (Int) := rnext_F (a.Next.length + 1) l a
theorem rnext_h {l : List Aut} {a : Aut} {r : Int} (h : rnext_S l a = some r) : Holds Tryd.prog Gw 40 [.sl 6 (l.map cAut), .agg (cAut a)] (rnext_E r) := rnext_Fh  h
abbrev rCheck_E (y : Int × Int) : CV := .tup [I y.1, I y.2]
def rCheck_L2 (l : List Aut) : Nat → Int → Option (Int × Int)
  | 0, _ => none
  | fu2 + 1, i7 => bif decide (i7 < ((l.map cAut).length : Int)) then (Option.bind (ix l i7) fun x9 => Option.bind (rnext_S l x9) fun y11 => bif (y11 != 0) then some (i7, y11) else rCheck_L2 l fu2 (IntKind.i64.wrap (i7 + 1))) else some ((-1), 0)
def rCheck_L1 (l : List Aut) (N : Nat) : Nat → Int → Option (Int × Int)
  | 0, _ => none
  | fu1 + 1, i2 => bif decide (i2 < ((l.map cAut).length : Int)) then (Option.bind (rown_S l i2) fun y4 => bif (y4 != 0) then some (i2, y4) else rCheck_L1 l N fu1 (IntKind.i64.wrap (i2 + 1))) else rCheck_L2 l N 0
def rCheck_F (N : Nat) (l : List Aut) : Option (Int × Int) := bif decide (((l.map cAut).length : Int) > 64) then some ((-1), 8) else rCheck_L1 l N N 0
set_option linter.unusedVariables false in
theorem rCheck_Fh {N : Nat} {l : List Aut} {r : Int × Int} (hF : rCheck_F N l = some r) : Holds Tryd.prog Gw 15 [.sl 6 (l.map cAut)] (rCheck_E r) := by
  refine holds_of_wq tabOk mixed Tryd.func15 (by decide) rfl (Nat.le_of_ble_eq_true rfl) ?_
  refine And.intro (fun h1 => ?_) (fun h1 => ?_)
  · have hF := cpos h1 hF
    exact Or.inl ⟨rfl, congrArg (Option.map rCheck_E) hF⟩
  · have hF := cneg h1 hF
    refine loop_oq (fun p : Nat × Int => [(0, .c (.sl 6 (l.map cAut))), (4, .c (I p.2))]) (fun _ => []) (fun p => rCheck_L1 l N p.1 p.2 = some r) (fun p => p.1) (N, 0) hF ⟨rfl, rfl, trivial⟩ trivial ?_
    rintro ⟨fu1, i2⟩ hF
    cases fu1 with
    | zero => exact nomatch hF
    | succ fu1 =>
      refine And.intro (fun h3 => ?_) (fun h3 => ?_)
      · have hF := cpos h3 hF
        refine join_no ?_
        refine obind hF fun y4 h5 hF => ?_
        refine Or.inl ⟨_, rown_h h5, rfl, ?_⟩
        refine And.intro (fun h6 => ?_) (fun h6 => ?_)
        · have hF := cpos h6 hF
          exact Or.inl ⟨rfl, congrArg (Option.map rCheck_E) hF⟩
        · have hF := cneg h6 hF
          exact ⟨(fu1, (IntKind.i64.wrap (i2 + 1))), Nat.lt_succ_self _, hF, ⟨rfl, rfl, trivial⟩, trivial⟩
      · have hF := cneg h3 hF
        refine loop_oq (fun p : Nat × Int => [(0, .c (.sl 6 (l.map cAut))), (6, .c (I p.2))]) (fun _ => []) (fun p => rCheck_L2 l p.1 p.2 = some r) (fun p => p.1) (N, 0) hF ⟨rfl, rfl, trivial⟩ trivial ?_
        rintro ⟨fu2, i7⟩ hF
        cases fu2 with
        | zero => exact nomatch hF
        | succ fu2 =>
          refine And.intro (fun h8 => ?_) (fun h8 => ?_)
          · have hF := cpos h8 hF
            refine join_no ?_
            refine obind hF fun x9 h10 hF => ?_
            refine ⟨ix_nn h10, .inl rfl, _, ix_map cAut h10, ?_⟩
            refine obind hF fun y11 h12 hF => ?_
            refine Or.inl ⟨_, rnext_h h12, rfl, ?_⟩
            refine And.intro (fun h13 => ?_) (fun h13 => ?_)
            · have hF := cpos h13 hF
              exact Or.inl ⟨rfl, congrArg (Option.map rCheck_E) hF⟩
            · have hF := cneg h13 hF
              exact ⟨(fu2, (IntKind.i64.wrap (i7 + 1))), Nat.lt_succ_self _, hF, ⟨rfl, rfl, trivial⟩, trivial⟩
          · have hF := cneg h8 hF
            exact Or.inl ⟨rfl, congrArg (Option.map rCheck_E) hF⟩
abbrev rCheck_S (l : List Aut) : Option (Int × Int) := rCheck_F (l.length + 1) l
theorem rCheck_h {l : List Aut} {r : Int × Int} (h : rCheck_S l = some r) : Holds Tryd.prog Gw 15 [.sl 6 (l.map cAut)] (rCheck_E r) := rCheck_Fh  h
abbrev rRight_E (y : Bool) : CV := B y
def rRight_F (l : List Aut) : Option (Bool) := Option.bind (rCheck_S l) fun y1 => some ((y1.2 == 0))
set_option linter.unusedVariables false in
theorem rRight_Fh {l : List Aut} {r : Bool} (hF : rRight_F l = some r) : Holds Tryd.prog Gw 83 [.sl 6 (l.map cAut)] (rRight_E r) := by
  refine holds_of_wq tabOk mixed Tryd.func83 (by decide) rfl (Nat.le_of_ble_eq_true rfl) ?_
  refine obind hF fun y1 h2 hF => ?_
  refine Or.inl ⟨_, rCheck_h h2, rfl, ?_⟩
  exact Or.inl ⟨rfl, congrArg (Option.map rRight_E) hF⟩
abbrev rRight_S (l : List Aut) : Option (Bool) := rRight_F l
theorem rRight_h {l : List Aut} {r : Bool} (h : rRight_S l = some r) : Holds Tryd.prog Gw 83 [.sl 6 (l.map cAut)] (rRight_E r) := rRight_Fh  h
abbrev rbasic_E (y : Int) : CV := I y
def rbasic_F (l : List Aut) (day : Int) : Option (Int) := Option.bind (rRight_S l) fun y1 => bif (!y1) then some (1) else (bif decide (day < 0) then some (2) else (bif decide (day > 1048575) then some (2) else some (0)))
set_option linter.unusedVariables false in
theorem rbasic_Fh {l : List Aut} {day : Int} {r : Int} (hF : rbasic_F l day = some r) : Holds Tryd.prog Gw 49 [.sl 6 (l.map cAut), I day] (rbasic_E r) := by
  refine holds_of_wq tabOk mixed Tryd.func49 (by decide) rfl (Nat.le_of_ble_eq_true rfl) ?_
  refine obind hF fun y1 h2 hF => ?_
  refine Or.inl ⟨_, rRight_h h2, rfl, ?_⟩
  refine And.intro (fun h3 => ?_) (fun h3 => ?_)
  · have hF := cpos h3 hF
    exact Or.inl ⟨rfl, congrArg (Option.map rbasic_E) hF⟩
  · have hF := cneg h3 hF
    refine And.intro (fun h4 => ?_) (fun h4 => ?_)
    · have hF := cpos h4 hF
      exact Or.inl ⟨rfl, congrArg (Option.map rbasic_E) hF⟩
    · have hF := cneg h4 hF
      refine And.intro (fun h5 => ?_) (fun h5 => ?_)
      · have hF := cpos h5 hF
        exact Or.inl ⟨rfl, congrArg (Option.map rbasic_E) hF⟩
      · have hF := cneg h5 hF
        exact Or.inl ⟨rfl, congrArg (Option.map rbasic_E) hF⟩
abbrev rbasic_S (l : List Aut) (day : Int) : Option (Int) := rbasic_F l day
theorem rbasic_h {l : List Aut} {day : Int} {r : Int} (h : rbasic_S l day = some r) : Holds Tryd.prog Gw 49 [.sl 6 (l.map cAut), I day] (rbasic_E r) := rbasic_Fh  h
abbrev rOn_E (y : Bool) : CV := B y
def rOn_F (s : Span) (day : Int) : Option (Bool) := bif decide (s.From ≤ day) then some (decide (day < s.Until)) else some (false)
set_option linter.unusedVariables false in
theorem rOn_Fh {s : Span} {day : Int} {r : Bool} (hF : rOn_F s day = some r) : Holds Tryd.prog Gw 50 [.agg (cSpan s), I day] (rOn_E r) := by
  refine holds_of_wq tabOk mixed Tryd.func50 (by decide) rfl (Nat.le_of_ble_eq_true rfl) ?_
  refine Or.inl ?_
  refine And.intro (fun h1 => ?_) (fun h1 => ?_)
  · have hF := cpos h1 hF
    exact Or.inl ⟨rfl, congrArg (Option.map rOn_E) hF⟩
  · have hF := cneg h1 hF
    exact Or.inl ⟨rfl, congrArg (Option.map rOn_E) hF⟩
abbrev rOn_S (s : Span) (day : Int) : Option (Bool) := rOn_F s day
theorem rOn_h {s : Span} {day : Int} {r : Bool} (h : rOn_S s day = some r) : Holds Tryd.prog Gw 50 [.agg (cSpan s), I day] (rOn_E r) := rOn_Fh  h
abbrev ron_E (y : Str) : CV := S y
def ron_L1 (a : Aut) (day : Int) : Nat → Int → Option (Str)
  | 0, _ => none
  | fu1 + 1, i1 => bif decide (i1 < ((a.Names.map cNam).length : Int)) then (Option.bind (ix a.Names i1) fun x3 => Option.bind (rOn_S x3.In day) fun y5 => bif y5 then (Option.bind (ix a.Names i1) fun x8 => some (x8.Text)) else ron_L1 a day fu1 (IntKind.i64.wrap (i1 + 1))) else some (([] : Str))
def ron_F (N : Nat) (a : Aut) (day : Int) : Option (Str) := ron_L1 a day N 0
set_option linter.unusedVariables false in
theorem ron_Fh {N : Nat} {a : Aut} {day : Int} {r : Str} (hF : ron_F N a day = some r) : Holds Tryd.prog Gw 51 [.agg (cAut a), I day] (ron_E r) := by
  refine holds_of_wq tabOk mixed Tryd.func51 (by decide) rfl (Nat.le_of_ble_eq_true rfl) ?_
  refine Or.inl ?_
  refine loop_oq (fun p : Nat × Int => [(1, .c (I day)), (2, .pm 2 0 0), (5, .c (I p.2))]) (fun p : Nat × Int => [(2, .var [I a.ID, I a.Kind, I a.In.From, I a.In.Until, .sl 3 (a.Names.map cNam), .sl 1 (a.Next.map cInt)])]) (fun p => ron_L1 a day p.1 p.2 = some r) (fun p => p.1) (N, 0) hF ⟨rfl, rfl, rfl, trivial⟩ ⟨rfl, trivial⟩ ?_
  rintro ⟨fu1, i1⟩ hF
  cases fu1 with
  | zero => exact nomatch hF
  | succ fu1 =>
    refine And.intro (fun h2 => ?_) (fun h2 => ?_)
    · have hF := cpos h2 hF
      refine join_no ?_
      refine obind hF fun x3 h4 hF => ?_
      refine ⟨ix_nn h4, .inl rfl, _, ix_map cNam h4, ?_⟩
      refine obind hF fun y5 h6 hF => ?_
      refine Or.inl ⟨_, rOn_h h6, rfl, ?_⟩
      refine And.intro (fun h7 => ?_) (fun h7 => ?_)
      · have hF := cpos h7 hF
        refine obind hF fun x8 h9 hF => ?_
        refine ⟨ix_nn h9, .inl rfl, _, ix_map cNam h9, ?_⟩
        exact Or.inl ⟨rfl, congrArg (Option.map ron_E) hF⟩
      · have hF := cneg h7 hF
        exact ⟨(fu1, (IntKind.i64.wrap (i1 + 1))), Nat.lt_succ_self _, hF, ⟨rfl, rfl, rfl, trivial⟩, ⟨rfl, trivial⟩⟩
    · have hF := cneg h2 hF
      exact Or.inl ⟨rfl, congrArg (Option.map ron_E) hF⟩
abbrev ron_S (a : Aut) (day : Int) : Option (Str) := ron_F (a.Names.length + 1) a day
theorem ron_h {a : Aut} {day : Int} {r : Str} (h : ron_S a day = some r) : Holds Tryd.prog Gw 51 [.agg (cAut a), I day] (ron_E r) := ron_Fh  h
abbrev rName_E (y : Str × Int) : CV := .tup [S y.1, I y.2]
def rName_F (l : List Aut) (id : Int) (day : Int) : Option (Str × Int) := Option.bind (rbasic_S l day) fun y1 => bif (y1 != 0) then some (([] : Str), y1) else (Option.bind (rFind_S l id) fun y4 => bif (!y4.2) then some (([] : Str), 7) else (Option.bind (rOn_S y4.1.In day) fun y7 => bif (!y7) then some (([] : Str), 11) else (Option.bind (ron_S y4.1 day) fun y10 => bif (y10 == ([] : Str)) then some (([] : Str), 9) else (Option.bind (ron_S y4.1 day) fun y13 => some (y13, 0)))))
set_option linter.unusedVariables false in
theorem rName_Fh {l : List Aut} {id : Int} {day : Int} {r : Str × Int} (hF : rName_F l id day = some r) : Holds Tryd.prog Gw 22 [.sl 6 (l.map cAut), I id, I day] (rName_E r) := by
  refine holds_of_wq tabOk mixed Tryd.func22 (by decide) rfl (Nat.le_of_ble_eq_true rfl) ?_
  refine obind hF fun y1 h2 hF => ?_
  refine Or.inl ⟨_, rbasic_h h2, rfl, ?_⟩
  refine And.intro (fun h3 => ?_) (fun h3 => ?_)
  · have hF := cpos h3 hF
    exact Or.inl ⟨rfl, congrArg (Option.map rName_E) hF⟩
  · have hF := cneg h3 hF
    refine obind hF fun y4 h5 hF => ?_
    refine Or.inl ⟨_, rFind_h h5, rfl, ?_⟩
    refine Or.inl ?_
    refine join_no ?_
    refine And.intro (fun h6 => ?_) (fun h6 => ?_)
    · have hF := cpos h6 hF
      exact Or.inl ⟨rfl, congrArg (Option.map rName_E) hF⟩
    · have hF := cneg h6 hF
      refine obind hF fun y7 h8 hF => ?_
      refine Or.inl ⟨_, rOn_h h8, rfl, ?_⟩
      refine And.intro (fun h9 => ?_) (fun h9 => ?_)
      · have hF := cpos h9 hF
        exact Or.inl ⟨rfl, congrArg (Option.map rName_E) hF⟩
      · have hF := cneg h9 hF
        refine obind hF fun y10 h11 hF => ?_
        refine Or.inl ⟨_, ron_h h11, rfl, ?_⟩
        refine And.intro (fun h12 => ?_) (fun h12 => ?_)
        · have hF := cpos h12 hF
          exact Or.inl ⟨rfl, congrArg (Option.map rName_E) hF⟩
        · have hF := cneg h12 hF
          refine obind hF fun y13 h14 hF => ?_
          refine Or.inl ⟨_, ron_h h14, rfl, ?_⟩
          exact Or.inl ⟨rfl, congrArg (Option.map rName_E) hF⟩
abbrev rName_S (l : List Aut) (id : Int) (day : Int) : Option (Str × Int) := rName_F l id day
theorem rName_h {l : List Aut} {id : Int} {day : Int} {r : Str × Int} (h : rName_S l id day = some r) : Holds Tryd.prog Gw 22 [.sl 6 (l.map cAut), I id, I day] (rName_E r) := rName_Fh  h
abbrev rNamed_E (y : List Int × Int) : CV := .tup [.sl 1 (y.1.map cInt), I y.2]
def rNamed_L1 (l : List Aut) (text : Str) (day : Int) : Nat → List Int → Int → Option (List Int × Int)
  | 0, _, _ => none
  | fu1 + 1, out4, i5 => bif decide (i5 < ((l.map cAut).length : Int)) then (Option.bind (ix l i5) fun x7 => Option.bind (ron_S x7 day) fun y9 => bif (!(y9 == ([] : Str))) then (bif (y9 == text) then (Option.bind (ix l i5) fun x13 => bif decide (out4.length + ([x13.ID] : List Int).length ≤ 4294967296) then rNamed_L1 l text day fu1 (out4 ++ ([x13.ID] : List Int)) (IntKind.i64.wrap (i5 + 1)) else none) else rNamed_L1 l text day fu1 out4 (IntKind.i64.wrap (i5 + 1))) else rNamed_L1 l text day fu1 out4 (IntKind.i64.wrap (i5 + 1))) else some (out4, 0)
def rNamed_F (N : Nat) (l : List Aut) (text : Str) (day : Int) : Option (List Int × Int) := Option.bind (rbasic_S l day) fun y1 => bif (y1 != 0) then some (([] : List Int), y1) else rNamed_L1 l text day N ([] : List Int) 0
set_option linter.unusedVariables false in
theorem rNamed_Fh {N : Nat} {l : List Aut} {text : Str} {day : Int} {r : List Int × Int} (hF : rNamed_F N l text day = some r) : Holds Tryd.prog Gw 24 [.sl 6 (l.map cAut), S text, I day] (rNamed_E r) := by
  refine holds_of_wq tabOk mixed Tryd.func24 (by decide) rfl (Nat.le_of_ble_eq_true rfl) ?_
  refine Or.inl ?_
  refine obind hF fun y1 h2 hF => ?_
  refine Or.inl ⟨_, rbasic_h h2, rfl, ?_⟩
  refine And.intro (fun h3 => ?_) (fun h3 => ?_)
  · have hF := cpos h3 hF
    refine Or.inl ?_
    exact Or.inl ⟨rfl, congrArg (Option.map rNamed_E) hF⟩
  · have hF := cneg h3 hF
    refine Or.inl ?_
    refine loop_oq (fun p : Nat × List Int × Int => [(0, .c (.sl 6 (l.map cAut))), (1, .c (S text)), (2, .c (I day)), (9, .ap 9 0 1 (p.2.1.map cInt)), (10, .c (I p.2.2))]) (fun p : Nat × List Int × Int => [(9, .tok 3 1)]) (fun p => rNamed_L1 l text day p.1 p.2.1 p.2.2 = some r) (fun p => p.1) (N, ([] : List Int), 0) hF ⟨rfl, rfl, rfl, rfl, rfl, trivial⟩ ⟨rfl, trivial⟩ ?_
    rintro ⟨fu1, out4, i5⟩ hF
    cases fu1 with
    | zero => exact nomatch hF
    | succ fu1 =>
      refine And.intro (fun h6 => ?_) (fun h6 => ?_)
      · have hF := cpos h6 hF
        refine join_no ?_
        refine obind hF fun x7 h8 hF => ?_
        refine ⟨ix_nn h8, .inl rfl, _, ix_map cAut h8, ?_⟩
        refine obind hF fun y9 h10 hF => ?_
        refine Or.inl ⟨_, ron_h h10, rfl, ?_⟩
        refine And.intro (fun h11 => ?_) (fun h11 => ?_)
        · have hF := cpos h11 hF
          refine And.intro (fun h12 => ?_) (fun h12 => ?_)
          · have hF := cpos h12 hF
            refine obind hF fun x13 h14 hF => ?_
            refine ⟨ix_nn h14, .inl rfl, _, ix_map cAut h14, ?_⟩
            refine Or.inl ?_
            refine gpos hF fun h15 hF => ?_
            refine Or.inl ⟨len_all rfl, app_le h15, (out4 ++ ([x13.ID] : List Int)).map cInt, map_app _ _ _, ?_⟩
            exact ⟨(fu1, (out4 ++ ([x13.ID] : List Int)), (IntKind.i64.wrap (i5 + 1))), Nat.lt_succ_self _, hF, ⟨rfl, rfl, rfl, rfl, rfl, trivial⟩, ⟨rfl, trivial⟩⟩
          · have hF := cneg h12 hF
            exact ⟨(fu1, out4, (IntKind.i64.wrap (i5 + 1))), Nat.lt_succ_self _, hF, ⟨rfl, rfl, rfl, rfl, rfl, trivial⟩, ⟨rfl, trivial⟩⟩
        · have hF := cneg h11 hF
          exact ⟨(fu1, out4, (IntKind.i64.wrap (i5 + 1))), Nat.lt_succ_self _, hF, ⟨rfl, rfl, rfl, rfl, rfl, trivial⟩, ⟨rfl, trivial⟩⟩
      · have hF := cneg h6 hF
        exact Or.inl ⟨rfl, congrArg (Option.map rNamed_E) hF⟩
abbrev rNamed_S (l : List Aut) (text : Str) (day : Int) : Option (List Int × Int) := rNamed_F (l.length + 1) l text day
theorem rNamed_h {l : List Aut} {text : Str} {day : Int} {r : List Int × Int} (h : rNamed_S l text day = some r) : Holds Tryd.prog Gw 24 [.sl 6 (l.map cAut), S text, I day] (rNamed_E r) := rNamed_Fh  h
abbrev lAuthorityNames_E (y : Bool) : CV := B y
def lAuthorityNames_F (l : List Aut) (id : Int) (day : Int) (text : Str) : Option (Bool) := Option.bind (lawake_S) fun y1 => bif (!y1) then (Option.bind (lawake_S) fun y4 => some (y4)) else (Option.bind (rFew_S l) fun y6 => bif (!y6) then (Option.bind (lawake_S) fun y9 => some (y9)) else (bif decide ((text.length : Int) > 100) then (Option.bind (lawake_S) fun y12 => some (y12)) else (Option.bind (rCopy_S l) fun y14 => Option.bind (pName_S y14 id day) fun y16 => Option.bind (rName_S l id day) fun y18 => Option.bind (rCopy_S l) fun y20 => Option.bind (pNamed_S y20 text day) fun y22 => Option.bind (rNamed_S l text day) fun y24 => bif (y16.1 == y18.1) then (bif (y16.2 == y18.2) then (Option.bind (slEqual_S y22.1 y24.1) fun y28 => bif y28 then some ((y22.2 == y24.2)) else some (false)) else some (false)) else some (false))))
set_option linter.unusedVariables false in
theorem lAuthorityNames_Fh {l : List Aut} {id : Int} {day : Int} {text : Str} {r : Bool} (hF : lAuthorityNames_F l id day text = some r) : Holds Tryd.prog Gw 4 [.sl 6 (l.map cAut), I id, I day, S text] (lAuthorityNames_E r) := by
  refine holds_of_wq tabOk mixed Tryd.func4 (by decide) rfl (Nat.le_of_ble_eq_true rfl) ?_
  refine obind hF fun y1 h2 hF => ?_
  refine Or.inl ⟨_, lawake_h h2, rfl, ?_⟩
  refine And.intro (fun h3 => ?_) (fun h3 => ?_)
  · have hF := cpos h3 hF
    refine obind hF fun y4 h5 hF => ?_
    refine Or.inl ⟨_, lawake_h h5, rfl, ?_⟩
    exact Or.inl ⟨rfl, congrArg (Option.map lAuthorityNames_E) hF⟩
  · have hF := cneg h3 hF
    refine obind hF fun y6 h7 hF => ?_
    refine Or.inl ⟨_, rFew_h h7, rfl, ?_⟩
    refine And.intro (fun h8 => ?_) (fun h8 => ?_)
    · have hF := cpos h8 hF
      refine obind hF fun y9 h10 hF => ?_
      refine Or.inl ⟨_, lawake_h h10, rfl, ?_⟩
      exact Or.inl ⟨rfl, congrArg (Option.map lAuthorityNames_E) hF⟩
    · have hF := cneg h8 hF
      refine And.intro (fun h11 => ?_) (fun h11 => ?_)
      · have hF := cpos h11 hF
        refine obind hF fun y12 h13 hF => ?_
        refine Or.inl ⟨_, lawake_h h13, rfl, ?_⟩
        exact Or.inl ⟨rfl, congrArg (Option.map lAuthorityNames_E) hF⟩
      · have hF := cneg h11 hF
        refine obind hF fun y14 h15 hF => ?_
        refine Or.inl ⟨_, rCopy_h h15, rfl, ?_⟩
        refine obind hF fun y16 h17 hF => ?_
        refine Or.inl ⟨_, pName_h h17, rfl, ?_⟩
        refine obind hF fun y18 h19 hF => ?_
        refine Or.inl ⟨_, rName_h h19, rfl, ?_⟩
        refine obind hF fun y20 h21 hF => ?_
        refine Or.inl ⟨_, rCopy_h h21, rfl, ?_⟩
        refine obind hF fun y22 h23 hF => ?_
        refine Or.inl ⟨_, pNamed_h h23, rfl, ?_⟩
        refine obind hF fun y24 h25 hF => ?_
        refine Or.inl ⟨_, rNamed_h h25, rfl, ?_⟩
        refine And.intro (fun h26 => ?_) (fun h26 => ?_)
        · have hF := cpos h26 hF
          refine And.intro (fun h27 => ?_) (fun h27 => ?_)
          · have hF := cpos h27 hF
            refine obind hF fun y28 h29 hF => ?_
            refine Or.inl ⟨_, slEqual_h h29, rfl, ?_⟩
            refine And.intro (fun h30 => ?_) (fun h30 => ?_)
            · have hF := cpos h30 hF
              exact Or.inl ⟨rfl, congrArg (Option.map lAuthorityNames_E) hF⟩
            · have hF := cneg h30 hF
              exact Or.inl ⟨rfl, congrArg (Option.map lAuthorityNames_E) hF⟩
          · have hF := cneg h27 hF
            exact Or.inl ⟨rfl, congrArg (Option.map lAuthorityNames_E) hF⟩
        · have hF := cneg h26 hF
          exact Or.inl ⟨rfl, congrArg (Option.map lAuthorityNames_E) hF⟩
abbrev lAuthorityNames_S (l : List Aut) (id : Int) (day : Int) (text : Str) : Option (Bool) := lAuthorityNames_F l id day text
theorem lAuthorityNames_h {l : List Aut} {id : Int} {day : Int} {text : Str} {r : Bool} (h : lAuthorityNames_S l id day text = some r) : Holds Tryd.prog Gw 4 [.sl 6 (l.map cAut), I id, I day, S text] (lAuthorityNames_E r) := lAuthorityNames_Fh  h
abbrev cmpLess_E (y : Bool) : CV := B y
def cmpLess_F (x : Int) (y : Int) : Option (Bool) := Option.bind (cmpIsNaN_S x) fun y1 => bif y1 then (Option.bind (cmpIsNaN_S y) fun y4 => bif (!y4) then some (true) else some (decide (x < y))) else some (decide (x < y))
set_option linter.unusedVariables false in
theorem cmpLess_Fh {x : Int} {y : Int} {r : Bool} (hF : cmpLess_F x y = some r) : Holds Tryd.prog Gw 58 [I x, I y] (cmpLess_E r) := by
  refine holds_of_wq tabOk mixed Tryd.func58 (by decide) rfl (Nat.le_of_ble_eq_true rfl) ?_
  refine obind hF fun y1 h2 hF => ?_
  refine Or.inl ⟨_, cmpIsNaN_h h2, rfl, ?_⟩
  refine And.intro (fun h3 => ?_) (fun h3 => ?_)
  · have hF := cpos h3 hF
    refine obind hF fun y4 h5 hF => ?_
    refine Or.inl ⟨_, cmpIsNaN_h h5, rfl, ?_⟩
    refine And.intro (fun h6 => ?_) (fun h6 => ?_)
    · have hF := cpos h6 hF
      exact Or.inl ⟨rfl, congrArg (Option.map cmpLess_E) hF⟩
    · have hF := cneg h6 hF
      exact Or.inl ⟨rfl, congrArg (Option.map cmpLess_E) hF⟩
  · have hF := cneg h3 hF
    exact Or.inl ⟨rfl, congrArg (Option.map cmpLess_E) hF⟩
abbrev cmpLess_S (x : Int) (y : Int) : Option (Bool) := cmpLess_F x y
theorem cmpLess_h {x : Int} {y : Int} {r : Bool} (h : cmpLess_S x y = some r) : Holds Tryd.prog Gw 58 [I x, I y] (cmpLess_E r) := cmpLess_Fh  h
abbrev slIsSorted_E (y : Bool) : CV := B y
def slIsSorted_L1 (x : List Int) : Nat → Int → Option (Bool)
  | 0, _ => none
  | fu1 + 1, i1 => bif decide (i1 > 0) then (Option.bind (ix x i1) fun x3 => Option.bind (ix x (IntKind.i64.wrap (i1 - 1))) fun x5 => Option.bind (cmpLess_S x3 x5) fun y7 => bif y7 then some (false) else slIsSorted_L1 x fu1 (IntKind.i64.wrap (i1 - 1))) else some (true)
def slIsSorted_F (N : Nat) (x : List Int) : Option (Bool) := slIsSorted_L1 x N (IntKind.i64.wrap (((x.map cInt).length : Int) - 1))
set_option linter.unusedVariables false in
theorem slIsSorted_Fh {N : Nat} {x : List Int} {r : Bool} (hF : slIsSorted_F N x = some r) : Holds Tryd.prog Gw 31 [.sl 1 (x.map cInt)] (slIsSorted_E r) := by
  refine holds_of_wq tabOk mixed Tryd.func31 (by decide) rfl (Nat.le_of_ble_eq_true rfl) ?_
  refine loop_oq (fun p : Nat × Int => [(0, .c (.sl 1 (x.map cInt))), (3, .c (I p.2))]) (fun _ => []) (fun p => slIsSorted_L1 x p.1 p.2 = some r) (fun p => p.1) (N, (IntKind.i64.wrap (((x.map cInt).length : Int) - 1))) hF ⟨rfl, rfl, trivial⟩ trivial ?_
  rintro ⟨fu1, i1⟩ hF
  cases fu1 with
  | zero => exact nomatch hF
  | succ fu1 =>
    refine And.intro (fun h2 => ?_) (fun h2 => ?_)
    · have hF := cpos h2 hF
      refine join_no ?_
      refine obind hF fun x3 h4 hF => ?_
      refine ⟨ix_nn h4, .inl rfl, _, ix_map cInt h4, ?_⟩
      refine obind hF fun x5 h6 hF => ?_
      refine ⟨ix_nn h6, .inl rfl, _, ix_map cInt h6, ?_⟩
      refine obind hF fun y7 h8 hF => ?_
      refine Or.inl ⟨_, cmpLess_h h8, rfl, ?_⟩
      refine And.intro (by kernel_rfl) ?_
      refine And.intro (fun h9 => ?_) (fun h9 => ?_)
      · have hF := cpos h9 hF
        exact Or.inl ⟨rfl, congrArg (Option.map slIsSorted_E) hF⟩
      · have hF := cneg h9 hF
        exact ⟨(fu1, (IntKind.i64.wrap (i1 - 1))), Nat.lt_succ_self _, hF, ⟨rfl, rfl, trivial⟩, trivial⟩
    · have hF := cneg h2 hF
      exact Or.inl ⟨rfl, congrArg (Option.map slIsSorted_E) hF⟩
abbrev slIsSorted_S (x : List Int) : Option (Bool) := slIsSorted_F (x.length + 1) x
theorem slIsSorted_h {x : List Int} {r : Bool} (h : slIsSorted_S x = some r) : Holds Tryd.prog Gw 31 [.sl 1 (x.map cInt)] (slIsSorted_E r) := slIsSorted_Fh  h
abbrev lAuthorityOne_E (y : Bool) : CV := B y
def lAuthorityOne_L1 (l : List Aut) (id : Int) (day : Int) (y13 : Str × Int) (y17 : Aut × Bool) : Nat → Int → Int → Option (Bool)
  | 0, _, _ => none
  | fu1 + 1, n28, v29 => bif decide (v29 < ((y17.1.Names.map cNam).length : Int)) then (Option.bind (ix y17.1.Names v29) fun x31 => bif decide (x31.In.From ≤ day) then (bif decide (day < x31.In.Until) then (bif (y13.2 != 0) then some (false) else (bif (!(x31.Text == y13.1)) then some (false) else lAuthorityOne_L1 l id day y13 y17 fu1 (IntKind.i64.wrap (n28 + 1)) (IntKind.i64.wrap (v29 + 1)))) else lAuthorityOne_L1 l id day y13 y17 fu1 n28 (IntKind.i64.wrap (v29 + 1))) else lAuthorityOne_L1 l id day y13 y17 fu1 n28 (IntKind.i64.wrap (v29 + 1))) else (bif (y13.2 != 0) then (bif (n28 == 0) then (bif (y13.1 == ([] : Str)) then (bif decide (day < y17.1.In.From) then some (((y13.2 == 11) == true)) else some (((y13.2 == 11) == (decide (day ≥ y17.1.In.Until))))) else some (false)) else some (false)) else (Option.bind (rCopy_S l) fun y41 => Option.bind (pNamed_S y41 y13.1 day) fun y43 => bif (n28 == 1) then (bif (y43.2 == 0) then (Option.bind (slContains_S y43.1 id) fun y47 => bif y47 then (Option.bind (slIsSorted_S y43.1) fun y50 => some (y50)) else some (false)) else some (false)) else some (false)))
def lAuthorityOne_F (N : Nat) (l : List Aut) (id : Int) (day : Int) : Option (Bool) := Option.bind (lawake_S) fun y1 => bif (!y1) then (Option.bind (lawake_S) fun y4 => some (y4)) else (Option.bind (rFew_S l) fun y6 => bif (!y6) then (Option.bind (lawake_S) fun y9 => some (y9)) else (Option.bind (rCopy_S l) fun y11 => Option.bind (pName_S y11 id day) fun y13 => Option.bind (rCopy_S l) fun y15 => Option.bind (pFind_S y15 id) fun y17 => bif (y13.2 == 1) then (bif (y13.1 == ([] : Str)) then (bif (y13.2 != 7) then some (true) else some ((!y17.2))) else some (false)) else (bif (y13.2 == 2) then (bif (y13.1 == ([] : Str)) then (bif (y13.2 != 7) then some (true) else some ((!y17.2))) else some (false)) else (bif (y13.2 == 7) then (bif (y13.1 == ([] : Str)) then (bif (y13.2 != 7) then some (true) else some ((!y17.2))) else some (false)) else lAuthorityOne_L1 l id day y13 y17 N 0 0))))
set_option linter.unusedVariables false in
theorem lAuthorityOne_Fh {N : Nat} {l : List Aut} {id : Int} {day : Int} {r : Bool} (hF : lAuthorityOne_F N l id day = some r) : Holds Tryd.prog Gw 8 [.sl 6 (l.map cAut), I id, I day] (lAuthorityOne_E r) := by
  refine holds_of_wq tabOk mixed Tryd.func8 (by decide) rfl (Nat.le_of_ble_eq_true rfl) ?_
  refine obind hF fun y1 h2 hF => ?_
  refine Or.inl ⟨_, lawake_h h2, rfl, ?_⟩
  refine And.intro (fun h3 => ?_) (fun h3 => ?_)
  · have hF := cpos h3 hF
    refine obind hF fun y4 h5 hF => ?_
    refine Or.inl ⟨_, lawake_h h5, rfl, ?_⟩
    exact Or.inl ⟨rfl, congrArg (Option.map lAuthorityOne_E) hF⟩
  · have hF := cneg h3 hF
    refine obind hF fun y6 h7 hF => ?_
    refine Or.inl ⟨_, rFew_h h7, rfl, ?_⟩
    refine And.intro (fun h8 => ?_) (fun h8 => ?_)
    · have hF := cpos h8 hF
      refine obind hF fun y9 h10 hF => ?_
      refine Or.inl ⟨_, lawake_h h10, rfl, ?_⟩
      exact Or.inl ⟨rfl, congrArg (Option.map lAuthorityOne_E) hF⟩
    · have hF := cneg h8 hF
      refine obind hF fun y11 h12 hF => ?_
      refine Or.inl ⟨_, rCopy_h h12, rfl, ?_⟩
      refine obind hF fun y13 h14 hF => ?_
      refine Or.inl ⟨_, pName_h h14, rfl, ?_⟩
      refine obind hF fun y15 h16 hF => ?_
      refine Or.inl ⟨_, rCopy_h h16, rfl, ?_⟩
      refine obind hF fun y17 h18 hF => ?_
      refine Or.inl ⟨_, pFind_h h18, rfl, ?_⟩
      refine Or.inl ?_
      refine And.intro (fun h19 => ?_) (fun h19 => ?_)
      · have hF := cpos h19 hF
        refine And.intro (fun h20 => ?_) (fun h20 => ?_)
        · have hF := cpos h20 hF
          refine And.intro (fun h21 => ?_) (fun h21 => ?_)
          · have hF := cpos h21 hF
            exact Or.inl ⟨rfl, congrArg (Option.map lAuthorityOne_E) hF⟩
          · have hF := cneg h21 hF
            exact Or.inl ⟨rfl, congrArg (Option.map lAuthorityOne_E) hF⟩
        · have hF := cneg h20 hF
          exact Or.inl ⟨rfl, congrArg (Option.map lAuthorityOne_E) hF⟩
      · have hF := cneg h19 hF
        refine And.intro (fun h22 => ?_) (fun h22 => ?_)
        · have hF := cpos h22 hF
          refine And.intro (fun h23 => ?_) (fun h23 => ?_)
          · have hF := cpos h23 hF
            refine And.intro (fun h24 => ?_) (fun h24 => ?_)
            · have hF := cpos h24 hF
              exact Or.inl ⟨rfl, congrArg (Option.map lAuthorityOne_E) hF⟩
            · have hF := cneg h24 hF
              exact Or.inl ⟨rfl, congrArg (Option.map lAuthorityOne_E) hF⟩
          · have hF := cneg h23 hF
            exact Or.inl ⟨rfl, congrArg (Option.map lAuthorityOne_E) hF⟩
        · have hF := cneg h22 hF
          refine And.intro (fun h25 => ?_) (fun h25 => ?_)
          · have hF := cpos h25 hF
            refine And.intro (fun h26 => ?_) (fun h26 => ?_)
            · have hF := cpos h26 hF
              refine And.intro (fun h27 => ?_) (fun h27 => ?_)
              · have hF := cpos h27 hF
                exact Or.inl ⟨rfl, congrArg (Option.map lAuthorityOne_E) hF⟩
              · have hF := cneg h27 hF
                exact Or.inl ⟨rfl, congrArg (Option.map lAuthorityOne_E) hF⟩
            · have hF := cneg h26 hF
              exact Or.inl ⟨rfl, congrArg (Option.map lAuthorityOne_E) hF⟩
          · have hF := cneg h25 hF
            refine loop_oq (fun p : Nat × Int × Int => [(0, .c (.sl 6 (l.map cAut))), (1, .c (I id)), (2, .c (I day)), (7, .c (S y13.1)), (8, .c (I y13.2)), (9, .pm 9 0 0), (11, .c (I p.2.1)), (60, .c (.sl 3 (y17.1.Names.map cNam))), (61, .c (I ((y17.1.Names.map cNam).length : Int))), (62, .c (I p.2.2))]) (fun p : Nat × Int × Int => [(9, .var [I y17.1.ID, I y17.1.Kind, I y17.1.In.From, I y17.1.In.Until, .sl 3 (y17.1.Names.map cNam), .sl 1 (y17.1.Next.map cInt)])]) (fun p => lAuthorityOne_L1 l id day y13 y17 p.1 p.2.1 p.2.2 = some r) (fun p => p.1) (N, 0, 0) hF ⟨rfl, rfl, rfl, rfl, rfl, rfl, rfl, rfl, rfl, rfl, trivial⟩ ⟨rfl, trivial⟩ ?_
            rintro ⟨fu1, n28, v29⟩ hF
            cases fu1 with
            | zero => exact nomatch hF
            | succ fu1 =>
              refine join_no ?_
              refine And.intro (fun h30 => ?_) (fun h30 => ?_)
              · have hF := cpos h30 hF
                refine join_no ?_
                refine obind hF fun x31 h32 hF => ?_
                refine ⟨ix_nn h32, .inl rfl, _, ix_map cNam h32, ?_⟩
                refine Or.inl ?_
                refine And.intro (fun h33 => ?_) (fun h33 => ?_)
                · have hF := cpos h33 hF
                  refine And.intro (fun h34 => ?_) (fun h34 => ?_)
                  · have hF := cpos h34 hF
                    refine And.intro (fun h35 => ?_) (fun h35 => ?_)
                    · have hF := cpos h35 hF
                      exact Or.inl ⟨rfl, congrArg (Option.map lAuthorityOne_E) hF⟩
                    · have hF := cneg h35 hF
                      refine And.intro (fun h36 => ?_) (fun h36 => ?_)
                      · have hF := cpos h36 hF
                        exact Or.inl ⟨rfl, congrArg (Option.map lAuthorityOne_E) hF⟩
                      · have hF := cneg h36 hF
                        exact ⟨(fu1, (IntKind.i64.wrap (n28 + 1)), (IntKind.i64.wrap (v29 + 1))), Nat.lt_succ_self _, hF, ⟨rfl, rfl, rfl, rfl, rfl, rfl, rfl, rfl, rfl, rfl, trivial⟩, ⟨rfl, trivial⟩⟩
                  · have hF := cneg h34 hF
                    exact ⟨(fu1, n28, (IntKind.i64.wrap (v29 + 1))), Nat.lt_succ_self _, hF, ⟨rfl, rfl, rfl, rfl, rfl, rfl, rfl, rfl, rfl, rfl, trivial⟩, ⟨rfl, trivial⟩⟩
                · have hF := cneg h33 hF
                  exact ⟨(fu1, n28, (IntKind.i64.wrap (v29 + 1))), Nat.lt_succ_self _, hF, ⟨rfl, rfl, rfl, rfl, rfl, rfl, rfl, rfl, rfl, rfl, trivial⟩, ⟨rfl, trivial⟩⟩
              · have hF := cneg h30 hF
                refine And.intro (fun h37 => ?_) (fun h37 => ?_)
                · have hF := cpos h37 hF
                  refine And.intro (fun h38 => ?_) (fun h38 => ?_)
                  · have hF := cpos h38 hF
                    refine And.intro (fun h39 => ?_) (fun h39 => ?_)
                    · have hF := cpos h39 hF
                      refine And.intro (fun h40 => ?_) (fun h40 => ?_)
                      · have hF := cpos h40 hF
                        exact Or.inl ⟨rfl, congrArg (Option.map lAuthorityOne_E) hF⟩
                      · have hF := cneg h40 hF
                        exact Or.inl ⟨rfl, congrArg (Option.map lAuthorityOne_E) hF⟩
                    · have hF := cneg h39 hF
                      exact Or.inl ⟨rfl, congrArg (Option.map lAuthorityOne_E) hF⟩
                  · have hF := cneg h38 hF
                    exact Or.inl ⟨rfl, congrArg (Option.map lAuthorityOne_E) hF⟩
                · have hF := cneg h37 hF
                  refine obind hF fun y41 h42 hF => ?_
                  refine Or.inl ⟨_, rCopy_h h42, rfl, ?_⟩
                  refine obind hF fun y43 h44 hF => ?_
                  refine Or.inl ⟨_, pNamed_h h44, rfl, ?_⟩
                  refine And.intro (fun h45 => ?_) (fun h45 => ?_)
                  · have hF := cpos h45 hF
                    refine And.intro (fun h46 => ?_) (fun h46 => ?_)
                    · have hF := cpos h46 hF
                      refine obind hF fun y47 h48 hF => ?_
                      refine Or.inl ⟨_, slContains_h h48, rfl, ?_⟩
                      refine And.intro (fun h49 => ?_) (fun h49 => ?_)
                      · have hF := cpos h49 hF
                        refine obind hF fun y50 h51 hF => ?_
                        refine Or.inl ⟨_, slIsSorted_h h51, rfl, ?_⟩
                        exact Or.inl ⟨rfl, congrArg (Option.map lAuthorityOne_E) hF⟩
                      · have hF := cneg h49 hF
                        exact Or.inl ⟨rfl, congrArg (Option.map lAuthorityOne_E) hF⟩
                    · have hF := cneg h46 hF
                      exact Or.inl ⟨rfl, congrArg (Option.map lAuthorityOne_E) hF⟩
                  · have hF := cneg h45 hF
                    exact Or.inl ⟨rfl, congrArg (Option.map lAuthorityOne_E) hF⟩
abbrev lAuthorityOne_S (l : List Aut) (id : Int) (day : Int) : Option (Bool) := lAuthorityOne_F 100 l id day
theorem lAuthorityOne_h {l : List Aut} {id : Int} {day : Int} {r : Bool} (h : lAuthorityOne_S l id day = some r) : Holds Tryd.prog Gw 8 [.sl 6 (l.map cAut), I id, I day] (lAuthorityOne_E r) := lAuthorityOne_Fh  h
end Go.Proofs.YtgpojnenbmlcbaaDoor
