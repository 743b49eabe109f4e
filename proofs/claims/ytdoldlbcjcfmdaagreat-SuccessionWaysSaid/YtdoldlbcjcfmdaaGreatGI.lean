/- Functions of the program as functions of Lean, each with its contract (printed by a program). -/
import Derived.Test.YtdoldlbcjcfmdaaGreatGW
namespace Go.Proofs.YtdoldlbcjcfmdaaGreat
open Go Go.Abs
set_option maxRecDepth 10000
set_option maxHeartbeats 400000
abbrev rIsSpan_E (y : Bool) : CV := B y
def rIsSpan_F (s : Span) : Option (Bool) := bif decide (s.From ≥ 0) then (bif decide (s.From < s.Until) then some (decide (s.Until ≤ 1048576)) else some (false)) else some (false)
set_option linter.unusedVariables false in
theorem rIsSpan_Fh {s : Span} {r : Bool} (hF : rIsSpan_F s = some r) : Holds Tryz.prog Gw 107 [.agg (cSpan s)] (rIsSpan_E r) := by
  refine holds_of_wq tabOk mixed Tryz.func107 (by decide) rfl (Nat.le_of_ble_eq_true rfl) ?_
  refine Or.inl ?_
  refine And.intro (fun h1 => ?_) (fun h1 => ?_)
  · have hF := cpos h1 hF
    refine And.intro (fun h2 => ?_) (fun h2 => ?_)
    · have hF := cpos h2 hF
      exact Or.inl ⟨rfl, congrArg (Option.map rIsSpan_E) hF⟩
    · have hF := cneg h2 hF
      exact Or.inl ⟨rfl, congrArg (Option.map rIsSpan_E) hF⟩
  · have hF := cneg h1 hF
    exact Or.inl ⟨rfl, congrArg (Option.map rIsSpan_E) hF⟩
abbrev rIsSpan_S (s : Span) : Option (Bool) := rIsSpan_F s
theorem rIsSpan_h {s : Span} {r : Bool} (h : rIsSpan_S s = some r) : Holds Tryz.prog Gw 107 [.agg (cSpan s)] (rIsSpan_E r) := rIsSpan_Fh  h
abbrev rIsName_E (y : Bool) : CV := B y
def rIsName_L1 (s : Str) : Nat → Int → Option (Bool)
  | 0, _ => none
  | fu1 + 1, i9 => bif decide (i9 < (s.length : Int)) then (Option.bind (ix s i9) fun b11 => bif decide ((b11.toNat : Int) < 32) then some (false) else (Option.bind (ix s i9) fun b14 => bif decide ((b14.toNat : Int) > 126) then some (false) else (bif decide (i9 > 0) then (Option.bind (ix s i9) fun b18 => bif ((b18.toNat : Int) == 32) then (Option.bind (ix s (IntKind.i64.wrap (i9 - 1))) fun b21 => bif ((b21.toNat : Int) == 32) then some (false) else rIsName_L1 s fu1 (IntKind.i64.wrap (i9 + 1))) else rIsName_L1 s fu1 (IntKind.i64.wrap (i9 + 1))) else rIsName_L1 s fu1 (IntKind.i64.wrap (i9 + 1))))) else some (true)
def rIsName_F (N : Nat) (s : Str) : Option (Bool) := bif decide ((s.length : Int) < 1) then some (false) else (bif decide ((s.length : Int) > 64) then some (false) else (Option.bind (ix s 0) fun b3 => bif ((b3.toNat : Int) == 32) then some (false) else (Option.bind (ix s (IntKind.i64.wrap ((s.length : Int) - 1))) fun b6 => bif ((b6.toNat : Int) == 32) then some (false) else rIsName_L1 s N 0)))
set_option linter.unusedVariables false in
theorem rIsName_Fh {N : Nat} {s : Str} {r : Bool} (hF : rIsName_F N s = some r) : Holds Tryz.prog Gw 112 [S s] (rIsName_E r) := by
  refine holds_of_wq tabOk mixed Tryz.func112 (by decide) rfl (Nat.le_of_ble_eq_true rfl) ?_
  refine And.intro (fun h1 => ?_) (fun h1 => ?_)
  · have hF := cpos h1 hF
    exact Or.inl ⟨rfl, congrArg (Option.map rIsName_E) hF⟩
  · have hF := cneg h1 hF
    refine And.intro (fun h2 => ?_) (fun h2 => ?_)
    · have hF := cpos h2 hF
      exact Or.inl ⟨rfl, congrArg (Option.map rIsName_E) hF⟩
    · have hF := cneg h2 hF
      refine Or.inl ?_
      refine obind hF fun b3 h4 hF => ?_
      refine ⟨ix_nn h4, _, ix_str h4, ?_⟩
      refine And.intro (fun h5 => ?_) (fun h5 => ?_)
      · have hF := cpos h5 hF
        exact Or.inl ⟨rfl, congrArg (Option.map rIsName_E) hF⟩
      · have hF := cneg h5 hF
        refine Or.inl ?_
        refine obind hF fun b6 h7 hF => ?_
        refine ⟨ix_nn h7, _, ix_str h7, ?_⟩
        refine And.intro (fun h8 => ?_) (fun h8 => ?_)
        · have hF := cpos h8 hF
          exact Or.inl ⟨rfl, congrArg (Option.map rIsName_E) hF⟩
        · have hF := cneg h8 hF
          refine loop_oq (fun p : Nat × Int => [(0, .c (S s)), (3, .c (I p.2))]) (fun _ => []) (fun p => rIsName_L1 s p.1 p.2 = some r) (fun p => p.1) (N, 0) hF ⟨rfl, rfl, trivial⟩ trivial ?_
          rintro ⟨fu1, i9⟩ hF
          cases fu1 with
          | zero => exact nomatch hF
          | succ fu1 =>
            refine And.intro (fun h10 => ?_) (fun h10 => ?_)
            · have hF := cpos h10 hF
              refine join_no ?_
              refine Or.inl ?_
              refine obind hF fun b11 h12 hF => ?_
              refine ⟨ix_nn h12, _, ix_str h12, ?_⟩
              refine And.intro (fun h13 => ?_) (fun h13 => ?_)
              · have hF := cpos h13 hF
                exact Or.inl ⟨rfl, congrArg (Option.map rIsName_E) hF⟩
              · have hF := cneg h13 hF
                refine Or.inl ?_
                refine obind hF fun b14 h15 hF => ?_
                refine ⟨ix_nn h15, _, ix_str h15, ?_⟩
                refine And.intro (fun h16 => ?_) (fun h16 => ?_)
                · have hF := cpos h16 hF
                  exact Or.inl ⟨rfl, congrArg (Option.map rIsName_E) hF⟩
                · have hF := cneg h16 hF
                  refine And.intro (fun h17 => ?_) (fun h17 => ?_)
                  · have hF := cpos h17 hF
                    refine Or.inl ?_
                    refine obind hF fun b18 h19 hF => ?_
                    refine ⟨ix_nn h19, _, ix_str h19, ?_⟩
                    refine And.intro (fun h20 => ?_) (fun h20 => ?_)
                    · have hF := cpos h20 hF
                      refine Or.inl ?_
                      refine obind hF fun b21 h22 hF => ?_
                      refine ⟨ix_nn h22, _, ix_str h22, ?_⟩
                      refine And.intro (fun h23 => ?_) (fun h23 => ?_)
                      · have hF := cpos h23 hF
                        exact Or.inl ⟨rfl, congrArg (Option.map rIsName_E) hF⟩
                      · have hF := cneg h23 hF
                        exact ⟨(fu1, (IntKind.i64.wrap (i9 + 1))), Nat.lt_succ_self _, hF, ⟨rfl, rfl, trivial⟩, trivial⟩
                    · have hF := cneg h20 hF
                      exact ⟨(fu1, (IntKind.i64.wrap (i9 + 1))), Nat.lt_succ_self _, hF, ⟨rfl, rfl, trivial⟩, trivial⟩
                  · have hF := cneg h17 hF
                    exact ⟨(fu1, (IntKind.i64.wrap (i9 + 1))), Nat.lt_succ_self _, hF, ⟨rfl, rfl, trivial⟩, trivial⟩
            · have hF := cneg h10 hF
              exact Or.inl ⟨rfl, congrArg (Option.map rIsName_E) hF⟩
abbrev rIsName_S (s : Str) : Option (Bool) := rIsName_F (s.length + 1) s
theorem rIsName_h {s : Str} {r : Bool} (h : rIsName_S s = some r) : Holds Tryz.prog Gw 112 [S s] (rIsName_E r) := rIsName_Fh  h
abbrev rnames_E (y : Int) : CV := I y
def rnames_L1 (a : Aut) : Nat → Int → Option (Int)
  | 0, _ => none
  | fu1 + 1, i3 => bif decide (i3 < ((a.Names.map cNam).length : Int)) then (Option.bind (ix a.Names i3) fun x5 => Option.bind (rIsName_S x5.Text) fun y7 => bif (!y7) then some (4) else (Option.bind (rIsSpan_S x5.In) fun y10 => bif (!y10) then some (2) else (bif decide (x5.In.From < a.In.From) then some (10) else (bif decide (x5.In.Until > a.In.Until) then some (10) else (bif decide (i3 > 0) then (Option.bind (ix a.Names (IntKind.i64.wrap (i3 - 1))) fun x16 => bif decide (x5.In.From < x16.In.Until) then some (5) else rnames_L1 a fu1 (IntKind.i64.wrap (i3 + 1))) else rnames_L1 a fu1 (IntKind.i64.wrap (i3 + 1))))))) else some (0)
def rnames_F (N : Nat) (a : Aut) : Option (Int) := bif (((a.Names.map cNam).length : Int) == 0) then some (9) else (bif decide (((a.Names.map cNam).length : Int) > 16) then some (8) else rnames_L1 a N 0)
set_option linter.unusedVariables false in
theorem rnames_Fh {N : Nat} {a : Aut} {r : Int} (hF : rnames_F N a = some r) : Holds Tryz.prog Gw 108 [.agg (cAut a)] (rnames_E r) := by
  refine holds_of_wq tabOk mixed Tryz.func108 (by decide) rfl (Nat.le_of_ble_eq_true rfl) ?_
  refine Or.inl ?_
  refine And.intro (fun h1 => ?_) (fun h1 => ?_)
  · have hF := cpos h1 hF
    exact Or.inl ⟨rfl, congrArg (Option.map rnames_E) hF⟩
  · have hF := cneg h1 hF
    refine And.intro (fun h2 => ?_) (fun h2 => ?_)
    · have hF := cpos h2 hF
      exact Or.inl ⟨rfl, congrArg (Option.map rnames_E) hF⟩
    · have hF := cneg h2 hF
      refine loop_oq (fun p : Nat × Int => [(1, .pm 1 0 0), (3, .c (I p.2))]) (fun p : Nat × Int => [(1, .var [I a.ID, I a.Kind, I a.In.From, I a.In.Until, .sl 3 (a.Names.map cNam), .sl 1 (a.Next.map cInt)])]) (fun p => rnames_L1 a p.1 p.2 = some r) (fun p => p.1) (N, 0) hF ⟨rfl, rfl, trivial⟩ ⟨rfl, trivial⟩ ?_
      rintro ⟨fu1, i3⟩ hF
      cases fu1 with
      | zero => exact nomatch hF
      | succ fu1 =>
        refine And.intro (fun h4 => ?_) (fun h4 => ?_)
        · have hF := cpos h4 hF
          refine join_no ?_
          refine obind hF fun x5 h6 hF => ?_
          refine ⟨ix_nn h6, .inl rfl, _, ix_map cNam h6, ?_⟩
          refine Or.inl ?_
          refine obind hF fun y7 h8 hF => ?_
          refine Or.inl ⟨_, rIsName_h h8, rfl, ?_⟩
          refine And.intro (fun h9 => ?_) (fun h9 => ?_)
          · have hF := cpos h9 hF
            exact Or.inl ⟨rfl, congrArg (Option.map rnames_E) hF⟩
          · have hF := cneg h9 hF
            refine obind hF fun y10 h11 hF => ?_
            refine Or.inl ⟨_, rIsSpan_h h11, rfl, ?_⟩
            refine And.intro (fun h12 => ?_) (fun h12 => ?_)
            · have hF := cpos h12 hF
              exact Or.inl ⟨rfl, congrArg (Option.map rnames_E) hF⟩
            · have hF := cneg h12 hF
              refine And.intro (fun h13 => ?_) (fun h13 => ?_)
              · have hF := cpos h13 hF
                exact Or.inl ⟨rfl, congrArg (Option.map rnames_E) hF⟩
              · have hF := cneg h13 hF
                refine And.intro (fun h14 => ?_) (fun h14 => ?_)
                · have hF := cpos h14 hF
                  exact Or.inl ⟨rfl, congrArg (Option.map rnames_E) hF⟩
                · have hF := cneg h14 hF
                  refine And.intro (fun h15 => ?_) (fun h15 => ?_)
                  · have hF := cpos h15 hF
                    refine obind hF fun x16 h17 hF => ?_
                    refine ⟨ix_nn h17, .inl rfl, _, ix_map cNam h17, ?_⟩
                    refine And.intro (by kernel_rfl) ?_
                    refine And.intro (fun h18 => ?_) (fun h18 => ?_)
                    · have hF := cpos h18 hF
                      exact Or.inl ⟨rfl, congrArg (Option.map rnames_E) hF⟩
                    · have hF := cneg h18 hF
                      exact ⟨(fu1, (IntKind.i64.wrap (i3 + 1))), Nat.lt_succ_self _, hF, ⟨rfl, rfl, trivial⟩, ⟨rfl, trivial⟩⟩
                  · have hF := cneg h15 hF
                    refine And.intro (by kernel_rfl) ?_
                    exact ⟨(fu1, (IntKind.i64.wrap (i3 + 1))), Nat.lt_succ_self _, hF, ⟨rfl, rfl, trivial⟩, ⟨rfl, trivial⟩⟩
        · have hF := cneg h4 hF
          exact Or.inl ⟨rfl, congrArg (Option.map rnames_E) hF⟩
abbrev rnames_S (a : Aut) : Option (Int) := rnames_F (a.Names.length + 1) a
theorem rnames_h {a : Aut} {r : Int} (h : rnames_S a = some r) : Holds Tryz.prog Gw 108 [.agg (cAut a)] (rnames_E r) := rnames_Fh  h
abbrev rown_E (y : Int) : CV := I y
def rown_L1 (x1 : Aut) : Nat → Int → Option (Int)
  | 0, _ => none
  | fu1 + 1, k18 => bif decide (k18 < ((x1.Next.map cInt).length : Int)) then (Option.bind (ix x1.Next k18) fun x20 => Option.bind (ix x1.Next (IntKind.i64.wrap (k18 - 1))) fun x22 => bif decide (x20 ≤ x22) then some (5) else rown_L1 x1 fu1 (IntKind.i64.wrap (k18 + 1))) else some (0)
def rown_L2 (x1 : Aut) : Nat → Int → Option (Int)
  | 0, _ => none
  | fu2 + 1, k29 => bif decide (k29 < ((x1.Next.map cInt).length : Int)) then (Option.bind (ix x1.Next k29) fun x31 => Option.bind (ix x1.Next (IntKind.i64.wrap (k29 - 1))) fun x33 => bif decide (x31 ≤ x33) then some (5) else rown_L2 x1 fu2 (IntKind.i64.wrap (k29 + 1))) else some (0)
def rown_F (N : Nat) (l : List Aut) (i : Int) : Option (Int) := Option.bind (ix l i) fun x1 => bif decide (x1.ID < 1) then some (2) else (bif decide (x1.ID > 1073741824) then some (2) else (bif decide (x1.Kind < 1) then some (2) else (bif decide (x1.Kind > 3) then some (2) else (Option.bind (rIsSpan_S x1.In) fun y7 => bif (!y7) then some (2) else (bif decide (i > 0) then (Option.bind (ix l (IntKind.i64.wrap (i - 1))) fun x11 => bif decide (x1.ID ≤ x11.ID) then some (5) else (Option.bind (rnames_S x1) fun y14 => bif (y14 != 0) then some (y14) else (bif decide (((x1.Next.map cInt).length : Int) > 16) then some (8) else rown_L1 x1 N 1))) else (Option.bind (rnames_S x1) fun y25 => bif (y25 != 0) then some (y25) else (bif decide (((x1.Next.map cInt).length : Int) > 16) then some (8) else rown_L2 x1 N 1)))))))
set_option linter.unusedVariables false in
theorem rown_Fh {N : Nat} {l : List Aut} {i : Int} {r : Int} (hF : rown_F N l i = some r) : Holds Tryz.prog Gw 92 [.sl 6 (l.map cAut), I i] (rown_E r) := by
  refine holds_of_wq tabOk mixed Tryz.func92 (by decide) rfl (Nat.le_of_ble_eq_true rfl) ?_
  refine obind hF fun x1 h2 hF => ?_
  refine ⟨ix_nn h2, .inl rfl, _, ix_map cAut h2, ?_⟩
  refine Or.inl ?_
  refine And.intro (fun h3 => ?_) (fun h3 => ?_)
  · have hF := cpos h3 hF
    exact Or.inl ⟨rfl, congrArg (Option.map rown_E) hF⟩
  · have hF := cneg h3 hF
    refine And.intro (fun h4 => ?_) (fun h4 => ?_)
    · have hF := cpos h4 hF
      exact Or.inl ⟨rfl, congrArg (Option.map rown_E) hF⟩
    · have hF := cneg h4 hF
      refine And.intro (fun h5 => ?_) (fun h5 => ?_)
      · have hF := cpos h5 hF
        exact Or.inl ⟨rfl, congrArg (Option.map rown_E) hF⟩
      · have hF := cneg h5 hF
        refine And.intro (fun h6 => ?_) (fun h6 => ?_)
        · have hF := cpos h6 hF
          exact Or.inl ⟨rfl, congrArg (Option.map rown_E) hF⟩
        · have hF := cneg h6 hF
          refine obind hF fun y7 h8 hF => ?_
          refine Or.inl ⟨_, rIsSpan_h h8, rfl, ?_⟩
          refine And.intro (fun h9 => ?_) (fun h9 => ?_)
          · have hF := cpos h9 hF
            exact Or.inl ⟨rfl, congrArg (Option.map rown_E) hF⟩
          · have hF := cneg h9 hF
            refine And.intro (fun h10 => ?_) (fun h10 => ?_)
            · have hF := cpos h10 hF
              refine obind hF fun x11 h12 hF => ?_
              refine ⟨ix_nn h12, .inl rfl, _, ix_map cAut h12, ?_⟩
              refine And.intro (by kernel_rfl) ?_
              refine And.intro (fun h13 => ?_) (fun h13 => ?_)
              · have hF := cpos h13 hF
                exact Or.inl ⟨rfl, congrArg (Option.map rown_E) hF⟩
              · have hF := cneg h13 hF
                refine obind hF fun y14 h15 hF => ?_
                refine Or.inl ⟨_, rnames_h h15, rfl, ?_⟩
                refine And.intro (fun h16 => ?_) (fun h16 => ?_)
                · have hF := cpos h16 hF
                  exact Or.inl ⟨rfl, congrArg (Option.map rown_E) hF⟩
                · have hF := cneg h16 hF
                  refine And.intro (fun h17 => ?_) (fun h17 => ?_)
                  · have hF := cpos h17 hF
                    exact Or.inl ⟨rfl, congrArg (Option.map rown_E) hF⟩
                  · have hF := cneg h17 hF
                    refine loop_oq (fun p : Nat × Int => [(5, .pm 5 0 0), (7, .c (I p.2))]) (fun p : Nat × Int => [(5, .var [I x1.ID, I x1.Kind, I x1.In.From, I x1.In.Until, .sl 3 (x1.Names.map cNam), .sl 1 (x1.Next.map cInt)])]) (fun p => rown_L1 x1 p.1 p.2 = some r) (fun p => p.1) (N, 1) hF ⟨rfl, rfl, trivial⟩ ⟨rfl, trivial⟩ ?_
                    rintro ⟨fu1, k18⟩ hF
                    cases fu1 with
                    | zero => exact nomatch hF
                    | succ fu1 =>
                      refine And.intro (fun h19 => ?_) (fun h19 => ?_)
                      · have hF := cpos h19 hF
                        refine join_no ?_
                        refine obind hF fun x20 h21 hF => ?_
                        refine ⟨ix_nn h21, .inl rfl, _, ix_map cInt h21, ?_⟩
                        refine obind hF fun x22 h23 hF => ?_
                        refine ⟨ix_nn h23, .inl rfl, _, ix_map cInt h23, ?_⟩
                        refine And.intro (by kernel_rfl) ?_
                        refine And.intro (fun h24 => ?_) (fun h24 => ?_)
                        · have hF := cpos h24 hF
                          exact Or.inl ⟨rfl, congrArg (Option.map rown_E) hF⟩
                        · have hF := cneg h24 hF
                          exact ⟨(fu1, (IntKind.i64.wrap (k18 + 1))), Nat.lt_succ_self _, hF, ⟨rfl, rfl, trivial⟩, ⟨rfl, trivial⟩⟩
                      · have hF := cneg h19 hF
                        exact Or.inl ⟨rfl, congrArg (Option.map rown_E) hF⟩
            · have hF := cneg h10 hF
              refine And.intro (by kernel_rfl) ?_
              refine obind hF fun y25 h26 hF => ?_
              refine Or.inl ⟨_, rnames_h h26, rfl, ?_⟩
              refine And.intro (fun h27 => ?_) (fun h27 => ?_)
              · have hF := cpos h27 hF
                exact Or.inl ⟨rfl, congrArg (Option.map rown_E) hF⟩
              · have hF := cneg h27 hF
                refine And.intro (fun h28 => ?_) (fun h28 => ?_)
                · have hF := cpos h28 hF
                  exact Or.inl ⟨rfl, congrArg (Option.map rown_E) hF⟩
                · have hF := cneg h28 hF
                  refine loop_oq (fun p : Nat × Int => [(5, .pm 5 0 0), (7, .c (I p.2))]) (fun p : Nat × Int => [(5, .var [I x1.ID, I x1.Kind, I x1.In.From, I x1.In.Until, .sl 3 (x1.Names.map cNam), .sl 1 (x1.Next.map cInt)])]) (fun p => rown_L2 x1 p.1 p.2 = some r) (fun p => p.1) (N, 1) hF ⟨rfl, rfl, trivial⟩ ⟨rfl, trivial⟩ ?_
                  rintro ⟨fu2, k29⟩ hF
                  cases fu2 with
                  | zero => exact nomatch hF
                  | succ fu2 =>
                    refine And.intro (fun h30 => ?_) (fun h30 => ?_)
                    · have hF := cpos h30 hF
                      refine join_no ?_
                      refine obind hF fun x31 h32 hF => ?_
                      refine ⟨ix_nn h32, .inl rfl, _, ix_map cInt h32, ?_⟩
                      refine obind hF fun x33 h34 hF => ?_
                      refine ⟨ix_nn h34, .inl rfl, _, ix_map cInt h34, ?_⟩
                      refine And.intro (by kernel_rfl) ?_
                      refine And.intro (fun h35 => ?_) (fun h35 => ?_)
                      · have hF := cpos h35 hF
                        exact Or.inl ⟨rfl, congrArg (Option.map rown_E) hF⟩
                      · have hF := cneg h35 hF
                        exact ⟨(fu2, (IntKind.i64.wrap (k29 + 1))), Nat.lt_succ_self _, hF, ⟨rfl, rfl, trivial⟩, ⟨rfl, trivial⟩⟩
                    · have hF := cneg h30 hF
                      exact Or.inl ⟨rfl, congrArg (Option.map rown_E) hF⟩
abbrev rown_S (l : List Aut) (i : Int) : Option (Int) := rown_F 100 l i
theorem rown_h {l : List Aut} {i : Int} {r : Int} (h : rown_S l i = some r) : Holds Tryz.prog Gw 92 [.sl 6 (l.map cAut), I i] (rown_E r) := rown_Fh  h
abbrev rFind_E (y : Aut × Bool) : CV := .tup [.agg (cAut y.1), B y.2]
def rFind_L1 (l : List Aut) (id : Int) : Nat → Int → Option (Aut × Bool)
  | 0, _ => none
  | fu1 + 1, i1 => bif decide (i1 < ((l.map cAut).length : Int)) then (Option.bind (ix l i1) fun x3 => bif (x3.ID == id) then (Option.bind (ix l i1) fun x6 => some (x6, true)) else rFind_L1 l id fu1 (IntKind.i64.wrap (i1 + 1))) else some ((⟨0, 0, (⟨0, 0⟩ : Span), ([] : List Nam), ([] : List Int)⟩ : Aut), false)
def rFind_F (N : Nat) (l : List Aut) (id : Int) : Option (Aut × Bool) := rFind_L1 l id N 0
set_option linter.unusedVariables false in
theorem rFind_Fh {N : Nat} {l : List Aut} {id : Int} {r : Aut × Bool} (hF : rFind_F N l id = some r) : Holds Tryz.prog Gw 57 [.sl 6 (l.map cAut), I id] (rFind_E r) := by
  refine holds_of_wq tabOk mixed Tryz.func57 (by decide) rfl (Nat.le_of_ble_eq_true rfl) ?_
  refine Or.inl ?_
  refine loop_oq (fun p : Nat × Int => [(0, .c (.sl 6 (l.map cAut))), (1, .c (I id)), (4, .pm 4 0 0), (6, .c (I p.2))]) (fun p : Nat × Int => [(4, .var [I 0, I 0, I 0, I 0, .sl 3 (([] : List Nam).map cNam), .sl 1 (([] : List Int).map cInt)])]) (fun p => rFind_L1 l id p.1 p.2 = some r) (fun p => p.1) (N, 0) hF ⟨rfl, rfl, rfl, rfl, trivial⟩ ⟨rfl, trivial⟩ ?_
  rintro ⟨fu1, i1⟩ hF
  cases fu1 with
  | zero => exact nomatch hF
  | succ fu1 =>
    refine And.intro (fun h2 => ?_) (fun h2 => ?_)
    · have hF := cpos h2 hF
      refine join_no ?_
      refine obind hF fun x3 h4 hF => ?_
      refine ⟨ix_nn h4, .inl rfl, _, ix_map cAut h4, ?_⟩
      refine And.intro (fun h5 => ?_) (fun h5 => ?_)
      · have hF := cpos h5 hF
        refine obind hF fun x6 h7 hF => ?_
        refine ⟨ix_nn h7, .inl rfl, _, ix_map cAut h7, ?_⟩
        exact Or.inl ⟨rfl, congrArg (Option.map rFind_E) hF⟩
      · have hF := cneg h5 hF
        exact ⟨(fu1, (IntKind.i64.wrap (i1 + 1))), Nat.lt_succ_self _, hF, ⟨rfl, rfl, rfl, rfl, trivial⟩, ⟨rfl, trivial⟩⟩
    · have hF := cneg h2 hF
      refine Or.inl ?_
      exact Or.inl ⟨rfl, congrArg (Option.map rFind_E) hF⟩
abbrev rFind_S (l : List Aut) (id : Int) : Option (Aut × Bool) := rFind_F (l.length + 1) l id
theorem rFind_h {l : List Aut} {id : Int} {r : Aut × Bool} (h : rFind_S l id = some r) : Holds Tryz.prog Gw 57 [.sl 6 (l.map cAut), I id] (rFind_E r) := rFind_Fh  h
abbrev rnext_E (y : Int) : CV := I y
def rnext_L3 (l : List Aut) (a : Aut) : Nat → Int → Option (Int)
  | 0, _ => none
  | fu3 + 1, i15 => bif decide (i15 < ((a.Next.map cInt).length : Int)) then (Option.bind (ix a.Next i15) fun x17 => Option.bind (rFind_S l x17) fun y19 => bif (y19.1.In.From != a.In.Until) then some (16) else rnext_L3 l a fu3 (IntKind.i64.wrap (i15 + 1))) else some (0)
def rnext_L2 (l : List Aut) (a : Aut) (N : Nat) : Nat → Int → Option (Int)
  | 0, _ => none
  | fu2 + 1, i8 => bif decide (i8 < ((a.Next.map cInt).length : Int)) then (Option.bind (ix a.Next i8) fun x10 => Option.bind (rFind_S l x10) fun y12 => bif (y12.1.Kind != a.Kind) then some (10) else rnext_L2 l a N fu2 (IntKind.i64.wrap (i8 + 1))) else rnext_L3 l a N 0
def rnext_L1 (l : List Aut) (a : Aut) (N : Nat) : Nat → Int → Option (Int)
  | 0, _ => none
  | fu1 + 1, i1 => bif decide (i1 < ((a.Next.map cInt).length : Int)) then (Option.bind (ix a.Next i1) fun x3 => Option.bind (rFind_S l x3) fun y5 => bif (!y5.2) then some (7) else rnext_L1 l a N fu1 (IntKind.i64.wrap (i1 + 1))) else rnext_L2 l a N N 0
def rnext_F (N : Nat) (l : List Aut) (a : Aut) : Option (Int) := rnext_L1 l a N N 0
set_option linter.unusedVariables false in
theorem rnext_Fh {N : Nat} {l : List Aut} {a : Aut} {r : Int} (hF : rnext_F N l a = some r) : Holds Tryz.prog Gw 93 [.sl 6 (l.map cAut), .agg (cAut a)] (rnext_E r) := by
  refine holds_of_wq tabOk mixed Tryz.func93 (by decide) rfl (Nat.le_of_ble_eq_true rfl) ?_
  refine Or.inl ?_
  refine loop_oq (fun p : Nat × Int => [(0, .c (.sl 6 (l.map cAut))), (3, .pm 3 0 0), (5, .c (I p.2))]) (fun p : Nat × Int => [(3, .var [I a.ID, I a.Kind, I a.In.From, I a.In.Until, .sl 3 (a.Names.map cNam), .sl 1 (a.Next.map cInt)])]) (fun p => rnext_L1 l a N p.1 p.2 = some r) (fun p => p.1) (N, 0) hF ⟨rfl, rfl, rfl, trivial⟩ ⟨rfl, trivial⟩ ?_
  rintro ⟨fu1, i1⟩ hF
  cases fu1 with
  | zero => exact nomatch hF
  | succ fu1 =>
    refine And.intro (fun h2 => ?_) (fun h2 => ?_)
    · have hF := cpos h2 hF
      refine join_no ?_
      refine obind hF fun x3 h4 hF => ?_
      refine ⟨ix_nn h4, .inl rfl, _, ix_map cInt h4, ?_⟩
      refine obind hF fun y5 h6 hF => ?_
      refine Or.inl ⟨_, rFind_h h6, rfl, ?_⟩
      refine Or.inl ?_
      refine And.intro (fun h7 => ?_) (fun h7 => ?_)
      · have hF := cpos h7 hF
        exact Or.inl ⟨rfl, congrArg (Option.map rnext_E) hF⟩
      · have hF := cneg h7 hF
        exact ⟨(fu1, (IntKind.i64.wrap (i1 + 1))), Nat.lt_succ_self _, hF, ⟨rfl, rfl, rfl, trivial⟩, ⟨rfl, trivial⟩⟩
    · have hF := cneg h2 hF
      refine loop_oq (fun p : Nat × Int => [(0, .c (.sl 6 (l.map cAut))), (3, .pm 3 0 0), (8, .c (I p.2))]) (fun p : Nat × Int => [(3, .var [I a.ID, I a.Kind, I a.In.From, I a.In.Until, .sl 3 (a.Names.map cNam), .sl 1 (a.Next.map cInt)])]) (fun p => rnext_L2 l a N p.1 p.2 = some r) (fun p => p.1) (N, 0) hF ⟨rfl, rfl, rfl, trivial⟩ ⟨rfl, trivial⟩ ?_
      rintro ⟨fu2, i8⟩ hF
      cases fu2 with
      | zero => exact nomatch hF
      | succ fu2 =>
        refine And.intro (fun h9 => ?_) (fun h9 => ?_)
        · have hF := cpos h9 hF
          refine join_no ?_
          refine obind hF fun x10 h11 hF => ?_
          refine ⟨ix_nn h11, .inl rfl, _, ix_map cInt h11, ?_⟩
          refine obind hF fun y12 h13 hF => ?_
          refine Or.inl ⟨_, rFind_h h13, rfl, ?_⟩
          refine Or.inl ?_
          refine And.intro (fun h14 => ?_) (fun h14 => ?_)
          · have hF := cpos h14 hF
            exact Or.inl ⟨rfl, congrArg (Option.map rnext_E) hF⟩
          · have hF := cneg h14 hF
            exact ⟨(fu2, (IntKind.i64.wrap (i8 + 1))), Nat.lt_succ_self _, hF, ⟨rfl, rfl, rfl, trivial⟩, ⟨rfl, trivial⟩⟩
        · have hF := cneg h9 hF
          refine loop_oq (fun p : Nat × Int => [(0, .c (.sl 6 (l.map cAut))), (3, .pm 3 0 0), (11, .c (I p.2))]) (fun p : Nat × Int => [(3, .var [I a.ID, I a.Kind, I a.In.From, I a.In.Until, .sl 3 (a.Names.map cNam), .sl 1 (a.Next.map cInt)])]) (fun p => rnext_L3 l a p.1 p.2 = some r) (fun p => p.1) (N, 0) hF ⟨rfl, rfl, rfl, trivial⟩ ⟨rfl, trivial⟩ ?_
          rintro ⟨fu3, i15⟩ hF
          cases fu3 with
          | zero => exact nomatch hF
          | succ fu3 =>
            refine And.intro (fun h16 => ?_) (fun h16 => ?_)
            · have hF := cpos h16 hF
              refine join_no ?_
              refine obind hF fun x17 h18 hF => ?_
              refine ⟨ix_nn h18, .inl rfl, _, ix_map cInt h18, ?_⟩
              refine obind hF fun y19 h20 hF => ?_
              refine Or.inl ⟨_, rFind_h h20, rfl, ?_⟩
              refine Or.inl ?_
              refine And.intro (fun h21 => ?_) (fun h21 => ?_)
              · have hF := cpos h21 hF
                exact Or.inl ⟨rfl, congrArg (Option.map rnext_E) hF⟩
              · have hF := cneg h21 hF
                exact ⟨(fu3, (IntKind.i64.wrap (i15 + 1))), Nat.lt_succ_self _, hF, ⟨rfl, rfl, rfl, trivial⟩, ⟨rfl, trivial⟩⟩
            · have hF := cneg h16 hF
              exact Or.inl ⟨rfl, congrArg (Option.map rnext_E) hF⟩
abbrev rnext_S (l : List Aut) (a : Aut) : Option (Int) := rnext_F (a.Next.length + 1) l a
theorem rnext_h {l : List Aut} {a : Aut} {r : Int} (h : rnext_S l a = some r) : Holds Tryz.prog Gw 93 [.sl 6 (l.map cAut), .agg (cAut a)] (rnext_E r) := rnext_Fh  h
abbrev rCheck_E (y : Int × Int) : CV := .tup [I y.1, I y.2]
def rCheck_L2 (l : List Aut) : Nat → Int → Option (Int × Int)
  | 0, _ => none
  | fu2 + 1, i7 => bif decide (i7 < ((l.map cAut).length : Int)) then (Option.bind (ix l i7) fun x9 => Option.bind (rnext_S l x9) fun y11 => bif (y11 != 0) then some (i7, y11) else rCheck_L2 l fu2 (IntKind.i64.wrap (i7 + 1))) else some ((-1), 0)
def rCheck_L1 (l : List Aut) (N : Nat) : Nat → Int → Option (Int × Int)
  | 0, _ => none
  | fu1 + 1, i2 => bif decide (i2 < ((l.map cAut).length : Int)) then (Option.bind (rown_S l i2) fun y4 => bif (y4 != 0) then some (i2, y4) else rCheck_L1 l N fu1 (IntKind.i64.wrap (i2 + 1))) else rCheck_L2 l N 0
def rCheck_F (N : Nat) (l : List Aut) : Option (Int × Int) := bif decide (((l.map cAut).length : Int) > 64) then some ((-1), 8) else rCheck_L1 l N N 0
set_option linter.unusedVariables false in
theorem rCheck_Fh {N : Nat} {l : List Aut} {r : Int × Int} (hF : rCheck_F N l = some r) : Holds Tryz.prog Gw 72 [.sl 6 (l.map cAut)] (rCheck_E r) := by
  refine holds_of_wq tabOk mixed Tryz.func72 (by decide) rfl (Nat.le_of_ble_eq_true rfl) ?_
  refine And.intro (fun h1 => ?_) (fun h1 => ?_)
  · have hF := cpos h1 hF
    exact Or.inl ⟨rfl, congrArg (Option.map rCheck_E) hF⟩
  · have hF := cneg h1 hF
    refine loop_oq (fun p : Nat × Int => [(0, .c (.sl 6 (l.map cAut))), (4, .c (I p.2))]) (fun _ => []) (fun p => rCheck_L1 l N p.1 p.2 = some r) (fun p => p.1) (N, 0) hF ⟨rfl, rfl, trivial⟩ trivial ?_
    rintro ⟨fu1, i2⟩ hF
    cases fu1 with
    | zero => exact nomatch hF
    | succ fu1 =>
      refine And.intro (fun h3 => ?_) (fun h3 => ?_)
      · have hF := cpos h3 hF
        refine join_no ?_
        refine obind hF fun y4 h5 hF => ?_
        refine Or.inl ⟨_, rown_h h5, rfl, ?_⟩
        refine And.intro (fun h6 => ?_) (fun h6 => ?_)
        · have hF := cpos h6 hF
          exact Or.inl ⟨rfl, congrArg (Option.map rCheck_E) hF⟩
        · have hF := cneg h6 hF
          exact ⟨(fu1, (IntKind.i64.wrap (i2 + 1))), Nat.lt_succ_self _, hF, ⟨rfl, rfl, trivial⟩, trivial⟩
      · have hF := cneg h3 hF
        refine loop_oq (fun p : Nat × Int => [(0, .c (.sl 6 (l.map cAut))), (6, .c (I p.2))]) (fun _ => []) (fun p => rCheck_L2 l p.1 p.2 = some r) (fun p => p.1) (N, 0) hF ⟨rfl, rfl, trivial⟩ trivial ?_
        rintro ⟨fu2, i7⟩ hF
        cases fu2 with
        | zero => exact nomatch hF
        | succ fu2 =>
          refine And.intro (fun h8 => ?_) (fun h8 => ?_)
          · have hF := cpos h8 hF
            refine join_no ?_
            refine obind hF fun x9 h10 hF => ?_
            refine ⟨ix_nn h10, .inl rfl, _, ix_map cAut h10, ?_⟩
            refine obind hF fun y11 h12 hF => ?_
            refine Or.inl ⟨_, rnext_h h12, rfl, ?_⟩
            refine And.intro (fun h13 => ?_) (fun h13 => ?_)
            · have hF := cpos h13 hF
              exact Or.inl ⟨rfl, congrArg (Option.map rCheck_E) hF⟩
            · have hF := cneg h13 hF
              exact ⟨(fu2, (IntKind.i64.wrap (i7 + 1))), Nat.lt_succ_self _, hF, ⟨rfl, rfl, trivial⟩, trivial⟩
          · have hF := cneg h8 hF
            exact Or.inl ⟨rfl, congrArg (Option.map rCheck_E) hF⟩
abbrev rCheck_S (l : List Aut) : Option (Int × Int) := rCheck_F (l.length + 1) l
theorem rCheck_h {l : List Aut} {r : Int × Int} (h : rCheck_S l = some r) : Holds Tryz.prog Gw 72 [.sl 6 (l.map cAut)] (rCheck_E r) := rCheck_Fh  h
abbrev rRight_E (y : Bool) : CV := B y
def rRight_F (l : List Aut) : Option (Bool) := Option.bind (rCheck_S l) fun y1 => some ((y1.2 == 0))
set_option linter.unusedVariables false in
theorem rRight_Fh {l : List Aut} {r : Bool} (hF : rRight_F l = some r) : Holds Tryz.prog Gw 52 [.sl 6 (l.map cAut)] (rRight_E r) := by
  refine holds_of_wq tabOk mixed Tryz.func52 (by decide) rfl (Nat.le_of_ble_eq_true rfl) ?_
  refine obind hF fun y1 h2 hF => ?_
  refine Or.inl ⟨_, rCheck_h h2, rfl, ?_⟩
  exact Or.inl ⟨rfl, congrArg (Option.map rRight_E) hF⟩
abbrev rRight_S (l : List Aut) : Option (Bool) := rRight_F l
theorem rRight_h {l : List Aut} {r : Bool} (h : rRight_S l = some r) : Holds Tryz.prog Gw 52 [.sl 6 (l.map cAut)] (rRight_E r) := rRight_Fh  h
abbrev qknown_E (y : Int) : CV := I y
def qknown_F (l : List Aut) (id : Int) : Option (Int) := Option.bind (rRight_S l) fun y1 => bif (!y1) then some (1) else (Option.bind (rFind_S l id) fun y4 => bif (!y4.2) then some (7) else some (0))
set_option linter.unusedVariables false in
theorem qknown_Fh {l : List Aut} {id : Int} {r : Int} (hF : qknown_F l id = some r) : Holds Tryz.prog Gw 30 [.sl 6 (l.map cAut), I id] (qknown_E r) := by
  refine holds_of_wq tabOk mixed Tryz.func30 (by decide) rfl (Nat.le_of_ble_eq_true rfl) ?_
  refine obind hF fun y1 h2 hF => ?_
  refine Or.inl ⟨_, rRight_h h2, rfl, ?_⟩
  refine And.intro (fun h3 => ?_) (fun h3 => ?_)
  · have hF := cpos h3 hF
    exact Or.inl ⟨rfl, congrArg (Option.map qknown_E) hF⟩
  · have hF := cneg h3 hF
    refine obind hF fun y4 h5 hF => ?_
    refine Or.inl ⟨_, rFind_h h5, rfl, ?_⟩
    refine Or.inl ?_
    refine And.intro (fun h6 => ?_) (fun h6 => ?_)
    · have hF := cpos h6 hF
      exact Or.inl ⟨rfl, congrArg (Option.map qknown_E) hF⟩
    · have hF := cneg h6 hF
      exact Or.inl ⟨rfl, congrArg (Option.map qknown_E) hF⟩
abbrev qknown_S (l : List Aut) (id : Int) : Option (Int) := qknown_F l id
theorem qknown_h {l : List Aut} {id : Int} {r : Int} (h : qknown_S l id = some r) : Holds Tryz.prog Gw 30 [.sl 6 (l.map cAut), I id] (qknown_E r) := qknown_Fh  h
abbrev qhas_E (y : Bool) : CV := B y
def qhas_L1 (l : List Int) (n : Int) : Nat → Int → Option (Bool)
  | 0, _ => none
  | fu1 + 1, i1 => bif decide (i1 < ((l.map cInt).length : Int)) then (Option.bind (ix l i1) fun x3 => bif (x3 == n) then some (true) else qhas_L1 l n fu1 (IntKind.i64.wrap (i1 + 1))) else some (false)
def qhas_F (N : Nat) (l : List Int) (n : Int) : Option (Bool) := qhas_L1 l n N 0
set_option linter.unusedVariables false in
theorem qhas_Fh {N : Nat} {l : List Int} {n : Int} {r : Bool} (hF : qhas_F N l n = some r) : Holds Tryz.prog Gw 39 [.sl 1 (l.map cInt), I n] (qhas_E r) := by
  refine holds_of_wq tabOk mixed Tryz.func39 (by decide) rfl (Nat.le_of_ble_eq_true rfl) ?_
  refine loop_oq (fun p : Nat × Int => [(0, .c (.sl 1 (l.map cInt))), (1, .c (I n)), (5, .c (I p.2))]) (fun _ => []) (fun p => qhas_L1 l n p.1 p.2 = some r) (fun p => p.1) (N, 0) hF ⟨rfl, rfl, rfl, trivial⟩ trivial ?_
  rintro ⟨fu1, i1⟩ hF
  cases fu1 with
  | zero => exact nomatch hF
  | succ fu1 =>
    refine And.intro (fun h2 => ?_) (fun h2 => ?_)
    · have hF := cpos h2 hF
      refine join_no ?_
      refine obind hF fun x3 h4 hF => ?_
      refine ⟨ix_nn h4, .inl rfl, _, ix_map cInt h4, ?_⟩
      refine And.intro (fun h5 => ?_) (fun h5 => ?_)
      · have hF := cpos h5 hF
        exact Or.inl ⟨rfl, congrArg (Option.map qhas_E) hF⟩
      · have hF := cneg h5 hF
        exact ⟨(fu1, (IntKind.i64.wrap (i1 + 1))), Nat.lt_succ_self _, hF, ⟨rfl, rfl, rfl, trivial⟩, trivial⟩
    · have hF := cneg h2 hF
      exact Or.inl ⟨rfl, congrArg (Option.map qhas_E) hF⟩
abbrev qhas_S (l : List Int) (n : Int) : Option (Bool) := qhas_F 1000 l n
theorem qhas_h {l : List Int} {n : Int} {r : Bool} (h : qhas_S l n = some r) : Holds Tryz.prog Gw 39 [.sl 1 (l.map cInt), I n] (qhas_E r) := qhas_Fh  h
abbrev qbefore_E (y : List Int) : CV := .sl 1 (y.map cInt)
def qbefore_L1 (l : List Aut) (id : Int) : Nat → List Int → Int → Option (List Int)
  | 0, _, _ => none
  | fu1 + 1, out1, i2 => bif decide (i2 < ((l.map cAut).length : Int)) then (Option.bind (ix l i2) fun x4 => Option.bind (qhas_S x4.Next id) fun y6 => bif y6 then (Option.bind (ix l i2) fun x9 => bif decide (out1.length + ([x9.ID] : List Int).length ≤ 4294967296) then qbefore_L1 l id fu1 (out1 ++ ([x9.ID] : List Int)) (IntKind.i64.wrap (i2 + 1)) else none) else qbefore_L1 l id fu1 out1 (IntKind.i64.wrap (i2 + 1))) else some (out1)
def qbefore_F (N : Nat) (l : List Aut) (id : Int) : Option (List Int) := qbefore_L1 l id N ([] : List Int) 0
set_option linter.unusedVariables false in
theorem qbefore_Fh {N : Nat} {l : List Aut} {id : Int} {r : List Int} (hF : qbefore_F N l id = some r) : Holds Tryz.prog Gw 51 [.sl 6 (l.map cAut), I id] (qbefore_E r) := by
  refine holds_of_wq tabOk mixed Tryz.func51 (by decide) rfl (Nat.le_of_ble_eq_true rfl) ?_
  refine Or.inl ?_
  refine Or.inl ?_
  refine loop_oq (fun p : Nat × List Int × Int => [(0, .c (.sl 6 (l.map cAut))), (1, .c (I id)), (5, .ap 5 0 1 (p.2.1.map cInt)), (6, .c (I p.2.2))]) (fun p : Nat × List Int × Int => [(5, .tok 3 1)]) (fun p => qbefore_L1 l id p.1 p.2.1 p.2.2 = some r) (fun p => p.1) (N, ([] : List Int), 0) hF ⟨rfl, rfl, rfl, rfl, trivial⟩ ⟨rfl, trivial⟩ ?_
  rintro ⟨fu1, out1, i2⟩ hF
  cases fu1 with
  | zero => exact nomatch hF
  | succ fu1 =>
    refine And.intro (fun h3 => ?_) (fun h3 => ?_)
    · have hF := cpos h3 hF
      refine join_no ?_
      refine obind hF fun x4 h5 hF => ?_
      refine ⟨ix_nn h5, .inl rfl, _, ix_map cAut h5, ?_⟩
      refine obind hF fun y6 h7 hF => ?_
      refine Or.inl ⟨_, qhas_h h7, rfl, ?_⟩
      refine And.intro (fun h8 => ?_) (fun h8 => ?_)
      · have hF := cpos h8 hF
        refine obind hF fun x9 h10 hF => ?_
        refine ⟨ix_nn h10, .inl rfl, _, ix_map cAut h10, ?_⟩
        refine Or.inl ?_
        refine gpos hF fun h11 hF => ?_
        refine Or.inl ⟨len_all rfl, app_le (f := cInt) h11, (out1 ++ ([x9.ID] : List Int)).map cInt, map_app _ _ _, ?_⟩
        exact ⟨(fu1, (out1 ++ ([x9.ID] : List Int)), (IntKind.i64.wrap (i2 + 1))), Nat.lt_succ_self _, hF, ⟨rfl, rfl, rfl, rfl, trivial⟩, ⟨rfl, trivial⟩⟩
      · have hF := cneg h8 hF
        exact ⟨(fu1, out1, (IntKind.i64.wrap (i2 + 1))), Nat.lt_succ_self _, hF, ⟨rfl, rfl, rfl, rfl, trivial⟩, ⟨rfl, trivial⟩⟩
    · have hF := cneg h3 hF
      exact Or.inl ⟨rfl, congrArg (Option.map qbefore_E) hF⟩
abbrev qbefore_S (l : List Aut) (id : Int) : Option (List Int) := qbefore_F 1000 l id
theorem qbefore_h {l : List Aut} {id : Int} {r : List Int} (h : qbefore_S l id = some r) : Holds Tryz.prog Gw 51 [.sl 6 (l.map cAut), I id] (qbefore_E r) := qbefore_Fh  h
abbrev qstep_E (y : List Int) : CV := .sl 1 (y.map cInt)
def qstep_F (l : List Aut) (id : Int) (back : Bool) : Option (List Int) := bif back then (Option.bind (qbefore_S l id) fun y2 => some (y2)) else (Option.bind (rFind_S l id) fun y4 => some (y4.1.Next))
set_option linter.unusedVariables false in
theorem qstep_Fh {l : List Aut} {id : Int} {back : Bool} {r : List Int} (hF : qstep_F l id back = some r) : Holds Tryz.prog Gw 58 [.sl 6 (l.map cAut), I id, B back] (qstep_E r) := by
  refine holds_of_wq tabOk mixed Tryz.func58 (by decide) rfl (Nat.le_of_ble_eq_true rfl) ?_
  refine Or.inl ?_
  refine And.intro (fun h1 => ?_) (fun h1 => ?_)
  · have hF := cpos h1 hF
    refine obind hF fun y2 h3 hF => ?_
    refine Or.inl ⟨_, qbefore_h h3, rfl, ?_⟩
    exact Or.inl ⟨rfl, congrArg (Option.map qstep_E) hF⟩
  · have hF := cneg h1 hF
    refine obind hF fun y4 h5 hF => ?_
    refine Or.inl ⟨_, rFind_h h5, rfl, ?_⟩
    refine Or.inl ?_
    exact Or.inl ⟨rfl, congrArg (Option.map qstep_E) hF⟩
abbrev qstep_S (l : List Aut) (id : Int) (back : Bool) : Option (List Int) := qstep_F l id back
theorem qstep_h {l : List Aut} {id : Int} {back : Bool} {r : List Int} (h : qstep_S l id back = some r) : Holds Tryz.prog Gw 58 [.sl 6 (l.map cAut), I id, B back] (qstep_E r) := qstep_Fh  h
abbrev rInsert_E (y : List Int) : CV := .sl 1 (y.map cInt)
def rInsert_L1 (l : List Int) (n : Int) : Nat → Int → Option (List Int)
  | 0, _ => none
  | fu1 + 1, v1 => bif decide (v1 < ((l.map cInt).length : Int)) then (Option.bind (ix l v1) fun x3 => bif decide (x3 < n) then rInsert_L1 l n fu1 (IntKind.i64.wrap (v1 + 1)) else (bif decide (v1 < ((l.map cInt).length : Int)) then (Option.bind (ix l v1) fun x7 => bif (x7 == n) then some (l) else (Option.bind (slc l 0 v1) fun y10 => bif decide (([] : List Int).length + y10.length ≤ 4294967296) then bif decide ((([] : List Int) ++ y10).length + ([n] : List Int).length ≤ 4294967296) then Option.bind (slc l v1 (l.length : Int)) fun y12 => bif decide (((([] : List Int) ++ y10) ++ ([n] : List Int)).length + y12.length ≤ 4294967296) then some ((((([] : List Int) ++ y10) ++ ([n] : List Int)) ++ y12)) else none else none else none)) else (Option.bind (slc l 0 v1) fun y17 => bif decide (([] : List Int).length + y17.length ≤ 4294967296) then bif decide ((([] : List Int) ++ y17).length + ([n] : List Int).length ≤ 4294967296) then Option.bind (slc l v1 (l.length : Int)) fun y19 => bif decide (((([] : List Int) ++ y17) ++ ([n] : List Int)).length + y19.length ≤ 4294967296) then some ((((([] : List Int) ++ y17) ++ ([n] : List Int)) ++ y19)) else none else none else none))) else (bif decide (v1 < ((l.map cInt).length : Int)) then (Option.bind (ix l v1) fun x25 => bif (x25 == n) then some (l) else (Option.bind (slc l 0 v1) fun y28 => bif decide (([] : List Int).length + y28.length ≤ 4294967296) then bif decide ((([] : List Int) ++ y28).length + ([n] : List Int).length ≤ 4294967296) then Option.bind (slc l v1 (l.length : Int)) fun y30 => bif decide (((([] : List Int) ++ y28) ++ ([n] : List Int)).length + y30.length ≤ 4294967296) then some ((((([] : List Int) ++ y28) ++ ([n] : List Int)) ++ y30)) else none else none else none)) else (Option.bind (slc l 0 v1) fun y35 => bif decide (([] : List Int).length + y35.length ≤ 4294967296) then bif decide ((([] : List Int) ++ y35).length + ([n] : List Int).length ≤ 4294967296) then Option.bind (slc l v1 (l.length : Int)) fun y37 => bif decide (((([] : List Int) ++ y35) ++ ([n] : List Int)).length + y37.length ≤ 4294967296) then some ((((([] : List Int) ++ y35) ++ ([n] : List Int)) ++ y37)) else none else none else none))
def rInsert_F (N : Nat) (l : List Int) (n : Int) : Option (List Int) := rInsert_L1 l n N 0
set_option linter.unusedVariables false in
theorem rInsert_Fh {N : Nat} {l : List Int} {n : Int} {r : List Int} (hF : rInsert_F N l n = some r) : Holds Tryz.prog Gw 59 [.sl 1 (l.map cInt), I n] (rInsert_E r) := by
  refine holds_of_wq tabOk mixed Tryz.func59 (by decide) rfl (Nat.le_of_ble_eq_true rfl) ?_
  refine Or.inl ?_
  refine join_no ?_
  refine loop_oq (fun p : Nat × Int => [(0, .c (.sl 1 (l.map cInt))), (1, .c (I n)), (5, .c (I p.2))]) (fun _ => []) (fun p => rInsert_L1 l n p.1 p.2 = some r) (fun p => p.1) (N, 0) hF ⟨rfl, rfl, rfl, trivial⟩ trivial ?_
  rintro ⟨fu1, v1⟩ hF
  cases fu1 with
  | zero => exact nomatch hF
  | succ fu1 =>
    refine And.intro (fun h2 => ?_) (fun h2 => ?_)
    · have hF := cpos h2 hF
      refine obind hF fun x3 h4 hF => ?_
      refine ⟨ix_nn h4, .inl rfl, _, ix_map cInt h4, ?_⟩
      refine And.intro (fun h5 => ?_) (fun h5 => ?_)
      · have hF := cpos h5 hF
        exact ⟨(fu1, (IntKind.i64.wrap (v1 + 1))), Nat.lt_succ_self _, hF, ⟨rfl, rfl, rfl, trivial⟩, trivial⟩
      · have hF := cneg h5 hF
        refine And.intro (fun h6 => ?_) (fun h6 => ?_)
        · have hF := cpos h6 hF
          refine obind hF fun x7 h8 hF => ?_
          refine ⟨ix_nn h8, .inl rfl, _, ix_map cInt h8, ?_⟩
          refine And.intro (fun h9 => ?_) (fun h9 => ?_)
          · have hF := cpos h9 hF
            exact Or.inl ⟨rfl, congrArg (Option.map rInsert_E) hF⟩
          · have hF := cneg h9 hF
            refine Or.inl ?_
            refine obind hF fun y10 h11 hF => ?_
            refine Or.inr ⟨[], 0, _, _, _, _, rfl, rfl, eff_slice_h (cf := cInt) tok25.u tok3 h11, rfl, ?_⟩
            refine gpos hF fun h16 hF => ?_
            refine Or.inl ⟨len_map (fun _ => rfl), app_le (f := cInt) h16, (([] : List Int) ++ y10).map cInt, map_app _ _ _, ?_⟩
            refine Or.inl ?_
            refine gpos hF fun h15 hF => ?_
            refine Or.inl ⟨len_all rfl, app_le (f := cInt) h15, ((([] : List Int) ++ y10) ++ ([n] : List Int)).map cInt, map_app _ _ _, ?_⟩
            refine obind hF fun y12 h13 hF => ?_
            refine Or.inr ⟨[], 0, _, _, _, _, rfl, rfl, eff_slice_l (cf := cInt) tok25.u tok3 h13, rfl, ?_⟩
            refine gpos hF fun h14 hF => ?_
            refine Or.inl ⟨len_map (fun _ => rfl), app_le (f := cInt) h14, (((([] : List Int) ++ y10) ++ ([n] : List Int)) ++ y12).map cInt, map_app _ _ _, ?_⟩
            refine And.intro (by kernel_rfl) ?_
            exact Or.inl ⟨rfl, congrArg (Option.map rInsert_E) hF⟩
        · have hF := cneg h6 hF
          refine Or.inl ?_
          refine obind hF fun y17 h18 hF => ?_
          refine Or.inr ⟨[], 0, _, _, _, _, rfl, rfl, eff_slice_h (cf := cInt) tok25.u tok3 h18, rfl, ?_⟩
          refine gpos hF fun h23 hF => ?_
          refine Or.inl ⟨len_map (fun _ => rfl), app_le (f := cInt) h23, (([] : List Int) ++ y17).map cInt, map_app _ _ _, ?_⟩
          refine Or.inl ?_
          refine gpos hF fun h22 hF => ?_
          refine Or.inl ⟨len_all rfl, app_le (f := cInt) h22, ((([] : List Int) ++ y17) ++ ([n] : List Int)).map cInt, map_app _ _ _, ?_⟩
          refine obind hF fun y19 h20 hF => ?_
          refine Or.inr ⟨[], 0, _, _, _, _, rfl, rfl, eff_slice_l (cf := cInt) tok25.u tok3 h20, rfl, ?_⟩
          refine gpos hF fun h21 hF => ?_
          refine Or.inl ⟨len_map (fun _ => rfl), app_le (f := cInt) h21, (((([] : List Int) ++ y17) ++ ([n] : List Int)) ++ y19).map cInt, map_app _ _ _, ?_⟩
          refine And.intro (by kernel_rfl) ?_
          exact Or.inl ⟨rfl, congrArg (Option.map rInsert_E) hF⟩
    · have hF := cneg h2 hF
      refine And.intro (fun h24 => ?_) (fun h24 => ?_)
      · have hF := cpos h24 hF
        refine obind hF fun x25 h26 hF => ?_
        refine ⟨ix_nn h26, .inl rfl, _, ix_map cInt h26, ?_⟩
        refine And.intro (fun h27 => ?_) (fun h27 => ?_)
        · have hF := cpos h27 hF
          exact Or.inl ⟨rfl, congrArg (Option.map rInsert_E) hF⟩
        · have hF := cneg h27 hF
          refine Or.inl ?_
          refine obind hF fun y28 h29 hF => ?_
          refine Or.inr ⟨[], 0, _, _, _, _, rfl, rfl, eff_slice_h (cf := cInt) tok25.u tok3 h29, rfl, ?_⟩
          refine gpos hF fun h34 hF => ?_
          refine Or.inl ⟨len_map (fun _ => rfl), app_le (f := cInt) h34, (([] : List Int) ++ y28).map cInt, map_app _ _ _, ?_⟩
          refine Or.inl ?_
          refine gpos hF fun h33 hF => ?_
          refine Or.inl ⟨len_all rfl, app_le (f := cInt) h33, ((([] : List Int) ++ y28) ++ ([n] : List Int)).map cInt, map_app _ _ _, ?_⟩
          refine obind hF fun y30 h31 hF => ?_
          refine Or.inr ⟨[], 0, _, _, _, _, rfl, rfl, eff_slice_l (cf := cInt) tok25.u tok3 h31, rfl, ?_⟩
          refine gpos hF fun h32 hF => ?_
          refine Or.inl ⟨len_map (fun _ => rfl), app_le (f := cInt) h32, (((([] : List Int) ++ y28) ++ ([n] : List Int)) ++ y30).map cInt, map_app _ _ _, ?_⟩
          refine And.intro (by kernel_rfl) ?_
          exact Or.inl ⟨rfl, congrArg (Option.map rInsert_E) hF⟩
      · have hF := cneg h24 hF
        refine Or.inl ?_
        refine obind hF fun y35 h36 hF => ?_
        refine Or.inr ⟨[], 0, _, _, _, _, rfl, rfl, eff_slice_h (cf := cInt) tok25.u tok3 h36, rfl, ?_⟩
        refine gpos hF fun h41 hF => ?_
        refine Or.inl ⟨len_map (fun _ => rfl), app_le (f := cInt) h41, (([] : List Int) ++ y35).map cInt, map_app _ _ _, ?_⟩
        refine Or.inl ?_
        refine gpos hF fun h40 hF => ?_
        refine Or.inl ⟨len_all rfl, app_le (f := cInt) h40, ((([] : List Int) ++ y35) ++ ([n] : List Int)).map cInt, map_app _ _ _, ?_⟩
        refine obind hF fun y37 h38 hF => ?_
        refine Or.inr ⟨[], 0, _, _, _, _, rfl, rfl, eff_slice_l (cf := cInt) tok25.u tok3 h38, rfl, ?_⟩
        refine gpos hF fun h39 hF => ?_
        refine Or.inl ⟨len_map (fun _ => rfl), app_le (f := cInt) h39, (((([] : List Int) ++ y35) ++ ([n] : List Int)) ++ y37).map cInt, map_app _ _ _, ?_⟩
        refine And.intro (by kernel_rfl) ?_
        exact Or.inl ⟨rfl, congrArg (Option.map rInsert_E) hF⟩
abbrev rInsert_S (l : List Int) (n : Int) : Option (List Int) := rInsert_F 1000 l n
theorem rInsert_h {l : List Int} {n : Int} {r : List Int} (h : rInsert_S l n = some r) : Holds Tryz.prog Gw 59 [.sl 1 (l.map cInt), I n] (rInsert_E r) := rInsert_Fh  h
abbrev qall_E (y : List Int) : CV := .sl 1 (y.map cInt)
def qall_L3 (i5 : Int) (y14 : List Int) (k_2 : List Int → Int → Option (List Int)) : Nat → List Int → Int → Option (List Int)
  | 0, _, _ => none
  | fu3 + 1, out16, m17 => bif decide (m17 < ((y14.map cInt).length : Int)) then (Option.bind (ix y14 m17) fun x19 => Option.bind (rInsert_S out16 x19) fun y21 => qall_L3 i5 y14 k_2 fu3 y21 (IntKind.i64.wrap (m17 + 1))) else k_2 out16 (IntKind.i64.wrap (i5 + 1))
def qall_L2 (l : List Aut) (back : Bool) (k2 : Int) (k_1 : List Int → Int → Option (List Int)) (N : Nat) : Nat → List Int → Int → Option (List Int)
  | 0, _, _ => none
  | fu2 + 1, out4, i5 => bif decide (i5 < ((l.map cAut).length : Int)) then (Option.bind (ix l i5) fun x7 => Option.bind (qhas_S out4 x7.ID) fun y9 => bif (!y9) then qall_L2 l back k2 k_1 N fu2 out4 (IntKind.i64.wrap (i5 + 1)) else (Option.bind (ix l i5) fun x12 => Option.bind (qstep_S l x12.ID back) fun y14 => qall_L3 i5 y14 (fun q_out4 q_i5 => qall_L2 l back k2 k_1 N fu2 q_out4 q_i5) N out4 0)) else k_1 out4 (IntKind.i64.wrap (k2 + 1))
def qall_L1 (l : List Aut) (back : Bool) (N : Nat) : Nat → List Int → Int → Option (List Int)
  | 0, _, _ => none
  | fu1 + 1, out1, k2 => bif decide (k2 < ((l.map cAut).length : Int)) then qall_L2 l back k2 (fun q_out1 q_k2 => qall_L1 l back N fu1 q_out1 q_k2) N N out1 0 else some (out1)
def qall_F (N : Nat) (l : List Aut) (id : Int) (back : Bool) : Option (List Int) := qall_L1 l back N N ([id] : List Int) 0
set_option linter.unusedVariables false in
theorem qall_Fh {N : Nat} {l : List Aut} {id : Int} {back : Bool} {r : List Int} (hF : qall_F N l id back = some r) : Holds Tryz.prog Gw 31 [.sl 6 (l.map cAut), I id, B back] (qall_E r) := by
  refine holds_of_wq tabOk mixed Tryz.func31 (by decide) rfl (Nat.le_of_ble_eq_true rfl) ?_
  refine Or.inl ?_
  refine Or.inr ⟨[], 0, _, _, _, _, rfl, rfl, eff_lit1C (c := I id) tok25.u tok3 rfl rfl (fun _ _ _ h => cells_one h rfl), rfl, ?_⟩
  refine loop_oq (fun p : Nat × List Int × Int => [(0, .c (.sl 6 (l.map cAut))), (2, .c (B back)), (7, .c (.sl 1 (p.2.1.map cInt))), (8, .c (I p.2.2))]) (fun _ => []) (fun p => qall_L1 l back N p.1 p.2.1 p.2.2 = some r) (fun p => p.1) (N, ([id] : List Int), 0) hF ⟨rfl, rfl, rfl, rfl, trivial⟩ trivial ?_
  rintro ⟨fu1, out1, k2⟩ hF
  cases fu1 with
  | zero => exact nomatch hF
  | succ fu1 =>
    refine And.intro (fun h3 => ?_) (fun h3 => ?_)
    · have hF := cpos h3 hF
      refine join_no ?_
      refine loop_oq (fun p : Nat × List Int × Int => [(0, .c (.sl 6 (l.map cAut))), (2, .c (B back)), (7, .c (.sl 1 (p.2.1.map cInt))), (8, .c (I k2)), (9, .c (I p.2.2))]) (fun _ => []) (fun p => qall_L2 l back k2 (fun q_out1 q_k2 => qall_L1 l back N fu1 q_out1 q_k2) N p.1 p.2.1 p.2.2 = some r) (fun p => p.1) (N, out1, 0) hF ⟨rfl, rfl, rfl, rfl, rfl, trivial⟩ trivial ?_
      rintro ⟨fu2, out4, i5⟩ hF
      cases fu2 with
      | zero => exact nomatch hF
      | succ fu2 =>
        refine And.intro (fun h6 => ?_) (fun h6 => ?_)
        · have hF := cpos h6 hF
          refine join_no ?_
          refine obind hF fun x7 h8 hF => ?_
          refine ⟨ix_nn h8, .inl rfl, _, ix_map cAut h8, ?_⟩
          refine obind hF fun y9 h10 hF => ?_
          refine Or.inl ⟨_, qhas_h h10, rfl, ?_⟩
          refine And.intro (fun h11 => ?_) (fun h11 => ?_)
          · have hF := cpos h11 hF
            exact ⟨(fu2, out4, (IntKind.i64.wrap (i5 + 1))), Nat.lt_succ_self _, hF, ⟨rfl, rfl, rfl, rfl, rfl, trivial⟩, trivial⟩
          · have hF := cneg h11 hF
            refine obind hF fun x12 h13 hF => ?_
            refine ⟨ix_nn h13, .inl rfl, _, ix_map cAut h13, ?_⟩
            refine obind hF fun y14 h15 hF => ?_
            refine Or.inl ⟨_, qstep_h h15, rfl, ?_⟩
            refine loop_oq (fun p : Nat × List Int × Int => [(0, .c (.sl 6 (l.map cAut))), (2, .c (B back)), (7, .c (.sl 1 (p.2.1.map cInt))), (8, .c (I k2)), (9, .c (I i5)), (10, .c (.sl 1 (y14.map cInt))), (11, .c (I p.2.2))]) (fun _ => []) (fun p => qall_L3 i5 y14 (fun q_out4 q_i5 => qall_L2 l back k2 (fun q_out1 q_k2 => qall_L1 l back N fu1 q_out1 q_k2) N fu2 q_out4 q_i5) p.1 p.2.1 p.2.2 = some r) (fun p => p.1) (N, out4, 0) hF ⟨rfl, rfl, rfl, rfl, rfl, rfl, rfl, trivial⟩ trivial ?_
            rintro ⟨fu3, out16, m17⟩ hF
            cases fu3 with
            | zero => exact nomatch hF
            | succ fu3 =>
              refine And.intro (fun h18 => ?_) (fun h18 => ?_)
              · have hF := cpos h18 hF
                refine join_no ?_
                refine obind hF fun x19 h20 hF => ?_
                refine ⟨ix_nn h20, .inl rfl, _, ix_map cInt h20, ?_⟩
                refine obind hF fun y21 h22 hF => ?_
                refine Or.inl ⟨_, rInsert_h h22, rfl, ?_⟩
                exact ⟨(fu3, y21, (IntKind.i64.wrap (m17 + 1))), Nat.lt_succ_self _, hF, ⟨rfl, rfl, rfl, rfl, rfl, rfl, rfl, trivial⟩, trivial⟩
              · have hF := cneg h18 hF
                exact ⟨(fu2, out16, (IntKind.i64.wrap (i5 + 1))), Nat.lt_succ_self _, hF, ⟨rfl, rfl, rfl, rfl, rfl, trivial⟩, trivial⟩
        · have hF := cneg h6 hF
          exact ⟨(fu1, out4, (IntKind.i64.wrap (k2 + 1))), Nat.lt_succ_self _, hF, ⟨rfl, rfl, rfl, rfl, trivial⟩, trivial⟩
    · have hF := cneg h3 hF
      exact Or.inl ⟨rfl, congrArg (Option.map qall_E) hF⟩
abbrev qall_S (l : List Aut) (id : Int) (back : Bool) : Option (List Int) := qall_F 1000 l id back
theorem qall_h {l : List Aut} {id : Int} {back : Bool} {r : List Int} (h : qall_S l id back = some r) : Holds Tryz.prog Gw 31 [.sl 6 (l.map cAut), I id, B back] (qall_E r) := qall_Fh  h
abbrev qForward_E (y : List Int × Int) : CV := .tup [.sl 1 (y.1.map cInt), I y.2]
def qForward_F (l : List Aut) (id : Int) : Option (List Int × Int) := Option.bind (qknown_S l id) fun y1 => bif (y1 != 0) then some (([] : List Int), y1) else (Option.bind (qall_S l id false) fun y4 => some (y4, 0))
set_option linter.unusedVariables false in
theorem qForward_Fh {l : List Aut} {id : Int} {r : List Int × Int} (hF : qForward_F l id = some r) : Holds Tryz.prog Gw 10 [.sl 6 (l.map cAut), I id] (qForward_E r) := by
  refine holds_of_wq tabOk mixed Tryz.func10 (by decide) rfl (Nat.le_of_ble_eq_true rfl) ?_
  refine Or.inl ?_
  refine obind hF fun y1 h2 hF => ?_
  refine Or.inl ⟨_, qknown_h h2, rfl, ?_⟩
  refine And.intro (fun h3 => ?_) (fun h3 => ?_)
  · have hF := cpos h3 hF
    refine Or.inl ?_
    exact Or.inl ⟨rfl, congrArg (Option.map qForward_E) hF⟩
  · have hF := cneg h3 hF
    refine obind hF fun y4 h5 hF => ?_
    refine Or.inl ⟨_, qall_h h5, rfl, ?_⟩
    exact Or.inl ⟨rfl, congrArg (Option.map qForward_E) hF⟩
abbrev qForward_S (l : List Aut) (id : Int) : Option (List Int × Int) := qForward_F l id
theorem qForward_h {l : List Aut} {id : Int} {r : List Int × Int} (h : qForward_S l id = some r) : Holds Tryz.prog Gw 10 [.sl 6 (l.map cAut), I id] (qForward_E r) := qForward_Fh  h
abbrev qBack_E (y : List Int × Int) : CV := .tup [.sl 1 (y.1.map cInt), I y.2]
def qBack_F (l : List Aut) (id : Int) : Option (List Int × Int) := Option.bind (qknown_S l id) fun y1 => bif (y1 != 0) then some (([] : List Int), y1) else (Option.bind (qall_S l id true) fun y4 => some (y4, 0))
set_option linter.unusedVariables false in
theorem qBack_Fh {l : List Aut} {id : Int} {r : List Int × Int} (hF : qBack_F l id = some r) : Holds Tryz.prog Gw 12 [.sl 6 (l.map cAut), I id] (qBack_E r) := by
  refine holds_of_wq tabOk mixed Tryz.func12 (by decide) rfl (Nat.le_of_ble_eq_true rfl) ?_
  refine Or.inl ?_
  refine obind hF fun y1 h2 hF => ?_
  refine Or.inl ⟨_, qknown_h h2, rfl, ?_⟩
  refine And.intro (fun h3 => ?_) (fun h3 => ?_)
  · have hF := cpos h3 hF
    refine Or.inl ?_
    exact Or.inl ⟨rfl, congrArg (Option.map qBack_E) hF⟩
  · have hF := cneg h3 hF
    refine obind hF fun y4 h5 hF => ?_
    refine Or.inl ⟨_, qall_h h5, rfl, ?_⟩
    exact Or.inl ⟨rfl, congrArg (Option.map qBack_E) hF⟩
abbrev qBack_S (l : List Aut) (id : Int) : Option (List Int × Int) := qBack_F l id
theorem qBack_h {l : List Aut} {id : Int} {r : List Int × Int} (h : qBack_S l id = some r) : Holds Tryz.prog Gw 12 [.sl 6 (l.map cAut), I id] (qBack_E r) := qBack_Fh  h
abbrev rOn_E (y : Bool) : CV := B y
def rOn_F (s : Span) (day : Int) : Option (Bool) := bif decide (s.From ≤ day) then some (decide (day < s.Until)) else some (false)
set_option linter.unusedVariables false in
theorem rOn_Fh {s : Span} {day : Int} {r : Bool} (hF : rOn_F s day = some r) : Holds Tryz.prog Gw 40 [.agg (cSpan s), I day] (rOn_E r) := by
  refine holds_of_wq tabOk mixed Tryz.func40 (by decide) rfl (Nat.le_of_ble_eq_true rfl) ?_
  refine Or.inl ?_
  refine And.intro (fun h1 => ?_) (fun h1 => ?_)
  · have hF := cpos h1 hF
    exact Or.inl ⟨rfl, congrArg (Option.map rOn_E) hF⟩
  · have hF := cneg h1 hF
    exact Or.inl ⟨rfl, congrArg (Option.map rOn_E) hF⟩
abbrev rOn_S (s : Span) (day : Int) : Option (Bool) := rOn_F s day
theorem rOn_h {s : Span} {day : Int} {r : Bool} (h : rOn_S s day = some r) : Holds Tryz.prog Gw 40 [.agg (cSpan s), I day] (rOn_E r) := rOn_Fh  h
abbrev qOn_E (y : List Int × Int) : CV := .tup [.sl 1 (y.1.map cInt), I y.2]
def qOn_L1 (l : List Aut) (day : Int) (y6 : List Int) (y8 : List Int) : Nat → List Int → Int → Option (List Int × Int)
  | 0, _, _ => none
  | fu1 + 1, out10, i11 => bif decide (i11 < ((l.map cAut).length : Int)) then (Option.bind (ix l i11) fun x13 => Option.bind (qhas_S y6 x13.ID) fun y15 => bif y15 then (Option.bind (ix l i11) fun x18 => Option.bind (rOn_S x18.In day) fun y20 => bif y20 then (Option.bind (ix l i11) fun x23 => bif decide (out10.length + ([x23.ID] : List Int).length ≤ 4294967296) then qOn_L1 l day y6 y8 fu1 (out10 ++ ([x23.ID] : List Int)) (IntKind.i64.wrap (i11 + 1)) else none) else qOn_L1 l day y6 y8 fu1 out10 (IntKind.i64.wrap (i11 + 1))) else (Option.bind (ix l i11) fun x26 => Option.bind (qhas_S y8 x26.ID) fun y28 => bif y28 then (Option.bind (ix l i11) fun x31 => Option.bind (rOn_S x31.In day) fun y33 => bif y33 then (Option.bind (ix l i11) fun x36 => bif decide (out10.length + ([x36.ID] : List Int).length ≤ 4294967296) then qOn_L1 l day y6 y8 fu1 (out10 ++ ([x36.ID] : List Int)) (IntKind.i64.wrap (i11 + 1)) else none) else qOn_L1 l day y6 y8 fu1 out10 (IntKind.i64.wrap (i11 + 1))) else qOn_L1 l day y6 y8 fu1 out10 (IntKind.i64.wrap (i11 + 1)))) else some (out10, 0)
def qOn_F (N : Nat) (l : List Aut) (id : Int) (day : Int) : Option (List Int × Int) := Option.bind (qknown_S l id) fun y1 => bif (y1 != 0) then some (([] : List Int), y1) else (bif decide (day < 0) then some (([] : List Int), 2) else (bif decide (day > 1048575) then some (([] : List Int), 2) else (Option.bind (qall_S l id false) fun y6 => Option.bind (qall_S l id true) fun y8 => qOn_L1 l day y6 y8 N ([] : List Int) 0)))
set_option linter.unusedVariables false in
theorem qOn_Fh {N : Nat} {l : List Aut} {id : Int} {day : Int} {r : List Int × Int} (hF : qOn_F N l id day = some r) : Holds Tryz.prog Gw 14 [.sl 6 (l.map cAut), I id, I day] (qOn_E r) := by
  refine holds_of_wq tabOk mixed Tryz.func14 (by decide) rfl (Nat.le_of_ble_eq_true rfl) ?_
  refine Or.inl ?_
  refine obind hF fun y1 h2 hF => ?_
  refine Or.inl ⟨_, qknown_h h2, rfl, ?_⟩
  refine And.intro (fun h3 => ?_) (fun h3 => ?_)
  · have hF := cpos h3 hF
    refine Or.inl ?_
    exact Or.inl ⟨rfl, congrArg (Option.map qOn_E) hF⟩
  · have hF := cneg h3 hF
    refine And.intro (fun h4 => ?_) (fun h4 => ?_)
    · have hF := cpos h4 hF
      refine Or.inl ?_
      exact Or.inl ⟨rfl, congrArg (Option.map qOn_E) hF⟩
    · have hF := cneg h4 hF
      refine And.intro (fun h5 => ?_) (fun h5 => ?_)
      · have hF := cpos h5 hF
        refine Or.inl ?_
        exact Or.inl ⟨rfl, congrArg (Option.map qOn_E) hF⟩
      · have hF := cneg h5 hF
        refine obind hF fun y6 h7 hF => ?_
        refine Or.inl ⟨_, qall_h h7, rfl, ?_⟩
        refine obind hF fun y8 h9 hF => ?_
        refine Or.inl ⟨_, qall_h h9, rfl, ?_⟩
        refine Or.inl ?_
        refine loop_oq (fun p : Nat × List Int × Int => [(0, .c (.sl 6 (l.map cAut))), (2, .c (I day)), (9, .c (.sl 1 (y6.map cInt))), (10, .c (.sl 1 (y8.map cInt))), (11, .ap 11 0 1 (p.2.1.map cInt)), (12, .c (I p.2.2))]) (fun p : Nat × List Int × Int => [(11, .tok 3 1)]) (fun p => qOn_L1 l day y6 y8 p.1 p.2.1 p.2.2 = some r) (fun p => p.1) (N, ([] : List Int), 0) hF ⟨rfl, rfl, rfl, rfl, rfl, rfl, trivial⟩ ⟨rfl, trivial⟩ ?_
        rintro ⟨fu1, out10, i11⟩ hF
        cases fu1 with
        | zero => exact nomatch hF
        | succ fu1 =>
          refine And.intro (fun h12 => ?_) (fun h12 => ?_)
          · have hF := cpos h12 hF
            refine join_no ?_
            refine obind hF fun x13 h14 hF => ?_
            refine ⟨ix_nn h14, .inl rfl, _, ix_map cAut h14, ?_⟩
            refine obind hF fun y15 h16 hF => ?_
            refine Or.inl ⟨_, qhas_h h16, rfl, ?_⟩
            refine And.intro (fun h17 => ?_) (fun h17 => ?_)
            · have hF := cpos h17 hF
              refine obind hF fun x18 h19 hF => ?_
              refine ⟨ix_nn h19, .inl rfl, _, ix_map cAut h19, ?_⟩
              refine obind hF fun y20 h21 hF => ?_
              refine Or.inl ⟨_, rOn_h h21, rfl, ?_⟩
              refine And.intro (fun h22 => ?_) (fun h22 => ?_)
              · have hF := cpos h22 hF
                refine obind hF fun x23 h24 hF => ?_
                refine ⟨ix_nn h24, .inl rfl, _, ix_map cAut h24, ?_⟩
                refine Or.inl ?_
                refine gpos hF fun h25 hF => ?_
                refine Or.inl ⟨len_all rfl, app_le (f := cInt) h25, (out10 ++ ([x23.ID] : List Int)).map cInt, map_app _ _ _, ?_⟩
                exact ⟨(fu1, (out10 ++ ([x23.ID] : List Int)), (IntKind.i64.wrap (i11 + 1))), Nat.lt_succ_self _, hF, ⟨rfl, rfl, rfl, rfl, rfl, rfl, trivial⟩, ⟨rfl, trivial⟩⟩
              · have hF := cneg h22 hF
                exact ⟨(fu1, out10, (IntKind.i64.wrap (i11 + 1))), Nat.lt_succ_self _, hF, ⟨rfl, rfl, rfl, rfl, rfl, rfl, trivial⟩, ⟨rfl, trivial⟩⟩
            · have hF := cneg h17 hF
              refine obind hF fun x26 h27 hF => ?_
              refine ⟨ix_nn h27, .inl rfl, _, ix_map cAut h27, ?_⟩
              refine obind hF fun y28 h29 hF => ?_
              refine Or.inl ⟨_, qhas_h h29, rfl, ?_⟩
              refine And.intro (fun h30 => ?_) (fun h30 => ?_)
              · have hF := cpos h30 hF
                refine obind hF fun x31 h32 hF => ?_
                refine ⟨ix_nn h32, .inl rfl, _, ix_map cAut h32, ?_⟩
                refine obind hF fun y33 h34 hF => ?_
                refine Or.inl ⟨_, rOn_h h34, rfl, ?_⟩
                refine And.intro (fun h35 => ?_) (fun h35 => ?_)
                · have hF := cpos h35 hF
                  refine obind hF fun x36 h37 hF => ?_
                  refine ⟨ix_nn h37, .inl rfl, _, ix_map cAut h37, ?_⟩
                  refine Or.inl ?_
                  refine gpos hF fun h38 hF => ?_
                  refine Or.inl ⟨len_all rfl, app_le (f := cInt) h38, (out10 ++ ([x36.ID] : List Int)).map cInt, map_app _ _ _, ?_⟩
                  exact ⟨(fu1, (out10 ++ ([x36.ID] : List Int)), (IntKind.i64.wrap (i11 + 1))), Nat.lt_succ_self _, hF, ⟨rfl, rfl, rfl, rfl, rfl, rfl, trivial⟩, ⟨rfl, trivial⟩⟩
                · have hF := cneg h35 hF
                  exact ⟨(fu1, out10, (IntKind.i64.wrap (i11 + 1))), Nat.lt_succ_self _, hF, ⟨rfl, rfl, rfl, rfl, rfl, rfl, trivial⟩, ⟨rfl, trivial⟩⟩
              · have hF := cneg h30 hF
                exact ⟨(fu1, out10, (IntKind.i64.wrap (i11 + 1))), Nat.lt_succ_self _, hF, ⟨rfl, rfl, rfl, rfl, rfl, rfl, trivial⟩, ⟨rfl, trivial⟩⟩
          · have hF := cneg h12 hF
            exact Or.inl ⟨rfl, congrArg (Option.map qOn_E) hF⟩
abbrev qOn_S (l : List Aut) (id : Int) (day : Int) : Option (List Int × Int) := qOn_F 1000 l id day
theorem qOn_h {l : List Aut} {id : Int} {day : Int} {r : List Int × Int} (h : qOn_S l id day = some r) : Holds Tryz.prog Gw 14 [.sl 6 (l.map cAut), I id, I day] (qOn_E r) := qOn_Fh  h
abbrev lSuccessionFollows_E (y : Bool) : CV := B y
def lSuccessionFollows_F (l : List Aut) (id : Int) (day : Int) : Option (Bool) := Option.bind (lawake_S) fun y1 => bif (!y1) then (Option.bind (lawake_S) fun y4 => some (y4)) else (Option.bind (rFew_S l) fun y6 => bif (!y6) then (Option.bind (lawake_S) fun y9 => some (y9)) else (Option.bind (rCopy_S l) fun y11 => Option.bind (sForward_S y11 id) fun y13 => Option.bind (qForward_S l id) fun y15 => Option.bind (rCopy_S l) fun y17 => Option.bind (sBack_S y17 id) fun y19 => Option.bind (qBack_S l id) fun y21 => Option.bind (rCopy_S l) fun y23 => Option.bind (sOn_S y23 id day) fun y25 => Option.bind (qOn_S l id day) fun y27 => Option.bind (slEqual_S y13.1 y15.1) fun y29 => bif y29 then (bif (y13.2 == y15.2) then (Option.bind (slEqual_S y19.1 y21.1) fun y33 => bif y33 then (bif (y19.2 == y21.2) then (Option.bind (slEqual_S y25.1 y27.1) fun y37 => bif y37 then some ((y25.2 == y27.2)) else some (false)) else some (false)) else some (false)) else some (false)) else some (false)))
set_option linter.unusedVariables false in
theorem lSuccessionFollows_Fh {l : List Aut} {id : Int} {day : Int} {r : Bool} (hF : lSuccessionFollows_F l id day = some r) : Holds Tryz.prog Gw 3 [.sl 6 (l.map cAut), I id, I day] (lSuccessionFollows_E r) := by
  refine holds_of_wq tabOk mixed Tryz.func3 (by decide) rfl (Nat.le_of_ble_eq_true rfl) ?_
  refine obind hF fun y1 h2 hF => ?_
  refine Or.inl ⟨_, lawake_h h2, rfl, ?_⟩
  refine And.intro (fun h3 => ?_) (fun h3 => ?_)
  · have hF := cpos h3 hF
    refine obind hF fun y4 h5 hF => ?_
    refine Or.inl ⟨_, lawake_h h5, rfl, ?_⟩
    exact Or.inl ⟨rfl, congrArg (Option.map lSuccessionFollows_E) hF⟩
  · have hF := cneg h3 hF
    refine obind hF fun y6 h7 hF => ?_
    refine Or.inl ⟨_, rFew_h h7, rfl, ?_⟩
    refine And.intro (fun h8 => ?_) (fun h8 => ?_)
    · have hF := cpos h8 hF
      refine obind hF fun y9 h10 hF => ?_
      refine Or.inl ⟨_, lawake_h h10, rfl, ?_⟩
      exact Or.inl ⟨rfl, congrArg (Option.map lSuccessionFollows_E) hF⟩
    · have hF := cneg h8 hF
      refine obind hF fun y11 h12 hF => ?_
      refine Or.inl ⟨_, rCopy_h h12, rfl, ?_⟩
      refine obind hF fun y13 h14 hF => ?_
      refine Or.inl ⟨_, sForward_h h14, rfl, ?_⟩
      refine obind hF fun y15 h16 hF => ?_
      refine Or.inl ⟨_, qForward_h h16, rfl, ?_⟩
      refine obind hF fun y17 h18 hF => ?_
      refine Or.inl ⟨_, rCopy_h h18, rfl, ?_⟩
      refine obind hF fun y19 h20 hF => ?_
      refine Or.inl ⟨_, sBack_h h20, rfl, ?_⟩
      refine obind hF fun y21 h22 hF => ?_
      refine Or.inl ⟨_, qBack_h h22, rfl, ?_⟩
      refine obind hF fun y23 h24 hF => ?_
      refine Or.inl ⟨_, rCopy_h h24, rfl, ?_⟩
      refine obind hF fun y25 h26 hF => ?_
      refine Or.inl ⟨_, sOn_h h26, rfl, ?_⟩
      refine obind hF fun y27 h28 hF => ?_
      refine Or.inl ⟨_, qOn_h h28, rfl, ?_⟩
      refine obind hF fun y29 h30 hF => ?_
      refine Or.inl ⟨_, slEqual_h h30, rfl, ?_⟩
      refine And.intro (fun h31 => ?_) (fun h31 => ?_)
      · have hF := cpos h31 hF
        refine And.intro (fun h32 => ?_) (fun h32 => ?_)
        · have hF := cpos h32 hF
          refine obind hF fun y33 h34 hF => ?_
          refine Or.inl ⟨_, slEqual_h h34, rfl, ?_⟩
          refine And.intro (fun h35 => ?_) (fun h35 => ?_)
          · have hF := cpos h35 hF
            refine And.intro (fun h36 => ?_) (fun h36 => ?_)
            · have hF := cpos h36 hF
              refine obind hF fun y37 h38 hF => ?_
              refine Or.inl ⟨_, slEqual_h h38, rfl, ?_⟩
              refine And.intro (fun h39 => ?_) (fun h39 => ?_)
              · have hF := cpos h39 hF
                exact Or.inl ⟨rfl, congrArg (Option.map lSuccessionFollows_E) hF⟩
              · have hF := cneg h39 hF
                exact Or.inl ⟨rfl, congrArg (Option.map lSuccessionFollows_E) hF⟩
            · have hF := cneg h36 hF
              exact Or.inl ⟨rfl, congrArg (Option.map lSuccessionFollows_E) hF⟩
          · have hF := cneg h35 hF
            exact Or.inl ⟨rfl, congrArg (Option.map lSuccessionFollows_E) hF⟩
        · have hF := cneg h32 hF
          exact Or.inl ⟨rfl, congrArg (Option.map lSuccessionFollows_E) hF⟩
      · have hF := cneg h31 hF
        exact Or.inl ⟨rfl, congrArg (Option.map lSuccessionFollows_E) hF⟩
abbrev lSuccessionFollows_S (l : List Aut) (id : Int) (day : Int) : Option (Bool) := lSuccessionFollows_F l id day
theorem lSuccessionFollows_h {l : List Aut} {id : Int} {day : Int} {r : Bool} (h : lSuccessionFollows_S l id day = some r) : Holds Tryz.prog Gw 3 [.sl 6 (l.map cAut), I id, I day] (lSuccessionFollows_E r) := lSuccessionFollows_Fh  h
end Go.Proofs.YtdoldlbcjcfmdaaGreat
