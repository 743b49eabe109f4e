/- Functions of the program as functions of Lean, each with its contract (printed by a program). -/
import Derived.Test.YtdoldlbcjcfmdaaGreatLib
namespace Go.Proofs.YtdoldlbcjcfmdaaGreat
open Go Go.Abs
set_option maxRecDepth 10000
set_option maxHeartbeats 400000
abbrev pwithin_E (y : Bool) : CV := B y
def pwithin_F (n : Int) (low : Int) (high : Int) : Option (Bool) := bif decide (low ≤ n) then some (decide (n ≤ high)) else some (false)
set_option linter.unusedVariables false in
theorem pwithin_Fh {n : Int} {low : Int} {high : Int} {r : Bool} (hF : pwithin_F n low high = some r) : Holds Tryz.prog Gw 94 [I n, I low, I high] (pwithin_E r) := by
  refine holds_of_wq tabOk mixed Tryz.func94 (by decide) rfl (Nat.le_of_ble_eq_true rfl) ?_
  refine And.intro (fun h1 => ?_) (fun h1 => ?_)
  · have hF := cpos h1 hF
    exact Or.inl ⟨rfl, congrArg (Option.map pwithin_E) hF⟩
  · have hF := cneg h1 hF
    exact Or.inl ⟨rfl, congrArg (Option.map pwithin_E) hF⟩
abbrev pwithin_S (n : Int) (low : Int) (high : Int) : Option (Bool) := pwithin_F n low high
theorem pwithin_h {n : Int} {low : Int} {high : Int} {r : Bool} (h : pwithin_S n low high = some r) : Holds Tryz.prog Gw 94 [I n, I low, I high] (pwithin_E r) := pwithin_Fh  h
abbrev pspans_E (y : Bool) : CV := B y
def pspans_F (x : Span) : Option (Bool) := bif decide (0 ≤ x.From) then (bif decide (x.From < x.Until) then some (decide (x.Until ≤ 1048576)) else some (false)) else some (false)
set_option linter.unusedVariables false in
theorem pspans_Fh {x : Span} {r : Bool} (hF : pspans_F x = some r) : Holds Tryz.prog Gw 95 [.agg (cSpan x)] (pspans_E r) := by
  refine holds_of_wq tabOk mixed Tryz.func95 (by decide) rfl (Nat.le_of_ble_eq_true rfl) ?_
  refine Or.inl ?_
  refine And.intro (fun h1 => ?_) (fun h1 => ?_)
  · have hF := cpos h1 hF
    refine And.intro (fun h2 => ?_) (fun h2 => ?_)
    · have hF := cpos h2 hF
      exact Or.inl ⟨rfl, congrArg (Option.map pspans_E) hF⟩
    · have hF := cneg h2 hF
      exact Or.inl ⟨rfl, congrArg (Option.map pspans_E) hF⟩
  · have hF := cneg h1 hF
    exact Or.inl ⟨rfl, congrArg (Option.map pspans_E) hF⟩
abbrev pspans_S (x : Span) : Option (Bool) := pspans_F x
theorem pspans_h {x : Span} {r : Bool} (h : pspans_S x = some r) : Holds Tryz.prog Gw 95 [.agg (cSpan x)] (pspans_E r) := pspans_Fh  h
abbrev pname_1_E (y : Bool) : CV := B y
def pname_1_F (r_ : Int) : Option (Bool) := bif decide (r_ < 32) then some (true) else some (decide (r_ > 126))
set_option linter.unusedVariables false in
theorem pname_1_Fh {r_ : Int} {r : Bool} (hF : pname_1_F r_ = some r) : Holds Tryz.prog Gw 115 [.v (.int .i32 r_)] (pname_1_E r) := by
  refine holds_of_wq tabOk mixed Tryz.func115 (by decide) rfl (Nat.le_of_ble_eq_true rfl) ?_
  refine And.intro (fun h1 => ?_) (fun h1 => ?_)
  · have hF := cpos h1 hF
    exact Or.inl ⟨rfl, congrArg (Option.map pname_1_E) hF⟩
  · have hF := cneg h1 hF
    exact Or.inl ⟨rfl, congrArg (Option.map pname_1_E) hF⟩
abbrev pname_1_S (r_ : Int) : Option (Bool) := pname_1_F r_
theorem pname_1_h {r_ : Int} {r : Bool} (h : pname_1_S r_ = some r) : Holds Tryz.prog Gw 115 [.v (.int .i32 r_)] (pname_1_E r) := pname_1_Fh  h
abbrev pname_E (y : Bool) : CV := B y
def pname_F (s : Str) : Option (Bool) := bif decide ((s.length : Int) < 1) then some (false) else (bif decide ((s.length : Int) > 64) then some (false) else (Option.bind (ix s 0) fun b3 => bif ((b3.toNat : Int) == 32) then some (false) else (Option.bind (ix s (IntKind.i64.wrap ((s.length : Int) - 1))) fun b6 => bif ((b6.toNat : Int) == 32) then some (false) else (Option.bind (sContains_S s ([32, 32] : Str)) fun y9 => bif y9 then some (false) else (Option.bind (sContainsFunc_S s (fun z0 => pname_1_S z0)) fun y12 => some ((!y12)))))))
set_option linter.unusedVariables false in
theorem pname_Fh {s : Str} {r : Bool} (hF : pname_F s = some r) : Holds Tryz.prog Gw 109 [S s] (pname_E r) := by
  refine holds_of_wq tabOk mixed Tryz.func109 (by decide) rfl (Nat.le_of_ble_eq_true rfl) ?_
  refine And.intro (fun h1 => ?_) (fun h1 => ?_)
  · have hF := cpos h1 hF
    exact Or.inl ⟨rfl, congrArg (Option.map pname_E) hF⟩
  · have hF := cneg h1 hF
    refine And.intro (fun h2 => ?_) (fun h2 => ?_)
    · have hF := cpos h2 hF
      exact Or.inl ⟨rfl, congrArg (Option.map pname_E) hF⟩
    · have hF := cneg h2 hF
      refine Or.inl ?_
      refine obind hF fun b3 h4 hF => ?_
      refine ⟨ix_nn h4, _, ix_str h4, ?_⟩
      refine And.intro (fun h5 => ?_) (fun h5 => ?_)
      · have hF := cpos h5 hF
        exact Or.inl ⟨rfl, congrArg (Option.map pname_E) hF⟩
      · have hF := cneg h5 hF
        refine Or.inl ?_
        refine obind hF fun b6 h7 hF => ?_
        refine ⟨ix_nn h7, _, ix_str h7, ?_⟩
        refine And.intro (fun h8 => ?_) (fun h8 => ?_)
        · have hF := cpos h8 hF
          exact Or.inl ⟨rfl, congrArg (Option.map pname_E) hF⟩
        · have hF := cneg h8 hF
          refine obind hF fun y9 h10 hF => ?_
          refine Or.inl ⟨_, sContains_h h10, rfl, ?_⟩
          refine And.intro (fun h11 => ?_) (fun h11 => ?_)
          · have hF := cpos h11 hF
            exact Or.inl ⟨rfl, congrArg (Option.map pname_E) hF⟩
          · have hF := cneg h11 hF
            refine obind hF fun y12 h13 hF => ?_
            refine Or.inl ⟨_, sContainsFunc_h (fun _ _ h => pname_1_h h) h13, rfl, ?_⟩
            exact Or.inl ⟨rfl, congrArg (Option.map pname_E) hF⟩
abbrev pname_S (s : Str) : Option (Bool) := pname_F s
theorem pname_h {s : Str} {r : Bool} (h : pname_S s = some r) : Holds Tryz.prog Gw 109 [S s] (pname_E r) := pname_Fh  h
abbrev pnames_E (y : Int) : CV := I y
def pnames_L1 (a : Aut) : Nat → Int → Option (Int)
  | 0, _ => none
  | fu1 + 1, v3 => bif decide (v3 < ((a.Names.map cNam).length : Int)) then (Option.bind (ix a.Names v3) fun x5 => Option.bind (pname_S x5.Text) fun y7 => bif (!y7) then some (4) else (Option.bind (pspans_S x5.In) fun y10 => bif (!y10) then some (2) else (bif decide (x5.In.From < a.In.From) then some (10) else (bif decide (x5.In.Until > a.In.Until) then some (10) else (bif decide (v3 > 0) then (Option.bind (ix a.Names (IntKind.i64.wrap (v3 - 1))) fun x16 => bif decide (x5.In.From < x16.In.Until) then some (5) else pnames_L1 a fu1 (IntKind.i64.wrap (v3 + 1))) else pnames_L1 a fu1 (IntKind.i64.wrap (v3 + 1))))))) else some (0)
def pnames_F (N : Nat) (a : Aut) : Option (Int) := bif (((a.Names.map cNam).length : Int) == 0) then some (9) else (bif decide (((a.Names.map cNam).length : Int) > 16) then some (8) else pnames_L1 a N 0)
set_option linter.unusedVariables false in
theorem pnames_Fh {N : Nat} {a : Aut} {r : Int} (hF : pnames_F N a = some r) : Holds Tryz.prog Gw 96 [.agg (cAut a)] (pnames_E r) := by
  refine holds_of_wq tabOk mixed Tryz.func96 (by decide) rfl (Nat.le_of_ble_eq_true rfl) ?_
  refine Or.inl ?_
  refine join_no ?_
  refine And.intro (fun h1 => ?_) (fun h1 => ?_)
  · have hF := cpos h1 hF
    exact Or.inl ⟨rfl, congrArg (Option.map pnames_E) hF⟩
  · have hF := cneg h1 hF
    refine And.intro (fun h2 => ?_) (fun h2 => ?_)
    · have hF := cpos h2 hF
      exact Or.inl ⟨rfl, congrArg (Option.map pnames_E) hF⟩
    · have hF := cneg h2 hF
      refine loop_oq (fun p : Nat × Int => [(1, .pm 1 0 0), (16, .c (.sl 3 (a.Names.map cNam))), (17, .c (I ((a.Names.map cNam).length : Int))), (18, .c (I p.2))]) (fun p : Nat × Int => [(1, .var [I a.ID, I a.Kind, I a.In.From, I a.In.Until, .sl 3 (a.Names.map cNam), .sl 1 (a.Next.map cInt)])]) (fun p => pnames_L1 a p.1 p.2 = some r) (fun p => p.1) (N, 0) hF ⟨rfl, rfl, rfl, rfl, trivial⟩ ⟨rfl, trivial⟩ ?_
      rintro ⟨fu1, v3⟩ hF
      cases fu1 with
      | zero => exact nomatch hF
      | succ fu1 =>
        refine join_no ?_
        refine And.intro (fun h4 => ?_) (fun h4 => ?_)
        · have hF := cpos h4 hF
          refine join_no ?_
          refine obind hF fun x5 h6 hF => ?_
          refine ⟨ix_nn h6, .inl rfl, _, ix_map cNam h6, ?_⟩
          refine Or.inl ?_
          refine obind hF fun y7 h8 hF => ?_
          refine Or.inl ⟨_, pname_h h8, rfl, ?_⟩
          refine And.intro (fun h9 => ?_) (fun h9 => ?_)
          · have hF := cpos h9 hF
            exact Or.inl ⟨rfl, congrArg (Option.map pnames_E) hF⟩
          · have hF := cneg h9 hF
            refine obind hF fun y10 h11 hF => ?_
            refine Or.inl ⟨_, pspans_h h11, rfl, ?_⟩
            refine And.intro (fun h12 => ?_) (fun h12 => ?_)
            · have hF := cpos h12 hF
              exact Or.inl ⟨rfl, congrArg (Option.map pnames_E) hF⟩
            · have hF := cneg h12 hF
              refine And.intro (fun h13 => ?_) (fun h13 => ?_)
              · have hF := cpos h13 hF
                exact Or.inl ⟨rfl, congrArg (Option.map pnames_E) hF⟩
              · have hF := cneg h13 hF
                refine And.intro (fun h14 => ?_) (fun h14 => ?_)
                · have hF := cpos h14 hF
                  exact Or.inl ⟨rfl, congrArg (Option.map pnames_E) hF⟩
                · have hF := cneg h14 hF
                  refine And.intro (fun h15 => ?_) (fun h15 => ?_)
                  · have hF := cpos h15 hF
                    refine obind hF fun x16 h17 hF => ?_
                    refine ⟨ix_nn h17, .inl rfl, _, ix_map cNam h17, ?_⟩
                    refine And.intro (by kernel_rfl) ?_
                    refine And.intro (fun h18 => ?_) (fun h18 => ?_)
                    · have hF := cpos h18 hF
                      exact Or.inl ⟨rfl, congrArg (Option.map pnames_E) hF⟩
                    · have hF := cneg h18 hF
                      exact ⟨(fu1, (IntKind.i64.wrap (v3 + 1))), Nat.lt_succ_self _, hF, ⟨rfl, rfl, rfl, rfl, trivial⟩, ⟨rfl, trivial⟩⟩
                  · have hF := cneg h15 hF
                    refine And.intro (by kernel_rfl) ?_
                    exact ⟨(fu1, (IntKind.i64.wrap (v3 + 1))), Nat.lt_succ_self _, hF, ⟨rfl, rfl, rfl, rfl, trivial⟩, ⟨rfl, trivial⟩⟩
        · have hF := cneg h4 hF
          exact Or.inl ⟨rfl, congrArg (Option.map pnames_E) hF⟩
abbrev pnames_S (a : Aut) : Option (Int) := pnames_F (a.Names.length + 1) a
theorem pnames_h {a : Aut} {r : Int} (h : pnames_S a = some r) : Holds Tryz.prog Gw 96 [.agg (cAut a)] (pnames_E r) := pnames_Fh  h
abbrev palone_E (y : Int) : CV := I y
def palone_L1 (x1 : Aut) : Nat → Int → Option (Int)
  | 0, _ => none
  | fu1 + 1, k20 => bif decide (k20 < ((x1.Next.map cInt).length : Int)) then (Option.bind (ix x1.Next k20) fun x22 => Option.bind (ix x1.Next (IntKind.i64.wrap (k20 - 1))) fun x24 => bif decide (x22 ≤ x24) then some (5) else palone_L1 x1 fu1 (IntKind.i64.wrap (k20 + 1))) else some (0)
def palone_L2 (x1 : Aut) : Nat → Int → Option (Int)
  | 0, _ => none
  | fu2 + 1, k31 => bif decide (k31 < ((x1.Next.map cInt).length : Int)) then (Option.bind (ix x1.Next k31) fun x33 => Option.bind (ix x1.Next (IntKind.i64.wrap (k31 - 1))) fun x35 => bif decide (x33 ≤ x35) then some (5) else palone_L2 x1 fu2 (IntKind.i64.wrap (k31 + 1))) else some (0)
def palone_F (N : Nat) (l : List Aut) (i : Int) : Option (Int) := Option.bind (ix l i) fun x1 => Option.bind (pwithin_S x1.ID 1 1073741824) fun y3 => bif (!y3) then some (2) else (Option.bind (pwithin_S x1.Kind 1 3) fun y6 => bif (!y6) then some (2) else (Option.bind (pspans_S x1.In) fun y9 => bif (!y9) then some (2) else (bif decide (i > 0) then (Option.bind (ix l (IntKind.i64.wrap (i - 1))) fun x13 => bif decide (x1.ID ≤ x13.ID) then some (5) else (Option.bind (pnames_S x1) fun y16 => bif (y16 != 0) then some (y16) else (bif decide (((x1.Next.map cInt).length : Int) > 16) then some (8) else palone_L1 x1 N 1))) else (Option.bind (pnames_S x1) fun y27 => bif (y27 != 0) then some (y27) else (bif decide (((x1.Next.map cInt).length : Int) > 16) then some (8) else palone_L2 x1 N 1)))))
set_option linter.unusedVariables false in
theorem palone_Fh {N : Nat} {l : List Aut} {i : Int} {r : Int} (hF : palone_F N l i = some r) : Holds Tryz.prog Gw 73 [.sl 6 (l.map cAut), I i] (palone_E r) := by
  refine holds_of_wq tabOk mixed Tryz.func73 (by decide) rfl (Nat.le_of_ble_eq_true rfl) ?_
  refine obind hF fun x1 h2 hF => ?_
  refine ⟨ix_nn h2, .inl rfl, _, ix_map cAut h2, ?_⟩
  refine Or.inl ?_
  refine join_no ?_
  refine obind hF fun y3 h4 hF => ?_
  refine Or.inl ⟨_, pwithin_h h4, rfl, ?_⟩
  refine And.intro (fun h5 => ?_) (fun h5 => ?_)
  · have hF := cpos h5 hF
    exact Or.inl ⟨rfl, congrArg (Option.map palone_E) hF⟩
  · have hF := cneg h5 hF
    refine obind hF fun y6 h7 hF => ?_
    refine Or.inl ⟨_, pwithin_h h7, rfl, ?_⟩
    refine And.intro (fun h8 => ?_) (fun h8 => ?_)
    · have hF := cpos h8 hF
      exact Or.inl ⟨rfl, congrArg (Option.map palone_E) hF⟩
    · have hF := cneg h8 hF
      refine obind hF fun y9 h10 hF => ?_
      refine Or.inl ⟨_, pspans_h h10, rfl, ?_⟩
      refine And.intro (fun h11 => ?_) (fun h11 => ?_)
      · have hF := cpos h11 hF
        exact Or.inl ⟨rfl, congrArg (Option.map palone_E) hF⟩
      · have hF := cneg h11 hF
        refine And.intro (fun h12 => ?_) (fun h12 => ?_)
        · have hF := cpos h12 hF
          refine obind hF fun x13 h14 hF => ?_
          refine ⟨ix_nn h14, .inl rfl, _, ix_map cAut h14, ?_⟩
          refine And.intro (by kernel_rfl) ?_
          refine And.intro (fun h15 => ?_) (fun h15 => ?_)
          · have hF := cpos h15 hF
            exact Or.inl ⟨rfl, congrArg (Option.map palone_E) hF⟩
          · have hF := cneg h15 hF
            refine obind hF fun y16 h17 hF => ?_
            refine Or.inl ⟨_, pnames_h h17, rfl, ?_⟩
            refine And.intro (fun h18 => ?_) (fun h18 => ?_)
            · have hF := cpos h18 hF
              exact Or.inl ⟨rfl, congrArg (Option.map palone_E) hF⟩
            · have hF := cneg h18 hF
              refine And.intro (fun h19 => ?_) (fun h19 => ?_)
              · have hF := cpos h19 hF
                exact Or.inl ⟨rfl, congrArg (Option.map palone_E) hF⟩
              · have hF := cneg h19 hF
                refine loop_oq (fun p : Nat × Int => [(5, .pm 5 0 0), (7, .c (I p.2))]) (fun p : Nat × Int => [(5, .var [I x1.ID, I x1.Kind, I x1.In.From, I x1.In.Until, .sl 3 (x1.Names.map cNam), .sl 1 (x1.Next.map cInt)])]) (fun p => palone_L1 x1 p.1 p.2 = some r) (fun p => p.1) (N, 1) hF ⟨rfl, rfl, trivial⟩ ⟨rfl, trivial⟩ ?_
                rintro ⟨fu1, k20⟩ hF
                cases fu1 with
                | zero => exact nomatch hF
                | succ fu1 =>
                  refine And.intro (fun h21 => ?_) (fun h21 => ?_)
                  · have hF := cpos h21 hF
                    refine join_no ?_
                    refine obind hF fun x22 h23 hF => ?_
                    refine ⟨ix_nn h23, .inl rfl, _, ix_map cInt h23, ?_⟩
                    refine obind hF fun x24 h25 hF => ?_
                    refine ⟨ix_nn h25, .inl rfl, _, ix_map cInt h25, ?_⟩
                    refine And.intro (by kernel_rfl) ?_
                    refine And.intro (fun h26 => ?_) (fun h26 => ?_)
                    · have hF := cpos h26 hF
                      exact Or.inl ⟨rfl, congrArg (Option.map palone_E) hF⟩
                    · have hF := cneg h26 hF
                      exact ⟨(fu1, (IntKind.i64.wrap (k20 + 1))), Nat.lt_succ_self _, hF, ⟨rfl, rfl, trivial⟩, ⟨rfl, trivial⟩⟩
                  · have hF := cneg h21 hF
                    exact Or.inl ⟨rfl, congrArg (Option.map palone_E) hF⟩
        · have hF := cneg h12 hF
          refine And.intro (by kernel_rfl) ?_
          refine obind hF fun y27 h28 hF => ?_
          refine Or.inl ⟨_, pnames_h h28, rfl, ?_⟩
          refine And.intro (fun h29 => ?_) (fun h29 => ?_)
          · have hF := cpos h29 hF
            exact Or.inl ⟨rfl, congrArg (Option.map palone_E) hF⟩
          · have hF := cneg h29 hF
            refine And.intro (fun h30 => ?_) (fun h30 => ?_)
            · have hF := cpos h30 hF
              exact Or.inl ⟨rfl, congrArg (Option.map palone_E) hF⟩
            · have hF := cneg h30 hF
              refine loop_oq (fun p : Nat × Int => [(5, .pm 5 0 0), (7, .c (I p.2))]) (fun p : Nat × Int => [(5, .var [I x1.ID, I x1.Kind, I x1.In.From, I x1.In.Until, .sl 3 (x1.Names.map cNam), .sl 1 (x1.Next.map cInt)])]) (fun p => palone_L2 x1 p.1 p.2 = some r) (fun p => p.1) (N, 1) hF ⟨rfl, rfl, trivial⟩ ⟨rfl, trivial⟩ ?_
              rintro ⟨fu2, k31⟩ hF
              cases fu2 with
              | zero => exact nomatch hF
              | succ fu2 =>
                refine And.intro (fun h32 => ?_) (fun h32 => ?_)
                · have hF := cpos h32 hF
                  refine join_no ?_
                  refine obind hF fun x33 h34 hF => ?_
                  refine ⟨ix_nn h34, .inl rfl, _, ix_map cInt h34, ?_⟩
                  refine obind hF fun x35 h36 hF => ?_
                  refine ⟨ix_nn h36, .inl rfl, _, ix_map cInt h36, ?_⟩
                  refine And.intro (by kernel_rfl) ?_
                  refine And.intro (fun h37 => ?_) (fun h37 => ?_)
                  · have hF := cpos h37 hF
                    exact Or.inl ⟨rfl, congrArg (Option.map palone_E) hF⟩
                  · have hF := cneg h37 hF
                    exact ⟨(fu2, (IntKind.i64.wrap (k31 + 1))), Nat.lt_succ_self _, hF, ⟨rfl, rfl, trivial⟩, ⟨rfl, trivial⟩⟩
                · have hF := cneg h32 hF
                  exact Or.inl ⟨rfl, congrArg (Option.map palone_E) hF⟩
abbrev palone_S (l : List Aut) (i : Int) : Option (Int) := palone_F (l.length + 100) l i
theorem palone_h {l : List Aut} {i : Int} {r : Int} (h : palone_S l i = some r) : Holds Tryz.prog Gw 73 [.sl 6 (l.map cAut), I i] (palone_E r) := palone_Fh  h
abbrev slIndexFuncI_E (y : Int) : CV := I y
def slIndexFuncI_L1 (s : List Int) (f : Int → Option Bool) : Nat → Int → Option (Int)
  | 0, _ => none
  | fu1 + 1, v1 => bif decide (v1 < ((s.map cInt).length : Int)) then (Option.bind (ix s v1) fun x3 => Option.bind (f x3) fun y5 => bif y5 then some (v1) else slIndexFuncI_L1 s f fu1 (IntKind.i64.wrap (v1 + 1))) else some ((-1))
def slIndexFuncI_F (N : Nat) (s : List Int) (f : Int → Option Bool) : Option (Int) := slIndexFuncI_L1 s f N 0
set_option linter.unusedVariables false in
theorem slIndexFuncI_Fh {N : Nat} {s : List Int} {f : Int → Option Bool} {r : Int} {f_f : FuncId} {f_c : List CV} (f_h : ∀ z0 y, f z0 = some y → Holds Tryz.prog Gw f_f (I z0 :: f_c) (B y)) (hF : slIndexFuncI_F N s f = some r) : Holds Tryz.prog Gw 41 [.sl 1 (s.map cInt), .fn f_f f_c] (slIndexFuncI_E r) := by
  refine holds_of_wq tabOk mixed Tryz.func41 (by decide) rfl (Nat.le_of_ble_eq_true rfl) ?_
  refine loop_oq (fun p : Nat × Int => [(0, .c (.sl 1 (s.map cInt))), (1, .c (.fn f_f f_c)), (7, .c (I ((s.map cInt).length : Int))), (8, .c (I p.2))]) (fun _ => []) (fun p => slIndexFuncI_L1 s f p.1 p.2 = some r) (fun p => p.1) (N, 0) hF ⟨rfl, rfl, rfl, rfl, trivial⟩ trivial ?_
  rintro ⟨fu1, v1⟩ hF
  cases fu1 with
  | zero => exact nomatch hF
  | succ fu1 =>
    refine join_no ?_
    refine And.intro (fun h2 => ?_) (fun h2 => ?_)
    · have hF := cpos h2 hF
      refine join_no ?_
      refine obind hF fun x3 h4 hF => ?_
      refine ⟨ix_nn h4, .inl rfl, _, ix_map cInt h4, ?_⟩
      refine obind hF fun y5 h6 hF => ?_
      refine Or.inl ⟨_, f_h _ _ h6, rfl, ?_⟩
      refine And.intro (fun h7 => ?_) (fun h7 => ?_)
      · have hF := cpos h7 hF
        exact Or.inl ⟨rfl, congrArg (Option.map slIndexFuncI_E) hF⟩
      · have hF := cneg h7 hF
        exact ⟨(fu1, (IntKind.i64.wrap (v1 + 1))), Nat.lt_succ_self _, hF, ⟨rfl, rfl, rfl, rfl, trivial⟩, trivial⟩
    · have hF := cneg h2 hF
      exact Or.inl ⟨rfl, congrArg (Option.map slIndexFuncI_E) hF⟩
abbrev slIndexFuncI_S (s : List Int) (f : Int → Option Bool) : Option (Int) := slIndexFuncI_F (s.length + 1) s f
theorem slIndexFuncI_h {s : List Int} {f : Int → Option Bool} {r : Int} {f_f : FuncId} {f_c : List CV} (f_h : ∀ z0 y, f z0 = some y → Holds Tryz.prog Gw f_f (I z0 :: f_c) (B y)) (h : slIndexFuncI_S s f = some r) : Holds Tryz.prog Gw 41 [.sl 1 (s.map cInt), .fn f_f f_c] (slIndexFuncI_E r) := slIndexFuncI_Fh f_h h
abbrev slContainsFuncI_E (y : Bool) : CV := B y
def slContainsFuncI_F (s : List Int) (f : Int → Option Bool) : Option (Bool) := Option.bind (slIndexFuncI_S s f) fun y1 => some (decide (y1 ≥ 0))
set_option linter.unusedVariables false in
theorem slContainsFuncI_Fh {s : List Int} {f : Int → Option Bool} {r : Bool} {f_f : FuncId} {f_c : List CV} (f_h : ∀ z0 y, f z0 = some y → Holds Tryz.prog Gw f_f (I z0 :: f_c) (B y)) (hF : slContainsFuncI_F s f = some r) : Holds Tryz.prog Gw 49 [.sl 1 (s.map cInt), .fn f_f f_c] (slContainsFuncI_E r) := by
  refine holds_of_wq tabOk mixed Tryz.func49 (by decide) rfl (Nat.le_of_ble_eq_true rfl) ?_
  refine obind hF fun y1 h2 hF => ?_
  refine Or.inl ⟨_, slIndexFuncI_h f_h h2, rfl, ?_⟩
  exact Or.inl ⟨rfl, congrArg (Option.map slContainsFuncI_E) hF⟩
abbrev slContainsFuncI_S (s : List Int) (f : Int → Option Bool) : Option (Bool) := slContainsFuncI_F s f
theorem slContainsFuncI_h {s : List Int} {f : Int → Option Bool} {r : Bool} {f_f : FuncId} {f_c : List CV} (f_h : ∀ z0 y, f z0 = some y → Holds Tryz.prog Gw f_f (I z0 :: f_c) (B y)) (h : slContainsFuncI_S s f = some r) : Holds Tryz.prog Gw 49 [.sl 1 (s.map cInt), .fn f_f f_c] (slContainsFuncI_E r) := slContainsFuncI_Fh f_h h
abbrev slIndexFuncA_E (y : Int) : CV := I y
def slIndexFuncA_L1 (s : List Aut) (f : Aut → Option Bool) : Nat → Int → Option (Int)
  | 0, _ => none
  | fu1 + 1, v1 => bif decide (v1 < ((s.map cAut).length : Int)) then (Option.bind (ix s v1) fun x3 => Option.bind (f x3) fun y5 => bif y5 then some (v1) else slIndexFuncA_L1 s f fu1 (IntKind.i64.wrap (v1 + 1))) else some ((-1))
def slIndexFuncA_F (N : Nat) (s : List Aut) (f : Aut → Option Bool) : Option (Int) := slIndexFuncA_L1 s f N 0
set_option linter.unusedVariables false in
theorem slIndexFuncA_Fh {N : Nat} {s : List Aut} {f : Aut → Option Bool} {r : Int} {f_f : FuncId} {f_c : List CV} (f_h : ∀ z0 y, f z0 = some y → Holds Tryz.prog Gw f_f (.agg (cAut z0) :: f_c) (B y)) (hF : slIndexFuncA_F N s f = some r) : Holds Tryz.prog Gw 86 [.sl 6 (s.map cAut), .fn f_f f_c] (slIndexFuncA_E r) := by
  refine holds_of_wq tabOk mixed Tryz.func86 (by decide) rfl (Nat.le_of_ble_eq_true rfl) ?_
  refine loop_oq (fun p : Nat × Int => [(0, .c (.sl 6 (s.map cAut))), (1, .c (.fn f_f f_c)), (7, .c (I ((s.map cAut).length : Int))), (8, .c (I p.2))]) (fun _ => []) (fun p => slIndexFuncA_L1 s f p.1 p.2 = some r) (fun p => p.1) (N, 0) hF ⟨rfl, rfl, rfl, rfl, trivial⟩ trivial ?_
  rintro ⟨fu1, v1⟩ hF
  cases fu1 with
  | zero => exact nomatch hF
  | succ fu1 =>
    refine join_no ?_
    refine And.intro (fun h2 => ?_) (fun h2 => ?_)
    · have hF := cpos h2 hF
      refine join_no ?_
      refine obind hF fun x3 h4 hF => ?_
      refine ⟨ix_nn h4, .inl rfl, _, ix_map cAut h4, ?_⟩
      refine obind hF fun y5 h6 hF => ?_
      refine Or.inl ⟨_, f_h _ _ h6, rfl, ?_⟩
      refine And.intro (fun h7 => ?_) (fun h7 => ?_)
      · have hF := cpos h7 hF
        exact Or.inl ⟨rfl, congrArg (Option.map slIndexFuncA_E) hF⟩
      · have hF := cneg h7 hF
        exact ⟨(fu1, (IntKind.i64.wrap (v1 + 1))), Nat.lt_succ_self _, hF, ⟨rfl, rfl, rfl, rfl, trivial⟩, trivial⟩
    · have hF := cneg h2 hF
      exact Or.inl ⟨rfl, congrArg (Option.map slIndexFuncA_E) hF⟩
abbrev slIndexFuncA_S (s : List Aut) (f : Aut → Option Bool) : Option (Int) := slIndexFuncA_F (s.length + 1) s f
theorem slIndexFuncA_h {s : List Aut} {f : Aut → Option Bool} {r : Int} {f_f : FuncId} {f_c : List CV} (f_h : ∀ z0 y, f z0 = some y → Holds Tryz.prog Gw f_f (.agg (cAut z0) :: f_c) (B y)) (h : slIndexFuncA_S s f = some r) : Holds Tryz.prog Gw 86 [.sl 6 (s.map cAut), .fn f_f f_c] (slIndexFuncA_E r) := slIndexFuncA_Fh f_h h
abbrev pindex_1_E (y : Bool) : CV := B y
def pindex_1_F (a : Aut) (c0 : Int) : Option (Bool) := some ((a.ID == c0))
set_option linter.unusedVariables false in
theorem pindex_1_Fh {a : Aut} {c0 : Int} {r : Bool} (hF : pindex_1_F a c0 = some r) : Holds Tryz.prog Gw 87 [.agg (cAut a), .pi [I c0] 0] (pindex_1_E r) := by
  refine holds_of_wq tabOk mixed Tryz.func87 (by decide) rfl (Nat.le_of_ble_eq_true rfl) ?_
  refine Or.inl ?_
  exact Or.inl ⟨rfl, congrArg (Option.map pindex_1_E) hF⟩
abbrev pindex_1_S (a : Aut) (c0 : Int) : Option (Bool) := pindex_1_F a c0
theorem pindex_1_h {a : Aut} {c0 : Int} {r : Bool} (h : pindex_1_S a c0 = some r) : Holds Tryz.prog Gw 87 [.agg (cAut a), .pi [I c0] 0] (pindex_1_E r) := pindex_1_Fh  h
abbrev pindex_E (y : Int) : CV := I y
def pindex_F (l : List Aut) (id : Int) : Option (Int) := Option.bind (slIndexFuncA_S l (fun z0 => pindex_1_S z0 id)) fun y1 => some (y1)
set_option linter.unusedVariables false in
theorem pindex_Fh {l : List Aut} {id : Int} {r : Int} (hF : pindex_F l id = some r) : Holds Tryz.prog Gw 64 [.sl 6 (l.map cAut), I id] (pindex_E r) := by
  refine holds_of_wq tabOk mixed Tryz.func64 (by decide) rfl (Nat.le_of_ble_eq_true rfl) ?_
  refine Or.inl ?_
  refine obind hF fun y1 h2 hF => ?_
  refine Or.inl ⟨_, slIndexFuncA_h (fun _ _ h => pindex_1_h h) h2, rfl, ?_⟩
  exact Or.inl ⟨rfl, congrArg (Option.map pindex_E) hF⟩
abbrev pindex_S (l : List Aut) (id : Int) : Option (Int) := pindex_F l id
theorem pindex_h {l : List Aut} {id : Int} {r : Int} (h : pindex_S l id = some r) : Holds Tryz.prog Gw 64 [.sl 6 (l.map cAut), I id] (pindex_E r) := pindex_Fh  h
abbrev psuccessors_1_E (y : Bool) : CV := B y
def psuccessors_1_F (id : Int) (c0 : List Aut) : Option (Bool) := Option.bind (pindex_S c0 id) fun y1 => some (decide (y1 < 0))
set_option linter.unusedVariables false in
theorem psuccessors_1_Fh {id : Int} {c0 : List Aut} {r : Bool} (hF : psuccessors_1_F id c0 = some r) : Holds Tryz.prog Gw 97 [I id, .pi [.sl 6 (c0.map cAut)] 0] (psuccessors_1_E r) := by
  refine holds_of_wq tabOk mixed Tryz.func97 (by decide) rfl (Nat.le_of_ble_eq_true rfl) ?_
  refine obind hF fun y1 h2 hF => ?_
  refine Or.inl ⟨_, pindex_h h2, rfl, ?_⟩
  exact Or.inl ⟨rfl, congrArg (Option.map psuccessors_1_E) hF⟩
abbrev psuccessors_1_S (id : Int) (c0 : List Aut) : Option (Bool) := psuccessors_1_F id c0
theorem psuccessors_1_h {id : Int} {c0 : List Aut} {r : Bool} (h : psuccessors_1_S id c0 = some r) : Holds Tryz.prog Gw 97 [I id, .pi [.sl 6 (c0.map cAut)] 0] (psuccessors_1_E r) := psuccessors_1_Fh  h
abbrev psuccessors_2_E (y : Bool) : CV := B y
def psuccessors_2_F (id : Int) (c0 : List Aut) (c1 : Aut) : Option (Bool) := Option.bind (pindex_S c0 id) fun y1 => Option.bind (ix c0 y1) fun x3 => some ((x3.Kind != c1.Kind))
set_option linter.unusedVariables false in
theorem psuccessors_2_Fh {id : Int} {c0 : List Aut} {c1 : Aut} {r : Bool} (hF : psuccessors_2_F id c0 c1 = some r) : Holds Tryz.prog Gw 98 [I id, .pi [.sl 6 (c0.map cAut)] 0, .pi (cAut c1) 0] (psuccessors_2_E r) := by
  refine holds_of_wq tabOk mixed Tryz.func98 (by decide) rfl (Nat.le_of_ble_eq_true rfl) ?_
  refine obind hF fun y1 h2 hF => ?_
  refine Or.inl ⟨_, pindex_h h2, rfl, ?_⟩
  refine obind hF fun x3 h4 hF => ?_
  refine ⟨ix_nn h4, .inl rfl, _, ix_map cAut h4, ?_⟩
  refine And.intro (by kernel_rfl) ?_
  exact Or.inl ⟨rfl, congrArg (Option.map psuccessors_2_E) hF⟩
abbrev psuccessors_2_S (id : Int) (c0 : List Aut) (c1 : Aut) : Option (Bool) := psuccessors_2_F id c0 c1
theorem psuccessors_2_h {id : Int} {c0 : List Aut} {c1 : Aut} {r : Bool} (h : psuccessors_2_S id c0 c1 = some r) : Holds Tryz.prog Gw 98 [I id, .pi [.sl 6 (c0.map cAut)] 0, .pi (cAut c1) 0] (psuccessors_2_E r) := psuccessors_2_Fh  h
abbrev psuccessors_3_E (y : Bool) : CV := B y
def psuccessors_3_F (id : Int) (c0 : List Aut) (c1 : Aut) : Option (Bool) := Option.bind (pindex_S c0 id) fun y1 => Option.bind (ix c0 y1) fun x3 => some ((x3.In.From != c1.In.Until))
set_option linter.unusedVariables false in
theorem psuccessors_3_Fh {id : Int} {c0 : List Aut} {c1 : Aut} {r : Bool} (hF : psuccessors_3_F id c0 c1 = some r) : Holds Tryz.prog Gw 99 [I id, .pi [.sl 6 (c0.map cAut)] 0, .pi (cAut c1) 0] (psuccessors_3_E r) := by
  refine holds_of_wq tabOk mixed Tryz.func99 (by decide) rfl (Nat.le_of_ble_eq_true rfl) ?_
  refine obind hF fun y1 h2 hF => ?_
  refine Or.inl ⟨_, pindex_h h2, rfl, ?_⟩
  refine obind hF fun x3 h4 hF => ?_
  refine ⟨ix_nn h4, .inl rfl, _, ix_map cAut h4, ?_⟩
  refine And.intro (by kernel_rfl) ?_
  exact Or.inl ⟨rfl, congrArg (Option.map psuccessors_3_E) hF⟩
abbrev psuccessors_3_S (id : Int) (c0 : List Aut) (c1 : Aut) : Option (Bool) := psuccessors_3_F id c0 c1
theorem psuccessors_3_h {id : Int} {c0 : List Aut} {c1 : Aut} {r : Bool} (h : psuccessors_3_S id c0 c1 = some r) : Holds Tryz.prog Gw 99 [I id, .pi [.sl 6 (c0.map cAut)] 0, .pi (cAut c1) 0] (psuccessors_3_E r) := psuccessors_3_Fh  h
abbrev psuccessors_E (y : Int) : CV := I y
def psuccessors_F (l : List Aut) (i : Int) : Option (Int) := Option.bind (ix l i) fun x1 => Option.bind (slContainsFuncI_S x1.Next (fun z0 => psuccessors_1_S z0 l)) fun y3 => bif y3 then some (7) else (Option.bind (slContainsFuncI_S x1.Next (fun z0 => psuccessors_2_S z0 l x1)) fun y6 => bif y6 then some (10) else (Option.bind (slContainsFuncI_S x1.Next (fun z0 => psuccessors_3_S z0 l x1)) fun y9 => bif y9 then some (16) else some (0)))
set_option linter.unusedVariables false in
theorem psuccessors_Fh {l : List Aut} {i : Int} {r : Int} (hF : psuccessors_F l i = some r) : Holds Tryz.prog Gw 74 [.sl 6 (l.map cAut), I i] (psuccessors_E r) := by
  refine holds_of_wq tabOk mixed Tryz.func74 (by decide) rfl (Nat.le_of_ble_eq_true rfl) ?_
  refine Or.inl ?_
  refine obind hF fun x1 h2 hF => ?_
  refine ⟨ix_nn h2, .inl rfl, _, ix_map cAut h2, ?_⟩
  refine Or.inl ?_
  refine obind hF fun y3 h4 hF => ?_
  refine Or.inl ⟨_, slContainsFuncI_h (fun _ _ h => psuccessors_1_h h) h4, rfl, ?_⟩
  refine And.intro (fun h5 => ?_) (fun h5 => ?_)
  · have hF := cpos h5 hF
    exact Or.inl ⟨rfl, congrArg (Option.map psuccessors_E) hF⟩
  · have hF := cneg h5 hF
    refine obind hF fun y6 h7 hF => ?_
    refine Or.inl ⟨_, slContainsFuncI_h (fun _ _ h => psuccessors_2_h h) h7, rfl, ?_⟩
    refine And.intro (fun h8 => ?_) (fun h8 => ?_)
    · have hF := cpos h8 hF
      exact Or.inl ⟨rfl, congrArg (Option.map psuccessors_E) hF⟩
    · have hF := cneg h8 hF
      refine obind hF fun y9 h10 hF => ?_
      refine Or.inl ⟨_, slContainsFuncI_h (fun _ _ h => psuccessors_3_h h) h10, rfl, ?_⟩
      refine And.intro (fun h11 => ?_) (fun h11 => ?_)
      · have hF := cpos h11 hF
        exact Or.inl ⟨rfl, congrArg (Option.map psuccessors_E) hF⟩
      · have hF := cneg h11 hF
        exact Or.inl ⟨rfl, congrArg (Option.map psuccessors_E) hF⟩
abbrev psuccessors_S (l : List Aut) (i : Int) : Option (Int) := psuccessors_F l i
theorem psuccessors_h {l : List Aut} {i : Int} {r : Int} (h : psuccessors_S l i = some r) : Holds Tryz.prog Gw 74 [.sl 6 (l.map cAut), I i] (psuccessors_E r) := psuccessors_Fh  h
end Go.Proofs.YtdoldlbcjcfmdaaGreat
