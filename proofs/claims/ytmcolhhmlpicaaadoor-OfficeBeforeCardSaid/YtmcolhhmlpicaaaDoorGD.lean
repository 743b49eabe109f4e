/- Functions of the program as functions of Lean, each with its contract (printed by a program). -/
import Derived.Test.YtmcolhhmlpicaaaDoorLib
namespace Go.Proofs.YtmcolhhmlpicaaaDoor
open Go Go.Abs
set_option maxRecDepth 10000
set_option maxHeartbeats 400000
abbrev rFew_E (y : Bool) : CV := B y
def rFew_L1 (l : List Off) : Nat → Int → Option (Bool)
  | 0, _ => none
  | fu1 + 1, i4 => bif decide (i4 < ((l.map cOff).length : Int)) then (Option.bind (ix l i4) fun x6 => bif decide (((x6.Next.map cInt).length : Int) > 10) then some (false) else (Option.bind (ix l i4) fun x9 => bif decide ((x9.Name.length : Int) > 100) then some (false) else rFew_L1 l fu1 (IntKind.i64.wrap (i4 + 1)))) else some (true)
def rFew_L2 (l : List Off) : Nat → Int → Option (Bool)
  | 0, _ => none
  | fu2 + 1, i13 => bif decide (i13 < ((l.map cOff).length : Int)) then (Option.bind (ix l i13) fun x15 => bif decide (((x15.Next.map cInt).length : Int) > 10) then some (false) else (Option.bind (ix l i13) fun x18 => bif decide ((x18.Name.length : Int) > 100) then some (false) else rFew_L2 l fu2 (IntKind.i64.wrap (i13 + 1)))) else some (true)
def rFew_F (N : Nat) (l : List Off) : Option (Bool) := bif decide (((l.map cOff).length : Int) > 12) then (bif decide (((l.map cOff).length : Int) ≤ 32) then some (false) else (bif decide (((l.map cOff).length : Int) > 37) then some (false) else rFew_L1 l N 0)) else (bif decide (((l.map cOff).length : Int) > 37) then some (false) else rFew_L2 l N 0)
set_option linter.unusedVariables false in
theorem rFew_Fh {N : Nat} {l : List Off} {r : Bool} (hF : rFew_F N l = some r) : Holds Tryd.prog Gw 10 [.sl 5 (l.map cOff)] (rFew_E r) := by
  refine holds_of_wq tabOk mixed Tryd.func10 (by decide) rfl (Nat.le_of_ble_eq_true rfl) ?_
  refine And.intro (fun h1 => ?_) (fun h1 => ?_)
  · have hF := cpos h1 hF
    refine And.intro (fun h2 => ?_) (fun h2 => ?_)
    · have hF := cpos h2 hF
      exact Or.inl ⟨rfl, congrArg (Option.map rFew_E) hF⟩
    · have hF := cneg h2 hF
      refine And.intro (fun h3 => ?_) (fun h3 => ?_)
      · have hF := cpos h3 hF
        exact Or.inl ⟨rfl, congrArg (Option.map rFew_E) hF⟩
      · have hF := cneg h3 hF
        refine loop_oq (fun p : Nat × Int => [(0, .c (.sl 5 (l.map cOff))), (3, .c (I p.2))]) (fun _ => []) (fun p => rFew_L1 l p.1 p.2 = some r) (fun p => p.1) (N, 0) hF ⟨rfl, rfl, trivial⟩ trivial ?_
        rintro ⟨fu1, i4⟩ hF
        cases fu1 with
        | zero => exact nomatch hF
        | succ fu1 =>
          refine And.intro (fun h5 => ?_) (fun h5 => ?_)
          · have hF := cpos h5 hF
            refine join_no ?_
            refine obind hF fun x6 h7 hF => ?_
            refine ⟨ix_nn h7, .inl rfl, _, ix_map cOff h7, ?_⟩
            refine And.intro (fun h8 => ?_) (fun h8 => ?_)
            · have hF := cpos h8 hF
              exact Or.inl ⟨rfl, congrArg (Option.map rFew_E) hF⟩
            · have hF := cneg h8 hF
              refine obind hF fun x9 h10 hF => ?_
              refine ⟨ix_nn h10, .inl rfl, _, ix_map cOff h10, ?_⟩
              refine And.intro (fun h11 => ?_) (fun h11 => ?_)
              · have hF := cpos h11 hF
                exact Or.inl ⟨rfl, congrArg (Option.map rFew_E) hF⟩
              · have hF := cneg h11 hF
                exact ⟨(fu1, (IntKind.i64.wrap (i4 + 1))), Nat.lt_succ_self _, hF, ⟨rfl, rfl, trivial⟩, trivial⟩
          · have hF := cneg h5 hF
            exact Or.inl ⟨rfl, congrArg (Option.map rFew_E) hF⟩
  · have hF := cneg h1 hF
    refine And.intro (fun h12 => ?_) (fun h12 => ?_)
    · have hF := cpos h12 hF
      exact Or.inl ⟨rfl, congrArg (Option.map rFew_E) hF⟩
    · have hF := cneg h12 hF
      refine loop_oq (fun p : Nat × Int => [(0, .c (.sl 5 (l.map cOff))), (3, .c (I p.2))]) (fun _ => []) (fun p => rFew_L2 l p.1 p.2 = some r) (fun p => p.1) (N, 0) hF ⟨rfl, rfl, trivial⟩ trivial ?_
      rintro ⟨fu2, i13⟩ hF
      cases fu2 with
      | zero => exact nomatch hF
      | succ fu2 =>
        refine And.intro (fun h14 => ?_) (fun h14 => ?_)
        · have hF := cpos h14 hF
          refine join_no ?_
          refine obind hF fun x15 h16 hF => ?_
          refine ⟨ix_nn h16, .inl rfl, _, ix_map cOff h16, ?_⟩
          refine And.intro (fun h17 => ?_) (fun h17 => ?_)
          · have hF := cpos h17 hF
            exact Or.inl ⟨rfl, congrArg (Option.map rFew_E) hF⟩
          · have hF := cneg h17 hF
            refine obind hF fun x18 h19 hF => ?_
            refine ⟨ix_nn h19, .inl rfl, _, ix_map cOff h19, ?_⟩
            refine And.intro (fun h20 => ?_) (fun h20 => ?_)
            · have hF := cpos h20 hF
              exact Or.inl ⟨rfl, congrArg (Option.map rFew_E) hF⟩
            · have hF := cneg h20 hF
              exact ⟨(fu2, (IntKind.i64.wrap (i13 + 1))), Nat.lt_succ_self _, hF, ⟨rfl, rfl, trivial⟩, trivial⟩
        · have hF := cneg h14 hF
          exact Or.inl ⟨rfl, congrArg (Option.map rFew_E) hF⟩
abbrev rFew_S (l : List Off) : Option (Bool) := rFew_F (l.length + 1) l
theorem rFew_h {l : List Off} {r : Bool} (h : rFew_S l = some r) : Holds Tryd.prog Gw 10 [.sl 5 (l.map cOff)] (rFew_E r) := rFew_Fh  h
abbrev rFind_E (y : Int) : CV := I y
def rFind_L1 (l : List Off) (id : Int) : Nat → Int → Option (Int)
  | 0, _ => none
  | fu1 + 1, i1 => bif decide (i1 < ((l.map cOff).length : Int)) then (Option.bind (ix l i1) fun x3 => bif (x3.ID == id) then some (i1) else rFind_L1 l id fu1 (IntKind.i64.wrap (i1 + 1))) else some ((-1))
def rFind_F (N : Nat) (l : List Off) (id : Int) : Option (Int) := rFind_L1 l id N 0
set_option linter.unusedVariables false in
theorem rFind_Fh {N : Nat} {l : List Off} {id : Int} {r : Int} (hF : rFind_F N l id = some r) : Holds Tryd.prog Gw 31 [.sl 5 (l.map cOff), I id] (rFind_E r) := by
  refine holds_of_wq tabOk mixed Tryd.func31 (by decide) rfl (Nat.le_of_ble_eq_true rfl) ?_
  refine loop_oq (fun p : Nat × Int => [(0, .c (.sl 5 (l.map cOff))), (1, .c (I id)), (5, .c (I p.2))]) (fun _ => []) (fun p => rFind_L1 l id p.1 p.2 = some r) (fun p => p.1) (N, 0) hF ⟨rfl, rfl, rfl, trivial⟩ trivial ?_
  rintro ⟨fu1, i1⟩ hF
  cases fu1 with
  | zero => exact nomatch hF
  | succ fu1 =>
    refine And.intro (fun h2 => ?_) (fun h2 => ?_)
    · have hF := cpos h2 hF
      refine join_no ?_
      refine obind hF fun x3 h4 hF => ?_
      refine ⟨ix_nn h4, .inl rfl, _, ix_map cOff h4, ?_⟩
      refine And.intro (fun h5 => ?_) (fun h5 => ?_)
      · have hF := cpos h5 hF
        exact Or.inl ⟨rfl, congrArg (Option.map rFind_E) hF⟩
      · have hF := cneg h5 hF
        exact ⟨(fu1, (IntKind.i64.wrap (i1 + 1))), Nat.lt_succ_self _, hF, ⟨rfl, rfl, rfl, trivial⟩, trivial⟩
    · have hF := cneg h2 hF
      exact Or.inl ⟨rfl, congrArg (Option.map rFind_E) hF⟩
abbrev rFind_S (l : List Off) (id : Int) : Option (Int) := rFind_F (l.length + 1) l id
theorem rFind_h {l : List Off} {id : Int} {r : Int} (h : rFind_S l id = some r) : Holds Tryd.prog Gw 31 [.sl 5 (l.map cOff), I id] (rFind_E r) := rFind_Fh  h
abbrev rIn_E (y : Bool) : CV := B y
def rIn_F (x : Span) (day : Int) : Option (Bool) := bif decide (x.From ≤ day) then some (decide (day < x.Until)) else some (false)
set_option linter.unusedVariables false in
theorem rIn_Fh {x : Span} {day : Int} {r : Bool} (hF : rIn_F x day = some r) : Holds Tryd.prog Gw 30 [.agg (cSpan x), I day] (rIn_E r) := by
  refine holds_of_wq tabOk mixed Tryd.func30 (by decide) rfl (Nat.le_of_ble_eq_true rfl) ?_
  refine And.intro (fun h1 => ?_) (fun h1 => ?_)
  · have hF := cpos h1 hF
    exact Or.inl ⟨rfl, congrArg (Option.map rIn_E) hF⟩
  · have hF := cneg h1 hF
    exact Or.inl ⟨rfl, congrArg (Option.map rIn_E) hF⟩
abbrev rIn_S (x : Span) (day : Int) : Option (Bool) := rIn_F x day
theorem rIn_h {x : Span} {day : Int} {r : Bool} (h : rIn_S x day = some r) : Holds Tryd.prog Gw 30 [.agg (cSpan x), I day] (rIn_E r) := rIn_Fh  h
abbrev rGoodSpan_E (y : Bool) : CV := B y
def rGoodSpan_F (x : Span) : Option (Bool) := bif decide (0 ≤ x.From) then (bif decide (x.From < x.Until) then some (decide (x.Until ≤ 1048576)) else some (false)) else some (false)
set_option linter.unusedVariables false in
theorem rGoodSpan_Fh {x : Span} {r : Bool} (hF : rGoodSpan_F x = some r) : Holds Tryd.prog Gw 72 [.agg (cSpan x)] (rGoodSpan_E r) := by
  refine holds_of_wq tabOk mixed Tryd.func72 (by decide) rfl (Nat.le_of_ble_eq_true rfl) ?_
  refine And.intro (fun h1 => ?_) (fun h1 => ?_)
  · have hF := cpos h1 hF
    refine And.intro (fun h2 => ?_) (fun h2 => ?_)
    · have hF := cpos h2 hF
      exact Or.inl ⟨rfl, congrArg (Option.map rGoodSpan_E) hF⟩
    · have hF := cneg h2 hF
      exact Or.inl ⟨rfl, congrArg (Option.map rGoodSpan_E) hF⟩
  · have hF := cneg h1 hF
    exact Or.inl ⟨rfl, congrArg (Option.map rGoodSpan_E) hF⟩
abbrev rGoodSpan_S (x : Span) : Option (Bool) := rGoodSpan_F x
theorem rGoodSpan_h {x : Span} {r : Bool} (h : rGoodSpan_S x = some r) : Holds Tryd.prog Gw 72 [.agg (cSpan x)] (rGoodSpan_E r) := rGoodSpan_Fh  h
abbrev rName_E (y : Bool) : CV := B y
def rName_L1 (s : Str) : Nat → Int → Option (Bool)
  | 0, _ => none
  | fu1 + 1, i9 => bif decide (i9 < (s.length : Int)) then (Option.bind (ix s i9) fun b11 => bif decide ((b11.toNat : Int) < 32) then some (false) else (Option.bind (ix s i9) fun b14 => bif decide ((b14.toNat : Int) > 126) then some (false) else (bif decide (i9 > 0) then (Option.bind (ix s i9) fun b18 => bif ((b18.toNat : Int) == 32) then (Option.bind (ix s (IntKind.i64.wrap (i9 - 1))) fun b21 => bif ((b21.toNat : Int) == 32) then some (false) else rName_L1 s fu1 (IntKind.i64.wrap (i9 + 1))) else rName_L1 s fu1 (IntKind.i64.wrap (i9 + 1))) else rName_L1 s fu1 (IntKind.i64.wrap (i9 + 1))))) else some (true)
def rName_F (N : Nat) (s : Str) : Option (Bool) := bif decide ((s.length : Int) < 1) then some (false) else (bif decide ((s.length : Int) > 64) then some (false) else (Option.bind (ix s 0) fun b3 => bif ((b3.toNat : Int) == 32) then some (false) else (Option.bind (ix s (IntKind.i64.wrap ((s.length : Int) - 1))) fun b6 => bif ((b6.toNat : Int) == 32) then some (false) else rName_L1 s N 0)))
set_option linter.unusedVariables false in
theorem rName_Fh {N : Nat} {s : Str} {r : Bool} (hF : rName_F N s = some r) : Holds Tryd.prog Gw 73 [S s] (rName_E r) := by
  refine holds_of_wq tabOk mixed Tryd.func73 (by decide) rfl (Nat.le_of_ble_eq_true rfl) ?_
  refine And.intro (fun h1 => ?_) (fun h1 => ?_)
  · have hF := cpos h1 hF
    exact Or.inl ⟨rfl, congrArg (Option.map rName_E) hF⟩
  · have hF := cneg h1 hF
    refine And.intro (fun h2 => ?_) (fun h2 => ?_)
    · have hF := cpos h2 hF
      exact Or.inl ⟨rfl, congrArg (Option.map rName_E) hF⟩
    · have hF := cneg h2 hF
      refine obind hF fun b3 h4 hF => ?_
      refine ⟨ix_nn h4, _, ix_str h4, ?_⟩
      refine And.intro (fun h5 => ?_) (fun h5 => ?_)
      · have hF := cpos h5 hF
        exact Or.inl ⟨rfl, congrArg (Option.map rName_E) hF⟩
      · have hF := cneg h5 hF
        refine obind hF fun b6 h7 hF => ?_
        refine ⟨ix_nn h7, _, ix_str h7, ?_⟩
        refine And.intro (fun h8 => ?_) (fun h8 => ?_)
        · have hF := cpos h8 hF
          exact Or.inl ⟨rfl, congrArg (Option.map rName_E) hF⟩
        · have hF := cneg h8 hF
          refine loop_oq (fun p : Nat × Int => [(0, .c (S s)), (3, .c (I p.2))]) (fun _ => []) (fun p => rName_L1 s p.1 p.2 = some r) (fun p => p.1) (N, 0) hF ⟨rfl, rfl, trivial⟩ trivial ?_
          rintro ⟨fu1, i9⟩ hF
          cases fu1 with
          | zero => exact nomatch hF
          | succ fu1 =>
            refine And.intro (fun h10 => ?_) (fun h10 => ?_)
            · have hF := cpos h10 hF
              refine join_no ?_
              refine obind hF fun b11 h12 hF => ?_
              refine ⟨ix_nn h12, _, ix_str h12, ?_⟩
              refine And.intro (fun h13 => ?_) (fun h13 => ?_)
              · have hF := cpos h13 hF
                exact Or.inl ⟨rfl, congrArg (Option.map rName_E) hF⟩
              · have hF := cneg h13 hF
                refine obind hF fun b14 h15 hF => ?_
                refine ⟨ix_nn h15, _, ix_str h15, ?_⟩
                refine And.intro (fun h16 => ?_) (fun h16 => ?_)
                · have hF := cpos h16 hF
                  exact Or.inl ⟨rfl, congrArg (Option.map rName_E) hF⟩
                · have hF := cneg h16 hF
                  refine And.intro (fun h17 => ?_) (fun h17 => ?_)
                  · have hF := cpos h17 hF
                    refine obind hF fun b18 h19 hF => ?_
                    refine ⟨ix_nn h19, _, ix_str h19, ?_⟩
                    refine And.intro (fun h20 => ?_) (fun h20 => ?_)
                    · have hF := cpos h20 hF
                      refine obind hF fun b21 h22 hF => ?_
                      refine ⟨ix_nn h22, _, ix_str h22, ?_⟩
                      refine And.intro (fun h23 => ?_) (fun h23 => ?_)
                      · have hF := cpos h23 hF
                        exact Or.inl ⟨rfl, congrArg (Option.map rName_E) hF⟩
                      · have hF := cneg h23 hF
                        exact ⟨(fu1, (IntKind.i64.wrap (i9 + 1))), Nat.lt_succ_self _, hF, ⟨rfl, rfl, trivial⟩, trivial⟩
                    · have hF := cneg h20 hF
                      exact ⟨(fu1, (IntKind.i64.wrap (i9 + 1))), Nat.lt_succ_self _, hF, ⟨rfl, rfl, trivial⟩, trivial⟩
                  · have hF := cneg h17 hF
                    exact ⟨(fu1, (IntKind.i64.wrap (i9 + 1))), Nat.lt_succ_self _, hF, ⟨rfl, rfl, trivial⟩, trivial⟩
            · have hF := cneg h10 hF
              exact Or.inl ⟨rfl, congrArg (Option.map rName_E) hF⟩
abbrev rName_S (s : Str) : Option (Bool) := rName_F (s.length + 1) s
theorem rName_h {s : Str} {r : Bool} (h : rName_S s = some r) : Holds Tryd.prog Gw 73 [S s] (rName_E r) := rName_Fh  h
abbrev rsuccessors_E (y : Int) : CV := I y
def rsuccessors_L2 (x : Off) (i1 : Int) (k_1 : Int → Option (Int)) : Nat → Int → Option (Int)
  | 0, _ => none
  | fu2 + 1, k3 => bif decide (k3 < i1) then (Option.bind (ix x.Next k3) fun x5 => Option.bind (ix x.Next i1) fun x7 => bif (x5 == x7) then some (6) else rsuccessors_L2 x i1 k_1 fu2 (IntKind.i64.wrap (k3 + 1))) else k_1 (IntKind.i64.wrap (i1 + 1))
def rsuccessors_L4 (l : List Off) (x : Off) : Nat → Int → Option (Int)
  | 0, _ => none
  | fu4 + 1, i17 => bif decide (i17 < ((x.Next.map cInt).length : Int)) then (Option.bind (ix x.Next i17) fun x19 => Option.bind (rFind_S l x19) fun y21 => Option.bind (ix l y21) fun x23 => bif (x23.In.From != x.In.Until) then some (10) else rsuccessors_L4 l x fu4 (IntKind.i64.wrap (i17 + 1))) else some (0)
def rsuccessors_L3 (l : List Off) (x : Off) (N : Nat) : Nat → Int → Option (Int)
  | 0, _ => none
  | fu3 + 1, i10 => bif decide (i10 < ((x.Next.map cInt).length : Int)) then (Option.bind (ix x.Next i10) fun x12 => Option.bind (rFind_S l x12) fun y14 => bif decide (y14 < 0) then some (7) else rsuccessors_L3 l x N fu3 (IntKind.i64.wrap (i10 + 1))) else rsuccessors_L4 l x N 0
def rsuccessors_L1 (l : List Off) (x : Off) (N : Nat) : Nat → Int → Option (Int)
  | 0, _ => none
  | fu1 + 1, i1 => bif decide (i1 < ((x.Next.map cInt).length : Int)) then rsuccessors_L2 x i1 (fun i1 => rsuccessors_L1 l x N fu1 i1) N 0 else rsuccessors_L3 l x N N 0
def rsuccessors_F (N : Nat) (l : List Off) (x : Off) : Option (Int) := rsuccessors_L1 l x N N 0
set_option linter.unusedVariables false in
theorem rsuccessors_Fh {N : Nat} {l : List Off} {x : Off} {r : Int} (hF : rsuccessors_F N l x = some r) : Holds Tryd.prog Gw 74 [.sl 5 (l.map cOff), .agg (cOff x)] (rsuccessors_E r) := by
  refine holds_of_wq tabOk mixed Tryd.func74 (by decide) rfl (Nat.le_of_ble_eq_true rfl) ?_
  refine loop_oq (fun p : Nat × Int => [(0, .c (.sl 5 (l.map cOff))), (3, .pm 3 0 0), (5, .c (I p.2))]) (fun p : Nat × Int => [(3, .var [I x.ID, S x.Name, I x.In.From, I x.In.Until, .sl 1 (x.Next.map cInt)])]) (fun p => rsuccessors_L1 l x N p.1 p.2 = some r) (fun p => p.1) (N, 0) hF ⟨rfl, rfl, rfl, trivial⟩ ⟨rfl, trivial⟩ ?_
  rintro ⟨fu1, i1⟩ hF
  cases fu1 with
  | zero => exact nomatch hF
  | succ fu1 =>
    refine And.intro (fun h2 => ?_) (fun h2 => ?_)
    · have hF := cpos h2 hF
      refine join_no ?_
      refine loop_oq (fun p : Nat × Int => [(0, .c (.sl 5 (l.map cOff))), (3, .pm 3 0 0), (5, .c (I i1)), (6, .c (I p.2))]) (fun p : Nat × Int => [(3, .var [I x.ID, S x.Name, I x.In.From, I x.In.Until, .sl 1 (x.Next.map cInt)])]) (fun p => rsuccessors_L2 x i1 (fun i1 => rsuccessors_L1 l x N fu1 i1) p.1 p.2 = some r) (fun p => p.1) (N, 0) hF ⟨rfl, rfl, rfl, rfl, trivial⟩ ⟨rfl, trivial⟩ ?_
      rintro ⟨fu2, k3⟩ hF
      cases fu2 with
      | zero => exact nomatch hF
      | succ fu2 =>
        refine And.intro (fun h4 => ?_) (fun h4 => ?_)
        · have hF := cpos h4 hF
          refine join_no ?_
          refine obind hF fun x5 h6 hF => ?_
          refine ⟨ix_nn h6, .inl rfl, _, ix_map cInt h6, ?_⟩
          refine obind hF fun x7 h8 hF => ?_
          refine ⟨ix_nn h8, .inl rfl, _, ix_map cInt h8, ?_⟩
          refine And.intro (by kernel_rfl) ?_
          refine And.intro (fun h9 => ?_) (fun h9 => ?_)
          · have hF := cpos h9 hF
            exact Or.inl ⟨rfl, congrArg (Option.map rsuccessors_E) hF⟩
          · have hF := cneg h9 hF
            exact ⟨(fu2, (IntKind.i64.wrap (k3 + 1))), Nat.lt_succ_self _, hF, ⟨rfl, rfl, rfl, rfl, trivial⟩, ⟨rfl, trivial⟩⟩
        · have hF := cneg h4 hF
          exact ⟨(fu1, (IntKind.i64.wrap (i1 + 1))), Nat.lt_succ_self _, hF, ⟨rfl, rfl, rfl, trivial⟩, ⟨rfl, trivial⟩⟩
    · have hF := cneg h2 hF
      refine loop_oq (fun p : Nat × Int => [(0, .c (.sl 5 (l.map cOff))), (3, .pm 3 0 0), (7, .c (I p.2))]) (fun p : Nat × Int => [(3, .var [I x.ID, S x.Name, I x.In.From, I x.In.Until, .sl 1 (x.Next.map cInt)])]) (fun p => rsuccessors_L3 l x N p.1 p.2 = some r) (fun p => p.1) (N, 0) hF ⟨rfl, rfl, rfl, trivial⟩ ⟨rfl, trivial⟩ ?_
      rintro ⟨fu3, i10⟩ hF
      cases fu3 with
      | zero => exact nomatch hF
      | succ fu3 =>
        refine And.intro (fun h11 => ?_) (fun h11 => ?_)
        · have hF := cpos h11 hF
          refine join_no ?_
          refine obind hF fun x12 h13 hF => ?_
          refine ⟨ix_nn h13, .inl rfl, _, ix_map cInt h13, ?_⟩
          refine obind hF fun y14 h15 hF => ?_
          refine Or.inl ⟨_, rFind_h h15, rfl, ?_⟩
          refine And.intro (fun h16 => ?_) (fun h16 => ?_)
          · have hF := cpos h16 hF
            exact Or.inl ⟨rfl, congrArg (Option.map rsuccessors_E) hF⟩
          · have hF := cneg h16 hF
            exact ⟨(fu3, (IntKind.i64.wrap (i10 + 1))), Nat.lt_succ_self _, hF, ⟨rfl, rfl, rfl, trivial⟩, ⟨rfl, trivial⟩⟩
        · have hF := cneg h11 hF
          refine loop_oq (fun p : Nat × Int => [(0, .c (.sl 5 (l.map cOff))), (3, .pm 3 0 0), (8, .c (I p.2))]) (fun p : Nat × Int => [(3, .var [I x.ID, S x.Name, I x.In.From, I x.In.Until, .sl 1 (x.Next.map cInt)])]) (fun p => rsuccessors_L4 l x p.1 p.2 = some r) (fun p => p.1) (N, 0) hF ⟨rfl, rfl, rfl, trivial⟩ ⟨rfl, trivial⟩ ?_
          rintro ⟨fu4, i17⟩ hF
          cases fu4 with
          | zero => exact nomatch hF
          | succ fu4 =>
            refine And.intro (fun h18 => ?_) (fun h18 => ?_)
            · have hF := cpos h18 hF
              refine join_no ?_
              refine obind hF fun x19 h20 hF => ?_
              refine ⟨ix_nn h20, .inl rfl, _, ix_map cInt h20, ?_⟩
              refine obind hF fun y21 h22 hF => ?_
              refine Or.inl ⟨_, rFind_h h22, rfl, ?_⟩
              refine obind hF fun x23 h24 hF => ?_
              refine ⟨ix_nn h24, .inl rfl, _, ix_map cOff h24, ?_⟩
              refine And.intro (by kernel_rfl) ?_
              refine And.intro (fun h25 => ?_) (fun h25 => ?_)
              · have hF := cpos h25 hF
                exact Or.inl ⟨rfl, congrArg (Option.map rsuccessors_E) hF⟩
              · have hF := cneg h25 hF
                exact ⟨(fu4, (IntKind.i64.wrap (i17 + 1))), Nat.lt_succ_self _, hF, ⟨rfl, rfl, rfl, trivial⟩, ⟨rfl, trivial⟩⟩
            · have hF := cneg h18 hF
              exact Or.inl ⟨rfl, congrArg (Option.map rsuccessors_E) hF⟩
abbrev rsuccessors_S (l : List Off) (x : Off) : Option (Int) := rsuccessors_F (x.Next.length + 1) l x
theorem rsuccessors_h {l : List Off} {x : Off} {r : Int} (h : rsuccessors_S l x = some r) : Holds Tryd.prog Gw 74 [.sl 5 (l.map cOff), .agg (cOff x)] (rsuccessors_E r) := rsuccessors_Fh  h
abbrev rfault_E (y : Int) : CV := I y
def rfault_F (l : List Off) (i : Int) : Option (Int) := Option.bind (ix l i) fun x1 => bif decide (x1.ID < 1) then some (2) else (bif decide (x1.ID > 1073741824) then some (2) else (Option.bind (rGoodSpan_S x1.In) fun y5 => bif (!y5) then some (2) else (bif decide (((x1.Next.map cInt).length : Int) > 8) then some (2) else (Option.bind (rName_S x1.Name) fun y9 => bif (!y9) then some (4) else (bif decide (i > 0) then (Option.bind (ix l (IntKind.i64.wrap (i - 1))) fun x13 => bif decide (x1.ID ≤ x13.ID) then some (5) else (Option.bind (rsuccessors_S l x1) fun y16 => some (y16))) else (Option.bind (rsuccessors_S l x1) fun y18 => some (y18)))))))
set_option linter.unusedVariables false in
theorem rfault_Fh {l : List Off} {i : Int} {r : Int} (hF : rfault_F l i = some r) : Holds Tryd.prog Gw 56 [.sl 5 (l.map cOff), I i] (rfault_E r) := by
  refine holds_of_wq tabOk mixed Tryd.func56 (by decide) rfl (Nat.le_of_ble_eq_true rfl) ?_
  refine obind hF fun x1 h2 hF => ?_
  refine ⟨ix_nn h2, .inl rfl, _, ix_map cOff h2, ?_⟩
  refine Or.inl ?_
  refine And.intro (fun h3 => ?_) (fun h3 => ?_)
  · have hF := cpos h3 hF
    exact Or.inl ⟨rfl, congrArg (Option.map rfault_E) hF⟩
  · have hF := cneg h3 hF
    refine And.intro (fun h4 => ?_) (fun h4 => ?_)
    · have hF := cpos h4 hF
      exact Or.inl ⟨rfl, congrArg (Option.map rfault_E) hF⟩
    · have hF := cneg h4 hF
      refine obind hF fun y5 h6 hF => ?_
      refine Or.inl ⟨_, rGoodSpan_h h6, rfl, ?_⟩
      refine And.intro (fun h7 => ?_) (fun h7 => ?_)
      · have hF := cpos h7 hF
        exact Or.inl ⟨rfl, congrArg (Option.map rfault_E) hF⟩
      · have hF := cneg h7 hF
        refine And.intro (fun h8 => ?_) (fun h8 => ?_)
        · have hF := cpos h8 hF
          exact Or.inl ⟨rfl, congrArg (Option.map rfault_E) hF⟩
        · have hF := cneg h8 hF
          refine obind hF fun y9 h10 hF => ?_
          refine Or.inl ⟨_, rName_h h10, rfl, ?_⟩
          refine And.intro (fun h11 => ?_) (fun h11 => ?_)
          · have hF := cpos h11 hF
            exact Or.inl ⟨rfl, congrArg (Option.map rfault_E) hF⟩
          · have hF := cneg h11 hF
            refine And.intro (fun h12 => ?_) (fun h12 => ?_)
            · have hF := cpos h12 hF
              refine obind hF fun x13 h14 hF => ?_
              refine ⟨ix_nn h14, .inl rfl, _, ix_map cOff h14, ?_⟩
              refine And.intro (by kernel_rfl) ?_
              refine And.intro (fun h15 => ?_) (fun h15 => ?_)
              · have hF := cpos h15 hF
                exact Or.inl ⟨rfl, congrArg (Option.map rfault_E) hF⟩
              · have hF := cneg h15 hF
                refine obind hF fun y16 h17 hF => ?_
                refine Or.inl ⟨_, rsuccessors_h h17, rfl, ?_⟩
                exact Or.inl ⟨rfl, congrArg (Option.map rfault_E) hF⟩
            · have hF := cneg h12 hF
              refine And.intro (by kernel_rfl) ?_
              refine obind hF fun y18 h19 hF => ?_
              refine Or.inl ⟨_, rsuccessors_h h19, rfl, ?_⟩
              exact Or.inl ⟨rfl, congrArg (Option.map rfault_E) hF⟩
abbrev rfault_S (l : List Off) (i : Int) : Option (Int) := rfault_F l i
theorem rfault_h {l : List Off} {i : Int} {r : Int} (h : rfault_S l i = some r) : Holds Tryd.prog Gw 56 [.sl 5 (l.map cOff), I i] (rfault_E r) := rfault_Fh  h
abbrev rCheck_E (y : Int × Int) : CV := .tup [I y.1, I y.2]
def rCheck_L1 (l : List Off) : Nat → Int → Option (Int × Int)
  | 0, _ => none
  | fu1 + 1, i2 => bif decide (i2 < ((l.map cOff).length : Int)) then (Option.bind (rfault_S l i2) fun y4 => bif (y4 != 0) then some (i2, y4) else rCheck_L1 l fu1 (IntKind.i64.wrap (i2 + 1))) else some ((-1), 0)
def rCheck_F (N : Nat) (l : List Off) : Option (Int × Int) := bif decide (((l.map cOff).length : Int) > 32) then some ((-1), 8) else rCheck_L1 l N 0
set_option linter.unusedVariables false in
theorem rCheck_Fh {N : Nat} {l : List Off} {r : Int × Int} (hF : rCheck_F N l = some r) : Holds Tryd.prog Gw 48 [.sl 5 (l.map cOff)] (rCheck_E r) := by
  refine holds_of_wq tabOk mixed Tryd.func48 (by decide) rfl (Nat.le_of_ble_eq_true rfl) ?_
  refine And.intro (fun h1 => ?_) (fun h1 => ?_)
  · have hF := cpos h1 hF
    exact Or.inl ⟨rfl, congrArg (Option.map rCheck_E) hF⟩
  · have hF := cneg h1 hF
    refine loop_oq (fun p : Nat × Int => [(0, .c (.sl 5 (l.map cOff))), (4, .c (I p.2))]) (fun _ => []) (fun p => rCheck_L1 l p.1 p.2 = some r) (fun p => p.1) (N, 0) hF ⟨rfl, rfl, trivial⟩ trivial ?_
    rintro ⟨fu1, i2⟩ hF
    cases fu1 with
    | zero => exact nomatch hF
    | succ fu1 =>
      refine And.intro (fun h3 => ?_) (fun h3 => ?_)
      · have hF := cpos h3 hF
        refine join_no ?_
        refine obind hF fun y4 h5 hF => ?_
        refine Or.inl ⟨_, rfault_h h5, rfl, ?_⟩
        refine And.intro (fun h6 => ?_) (fun h6 => ?_)
        · have hF := cpos h6 hF
          exact Or.inl ⟨rfl, congrArg (Option.map rCheck_E) hF⟩
        · have hF := cneg h6 hF
          exact ⟨(fu1, (IntKind.i64.wrap (i2 + 1))), Nat.lt_succ_self _, hF, ⟨rfl, rfl, trivial⟩, trivial⟩
      · have hF := cneg h3 hF
        exact Or.inl ⟨rfl, congrArg (Option.map rCheck_E) hF⟩
abbrev rCheck_S (l : List Off) : Option (Int × Int) := rCheck_F (l.length + 1) l
theorem rCheck_h {l : List Off} {r : Int × Int} (h : rCheck_S l = some r) : Holds Tryd.prog Gw 48 [.sl 5 (l.map cOff)] (rCheck_E r) := rCheck_Fh  h
abbrev rGood_E (y : Bool) : CV := B y
def rGood_F (l : List Off) : Option (Bool) := Option.bind (rCheck_S l) fun y1 => some ((y1.2 == 0))
set_option linter.unusedVariables false in
theorem rGood_Fh {l : List Off} {r : Bool} (hF : rGood_F l = some r) : Holds Tryd.prog Gw 33 [.sl 5 (l.map cOff)] (rGood_E r) := by
  refine holds_of_wq tabOk mixed Tryd.func33 (by decide) rfl (Nat.le_of_ble_eq_true rfl) ?_
  refine obind hF fun y1 h2 hF => ?_
  refine Or.inl ⟨_, rCheck_h h2, rfl, ?_⟩
  exact Or.inl ⟨rfl, congrArg (Option.map rGood_E) hF⟩
abbrev rGood_S (l : List Off) : Option (Bool) := rGood_F l
theorem rGood_h {l : List Off} {r : Bool} (h : rGood_S l = some r) : Holds Tryd.prog Gw 33 [.sl 5 (l.map cOff)] (rGood_E r) := rGood_Fh  h
abbrev rChain_E (y : List Int) : CV := .sl 1 (y.map cInt)
def rChain_L1 (l : List Off) (day : Int) : Nat → List Int → Int → Option (List Int)
  | 0, _, _ => none
  | fu1 + 1, out7, i8 => Option.bind (ix l i8) fun x9 => bif decide (out7.length + ([x9.ID] : List Int).length ≤ 4294967296) then Option.bind (ix l i8) fun x11 => Option.bind (rIn_S x11.In day) fun y13 => bif y13 then some ((out7 ++ ([x9.ID] : List Int))) else (Option.bind (ix l i8) fun x16 => bif (((x16.Next.map cInt).length : Int) == 0) then some ((out7 ++ ([x9.ID] : List Int))) else (Option.bind (ix l i8) fun x19 => Option.bind (ix x19.Next 0) fun x21 => Option.bind (rFind_S l x21) fun y23 => rChain_L1 l day fu1 (out7 ++ ([x9.ID] : List Int)) y23)) else none
def rChain_F (N : Nat) (l : List Off) (id : Int) (day : Int) : Option (List Int) := Option.bind (rFind_S l id) fun y1 => Option.bind (rGood_S l) fun y3 => bif (!y3) then some (([] : List Int)) else (bif decide (y1 < 0) then some (([] : List Int)) else rChain_L1 l day N ([] : List Int) y1)
set_option linter.unusedVariables false in
theorem rChain_Fh {N : Nat} {l : List Off} {id : Int} {day : Int} {r : List Int} (hF : rChain_F N l id day = some r) : Holds Tryd.prog Gw 15 [.sl 5 (l.map cOff), I id, I day] (rChain_E r) := by
  refine holds_of_wq tabOk mixed Tryd.func15 (by decide) rfl (Nat.le_of_ble_eq_true rfl) ?_
  refine Or.inl ?_
  refine Or.inl ?_
  refine obind hF fun y1 h2 hF => ?_
  refine Or.inl ⟨_, rFind_h h2, rfl, ?_⟩
  refine obind hF fun y3 h4 hF => ?_
  refine Or.inl ⟨_, rGood_h h4, rfl, ?_⟩
  refine And.intro (fun h5 => ?_) (fun h5 => ?_)
  · have hF := cpos h5 hF
    exact Or.inl ⟨rfl, congrArg (Option.map rChain_E) hF⟩
  · have hF := cneg h5 hF
    refine And.intro (fun h6 => ?_) (fun h6 => ?_)
    · have hF := cpos h6 hF
      exact Or.inl ⟨rfl, congrArg (Option.map rChain_E) hF⟩
    · have hF := cneg h6 hF
      refine loop_oq (fun p : Nat × List Int × Int => [(0, .c (.sl 5 (l.map cOff))), (2, .c (I day)), (7, .ap 7 0 1 (p.2.1.map cInt)), (8, .c (I p.2.2))]) (fun p : Nat × List Int × Int => [(7, .tok 3 1)]) (fun p => rChain_L1 l day p.1 p.2.1 p.2.2 = some r) (fun p => p.1) (N, ([] : List Int), y1) hF ⟨rfl, rfl, rfl, rfl, trivial⟩ ⟨rfl, trivial⟩ ?_
      rintro ⟨fu1, out7, i8⟩ hF
      cases fu1 with
      | zero => exact nomatch hF
      | succ fu1 =>
        refine obind hF fun x9 h10 hF => ?_
        refine ⟨ix_nn h10, .inl rfl, _, ix_map cOff h10, ?_⟩
        refine Or.inl ?_
        refine gpos hF fun h25 hF => ?_
        refine Or.inl ⟨len_all rfl, app_le h25, (out7 ++ ([x9.ID] : List Int)).map cInt, map_app _ _ _, ?_⟩
        refine obind hF fun x11 h12 hF => ?_
        refine ⟨ix_nn h12, .inl rfl, _, ix_map cOff h12, ?_⟩
        refine obind hF fun y13 h14 hF => ?_
        refine Or.inl ⟨_, rIn_h h14, rfl, ?_⟩
        refine And.intro (fun h15 => ?_) (fun h15 => ?_)
        · have hF := cpos h15 hF
          exact Or.inl ⟨rfl, congrArg (Option.map rChain_E) hF⟩
        · have hF := cneg h15 hF
          refine obind hF fun x16 h17 hF => ?_
          refine ⟨ix_nn h17, .inl rfl, _, ix_map cOff h17, ?_⟩
          refine And.intro (fun h18 => ?_) (fun h18 => ?_)
          · have hF := cpos h18 hF
            exact Or.inl ⟨rfl, congrArg (Option.map rChain_E) hF⟩
          · have hF := cneg h18 hF
            refine obind hF fun x19 h20 hF => ?_
            refine ⟨ix_nn h20, .inl rfl, _, ix_map cOff h20, ?_⟩
            refine obind hF fun x21 h22 hF => ?_
            refine ⟨ix_nn h22, .inl rfl, _, ix_map cInt h22, ?_⟩
            refine obind hF fun y23 h24 hF => ?_
            refine Or.inl ⟨_, rFind_h h24, rfl, ?_⟩
            exact ⟨(fu1, (out7 ++ ([x9.ID] : List Int)), y23), Nat.lt_succ_self _, hF, ⟨rfl, rfl, rfl, rfl, trivial⟩, ⟨rfl, trivial⟩⟩
abbrev rChain_S (l : List Off) (id : Int) (day : Int) : Option (List Int) := rChain_F 1000 l id day
theorem rChain_h {l : List Off} {id : Int} {day : Int} {r : List Int} (h : rChain_S l id day = some r) : Holds Tryd.prog Gw 15 [.sl 5 (l.map cOff), I id, I day] (rChain_E r) := rChain_Fh  h
abbrev rHeir_E (y : Int × Bool) : CV := .tup [I y.1, B y.2]
def rHeir_F (l : List Off) (id : Int) (day : Int) : Option (Int × Bool) := Option.bind (rChain_S l id day) fun y1 => bif (((y1.map cInt).length : Int) == 0) then some (0, false) else (Option.bind (ix y1 (IntKind.i64.wrap (((y1.map cInt).length : Int) - 1))) fun x4 => Option.bind (rFind_S l x4) fun y6 => Option.bind (ix l y6) fun x8 => Option.bind (rIn_S x8.In day) fun y10 => bif (!y10) then some (0, false) else (Option.bind (ix y1 (IntKind.i64.wrap (((y1.map cInt).length : Int) - 1))) fun x13 => some (x13, true)))
set_option linter.unusedVariables false in
theorem rHeir_Fh {l : List Off} {id : Int} {day : Int} {r : Int × Bool} (hF : rHeir_F l id day = some r) : Holds Tryd.prog Gw 12 [.sl 5 (l.map cOff), I id, I day] (rHeir_E r) := by
  refine holds_of_wq tabOk mixed Tryd.func12 (by decide) rfl (Nat.le_of_ble_eq_true rfl) ?_
  refine obind hF fun y1 h2 hF => ?_
  refine Or.inl ⟨_, rChain_h h2, rfl, ?_⟩
  refine And.intro (fun h3 => ?_) (fun h3 => ?_)
  · have hF := cpos h3 hF
    exact Or.inl ⟨rfl, congrArg (Option.map rHeir_E) hF⟩
  · have hF := cneg h3 hF
    refine obind hF fun x4 h5 hF => ?_
    refine ⟨ix_nn h5, .inl rfl, _, ix_map cInt h5, ?_⟩
    refine obind hF fun y6 h7 hF => ?_
    refine Or.inl ⟨_, rFind_h h7, rfl, ?_⟩
    refine obind hF fun x8 h9 hF => ?_
    refine ⟨ix_nn h9, .inl rfl, _, ix_map cOff h9, ?_⟩
    refine obind hF fun y10 h11 hF => ?_
    refine Or.inl ⟨_, rIn_h h11, rfl, ?_⟩
    refine And.intro (fun h12 => ?_) (fun h12 => ?_)
    · have hF := cpos h12 hF
      exact Or.inl ⟨rfl, congrArg (Option.map rHeir_E) hF⟩
    · have hF := cneg h12 hF
      refine obind hF fun x13 h14 hF => ?_
      refine ⟨ix_nn h14, .inl rfl, _, ix_map cInt h14, ?_⟩
      exact Or.inl ⟨rfl, congrArg (Option.map rHeir_E) hF⟩
abbrev rHeir_S (l : List Off) (id : Int) (day : Int) : Option (Int × Bool) := rHeir_F l id day
theorem rHeir_h {l : List Off} {id : Int} {day : Int} {r : Int × Bool} (h : rHeir_S l id day = some r) : Holds Tryd.prog Gw 12 [.sl 5 (l.map cOff), I id, I day] (rHeir_E r) := rHeir_Fh  h
abbrev rhas_E (y : Bool) : CV := B y
def rhas_L1 (l : List Int) (n : Int) : Nat → Int → Option (Bool)
  | 0, _ => none
  | fu1 + 1, i1 => bif decide (i1 < ((l.map cInt).length : Int)) then (Option.bind (ix l i1) fun x3 => bif (x3 == n) then some (true) else rhas_L1 l n fu1 (IntKind.i64.wrap (i1 + 1))) else some (false)
def rhas_F (N : Nat) (l : List Int) (n : Int) : Option (Bool) := rhas_L1 l n N 0
set_option linter.unusedVariables false in
theorem rhas_Fh {N : Nat} {l : List Int} {n : Int} {r : Bool} (hF : rhas_F N l n = some r) : Holds Tryd.prog Gw 36 [.sl 1 (l.map cInt), I n] (rhas_E r) := by
  refine holds_of_wq tabOk mixed Tryd.func36 (by decide) rfl (Nat.le_of_ble_eq_true rfl) ?_
  refine loop_oq (fun p : Nat × Int => [(0, .c (.sl 1 (l.map cInt))), (1, .c (I n)), (5, .c (I p.2))]) (fun _ => []) (fun p => rhas_L1 l n p.1 p.2 = some r) (fun p => p.1) (N, 0) hF ⟨rfl, rfl, rfl, trivial⟩ trivial ?_
  rintro ⟨fu1, i1⟩ hF
  cases fu1 with
  | zero => exact nomatch hF
  | succ fu1 =>
    refine And.intro (fun h2 => ?_) (fun h2 => ?_)
    · have hF := cpos h2 hF
      refine join_no ?_
      refine obind hF fun x3 h4 hF => ?_
      refine ⟨ix_nn h4, .inl rfl, _, ix_map cInt h4, ?_⟩
      refine And.intro (fun h5 => ?_) (fun h5 => ?_)
      · have hF := cpos h5 hF
        exact Or.inl ⟨rfl, congrArg (Option.map rhas_E) hF⟩
      · have hF := cneg h5 hF
        exact ⟨(fu1, (IntKind.i64.wrap (i1 + 1))), Nat.lt_succ_self _, hF, ⟨rfl, rfl, rfl, trivial⟩, trivial⟩
    · have hF := cneg h2 hF
      exact Or.inl ⟨rfl, congrArg (Option.map rhas_E) hF⟩
abbrev rhas_S (l : List Int) (n : Int) : Option (Bool) := rhas_F (l.length + 1) l n
theorem rhas_h {l : List Int} {n : Int} {r : Bool} (h : rhas_S l n = some r) : Holds Tryd.prog Gw 36 [.sl 1 (l.map cInt), I n] (rhas_E r) := rhas_Fh  h
abbrev rReach_E (y : List Int) : CV := .sl 1 (y.map cInt)
def rReach_L2 (i8 : Int) (x14 : Off) (k_1 : List Int → Int → Option (List Int)) : Nat → List Int → Int → Option (List Int)
  | 0, _, _ => none
  | fu2 + 1, seen16, k17 => bif decide (k17 < ((x14.Next.map cInt).length : Int)) then (Option.bind (ix x14.Next k17) fun x19 => Option.bind (rhas_S seen16 x19) fun y21 => bif (!y21) then (Option.bind (ix x14.Next k17) fun x24 => bif decide (seen16.length + ([x24] : List Int).length ≤ 4294967296) then rReach_L2 i8 x14 k_1 fu2 (seen16 ++ ([x24] : List Int)) (IntKind.i64.wrap (k17 + 1)) else none) else rReach_L2 i8 x14 k_1 fu2 seen16 (IntKind.i64.wrap (k17 + 1))) else k_1 seen16 (IntKind.i64.wrap (i8 + 1))
def rReach_L3 (l : List Off) (seen7 : List Int) : Nat → List Int → Int → Option (List Int)
  | 0, _, _ => none
  | fu3 + 1, out27, i28 => bif decide (i28 < ((l.map cOff).length : Int)) then (Option.bind (ix l i28) fun x30 => Option.bind (rhas_S seen7 x30.ID) fun y32 => bif y32 then (Option.bind (ix l i28) fun x35 => bif decide (out27.length + ([x35.ID] : List Int).length ≤ 4294967296) then rReach_L3 l seen7 fu3 (out27 ++ ([x35.ID] : List Int)) (IntKind.i64.wrap (i28 + 1)) else none) else rReach_L3 l seen7 fu3 out27 (IntKind.i64.wrap (i28 + 1))) else some (out27)
def rReach_L1 (l : List Off) (N : Nat) : Nat → List Int → Int → Option (List Int)
  | 0, _, _ => none
  | fu1 + 1, seen7, i8 => bif decide (i8 < ((seen7.map cInt).length : Int)) then (Option.bind (ix seen7 i8) fun x10 => Option.bind (rFind_S l x10) fun y12 => Option.bind (ix l y12) fun x14 => rReach_L2 i8 x14 (fun seen7 i8 => rReach_L1 l N fu1 seen7 i8) N seen7 0) else rReach_L3 l seen7 N ([] : List Int) 0
def rReach_F (N : Nat) (l : List Off) (id : Int) : Option (List Int) := Option.bind (rGood_S l) fun y1 => bif (!y1) then some (([] : List Int)) else (Option.bind (rFind_S l id) fun y4 => bif decide (y4 < 0) then some (([] : List Int)) else rReach_L1 l N N ([id] : List Int) 0)
set_option linter.unusedVariables false in
theorem rReach_Fh {N : Nat} {l : List Off} {id : Int} {r : List Int} (hF : rReach_F N l id = some r) : Holds Tryd.prog Gw 17 [.sl 5 (l.map cOff), I id] (rReach_E r) := by
  refine holds_of_wq tabOk mixed Tryd.func17 (by decide) rfl (Nat.le_of_ble_eq_true rfl) ?_
  refine Or.inl ?_
  refine obind hF fun y1 h2 hF => ?_
  refine Or.inl ⟨_, rGood_h h2, rfl, ?_⟩
  refine And.intro (fun h3 => ?_) (fun h3 => ?_)
  · have hF := cpos h3 hF
    refine Or.inl ?_
    exact Or.inl ⟨rfl, congrArg (Option.map rReach_E) hF⟩
  · have hF := cneg h3 hF
    refine obind hF fun y4 h5 hF => ?_
    refine Or.inl ⟨_, rFind_h h5, rfl, ?_⟩
    refine And.intro (fun h6 => ?_) (fun h6 => ?_)
    · have hF := cpos h6 hF
      refine Or.inl ?_
      exact Or.inl ⟨rfl, congrArg (Option.map rReach_E) hF⟩
    · have hF := cneg h6 hF
      refine Or.inl ?_
      refine loop_oq (fun p : Nat × List Int × Int => [(0, .c (.sl 5 (l.map cOff))), (5, .ap 5 0 1 (p.2.1.map cInt)), (6, .c (I p.2.2))]) (fun p : Nat × List Int × Int => [(5, .tok 3 1)]) (fun p => rReach_L1 l N p.1 p.2.1 p.2.2 = some r) (fun p => p.1) (N, ([id] : List Int), 0) hF ⟨rfl, rfl, rfl, trivial⟩ ⟨rfl, trivial⟩ ?_
      rintro ⟨fu1, seen7, i8⟩ hF
      cases fu1 with
      | zero => exact nomatch hF
      | succ fu1 =>
        refine And.intro (fun h9 => ?_) (fun h9 => ?_)
        · have hF := cpos h9 hF
          refine join_no ?_
          refine obind hF fun x10 h11 hF => ?_
          refine ⟨ix_nn h11, .inl rfl, _, ix_map cInt h11, ?_⟩
          refine obind hF fun y12 h13 hF => ?_
          refine Or.inl ⟨_, rFind_h h13, rfl, ?_⟩
          refine obind hF fun x14 h15 hF => ?_
          refine ⟨ix_nn h15, .inl rfl, _, ix_map cOff h15, ?_⟩
          refine loop_oq (fun p : Nat × List Int × Int => [(0, .c (.sl 5 (l.map cOff))), (5, .ap 5 0 1 (p.2.1.map cInt)), (6, .c (I i8)), (7, .c (.sl 1 (x14.Next.map cInt))), (8, .c (I p.2.2))]) (fun p : Nat × List Int × Int => [(5, .tok 3 1)]) (fun p => rReach_L2 i8 x14 (fun seen7 i8 => rReach_L1 l N fu1 seen7 i8) p.1 p.2.1 p.2.2 = some r) (fun p => p.1) (N, seen7, 0) hF ⟨rfl, rfl, rfl, rfl, rfl, trivial⟩ ⟨rfl, trivial⟩ ?_
          rintro ⟨fu2, seen16, k17⟩ hF
          cases fu2 with
          | zero => exact nomatch hF
          | succ fu2 =>
            refine And.intro (fun h18 => ?_) (fun h18 => ?_)
            · have hF := cpos h18 hF
              refine join_no ?_
              refine obind hF fun x19 h20 hF => ?_
              refine ⟨ix_nn h20, .inl rfl, _, ix_map cInt h20, ?_⟩
              refine obind hF fun y21 h22 hF => ?_
              refine Or.inl ⟨_, rhas_h h22, rfl, ?_⟩
              refine And.intro (fun h23 => ?_) (fun h23 => ?_)
              · have hF := cpos h23 hF
                refine obind hF fun x24 h25 hF => ?_
                refine ⟨ix_nn h25, .inl rfl, _, ix_map cInt h25, ?_⟩
                refine Or.inl ?_
                refine gpos hF fun h26 hF => ?_
                refine Or.inl ⟨len_all rfl, app_le h26, (seen16 ++ ([x24] : List Int)).map cInt, map_app _ _ _, ?_⟩
                exact ⟨(fu2, (seen16 ++ ([x24] : List Int)), (IntKind.i64.wrap (k17 + 1))), Nat.lt_succ_self _, hF, ⟨rfl, rfl, rfl, rfl, rfl, trivial⟩, ⟨rfl, trivial⟩⟩
              · have hF := cneg h23 hF
                exact ⟨(fu2, seen16, (IntKind.i64.wrap (k17 + 1))), Nat.lt_succ_self _, hF, ⟨rfl, rfl, rfl, rfl, rfl, trivial⟩, ⟨rfl, trivial⟩⟩
            · have hF := cneg h18 hF
              exact ⟨(fu1, seen16, (IntKind.i64.wrap (i8 + 1))), Nat.lt_succ_self _, hF, ⟨rfl, rfl, rfl, trivial⟩, ⟨rfl, trivial⟩⟩
        · have hF := cneg h9 hF
          refine Or.inl ?_
          refine loop_oq (fun p : Nat × List Int × Int => [(0, .c (.sl 5 (l.map cOff))), (5, .ap 5 0 1 (seen7.map cInt)), (9, .ap 9 0 1 (p.2.1.map cInt)), (10, .c (I p.2.2))]) (fun p : Nat × List Int × Int => [(5, .tok 3 1), (9, .tok 3 1)]) (fun p => rReach_L3 l seen7 p.1 p.2.1 p.2.2 = some r) (fun p => p.1) (N, ([] : List Int), 0) hF ⟨rfl, rfl, rfl, rfl, trivial⟩ ⟨rfl, rfl, trivial⟩ ?_
          rintro ⟨fu3, out27, i28⟩ hF
          cases fu3 with
          | zero => exact nomatch hF
          | succ fu3 =>
            refine And.intro (fun h29 => ?_) (fun h29 => ?_)
            · have hF := cpos h29 hF
              refine join_no ?_
              refine obind hF fun x30 h31 hF => ?_
              refine ⟨ix_nn h31, .inl rfl, _, ix_map cOff h31, ?_⟩
              refine obind hF fun y32 h33 hF => ?_
              refine Or.inl ⟨_, rhas_h h33, rfl, ?_⟩
              refine And.intro (fun h34 => ?_) (fun h34 => ?_)
              · have hF := cpos h34 hF
                refine obind hF fun x35 h36 hF => ?_
                refine ⟨ix_nn h36, .inl rfl, _, ix_map cOff h36, ?_⟩
                refine Or.inl ?_
                refine gpos hF fun h37 hF => ?_
                refine Or.inl ⟨len_all rfl, app_le h37, (out27 ++ ([x35.ID] : List Int)).map cInt, map_app _ _ _, ?_⟩
                exact ⟨(fu3, (out27 ++ ([x35.ID] : List Int)), (IntKind.i64.wrap (i28 + 1))), Nat.lt_succ_self _, hF, ⟨rfl, rfl, rfl, rfl, trivial⟩, ⟨rfl, rfl, trivial⟩⟩
              · have hF := cneg h34 hF
                exact ⟨(fu3, out27, (IntKind.i64.wrap (i28 + 1))), Nat.lt_succ_self _, hF, ⟨rfl, rfl, rfl, rfl, trivial⟩, ⟨rfl, rfl, trivial⟩⟩
            · have hF := cneg h29 hF
              exact Or.inl ⟨rfl, congrArg (Option.map rReach_E) hF⟩
abbrev rReach_S (l : List Off) (id : Int) : Option (List Int) := rReach_F 1000 l id
theorem rReach_h {l : List Off} {id : Int} {r : List Int} (h : rReach_S l id = some r) : Holds Tryd.prog Gw 17 [.sl 5 (l.map cOff), I id] (rReach_E r) := rReach_Fh  h
abbrev rDuties_E (y : List Int) : CV := .sl 1 (y.map cInt)
def rDuties_L1 (l : List Off) (id : Int) (day : Int) : Nat → List Int → Int → Option (List Int)
  | 0, _, _ => none
  | fu1 + 1, out7, i8 => bif decide (i8 < ((l.map cOff).length : Int)) then (Option.bind (ix l i8) fun x10 => Option.bind (rHeir_S l x10.ID day) fun y12 => bif y12.2 then (bif (y12.1 == id) then (Option.bind (ix l i8) fun x16 => bif decide (out7.length + ([x16.ID] : List Int).length ≤ 4294967296) then rDuties_L1 l id day fu1 (out7 ++ ([x16.ID] : List Int)) (IntKind.i64.wrap (i8 + 1)) else none) else rDuties_L1 l id day fu1 out7 (IntKind.i64.wrap (i8 + 1))) else rDuties_L1 l id day fu1 out7 (IntKind.i64.wrap (i8 + 1))) else some (out7)
def rDuties_F (N : Nat) (l : List Off) (id : Int) (day : Int) : Option (List Int) := Option.bind (rGood_S l) fun y1 => bif (!y1) then some (([] : List Int)) else (Option.bind (rFind_S l id) fun y4 => bif decide (y4 < 0) then some (([] : List Int)) else rDuties_L1 l id day N ([] : List Int) 0)
set_option linter.unusedVariables false in
theorem rDuties_Fh {N : Nat} {l : List Off} {id : Int} {day : Int} {r : List Int} (hF : rDuties_F N l id day = some r) : Holds Tryd.prog Gw 19 [.sl 5 (l.map cOff), I id, I day] (rDuties_E r) := by
  refine holds_of_wq tabOk mixed Tryd.func19 (by decide) rfl (Nat.le_of_ble_eq_true rfl) ?_
  refine Or.inl ?_
  refine Or.inl ?_
  refine obind hF fun y1 h2 hF => ?_
  refine Or.inl ⟨_, rGood_h h2, rfl, ?_⟩
  refine And.intro (fun h3 => ?_) (fun h3 => ?_)
  · have hF := cpos h3 hF
    exact Or.inl ⟨rfl, congrArg (Option.map rDuties_E) hF⟩
  · have hF := cneg h3 hF
    refine obind hF fun y4 h5 hF => ?_
    refine Or.inl ⟨_, rFind_h h5, rfl, ?_⟩
    refine And.intro (fun h6 => ?_) (fun h6 => ?_)
    · have hF := cpos h6 hF
      exact Or.inl ⟨rfl, congrArg (Option.map rDuties_E) hF⟩
    · have hF := cneg h6 hF
      refine loop_oq (fun p : Nat × List Int × Int => [(0, .c (.sl 5 (l.map cOff))), (1, .c (I id)), (2, .c (I day)), (7, .ap 7 0 1 (p.2.1.map cInt)), (8, .c (I p.2.2))]) (fun p : Nat × List Int × Int => [(7, .tok 3 1)]) (fun p => rDuties_L1 l id day p.1 p.2.1 p.2.2 = some r) (fun p => p.1) (N, ([] : List Int), 0) hF ⟨rfl, rfl, rfl, rfl, rfl, trivial⟩ ⟨rfl, trivial⟩ ?_
      rintro ⟨fu1, out7, i8⟩ hF
      cases fu1 with
      | zero => exact nomatch hF
      | succ fu1 =>
        refine And.intro (fun h9 => ?_) (fun h9 => ?_)
        · have hF := cpos h9 hF
          refine join_no ?_
          refine obind hF fun x10 h11 hF => ?_
          refine ⟨ix_nn h11, .inl rfl, _, ix_map cOff h11, ?_⟩
          refine obind hF fun y12 h13 hF => ?_
          refine Or.inl ⟨_, rHeir_h h13, rfl, ?_⟩
          refine And.intro (fun h14 => ?_) (fun h14 => ?_)
          · have hF := cpos h14 hF
            refine And.intro (fun h15 => ?_) (fun h15 => ?_)
            · have hF := cpos h15 hF
              refine obind hF fun x16 h17 hF => ?_
              refine ⟨ix_nn h17, .inl rfl, _, ix_map cOff h17, ?_⟩
              refine Or.inl ?_
              refine gpos hF fun h18 hF => ?_
              refine Or.inl ⟨len_all rfl, app_le h18, (out7 ++ ([x16.ID] : List Int)).map cInt, map_app _ _ _, ?_⟩
              exact ⟨(fu1, (out7 ++ ([x16.ID] : List Int)), (IntKind.i64.wrap (i8 + 1))), Nat.lt_succ_self _, hF, ⟨rfl, rfl, rfl, rfl, rfl, trivial⟩, ⟨rfl, trivial⟩⟩
            · have hF := cneg h15 hF
              exact ⟨(fu1, out7, (IntKind.i64.wrap (i8 + 1))), Nat.lt_succ_self _, hF, ⟨rfl, rfl, rfl, rfl, rfl, trivial⟩, ⟨rfl, trivial⟩⟩
          · have hF := cneg h14 hF
            exact ⟨(fu1, out7, (IntKind.i64.wrap (i8 + 1))), Nat.lt_succ_self _, hF, ⟨rfl, rfl, rfl, rfl, rfl, trivial⟩, ⟨rfl, trivial⟩⟩
        · have hF := cneg h9 hF
          exact Or.inl ⟨rfl, congrArg (Option.map rDuties_E) hF⟩
abbrev rDuties_S (l : List Off) (id : Int) (day : Int) : Option (List Int) := rDuties_F (l.length + 1) l id day
theorem rDuties_h {l : List Off} {id : Int} {day : Int} {r : List Int} (h : rDuties_S l id day = some r) : Holds Tryd.prog Gw 19 [.sl 5 (l.map cOff), I id, I day] (rDuties_E r) := rDuties_Fh  h
abbrev rCopy_E (y : List Off) : CV := .sl 5 (y.map cOff)
def rCopy_L1 (l : List Off) : Nat → Int → List Off → Option (List Off)
  | 0, _, _ => none
  | fu1 + 1, i1, v2 => bif decide (i1 < ((l.map cOff).length : Int)) then (Option.bind (ix l i1) fun x4 => bif decide (([] : List Int).length + x4.Next.length ≤ 4294967296) then bif decide (v2.length + ([(⟨x4.ID, x4.Name, x4.In, (([] : List Int) ++ x4.Next)⟩ : Off)] : List Off).length ≤ 4294967296) then rCopy_L1 l fu1 (IntKind.i64.wrap (i1 + 1)) (v2 ++ ([(⟨x4.ID, x4.Name, x4.In, (([] : List Int) ++ x4.Next)⟩ : Off)] : List Off)) else none else none) else some (v2)
def rCopy_F (N : Nat) (l : List Off) : Option (List Off) := rCopy_L1 l N 0 ([] : List Off)
set_option linter.unusedVariables false in
theorem rCopy_Fh {N : Nat} {l : List Off} {r : List Off} (hF : rCopy_F N l = some r) : Holds Tryd.prog Gw 47 [.sl 5 (l.map cOff)] (rCopy_E r) := by
  refine holds_of_wq tabOk mixed Tryd.func47 (by decide) rfl (Nat.le_of_ble_eq_true rfl) ?_
  refine Or.inl ?_
  refine Or.inr ⟨[], 0, _, _, _, _, rfl, rfl, eff_build0 tok22.u tok40 (by decide), rfl, ?_⟩
  refine loop_oq (fun p : Nat × Int × List Off => [(0, .c (.sl 5 (l.map cOff))), (3, .rs 6 0), (4, .c (I p.2.1))]) (fun p : Nat × Int × List Off => [(6, .arr 40 5 (p.2.2.map cOff) none)]) (fun p => rCopy_L1 l p.1 p.2.1 p.2.2 = some r) (fun p => p.1) (N, 0, ([] : List Off)) hF ⟨rfl, rfl, rfl, trivial⟩ ⟨rfl, trivial⟩ ?_
  rintro ⟨fu1, i1, v2⟩ hF
  cases fu1 with
  | zero => exact nomatch hF
  | succ fu1 =>
    refine And.intro (fun h3 => ?_) (fun h3 => ?_)
    · have hF := cpos h3 hF
      refine join_no ?_
      refine obind hF fun x4 h5 hF => ?_
      refine ⟨ix_nn h5, .inl rfl, _, ix_map cOff h5, ?_⟩
      refine Or.inl ?_
      refine Or.inl ?_
      refine gpos hF fun h7 hF => ?_
      refine Or.inl ⟨len_map (fun _ => rfl), app_le h7, (([] : List Int) ++ x4.Next).map cInt, map_app _ _ _, ?_⟩
      refine Or.inl ?_
      refine gpos hF fun h6 hF => ?_
      refine Or.inr ⟨[(6, 0)], 0, _, _, _, _, rfl, rfl, eff_append (cf := cOff) (l := v2) (ns := ([(⟨x4.ID, x4.Name, x4.In, (([] : List Int) ++ x4.Next)⟩ : Off)] : List Off)) tok22.u tok40 (by decide) (by decide) (fun _ => rfl) h6, rfl, ?_⟩
      exact ⟨(fu1, (IntKind.i64.wrap (i1 + 1)), (v2 ++ ([(⟨x4.ID, x4.Name, x4.In, (([] : List Int) ++ x4.Next)⟩ : Off)] : List Off))), Nat.lt_succ_self _, hF, ⟨rfl, rfl, rfl, trivial⟩, ⟨rfl, trivial⟩⟩
    · have hF := cneg h3 hF
      refine ret_eq (p := fun r => resFin tab _ (rCopy_E r) _) hF ?_
      exact Or.inr ⟨rfl, _, rfl, rfl⟩
abbrev rCopy_O (y : List Off) : CV := .wo (.ow 0) [(40, 5, y.map cOff, none)]
set_option linter.unusedVariables false in
theorem rCopy_Oh {N : Nat} {l : List Off} {r : List Off} (hF : rCopy_F N l = some r) : Holds Tryd.prog Gw 47 [.sl 5 (l.map cOff)] (rCopy_O r) := by
  refine holds_of_wq tabOk mixed Tryd.func47 (by decide) rfl (Nat.le_of_ble_eq_true rfl) ?_
  refine Or.inl ?_
  refine Or.inr ⟨[], 0, _, _, _, _, rfl, rfl, eff_build0 tok22.u tok40 (by decide), rfl, ?_⟩
  refine loop_oq (fun p : Nat × Int × List Off => [(0, .c (.sl 5 (l.map cOff))), (3, .rs 6 0), (4, .c (I p.2.1))]) (fun p : Nat × Int × List Off => [(6, .arr 40 5 (p.2.2.map cOff) none)]) (fun p => rCopy_L1 l p.1 p.2.1 p.2.2 = some r) (fun p => p.1) (N, 0, ([] : List Off)) hF ⟨rfl, rfl, rfl, trivial⟩ ⟨rfl, trivial⟩ ?_
  rintro ⟨fu1, i1, v2⟩ hF
  cases fu1 with
  | zero => exact nomatch hF
  | succ fu1 =>
    refine And.intro (fun h3 => ?_) (fun h3 => ?_)
    · have hF := cpos h3 hF
      refine join_no ?_
      refine obind hF fun x4 h5 hF => ?_
      refine ⟨ix_nn h5, .inl rfl, _, ix_map cOff h5, ?_⟩
      refine Or.inl ?_
      refine Or.inl ?_
      refine gpos hF fun h7 hF => ?_
      refine Or.inl ⟨len_map (fun _ => rfl), app_le h7, (([] : List Int) ++ x4.Next).map cInt, map_app _ _ _, ?_⟩
      refine Or.inl ?_
      refine gpos hF fun h6 hF => ?_
      refine Or.inr ⟨[(6, 0)], 0, _, _, _, _, rfl, rfl, eff_append (cf := cOff) (l := v2) (ns := ([(⟨x4.ID, x4.Name, x4.In, (([] : List Int) ++ x4.Next)⟩ : Off)] : List Off)) tok22.u tok40 (by decide) (by decide) (fun _ => rfl) h6, rfl, ?_⟩
      exact ⟨(fu1, (IntKind.i64.wrap (i1 + 1)), (v2 ++ ([(⟨x4.ID, x4.Name, x4.In, (([] : List Int) ++ x4.Next)⟩ : Off)] : List Off))), Nat.lt_succ_self _, hF, ⟨rfl, rfl, rfl, trivial⟩, ⟨rfl, trivial⟩⟩
    · have hF := cneg h3 hF
      refine ret_eq (p := fun r => resFin tab _ (rCopy_O r) _) hF ?_
      exact Or.inr ⟨[(6, 0)], rfl, ⟨rfl, rfl⟩, rfl⟩
abbrev rCopy_S (l : List Off) : Option (List Off) := rCopy_F (l.length + 1) l
theorem rCopy_h {l : List Off} {r : List Off} (h : rCopy_S l = some r) : Holds Tryd.prog Gw 47 [.sl 5 (l.map cOff)] (rCopy_E r) := rCopy_Fh  h
abbrev rEnd_E (y : List Off × Int) : CV := .tup [.sl 5 (y.1.map cOff), I y.2]
def rEnd_F (l : List Off) (id : Int) (day : Int) (next : List Int) : Option (List Off × Int) := Option.bind (rGood_S l) fun y1 => bif (!y1) then some (([] : List Off), 1) else (Option.bind (rFind_S l id) fun y4 => bif decide (y4 < 0) then some (([] : List Off), 7) else (Option.bind (ix l y4) fun x7 => bif decide (day ≤ x7.In.From) then some (([] : List Off), 2) else (Option.bind (ix l y4) fun x10 => bif decide (day > x10.In.Until) then some (([] : List Off), 2) else (Option.bind (rCopy_S l) fun y13 => Option.bind (ix y13 y4) fun x15 => bif decide (([] : List Int).length + next.length ≤ 4294967296) then Option.bind (rCheck_S ((y13.set (y4).toNat (⟨x15.ID, x15.Name, (⟨x15.In.From, day⟩ : Span), x15.Next⟩ : Off)).set (y4).toNat (⟨(⟨x15.ID, x15.Name, (⟨x15.In.From, day⟩ : Span), x15.Next⟩ : Off).ID, (⟨x15.ID, x15.Name, (⟨x15.In.From, day⟩ : Span), x15.Next⟩ : Off).Name, (⟨x15.ID, x15.Name, (⟨x15.In.From, day⟩ : Span), x15.Next⟩ : Off).In, (([] : List Int) ++ next)⟩ : Off))) fun y17 => bif (y17.2 != 0) then some (([] : List Off), y17.2) else some (((y13.set (y4).toNat (⟨x15.ID, x15.Name, (⟨x15.In.From, day⟩ : Span), x15.Next⟩ : Off)).set (y4).toNat (⟨(⟨x15.ID, x15.Name, (⟨x15.In.From, day⟩ : Span), x15.Next⟩ : Off).ID, (⟨x15.ID, x15.Name, (⟨x15.In.From, day⟩ : Span), x15.Next⟩ : Off).Name, (⟨x15.ID, x15.Name, (⟨x15.In.From, day⟩ : Span), x15.Next⟩ : Off).In, (([] : List Int) ++ next)⟩ : Off)), 0) else none))))
set_option linter.unusedVariables false in
theorem rEnd_Fh {l : List Off} {id : Int} {day : Int} {next : List Int} {r : List Off × Int} (hF : rEnd_F l id day next = some r) : Holds Tryd.prog Gw 25 [.sl 5 (l.map cOff), I id, I day, .sl 1 (next.map cInt)] (rEnd_E r) := by
  refine holds_of_wq tabOk mixed Tryd.func25 (by decide) rfl (Nat.le_of_ble_eq_true rfl) ?_
  refine Or.inl ?_
  refine obind hF fun y1 h2 hF => ?_
  refine Or.inl ⟨_, rGood_h h2, rfl, ?_⟩
  refine And.intro (fun h3 => ?_) (fun h3 => ?_)
  · have hF := cpos h3 hF
    refine Or.inl ?_
    exact Or.inl ⟨rfl, congrArg (Option.map rEnd_E) hF⟩
  · have hF := cneg h3 hF
    refine obind hF fun y4 h5 hF => ?_
    refine Or.inl ⟨_, rFind_h h5, rfl, ?_⟩
    refine And.intro (fun h6 => ?_) (fun h6 => ?_)
    · have hF := cpos h6 hF
      refine Or.inl ?_
      exact Or.inl ⟨rfl, congrArg (Option.map rEnd_E) hF⟩
    · have hF := cneg h6 hF
      refine obind hF fun x7 h8 hF => ?_
      refine ⟨ix_nn h8, .inl rfl, _, ix_map cOff h8, ?_⟩
      refine And.intro (fun h9 => ?_) (fun h9 => ?_)
      · have hF := cpos h9 hF
        refine Or.inl ?_
        exact Or.inl ⟨rfl, congrArg (Option.map rEnd_E) hF⟩
      · have hF := cneg h9 hF
        refine obind hF fun x10 h11 hF => ?_
        refine ⟨ix_nn h11, .inl rfl, _, ix_map cOff h11, ?_⟩
        refine And.intro (fun h12 => ?_) (fun h12 => ?_)
        · have hF := cpos h12 hF
          refine Or.inl ?_
          exact Or.inl ⟨rfl, congrArg (Option.map rEnd_E) hF⟩
        · have hF := cneg h12 hF
          refine obind hF fun y13 h14 hF => ?_
          refine Or.inr (Or.inl ⟨_, _, rCopy_Oh h14, ?_⟩)
          refine obind hF fun x15 h16 hF => ?_
          refine Or.inl ⟨ix_nn h16, ix_lt h16, ?_⟩
          refine Or.inl ?_
          refine Or.inl ?_
          refine Or.inl ⟨_, ix_map cOff h16, ?_⟩
          refine ⟨(y13.set (y4).toNat (⟨x15.ID, x15.Name, (⟨x15.In.From, day⟩ : Span), x15.Next⟩ : Off)).map cOff, _, .inl ⟨rfl, set_map _ _ _ _, rfl⟩, ?_⟩
          refine Or.inl ?_
          refine gpos hF fun h20 hF => ?_
          refine Or.inl ⟨len_map (fun _ => rfl), app_le h20, (([] : List Int) ++ next).map cInt, map_app _ _ _, ?_⟩
          refine Or.inl ⟨ix_nn (ix_set (y := (⟨x15.ID, x15.Name, (⟨x15.In.From, day⟩ : Span), x15.Next⟩ : Off)) h16), ix_lt (ix_set (y := (⟨x15.ID, x15.Name, (⟨x15.In.From, day⟩ : Span), x15.Next⟩ : Off)) h16), ?_⟩
          refine Or.inl ?_
          refine Or.inl ⟨_, ix_map cOff (ix_set (y := (⟨x15.ID, x15.Name, (⟨x15.In.From, day⟩ : Span), x15.Next⟩ : Off)) h16), ?_⟩
          refine ⟨((y13.set (y4).toNat (⟨x15.ID, x15.Name, (⟨x15.In.From, day⟩ : Span), x15.Next⟩ : Off)).set (y4).toNat (⟨(⟨x15.ID, x15.Name, (⟨x15.In.From, day⟩ : Span), x15.Next⟩ : Off).ID, (⟨x15.ID, x15.Name, (⟨x15.In.From, day⟩ : Span), x15.Next⟩ : Off).Name, (⟨x15.ID, x15.Name, (⟨x15.In.From, day⟩ : Span), x15.Next⟩ : Off).In, (([] : List Int) ++ next)⟩ : Off)).map cOff, _, .inl ⟨rfl, set_map _ _ _ _, rfl⟩, ?_⟩
          refine obind hF fun y17 h18 hF => ?_
          refine Or.inl ⟨_, rCheck_h h18, rfl, ?_⟩
          refine And.intro (fun h19 => ?_) (fun h19 => ?_)
          · have hF := cpos h19 hF
            refine Or.inl ?_
            exact Or.inl ⟨rfl, congrArg (Option.map rEnd_E) hF⟩
          · have hF := cneg h19 hF
            refine ret_eq (p := fun r => resFin tab _ (rEnd_E r) _) hF ?_
            exact Or.inr ⟨⟨⟨rfl, _, rfl, rfl⟩, rfl, rfl⟩, by decide⟩
abbrev rEnd_S (l : List Off) (id : Int) (day : Int) (next : List Int) : Option (List Off × Int) := rEnd_F l id day next
theorem rEnd_h {l : List Off} {id : Int} {day : Int} {next : List Int} {r : List Off × Int} (h : rEnd_S l id day next = some r) : Holds Tryd.prog Gw 25 [.sl 5 (l.map cOff), I id, I day, .sl 1 (next.map cInt)] (rEnd_E r) := rEnd_Fh  h
abbrev rSameInts_E (y : Bool) : CV := B y
def rSameInts_L1 (a : List Int) (b : List Int) : Nat → Int → Option (Bool)
  | 0, _ => none
  | fu1 + 1, i2 => bif decide (i2 < ((a.map cInt).length : Int)) then (Option.bind (ix a i2) fun x4 => Option.bind (ix b i2) fun x6 => bif (x4 != x6) then some (false) else rSameInts_L1 a b fu1 (IntKind.i64.wrap (i2 + 1))) else some (true)
def rSameInts_F (N : Nat) (a : List Int) (b : List Int) : Option (Bool) := bif (((a.map cInt).length : Int) != ((b.map cInt).length : Int)) then some (false) else rSameInts_L1 a b N 0
set_option linter.unusedVariables false in
theorem rSameInts_Fh {N : Nat} {a : List Int} {b : List Int} {r : Bool} (hF : rSameInts_F N a b = some r) : Holds Tryd.prog Gw 13 [.sl 1 (a.map cInt), .sl 1 (b.map cInt)] (rSameInts_E r) := by
  refine holds_of_wq tabOk mixed Tryd.func13 (by decide) rfl (Nat.le_of_ble_eq_true rfl) ?_
  refine And.intro (fun h1 => ?_) (fun h1 => ?_)
  · have hF := cpos h1 hF
    exact Or.inl ⟨rfl, congrArg (Option.map rSameInts_E) hF⟩
  · have hF := cneg h1 hF
    refine loop_oq (fun p : Nat × Int => [(0, .c (.sl 1 (a.map cInt))), (1, .c (.sl 1 (b.map cInt))), (5, .c (I p.2))]) (fun _ => []) (fun p => rSameInts_L1 a b p.1 p.2 = some r) (fun p => p.1) (N, 0) hF ⟨rfl, rfl, rfl, trivial⟩ trivial ?_
    rintro ⟨fu1, i2⟩ hF
    cases fu1 with
    | zero => exact nomatch hF
    | succ fu1 =>
      refine And.intro (fun h3 => ?_) (fun h3 => ?_)
      · have hF := cpos h3 hF
        refine join_no ?_
        refine obind hF fun x4 h5 hF => ?_
        refine ⟨ix_nn h5, .inl rfl, _, ix_map cInt h5, ?_⟩
        refine obind hF fun x6 h7 hF => ?_
        refine ⟨ix_nn h7, .inl rfl, _, ix_map cInt h7, ?_⟩
        refine And.intro (by kernel_rfl) ?_
        refine And.intro (fun h8 => ?_) (fun h8 => ?_)
        · have hF := cpos h8 hF
          exact Or.inl ⟨rfl, congrArg (Option.map rSameInts_E) hF⟩
        · have hF := cneg h8 hF
          exact ⟨(fu1, (IntKind.i64.wrap (i2 + 1))), Nat.lt_succ_self _, hF, ⟨rfl, rfl, rfl, trivial⟩, trivial⟩
      · have hF := cneg h3 hF
        exact Or.inl ⟨rfl, congrArg (Option.map rSameInts_E) hF⟩
abbrev rSameInts_S (a : List Int) (b : List Int) : Option (Bool) := rSameInts_F (a.length + 1) a b
theorem rSameInts_h {a : List Int} {b : List Int} {r : Bool} (h : rSameInts_S a b = some r) : Holds Tryd.prog Gw 13 [.sl 1 (a.map cInt), .sl 1 (b.map cInt)] (rSameInts_E r) := rSameInts_Fh  h
abbrev rSame_E (y : Bool) : CV := B y
def rSame_L1 (a : List Off) (b : List Off) : Nat → Int → Option (Bool)
  | 0, _ => none
  | fu1 + 1, i2 => bif decide (i2 < ((a.map cOff).length : Int)) then (Option.bind (ix a i2) fun x4 => Option.bind (ix b i2) fun x6 => bif (x4.ID != x6.ID) then some (false) else (Option.bind (ix a i2) fun x9 => Option.bind (ix b i2) fun x11 => bif (!(x9.Name == x11.Name)) then some (false) else (Option.bind (ix a i2) fun x14 => Option.bind (ix b i2) fun x16 => bif (!(x14.In == x16.In)) then some (false) else (Option.bind (ix a i2) fun x19 => Option.bind (ix b i2) fun x21 => Option.bind (rSameInts_S x19.Next x21.Next) fun y23 => bif (!y23) then some (false) else rSame_L1 a b fu1 (IntKind.i64.wrap (i2 + 1)))))) else some (true)
def rSame_F (N : Nat) (a : List Off) (b : List Off) : Option (Bool) := bif (((a.map cOff).length : Int) != ((b.map cOff).length : Int)) then some (false) else rSame_L1 a b N 0
set_option linter.unusedVariables false in
theorem rSame_Fh {N : Nat} {a : List Off} {b : List Off} {r : Bool} (hF : rSame_F N a b = some r) : Holds Tryd.prog Gw 26 [.sl 5 (a.map cOff), .sl 5 (b.map cOff)] (rSame_E r) := by
  refine holds_of_wq tabOk mixed Tryd.func26 (by decide) rfl (Nat.le_of_ble_eq_true rfl) ?_
  refine And.intro (fun h1 => ?_) (fun h1 => ?_)
  · have hF := cpos h1 hF
    exact Or.inl ⟨rfl, congrArg (Option.map rSame_E) hF⟩
  · have hF := cneg h1 hF
    refine loop_oq (fun p : Nat × Int => [(0, .c (.sl 5 (a.map cOff))), (1, .c (.sl 5 (b.map cOff))), (5, .c (I p.2))]) (fun _ => []) (fun p => rSame_L1 a b p.1 p.2 = some r) (fun p => p.1) (N, 0) hF ⟨rfl, rfl, rfl, trivial⟩ trivial ?_
    rintro ⟨fu1, i2⟩ hF
    cases fu1 with
    | zero => exact nomatch hF
    | succ fu1 =>
      refine And.intro (fun h3 => ?_) (fun h3 => ?_)
      · have hF := cpos h3 hF
        refine join_no ?_
        refine obind hF fun x4 h5 hF => ?_
        refine ⟨ix_nn h5, .inl rfl, _, ix_map cOff h5, ?_⟩
        refine obind hF fun x6 h7 hF => ?_
        refine ⟨ix_nn h7, .inl rfl, _, ix_map cOff h7, ?_⟩
        refine And.intro (fun h8 => ?_) (fun h8 => ?_)
        · have hF := cpos h8 hF
          refine And.intro (by kernel_rfl) ?_
          exact Or.inl ⟨rfl, congrArg (Option.map rSame_E) hF⟩
        · have hF := cneg h8 hF
          refine obind hF fun x9 h10 hF => ?_
          refine ⟨ix_nn h10, .inl rfl, _, ix_map cOff h10, ?_⟩
          refine obind hF fun x11 h12 hF => ?_
          refine ⟨ix_nn h12, .inl rfl, _, ix_map cOff h12, ?_⟩
          refine And.intro (fun h13 => ?_) (fun h13 => ?_)
          · have hF := cpos h13 hF
            refine And.intro (by kernel_rfl) ?_
            exact Or.inl ⟨rfl, congrArg (Option.map rSame_E) hF⟩
          · have hF := cneg h13 hF
            refine obind hF fun x14 h15 hF => ?_
            refine ⟨ix_nn h15, .inl rfl, _, ix_map cOff h15, ?_⟩
            refine obind hF fun x16 h17 hF => ?_
            refine ⟨ix_nn h17, .inl rfl, _, ix_map cOff h17, ?_⟩
            refine Or.inr ⟨[], 0, _, _, _, _, rfl, rfl, sne_Span x14.In x16.In, rfl, ?_⟩
            refine And.intro (fun h18 => ?_) (fun h18 => ?_)
            · have hF := cpos h18 hF
              refine And.intro (by kernel_rfl) ?_
              exact Or.inl ⟨rfl, congrArg (Option.map rSame_E) hF⟩
            · have hF := cneg h18 hF
              refine obind hF fun x19 h20 hF => ?_
              refine ⟨ix_nn h20, .inl rfl, _, ix_map cOff h20, ?_⟩
              refine obind hF fun x21 h22 hF => ?_
              refine ⟨ix_nn h22, .inl rfl, _, ix_map cOff h22, ?_⟩
              refine obind hF fun y23 h24 hF => ?_
              refine Or.inl ⟨_, rSameInts_h h24, rfl, ?_⟩
              refine And.intro (by kernel_rfl) ?_
              refine And.intro (fun h25 => ?_) (fun h25 => ?_)
              · have hF := cpos h25 hF
                exact Or.inl ⟨rfl, congrArg (Option.map rSame_E) hF⟩
              · have hF := cneg h25 hF
                exact ⟨(fu1, (IntKind.i64.wrap (i2 + 1))), Nat.lt_succ_self _, hF, ⟨rfl, rfl, rfl, trivial⟩, trivial⟩
      · have hF := cneg h3 hF
        exact Or.inl ⟨rfl, congrArg (Option.map rSame_E) hF⟩
abbrev rSame_S (a : List Off) (b : List Off) : Option (Bool) := rSame_F (a.length + 1) a b
theorem rSame_h {a : List Off} {b : List Off} {r : Bool} (h : rSame_S a b = some r) : Holds Tryd.prog Gw 26 [.sl 5 (a.map cOff), .sl 5 (b.map cOff)] (rSame_E r) := rSame_Fh  h
end Go.Proofs.YtmcolhhmlpicaaaDoor
