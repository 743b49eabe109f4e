/- Functions of the program as functions of Lean, each with its contract (printed by a program). -/
import Derived.Test.YtmdhahfminiilaaGreatDoorGC
namespace Go.Proofs.YtmdhahfminiilaaGreatDoor
open Go Go.Abs
set_option maxRecDepth 10000
set_option maxHeartbeats 400000
abbrev qFind_E (y : Int) : CV := I y
def qFind_L1 (s : Shot) (unit : Int) : Nat → Int → Option (Int)
  | 0, _ => none
  | fu1 + 1, i1 => bif decide (i1 < ((s.Units.map cStanding).length : Int)) then (Option.bind (ix s.Units i1) fun x3 => bif (x3.Unit == unit) then some (i1) else qFind_L1 s unit fu1 (IntKind.i64.wrap (i1 + 1))) else some ((-1))
def qFind_F (N : Nat) (s : Shot) (unit : Int) : Option (Int) := qFind_L1 s unit N 0
set_option linter.unusedVariables false in
theorem qFind_Fh {N : Nat} {s : Shot} {unit : Int} {r : Int} (hF : qFind_F N s unit = some r) : Holds Tryz.prog Gw 31 [.agg (cShot s), I unit] (qFind_E r) := by
  refine holds_of_wq tabOk mixed Tryz.func31 (by decide) rfl (Nat.le_of_ble_eq_true rfl) ?_
  refine Or.inl ?_
  refine loop_oq (fun p : Nat × Int => [(1, .c (I unit)), (2, .pm 2 0 0), (5, .c (I p.2))]) (fun p : Nat × Int => [(2, .var [I s.Day, .sl 5 (s.Units.map cStanding)])]) (fun p => qFind_L1 s unit p.1 p.2 = some r) (fun p => p.1) (N, 0) hF ⟨rfl, rfl, rfl, trivial⟩ ⟨rfl, trivial⟩ ?_
  rintro ⟨fu1, i1⟩ hF
  cases fu1 with
  | zero => exact nomatch hF
  | succ fu1 =>
    refine And.intro (fun h2 => ?_) (fun h2 => ?_)
    · have hF := cpos h2 hF
      refine join_no ?_
      refine obind hF fun x3 h4 hF => ?_
      refine ⟨ix_nn h4, .inl rfl, _, ix_map cStanding h4, ?_⟩
      refine And.intro (fun h5 => ?_) (fun h5 => ?_)
      · have hF := cpos h5 hF
        exact Or.inl ⟨rfl, congrArg (Option.map qFind_E) hF⟩
      · have hF := cneg h5 hF
        exact ⟨(fu1, (IntKind.i64.wrap (i1 + 1))), Nat.lt_succ_self _, hF, ⟨rfl, rfl, rfl, trivial⟩, ⟨rfl, trivial⟩⟩
    · have hF := cneg h2 hF
      exact Or.inl ⟨rfl, congrArg (Option.map qFind_E) hF⟩
abbrev qFind_S (s : Shot) (unit : Int) : Option (Int) := qFind_F 2000 s unit
theorem qFind_h {s : Shot} {unit : Int} {r : Int} (h : qFind_S s unit = some r) : Holds Tryz.prog Gw 31 [.agg (cShot s), I unit] (qFind_E r) := qFind_Fh  h
abbrev qfield_E (y : Int) : CV := I y
def qfield_F (s : Shot) (i : Int) : Option (Int) := Option.bind (ix s.Units i) fun x1 => bif decide (x1.Unit < 1) then some (2) else (bif decide (x1.Unit > 1073741824) then some (2) else (bif decide (x1.Level < 1) then some (2) else (bif decide (x1.Level > 4) then some (2) else (bif decide ((x1.Mark.length : Int) > 64) then some (4) else (bif (x1.Title == ([] : Str)) then some (4) else (bif decide ((x1.Title.length : Int) > 64) then some (4) else (bif decide (i > 0) then (Option.bind (ix s.Units (IntKind.i64.wrap (i - 1))) fun x11 => bif decide (x11.Unit ≥ x1.Unit) then some (5) else some (0)) else some (0))))))))
set_option linter.unusedVariables false in
theorem qfield_Fh {s : Shot} {i : Int} {r : Int} (hF : qfield_F s i = some r) : Holds Tryz.prog Gw 66 [.agg (cShot s), I i] (qfield_E r) := by
  refine holds_of_wq tabOk mixed Tryz.func66 (by decide) rfl (Nat.le_of_ble_eq_true rfl) ?_
  refine Or.inl ?_
  refine obind hF fun x1 h2 hF => ?_
  refine ⟨ix_nn h2, .inl rfl, _, ix_map cStanding h2, ?_⟩
  refine Or.inl ?_
  refine And.intro (fun h3 => ?_) (fun h3 => ?_)
  · have hF := cpos h3 hF
    exact Or.inl ⟨rfl, congrArg (Option.map qfield_E) hF⟩
  · have hF := cneg h3 hF
    refine And.intro (fun h4 => ?_) (fun h4 => ?_)
    · have hF := cpos h4 hF
      exact Or.inl ⟨rfl, congrArg (Option.map qfield_E) hF⟩
    · have hF := cneg h4 hF
      refine And.intro (fun h5 => ?_) (fun h5 => ?_)
      · have hF := cpos h5 hF
        exact Or.inl ⟨rfl, congrArg (Option.map qfield_E) hF⟩
      · have hF := cneg h5 hF
        refine And.intro (fun h6 => ?_) (fun h6 => ?_)
        · have hF := cpos h6 hF
          exact Or.inl ⟨rfl, congrArg (Option.map qfield_E) hF⟩
        · have hF := cneg h6 hF
          refine And.intro (fun h7 => ?_) (fun h7 => ?_)
          · have hF := cpos h7 hF
            exact Or.inl ⟨rfl, congrArg (Option.map qfield_E) hF⟩
          · have hF := cneg h7 hF
            refine And.intro (fun h8 => ?_) (fun h8 => ?_)
            · have hF := cpos h8 hF
              exact Or.inl ⟨rfl, congrArg (Option.map qfield_E) hF⟩
            · have hF := cneg h8 hF
              refine And.intro (fun h9 => ?_) (fun h9 => ?_)
              · have hF := cpos h9 hF
                exact Or.inl ⟨rfl, congrArg (Option.map qfield_E) hF⟩
              · have hF := cneg h9 hF
                refine And.intro (fun h10 => ?_) (fun h10 => ?_)
                · have hF := cpos h10 hF
                  refine obind hF fun x11 h12 hF => ?_
                  refine ⟨ix_nn h12, .inl rfl, _, ix_map cStanding h12, ?_⟩
                  refine And.intro (by kernel_rfl) ?_
                  refine And.intro (fun h13 => ?_) (fun h13 => ?_)
                  · have hF := cpos h13 hF
                    exact Or.inl ⟨rfl, congrArg (Option.map qfield_E) hF⟩
                  · have hF := cneg h13 hF
                    exact Or.inl ⟨rfl, congrArg (Option.map qfield_E) hF⟩
                · have hF := cneg h10 hF
                  refine And.intro (by kernel_rfl) ?_
                  exact Or.inl ⟨rfl, congrArg (Option.map qfield_E) hF⟩
abbrev qfield_S (s : Shot) (i : Int) : Option (Int) := qfield_F s i
theorem qfield_h {s : Shot} {i : Int} {r : Int} (h : qfield_S s i = some r) : Holds Tryz.prog Gw 66 [.agg (cShot s), I i] (qfield_E r) := qfield_Fh  h
abbrev qplace_E (y : Int) : CV := I y
def qplace_L1 (s : Shot) : Nat → Int → Int → Option (Int)
  | 0, _, _ => none
  | fu1 + 1, p7, n8 => bif (p7 != 0) then (bif decide (n8 < 12) then (Option.bind (qFind_S s p7) fun y11 => bif decide (y11 < 0) then some (17) else (Option.bind (ix s.Units y11) fun x14 => qplace_L1 s fu1 x14.Parent (IntKind.i64.wrap (n8 + 1)))) else (bif decide (n8 ≥ 12) then some (17) else some (0))) else (bif decide (n8 ≥ 12) then some (17) else some (0))
def qplace_L2 (s : Shot) : Nat → Int → Int → Option (Int)
  | 0, _, _ => none
  | fu2 + 1, p18, n19 => bif (p18 != 0) then (bif decide (n19 < 12) then (Option.bind (qFind_S s p18) fun y22 => bif decide (y22 < 0) then some (17) else (Option.bind (ix s.Units y22) fun x25 => qplace_L2 s fu2 x25.Parent (IntKind.i64.wrap (n19 + 1)))) else (bif decide (n19 ≥ 12) then some (17) else some (0))) else (bif decide (n19 ≥ 12) then some (17) else some (0))
def qplace_F (N : Nat) (s : Shot) (i : Int) : Option (Int) := Option.bind (ix s.Units i) fun x1 => bif (x1.Parent != 0) then (Option.bind (qFind_S s x1.Parent) fun y4 => bif decide (y4 < 0) then some (7) else qplace_L1 s N x1.Parent 0) else qplace_L2 s N x1.Parent 0
set_option linter.unusedVariables false in
theorem qplace_Fh {N : Nat} {s : Shot} {i : Int} {r : Int} (hF : qplace_F N s i = some r) : Holds Tryz.prog Gw 86 [.agg (cShot s), I i] (qplace_E r) := by
  refine holds_of_wq tabOk mixed Tryz.func86 (by decide) rfl (Nat.le_of_ble_eq_true rfl) ?_
  refine Or.inl ?_
  refine obind hF fun x1 h2 hF => ?_
  refine ⟨ix_nn h2, .inl rfl, _, ix_map cStanding h2, ?_⟩
  refine And.intro (fun h3 => ?_) (fun h3 => ?_)
  · have hF := cpos h3 hF
    refine obind hF fun y4 h5 hF => ?_
    refine Or.inl ⟨_, qFind_h h5, rfl, ?_⟩
    refine And.intro (fun h6 => ?_) (fun h6 => ?_)
    · have hF := cpos h6 hF
      exact Or.inl ⟨rfl, congrArg (Option.map qplace_E) hF⟩
    · have hF := cneg h6 hF
      refine join_no ?_
      refine loop_oq (fun p : Nat × Int × Int => [(2, .pm 2 0 0), (5, .c (I p.2.1)), (6, .c (I p.2.2))]) (fun p : Nat × Int × Int => [(2, .var [I s.Day, .sl 5 (s.Units.map cStanding)])]) (fun p => qplace_L1 s p.1 p.2.1 p.2.2 = some r) (fun p => p.1) (N, x1.Parent, 0) hF ⟨rfl, rfl, rfl, trivial⟩ ⟨rfl, trivial⟩ ?_
      rintro ⟨fu1, p7, n8⟩ hF
      cases fu1 with
      | zero => exact nomatch hF
      | succ fu1 =>
        refine And.intro (fun h9 => ?_) (fun h9 => ?_)
        · have hF := cpos h9 hF
          refine And.intro (fun h10 => ?_) (fun h10 => ?_)
          · have hF := cpos h10 hF
            refine obind hF fun y11 h12 hF => ?_
            refine Or.inl ⟨_, qFind_h h12, rfl, ?_⟩
            refine And.intro (fun h13 => ?_) (fun h13 => ?_)
            · have hF := cpos h13 hF
              exact Or.inl ⟨rfl, congrArg (Option.map qplace_E) hF⟩
            · have hF := cneg h13 hF
              refine obind hF fun x14 h15 hF => ?_
              refine ⟨ix_nn h15, .inl rfl, _, ix_map cStanding h15, ?_⟩
              exact ⟨(fu1, x14.Parent, (IntKind.i64.wrap (n8 + 1))), Nat.lt_succ_self _, hF, ⟨rfl, rfl, rfl, trivial⟩, ⟨rfl, trivial⟩⟩
          · have hF := cneg h10 hF
            refine And.intro (fun h16 => ?_) (fun h16 => ?_)
            · have hF := cpos h16 hF
              exact Or.inl ⟨rfl, congrArg (Option.map qplace_E) hF⟩
            · have hF := cneg h16 hF
              exact Or.inl ⟨rfl, congrArg (Option.map qplace_E) hF⟩
        · have hF := cneg h9 hF
          refine And.intro (fun h17 => ?_) (fun h17 => ?_)
          · have hF := cpos h17 hF
            exact Or.inl ⟨rfl, congrArg (Option.map qplace_E) hF⟩
          · have hF := cneg h17 hF
            exact Or.inl ⟨rfl, congrArg (Option.map qplace_E) hF⟩
  · have hF := cneg h3 hF
    refine join_no ?_
    refine loop_oq (fun p : Nat × Int × Int => [(2, .pm 2 0 0), (5, .c (I p.2.1)), (6, .c (I p.2.2))]) (fun p : Nat × Int × Int => [(2, .var [I s.Day, .sl 5 (s.Units.map cStanding)])]) (fun p => qplace_L2 s p.1 p.2.1 p.2.2 = some r) (fun p => p.1) (N, x1.Parent, 0) hF ⟨rfl, rfl, rfl, trivial⟩ ⟨rfl, trivial⟩ ?_
    rintro ⟨fu2, p18, n19⟩ hF
    cases fu2 with
    | zero => exact nomatch hF
    | succ fu2 =>
      refine And.intro (fun h20 => ?_) (fun h20 => ?_)
      · have hF := cpos h20 hF
        refine And.intro (fun h21 => ?_) (fun h21 => ?_)
        · have hF := cpos h21 hF
          refine obind hF fun y22 h23 hF => ?_
          refine Or.inl ⟨_, qFind_h h23, rfl, ?_⟩
          refine And.intro (fun h24 => ?_) (fun h24 => ?_)
          · have hF := cpos h24 hF
            exact Or.inl ⟨rfl, congrArg (Option.map qplace_E) hF⟩
          · have hF := cneg h24 hF
            refine obind hF fun x25 h26 hF => ?_
            refine ⟨ix_nn h26, .inl rfl, _, ix_map cStanding h26, ?_⟩
            exact ⟨(fu2, x25.Parent, (IntKind.i64.wrap (n19 + 1))), Nat.lt_succ_self _, hF, ⟨rfl, rfl, rfl, trivial⟩, ⟨rfl, trivial⟩⟩
        · have hF := cneg h21 hF
          refine And.intro (fun h27 => ?_) (fun h27 => ?_)
          · have hF := cpos h27 hF
            exact Or.inl ⟨rfl, congrArg (Option.map qplace_E) hF⟩
          · have hF := cneg h27 hF
            exact Or.inl ⟨rfl, congrArg (Option.map qplace_E) hF⟩
      · have hF := cneg h20 hF
        refine And.intro (fun h28 => ?_) (fun h28 => ?_)
        · have hF := cpos h28 hF
          exact Or.inl ⟨rfl, congrArg (Option.map qplace_E) hF⟩
        · have hF := cneg h28 hF
          exact Or.inl ⟨rfl, congrArg (Option.map qplace_E) hF⟩
abbrev qplace_S (s : Shot) (i : Int) : Option (Int) := qplace_F 2000 s i
theorem qplace_h {s : Shot} {i : Int} {r : Int} (h : qplace_S s i = some r) : Holds Tryz.prog Gw 86 [.agg (cShot s), I i] (qplace_E r) := qplace_Fh  h
abbrev qplaces_E (y : Int) : CV := I y
def qplaces_L1 (s : Shot) : Nat → Int → Option (Int)
  | 0, _ => none
  | fu1 + 1, i1 => bif decide (i1 < ((s.Units.map cStanding).length : Int)) then (Option.bind (qplace_S s i1) fun y3 => bif (y3 != 0) then some (y3) else qplaces_L1 s fu1 (IntKind.i64.wrap (i1 + 1))) else some (0)
def qplaces_F (N : Nat) (s : Shot) : Option (Int) := qplaces_L1 s N 0
set_option linter.unusedVariables false in
theorem qplaces_Fh {N : Nat} {s : Shot} {r : Int} (hF : qplaces_F N s = some r) : Holds Tryz.prog Gw 67 [.agg (cShot s)] (qplaces_E r) := by
  refine holds_of_wq tabOk mixed Tryz.func67 (by decide) rfl (Nat.le_of_ble_eq_true rfl) ?_
  refine Or.inl ?_
  refine loop_oq (fun p : Nat × Int => [(1, .pm 1 0 0), (3, .c (I p.2))]) (fun p : Nat × Int => [(1, .var [I s.Day, .sl 5 (s.Units.map cStanding)])]) (fun p => qplaces_L1 s p.1 p.2 = some r) (fun p => p.1) (N, 0) hF ⟨rfl, rfl, trivial⟩ ⟨rfl, trivial⟩ ?_
  rintro ⟨fu1, i1⟩ hF
  cases fu1 with
  | zero => exact nomatch hF
  | succ fu1 =>
    refine And.intro (fun h2 => ?_) (fun h2 => ?_)
    · have hF := cpos h2 hF
      refine join_no ?_
      refine obind hF fun y3 h4 hF => ?_
      refine Or.inl ⟨_, qplace_h h4, rfl, ?_⟩
      refine And.intro (fun h5 => ?_) (fun h5 => ?_)
      · have hF := cpos h5 hF
        exact Or.inl ⟨rfl, congrArg (Option.map qplaces_E) hF⟩
      · have hF := cneg h5 hF
        exact ⟨(fu1, (IntKind.i64.wrap (i1 + 1))), Nat.lt_succ_self _, hF, ⟨rfl, rfl, trivial⟩, ⟨rfl, trivial⟩⟩
    · have hF := cneg h2 hF
      exact Or.inl ⟨rfl, congrArg (Option.map qplaces_E) hF⟩
abbrev qplaces_S (s : Shot) : Option (Int) := qplaces_F 2000 s
theorem qplaces_h {s : Shot} {r : Int} (h : qplaces_S s = some r) : Holds Tryz.prog Gw 67 [.agg (cShot s)] (qplaces_E r) := qplaces_Fh  h
abbrev qused_E (y : Bool) : CV := B y
def qused_L2 (h_ : List Shot) (mark : Str) (unit : Int) (k1 : Int) (k_1 : Int → Option (Bool)) : Nat → Int → Option (Bool)
  | 0, _ => none
  | fu2 + 1, n3 => Option.bind (ix h_ k1) fun x4 => bif decide (n3 < ((x4.Units.map cStanding).length : Int)) then (Option.bind (ix h_ k1) fun x7 => Option.bind (ix x7.Units n3) fun x9 => bif (x9.Mark == mark) then (Option.bind (ix h_ k1) fun x12 => Option.bind (ix x12.Units n3) fun x14 => bif (x14.Unit != unit) then some (true) else qused_L2 h_ mark unit k1 k_1 fu2 (IntKind.i64.wrap (n3 + 1))) else qused_L2 h_ mark unit k1 k_1 fu2 (IntKind.i64.wrap (n3 + 1))) else k_1 (IntKind.i64.wrap (k1 + 1))
def qused_L1 (h_ : List Shot) (i : Int) (mark : Str) (unit : Int) (N : Nat) : Nat → Int → Option (Bool)
  | 0, _ => none
  | fu1 + 1, k1 => bif decide (k1 ≤ i) then qused_L2 h_ mark unit k1 (fun q_k1 => qused_L1 h_ i mark unit N fu1 q_k1) N 0 else some (false)
def qused_F (N : Nat) (h_ : List Shot) (i : Int) (mark : Str) (unit : Int) : Option (Bool) := qused_L1 h_ i mark unit N N 0
set_option linter.unusedVariables false in
theorem qused_Fh {N : Nat} {h_ : List Shot} {i : Int} {mark : Str} {unit : Int} {r : Bool} (hF : qused_F N h_ i mark unit = some r) : Holds Tryz.prog Gw 87 [.sl 2 (h_.map cShot), I i, S mark, I unit] (qused_E r) := by
  refine holds_of_wq tabOk mixed Tryz.func87 (by decide) rfl (Nat.le_of_ble_eq_true rfl) ?_
  refine loop_oq (fun p : Nat × Int => [(0, .c (.sl 2 (h_.map cShot))), (1, .c (I i)), (2, .c (S mark)), (3, .c (I unit)), (9, .c (I p.2))]) (fun _ => []) (fun p => qused_L1 h_ i mark unit N p.1 p.2 = some r) (fun p => p.1) (N, 0) hF ⟨rfl, rfl, rfl, rfl, rfl, trivial⟩ trivial ?_
  rintro ⟨fu1, k1⟩ hF
  cases fu1 with
  | zero => exact nomatch hF
  | succ fu1 =>
    refine And.intro (fun h2 => ?_) (fun h2 => ?_)
    · have hF := cpos h2 hF
      refine join_no ?_
      refine loop_oq (fun p : Nat × Int => [(0, .c (.sl 2 (h_.map cShot))), (1, .c (I i)), (2, .c (S mark)), (3, .c (I unit)), (9, .c (I k1)), (10, .c (I p.2))]) (fun _ => []) (fun p => qused_L2 h_ mark unit k1 (fun q_k1 => qused_L1 h_ i mark unit N fu1 q_k1) p.1 p.2 = some r) (fun p => p.1) (N, 0) hF ⟨rfl, rfl, rfl, rfl, rfl, rfl, trivial⟩ trivial ?_
      rintro ⟨fu2, n3⟩ hF
      cases fu2 with
      | zero => exact nomatch hF
      | succ fu2 =>
        refine obind hF fun x4 h5 hF => ?_
        refine ⟨ix_nn h5, .inl rfl, _, ix_map cShot h5, ?_⟩
        refine And.intro (fun h6 => ?_) (fun h6 => ?_)
        · have hF := cpos h6 hF
          refine join_no ?_
          refine obind hF fun x7 h8 hF => ?_
          refine ⟨ix_nn h8, .inl rfl, _, ix_map cShot h8, ?_⟩
          refine obind hF fun x9 h10 hF => ?_
          refine ⟨ix_nn h10, .inl rfl, _, ix_map cStanding h10, ?_⟩
          refine And.intro (fun h11 => ?_) (fun h11 => ?_)
          · have hF := cpos h11 hF
            refine obind hF fun x12 h13 hF => ?_
            refine ⟨ix_nn h13, .inl rfl, _, ix_map cShot h13, ?_⟩
            refine obind hF fun x14 h15 hF => ?_
            refine ⟨ix_nn h15, .inl rfl, _, ix_map cStanding h15, ?_⟩
            refine And.intro (fun h16 => ?_) (fun h16 => ?_)
            · have hF := cpos h16 hF
              exact Or.inl ⟨rfl, congrArg (Option.map qused_E) hF⟩
            · have hF := cneg h16 hF
              exact ⟨(fu2, (IntKind.i64.wrap (n3 + 1))), Nat.lt_succ_self _, hF, ⟨rfl, rfl, rfl, rfl, rfl, rfl, trivial⟩, trivial⟩
          · have hF := cneg h11 hF
            exact ⟨(fu2, (IntKind.i64.wrap (n3 + 1))), Nat.lt_succ_self _, hF, ⟨rfl, rfl, rfl, rfl, rfl, rfl, trivial⟩, trivial⟩
        · have hF := cneg h6 hF
          exact ⟨(fu1, (IntKind.i64.wrap (k1 + 1))), Nat.lt_succ_self _, hF, ⟨rfl, rfl, rfl, rfl, rfl, trivial⟩, trivial⟩
    · have hF := cneg h2 hF
      exact Or.inl ⟨rfl, congrArg (Option.map qused_E) hF⟩
abbrev qused_S (h_ : List Shot) (i : Int) (mark : Str) (unit : Int) : Option (Bool) := qused_F 2000 h_ i mark unit
theorem qused_h {h_ : List Shot} {i : Int} {mark : Str} {unit : Int} {r : Bool} (h : qused_S h_ i mark unit = some r) : Holds Tryz.prog Gw 87 [.sl 2 (h_.map cShot), I i, S mark, I unit] (qused_E r) := qused_Fh  h
abbrev qmarks_E (y : Int) : CV := I y
def qmarks_L1 (h_ : List Shot) (i : Int) : Nat → Int → Option (Int)
  | 0, _ => none
  | fu1 + 1, k1 => Option.bind (ix h_ i) fun x2 => bif decide (k1 < ((x2.Units.map cStanding).length : Int)) then (Option.bind (ix h_ i) fun x5 => Option.bind (ix x5.Units k1) fun x7 => bif (!(x7.Mark == ([] : Str))) then (Option.bind (qused_S h_ i x7.Mark x7.Unit) fun y10 => bif y10 then some (19) else qmarks_L1 h_ i fu1 (IntKind.i64.wrap (k1 + 1))) else qmarks_L1 h_ i fu1 (IntKind.i64.wrap (k1 + 1))) else some (0)
def qmarks_F (N : Nat) (h_ : List Shot) (i : Int) : Option (Int) := qmarks_L1 h_ i N 0
set_option linter.unusedVariables false in
theorem qmarks_Fh {N : Nat} {h_ : List Shot} {i : Int} {r : Int} (hF : qmarks_F N h_ i = some r) : Holds Tryz.prog Gw 68 [.sl 2 (h_.map cShot), I i] (qmarks_E r) := by
  refine holds_of_wq tabOk mixed Tryz.func68 (by decide) rfl (Nat.le_of_ble_eq_true rfl) ?_
  refine loop_oq (fun p : Nat × Int => [(0, .c (.sl 2 (h_.map cShot))), (1, .c (I i)), (5, .c (I p.2))]) (fun _ => []) (fun p => qmarks_L1 h_ i p.1 p.2 = some r) (fun p => p.1) (N, 0) hF ⟨rfl, rfl, rfl, trivial⟩ trivial ?_
  rintro ⟨fu1, k1⟩ hF
  cases fu1 with
  | zero => exact nomatch hF
  | succ fu1 =>
    refine obind hF fun x2 h3 hF => ?_
    refine ⟨ix_nn h3, .inl rfl, _, ix_map cShot h3, ?_⟩
    refine And.intro (fun h4 => ?_) (fun h4 => ?_)
    · have hF := cpos h4 hF
      refine join_no ?_
      refine obind hF fun x5 h6 hF => ?_
      refine ⟨ix_nn h6, .inl rfl, _, ix_map cShot h6, ?_⟩
      refine obind hF fun x7 h8 hF => ?_
      refine ⟨ix_nn h8, .inl rfl, _, ix_map cStanding h8, ?_⟩
      refine Or.inl ?_
      refine And.intro (fun h9 => ?_) (fun h9 => ?_)
      · have hF := cpos h9 hF
        refine obind hF fun y10 h11 hF => ?_
        refine Or.inl ⟨_, qused_h h11, rfl, ?_⟩
        refine And.intro (fun h12 => ?_) (fun h12 => ?_)
        · have hF := cpos h12 hF
          exact Or.inl ⟨rfl, congrArg (Option.map qmarks_E) hF⟩
        · have hF := cneg h12 hF
          exact ⟨(fu1, (IntKind.i64.wrap (k1 + 1))), Nat.lt_succ_self _, hF, ⟨rfl, rfl, rfl, trivial⟩, trivial⟩
      · have hF := cneg h9 hF
        exact ⟨(fu1, (IntKind.i64.wrap (k1 + 1))), Nat.lt_succ_self _, hF, ⟨rfl, rfl, rfl, trivial⟩, trivial⟩
    · have hF := cneg h4 hF
      exact Or.inl ⟨rfl, congrArg (Option.map qmarks_E) hF⟩
abbrev qmarks_S (h_ : List Shot) (i : Int) : Option (Int) := qmarks_F 2000 h_ i
theorem qmarks_h {h_ : List Shot} {i : Int} {r : Int} (h : qmarks_S h_ i = some r) : Holds Tryz.prog Gw 68 [.sl 2 (h_.map cShot), I i] (qmarks_E r) := qmarks_Fh  h
abbrev qshot_E (y : Int) : CV := I y
def qshot_L1 (h_ : List Shot) (i : Int) (x1 : Shot) : Nat → Int → Option (Int)
  | 0, _ => none
  | fu1 + 1, k10 => bif decide (k10 < ((x1.Units.map cStanding).length : Int)) then (Option.bind (qfield_S x1 k10) fun y12 => bif (y12 != 0) then some (y12) else qshot_L1 h_ i x1 fu1 (IntKind.i64.wrap (k10 + 1))) else (Option.bind (qplaces_S x1) fun y15 => bif (y15 != 0) then some (y15) else (Option.bind (qmarks_S h_ i) fun y18 => some (y18)))
def qshot_L2 (h_ : List Shot) (i : Int) (x1 : Shot) : Nat → Int → Option (Int)
  | 0, _ => none
  | fu2 + 1, k21 => bif decide (k21 < ((x1.Units.map cStanding).length : Int)) then (Option.bind (qfield_S x1 k21) fun y23 => bif (y23 != 0) then some (y23) else qshot_L2 h_ i x1 fu2 (IntKind.i64.wrap (k21 + 1))) else (Option.bind (qplaces_S x1) fun y26 => bif (y26 != 0) then some (y26) else (Option.bind (qmarks_S h_ i) fun y29 => some (y29)))
def qshot_F (N : Nat) (h_ : List Shot) (i : Int) : Option (Int) := Option.bind (ix h_ i) fun x1 => bif decide (x1.Day < 0) then some (2) else (bif decide (x1.Day > 1048575) then some (2) else (bif decide (i > 0) then (Option.bind (ix h_ (IntKind.i64.wrap (i - 1))) fun x6 => bif decide (x6.Day ≥ x1.Day) then some (5) else (bif decide (((x1.Units.map cStanding).length : Int) > 256) then some (8) else qshot_L1 h_ i x1 N 0)) else (bif decide (((x1.Units.map cStanding).length : Int) > 256) then some (8) else qshot_L2 h_ i x1 N 0)))
set_option linter.unusedVariables false in
theorem qshot_Fh {N : Nat} {h_ : List Shot} {i : Int} {r : Int} (hF : qshot_F N h_ i = some r) : Holds Tryz.prog Gw 42 [.sl 2 (h_.map cShot), I i] (qshot_E r) := by
  refine holds_of_wq tabOk mixed Tryz.func42 (by decide) rfl (Nat.le_of_ble_eq_true rfl) ?_
  refine obind hF fun x1 h2 hF => ?_
  refine ⟨ix_nn h2, .inl rfl, _, ix_map cShot h2, ?_⟩
  refine Or.inl ?_
  refine And.intro (fun h3 => ?_) (fun h3 => ?_)
  · have hF := cpos h3 hF
    exact Or.inl ⟨rfl, congrArg (Option.map qshot_E) hF⟩
  · have hF := cneg h3 hF
    refine And.intro (fun h4 => ?_) (fun h4 => ?_)
    · have hF := cpos h4 hF
      exact Or.inl ⟨rfl, congrArg (Option.map qshot_E) hF⟩
    · have hF := cneg h4 hF
      refine And.intro (fun h5 => ?_) (fun h5 => ?_)
      · have hF := cpos h5 hF
        refine obind hF fun x6 h7 hF => ?_
        refine ⟨ix_nn h7, .inl rfl, _, ix_map cShot h7, ?_⟩
        refine And.intro (by kernel_rfl) ?_
        refine And.intro (fun h8 => ?_) (fun h8 => ?_)
        · have hF := cpos h8 hF
          exact Or.inl ⟨rfl, congrArg (Option.map qshot_E) hF⟩
        · have hF := cneg h8 hF
          refine And.intro (fun h9 => ?_) (fun h9 => ?_)
          · have hF := cpos h9 hF
            exact Or.inl ⟨rfl, congrArg (Option.map qshot_E) hF⟩
          · have hF := cneg h9 hF
            refine loop_oq (fun p : Nat × Int => [(0, .c (.sl 2 (h_.map cShot))), (1, .c (I i)), (5, .pm 5 0 0), (6, .c (I p.2))]) (fun p : Nat × Int => [(5, .var [I x1.Day, .sl 5 (x1.Units.map cStanding)])]) (fun p => qshot_L1 h_ i x1 p.1 p.2 = some r) (fun p => p.1) (N, 0) hF ⟨rfl, rfl, rfl, rfl, trivial⟩ ⟨rfl, trivial⟩ ?_
            rintro ⟨fu1, k10⟩ hF
            cases fu1 with
            | zero => exact nomatch hF
            | succ fu1 =>
              refine And.intro (fun h11 => ?_) (fun h11 => ?_)
              · have hF := cpos h11 hF
                refine join_no ?_
                refine obind hF fun y12 h13 hF => ?_
                refine Or.inl ⟨_, qfield_h h13, rfl, ?_⟩
                refine And.intro (fun h14 => ?_) (fun h14 => ?_)
                · have hF := cpos h14 hF
                  exact Or.inl ⟨rfl, congrArg (Option.map qshot_E) hF⟩
                · have hF := cneg h14 hF
                  exact ⟨(fu1, (IntKind.i64.wrap (k10 + 1))), Nat.lt_succ_self _, hF, ⟨rfl, rfl, rfl, rfl, trivial⟩, ⟨rfl, trivial⟩⟩
              · have hF := cneg h11 hF
                refine obind hF fun y15 h16 hF => ?_
                refine Or.inl ⟨_, qplaces_h h16, rfl, ?_⟩
                refine And.intro (fun h17 => ?_) (fun h17 => ?_)
                · have hF := cpos h17 hF
                  exact Or.inl ⟨rfl, congrArg (Option.map qshot_E) hF⟩
                · have hF := cneg h17 hF
                  refine obind hF fun y18 h19 hF => ?_
                  refine Or.inl ⟨_, qmarks_h h19, rfl, ?_⟩
                  exact Or.inl ⟨rfl, congrArg (Option.map qshot_E) hF⟩
      · have hF := cneg h5 hF
        refine And.intro (by kernel_rfl) ?_
        refine And.intro (fun h20 => ?_) (fun h20 => ?_)
        · have hF := cpos h20 hF
          exact Or.inl ⟨rfl, congrArg (Option.map qshot_E) hF⟩
        · have hF := cneg h20 hF
          refine loop_oq (fun p : Nat × Int => [(0, .c (.sl 2 (h_.map cShot))), (1, .c (I i)), (5, .pm 5 0 0), (6, .c (I p.2))]) (fun p : Nat × Int => [(5, .var [I x1.Day, .sl 5 (x1.Units.map cStanding)])]) (fun p => qshot_L2 h_ i x1 p.1 p.2 = some r) (fun p => p.1) (N, 0) hF ⟨rfl, rfl, rfl, rfl, trivial⟩ ⟨rfl, trivial⟩ ?_
          rintro ⟨fu2, k21⟩ hF
          cases fu2 with
          | zero => exact nomatch hF
          | succ fu2 =>
            refine And.intro (fun h22 => ?_) (fun h22 => ?_)
            · have hF := cpos h22 hF
              refine join_no ?_
              refine obind hF fun y23 h24 hF => ?_
              refine Or.inl ⟨_, qfield_h h24, rfl, ?_⟩
              refine And.intro (fun h25 => ?_) (fun h25 => ?_)
              · have hF := cpos h25 hF
                exact Or.inl ⟨rfl, congrArg (Option.map qshot_E) hF⟩
              · have hF := cneg h25 hF
                exact ⟨(fu2, (IntKind.i64.wrap (k21 + 1))), Nat.lt_succ_self _, hF, ⟨rfl, rfl, rfl, rfl, trivial⟩, ⟨rfl, trivial⟩⟩
            · have hF := cneg h22 hF
              refine obind hF fun y26 h27 hF => ?_
              refine Or.inl ⟨_, qplaces_h h27, rfl, ?_⟩
              refine And.intro (fun h28 => ?_) (fun h28 => ?_)
              · have hF := cpos h28 hF
                exact Or.inl ⟨rfl, congrArg (Option.map qshot_E) hF⟩
              · have hF := cneg h28 hF
                refine obind hF fun y29 h30 hF => ?_
                refine Or.inl ⟨_, qmarks_h h30, rfl, ?_⟩
                exact Or.inl ⟨rfl, congrArg (Option.map qshot_E) hF⟩
abbrev qshot_S (h_ : List Shot) (i : Int) : Option (Int) := qshot_F 2000 h_ i
theorem qshot_h {h_ : List Shot} {i : Int} {r : Int} (h : qshot_S h_ i = some r) : Holds Tryz.prog Gw 42 [.sl 2 (h_.map cShot), I i] (qshot_E r) := qshot_Fh  h
abbrev qCheck_E (y : Int) : CV := I y
def qCheck_L1 (h_ : List Shot) : Nat → Int → Option (Int)
  | 0, _ => none
  | fu1 + 1, i2 => bif decide (i2 < ((h_.map cShot).length : Int)) then (Option.bind (qshot_S h_ i2) fun y4 => bif (y4 != 0) then some (y4) else qCheck_L1 h_ fu1 (IntKind.i64.wrap (i2 + 1))) else some (0)
def qCheck_F (N : Nat) (h_ : List Shot) : Option (Int) := bif decide (((h_.map cShot).length : Int) > 64) then some (8) else qCheck_L1 h_ N 0
set_option linter.unusedVariables false in
theorem qCheck_Fh {N : Nat} {h_ : List Shot} {r : Int} (hF : qCheck_F N h_ = some r) : Holds Tryz.prog Gw 22 [.sl 2 (h_.map cShot)] (qCheck_E r) := by
  refine holds_of_wq tabOk mixed Tryz.func22 (by decide) rfl (Nat.le_of_ble_eq_true rfl) ?_
  refine And.intro (fun h1 => ?_) (fun h1 => ?_)
  · have hF := cpos h1 hF
    exact Or.inl ⟨rfl, congrArg (Option.map qCheck_E) hF⟩
  · have hF := cneg h1 hF
    refine loop_oq (fun p : Nat × Int => [(0, .c (.sl 2 (h_.map cShot))), (3, .c (I p.2))]) (fun _ => []) (fun p => qCheck_L1 h_ p.1 p.2 = some r) (fun p => p.1) (N, 0) hF ⟨rfl, rfl, trivial⟩ trivial ?_
    rintro ⟨fu1, i2⟩ hF
    cases fu1 with
    | zero => exact nomatch hF
    | succ fu1 =>
      refine And.intro (fun h3 => ?_) (fun h3 => ?_)
      · have hF := cpos h3 hF
        refine join_no ?_
        refine obind hF fun y4 h5 hF => ?_
        refine Or.inl ⟨_, qshot_h h5, rfl, ?_⟩
        refine And.intro (fun h6 => ?_) (fun h6 => ?_)
        · have hF := cpos h6 hF
          exact Or.inl ⟨rfl, congrArg (Option.map qCheck_E) hF⟩
        · have hF := cneg h6 hF
          exact ⟨(fu1, (IntKind.i64.wrap (i2 + 1))), Nat.lt_succ_self _, hF, ⟨rfl, rfl, trivial⟩, trivial⟩
      · have hF := cneg h3 hF
        exact Or.inl ⟨rfl, congrArg (Option.map qCheck_E) hF⟩
abbrev qCheck_S (h_ : List Shot) : Option (Int) := qCheck_F 2000 h_
theorem qCheck_h {h_ : List Shot} {r : Int} (h : qCheck_S h_ = some r) : Holds Tryz.prog Gw 22 [.sl 2 (h_.map cShot)] (qCheck_E r) := qCheck_Fh  h
abbrev qAt_E (y : Int) : CV := I y
def qAt_L1 (h_ : List Shot) (day : Int) : Nat → Int → Int → Option (Int)
  | 0, _, _ => none
  | fu1 + 1, out4, i5 => bif decide (i5 < ((h_.map cShot).length : Int)) then (Option.bind (ix h_ i5) fun x7 => bif decide (x7.Day ≤ day) then qAt_L1 h_ day fu1 i5 (IntKind.i64.wrap (i5 + 1)) else qAt_L1 h_ day fu1 out4 (IntKind.i64.wrap (i5 + 1))) else some (out4)
def qAt_F (N : Nat) (h_ : List Shot) (day : Int) : Option (Int) := Option.bind (qCheck_S h_) fun y1 => bif (y1 != 0) then some ((-1)) else qAt_L1 h_ day N (-1) 0
set_option linter.unusedVariables false in
theorem qAt_Fh {N : Nat} {h_ : List Shot} {day : Int} {r : Int} (hF : qAt_F N h_ day = some r) : Holds Tryz.prog Gw 47 [.sl 2 (h_.map cShot), I day] (qAt_E r) := by
  refine holds_of_wq tabOk mixed Tryz.func47 (by decide) rfl (Nat.le_of_ble_eq_true rfl) ?_
  refine obind hF fun y1 h2 hF => ?_
  refine Or.inl ⟨_, qCheck_h h2, rfl, ?_⟩
  refine And.intro (fun h3 => ?_) (fun h3 => ?_)
  · have hF := cpos h3 hF
    exact Or.inl ⟨rfl, congrArg (Option.map qAt_E) hF⟩
  · have hF := cneg h3 hF
    refine loop_oq (fun p : Nat × Int × Int => [(0, .c (.sl 2 (h_.map cShot))), (1, .c (I day)), (5, .c (I p.2.1)), (6, .c (I p.2.2))]) (fun _ => []) (fun p => qAt_L1 h_ day p.1 p.2.1 p.2.2 = some r) (fun p => p.1) (N, (-1), 0) hF ⟨rfl, rfl, rfl, rfl, trivial⟩ trivial ?_
    rintro ⟨fu1, out4, i5⟩ hF
    cases fu1 with
    | zero => exact nomatch hF
    | succ fu1 =>
      refine And.intro (fun h6 => ?_) (fun h6 => ?_)
      · have hF := cpos h6 hF
        refine join_no ?_
        refine obind hF fun x7 h8 hF => ?_
        refine ⟨ix_nn h8, .inl rfl, _, ix_map cShot h8, ?_⟩
        refine And.intro (fun h9 => ?_) (fun h9 => ?_)
        · have hF := cpos h9 hF
          exact ⟨(fu1, i5, (IntKind.i64.wrap (i5 + 1))), Nat.lt_succ_self _, hF, ⟨rfl, rfl, rfl, rfl, trivial⟩, trivial⟩
        · have hF := cneg h9 hF
          exact ⟨(fu1, out4, (IntKind.i64.wrap (i5 + 1))), Nat.lt_succ_self _, hF, ⟨rfl, rfl, rfl, rfl, trivial⟩, trivial⟩
      · have hF := cneg h6 hF
        exact Or.inl ⟨rfl, congrArg (Option.map qAt_E) hF⟩
abbrev qAt_S (h_ : List Shot) (day : Int) : Option (Int) := qAt_F 2000 h_ day
theorem qAt_h {h_ : List Shot} {day : Int} {r : Int} (h : qAt_S h_ day = some r) : Holds Tryz.prog Gw 47 [.sl 2 (h_.map cShot), I day] (qAt_E r) := qAt_Fh  h
abbrev qStanding_E (y : Standing × Bool) : CV := .tup [.agg (cStanding y.1), B y.2]
def qStanding_F (h_ : List Shot) (unit : Int) (day : Int) : Option (Standing × Bool) := Option.bind (qAt_S h_ day) fun y1 => bif decide (y1 < 0) then some ((⟨0, 0, 0, ([] : Str), ([] : Str)⟩ : Standing), false) else (Option.bind (ix h_ y1) fun x4 => Option.bind (qFind_S x4 unit) fun y6 => bif decide (y6 < 0) then some ((⟨0, 0, 0, ([] : Str), ([] : Str)⟩ : Standing), false) else (Option.bind (ix h_ y1) fun x9 => Option.bind (ix h_ y1) fun x11 => Option.bind (qFind_S x11 unit) fun y13 => Option.bind (ix x9.Units y13) fun x15 => some (x15, true)))
set_option linter.unusedVariables false in
theorem qStanding_Fh {h_ : List Shot} {unit : Int} {day : Int} {r : Standing × Bool} (hF : qStanding_F h_ unit day = some r) : Holds Tryz.prog Gw 26 [.sl 2 (h_.map cShot), I unit, I day] (qStanding_E r) := by
  refine holds_of_wq tabOk mixed Tryz.func26 (by decide) rfl (Nat.le_of_ble_eq_true rfl) ?_
  refine Or.inl ?_
  refine obind hF fun y1 h2 hF => ?_
  refine Or.inl ⟨_, qAt_h h2, rfl, ?_⟩
  refine And.intro (fun h3 => ?_) (fun h3 => ?_)
  · have hF := cpos h3 hF
    exact Or.inl ⟨rfl, congrArg (Option.map qStanding_E) hF⟩
  · have hF := cneg h3 hF
    refine obind hF fun x4 h5 hF => ?_
    refine ⟨ix_nn h5, .inl rfl, _, ix_map cShot h5, ?_⟩
    refine obind hF fun y6 h7 hF => ?_
    refine Or.inl ⟨_, qFind_h h7, rfl, ?_⟩
    refine And.intro (fun h8 => ?_) (fun h8 => ?_)
    · have hF := cpos h8 hF
      exact Or.inl ⟨rfl, congrArg (Option.map qStanding_E) hF⟩
    · have hF := cneg h8 hF
      refine obind hF fun x9 h10 hF => ?_
      refine ⟨ix_nn h10, .inl rfl, _, ix_map cShot h10, ?_⟩
      refine obind hF fun x11 h12 hF => ?_
      refine ⟨ix_nn h12, .inl rfl, _, ix_map cShot h12, ?_⟩
      refine obind hF fun y13 h14 hF => ?_
      refine Or.inl ⟨_, qFind_h h14, rfl, ?_⟩
      refine obind hF fun x15 h16 hF => ?_
      refine ⟨ix_nn h16, .inl rfl, _, ix_map cStanding h16, ?_⟩
      refine And.intro (by kernel_rfl) ?_
      exact Or.inl ⟨rfl, congrArg (Option.map qStanding_E) hF⟩
abbrev qStanding_S (h_ : List Shot) (unit : Int) (day : Int) : Option (Standing × Bool) := qStanding_F h_ unit day
theorem qStanding_h {h_ : List Shot} {unit : Int} {day : Int} {r : Standing × Bool} (h : qStanding_S h_ unit day = some r) : Holds Tryz.prog Gw 26 [.sl 2 (h_.map cShot), I unit, I day] (qStanding_E r) := qStanding_Fh  h
abbrev rpath_E (y : List Int) : CV := .sl 1 (y.map cInt)
def rpath_F : Nat → Shot → Int → Option (List Int)
  | 0, _, _ => none
  | N + 1, s, unit => Option.bind (qFind_S s unit) fun y1 => Option.bind (ix s.Units y1) fun x3 => bif (x3.Parent == 0) then some (([unit] : List Int)) else (Option.bind (ix s.Units y1) fun x6 => Option.bind ((rpath_F N) s x6.Parent) fun y8 => bif decide (y8.length + ([unit] : List Int).length ≤ 4294967296) then some ((y8 ++ ([unit] : List Int))) else none)
abbrev rpath_O (y : List Int) : CV := .wo (.ow 0) [(3, 1, y.map cInt, none)]
set_option linter.unusedVariables false in
theorem rpath_Oh : ∀ (N : Nat) (s : Shot) (unit : Int) (r : List Int), rpath_F N s unit = some r → Holds Tryz.prog Gw 43 [.agg (cShot s), I unit] (rpath_O r) := by
  intro N
  induction N with
  | zero => intro s unit r hF; exact nomatch hF
  | succ N ih =>
    intro s unit r hF
    refine holds_of_wq tabOk mixed Tryz.func43 (by decide) rfl (Nat.le_of_ble_eq_true rfl) ?_
    refine Or.inl ?_
    refine Or.inl ?_
    refine obind hF fun y1 h2 hF => ?_
    refine Or.inl ⟨_, qFind_h h2, rfl, ?_⟩
    refine obind hF fun x3 h4 hF => ?_
    refine ⟨ix_nn h4, .inl rfl, _, ix_map cStanding h4, ?_⟩
    refine And.intro (fun h5 => ?_) (fun h5 => ?_)
    · have hF := cpos h5 hF
      refine Or.inr ⟨[], 0, _, _, _, _, rfl, rfl, eff_build1 (cf := cInt) (a := unit) tok36.u tok3 rfl rfl (fun _ => rfl) rfl (fun _ _ _ h => cells_one h rfl), rfl, ?_⟩
      refine ret_eq (p := fun r => resFin tab _ (rpath_O r) _) hF ?_
      exact Or.inr ⟨[(17, 1)], rfl, ⟨rfl, rfl⟩, rfl⟩
    · have hF := cneg h5 hF
      refine obind hF fun x6 h7 hF => ?_
      refine ⟨ix_nn h7, .inl rfl, _, ix_map cStanding h7, ?_⟩
      refine obind hF fun y8 h9 hF => ?_
      refine Or.inr (Or.inl ⟨_, _, ih _ _ _ h9, ?_⟩)
      refine Or.inl ?_
      refine gpos hF fun h10 hF => ?_
      refine Or.inr ⟨[(25, 1)], 0, _, _, _, _, rfl, rfl, eff_append (cf := cInt) (l := y8) (ns := ([unit] : List Int)) tok36.u tok3 (by decide) (by decide) (fun _ => rfl) h10, rfl, ?_⟩
      refine And.intro (by kernel_rfl) ?_
      refine ret_eq (p := fun r => resFin tab _ (rpath_O r) _) hF ?_
      exact Or.inr ⟨[(25, 2)], rfl, ⟨rfl, rfl⟩, rfl⟩
set_option linter.unusedVariables false in
theorem rpath_Fh : ∀ (N : Nat) (s : Shot) (unit : Int) (r : List Int), rpath_F N s unit = some r → Holds Tryz.prog Gw 43 [.agg (cShot s), I unit] (rpath_E r) := by
  intro N
  induction N with
  | zero => intro s unit r hF; exact nomatch hF
  | succ N ih =>
    intro s unit r hF
    refine holds_of_wq tabOk mixed Tryz.func43 (by decide) rfl (Nat.le_of_ble_eq_true rfl) ?_
    refine Or.inl ?_
    refine Or.inl ?_
    refine obind hF fun y1 h2 hF => ?_
    refine Or.inl ⟨_, qFind_h h2, rfl, ?_⟩
    refine obind hF fun x3 h4 hF => ?_
    refine ⟨ix_nn h4, .inl rfl, _, ix_map cStanding h4, ?_⟩
    refine And.intro (fun h5 => ?_) (fun h5 => ?_)
    · have hF := cpos h5 hF
      refine Or.inr ⟨[], 0, _, _, _, _, rfl, rfl, eff_build1 (cf := cInt) (a := unit) tok36.u tok3 rfl rfl (fun _ => rfl) rfl (fun _ _ _ h => cells_one h rfl), rfl, ?_⟩
      refine ret_eq (p := fun r => resFin tab _ (rpath_E r) _) hF ?_
      exact Or.inr ⟨rfl, _, rfl, rfl⟩
    · have hF := cneg h5 hF
      refine obind hF fun x6 h7 hF => ?_
      refine ⟨ix_nn h7, .inl rfl, _, ix_map cStanding h7, ?_⟩
      refine obind hF fun y8 h9 hF => ?_
      refine Or.inr (Or.inl ⟨_, _, rpath_Oh _ _ _ _ h9, ?_⟩)
      refine Or.inl ?_
      refine gpos hF fun h10 hF => ?_
      refine Or.inr ⟨[(25, 1)], 0, _, _, _, _, rfl, rfl, eff_append (cf := cInt) (l := y8) (ns := ([unit] : List Int)) tok36.u tok3 (by decide) (by decide) (fun _ => rfl) h10, rfl, ?_⟩
      refine And.intro (by kernel_rfl) ?_
      refine ret_eq (p := fun r => resFin tab _ (rpath_E r) _) hF ?_
      exact Or.inr ⟨rfl, _, rfl, rfl⟩
abbrev rpath_S (s : Shot) (unit : Int) : Option (List Int) := rpath_F 2000 s unit
theorem rpath_h {s : Shot} {unit : Int} {r : List Int} (h : rpath_S s unit = some r) : Holds Tryz.prog Gw 43 [.agg (cShot s), I unit] (rpath_E r) := rpath_Fh _ _ _ _ h
abbrev rversions_E (y : List Version) : CV := .sl 8 (y.map cVersion)
def rversions_L1 (h_ : List Shot) (unit : Int) : Nat → List Version → Int → Option (List Version)
  | 0, _, _ => none
  | fu1 + 1, out1, i2 => bif decide (i2 < ((h_.map cShot).length : Int)) then (Option.bind (ix h_ i2) fun x4 => Option.bind (qFind_S x4 unit) fun y6 => bif decide (y6 < 0) then rversions_L1 h_ unit fu1 out1 (IntKind.i64.wrap (i2 + 1)) else (bif decide (i2 > 0) then (Option.bind (ix h_ (IntKind.i64.wrap (i2 - 1))) fun x10 => Option.bind (qFind_S x10 unit) fun y12 => bif decide (y12 ≥ 0) then (Option.bind (ix h_ (IntKind.i64.wrap (i2 - 1))) fun x15 => Option.bind (ix x15.Units y12) fun x17 => Option.bind (ix h_ i2) fun x19 => Option.bind (ix x19.Units y6) fun x21 => bif (x17 == x21) then rversions_L1 h_ unit fu1 out1 (IntKind.i64.wrap (i2 + 1)) else (Option.bind (ix h_ i2) fun x24 => Option.bind (ix h_ i2) fun x26 => Option.bind (ix x26.Units y6) fun x28 => Option.bind (ix h_ i2) fun x30 => Option.bind (rpath_S x30 unit) fun y32 => bif decide (out1.length + ([(⟨(IntKind.i64.wrap (((out1.map cVersion).length : Int) + 1)), x24.Day, x28, y32⟩ : Version)] : List Version).length ≤ 4294967296) then rversions_L1 h_ unit fu1 (out1 ++ ([(⟨(IntKind.i64.wrap (((out1.map cVersion).length : Int) + 1)), x24.Day, x28, y32⟩ : Version)] : List Version)) (IntKind.i64.wrap (i2 + 1)) else none)) else (Option.bind (ix h_ i2) fun x35 => Option.bind (ix h_ i2) fun x37 => Option.bind (ix x37.Units y6) fun x39 => Option.bind (ix h_ i2) fun x41 => Option.bind (rpath_S x41 unit) fun y43 => bif decide (out1.length + ([(⟨(IntKind.i64.wrap (((out1.map cVersion).length : Int) + 1)), x35.Day, x39, y43⟩ : Version)] : List Version).length ≤ 4294967296) then rversions_L1 h_ unit fu1 (out1 ++ ([(⟨(IntKind.i64.wrap (((out1.map cVersion).length : Int) + 1)), x35.Day, x39, y43⟩ : Version)] : List Version)) (IntKind.i64.wrap (i2 + 1)) else none)) else (Option.bind (ix h_ i2) fun x46 => Option.bind (ix h_ i2) fun x48 => Option.bind (ix x48.Units y6) fun x50 => Option.bind (ix h_ i2) fun x52 => Option.bind (rpath_S x52 unit) fun y54 => bif decide (out1.length + ([(⟨(IntKind.i64.wrap (((out1.map cVersion).length : Int) + 1)), x46.Day, x50, y54⟩ : Version)] : List Version).length ≤ 4294967296) then rversions_L1 h_ unit fu1 (out1 ++ ([(⟨(IntKind.i64.wrap (((out1.map cVersion).length : Int) + 1)), x46.Day, x50, y54⟩ : Version)] : List Version)) (IntKind.i64.wrap (i2 + 1)) else none))) else some (out1)
def rversions_F (N : Nat) (h_ : List Shot) (unit : Int) : Option (List Version) := rversions_L1 h_ unit N ([] : List Version) 0
set_option linter.unusedVariables false in
theorem rversions_Fh {N : Nat} {h_ : List Shot} {unit : Int} {r : List Version} (hF : rversions_F N h_ unit = some r) : Holds Tryz.prog Gw 23 [.sl 2 (h_.map cShot), I unit] (rversions_E r) := by
  refine holds_of_wq tabOk mixed Tryz.func23 (by decide) rfl (Nat.le_of_ble_eq_true rfl) ?_
  refine Or.inl ?_
  refine Or.inl ?_
  refine loop_oq (fun p : Nat × List Version × Int => [(0, .c (.sl 2 (h_.map cShot))), (1, .c (I unit)), (5, .ap 5 0 8 (p.2.1.map cVersion)), (6, .c (I p.2.2))]) (fun p : Nat × List Version × Int => [(5, .tok 38 8)]) (fun p => rversions_L1 h_ unit p.1 p.2.1 p.2.2 = some r) (fun p => p.1) (N, ([] : List Version), 0) hF ⟨rfl, rfl, rfl, rfl, trivial⟩ ⟨rfl, trivial⟩ ?_
  rintro ⟨fu1, out1, i2⟩ hF
  cases fu1 with
  | zero => exact nomatch hF
  | succ fu1 =>
    refine And.intro (fun h3 => ?_) (fun h3 => ?_)
    · have hF := cpos h3 hF
      refine join_no ?_
      refine obind hF fun x4 h5 hF => ?_
      refine ⟨ix_nn h5, .inl rfl, _, ix_map cShot h5, ?_⟩
      refine obind hF fun y6 h7 hF => ?_
      refine Or.inl ⟨_, qFind_h h7, rfl, ?_⟩
      refine And.intro (fun h8 => ?_) (fun h8 => ?_)
      · have hF := cpos h8 hF
        exact ⟨(fu1, out1, (IntKind.i64.wrap (i2 + 1))), Nat.lt_succ_self _, hF, ⟨rfl, rfl, rfl, rfl, trivial⟩, ⟨rfl, trivial⟩⟩
      · have hF := cneg h8 hF
        refine And.intro (fun h9 => ?_) (fun h9 => ?_)
        · have hF := cpos h9 hF
          refine obind hF fun x10 h11 hF => ?_
          refine ⟨ix_nn h11, .inl rfl, _, ix_map cShot h11, ?_⟩
          refine obind hF fun y12 h13 hF => ?_
          refine Or.inl ⟨_, qFind_h h13, rfl, ?_⟩
          refine And.intro (fun h14 => ?_) (fun h14 => ?_)
          · have hF := cpos h14 hF
            refine obind hF fun x15 h16 hF => ?_
            refine ⟨ix_nn h16, .inl rfl, _, ix_map cShot h16, ?_⟩
            refine obind hF fun x17 h18 hF => ?_
            refine ⟨ix_nn h18, .inl rfl, _, ix_map cStanding h18, ?_⟩
            refine obind hF fun x19 h20 hF => ?_
            refine ⟨ix_nn h20, .inl rfl, _, ix_map cShot h20, ?_⟩
            refine obind hF fun x21 h22 hF => ?_
            refine ⟨ix_nn h22, .inl rfl, _, ix_map cStanding h22, ?_⟩
            refine Or.inr ⟨[], 0, _, _, _, _, rfl, rfl, seq_Standing x17 x21, rfl, ?_⟩
            refine And.intro (by kernel_rfl) ?_
            refine And.intro (fun h23 => ?_) (fun h23 => ?_)
            · have hF := cpos h23 hF
              exact ⟨(fu1, out1, (IntKind.i64.wrap (i2 + 1))), Nat.lt_succ_self _, hF, ⟨rfl, rfl, rfl, rfl, trivial⟩, ⟨rfl, trivial⟩⟩
            · have hF := cneg h23 hF
              refine obind hF fun x24 h25 hF => ?_
              refine ⟨ix_nn h25, .inl rfl, _, ix_map cShot h25, ?_⟩
              refine obind hF fun x26 h27 hF => ?_
              refine ⟨ix_nn h27, .inl rfl, _, ix_map cShot h27, ?_⟩
              refine obind hF fun x28 h29 hF => ?_
              refine ⟨ix_nn h29, .inl rfl, _, ix_map cStanding h29, ?_⟩
              refine obind hF fun x30 h31 hF => ?_
              refine ⟨ix_nn h31, .inl rfl, _, ix_map cShot h31, ?_⟩
              refine obind hF fun y32 h33 hF => ?_
              refine Or.inl ⟨_, rpath_h h33, rfl, ?_⟩
              refine Or.inl ?_
              refine gpos hF fun h34 hF => ?_
              refine Or.inl ⟨len_all rfl, app_le h34, (out1 ++ ([(⟨(IntKind.i64.wrap (((out1.map cVersion).length : Int) + 1)), x24.Day, x28, y32⟩ : Version)] : List Version)).map cVersion, map_app _ _ _, ?_⟩
              refine And.intro (by kernel_rfl) ?_
              exact ⟨(fu1, (out1 ++ ([(⟨(IntKind.i64.wrap (((out1.map cVersion).length : Int) + 1)), x24.Day, x28, y32⟩ : Version)] : List Version)), (IntKind.i64.wrap (i2 + 1))), Nat.lt_succ_self _, hF, ⟨rfl, rfl, rfl, rfl, trivial⟩, ⟨rfl, trivial⟩⟩
          · have hF := cneg h14 hF
            refine And.intro (by kernel_rfl) ?_
            refine obind hF fun x35 h36 hF => ?_
            refine ⟨ix_nn h36, .inl rfl, _, ix_map cShot h36, ?_⟩
            refine obind hF fun x37 h38 hF => ?_
            refine ⟨ix_nn h38, .inl rfl, _, ix_map cShot h38, ?_⟩
            refine obind hF fun x39 h40 hF => ?_
            refine ⟨ix_nn h40, .inl rfl, _, ix_map cStanding h40, ?_⟩
            refine obind hF fun x41 h42 hF => ?_
            refine ⟨ix_nn h42, .inl rfl, _, ix_map cShot h42, ?_⟩
            refine obind hF fun y43 h44 hF => ?_
            refine Or.inl ⟨_, rpath_h h44, rfl, ?_⟩
            refine Or.inl ?_
            refine gpos hF fun h45 hF => ?_
            refine Or.inl ⟨len_all rfl, app_le h45, (out1 ++ ([(⟨(IntKind.i64.wrap (((out1.map cVersion).length : Int) + 1)), x35.Day, x39, y43⟩ : Version)] : List Version)).map cVersion, map_app _ _ _, ?_⟩
            refine And.intro (by kernel_rfl) ?_
            exact ⟨(fu1, (out1 ++ ([(⟨(IntKind.i64.wrap (((out1.map cVersion).length : Int) + 1)), x35.Day, x39, y43⟩ : Version)] : List Version)), (IntKind.i64.wrap (i2 + 1))), Nat.lt_succ_self _, hF, ⟨rfl, rfl, rfl, rfl, trivial⟩, ⟨rfl, trivial⟩⟩
        · have hF := cneg h9 hF
          refine obind hF fun x46 h47 hF => ?_
          refine ⟨ix_nn h47, .inl rfl, _, ix_map cShot h47, ?_⟩
          refine obind hF fun x48 h49 hF => ?_
          refine ⟨ix_nn h49, .inl rfl, _, ix_map cShot h49, ?_⟩
          refine obind hF fun x50 h51 hF => ?_
          refine ⟨ix_nn h51, .inl rfl, _, ix_map cStanding h51, ?_⟩
          refine obind hF fun x52 h53 hF => ?_
          refine ⟨ix_nn h53, .inl rfl, _, ix_map cShot h53, ?_⟩
          refine obind hF fun y54 h55 hF => ?_
          refine Or.inl ⟨_, rpath_h h55, rfl, ?_⟩
          refine Or.inl ?_
          refine gpos hF fun h56 hF => ?_
          refine Or.inl ⟨len_all rfl, app_le h56, (out1 ++ ([(⟨(IntKind.i64.wrap (((out1.map cVersion).length : Int) + 1)), x46.Day, x50, y54⟩ : Version)] : List Version)).map cVersion, map_app _ _ _, ?_⟩
          refine And.intro (by kernel_rfl) ?_
          exact ⟨(fu1, (out1 ++ ([(⟨(IntKind.i64.wrap (((out1.map cVersion).length : Int) + 1)), x46.Day, x50, y54⟩ : Version)] : List Version)), (IntKind.i64.wrap (i2 + 1))), Nat.lt_succ_self _, hF, ⟨rfl, rfl, rfl, rfl, trivial⟩, ⟨rfl, trivial⟩⟩
    · have hF := cneg h3 hF
      exact Or.inl ⟨rfl, congrArg (Option.map rversions_E) hF⟩
abbrev rversions_S (h_ : List Shot) (unit : Int) : Option (List Version) := rversions_F 2000 h_ unit
theorem rversions_h {h_ : List Shot} {unit : Int} {r : List Version} (h : rversions_S h_ unit = some r) : Holds Tryz.prog Gw 23 [.sl 2 (h_.map cShot), I unit] (rversions_E r) := rversions_Fh  h
abbrev rVersions_E (y : List Version × Int) : CV := .tup [.sl 8 (y.1.map cVersion), I y.2]
def rVersions_F (h_ : List Shot) (unit : Int) : Option (List Version × Int) := Option.bind (qCheck_S h_) fun y1 => bif (y1 != 0) then some (([] : List Version), 1) else (Option.bind (rversions_S h_ unit) fun y4 => bif (((y4.map cVersion).length : Int) == 0) then some (([] : List Version), 7) else some (y4, 0))
set_option linter.unusedVariables false in
theorem rVersions_Fh {h_ : List Shot} {unit : Int} {r : List Version × Int} (hF : rVersions_F h_ unit = some r) : Holds Tryz.prog Gw 9 [.sl 2 (h_.map cShot), I unit] (rVersions_E r) := by
  refine holds_of_wq tabOk mixed Tryz.func9 (by decide) rfl (Nat.le_of_ble_eq_true rfl) ?_
  refine Or.inl ?_
  refine obind hF fun y1 h2 hF => ?_
  refine Or.inl ⟨_, qCheck_h h2, rfl, ?_⟩
  refine And.intro (fun h3 => ?_) (fun h3 => ?_)
  · have hF := cpos h3 hF
    refine Or.inl ?_
    exact Or.inl ⟨rfl, congrArg (Option.map rVersions_E) hF⟩
  · have hF := cneg h3 hF
    refine obind hF fun y4 h5 hF => ?_
    refine Or.inl ⟨_, rversions_h h5, rfl, ?_⟩
    refine And.intro (fun h6 => ?_) (fun h6 => ?_)
    · have hF := cpos h6 hF
      refine Or.inl ?_
      exact Or.inl ⟨rfl, congrArg (Option.map rVersions_E) hF⟩
    · have hF := cneg h6 hF
      exact Or.inl ⟨rfl, congrArg (Option.map rVersions_E) hF⟩
abbrev rVersions_S (h_ : List Shot) (unit : Int) : Option (List Version × Int) := rVersions_F h_ unit
theorem rVersions_h {h_ : List Shot} {unit : Int} {r : List Version × Int} (h : rVersions_S h_ unit = some r) : Holds Tryz.prog Gw 9 [.sl 2 (h_.map cShot), I unit] (rVersions_E r) := rVersions_Fh  h
abbrev rCite_E (y : Str × Int) : CV := .tup [S y.1, I y.2]
def rCite_L1 (unit : Int) (day : Int) (y7 : List Version) : Nat → Int → Int → Option (Str × Int)
  | 0, _, _ => none
  | fu1 + 1, n9, i10 => bif decide (i10 < ((y7.map cVersion).length : Int)) then (Option.bind (ix y7 i10) fun x12 => bif decide (x12.Day ≤ day) then (Option.bind (ix y7 i10) fun x15 => rCite_L1 unit day y7 fu1 x15.Number (IntKind.i64.wrap (i10 + 1))) else rCite_L1 unit day y7 fu1 n9 (IntKind.i64.wrap (i10 + 1))) else (Option.bind (rFormat_S unit n9) fun y17 => some (y17.1, y17.2))
def rCite_F (N : Nat) (h_ : List Shot) (unit : Int) (day : Int) : Option (Str × Int) := Option.bind (qCheck_S h_) fun y1 => bif (y1 != 0) then some (([] : Str), 1) else (Option.bind (qStanding_S h_ unit day) fun y4 => bif (!y4.2) then some (([] : Str), 7) else (Option.bind (rversions_S h_ unit) fun y7 => rCite_L1 unit day y7 N 0 0))
set_option linter.unusedVariables false in
theorem rCite_Fh {N : Nat} {h_ : List Shot} {unit : Int} {day : Int} {r : Str × Int} (hF : rCite_F N h_ unit day = some r) : Holds Tryz.prog Gw 12 [.sl 2 (h_.map cShot), I unit, I day] (rCite_E r) := by
  refine holds_of_wq tabOk mixed Tryz.func12 (by decide) rfl (Nat.le_of_ble_eq_true rfl) ?_
  refine obind hF fun y1 h2 hF => ?_
  refine Or.inl ⟨_, qCheck_h h2, rfl, ?_⟩
  refine And.intro (fun h3 => ?_) (fun h3 => ?_)
  · have hF := cpos h3 hF
    exact Or.inl ⟨rfl, congrArg (Option.map rCite_E) hF⟩
  · have hF := cneg h3 hF
    refine obind hF fun y4 h5 hF => ?_
    refine Or.inl ⟨_, qStanding_h h5, rfl, ?_⟩
    refine Or.inl ?_
    refine And.intro (fun h6 => ?_) (fun h6 => ?_)
    · have hF := cpos h6 hF
      exact Or.inl ⟨rfl, congrArg (Option.map rCite_E) hF⟩
    · have hF := cneg h6 hF
      refine obind hF fun y7 h8 hF => ?_
      refine Or.inl ⟨_, rversions_h h8, rfl, ?_⟩
      refine loop_oq (fun p : Nat × Int × Int => [(1, .c (I unit)), (2, .c (I day)), (10, .c (.sl 8 (y7.map cVersion))), (11, .c (I p.2.1)), (12, .c (I p.2.2))]) (fun _ => []) (fun p => rCite_L1 unit day y7 p.1 p.2.1 p.2.2 = some r) (fun p => p.1) (N, 0, 0) hF ⟨rfl, rfl, rfl, rfl, rfl, trivial⟩ trivial ?_
      rintro ⟨fu1, n9, i10⟩ hF
      cases fu1 with
      | zero => exact nomatch hF
      | succ fu1 =>
        refine And.intro (fun h11 => ?_) (fun h11 => ?_)
        · have hF := cpos h11 hF
          refine join_no ?_
          refine obind hF fun x12 h13 hF => ?_
          refine ⟨ix_nn h13, .inl rfl, _, ix_map cVersion h13, ?_⟩
          refine And.intro (fun h14 => ?_) (fun h14 => ?_)
          · have hF := cpos h14 hF
            refine obind hF fun x15 h16 hF => ?_
            refine ⟨ix_nn h16, .inl rfl, _, ix_map cVersion h16, ?_⟩
            exact ⟨(fu1, x15.Number, (IntKind.i64.wrap (i10 + 1))), Nat.lt_succ_self _, hF, ⟨rfl, rfl, rfl, rfl, rfl, trivial⟩, trivial⟩
          · have hF := cneg h14 hF
            exact ⟨(fu1, n9, (IntKind.i64.wrap (i10 + 1))), Nat.lt_succ_self _, hF, ⟨rfl, rfl, rfl, rfl, rfl, trivial⟩, trivial⟩
        · have hF := cneg h11 hF
          refine obind hF fun y17 h18 hF => ?_
          refine Or.inl ⟨_, rFormat_h h18, rfl, ?_⟩
          exact Or.inl ⟨rfl, congrArg (Option.map rCite_E) hF⟩
abbrev rCite_S (h_ : List Shot) (unit : Int) (day : Int) : Option (Str × Int) := rCite_F 2000 h_ unit day
theorem rCite_h {h_ : List Shot} {unit : Int} {day : Int} {r : Str × Int} (h : rCite_S h_ unit day = some r) : Holds Tryz.prog Gw 12 [.sl 2 (h_.map cShot), I unit, I day] (rCite_E r) := rCite_Fh  h
abbrev rResolve_E (y : Version × Int) : CV := .tup [.agg (cVersion y.1), I y.2]
def rResolve_F (h_ : List Shot) (code : Str) : Option (Version × Int) := Option.bind (qCheck_S h_) fun y1 => bif (y1 != 0) then some ((⟨0, 0, (⟨0, 0, 0, ([] : Str), ([] : Str)⟩ : Standing), ([] : List Int)⟩ : Version), 1) else (Option.bind (rParse_S code) fun y4 => bif (y4.2.2 != 0) then some ((⟨0, 0, (⟨0, 0, 0, ([] : Str), ([] : Str)⟩ : Standing), ([] : List Int)⟩ : Version), y4.2.2) else (Option.bind (rversions_S h_ y4.1) fun y7 => bif decide (y4.2.1 > ((y7.map cVersion).length : Int)) then some ((⟨0, 0, (⟨0, 0, 0, ([] : Str), ([] : Str)⟩ : Standing), ([] : List Int)⟩ : Version), 7) else (Option.bind (ix y7 (IntKind.i64.wrap (y4.2.1 - 1))) fun x10 => some (x10, 0))))
set_option linter.unusedVariables false in
theorem rResolve_Fh {h_ : List Shot} {code : Str} {r : Version × Int} (hF : rResolve_F h_ code = some r) : Holds Tryz.prog Gw 14 [.sl 2 (h_.map cShot), S code] (rResolve_E r) := by
  refine holds_of_wq tabOk mixed Tryz.func14 (by decide) rfl (Nat.le_of_ble_eq_true rfl) ?_
  refine Or.inl ?_
  refine obind hF fun y1 h2 hF => ?_
  refine Or.inl ⟨_, qCheck_h h2, rfl, ?_⟩
  refine And.intro (fun h3 => ?_) (fun h3 => ?_)
  · have hF := cpos h3 hF
    exact Or.inl ⟨rfl, congrArg (Option.map rResolve_E) hF⟩
  · have hF := cneg h3 hF
    refine obind hF fun y4 h5 hF => ?_
    refine Or.inl ⟨_, rParse_h h5, rfl, ?_⟩
    refine And.intro (fun h6 => ?_) (fun h6 => ?_)
    · have hF := cpos h6 hF
      exact Or.inl ⟨rfl, congrArg (Option.map rResolve_E) hF⟩
    · have hF := cneg h6 hF
      refine obind hF fun y7 h8 hF => ?_
      refine Or.inl ⟨_, rversions_h h8, rfl, ?_⟩
      refine And.intro (fun h9 => ?_) (fun h9 => ?_)
      · have hF := cpos h9 hF
        exact Or.inl ⟨rfl, congrArg (Option.map rResolve_E) hF⟩
      · have hF := cneg h9 hF
        refine obind hF fun x10 h11 hF => ?_
        refine ⟨ix_nn h11, .inl rfl, _, ix_map cVersion h11, ?_⟩
        exact Or.inl ⟨rfl, congrArg (Option.map rResolve_E) hF⟩
abbrev rResolve_S (h_ : List Shot) (code : Str) : Option (Version × Int) := rResolve_F h_ code
theorem rResolve_h {h_ : List Shot} {code : Str} {r : Version × Int} (h : rResolve_S h_ code = some r) : Holds Tryz.prog Gw 14 [.sl 2 (h_.map cShot), S code] (rResolve_E r) := rResolve_Fh  h
abbrev rLatest_E (y : Version × Bool × Int) : CV := .tup [.agg (cVersion y.1), B y.2.1, I y.2.2]
def rLatest_F (h_ : List Shot) (code : Str) : Option (Version × Bool × Int) := Option.bind (rResolve_S h_ code) fun y1 => bif (y1.2 != 0) then some ((⟨0, 0, (⟨0, 0, 0, ([] : Str), ([] : Str)⟩ : Standing), ([] : List Int)⟩ : Version), false, y1.2) else (Option.bind (rversions_S h_ y1.1.Unit.Unit) fun y4 => Option.bind (ix y4 (IntKind.i64.wrap (((y4.map cVersion).length : Int) - 1))) fun x6 => Option.bind (ix h_ (IntKind.i64.wrap (((h_.map cShot).length : Int) - 1))) fun x8 => Option.bind (qFind_S x8 y1.1.Unit.Unit) fun y10 => some (x6, decide (y10 ≥ 0), 0))
set_option linter.unusedVariables false in
theorem rLatest_Fh {h_ : List Shot} {code : Str} {r : Version × Bool × Int} (hF : rLatest_F h_ code = some r) : Holds Tryz.prog Gw 16 [.sl 2 (h_.map cShot), S code] (rLatest_E r) := by
  refine holds_of_wq tabOk mixed Tryz.func16 (by decide) rfl (Nat.le_of_ble_eq_true rfl) ?_
  refine Or.inl ?_
  refine obind hF fun y1 h2 hF => ?_
  refine Or.inl ⟨_, rResolve_h h2, rfl, ?_⟩
  refine Or.inl ?_
  refine And.intro (fun h3 => ?_) (fun h3 => ?_)
  · have hF := cpos h3 hF
    exact Or.inl ⟨rfl, congrArg (Option.map rLatest_E) hF⟩
  · have hF := cneg h3 hF
    refine obind hF fun y4 h5 hF => ?_
    refine Or.inl ⟨_, rversions_h h5, rfl, ?_⟩
    refine obind hF fun x6 h7 hF => ?_
    refine ⟨ix_nn h7, .inl rfl, _, ix_map cVersion h7, ?_⟩
    refine obind hF fun x8 h9 hF => ?_
    refine ⟨ix_nn h9, .inl rfl, _, ix_map cShot h9, ?_⟩
    refine obind hF fun y10 h11 hF => ?_
    refine Or.inl ⟨_, qFind_h h11, rfl, ?_⟩
    refine And.intro (by kernel_rfl) ?_
    exact Or.inl ⟨rfl, congrArg (Option.map rLatest_E) hF⟩
abbrev rLatest_S (h_ : List Shot) (code : Str) : Option (Version × Bool × Int) := rLatest_F h_ code
theorem rLatest_h {h_ : List Shot} {code : Str} {r : Version × Bool × Int} (h : rLatest_S h_ code = some r) : Holds Tryz.prog Gw 16 [.sl 2 (h_.map cShot), S code] (rLatest_E r) := rLatest_Fh  h
abbrev rSameAll_E (y : Bool) : CV := B y
def rSameAll_L1 (a : List Version) (b : List Version) : Nat → Int → Option (Bool)
  | 0, _ => none
  | fu1 + 1, i2 => bif decide (i2 < ((a.map cVersion).length : Int)) then (Option.bind (ix a i2) fun x4 => Option.bind (ix b i2) fun x6 => Option.bind (rSame_S x4 x6) fun y8 => bif (!y8) then some (false) else rSameAll_L1 a b fu1 (IntKind.i64.wrap (i2 + 1))) else some (true)
def rSameAll_F (N : Nat) (a : List Version) (b : List Version) : Option (Bool) := bif (((a.map cVersion).length : Int) != ((b.map cVersion).length : Int)) then some (false) else rSameAll_L1 a b N 0
set_option linter.unusedVariables false in
theorem rSameAll_Fh {N : Nat} {a : List Version} {b : List Version} {r : Bool} (hF : rSameAll_F N a b = some r) : Holds Tryz.prog Gw 10 [.sl 8 (a.map cVersion), .sl 8 (b.map cVersion)] (rSameAll_E r) := by
  refine holds_of_wq tabOk mixed Tryz.func10 (by decide) rfl (Nat.le_of_ble_eq_true rfl) ?_
  refine And.intro (fun h1 => ?_) (fun h1 => ?_)
  · have hF := cpos h1 hF
    exact Or.inl ⟨rfl, congrArg (Option.map rSameAll_E) hF⟩
  · have hF := cneg h1 hF
    refine loop_oq (fun p : Nat × Int => [(0, .c (.sl 8 (a.map cVersion))), (1, .c (.sl 8 (b.map cVersion))), (5, .c (I p.2))]) (fun _ => []) (fun p => rSameAll_L1 a b p.1 p.2 = some r) (fun p => p.1) (N, 0) hF ⟨rfl, rfl, rfl, trivial⟩ trivial ?_
    rintro ⟨fu1, i2⟩ hF
    cases fu1 with
    | zero => exact nomatch hF
    | succ fu1 =>
      refine And.intro (fun h3 => ?_) (fun h3 => ?_)
      · have hF := cpos h3 hF
        refine join_no ?_
        refine obind hF fun x4 h5 hF => ?_
        refine ⟨ix_nn h5, .inl rfl, _, ix_map cVersion h5, ?_⟩
        refine obind hF fun x6 h7 hF => ?_
        refine ⟨ix_nn h7, .inl rfl, _, ix_map cVersion h7, ?_⟩
        refine obind hF fun y8 h9 hF => ?_
        refine Or.inl ⟨_, rSame_h h9, rfl, ?_⟩
        refine And.intro (by kernel_rfl) ?_
        refine And.intro (fun h10 => ?_) (fun h10 => ?_)
        · have hF := cpos h10 hF
          exact Or.inl ⟨rfl, congrArg (Option.map rSameAll_E) hF⟩
        · have hF := cneg h10 hF
          exact ⟨(fu1, (IntKind.i64.wrap (i2 + 1))), Nat.lt_succ_self _, hF, ⟨rfl, rfl, rfl, trivial⟩, trivial⟩
      · have hF := cneg h3 hF
        exact Or.inl ⟨rfl, congrArg (Option.map rSameAll_E) hF⟩
abbrev rSameAll_S (a : List Version) (b : List Version) : Option (Bool) := rSameAll_F 2000 a b
theorem rSameAll_h {a : List Version} {b : List Version} {r : Bool} (h : rSameAll_S a b = some r) : Holds Tryz.prog Gw 10 [.sl 8 (a.map cVersion), .sl 8 (b.map cVersion)] (rSameAll_E r) := rSameAll_Fh  h
end Go.Proofs.YtmdhahfminiilaaGreatDoor
