/- Functions of the program as functions of Lean, each with its contract (printed by a program). -/
import Derived.Test.YtdoldlbcjcfmdaaGreatGI
namespace Go.Proofs.YtdoldlbcjcfmdaaGreat
open Go Go.Abs
set_option maxRecDepth 10000
set_option maxHeartbeats 400000
abbrev qboth_E (y : Int) : CV := I y
def qboth_F (l : List Aut) (a : Int) (b : Int) : Option (Int) := Option.bind (qknown_S l a) fun y1 => bif (y1 != 0) then some (y1) else (Option.bind (qknown_S l b) fun y4 => some (y4))
set_option linter.unusedVariables false in
theorem qboth_Fh {l : List Aut} {a : Int} {b : Int} {r : Int} (hF : qboth_F l a b = some r) : Holds Tryz.prog Gw 43 [.sl 6 (l.map cAut), I a, I b] (qboth_E r) := by
  refine holds_of_wq tabOk mixed Tryz.func43 (by decide) rfl (Nat.le_of_ble_eq_true rfl) ?_
  refine obind hF fun y1 h2 hF => ?_
  refine Or.inl ⟨_, qknown_h h2, rfl, ?_⟩
  refine And.intro (fun h3 => ?_) (fun h3 => ?_)
  · have hF := cpos h3 hF
    exact Or.inl ⟨rfl, congrArg (Option.map qboth_E) hF⟩
  · have hF := cneg h3 hF
    refine obind hF fun y4 h5 hF => ?_
    refine Or.inl ⟨_, qknown_h h5, rfl, ?_⟩
    exact Or.inl ⟨rfl, congrArg (Option.map qboth_E) hF⟩
abbrev qboth_S (l : List Aut) (a : Int) (b : Int) : Option (Int) := qboth_F l a b
theorem qboth_h {l : List Aut} {a : Int} {b : Int} {r : Int} (h : qboth_S l a b = some r) : Holds Tryz.prog Gw 43 [.sl 6 (l.map cAut), I a, I b] (qboth_E r) := qboth_Fh  h
abbrev qway_E (y : List Int) : CV := cNil y
def qway_L1 (l : List Aut) (from_ : Int) (to : Int) (y2 : Aut × Bool) (self_ : List Aut → Int → Int → Option (List Int)) : Nat → List Int → Int → Option (List Int)
  | 0, _, _ => none
  | fu1 + 1, best4, i5 => bif best4.isEmpty then (bif decide (i5 < ((y2.1.Next.map cInt).length : Int)) then (Option.bind (ix y2.1.Next i5) fun x7 => Option.bind (self_ l x7 to) fun y9 => bif y9.isEmpty then qway_L1 l from_ to y2 self_ fu1 ([] : List Int) (IntKind.i64.wrap (i5 + 1)) else (bif decide (((y9.map cInt).length : Int) > 0) then qway_L1 l from_ to y2 self_ fu1 y9 (IntKind.i64.wrap (i5 + 1)) else qway_L1 l from_ to y2 self_ fu1 ([] : List Int) (IntKind.i64.wrap (i5 + 1)))) else some (([] : List Int))) else (bif decide (i5 < ((y2.1.Next.map cInt).length : Int)) then (Option.bind (ix y2.1.Next i5) fun x15 => Option.bind (self_ l x15 to) fun y17 => bif y17.isEmpty then qway_L1 l from_ to y2 self_ fu1 best4 (IntKind.i64.wrap (i5 + 1)) else (bif decide (((y17.map cInt).length : Int) > 0) then (bif decide (((y17.map cInt).length : Int) < ((best4.map cInt).length : Int)) then qway_L1 l from_ to y2 self_ fu1 y17 (IntKind.i64.wrap (i5 + 1)) else qway_L1 l from_ to y2 self_ fu1 best4 (IntKind.i64.wrap (i5 + 1))) else qway_L1 l from_ to y2 self_ fu1 best4 (IntKind.i64.wrap (i5 + 1)))) else (bif best4.isEmpty then oboth (some (([] : List Int))) (bif decide (([from_] : List Int).length + best4.length ≤ 4294967296) then some ((([from_] : List Int) ++ best4)) else none) else (bif decide (([from_] : List Int).length + best4.length ≤ 4294967296) then some ((([from_] : List Int) ++ best4)) else none)))
def qway_F : Nat → List Aut → Int → Int → Option (List Int)
  | 0, _, _, _ => none
  | N + 1, l, from_, to => bif (from_ == to) then some (([from_] : List Int)) else (Option.bind (rFind_S l from_) fun y2 => qway_L1 l from_ to y2 (qway_F N) N ([] : List Int) 0)
set_option linter.unusedVariables false in
theorem qway_Fh : ∀ (N : Nat) (l : List Aut) (from_ : Int) (to : Int) (r : List Int), qway_F N l from_ to = some r → Holds Tryz.prog Gw 44 [.sl 6 (l.map cAut), I from_, I to] (qway_E r) := by
  intro N
  induction N with
  | zero => intro l from_ to r hF; exact nomatch hF
  | succ N ih =>
    intro l from_ to r hF
    refine holds_of_wq tabOk mixed Tryz.func44 (by decide) rfl (Nat.le_of_ble_eq_true rfl) ?_
    refine Or.inr ⟨[], 0, _, _, _, _, rfl, rfl, eff_nilV, rfl, ?_⟩
    refine And.intro (fun h1 => ?_) (fun h1 => ?_)
    · have hF := cpos h1 hF
      refine Or.inl ?_
      exact Or.inl ⟨cNil_pure _, congrArg (Option.map qway_E) hF⟩
    · have hF := cneg h1 hF
      refine obind hF fun y2 h3 hF => ?_
      refine Or.inl ⟨_, rFind_h h3, rfl, ?_⟩
      refine Or.inl ?_
      refine Or.inr ⟨[], 0, _, _, _, _, rfl, rfl, eff_nilV, rfl, ?_⟩
      refine loop_oq (fun p : Nat × List Int × Int => [(0, .c (.sl 6 (l.map cAut))), (1, .c (I from_)), (2, .c (I to)), (7, .pm 7 0 0), (9, .c (cNil p.2.1)), (10, .c (I p.2.2))]) (fun p : Nat × List Int × Int => [(7, .var [I y2.1.ID, I y2.1.Kind, I y2.1.In.From, I y2.1.In.Until, .sl 3 (y2.1.Names.map cNam), .sl 1 (y2.1.Next.map cInt)])]) (fun p => qway_L1 l from_ to y2 (qway_F N) p.1 p.2.1 p.2.2 = some r) (fun p => p.1) (N, ([] : List Int), 0) hF ⟨rfl, rfl, rfl, rfl, rfl, rfl, trivial⟩ ⟨rfl, trivial⟩ ?_
      rintro ⟨fu1, best4, i5⟩ hF
      cases fu1 with
      | zero => exact nomatch hF
      | succ fu1 =>
        rcases best4 with _ | ⟨b0, bs⟩
        · have hF := cpos rfl hF
          refine And.intro (fun h6 => ?_) (fun h6 => ?_)
          · have hF := cpos h6 hF
            refine join_no ?_
            refine obind hF fun x7 h8 hF => ?_
            refine ⟨ix_nn h8, .inl rfl, _, ix_map cInt h8, ?_⟩
            refine obind hF fun y9 h10 hF => ?_
            refine Or.inl (nilcall (ih _ _ _ _ h10) (cNil_pure _) (fun e11 => ?_) (fun e11 => ?_))
            · have hF := cpos e11 hF
              refine Or.inr ⟨[], 0, _, _, _, _, rfl, rfl, eff_lenNil tok25.u, rfl, ?_⟩
              refine And.intro (fun h12 => ?_) (fun h12 => ?_)
              · exact absurd h12 (by simp)
              · skip
                exact ⟨(fu1, ([] : List Int), (IntKind.i64.wrap (i5 + 1))), Nat.lt_succ_self _, hF, ⟨rfl, rfl, rfl, rfl, rfl, rfl, trivial⟩, ⟨rfl, trivial⟩⟩
            · have hF := cneg e11 hF
              refine And.intro (fun h13 => ?_) (fun h13 => ?_)
              · have hF := cpos h13 hF
                refine Or.inr ⟨[], 0, _, _, _, _, rfl, rfl, eff_nilEqT tok25.u, rfl, ?_⟩
                exact ⟨(fu1, y9, (IntKind.i64.wrap (i5 + 1))), Nat.lt_succ_self _, hF, ⟨rfl, rfl, rfl, rfl, cNil_ne e11, rfl, trivial⟩, ⟨rfl, trivial⟩⟩
              · have hF := cneg h13 hF
                exact ⟨(fu1, ([] : List Int), (IntKind.i64.wrap (i5 + 1))), Nat.lt_succ_self _, hF, ⟨rfl, rfl, rfl, rfl, rfl, rfl, trivial⟩, ⟨rfl, trivial⟩⟩
          · have hF := cneg h6 hF
            refine ⟨rfl, trivial, ?_⟩
            refine Or.inr ⟨[], 0, _, _, _, _, rfl, rfl, eff_nilV, rfl, ?_⟩
            exact Or.inl ⟨cNil_pure _, congrArg (Option.map qway_E) hF⟩
        · have hF := cneg rfl hF
          refine And.intro (fun h14 => ?_) (fun h14 => ?_)
          · have hF := cpos h14 hF
            refine join_no ?_
            refine obind hF fun x15 h16 hF => ?_
            refine ⟨ix_nn h16, .inl rfl, _, ix_map cInt h16, ?_⟩
            refine obind hF fun y17 h18 hF => ?_
            refine Or.inl (nilcall (ih _ _ _ _ h18) (cNil_pure _) (fun e19 => ?_) (fun e19 => ?_))
            · have hF := cpos e19 hF
              refine Or.inr ⟨[], 0, _, _, _, _, rfl, rfl, eff_lenNil tok25.u, rfl, ?_⟩
              refine And.intro (fun h20 => ?_) (fun h20 => ?_)
              · exact absurd h20 (by simp)
              · skip
                exact ⟨(fu1, (b0 :: bs), (IntKind.i64.wrap (i5 + 1))), Nat.lt_succ_self _, hF, ⟨rfl, rfl, rfl, rfl, cNil_ne rfl, rfl, trivial⟩, ⟨rfl, trivial⟩⟩
            · have hF := cneg e19 hF
              refine And.intro (fun h21 => ?_) (fun h21 => ?_)
              · have hF := cpos h21 hF
                refine Or.inr ⟨[], 0, _, _, _, _, rfl, rfl, eff_nilEqF tok25.u (cf := cInt) rfl, rfl, ?_⟩
                refine And.intro (fun h22 => ?_) (fun h22 => ?_)
                · have hF := cpos h22 hF
                  exact ⟨(fu1, y17, (IntKind.i64.wrap (i5 + 1))), Nat.lt_succ_self _, hF, ⟨rfl, rfl, rfl, rfl, cNil_ne e19, rfl, trivial⟩, ⟨rfl, trivial⟩⟩
                · have hF := cneg h22 hF
                  exact ⟨(fu1, (b0 :: bs), (IntKind.i64.wrap (i5 + 1))), Nat.lt_succ_self _, hF, ⟨rfl, rfl, rfl, rfl, cNil_ne rfl, rfl, trivial⟩, ⟨rfl, trivial⟩⟩
              · have hF := cneg h21 hF
                exact ⟨(fu1, (b0 :: bs), (IntKind.i64.wrap (i5 + 1))), Nat.lt_succ_self _, hF, ⟨rfl, rfl, rfl, rfl, cNil_ne rfl, rfl, trivial⟩, ⟨rfl, trivial⟩⟩
          · have hF := cneg h14 hF
            refine nilc (cf := cInt) hF ?_ ?_
            · intro hF
              refine Or.inr ⟨[], 0, _, _, _, _, rfl, rfl, eff_nilV, rfl, ?_⟩
              exact Or.inl ⟨cNil_pure _, congrArg (Option.map qway_E) hF⟩
            · intro hF
              refine Or.inl ?_
              refine gpos hF fun h23 hF => ?_
              refine Or.inl ⟨len_map (fun _ => rfl), app_le (f := cInt) h23, (([from_] : List Int) ++ (b0 :: bs)).map cInt, map_app _ _ _, ?_⟩
              exact Or.inl ⟨cNil_pure _, congrArg (Option.map qway_E) hF⟩
abbrev qway_S (l : List Aut) (from_ : Int) (to : Int) : Option (List Int) := qway_F 1000 l from_ to
theorem qway_h {l : List Aut} {from_ : Int} {to : Int} {r : List Int} (h : qway_S l from_ to = some r) : Holds Tryz.prog Gw 44 [.sl 6 (l.map cAut), I from_, I to] (qway_E r) := qway_Fh _ _ _ _ _ h
abbrev qWay_E (y : List Int × Int) : CV := .tup [.sl 1 (y.1.map cInt), I y.2]
def qWay_F (l : List Aut) (from_ : Int) (to : Int) : Option (List Int × Int) := Option.bind (qboth_S l from_ to) fun y1 => bif (y1 != 0) then some (([] : List Int), y1) else (Option.bind (qway_S l from_ to) fun y4 => bif y4.isEmpty then some (([] : List Int), 10) else (bif (((y4.map cInt).length : Int) == 0) then some (([] : List Int), 10) else some (y4, 0)))
set_option linter.unusedVariables false in
theorem qWay_Fh {l : List Aut} {from_ : Int} {to : Int} {r : List Int × Int} (hF : qWay_F l from_ to = some r) : Holds Tryz.prog Gw 17 [.sl 6 (l.map cAut), I from_, I to] (qWay_E r) := by
  refine holds_of_wq tabOk mixed Tryz.func17 (by decide) rfl (Nat.le_of_ble_eq_true rfl) ?_
  refine Or.inl ?_
  refine obind hF fun y1 h2 hF => ?_
  refine Or.inl ⟨_, qboth_h h2, rfl, ?_⟩
  refine And.intro (fun h3 => ?_) (fun h3 => ?_)
  · have hF := cpos h3 hF
    refine Or.inl ?_
    exact Or.inl ⟨rfl, congrArg (Option.map qWay_E) hF⟩
  · have hF := cneg h3 hF
    refine obind hF fun y4 h5 hF => ?_
    refine Or.inl (nilcall (qway_h h5) (cNil_pure _) (fun e6 => ?_) (fun e6 => ?_))
    · have hF := cpos e6 hF
      refine Or.inr ⟨[], 0, _, _, _, _, rfl, rfl, eff_lenNil tok25.u, rfl, ?_⟩
      refine And.intro (fun h7 => ?_) (fun h7 => ?_)
      · skip
        refine Or.inl ?_
        exact Or.inl ⟨rfl, congrArg (Option.map qWay_E) hF⟩
      · exact absurd h7 (by simp)
    · have hF := cneg e6 hF
      refine And.intro (fun h8 => ?_) (fun h8 => ?_)
      · have hF := cpos h8 hF
        refine Or.inl ?_
        exact Or.inl ⟨rfl, congrArg (Option.map qWay_E) hF⟩
      · have hF := cneg h8 hF
        exact Or.inl ⟨rfl, congrArg (Option.map qWay_E) hF⟩
abbrev qWay_S (l : List Aut) (from_ : Int) (to : Int) : Option (List Int × Int) := qWay_F l from_ to
theorem qWay_h {l : List Aut} {from_ : Int} {to : Int} {r : List Int × Int} (h : qWay_S l from_ to = some r) : Holds Tryz.prog Gw 17 [.sl 6 (l.map cAut), I from_, I to] (qWay_E r) := qWay_Fh  h
abbrev qshare_E (y : Int) : CV := I y
def qshare_L1 (l : List Aut) (to : Int) (y2 : Aut × Bool) (self_ : List Aut → Int → Int → Option (Int)) : Nat → Int → Int → Option (Int)
  | 0, _, _ => none
  | fu1 + 1, n4, i5 => bif decide (i5 < ((y2.1.Next.map cInt).length : Int)) then (Option.bind (ix y2.1.Next i5) fun x7 => Option.bind (self_ l x7 to) fun y9 => qshare_L1 l to y2 self_ fu1 (IntKind.i64.wrap (n4 + y9)) (IntKind.i64.wrap (i5 + 1))) else some ((if 1099511627776 < n4 then 1099511627776 else n4))
def qshare_F : Nat → List Aut → Int → Int → Option (Int)
  | 0, _, _, _ => none
  | N + 1, l, from_, to => bif (from_ == to) then some (1) else (Option.bind (rFind_S l from_) fun y2 => qshare_L1 l to y2 (qshare_F N) N 0 0)
set_option linter.unusedVariables false in
theorem qshare_Fh : ∀ (N : Nat) (l : List Aut) (from_ : Int) (to : Int) (r : Int), qshare_F N l from_ to = some r → Holds Tryz.prog Gw 46 [.sl 6 (l.map cAut), I from_, I to] (qshare_E r) := by
  intro N
  induction N with
  | zero => intro l from_ to r hF; exact nomatch hF
  | succ N ih =>
    intro l from_ to r hF
    refine holds_of_wq tabOk mixed Tryz.func46 (by decide) rfl (Nat.le_of_ble_eq_true rfl) ?_
    refine And.intro (fun h1 => ?_) (fun h1 => ?_)
    · have hF := cpos h1 hF
      exact Or.inl ⟨rfl, congrArg (Option.map qshare_E) hF⟩
    · have hF := cneg h1 hF
      refine obind hF fun y2 h3 hF => ?_
      refine Or.inl ⟨_, rFind_h h3, rfl, ?_⟩
      refine Or.inl ?_
      refine loop_oq (fun p : Nat × Int × Int => [(0, .c (.sl 6 (l.map cAut))), (2, .c (I to)), (7, .c (I p.2.1)), (8, .pm 8 0 0), (10, .c (I p.2.2))]) (fun p : Nat × Int × Int => [(8, .var [I y2.1.ID, I y2.1.Kind, I y2.1.In.From, I y2.1.In.Until, .sl 3 (y2.1.Names.map cNam), .sl 1 (y2.1.Next.map cInt)])]) (fun p => qshare_L1 l to y2 (qshare_F N) p.1 p.2.1 p.2.2 = some r) (fun p => p.1) (N, 0, 0) hF ⟨rfl, rfl, rfl, rfl, rfl, trivial⟩ ⟨rfl, trivial⟩ ?_
      rintro ⟨fu1, n4, i5⟩ hF
      cases fu1 with
      | zero => exact nomatch hF
      | succ fu1 =>
        refine And.intro (fun h6 => ?_) (fun h6 => ?_)
        · have hF := cpos h6 hF
          refine join_no ?_
          refine obind hF fun x7 h8 hF => ?_
          refine ⟨ix_nn h8, .inl rfl, _, ix_map cInt h8, ?_⟩
          refine obind hF fun y9 h10 hF => ?_
          refine Or.inl ⟨_, ih _ _ _ _ h10, rfl, ?_⟩
          exact ⟨(fu1, (IntKind.i64.wrap (n4 + y9)), (IntKind.i64.wrap (i5 + 1))), Nat.lt_succ_self _, hF, ⟨rfl, rfl, rfl, rfl, rfl, trivial⟩, ⟨rfl, trivial⟩⟩
        · have hF := cneg h6 hF
          exact Or.inl ⟨rfl, congrArg (Option.map qshare_E) hF⟩
abbrev qshare_S (l : List Aut) (from_ : Int) (to : Int) : Option (Int) := qshare_F 1000 l from_ to
theorem qshare_h {l : List Aut} {from_ : Int} {to : Int} {r : Int} (h : qshare_S l from_ to = some r) : Holds Tryz.prog Gw 46 [.sl 6 (l.map cAut), I from_, I to] (qshare_E r) := qshare_Fh _ _ _ _ _ h
abbrev qShare_E (y : Int × Int) : CV := .tup [I y.1, I y.2]
def qShare_F (l : List Aut) (from_ : Int) (to : Int) : Option (Int × Int) := Option.bind (qboth_S l from_ to) fun y1 => bif (y1 != 0) then some (0, y1) else (Option.bind (qshare_S l from_ to) fun y4 => some (y4, 0))
set_option linter.unusedVariables false in
theorem qShare_Fh {l : List Aut} {from_ : Int} {to : Int} {r : Int × Int} (hF : qShare_F l from_ to = some r) : Holds Tryz.prog Gw 19 [.sl 6 (l.map cAut), I from_, I to] (qShare_E r) := by
  refine holds_of_wq tabOk mixed Tryz.func19 (by decide) rfl (Nat.le_of_ble_eq_true rfl) ?_
  refine obind hF fun y1 h2 hF => ?_
  refine Or.inl ⟨_, qboth_h h2, rfl, ?_⟩
  refine And.intro (fun h3 => ?_) (fun h3 => ?_)
  · have hF := cpos h3 hF
    exact Or.inl ⟨rfl, congrArg (Option.map qShare_E) hF⟩
  · have hF := cneg h3 hF
    refine obind hF fun y4 h5 hF => ?_
    refine Or.inl ⟨_, qshare_h h5, rfl, ?_⟩
    exact Or.inl ⟨rfl, congrArg (Option.map qShare_E) hF⟩
abbrev qShare_S (l : List Aut) (from_ : Int) (to : Int) : Option (Int × Int) := qShare_F l from_ to
theorem qShare_h {l : List Aut} {from_ : Int} {to : Int} {r : Int × Int} (h : qShare_S l from_ to = some r) : Holds Tryz.prog Gw 19 [.sl 6 (l.map cAut), I from_, I to] (qShare_E r) := qShare_Fh  h
abbrev qMeet_E (y : List Int × Int) : CV := .tup [.sl 1 (y.1.map cInt), I y.2]
def qMeet_L2 (y4 : List Int) (y6 : List Int) (out8 : List Int) (i9 : Int) (y18 : List Int) (k_1 : List Int → Int → Option (List Int × Int)) : Nat → Bool → Int → Option (List Int × Int)
  | 0, _, _ => none
  | fu2 + 1, first20, k21 => bif decide (k21 < ((y18.map cInt).length : Int)) then (bif first20 then (Option.bind (ix y18 k21) fun x24 => Option.bind (qhas_S y4 x24) fun y26 => bif y26 then (Option.bind (ix y18 k21) fun x29 => Option.bind (qhas_S y6 x29) fun y31 => qMeet_L2 y4 y6 out8 i9 y18 k_1 fu2 (!y31) (IntKind.i64.wrap (k21 + 1))) else qMeet_L2 y4 y6 out8 i9 y18 k_1 fu2 true (IntKind.i64.wrap (k21 + 1))) else qMeet_L2 y4 y6 out8 i9 y18 k_1 fu2 false (IntKind.i64.wrap (k21 + 1))) else (bif first20 then (Option.bind (ix y4 i9) fun x34 => bif decide (out8.length + ([x34] : List Int).length ≤ 4294967296) then k_1 (out8 ++ ([x34] : List Int)) (IntKind.i64.wrap (i9 + 1)) else none) else k_1 out8 (IntKind.i64.wrap (i9 + 1)))
def qMeet_L1 (l : List Aut) (y4 : List Int) (y6 : List Int) (N : Nat) : Nat → List Int → Int → Option (List Int × Int)
  | 0, _, _ => none
  | fu1 + 1, out8, i9 => bif decide (i9 < ((y4.map cInt).length : Int)) then (Option.bind (ix y4 i9) fun x11 => Option.bind (qhas_S y6 x11) fun y13 => bif (!y13) then qMeet_L1 l y4 y6 N fu1 out8 (IntKind.i64.wrap (i9 + 1)) else (Option.bind (ix y4 i9) fun x16 => Option.bind (qbefore_S l x16) fun y18 => qMeet_L2 y4 y6 out8 i9 y18 (fun q_out8 q_i9 => qMeet_L1 l y4 y6 N fu1 q_out8 q_i9) N true 0)) else some (out8, 0)
def qMeet_F (N : Nat) (l : List Aut) (a : Int) (b : Int) : Option (List Int × Int) := Option.bind (qboth_S l a b) fun y1 => bif (y1 != 0) then some (([] : List Int), y1) else (Option.bind (qall_S l a false) fun y4 => Option.bind (qall_S l b false) fun y6 => qMeet_L1 l y4 y6 N N ([] : List Int) 0)
set_option linter.unusedVariables false in
theorem qMeet_Fh {N : Nat} {l : List Aut} {a : Int} {b : Int} {r : List Int × Int} (hF : qMeet_F N l a b = some r) : Holds Tryz.prog Gw 21 [.sl 6 (l.map cAut), I a, I b] (qMeet_E r) := by
  refine holds_of_wq tabOk mixed Tryz.func21 (by decide) rfl (Nat.le_of_ble_eq_true rfl) ?_
  refine Or.inl ?_
  refine obind hF fun y1 h2 hF => ?_
  refine Or.inl ⟨_, qboth_h h2, rfl, ?_⟩
  refine And.intro (fun h3 => ?_) (fun h3 => ?_)
  · have hF := cpos h3 hF
    refine Or.inl ?_
    exact Or.inl ⟨rfl, congrArg (Option.map qMeet_E) hF⟩
  · have hF := cneg h3 hF
    refine obind hF fun y4 h5 hF => ?_
    refine Or.inl ⟨_, qall_h h5, rfl, ?_⟩
    refine obind hF fun y6 h7 hF => ?_
    refine Or.inl ⟨_, qall_h h7, rfl, ?_⟩
    refine Or.inl ?_
    refine loop_oq (fun p : Nat × List Int × Int => [(0, .c (.sl 6 (l.map cAut))), (9, .c (.sl 1 (y4.map cInt))), (10, .c (.sl 1 (y6.map cInt))), (11, .ap 11 0 1 (p.2.1.map cInt)), (12, .c (I p.2.2))]) (fun p : Nat × List Int × Int => [(11, .tok 3 1)]) (fun p => qMeet_L1 l y4 y6 N p.1 p.2.1 p.2.2 = some r) (fun p => p.1) (N, ([] : List Int), 0) hF ⟨rfl, rfl, rfl, rfl, rfl, trivial⟩ ⟨rfl, trivial⟩ ?_
    rintro ⟨fu1, out8, i9⟩ hF
    cases fu1 with
    | zero => exact nomatch hF
    | succ fu1 =>
      refine And.intro (fun h10 => ?_) (fun h10 => ?_)
      · have hF := cpos h10 hF
        refine join_no ?_
        refine obind hF fun x11 h12 hF => ?_
        refine ⟨ix_nn h12, .inl rfl, _, ix_map cInt h12, ?_⟩
        refine obind hF fun y13 h14 hF => ?_
        refine Or.inl ⟨_, qhas_h h14, rfl, ?_⟩
        refine And.intro (fun h15 => ?_) (fun h15 => ?_)
        · have hF := cpos h15 hF
          exact ⟨(fu1, out8, (IntKind.i64.wrap (i9 + 1))), Nat.lt_succ_self _, hF, ⟨rfl, rfl, rfl, rfl, rfl, trivial⟩, ⟨rfl, trivial⟩⟩
        · have hF := cneg h15 hF
          refine obind hF fun x16 h17 hF => ?_
          refine ⟨ix_nn h17, .inl rfl, _, ix_map cInt h17, ?_⟩
          refine obind hF fun y18 h19 hF => ?_
          refine Or.inl ⟨_, qbefore_h h19, rfl, ?_⟩
          refine loop_oq (fun p : Nat × Bool × Int => [(0, .c (.sl 6 (l.map cAut))), (9, .c (.sl 1 (y4.map cInt))), (10, .c (.sl 1 (y6.map cInt))), (11, .ap 11 0 1 (out8.map cInt)), (12, .c (I i9)), (13, .c (B p.2.1)), (14, .c (.sl 1 (y18.map cInt))), (15, .c (I p.2.2))]) (fun p : Nat × Bool × Int => [(11, .tok 3 1)]) (fun p => qMeet_L2 y4 y6 out8 i9 y18 (fun q_out8 q_i9 => qMeet_L1 l y4 y6 N fu1 q_out8 q_i9) p.1 p.2.1 p.2.2 = some r) (fun p => p.1) (N, true, 0) hF ⟨rfl, rfl, rfl, rfl, rfl, rfl, rfl, rfl, trivial⟩ ⟨rfl, trivial⟩ ?_
          rintro ⟨fu2, first20, k21⟩ hF
          cases fu2 with
          | zero => exact nomatch hF
          | succ fu2 =>
            refine And.intro (fun h22 => ?_) (fun h22 => ?_)
            · have hF := cpos h22 hF
              refine join_no ?_
              refine And.intro (fun h23 => ?_) (fun h23 => ?_)
              · have hF := cpos h23 hF
                refine obind hF fun x24 h25 hF => ?_
                refine ⟨ix_nn h25, .inl rfl, _, ix_map cInt h25, ?_⟩
                refine obind hF fun y26 h27 hF => ?_
                refine Or.inl ⟨_, qhas_h h27, rfl, ?_⟩
                refine And.intro (fun h28 => ?_) (fun h28 => ?_)
                · have hF := cpos h28 hF
                  refine obind hF fun x29 h30 hF => ?_
                  refine ⟨ix_nn h30, .inl rfl, _, ix_map cInt h30, ?_⟩
                  refine obind hF fun y31 h32 hF => ?_
                  refine Or.inl ⟨_, qhas_h h32, rfl, ?_⟩
                  exact ⟨(fu2, (!y31), (IntKind.i64.wrap (k21 + 1))), Nat.lt_succ_self _, hF, ⟨rfl, rfl, rfl, rfl, rfl, rfl, rfl, rfl, trivial⟩, ⟨rfl, trivial⟩⟩
                · have hF := cneg h28 hF
                  exact ⟨(fu2, true, (IntKind.i64.wrap (k21 + 1))), Nat.lt_succ_self _, hF, ⟨rfl, rfl, rfl, rfl, rfl, rfl, rfl, rfl, trivial⟩, ⟨rfl, trivial⟩⟩
              · have hF := cneg h23 hF
                exact ⟨(fu2, false, (IntKind.i64.wrap (k21 + 1))), Nat.lt_succ_self _, hF, ⟨rfl, rfl, rfl, rfl, rfl, rfl, rfl, rfl, trivial⟩, ⟨rfl, trivial⟩⟩
            · have hF := cneg h22 hF
              refine And.intro (fun h33 => ?_) (fun h33 => ?_)
              · have hF := cpos h33 hF
                refine obind hF fun x34 h35 hF => ?_
                refine ⟨ix_nn h35, .inl rfl, _, ix_map cInt h35, ?_⟩
                refine Or.inl ?_
                refine gpos hF fun h36 hF => ?_
                refine Or.inl ⟨len_all rfl, app_le (f := cInt) h36, (out8 ++ ([x34] : List Int)).map cInt, map_app _ _ _, ?_⟩
                exact ⟨(fu1, (out8 ++ ([x34] : List Int)), (IntKind.i64.wrap (i9 + 1))), Nat.lt_succ_self _, hF, ⟨rfl, rfl, rfl, rfl, rfl, trivial⟩, ⟨rfl, trivial⟩⟩
              · have hF := cneg h33 hF
                exact ⟨(fu1, out8, (IntKind.i64.wrap (i9 + 1))), Nat.lt_succ_self _, hF, ⟨rfl, rfl, rfl, rfl, rfl, trivial⟩, ⟨rfl, trivial⟩⟩
      · have hF := cneg h10 hF
        exact Or.inl ⟨rfl, congrArg (Option.map qMeet_E) hF⟩
abbrev qMeet_S (l : List Aut) (a : Int) (b : Int) : Option (List Int × Int) := qMeet_F 1000 l a b
theorem qMeet_h {l : List Aut} {a : Int} {b : Int} {r : List Int × Int} (h : qMeet_S l a b = some r) : Holds Tryz.prog Gw 21 [.sl 6 (l.map cAut), I a, I b] (qMeet_E r) := qMeet_Fh  h
abbrev lSuccessionWays_E (y : Bool) : CV := B y
def lSuccessionWays_F (l : List Aut) (a : Int) (b : Int) : Option (Bool) := Option.bind (lawake_S) fun y1 => bif (!y1) then (Option.bind (lawake_S) fun y4 => some (y4)) else (Option.bind (rFew_S l) fun y6 => bif (!y6) then (Option.bind (lawake_S) fun y9 => some (y9)) else (Option.bind (rCopy_S l) fun y11 => Option.bind (sWay_S y11 a b) fun y13 => Option.bind (qWay_S l a b) fun y15 => Option.bind (rCopy_S l) fun y17 => Option.bind (sShare_S y17 a b) fun y19 => Option.bind (qShare_S l a b) fun y21 => Option.bind (rCopy_S l) fun y23 => Option.bind (sMeet_S y23 a b) fun y25 => Option.bind (qMeet_S l a b) fun y27 => Option.bind (slEqual_S y13.1 y15.1) fun y29 => bif y29 then (bif (y13.2 == y15.2) then (bif (y19.1 == y21.1) then (bif (y19.2 == y21.2) then (Option.bind (slEqual_S y25.1 y27.1) fun y35 => bif y35 then some ((y25.2 == y27.2)) else some (false)) else some (false)) else some (false)) else some (false)) else some (false)))
set_option linter.unusedVariables false in
theorem lSuccessionWays_Fh {l : List Aut} {a : Int} {b : Int} {r : Bool} (hF : lSuccessionWays_F l a b = some r) : Holds Tryz.prog Gw 4 [.sl 6 (l.map cAut), I a, I b] (lSuccessionWays_E r) := by
  refine holds_of_wq tabOk mixed Tryz.func4 (by decide) rfl (Nat.le_of_ble_eq_true rfl) ?_
  refine obind hF fun y1 h2 hF => ?_
  refine Or.inl ⟨_, lawake_h h2, rfl, ?_⟩
  refine And.intro (fun h3 => ?_) (fun h3 => ?_)
  · have hF := cpos h3 hF
    refine obind hF fun y4 h5 hF => ?_
    refine Or.inl ⟨_, lawake_h h5, rfl, ?_⟩
    exact Or.inl ⟨rfl, congrArg (Option.map lSuccessionWays_E) hF⟩
  · have hF := cneg h3 hF
    refine obind hF fun y6 h7 hF => ?_
    refine Or.inl ⟨_, rFew_h h7, rfl, ?_⟩
    refine And.intro (fun h8 => ?_) (fun h8 => ?_)
    · have hF := cpos h8 hF
      refine obind hF fun y9 h10 hF => ?_
      refine Or.inl ⟨_, lawake_h h10, rfl, ?_⟩
      exact Or.inl ⟨rfl, congrArg (Option.map lSuccessionWays_E) hF⟩
    · have hF := cneg h8 hF
      refine obind hF fun y11 h12 hF => ?_
      refine Or.inl ⟨_, rCopy_h h12, rfl, ?_⟩
      refine obind hF fun y13 h14 hF => ?_
      refine Or.inl ⟨_, sWay_h h14, rfl, ?_⟩
      refine obind hF fun y15 h16 hF => ?_
      refine Or.inl ⟨_, qWay_h h16, rfl, ?_⟩
      refine obind hF fun y17 h18 hF => ?_
      refine Or.inl ⟨_, rCopy_h h18, rfl, ?_⟩
      refine obind hF fun y19 h20 hF => ?_
      refine Or.inl ⟨_, sShare_h h20, rfl, ?_⟩
      refine obind hF fun y21 h22 hF => ?_
      refine Or.inl ⟨_, qShare_h h22, rfl, ?_⟩
      refine obind hF fun y23 h24 hF => ?_
      refine Or.inl ⟨_, rCopy_h h24, rfl, ?_⟩
      refine obind hF fun y25 h26 hF => ?_
      refine Or.inl ⟨_, sMeet_h h26, rfl, ?_⟩
      refine obind hF fun y27 h28 hF => ?_
      refine Or.inl ⟨_, qMeet_h h28, rfl, ?_⟩
      refine obind hF fun y29 h30 hF => ?_
      refine Or.inl ⟨_, slEqual_h h30, rfl, ?_⟩
      refine And.intro (fun h31 => ?_) (fun h31 => ?_)
      · have hF := cpos h31 hF
        refine And.intro (fun h32 => ?_) (fun h32 => ?_)
        · have hF := cpos h32 hF
          refine And.intro (fun h33 => ?_) (fun h33 => ?_)
          · have hF := cpos h33 hF
            refine And.intro (fun h34 => ?_) (fun h34 => ?_)
            · have hF := cpos h34 hF
              refine obind hF fun y35 h36 hF => ?_
              refine Or.inl ⟨_, slEqual_h h36, rfl, ?_⟩
              refine And.intro (fun h37 => ?_) (fun h37 => ?_)
              · have hF := cpos h37 hF
                exact Or.inl ⟨rfl, congrArg (Option.map lSuccessionWays_E) hF⟩
              · have hF := cneg h37 hF
                exact Or.inl ⟨rfl, congrArg (Option.map lSuccessionWays_E) hF⟩
            · have hF := cneg h34 hF
              exact Or.inl ⟨rfl, congrArg (Option.map lSuccessionWays_E) hF⟩
          · have hF := cneg h33 hF
            exact Or.inl ⟨rfl, congrArg (Option.map lSuccessionWays_E) hF⟩
        · have hF := cneg h32 hF
          exact Or.inl ⟨rfl, congrArg (Option.map lSuccessionWays_E) hF⟩
      · have hF := cneg h31 hF
        exact Or.inl ⟨rfl, congrArg (Option.map lSuccessionWays_E) hF⟩
abbrev lSuccessionWays_S (l : List Aut) (a : Int) (b : Int) : Option (Bool) := lSuccessionWays_F l a b
theorem lSuccessionWays_h {l : List Aut} {a : Int} {b : Int} {r : Bool} (h : lSuccessionWays_S l a b = some r) : Holds Tryz.prog Gw 4 [.sl 6 (l.map cAut), I a, I b] (lSuccessionWays_E r) := lSuccessionWays_Fh  h
end Go.Proofs.YtdoldlbcjcfmdaaGreat
