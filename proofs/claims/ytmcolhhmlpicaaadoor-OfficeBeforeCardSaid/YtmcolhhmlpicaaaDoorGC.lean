/- Functions of the program as functions of Lean, each with its contract (printed by a program). -/
import Derived.Test.YtmcolhhmlpicaaaDoorGB
namespace Go.Proofs.YtmcolhhmlpicaaaDoor
open Go Go.Abs
set_option maxRecDepth 10000
set_option maxHeartbeats 400000
abbrev slCloneI_E (y : List Int) : CV := .sl 1 (y.map cInt)
def slCloneI_F (s : List Int) : Option (List Int) := bif s.isEmpty then oboth (some (([] : List Int))) (bif decide (([] : List Int).length + s.length ≤ 4294967296) then some ((([] : List Int) ++ s)) else none) else (bif decide (([] : List Int).length + s.length ≤ 4294967296) then some ((([] : List Int) ++ s)) else none)
set_option linter.unusedVariables false in
theorem slCloneI_Fh {s : List Int} {r : List Int} (hF : slCloneI_F s = some r) : Holds Tryd.prog Gw 46 [.sl 1 (s.map cInt)] (slCloneI_E r) := by
  refine holds_of_wq tabOk mixed Tryd.func46 (by decide) rfl (Nat.le_of_ble_eq_true rfl) ?_
  refine Or.inl ?_
  refine nilc (cf := cInt) hF ?_ ?_
  · intro hF
    refine Or.inl ?_
    exact Or.inl ⟨rfl, congrArg (Option.map slCloneI_E) hF⟩
  · intro hF
    refine Or.inl ?_
    refine gpos hF fun h1 hF => ?_
    refine Or.inl ⟨len_map (fun _ => rfl), app_le h1, (([] : List Int) ++ s).map cInt, map_app _ _ _, ?_⟩
    exact Or.inl ⟨rfl, congrArg (Option.map slCloneI_E) hF⟩
abbrev slCloneI_S (s : List Int) : Option (List Int) := slCloneI_F s
theorem slCloneI_h {s : List Int} {r : List Int} (h : slCloneI_S s = some r) : Holds Tryd.prog Gw 46 [.sl 1 (s.map cInt)] (slCloneI_E r) := slCloneI_Fh  h
abbrev slCloneO_E (y : List Off) : CV := .sl 5 (y.map cOff)
def slCloneO_F (s : List Off) : Option (List Off) := bif s.isEmpty then oboth (some (([] : List Off))) (bif decide (([] : List Off).length + s.length ≤ 4294967296) then some ((([] : List Off) ++ s)) else none) else (bif decide (([] : List Off).length + s.length ≤ 4294967296) then some ((([] : List Off) ++ s)) else none)
set_option linter.unusedVariables false in
theorem slCloneO_Fh {s : List Off} {r : List Off} (hF : slCloneO_F s = some r) : Holds Tryd.prog Gw 45 [.sl 5 (s.map cOff)] (slCloneO_E r) := by
  refine holds_of_wq tabOk mixed Tryd.func45 (by decide) rfl (Nat.le_of_ble_eq_true rfl) ?_
  refine Or.inr ⟨[], 0, _, _, _, _, rfl, rfl, eff_nilS (e := 40) (ie := ti40) (by decide), rfl, ?_⟩
  refine nilc (cf := cOff) hF ?_ ?_
  · intro hF
    refine Or.inr ⟨[], 0, _, _, _, _, rfl, rfl, eff_nilS (e := 40) (ie := ti40) (by decide), rfl, ?_⟩
    refine ret_eq (p := fun r => resFin tab _ (slCloneO_E r) _) hF ?_
    exact Or.inr ⟨rfl, _, rfl, rfl⟩
  · intro hF
    refine Or.inr ⟨[], 0, _, _, _, _, rfl, rfl, eff_build0 tok22.u tok40 (by decide), rfl, ?_⟩
    refine gpos hF fun h1 hF => ?_
    refine Or.inr ⟨[(5, 1)], 0, _, _, _, _, rfl, rfl, eff_append (cf := cOff) (l := ([] : List Off)) (ns := s) tok22.u tok40 (by decide) (by decide) (fun _ => rfl) h1, rfl, ?_⟩
    refine ret_eq (p := fun r => resFin tab _ (slCloneO_E r) _) hF ?_
    exact Or.inr ⟨rfl, _, rfl, rfl⟩
abbrev slCloneO_O (y : List Off) : CV := .wo (.ow 0) [(40, 5, y.map cOff, none)]
set_option linter.unusedVariables false in
theorem slCloneO_Oh {s : List Off} {r : List Off} (hF : slCloneO_F s = some r) : Holds Tryd.prog Gw 45 [.sl 5 (s.map cOff)] (slCloneO_O r) := by
  refine holds_of_wq tabOk mixed Tryd.func45 (by decide) rfl (Nat.le_of_ble_eq_true rfl) ?_
  refine Or.inr ⟨[], 0, _, _, _, _, rfl, rfl, eff_nilS (e := 40) (ie := ti40) (by decide), rfl, ?_⟩
  refine nilc (cf := cOff) hF ?_ ?_
  · intro hF
    refine Or.inr ⟨[], 0, _, _, _, _, rfl, rfl, eff_nilS (e := 40) (ie := ti40) (by decide), rfl, ?_⟩
    refine ret_eq (p := fun r => resFin tab _ (slCloneO_O r) _) hF ?_
    exact Or.inr ⟨[(2, 2)], rfl, ⟨rfl, rfl⟩, rfl⟩
  · intro hF
    refine Or.inr ⟨[], 0, _, _, _, _, rfl, rfl, eff_build0 tok22.u tok40 (by decide), rfl, ?_⟩
    refine gpos hF fun h1 hF => ?_
    refine Or.inr ⟨[(5, 1)], 0, _, _, _, _, rfl, rfl, eff_append (cf := cOff) (l := ([] : List Off)) (ns := s) tok22.u tok40 (by decide) (by decide) (fun _ => rfl) h1, rfl, ?_⟩
    refine ret_eq (p := fun r => resFin tab _ (slCloneO_O r) _) hF ?_
    exact Or.inr ⟨[(5, 2)], rfl, ⟨rfl, rfl⟩, rfl⟩
abbrev slCloneO_S (s : List Off) : Option (List Off) := slCloneO_F s
theorem slCloneO_h {s : List Off} {r : List Off} (h : slCloneO_S s = some r) : Holds Tryd.prog Gw 45 [.sl 5 (s.map cOff)] (slCloneO_E r) := slCloneO_Fh  h
abbrev pEnd_E (y : List Off × Int) : CV := .tup [.sl 5 (y.1.map cOff), I y.2]
def pEnd_L1 (day : Int) (next : List Int) (y4 : Int) (y13 : List Off) : Nat → Int → List Off → Option (List Off × Int)
  | 0, _, _ => none
  | fu1 + 1, v15, v16 => bif decide (v15 < ((y13.map cOff).length : Int)) then (Option.bind (ix v16 v15) fun x18 => Option.bind (slCloneI_S x18.Next) fun y20 => pEnd_L1 day next y4 y13 fu1 (IntKind.i64.wrap (v15 + 1)) (v16.set (v15).toNat (⟨x18.ID, x18.Name, x18.In, y20⟩ : Off))) else (Option.bind (slCloneI_S next) fun y22 => Option.bind (ix v16 y4) fun x24 => Option.bind (pCheck_S ((v16.set (y4).toNat (⟨x24.ID, x24.Name, (⟨x24.In.From, day⟩ : Span), x24.Next⟩ : Off)).set (y4).toNat (⟨(⟨x24.ID, x24.Name, (⟨x24.In.From, day⟩ : Span), x24.Next⟩ : Off).ID, (⟨x24.ID, x24.Name, (⟨x24.In.From, day⟩ : Span), x24.Next⟩ : Off).Name, (⟨x24.ID, x24.Name, (⟨x24.In.From, day⟩ : Span), x24.Next⟩ : Off).In, y22⟩ : Off))) fun y26 => bif (y26.2 != 0) then some (([] : List Off), y26.2) else some (((v16.set (y4).toNat (⟨x24.ID, x24.Name, (⟨x24.In.From, day⟩ : Span), x24.Next⟩ : Off)).set (y4).toNat (⟨(⟨x24.ID, x24.Name, (⟨x24.In.From, day⟩ : Span), x24.Next⟩ : Off).ID, (⟨x24.ID, x24.Name, (⟨x24.In.From, day⟩ : Span), x24.Next⟩ : Off).Name, (⟨x24.ID, x24.Name, (⟨x24.In.From, day⟩ : Span), x24.Next⟩ : Off).In, y22⟩ : Off)), 0))
def pEnd_F (N : Nat) (l : List Off) (id : Int) (day : Int) (next : List Int) : Option (List Off × Int) := Option.bind (pCheck_S l) fun y1 => bif (y1.2 != 0) then some (([] : List Off), 1) else (Option.bind (pFind_S l id) fun y4 => bif decide (y4 < 0) then some (([] : List Off), 7) else (Option.bind (ix l y4) fun x7 => bif decide (day ≤ x7.In.From) then some (([] : List Off), 2) else (Option.bind (ix l y4) fun x10 => bif decide (day > x10.In.Until) then some (([] : List Off), 2) else (Option.bind (slCloneO_S l) fun y13 => pEnd_L1 day next y4 y13 N 0 y13))))
set_option linter.unusedVariables false in
theorem pEnd_Fh {N : Nat} {l : List Off} {id : Int} {day : Int} {next : List Int} {r : List Off × Int} (hF : pEnd_F N l id day next = some r) : Holds Tryd.prog Gw 24 [.sl 5 (l.map cOff), I id, I day, .sl 1 (next.map cInt)] (pEnd_E r) := by
  refine holds_of_wq tabOk mixed Tryd.func24 (by decide) rfl (Nat.le_of_ble_eq_true rfl) ?_
  refine Or.inl ?_
  refine obind hF fun y1 h2 hF => ?_
  refine Or.inl ⟨_, pCheck_h h2, rfl, ?_⟩
  refine And.intro (fun h3 => ?_) (fun h3 => ?_)
  · have hF := cpos h3 hF
    refine Or.inl ?_
    exact Or.inl ⟨rfl, congrArg (Option.map pEnd_E) hF⟩
  · have hF := cneg h3 hF
    refine obind hF fun y4 h5 hF => ?_
    refine Or.inl ⟨_, pFind_h h5, rfl, ?_⟩
    refine And.intro (fun h6 => ?_) (fun h6 => ?_)
    · have hF := cpos h6 hF
      refine Or.inl ?_
      exact Or.inl ⟨rfl, congrArg (Option.map pEnd_E) hF⟩
    · have hF := cneg h6 hF
      refine obind hF fun x7 h8 hF => ?_
      refine ⟨ix_nn h8, .inl rfl, _, ix_map cOff h8, ?_⟩
      refine And.intro (fun h9 => ?_) (fun h9 => ?_)
      · have hF := cpos h9 hF
        refine Or.inl ?_
        exact Or.inl ⟨rfl, congrArg (Option.map pEnd_E) hF⟩
      · have hF := cneg h9 hF
        refine obind hF fun x10 h11 hF => ?_
        refine ⟨ix_nn h11, .inl rfl, _, ix_map cOff h11, ?_⟩
        refine And.intro (fun h12 => ?_) (fun h12 => ?_)
        · have hF := cpos h12 hF
          refine Or.inl ?_
          exact Or.inl ⟨rfl, congrArg (Option.map pEnd_E) hF⟩
        · have hF := cneg h12 hF
          refine obind hF fun y13 h14 hF => ?_
          refine Or.inr (Or.inl ⟨_, _, slCloneO_Oh h14, ?_⟩)
          refine Or.inl ?_
          refine loop_oq (fun p : Nat × Int × List Off => [(2, .c (I day)), (3, .c (.sl 1 (next.map cInt))), (12, .c (I y4)), (13, .rs 48 0), (50, .c (I ((y13.map cOff).length : Int))), (51, .c (I p.2.1))]) (fun p : Nat × Int × List Off => [(48, .arr 40 5 (p.2.2.map cOff) none)]) (fun p => pEnd_L1 day next y4 y13 p.1 p.2.1 p.2.2 = some r) (fun p => p.1) (N, 0, y13) hF ⟨rfl, rfl, rfl, rfl, rfl, rfl, trivial⟩ ⟨rfl, trivial⟩ ?_
          rintro ⟨fu1, v15, v16⟩ hF
          cases fu1 with
          | zero => exact nomatch hF
          | succ fu1 =>
            refine join_no ?_
            refine And.intro (fun h17 => ?_) (fun h17 => ?_)
            · have hF := cpos h17 hF
              refine join_no ?_
              refine obind hF fun x18 h19 hF => ?_
              refine Or.inl ⟨ix_nn h19, ix_lt h19, ?_⟩
              refine Or.inl ?_
              refine Or.inl ⟨_, ix_map cOff h19, ?_⟩
              refine obind hF fun y20 h21 hF => ?_
              refine Or.inl ⟨_, slCloneI_h h21, rfl, ?_⟩
              refine Or.inl ⟨ix_nn h19, ix_lt h19, ?_⟩
              refine Or.inl ?_
              refine Or.inl ⟨_, ix_map cOff h19, ?_⟩
              refine ⟨(v16.set (v15).toNat (⟨x18.ID, x18.Name, x18.In, y20⟩ : Off)).map cOff, _, .inl ⟨rfl, set_map _ _ _ _, rfl⟩, ?_⟩
              exact ⟨(fu1, (IntKind.i64.wrap (v15 + 1)), (v16.set (v15).toNat (⟨x18.ID, x18.Name, x18.In, y20⟩ : Off))), Nat.lt_succ_self _, hF, ⟨rfl, rfl, rfl, rfl, rfl, rfl, trivial⟩, ⟨rfl, trivial⟩⟩
            · have hF := cneg h17 hF
              refine obind hF fun y22 h23 hF => ?_
              refine Or.inl ⟨_, slCloneI_h h23, rfl, ?_⟩
              refine obind hF fun x24 h25 hF => ?_
              refine Or.inl ⟨ix_nn h25, ix_lt h25, ?_⟩
              refine Or.inl ?_
              refine Or.inl ?_
              refine Or.inl ⟨_, ix_map cOff h25, ?_⟩
              refine ⟨(v16.set (y4).toNat (⟨x24.ID, x24.Name, (⟨x24.In.From, day⟩ : Span), x24.Next⟩ : Off)).map cOff, _, .inl ⟨rfl, set_map _ _ _ _, rfl⟩, ?_⟩
              refine Or.inl ⟨ix_nn (ix_set (y := (⟨x24.ID, x24.Name, (⟨x24.In.From, day⟩ : Span), x24.Next⟩ : Off)) h25), ix_lt (ix_set (y := (⟨x24.ID, x24.Name, (⟨x24.In.From, day⟩ : Span), x24.Next⟩ : Off)) h25), ?_⟩
              refine Or.inl ?_
              refine Or.inl ⟨_, ix_map cOff (ix_set (y := (⟨x24.ID, x24.Name, (⟨x24.In.From, day⟩ : Span), x24.Next⟩ : Off)) h25), ?_⟩
              refine ⟨((v16.set (y4).toNat (⟨x24.ID, x24.Name, (⟨x24.In.From, day⟩ : Span), x24.Next⟩ : Off)).set (y4).toNat (⟨(⟨x24.ID, x24.Name, (⟨x24.In.From, day⟩ : Span), x24.Next⟩ : Off).ID, (⟨x24.ID, x24.Name, (⟨x24.In.From, day⟩ : Span), x24.Next⟩ : Off).Name, (⟨x24.ID, x24.Name, (⟨x24.In.From, day⟩ : Span), x24.Next⟩ : Off).In, y22⟩ : Off)).map cOff, _, .inl ⟨rfl, set_map _ _ _ _, rfl⟩, ?_⟩
              refine obind hF fun y26 h27 hF => ?_
              refine Or.inl ⟨_, pCheck_h h27, rfl, ?_⟩
              refine And.intro (fun h28 => ?_) (fun h28 => ?_)
              · have hF := cpos h28 hF
                refine Or.inl ?_
                exact Or.inl ⟨rfl, congrArg (Option.map pEnd_E) hF⟩
              · have hF := cneg h28 hF
                refine ret_eq (p := fun r => resFin tab _ (pEnd_E r) _) hF ?_
                exact Or.inr ⟨⟨⟨rfl, _, rfl, rfl⟩, rfl, rfl⟩, by decide⟩
abbrev pEnd_S (l : List Off) (id : Int) (day : Int) (next : List Int) : Option (List Off × Int) := pEnd_F (l.length + 1) l id day next
theorem pEnd_h {l : List Off} {id : Int} {day : Int} {next : List Int} {r : List Off × Int} (h : pEnd_S l id day next = some r) : Holds Tryd.prog Gw 24 [.sl 5 (l.map cOff), I id, I day, .sl 1 (next.map cInt)] (pEnd_E r) := pEnd_Fh  h
abbrev cmpIsNaN_E (y : Bool) : CV := B y
def cmpIsNaN_F (x : Int) : Option (Bool) := some ((x != x))
set_option linter.unusedVariables false in
theorem cmpIsNaN_Fh {x : Int} {r : Bool} (hF : cmpIsNaN_F x = some r) : Holds Tryd.prog Gw 55 [I x] (cmpIsNaN_E r) := by
  refine holds_of_wq tabOk mixed Tryd.func55 (by decide) rfl (Nat.le_of_ble_eq_true rfl) ?_
  exact Or.inl ⟨rfl, congrArg (Option.map cmpIsNaN_E) hF⟩
abbrev cmpIsNaN_S (x : Int) : Option (Bool) := cmpIsNaN_F x
theorem cmpIsNaN_h {x : Int} {r : Bool} (h : cmpIsNaN_S x = some r) : Holds Tryd.prog Gw 55 [I x] (cmpIsNaN_E r) := cmpIsNaN_Fh  h
abbrev cmpLess_E (y : Bool) : CV := B y
def cmpLess_F (x : Int) (y : Int) : Option (Bool) := Option.bind (cmpIsNaN_S x) fun y1 => bif y1 then (Option.bind (cmpIsNaN_S y) fun y4 => bif (!y4) then some (true) else some (decide (x < y))) else some (decide (x < y))
set_option linter.unusedVariables false in
theorem cmpLess_Fh {x : Int} {y : Int} {r : Bool} (hF : cmpLess_F x y = some r) : Holds Tryd.prog Gw 44 [I x, I y] (cmpLess_E r) := by
  refine holds_of_wq tabOk mixed Tryd.func44 (by decide) rfl (Nat.le_of_ble_eq_true rfl) ?_
  refine obind hF fun y1 h2 hF => ?_
  refine Or.inl ⟨_, cmpIsNaN_h h2, rfl, ?_⟩
  refine And.intro (fun h3 => ?_) (fun h3 => ?_)
  · have hF := cpos h3 hF
    refine obind hF fun y4 h5 hF => ?_
    refine Or.inl ⟨_, cmpIsNaN_h h5, rfl, ?_⟩
    refine And.intro (fun h6 => ?_) (fun h6 => ?_)
    · have hF := cpos h6 hF
      exact Or.inl ⟨rfl, congrArg (Option.map cmpLess_E) hF⟩
    · have hF := cneg h6 hF
      exact Or.inl ⟨rfl, congrArg (Option.map cmpLess_E) hF⟩
  · have hF := cneg h3 hF
    exact Or.inl ⟨rfl, congrArg (Option.map cmpLess_E) hF⟩
abbrev cmpLess_S (x : Int) (y : Int) : Option (Bool) := cmpLess_F x y
theorem cmpLess_h {x : Int} {y : Int} {r : Bool} (h : cmpLess_S x y = some r) : Holds Tryd.prog Gw 44 [I x, I y] (cmpLess_E r) := cmpLess_Fh  h
abbrev slIsSorted_E (y : Bool) : CV := B y
def slIsSorted_L1 (x : List Int) : Nat → Int → Option (Bool)
  | 0, _ => none
  | fu1 + 1, i1 => bif decide (i1 > 0) then (Option.bind (ix x i1) fun x3 => Option.bind (ix x (IntKind.i64.wrap (i1 - 1))) fun x5 => Option.bind (cmpLess_S x3 x5) fun y7 => bif y7 then some (false) else slIsSorted_L1 x fu1 (IntKind.i64.wrap (i1 - 1))) else some (true)
def slIsSorted_F (N : Nat) (x : List Int) : Option (Bool) := slIsSorted_L1 x N (IntKind.i64.wrap (((x.map cInt).length : Int) - 1))
set_option linter.unusedVariables false in
theorem slIsSorted_Fh {N : Nat} {x : List Int} {r : Bool} (hF : slIsSorted_F N x = some r) : Holds Tryd.prog Gw 23 [.sl 1 (x.map cInt)] (slIsSorted_E r) := by
  refine holds_of_wq tabOk mixed Tryd.func23 (by decide) rfl (Nat.le_of_ble_eq_true rfl) ?_
  refine loop_oq (fun p : Nat × Int => [(0, .c (.sl 1 (x.map cInt))), (3, .c (I p.2))]) (fun _ => []) (fun p => slIsSorted_L1 x p.1 p.2 = some r) (fun p => p.1) (N, (IntKind.i64.wrap (((x.map cInt).length : Int) - 1))) hF ⟨rfl, rfl, trivial⟩ trivial ?_
  rintro ⟨fu1, i1⟩ hF
  cases fu1 with
  | zero => exact nomatch hF
  | succ fu1 =>
    refine And.intro (fun h2 => ?_) (fun h2 => ?_)
    · have hF := cpos h2 hF
      refine join_no ?_
      refine obind hF fun x3 h4 hF => ?_
      refine ⟨ix_nn h4, .inl rfl, _, ix_map cInt h4, ?_⟩
      refine obind hF fun x5 h6 hF => ?_
      refine ⟨ix_nn h6, .inl rfl, _, ix_map cInt h6, ?_⟩
      refine obind hF fun y7 h8 hF => ?_
      refine Or.inl ⟨_, cmpLess_h h8, rfl, ?_⟩
      refine And.intro (by kernel_rfl) ?_
      refine And.intro (fun h9 => ?_) (fun h9 => ?_)
      · have hF := cpos h9 hF
        exact Or.inl ⟨rfl, congrArg (Option.map slIsSorted_E) hF⟩
      · have hF := cneg h9 hF
        exact ⟨(fu1, (IntKind.i64.wrap (i1 - 1))), Nat.lt_succ_self _, hF, ⟨rfl, rfl, trivial⟩, trivial⟩
    · have hF := cneg h2 hF
      exact Or.inl ⟨rfl, congrArg (Option.map slIsSorted_E) hF⟩
abbrev slIsSorted_S (x : List Int) : Option (Bool) := slIsSorted_F (x.length + 1) x
theorem slIsSorted_h {x : List Int} {r : Bool} (h : slIsSorted_S x = some r) : Holds Tryd.prog Gw 23 [.sl 1 (x.map cInt)] (slIsSorted_E r) := slIsSorted_Fh  h
abbrev slEqual_E (y : Bool) : CV := B y
def slEqual_L1 (s1 : List Int) (s2 : List Int) : Nat → Int → Option (Bool)
  | 0, _ => none
  | fu1 + 1, v2 => bif decide (v2 < ((s1.map cInt).length : Int)) then (Option.bind (ix s1 v2) fun x4 => Option.bind (ix s2 v2) fun x6 => bif (x4 != x6) then some (false) else slEqual_L1 s1 s2 fu1 (IntKind.i64.wrap (v2 + 1))) else some (true)
def slEqual_F (N : Nat) (s1 : List Int) (s2 : List Int) : Option (Bool) := bif (((s1.map cInt).length : Int) != ((s2.map cInt).length : Int)) then some (false) else slEqual_L1 s1 s2 N 0
set_option linter.unusedVariables false in
theorem slEqual_Fh {N : Nat} {s1 : List Int} {s2 : List Int} {r : Bool} (hF : slEqual_F N s1 s2 = some r) : Holds Tryd.prog Gw 27 [.sl 1 (s1.map cInt), .sl 1 (s2.map cInt)] (slEqual_E r) := by
  refine holds_of_wq tabOk mixed Tryd.func27 (by decide) rfl (Nat.le_of_ble_eq_true rfl) ?_
  refine And.intro (fun h1 => ?_) (fun h1 => ?_)
  · have hF := cpos h1 hF
    exact Or.inl ⟨rfl, congrArg (Option.map slEqual_E) hF⟩
  · have hF := cneg h1 hF
    refine loop_oq (fun p : Nat × Int => [(0, .c (.sl 1 (s1.map cInt))), (1, .c (.sl 1 (s2.map cInt))), (12, .c (I ((s1.map cInt).length : Int))), (13, .c (I p.2))]) (fun _ => []) (fun p => slEqual_L1 s1 s2 p.1 p.2 = some r) (fun p => p.1) (N, 0) hF ⟨rfl, rfl, rfl, rfl, trivial⟩ trivial ?_
    rintro ⟨fu1, v2⟩ hF
    cases fu1 with
    | zero => exact nomatch hF
    | succ fu1 =>
      refine join_no ?_
      refine And.intro (fun h3 => ?_) (fun h3 => ?_)
      · have hF := cpos h3 hF
        refine join_no ?_
        refine obind hF fun x4 h5 hF => ?_
        refine ⟨ix_nn h5, .inl rfl, _, ix_map cInt h5, ?_⟩
        refine obind hF fun x6 h7 hF => ?_
        refine ⟨ix_nn h7, .inl rfl, _, ix_map cInt h7, ?_⟩
        refine And.intro (by kernel_rfl) ?_
        refine And.intro (fun h8 => ?_) (fun h8 => ?_)
        · have hF := cpos h8 hF
          exact Or.inl ⟨rfl, congrArg (Option.map slEqual_E) hF⟩
        · have hF := cneg h8 hF
          exact ⟨(fu1, (IntKind.i64.wrap (v2 + 1))), Nat.lt_succ_self _, hF, ⟨rfl, rfl, rfl, rfl, trivial⟩, trivial⟩
      · have hF := cneg h3 hF
        exact Or.inl ⟨rfl, congrArg (Option.map slEqual_E) hF⟩
abbrev slEqual_S (s1 : List Int) (s2 : List Int) : Option (Bool) := slEqual_F (s1.length + 1) s1 s2
theorem slEqual_h {s1 : List Int} {s2 : List Int} {r : Bool} (h : slEqual_S s1 s2 = some r) : Holds Tryd.prog Gw 27 [.sl 1 (s1.map cInt), .sl 1 (s2.map cInt)] (slEqual_E r) := slEqual_Fh  h
abbrev lexample_E (y : List Off) : CV := .sl 5 (y.map cOff)
def lexample_F : Option (List Off) := some (([(⟨1, ([65] : Str), (⟨0, 100⟩ : Span), ([2, 3] : List Int)⟩ : Off), (⟨2, ([66] : Str), (⟨100, 200⟩ : Span), ([4] : List Int)⟩ : Off), (⟨3, ([67] : Str), (⟨100, 1048576⟩ : Span), ([] : List Int)⟩ : Off), (⟨4, ([68] : Str), (⟨200, 1048576⟩ : Span), ([] : List Int)⟩ : Off)] : List Off))
set_option linter.unusedVariables false in
theorem lexample_Fh {r : List Off} (hF : lexample_F  = some r) : Holds Tryd.prog Gw 28 [] (lexample_E r) := by
  refine holds_of_wq tabOk mixed Tryd.func28 (by decide) rfl (Nat.le_of_ble_eq_true rfl) ?_
  refine Or.inl ?_
  refine Or.inl ?_
  refine Or.inl ?_
  refine Or.inl ?_
  exact Or.inl ⟨rfl, congrArg (Option.map lexample_E) hF⟩
abbrev lexample_S : Option (List Off) := lexample_F 
theorem lexample_h {r : List Off} (h : lexample_S = some r) : Holds Tryd.prog Gw 28 [] (lexample_E r) := lexample_Fh  h
abbrev lawake_E (y : Bool) : CV := B y
def lawake_F : Option (Bool) := Option.bind (lexample_S) fun y1 => Option.bind (pCheck_S y1) fun y3 => Option.bind (pHeir_S y1 1 250) fun y5 => bif (y3.2 == 0) then (bif (y3.1 == (-1)) then (Option.bind (pChain_S y1 1 150) fun y9 => Option.bind (slEqual_S y9 ([1, 2] : List Int)) fun y11 => bif y11 then (bif y5.2 then (bif (y5.1 == 4) then (Option.bind (pReach_S y1 1) fun y16 => Option.bind (slEqual_S y16 ([1, 2, 3, 4] : List Int)) fun y18 => bif y18 then (Option.bind (pDuties_S y1 4 250) fun y21 => Option.bind (slEqual_S y21 ([1, 2, 4] : List Int)) fun y23 => some (y23)) else some (false)) else some (false)) else some (false)) else some (false)) else some (false)) else some (false)
set_option linter.unusedVariables false in
theorem lawake_Fh {r : Bool} (hF : lawake_F  = some r) : Holds Tryd.prog Gw 9 [] (lawake_E r) := by
  refine holds_of_wq tabOk mixed Tryd.func9 (by decide) rfl (Nat.le_of_ble_eq_true rfl) ?_
  refine obind hF fun y1 h2 hF => ?_
  refine Or.inl ⟨_, lexample_h h2, rfl, ?_⟩
  refine obind hF fun y3 h4 hF => ?_
  refine Or.inl ⟨_, pCheck_h h4, rfl, ?_⟩
  refine obind hF fun y5 h6 hF => ?_
  refine Or.inl ⟨_, pHeir_h h6, rfl, ?_⟩
  refine And.intro (fun h7 => ?_) (fun h7 => ?_)
  · have hF := cpos h7 hF
    refine And.intro (fun h8 => ?_) (fun h8 => ?_)
    · have hF := cpos h8 hF
      refine obind hF fun y9 h10 hF => ?_
      refine Or.inl ⟨_, pChain_h h10, rfl, ?_⟩
      refine Or.inl ?_
      refine obind hF fun y11 h12 hF => ?_
      refine Or.inl ⟨_, slEqual_h h12, rfl, ?_⟩
      refine And.intro (fun h13 => ?_) (fun h13 => ?_)
      · have hF := cpos h13 hF
        refine And.intro (fun h14 => ?_) (fun h14 => ?_)
        · have hF := cpos h14 hF
          refine And.intro (fun h15 => ?_) (fun h15 => ?_)
          · have hF := cpos h15 hF
            refine obind hF fun y16 h17 hF => ?_
            refine Or.inl ⟨_, pReach_h h17, rfl, ?_⟩
            refine Or.inl ?_
            refine obind hF fun y18 h19 hF => ?_
            refine Or.inl ⟨_, slEqual_h h19, rfl, ?_⟩
            refine And.intro (fun h20 => ?_) (fun h20 => ?_)
            · have hF := cpos h20 hF
              refine obind hF fun y21 h22 hF => ?_
              refine Or.inl ⟨_, pDuties_h h22, rfl, ?_⟩
              refine Or.inl ?_
              refine obind hF fun y23 h24 hF => ?_
              refine Or.inl ⟨_, slEqual_h h24, rfl, ?_⟩
              exact Or.inl ⟨rfl, congrArg (Option.map lawake_E) hF⟩
            · have hF := cneg h20 hF
              exact Or.inl ⟨rfl, congrArg (Option.map lawake_E) hF⟩
          · have hF := cneg h15 hF
            exact Or.inl ⟨rfl, congrArg (Option.map lawake_E) hF⟩
        · have hF := cneg h14 hF
          exact Or.inl ⟨rfl, congrArg (Option.map lawake_E) hF⟩
      · have hF := cneg h13 hF
        exact Or.inl ⟨rfl, congrArg (Option.map lawake_E) hF⟩
    · have hF := cneg h8 hF
      exact Or.inl ⟨rfl, congrArg (Option.map lawake_E) hF⟩
  · have hF := cneg h7 hF
    exact Or.inl ⟨rfl, congrArg (Option.map lawake_E) hF⟩
abbrev lawake_S : Option (Bool) := lawake_F 
theorem lawake_h {r : Bool} (h : lawake_S = some r) : Holds Tryd.prog Gw 9 [] (lawake_E r) := lawake_Fh  h
end Go.Proofs.YtmcolhhmlpicaaaDoor
