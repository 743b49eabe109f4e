/- Functions of the program as functions of Lean, each with its contract (printed by a program). -/
import Derived.Test.YtmcolhhmlpicaaaDoorLib
namespace Go.Proofs.YtmcolhhmlpicaaaDoor
open Go Go.Abs
set_option maxRecDepth 10000
set_option maxHeartbeats 400000
abbrev pName_E (y : Bool) : CV := B y
def pName_L1 (s : Str) : Nat → Int → Option (Bool)
  | 0, _ => none
  | fu1 + 1, v9 => bif decide (v9 < (s.length : Int)) then (Option.bind (ix s v9) fun b11 => bif decide ((b11.toNat : Int) < 32) then some (false) else (Option.bind (ix s v9) fun b14 => bif decide ((b14.toNat : Int) > 126) then some (false) else pName_L1 s fu1 (IntKind.i64.wrap (v9 + 1)))) else some (true)
def pName_F (N : Nat) (s : Str) : Option (Bool) := bif decide ((s.length : Int) < 1) then some (false) else (bif decide ((s.length : Int) > 64) then some (false) else (Option.bind (sTrimSpace_S s) fun y3 => bif (!(y3 == s)) then some (false) else (Option.bind (sContains_S s ([32, 32] : Str)) fun y6 => bif y6 then some (false) else pName_L1 s N 0)))
set_option linter.unusedVariables false in
theorem pName_Fh {N : Nat} {s : Str} {r : Bool} (hF : pName_F N s = some r) : Holds Tryd.prog Gw 39 [S s] (pName_E r) := by
  refine holds_of_wq tabOk mixed Tryd.func39 (by decide) rfl (Nat.le_of_ble_eq_true rfl) ?_
  refine And.intro (fun h1 => ?_) (fun h1 => ?_)
  · have hF := cpos h1 hF
    exact Or.inl ⟨rfl, congrArg (Option.map pName_E) hF⟩
  · have hF := cneg h1 hF
    refine And.intro (fun h2 => ?_) (fun h2 => ?_)
    · have hF := cpos h2 hF
      exact Or.inl ⟨rfl, congrArg (Option.map pName_E) hF⟩
    · have hF := cneg h2 hF
      refine obind hF fun y3 h4 hF => ?_
      refine Or.inl ⟨_, sTrimSpace_h h4, rfl, ?_⟩
      refine And.intro (fun h5 => ?_) (fun h5 => ?_)
      · have hF := cpos h5 hF
        exact Or.inl ⟨rfl, congrArg (Option.map pName_E) hF⟩
      · have hF := cneg h5 hF
        refine obind hF fun y6 h7 hF => ?_
        refine Or.inl ⟨_, sContains_h h7, rfl, ?_⟩
        refine And.intro (fun h8 => ?_) (fun h8 => ?_)
        · have hF := cpos h8 hF
          exact Or.inl ⟨rfl, congrArg (Option.map pName_E) hF⟩
        · have hF := cneg h8 hF
          refine loop_oq (fun p : Nat × Int => [(0, .c (S s)), (23, .c (I (s.length : Int))), (24, .c (I p.2))]) (fun _ => []) (fun p => pName_L1 s p.1 p.2 = some r) (fun p => p.1) (N, 0) hF ⟨rfl, rfl, rfl, trivial⟩ trivial ?_
          rintro ⟨fu1, v9⟩ hF
          cases fu1 with
          | zero => exact nomatch hF
          | succ fu1 =>
            refine join_no ?_
            refine And.intro (fun h10 => ?_) (fun h10 => ?_)
            · have hF := cpos h10 hF
              refine join_no ?_
              refine obind hF fun b11 h12 hF => ?_
              refine ⟨ix_nn h12, _, ix_str h12, ?_⟩
              refine And.intro (fun h13 => ?_) (fun h13 => ?_)
              · have hF := cpos h13 hF
                exact Or.inl ⟨rfl, congrArg (Option.map pName_E) hF⟩
              · have hF := cneg h13 hF
                refine obind hF fun b14 h15 hF => ?_
                refine ⟨ix_nn h15, _, ix_str h15, ?_⟩
                refine And.intro (fun h16 => ?_) (fun h16 => ?_)
                · have hF := cpos h16 hF
                  exact Or.inl ⟨rfl, congrArg (Option.map pName_E) hF⟩
                · have hF := cneg h16 hF
                  exact ⟨(fu1, (IntKind.i64.wrap (v9 + 1))), Nat.lt_succ_self _, hF, ⟨rfl, rfl, rfl, trivial⟩, trivial⟩
            · have hF := cneg h10 hF
              exact Or.inl ⟨rfl, congrArg (Option.map pName_E) hF⟩
abbrev pName_S (s : Str) : Option (Bool) := pName_F (s.length + 1) s
theorem pName_h {s : Str} {r : Bool} (h : pName_S s = some r) : Holds Tryd.prog Gw 39 [S s] (pName_E r) := pName_Fh  h
abbrev pCheck_E (y : Int × Int) : CV := .tup [I y.1, I y.2]
def pCheck_L1 (l : List Off) (y2 : (List (Int × Off))) : Nat → Int → Option (Int × Int)
  | 0, _ => none
  | fu1 + 1, v4 => bif decide (v4 < ((l.map cOff).length : Int)) then (Option.bind (ix l v4) fun x6 => bif decide (x6.ID < 1) then some (v4, 2) else (bif decide (x6.ID > 1073741824) then some (v4, 2) else (Option.bind (pvalid_S x6.In) fun y10 => bif (!y10) then some (v4, 2) else (bif decide (((x6.Next.map cInt).length : Int) > 8) then some (v4, 2) else (Option.bind (pName_S x6.Name) fun y14 => bif (!y14) then some (v4, 4) else (bif decide (v4 > 0) then (Option.bind (ix l (IntKind.i64.wrap (v4 - 1))) fun x18 => bif decide (x18.ID ≥ x6.ID) then some (v4, 5) else (Option.bind (pnext_S y2 x6) fun y21 => bif (y21 != 0) then some (v4, y21) else pCheck_L1 l y2 fu1 (IntKind.i64.wrap (v4 + 1)))) else (Option.bind (pnext_S y2 x6) fun y24 => bif (y24 != 0) then some (v4, y24) else pCheck_L1 l y2 fu1 (IntKind.i64.wrap (v4 + 1))))))))) else some ((-1), 0)
def pCheck_F (N : Nat) (l : List Off) : Option (Int × Int) := bif decide (((l.map cOff).length : Int) > 32) then some ((-1), 8) else (Option.bind (pindex_S l) fun y2 => pCheck_L1 l y2 N 0)
set_option linter.unusedVariables false in
theorem pCheck_Fh {N : Nat} {l : List Off} {r : Int × Int} (hF : pCheck_F N l = some r) : Holds Tryd.prog Gw 20 [.sl 5 (l.map cOff)] (pCheck_E r) := by
  refine holds_of_wq tabOk mixed Tryd.func20 (by decide) rfl (Nat.le_of_ble_eq_true rfl) ?_
  refine And.intro (fun h1 => ?_) (fun h1 => ?_)
  · have hF := cpos h1 hF
    exact Or.inl ⟨rfl, congrArg (Option.map pCheck_E) hF⟩
  · have hF := cneg h1 hF
    refine obind hF fun y2 h3 hF => ?_
    refine Or.inl ⟨_, pindex_h h3, rfl, ?_⟩
    refine loop_oq (fun p : Nat × Int => [(0, .c (.sl 5 (l.map cOff))), (4, .c (.mp (mpE (kInt .i64) eOff y2))), (13, .c (.sl 5 (l.map cOff))), (14, .c (I ((l.map cOff).length : Int))), (15, .c (I p.2))]) (fun _ => []) (fun p => pCheck_L1 l y2 p.1 p.2 = some r) (fun p => p.1) (N, 0) hF ⟨rfl, rfl, rfl, rfl, rfl, trivial⟩ trivial ?_
    rintro ⟨fu1, v4⟩ hF
    cases fu1 with
    | zero => exact nomatch hF
    | succ fu1 =>
      refine join_no ?_
      refine And.intro (fun h5 => ?_) (fun h5 => ?_)
      · have hF := cpos h5 hF
        refine join_no ?_
        refine obind hF fun x6 h7 hF => ?_
        refine ⟨ix_nn h7, .inl rfl, _, ix_map cOff h7, ?_⟩
        refine Or.inl ?_
        refine join_no ?_
        refine And.intro (fun h8 => ?_) (fun h8 => ?_)
        · have hF := cpos h8 hF
          exact Or.inl ⟨rfl, congrArg (Option.map pCheck_E) hF⟩
        · have hF := cneg h8 hF
          refine And.intro (fun h9 => ?_) (fun h9 => ?_)
          · have hF := cpos h9 hF
            exact Or.inl ⟨rfl, congrArg (Option.map pCheck_E) hF⟩
          · have hF := cneg h9 hF
            refine obind hF fun y10 h11 hF => ?_
            refine Or.inl ⟨_, pvalid_h h11, rfl, ?_⟩
            refine And.intro (fun h12 => ?_) (fun h12 => ?_)
            · have hF := cpos h12 hF
              exact Or.inl ⟨rfl, congrArg (Option.map pCheck_E) hF⟩
            · have hF := cneg h12 hF
              refine And.intro (fun h13 => ?_) (fun h13 => ?_)
              · have hF := cpos h13 hF
                exact Or.inl ⟨rfl, congrArg (Option.map pCheck_E) hF⟩
              · have hF := cneg h13 hF
                refine obind hF fun y14 h15 hF => ?_
                refine Or.inl ⟨_, pName_h h15, rfl, ?_⟩
                refine And.intro (fun h16 => ?_) (fun h16 => ?_)
                · have hF := cpos h16 hF
                  exact Or.inl ⟨rfl, congrArg (Option.map pCheck_E) hF⟩
                · have hF := cneg h16 hF
                  refine And.intro (fun h17 => ?_) (fun h17 => ?_)
                  · have hF := cpos h17 hF
                    refine obind hF fun x18 h19 hF => ?_
                    refine ⟨ix_nn h19, .inl rfl, _, ix_map cOff h19, ?_⟩
                    refine And.intro (by kernel_rfl) ?_
                    refine And.intro (fun h20 => ?_) (fun h20 => ?_)
                    · have hF := cpos h20 hF
                      exact Or.inl ⟨rfl, congrArg (Option.map pCheck_E) hF⟩
                    · have hF := cneg h20 hF
                      refine obind hF fun y21 h22 hF => ?_
                      refine Or.inl ⟨_, pnext_h h22, rfl, ?_⟩
                      refine And.intro (fun h23 => ?_) (fun h23 => ?_)
                      · have hF := cpos h23 hF
                        exact Or.inl ⟨rfl, congrArg (Option.map pCheck_E) hF⟩
                      · have hF := cneg h23 hF
                        exact ⟨(fu1, (IntKind.i64.wrap (v4 + 1))), Nat.lt_succ_self _, hF, ⟨rfl, rfl, rfl, rfl, rfl, trivial⟩, trivial⟩
                  · have hF := cneg h17 hF
                    refine And.intro (by kernel_rfl) ?_
                    refine obind hF fun y24 h25 hF => ?_
                    refine Or.inl ⟨_, pnext_h h25, rfl, ?_⟩
                    refine And.intro (fun h26 => ?_) (fun h26 => ?_)
                    · have hF := cpos h26 hF
                      exact Or.inl ⟨rfl, congrArg (Option.map pCheck_E) hF⟩
                    · have hF := cneg h26 hF
                      exact ⟨(fu1, (IntKind.i64.wrap (v4 + 1))), Nat.lt_succ_self _, hF, ⟨rfl, rfl, rfl, rfl, rfl, trivial⟩, trivial⟩
      · have hF := cneg h5 hF
        exact Or.inl ⟨rfl, congrArg (Option.map pCheck_E) hF⟩
abbrev pCheck_S (l : List Off) : Option (Int × Int) := pCheck_F (l.length + 1) l
theorem pCheck_h {l : List Off} {r : Int × Int} (h : pCheck_S l = some r) : Holds Tryd.prog Gw 20 [.sl 5 (l.map cOff)] (pCheck_E r) := pCheck_Fh  h
abbrev pknown_E (y : (List (Int × Off)) × Bool) : CV := .tup [.mp (mpE (kInt .i64) eOff y.1), B y.2]
def pknown_F (l : List Off) (id : Int) : Option ((List (Int × Off)) × Bool) := Option.bind (pCheck_S l) fun y1 => bif (y1.2 != 0) then some (([] : List (Int × Off)), false) else (Option.bind (pFind_S l id) fun y4 => bif decide (y4 < 0) then some (([] : List (Int × Off)), false) else (Option.bind (pindex_S l) fun y7 => some (y7, true)))
set_option linter.unusedVariables false in
theorem pknown_Fh {l : List Off} {id : Int} {r : (List (Int × Off)) × Bool} (hF : pknown_F l id = some r) : Holds Tryd.prog Gw 32 [.sl 5 (l.map cOff), I id] (pknown_E r) := by
  refine holds_of_wq tabOk mixed Tryd.func32 (by decide) rfl (Nat.le_of_ble_eq_true rfl) ?_
  refine obind hF fun y1 h2 hF => ?_
  refine Or.inl ⟨_, pCheck_h h2, rfl, ?_⟩
  refine And.intro (fun h3 => ?_) (fun h3 => ?_)
  · have hF := cpos h3 hF
    exact Or.inl ⟨rfl, congrArg (Option.map pknown_E) hF⟩
  · have hF := cneg h3 hF
    refine obind hF fun y4 h5 hF => ?_
    refine Or.inl ⟨_, pFind_h h5, rfl, ?_⟩
    refine And.intro (fun h6 => ?_) (fun h6 => ?_)
    · have hF := cpos h6 hF
      exact Or.inl ⟨rfl, congrArg (Option.map pknown_E) hF⟩
    · have hF := cneg h6 hF
      refine obind hF fun y7 h8 hF => ?_
      refine Or.inl ⟨_, pindex_h h8, rfl, ?_⟩
      exact Or.inl ⟨rfl, congrArg (Option.map pknown_E) hF⟩
abbrev pknown_S (l : List Off) (id : Int) : Option ((List (Int × Off)) × Bool) := pknown_F l id
theorem pknown_h {l : List Off} {id : Int} {r : (List (Int × Off)) × Bool} (h : pknown_S l id = some r) : Holds Tryd.prog Gw 32 [.sl 5 (l.map cOff), I id] (pknown_E r) := pknown_Fh  h
abbrev pChain_E (y : List Int) : CV := .sl 1 (y.map cInt)
def pChain_L1 (day : Int) (y1 : (List (Int × Off)) × Bool) : Nat → List Int → Int → Str → Int → Int → List Int → Option (List Int)
  | 0, _, _, _, _, _, _ => none
  | fu1 + 1, out6, o_7, o_8, o_9, o_10, o_11 => bif decide (out6.length + ([o_7] : List Int).length ≤ 4294967296) then Option.bind (pin_S (⟨o_7, o_8, (⟨o_9, o_10⟩ : Span), o_11⟩ : Off) day) fun y12 => bif y12 then some ((out6 ++ ([o_7] : List Int))) else (bif (((o_11.map cInt).length : Int) == 0) then some ((out6 ++ ([o_7] : List Int))) else (Option.bind (ix o_11 0) fun x16 => Option.bind (mlk y1.1 x16 (⟨0, ([] : Str), (⟨0, 0⟩ : Span), ([] : List Int)⟩ : Off)) fun y18 => pChain_L1 day y1 fu1 (out6 ++ ([o_7] : List Int)) y18.ID y18.Name y18.In.From y18.In.Until y18.Next)) else none
def pChain_F (N : Nat) (l : List Off) (id : Int) (day : Int) : Option (List Int) := Option.bind (pknown_S l id) fun y1 => bif (!y1.2) then some (([] : List Int)) else (Option.bind (mlk y1.1 id (⟨0, ([] : Str), (⟨0, 0⟩ : Span), ([] : List Int)⟩ : Off)) fun y4 => pChain_L1 day y1 N ([] : List Int) y4.ID y4.Name y4.In.From y4.In.Until y4.Next)
set_option linter.unusedVariables false in
theorem pChain_Fh {N : Nat} {l : List Off} {id : Int} {day : Int} {r : List Int} (hF : pChain_F N l id day = some r) : Holds Tryd.prog Gw 14 [.sl 5 (l.map cOff), I id, I day] (pChain_E r) := by
  refine holds_of_wq tabOk mixed Tryd.func14 (by decide) rfl (Nat.le_of_ble_eq_true rfl) ?_
  refine Or.inl ?_
  refine obind hF fun y1 h2 hF => ?_
  refine Or.inl ⟨_, pknown_h h2, rfl, ?_⟩
  refine And.intro (fun h3 => ?_) (fun h3 => ?_)
  · have hF := cpos h3 hF
    refine Or.inl ?_
    exact Or.inl ⟨rfl, congrArg (Option.map pChain_E) hF⟩
  · have hF := cneg h3 hF
    refine Or.inl ?_
    refine obind hF fun y4 h5 hF => ?_
    refine Or.inr ⟨[], 0, _, _, _, _, rfl, rfl, eff_mlkC (ev := eOff) (z := (⟨0, ([] : Str), (⟨0, 0⟩ : Span), ([] : List Int)⟩ : Off)) (m := y1.1) (x := id) tok52.u tok3.u (keyInt .i64) tok40 rfl h5, rfl, ?_⟩
    refine Or.inl ?_
    refine loop_oq (fun p : Nat × List Int × Int × Str × Int × Int × List Int => [(2, .c (I day)), (7, .c (.mp (mpE (kInt .i64) eOff y1.1))), (9, .ap 9 0 1 (p.2.1.map cInt)), (10, .pm 10 0 0)]) (fun p : Nat × List Int × Int × Str × Int × Int × List Int => [(9, .tok 3 1), (10, .var [I p.2.2.1, S p.2.2.2.1, I p.2.2.2.2.1, I p.2.2.2.2.2.1, .sl 1 (p.2.2.2.2.2.2.map cInt)])]) (fun p => pChain_L1 day y1 p.1 p.2.1 p.2.2.1 p.2.2.2.1 p.2.2.2.2.1 p.2.2.2.2.2.1 p.2.2.2.2.2.2 = some r) (fun p => p.1) (N, ([] : List Int), y4.ID, y4.Name, y4.In.From, y4.In.Until, y4.Next) hF ⟨rfl, rfl, rfl, rfl, trivial⟩ ⟨rfl, rfl, trivial⟩ ?_
    rintro ⟨fu1, out6, o_7, o_8, o_9, o_10, o_11⟩ hF
    cases fu1 with
    | zero => exact nomatch hF
    | succ fu1 =>
      refine join_no ?_
      refine Or.inl ?_
      refine gpos hF fun h20 hF => ?_
      refine Or.inl ⟨len_all rfl, app_le h20, (out6 ++ ([o_7] : List Int)).map cInt, map_app _ _ _, ?_⟩
      refine obind hF fun y12 h13 hF => ?_
      refine Or.inl ⟨_, pin_h h13, rfl, ?_⟩
      refine And.intro (fun h14 => ?_) (fun h14 => ?_)
      · have hF := cpos h14 hF
        exact Or.inl ⟨rfl, congrArg (Option.map pChain_E) hF⟩
      · have hF := cneg h14 hF
        refine And.intro (fun h15 => ?_) (fun h15 => ?_)
        · have hF := cpos h15 hF
          exact Or.inl ⟨rfl, congrArg (Option.map pChain_E) hF⟩
        · have hF := cneg h15 hF
          refine Or.inl ?_
          refine obind hF fun x16 h17 hF => ?_
          refine ⟨ix_nn h17, .inl rfl, _, ix_map cInt h17, ?_⟩
          refine obind hF fun y18 h19 hF => ?_
          refine Or.inr ⟨[], 0, _, _, _, _, rfl, rfl, eff_mlkC (ev := eOff) (z := (⟨0, ([] : Str), (⟨0, 0⟩ : Span), ([] : List Int)⟩ : Off)) (m := y1.1) (x := x16) tok52.u tok3.u (keyInt .i64) tok40 rfl h19, rfl, ?_⟩
          exact ⟨(fu1, (out6 ++ ([o_7] : List Int)), y18.ID, y18.Name, y18.In.From, y18.In.Until, y18.Next), Nat.lt_succ_self _, hF, ⟨rfl, rfl, rfl, rfl, trivial⟩, ⟨rfl, rfl, trivial⟩⟩
abbrev pChain_S (l : List Off) (id : Int) (day : Int) : Option (List Int) := pChain_F 1000 l id day
theorem pChain_h {l : List Off} {id : Int} {day : Int} {r : List Int} (h : pChain_S l id day = some r) : Holds Tryd.prog Gw 14 [.sl 5 (l.map cOff), I id, I day] (pChain_E r) := pChain_Fh  h
abbrev pHeir_E (y : Int × Bool) : CV := .tup [I y.1, B y.2]
def pHeir_F (l : List Off) (id : Int) (day : Int) : Option (Int × Bool) := Option.bind (pChain_S l id day) fun y1 => bif (((y1.map cInt).length : Int) == 0) then some (0, false) else (Option.bind (ix y1 (IntKind.i64.wrap (((y1.map cInt).length : Int) - 1))) fun x4 => Option.bind (pFind_S l x4) fun y6 => Option.bind (ix l y6) fun x8 => Option.bind (pin_S x8 day) fun y10 => bif (!y10) then some (0, false) else some (x4, true))
set_option linter.unusedVariables false in
theorem pHeir_Fh {l : List Off} {id : Int} {day : Int} {r : Int × Bool} (hF : pHeir_F l id day = some r) : Holds Tryd.prog Gw 11 [.sl 5 (l.map cOff), I id, I day] (pHeir_E r) := by
  refine holds_of_wq tabOk mixed Tryd.func11 (by decide) rfl (Nat.le_of_ble_eq_true rfl) ?_
  refine obind hF fun y1 h2 hF => ?_
  refine Or.inl ⟨_, pChain_h h2, rfl, ?_⟩
  refine And.intro (fun h3 => ?_) (fun h3 => ?_)
  · have hF := cpos h3 hF
    exact Or.inl ⟨rfl, congrArg (Option.map pHeir_E) hF⟩
  · have hF := cneg h3 hF
    refine obind hF fun x4 h5 hF => ?_
    refine ⟨ix_nn h5, .inl rfl, _, ix_map cInt h5, ?_⟩
    refine obind hF fun y6 h7 hF => ?_
    refine Or.inl ⟨_, pFind_h h7, rfl, ?_⟩
    refine obind hF fun x8 h9 hF => ?_
    refine ⟨ix_nn h9, .inl rfl, _, ix_map cOff h9, ?_⟩
    refine obind hF fun y10 h11 hF => ?_
    refine Or.inl ⟨_, pin_h h11, rfl, ?_⟩
    refine And.intro (fun h12 => ?_) (fun h12 => ?_)
    · have hF := cpos h12 hF
      exact Or.inl ⟨rfl, congrArg (Option.map pHeir_E) hF⟩
    · have hF := cneg h12 hF
      exact Or.inl ⟨rfl, congrArg (Option.map pHeir_E) hF⟩
abbrev pHeir_S (l : List Off) (id : Int) (day : Int) : Option (Int × Bool) := pHeir_F l id day
theorem pHeir_h {l : List Off} {id : Int} {day : Int} {r : Int × Bool} (h : pHeir_S l id day = some r) : Holds Tryd.prog Gw 11 [.sl 5 (l.map cOff), I id, I day] (pHeir_E r) := pHeir_Fh  h
def pReach_1_L1 (u2 : List (Int × Off)) (y4 : Off) (self_ : Int → List Int → List (Int × Off) → Option (List Int)) : Nat → Int → List Int → Option (List Int)
  | 0, _, _ => none
  | fu1 + 1, v6, v7 => bif decide (v6 < ((y4.Next.map cInt).length : Int)) then (Option.bind (ix y4.Next v6) fun x9 => Option.bind (self_ x9 v7 u2) fun y11 => pReach_1_L1 u2 y4 self_ fu1 (IntKind.i64.wrap (v6 + 1)) y11) else some (v7)
def pReach_1_F : Nat → Int → List Int → List (Int × Off) → Option (List Int)
  | 0, _, _, _ => none
  | N + 1, id, o1, u2 => Option.bind (slContains_S o1 id) fun y1 => bif y1 then some (o1) else (bif decide (o1.length + ([id] : List Int).length ≤ 4294967296) then Option.bind (mlk u2 id (⟨0, ([] : Str), (⟨0, 0⟩ : Span), ([] : List Int)⟩ : Off)) fun y4 => pReach_1_L1 u2 y4 (pReach_1_F N) N 0 (o1 ++ ([id] : List Int)) else none)
set_option linter.unusedVariables false in
theorem pReach_1_XFh : ∀ (N : Nat) (id : Int) (o1 : List Int) (u2 : List (Int × Off)) (r : List Int), pReach_1_F N id o1 u2 = some r → EffFn Tryd.prog Gw 34 [.c (I id), .pm 0 0 0, .pm 2 0 0, .pm 3 0 0] [(0, .varx [.rs 1 0]), (0, .arr 3 1 (o1.map cInt) none), (0, .var [.mp (mpE (kInt .i64) eOff u2)]), (0, .varx [.fr 34 [.pr 0 0 0, .pr 2 0 0, .pr 3 0 0]])] (.c (.tup [])) [(0, .varx [.rs 1 1]), (1, .arr 3 1 (r.map cInt) none), (0, .var [.mp (mpE (kInt .i64) eOff u2)]), (0, .varx [.fr 34 [.pr 0 0 0, .pr 2 0 0, .pr 3 0 0]])] := by
  intro N
  induction N with
  | zero => intro id o1 u2 r hF; exact nomatch hF
  | succ N ih =>
    intro id o1 u2 r hF
    refine effn_of_wq tabOk mixed Tryd.func34 (by decide) rfl (Nat.le_of_ble_eq_true rfl) rfl ?_
    refine Or.inl ?_
    refine obind hF fun y1 h2 hF => ?_
    refine Or.inl ⟨_, slContains_h h2, rfl, ?_⟩
    refine And.intro (fun h3 => ?_) (fun h3 => ?_)
    · have hF := cpos h3 hF
      refine ret_eq (p := fun r => effFin tab _ 4 (.c (.tup [])) [(0, .varx [.rs 1 1]), (1, .arr 3 1 (r.map cInt) none), (0, .var [.mp (mpE (kInt .i64) eOff u2)]), (0, .varx [.fr 34 [.pr 0 0 0, .pr 2 0 0, .pr 3 0 0]])] _) hF ?_
      exact ⟨[(4294967296, 0), (4295032832, 0), (4295098368, 0), (4295163904, 0)], [0, 1, 0, 0], rfl, rfl, rfl⟩
    · have hF := cneg h3 hF
      refine Or.inl ?_
      refine Or.inl ?_
      refine gpos hF fun h13 hF => ?_
      refine Or.inl ⟨len_all rfl, app_le h13, (o1 ++ ([id] : List Int)).map cInt, map_app _ _ _, ?_⟩
      refine Or.inl ?_
      refine obind hF fun y4 h5 hF => ?_
      refine Or.inr ⟨[], 0, _, _, _, _, rfl, rfl, eff_mlkC (ev := eOff) (z := (⟨0, ([] : Str), (⟨0, 0⟩ : Span), ([] : List Int)⟩ : Off)) (m := u2) (x := id) tok52.u tok3.u (keyInt .i64) tok40 rfl h5, rfl, ?_⟩
      refine loop_oq (fun p : Nat × Int × List Int => [(3, .pm 4295163904 0 0), (17, .c (.sl 1 (y4.Next.map cInt))), (18, .c (I ((y4.Next.map cInt).length : Int))), (19, .c (I p.2.1))]) (fun p : Nat × Int × List Int => [(4295163904, .varx [.fr 34 [.pr 4294967296 0 0, .pr 4295098368 0 0, .pr 4295163904 0 0]]), (4294967296, .varx [.rs 13 0]), (4295098368, .var [.mp (mpE (kInt .i64) eOff u2)]), (13, .arr 3 1 (p.2.2.map cInt) none)]) (fun p => pReach_1_L1 u2 y4 (pReach_1_F N) p.1 p.2.1 p.2.2 = some r) (fun p => p.1) (N, 0, (o1 ++ ([id] : List Int))) hF ⟨rfl, rfl, rfl, rfl, trivial⟩ ⟨rfl, rfl, rfl, rfl, trivial⟩ ?_
      rintro ⟨fu1, v6, v7⟩ hF
      cases fu1 with
      | zero => exact nomatch hF
      | succ fu1 =>
        refine join_no ?_
        refine And.intro (fun h8 => ?_) (fun h8 => ?_)
        · have hF := cpos h8 hF
          refine join_no ?_
          refine obind hF fun x9 h10 hF => ?_
          refine ⟨ix_nn h10, .inl rfl, _, ix_map cInt h10, ?_⟩
          refine Or.inl ?_
          refine obind hF fun y11 h12 hF => ?_
          refine Or.inr (⟨[(4294967296, 0), (13, 0), (4295098368, 0), (4295163904, 0)], 0, _, _, _, _, rfl, rfl, eff_call rfl (Or.inl rfl) (ih _ _ _ _ h12), rfl, ?_⟩)
          exact ⟨(fu1, (IntKind.i64.wrap (v6 + 1)), y11), Nat.lt_succ_self _, hF, ⟨rfl, rfl, rfl, rfl, trivial⟩, ⟨rfl, rfl, rfl, rfl, trivial⟩⟩
        · have hF := cneg h8 hF
          refine ret_eq (p := fun r => effFin tab _ 4 (.c (.tup [])) [(0, .varx [.rs 1 1]), (1, .arr 3 1 (r.map cInt) none), (0, .var [.mp (mpE (kInt .i64) eOff u2)]), (0, .varx [.fr 34 [.pr 0 0 0, .pr 2 0 0, .pr 3 0 0]])] _) hF ?_
          exact ⟨[(4294967296, 0), (13, 0), (4295098368, 0), (4295163904, 0)], [0, 1, 0, 0], rfl, rfl, rfl⟩
abbrev pReach_1_XS (id : Int) (o1 : List Int) (u2 : List (Int × Off)) : Option (List Int) := pReach_1_F 1000 id o1 u2
theorem pReach_1_Xh {id : Int} {o1 : List Int} {u2 : List (Int × Off)} {r : List Int} (h : pReach_1_XS id o1 u2 = some r) : EffFn Tryd.prog Gw 34 [.c (I id), .pm 0 0 0, .pm 2 0 0, .pm 3 0 0] [(0, .varx [.rs 1 0]), (0, .arr 3 1 (o1.map cInt) none), (0, .var [.mp (mpE (kInt .i64) eOff u2)]), (0, .varx [.fr 34 [.pr 0 0 0, .pr 2 0 0, .pr 3 0 0]])] (.c (.tup [])) [(0, .varx [.rs 1 1]), (1, .arr 3 1 (r.map cInt) none), (0, .var [.mp (mpE (kInt .i64) eOff u2)]), (0, .varx [.fr 34 [.pr 0 0 0, .pr 2 0 0, .pr 3 0 0]])] := pReach_1_XFh _ _ _ _ _ h
abbrev pReach_E (y : List Int) : CV := .sl 1 (y.map cInt)
def pReach_F (l : List Off) (id : Int) : Option (List Int) := Option.bind (pknown_S l id) fun y1 => bif (!y1.2) then some (([] : List Int)) else (Option.bind (pReach_1_XS id ([] : List Int) y1.1) fun y4 => Option.bind (slSortI_XS y4) fun y6 => some (y6))
set_option linter.unusedVariables false in
theorem pReach_Fh {l : List Off} {id : Int} {r : List Int} (hF : pReach_F l id = some r) : Holds Tryd.prog Gw 16 [.sl 5 (l.map cOff), I id] (pReach_E r) := by
  refine holds_of_wq tabOk mixed Tryd.func16 (by decide) rfl (Nat.le_of_ble_eq_true rfl) ?_
  refine Or.inl ?_
  refine obind hF fun y1 h2 hF => ?_
  refine Or.inl ⟨_, pknown_h h2, rfl, ?_⟩
  refine Or.inl ?_
  refine And.intro (fun h3 => ?_) (fun h3 => ?_)
  · have hF := cpos h3 hF
    refine Or.inl ?_
    exact Or.inl ⟨rfl, congrArg (Option.map pReach_E) hF⟩
  · have hF := cneg h3 hF
    refine Or.inr ⟨[], 0, _, _, _, _, rfl, rfl, eff_allocS (e := 3) (ie := ti3) tok28 rfl rfl (by decide), rfl, ?_⟩
    refine Or.inl ?_
    refine Or.inl ?_
    refine Or.inl ?_
    refine obind hF fun y4 h5 hF => ?_
    refine Or.inr (⟨[(7, 1), (65543, 1), (5, 1), (8, 1)], 0, _, _, _, _, rfl, rfl, eff_call rfl (Or.inl rfl) (pReach_1_Xh h5), rfl, ?_⟩)
    refine Or.inl ?_
    refine obind hF fun y6 h7 hF => ?_
    refine Or.inr (Or.inr ⟨[(65543, 2)], 0, _, _, _, _, rfl, rfl, eff_call rfl (Or.inr ⟨_, rfl, rfl⟩) (slSortI_Xh h7), rfl, ?_⟩)
    refine Or.inl ?_
    refine ret_eq (p := fun r => resFin tab _ (pReach_E r) _) hF ?_
    exact Or.inr ⟨rfl, _, rfl, rfl⟩
abbrev pReach_S (l : List Off) (id : Int) : Option (List Int) := pReach_F l id
theorem pReach_h {l : List Off} {id : Int} {r : List Int} (h : pReach_S l id = some r) : Holds Tryd.prog Gw 16 [.sl 5 (l.map cOff), I id] (pReach_E r) := pReach_Fh  h
abbrev pDuties_E (y : List Int) : CV := .sl 1 (y.map cInt)
def pDuties_L1 (l : List Off) (id : Int) (day : Int) : Nat → List Int → Int → Option (List Int)
  | 0, _, _ => none
  | fu1 + 1, out4, v5 => bif decide (v5 < ((l.map cOff).length : Int)) then (Option.bind (ix l v5) fun x7 => Option.bind (pHeir_S l x7.ID day) fun y9 => bif y9.2 then (bif (y9.1 == id) then (bif decide (out4.length + ([x7.ID] : List Int).length ≤ 4294967296) then pDuties_L1 l id day fu1 (out4 ++ ([x7.ID] : List Int)) (IntKind.i64.wrap (v5 + 1)) else none) else pDuties_L1 l id day fu1 out4 (IntKind.i64.wrap (v5 + 1))) else pDuties_L1 l id day fu1 out4 (IntKind.i64.wrap (v5 + 1))) else some (out4)
def pDuties_F (N : Nat) (l : List Off) (id : Int) (day : Int) : Option (List Int) := Option.bind (pknown_S l id) fun y1 => bif (!y1.2) then some (([] : List Int)) else pDuties_L1 l id day N ([] : List Int) 0
set_option linter.unusedVariables false in
theorem pDuties_Fh {N : Nat} {l : List Off} {id : Int} {day : Int} {r : List Int} (hF : pDuties_F N l id day = some r) : Holds Tryd.prog Gw 18 [.sl 5 (l.map cOff), I id, I day] (pDuties_E r) := by
  refine holds_of_wq tabOk mixed Tryd.func18 (by decide) rfl (Nat.le_of_ble_eq_true rfl) ?_
  refine Or.inl ?_
  refine obind hF fun y1 h2 hF => ?_
  refine Or.inl ⟨_, pknown_h h2, rfl, ?_⟩
  refine And.intro (fun h3 => ?_) (fun h3 => ?_)
  · have hF := cpos h3 hF
    refine Or.inl ?_
    exact Or.inl ⟨rfl, congrArg (Option.map pDuties_E) hF⟩
  · have hF := cneg h3 hF
    refine Or.inl ?_
    refine loop_oq (fun p : Nat × List Int × Int => [(0, .c (.sl 5 (l.map cOff))), (1, .c (I id)), (2, .c (I day)), (9, .ap 9 0 1 (p.2.1.map cInt)), (22, .c (.sl 5 (l.map cOff))), (23, .c (I ((l.map cOff).length : Int))), (24, .c (I p.2.2))]) (fun p : Nat × List Int × Int => [(9, .tok 3 1)]) (fun p => pDuties_L1 l id day p.1 p.2.1 p.2.2 = some r) (fun p => p.1) (N, ([] : List Int), 0) hF ⟨rfl, rfl, rfl, rfl, rfl, rfl, rfl, trivial⟩ ⟨rfl, trivial⟩ ?_
    rintro ⟨fu1, out4, v5⟩ hF
    cases fu1 with
    | zero => exact nomatch hF
    | succ fu1 =>
      refine join_no ?_
      refine And.intro (fun h6 => ?_) (fun h6 => ?_)
      · have hF := cpos h6 hF
        refine join_no ?_
        refine obind hF fun x7 h8 hF => ?_
        refine ⟨ix_nn h8, .inl rfl, _, ix_map cOff h8, ?_⟩
        refine Or.inl ?_
        refine obind hF fun y9 h10 hF => ?_
        refine Or.inl ⟨_, pHeir_h h10, rfl, ?_⟩
        refine And.intro (fun h11 => ?_) (fun h11 => ?_)
        · have hF := cpos h11 hF
          refine And.intro (fun h12 => ?_) (fun h12 => ?_)
          · have hF := cpos h12 hF
            refine Or.inl ?_
            refine gpos hF fun h13 hF => ?_
            refine Or.inl ⟨len_all rfl, app_le h13, (out4 ++ ([x7.ID] : List Int)).map cInt, map_app _ _ _, ?_⟩
            exact ⟨(fu1, (out4 ++ ([x7.ID] : List Int)), (IntKind.i64.wrap (v5 + 1))), Nat.lt_succ_self _, hF, ⟨rfl, rfl, rfl, rfl, rfl, rfl, rfl, trivial⟩, ⟨rfl, trivial⟩⟩
          · have hF := cneg h12 hF
            exact ⟨(fu1, out4, (IntKind.i64.wrap (v5 + 1))), Nat.lt_succ_self _, hF, ⟨rfl, rfl, rfl, rfl, rfl, rfl, rfl, trivial⟩, ⟨rfl, trivial⟩⟩
        · have hF := cneg h11 hF
          exact ⟨(fu1, out4, (IntKind.i64.wrap (v5 + 1))), Nat.lt_succ_self _, hF, ⟨rfl, rfl, rfl, rfl, rfl, rfl, rfl, trivial⟩, ⟨rfl, trivial⟩⟩
      · have hF := cneg h6 hF
        exact Or.inl ⟨rfl, congrArg (Option.map pDuties_E) hF⟩
abbrev pDuties_S (l : List Off) (id : Int) (day : Int) : Option (List Int) := pDuties_F (l.length + 1) l id day
theorem pDuties_h {l : List Off} {id : Int} {day : Int} {r : List Int} (h : pDuties_S l id day = some r) : Holds Tryd.prog Gw 18 [.sl 5 (l.map cOff), I id, I day] (pDuties_E r) := pDuties_Fh  h
end Go.Proofs.YtmcolhhmlpicaaaDoor
