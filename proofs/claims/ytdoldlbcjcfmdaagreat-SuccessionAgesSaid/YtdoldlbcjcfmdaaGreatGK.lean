/- Functions of the program as functions of Lean, each with its contract (printed by a program). -/
import Derived.Test.YtdoldlbcjcfmdaaGreatGI
namespace Go.Proofs.YtdoldlbcjcfmdaaGreat
open Go Go.Abs
set_option maxRecDepth 10000
set_option maxHeartbeats 400000
abbrev qgeneration_E (y : Int) : CV := I y
def qgeneration_L1 (l : List Aut) (y1 : List Int) (self_ : List Aut → Int → Option (Int)) : Nat → Int → Int → Option (Int)
  | 0, _, _ => none
  | fu1 + 1, out3, i4 => bif decide (i4 < ((y1.map cInt).length : Int)) then (Option.bind (ix y1 i4) fun x6 => Option.bind (self_ l x6) fun y8 => qgeneration_L1 l y1 self_ fu1 (if out3 < (IntKind.i64.wrap (y8 + 1)) then (IntKind.i64.wrap (y8 + 1)) else out3) (IntKind.i64.wrap (i4 + 1))) else some (out3)
def qgeneration_F : Nat → List Aut → Int → Option (Int)
  | 0, _, _ => none
  | N + 1, l, id => Option.bind (qbefore_S l id) fun y1 => qgeneration_L1 l y1 (qgeneration_F N) N 0 0
set_option linter.unusedVariables false in
theorem qgeneration_Fh : ∀ (N : Nat) (l : List Aut) (id : Int) (r : Int), qgeneration_F N l id = some r → Holds Tryz.prog Gw 53 [.sl 6 (l.map cAut), I id] (qgeneration_E r) := by
  intro N
  induction N with
  | zero => intro l id r hF; exact nomatch hF
  | succ N ih =>
    intro l id r hF
    refine holds_of_wq tabOk mixed Tryz.func53 (by decide) rfl (Nat.le_of_ble_eq_true rfl) ?_
    refine obind hF fun y1 h2 hF => ?_
    refine Or.inl ⟨_, qbefore_h h2, rfl, ?_⟩
    refine loop_oq (fun p : Nat × Int × Int => [(0, .c (.sl 6 (l.map cAut))), (5, .c (I p.2.1)), (6, .c (.sl 1 (y1.map cInt))), (7, .c (I p.2.2))]) (fun _ => []) (fun p => qgeneration_L1 l y1 (qgeneration_F N) p.1 p.2.1 p.2.2 = some r) (fun p => p.1) (N, 0, 0) hF ⟨rfl, rfl, rfl, rfl, trivial⟩ trivial ?_
    rintro ⟨fu1, out3, i4⟩ hF
    cases fu1 with
    | zero => exact nomatch hF
    | succ fu1 =>
      refine And.intro (fun h5 => ?_) (fun h5 => ?_)
      · have hF := cpos h5 hF
        refine join_no ?_
        refine obind hF fun x6 h7 hF => ?_
        refine ⟨ix_nn h7, .inl rfl, _, ix_map cInt h7, ?_⟩
        refine obind hF fun y8 h9 hF => ?_
        refine Or.inl ⟨_, ih _ _ _ h9, rfl, ?_⟩
        exact ⟨(fu1, (if out3 < (IntKind.i64.wrap (y8 + 1)) then (IntKind.i64.wrap (y8 + 1)) else out3), (IntKind.i64.wrap (i4 + 1))), Nat.lt_succ_self _, hF, ⟨rfl, rfl, rfl, rfl, trivial⟩, trivial⟩
      · have hF := cneg h5 hF
        exact Or.inl ⟨rfl, congrArg (Option.map qgeneration_E) hF⟩
abbrev qgeneration_S (l : List Aut) (id : Int) : Option (Int) := qgeneration_F 1000 l id
theorem qgeneration_h {l : List Aut} {id : Int} {r : Int} (h : qgeneration_S l id = some r) : Holds Tryz.prog Gw 53 [.sl 6 (l.map cAut), I id] (qgeneration_E r) := qgeneration_Fh _ _ _ _ h
abbrev qGenerations_E (y : List (List Int) × Int) : CV := .tup [.sl 1 (y.1.map cSl_Int), I y.2]
def qGenerations_L2 (l : List Aut) (i4 : Int) (y9 : Int) (k_1 : Int → List (List Int) → Option (List (List Int) × Int)) : Nat → List (List Int) → Option (List (List Int) × Int)
  | 0, _ => none
  | fu2 + 1, out11 => bif decide ((out11.length : Int) ≤ y9) then (bif decide (out11.length + ([[]] : List (List Int)).length ≤ 4294967296) then qGenerations_L2 l i4 y9 k_1 fu2 (out11 ++ ([[]] : List (List Int))) else none) else (Option.bind (ix out11 y9) fun x14 => Option.bind (ix l i4) fun x16 => bif decide (x14.length + ([x16.ID] : List Int).length ≤ 4294967296) then k_1 (IntKind.i64.wrap (i4 + 1)) (out11.set (y9).toNat (x14 ++ ([x16.ID] : List Int))) else none)
def qGenerations_L1 (l : List Aut) (N : Nat) : Nat → Int → List (List Int) → Option (List (List Int) × Int)
  | 0, _, _ => none
  | fu1 + 1, i4, out5 => bif decide (i4 < ((l.map cAut).length : Int)) then (Option.bind (ix l i4) fun x7 => Option.bind (qgeneration_S l x7.ID) fun y9 => qGenerations_L2 l i4 y9 (fun q_i4 q_out5 => qGenerations_L1 l N fu1 q_i4 q_out5) N out5) else some (out5, 0)
def qGenerations_F (N : Nat) (l : List Aut) : Option (List (List Int) × Int) := Option.bind (rRight_S l) fun y1 => bif (!y1) then some (([] : List (List Int)), 1) else qGenerations_L1 l N N 0 ([] : List (List Int))
set_option linter.unusedVariables false in
theorem qGenerations_Fh {N : Nat} {l : List Aut} {r : List (List Int) × Int} (hF : qGenerations_F N l = some r) : Holds Tryz.prog Gw 23 [.sl 6 (l.map cAut)] (qGenerations_E r) := by
  refine holds_of_wq tabOk mixed Tryz.func23 (by decide) rfl (Nat.le_of_ble_eq_true rfl) ?_
  refine Or.inl ?_
  refine obind hF fun y1 h2 hF => ?_
  refine Or.inl ⟨_, rRight_h h2, rfl, ?_⟩
  refine And.intro (fun h3 => ?_) (fun h3 => ?_)
  · have hF := cpos h3 hF
    refine Or.inl ?_
    exact Or.inl ⟨rfl, congrArg (Option.map qGenerations_E) hF⟩
  · have hF := cneg h3 hF
    refine Or.inr ⟨[], 0, _, _, _, _, rfl, rfl, eff_nnilT (eo := 25) (ei := 3) (sz := 1) (cf := cInt) (by decide), rfl, ?_⟩
    refine loop_oq (fun p : Nat × Int × List (List Int) => [(0, .c (.sl 6 (l.map cAut))), (4, .xr 4 0), (5, .c (I p.2.1))]) (fun p : Nat × Int × List (List Int) => [(4, .ext (nestK 25 3 1 (nrows cInt p.2.2) none) [])]) (fun p => qGenerations_L1 l N p.1 p.2.1 p.2.2 = some r) (fun p => p.1) (N, 0, ([] : List (List Int))) hF ⟨rfl, rfl, rfl, trivial⟩ ⟨rfl, trivial⟩ ?_
    rintro ⟨fu1, i4, out5⟩ hF
    cases fu1 with
    | zero => exact nomatch hF
    | succ fu1 =>
      refine And.intro (fun h6 => ?_) (fun h6 => ?_)
      · have hF := cpos h6 hF
        refine join_no ?_
        refine obind hF fun x7 h8 hF => ?_
        refine ⟨ix_nn h8, .inl rfl, _, ix_map cAut h8, ?_⟩
        refine obind hF fun y9 h10 hF => ?_
        refine Or.inl ⟨_, qgeneration_h h10, rfl, ?_⟩
        refine join_no ?_
        refine loop_oq (fun p : Nat × List (List Int) => [(0, .c (.sl 6 (l.map cAut))), (4, .xr 4 0), (5, .c (I i4)), (6, .c (I y9))]) (fun p : Nat × List (List Int) => [(4, .ext (nestK 25 3 1 (nrows cInt p.2) none) [])]) (fun p => qGenerations_L2 l i4 y9 (fun q_i4 q_out5 => qGenerations_L1 l N fu1 q_i4 q_out5) p.1 p.2 = some r) (fun p => p.1) (N, out5) hF ⟨rfl, rfl, rfl, rfl, trivial⟩ ⟨rfl, trivial⟩ ?_
        rintro ⟨fu2, out11⟩ hF
        cases fu2 with
        | zero => exact nomatch hF
        | succ fu2 =>
          refine Or.inr ⟨[(4, 0)], 0, _, _, _, _, rfl, rfl, eff_nlenT (cf := cInt) tok35.u, rfl, ?_⟩
          refine And.intro (fun h12 => ?_) (fun h12 => ?_)
          · have hF := cpos h12 hF
            refine Or.inr ⟨[], 0, _, _, _, _, rfl, rfl, eff_nlitT (eo := 25) (ei := 3) (sz := 1) (cf := cInt) tok35.u tok25 rfl (by decide), rfl, ?_⟩
            refine gpos hF fun h13 hF => ?_
            refine Or.inr ⟨[(4, 0), (28, 1)], 0, _, _, _, _, rfl, rfl, eff_nappT (cf := cInt) (l := out11) (l2 := ([[]] : List (List Int))) tok35.u tok25 rfl (by decide) h13, rfl, ?_⟩
            exact ⟨(fu2, (out11 ++ ([[]] : List (List Int)))), Nat.lt_succ_self _, hF, ⟨rfl, rfl, rfl, rfl, trivial⟩, ⟨rfl, trivial⟩⟩
          · have hF := cneg h12 hF
            refine obind hF fun x14 h15 hF => ?_
            refine Or.inr ⟨[(4, 0)], 0, _, _, _, _, rfl, rfl, eff_nidxT (cf := cInt) tok35.u tok25 rfl h15, rfl, ?_⟩
            refine Or.inr ⟨[(4, 0)], 0, _, _, _, _, rfl, rfl, eff_ntakeT (cf := cInt) tok25 rfl h15, rfl, ?_⟩
            refine obind hF fun x16 h17 hF => ?_
            refine ⟨ix_nn h17, .inl rfl, _, ix_map cAut h17, ?_⟩
            refine Or.inl ?_
            refine gpos hF fun h18 hF => ?_
            refine Or.inr ⟨[(65571, 1)], 0, _, _, _, _, rfl, rfl, eff_append (cf := cInt) (l := x14) (ns := ([x16.ID] : List Int)) tok25.u tok3 (by decide) (by decide) (fun _ => rfl) h18, rfl, ?_⟩
            refine Or.inr ⟨[(4, 0)], 0, _, _, _, _, rfl, rfl, eff_nidxT (cf := cInt) tok35.u tok25 rfl h15, rfl, ?_⟩
            refine Or.inr ⟨[(4, 0), (65571, 2)], 0, _, _, _, _, rfl, rfl, eff_nputT (cf := cInt) (r := (x14 ++ ([x16.ID] : List Int))) tok25 rfl h15, rfl, ?_⟩
            refine And.intro (by kernel_rfl) ?_
            exact ⟨(fu1, (IntKind.i64.wrap (i4 + 1)), (out11.set (y9).toNat (x14 ++ ([x16.ID] : List Int)))), Nat.lt_succ_self _, hF, ⟨rfl, rfl, rfl, trivial⟩, ⟨rfl, trivial⟩⟩
      · have hF := cneg h6 hF
        refine ret_eq (p := fun r => resFin tab _ (qGenerations_E r) _) hF ?_
        exact Or.inr ⟨⟨⟨rfl, nest_cl (csl := cSl_Int) fun _ => rfl⟩, rfl, rfl⟩, by decide⟩
abbrev qGenerations_S (l : List Aut) : Option (List (List Int) × Int) := qGenerations_F 1000 l
theorem qGenerations_h {l : List Aut} {r : List (List Int) × Int} (h : qGenerations_S l = some r) : Holds Tryz.prog Gw 23 [.sl 6 (l.map cAut)] (qGenerations_E r) := qGenerations_Fh  h
abbrev lSuccessionAges_E (y : Bool) : CV := B y
def lSuccessionAges_F (l : List Aut) : Option (Bool) := Option.bind (lawake_S) fun y1 => bif (!y1) then (Option.bind (lawake_S) fun y4 => some (y4)) else (Option.bind (rFew_S l) fun y6 => bif (!y6) then (Option.bind (lawake_S) fun y9 => some (y9)) else (Option.bind (rCopy_S l) fun y11 => Option.bind (sGenerations_S y11) fun y13 => Option.bind (qGenerations_S l) fun y15 => Option.bind (qSame_S y13.1 y15.1) fun y17 => bif y17 then some ((y13.2 == y15.2)) else some (false)))
set_option linter.unusedVariables false in
theorem lSuccessionAges_Fh {l : List Aut} {r : Bool} (hF : lSuccessionAges_F l = some r) : Holds Tryz.prog Gw 5 [.sl 6 (l.map cAut)] (lSuccessionAges_E r) := by
  refine holds_of_wq tabOk mixed Tryz.func5 (by decide) rfl (Nat.le_of_ble_eq_true rfl) ?_
  refine obind hF fun y1 h2 hF => ?_
  refine Or.inl ⟨_, lawake_h h2, rfl, ?_⟩
  refine And.intro (fun h3 => ?_) (fun h3 => ?_)
  · have hF := cpos h3 hF
    refine obind hF fun y4 h5 hF => ?_
    refine Or.inl ⟨_, lawake_h h5, rfl, ?_⟩
    exact Or.inl ⟨rfl, congrArg (Option.map lSuccessionAges_E) hF⟩
  · have hF := cneg h3 hF
    refine obind hF fun y6 h7 hF => ?_
    refine Or.inl ⟨_, rFew_h h7, rfl, ?_⟩
    refine And.intro (fun h8 => ?_) (fun h8 => ?_)
    · have hF := cpos h8 hF
      refine obind hF fun y9 h10 hF => ?_
      refine Or.inl ⟨_, lawake_h h10, rfl, ?_⟩
      exact Or.inl ⟨rfl, congrArg (Option.map lSuccessionAges_E) hF⟩
    · have hF := cneg h8 hF
      refine obind hF fun y11 h12 hF => ?_
      refine Or.inl ⟨_, rCopy_h h12, rfl, ?_⟩
      refine obind hF fun y13 h14 hF => ?_
      refine Or.inl ⟨_, sGenerations_h h14, rfl, ?_⟩
      refine obind hF fun y15 h16 hF => ?_
      refine Or.inl ⟨_, qGenerations_h h16, rfl, ?_⟩
      refine obind hF fun y17 h18 hF => ?_
      refine Or.inl ⟨_, qSame_h h18, rfl, ?_⟩
      refine And.intro (fun h19 => ?_) (fun h19 => ?_)
      · have hF := cpos h19 hF
        exact Or.inl ⟨rfl, congrArg (Option.map lSuccessionAges_E) hF⟩
      · have hF := cneg h19 hF
        exact Or.inl ⟨rfl, congrArg (Option.map lSuccessionAges_E) hF⟩
abbrev lSuccessionAges_S (l : List Aut) : Option (Bool) := lSuccessionAges_F l
theorem lSuccessionAges_h {l : List Aut} {r : Bool} (h : lSuccessionAges_S l = some r) : Holds Tryz.prog Gw 5 [.sl 6 (l.map cAut)] (lSuccessionAges_E r) := lSuccessionAges_Fh  h
end Go.Proofs.YtdoldlbcjcfmdaaGreat
