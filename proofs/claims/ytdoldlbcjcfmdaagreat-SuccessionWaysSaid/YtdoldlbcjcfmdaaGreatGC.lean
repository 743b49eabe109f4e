/- Functions of the program as functions of Lean, each with its contract (printed by a program). -/
import Derived.Test.YtdoldlbcjcfmdaaGreatGB
namespace Go.Proofs.YtdoldlbcjcfmdaaGreat
open Go Go.Abs
set_option maxRecDepth 10000
set_option maxHeartbeats 400000
abbrev sasks_E (y : Int) : CV := I y
def sasks_L1 (l : List Aut) (ids : List Int) : Nat → Int → Option (Int)
  | 0, _ => none
  | fu1 + 1, v4 => bif decide (v4 < ((ids.map cInt).length : Int)) then (Option.bind (ix ids v4) fun x6 => Option.bind (pFind_S l x6) fun y8 => bif (!y8.2) then some (7) else sasks_L1 l ids fu1 (IntKind.i64.wrap (v4 + 1))) else some (0)
def sasks_F (N : Nat) (l : List Aut) (ids : List Int) : Option (Int) := Option.bind (pCheck_S l) fun y1 => bif (y1.2 != 0) then some (1) else sasks_L1 l ids N 0
set_option linter.unusedVariables false in
theorem sasks_Fh {N : Nat} {l : List Aut} {ids : List Int} {r : Int} (hF : sasks_F N l ids = some r) : Holds Tryz.prog Gw 27 [.sl 6 (l.map cAut), .sl 1 (ids.map cInt)] (sasks_E r) := by
  refine holds_of_wq tabOk mixed Tryz.func27 (by decide) rfl (Nat.le_of_ble_eq_true rfl) ?_
  refine obind hF fun y1 h2 hF => ?_
  refine Or.inl ⟨_, pCheck_h h2, rfl, ?_⟩
  refine And.intro (fun h3 => ?_) (fun h3 => ?_)
  · have hF := cpos h3 hF
    exact Or.inl ⟨rfl, congrArg (Option.map sasks_E) hF⟩
  · have hF := cneg h3 hF
    refine loop_oq (fun p : Nat × Int => [(0, .c (.sl 6 (l.map cAut))), (18, .c (.sl 1 (ids.map cInt))), (19, .c (I ((ids.map cInt).length : Int))), (20, .c (I p.2))]) (fun _ => []) (fun p => sasks_L1 l ids p.1 p.2 = some r) (fun p => p.1) (N, 0) hF ⟨rfl, rfl, rfl, rfl, trivial⟩ trivial ?_
    rintro ⟨fu1, v4⟩ hF
    cases fu1 with
    | zero => exact nomatch hF
    | succ fu1 =>
      refine join_no ?_
      refine And.intro (fun h5 => ?_) (fun h5 => ?_)
      · have hF := cpos h5 hF
        refine join_no ?_
        refine obind hF fun x6 h7 hF => ?_
        refine ⟨ix_nn h7, .inl rfl, _, ix_map cInt h7, ?_⟩
        refine obind hF fun y8 h9 hF => ?_
        refine Or.inl ⟨_, pFind_h h9, rfl, ?_⟩
        refine Or.inl ?_
        refine And.intro (fun h10 => ?_) (fun h10 => ?_)
        · have hF := cpos h10 hF
          exact Or.inl ⟨rfl, congrArg (Option.map sasks_E) hF⟩
        · have hF := cneg h10 hF
          exact ⟨(fu1, (IntKind.i64.wrap (v4 + 1))), Nat.lt_succ_self _, hF, ⟨rfl, rfl, rfl, rfl, trivial⟩, trivial⟩
      · have hF := cneg h5 hF
        exact Or.inl ⟨rfl, congrArg (Option.map sasks_E) hF⟩
abbrev sasks_S (l : List Aut) (ids : List Int) : Option (Int) := sasks_F 1000 l ids
theorem sasks_h {l : List Aut} {ids : List Int} {r : Int} (h : sasks_S l ids = some r) : Holds Tryz.prog Gw 27 [.sl 6 (l.map cAut), .sl 1 (ids.map cInt)] (sasks_E r) := sasks_Fh  h
abbrev sforward_1_E (y : List Int) : CV := .sl 1 (y.map cInt)
def sforward_1_F (a : Aut) : Option (List Int) := some (a.Next)
set_option linter.unusedVariables false in
theorem sforward_1_Fh {a : Aut} {r : List Int} (hF : sforward_1_F a = some r) : Holds Tryz.prog Gw 56 [.agg (cAut a)] (sforward_1_E r) := by
  refine holds_of_wq tabOk mixed Tryz.func56 (by decide) rfl (Nat.le_of_ble_eq_true rfl) ?_
  refine Or.inl ?_
  refine Or.inl ?_
  exact Or.inl ⟨rfl, congrArg (Option.map sforward_1_E) hF⟩
abbrev sforward_1_S (a : Aut) : Option (List Int) := sforward_1_F a
theorem sforward_1_h {a : Aut} {r : List Int} (h : sforward_1_S a = some r) : Holds Tryz.prog Gw 56 [.agg (cAut a)] (sforward_1_E r) := sforward_1_Fh  h
theorem sforward_h {l : List Aut} : Holds Tryz.prog Gw 28 [.sl 6 (l.map cAut)] (.agg [.sl 6 (l.map cAut), .fn 56 []]) := by
  refine holds_of_wq tabOk mixed Tryz.func28 (by decide) rfl (Nat.le_of_ble_eq_true rfl) ?_
  refine Or.inl ?_
  refine Or.inl ?_
  exact Or.inl ⟨rfl, rfl⟩
abbrev sback_1_E (y : List Int) : CV := .sl 1 (y.map cInt)
def sback_1_L1 (a : Aut) (c0 : List Aut) : Nat → List Int → Int → Option (List Int)
  | 0, _, _ => none
  | fu1 + 1, out1, v2 => bif decide (v2 < ((c0.map cAut).length : Int)) then (Option.bind (ix c0 v2) fun x4 => Option.bind (slContains_S x4.Next a.ID) fun y6 => bif y6 then (bif decide (out1.length + ([x4.ID] : List Int).length ≤ 4294967296) then sback_1_L1 a c0 fu1 (out1 ++ ([x4.ID] : List Int)) (IntKind.i64.wrap (v2 + 1)) else none) else sback_1_L1 a c0 fu1 out1 (IntKind.i64.wrap (v2 + 1))) else some (out1)
def sback_1_F (N : Nat) (a : Aut) (c0 : List Aut) : Option (List Int) := sback_1_L1 a c0 N ([] : List Int) 0
set_option linter.unusedVariables false in
theorem sback_1_Fh {N : Nat} {a : Aut} {c0 : List Aut} {r : List Int} (hF : sback_1_F N a c0 = some r) : Holds Tryz.prog Gw 60 [.agg (cAut a), .pi [.sl 6 (c0.map cAut)] 0] (sback_1_E r) := by
  refine holds_of_wq tabOk mixed Tryz.func60 (by decide) rfl (Nat.le_of_ble_eq_true rfl) ?_
  refine Or.inl ?_
  refine Or.inl ?_
  refine Or.inl ?_
  refine loop_oq (fun p : Nat × List Int × Int => [(2, .pm 2 0 0), (4, .ap 4 0 1 (p.2.1.map cInt)), (7, .c (.sl 6 (c0.map cAut))), (8, .c (I ((c0.map cAut).length : Int))), (9, .c (I p.2.2))]) (fun p : Nat × List Int × Int => [(2, .var [I a.ID, I a.Kind, I a.In.From, I a.In.Until, .sl 3 (a.Names.map cNam), .sl 1 (a.Next.map cInt)]), (4, .tok 3 1)]) (fun p => sback_1_L1 a c0 p.1 p.2.1 p.2.2 = some r) (fun p => p.1) (N, ([] : List Int), 0) hF ⟨rfl, rfl, rfl, rfl, rfl, trivial⟩ ⟨rfl, rfl, trivial⟩ ?_
  rintro ⟨fu1, out1, v2⟩ hF
  cases fu1 with
  | zero => exact nomatch hF
  | succ fu1 =>
    refine join_no ?_
    refine And.intro (fun h3 => ?_) (fun h3 => ?_)
    · have hF := cpos h3 hF
      refine join_no ?_
      refine obind hF fun x4 h5 hF => ?_
      refine ⟨ix_nn h5, .inl rfl, _, ix_map cAut h5, ?_⟩
      refine Or.inl ?_
      refine obind hF fun y6 h7 hF => ?_
      refine Or.inl ⟨_, slContains_h h7, rfl, ?_⟩
      refine And.intro (fun h8 => ?_) (fun h8 => ?_)
      · have hF := cpos h8 hF
        refine Or.inl ?_
        refine gpos hF fun h9 hF => ?_
        refine Or.inl ⟨len_all rfl, app_le (f := cInt) h9, (out1 ++ ([x4.ID] : List Int)).map cInt, map_app _ _ _, ?_⟩
        exact ⟨(fu1, (out1 ++ ([x4.ID] : List Int)), (IntKind.i64.wrap (v2 + 1))), Nat.lt_succ_self _, hF, ⟨rfl, rfl, rfl, rfl, rfl, trivial⟩, ⟨rfl, rfl, trivial⟩⟩
      · have hF := cneg h8 hF
        exact ⟨(fu1, out1, (IntKind.i64.wrap (v2 + 1))), Nat.lt_succ_self _, hF, ⟨rfl, rfl, rfl, rfl, rfl, trivial⟩, ⟨rfl, rfl, trivial⟩⟩
    · have hF := cneg h3 hF
      exact Or.inl ⟨rfl, congrArg (Option.map sback_1_E) hF⟩
abbrev sback_1_S (a : Aut) (c0 : List Aut) : Option (List Int) := sback_1_F 1000 a c0
theorem sback_1_h {a : Aut} {c0 : List Aut} {r : List Int} (h : sback_1_S a c0 = some r) : Holds Tryz.prog Gw 60 [.agg (cAut a), .pi [.sl 6 (c0.map cAut)] 0] (sback_1_E r) := sback_1_Fh  h
theorem sback_h {l : List Aut} : Holds Tryz.prog Gw 32 [.sl 6 (l.map cAut)] (.agg [.sl 6 (l.map cAut), .fn 60 [.pi [.sl 6 (l.map cAut)] 0]]) := by
  refine holds_of_wq tabOk mixed Tryz.func32 (by decide) rfl (Nat.le_of_ble_eq_true rfl) ?_
  refine Or.inl ?_
  refine Or.inl ?_
  refine Or.inr ⟨[(1, 1)], 0, _, _, _, _, rfl, rfl, eff_buildF built49, rfl, ?_⟩
  exact Or.inl ⟨rfl, rfl⟩
abbrev sreach_E (y : List Int) : CV := .sl 1 (y.map cInt)
def sreach_L2 (i1 : Int) (y8 : List Int) (k_1 : Int → List Int → Option (List Int)) : Nat → Int → List Int → Option (List Int)
  | 0, _, _ => none
  | fu2 + 1, v10, v11 => bif decide (v10 < ((y8.map cInt).length : Int)) then (Option.bind (ix y8 v10) fun x13 => Option.bind (slContains_S v11 x13) fun y15 => bif (!y15) then (bif decide (v11.length + ([x13] : List Int).length ≤ 4294967296) then sreach_L2 i1 y8 k_1 fu2 (IntKind.i64.wrap (v10 + 1)) (v11 ++ ([x13] : List Int)) else none) else sreach_L2 i1 y8 k_1 fu2 (IntKind.i64.wrap (v10 + 1)) v11) else k_1 (IntKind.i64.wrap (i1 + 1)) v11
def sreach_L1 (g_l : List Aut) (g_next : Aut → Option (List Int)) (N : Nat) : Nat → Int → List Int → Option (List Int)
  | 0, _, _ => none
  | fu1 + 1, i1, v2 => bif decide (i1 < ((v2.map cInt).length : Int)) then (Option.bind (ix v2 i1) fun x4 => Option.bind (pFind_S g_l x4) fun y6 => Option.bind (g_next y6.1) fun y8 => sreach_L2 i1 y8 (fun q_i1 q_v2 => sreach_L1 g_l g_next N fu1 q_i1 q_v2) N 0 v2) else (Option.bind (slSortI_XS v2) fun y19 => some (y19))
def sreach_F (N : Nat) (g_l : List Aut) (g_next : Aut → Option (List Int)) (id : Int) : Option (List Int) := sreach_L1 g_l g_next N N 0 ([id] : List Int)
set_option linter.unusedVariables false in
theorem sreach_Fh {N : Nat} {g_l : List Aut} {g_next : Aut → Option (List Int)} {id : Int} {r : List Int} {g_next_f : FuncId} {g_next_c : List CV} (g_next_h : ∀ z0 y, g_next z0 = some y → Holds Tryz.prog Gw g_next_f (.agg (cAut z0) :: g_next_c) (.sl 1 (y.map cInt))) (hF : sreach_F N g_l g_next id = some r) : Holds Tryz.prog Gw 29 [.agg [.sl 6 (g_l.map cAut), .fn g_next_f g_next_c], I id] (sreach_E r) := by
  refine holds_of_wq tabOk mixed Tryz.func29 (by decide) rfl (Nat.le_of_ble_eq_true rfl) ?_
  refine Or.inl ?_
  refine Or.inl ?_
  refine Or.inr ⟨[], 0, _, _, _, _, rfl, rfl, eff_build1 (cf := cInt) (a := id) tok25.u tok3 rfl rfl (fun _ => rfl) rfl (fun _ _ _ h => cells_one h rfl), rfl, ?_⟩
  refine loop_oq (fun p : Nat × Int × List Int => [(2, .pm 2 0 0), (5, .rs 12 0), (6, .c (I p.2.1))]) (fun p : Nat × Int × List Int => [(2, .var [.sl 6 (g_l.map cAut), .fn g_next_f g_next_c]), (12, .arr 3 1 (p.2.2.map cInt) none)]) (fun p => sreach_L1 g_l g_next N p.1 p.2.1 p.2.2 = some r) (fun p => p.1) (N, 0, ([id] : List Int)) hF ⟨rfl, rfl, rfl, trivial⟩ ⟨rfl, rfl, trivial⟩ ?_
  rintro ⟨fu1, i1, v2⟩ hF
  cases fu1 with
  | zero => exact nomatch hF
  | succ fu1 =>
    refine Or.inl ?_
    refine And.intro (fun h3 => ?_) (fun h3 => ?_)
    · have hF := cpos h3 hF
      refine join_no ?_
      refine obind hF fun x4 h5 hF => ?_
      refine Or.inl ⟨ix_nn h5, ix_lt h5, ?_⟩
      refine Or.inl ⟨_, ix_map cInt h5, ?_⟩
      refine obind hF fun y6 h7 hF => ?_
      refine Or.inl ⟨_, pFind_h h7, rfl, ?_⟩
      refine Or.inl ?_
      refine And.intro (by kernel_rfl) ?_
      refine obind hF fun y8 h9 hF => ?_
      refine Or.inl ⟨_, g_next_h _ _ h9, rfl, ?_⟩
      refine loop_oq (fun p : Nat × Int × List Int => [(2, .pm 2 0 0), (5, .rs 12 0), (6, .c (I i1)), (32, .c (.sl 1 (y8.map cInt))), (33, .c (I ((y8.map cInt).length : Int))), (34, .c (I p.2.1))]) (fun p : Nat × Int × List Int => [(2, .var [.sl 6 (g_l.map cAut), .fn g_next_f g_next_c]), (12, .arr 3 1 (p.2.2.map cInt) none)]) (fun p => sreach_L2 i1 y8 (fun q_i1 q_v2 => sreach_L1 g_l g_next N fu1 q_i1 q_v2) p.1 p.2.1 p.2.2 = some r) (fun p => p.1) (N, 0, v2) hF ⟨rfl, rfl, rfl, rfl, rfl, rfl, trivial⟩ ⟨rfl, rfl, trivial⟩ ?_
      rintro ⟨fu2, v10, v11⟩ hF
      cases fu2 with
      | zero => exact nomatch hF
      | succ fu2 =>
        refine join_no ?_
        refine And.intro (fun h12 => ?_) (fun h12 => ?_)
        · have hF := cpos h12 hF
          refine join_no ?_
          refine obind hF fun x13 h14 hF => ?_
          refine ⟨ix_nn h14, .inl rfl, _, ix_map cInt h14, ?_⟩
          refine obind hF fun y15 h16 hF => ?_
          refine Or.inl ⟨_, slContains_h h16, rfl, ?_⟩
          refine And.intro (fun h17 => ?_) (fun h17 => ?_)
          · have hF := cpos h17 hF
            refine Or.inl ?_
            refine gpos hF fun h18 hF => ?_
            refine Or.inr ⟨[(12, 0)], 0, _, _, _, _, rfl, rfl, eff_append (cf := cInt) (l := v11) (ns := ([x13] : List Int)) tok25.u tok3 (by decide) (by decide) (fun _ => rfl) h18, rfl, ?_⟩
            exact ⟨(fu2, (IntKind.i64.wrap (v10 + 1)), (v11 ++ ([x13] : List Int))), Nat.lt_succ_self _, hF, ⟨rfl, rfl, rfl, rfl, rfl, rfl, trivial⟩, ⟨rfl, rfl, trivial⟩⟩
          · have hF := cneg h17 hF
            exact ⟨(fu2, (IntKind.i64.wrap (v10 + 1)), v11), Nat.lt_succ_self _, hF, ⟨rfl, rfl, rfl, rfl, rfl, rfl, trivial⟩, ⟨rfl, rfl, trivial⟩⟩
        · have hF := cneg h12 hF
          exact ⟨(fu1, (IntKind.i64.wrap (i1 + 1)), v11), Nat.lt_succ_self _, hF, ⟨rfl, rfl, rfl, trivial⟩, ⟨rfl, rfl, trivial⟩⟩
    · have hF := cneg h3 hF
      refine obind hF fun y19 h20 hF => ?_
      refine Or.inr (Or.inr ⟨[(12, 0)], 0, _, _, _, _, rfl, rfl, eff_call rfl (Or.inr ⟨_, rfl, rfl⟩) (slSortI_Xh h20), rfl, ?_⟩)
      refine ret_eq (p := fun r => resFin tab _ (sreach_E r) _) hF ?_
      exact Or.inr ⟨rfl, _, rfl, rfl⟩
abbrev sreach_O (y : List Int) : CV := .wo (.ow 0) [(3, 1, y.map cInt, none)]
set_option linter.unusedVariables false in
theorem sreach_Oh {N : Nat} {g_l : List Aut} {g_next : Aut → Option (List Int)} {id : Int} {r : List Int} {g_next_f : FuncId} {g_next_c : List CV} (g_next_h : ∀ z0 y, g_next z0 = some y → Holds Tryz.prog Gw g_next_f (.agg (cAut z0) :: g_next_c) (.sl 1 (y.map cInt))) (hF : sreach_F N g_l g_next id = some r) : Holds Tryz.prog Gw 29 [.agg [.sl 6 (g_l.map cAut), .fn g_next_f g_next_c], I id] (sreach_O r) := by
  refine holds_of_wq tabOk mixed Tryz.func29 (by decide) rfl (Nat.le_of_ble_eq_true rfl) ?_
  refine Or.inl ?_
  refine Or.inl ?_
  refine Or.inr ⟨[], 0, _, _, _, _, rfl, rfl, eff_build1 (cf := cInt) (a := id) tok25.u tok3 rfl rfl (fun _ => rfl) rfl (fun _ _ _ h => cells_one h rfl), rfl, ?_⟩
  refine loop_oq (fun p : Nat × Int × List Int => [(2, .pm 2 0 0), (5, .rs 12 0), (6, .c (I p.2.1))]) (fun p : Nat × Int × List Int => [(2, .var [.sl 6 (g_l.map cAut), .fn g_next_f g_next_c]), (12, .arr 3 1 (p.2.2.map cInt) none)]) (fun p => sreach_L1 g_l g_next N p.1 p.2.1 p.2.2 = some r) (fun p => p.1) (N, 0, ([id] : List Int)) hF ⟨rfl, rfl, rfl, trivial⟩ ⟨rfl, rfl, trivial⟩ ?_
  rintro ⟨fu1, i1, v2⟩ hF
  cases fu1 with
  | zero => exact nomatch hF
  | succ fu1 =>
    refine Or.inl ?_
    refine And.intro (fun h3 => ?_) (fun h3 => ?_)
    · have hF := cpos h3 hF
      refine join_no ?_
      refine obind hF fun x4 h5 hF => ?_
      refine Or.inl ⟨ix_nn h5, ix_lt h5, ?_⟩
      refine Or.inl ⟨_, ix_map cInt h5, ?_⟩
      refine obind hF fun y6 h7 hF => ?_
      refine Or.inl ⟨_, pFind_h h7, rfl, ?_⟩
      refine Or.inl ?_
      refine And.intro (by kernel_rfl) ?_
      refine obind hF fun y8 h9 hF => ?_
      refine Or.inl ⟨_, g_next_h _ _ h9, rfl, ?_⟩
      refine loop_oq (fun p : Nat × Int × List Int => [(2, .pm 2 0 0), (5, .rs 12 0), (6, .c (I i1)), (32, .c (.sl 1 (y8.map cInt))), (33, .c (I ((y8.map cInt).length : Int))), (34, .c (I p.2.1))]) (fun p : Nat × Int × List Int => [(2, .var [.sl 6 (g_l.map cAut), .fn g_next_f g_next_c]), (12, .arr 3 1 (p.2.2.map cInt) none)]) (fun p => sreach_L2 i1 y8 (fun q_i1 q_v2 => sreach_L1 g_l g_next N fu1 q_i1 q_v2) p.1 p.2.1 p.2.2 = some r) (fun p => p.1) (N, 0, v2) hF ⟨rfl, rfl, rfl, rfl, rfl, rfl, trivial⟩ ⟨rfl, rfl, trivial⟩ ?_
      rintro ⟨fu2, v10, v11⟩ hF
      cases fu2 with
      | zero => exact nomatch hF
      | succ fu2 =>
        refine join_no ?_
        refine And.intro (fun h12 => ?_) (fun h12 => ?_)
        · have hF := cpos h12 hF
          refine join_no ?_
          refine obind hF fun x13 h14 hF => ?_
          refine ⟨ix_nn h14, .inl rfl, _, ix_map cInt h14, ?_⟩
          refine obind hF fun y15 h16 hF => ?_
          refine Or.inl ⟨_, slContains_h h16, rfl, ?_⟩
          refine And.intro (fun h17 => ?_) (fun h17 => ?_)
          · have hF := cpos h17 hF
            refine Or.inl ?_
            refine gpos hF fun h18 hF => ?_
            refine Or.inr ⟨[(12, 0)], 0, _, _, _, _, rfl, rfl, eff_append (cf := cInt) (l := v11) (ns := ([x13] : List Int)) tok25.u tok3 (by decide) (by decide) (fun _ => rfl) h18, rfl, ?_⟩
            exact ⟨(fu2, (IntKind.i64.wrap (v10 + 1)), (v11 ++ ([x13] : List Int))), Nat.lt_succ_self _, hF, ⟨rfl, rfl, rfl, rfl, rfl, rfl, trivial⟩, ⟨rfl, rfl, trivial⟩⟩
          · have hF := cneg h17 hF
            exact ⟨(fu2, (IntKind.i64.wrap (v10 + 1)), v11), Nat.lt_succ_self _, hF, ⟨rfl, rfl, rfl, rfl, rfl, rfl, trivial⟩, ⟨rfl, rfl, trivial⟩⟩
        · have hF := cneg h12 hF
          exact ⟨(fu1, (IntKind.i64.wrap (i1 + 1)), v11), Nat.lt_succ_self _, hF, ⟨rfl, rfl, rfl, trivial⟩, ⟨rfl, rfl, trivial⟩⟩
    · have hF := cneg h3 hF
      refine obind hF fun y19 h20 hF => ?_
      refine Or.inr (Or.inr ⟨[(12, 0)], 0, _, _, _, _, rfl, rfl, eff_call rfl (Or.inr ⟨_, rfl, rfl⟩) (slSortI_Xh h20), rfl, ?_⟩)
      refine ret_eq (p := fun r => resFin tab _ (sreach_O r) _) hF ?_
      exact Or.inr ⟨[(12, 0)], rfl, ⟨rfl, rfl⟩, rfl⟩
abbrev sreach_S (g_l : List Aut) (g_next : Aut → Option (List Int)) (id : Int) : Option (List Int) := sreach_F 1000 g_l g_next id
theorem sreach_h {g_l : List Aut} {g_next : Aut → Option (List Int)} {id : Int} {r : List Int} {g_next_f : FuncId} {g_next_c : List CV} (g_next_h : ∀ z0 y, g_next z0 = some y → Holds Tryz.prog Gw g_next_f (.agg (cAut z0) :: g_next_c) (.sl 1 (y.map cInt))) (h : sreach_S g_l g_next id = some r) : Holds Tryz.prog Gw 29 [.agg [.sl 6 (g_l.map cAut), .fn g_next_f g_next_c], I id] (sreach_E r) := sreach_Fh g_next_h h
abbrev sForward_E (y : List Int × Int) : CV := .tup [.sl 1 (y.1.map cInt), I y.2]
def sForward_F (l : List Aut) (id : Int) : Option (List Int × Int) := Option.bind (sasks_S l ([id] : List Int)) fun y1 => bif (y1 != 0) then some (([] : List Int), y1) else (Option.bind (sreach_S l (fun z0 => sforward_1_S z0) id) fun y4 => some (y4, 0))
set_option linter.unusedVariables false in
theorem sForward_Fh {l : List Aut} {id : Int} {r : List Int × Int} (hF : sForward_F l id = some r) : Holds Tryz.prog Gw 8 [.sl 6 (l.map cAut), I id] (sForward_E r) := by
  refine holds_of_wq tabOk mixed Tryz.func8 (by decide) rfl (Nat.le_of_ble_eq_true rfl) ?_
  refine Or.inl ?_
  refine Or.inl ?_
  refine obind hF fun y1 h2 hF => ?_
  refine Or.inl ⟨_, sasks_h h2, rfl, ?_⟩
  refine And.intro (fun h3 => ?_) (fun h3 => ?_)
  · have hF := cpos h3 hF
    refine Or.inl ?_
    exact Or.inl ⟨rfl, congrArg (Option.map sForward_E) hF⟩
  · have hF := cneg h3 hF
    refine Or.inl ⟨_, sforward_h, rfl, ?_⟩
    refine obind hF fun y4 h5 hF => ?_
    refine Or.inl ⟨_, sreach_h (fun _ _ h => sforward_1_h h) h5, rfl, ?_⟩
    exact Or.inl ⟨rfl, congrArg (Option.map sForward_E) hF⟩
abbrev sForward_S (l : List Aut) (id : Int) : Option (List Int × Int) := sForward_F l id
theorem sForward_h {l : List Aut} {id : Int} {r : List Int × Int} (h : sForward_S l id = some r) : Holds Tryz.prog Gw 8 [.sl 6 (l.map cAut), I id] (sForward_E r) := sForward_Fh  h
abbrev sBack_E (y : List Int × Int) : CV := .tup [.sl 1 (y.1.map cInt), I y.2]
def sBack_F (l : List Aut) (id : Int) : Option (List Int × Int) := Option.bind (sasks_S l ([id] : List Int)) fun y1 => bif (y1 != 0) then some (([] : List Int), y1) else (Option.bind (sreach_S l (fun z0 => sback_1_S z0 l) id) fun y4 => some (y4, 0))
set_option linter.unusedVariables false in
theorem sBack_Fh {l : List Aut} {id : Int} {r : List Int × Int} (hF : sBack_F l id = some r) : Holds Tryz.prog Gw 11 [.sl 6 (l.map cAut), I id] (sBack_E r) := by
  refine holds_of_wq tabOk mixed Tryz.func11 (by decide) rfl (Nat.le_of_ble_eq_true rfl) ?_
  refine Or.inl ?_
  refine Or.inl ?_
  refine obind hF fun y1 h2 hF => ?_
  refine Or.inl ⟨_, sasks_h h2, rfl, ?_⟩
  refine And.intro (fun h3 => ?_) (fun h3 => ?_)
  · have hF := cpos h3 hF
    refine Or.inl ?_
    exact Or.inl ⟨rfl, congrArg (Option.map sBack_E) hF⟩
  · have hF := cneg h3 hF
    refine Or.inl ⟨_, sback_h, rfl, ?_⟩
    refine obind hF fun y4 h5 hF => ?_
    refine Or.inl ⟨_, sreach_h (fun _ _ h => sback_1_h h) h5, rfl, ?_⟩
    exact Or.inl ⟨rfl, congrArg (Option.map sBack_E) hF⟩
abbrev sBack_S (l : List Aut) (id : Int) : Option (List Int × Int) := sBack_F l id
theorem sBack_h {l : List Aut} {id : Int} {r : List Int × Int} (h : sBack_S l id = some r) : Holds Tryz.prog Gw 11 [.sl 6 (l.map cAut), I id] (sBack_E r) := sBack_Fh  h
end Go.Proofs.YtdoldlbcjcfmdaaGreat
