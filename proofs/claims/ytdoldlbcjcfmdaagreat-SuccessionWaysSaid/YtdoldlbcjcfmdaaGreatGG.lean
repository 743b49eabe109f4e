/- Functions of the program as functions of Lean, each with its contract (printed by a program). -/
import Derived.Test.YtdoldlbcjcfmdaaGreatGF
namespace Go.Proofs.YtdoldlbcjcfmdaaGreat
open Go Go.Abs
set_option maxRecDepth 10000
set_option maxHeartbeats 400000
def sGenerations_R0_X : {p : Array Nat × Code × Code // (rangesOf (Tryz.f22.body.getD .skip))[0]? = some p} := ⟨(_, _, _), rfl⟩
def sGenerations_R0_R (R : Loop) : Prop := R.params = sGenerations_R0_X.1.1 ∧ R.assign = sGenerations_R0_X.1.2.1 ∧ R.body = sGenerations_R0_X.1.2.2 ∧ R.tmps.size = 70
theorem sGenerations_R0_n {R : Loop} (h : sGenerations_R0_R R) : 1 = R.params.size := by rw [h.1]; rfl
def sGenerations_R0_L2 (a21 : Aut) (y1 : Int) (v3 : List (List Int)) (x6 : List Int) : Nat → Int → List (Int × Int) → Option ((List (Int × Int)) × List (List Int))
  | 0, _, _ => none
  | fu2 + 1, v8, v9 => bif decide (v8 < ((a21.Next.map cInt).length : Int)) then (Option.bind (ix a21.Next v8) fun x11 => Option.bind (mlk v9 x11 0) fun y13 => sGenerations_R0_L2 a21 y1 v3 x6 fu2 (IntKind.i64.wrap (v8 + 1)) (mset v9 x11 (if y13 < (IntKind.i64.wrap (y1 + 1)) then (IntKind.i64.wrap (y1 + 1)) else y13))) else some (v9, (v3.set (y1).toNat (x6 ++ ([a21.ID] : List Int))))
def sGenerations_R0_L1 (m2 : List (Int × Int)) (a21 : Aut) (y1 : Int) (N : Nat) : Nat → List (List Int) → Option ((List (Int × Int)) × List (List Int))
  | 0, _ => none
  | fu1 + 1, v3 => bif decide ((v3.length : Int) ≤ y1) then (bif decide (v3.length + ([[]] : List (List Int)).length ≤ 4294967296) then sGenerations_R0_L1 m2 a21 y1 N fu1 (v3 ++ ([[]] : List (List Int))) else none) else (Option.bind (ix v3 y1) fun x6 => bif decide (x6.length + ([a21.ID] : List Int).length ≤ 4294967296) then sGenerations_R0_L2 a21 y1 v3 x6 N 0 m2 else none)
def sGenerations_R0_F (N : Nat) (m2 : List (Int × Int)) (o4 : List (List Int)) (a21 : Aut) : Option ((List (Int × Int)) × List (List Int)) := Option.bind (mlk m2 a21.ID 0) fun y1 => sGenerations_R0_L1 m2 a21 y1 N N o4
set_option linter.unusedVariables false in
theorem sGenerations_R0_XFh {N : Nat} {m2 : List (Int × Int)} {o4 : List (List Int)} {a21 : Aut} {r : (List (Int × Int)) × List (List Int)} {l : Nat} {R : Loop} (hR : sGenerations_R0_R R) (hF : sGenerations_R0_F N m2 o4 a21 = some r) : EffRnd Tryz.prog Gw l R (envL [(5, .pm 1 0 0), (6, .pm 3 0 0)] 70 0) [.c (.agg [I a21.ID, I a21.Kind, I a21.In.From, I a21.In.Until, .sl 3 (a21.Names.map cNam), .sl 1 (a21.Next.map cInt)])] [(0, .lp l R .on), (0, .varx [.mr 2 0]), (0, .map (mpE (kInt .i64) eInt m2)), (0, .varx [.xr 4 0]), (0, .ext (nestK 25 3 1 (nrows cInt o4) none) [])] (.c (.v (.bool true))) [(0, .lp l R .on), (0, .varx [.mr 2 0]), (0, .map (mpE (kInt .i64) eInt r.1)), (0, .varx [.xr 4 1]), (1, .ext (nestK 25 3 1 (nrows cInt r.2) none) [])] := by
  refine effrnd_of_wq [4] tabOk mixed 0 hR.1 hR.2.1 hR.2.2.1 hR.2.2.2 rfl ?_
  refine Or.inl ?_
  refine ⟨rfl, ?_⟩
  refine Or.inl ?_
  refine obind hF fun y1 h2 hF => ?_
  refine Or.inr ⟨[(4295098368, 0)], 0, _, _, _, _, rfl, rfl, eff_mlk (ev := eInt) (z := 0) (m := m2) (x := a21.ID) tok63.u tok3.u (keyInt .i64) tok3 rfl h2, rfl, ?_⟩
  refine join_no ?_
  refine loop_oq (fun p : Nat × List (List Int) => [(5, .pm 4295032832 0 0), (6, .pm 4295163904 0 0), (7, .pm 7 0 0), (8, .c (I y1))]) (fun p : Nat × List (List Int) => [(4295032832, .varx [.mr 4295098368 0]), (4295163904, .varx [.xr 2147745792 0]), (7, .var [I a21.ID, I a21.Kind, I a21.In.From, I a21.In.Until, .sl 3 (a21.Names.map cNam), .sl 1 (a21.Next.map cInt)]), (2147745792, .ext (nestK 25 3 1 (nrows cInt p.2) none) []), (4294967296, .lp l R .busy), (4295098368, .map (mpE (kInt .i64) eInt m2))]) (fun p => sGenerations_R0_L1 m2 a21 y1 N p.1 p.2 = some r) (fun p => p.1) (N, o4) hF ⟨rfl, rfl, rfl, rfl, trivial⟩ ⟨rfl, rfl, rfl, rfl, rfl, rfl, trivial⟩ ?_
  rintro ⟨fu1, v3⟩ hF
  cases fu1 with
  | zero => exact nomatch hF
  | succ fu1 =>
    refine Or.inl ?_
    refine Or.inr ⟨[(2147745792, 0)], 0, _, _, _, _, rfl, rfl, eff_nlenT (cf := cInt) tok35.u, rfl, ?_⟩
    refine And.intro (fun h4 => ?_) (fun h4 => ?_)
    · have hF := cpos h4 hF
      refine Or.inl ?_
      refine Or.inr ⟨[], 0, _, _, _, _, rfl, rfl, eff_nlitT (eo := 25) (ei := 3) (sz := 1) (cf := cInt) tok35.u tok25 rfl (by decide), rfl, ?_⟩
      refine gpos hF fun h5 hF => ?_
      refine Or.inr ⟨[(2147745792, 0), (31, 1)], 0, _, _, _, _, rfl, rfl, eff_nappT (cf := cInt) (l := v3) (l2 := ([[]] : List (List Int))) tok35.u tok25 rfl (by decide) h5, rfl, ?_⟩
      refine Or.inl ?_
      exact ⟨(fu1, (v3 ++ ([[]] : List (List Int)))), Nat.lt_succ_self _, hF, ⟨rfl, rfl, rfl, rfl, trivial⟩, ⟨rfl, rfl, rfl, rfl, rfl, rfl, trivial⟩⟩
    · have hF := cneg h4 hF
      refine Or.inl ?_
      refine Or.inl ?_
      refine obind hF fun x6 h7 hF => ?_
      refine Or.inr ⟨[(2147745792, 0)], 0, _, _, _, _, rfl, rfl, eff_nidxT (cf := cInt) tok35.u tok25 rfl h7, rfl, ?_⟩
      refine Or.inr ⟨[(2147745792, 0)], 0, _, _, _, _, rfl, rfl, eff_ntakeT (cf := cInt) tok25 rfl h7, rfl, ?_⟩
      refine Or.inl ?_
      refine gpos hF fun h15 hF => ?_
      refine Or.inr ⟨[(65574, 1)], 0, _, _, _, _, rfl, rfl, eff_append (cf := cInt) (l := x6) (ns := ([a21.ID] : List Int)) tok25.u tok3 (by decide) (by decide) (fun _ => rfl) h15, rfl, ?_⟩
      refine Or.inr ⟨[(2147745792, 0)], 0, _, _, _, _, rfl, rfl, eff_nidxT (cf := cInt) tok35.u tok25 rfl h7, rfl, ?_⟩
      refine Or.inr ⟨[(2147745792, 0), (65574, 2)], 0, _, _, _, _, rfl, rfl, eff_nputT (cf := cInt) (r := (x6 ++ ([a21.ID] : List Int))) tok25 rfl h7, rfl, ?_⟩
      refine And.intro (by kernel_rfl) ?_
      refine loop_oq (fun p : Nat × Int × (List (Int × Int)) => [(5, .pm 4295032832 0 0), (8, .c (I y1)), (45, .c (.sl 1 (a21.Next.map cInt))), (46, .c (I ((a21.Next.map cInt).length : Int))), (47, .c (I p.2.1))]) (fun p : Nat × Int × (List (Int × Int)) => [(4295032832, .varx [.mr 4295098368 0]), (2147745792, .ext (nestK 25 3 1 (nrows cInt (v3.set (y1).toNat (x6 ++ ([a21.ID] : List Int)))) none) []), (4294967296, .lp l R .busy), (4295098368, .map (mpE (kInt .i64) eInt p.2.2)), (4295163904, .varx [.xr 2147745792 0])]) (fun p => sGenerations_R0_L2 a21 y1 v3 x6 p.1 p.2.1 p.2.2 = some r) (fun p => p.1) (N, 0, m2) hF ⟨rfl, rfl, rfl, rfl, rfl, trivial⟩ ⟨rfl, rfl, rfl, rfl, rfl, trivial⟩ ?_
      rintro ⟨fu2, v8, v9⟩ hF
      cases fu2 with
      | zero => exact nomatch hF
      | succ fu2 =>
        refine join_no ?_
        refine And.intro (fun h10 => ?_) (fun h10 => ?_)
        · have hF := cpos h10 hF
          refine join_no ?_
          refine obind hF fun x11 h12 hF => ?_
          refine ⟨ix_nn h12, .inl rfl, _, ix_map cInt h12, ?_⟩
          refine Or.inl ?_
          refine Or.inl ?_
          refine obind hF fun y13 h14 hF => ?_
          refine Or.inr ⟨[(4295098368, 0)], 0, _, _, _, _, rfl, rfl, eff_mlk (ev := eInt) (z := 0) (m := v9) (x := x11) tok63.u tok3.u (keyInt .i64) tok3 rfl h14, rfl, ?_⟩
          refine Or.inr ⟨[(4295098368, 0)], 0, _, _, _, _, rfl, rfl, eff_mapUpdate (ev := eInt) (m := v9) (x := x11) (v := (if y13 < (IntKind.i64.wrap (y1 + 1)) then (IntKind.i64.wrap (y1 + 1)) else y13)) tok63.u tok3.u (keyInt .i64), rfl, ?_⟩
          exact ⟨(fu2, (IntKind.i64.wrap (v8 + 1)), (mset v9 x11 (if y13 < (IntKind.i64.wrap (y1 + 1)) then (IntKind.i64.wrap (y1 + 1)) else y13))), Nat.lt_succ_self _, hF, ⟨rfl, rfl, rfl, rfl, rfl, trivial⟩, ⟨rfl, rfl, rfl, rfl, rfl, trivial⟩⟩
        · have hF := cneg h10 hF
          refine ret_eq (p := fun r => rndFin [4] 0 l R 5 (.c (.v (.bool true))) [(0, .lp l R .on), (0, .varx [.mr 2 0]), (0, .map (mpE (kInt .i64) eInt r.1)), (0, .varx [.xr 4 1]), (1, .ext (nestK 25 3 1 (nrows cInt r.2) none) [])] .on true _) hF ?_
          exact ⟨rfl, rfl, [(4294967296, 0), (4295032832, 0), (4295098368, 0), (4295163904, 0), (2147745792, 0)], [0, 0, 0, 0, 1], rfl, rfl⟩
abbrev sGenerations_R0_XS (m2 : List (Int × Int)) (o4 : List (List Int)) (a21 : Aut) : Option ((List (Int × Int)) × List (List Int)) := sGenerations_R0_F 1000 m2 o4 a21
theorem sGenerations_R0_Xh {m2 : List (Int × Int)} {o4 : List (List Int)} {a21 : Aut} {r : (List (Int × Int)) × List (List Int)} {l : Nat} {R : Loop} (hR : sGenerations_R0_R R) (h : sGenerations_R0_XS m2 o4 a21 = some r) : EffRnd Tryz.prog Gw l R (envL [(5, .pm 1 0 0), (6, .pm 3 0 0)] 70 0) [.c (.agg [I a21.ID, I a21.Kind, I a21.In.From, I a21.In.Until, .sl 3 (a21.Names.map cNam), .sl 1 (a21.Next.map cInt)])] [(0, .lp l R .on), (0, .varx [.mr 2 0]), (0, .map (mpE (kInt .i64) eInt m2)), (0, .varx [.xr 4 0]), (0, .ext (nestK 25 3 1 (nrows cInt o4) none) [])] (.c (.v (.bool true))) [(0, .lp l R .on), (0, .varx [.mr 2 0]), (0, .map (mpE (kInt .i64) eInt r.1)), (0, .varx [.xr 4 1]), (1, .ext (nestK 25 3 1 (nrows cInt r.2) none) [])] := sGenerations_R0_XFh hR h
def sinTime_11_L1 (y3 : List Aut) : Nat → Int → List (List Int) → List (Int × Int) → Option ((List (Int × Int)) × List (List Int))
  | 0, _, _, _ => none
  | fu1 + 1, v5, v6, v7 => bif decide (v5 < ((y3.map cAut).length : Int)) then (Option.bind (ix y3 v5) fun x9 => Option.bind (sGenerations_R0_XS v7 v6 x9) fun y11 => sinTime_11_L1 y3 fu1 (IntKind.i64.wrap (v5 + 1)) y11.2 y11.1) else some (v7, v6)
def sinTime_11_F (N : Nat) (m2 : List (Int × Int)) (o4 : List (List Int)) (u5 : List Aut) : Option ((List (Int × Int)) × List (List Int)) := Option.bind (slCloneA_S u5) fun y1 => Option.bind (slSortStable_XS y1) fun y3 => sinTime_11_L1 y3 N 0 o4 m2
set_option linter.unusedVariables false in
theorem sinTime_11_XFh {N : Nat} {m2 : List (Int × Int)} {o4 : List (List Int)} {u5 : List Aut} {r : (List (Int × Int)) × List (List Int)} {l : Nat} {R : Loop} (hR : sGenerations_R0_R R) (hF : sinTime_11_F N m2 o4 u5 = some r) : EffFn Tryz.prog Gw 66 [.fnr (.yl l R.tmps.toList) (envL [(5, .pm 1 0 0), (6, .pm 3 0 0)] 70 0), .pm 5 0 0] [(0, .lp l R .on), (0, .varx [.mr 2 0]), (0, .map (mpE (kInt .i64) eInt m2)), (0, .varx [.xr 4 0]), (0, .ext (nestK 25 3 1 (nrows cInt o4) none) []), (0, .var [.sl 6 (u5.map cAut)])] (.c (.tup [])) [(0, .lp l R .on), (0, .varx [.mr 2 0]), (0, .map (mpE (kInt .i64) eInt r.1)), (0, .varx [.xr 4 1]), (1, .ext (nestK 25 3 1 (nrows cInt r.2) none) []), (0, .var [.sl 6 (u5.map cAut)])] := by
  refine effn_of_wqM [4] tabOk mixed Tryz.func66 (by decide) rfl (Nat.le_of_ble_eq_true rfl) rfl ?_
  refine obind hF fun y1 h2 hF => ?_
  refine Or.inr (Or.inl ⟨_, _, slCloneA_Oh h2, ?_⟩)
  refine obind hF fun y3 h4 hF => ?_
  refine Or.inr (Or.inr ⟨[(7, 1)], 0, _, _, _, _, rfl, rfl, eff_call rfl (Or.inr ⟨_, rfl, rfl⟩) (slSortStable_Xh h4), rfl, ?_⟩)
  refine Or.inl ?_
  refine loop_oq (fun p : Nat × Int × List (List Int) × (List (Int × Int)) => [(0, .fnr (.yl l R.tmps.toList) (envL [(5, .pm 4295032832 0 0), (6, .pm 4295163904 0 0)] 70 0)), (10, .rs 7 0), (11, .c (I ((y3.map cAut).length : Int))), (12, .c (I p.2.1))]) (fun p : Nat × Int × List (List Int) × (List (Int × Int)) => [(4294967296, .lp l R .on), (4295032832, .varx [.mr 4295098368 0]), (4295163904, .varx [.xr 2147745792 0]), (7, .arr 45 6 (y3.map cAut) none), (2147745792, .ext (nestK 25 3 1 (nrows cInt p.2.2.1) none) []), (4295098368, .map (mpE (kInt .i64) eInt p.2.2.2)), (4295294976, .var [.sl 6 (u5.map cAut)])]) (fun p => sinTime_11_L1 y3 p.1 p.2.1 p.2.2.1 p.2.2.2 = some r) (fun p => p.1) (N, 0, o4, m2) hF ⟨rfl, rfl, rfl, rfl, trivial⟩ ⟨rfl, rfl, rfl, rfl, rfl, rfl, rfl, trivial⟩ ?_
  rintro ⟨fu1, v5, v6, v7⟩ hF
  cases fu1 with
  | zero => exact nomatch hF
  | succ fu1 =>
    refine join_no ?_
    refine And.intro (fun h8 => ?_) (fun h8 => ?_)
    · have hF := cpos h8 hF
      refine join_no ?_
      refine obind hF fun x9 h10 hF => ?_
      refine Or.inl ⟨ix_nn h10, ix_lt h10, ?_⟩
      refine Or.inl ⟨_, ix_map cAut h10, ?_⟩
      refine Or.inl ?_
      refine obind hF fun y11 h12 hF => ?_
      refine Or.inr ⟨[(4294967296, 0), (4295032832, 0), (4295098368, 0), (4295163904, 0), (2147745792, 0)], 0, _, _, _, _, rfl, rfl, eff_round rfl 0 rfl (sGenerations_R0_n hR) (sGenerations_R0_Xh hR h12), rfl, ?_⟩
      refine And.intro (fun h13 => ?_) (fun h13 => ?_)
      · exact absurd h13 (by simp)
      · skip
        exact ⟨(fu1, (IntKind.i64.wrap (v5 + 1)), y11.2, y11.1), Nat.lt_succ_self _, hF, ⟨rfl, rfl, rfl, rfl, trivial⟩, ⟨rfl, rfl, rfl, rfl, rfl, rfl, rfl, trivial⟩⟩
    · have hF := cneg h8 hF
      refine ret_eq (p := fun r => effFinM tab _ 6 [4] (.c (.tup [])) [(0, .lp l R .on), (0, .varx [.mr 2 0]), (0, .map (mpE (kInt .i64) eInt r.1)), (0, .varx [.xr 4 1]), (1, .ext (nestK 25 3 1 (nrows cInt r.2) none) []), (0, .var [.sl 6 (u5.map cAut)])] _) hF ?_
      exact ⟨[(4294967296, 0), (4295032832, 0), (4295098368, 0), (4295163904, 0), (2147745792, 0), (4295294976, 0)], [0, 0, 0, 0, 1, 0], rfl, rfl, rfl⟩
abbrev sinTime_11_XS (m2 : List (Int × Int)) (o4 : List (List Int)) (u5 : List Aut) : Option ((List (Int × Int)) × List (List Int)) := sinTime_11_F 1000 m2 o4 u5
theorem sinTime_11_Xh {m2 : List (Int × Int)} {o4 : List (List Int)} {u5 : List Aut} {r : (List (Int × Int)) × List (List Int)} {l : Nat} {R : Loop} (hR : sGenerations_R0_R R) (h : sinTime_11_XS m2 o4 u5 = some r) : EffFn Tryz.prog Gw 66 [.fnr (.yl l R.tmps.toList) (envL [(5, .pm 1 0 0), (6, .pm 3 0 0)] 70 0), .pm 5 0 0] [(0, .lp l R .on), (0, .varx [.mr 2 0]), (0, .map (mpE (kInt .i64) eInt m2)), (0, .varx [.xr 4 0]), (0, .ext (nestK 25 3 1 (nrows cInt o4) none) []), (0, .var [.sl 6 (u5.map cAut)])] (.c (.tup [])) [(0, .lp l R .on), (0, .varx [.mr 2 0]), (0, .map (mpE (kInt .i64) eInt r.1)), (0, .varx [.xr 4 1]), (1, .ext (nestK 25 3 1 (nrows cInt r.2) none) []), (0, .var [.sl 6 (u5.map cAut)])] := sinTime_11_XFh hR h
abbrev sGenerations_E (y : List (List Int) × Int) : CV := .tup [.sl 1 (y.1.map cSl_Int), I y.2]
def sGenerations_L1 (y4 : (List (Int × Int)) × List (List Int)) : Nat → Int → List (List Int) → Option (List (List Int) × Int)
  | 0, _, _ => none
  | fu1 + 1, v6, v7 => bif decide (v6 < (y4.2.length : Int)) then (Option.bind (ix v7 v6) fun x9 => Option.bind (slSortI_XS x9) fun y11 => sGenerations_L1 y4 fu1 (IntKind.i64.wrap (v6 + 1)) (v7.set (v6).toNat y11)) else some (v7, 0)
def sGenerations_F (N : Nat) (l : List Aut) : Option (List (List Int) × Int) := Option.bind (sasks_S l ([] : List Int)) fun y1 => bif (y1 != 0) then some (([] : List (List Int)), y1) else (Option.bind (sinTime_11_XS ([] : List (Int × Int)) ([] : List (List Int)) l) fun y4 => sGenerations_L1 y4 N 0 y4.2)
set_option linter.unusedVariables false in
theorem sGenerations_Fh {N : Nat} {l : List Aut} {r : List (List Int) × Int} (hF : sGenerations_F N l = some r) : Holds Tryz.prog Gw 22 [.sl 6 (l.map cAut)] (sGenerations_E r) := by
  refine holds_of_wq tabOk mixed Tryz.func22 (by decide) rfl (Nat.le_of_ble_eq_true rfl) ?_
  refine Or.inl ?_
  refine obind hF fun y1 h2 hF => ?_
  refine Or.inl ⟨_, holds_nil (sasks_h h2) ⟨.inl rfl, .inr ⟨_, rfl, rfl⟩, trivial⟩, rfl, ?_⟩
  refine And.intro (fun h3 => ?_) (fun h3 => ?_)
  · have hF := cpos h3 hF
    refine Or.inl ?_
    exact Or.inl ⟨rfl, congrArg (Option.map sGenerations_E) hF⟩
  · have hF := cneg h3 hF
    refine Or.inr ⟨[], 0, _, _, _, _, rfl, rfl, eff_makeMap, rfl, ?_⟩
    refine Or.inl ?_
    refine Or.inl ?_
    refine Or.inr ⟨[], 0, _, _, _, _, rfl, rfl, eff_nallocT (eo := 25) (ei := 3) (sz := 1) (cf := cInt) tok35 rfl rfl (by decide), rfl, ?_⟩
    refine Or.inr (Or.inr ⟨[], 0, _, _, _, _, rfl, rfl, eff_call rfl (Or.inr ⟨_, rfl, rfl⟩) sinTime_K, rfl, ?_⟩)
    refine obind hF fun y4 h5 hF => ?_
    refine rangeP.mk ?_
    refine ⟨60000, envL [(5, .pm 5 1 0), (6, .pm 6 1 0)] 70 0, _, _, Or.inl rfl, rfl, (by refine envSub_L ?_ 70 0; exact ⟨rfl, rfl, trivial⟩), fun l R hp ha hb hn => ⟨[(60000, 1), (5, 1), (18, 1), (6, 1), (65542, 1), (20, 1)], 0, _, _, _, _, rfl, rfl, sinTime_11_Xh ⟨hp, ha, hb, hn⟩ h5, rfl, _, true, .skip, rfl, fun _ => ?_, fun hb => nomatch hb⟩⟩
    refine Or.inl ?_
    refine Or.inr ⟨[(65542, 2)], 0, _, _, _, _, rfl, rfl, eff_nlenT (cf := cInt) tok35.u, rfl, ?_⟩
    refine loop_oq (fun p : Nat × Int × List (List Int) => [(6, .pm 6 0 0), (60, .xr 65542 0), (61, .c (I (y4.2.length : Int))), (62, .c (I p.2.1))]) (fun p : Nat × Int × List (List Int) => [(6, .varx [.xr 65542 0]), (65542, .ext (nestK 25 3 1 (nrows cInt p.2.2) none) [])]) (fun p => sGenerations_L1 y4 p.1 p.2.1 p.2.2 = some r) (fun p => p.1) (N, 0, y4.2) hF ⟨rfl, rfl, rfl, rfl, trivial⟩ ⟨rfl, rfl, trivial⟩ ?_
    rintro ⟨fu1, v6, v7⟩ hF
    cases fu1 with
    | zero => exact nomatch hF
    | succ fu1 =>
      refine join_no ?_
      refine And.intro (fun h8 => ?_) (fun h8 => ?_)
      · have hF := cpos h8 hF
        refine join_no ?_
        refine obind hF fun x9 h10 hF => ?_
        refine Or.inr ⟨[(65542, 0)], 0, _, _, _, _, rfl, rfl, eff_nidxT (cf := cInt) tok35.u tok25 rfl h10, rfl, ?_⟩
        refine Or.inr ⟨[(65542, 0)], 0, _, _, _, _, rfl, rfl, eff_ntakeRT (cf := cInt) tok25 rfl h10, rfl, ?_⟩
        refine obind hF fun y11 h12 hF => ?_
        refine Or.inr (Or.inr ⟨[(65542, 0), (65601, 1)], 0, _, _, _, _, rfl, rfl, eff_call rfl (Or.inr ⟨_, rfl, rfl⟩) (effn_nrowT (cf := cInt) (r := x9) h10 (slSortI_Xh h12)), rfl, ?_⟩)
        exact ⟨(fu1, (IntKind.i64.wrap (v6 + 1)), (v7.set (v6).toNat y11)), Nat.lt_succ_self _, hF, ⟨rfl, rfl, rfl, rfl, trivial⟩, ⟨rfl, rfl, trivial⟩⟩
      · have hF := cneg h8 hF
        refine Or.inl ?_
        refine ret_eq (p := fun r => resFin tab _ (sGenerations_E r) _) hF ?_
        exact Or.inr ⟨⟨⟨rfl, nest_cl (csl := cSl_Int) fun _ => rfl⟩, rfl, rfl⟩, by decide⟩
abbrev sGenerations_S (l : List Aut) : Option (List (List Int) × Int) := sGenerations_F 1000 l
theorem sGenerations_h {l : List Aut} {r : List (List Int) × Int} (h : sGenerations_S l = some r) : Holds Tryz.prog Gw 22 [.sl 6 (l.map cAut)] (sGenerations_E r) := sGenerations_Fh  h
end Go.Proofs.YtdoldlbcjcfmdaaGreat
