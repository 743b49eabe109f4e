/- Functions of the program as functions of Lean, each with its contract (printed by a program). -/
import Derived.Test.YtdoldlbcjcfmdaaGreatGD
namespace Go.Proofs.YtdoldlbcjcfmdaaGreat
open Go Go.Abs
set_option maxRecDepth 10000
set_option maxHeartbeats 400000
abbrev sWay_1_E (y : Bool) : CV := B y
def sWay_1_F (n : Int) (c0 : List (Int × Int)) (c1 : Int) : Option (Bool) := Option.bind (mlook c0 n 0) fun y1 => bif y1.2 then (Option.bind (mlk c0 c1 0) fun y4 => some ((y1.1 == (IntKind.i64.wrap (y4 - 1))))) else some (false)
set_option linter.unusedVariables false in
theorem sWay_1_Fh {n : Int} {c0 : List (Int × Int)} {c1 : Int} {r : Bool} (hF : sWay_1_F n c0 c1 = some r) : Holds Tryz.prog Gw 42 [I n, .pi [.mp (mpE (kInt .i64) eInt c0)] 0, .pi [I c1] 0] (sWay_1_E r) := by
  refine holds_of_wq tabOk mixed Tryz.func42 (by decide) rfl (Nat.le_of_ble_eq_true rfl) ?_
  refine obind hF fun y1 h2 hF => ?_
  refine Or.inr ⟨[], 0, _, _, _, _, rfl, rfl, eff_mlookC (ev := eInt) (z := 0) (m := c0) (x := n) tok63.u tok3.u (keyInt .i64) tok3 rfl h2, rfl, ?_⟩
  refine And.intro (fun h3 => ?_) (fun h3 => ?_)
  · have hF := cpos h3 hF
    refine obind hF fun y4 h5 hF => ?_
    refine Or.inr ⟨[], 0, _, _, _, _, rfl, rfl, eff_mlkC (ev := eInt) (z := 0) (m := c0) (x := c1) tok63.u tok3.u (keyInt .i64) tok3 rfl h5, rfl, ?_⟩
    exact Or.inl ⟨rfl, congrArg (Option.map sWay_1_E) hF⟩
  · have hF := cneg h3 hF
    exact Or.inl ⟨rfl, congrArg (Option.map sWay_1_E) hF⟩
abbrev sWay_1_S (n : Int) (c0 : List (Int × Int)) (c1 : Int) : Option (Bool) := sWay_1_F n c0 c1
theorem sWay_1_h {n : Int} {c0 : List (Int × Int)} {c1 : Int} {r : Bool} (h : sWay_1_S n c0 c1 = some r) : Holds Tryz.prog Gw 42 [I n, .pi [.mp (mpE (kInt .i64) eInt c0)] 0, .pi [I c1] 0] (sWay_1_E r) := sWay_1_Fh  h
abbrev sWay_E (y : List Int × Int) : CV := .tup [.sl 1 (y.1.map cInt), I y.2]
def sWay_L2 (y9 : Aut × Bool) (y11 : List Int) (k_1 : List Int → List (Int × Int) → Option (List Int × Int)) : Nat → Int → List Int → List (Int × Int) → Option (List Int × Int)
  | 0, _, _, _ => none
  | fu2 + 1, v13, v14, v15 => bif decide (v13 < ((y11.map cInt).length : Int)) then (Option.bind (ix y11 v13) fun x17 => Option.bind (mlook v15 x17 0) fun y19 => bif (!y19.2) then (Option.bind (mlk v15 y9.1.ID 0) fun y22 => bif decide (v14.length + 1 ≤ 4294967296) then sWay_L2 y9 y11 k_1 fu2 (IntKind.i64.wrap (v13 + 1)) (v14 ++ [x17]) (mset v15 x17 (IntKind.i64.wrap (y22 + 1))) else none) else sWay_L2 y9 y11 k_1 fu2 (IntKind.i64.wrap (v13 + 1)) v14 v15) else (bif decide (0 ≤ (1 : Int) ∧ (1 : Int) ≤ (v14.length : Int)) then k_1 (v14.drop (1 : Int).toNat) v15 else none)
def sWay_L3 (l : List Aut) (to : Int) (v5 : List (Int × Int)) : Nat → List Int → Int → Option (List Int × Int)
  | 0, _, _ => none
  | fu3 + 1, out29, v_30 => bif (v_30 != to) then (Option.bind (pFind_S l v_30) fun y32 => Option.bind (slIndexFuncI_S y32.1.Next (fun z0 => sWay_1_S z0 v5 v_30)) fun y34 => Option.bind (ix y32.1.Next y34) fun x36 => bif decide (out29.length + ([x36] : List Int).length ≤ 4294967296) then sWay_L3 l to v5 fu3 (out29 ++ ([x36] : List Int)) x36 else none) else some (out29, 0)
def sWay_L1 (l : List Aut) (from_ : Int) (to : Int) (N : Nat) : Nat → List Int → List (Int × Int) → Option (List Int × Int)
  | 0, _, _ => none
  | fu1 + 1, v4, v5 => bif decide ((v4.length : Int) > 0) then (Option.bind (ix v4 0) fun x7 => Option.bind (pFind_S l x7) fun y9 => Option.bind (sback_1_S y9.1 l) fun y11 => sWay_L2 y9 y11 (fun q_v4 q_v5 => sWay_L1 l from_ to N fu1 q_v4 q_v5) N 0 v4 v5) else (Option.bind (mlook v5 from_ 0) fun y26 => bif (!y26.2) then some (([] : List Int), 10) else sWay_L3 l to v5 N ([from_] : List Int) from_)
def sWay_F (N : Nat) (l : List Aut) (from_ : Int) (to : Int) : Option (List Int × Int) := Option.bind (sasks_S l ([from_, to] : List Int)) fun y1 => bif (y1 != 0) then some (([] : List Int), y1) else sWay_L1 l from_ to N N ([to] : List Int) (mset ([] : List (Int × Int)) to 0)
set_option linter.unusedVariables false in
theorem sWay_Fh {N : Nat} {l : List Aut} {from_ : Int} {to : Int} {r : List Int × Int} (hF : sWay_F N l from_ to = some r) : Holds Tryz.prog Gw 16 [.sl 6 (l.map cAut), I from_, I to] (sWay_E r) := by
  refine holds_of_wq tabOk mixed Tryz.func16 (by decide) rfl (Nat.le_of_ble_eq_true rfl) ?_
  refine Or.inl ?_
  refine Or.inl ?_
  refine obind hF fun y1 h2 hF => ?_
  refine Or.inl ⟨_, sasks_h h2, rfl, ?_⟩
  refine And.intro (fun h3 => ?_) (fun h3 => ?_)
  · have hF := cpos h3 hF
    refine Or.inl ?_
    exact Or.inl ⟨rfl, congrArg (Option.map sWay_E) hF⟩
  · have hF := cneg h3 hF
    refine Or.inr ⟨[], 0, _, _, _, _, rfl, rfl, eff_makeMap, rfl, ?_⟩
    refine Or.inr ⟨[(33, 1)], 0, _, _, _, _, rfl, rfl, eff_insert (ev := eInt) (m := ([] : List (Int × Int))) (x := to) (v := 0) tok63.u tok3.u (keyInt .i64), rfl, ?_⟩
    refine Or.inl ?_
    refine Or.inl ?_
    refine Or.inr ⟨[], 0, _, _, _, _, rfl, rfl, eff_qlitT (af := I) (a := to) tok25.u tok3 rfl rfl (fun _ _ _ h => cells_one h rfl), rfl, ?_⟩
    refine Or.inl ⟨_, sback_h, rfl, ?_⟩
    refine Or.inl ?_
    refine loop_oq (fun p : Nat × List Int × (List (Int × Int)) => [(0, .c (.sl 6 (l.map cAut))), (1, .c (I from_)), (2, .c (I to)), (9, .pm 9 0 0), (10, .xr 37 0), (11, .pm 11 0 0)]) (fun p : Nat × List Int × (List (Int × Int)) => [(9, .varx [.mr 33 0]), (37, .ext (queK 3 (p.2.1.map I)) []), (11, .var [.sl 6 (l.map cAut), .fn 60 [.pi [.sl 6 (l.map cAut)] 0]]), (33, .map (mpE (kInt .i64) eInt p.2.2))]) (fun p => sWay_L1 l from_ to N p.1 p.2.1 p.2.2 = some r) (fun p => p.1) (N, ([to] : List Int), (mset ([] : List (Int × Int)) to 0)) hF ⟨rfl, rfl, rfl, rfl, rfl, rfl, trivial⟩ ⟨rfl, rfl, rfl, rfl, trivial⟩ ?_
    rintro ⟨fu1, v4, v5⟩ hF
    cases fu1 with
    | zero => exact nomatch hF
    | succ fu1 =>
      refine Or.inr ⟨[(37, 0)], 0, _, _, _, _, rfl, rfl, eff_qlenT (af := I) tok25.u, rfl, ?_⟩
      refine And.intro (fun h6 => ?_) (fun h6 => ?_)
      · have hF := cpos h6 hF
        refine join_no ?_
        refine obind hF fun x7 h8 hF => ?_
        refine Or.inr ⟨[(37, 0)], 0, _, _, _, _, rfl, rfl, eff_qidxT (af := I) tok25.u tok3 rfl h8, rfl, ?_⟩
        refine Or.inr ⟨[(37, 0)], 0, _, _, _, _, rfl, rfl, eff_qloadT (af := I) tok3 rfl h8, rfl, ?_⟩
        refine obind hF fun y9 h10 hF => ?_
        refine Or.inl ⟨_, pFind_h h10, rfl, ?_⟩
        refine Or.inl ?_
        refine obind hF fun y11 h12 hF => ?_
        refine Or.inl ⟨_, sback_1_h h12, rfl, ?_⟩
        refine loop_oq (fun p : Nat × Int × List Int × (List (Int × Int)) => [(0, .c (.sl 6 (l.map cAut))), (1, .c (I from_)), (2, .c (I to)), (9, .pm 9 0 0), (10, .xr 37 0), (11, .pm 11 0 0), (12, .pm 12 0 0), (56, .c (.sl 1 (y11.map cInt))), (57, .c (I ((y11.map cInt).length : Int))), (58, .c (I p.2.1))]) (fun p : Nat × Int × List Int × (List (Int × Int)) => [(9, .varx [.mr 33 0]), (37, .ext (queK 3 (p.2.2.1.map I)) []), (11, .var [.sl 6 (l.map cAut), .fn 60 [.pi [.sl 6 (l.map cAut)] 0]]), (12, .var [I y9.1.ID, I y9.1.Kind, I y9.1.In.From, I y9.1.In.Until, .sl 3 (y9.1.Names.map cNam), .sl 1 (y9.1.Next.map cInt)]), (33, .map (mpE (kInt .i64) eInt p.2.2.2))]) (fun p => sWay_L2 y9 y11 (fun q_v4 q_v5 => sWay_L1 l from_ to N fu1 q_v4 q_v5) p.1 p.2.1 p.2.2.1 p.2.2.2 = some r) (fun p => p.1) (N, 0, v4, v5) hF ⟨rfl, rfl, rfl, rfl, rfl, rfl, rfl, rfl, rfl, rfl, trivial⟩ ⟨rfl, rfl, rfl, rfl, rfl, trivial⟩ ?_
        rintro ⟨fu2, v13, v14, v15⟩ hF
        cases fu2 with
        | zero => exact nomatch hF
        | succ fu2 =>
          refine join_no ?_
          refine And.intro (fun h16 => ?_) (fun h16 => ?_)
          · have hF := cpos h16 hF
            refine join_no ?_
            refine obind hF fun x17 h18 hF => ?_
            refine ⟨ix_nn h18, .inl rfl, _, ix_map cInt h18, ?_⟩
            refine Or.inl ?_
            refine obind hF fun y19 h20 hF => ?_
            refine Or.inr ⟨[(33, 0)], 0, _, _, _, _, rfl, rfl, eff_mlook (ev := eInt) (z := 0) (m := v15) (x := x17) tok63.u tok3.u (keyInt .i64) tok3 rfl h20, rfl, ?_⟩
            refine And.intro (fun h21 => ?_) (fun h21 => ?_)
            · have hF := cpos h21 hF
              refine Or.inl ?_
              refine Or.inl ?_
              refine obind hF fun y22 h23 hF => ?_
              refine Or.inr ⟨[(33, 0)], 0, _, _, _, _, rfl, rfl, eff_mlk (ev := eInt) (z := 0) (m := v15) (x := y9.1.ID) tok63.u tok3.u (keyInt .i64) tok3 rfl h23, rfl, ?_⟩
              refine Or.inr ⟨[(33, 0)], 0, _, _, _, _, rfl, rfl, eff_mapUpdate (ev := eInt) (m := v15) (x := x17) (v := (IntKind.i64.wrap (y22 + 1))) tok63.u tok3.u (keyInt .i64), rfl, ?_⟩
              refine Or.inl ?_
              refine gpos hF fun h24 hF => ?_
              refine Or.inr ⟨[(37, 0)], 0, _, _, _, _, rfl, rfl, eff_qappT (af := I) (l := v14) (a := x17) tok25.u tok3 rfl (by decide) h24, rfl, ?_⟩
              exact ⟨(fu2, (IntKind.i64.wrap (v13 + 1)), (v14 ++ [x17]), (mset v15 x17 (IntKind.i64.wrap (y22 + 1)))), Nat.lt_succ_self _, hF, ⟨rfl, rfl, rfl, rfl, rfl, rfl, rfl, rfl, rfl, rfl, trivial⟩, ⟨rfl, rfl, rfl, rfl, rfl, trivial⟩⟩
            · have hF := cneg h21 hF
              exact ⟨(fu2, (IntKind.i64.wrap (v13 + 1)), v14, v15), Nat.lt_succ_self _, hF, ⟨rfl, rfl, rfl, rfl, rfl, rfl, rfl, rfl, rfl, rfl, trivial⟩, ⟨rfl, rfl, rfl, rfl, rfl, trivial⟩⟩
          · have hF := cneg h16 hF
            refine Or.inl ?_
            refine gpos hF fun h25 hF => ?_
            refine Or.inr ⟨[(37, 0)], 0, _, _, _, _, rfl, rfl, eff_qtailT (af := I) (l := v14) tok25.u tok3 rfl h25, rfl, ?_⟩
            exact ⟨(fu1, (v14.drop (1 : Int).toNat), v15), Nat.lt_succ_self _, hF, ⟨rfl, rfl, rfl, rfl, rfl, rfl, trivial⟩, ⟨rfl, rfl, rfl, rfl, trivial⟩⟩
      · have hF := cneg h6 hF
        refine Or.inl ?_
        refine obind hF fun y26 h27 hF => ?_
        refine Or.inr ⟨[(33, 0)], 0, _, _, _, _, rfl, rfl, eff_mlook (ev := eInt) (z := 0) (m := v5) (x := from_) tok63.u tok3.u (keyInt .i64) tok3 rfl h27, rfl, ?_⟩
        refine And.intro (fun h28 => ?_) (fun h28 => ?_)
        · have hF := cpos h28 hF
          refine Or.inl ?_
          exact Or.inl ⟨rfl, congrArg (Option.map sWay_E) hF⟩
        · have hF := cneg h28 hF
          refine Or.inl ?_
          refine Or.inl ?_
          refine loop_oq (fun p : Nat × List Int × Int => [(0, .c (.sl 6 (l.map cAut))), (2, .c (I to)), (9, .pm 9 0 0), (20, .ap 20 0 1 (p.2.1.map cInt)), (21, .pm 21 0 0)]) (fun p : Nat × List Int × Int => [(9, .varx [.mr 33 0]), (20, .tok 3 1), (21, .var [I p.2.2]), (33, .map (mpE (kInt .i64) eInt v5))]) (fun p => sWay_L3 l to v5 p.1 p.2.1 p.2.2 = some r) (fun p => p.1) (N, ([from_] : List Int), from_) hF ⟨rfl, rfl, rfl, rfl, rfl, trivial⟩ ⟨rfl, rfl, rfl, rfl, trivial⟩ ?_
          rintro ⟨fu3, out29, v_30⟩ hF
          cases fu3 with
          | zero => exact nomatch hF
          | succ fu3 =>
            refine And.intro (fun h31 => ?_) (fun h31 => ?_)
            · have hF := cpos h31 hF
              refine join_no ?_
              refine obind hF fun y32 h33 hF => ?_
              refine Or.inl ⟨_, pFind_h h33, rfl, ?_⟩
              refine Or.inl ?_
              refine obind hF fun y34 h35 hF => ?_
              refine Or.inl ⟨_, slIndexFuncI_h (fun _ _ h => sWay_1_h h) h35, rfl, ?_⟩
              refine obind hF fun x36 h37 hF => ?_
              refine ⟨ix_nn h37, .inl rfl, _, ix_map cInt h37, ?_⟩
              refine Or.inl ?_
              refine gpos hF fun h38 hF => ?_
              refine Or.inl ⟨len_all rfl, app_le (f := cInt) h38, (out29 ++ ([x36] : List Int)).map cInt, map_app _ _ _, ?_⟩
              refine Or.inl ?_
              exact ⟨(fu3, (out29 ++ ([x36] : List Int)), x36), Nat.lt_succ_self _, hF, ⟨rfl, rfl, rfl, rfl, rfl, trivial⟩, ⟨rfl, rfl, rfl, rfl, trivial⟩⟩
            · have hF := cneg h31 hF
              exact Or.inl ⟨rfl, congrArg (Option.map sWay_E) hF⟩
abbrev sWay_S (l : List Aut) (from_ : Int) (to : Int) : Option (List Int × Int) := sWay_F 1000 l from_ to
theorem sWay_h {l : List Aut} {from_ : Int} {to : Int} {r : List Int × Int} (h : sWay_S l from_ to = some r) : Holds Tryz.prog Gw 16 [.sl 6 (l.map cAut), I from_, I to] (sWay_E r) := sWay_Fh  h
end Go.Proofs.YtdoldlbcjcfmdaaGreat
