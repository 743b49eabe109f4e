/- Functions of the program as functions of Lean, each with its contract (printed by a program). -/
import Derived.Test.YtmdhahfminiilaaDoorGA
namespace Go.Proofs.YtmdhahfminiilaaDoor
open Go Go.Abs
set_option maxRecDepth 10000
set_option maxHeartbeats 400000
abbrev kfind_1_E (y : Bool) : CV := B y
def kfind_1_F (s : Standing) (c0 : Int) : Option (Bool) := some ((s.Unit == c0))
set_option linter.unusedVariables false in
theorem kfind_1_Fh {s : Standing} {c0 : Int} {r : Bool} (hF : kfind_1_F s c0 = some r) : Holds Tryd.prog Gw 66 [.agg (cStanding s), .pi [I c0] 0] (kfind_1_E r) := by
  refine holds_of_wq tabOk mixed Tryd.func66 (by decide) rfl (Nat.le_of_ble_eq_true rfl) ?_
  refine Or.inl ?_
  exact Or.inl ⟨rfl, congrArg (Option.map kfind_1_E) hF⟩
abbrev kfind_1_S (s : Standing) (c0 : Int) : Option (Bool) := kfind_1_F s c0
theorem kfind_1_h {s : Standing} {c0 : Int} {r : Bool} (h : kfind_1_S s c0 = some r) : Holds Tryd.prog Gw 66 [.agg (cStanding s), .pi [I c0] 0] (kfind_1_E r) := kfind_1_Fh  h
abbrev slIndexFuncS_E (y : Int) : CV := I y
def slIndexFuncS_L1 (s : List Standing) (f : Standing → Option Bool) : Nat → Int → Option (Int)
  | 0, _ => none
  | fu1 + 1, v1 => bif decide (v1 < ((s.map cStanding).length : Int)) then (Option.bind (ix s v1) fun x3 => Option.bind (f x3) fun y5 => bif y5 then some (v1) else slIndexFuncS_L1 s f fu1 (IntKind.i64.wrap (v1 + 1))) else some ((-1))
def slIndexFuncS_F (N : Nat) (s : List Standing) (f : Standing → Option Bool) : Option (Int) := slIndexFuncS_L1 s f N 0
set_option linter.unusedVariables false in
theorem slIndexFuncS_Fh {N : Nat} {s : List Standing} {f : Standing → Option Bool} {r : Int} {f_f : FuncId} {f_c : List CV} (f_h : ∀ z0 y, f z0 = some y → Holds Tryd.prog Gw f_f (.agg (cStanding z0) :: f_c) (B y)) (hF : slIndexFuncS_F N s f = some r) : Holds Tryd.prog Gw 50 [.sl 5 (s.map cStanding), .fn f_f f_c] (slIndexFuncS_E r) := by
  refine holds_of_wq tabOk mixed Tryd.func50 (by decide) rfl (Nat.le_of_ble_eq_true rfl) ?_
  refine loop_oq (fun p : Nat × Int => [(0, .c (.sl 5 (s.map cStanding))), (1, .c (.fn f_f f_c)), (7, .c (I ((s.map cStanding).length : Int))), (8, .c (I p.2))]) (fun _ => []) (fun p => slIndexFuncS_L1 s f p.1 p.2 = some r) (fun p => p.1) (N, 0) hF ⟨rfl, rfl, rfl, rfl, trivial⟩ trivial ?_
  rintro ⟨fu1, v1⟩ hF
  cases fu1 with
  | zero => exact nomatch hF
  | succ fu1 =>
    refine join_no ?_
    refine And.intro (fun h2 => ?_) (fun h2 => ?_)
    · have hF := cpos h2 hF
      refine join_no ?_
      refine obind hF fun x3 h4 hF => ?_
      refine ⟨ix_nn h4, .inl rfl, _, ix_map cStanding h4, ?_⟩
      refine obind hF fun y5 h6 hF => ?_
      refine Or.inl ⟨_, f_h _ _ h6, rfl, ?_⟩
      refine And.intro (fun h7 => ?_) (fun h7 => ?_)
      · have hF := cpos h7 hF
        exact Or.inl ⟨rfl, congrArg (Option.map slIndexFuncS_E) hF⟩
      · have hF := cneg h7 hF
        exact ⟨(fu1, (IntKind.i64.wrap (v1 + 1))), Nat.lt_succ_self _, hF, ⟨rfl, rfl, rfl, rfl, trivial⟩, trivial⟩
    · have hF := cneg h2 hF
      exact Or.inl ⟨rfl, congrArg (Option.map slIndexFuncS_E) hF⟩
abbrev slIndexFuncS_S (s : List Standing) (f : Standing → Option Bool) : Option (Int) := slIndexFuncS_F (s.length + 1) s f
theorem slIndexFuncS_h {s : List Standing} {f : Standing → Option Bool} {r : Int} {f_f : FuncId} {f_c : List CV} (f_h : ∀ z0 y, f z0 = some y → Holds Tryd.prog Gw f_f (.agg (cStanding z0) :: f_c) (B y)) (h : slIndexFuncS_S s f = some r) : Holds Tryd.prog Gw 50 [.sl 5 (s.map cStanding), .fn f_f f_c] (slIndexFuncS_E r) := slIndexFuncS_Fh f_h h
abbrev kfind_E (y : Int) : CV := I y
def kfind_F (l : List Standing) (unit : Int) : Option (Int) := Option.bind (slIndexFuncS_S l (fun z0 => kfind_1_S z0 unit)) fun y1 => some (y1)
set_option linter.unusedVariables false in
theorem kfind_Fh {l : List Standing} {unit : Int} {r : Int} (hF : kfind_F l unit = some r) : Holds Tryd.prog Gw 41 [.sl 5 (l.map cStanding), I unit] (kfind_E r) := by
  refine holds_of_wq tabOk mixed Tryd.func41 (by decide) rfl (Nat.le_of_ble_eq_true rfl) ?_
  refine Or.inl ?_
  refine obind hF fun y1 h2 hF => ?_
  refine Or.inl ⟨_, slIndexFuncS_h (fun _ _ h => kfind_1_h h) h2, rfl, ?_⟩
  exact Or.inl ⟨rfl, congrArg (Option.map kfind_E) hF⟩
abbrev kfind_S (l : List Standing) (unit : Int) : Option (Int) := kfind_F l unit
theorem kfind_h {l : List Standing} {unit : Int} {r : Int} (h : kfind_S l unit = some r) : Holds Tryd.prog Gw 41 [.sl 5 (l.map cStanding), I unit] (kfind_E r) := kfind_Fh  h
abbrev kfields_E (y : Int) : CV := I y
def kfields_L1 (l : List Standing) : Nat → Int → Option (Int)
  | 0, _ => none
  | fu1 + 1, v1 => bif decide (v1 < ((l.map cStanding).length : Int)) then (Option.bind (ix l v1) fun x3 => bif decide (x3.Unit < 1) then some (2) else (bif decide (x3.Unit > 1073741824) then some (2) else (bif decide (x3.Level < 1) then some (2) else (bif decide (x3.Level > 4) then some (2) else (bif decide ((x3.Mark.length : Int) > 64) then some (4) else (bif decide ((x3.Title.length : Int) < 1) then some (4) else (bif decide ((x3.Title.length : Int) > 64) then some (4) else (bif decide (v1 > 0) then (Option.bind (ix l (IntKind.i64.wrap (v1 - 1))) fun x13 => bif decide (x13.Unit ≥ x3.Unit) then some (5) else kfields_L1 l fu1 (IntKind.i64.wrap (v1 + 1))) else kfields_L1 l fu1 (IntKind.i64.wrap (v1 + 1)))))))))) else some (0)
def kfields_F (N : Nat) (l : List Standing) : Option (Int) := kfields_L1 l N 0
set_option linter.unusedVariables false in
theorem kfields_Fh {N : Nat} {l : List Standing} {r : Int} (hF : kfields_F N l = some r) : Holds Tryd.prog Gw 43 [.sl 5 (l.map cStanding)] (kfields_E r) := by
  refine holds_of_wq tabOk mixed Tryd.func43 (by decide) rfl (Nat.le_of_ble_eq_true rfl) ?_
  refine loop_oq (fun p : Nat × Int => [(0, .c (.sl 5 (l.map cStanding))), (5, .c (.sl 5 (l.map cStanding))), (6, .c (I ((l.map cStanding).length : Int))), (7, .c (I p.2))]) (fun _ => []) (fun p => kfields_L1 l p.1 p.2 = some r) (fun p => p.1) (N, 0) hF ⟨rfl, rfl, rfl, rfl, trivial⟩ trivial ?_
  rintro ⟨fu1, v1⟩ hF
  cases fu1 with
  | zero => exact nomatch hF
  | succ fu1 =>
    refine join_no ?_
    refine And.intro (fun h2 => ?_) (fun h2 => ?_)
    · have hF := cpos h2 hF
      refine join_no ?_
      refine obind hF fun x3 h4 hF => ?_
      refine ⟨ix_nn h4, .inl rfl, _, ix_map cStanding h4, ?_⟩
      refine Or.inl ?_
      refine And.intro (fun h5 => ?_) (fun h5 => ?_)
      · have hF := cpos h5 hF
        exact Or.inl ⟨rfl, congrArg (Option.map kfields_E) hF⟩
      · have hF := cneg h5 hF
        refine And.intro (fun h6 => ?_) (fun h6 => ?_)
        · have hF := cpos h6 hF
          exact Or.inl ⟨rfl, congrArg (Option.map kfields_E) hF⟩
        · have hF := cneg h6 hF
          refine And.intro (fun h7 => ?_) (fun h7 => ?_)
          · have hF := cpos h7 hF
            exact Or.inl ⟨rfl, congrArg (Option.map kfields_E) hF⟩
          · have hF := cneg h7 hF
            refine And.intro (fun h8 => ?_) (fun h8 => ?_)
            · have hF := cpos h8 hF
              exact Or.inl ⟨rfl, congrArg (Option.map kfields_E) hF⟩
            · have hF := cneg h8 hF
              refine And.intro (fun h9 => ?_) (fun h9 => ?_)
              · have hF := cpos h9 hF
                exact Or.inl ⟨rfl, congrArg (Option.map kfields_E) hF⟩
              · have hF := cneg h9 hF
                refine And.intro (fun h10 => ?_) (fun h10 => ?_)
                · have hF := cpos h10 hF
                  exact Or.inl ⟨rfl, congrArg (Option.map kfields_E) hF⟩
                · have hF := cneg h10 hF
                  refine And.intro (fun h11 => ?_) (fun h11 => ?_)
                  · have hF := cpos h11 hF
                    exact Or.inl ⟨rfl, congrArg (Option.map kfields_E) hF⟩
                  · have hF := cneg h11 hF
                    refine And.intro (fun h12 => ?_) (fun h12 => ?_)
                    · have hF := cpos h12 hF
                      refine obind hF fun x13 h14 hF => ?_
                      refine ⟨ix_nn h14, .inl rfl, _, ix_map cStanding h14, ?_⟩
                      refine And.intro (by kernel_rfl) ?_
                      refine And.intro (fun h15 => ?_) (fun h15 => ?_)
                      · have hF := cpos h15 hF
                        exact Or.inl ⟨rfl, congrArg (Option.map kfields_E) hF⟩
                      · have hF := cneg h15 hF
                        exact ⟨(fu1, (IntKind.i64.wrap (v1 + 1))), Nat.lt_succ_self _, hF, ⟨rfl, rfl, rfl, rfl, trivial⟩, trivial⟩
                    · have hF := cneg h12 hF
                      refine And.intro (by kernel_rfl) ?_
                      exact ⟨(fu1, (IntKind.i64.wrap (v1 + 1))), Nat.lt_succ_self _, hF, ⟨rfl, rfl, rfl, rfl, trivial⟩, trivial⟩
    · have hF := cneg h2 hF
      exact Or.inl ⟨rfl, congrArg (Option.map kfields_E) hF⟩
abbrev kfields_S (l : List Standing) : Option (Int) := kfields_F 2000 l
theorem kfields_h {l : List Standing} {r : Int} (h : kfields_S l = some r) : Holds Tryd.prog Gw 43 [.sl 5 (l.map cStanding)] (kfields_E r) := kfields_Fh  h
abbrev kabove_E (y : Int) : CV := I y
def kabove_L3 (v2 : List (Int × Int)) (v6 : Int) (k_2 : Int → Option (Int)) : Nat → Int → Int → Option (Int)
  | 0, _, _ => none
  | fu3 + 1, n13, v14 => bif (v14 != 0) then (Option.bind (mlook v2 v14 0) fun y16 => bif (!y16.2) then some (17) else (bif decide ((IntKind.i64.wrap (n13 + 1)) ≥ 12) then some (17) else kabove_L3 v2 v6 k_2 fu3 (IntKind.i64.wrap (n13 + 1)) y16.1)) else k_2 (IntKind.i64.wrap (v6 + 1))
def kabove_L2 (l : List Standing) (v2 : List (Int × Int)) (N : Nat) : Nat → Int → Option (Int)
  | 0, _ => none
  | fu2 + 1, v6 => bif decide (v6 < ((l.map cStanding).length : Int)) then (Option.bind (ix l v6) fun x8 => Option.bind (mlook v2 x8.Parent 0) fun y10 => bif (!y10.2) then some (7) else kabove_L3 v2 v6 (fun q_v6 => kabove_L2 l v2 N fu2 q_v6) N 0 x8.Parent) else some (0)
def kabove_L1 (l : List Standing) (N : Nat) : Nat → Int → List (Int × Int) → Option (Int)
  | 0, _, _ => none
  | fu1 + 1, v1, v2 => bif decide (v1 < ((l.map cStanding).length : Int)) then (Option.bind (ix l v1) fun x4 => kabove_L1 l N fu1 (IntKind.i64.wrap (v1 + 1)) (mset v2 x4.Unit x4.Parent)) else kabove_L2 l v2 N N 0
def kabove_F (N : Nat) (l : List Standing) : Option (Int) := kabove_L1 l N N 0 (mset ([] : List (Int × Int)) 0 0)
set_option linter.unusedVariables false in
theorem kabove_Fh {N : Nat} {l : List Standing} {r : Int} (hF : kabove_F N l = some r) : Holds Tryd.prog Gw 44 [.sl 5 (l.map cStanding)] (kabove_E r) := by
  refine holds_of_wq tabOk mixed Tryd.func44 (by decide) rfl (Nat.le_of_ble_eq_true rfl) ?_
  refine Or.inr ⟨[], 0, _, _, _, _, rfl, rfl, eff_makeMap, rfl, ?_⟩
  refine Or.inr ⟨[(14, 1)], 0, _, _, _, _, rfl, rfl, eff_insert (ev := eInt) (m := ([] : List (Int × Int))) (x := 0) (v := 0) tok106.u tok3.u (keyInt .i64), rfl, ?_⟩
  refine loop_oq (fun p : Nat × Int × (List (Int × Int)) => [(0, .c (.sl 5 (l.map cStanding))), (3, .mr 14 0), (16, .c (.sl 5 (l.map cStanding))), (17, .c (I ((l.map cStanding).length : Int))), (18, .c (I p.2.1))]) (fun p : Nat × Int × (List (Int × Int)) => [(14, .map (mpE (kInt .i64) eInt p.2.2))]) (fun p => kabove_L1 l N p.1 p.2.1 p.2.2 = some r) (fun p => p.1) (N, 0, (mset ([] : List (Int × Int)) 0 0)) hF ⟨rfl, rfl, rfl, rfl, rfl, trivial⟩ ⟨rfl, trivial⟩ ?_
  rintro ⟨fu1, v1, v2⟩ hF
  cases fu1 with
  | zero => exact nomatch hF
  | succ fu1 =>
    refine join_no ?_
    refine And.intro (fun h3 => ?_) (fun h3 => ?_)
    · have hF := cpos h3 hF
      refine join_no ?_
      refine obind hF fun x4 h5 hF => ?_
      refine ⟨ix_nn h5, .inl rfl, _, ix_map cStanding h5, ?_⟩
      refine Or.inl ?_
      refine Or.inr ⟨[(14, 0)], 0, _, _, _, _, rfl, rfl, eff_mapUpdate (ev := eInt) (m := v2) (x := x4.Unit) (v := x4.Parent) tok106.u tok3.u (keyInt .i64), rfl, ?_⟩
      exact ⟨(fu1, (IntKind.i64.wrap (v1 + 1)), (mset v2 x4.Unit x4.Parent)), Nat.lt_succ_self _, hF, ⟨rfl, rfl, rfl, rfl, rfl, trivial⟩, ⟨rfl, trivial⟩⟩
    · have hF := cneg h3 hF
      refine loop_oq (fun p : Nat × Int => [(3, .mr 14 0), (28, .c (.sl 5 (l.map cStanding))), (29, .c (I ((l.map cStanding).length : Int))), (30, .c (I p.2))]) (fun p : Nat × Int => [(14, .map (mpE (kInt .i64) eInt v2))]) (fun p => kabove_L2 l v2 N p.1 p.2 = some r) (fun p => p.1) (N, 0) hF ⟨rfl, rfl, rfl, rfl, trivial⟩ ⟨rfl, trivial⟩ ?_
      rintro ⟨fu2, v6⟩ hF
      cases fu2 with
      | zero => exact nomatch hF
      | succ fu2 =>
        refine join_no ?_
        refine And.intro (fun h7 => ?_) (fun h7 => ?_)
        · have hF := cpos h7 hF
          refine join_no ?_
          refine obind hF fun x8 h9 hF => ?_
          refine ⟨ix_nn h9, .inl rfl, _, ix_map cStanding h9, ?_⟩
          refine Or.inl ?_
          refine obind hF fun y10 h11 hF => ?_
          refine Or.inr ⟨[(14, 0)], 0, _, _, _, _, rfl, rfl, eff_mlook (ev := eInt) (z := 0) (m := v2) (x := x8.Parent) tok106.u tok3.u (keyInt .i64) tok3 rfl h11, rfl, ?_⟩
          refine And.intro (fun h12 => ?_) (fun h12 => ?_)
          · have hF := cpos h12 hF
            exact Or.inl ⟨rfl, congrArg (Option.map kabove_E) hF⟩
          · have hF := cneg h12 hF
            refine loop_oq (fun p : Nat × Int × Int => [(3, .mr 14 0), (10, .c (I p.2.1)), (11, .c (I p.2.2)), (28, .c (.sl 5 (l.map cStanding))), (29, .c (I ((l.map cStanding).length : Int))), (30, .c (I v6))]) (fun p : Nat × Int × Int => [(14, .map (mpE (kInt .i64) eInt v2))]) (fun p => kabove_L3 v2 v6 (fun q_v6 => kabove_L2 l v2 N fu2 q_v6) p.1 p.2.1 p.2.2 = some r) (fun p => p.1) (N, 0, x8.Parent) hF ⟨rfl, rfl, rfl, rfl, rfl, rfl, trivial⟩ ⟨rfl, trivial⟩ ?_
            rintro ⟨fu3, n13, v14⟩ hF
            cases fu3 with
            | zero => exact nomatch hF
            | succ fu3 =>
              refine And.intro (fun h15 => ?_) (fun h15 => ?_)
              · have hF := cpos h15 hF
                refine join_no ?_
                refine obind hF fun y16 h17 hF => ?_
                refine Or.inr ⟨[(14, 0)], 0, _, _, _, _, rfl, rfl, eff_mlook (ev := eInt) (z := 0) (m := v2) (x := v14) tok106.u tok3.u (keyInt .i64) tok3 rfl h17, rfl, ?_⟩
                refine And.intro (fun h18 => ?_) (fun h18 => ?_)
                · have hF := cpos h18 hF
                  exact Or.inl ⟨rfl, congrArg (Option.map kabove_E) hF⟩
                · have hF := cneg h18 hF
                  refine And.intro (fun h19 => ?_) (fun h19 => ?_)
                  · have hF := cpos h19 hF
                    exact Or.inl ⟨rfl, congrArg (Option.map kabove_E) hF⟩
                  · have hF := cneg h19 hF
                    exact ⟨(fu3, (IntKind.i64.wrap (n13 + 1)), y16.1), Nat.lt_succ_self _, hF, ⟨rfl, rfl, rfl, rfl, rfl, rfl, trivial⟩, ⟨rfl, trivial⟩⟩
              · have hF := cneg h15 hF
                exact ⟨(fu2, (IntKind.i64.wrap (v6 + 1))), Nat.lt_succ_self _, hF, ⟨rfl, rfl, rfl, rfl, trivial⟩, ⟨rfl, trivial⟩⟩
        · have hF := cneg h7 hF
          exact Or.inl ⟨rfl, congrArg (Option.map kabove_E) hF⟩
abbrev kabove_S (l : List Standing) : Option (Int) := kabove_F 2000 l
theorem kabove_h {l : List Standing} {r : Int} (h : kabove_S l = some r) : Holds Tryd.prog Gw 44 [.sl 5 (l.map cStanding)] (kabove_E r) := kabove_Fh  h
abbrev kCheck_E (y : Int) : CV := I y
def kCheck_L2 (v2 : Int) (x5 : Shot) (k_1 : Int → List (Str × Int) → Option (Int)) : Nat → Int → List (Str × Int) → Option (Int)
  | 0, _, _ => none
  | fu2 + 1, v20, v21 => bif decide (v20 < ((x5.Units.map cStanding).length : Int)) then (Option.bind (ix x5.Units v20) fun x23 => bif (x23.Mark == ([] : Str)) then kCheck_L2 v2 x5 k_1 fu2 (IntKind.i64.wrap (v20 + 1)) v21 else (Option.bind (mlook v21 x23.Mark 0) fun y26 => bif y26.2 then (bif (y26.1 != x23.Unit) then some (19) else kCheck_L2 v2 x5 k_1 fu2 (IntKind.i64.wrap (v20 + 1)) (mset v21 x23.Mark x23.Unit)) else kCheck_L2 v2 x5 k_1 fu2 (IntKind.i64.wrap (v20 + 1)) (mset v21 x23.Mark x23.Unit))) else k_1 (IntKind.i64.wrap (v2 + 1)) v21
def kCheck_L3 (v2 : Int) (x5 : Shot) (k_1 : Int → List (Str × Int) → Option (Int)) : Nat → Int → List (Str × Int) → Option (Int)
  | 0, _, _ => none
  | fu3 + 1, v37, v38 => bif decide (v37 < ((x5.Units.map cStanding).length : Int)) then (Option.bind (ix x5.Units v37) fun x40 => bif (x40.Mark == ([] : Str)) then kCheck_L3 v2 x5 k_1 fu3 (IntKind.i64.wrap (v37 + 1)) v38 else (Option.bind (mlook v38 x40.Mark 0) fun y43 => bif y43.2 then (bif (y43.1 != x40.Unit) then some (19) else kCheck_L3 v2 x5 k_1 fu3 (IntKind.i64.wrap (v37 + 1)) (mset v38 x40.Mark x40.Unit)) else kCheck_L3 v2 x5 k_1 fu3 (IntKind.i64.wrap (v37 + 1)) (mset v38 x40.Mark x40.Unit))) else k_1 (IntKind.i64.wrap (v2 + 1)) v38
def kCheck_L1 (h_ : List Shot) (N : Nat) : Nat → Int → List (Str × Int) → Option (Int)
  | 0, _, _ => none
  | fu1 + 1, v2, v3 => bif decide (v2 < ((h_.map cShot).length : Int)) then (Option.bind (ix h_ v2) fun x5 => bif decide (x5.Day < 0) then some (2) else (bif decide (x5.Day > 1048575) then some (2) else (bif decide (v2 > 0) then (Option.bind (ix h_ (IntKind.i64.wrap (v2 - 1))) fun x10 => bif decide (x10.Day ≥ x5.Day) then some (5) else (bif decide (((x5.Units.map cStanding).length : Int) > 256) then some (8) else (Option.bind (kfields_S x5.Units) fun y14 => bif (y14 != 0) then some (y14) else (Option.bind (kabove_S x5.Units) fun y17 => bif (y17 != 0) then some (y17) else kCheck_L2 v2 x5 (fun q_v2 q_v3 => kCheck_L1 h_ N fu1 q_v2 q_v3) N 0 v3)))) else (bif decide (((x5.Units.map cStanding).length : Int) > 256) then some (8) else (Option.bind (kfields_S x5.Units) fun y31 => bif (y31 != 0) then some (y31) else (Option.bind (kabove_S x5.Units) fun y34 => bif (y34 != 0) then some (y34) else kCheck_L3 v2 x5 (fun q_v2 q_v3 => kCheck_L1 h_ N fu1 q_v2 q_v3) N 0 v3)))))) else some (0)
def kCheck_F (N : Nat) (h_ : List Shot) : Option (Int) := bif decide (((h_.map cShot).length : Int) > 64) then some (8) else kCheck_L1 h_ N N 0 ([] : List (Str × Int))
set_option linter.unusedVariables false in
theorem kCheck_Fh {N : Nat} {h_ : List Shot} {r : Int} (hF : kCheck_F N h_ = some r) : Holds Tryd.prog Gw 18 [.sl 2 (h_.map cShot)] (kCheck_E r) := by
  refine holds_of_wq tabOk mixed Tryd.func18 (by decide) rfl (Nat.le_of_ble_eq_true rfl) ?_
  refine And.intro (fun h1 => ?_) (fun h1 => ?_)
  · have hF := cpos h1 hF
    exact Or.inl ⟨rfl, congrArg (Option.map kCheck_E) hF⟩
  · have hF := cneg h1 hF
    refine Or.inr ⟨[], 0, _, _, _, _, rfl, rfl, eff_makeMap, rfl, ?_⟩
    refine loop_oq (fun p : Nat × Int × (List (Str × Int)) => [(0, .c (.sl 2 (h_.map cShot))), (3, .mr 15 0), (16, .c (.sl 2 (h_.map cShot))), (17, .c (I ((h_.map cShot).length : Int))), (18, .c (I p.2.1))]) (fun p : Nat × Int × (List (Str × Int)) => [(15, .map (mpE kStr eInt p.2.2))]) (fun p => kCheck_L1 h_ N p.1 p.2.1 p.2.2 = some r) (fun p => p.1) (N, 0, ([] : List (Str × Int))) hF ⟨rfl, rfl, rfl, rfl, rfl, trivial⟩ ⟨rfl, trivial⟩ ?_
    rintro ⟨fu1, v2, v3⟩ hF
    cases fu1 with
    | zero => exact nomatch hF
    | succ fu1 =>
      refine join_no ?_
      refine And.intro (fun h4 => ?_) (fun h4 => ?_)
      · have hF := cpos h4 hF
        refine join_no ?_
        refine obind hF fun x5 h6 hF => ?_
        refine ⟨ix_nn h6, .inl rfl, _, ix_map cShot h6, ?_⟩
        refine Or.inl ?_
        refine And.intro (fun h7 => ?_) (fun h7 => ?_)
        · have hF := cpos h7 hF
          exact Or.inl ⟨rfl, congrArg (Option.map kCheck_E) hF⟩
        · have hF := cneg h7 hF
          refine And.intro (fun h8 => ?_) (fun h8 => ?_)
          · have hF := cpos h8 hF
            exact Or.inl ⟨rfl, congrArg (Option.map kCheck_E) hF⟩
          · have hF := cneg h8 hF
            refine And.intro (fun h9 => ?_) (fun h9 => ?_)
            · have hF := cpos h9 hF
              refine obind hF fun x10 h11 hF => ?_
              refine ⟨ix_nn h11, .inl rfl, _, ix_map cShot h11, ?_⟩
              refine And.intro (by kernel_rfl) ?_
              refine And.intro (fun h12 => ?_) (fun h12 => ?_)
              · have hF := cpos h12 hF
                exact Or.inl ⟨rfl, congrArg (Option.map kCheck_E) hF⟩
              · have hF := cneg h12 hF
                refine And.intro (fun h13 => ?_) (fun h13 => ?_)
                · have hF := cpos h13 hF
                  exact Or.inl ⟨rfl, congrArg (Option.map kCheck_E) hF⟩
                · have hF := cneg h13 hF
                  refine obind hF fun y14 h15 hF => ?_
                  refine Or.inl ⟨_, kfields_h h15, rfl, ?_⟩
                  refine And.intro (fun h16 => ?_) (fun h16 => ?_)
                  · have hF := cpos h16 hF
                    exact Or.inl ⟨rfl, congrArg (Option.map kCheck_E) hF⟩
                  · have hF := cneg h16 hF
                    refine obind hF fun y17 h18 hF => ?_
                    refine Or.inl ⟨_, kabove_h h18, rfl, ?_⟩
                    refine And.intro (fun h19 => ?_) (fun h19 => ?_)
                    · have hF := cpos h19 hF
                      exact Or.inl ⟨rfl, congrArg (Option.map kCheck_E) hF⟩
                    · have hF := cneg h19 hF
                      refine loop_oq (fun p : Nat × Int × (List (Str × Int)) => [(0, .c (.sl 2 (h_.map cShot))), (3, .mr 15 0), (16, .c (.sl 2 (h_.map cShot))), (17, .c (I ((h_.map cShot).length : Int))), (18, .c (I v2)), (27, .pm 5 0 0), (28, .c (I x5.Day)), (29, .c (B (decide (x5.Day > 1048575)))), (34, .c (.sl 2 (h_.map cShot))), (35, .c (I v2)), (36, .c (I (IntKind.i64.wrap (v2 - 1)))), (37, .c (.pi [I x10.Day, .sl 5 (x10.Units.map cStanding)] 0)), (38, .c (.pi [I x10.Day, .sl 5 (x10.Units.map cStanding)] 0)), (39, .c (I x10.Day)), (40, .pm 5 0 0), (41, .c (I x5.Day)), (42, .c (B (decide (x10.Day ≥ x5.Day)))), (61, .c (.sl 5 (x5.Units.map cStanding))), (62, .c (I ((x5.Units.map cStanding).length : Int))), (63, .c (I p.2.1))]) (fun p : Nat × Int × (List (Str × Int)) => [(15, .map (mpE kStr eInt p.2.2)), (5, .var [I x5.Day, .sl 5 (x5.Units.map cStanding)])]) (fun p => kCheck_L2 v2 x5 (fun q_v2 q_v3 => kCheck_L1 h_ N fu1 q_v2 q_v3) p.1 p.2.1 p.2.2 = some r) (fun p => p.1) (N, 0, v3) hF ⟨rfl, rfl, rfl, rfl, rfl, rfl, rfl, rfl, rfl, rfl, rfl, rfl, rfl, rfl, rfl, rfl, rfl, rfl, rfl, rfl, trivial⟩ ⟨rfl, rfl, trivial⟩ ?_
                      rintro ⟨fu2, v20, v21⟩ hF
                      cases fu2 with
                      | zero => exact nomatch hF
                      | succ fu2 =>
                        refine join_no ?_
                        refine And.intro (fun h22 => ?_) (fun h22 => ?_)
                        · have hF := cpos h22 hF
                          refine join_no ?_
                          refine obind hF fun x23 h24 hF => ?_
                          refine ⟨ix_nn h24, .inl rfl, _, ix_map cStanding h24, ?_⟩
                          refine Or.inl ?_
                          refine And.intro (fun h25 => ?_) (fun h25 => ?_)
                          · have hF := cpos h25 hF
                            exact ⟨(fu2, (IntKind.i64.wrap (v20 + 1)), v21), Nat.lt_succ_self _, hF, ⟨rfl, rfl, rfl, rfl, rfl, rfl, rfl, rfl, rfl, rfl, rfl, rfl, rfl, rfl, rfl, rfl, rfl, rfl, rfl, rfl, trivial⟩, ⟨rfl, rfl, trivial⟩⟩
                          · have hF := cneg h25 hF
                            refine obind hF fun y26 h27 hF => ?_
                            refine Or.inr ⟨[(15, 0)], 0, _, _, _, _, rfl, rfl, eff_mlook (ev := eInt) (z := 0) (m := v21) (x := x23.Mark) tok86.u tok9.u keyStr tok3 rfl h27, rfl, ?_⟩
                            refine And.intro (fun h28 => ?_) (fun h28 => ?_)
                            · have hF := cpos h28 hF
                              refine And.intro (fun h29 => ?_) (fun h29 => ?_)
                              · have hF := cpos h29 hF
                                exact Or.inl ⟨rfl, congrArg (Option.map kCheck_E) hF⟩
                              · have hF := cneg h29 hF
                                refine Or.inr ⟨[(15, 0)], 0, _, _, _, _, rfl, rfl, eff_mapUpdate (ev := eInt) (m := v21) (x := x23.Mark) (v := x23.Unit) tok86.u tok9.u keyStr, rfl, ?_⟩
                                exact ⟨(fu2, (IntKind.i64.wrap (v20 + 1)), (mset v21 x23.Mark x23.Unit)), Nat.lt_succ_self _, hF, ⟨rfl, rfl, rfl, rfl, rfl, rfl, rfl, rfl, rfl, rfl, rfl, rfl, rfl, rfl, rfl, rfl, rfl, rfl, rfl, rfl, trivial⟩, ⟨rfl, rfl, trivial⟩⟩
                            · have hF := cneg h28 hF
                              refine Or.inr ⟨[(15, 0)], 0, _, _, _, _, rfl, rfl, eff_mapUpdate (ev := eInt) (m := v21) (x := x23.Mark) (v := x23.Unit) tok86.u tok9.u keyStr, rfl, ?_⟩
                              exact ⟨(fu2, (IntKind.i64.wrap (v20 + 1)), (mset v21 x23.Mark x23.Unit)), Nat.lt_succ_self _, hF, ⟨rfl, rfl, rfl, rfl, rfl, rfl, rfl, rfl, rfl, rfl, rfl, rfl, rfl, rfl, rfl, rfl, rfl, rfl, rfl, rfl, trivial⟩, ⟨rfl, rfl, trivial⟩⟩
                        · have hF := cneg h22 hF
                          exact ⟨(fu1, (IntKind.i64.wrap (v2 + 1)), v21), Nat.lt_succ_self _, hF, ⟨rfl, rfl, rfl, rfl, rfl, trivial⟩, ⟨rfl, trivial⟩⟩
            · have hF := cneg h9 hF
              refine And.intro (by kernel_rfl) ?_
              refine And.intro (fun h30 => ?_) (fun h30 => ?_)
              · have hF := cpos h30 hF
                exact Or.inl ⟨rfl, congrArg (Option.map kCheck_E) hF⟩
              · have hF := cneg h30 hF
                refine obind hF fun y31 h32 hF => ?_
                refine Or.inl ⟨_, kfields_h h32, rfl, ?_⟩
                refine And.intro (fun h33 => ?_) (fun h33 => ?_)
                · have hF := cpos h33 hF
                  exact Or.inl ⟨rfl, congrArg (Option.map kCheck_E) hF⟩
                · have hF := cneg h33 hF
                  refine obind hF fun y34 h35 hF => ?_
                  refine Or.inl ⟨_, kabove_h h35, rfl, ?_⟩
                  refine And.intro (fun h36 => ?_) (fun h36 => ?_)
                  · have hF := cpos h36 hF
                    exact Or.inl ⟨rfl, congrArg (Option.map kCheck_E) hF⟩
                  · have hF := cneg h36 hF
                    refine loop_oq (fun p : Nat × Int × (List (Str × Int)) => [(0, .c (.sl 2 (h_.map cShot))), (3, .mr 15 0), (16, .c (.sl 2 (h_.map cShot))), (17, .c (I ((h_.map cShot).length : Int))), (18, .c (I v2)), (27, .pm 5 0 0), (28, .c (I x5.Day)), (29, .c (B (decide (x5.Day > 1048575)))), (61, .c (.sl 5 (x5.Units.map cStanding))), (62, .c (I ((x5.Units.map cStanding).length : Int))), (63, .c (I p.2.1))]) (fun p : Nat × Int × (List (Str × Int)) => [(15, .map (mpE kStr eInt p.2.2)), (5, .var [I x5.Day, .sl 5 (x5.Units.map cStanding)])]) (fun p => kCheck_L3 v2 x5 (fun q_v2 q_v3 => kCheck_L1 h_ N fu1 q_v2 q_v3) p.1 p.2.1 p.2.2 = some r) (fun p => p.1) (N, 0, v3) hF ⟨rfl, rfl, rfl, rfl, rfl, rfl, rfl, rfl, rfl, rfl, rfl, trivial⟩ ⟨rfl, rfl, trivial⟩ ?_
                    rintro ⟨fu3, v37, v38⟩ hF
                    cases fu3 with
                    | zero => exact nomatch hF
                    | succ fu3 =>
                      refine join_no ?_
                      refine And.intro (fun h39 => ?_) (fun h39 => ?_)
                      · have hF := cpos h39 hF
                        refine join_no ?_
                        refine obind hF fun x40 h41 hF => ?_
                        refine ⟨ix_nn h41, .inl rfl, _, ix_map cStanding h41, ?_⟩
                        refine Or.inl ?_
                        refine And.intro (fun h42 => ?_) (fun h42 => ?_)
                        · have hF := cpos h42 hF
                          exact ⟨(fu3, (IntKind.i64.wrap (v37 + 1)), v38), Nat.lt_succ_self _, hF, ⟨rfl, rfl, rfl, rfl, rfl, rfl, rfl, rfl, rfl, rfl, rfl, trivial⟩, ⟨rfl, rfl, trivial⟩⟩
                        · have hF := cneg h42 hF
                          refine obind hF fun y43 h44 hF => ?_
                          refine Or.inr ⟨[(15, 0)], 0, _, _, _, _, rfl, rfl, eff_mlook (ev := eInt) (z := 0) (m := v38) (x := x40.Mark) tok86.u tok9.u keyStr tok3 rfl h44, rfl, ?_⟩
                          refine And.intro (fun h45 => ?_) (fun h45 => ?_)
                          · have hF := cpos h45 hF
                            refine And.intro (fun h46 => ?_) (fun h46 => ?_)
                            · have hF := cpos h46 hF
                              exact Or.inl ⟨rfl, congrArg (Option.map kCheck_E) hF⟩
                            · have hF := cneg h46 hF
                              refine Or.inr ⟨[(15, 0)], 0, _, _, _, _, rfl, rfl, eff_mapUpdate (ev := eInt) (m := v38) (x := x40.Mark) (v := x40.Unit) tok86.u tok9.u keyStr, rfl, ?_⟩
                              exact ⟨(fu3, (IntKind.i64.wrap (v37 + 1)), (mset v38 x40.Mark x40.Unit)), Nat.lt_succ_self _, hF, ⟨rfl, rfl, rfl, rfl, rfl, rfl, rfl, rfl, rfl, rfl, rfl, trivial⟩, ⟨rfl, rfl, trivial⟩⟩
                          · have hF := cneg h45 hF
                            refine Or.inr ⟨[(15, 0)], 0, _, _, _, _, rfl, rfl, eff_mapUpdate (ev := eInt) (m := v38) (x := x40.Mark) (v := x40.Unit) tok86.u tok9.u keyStr, rfl, ?_⟩
                            exact ⟨(fu3, (IntKind.i64.wrap (v37 + 1)), (mset v38 x40.Mark x40.Unit)), Nat.lt_succ_self _, hF, ⟨rfl, rfl, rfl, rfl, rfl, rfl, rfl, rfl, rfl, rfl, rfl, trivial⟩, ⟨rfl, rfl, trivial⟩⟩
                      · have hF := cneg h39 hF
                        exact ⟨(fu1, (IntKind.i64.wrap (v2 + 1)), v38), Nat.lt_succ_self _, hF, ⟨rfl, rfl, rfl, rfl, rfl, trivial⟩, ⟨rfl, trivial⟩⟩
      · have hF := cneg h4 hF
        exact Or.inl ⟨rfl, congrArg (Option.map kCheck_E) hF⟩
abbrev kCheck_S (h_ : List Shot) : Option (Int) := kCheck_F 2000 h_
theorem kCheck_h {h_ : List Shot} {r : Int} (h : kCheck_S h_ = some r) : Holds Tryd.prog Gw 18 [.sl 2 (h_.map cShot)] (kCheck_E r) := kCheck_Fh  h
abbrev kat_1_E (y : Bool) : CV := B y
def kat_1_F (x : Shot) (c0 : Int) : Option (Bool) := some (decide (x.Day > c0))
set_option linter.unusedVariables false in
theorem kat_1_Fh {x : Shot} {c0 : Int} {r : Bool} (hF : kat_1_F x c0 = some r) : Holds Tryd.prog Gw 83 [.agg (cShot x), .pi [I c0] 0] (kat_1_E r) := by
  refine holds_of_wq tabOk mixed Tryd.func83 (by decide) rfl (Nat.le_of_ble_eq_true rfl) ?_
  refine Or.inl ?_
  exact Or.inl ⟨rfl, congrArg (Option.map kat_1_E) hF⟩
abbrev kat_1_S (x : Shot) (c0 : Int) : Option (Bool) := kat_1_F x c0
theorem kat_1_h {x : Shot} {c0 : Int} {r : Bool} (h : kat_1_S x c0 = some r) : Holds Tryd.prog Gw 83 [.agg (cShot x), .pi [I c0] 0] (kat_1_E r) := kat_1_Fh  h
abbrev slIndexFuncH_E (y : Int) : CV := I y
def slIndexFuncH_L1 (s : List Shot) (f : Shot → Option Bool) : Nat → Int → Option (Int)
  | 0, _ => none
  | fu1 + 1, v1 => bif decide (v1 < ((s.map cShot).length : Int)) then (Option.bind (ix s v1) fun x3 => Option.bind (f x3) fun y5 => bif y5 then some (v1) else slIndexFuncH_L1 s f fu1 (IntKind.i64.wrap (v1 + 1))) else some ((-1))
def slIndexFuncH_F (N : Nat) (s : List Shot) (f : Shot → Option Bool) : Option (Int) := slIndexFuncH_L1 s f N 0
set_option linter.unusedVariables false in
theorem slIndexFuncH_Fh {N : Nat} {s : List Shot} {f : Shot → Option Bool} {r : Int} {f_f : FuncId} {f_c : List CV} (f_h : ∀ z0 y, f z0 = some y → Holds Tryd.prog Gw f_f (.agg (cShot z0) :: f_c) (B y)) (hF : slIndexFuncH_F N s f = some r) : Holds Tryd.prog Gw 49 [.sl 2 (s.map cShot), .fn f_f f_c] (slIndexFuncH_E r) := by
  refine holds_of_wq tabOk mixed Tryd.func49 (by decide) rfl (Nat.le_of_ble_eq_true rfl) ?_
  refine loop_oq (fun p : Nat × Int => [(0, .c (.sl 2 (s.map cShot))), (1, .c (.fn f_f f_c)), (7, .c (I ((s.map cShot).length : Int))), (8, .c (I p.2))]) (fun _ => []) (fun p => slIndexFuncH_L1 s f p.1 p.2 = some r) (fun p => p.1) (N, 0) hF ⟨rfl, rfl, rfl, rfl, trivial⟩ trivial ?_
  rintro ⟨fu1, v1⟩ hF
  cases fu1 with
  | zero => exact nomatch hF
  | succ fu1 =>
    refine join_no ?_
    refine And.intro (fun h2 => ?_) (fun h2 => ?_)
    · have hF := cpos h2 hF
      refine join_no ?_
      refine obind hF fun x3 h4 hF => ?_
      refine ⟨ix_nn h4, .inl rfl, _, ix_map cShot h4, ?_⟩
      refine obind hF fun y5 h6 hF => ?_
      refine Or.inl ⟨_, f_h _ _ h6, rfl, ?_⟩
      refine And.intro (fun h7 => ?_) (fun h7 => ?_)
      · have hF := cpos h7 hF
        exact Or.inl ⟨rfl, congrArg (Option.map slIndexFuncH_E) hF⟩
      · have hF := cneg h7 hF
        exact ⟨(fu1, (IntKind.i64.wrap (v1 + 1))), Nat.lt_succ_self _, hF, ⟨rfl, rfl, rfl, rfl, trivial⟩, trivial⟩
    · have hF := cneg h2 hF
      exact Or.inl ⟨rfl, congrArg (Option.map slIndexFuncH_E) hF⟩
abbrev slIndexFuncH_S (s : List Shot) (f : Shot → Option Bool) : Option (Int) := slIndexFuncH_F (s.length + 1) s f
theorem slIndexFuncH_h {s : List Shot} {f : Shot → Option Bool} {r : Int} {f_f : FuncId} {f_c : List CV} (f_h : ∀ z0 y, f z0 = some y → Holds Tryd.prog Gw f_f (.agg (cShot z0) :: f_c) (B y)) (h : slIndexFuncH_S s f = some r) : Holds Tryd.prog Gw 49 [.sl 2 (s.map cShot), .fn f_f f_c] (slIndexFuncH_E r) := slIndexFuncH_Fh f_h h
abbrev kat_E (y : Int) : CV := I y
def kat_F (h_ : List Shot) (day : Int) : Option (Int) := Option.bind (slIndexFuncH_S h_ (fun z0 => kat_1_S z0 day)) fun y1 => bif decide (y1 < 0) then some ((IntKind.i64.wrap (((h_.map cShot).length : Int) - 1))) else some ((IntKind.i64.wrap (y1 - 1)))
set_option linter.unusedVariables false in
theorem kat_Fh {h_ : List Shot} {day : Int} {r : Int} (hF : kat_F h_ day = some r) : Holds Tryd.prog Gw 65 [.sl 2 (h_.map cShot), I day] (kat_E r) := by
  refine holds_of_wq tabOk mixed Tryd.func65 (by decide) rfl (Nat.le_of_ble_eq_true rfl) ?_
  refine Or.inl ?_
  refine obind hF fun y1 h2 hF => ?_
  refine Or.inl ⟨_, slIndexFuncH_h (fun _ _ h => kat_1_h h) h2, rfl, ?_⟩
  refine And.intro (fun h3 => ?_) (fun h3 => ?_)
  · have hF := cpos h3 hF
    exact Or.inl ⟨rfl, congrArg (Option.map kat_E) hF⟩
  · have hF := cneg h3 hF
    exact Or.inl ⟨rfl, congrArg (Option.map kat_E) hF⟩
abbrev kat_S (h_ : List Shot) (day : Int) : Option (Int) := kat_F h_ day
theorem kat_h {h_ : List Shot} {day : Int} {r : Int} (h : kat_S h_ day = some r) : Holds Tryd.prog Gw 65 [.sl 2 (h_.map cShot), I day] (kat_E r) := kat_Fh  h
abbrev kAt_E (y : Int) : CV := I y
def kAt_F (h_ : List Shot) (day : Int) : Option (Int) := Option.bind (kCheck_S h_) fun y1 => bif (y1 != 0) then some ((-1)) else (Option.bind (kat_S h_ day) fun y4 => some (y4))
set_option linter.unusedVariables false in
theorem kAt_Fh {h_ : List Shot} {day : Int} {r : Int} (hF : kAt_F h_ day = some r) : Holds Tryd.prog Gw 40 [.sl 2 (h_.map cShot), I day] (kAt_E r) := by
  refine holds_of_wq tabOk mixed Tryd.func40 (by decide) rfl (Nat.le_of_ble_eq_true rfl) ?_
  refine obind hF fun y1 h2 hF => ?_
  refine Or.inl ⟨_, kCheck_h h2, rfl, ?_⟩
  refine And.intro (fun h3 => ?_) (fun h3 => ?_)
  · have hF := cpos h3 hF
    exact Or.inl ⟨rfl, congrArg (Option.map kAt_E) hF⟩
  · have hF := cneg h3 hF
    refine obind hF fun y4 h5 hF => ?_
    refine Or.inl ⟨_, kat_h h5, rfl, ?_⟩
    exact Or.inl ⟨rfl, congrArg (Option.map kAt_E) hF⟩
abbrev kAt_S (h_ : List Shot) (day : Int) : Option (Int) := kAt_F h_ day
theorem kAt_h {h_ : List Shot} {day : Int} {r : Int} (h : kAt_S h_ day = some r) : Holds Tryd.prog Gw 40 [.sl 2 (h_.map cShot), I day] (kAt_E r) := kAt_Fh  h
abbrev kStanding_E (y : Standing × Bool) : CV := .tup [.agg (cStanding y.1), B y.2]
def kStanding_F (h_ : List Shot) (unit : Int) (day : Int) : Option (Standing × Bool) := Option.bind (kAt_S h_ day) fun y1 => bif decide (y1 < 0) then some ((⟨0, 0, 0, ([] : Str), ([] : Str)⟩ : Standing), false) else (Option.bind (ix h_ y1) fun x4 => Option.bind (kfind_S x4.Units unit) fun y6 => bif decide (y6 < 0) then some ((⟨0, 0, 0, ([] : Str), ([] : Str)⟩ : Standing), false) else (Option.bind (ix h_ y1) fun x9 => Option.bind (ix x9.Units y6) fun x11 => some (x11, true)))
set_option linter.unusedVariables false in
theorem kStanding_Fh {h_ : List Shot} {unit : Int} {day : Int} {r : Standing × Bool} (hF : kStanding_F h_ unit day = some r) : Holds Tryd.prog Gw 16 [.sl 2 (h_.map cShot), I unit, I day] (kStanding_E r) := by
  refine holds_of_wq tabOk mixed Tryd.func16 (by decide) rfl (Nat.le_of_ble_eq_true rfl) ?_
  refine Or.inl ?_
  refine obind hF fun y1 h2 hF => ?_
  refine Or.inl ⟨_, kAt_h h2, rfl, ?_⟩
  refine And.intro (fun h3 => ?_) (fun h3 => ?_)
  · have hF := cpos h3 hF
    refine Or.inl ?_
    exact Or.inl ⟨rfl, congrArg (Option.map kStanding_E) hF⟩
  · have hF := cneg h3 hF
    refine obind hF fun x4 h5 hF => ?_
    refine ⟨ix_nn h5, .inl rfl, _, ix_map cShot h5, ?_⟩
    refine obind hF fun y6 h7 hF => ?_
    refine Or.inl ⟨_, kfind_h h7, rfl, ?_⟩
    refine And.intro (fun h8 => ?_) (fun h8 => ?_)
    · have hF := cpos h8 hF
      refine Or.inl ?_
      exact Or.inl ⟨rfl, congrArg (Option.map kStanding_E) hF⟩
    · have hF := cneg h8 hF
      refine obind hF fun x9 h10 hF => ?_
      refine ⟨ix_nn h10, .inl rfl, _, ix_map cShot h10, ?_⟩
      refine obind hF fun x11 h12 hF => ?_
      refine ⟨ix_nn h12, .inl rfl, _, ix_map cStanding h12, ?_⟩
      exact Or.inl ⟨rfl, congrArg (Option.map kStanding_E) hF⟩
abbrev kStanding_S (h_ : List Shot) (unit : Int) (day : Int) : Option (Standing × Bool) := kStanding_F h_ unit day
theorem kStanding_h {h_ : List Shot} {unit : Int} {day : Int} {r : Standing × Bool} (h : kStanding_S h_ unit day = some r) : Holds Tryd.prog Gw 16 [.sl 2 (h_.map cShot), I unit, I day] (kStanding_E r) := kStanding_Fh  h
abbrev pfind_1_E (y : Bool) : CV := B y
def pfind_1_F (s : Standing) (c0 : Int) : Option (Bool) := some ((s.Unit == c0))
set_option linter.unusedVariables false in
theorem pfind_1_Fh {s : Standing} {c0 : Int} {r : Bool} (hF : pfind_1_F s c0 = some r) : Holds Tryd.prog Gw 67 [.agg (cStanding s), .pi [I c0] 0] (pfind_1_E r) := by
  refine holds_of_wq tabOk mixed Tryd.func67 (by decide) rfl (Nat.le_of_ble_eq_true rfl) ?_
  refine Or.inl ?_
  exact Or.inl ⟨rfl, congrArg (Option.map pfind_1_E) hF⟩
abbrev pfind_1_S (s : Standing) (c0 : Int) : Option (Bool) := pfind_1_F s c0
theorem pfind_1_h {s : Standing} {c0 : Int} {r : Bool} (h : pfind_1_S s c0 = some r) : Holds Tryd.prog Gw 67 [.agg (cStanding s), .pi [I c0] 0] (pfind_1_E r) := pfind_1_Fh  h
abbrev pfind_E (y : Standing × Bool) : CV := .tup [.agg (cStanding y.1), B y.2]
def pfind_F (l : List Standing) (unit : Int) : Option (Standing × Bool) := Option.bind (slIndexFuncS_S l (fun z0 => pfind_1_S z0 unit)) fun y1 => bif decide (y1 < 0) then some ((⟨0, 0, 0, ([] : Str), ([] : Str)⟩ : Standing), false) else (Option.bind (ix l y1) fun x4 => some (x4, true))
set_option linter.unusedVariables false in
theorem pfind_Fh {l : List Standing} {unit : Int} {r : Standing × Bool} (hF : pfind_F l unit = some r) : Holds Tryd.prog Gw 45 [.sl 5 (l.map cStanding), I unit] (pfind_E r) := by
  refine holds_of_wq tabOk mixed Tryd.func45 (by decide) rfl (Nat.le_of_ble_eq_true rfl) ?_
  refine Or.inl ?_
  refine Or.inl ?_
  refine obind hF fun y1 h2 hF => ?_
  refine Or.inl ⟨_, slIndexFuncS_h (fun _ _ h => pfind_1_h h) h2, rfl, ?_⟩
  refine And.intro (fun h3 => ?_) (fun h3 => ?_)
  · have hF := cpos h3 hF
    refine Or.inl ?_
    exact Or.inl ⟨rfl, congrArg (Option.map pfind_E) hF⟩
  · have hF := cneg h3 hF
    refine obind hF fun x4 h5 hF => ?_
    refine ⟨ix_nn h5, .inl rfl, _, ix_map cStanding h5, ?_⟩
    exact Or.inl ⟨rfl, congrArg (Option.map pfind_E) hF⟩
abbrev pfind_S (l : List Standing) (unit : Int) : Option (Standing × Bool) := pfind_F l unit
theorem pfind_h {l : List Standing} {unit : Int} {r : Standing × Bool} (h : pfind_S l unit = some r) : Holds Tryd.prog Gw 45 [.sl 5 (l.map cStanding), I unit] (pfind_E r) := pfind_Fh  h
def slReverse_L1 : Nat → Int → Int → List Int → Option (List Int)
  | 0, _, _, _ => none
  | fu1 + 1, i1, j2, v3 => bif decide (i1 < j2) then (Option.bind (ix v3 j2) fun x5 => Option.bind (ix v3 i1) fun x7 => Option.bind (ix (v3.set (i1).toNat x5) j2) fun x9 => slReverse_L1 fu1 (IntKind.i64.wrap (i1 + 1)) (IntKind.i64.wrap (j2 - 1)) ((v3.set (i1).toNat x5).set (j2).toNat x7)) else some (v3)
def slReverse_F (N : Nat) (o0 : List Int) : Option (List Int) := slReverse_L1 N 0 (IntKind.i64.wrap (((o0.map cInt).length : Int) - 1)) o0
set_option linter.unusedVariables false in
theorem slReverse_XFh {N : Nat} {o0 : List Int} {r : List Int} (hF : slReverse_F N o0 = some r) : EffFn Tryd.prog Gw 82 [.rs 0 0] [(0, .arr 3 1 (o0.map cInt) none)] (.c (.tup [])) [(0, .arr 3 1 (r.map cInt) none)] := by
  refine effn_of_wq tabOk mixed Tryd.func82 (by decide) rfl (Nat.le_of_ble_eq_true rfl) rfl ?_
  refine Or.inl ?_
  refine loop_oq (fun p : Nat × Int × Int × List Int => [(0, .rs 4294967296 0), (2, .c (I p.2.1)), (3, .c (I p.2.2.1))]) (fun p : Nat × Int × Int × List Int => [(4294967296, .arr 3 1 (p.2.2.2.map cInt) none)]) (fun p => slReverse_L1 p.1 p.2.1 p.2.2.1 p.2.2.2 = some r) (fun p => p.1) (N, 0, (IntKind.i64.wrap (((o0.map cInt).length : Int) - 1)), o0) hF ⟨rfl, rfl, rfl, trivial⟩ ⟨rfl, trivial⟩ ?_
  rintro ⟨fu1, i1, j2, v3⟩ hF
  cases fu1 with
  | zero => exact nomatch hF
  | succ fu1 =>
    refine And.intro (fun h4 => ?_) (fun h4 => ?_)
    · have hF := cpos h4 hF
      refine join_no ?_
      refine obind hF fun x5 h6 hF => ?_
      refine Or.inl ⟨ix_nn h6, ix_lt h6, ?_⟩
      refine Or.inl ⟨_, ix_map cInt h6, ?_⟩
      refine obind hF fun x7 h8 hF => ?_
      refine Or.inl ⟨ix_nn h8, ix_lt h8, ?_⟩
      refine Or.inl ⟨_, ix_map cInt h8, ?_⟩
      refine Or.inl ⟨ix_nn h8, ix_lt h8, ?_⟩
      refine Or.inl ⟨_, ix_map cInt h8, ?_⟩
      refine ⟨(v3.set (i1).toNat x5).map cInt, _, .inl ⟨rfl, set_map _ _ _ _, rfl⟩, ?_⟩
      refine obind hF fun x9 h10 hF => ?_
      refine Or.inl ⟨ix_nn h10, ix_lt h10, ?_⟩
      refine Or.inl ⟨_, ix_map cInt h10, ?_⟩
      refine ⟨((v3.set (i1).toNat x5).set (j2).toNat x7).map cInt, _, .inl ⟨rfl, set_map _ _ _ _, rfl⟩, ?_⟩
      refine And.intro (by kernel_rfl) ?_
      exact ⟨(fu1, (IntKind.i64.wrap (i1 + 1)), (IntKind.i64.wrap (j2 - 1)), ((v3.set (i1).toNat x5).set (j2).toNat x7)), Nat.lt_succ_self _, hF, ⟨rfl, rfl, rfl, trivial⟩, ⟨rfl, trivial⟩⟩
    · have hF := cneg h4 hF
      refine ret_eq (p := fun r => effFin tab _ 1 (.c (.tup [])) [(0, .arr 3 1 (r.map cInt) none)] _) hF ?_
      exact ⟨[(4294967296, 0)], [0], rfl, rfl, rfl⟩
abbrev slReverse_XS (o0 : List Int) : Option (List Int) := slReverse_F 2000 o0
theorem slReverse_Xh {o0 : List Int} {r : List Int} (h : slReverse_XS o0 = some r) : EffFn Tryd.prog Gw 82 [.rs 0 0] [(0, .arr 3 1 (o0.map cInt) none)] (.c (.tup [])) [(0, .arr 3 1 (r.map cInt) none)] := slReverse_XFh  h
abbrev ppath_E (y : List Int) : CV := .sl 1 (y.map cInt)
def ppath_L1 (l : List Standing) : Nat → Int → List Int → Option (List Int)
  | 0, _, _ => none
  | fu1 + 1, unit1, out2 => bif (unit1 != 0) then (bif decide (out2.length + ([unit1] : List Int).length ≤ 4294967296) then Option.bind (pfind_S l unit1) fun y4 => ppath_L1 l fu1 y4.1.Parent (out2 ++ ([unit1] : List Int)) else none) else (Option.bind (slReverse_XS out2) fun y7 => some (y7))
def ppath_F (N : Nat) (l : List Standing) (unit : Int) : Option (List Int) := ppath_L1 l N unit ([] : List Int)
set_option linter.unusedVariables false in
theorem ppath_Fh {N : Nat} {l : List Standing} {unit : Int} {r : List Int} (hF : ppath_F N l unit = some r) : Holds Tryd.prog Gw 64 [.sl 5 (l.map cStanding), I unit] (ppath_E r) := by
  refine holds_of_wq tabOk mixed Tryd.func64 (by decide) rfl (Nat.le_of_ble_eq_true rfl) ?_
  refine Or.inl ?_
  refine Or.inr ⟨[], 0, _, _, _, _, rfl, rfl, eff_nilS (e := 3) (ie := ti3) (by decide), rfl, ?_⟩
  refine join_no ?_
  refine loop_oq (fun p : Nat × Int × List Int => [(0, .c (.sl 5 (l.map cStanding))), (1, .c (I p.2.1)), (5, .rs 5 0)]) (fun p : Nat × Int × List Int => [(5, .arr 3 1 (p.2.2.map cInt) none)]) (fun p => ppath_L1 l p.1 p.2.1 p.2.2 = some r) (fun p => p.1) (N, unit, ([] : List Int)) hF ⟨rfl, rfl, rfl, trivial⟩ ⟨rfl, trivial⟩ ?_
  rintro ⟨fu1, unit1, out2⟩ hF
  cases fu1 with
  | zero => exact nomatch hF
  | succ fu1 =>
    refine And.intro (fun h3 => ?_) (fun h3 => ?_)
    · have hF := cpos h3 hF
      refine Or.inl ?_
      refine gpos hF fun h6 hF => ?_
      refine Or.inr ⟨[(5, 0)], 0, _, _, _, _, rfl, rfl, eff_append (cf := cInt) (l := out2) (ns := ([unit1] : List Int)) tok40.u tok3 (by decide) (by decide) (fun _ => rfl) h6, rfl, ?_⟩
      refine obind hF fun y4 h5 hF => ?_
      refine Or.inl ⟨_, pfind_h h5, rfl, ?_⟩
      refine Or.inl ?_
      exact ⟨(fu1, y4.1.Parent, (out2 ++ ([unit1] : List Int))), Nat.lt_succ_self _, hF, ⟨rfl, rfl, rfl, trivial⟩, ⟨rfl, trivial⟩⟩
    · have hF := cneg h3 hF
      refine obind hF fun y7 h8 hF => ?_
      refine Or.inr (Or.inr ⟨[(5, 0)], 0, _, _, _, _, rfl, rfl, eff_call rfl (Or.inr ⟨_, rfl, rfl⟩) (slReverse_Xh h8), rfl, ?_⟩)
      refine ret_eq (p := fun r => resFin tab _ (ppath_E r) _) hF ?_
      exact Or.inr ⟨rfl, _, rfl, rfl⟩
abbrev ppath_S (l : List Standing) (unit : Int) : Option (List Int) := ppath_F 2000 l unit
theorem ppath_h {l : List Standing} {unit : Int} {r : List Int} (h : ppath_S l unit = some r) : Holds Tryd.prog Gw 64 [.sl 5 (l.map cStanding), I unit] (ppath_E r) := ppath_Fh  h
theorem pversions_K {h_ : List Shot} {unit : Int} : EffFn Tryd.prog Gw 39 [.c (.sl 2 (h_.map cShot)), .c (I unit)] [] (.fnr 63 [.pm 0 1 0, .pm 1 1 0]) [(1, .var [.sl 2 (h_.map cShot)]), (1, .var [I unit])] := by
  refine effn_of_wq tabOk mixed Tryd.func39 (by decide) rfl (Nat.le_of_ble_eq_true rfl) rfl ?_
  refine Or.inl ?_
  refine Or.inl ?_
  exact ⟨[(2, 1), (3, 1)], [1, 1], rfl, rfl, rfl⟩
def pVersions_R0_X : {p : Array Nat × Code × Code // (rangesOf (Tryd.f20.body.getD .skip))[0]? = some p} := ⟨(_, _, _), rfl⟩
def pVersions_R0_R (R : Loop) : Prop := R.params = pVersions_R0_X.1.1 ∧ R.assign = pVersions_R0_X.1.2.1 ∧ R.body = pVersions_R0_X.1.2.2 ∧ R.tmps.size = 23
theorem pVersions_R0_n {R : Loop} (h : pVersions_R0_R R) : 1 = R.params.size := by rw [h.1]; rfl
def pVersions_R0_F (o2 : List Version) (a14 : Version) : Option (List Version) := bif decide (o2.length + ([a14] : List Version).length ≤ 4294967296) then some ((o2 ++ ([a14] : List Version))) else none
set_option linter.unusedVariables false in
theorem pVersions_R0_XFh {o2 : List Version} {a14 : Version} {r : List Version} {l : Nat} {R : Loop} (hR : pVersions_R0_R R) (hF : pVersions_R0_F o2 a14 = some r) : EffRnd Tryd.prog Gw l R (envL [(6, .pm 1 0 0)] 23 0) [.c (.agg [I a14.Number, I a14.Day, I a14.Unit.Unit, I a14.Unit.Parent, I a14.Unit.Level, S a14.Unit.Mark, S a14.Unit.Title, .sl 1 (a14.Path.map cInt)])] [(0, .lp l R .on), (0, .varx [.rs 2 0]), (0, .arr 42 8 (o2.map cVersion) none)] (.c (.v (.bool true))) [(0, .lp l R .on), (0, .varx [.rs 2 1]), (1, .arr 42 8 (r.map cVersion) none)] := by
  refine effrnd_of_wq [2] tabOk mixed 0 hR.1 hR.2.1 hR.2.2.1 hR.2.2.2 rfl ?_
  refine Or.inl ?_
  refine ⟨rfl, ?_⟩
  refine Or.inl ?_
  refine Or.inl ?_
  refine gpos hF fun h1 hF => ?_
  refine Or.inr ⟨[(2147614720, 0)], 0, _, _, _, _, rfl, rfl, eff_append (cf := cVersion) (l := o2) (ns := ([a14] : List Version)) tok51.u tok42 (by decide) (by decide) (fun _ => rfl) h1, rfl, ?_⟩
  refine Or.inl ?_
  refine ret_eq (p := fun r => rndFin [2] 0 l R 3 (.c (.v (.bool true))) [(0, .lp l R .on), (0, .varx [.rs 2 1]), (1, .arr 42 8 (r.map cVersion) none)] .on true _) hF ?_
  exact ⟨rfl, rfl, [(4294967296, 0), (4295032832, 0), (2147614720, 1)], [0, 0, 1], rfl, rfl⟩
abbrev pVersions_R0_XS (o2 : List Version) (a14 : Version) : Option (List Version) := pVersions_R0_F o2 a14
theorem pVersions_R0_Xh {o2 : List Version} {a14 : Version} {r : List Version} {l : Nat} {R : Loop} (hR : pVersions_R0_R R) (h : pVersions_R0_XS o2 a14 = some r) : EffRnd Tryd.prog Gw l R (envL [(6, .pm 1 0 0)] 23 0) [.c (.agg [I a14.Number, I a14.Day, I a14.Unit.Unit, I a14.Unit.Parent, I a14.Unit.Level, S a14.Unit.Mark, S a14.Unit.Title, .sl 1 (a14.Path.map cInt)])] [(0, .lp l R .on), (0, .varx [.rs 2 0]), (0, .arr 42 8 (o2.map cVersion) none)] (.c (.v (.bool true))) [(0, .lp l R .on), (0, .varx [.rs 2 1]), (1, .arr 42 8 (r.map cVersion) none)] := pVersions_R0_XFh hR h
def pversions_1_L1 (u3 : List Shot) (u4 : Int) : Nat → Bool → Int → Int → Int → Int → Int → Str → Str → List Version → Option (List Version)
  | 0, _, _, _, _, _, _, _, _, _ => none
  | fu1 + 1, was1, n2, v3, before_4, before_5, before_6, before_7, before_8, v9 => bif decide (v3 < ((u3.map cShot).length : Int)) then (Option.bind (ix u3 v3) fun x11 => Option.bind (pfind_S x11.Units u4) fun y13 => bif y13.2 then (bif (!was1) then (Option.bind (ppath_S x11.Units u4) fun y17 => Option.bind (pVersions_R0_XS v9 (⟨(IntKind.i64.wrap (n2 + 1)), x11.Day, y13.1, y17⟩ : Version)) fun y19 => pversions_1_L1 u3 u4 fu1 y13.2 (IntKind.i64.wrap (n2 + 1)) (IntKind.i64.wrap (v3 + 1)) y13.1.Unit y13.1.Parent y13.1.Level y13.1.Mark y13.1.Title y19) else (bif (!(y13.1 == (⟨before_4, before_5, before_6, before_7, before_8⟩ : Standing))) then (Option.bind (ppath_S x11.Units u4) fun y23 => Option.bind (pVersions_R0_XS v9 (⟨(IntKind.i64.wrap (n2 + 1)), x11.Day, y13.1, y23⟩ : Version)) fun y25 => pversions_1_L1 u3 u4 fu1 y13.2 (IntKind.i64.wrap (n2 + 1)) (IntKind.i64.wrap (v3 + 1)) y13.1.Unit y13.1.Parent y13.1.Level y13.1.Mark y13.1.Title y25) else pversions_1_L1 u3 u4 fu1 y13.2 n2 (IntKind.i64.wrap (v3 + 1)) y13.1.Unit y13.1.Parent y13.1.Level y13.1.Mark y13.1.Title v9)) else pversions_1_L1 u3 u4 fu1 y13.2 n2 (IntKind.i64.wrap (v3 + 1)) y13.1.Unit y13.1.Parent y13.1.Level y13.1.Mark y13.1.Title v9) else some (v9)
def pversions_1_F (N : Nat) (o2 : List Version) (u3 : List Shot) (u4 : Int) : Option (List Version) := pversions_1_L1 u3 u4 N false 0 0 0 0 0 ([] : Str) ([] : Str) o2
set_option linter.unusedVariables false in
theorem pversions_1_XFh {N : Nat} {o2 : List Version} {u3 : List Shot} {u4 : Int} {r : List Version} {l : Nat} {R : Loop} (hR : pVersions_R0_R R) (hF : pversions_1_F N o2 u3 u4 = some r) : EffFn Tryd.prog Gw 63 [.fnr (.yl l R.tmps.toList) (envL [(6, .pm 1 0 0)] 23 0), .pm 3 0 0, .pm 4 0 0] [(0, .lp l R .on), (0, .varx [.rs 2 0]), (0, .arr 42 8 (o2.map cVersion) none), (0, .var [.sl 2 (u3.map cShot)]), (0, .var [I u4])] (.c (.tup [])) [(0, .lp l R .on), (0, .varx [.rs 2 1]), (1, .arr 42 8 (r.map cVersion) none), (0, .var [.sl 2 (u3.map cShot)]), (0, .var [I u4])] := by
  refine effn_of_wqM [2] tabOk mixed Tryd.func63 (by decide) rfl (Nat.le_of_ble_eq_true rfl) rfl ?_
  refine Or.inl ?_
  refine loop_oq (fun p : Nat × Bool × Int × Int × Int × Int × Int × Str × Str × List Version => [(0, .fnr (.yl l R.tmps.toList) (envL [(6, .pm 4295032832 0 0)] 23 0)), (2, .pm 4295229440 0 0), (4, .pm 4 0 0), (5, .c (B p.2.1)), (6, .c (I p.2.2.1)), (11, .c (.sl 2 (u3.map cShot))), (12, .c (I ((u3.map cShot).length : Int))), (13, .c (I p.2.2.2.1))]) (fun p : Nat × Bool × Int × Int × Int × Int × Int × Str × Str × List Version => [(4294967296, .lp l R .on), (4295032832, .varx [.rs 2147614720 0]), (4295229440, .var [I u4]), (4, .var [I p.2.2.2.2.1, I p.2.2.2.2.2.1, I p.2.2.2.2.2.2.1, S p.2.2.2.2.2.2.2.1, S p.2.2.2.2.2.2.2.2.1]), (2147614720, .arr 42 8 (p.2.2.2.2.2.2.2.2.2.map cVersion) none), (4295163904, .var [.sl 2 (u3.map cShot)])]) (fun p => pversions_1_L1 u3 u4 p.1 p.2.1 p.2.2.1 p.2.2.2.1 p.2.2.2.2.1 p.2.2.2.2.2.1 p.2.2.2.2.2.2.1 p.2.2.2.2.2.2.2.1 p.2.2.2.2.2.2.2.2.1 p.2.2.2.2.2.2.2.2.2 = some r) (fun p => p.1) (N, false, 0, 0, 0, 0, 0, ([] : Str), ([] : Str), o2) hF ⟨rfl, rfl, rfl, rfl, rfl, rfl, rfl, rfl, trivial⟩ ⟨rfl, rfl, rfl, rfl, rfl, rfl, trivial⟩ ?_
  rintro ⟨fu1, was1, n2, v3, before_4, before_5, before_6, before_7, before_8, v9⟩ hF
  cases fu1 with
  | zero => exact nomatch hF
  | succ fu1 =>
    refine join_no ?_
    refine And.intro (fun h10 => ?_) (fun h10 => ?_)
    · have hF := cpos h10 hF
      refine join_no ?_
      refine obind hF fun x11 h12 hF => ?_
      refine ⟨ix_nn h12, .inl rfl, _, ix_map cShot h12, ?_⟩
      refine Or.inl ?_
      refine obind hF fun y13 h14 hF => ?_
      refine Or.inl ⟨_, pfind_h h14, rfl, ?_⟩
      refine Or.inl ?_
      refine And.intro (fun h15 => ?_) (fun h15 => ?_)
      · have hF := cpos h15 hF
        refine And.intro (fun h16 => ?_) (fun h16 => ?_)
        · have hF := cpos h16 hF
          refine obind hF fun y17 h18 hF => ?_
          refine Or.inl ⟨_, ppath_h h18, rfl, ?_⟩
          refine Or.inl ?_
          refine obind hF fun y19 h20 hF => ?_
          refine Or.inr ⟨[(4294967296, 0), (4295032832, 0), (2147614720, 0)], 0, _, _, _, _, rfl, rfl, eff_round rfl 0 rfl (pVersions_R0_n hR) (pVersions_R0_Xh hR h20), rfl, ?_⟩
          refine And.intro (by kernel_rfl) ?_
          refine And.intro (fun h21 => ?_) (fun h21 => ?_)
          · exact absurd h21 (by simp)
          · skip
            exact ⟨(fu1, y13.2, (IntKind.i64.wrap (n2 + 1)), (IntKind.i64.wrap (v3 + 1)), y13.1.Unit, y13.1.Parent, y13.1.Level, y13.1.Mark, y13.1.Title, y19), Nat.lt_succ_self _, hF, ⟨rfl, rfl, rfl, rfl, rfl, rfl, rfl, rfl, trivial⟩, ⟨rfl, rfl, rfl, rfl, rfl, rfl, trivial⟩⟩
        · have hF := cneg h16 hF
          refine Or.inr ⟨[], 0, _, _, _, _, rfl, rfl, sne_Standing y13.1 (⟨before_4, before_5, before_6, before_7, before_8⟩ : Standing), rfl, ?_⟩
          refine And.intro (fun h22 => ?_) (fun h22 => ?_)
          · have hF := cpos h22 hF
            refine obind hF fun y23 h24 hF => ?_
            refine Or.inl ⟨_, ppath_h h24, rfl, ?_⟩
            refine Or.inl ?_
            refine obind hF fun y25 h26 hF => ?_
            refine Or.inr ⟨[(4294967296, 0), (4295032832, 0), (2147614720, 0)], 0, _, _, _, _, rfl, rfl, eff_round rfl 0 rfl (pVersions_R0_n hR) (pVersions_R0_Xh hR h26), rfl, ?_⟩
            refine And.intro (by kernel_rfl) ?_
            refine And.intro (fun h27 => ?_) (fun h27 => ?_)
            · exact absurd h27 (by simp)
            · skip
              exact ⟨(fu1, y13.2, (IntKind.i64.wrap (n2 + 1)), (IntKind.i64.wrap (v3 + 1)), y13.1.Unit, y13.1.Parent, y13.1.Level, y13.1.Mark, y13.1.Title, y25), Nat.lt_succ_self _, hF, ⟨rfl, rfl, rfl, rfl, rfl, rfl, rfl, rfl, trivial⟩, ⟨rfl, rfl, rfl, rfl, rfl, rfl, trivial⟩⟩
          · have hF := cneg h22 hF
            exact ⟨(fu1, y13.2, n2, (IntKind.i64.wrap (v3 + 1)), y13.1.Unit, y13.1.Parent, y13.1.Level, y13.1.Mark, y13.1.Title, v9), Nat.lt_succ_self _, hF, ⟨rfl, rfl, rfl, rfl, rfl, rfl, rfl, rfl, trivial⟩, ⟨rfl, rfl, rfl, rfl, rfl, rfl, trivial⟩⟩
      · have hF := cneg h15 hF
        exact ⟨(fu1, y13.2, n2, (IntKind.i64.wrap (v3 + 1)), y13.1.Unit, y13.1.Parent, y13.1.Level, y13.1.Mark, y13.1.Title, v9), Nat.lt_succ_self _, hF, ⟨rfl, rfl, rfl, rfl, rfl, rfl, rfl, rfl, trivial⟩, ⟨rfl, rfl, rfl, rfl, rfl, rfl, trivial⟩⟩
    · have hF := cneg h10 hF
      refine ret_eq (p := fun r => effFinM tab _ 5 [2] (.c (.tup [])) [(0, .lp l R .on), (0, .varx [.rs 2 1]), (1, .arr 42 8 (r.map cVersion) none), (0, .var [.sl 2 (u3.map cShot)]), (0, .var [I u4])] _) hF ?_
      exact ⟨[(4294967296, 0), (4295032832, 0), (2147614720, 0), (4295163904, 0), (4295229440, 0)], [0, 0, 1, 0, 0], rfl, rfl, rfl⟩
abbrev pversions_1_XS (o2 : List Version) (u3 : List Shot) (u4 : Int) : Option (List Version) := pversions_1_F 2000 o2 u3 u4
theorem pversions_1_Xh {o2 : List Version} {u3 : List Shot} {u4 : Int} {r : List Version} {l : Nat} {R : Loop} (hR : pVersions_R0_R R) (h : pversions_1_XS o2 u3 u4 = some r) : EffFn Tryd.prog Gw 63 [.fnr (.yl l R.tmps.toList) (envL [(6, .pm 1 0 0)] 23 0), .pm 3 0 0, .pm 4 0 0] [(0, .lp l R .on), (0, .varx [.rs 2 0]), (0, .arr 42 8 (o2.map cVersion) none), (0, .var [.sl 2 (u3.map cShot)]), (0, .var [I u4])] (.c (.tup [])) [(0, .lp l R .on), (0, .varx [.rs 2 1]), (1, .arr 42 8 (r.map cVersion) none), (0, .var [.sl 2 (u3.map cShot)]), (0, .var [I u4])] := pversions_1_XFh hR h
abbrev pVersions_E (y : List Version × Int) : CV := .tup [.sl 8 (y.1.map cVersion), I y.2]
def pVersions_F (h_ : List Shot) (unit : Int) : Option (List Version × Int) := Option.bind (kCheck_S h_) fun y1 => bif (y1 != 0) then some (([] : List Version), 1) else (Option.bind (pversions_1_XS ([] : List Version) h_ unit) fun y4 => bif (((y4.map cVersion).length : Int) == 0) then some (([] : List Version), 7) else some (y4, 0))
set_option linter.unusedVariables false in
theorem pVersions_Fh {h_ : List Shot} {unit : Int} {r : List Version × Int} (hF : pVersions_F h_ unit = some r) : Holds Tryd.prog Gw 20 [.sl 2 (h_.map cShot), I unit] (pVersions_E r) := by
  refine holds_of_wq tabOk mixed Tryd.func20 (by decide) rfl (Nat.le_of_ble_eq_true rfl) ?_
  refine Or.inl ?_
  refine obind hF fun y1 h2 hF => ?_
  refine Or.inl ⟨_, kCheck_h h2, rfl, ?_⟩
  refine And.intro (fun h3 => ?_) (fun h3 => ?_)
  · have hF := cpos h3 hF
    refine Or.inl ?_
    exact Or.inl ⟨rfl, congrArg (Option.map pVersions_E) hF⟩
  · have hF := cneg h3 hF
    refine Or.inr ⟨[], 0, _, _, _, _, rfl, rfl, eff_allocS (e := 42) (ie := ti42) tok51 rfl rfl (by decide), rfl, ?_⟩
    refine Or.inr (Or.inr ⟨[], 0, _, _, _, _, rfl, rfl, eff_call rfl (Or.inr ⟨_, rfl, rfl⟩) pversions_K, rfl, ?_⟩)
    refine obind hF fun y4 h5 hF => ?_
    refine rangeP.mk ?_
    refine ⟨60000, envL [(6, .pm 6 1 0)] 23 0, _, _, Or.inl rfl, rfl, (by refine envSub_L ?_ 23 0; exact ⟨rfl, trivial⟩), fun l R hp ha hb hn => ⟨[(60000, 1), (6, 1), (65542, 1), (13, 1), (65549, 1)], 0, _, _, _, _, rfl, rfl, pversions_1_Xh ⟨hp, ha, hb, hn⟩ h5, rfl, _, true, .skip, rfl, fun _ => ?_, fun hb => nomatch hb⟩⟩
    refine Or.inl ?_
    refine Or.inl ?_
    refine And.intro (fun h6 => ?_) (fun h6 => ?_)
    · have hF := cpos h6 hF
      refine Or.inl ?_
      exact Or.inl ⟨rfl, congrArg (Option.map pVersions_E) hF⟩
    · have hF := cneg h6 hF
      refine Or.inl ?_
      refine ret_eq (p := fun r => resFin tab _ (pVersions_E r) _) hF ?_
      exact Or.inr ⟨⟨⟨rfl, _, rfl, rfl⟩, rfl, rfl⟩, by decide⟩
abbrev pVersions_S (h_ : List Shot) (unit : Int) : Option (List Version × Int) := pVersions_F h_ unit
theorem pVersions_h {h_ : List Shot} {unit : Int} {r : List Version × Int} (h : pVersions_S h_ unit = some r) : Holds Tryd.prog Gw 20 [.sl 2 (h_.map cShot), I unit] (pVersions_E r) := pVersions_Fh  h
end Go.Proofs.YtmdhahfminiilaaDoor
