/- Functions of the program as functions of Lean, each with its contract (printed by a program). -/
import Derived.Test.YtmdhahfminiilaaDoorGC
namespace Go.Proofs.YtmdhahfminiilaaDoor
open Go Go.Abs
set_option maxRecDepth 10000
set_option maxHeartbeats 400000
abbrev slContainsFuncS_E (y : Bool) : CV := B y
def slContainsFuncS_F (s : List Standing) (f : Standing → Option Bool) : Option (Bool) := Option.bind (slIndexFuncS_S s f) fun y1 => some (decide (y1 ≥ 0))
set_option linter.unusedVariables false in
theorem slContainsFuncS_Fh {s : List Standing} {f : Standing → Option Bool} {r : Bool} {f_f : FuncId} {f_c : List CV} (f_h : ∀ z0 y, f z0 = some y → Holds Tryd.prog Gw f_f (.agg (cStanding z0) :: f_c) (B y)) (hF : slContainsFuncS_F s f = some r) : Holds Tryd.prog Gw 25 [.sl 5 (s.map cStanding), .fn f_f f_c] (slContainsFuncS_E r) := by
  refine holds_of_wq tabOk mixed Tryd.func25 (by decide) rfl (Nat.le_of_ble_eq_true rfl) ?_
  refine obind hF fun y1 h2 hF => ?_
  refine Or.inl ⟨_, slIndexFuncS_h f_h h2, rfl, ?_⟩
  exact Or.inl ⟨rfl, congrArg (Option.map slContainsFuncS_E) hF⟩
abbrev slContainsFuncS_S (s : List Standing) (f : Standing → Option Bool) : Option (Bool) := slContainsFuncS_F s f
theorem slContainsFuncS_h {s : List Standing} {f : Standing → Option Bool} {r : Bool} {f_f : FuncId} {f_c : List CV} (f_h : ∀ z0 y, f z0 = some y → Holds Tryd.prog Gw f_f (.agg (cStanding z0) :: f_c) (B y)) (h : slContainsFuncS_S s f = some r) : Holds Tryd.prog Gw 25 [.sl 5 (s.map cStanding), .fn f_f f_c] (slContainsFuncS_E r) := slContainsFuncS_Fh f_h h
abbrev slContainsFuncH_E (y : Bool) : CV := B y
def slContainsFuncH_F (s : List Shot) (f : Shot → Option Bool) : Option (Bool) := Option.bind (slIndexFuncH_S s f) fun y1 => some (decide (y1 ≥ 0))
set_option linter.unusedVariables false in
theorem slContainsFuncH_Fh {s : List Shot} {f : Shot → Option Bool} {r : Bool} {f_f : FuncId} {f_c : List CV} (f_h : ∀ z0 y, f z0 = some y → Holds Tryd.prog Gw f_f (.agg (cShot z0) :: f_c) (B y)) (hF : slContainsFuncH_F s f = some r) : Holds Tryd.prog Gw 23 [.sl 2 (s.map cShot), .fn f_f f_c] (slContainsFuncH_E r) := by
  refine holds_of_wq tabOk mixed Tryd.func23 (by decide) rfl (Nat.le_of_ble_eq_true rfl) ?_
  refine obind hF fun y1 h2 hF => ?_
  refine Or.inl ⟨_, slIndexFuncH_h f_h h2, rfl, ?_⟩
  exact Or.inl ⟨rfl, congrArg (Option.map slContainsFuncH_E) hF⟩
abbrev slContainsFuncH_S (s : List Shot) (f : Shot → Option Bool) : Option (Bool) := slContainsFuncH_F s f
theorem slContainsFuncH_h {s : List Shot} {f : Shot → Option Bool} {r : Bool} {f_f : FuncId} {f_c : List CV} (f_h : ∀ z0 y, f z0 = some y → Holds Tryd.prog Gw f_f (.agg (cShot z0) :: f_c) (B y)) (h : slContainsFuncH_S s f = some r) : Holds Tryd.prog Gw 23 [.sl 2 (s.map cShot), .fn f_f f_c] (slContainsFuncH_E r) := slContainsFuncH_Fh f_h h
abbrev lCitationNumbers_1_1_E (y : Bool) : CV := B y
def lCitationNumbers_1_1_F (y : Standing) (c0 : Int) : Option (Bool) := some ((y.Unit == c0))
set_option linter.unusedVariables false in
theorem lCitationNumbers_1_1_Fh {y : Standing} {c0 : Int} {r : Bool} (hF : lCitationNumbers_1_1_F y c0 = some r) : Holds Tryd.prog Gw 26 [.agg (cStanding y), .pi [I c0] 0] (lCitationNumbers_1_1_E r) := by
  refine holds_of_wq tabOk mixed Tryd.func26 (by decide) rfl (Nat.le_of_ble_eq_true rfl) ?_
  refine Or.inl ?_
  exact Or.inl ⟨rfl, congrArg (Option.map lCitationNumbers_1_1_E) hF⟩
abbrev lCitationNumbers_1_1_S (y : Standing) (c0 : Int) : Option (Bool) := lCitationNumbers_1_1_F y c0
theorem lCitationNumbers_1_1_h {y : Standing} {c0 : Int} {r : Bool} (h : lCitationNumbers_1_1_S y c0 = some r) : Holds Tryd.prog Gw 26 [.agg (cStanding y), .pi [I c0] 0] (lCitationNumbers_1_1_E r) := lCitationNumbers_1_1_Fh  h
abbrev lCitationNumbers_1_E (y : Bool) : CV := B y
def lCitationNumbers_1_F (x : Shot) (c0 : List Version) (c1 : Int) (c2 : Version) (c3 : Int) : Option (Bool) := Option.bind (ix c0 (IntKind.i64.wrap (c1 - 1))) fun x1 => bif decide (x.Day > x1.Day) then (bif decide (x.Day < c2.Day) then (Option.bind (slContainsFuncS_S x.Units (fun z0 => lCitationNumbers_1_1_S z0 c3)) fun y5 => some ((!y5))) else some (false)) else some (false)
set_option linter.unusedVariables false in
theorem lCitationNumbers_1_Fh {x : Shot} {c0 : List Version} {c1 : Int} {c2 : Version} {c3 : Int} {r : Bool} (hF : lCitationNumbers_1_F x c0 c1 c2 c3 = some r) : Holds Tryd.prog Gw 24 [.agg (cShot x), .pi [.sl 8 (c0.map cVersion)] 0, .pi [I c1] 0, .pi (cVersion c2) 0, .pi [I c3] 0] (lCitationNumbers_1_E r) := by
  refine holds_of_wq tabOk mixed Tryd.func24 (by decide) rfl (Nat.le_of_ble_eq_true rfl) ?_
  refine Or.inl ?_
  refine obind hF fun x1 h2 hF => ?_
  refine ⟨ix_nn h2, .inl rfl, _, ix_map cVersion h2, ?_⟩
  refine And.intro (fun h3 => ?_) (fun h3 => ?_)
  · have hF := cpos h3 hF
    refine And.intro (fun h4 => ?_) (fun h4 => ?_)
    · have hF := cpos h4 hF
      refine obind hF fun y5 h6 hF => ?_
      refine Or.inl ⟨_, slContainsFuncS_h (fun _ _ h => lCitationNumbers_1_1_h h) h6, rfl, ?_⟩
      refine And.intro (by kernel_rfl) ?_
      exact Or.inl ⟨rfl, congrArg (Option.map lCitationNumbers_1_E) hF⟩
    · have hF := cneg h4 hF
      refine And.intro (by kernel_rfl) ?_
      exact Or.inl ⟨rfl, congrArg (Option.map lCitationNumbers_1_E) hF⟩
  · have hF := cneg h3 hF
    refine And.intro (by kernel_rfl) ?_
    exact Or.inl ⟨rfl, congrArg (Option.map lCitationNumbers_1_E) hF⟩
abbrev lCitationNumbers_1_S (x : Shot) (c0 : List Version) (c1 : Int) (c2 : Version) (c3 : Int) : Option (Bool) := lCitationNumbers_1_F x c0 c1 c2 c3
theorem lCitationNumbers_1_h {x : Shot} {c0 : List Version} {c1 : Int} {c2 : Version} {c3 : Int} {r : Bool} (h : lCitationNumbers_1_S x c0 c1 c2 c3 = some r) : Holds Tryd.prog Gw 24 [.agg (cShot x), .pi [.sl 8 (c0.map cVersion)] 0, .pi [I c1] 0, .pi (cVersion c2) 0, .pi [I c3] 0] (lCitationNumbers_1_E r) := lCitationNumbers_1_Fh  h
abbrev lCitationNumbers_E (y : Bool) : CV := B y
def lCitationNumbers_L2 (h_ : List Shot) (unit : Int) (y9 : List Version × Int) (v12 : Int) (x14 : Version) (k_1 : Int → Option (Bool)) : Nat → Int → Option (Bool)
  | 0, _ => none
  | fu2 + 1, v27 => bif decide (v27 < ((x14.Path.map cInt).length : Int)) then (Option.bind (ix x14.Path v27) fun x29 => Option.bind (qCopy_S h_) fun y31 => Option.bind (kStanding_S y31 x29 x14.Day) fun y33 => bif (!y33.2) then some (false) else (bif (v27 == 0) then (bif (y33.1.Parent != 0) then some (false) else (bif decide (v27 > 0) then (Option.bind (ix x14.Path (IntKind.i64.wrap (v27 - 1))) fun x39 => bif (y33.1.Parent != x39) then some (false) else lCitationNumbers_L2 h_ unit y9 v12 x14 k_1 fu2 (IntKind.i64.wrap (v27 + 1))) else lCitationNumbers_L2 h_ unit y9 v12 x14 k_1 fu2 (IntKind.i64.wrap (v27 + 1)))) else (bif decide (v27 > 0) then (Option.bind (ix x14.Path (IntKind.i64.wrap (v27 - 1))) fun x43 => bif (y33.1.Parent != x43) then some (false) else lCitationNumbers_L2 h_ unit y9 v12 x14 k_1 fu2 (IntKind.i64.wrap (v27 + 1))) else lCitationNumbers_L2 h_ unit y9 v12 x14 k_1 fu2 (IntKind.i64.wrap (v27 + 1))))) else (bif (v12 == 0) then k_1 (IntKind.i64.wrap (v12 + 1)) else (Option.bind (slContainsFuncH_S h_ (fun z0 => lCitationNumbers_1_S z0 y9.1 v12 x14 unit)) fun y47 => Option.bind (ix y9.1 (IntKind.i64.wrap (v12 - 1))) fun x49 => bif decide (x49.Day ≥ x14.Day) then some (false) else (bif (!y47) then (Option.bind (ix y9.1 (IntKind.i64.wrap (v12 - 1))) fun x53 => bif (x53.Unit == x14.Unit) then some (false) else k_1 (IntKind.i64.wrap (v12 + 1))) else k_1 (IntKind.i64.wrap (v12 + 1)))))
def lCitationNumbers_L1 (h_ : List Shot) (unit : Int) (y9 : List Version × Int) (N : Nat) : Nat → Int → Option (Bool)
  | 0, _ => none
  | fu1 + 1, v12 => bif decide (v12 < ((y9.1.map cVersion).length : Int)) then (Option.bind (ix y9.1 v12) fun x14 => Option.bind (qCopy_S h_) fun y16 => Option.bind (kStanding_S y16 unit x14.Day) fun y18 => bif (x14.Number != (IntKind.i64.wrap (v12 + 1))) then some (false) else (bif (!y18.2) then some (false) else (bif (!(y18.1 == x14.Unit)) then some (false) else (bif (((x14.Path.map cInt).length : Int) == 0) then some (false) else (Option.bind (ix x14.Path (IntKind.i64.wrap (((x14.Path.map cInt).length : Int) - 1))) fun x24 => bif (x24 != unit) then some (false) else lCitationNumbers_L2 h_ unit y9 v12 x14 (fun q_v12 => lCitationNumbers_L1 h_ unit y9 N fu1 q_v12) N 0))))) else some (true)
def lCitationNumbers_F (N : Nat) (h_ : List Shot) (unit : Int) : Option (Bool) := Option.bind (lawake_S) fun y1 => bif (!y1) then some (false) else (Option.bind (qFew_S h_) fun y4 => bif (!y4) then some (true) else (Option.bind (qCopy_S h_) fun y7 => Option.bind (pVersions_S y7 unit) fun y9 => bif (y9.2 != 0) then some ((((y9.1.map cVersion).length : Int) == 0)) else lCitationNumbers_L1 h_ unit y9 N N 0))
set_option linter.unusedVariables false in
theorem lCitationNumbers_Fh {N : Nat} {h_ : List Shot} {unit : Int} {r : Bool} (hF : lCitationNumbers_F N h_ unit = some r) : Holds Tryd.prog Gw 7 [.sl 2 (h_.map cShot), I unit] (lCitationNumbers_E r) := by
  refine holds_of_wq tabOk mixed Tryd.func7 (by decide) rfl (Nat.le_of_ble_eq_true rfl) ?_
  refine Or.inl ?_
  refine obind hF fun y1 h2 hF => ?_
  refine Or.inl ⟨_, lawake_h h2, rfl, ?_⟩
  refine And.intro (fun h3 => ?_) (fun h3 => ?_)
  · have hF := cpos h3 hF
    exact Or.inl ⟨rfl, congrArg (Option.map lCitationNumbers_E) hF⟩
  · have hF := cneg h3 hF
    refine obind hF fun y4 h5 hF => ?_
    refine Or.inl ⟨_, qFew_h h5, rfl, ?_⟩
    refine And.intro (fun h6 => ?_) (fun h6 => ?_)
    · have hF := cpos h6 hF
      exact Or.inl ⟨rfl, congrArg (Option.map lCitationNumbers_E) hF⟩
    · have hF := cneg h6 hF
      refine obind hF fun y7 h8 hF => ?_
      refine Or.inl ⟨_, qCopy_h h8, rfl, ?_⟩
      refine obind hF fun y9 h10 hF => ?_
      refine Or.inl ⟨_, pVersions_h h10, rfl, ?_⟩
      refine Or.inl ?_
      refine And.intro (by kernel_rfl) ?_
      refine And.intro (fun h11 => ?_) (fun h11 => ?_)
      · have hF := cpos h11 hF
        exact Or.inl ⟨rfl, congrArg (Option.map lCitationNumbers_E) hF⟩
      · have hF := cneg h11 hF
        refine loop_oq (fun p : Nat × Int => [(0, .c (.sl 2 (h_.map cShot))), (3, .pm 3 0 0), (5, .pm 5 0 0), (33, .c (.sl 8 (y9.1.map cVersion))), (34, .c (I ((y9.1.map cVersion).length : Int))), (35, .c (I p.2))]) (fun p : Nat × Int => [(3, .var [I unit]), (5, .var [.sl 8 (y9.1.map cVersion)])]) (fun p => lCitationNumbers_L1 h_ unit y9 N p.1 p.2 = some r) (fun p => p.1) (N, 0) hF ⟨rfl, rfl, rfl, rfl, rfl, rfl, trivial⟩ ⟨rfl, rfl, trivial⟩ ?_
        rintro ⟨fu1, v12⟩ hF
        cases fu1 with
        | zero => exact nomatch hF
        | succ fu1 =>
          refine join_no ?_
          refine And.intro (fun h13 => ?_) (fun h13 => ?_)
          · have hF := cpos h13 hF
            refine join_no ?_
            refine obind hF fun x14 h15 hF => ?_
            refine ⟨ix_nn h15, .inl rfl, _, ix_map cVersion h15, ?_⟩
            refine Or.inl ?_
            refine Or.inl ?_
            refine obind hF fun y16 h17 hF => ?_
            refine Or.inl ⟨_, qCopy_h h17, rfl, ?_⟩
            refine obind hF fun y18 h19 hF => ?_
            refine Or.inl ⟨_, kStanding_h h19, rfl, ?_⟩
            refine Or.inl ?_
            refine And.intro (by kernel_rfl) ?_
            refine And.intro (fun h20 => ?_) (fun h20 => ?_)
            · have hF := cpos h20 hF
              refine And.intro (by kernel_rfl) ?_
              exact Or.inl ⟨rfl, congrArg (Option.map lCitationNumbers_E) hF⟩
            · have hF := cneg h20 hF
              refine And.intro (fun h21 => ?_) (fun h21 => ?_)
              · have hF := cpos h21 hF
                refine And.intro (by kernel_rfl) ?_
                exact Or.inl ⟨rfl, congrArg (Option.map lCitationNumbers_E) hF⟩
              · have hF := cneg h21 hF
                refine Or.inr ⟨[], 0, _, _, _, _, rfl, rfl, sne_Standing y18.1 x14.Unit, rfl, ?_⟩
                refine And.intro (fun h22 => ?_) (fun h22 => ?_)
                · have hF := cpos h22 hF
                  refine And.intro (by kernel_rfl) ?_
                  exact Or.inl ⟨rfl, congrArg (Option.map lCitationNumbers_E) hF⟩
                · have hF := cneg h22 hF
                  refine And.intro (fun h23 => ?_) (fun h23 => ?_)
                  · have hF := cpos h23 hF
                    refine And.intro (by kernel_rfl) ?_
                    exact Or.inl ⟨rfl, congrArg (Option.map lCitationNumbers_E) hF⟩
                  · have hF := cneg h23 hF
                    refine obind hF fun x24 h25 hF => ?_
                    refine ⟨ix_nn h25, .inl rfl, _, ix_map cInt h25, ?_⟩
                    refine And.intro (by kernel_rfl) ?_
                    refine And.intro (fun h26 => ?_) (fun h26 => ?_)
                    · have hF := cpos h26 hF
                      exact Or.inl ⟨rfl, congrArg (Option.map lCitationNumbers_E) hF⟩
                    · have hF := cneg h26 hF
                      refine loop_oq (fun p : Nat × Int => [(0, .c (.sl 2 (h_.map cShot))), (3, .pm 3 0 0), (5, .pm 5 0 0), (7, .pm 7 0 0), (8, .pm 8 0 0), (33, .c (.sl 8 (y9.1.map cVersion))), (34, .c (I ((y9.1.map cVersion).length : Int))), (35, .c (I v12)), (55, .c (B y18.2)), (56, .c (B (!y18.2))), (59, .c (.agg [I y18.1.Unit, I y18.1.Parent, I y18.1.Level, S y18.1.Mark, S y18.1.Title])), (60, .pm 8 0 2), (61, .c (.agg [I x14.Unit.Unit, I x14.Unit.Parent, I x14.Unit.Level, S x14.Unit.Mark, S x14.Unit.Title])), (62, .c (B (!(y18.1 == x14.Unit)))), (65, .pm 8 0 7), (66, .c (.sl 1 (x14.Path.map cInt))), (67, .c (I ((x14.Path.map cInt).length : Int))), (68, .c (B (((x14.Path.map cInt).length : Int) == 0))), (71, .pm 8 0 7), (72, .c (.sl 1 (x14.Path.map cInt))), (73, .pm 8 0 7), (74, .c (.sl 1 (x14.Path.map cInt))), (75, .c (I ((x14.Path.map cInt).length : Int))), (76, .c (I (IntKind.i64.wrap (((x14.Path.map cInt).length : Int) - 1)))), (77, .c (.pi [I x24] 0)), (78, .c (I x24)), (79, .c (I unit)), (80, .c (B (x24 != unit))), (83, .c (.sl 1 (x14.Path.map cInt))), (84, .c (I ((x14.Path.map cInt).length : Int))), (85, .c (I p.2))]) (fun p : Nat × Int => [(3, .var [I unit]), (5, .var [.sl 8 (y9.1.map cVersion)]), (7, .var [I v12]), (8, .var [I x14.Number, I x14.Day, I x14.Unit.Unit, I x14.Unit.Parent, I x14.Unit.Level, S x14.Unit.Mark, S x14.Unit.Title, .sl 1 (x14.Path.map cInt)])]) (fun p => lCitationNumbers_L2 h_ unit y9 v12 x14 (fun q_v12 => lCitationNumbers_L1 h_ unit y9 N fu1 q_v12) p.1 p.2 = some r) (fun p => p.1) (N, 0) hF ⟨rfl, rfl, rfl, rfl, rfl, rfl, rfl, rfl, rfl, rfl, rfl, rfl, rfl, rfl, rfl, rfl, rfl, rfl, rfl, rfl, rfl, rfl, rfl, rfl, rfl, rfl, rfl, rfl, rfl, rfl, rfl, trivial⟩ ⟨rfl, rfl, rfl, rfl, trivial⟩ ?_
                      rintro ⟨fu2, v27⟩ hF
                      cases fu2 with
                      | zero => exact nomatch hF
                      | succ fu2 =>
                        refine join_no ?_
                        refine And.intro (fun h28 => ?_) (fun h28 => ?_)
                        · have hF := cpos h28 hF
                          refine join_no ?_
                          refine obind hF fun x29 h30 hF => ?_
                          refine ⟨ix_nn h30, .inl rfl, _, ix_map cInt h30, ?_⟩
                          refine obind hF fun y31 h32 hF => ?_
                          refine Or.inl ⟨_, qCopy_h h32, rfl, ?_⟩
                          refine obind hF fun y33 h34 hF => ?_
                          refine Or.inl ⟨_, kStanding_h h34, rfl, ?_⟩
                          refine Or.inl ?_
                          refine And.intro (by kernel_rfl) ?_
                          refine And.intro (fun h35 => ?_) (fun h35 => ?_)
                          · have hF := cpos h35 hF
                            refine And.intro (by kernel_rfl) ?_
                            exact Or.inl ⟨rfl, congrArg (Option.map lCitationNumbers_E) hF⟩
                          · have hF := cneg h35 hF
                            refine And.intro (fun h36 => ?_) (fun h36 => ?_)
                            · have hF := cpos h36 hF
                              refine And.intro (fun h37 => ?_) (fun h37 => ?_)
                              · have hF := cpos h37 hF
                                refine And.intro (by kernel_rfl) ?_
                                exact Or.inl ⟨rfl, congrArg (Option.map lCitationNumbers_E) hF⟩
                              · have hF := cneg h37 hF
                                refine And.intro (fun h38 => ?_) (fun h38 => ?_)
                                · have hF := cpos h38 hF
                                  refine obind hF fun x39 h40 hF => ?_
                                  refine ⟨ix_nn h40, .inl rfl, _, ix_map cInt h40, ?_⟩
                                  refine And.intro (by kernel_rfl) ?_
                                  refine And.intro (fun h41 => ?_) (fun h41 => ?_)
                                  · have hF := cpos h41 hF
                                    exact Or.inl ⟨rfl, congrArg (Option.map lCitationNumbers_E) hF⟩
                                  · have hF := cneg h41 hF
                                    exact ⟨(fu2, (IntKind.i64.wrap (v27 + 1))), Nat.lt_succ_self _, hF, ⟨rfl, rfl, rfl, rfl, rfl, rfl, rfl, rfl, rfl, rfl, rfl, rfl, rfl, rfl, rfl, rfl, rfl, rfl, rfl, rfl, rfl, rfl, rfl, rfl, rfl, rfl, rfl, rfl, rfl, rfl, rfl, trivial⟩, ⟨rfl, rfl, rfl, rfl, trivial⟩⟩
                                · have hF := cneg h38 hF
                                  refine And.intro (by kernel_rfl) ?_
                                  exact ⟨(fu2, (IntKind.i64.wrap (v27 + 1))), Nat.lt_succ_self _, hF, ⟨rfl, rfl, rfl, rfl, rfl, rfl, rfl, rfl, rfl, rfl, rfl, rfl, rfl, rfl, rfl, rfl, rfl, rfl, rfl, rfl, rfl, rfl, rfl, rfl, rfl, rfl, rfl, rfl, rfl, rfl, rfl, trivial⟩, ⟨rfl, rfl, rfl, rfl, trivial⟩⟩
                            · have hF := cneg h36 hF
                              refine And.intro (fun h42 => ?_) (fun h42 => ?_)
                              · have hF := cpos h42 hF
                                refine obind hF fun x43 h44 hF => ?_
                                refine ⟨ix_nn h44, .inl rfl, _, ix_map cInt h44, ?_⟩
                                refine And.intro (by kernel_rfl) ?_
                                refine And.intro (fun h45 => ?_) (fun h45 => ?_)
                                · have hF := cpos h45 hF
                                  exact Or.inl ⟨rfl, congrArg (Option.map lCitationNumbers_E) hF⟩
                                · have hF := cneg h45 hF
                                  exact ⟨(fu2, (IntKind.i64.wrap (v27 + 1))), Nat.lt_succ_self _, hF, ⟨rfl, rfl, rfl, rfl, rfl, rfl, rfl, rfl, rfl, rfl, rfl, rfl, rfl, rfl, rfl, rfl, rfl, rfl, rfl, rfl, rfl, rfl, rfl, rfl, rfl, rfl, rfl, rfl, rfl, rfl, rfl, trivial⟩, ⟨rfl, rfl, rfl, rfl, trivial⟩⟩
                              · have hF := cneg h42 hF
                                refine And.intro (by kernel_rfl) ?_
                                exact ⟨(fu2, (IntKind.i64.wrap (v27 + 1))), Nat.lt_succ_self _, hF, ⟨rfl, rfl, rfl, rfl, rfl, rfl, rfl, rfl, rfl, rfl, rfl, rfl, rfl, rfl, rfl, rfl, rfl, rfl, rfl, rfl, rfl, rfl, rfl, rfl, rfl, rfl, rfl, rfl, rfl, rfl, rfl, trivial⟩, ⟨rfl, rfl, rfl, rfl, trivial⟩⟩
                        · have hF := cneg h28 hF
                          refine And.intro (fun h46 => ?_) (fun h46 => ?_)
                          · have hF := cpos h46 hF
                            exact ⟨(fu1, (IntKind.i64.wrap (v12 + 1))), Nat.lt_succ_self _, hF, ⟨rfl, rfl, rfl, rfl, rfl, rfl, trivial⟩, ⟨rfl, rfl, trivial⟩⟩
                          · have hF := cneg h46 hF
                            refine obind hF fun y47 h48 hF => ?_
                            refine Or.inl ⟨_, slContainsFuncH_h (fun _ _ h => lCitationNumbers_1_h h) h48, rfl, ?_⟩
                            refine obind hF fun x49 h50 hF => ?_
                            refine ⟨ix_nn h50, .inl rfl, _, ix_map cVersion h50, ?_⟩
                            refine And.intro (fun h51 => ?_) (fun h51 => ?_)
                            · have hF := cpos h51 hF
                              refine And.intro (by kernel_rfl) ?_
                              exact Or.inl ⟨rfl, congrArg (Option.map lCitationNumbers_E) hF⟩
                            · have hF := cneg h51 hF
                              refine And.intro (fun h52 => ?_) (fun h52 => ?_)
                              · have hF := cpos h52 hF
                                refine obind hF fun x53 h54 hF => ?_
                                refine ⟨ix_nn h54, .inl rfl, _, ix_map cVersion h54, ?_⟩
                                refine Or.inr ⟨[], 0, _, _, _, _, rfl, rfl, seq_Standing x53.Unit x14.Unit, rfl, ?_⟩
                                refine And.intro (by kernel_rfl) ?_
                                refine And.intro (fun h55 => ?_) (fun h55 => ?_)
                                · have hF := cpos h55 hF
                                  exact Or.inl ⟨rfl, congrArg (Option.map lCitationNumbers_E) hF⟩
                                · have hF := cneg h55 hF
                                  exact ⟨(fu1, (IntKind.i64.wrap (v12 + 1))), Nat.lt_succ_self _, hF, ⟨rfl, rfl, rfl, rfl, rfl, rfl, trivial⟩, ⟨rfl, rfl, trivial⟩⟩
                              · have hF := cneg h52 hF
                                refine And.intro (by kernel_rfl) ?_
                                exact ⟨(fu1, (IntKind.i64.wrap (v12 + 1))), Nat.lt_succ_self _, hF, ⟨rfl, rfl, rfl, rfl, rfl, rfl, trivial⟩, ⟨rfl, rfl, trivial⟩⟩
          · have hF := cneg h13 hF
            exact Or.inl ⟨rfl, congrArg (Option.map lCitationNumbers_E) hF⟩
abbrev lCitationNumbers_S (h_ : List Shot) (unit : Int) : Option (Bool) := lCitationNumbers_F 2000 h_ unit
theorem lCitationNumbers_h {h_ : List Shot} {unit : Int} {r : Bool} (h : lCitationNumbers_S h_ unit = some r) : Holds Tryd.prog Gw 7 [.sl 2 (h_.map cShot), I unit] (lCitationNumbers_E r) := lCitationNumbers_Fh  h
end Go.Proofs.YtmdhahfminiilaaDoor
