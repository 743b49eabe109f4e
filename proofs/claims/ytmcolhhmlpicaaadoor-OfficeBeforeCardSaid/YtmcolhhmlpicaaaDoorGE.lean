/- Functions of the program as functions of Lean, each with its contract (printed by a program). -/
import Derived.Test.YtmcolhhmlpicaaaDoorGC
import Derived.Test.YtmcolhhmlpicaaaDoorGD
namespace Go.Proofs.YtmcolhhmlpicaaaDoor
open Go Go.Abs
set_option maxRecDepth 10000
set_option maxHeartbeats 400000
abbrev lOfficeChains_E (y : Bool) : CV := B y
def lOfficeChains_F (l : List Off) (id : Int) (day : Int) : Option (Bool) := Option.bind (lawake_S) fun y1 => bif (!y1) then some (false) else (Option.bind (rFew_S l) fun y4 => bif (!y4) then some (true) else (Option.bind (pHeir_S l id day) fun y7 => Option.bind (rHeir_S l id day) fun y9 => Option.bind (pChain_S l id day) fun y11 => Option.bind (rChain_S l id day) fun y13 => Option.bind (rSameInts_S y11 y13) fun y15 => bif y15 then (bif (y7.1 == y9.1) then some ((y7.2 == y9.2)) else some (false)) else some (false)))
set_option linter.unusedVariables false in
theorem lOfficeChains_Fh {l : List Off} {id : Int} {day : Int} {r : Bool} (hF : lOfficeChains_F l id day = some r) : Holds Tryd.prog Gw 3 [.sl 5 (l.map cOff), I id, I day] (lOfficeChains_E r) := by
  refine holds_of_wq tabOk mixed Tryd.func3 (by decide) rfl (Nat.le_of_ble_eq_true rfl) ?_
  refine obind hF fun y1 h2 hF => ?_
  refine Or.inl ⟨_, lawake_h h2, rfl, ?_⟩
  refine And.intro (fun h3 => ?_) (fun h3 => ?_)
  · have hF := cpos h3 hF
    exact Or.inl ⟨rfl, congrArg (Option.map lOfficeChains_E) hF⟩
  · have hF := cneg h3 hF
    refine obind hF fun y4 h5 hF => ?_
    refine Or.inl ⟨_, rFew_h h5, rfl, ?_⟩
    refine And.intro (fun h6 => ?_) (fun h6 => ?_)
    · have hF := cpos h6 hF
      exact Or.inl ⟨rfl, congrArg (Option.map lOfficeChains_E) hF⟩
    · have hF := cneg h6 hF
      refine obind hF fun y7 h8 hF => ?_
      refine Or.inl ⟨_, pHeir_h h8, rfl, ?_⟩
      refine obind hF fun y9 h10 hF => ?_
      refine Or.inl ⟨_, rHeir_h h10, rfl, ?_⟩
      refine obind hF fun y11 h12 hF => ?_
      refine Or.inl ⟨_, pChain_h h12, rfl, ?_⟩
      refine obind hF fun y13 h14 hF => ?_
      refine Or.inl ⟨_, rChain_h h14, rfl, ?_⟩
      refine obind hF fun y15 h16 hF => ?_
      refine Or.inl ⟨_, rSameInts_h h16, rfl, ?_⟩
      refine And.intro (fun h17 => ?_) (fun h17 => ?_)
      · have hF := cpos h17 hF
        refine And.intro (fun h18 => ?_) (fun h18 => ?_)
        · have hF := cpos h18 hF
          exact Or.inl ⟨rfl, congrArg (Option.map lOfficeChains_E) hF⟩
        · have hF := cneg h18 hF
          exact Or.inl ⟨rfl, congrArg (Option.map lOfficeChains_E) hF⟩
      · have hF := cneg h17 hF
        exact Or.inl ⟨rfl, congrArg (Option.map lOfficeChains_E) hF⟩
abbrev lOfficeChains_S (l : List Off) (id : Int) (day : Int) : Option (Bool) := lOfficeChains_F l id day
theorem lOfficeChains_h {l : List Off} {id : Int} {day : Int} {r : Bool} (h : lOfficeChains_S l id day = some r) : Holds Tryd.prog Gw 3 [.sl 5 (l.map cOff), I id, I day] (lOfficeChains_E r) := lOfficeChains_Fh  h
abbrev lOfficeReaches_E (y : Bool) : CV := B y
def lOfficeReaches_F (l : List Off) (id : Int) (day : Int) : Option (Bool) := Option.bind (lawake_S) fun y1 => bif (!y1) then some (false) else (Option.bind (rFew_S l) fun y4 => bif (!y4) then some (true) else (Option.bind (pReach_S l id) fun y7 => Option.bind (rReach_S l id) fun y9 => Option.bind (rSameInts_S y7 y9) fun y11 => bif y11 then (Option.bind (pDuties_S l id day) fun y14 => Option.bind (rDuties_S l id day) fun y16 => Option.bind (rSameInts_S y14 y16) fun y18 => some (y18)) else some (false)))
set_option linter.unusedVariables false in
theorem lOfficeReaches_Fh {l : List Off} {id : Int} {day : Int} {r : Bool} (hF : lOfficeReaches_F l id day = some r) : Holds Tryd.prog Gw 4 [.sl 5 (l.map cOff), I id, I day] (lOfficeReaches_E r) := by
  refine holds_of_wq tabOk mixed Tryd.func4 (by decide) rfl (Nat.le_of_ble_eq_true rfl) ?_
  refine obind hF fun y1 h2 hF => ?_
  refine Or.inl ⟨_, lawake_h h2, rfl, ?_⟩
  refine And.intro (fun h3 => ?_) (fun h3 => ?_)
  · have hF := cpos h3 hF
    exact Or.inl ⟨rfl, congrArg (Option.map lOfficeReaches_E) hF⟩
  · have hF := cneg h3 hF
    refine obind hF fun y4 h5 hF => ?_
    refine Or.inl ⟨_, rFew_h h5, rfl, ?_⟩
    refine And.intro (fun h6 => ?_) (fun h6 => ?_)
    · have hF := cpos h6 hF
      exact Or.inl ⟨rfl, congrArg (Option.map lOfficeReaches_E) hF⟩
    · have hF := cneg h6 hF
      refine obind hF fun y7 h8 hF => ?_
      refine Or.inl ⟨_, pReach_h h8, rfl, ?_⟩
      refine obind hF fun y9 h10 hF => ?_
      refine Or.inl ⟨_, rReach_h h10, rfl, ?_⟩
      refine obind hF fun y11 h12 hF => ?_
      refine Or.inl ⟨_, rSameInts_h h12, rfl, ?_⟩
      refine And.intro (fun h13 => ?_) (fun h13 => ?_)
      · have hF := cpos h13 hF
        refine obind hF fun y14 h15 hF => ?_
        refine Or.inl ⟨_, pDuties_h h15, rfl, ?_⟩
        refine obind hF fun y16 h17 hF => ?_
        refine Or.inl ⟨_, rDuties_h h17, rfl, ?_⟩
        refine obind hF fun y18 h19 hF => ?_
        refine Or.inl ⟨_, rSameInts_h h19, rfl, ?_⟩
        exact Or.inl ⟨rfl, congrArg (Option.map lOfficeReaches_E) hF⟩
      · have hF := cneg h13 hF
        exact Or.inl ⟨rfl, congrArg (Option.map lOfficeReaches_E) hF⟩
abbrev lOfficeReaches_S (l : List Off) (id : Int) (day : Int) : Option (Bool) := lOfficeReaches_F l id day
theorem lOfficeReaches_h {l : List Off} {id : Int} {day : Int} {r : Bool} (h : lOfficeReaches_S l id day = some r) : Holds Tryd.prog Gw 4 [.sl 5 (l.map cOff), I id, I day] (lOfficeReaches_E r) := lOfficeReaches_Fh  h
abbrev lOfficeUnbroken_E (y : Bool) : CV := B y
def lOfficeUnbroken_L1 (l : List Off) (day : Int) (y7 : List Int) (y25 : List Int) : Nat → Int → Option (Bool)
  | 0, _ => none
  | fu1 + 1, v27 => bif decide (v27 < ((y7.map cInt).length : Int)) then (Option.bind (ix y7 v27) fun x29 => Option.bind (pFind_S l x29) fun y31 => bif decide (y31 < 0) then some (false) else (bif decide (y31 ≥ ((l.map cOff).length : Int)) then some (false) else (Option.bind (slc y7 0 v27) fun y35 => Option.bind (slContains_S y35 x29) fun y37 => bif y37 then some (false) else (Option.bind (slContains_S y25 x29) fun y40 => bif (!y40) then some (false) else (Option.bind (ix l y31) fun x43 => bif decide (x43.In.From ≤ day) then (Option.bind (ix l y31) fun x46 => bif (v27 == (IntKind.i64.wrap (((y7.map cInt).length : Int) - 1))) then (bif decide (day < x46.In.Until) then some (true) else (Option.bind (ix l y31) fun x50 => some ((((x50.Next.map cInt).length : Int) == 0)))) else (Option.bind (ix y7 (IntKind.i64.wrap (v27 + 1))) fun x52 => Option.bind (pFind_S l x52) fun y54 => bif decide (day < x46.In.Until) then some (false) else (Option.bind (ix l y31) fun x57 => bif (((x57.Next.map cInt).length : Int) == 0) then some (false) else (Option.bind (ix l y31) fun x60 => Option.bind (ix x60.Next 0) fun x62 => Option.bind (ix y7 (IntKind.i64.wrap (v27 + 1))) fun x64 => bif (x62 != x64) then some (false) else (bif decide (y54 < 0) then some (false) else (bif decide (y54 ≥ ((l.map cOff).length : Int)) then some (false) else (Option.bind (ix l y54) fun x69 => Option.bind (ix l y31) fun x71 => bif (x69.In.From != x71.In.Until) then some (false) else lOfficeUnbroken_L1 l day y7 y25 fu1 (IntKind.i64.wrap (v27 + 1))))))))) else (bif (v27 == (IntKind.i64.wrap (((y7.map cInt).length : Int) - 1))) then (Option.bind (ix l y31) fun x75 => some ((((x75.Next.map cInt).length : Int) == 0))) else (Option.bind (ix y7 (IntKind.i64.wrap (v27 + 1))) fun x77 => Option.bind (pFind_S l x77) fun y79 => Option.bind (ix l y31) fun x81 => bif (((x81.Next.map cInt).length : Int) == 0) then some (false) else (Option.bind (ix l y31) fun x84 => Option.bind (ix x84.Next 0) fun x86 => Option.bind (ix y7 (IntKind.i64.wrap (v27 + 1))) fun x88 => bif (x86 != x88) then some (false) else (bif decide (y79 < 0) then some (false) else (bif decide (y79 ≥ ((l.map cOff).length : Int)) then some (false) else (Option.bind (ix l y79) fun x93 => Option.bind (ix l y31) fun x95 => bif (x93.In.From != x95.In.Until) then some (false) else lOfficeUnbroken_L1 l day y7 y25 fu1 (IntKind.i64.wrap (v27 + 1))))))))))))) else some (false)
def lOfficeUnbroken_F (N : Nat) (l : List Off) (id : Int) (day : Int) : Option (Bool) := Option.bind (lawake_S) fun y1 => bif (!y1) then some (false) else (Option.bind (rFew_S l) fun y4 => bif (!y4) then some (true) else (Option.bind (pChain_S l id day) fun y7 => Option.bind (pCheck_S l) fun y9 => bif (y9.2 != 0) then (bif (((y7.map cInt).length : Int) == 0) then (Option.bind (pReach_S l id) fun y13 => some ((((y13.map cInt).length : Int) == 0))) else some (false)) else (Option.bind (pFind_S l id) fun y15 => bif decide (y15 < 0) then (bif (((y7.map cInt).length : Int) == 0) then (Option.bind (pReach_S l id) fun y19 => some ((((y19.map cInt).length : Int) == 0))) else some (false)) else (bif (((y7.map cInt).length : Int) == 0) then some (false) else (Option.bind (ix y7 0) fun x22 => bif (x22 != id) then some (false) else (Option.bind (pReach_S l id) fun y25 => lOfficeUnbroken_L1 l day y7 y25 N 0))))))
set_option linter.unusedVariables false in
theorem lOfficeUnbroken_Fh {N : Nat} {l : List Off} {id : Int} {day : Int} {r : Bool} (hF : lOfficeUnbroken_F N l id day = some r) : Holds Tryd.prog Gw 5 [.sl 5 (l.map cOff), I id, I day] (lOfficeUnbroken_E r) := by
  refine holds_of_wq tabOk mixed Tryd.func5 (by decide) rfl (Nat.le_of_ble_eq_true rfl) ?_
  refine obind hF fun y1 h2 hF => ?_
  refine Or.inl ⟨_, lawake_h h2, rfl, ?_⟩
  refine And.intro (fun h3 => ?_) (fun h3 => ?_)
  · have hF := cpos h3 hF
    exact Or.inl ⟨rfl, congrArg (Option.map lOfficeUnbroken_E) hF⟩
  · have hF := cneg h3 hF
    refine obind hF fun y4 h5 hF => ?_
    refine Or.inl ⟨_, rFew_h h5, rfl, ?_⟩
    refine And.intro (fun h6 => ?_) (fun h6 => ?_)
    · have hF := cpos h6 hF
      exact Or.inl ⟨rfl, congrArg (Option.map lOfficeUnbroken_E) hF⟩
    · have hF := cneg h6 hF
      refine obind hF fun y7 h8 hF => ?_
      refine Or.inl ⟨_, pChain_h h8, rfl, ?_⟩
      refine obind hF fun y9 h10 hF => ?_
      refine Or.inl ⟨_, pCheck_h h10, rfl, ?_⟩
      refine And.intro (fun h11 => ?_) (fun h11 => ?_)
      · have hF := cpos h11 hF
        refine And.intro (fun h12 => ?_) (fun h12 => ?_)
        · have hF := cpos h12 hF
          refine obind hF fun y13 h14 hF => ?_
          refine Or.inl ⟨_, pReach_h h14, rfl, ?_⟩
          exact Or.inl ⟨rfl, congrArg (Option.map lOfficeUnbroken_E) hF⟩
        · have hF := cneg h12 hF
          exact Or.inl ⟨rfl, congrArg (Option.map lOfficeUnbroken_E) hF⟩
      · have hF := cneg h11 hF
        refine obind hF fun y15 h16 hF => ?_
        refine Or.inl ⟨_, pFind_h h16, rfl, ?_⟩
        refine And.intro (fun h17 => ?_) (fun h17 => ?_)
        · have hF := cpos h17 hF
          refine And.intro (fun h18 => ?_) (fun h18 => ?_)
          · have hF := cpos h18 hF
            refine obind hF fun y19 h20 hF => ?_
            refine Or.inl ⟨_, pReach_h h20, rfl, ?_⟩
            exact Or.inl ⟨rfl, congrArg (Option.map lOfficeUnbroken_E) hF⟩
          · have hF := cneg h18 hF
            exact Or.inl ⟨rfl, congrArg (Option.map lOfficeUnbroken_E) hF⟩
        · have hF := cneg h17 hF
          refine And.intro (fun h21 => ?_) (fun h21 => ?_)
          · have hF := cpos h21 hF
            exact Or.inl ⟨rfl, congrArg (Option.map lOfficeUnbroken_E) hF⟩
          · have hF := cneg h21 hF
            refine obind hF fun x22 h23 hF => ?_
            refine ⟨ix_nn h23, .inl rfl, _, ix_map cInt h23, ?_⟩
            refine And.intro (fun h24 => ?_) (fun h24 => ?_)
            · have hF := cpos h24 hF
              exact Or.inl ⟨rfl, congrArg (Option.map lOfficeUnbroken_E) hF⟩
            · have hF := cneg h24 hF
              refine obind hF fun y25 h26 hF => ?_
              refine Or.inl ⟨_, pReach_h h26, rfl, ?_⟩
              refine loop_oq (fun p : Nat × Int => [(0, .c (.sl 5 (l.map cOff))), (2, .c (I day)), (7, .c (.sl 1 (y7.map cInt))), (10, .c (.sl 1 (y25.map cInt))), (61, .c (.sl 1 (y7.map cInt))), (62, .c (I ((y7.map cInt).length : Int))), (63, .c (I p.2))]) (fun _ => []) (fun p => lOfficeUnbroken_L1 l day y7 y25 p.1 p.2 = some r) (fun p => p.1) (N, 0) hF ⟨rfl, rfl, rfl, rfl, rfl, rfl, rfl, trivial⟩ trivial ?_
              rintro ⟨fu1, v27⟩ hF
              cases fu1 with
              | zero => exact nomatch hF
              | succ fu1 =>
                refine join_no ?_
                refine And.intro (fun h28 => ?_) (fun h28 => ?_)
                · have hF := cpos h28 hF
                  refine join_no ?_
                  refine obind hF fun x29 h30 hF => ?_
                  refine ⟨ix_nn h30, .inl rfl, _, ix_map cInt h30, ?_⟩
                  refine obind hF fun y31 h32 hF => ?_
                  refine Or.inl ⟨_, pFind_h h32, rfl, ?_⟩
                  refine And.intro (fun h33 => ?_) (fun h33 => ?_)
                  · have hF := cpos h33 hF
                    exact Or.inl ⟨rfl, congrArg (Option.map lOfficeUnbroken_E) hF⟩
                  · have hF := cneg h33 hF
                    refine And.intro (fun h34 => ?_) (fun h34 => ?_)
                    · have hF := cpos h34 hF
                      exact Or.inl ⟨rfl, congrArg (Option.map lOfficeUnbroken_E) hF⟩
                    · have hF := cneg h34 hF
                      refine obind hF fun y35 h36 hF => ?_
                      refine Or.inr ⟨[], 0, _, _, _, _, rfl, rfl, eff_slice_h (cf := cInt) tok28.u tok3 h36, rfl, ?_⟩
                      refine obind hF fun y37 h38 hF => ?_
                      refine Or.inl ⟨_, slContains_h h38, rfl, ?_⟩
                      refine And.intro (fun h39 => ?_) (fun h39 => ?_)
                      · have hF := cpos h39 hF
                        exact Or.inl ⟨rfl, congrArg (Option.map lOfficeUnbroken_E) hF⟩
                      · have hF := cneg h39 hF
                        refine obind hF fun y40 h41 hF => ?_
                        refine Or.inl ⟨_, slContains_h h41, rfl, ?_⟩
                        refine And.intro (fun h42 => ?_) (fun h42 => ?_)
                        · have hF := cpos h42 hF
                          exact Or.inl ⟨rfl, congrArg (Option.map lOfficeUnbroken_E) hF⟩
                        · have hF := cneg h42 hF
                          refine obind hF fun x43 h44 hF => ?_
                          refine ⟨ix_nn h44, .inl rfl, _, ix_map cOff h44, ?_⟩
                          refine And.intro (fun h45 => ?_) (fun h45 => ?_)
                          · have hF := cpos h45 hF
                            refine obind hF fun x46 h47 hF => ?_
                            refine ⟨ix_nn h47, .inl rfl, _, ix_map cOff h47, ?_⟩
                            refine And.intro (fun h48 => ?_) (fun h48 => ?_)
                            · have hF := cpos h48 hF
                              refine And.intro (fun h49 => ?_) (fun h49 => ?_)
                              · have hF := cpos h49 hF
                                exact Or.inl ⟨rfl, congrArg (Option.map lOfficeUnbroken_E) hF⟩
                              · have hF := cneg h49 hF
                                refine obind hF fun x50 h51 hF => ?_
                                refine ⟨ix_nn h51, .inl rfl, _, ix_map cOff h51, ?_⟩
                                exact Or.inl ⟨rfl, congrArg (Option.map lOfficeUnbroken_E) hF⟩
                            · have hF := cneg h48 hF
                              refine obind hF fun x52 h53 hF => ?_
                              refine ⟨ix_nn h53, .inl rfl, _, ix_map cInt h53, ?_⟩
                              refine obind hF fun y54 h55 hF => ?_
                              refine Or.inl ⟨_, pFind_h h55, rfl, ?_⟩
                              refine And.intro (fun h56 => ?_) (fun h56 => ?_)
                              · have hF := cpos h56 hF
                                refine And.intro (by kernel_rfl) ?_
                                exact Or.inl ⟨rfl, congrArg (Option.map lOfficeUnbroken_E) hF⟩
                              · have hF := cneg h56 hF
                                refine obind hF fun x57 h58 hF => ?_
                                refine ⟨ix_nn h58, .inl rfl, _, ix_map cOff h58, ?_⟩
                                refine And.intro (fun h59 => ?_) (fun h59 => ?_)
                                · have hF := cpos h59 hF
                                  refine And.intro (by kernel_rfl) ?_
                                  exact Or.inl ⟨rfl, congrArg (Option.map lOfficeUnbroken_E) hF⟩
                                · have hF := cneg h59 hF
                                  refine obind hF fun x60 h61 hF => ?_
                                  refine ⟨ix_nn h61, .inl rfl, _, ix_map cOff h61, ?_⟩
                                  refine obind hF fun x62 h63 hF => ?_
                                  refine ⟨ix_nn h63, .inl rfl, _, ix_map cInt h63, ?_⟩
                                  refine obind hF fun x64 h65 hF => ?_
                                  refine ⟨ix_nn h65, .inl rfl, _, ix_map cInt h65, ?_⟩
                                  refine And.intro (fun h66 => ?_) (fun h66 => ?_)
                                  · have hF := cpos h66 hF
                                    refine And.intro (by kernel_rfl) ?_
                                    exact Or.inl ⟨rfl, congrArg (Option.map lOfficeUnbroken_E) hF⟩
                                  · have hF := cneg h66 hF
                                    refine And.intro (fun h67 => ?_) (fun h67 => ?_)
                                    · have hF := cpos h67 hF
                                      refine And.intro (by kernel_rfl) ?_
                                      exact Or.inl ⟨rfl, congrArg (Option.map lOfficeUnbroken_E) hF⟩
                                    · have hF := cneg h67 hF
                                      refine And.intro (fun h68 => ?_) (fun h68 => ?_)
                                      · have hF := cpos h68 hF
                                        refine And.intro (by kernel_rfl) ?_
                                        exact Or.inl ⟨rfl, congrArg (Option.map lOfficeUnbroken_E) hF⟩
                                      · have hF := cneg h68 hF
                                        refine obind hF fun x69 h70 hF => ?_
                                        refine ⟨ix_nn h70, .inl rfl, _, ix_map cOff h70, ?_⟩
                                        refine obind hF fun x71 h72 hF => ?_
                                        refine ⟨ix_nn h72, .inl rfl, _, ix_map cOff h72, ?_⟩
                                        refine And.intro (by kernel_rfl) ?_
                                        refine And.intro (fun h73 => ?_) (fun h73 => ?_)
                                        · have hF := cpos h73 hF
                                          exact Or.inl ⟨rfl, congrArg (Option.map lOfficeUnbroken_E) hF⟩
                                        · have hF := cneg h73 hF
                                          exact ⟨(fu1, (IntKind.i64.wrap (v27 + 1))), Nat.lt_succ_self _, hF, ⟨rfl, rfl, rfl, rfl, rfl, rfl, rfl, trivial⟩, trivial⟩
                          · have hF := cneg h45 hF
                            refine And.intro (fun h74 => ?_) (fun h74 => ?_)
                            · have hF := cpos h74 hF
                              refine obind hF fun x75 h76 hF => ?_
                              refine ⟨ix_nn h76, .inl rfl, _, ix_map cOff h76, ?_⟩
                              exact Or.inl ⟨rfl, congrArg (Option.map lOfficeUnbroken_E) hF⟩
                            · have hF := cneg h74 hF
                              refine obind hF fun x77 h78 hF => ?_
                              refine ⟨ix_nn h78, .inl rfl, _, ix_map cInt h78, ?_⟩
                              refine obind hF fun y79 h80 hF => ?_
                              refine Or.inl ⟨_, pFind_h h80, rfl, ?_⟩
                              refine obind hF fun x81 h82 hF => ?_
                              refine ⟨ix_nn h82, .inl rfl, _, ix_map cOff h82, ?_⟩
                              refine And.intro (fun h83 => ?_) (fun h83 => ?_)
                              · have hF := cpos h83 hF
                                refine And.intro (by kernel_rfl) ?_
                                exact Or.inl ⟨rfl, congrArg (Option.map lOfficeUnbroken_E) hF⟩
                              · have hF := cneg h83 hF
                                refine obind hF fun x84 h85 hF => ?_
                                refine ⟨ix_nn h85, .inl rfl, _, ix_map cOff h85, ?_⟩
                                refine obind hF fun x86 h87 hF => ?_
                                refine ⟨ix_nn h87, .inl rfl, _, ix_map cInt h87, ?_⟩
                                refine obind hF fun x88 h89 hF => ?_
                                refine ⟨ix_nn h89, .inl rfl, _, ix_map cInt h89, ?_⟩
                                refine And.intro (fun h90 => ?_) (fun h90 => ?_)
                                · have hF := cpos h90 hF
                                  refine And.intro (by kernel_rfl) ?_
                                  exact Or.inl ⟨rfl, congrArg (Option.map lOfficeUnbroken_E) hF⟩
                                · have hF := cneg h90 hF
                                  refine And.intro (fun h91 => ?_) (fun h91 => ?_)
                                  · have hF := cpos h91 hF
                                    refine And.intro (by kernel_rfl) ?_
                                    exact Or.inl ⟨rfl, congrArg (Option.map lOfficeUnbroken_E) hF⟩
                                  · have hF := cneg h91 hF
                                    refine And.intro (fun h92 => ?_) (fun h92 => ?_)
                                    · have hF := cpos h92 hF
                                      refine And.intro (by kernel_rfl) ?_
                                      exact Or.inl ⟨rfl, congrArg (Option.map lOfficeUnbroken_E) hF⟩
                                    · have hF := cneg h92 hF
                                      refine obind hF fun x93 h94 hF => ?_
                                      refine ⟨ix_nn h94, .inl rfl, _, ix_map cOff h94, ?_⟩
                                      refine obind hF fun x95 h96 hF => ?_
                                      refine ⟨ix_nn h96, .inl rfl, _, ix_map cOff h96, ?_⟩
                                      refine And.intro (by kernel_rfl) ?_
                                      refine And.intro (fun h97 => ?_) (fun h97 => ?_)
                                      · have hF := cpos h97 hF
                                        exact Or.inl ⟨rfl, congrArg (Option.map lOfficeUnbroken_E) hF⟩
                                      · have hF := cneg h97 hF
                                        exact ⟨(fu1, (IntKind.i64.wrap (v27 + 1))), Nat.lt_succ_self _, hF, ⟨rfl, rfl, rfl, rfl, rfl, rfl, rfl, trivial⟩, trivial⟩
                · have hF := cneg h28 hF
                  exact Or.inl ⟨rfl, congrArg (Option.map lOfficeUnbroken_E) hF⟩
abbrev lOfficeUnbroken_S (l : List Off) (id : Int) (day : Int) : Option (Bool) := lOfficeUnbroken_F 1000 l id day
theorem lOfficeUnbroken_h {l : List Off} {id : Int} {day : Int} {r : Bool} (h : lOfficeUnbroken_S l id day = some r) : Holds Tryd.prog Gw 5 [.sl 5 (l.map cOff), I id, I day] (lOfficeUnbroken_E r) := lOfficeUnbroken_Fh  h
abbrev lOfficeOnce_E (y : Bool) : CV := B y
def lOfficeOnce_L2 (y16 : List Int) (v10 : Int) (x13 : Off) (k_1 : Int → List (Int × Int) → Option (Bool)) : Nat → Int → List (Int × Int) → Option (Bool)
  | 0, _, _ => none
  | fu2 + 1, v26, v27 => bif decide (v26 < ((y16.map cInt).length : Int)) then (Option.bind (ix y16 v26) fun x29 => Option.bind (mlk v27 x29 0) fun y31 => bif (y31 != 0) then some (false) else lOfficeOnce_L2 y16 v10 x13 k_1 fu2 (IntKind.i64.wrap (v26 + 1)) (mset v27 x29 x13.ID)) else k_1 (IntKind.i64.wrap (v10 + 1)) v27
def lOfficeOnce_L3 (y16 : List Int) (v10 : Int) (x13 : Off) (k_1 : Int → List (Int × Int) → Option (Bool)) : Nat → Int → List (Int × Int) → Option (Bool)
  | 0, _, _ => none
  | fu3 + 1, v37, v38 => bif decide (v37 < ((y16.map cInt).length : Int)) then (Option.bind (ix y16 v37) fun x40 => Option.bind (mlk v38 x40 0) fun y42 => bif (y42 != 0) then some (false) else lOfficeOnce_L3 y16 v10 x13 k_1 fu3 (IntKind.i64.wrap (v37 + 1)) (mset v38 x40 x13.ID)) else k_1 (IntKind.i64.wrap (v10 + 1)) v38
def lOfficeOnce_L4 (y45 : List Int) (v10 : Int) (x13 : Off) (k_1 : Int → List (Int × Int) → Option (Bool)) : Nat → Int → List (Int × Int) → Option (Bool)
  | 0, _, _ => none
  | fu4 + 1, v54, v55 => bif decide (v54 < ((y45.map cInt).length : Int)) then (Option.bind (ix y45 v54) fun x57 => Option.bind (mlk v55 x57 0) fun y59 => bif (y59 != 0) then some (false) else lOfficeOnce_L4 y45 v10 x13 k_1 fu4 (IntKind.i64.wrap (v54 + 1)) (mset v55 x57 x13.ID)) else k_1 (IntKind.i64.wrap (v10 + 1)) v55
def lOfficeOnce_L5 (l : List Off) (day : Int) (v11 : List (Int × Int)) : Nat → Int → Option (Bool)
  | 0, _ => none
  | fu5 + 1, v62 => bif decide (v62 < ((l.map cOff).length : Int)) then (Option.bind (ix l v62) fun x64 => Option.bind (pHeir_S l x64.ID day) fun y66 => Option.bind (mlk v11 x64.ID 0) fun y68 => bif (!(y66.2 == (y68 != 0))) then some (false) else (Option.bind (mlk v11 x64.ID 0) fun y71 => bif (y66.1 != y71) then some (false) else lOfficeOnce_L5 l day v11 fu5 (IntKind.i64.wrap (v62 + 1)))) else some (true)
def lOfficeOnce_L1 (l : List Off) (day : Int) (N : Nat) : Nat → Int → List (Int × Int) → Option (Bool)
  | 0, _, _ => none
  | fu1 + 1, v10, v11 => bif decide (v10 < ((l.map cOff).length : Int)) then (Option.bind (ix l v10) fun x13 => bif decide (x13.In.From ≤ day) then (Option.bind (pDuties_S l x13.ID day) fun y16 => Option.bind (slContains_S y16 x13.ID) fun y18 => bif (!(y18 == (decide (day < x13.In.Until)))) then some (false) else (bif (!(decide (day < x13.In.Until))) then (bif decide (((y16.map cInt).length : Int) > 0) then some (false) else (Option.bind (slIsSorted_S y16) fun y23 => bif (!y23) then some (false) else lOfficeOnce_L2 y16 v10 x13 (fun v10 v11 => lOfficeOnce_L1 l day N fu1 v10 v11) N 0 v11)) else (Option.bind (slIsSorted_S y16) fun y34 => bif (!y34) then some (false) else lOfficeOnce_L3 y16 v10 x13 (fun v10 v11 => lOfficeOnce_L1 l day N fu1 v10 v11) N 0 v11))) else (Option.bind (pDuties_S l x13.ID day) fun y45 => Option.bind (slContains_S y45 x13.ID) fun y47 => bif (!(y47 == false)) then some (false) else (bif decide (((y45.map cInt).length : Int) > 0) then some (false) else (Option.bind (slIsSorted_S y45) fun y51 => bif (!y51) then some (false) else lOfficeOnce_L4 y45 v10 x13 (fun v10 v11 => lOfficeOnce_L1 l day N fu1 v10 v11) N 0 v11)))) else lOfficeOnce_L5 l day v11 N 0
def lOfficeOnce_F (N : Nat) (l : List Off) (day : Int) : Option (Bool) := Option.bind (lawake_S) fun y1 => bif (!y1) then some (false) else (Option.bind (pCheck_S l) fun y4 => Option.bind (rFew_S l) fun y6 => bif (!y6) then some (true) else (bif (y4.2 != 0) then some (true) else lOfficeOnce_L1 l day N N 0 ([] : List (Int × Int))))
set_option linter.unusedVariables false in
theorem lOfficeOnce_Fh {N : Nat} {l : List Off} {day : Int} {r : Bool} (hF : lOfficeOnce_F N l day = some r) : Holds Tryd.prog Gw 6 [.sl 5 (l.map cOff), I day] (lOfficeOnce_E r) := by
  refine holds_of_wq tabOk mixed Tryd.func6 (by decide) rfl (Nat.le_of_ble_eq_true rfl) ?_
  refine obind hF fun y1 h2 hF => ?_
  refine Or.inl ⟨_, lawake_h h2, rfl, ?_⟩
  refine And.intro (fun h3 => ?_) (fun h3 => ?_)
  · have hF := cpos h3 hF
    exact Or.inl ⟨rfl, congrArg (Option.map lOfficeOnce_E) hF⟩
  · have hF := cneg h3 hF
    refine obind hF fun y4 h5 hF => ?_
    refine Or.inl ⟨_, pCheck_h h5, rfl, ?_⟩
    refine obind hF fun y6 h7 hF => ?_
    refine Or.inl ⟨_, rFew_h h7, rfl, ?_⟩
    refine And.intro (fun h8 => ?_) (fun h8 => ?_)
    · have hF := cpos h8 hF
      exact Or.inl ⟨rfl, congrArg (Option.map lOfficeOnce_E) hF⟩
    · have hF := cneg h8 hF
      refine And.intro (fun h9 => ?_) (fun h9 => ?_)
      · have hF := cpos h9 hF
        exact Or.inl ⟨rfl, congrArg (Option.map lOfficeOnce_E) hF⟩
      · have hF := cneg h9 hF
        refine Or.inr ⟨[], 0, _, _, _, _, rfl, rfl, eff_makeMap, rfl, ?_⟩
        refine loop_oq (fun p : Nat × Int × (List (Int × Int)) => [(0, .c (.sl 5 (l.map cOff))), (1, .c (I day)), (7, .mr 32 0), (33, .c (.sl 5 (l.map cOff))), (34, .c (I ((l.map cOff).length : Int))), (35, .c (I p.2.1))]) (fun p : Nat × Int × (List (Int × Int)) => [(32, .map (mpE (kInt .i64) eInt p.2.2))]) (fun p => lOfficeOnce_L1 l day N p.1 p.2.1 p.2.2 = some r) (fun p => p.1) (N, 0, ([] : List (Int × Int))) hF ⟨rfl, rfl, rfl, rfl, rfl, rfl, trivial⟩ ⟨rfl, trivial⟩ ?_
        rintro ⟨fu1, v10, v11⟩ hF
        cases fu1 with
        | zero => exact nomatch hF
        | succ fu1 =>
          refine join_no ?_
          refine And.intro (fun h12 => ?_) (fun h12 => ?_)
          · have hF := cpos h12 hF
            refine join_no ?_
            refine obind hF fun x13 h14 hF => ?_
            refine ⟨ix_nn h14, .inl rfl, _, ix_map cOff h14, ?_⟩
            refine Or.inl ?_
            refine And.intro (fun h15 => ?_) (fun h15 => ?_)
            · have hF := cpos h15 hF
              refine obind hF fun y16 h17 hF => ?_
              refine Or.inl ⟨_, pDuties_h h17, rfl, ?_⟩
              refine obind hF fun y18 h19 hF => ?_
              refine Or.inl ⟨_, slContains_h h19, rfl, ?_⟩
              refine And.intro (fun h20 => ?_) (fun h20 => ?_)
              · have hF := cpos h20 hF
                exact Or.inl ⟨rfl, congrArg (Option.map lOfficeOnce_E) hF⟩
              · have hF := cneg h20 hF
                refine And.intro (fun h21 => ?_) (fun h21 => ?_)
                · have hF := cpos h21 hF
                  refine And.intro (fun h22 => ?_) (fun h22 => ?_)
                  · have hF := cpos h22 hF
                    exact Or.inl ⟨rfl, congrArg (Option.map lOfficeOnce_E) hF⟩
                  · have hF := cneg h22 hF
                    refine obind hF fun y23 h24 hF => ?_
                    refine Or.inl ⟨_, slIsSorted_h h24, rfl, ?_⟩
                    refine And.intro (fun h25 => ?_) (fun h25 => ?_)
                    · have hF := cpos h25 hF
                      exact Or.inl ⟨rfl, congrArg (Option.map lOfficeOnce_E) hF⟩
                    · have hF := cneg h25 hF
                      refine loop_oq (fun p : Nat × Int × (List (Int × Int)) => [(0, .c (.sl 5 (l.map cOff))), (1, .c (I day)), (7, .mr 32 0), (9, .pm 9 0 0), (33, .c (.sl 5 (l.map cOff))), (34, .c (I ((l.map cOff).length : Int))), (35, .c (I v10)), (45, .c (I day)), (46, .pm 9 0 2), (47, .pm 9 0 3), (48, .c (I x13.In.Until)), (49, .c (B (decide (day < x13.In.Until)))), (63, .c (B (decide (day < x13.In.Until)))), (64, .c (B (!(decide (day < x13.In.Until))))), (65, .c (B true)), (66, .c (.sl 1 (y16.map cInt))), (67, .c (I ((y16.map cInt).length : Int))), (68, .c (B (decide (((y16.map cInt).length : Int) > 0)))), (69, .c (B (decide (((y16.map cInt).length : Int) > 0)))), (72, .c (.sl 1 (y16.map cInt))), (73, .c (B y23)), (74, .c (B (!y23))), (76, .c (.sl 1 (y16.map cInt))), (77, .c (I ((y16.map cInt).length : Int))), (78, .c (I p.2.1))]) (fun p : Nat × Int × (List (Int × Int)) => [(32, .map (mpE (kInt .i64) eInt p.2.2)), (9, .var [I x13.ID, S x13.Name, I x13.In.From, I x13.In.Until, .sl 1 (x13.Next.map cInt)])]) (fun p => lOfficeOnce_L2 y16 v10 x13 (fun v10 v11 => lOfficeOnce_L1 l day N fu1 v10 v11) p.1 p.2.1 p.2.2 = some r) (fun p => p.1) (N, 0, v11) hF ⟨rfl, rfl, rfl, rfl, rfl, rfl, rfl, rfl, rfl, rfl, rfl, rfl, rfl, rfl, rfl, rfl, rfl, rfl, rfl, rfl, rfl, rfl, rfl, rfl, rfl, trivial⟩ ⟨rfl, rfl, trivial⟩ ?_
                      rintro ⟨fu2, v26, v27⟩ hF
                      cases fu2 with
                      | zero => exact nomatch hF
                      | succ fu2 =>
                        refine join_no ?_
                        refine And.intro (fun h28 => ?_) (fun h28 => ?_)
                        · have hF := cpos h28 hF
                          refine join_no ?_
                          refine obind hF fun x29 h30 hF => ?_
                          refine ⟨ix_nn h30, .inl rfl, _, ix_map cInt h30, ?_⟩
                          refine obind hF fun y31 h32 hF => ?_
                          refine Or.inr ⟨[(32, 0)], 0, _, _, _, _, rfl, rfl, eff_mlk (ev := eInt) (z := 0) (m := v27) (x := x29) tok41.u tok3.u (keyInt .i64) tok3 rfl h32, rfl, ?_⟩
                          refine And.intro (fun h33 => ?_) (fun h33 => ?_)
                          · have hF := cpos h33 hF
                            exact Or.inl ⟨rfl, congrArg (Option.map lOfficeOnce_E) hF⟩
                          · have hF := cneg h33 hF
                            refine Or.inr ⟨[(32, 0)], 0, _, _, _, _, rfl, rfl, eff_mapUpdate (ev := eInt) (v := x13.ID) tok41.u tok3.u (keyInt .i64), rfl, ?_⟩
                            exact ⟨(fu2, (IntKind.i64.wrap (v26 + 1)), (mset v27 x29 x13.ID)), Nat.lt_succ_self _, hF, ⟨rfl, rfl, rfl, rfl, rfl, rfl, rfl, rfl, rfl, rfl, rfl, rfl, rfl, rfl, rfl, rfl, rfl, rfl, rfl, rfl, rfl, rfl, rfl, rfl, rfl, trivial⟩, ⟨rfl, rfl, trivial⟩⟩
                        · have hF := cneg h28 hF
                          exact ⟨(fu1, (IntKind.i64.wrap (v10 + 1)), v27), Nat.lt_succ_self _, hF, ⟨rfl, rfl, rfl, rfl, rfl, rfl, trivial⟩, ⟨rfl, trivial⟩⟩
                · have hF := cneg h21 hF
                  refine obind hF fun y34 h35 hF => ?_
                  refine Or.inl ⟨_, slIsSorted_h h35, rfl, ?_⟩
                  refine And.intro (fun h36 => ?_) (fun h36 => ?_)
                  · have hF := cpos h36 hF
                    exact Or.inl ⟨rfl, congrArg (Option.map lOfficeOnce_E) hF⟩
                  · have hF := cneg h36 hF
                    refine loop_oq (fun p : Nat × Int × (List (Int × Int)) => [(0, .c (.sl 5 (l.map cOff))), (1, .c (I day)), (7, .mr 32 0), (9, .pm 9 0 0), (33, .c (.sl 5 (l.map cOff))), (34, .c (I ((l.map cOff).length : Int))), (35, .c (I v10)), (45, .c (I day)), (46, .pm 9 0 2), (47, .pm 9 0 3), (48, .c (I x13.In.Until)), (49, .c (B (decide (day < x13.In.Until)))), (63, .c (B (decide (day < x13.In.Until)))), (64, .c (B (!(decide (day < x13.In.Until))))), (65, .c (B false)), (69, .c (B false)), (72, .c (.sl 1 (y16.map cInt))), (73, .c (B y34)), (74, .c (B (!y34))), (76, .c (.sl 1 (y16.map cInt))), (77, .c (I ((y16.map cInt).length : Int))), (78, .c (I p.2.1))]) (fun p : Nat × Int × (List (Int × Int)) => [(32, .map (mpE (kInt .i64) eInt p.2.2)), (9, .var [I x13.ID, S x13.Name, I x13.In.From, I x13.In.Until, .sl 1 (x13.Next.map cInt)])]) (fun p => lOfficeOnce_L3 y16 v10 x13 (fun v10 v11 => lOfficeOnce_L1 l day N fu1 v10 v11) p.1 p.2.1 p.2.2 = some r) (fun p => p.1) (N, 0, v11) hF ⟨rfl, rfl, rfl, rfl, rfl, rfl, rfl, rfl, rfl, rfl, rfl, rfl, rfl, rfl, rfl, rfl, rfl, rfl, rfl, rfl, rfl, rfl, trivial⟩ ⟨rfl, rfl, trivial⟩ ?_
                    rintro ⟨fu3, v37, v38⟩ hF
                    cases fu3 with
                    | zero => exact nomatch hF
                    | succ fu3 =>
                      refine join_no ?_
                      refine And.intro (fun h39 => ?_) (fun h39 => ?_)
                      · have hF := cpos h39 hF
                        refine join_no ?_
                        refine obind hF fun x40 h41 hF => ?_
                        refine ⟨ix_nn h41, .inl rfl, _, ix_map cInt h41, ?_⟩
                        refine obind hF fun y42 h43 hF => ?_
                        refine Or.inr ⟨[(32, 0)], 0, _, _, _, _, rfl, rfl, eff_mlk (ev := eInt) (z := 0) (m := v38) (x := x40) tok41.u tok3.u (keyInt .i64) tok3 rfl h43, rfl, ?_⟩
                        refine And.intro (fun h44 => ?_) (fun h44 => ?_)
                        · have hF := cpos h44 hF
                          exact Or.inl ⟨rfl, congrArg (Option.map lOfficeOnce_E) hF⟩
                        · have hF := cneg h44 hF
                          refine Or.inr ⟨[(32, 0)], 0, _, _, _, _, rfl, rfl, eff_mapUpdate (ev := eInt) (v := x13.ID) tok41.u tok3.u (keyInt .i64), rfl, ?_⟩
                          exact ⟨(fu3, (IntKind.i64.wrap (v37 + 1)), (mset v38 x40 x13.ID)), Nat.lt_succ_self _, hF, ⟨rfl, rfl, rfl, rfl, rfl, rfl, rfl, rfl, rfl, rfl, rfl, rfl, rfl, rfl, rfl, rfl, rfl, rfl, rfl, rfl, rfl, rfl, trivial⟩, ⟨rfl, rfl, trivial⟩⟩
                      · have hF := cneg h39 hF
                        exact ⟨(fu1, (IntKind.i64.wrap (v10 + 1)), v38), Nat.lt_succ_self _, hF, ⟨rfl, rfl, rfl, rfl, rfl, rfl, trivial⟩, ⟨rfl, trivial⟩⟩
            · have hF := cneg h15 hF
              refine obind hF fun y45 h46 hF => ?_
              refine Or.inl ⟨_, pDuties_h h46, rfl, ?_⟩
              refine obind hF fun y47 h48 hF => ?_
              refine Or.inl ⟨_, slContains_h h48, rfl, ?_⟩
              refine And.intro (fun h49 => ?_) (fun h49 => ?_)
              · have hF := cpos h49 hF
                exact Or.inl ⟨rfl, congrArg (Option.map lOfficeOnce_E) hF⟩
              · have hF := cneg h49 hF
                refine And.intro (fun h50 => ?_) (fun h50 => ?_)
                · have hF := cpos h50 hF
                  exact Or.inl ⟨rfl, congrArg (Option.map lOfficeOnce_E) hF⟩
                · have hF := cneg h50 hF
                  refine obind hF fun y51 h52 hF => ?_
                  refine Or.inl ⟨_, slIsSorted_h h52, rfl, ?_⟩
                  refine And.intro (fun h53 => ?_) (fun h53 => ?_)
                  · have hF := cpos h53 hF
                    exact Or.inl ⟨rfl, congrArg (Option.map lOfficeOnce_E) hF⟩
                  · have hF := cneg h53 hF
                    refine loop_oq (fun p : Nat × Int × (List (Int × Int)) => [(0, .c (.sl 5 (l.map cOff))), (1, .c (I day)), (7, .mr 32 0), (9, .pm 9 0 0), (33, .c (.sl 5 (l.map cOff))), (34, .c (I ((l.map cOff).length : Int))), (35, .c (I v10)), (63, .c (B false)), (64, .c (B true)), (65, .c (B true)), (66, .c (.sl 1 (y45.map cInt))), (67, .c (I ((y45.map cInt).length : Int))), (68, .c (B (decide (((y45.map cInt).length : Int) > 0)))), (69, .c (B (decide (((y45.map cInt).length : Int) > 0)))), (72, .c (.sl 1 (y45.map cInt))), (73, .c (B y51)), (74, .c (B (!y51))), (76, .c (.sl 1 (y45.map cInt))), (77, .c (I ((y45.map cInt).length : Int))), (78, .c (I p.2.1))]) (fun p : Nat × Int × (List (Int × Int)) => [(32, .map (mpE (kInt .i64) eInt p.2.2)), (9, .var [I x13.ID, S x13.Name, I x13.In.From, I x13.In.Until, .sl 1 (x13.Next.map cInt)])]) (fun p => lOfficeOnce_L4 y45 v10 x13 (fun v10 v11 => lOfficeOnce_L1 l day N fu1 v10 v11) p.1 p.2.1 p.2.2 = some r) (fun p => p.1) (N, 0, v11) hF ⟨rfl, rfl, rfl, rfl, rfl, rfl, rfl, rfl, rfl, rfl, rfl, rfl, rfl, rfl, rfl, rfl, rfl, rfl, rfl, rfl, trivial⟩ ⟨rfl, rfl, trivial⟩ ?_
                    rintro ⟨fu4, v54, v55⟩ hF
                    cases fu4 with
                    | zero => exact nomatch hF
                    | succ fu4 =>
                      refine join_no ?_
                      refine And.intro (fun h56 => ?_) (fun h56 => ?_)
                      · have hF := cpos h56 hF
                        refine join_no ?_
                        refine obind hF fun x57 h58 hF => ?_
                        refine ⟨ix_nn h58, .inl rfl, _, ix_map cInt h58, ?_⟩
                        refine obind hF fun y59 h60 hF => ?_
                        refine Or.inr ⟨[(32, 0)], 0, _, _, _, _, rfl, rfl, eff_mlk (ev := eInt) (z := 0) (m := v55) (x := x57) tok41.u tok3.u (keyInt .i64) tok3 rfl h60, rfl, ?_⟩
                        refine And.intro (fun h61 => ?_) (fun h61 => ?_)
                        · have hF := cpos h61 hF
                          exact Or.inl ⟨rfl, congrArg (Option.map lOfficeOnce_E) hF⟩
                        · have hF := cneg h61 hF
                          refine Or.inr ⟨[(32, 0)], 0, _, _, _, _, rfl, rfl, eff_mapUpdate (ev := eInt) (v := x13.ID) tok41.u tok3.u (keyInt .i64), rfl, ?_⟩
                          exact ⟨(fu4, (IntKind.i64.wrap (v54 + 1)), (mset v55 x57 x13.ID)), Nat.lt_succ_self _, hF, ⟨rfl, rfl, rfl, rfl, rfl, rfl, rfl, rfl, rfl, rfl, rfl, rfl, rfl, rfl, rfl, rfl, rfl, rfl, rfl, rfl, trivial⟩, ⟨rfl, rfl, trivial⟩⟩
                      · have hF := cneg h56 hF
                        exact ⟨(fu1, (IntKind.i64.wrap (v10 + 1)), v55), Nat.lt_succ_self _, hF, ⟨rfl, rfl, rfl, rfl, rfl, rfl, trivial⟩, ⟨rfl, trivial⟩⟩
          · have hF := cneg h12 hF
            refine loop_oq (fun p : Nat × Int => [(0, .c (.sl 5 (l.map cOff))), (1, .c (I day)), (7, .mr 32 0), (92, .c (.sl 5 (l.map cOff))), (93, .c (I ((l.map cOff).length : Int))), (94, .c (I p.2))]) (fun p : Nat × Int => [(32, .map (mpE (kInt .i64) eInt v11))]) (fun p => lOfficeOnce_L5 l day v11 p.1 p.2 = some r) (fun p => p.1) (N, 0) hF ⟨rfl, rfl, rfl, rfl, rfl, rfl, trivial⟩ ⟨rfl, trivial⟩ ?_
            rintro ⟨fu5, v62⟩ hF
            cases fu5 with
            | zero => exact nomatch hF
            | succ fu5 =>
              refine join_no ?_
              refine And.intro (fun h63 => ?_) (fun h63 => ?_)
              · have hF := cpos h63 hF
                refine join_no ?_
                refine obind hF fun x64 h65 hF => ?_
                refine ⟨ix_nn h65, .inl rfl, _, ix_map cOff h65, ?_⟩
                refine Or.inl ?_
                refine obind hF fun y66 h67 hF => ?_
                refine Or.inl ⟨_, pHeir_h h67, rfl, ?_⟩
                refine obind hF fun y68 h69 hF => ?_
                refine Or.inr ⟨[(32, 0)], 0, _, _, _, _, rfl, rfl, eff_mlk (ev := eInt) (z := 0) (m := v11) (x := x64.ID) tok41.u tok3.u (keyInt .i64) tok3 rfl h69, rfl, ?_⟩
                refine And.intro (fun h70 => ?_) (fun h70 => ?_)
                · have hF := cpos h70 hF
                  exact Or.inl ⟨rfl, congrArg (Option.map lOfficeOnce_E) hF⟩
                · have hF := cneg h70 hF
                  refine obind hF fun y71 h72 hF => ?_
                  refine Or.inr ⟨[(32, 0)], 0, _, _, _, _, rfl, rfl, eff_mlk (ev := eInt) (z := 0) (m := v11) (x := x64.ID) tok41.u tok3.u (keyInt .i64) tok3 rfl h72, rfl, ?_⟩
                  refine And.intro (fun h73 => ?_) (fun h73 => ?_)
                  · have hF := cpos h73 hF
                    exact Or.inl ⟨rfl, congrArg (Option.map lOfficeOnce_E) hF⟩
                  · have hF := cneg h73 hF
                    exact ⟨(fu5, (IntKind.i64.wrap (v62 + 1))), Nat.lt_succ_self _, hF, ⟨rfl, rfl, rfl, rfl, rfl, rfl, trivial⟩, ⟨rfl, trivial⟩⟩
              · have hF := cneg h63 hF
                exact Or.inl ⟨rfl, congrArg (Option.map lOfficeOnce_E) hF⟩
abbrev lOfficeOnce_S (l : List Off) (day : Int) : Option (Bool) := lOfficeOnce_F 1000 l day
theorem lOfficeOnce_h {l : List Off} {day : Int} {r : Bool} (h : lOfficeOnce_S l day = some r) : Holds Tryd.prog Gw 6 [.sl 5 (l.map cOff), I day] (lOfficeOnce_E r) := lOfficeOnce_Fh  h
abbrev lOfficeEnds_E (y : Bool) : CV := B y
def lOfficeEnds_F (l : List Off) (id : Int) (day : Int) (next : List Int) : Option (Bool) := Option.bind (lawake_S) fun y1 => bif (!y1) then some (false) else (Option.bind (rFew_S l) fun y4 => bif (!y4) then some (true) else (bif decide (((next.map cInt).length : Int) > 10) then some (true) else (Option.bind (pEnd_S l id day next) fun y8 => Option.bind (rEnd_S l id day next) fun y10 => Option.bind (rSame_S y8.1 y10.1) fun y12 => bif y12 then some ((y8.2 == y10.2)) else some (false))))
set_option linter.unusedVariables false in
theorem lOfficeEnds_Fh {l : List Off} {id : Int} {day : Int} {next : List Int} {r : Bool} (hF : lOfficeEnds_F l id day next = some r) : Holds Tryd.prog Gw 7 [.sl 5 (l.map cOff), I id, I day, .sl 1 (next.map cInt)] (lOfficeEnds_E r) := by
  refine holds_of_wq tabOk mixed Tryd.func7 (by decide) rfl (Nat.le_of_ble_eq_true rfl) ?_
  refine obind hF fun y1 h2 hF => ?_
  refine Or.inl ⟨_, lawake_h h2, rfl, ?_⟩
  refine And.intro (fun h3 => ?_) (fun h3 => ?_)
  · have hF := cpos h3 hF
    exact Or.inl ⟨rfl, congrArg (Option.map lOfficeEnds_E) hF⟩
  · have hF := cneg h3 hF
    refine obind hF fun y4 h5 hF => ?_
    refine Or.inl ⟨_, rFew_h h5, rfl, ?_⟩
    refine And.intro (fun h6 => ?_) (fun h6 => ?_)
    · have hF := cpos h6 hF
      exact Or.inl ⟨rfl, congrArg (Option.map lOfficeEnds_E) hF⟩
    · have hF := cneg h6 hF
      refine And.intro (fun h7 => ?_) (fun h7 => ?_)
      · have hF := cpos h7 hF
        exact Or.inl ⟨rfl, congrArg (Option.map lOfficeEnds_E) hF⟩
      · have hF := cneg h7 hF
        refine obind hF fun y8 h9 hF => ?_
        refine Or.inl ⟨_, pEnd_h h9, rfl, ?_⟩
        refine obind hF fun y10 h11 hF => ?_
        refine Or.inl ⟨_, rEnd_h h11, rfl, ?_⟩
        refine obind hF fun y12 h13 hF => ?_
        refine Or.inl ⟨_, rSame_h h13, rfl, ?_⟩
        refine And.intro (fun h14 => ?_) (fun h14 => ?_)
        · have hF := cpos h14 hF
          exact Or.inl ⟨rfl, congrArg (Option.map lOfficeEnds_E) hF⟩
        · have hF := cneg h14 hF
          exact Or.inl ⟨rfl, congrArg (Option.map lOfficeEnds_E) hF⟩
abbrev lOfficeEnds_S (l : List Off) (id : Int) (day : Int) (next : List Int) : Option (Bool) := lOfficeEnds_F l id day next
theorem lOfficeEnds_h {l : List Off} {id : Int} {day : Int} {next : List Int} {r : Bool} (h : lOfficeEnds_S l id day next = some r) : Holds Tryd.prog Gw 7 [.sl 5 (l.map cOff), I id, I day, .sl 1 (next.map cInt)] (lOfficeEnds_E r) := lOfficeEnds_Fh  h
abbrev lOfficeBefore_E (y : Bool) : CV := B y
def lOfficeBefore_F (l : List Off) (id : Int) (day : Int) (next : List Int) (other : Int) (earlier : Int) : Option (Bool) := Option.bind (lawake_S) fun y1 => bif (!y1) then some (false) else (Option.bind (rFew_S l) fun y4 => bif (!y4) then some (true) else (bif decide (((next.map cInt).length : Int) > 10) then some (true) else (bif decide (earlier ≥ day) then some (true) else (Option.bind (pEnd_S l id day next) fun y9 => bif (y9.2 != 0) then some ((((y9.1.map cOff).length : Int) == 0)) else (Option.bind (pFind_S l id) fun y12 => Option.bind (pFind_S y9.1 id) fun y14 => bif decide (y12 < 0) then some (false) else (bif decide (y14 < 0) then some (false) else (bif decide (y12 ≥ ((l.map cOff).length : Int)) then some (false) else (bif decide (y14 ≥ ((y9.1.map cOff).length : Int)) then some (false) else (Option.bind (ix y9.1 y14) fun x20 => bif (x20.In.Until != day) then some (false) else (Option.bind (ix y9.1 y14) fun x23 => Option.bind (slEqual_S x23.Next next) fun y25 => bif (!y25) then some (false) else (Option.bind (pHeir_S l other earlier) fun y28 => Option.bind (pHeir_S y9.1 other earlier) fun y30 => bif (((y9.1.map cOff).length : Int) == ((l.map cOff).length : Int)) then (bif (y28.1 == y30.1) then some ((y28.2 == y30.2)) else some (false)) else some (false))))))))))))
set_option linter.unusedVariables false in
theorem lOfficeBefore_Fh {l : List Off} {id : Int} {day : Int} {next : List Int} {other : Int} {earlier : Int} {r : Bool} (hF : lOfficeBefore_F l id day next other earlier = some r) : Holds Tryd.prog Gw 8 [.sl 5 (l.map cOff), I id, I day, .sl 1 (next.map cInt), I other, I earlier] (lOfficeBefore_E r) := by
  refine holds_of_wq tabOk mixed Tryd.func8 (by decide) rfl (Nat.le_of_ble_eq_true rfl) ?_
  refine obind hF fun y1 h2 hF => ?_
  refine Or.inl ⟨_, lawake_h h2, rfl, ?_⟩
  refine And.intro (fun h3 => ?_) (fun h3 => ?_)
  · have hF := cpos h3 hF
    exact Or.inl ⟨rfl, congrArg (Option.map lOfficeBefore_E) hF⟩
  · have hF := cneg h3 hF
    refine obind hF fun y4 h5 hF => ?_
    refine Or.inl ⟨_, rFew_h h5, rfl, ?_⟩
    refine And.intro (fun h6 => ?_) (fun h6 => ?_)
    · have hF := cpos h6 hF
      exact Or.inl ⟨rfl, congrArg (Option.map lOfficeBefore_E) hF⟩
    · have hF := cneg h6 hF
      refine And.intro (fun h7 => ?_) (fun h7 => ?_)
      · have hF := cpos h7 hF
        exact Or.inl ⟨rfl, congrArg (Option.map lOfficeBefore_E) hF⟩
      · have hF := cneg h7 hF
        refine And.intro (fun h8 => ?_) (fun h8 => ?_)
        · have hF := cpos h8 hF
          exact Or.inl ⟨rfl, congrArg (Option.map lOfficeBefore_E) hF⟩
        · have hF := cneg h8 hF
          refine obind hF fun y9 h10 hF => ?_
          refine Or.inl ⟨_, pEnd_h h10, rfl, ?_⟩
          refine And.intro (fun h11 => ?_) (fun h11 => ?_)
          · have hF := cpos h11 hF
            exact Or.inl ⟨rfl, congrArg (Option.map lOfficeBefore_E) hF⟩
          · have hF := cneg h11 hF
            refine obind hF fun y12 h13 hF => ?_
            refine Or.inl ⟨_, pFind_h h13, rfl, ?_⟩
            refine obind hF fun y14 h15 hF => ?_
            refine Or.inl ⟨_, pFind_h h15, rfl, ?_⟩
            refine And.intro (fun h16 => ?_) (fun h16 => ?_)
            · have hF := cpos h16 hF
              exact Or.inl ⟨rfl, congrArg (Option.map lOfficeBefore_E) hF⟩
            · have hF := cneg h16 hF
              refine And.intro (fun h17 => ?_) (fun h17 => ?_)
              · have hF := cpos h17 hF
                exact Or.inl ⟨rfl, congrArg (Option.map lOfficeBefore_E) hF⟩
              · have hF := cneg h17 hF
                refine And.intro (fun h18 => ?_) (fun h18 => ?_)
                · have hF := cpos h18 hF
                  exact Or.inl ⟨rfl, congrArg (Option.map lOfficeBefore_E) hF⟩
                · have hF := cneg h18 hF
                  refine And.intro (fun h19 => ?_) (fun h19 => ?_)
                  · have hF := cpos h19 hF
                    exact Or.inl ⟨rfl, congrArg (Option.map lOfficeBefore_E) hF⟩
                  · have hF := cneg h19 hF
                    refine obind hF fun x20 h21 hF => ?_
                    refine ⟨ix_nn h21, .inl rfl, _, ix_map cOff h21, ?_⟩
                    refine And.intro (fun h22 => ?_) (fun h22 => ?_)
                    · have hF := cpos h22 hF
                      exact Or.inl ⟨rfl, congrArg (Option.map lOfficeBefore_E) hF⟩
                    · have hF := cneg h22 hF
                      refine obind hF fun x23 h24 hF => ?_
                      refine ⟨ix_nn h24, .inl rfl, _, ix_map cOff h24, ?_⟩
                      refine obind hF fun y25 h26 hF => ?_
                      refine Or.inl ⟨_, slEqual_h h26, rfl, ?_⟩
                      refine And.intro (fun h27 => ?_) (fun h27 => ?_)
                      · have hF := cpos h27 hF
                        exact Or.inl ⟨rfl, congrArg (Option.map lOfficeBefore_E) hF⟩
                      · have hF := cneg h27 hF
                        refine obind hF fun y28 h29 hF => ?_
                        refine Or.inl ⟨_, pHeir_h h29, rfl, ?_⟩
                        refine obind hF fun y30 h31 hF => ?_
                        refine Or.inl ⟨_, pHeir_h h31, rfl, ?_⟩
                        refine And.intro (fun h32 => ?_) (fun h32 => ?_)
                        · have hF := cpos h32 hF
                          refine And.intro (fun h33 => ?_) (fun h33 => ?_)
                          · have hF := cpos h33 hF
                            exact Or.inl ⟨rfl, congrArg (Option.map lOfficeBefore_E) hF⟩
                          · have hF := cneg h33 hF
                            exact Or.inl ⟨rfl, congrArg (Option.map lOfficeBefore_E) hF⟩
                        · have hF := cneg h32 hF
                          exact Or.inl ⟨rfl, congrArg (Option.map lOfficeBefore_E) hF⟩
abbrev lOfficeBefore_S (l : List Off) (id : Int) (day : Int) (next : List Int) (other : Int) (earlier : Int) : Option (Bool) := lOfficeBefore_F l id day next other earlier
theorem lOfficeBefore_h {l : List Off} {id : Int} {day : Int} {next : List Int} {other : Int} {earlier : Int} {r : Bool} (h : lOfficeBefore_S l id day next other earlier = some r) : Holds Tryd.prog Gw 8 [.sl 5 (l.map cOff), I id, I day, .sl 1 (next.map cInt), I other, I earlier] (lOfficeBefore_E r) := lOfficeBefore_Fh  h
end Go.Proofs.YtmcolhhmlpicaaaDoor
