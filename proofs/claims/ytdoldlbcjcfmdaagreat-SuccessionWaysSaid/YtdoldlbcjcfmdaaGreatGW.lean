/- Functions of the program as functions of Lean, each with its contract (printed by a program). -/
import Derived.Test.YtdoldlbcjcfmdaaGreatGG
namespace Go.Proofs.YtdoldlbcjcfmdaaGreat
open Go Go.Abs
set_option maxRecDepth 10000
set_option maxHeartbeats 400000
abbrev qSame_E (y : Bool) : CV := B y
def qSame_L2 (a : List (List Int)) (b : List (List Int)) (i2 : Int) (k_1 : Int → Option (Bool)) : Nat → Int → Option (Bool)
  | 0, _ => none
  | fu2 + 1, k9 => Option.bind (ix a i2) fun x10 => bif decide (k9 < ((x10.map cInt).length : Int)) then (Option.bind (ix a i2) fun x13 => Option.bind (ix x13 k9) fun x15 => Option.bind (ix b i2) fun x17 => Option.bind (ix x17 k9) fun x19 => bif (x15 != x19) then some (false) else qSame_L2 a b i2 k_1 fu2 (IntKind.i64.wrap (k9 + 1))) else k_1 (IntKind.i64.wrap (i2 + 1))
def qSame_L1 (a : List (List Int)) (b : List (List Int)) (N : Nat) : Nat → Int → Option (Bool)
  | 0, _ => none
  | fu1 + 1, i2 => bif decide (i2 < ((a.map cSl_Int).length : Int)) then (Option.bind (ix a i2) fun x4 => Option.bind (ix b i2) fun x6 => bif (((x4.map cInt).length : Int) != ((x6.map cInt).length : Int)) then some (false) else qSame_L2 a b i2 (fun q_i2 => qSame_L1 a b N fu1 q_i2) N 0) else some (true)
def qSame_F (N : Nat) (a : List (List Int)) (b : List (List Int)) : Option (Bool) := bif (((a.map cSl_Int).length : Int) != ((b.map cSl_Int).length : Int)) then some (false) else qSame_L1 a b N N 0
set_option linter.unusedVariables false in
theorem qSame_Fh {N : Nat} {a : List (List Int)} {b : List (List Int)} {r : Bool} (hF : qSame_F N a b = some r) : Holds Tryz.prog Gw 24 [.sl 1 (a.map cSl_Int), .sl 1 (b.map cSl_Int)] (qSame_E r) := by
  refine holds_of_wq tabOk mixed Tryz.func24 (by decide) rfl (Nat.le_of_ble_eq_true rfl) ?_
  refine And.intro (fun h1 => ?_) (fun h1 => ?_)
  · have hF := cpos h1 hF
    exact Or.inl ⟨rfl, congrArg (Option.map qSame_E) hF⟩
  · have hF := cneg h1 hF
    refine loop_oq (fun p : Nat × Int => [(0, .c (.sl 1 (a.map cSl_Int))), (1, .c (.sl 1 (b.map cSl_Int))), (5, .c (I p.2))]) (fun _ => []) (fun p => qSame_L1 a b N p.1 p.2 = some r) (fun p => p.1) (N, 0) hF ⟨rfl, rfl, rfl, trivial⟩ trivial ?_
    rintro ⟨fu1, i2⟩ hF
    cases fu1 with
    | zero => exact nomatch hF
    | succ fu1 =>
      refine And.intro (fun h3 => ?_) (fun h3 => ?_)
      · have hF := cpos h3 hF
        refine join_no ?_
        refine obind hF fun x4 h5 hF => ?_
        refine ⟨ix_nn h5, .inl rfl, _, ix_map cSl_Int h5, ?_⟩
        refine obind hF fun x6 h7 hF => ?_
        refine ⟨ix_nn h7, .inl rfl, _, ix_map cSl_Int h7, ?_⟩
        refine And.intro (by kernel_rfl) ?_
        refine And.intro (fun h8 => ?_) (fun h8 => ?_)
        · have hF := cpos h8 hF
          exact Or.inl ⟨rfl, congrArg (Option.map qSame_E) hF⟩
        · have hF := cneg h8 hF
          refine loop_oq (fun p : Nat × Int => [(0, .c (.sl 1 (a.map cSl_Int))), (1, .c (.sl 1 (b.map cSl_Int))), (5, .c (I i2)), (6, .c (I p.2))]) (fun _ => []) (fun p => qSame_L2 a b i2 (fun q_i2 => qSame_L1 a b N fu1 q_i2) p.1 p.2 = some r) (fun p => p.1) (N, 0) hF ⟨rfl, rfl, rfl, rfl, trivial⟩ trivial ?_
          rintro ⟨fu2, k9⟩ hF
          cases fu2 with
          | zero => exact nomatch hF
          | succ fu2 =>
            refine obind hF fun x10 h11 hF => ?_
            refine ⟨ix_nn h11, .inl rfl, _, ix_map cSl_Int h11, ?_⟩
            refine And.intro (fun h12 => ?_) (fun h12 => ?_)
            · have hF := cpos h12 hF
              refine join_no ?_
              refine obind hF fun x13 h14 hF => ?_
              refine ⟨ix_nn h14, .inl rfl, _, ix_map cSl_Int h14, ?_⟩
              refine obind hF fun x15 h16 hF => ?_
              refine ⟨ix_nn h16, .inl rfl, _, ix_map cInt h16, ?_⟩
              refine obind hF fun x17 h18 hF => ?_
              refine ⟨ix_nn h18, .inl rfl, _, ix_map cSl_Int h18, ?_⟩
              refine obind hF fun x19 h20 hF => ?_
              refine ⟨ix_nn h20, .inl rfl, _, ix_map cInt h20, ?_⟩
              refine And.intro (by kernel_rfl) ?_
              refine And.intro (fun h21 => ?_) (fun h21 => ?_)
              · have hF := cpos h21 hF
                exact Or.inl ⟨rfl, congrArg (Option.map qSame_E) hF⟩
              · have hF := cneg h21 hF
                exact ⟨(fu2, (IntKind.i64.wrap (k9 + 1))), Nat.lt_succ_self _, hF, ⟨rfl, rfl, rfl, rfl, trivial⟩, trivial⟩
            · have hF := cneg h12 hF
              exact ⟨(fu1, (IntKind.i64.wrap (i2 + 1))), Nat.lt_succ_self _, hF, ⟨rfl, rfl, rfl, trivial⟩, trivial⟩
      · have hF := cneg h3 hF
        exact Or.inl ⟨rfl, congrArg (Option.map qSame_E) hF⟩
abbrev qSame_S (a : List (List Int)) (b : List (List Int)) : Option (Bool) := qSame_F 1000 a b
theorem qSame_h {a : List (List Int)} {b : List (List Int)} {r : Bool} (h : qSame_S a b = some r) : Holds Tryz.prog Gw 24 [.sl 1 (a.map cSl_Int), .sl 1 (b.map cSl_Int)] (qSame_E r) := qSame_Fh  h
abbrev lawake_E (y : Bool) : CV := B y
def lawake_F : Option (Bool) := Option.bind (lexample_S) fun y1 => Option.bind (sForward_S y1 2) fun y3 => Option.bind (lexample_S) fun y5 => Option.bind (sBack_S y5 3) fun y7 => Option.bind (lexample_S) fun y9 => Option.bind (sMeet_S y9 1 2) fun y11 => Option.bind (lexample_S) fun y13 => Option.bind (sGenerations_S y13) fun y15 => Option.bind (lexample_S) fun y17 => Option.bind (sWay_S y17 2 4) fun y19 => Option.bind (lexample_S) fun y21 => Option.bind (sShare_S y21 1 4) fun y23 => Option.bind (lexample_S) fun y25 => Option.bind (sOn_S y25 1 160) fun y27 => bif (y3.2 == 0) then (bif (y7.2 == 0) then (bif (y11.2 == 0) then (bif (y15.2 == 0) then (bif (y19.2 == 0) then (bif (y23.2 == 0) then (bif (y27.2 == 0) then (Option.bind (slEqual_S y3.1 ([2, 3, 4] : List Int)) fun y36 => bif y36 then (Option.bind (slEqual_S y7.1 ([1, 2, 3] : List Int)) fun y39 => bif y39 then (Option.bind (slEqual_S y11.1 ([3] : List Int)) fun y42 => bif y42 then (Option.bind (qSame_S y15.1 ([([1, 2] : List Int), ([3, 4] : List Int)] : List (List Int))) fun y45 => bif y45 then (Option.bind (slEqual_S y19.1 ([2, 4] : List Int)) fun y48 => bif y48 then (bif (y23.1 == 0) then (Option.bind (slEqual_S y27.1 ([3] : List Int)) fun y52 => some (y52)) else some (false)) else some (false)) else some (false)) else some (false)) else some (false)) else some (false)) else some (false)) else some (false)) else some (false)) else some (false)) else some (false)) else some (false)) else some (false)
set_option linter.unusedVariables false in
theorem lawake_Fh {r : Bool} (hF : lawake_F  = some r) : Holds Tryz.prog Gw 6 [] (lawake_E r) := by
  refine holds_of_wq tabOk mixed Tryz.func6 (by decide) rfl (Nat.le_of_ble_eq_true rfl) ?_
  refine obind hF fun y1 h2 hF => ?_
  refine Or.inl ⟨_, lexample_h h2, rfl, ?_⟩
  refine obind hF fun y3 h4 hF => ?_
  refine Or.inl ⟨_, sForward_h h4, rfl, ?_⟩
  refine obind hF fun y5 h6 hF => ?_
  refine Or.inl ⟨_, lexample_h h6, rfl, ?_⟩
  refine obind hF fun y7 h8 hF => ?_
  refine Or.inl ⟨_, sBack_h h8, rfl, ?_⟩
  refine obind hF fun y9 h10 hF => ?_
  refine Or.inl ⟨_, lexample_h h10, rfl, ?_⟩
  refine obind hF fun y11 h12 hF => ?_
  refine Or.inl ⟨_, sMeet_h h12, rfl, ?_⟩
  refine obind hF fun y13 h14 hF => ?_
  refine Or.inl ⟨_, lexample_h h14, rfl, ?_⟩
  refine obind hF fun y15 h16 hF => ?_
  refine Or.inl ⟨_, sGenerations_h h16, rfl, ?_⟩
  refine obind hF fun y17 h18 hF => ?_
  refine Or.inl ⟨_, lexample_h h18, rfl, ?_⟩
  refine obind hF fun y19 h20 hF => ?_
  refine Or.inl ⟨_, sWay_h h20, rfl, ?_⟩
  refine obind hF fun y21 h22 hF => ?_
  refine Or.inl ⟨_, lexample_h h22, rfl, ?_⟩
  refine obind hF fun y23 h24 hF => ?_
  refine Or.inl ⟨_, sShare_h h24, rfl, ?_⟩
  refine obind hF fun y25 h26 hF => ?_
  refine Or.inl ⟨_, lexample_h h26, rfl, ?_⟩
  refine obind hF fun y27 h28 hF => ?_
  refine Or.inl ⟨_, sOn_h h28, rfl, ?_⟩
  refine And.intro (fun h29 => ?_) (fun h29 => ?_)
  · have hF := cpos h29 hF
    refine And.intro (fun h30 => ?_) (fun h30 => ?_)
    · have hF := cpos h30 hF
      refine And.intro (fun h31 => ?_) (fun h31 => ?_)
      · have hF := cpos h31 hF
        refine And.intro (fun h32 => ?_) (fun h32 => ?_)
        · have hF := cpos h32 hF
          refine And.intro (fun h33 => ?_) (fun h33 => ?_)
          · have hF := cpos h33 hF
            refine And.intro (fun h34 => ?_) (fun h34 => ?_)
            · have hF := cpos h34 hF
              refine And.intro (fun h35 => ?_) (fun h35 => ?_)
              · have hF := cpos h35 hF
                refine Or.inl ?_
                refine obind hF fun y36 h37 hF => ?_
                refine Or.inl ⟨_, slEqual_h h37, rfl, ?_⟩
                refine And.intro (fun h38 => ?_) (fun h38 => ?_)
                · have hF := cpos h38 hF
                  refine Or.inl ?_
                  refine obind hF fun y39 h40 hF => ?_
                  refine Or.inl ⟨_, slEqual_h h40, rfl, ?_⟩
                  refine And.intro (fun h41 => ?_) (fun h41 => ?_)
                  · have hF := cpos h41 hF
                    refine Or.inl ?_
                    refine obind hF fun y42 h43 hF => ?_
                    refine Or.inl ⟨_, slEqual_h h43, rfl, ?_⟩
                    refine And.intro (fun h44 => ?_) (fun h44 => ?_)
                    · have hF := cpos h44 hF
                      refine Or.inl ?_
                      refine Or.inl ?_
                      refine Or.inl ?_
                      refine obind hF fun y45 h46 hF => ?_
                      refine Or.inl ⟨_, qSame_h h46, rfl, ?_⟩
                      refine And.intro (fun h47 => ?_) (fun h47 => ?_)
                      · have hF := cpos h47 hF
                        refine Or.inl ?_
                        refine obind hF fun y48 h49 hF => ?_
                        refine Or.inl ⟨_, slEqual_h h49, rfl, ?_⟩
                        refine And.intro (fun h50 => ?_) (fun h50 => ?_)
                        · have hF := cpos h50 hF
                          refine And.intro (fun h51 => ?_) (fun h51 => ?_)
                          · have hF := cpos h51 hF
                            refine Or.inl ?_
                            refine obind hF fun y52 h53 hF => ?_
                            refine Or.inl ⟨_, slEqual_h h53, rfl, ?_⟩
                            exact Or.inl ⟨rfl, congrArg (Option.map lawake_E) hF⟩
                          · have hF := cneg h51 hF
                            exact Or.inl ⟨rfl, congrArg (Option.map lawake_E) hF⟩
                        · have hF := cneg h50 hF
                          exact Or.inl ⟨rfl, congrArg (Option.map lawake_E) hF⟩
                      · have hF := cneg h47 hF
                        exact Or.inl ⟨rfl, congrArg (Option.map lawake_E) hF⟩
                    · have hF := cneg h44 hF
                      exact Or.inl ⟨rfl, congrArg (Option.map lawake_E) hF⟩
                  · have hF := cneg h41 hF
                    exact Or.inl ⟨rfl, congrArg (Option.map lawake_E) hF⟩
                · have hF := cneg h38 hF
                  exact Or.inl ⟨rfl, congrArg (Option.map lawake_E) hF⟩
              · have hF := cneg h35 hF
                exact Or.inl ⟨rfl, congrArg (Option.map lawake_E) hF⟩
            · have hF := cneg h34 hF
              exact Or.inl ⟨rfl, congrArg (Option.map lawake_E) hF⟩
          · have hF := cneg h33 hF
            exact Or.inl ⟨rfl, congrArg (Option.map lawake_E) hF⟩
        · have hF := cneg h32 hF
          exact Or.inl ⟨rfl, congrArg (Option.map lawake_E) hF⟩
      · have hF := cneg h31 hF
        exact Or.inl ⟨rfl, congrArg (Option.map lawake_E) hF⟩
    · have hF := cneg h30 hF
      exact Or.inl ⟨rfl, congrArg (Option.map lawake_E) hF⟩
  · have hF := cneg h29 hF
    exact Or.inl ⟨rfl, congrArg (Option.map lawake_E) hF⟩
abbrev lawake_S : Option (Bool) := lawake_F 
theorem lawake_h {r : Bool} (h : lawake_S = some r) : Holds Tryz.prog Gw 6 [] (lawake_E r) := lawake_Fh  h
end Go.Proofs.YtdoldlbcjcfmdaaGreat
