/- Functions of the program as functions of Lean, each with its contract (printed by a program). -/
import Derived.Test.YtgpojnenbmlcbaaDoorGD
namespace Go.Proofs.YtgpojnenbmlcbaaDoor
open Go Go.Abs
set_option maxRecDepth 10000
set_option maxHeartbeats 400000
abbrev rSame_E (y : Bool) : CV := B y
def rSame_L3 (i2 : Int) (x4 : Aut) (x6 : Aut) (k_1 : Int → Option (Bool)) : Nat → Int → Option (Bool)
  | 0, _ => none
  | fu3 + 1, k20 => bif decide (k20 < ((x4.Next.map cInt).length : Int)) then (Option.bind (ix x4.Next k20) fun x22 => Option.bind (ix x6.Next k20) fun x24 => bif (x22 != x24) then some (false) else rSame_L3 i2 x4 x6 k_1 fu3 (IntKind.i64.wrap (k20 + 1))) else k_1 (IntKind.i64.wrap (i2 + 1))
def rSame_L2 (i2 : Int) (x4 : Aut) (x6 : Aut) (k_1 : Int → Option (Bool)) (N : Nat) : Nat → Int → Option (Bool)
  | 0, _ => none
  | fu2 + 1, k13 => bif decide (k13 < ((x4.Names.map cNam).length : Int)) then (Option.bind (ix x4.Names k13) fun x15 => Option.bind (ix x6.Names k13) fun x17 => bif (!(x15 == x17)) then some (false) else rSame_L2 i2 x4 x6 k_1 N fu2 (IntKind.i64.wrap (k13 + 1))) else rSame_L3 i2 x4 x6 (fun q_i2 => k_1 q_i2) N 0
def rSame_L1 (a : List Aut) (b : List Aut) (N : Nat) : Nat → Int → Option (Bool)
  | 0, _ => none
  | fu1 + 1, i2 => bif decide (i2 < ((a.map cAut).length : Int)) then (Option.bind (ix a i2) fun x4 => Option.bind (ix b i2) fun x6 => bif (x4.ID != x6.ID) then some (false) else (bif (x4.Kind != x6.Kind) then some (false) else (bif (!(x4.In == x6.In)) then some (false) else (bif (((x4.Names.map cNam).length : Int) != ((x6.Names.map cNam).length : Int)) then some (false) else (bif (((x4.Next.map cInt).length : Int) != ((x6.Next.map cInt).length : Int)) then some (false) else rSame_L2 i2 x4 x6 (fun q_i2 => rSame_L1 a b N fu1 q_i2) N N 0))))) else some (true)
def rSame_F (N : Nat) (a : List Aut) (b : List Aut) : Option (Bool) := bif (((a.map cAut).length : Int) != ((b.map cAut).length : Int)) then some (false) else rSame_L1 a b N N 0
set_option linter.unusedVariables false in
theorem rSame_Fh {N : Nat} {a : List Aut} {b : List Aut} {r : Bool} (hF : rSame_F N a b = some r) : Holds Tryd.prog Gw 18 [.sl 6 (a.map cAut), .sl 6 (b.map cAut)] (rSame_E r) := by
  refine holds_of_wq tabOk mixed Tryd.func18 (by decide) rfl (Nat.le_of_ble_eq_true rfl) ?_
  refine And.intro (fun h1 => ?_) (fun h1 => ?_)
  · have hF := cpos h1 hF
    exact Or.inl ⟨rfl, congrArg (Option.map rSame_E) hF⟩
  · have hF := cneg h1 hF
    refine loop_oq (fun p : Nat × Int => [(0, .c (.sl 6 (a.map cAut))), (1, .c (.sl 6 (b.map cAut))), (5, .c (I p.2))]) (fun _ => []) (fun p => rSame_L1 a b N p.1 p.2 = some r) (fun p => p.1) (N, 0) hF ⟨rfl, rfl, rfl, trivial⟩ trivial ?_
    rintro ⟨fu1, i2⟩ hF
    cases fu1 with
    | zero => exact nomatch hF
    | succ fu1 =>
      refine And.intro (fun h3 => ?_) (fun h3 => ?_)
      · have hF := cpos h3 hF
        refine join_no ?_
        refine obind hF fun x4 h5 hF => ?_
        refine ⟨ix_nn h5, .inl rfl, _, ix_map cAut h5, ?_⟩
        refine obind hF fun x6 h7 hF => ?_
        refine ⟨ix_nn h7, .inl rfl, _, ix_map cAut h7, ?_⟩
        refine Or.inl ?_
        refine Or.inl ?_
        refine And.intro (by kernel_rfl) ?_
        refine And.intro (fun h8 => ?_) (fun h8 => ?_)
        · have hF := cpos h8 hF
          exact Or.inl ⟨rfl, congrArg (Option.map rSame_E) hF⟩
        · have hF := cneg h8 hF
          refine And.intro (fun h9 => ?_) (fun h9 => ?_)
          · have hF := cpos h9 hF
            exact Or.inl ⟨rfl, congrArg (Option.map rSame_E) hF⟩
          · have hF := cneg h9 hF
            refine Or.inr ⟨[], 0, _, _, _, _, rfl, rfl, sne_Span x4.In x6.In, rfl, ?_⟩
            refine And.intro (fun h10 => ?_) (fun h10 => ?_)
            · have hF := cpos h10 hF
              exact Or.inl ⟨rfl, congrArg (Option.map rSame_E) hF⟩
            · have hF := cneg h10 hF
              refine And.intro (fun h11 => ?_) (fun h11 => ?_)
              · have hF := cpos h11 hF
                exact Or.inl ⟨rfl, congrArg (Option.map rSame_E) hF⟩
              · have hF := cneg h11 hF
                refine And.intro (fun h12 => ?_) (fun h12 => ?_)
                · have hF := cpos h12 hF
                  exact Or.inl ⟨rfl, congrArg (Option.map rSame_E) hF⟩
                · have hF := cneg h12 hF
                  refine loop_oq (fun p : Nat × Int => [(0, .c (.sl 6 (a.map cAut))), (1, .c (.sl 6 (b.map cAut))), (5, .c (I i2)), (6, .pm 6 0 0), (7, .pm 7 0 0), (8, .c (I p.2)), (35, .pm 6 0 1), (36, .c (I x4.Kind)), (37, .pm 7 0 1), (38, .c (I x6.Kind)), (39, .c (B (x4.Kind != x6.Kind))), (42, .pm 6 0 2), (43, .c (.agg [I x4.In.From, I x4.In.Until])), (44, .pm 7 0 2), (45, .c (.agg [I x6.In.From, I x6.In.Until])), (46, .c (B (!(x4.In == x6.In)))), (49, .pm 6 0 4), (50, .c (.sl 3 (x4.Names.map cNam))), (51, .c (I ((x4.Names.map cNam).length : Int))), (52, .pm 7 0 4), (53, .c (.sl 3 (x6.Names.map cNam))), (54, .c (I ((x6.Names.map cNam).length : Int))), (55, .c (B (((x4.Names.map cNam).length : Int) != ((x6.Names.map cNam).length : Int)))), (58, .pm 6 0 5), (59, .c (.sl 1 (x4.Next.map cInt))), (60, .c (I ((x4.Next.map cInt).length : Int))), (61, .pm 7 0 5), (62, .c (.sl 1 (x6.Next.map cInt))), (63, .c (I ((x6.Next.map cInt).length : Int))), (64, .c (B (((x4.Next.map cInt).length : Int) != ((x6.Next.map cInt).length : Int))))]) (fun p : Nat × Int => [(6, .var [I x4.ID, I x4.Kind, I x4.In.From, I x4.In.Until, .sl 3 (x4.Names.map cNam), .sl 1 (x4.Next.map cInt)]), (7, .var [I x6.ID, I x6.Kind, I x6.In.From, I x6.In.Until, .sl 3 (x6.Names.map cNam), .sl 1 (x6.Next.map cInt)])]) (fun p => rSame_L2 i2 x4 x6 (fun q_i2 => rSame_L1 a b N fu1 q_i2) N p.1 p.2 = some r) (fun p => p.1) (N, 0) hF ⟨rfl, rfl, rfl, rfl, rfl, rfl, rfl, rfl, rfl, rfl, rfl, rfl, rfl, rfl, rfl, rfl, rfl, rfl, rfl, rfl, rfl, rfl, rfl, rfl, rfl, rfl, rfl, rfl, rfl, rfl, trivial⟩ ⟨rfl, rfl, trivial⟩ ?_
                  rintro ⟨fu2, k13⟩ hF
                  cases fu2 with
                  | zero => exact nomatch hF
                  | succ fu2 =>
                    refine And.intro (fun h14 => ?_) (fun h14 => ?_)
                    · have hF := cpos h14 hF
                      refine join_no ?_
                      refine obind hF fun x15 h16 hF => ?_
                      refine ⟨ix_nn h16, .inl rfl, _, ix_map cNam h16, ?_⟩
                      refine obind hF fun x17 h18 hF => ?_
                      refine ⟨ix_nn h18, .inl rfl, _, ix_map cNam h18, ?_⟩
                      refine Or.inr ⟨[], 0, _, _, _, _, rfl, rfl, sne_Nam x15 x17, rfl, ?_⟩
                      refine And.intro (by kernel_rfl) ?_
                      refine And.intro (fun h19 => ?_) (fun h19 => ?_)
                      · have hF := cpos h19 hF
                        exact Or.inl ⟨rfl, congrArg (Option.map rSame_E) hF⟩
                      · have hF := cneg h19 hF
                        exact ⟨(fu2, (IntKind.i64.wrap (k13 + 1))), Nat.lt_succ_self _, hF, ⟨rfl, rfl, rfl, rfl, rfl, rfl, rfl, rfl, rfl, rfl, rfl, rfl, rfl, rfl, rfl, rfl, rfl, rfl, rfl, rfl, rfl, rfl, rfl, rfl, rfl, rfl, rfl, rfl, rfl, rfl, trivial⟩, ⟨rfl, rfl, trivial⟩⟩
                    · have hF := cneg h14 hF
                      refine loop_oq (fun p : Nat × Int => [(0, .c (.sl 6 (a.map cAut))), (1, .c (.sl 6 (b.map cAut))), (5, .c (I i2)), (6, .pm 6 0 0), (7, .pm 7 0 0), (9, .c (I p.2)), (35, .pm 6 0 1), (36, .c (I x4.Kind)), (37, .pm 7 0 1), (38, .c (I x6.Kind)), (39, .c (B (x4.Kind != x6.Kind))), (42, .pm 6 0 2), (43, .c (.agg [I x4.In.From, I x4.In.Until])), (44, .pm 7 0 2), (45, .c (.agg [I x6.In.From, I x6.In.Until])), (46, .c (B (!(x4.In == x6.In)))), (49, .pm 6 0 4), (50, .c (.sl 3 (x4.Names.map cNam))), (51, .c (I ((x4.Names.map cNam).length : Int))), (52, .pm 7 0 4), (53, .c (.sl 3 (x6.Names.map cNam))), (54, .c (I ((x6.Names.map cNam).length : Int))), (55, .c (B (((x4.Names.map cNam).length : Int) != ((x6.Names.map cNam).length : Int)))), (58, .pm 6 0 5), (59, .c (.sl 1 (x4.Next.map cInt))), (60, .c (I ((x4.Next.map cInt).length : Int))), (61, .pm 7 0 5), (62, .c (.sl 1 (x6.Next.map cInt))), (63, .c (I ((x6.Next.map cInt).length : Int))), (64, .c (B (((x4.Next.map cInt).length : Int) != ((x6.Next.map cInt).length : Int))))]) (fun p : Nat × Int => [(6, .var [I x4.ID, I x4.Kind, I x4.In.From, I x4.In.Until, .sl 3 (x4.Names.map cNam), .sl 1 (x4.Next.map cInt)]), (7, .var [I x6.ID, I x6.Kind, I x6.In.From, I x6.In.Until, .sl 3 (x6.Names.map cNam), .sl 1 (x6.Next.map cInt)])]) (fun p => rSame_L3 i2 x4 x6 (fun q_i2 => rSame_L1 a b N fu1 q_i2) p.1 p.2 = some r) (fun p => p.1) (N, 0) hF ⟨rfl, rfl, rfl, rfl, rfl, rfl, rfl, rfl, rfl, rfl, rfl, rfl, rfl, rfl, rfl, rfl, rfl, rfl, rfl, rfl, rfl, rfl, rfl, rfl, rfl, rfl, rfl, rfl, rfl, rfl, trivial⟩ ⟨rfl, rfl, trivial⟩ ?_
                      rintro ⟨fu3, k20⟩ hF
                      cases fu3 with
                      | zero => exact nomatch hF
                      | succ fu3 =>
                        refine And.intro (fun h21 => ?_) (fun h21 => ?_)
                        · have hF := cpos h21 hF
                          refine join_no ?_
                          refine obind hF fun x22 h23 hF => ?_
                          refine ⟨ix_nn h23, .inl rfl, _, ix_map cInt h23, ?_⟩
                          refine obind hF fun x24 h25 hF => ?_
                          refine ⟨ix_nn h25, .inl rfl, _, ix_map cInt h25, ?_⟩
                          refine And.intro (by kernel_rfl) ?_
                          refine And.intro (fun h26 => ?_) (fun h26 => ?_)
                          · have hF := cpos h26 hF
                            exact Or.inl ⟨rfl, congrArg (Option.map rSame_E) hF⟩
                          · have hF := cneg h26 hF
                            exact ⟨(fu3, (IntKind.i64.wrap (k20 + 1))), Nat.lt_succ_self _, hF, ⟨rfl, rfl, rfl, rfl, rfl, rfl, rfl, rfl, rfl, rfl, rfl, rfl, rfl, rfl, rfl, rfl, rfl, rfl, rfl, rfl, rfl, rfl, rfl, rfl, rfl, rfl, rfl, rfl, rfl, rfl, trivial⟩, ⟨rfl, rfl, trivial⟩⟩
                        · have hF := cneg h21 hF
                          exact ⟨(fu1, (IntKind.i64.wrap (i2 + 1))), Nat.lt_succ_self _, hF, ⟨rfl, rfl, rfl, trivial⟩, trivial⟩
      · have hF := cneg h3 hF
        exact Or.inl ⟨rfl, congrArg (Option.map rSame_E) hF⟩
abbrev rSame_S (a : List Aut) (b : List Aut) : Option (Bool) := rSame_F 1000 a b
theorem rSame_h {a : List Aut} {b : List Aut} {r : Bool} (h : rSame_S a b = some r) : Holds Tryd.prog Gw 18 [.sl 6 (a.map cAut), .sl 6 (b.map cAut)] (rSame_E r) := rSame_Fh  h
abbrev rDecimal_E (y : Str) : CV := S y
def rDecimal_F : Nat → Int → Option (Str)
  | 0, _ => none
  | N + 1, n => bif decide (n < 10) then some ((b2s ([(IntKind.u8.wrap (IntKind.i64.wrap (48 + n)))] : List Int))) else (Option.bind ((rDecimal_F N) (IntKind.i64.wrap (Int.tdiv n 10))) fun y2 => Option.bind ((rDecimal_F N) (Int.tmod n 10)) fun y4 => bif decide (y2.length + y4.length ≤ 9223372036854775807) then some ((y2 ++ y4)) else none)
set_option linter.unusedVariables false in
theorem rDecimal_Fh : ∀ (N : Nat) (n : Int) (r : Str), rDecimal_F N n = some r → Holds Tryd.prog Gw 79 [I n] (rDecimal_E r) := by
  intro N
  induction N with
  | zero => intro n r hF; exact nomatch hF
  | succ N ih =>
    intro n r hF
    refine holds_of_wq tabOk mixed Tryd.func79 (by decide) rfl (Nat.le_of_ble_eq_true rfl) ?_
    refine And.intro (fun h1 => ?_) (fun h1 => ?_)
    · have hF := cpos h1 hF
      refine Or.inl ?_
      refine Or.inr ⟨[], 0, _, _, _, _, rfl, rfl, eff_b2s (l := ([(IntKind.u8.wrap (IntKind.i64.wrap (48 + n)))] : List Int)) tok81.u tok5.u tok9.u, rfl, ?_⟩
      exact Or.inl ⟨rfl, congrArg (Option.map rDecimal_E) hF⟩
    · have hF := cneg h1 hF
      refine ⟨rfl, by decide, ?_⟩
      refine obind hF fun y2 h3 hF => ?_
      refine Or.inl ⟨_, ih _ _ h3, rfl, ?_⟩
      refine ⟨rfl, by decide, ?_⟩
      refine obind hF fun y4 h5 hF => ?_
      refine Or.inl ⟨_, ih _ _ h5, rfl, ?_⟩
      refine gpos hF fun h6 hF => ?_
      refine ⟨of_decide_eq_true h6, _, scat _ _, ?_⟩
      exact Or.inl ⟨rfl, congrArg (Option.map rDecimal_E) hF⟩
abbrev rDecimal_S (n : Int) : Option (Str) := rDecimal_F 30 n
theorem rDecimal_h {n : Int} {r : Str} (h : rDecimal_S n = some r) : Holds Tryd.prog Gw 79 [I n] (rDecimal_E r) := rDecimal_Fh _ _ _ h
abbrev rsigned_E (y : Str) : CV := S y
def rsigned_L1 : Nat → Int → List Int → Option (Str)
  | 0, _, _ => none
  | fu1 + 1, n2, s3 => bif (n2 != 0) then (bif decide (([(IntKind.u8.wrap (IntKind.i64.wrap (48 - (Int.tmod n2 10))))] : List Int).length + s3.length ≤ 4294967296) then rsigned_L1 fu1 (IntKind.i64.wrap (Int.tdiv n2 10)) (([(IntKind.u8.wrap (IntKind.i64.wrap (48 - (Int.tmod n2 10))))] : List Int) ++ s3) else none) else (bif decide (([45] : Str).length + (b2s s3).length ≤ 9223372036854775807) then some ((([45] : Str) ++ (b2s s3))) else none)
def rsigned_F (N : Nat) (n : Int) : Option (Str) := bif decide (n < 0) then rsigned_L1 N n ([] : List Int) else (Option.bind (rDecimal_S n) fun y9 => some (y9))
set_option linter.unusedVariables false in
theorem rsigned_Fh {N : Nat} {n : Int} {r : Str} (hF : rsigned_F N n = some r) : Holds Tryd.prog Gw 45 [I n] (rsigned_E r) := by
  refine holds_of_wq tabOk mixed Tryd.func45 (by decide) rfl (Nat.le_of_ble_eq_true rfl) ?_
  refine And.intro (fun h1 => ?_) (fun h1 => ?_)
  · have hF := cpos h1 hF
    refine Or.inl ?_
    refine join_no ?_
    refine loop_oq (fun p : Nat × Int × List Int => [(0, .c (I p.2.1)), (3, .ap 3 0 1 (p.2.2.map cInt_u8))]) (fun p : Nat × Int × List Int => [(3, .tok 5 1)]) (fun p => rsigned_L1 p.1 p.2.1 p.2.2 = some r) (fun p => p.1) (N, n, ([] : List Int)) hF ⟨rfl, rfl, trivial⟩ ⟨rfl, trivial⟩ ?_
    rintro ⟨fu1, n2, s3⟩ hF
    cases fu1 with
    | zero => exact nomatch hF
    | succ fu1 =>
      refine And.intro (fun h4 => ?_) (fun h4 => ?_)
      · have hF := cpos h4 hF
        refine ⟨rfl, by decide, ?_⟩
        refine Or.inl ?_
        refine gpos hF fun h6 hF => ?_
        refine Or.inl ⟨len_map (fun _ => rfl), app_le h6, (([(IntKind.u8.wrap (IntKind.i64.wrap (48 - (Int.tmod n2 10))))] : List Int) ++ s3).map cInt_u8, map_app _ _ _, ?_⟩
        refine ⟨rfl, by decide, ?_⟩
        exact ⟨(fu1, (IntKind.i64.wrap (Int.tdiv n2 10)), (([(IntKind.u8.wrap (IntKind.i64.wrap (48 - (Int.tmod n2 10))))] : List Int) ++ s3)), Nat.lt_succ_self _, hF, ⟨rfl, rfl, trivial⟩, ⟨rfl, trivial⟩⟩
      · have hF := cneg h4 hF
        refine Or.inr ⟨[], 0, _, _, _, _, rfl, rfl, eff_b2s (l := s3) tok81.u tok5.u tok9.u, rfl, ?_⟩
        refine gpos hF fun h8 hF => ?_
        refine ⟨of_decide_eq_true h8, _, scat _ _, ?_⟩
        exact Or.inl ⟨rfl, congrArg (Option.map rsigned_E) hF⟩
  · have hF := cneg h1 hF
    refine obind hF fun y9 h10 hF => ?_
    refine Or.inl ⟨_, rDecimal_h h10, rfl, ?_⟩
    exact Or.inl ⟨rfl, congrArg (Option.map rsigned_E) hF⟩
abbrev rsigned_S (n : Int) : Option (Str) := rsigned_F 30 n
theorem rsigned_h {n : Int} {r : Str} (h : rsigned_S n = some r) : Holds Tryd.prog Gw 45 [I n] (rsigned_E r) := rsigned_Fh  h
abbrev rText_E (y : Str) : CV := S y
def rText_L1 (a : Aut) : Nat → Str → Int → Option (Str)
  | 0, _, _ => none
  | fu1 + 1, out1, i2 => bif decide (i2 < ((a.Names.map cNam).length : Int)) then (bif decide (i2 > 0) then (bif decide (out1.length + ([59, 32] : Str).length ≤ 9223372036854775807) then Option.bind (ix a.Names i2) fun x6 => bif decide (x6.Text.length + ([32] : Str).length ≤ 9223372036854775807) then Option.bind (ix a.Names i2) fun x9 => Option.bind (rsigned_S x9.In.From) fun y11 => bif decide ((x6.Text ++ ([32] : Str)).length + y11.length ≤ 9223372036854775807) then bif decide (((x6.Text ++ ([32] : Str)) ++ y11).length + ([45] : Str).length ≤ 9223372036854775807) then bif decide ((out1 ++ ([59, 32] : Str)).length + (((x6.Text ++ ([32] : Str)) ++ y11) ++ ([45] : Str)).length ≤ 9223372036854775807) then Option.bind (ix a.Names i2) fun x16 => bif decide (x16.In.Until < 1048576) then (Option.bind (ix a.Names i2) fun x19 => Option.bind (rsigned_S x19.In.Until) fun y21 => bif decide (((out1 ++ ([59, 32] : Str)) ++ (((x6.Text ++ ([32] : Str)) ++ y11) ++ ([45] : Str))).length + y21.length ≤ 9223372036854775807) then rText_L1 a fu1 (((out1 ++ ([59, 32] : Str)) ++ (((x6.Text ++ ([32] : Str)) ++ y11) ++ ([45] : Str))) ++ y21) (IntKind.i64.wrap (i2 + 1)) else none) else rText_L1 a fu1 ((out1 ++ ([59, 32] : Str)) ++ (((x6.Text ++ ([32] : Str)) ++ y11) ++ ([45] : Str))) (IntKind.i64.wrap (i2 + 1)) else none else none else none else none else none) else (Option.bind (ix a.Names i2) fun x24 => bif decide (x24.Text.length + ([32] : Str).length ≤ 9223372036854775807) then Option.bind (ix a.Names i2) fun x27 => Option.bind (rsigned_S x27.In.From) fun y29 => bif decide ((x24.Text ++ ([32] : Str)).length + y29.length ≤ 9223372036854775807) then bif decide (((x24.Text ++ ([32] : Str)) ++ y29).length + ([45] : Str).length ≤ 9223372036854775807) then bif decide (out1.length + (((x24.Text ++ ([32] : Str)) ++ y29) ++ ([45] : Str)).length ≤ 9223372036854775807) then Option.bind (ix a.Names i2) fun x34 => bif decide (x34.In.Until < 1048576) then (Option.bind (ix a.Names i2) fun x37 => Option.bind (rsigned_S x37.In.Until) fun y39 => bif decide ((out1 ++ (((x24.Text ++ ([32] : Str)) ++ y29) ++ ([45] : Str))).length + y39.length ≤ 9223372036854775807) then rText_L1 a fu1 ((out1 ++ (((x24.Text ++ ([32] : Str)) ++ y29) ++ ([45] : Str))) ++ y39) (IntKind.i64.wrap (i2 + 1)) else none) else rText_L1 a fu1 (out1 ++ (((x24.Text ++ ([32] : Str)) ++ y29) ++ ([45] : Str))) (IntKind.i64.wrap (i2 + 1)) else none else none else none else none)) else some (out1)
def rText_F (N : Nat) (a : Aut) : Option (Str) := rText_L1 a N ([] : Str) 0
set_option linter.unusedVariables false in
theorem rText_Fh {N : Nat} {a : Aut} {r : Str} (hF : rText_F N a = some r) : Holds Tryd.prog Gw 20 [.agg (cAut a)] (rText_E r) := by
  refine holds_of_wq tabOk mixed Tryd.func20 (by decide) rfl (Nat.le_of_ble_eq_true rfl) ?_
  refine Or.inl ?_
  refine loop_oq (fun p : Nat × Str × Int => [(1, .pm 1 0 0), (3, .c (S p.2.1)), (4, .c (I p.2.2))]) (fun p : Nat × Str × Int => [(1, .var [I a.ID, I a.Kind, I a.In.From, I a.In.Until, .sl 3 (a.Names.map cNam), .sl 1 (a.Next.map cInt)])]) (fun p => rText_L1 a p.1 p.2.1 p.2.2 = some r) (fun p => p.1) (N, ([] : Str), 0) hF ⟨rfl, rfl, rfl, trivial⟩ ⟨rfl, trivial⟩ ?_
  rintro ⟨fu1, out1, i2⟩ hF
  cases fu1 with
  | zero => exact nomatch hF
  | succ fu1 =>
    refine And.intro (fun h3 => ?_) (fun h3 => ?_)
    · have hF := cpos h3 hF
      refine join_no ?_
      refine And.intro (fun h4 => ?_) (fun h4 => ?_)
      · have hF := cpos h4 hF
        refine gpos hF fun h5 hF => ?_
        refine ⟨of_decide_eq_true h5, _, scat _ _, ?_⟩
        refine obind hF fun x6 h7 hF => ?_
        refine ⟨ix_nn h7, .inl rfl, _, ix_map cNam h7, ?_⟩
        refine gpos hF fun h8 hF => ?_
        refine ⟨of_decide_eq_true h8, _, scat _ _, ?_⟩
        refine obind hF fun x9 h10 hF => ?_
        refine ⟨ix_nn h10, .inl rfl, _, ix_map cNam h10, ?_⟩
        refine obind hF fun y11 h12 hF => ?_
        refine Or.inl ⟨_, rsigned_h h12, rfl, ?_⟩
        refine gpos hF fun h13 hF => ?_
        refine ⟨of_decide_eq_true h13, _, scat _ _, ?_⟩
        refine gpos hF fun h14 hF => ?_
        refine ⟨of_decide_eq_true h14, _, scat _ _, ?_⟩
        refine gpos hF fun h15 hF => ?_
        refine ⟨of_decide_eq_true h15, _, scat _ _, ?_⟩
        refine And.intro (by kernel_rfl) ?_
        refine obind hF fun x16 h17 hF => ?_
        refine ⟨ix_nn h17, .inl rfl, _, ix_map cNam h17, ?_⟩
        refine And.intro (fun h18 => ?_) (fun h18 => ?_)
        · have hF := cpos h18 hF
          refine obind hF fun x19 h20 hF => ?_
          refine ⟨ix_nn h20, .inl rfl, _, ix_map cNam h20, ?_⟩
          refine obind hF fun y21 h22 hF => ?_
          refine Or.inl ⟨_, rsigned_h h22, rfl, ?_⟩
          refine gpos hF fun h23 hF => ?_
          refine ⟨of_decide_eq_true h23, _, scat _ _, ?_⟩
          exact ⟨(fu1, (((out1 ++ ([59, 32] : Str)) ++ (((x6.Text ++ ([32] : Str)) ++ y11) ++ ([45] : Str))) ++ y21), (IntKind.i64.wrap (i2 + 1))), Nat.lt_succ_self _, hF, ⟨rfl, rfl, rfl, trivial⟩, ⟨rfl, trivial⟩⟩
        · have hF := cneg h18 hF
          exact ⟨(fu1, ((out1 ++ ([59, 32] : Str)) ++ (((x6.Text ++ ([32] : Str)) ++ y11) ++ ([45] : Str))), (IntKind.i64.wrap (i2 + 1))), Nat.lt_succ_self _, hF, ⟨rfl, rfl, rfl, trivial⟩, ⟨rfl, trivial⟩⟩
      · have hF := cneg h4 hF
        refine obind hF fun x24 h25 hF => ?_
        refine ⟨ix_nn h25, .inl rfl, _, ix_map cNam h25, ?_⟩
        refine gpos hF fun h26 hF => ?_
        refine ⟨of_decide_eq_true h26, _, scat _ _, ?_⟩
        refine obind hF fun x27 h28 hF => ?_
        refine ⟨ix_nn h28, .inl rfl, _, ix_map cNam h28, ?_⟩
        refine obind hF fun y29 h30 hF => ?_
        refine Or.inl ⟨_, rsigned_h h30, rfl, ?_⟩
        refine gpos hF fun h31 hF => ?_
        refine ⟨of_decide_eq_true h31, _, scat _ _, ?_⟩
        refine gpos hF fun h32 hF => ?_
        refine ⟨of_decide_eq_true h32, _, scat _ _, ?_⟩
        refine gpos hF fun h33 hF => ?_
        refine ⟨of_decide_eq_true h33, _, scat _ _, ?_⟩
        refine And.intro (by kernel_rfl) ?_
        refine obind hF fun x34 h35 hF => ?_
        refine ⟨ix_nn h35, .inl rfl, _, ix_map cNam h35, ?_⟩
        refine And.intro (fun h36 => ?_) (fun h36 => ?_)
        · have hF := cpos h36 hF
          refine obind hF fun x37 h38 hF => ?_
          refine ⟨ix_nn h38, .inl rfl, _, ix_map cNam h38, ?_⟩
          refine obind hF fun y39 h40 hF => ?_
          refine Or.inl ⟨_, rsigned_h h40, rfl, ?_⟩
          refine gpos hF fun h41 hF => ?_
          refine ⟨of_decide_eq_true h41, _, scat _ _, ?_⟩
          exact ⟨(fu1, ((out1 ++ (((x24.Text ++ ([32] : Str)) ++ y29) ++ ([45] : Str))) ++ y39), (IntKind.i64.wrap (i2 + 1))), Nat.lt_succ_self _, hF, ⟨rfl, rfl, rfl, trivial⟩, ⟨rfl, trivial⟩⟩
        · have hF := cneg h36 hF
          exact ⟨(fu1, (out1 ++ (((x24.Text ++ ([32] : Str)) ++ y29) ++ ([45] : Str))), (IntKind.i64.wrap (i2 + 1))), Nat.lt_succ_self _, hF, ⟨rfl, rfl, rfl, trivial⟩, ⟨rfl, trivial⟩⟩
    · have hF := cneg h3 hF
      exact Or.inl ⟨rfl, congrArg (Option.map rText_E) hF⟩
abbrev rText_S (a : Aut) : Option (Str) := rText_F (a.Names.length + 1) a
theorem rText_h {a : Aut} {r : Str} (h : rText_S a = some r) : Holds Tryd.prog Gw 20 [.agg (cAut a)] (rText_E r) := rText_Fh  h
abbrev lAuthorityChecks_E (y : Bool) : CV := B y
def lAuthorityChecks_F (l : List Aut) (id : Int) (a : Aut) : Option (Bool) := Option.bind (lawake_S) fun y1 => bif (!y1) then (Option.bind (lawake_S) fun y4 => some (y4)) else (Option.bind (rFew_S l) fun y6 => bif (!y6) then (Option.bind (lawake_S) fun y9 => some (y9)) else (Option.bind (rFewOf_S a) fun y11 => bif (!y11) then (Option.bind (lawake_S) fun y14 => some (y14)) else (Option.bind (rCopy_S l) fun y16 => Option.bind (pCheck_S y16) fun y18 => Option.bind (rCheck_S l) fun y20 => Option.bind (rCopy_S l) fun y22 => Option.bind (pFind_S y22 id) fun y24 => Option.bind (rFind_S l id) fun y26 => bif (y18.1 == y20.1) then (bif (y18.2 == y20.2) then (bif (y24.2 == y26.2) then (Option.bind (rSame_S ([y24.1] : List Aut) ([y26.1] : List Aut)) fun y31 => bif y31 then (Option.bind (pText_S a) fun y34 => Option.bind (rText_S a) fun y36 => some ((y34 == y36))) else some (false)) else some (false)) else some (false)) else some (false))))
set_option linter.unusedVariables false in
theorem lAuthorityChecks_Fh {l : List Aut} {id : Int} {a : Aut} {r : Bool} (hF : lAuthorityChecks_F l id a = some r) : Holds Tryd.prog Gw 3 [.sl 6 (l.map cAut), I id, .agg (cAut a)] (lAuthorityChecks_E r) := by
  refine holds_of_wq tabOk mixed Tryd.func3 (by decide) rfl (Nat.le_of_ble_eq_true rfl) ?_
  refine Or.inl ?_
  refine obind hF fun y1 h2 hF => ?_
  refine Or.inl ⟨_, lawake_h h2, rfl, ?_⟩
  refine And.intro (fun h3 => ?_) (fun h3 => ?_)
  · have hF := cpos h3 hF
    refine obind hF fun y4 h5 hF => ?_
    refine Or.inl ⟨_, lawake_h h5, rfl, ?_⟩
    exact Or.inl ⟨rfl, congrArg (Option.map lAuthorityChecks_E) hF⟩
  · have hF := cneg h3 hF
    refine obind hF fun y6 h7 hF => ?_
    refine Or.inl ⟨_, rFew_h h7, rfl, ?_⟩
    refine And.intro (fun h8 => ?_) (fun h8 => ?_)
    · have hF := cpos h8 hF
      refine obind hF fun y9 h10 hF => ?_
      refine Or.inl ⟨_, lawake_h h10, rfl, ?_⟩
      exact Or.inl ⟨rfl, congrArg (Option.map lAuthorityChecks_E) hF⟩
    · have hF := cneg h8 hF
      refine obind hF fun y11 h12 hF => ?_
      refine Or.inl ⟨_, rFewOf_h h12, rfl, ?_⟩
      refine And.intro (fun h13 => ?_) (fun h13 => ?_)
      · have hF := cpos h13 hF
        refine obind hF fun y14 h15 hF => ?_
        refine Or.inl ⟨_, lawake_h h15, rfl, ?_⟩
        exact Or.inl ⟨rfl, congrArg (Option.map lAuthorityChecks_E) hF⟩
      · have hF := cneg h13 hF
        refine obind hF fun y16 h17 hF => ?_
        refine Or.inl ⟨_, rCopy_h h17, rfl, ?_⟩
        refine obind hF fun y18 h19 hF => ?_
        refine Or.inl ⟨_, pCheck_h h19, rfl, ?_⟩
        refine obind hF fun y20 h21 hF => ?_
        refine Or.inl ⟨_, rCheck_h h21, rfl, ?_⟩
        refine obind hF fun y22 h23 hF => ?_
        refine Or.inl ⟨_, rCopy_h h23, rfl, ?_⟩
        refine obind hF fun y24 h25 hF => ?_
        refine Or.inl ⟨_, pFind_h h25, rfl, ?_⟩
        refine Or.inl ?_
        refine obind hF fun y26 h27 hF => ?_
        refine Or.inl ⟨_, rFind_h h27, rfl, ?_⟩
        refine Or.inl ?_
        refine And.intro (fun h28 => ?_) (fun h28 => ?_)
        · have hF := cpos h28 hF
          refine And.intro (fun h29 => ?_) (fun h29 => ?_)
          · have hF := cpos h29 hF
            refine And.intro (fun h30 => ?_) (fun h30 => ?_)
            · have hF := cpos h30 hF
              refine Or.inl ?_
              refine Or.inl ?_
              refine obind hF fun y31 h32 hF => ?_
              refine Or.inl ⟨_, rSame_h h32, rfl, ?_⟩
              refine And.intro (fun h33 => ?_) (fun h33 => ?_)
              · have hF := cpos h33 hF
                refine obind hF fun y34 h35 hF => ?_
                refine Or.inl ⟨_, pText_h h35, rfl, ?_⟩
                refine obind hF fun y36 h37 hF => ?_
                refine Or.inl ⟨_, rText_h h37, rfl, ?_⟩
                refine And.intro (by kernel_rfl) ?_
                exact Or.inl ⟨rfl, congrArg (Option.map lAuthorityChecks_E) hF⟩
              · have hF := cneg h33 hF
                refine And.intro (by kernel_rfl) ?_
                exact Or.inl ⟨rfl, congrArg (Option.map lAuthorityChecks_E) hF⟩
            · have hF := cneg h30 hF
              refine And.intro (by kernel_rfl) ?_
              exact Or.inl ⟨rfl, congrArg (Option.map lAuthorityChecks_E) hF⟩
          · have hF := cneg h29 hF
            refine And.intro (by kernel_rfl) ?_
            exact Or.inl ⟨rfl, congrArg (Option.map lAuthorityChecks_E) hF⟩
        · have hF := cneg h28 hF
          refine And.intro (by kernel_rfl) ?_
          exact Or.inl ⟨rfl, congrArg (Option.map lAuthorityChecks_E) hF⟩
abbrev lAuthorityChecks_S (l : List Aut) (id : Int) (a : Aut) : Option (Bool) := lAuthorityChecks_F l id a
theorem lAuthorityChecks_h {l : List Aut} {id : Int} {a : Aut} {r : Bool} (h : lAuthorityChecks_S l id a = some r) : Holds Tryd.prog Gw 3 [.sl 6 (l.map cAut), I id, .agg (cAut a)] (lAuthorityChecks_E r) := lAuthorityChecks_Fh  h
end Go.Proofs.YtgpojnenbmlcbaaDoor
