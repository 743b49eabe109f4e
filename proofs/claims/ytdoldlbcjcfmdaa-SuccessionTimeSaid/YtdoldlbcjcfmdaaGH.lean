/- Functions of the program as functions of Lean, each with its contract (printed by a program). -/
import Derived.Test.YtdoldlbcjcfmdaaGW
namespace Go.Proofs.Ytdoldlbcjcfmdaa
open Go Go.Abs
set_option maxRecDepth 10000
set_option maxHeartbeats 400000
abbrev lSuccessionBoth_E (y : Bool) : CV := B y
def lSuccessionBoth_F (l : List Aut) (a : Int) (b : Int) : Option (Bool) := Option.bind (lawake_S) fun y1 => bif (!y1) then (Option.bind (lawake_S) fun y4 => some (y4)) else (Option.bind (rFew_S l) fun y6 => bif (!y6) then (Option.bind (lawake_S) fun y9 => some (y9)) else (Option.bind (rCopy_S l) fun y11 => Option.bind (sForward_S y11 a) fun y13 => Option.bind (rCopy_S l) fun y15 => Option.bind (sBack_S y15 b) fun y17 => bif (y13.2 != 0) then (bif (((y13.1.map cInt).length : Int) == 0) then some (true) else some ((((y17.1.map cInt).length : Int) == 0))) else (bif (y17.2 != 0) then (bif (((y13.1.map cInt).length : Int) == 0) then some (true) else some ((((y17.1.map cInt).length : Int) == 0))) else (Option.bind (rCopy_S l) fun y23 => Option.bind (sWay_S y23 a b) fun y25 => Option.bind (rCopy_S l) fun y27 => Option.bind (sShare_S y27 a b) fun y29 => Option.bind (slContains_S y13.1 b) fun y31 => Option.bind (slContains_S y17.1 a) fun y33 => bif (y31 == y33) then (bif (y31 == (y25.2 == 0)) then (bif (y29.2 == 0) then (bif (y31 == (decide (y29.1 > 0))) then some (((y25.2 == 0) == (decide (((y25.1.map cInt).length : Int) > 0)))) else some (false)) else some (false)) else some (false)) else some (false)))))
set_option linter.unusedVariables false in
theorem lSuccessionBoth_Fh {l : List Aut} {a : Int} {b : Int} {r : Bool} (hF : lSuccessionBoth_F l a b = some r) : Holds Try.prog Gw 3 [.sl 6 (l.map cAut), I a, I b] (lSuccessionBoth_E r) := by
  refine holds_of_wq tabOk mixed Try.func3 (by decide) rfl (Nat.le_of_ble_eq_true rfl) ?_
  refine obind hF fun y1 h2 hF => ?_
  refine Or.inl ⟨_, lawake_h h2, rfl, ?_⟩
  refine And.intro (fun h3 => ?_) (fun h3 => ?_)
  · have hF := cpos h3 hF
    refine obind hF fun y4 h5 hF => ?_
    refine Or.inl ⟨_, lawake_h h5, rfl, ?_⟩
    exact Or.inl ⟨rfl, congrArg (Option.map lSuccessionBoth_E) hF⟩
  · have hF := cneg h3 hF
    refine obind hF fun y6 h7 hF => ?_
    refine Or.inl ⟨_, rFew_h h7, rfl, ?_⟩
    refine And.intro (fun h8 => ?_) (fun h8 => ?_)
    · have hF := cpos h8 hF
      refine obind hF fun y9 h10 hF => ?_
      refine Or.inl ⟨_, lawake_h h10, rfl, ?_⟩
      exact Or.inl ⟨rfl, congrArg (Option.map lSuccessionBoth_E) hF⟩
    · have hF := cneg h8 hF
      refine obind hF fun y11 h12 hF => ?_
      refine Or.inl ⟨_, rCopy_h h12, rfl, ?_⟩
      refine obind hF fun y13 h14 hF => ?_
      refine Or.inl ⟨_, sForward_h h14, rfl, ?_⟩
      refine obind hF fun y15 h16 hF => ?_
      refine Or.inl ⟨_, rCopy_h h16, rfl, ?_⟩
      refine obind hF fun y17 h18 hF => ?_
      refine Or.inl ⟨_, sBack_h h18, rfl, ?_⟩
      refine And.intro (fun h19 => ?_) (fun h19 => ?_)
      · have hF := cpos h19 hF
        refine And.intro (fun h20 => ?_) (fun h20 => ?_)
        · have hF := cpos h20 hF
          exact Or.inl ⟨rfl, congrArg (Option.map lSuccessionBoth_E) hF⟩
        · have hF := cneg h20 hF
          exact Or.inl ⟨rfl, congrArg (Option.map lSuccessionBoth_E) hF⟩
      · have hF := cneg h19 hF
        refine And.intro (fun h21 => ?_) (fun h21 => ?_)
        · have hF := cpos h21 hF
          refine And.intro (fun h22 => ?_) (fun h22 => ?_)
          · have hF := cpos h22 hF
            exact Or.inl ⟨rfl, congrArg (Option.map lSuccessionBoth_E) hF⟩
          · have hF := cneg h22 hF
            exact Or.inl ⟨rfl, congrArg (Option.map lSuccessionBoth_E) hF⟩
        · have hF := cneg h21 hF
          refine obind hF fun y23 h24 hF => ?_
          refine Or.inl ⟨_, rCopy_h h24, rfl, ?_⟩
          refine obind hF fun y25 h26 hF => ?_
          refine Or.inl ⟨_, sWay_h h26, rfl, ?_⟩
          refine obind hF fun y27 h28 hF => ?_
          refine Or.inl ⟨_, rCopy_h h28, rfl, ?_⟩
          refine obind hF fun y29 h30 hF => ?_
          refine Or.inl ⟨_, sShare_h h30, rfl, ?_⟩
          refine obind hF fun y31 h32 hF => ?_
          refine Or.inl ⟨_, slContains_h h32, rfl, ?_⟩
          refine obind hF fun y33 h34 hF => ?_
          refine Or.inl ⟨_, slContains_h h34, rfl, ?_⟩
          refine And.intro (fun h35 => ?_) (fun h35 => ?_)
          · have hF := cpos h35 hF
            refine And.intro (fun h36 => ?_) (fun h36 => ?_)
            · have hF := cpos h36 hF
              refine And.intro (fun h37 => ?_) (fun h37 => ?_)
              · have hF := cpos h37 hF
                refine And.intro (fun h38 => ?_) (fun h38 => ?_)
                · have hF := cpos h38 hF
                  exact Or.inl ⟨rfl, congrArg (Option.map lSuccessionBoth_E) hF⟩
                · have hF := cneg h38 hF
                  exact Or.inl ⟨rfl, congrArg (Option.map lSuccessionBoth_E) hF⟩
              · have hF := cneg h37 hF
                exact Or.inl ⟨rfl, congrArg (Option.map lSuccessionBoth_E) hF⟩
            · have hF := cneg h36 hF
              exact Or.inl ⟨rfl, congrArg (Option.map lSuccessionBoth_E) hF⟩
          · have hF := cneg h35 hF
            exact Or.inl ⟨rfl, congrArg (Option.map lSuccessionBoth_E) hF⟩
abbrev lSuccessionBoth_S (l : List Aut) (a : Int) (b : Int) : Option (Bool) := lSuccessionBoth_F l a b
theorem lSuccessionBoth_h {l : List Aut} {a : Int} {b : Int} {r : Bool} (h : lSuccessionBoth_S l a b = some r) : Holds Try.prog Gw 3 [.sl 6 (l.map cAut), I a, I b] (lSuccessionBoth_E r) := lSuccessionBoth_Fh  h
abbrev lSuccessionSums_E (y : Bool) : CV := B y
def lSuccessionSums_L1 (l : List Aut) (from_ : Int) (to : Int) (y11 : Int × Int) : Nat → Int → Int → Option (Bool)
  | 0, _, _ => none
  | fu1 + 1, sum15, v16 => bif decide (v16 < ((l.map cAut).length : Int)) then (Option.bind (ix l v16) fun x18 => Option.bind (slContains_S x18.Next to) fun y20 => bif y20 then (Option.bind (rCopy_S l) fun y23 => Option.bind (sShare_S y23 from_ x18.ID) fun y25 => bif (y25.2 != 0) then some (false) else lSuccessionSums_L1 l from_ to y11 fu1 (IntKind.i64.wrap (sum15 + y25.1)) (IntKind.i64.wrap (v16 + 1))) else lSuccessionSums_L1 l from_ to y11 fu1 sum15 (IntKind.i64.wrap (v16 + 1))) else some ((y11.1 == sum15))
def lSuccessionSums_F (N : Nat) (l : List Aut) (from_ : Int) (to : Int) : Option (Bool) := Option.bind (lawake_S) fun y1 => bif (!y1) then (Option.bind (lawake_S) fun y4 => some (y4)) else (bif decide (((l.map cAut).length : Int) > 12) then (Option.bind (lawake_S) fun y7 => some (y7)) else (Option.bind (rCopy_S l) fun y9 => Option.bind (sShare_S y9 from_ to) fun y11 => bif (y11.2 != 0) then some ((y11.1 == 0)) else (bif (from_ == to) then some ((y11.1 == 1)) else lSuccessionSums_L1 l from_ to y11 N 0 0)))
set_option linter.unusedVariables false in
theorem lSuccessionSums_Fh {N : Nat} {l : List Aut} {from_ : Int} {to : Int} {r : Bool} (hF : lSuccessionSums_F N l from_ to = some r) : Holds Try.prog Gw 4 [.sl 6 (l.map cAut), I from_, I to] (lSuccessionSums_E r) := by
  refine holds_of_wq tabOk mixed Try.func4 (by decide) rfl (Nat.le_of_ble_eq_true rfl) ?_
  refine obind hF fun y1 h2 hF => ?_
  refine Or.inl ⟨_, lawake_h h2, rfl, ?_⟩
  refine And.intro (fun h3 => ?_) (fun h3 => ?_)
  · have hF := cpos h3 hF
    refine obind hF fun y4 h5 hF => ?_
    refine Or.inl ⟨_, lawake_h h5, rfl, ?_⟩
    exact Or.inl ⟨rfl, congrArg (Option.map lSuccessionSums_E) hF⟩
  · have hF := cneg h3 hF
    refine And.intro (fun h6 => ?_) (fun h6 => ?_)
    · have hF := cpos h6 hF
      refine obind hF fun y7 h8 hF => ?_
      refine Or.inl ⟨_, lawake_h h8, rfl, ?_⟩
      exact Or.inl ⟨rfl, congrArg (Option.map lSuccessionSums_E) hF⟩
    · have hF := cneg h6 hF
      refine obind hF fun y9 h10 hF => ?_
      refine Or.inl ⟨_, rCopy_h h10, rfl, ?_⟩
      refine obind hF fun y11 h12 hF => ?_
      refine Or.inl ⟨_, sShare_h h12, rfl, ?_⟩
      refine And.intro (fun h13 => ?_) (fun h13 => ?_)
      · have hF := cpos h13 hF
        exact Or.inl ⟨rfl, congrArg (Option.map lSuccessionSums_E) hF⟩
      · have hF := cneg h13 hF
        refine And.intro (fun h14 => ?_) (fun h14 => ?_)
        · have hF := cpos h14 hF
          exact Or.inl ⟨rfl, congrArg (Option.map lSuccessionSums_E) hF⟩
        · have hF := cneg h14 hF
          refine loop_oq (fun p : Nat × Int × Int => [(0, .c (.sl 6 (l.map cAut))), (1, .c (I from_)), (2, .c (I to)), (7, .c (I y11.1)), (9, .c (I p.2.1)), (39, .c (.sl 6 (l.map cAut))), (40, .c (I ((l.map cAut).length : Int))), (41, .c (I p.2.2))]) (fun _ => []) (fun p => lSuccessionSums_L1 l from_ to y11 p.1 p.2.1 p.2.2 = some r) (fun p => p.1) (N, 0, 0) hF ⟨rfl, rfl, rfl, rfl, rfl, rfl, rfl, rfl, trivial⟩ trivial ?_
          rintro ⟨fu1, sum15, v16⟩ hF
          cases fu1 with
          | zero => exact nomatch hF
          | succ fu1 =>
            refine join_no ?_
            refine And.intro (fun h17 => ?_) (fun h17 => ?_)
            · have hF := cpos h17 hF
              refine join_no ?_
              refine obind hF fun x18 h19 hF => ?_
              refine ⟨ix_nn h19, .inl rfl, _, ix_map cAut h19, ?_⟩
              refine Or.inl ?_
              refine obind hF fun y20 h21 hF => ?_
              refine Or.inl ⟨_, slContains_h h21, rfl, ?_⟩
              refine And.intro (fun h22 => ?_) (fun h22 => ?_)
              · have hF := cpos h22 hF
                refine obind hF fun y23 h24 hF => ?_
                refine Or.inl ⟨_, rCopy_h h24, rfl, ?_⟩
                refine obind hF fun y25 h26 hF => ?_
                refine Or.inl ⟨_, sShare_h h26, rfl, ?_⟩
                refine And.intro (by kernel_rfl) ?_
                refine And.intro (fun h27 => ?_) (fun h27 => ?_)
                · have hF := cpos h27 hF
                  exact Or.inl ⟨rfl, congrArg (Option.map lSuccessionSums_E) hF⟩
                · have hF := cneg h27 hF
                  exact ⟨(fu1, (IntKind.i64.wrap (sum15 + y25.1)), (IntKind.i64.wrap (v16 + 1))), Nat.lt_succ_self _, hF, ⟨rfl, rfl, rfl, rfl, rfl, rfl, rfl, rfl, trivial⟩, trivial⟩
              · have hF := cneg h22 hF
                exact ⟨(fu1, sum15, (IntKind.i64.wrap (v16 + 1))), Nat.lt_succ_self _, hF, ⟨rfl, rfl, rfl, rfl, rfl, rfl, rfl, rfl, trivial⟩, trivial⟩
            · have hF := cneg h17 hF
              exact Or.inl ⟨rfl, congrArg (Option.map lSuccessionSums_E) hF⟩
abbrev lSuccessionSums_S (l : List Aut) (from_ : Int) (to : Int) : Option (Bool) := lSuccessionSums_F 1000 l from_ to
theorem lSuccessionSums_h {l : List Aut} {from_ : Int} {to : Int} {r : Bool} (h : lSuccessionSums_S l from_ to = some r) : Holds Try.prog Gw 4 [.sl 6 (l.map cAut), I from_, I to] (lSuccessionSums_E r) := lSuccessionSums_Fh  h
abbrev lSuccessionMeets_1_E (y : Bool) : CV := B y
def lSuccessionMeets_1_F (n : Int) (c0 : List Int) : Option (Bool) := Option.bind (slContains_S c0 n) fun y1 => some (y1)
set_option linter.unusedVariables false in
theorem lSuccessionMeets_1_Fh {n : Int} {c0 : List Int} {r : Bool} (hF : lSuccessionMeets_1_F n c0 = some r) : Holds Try.prog Gw 19 [I n, .pi [.sl 1 (c0.map cInt)] 0] (lSuccessionMeets_1_E r) := by
  refine holds_of_wq tabOk mixed Try.func19 (by decide) rfl (Nat.le_of_ble_eq_true rfl) ?_
  refine obind hF fun y1 h2 hF => ?_
  refine Or.inl ⟨_, slContains_h h2, rfl, ?_⟩
  exact Or.inl ⟨rfl, congrArg (Option.map lSuccessionMeets_1_E) hF⟩
abbrev lSuccessionMeets_1_S (n : Int) (c0 : List Int) : Option (Bool) := lSuccessionMeets_1_F n c0
theorem lSuccessionMeets_1_h {n : Int} {c0 : List Int} {r : Bool} (h : lSuccessionMeets_1_S n c0 = some r) : Holds Try.prog Gw 19 [I n, .pi [.sl 1 (c0.map cInt)] 0] (lSuccessionMeets_1_E r) := lSuccessionMeets_1_Fh  h
abbrev lSuccessionMeets_E (y : Bool) : CV := B y
def lSuccessionMeets_L2 (l : List Aut) (y13 : List Int × Int) (v36 : Int) (x38 : Int) (k_1 : Int → Option (Bool)) : Nat → Int → Option (Bool)
  | 0, _ => none
  | fu2 + 1, v46 => bif decide (v46 < ((l.map cAut).length : Int)) then (Option.bind (ix l v46) fun x48 => Option.bind (slContains_S x48.Next x38) fun y50 => bif y50 then (Option.bind (slContains_S y13.1 x48.ID) fun y53 => bif y53 then some (false) else lSuccessionMeets_L2 l y13 v36 x38 k_1 fu2 (IntKind.i64.wrap (v46 + 1))) else lSuccessionMeets_L2 l y13 v36 x38 k_1 fu2 (IntKind.i64.wrap (v46 + 1))) else k_1 (IntKind.i64.wrap (v36 + 1))
def lSuccessionMeets_L3 (l : List Aut) (y13 : List Int × Int) (y25 : List Int × Int) (y29 : List Int × Int) : Nat → Int → Option (Bool)
  | 0, _ => none
  | fu3 + 1, v56 => bif decide (v56 < ((y25.1.map cInt).length : Int)) then (Option.bind (ix y25.1 v56) fun x58 => Option.bind (slContains_S y29.1 x58) fun y60 => bif (!y60) then lSuccessionMeets_L3 l y13 y25 y29 fu3 (IntKind.i64.wrap (v56 + 1)) else (Option.bind (rCopy_S l) fun y63 => Option.bind (sBack_S y63 x58) fun y65 => bif (y65.2 != 0) then some (false) else (Option.bind (slContainsFuncI_S y65.1 (fun z0 => lSuccessionMeets_1_S z0 y13.1)) fun y68 => bif (!y68) then some (false) else lSuccessionMeets_L3 l y13 y25 y29 fu3 (IntKind.i64.wrap (v56 + 1))))) else some (true)
def lSuccessionMeets_L1 (l : List Aut) (y13 : List Int × Int) (y25 : List Int × Int) (y29 : List Int × Int) (N : Nat) : Nat → Int → Option (Bool)
  | 0, _ => none
  | fu1 + 1, v36 => bif decide (v36 < ((y13.1.map cInt).length : Int)) then (Option.bind (ix y13.1 v36) fun x38 => Option.bind (slContains_S y25.1 x38) fun y40 => bif (!y40) then some (false) else (Option.bind (slContains_S y29.1 x38) fun y43 => bif (!y43) then some (false) else lSuccessionMeets_L2 l y13 v36 x38 (fun q_v36 => lSuccessionMeets_L1 l y13 y25 y29 N fu1 q_v36) N 0)) else lSuccessionMeets_L3 l y13 y25 y29 N 0
def lSuccessionMeets_F (N : Nat) (l : List Aut) (a : Int) (b : Int) : Option (Bool) := Option.bind (lawake_S) fun y1 => bif (!y1) then (Option.bind (lawake_S) fun y4 => some (y4)) else (Option.bind (rFew_S l) fun y6 => bif (!y6) then (Option.bind (lawake_S) fun y9 => some (y9)) else (Option.bind (rCopy_S l) fun y11 => Option.bind (sMeet_S y11 a b) fun y13 => Option.bind (rCopy_S l) fun y15 => Option.bind (sMeet_S y15 b a) fun y17 => bif (y13.2 != 0) then (bif (((y13.1.map cInt).length : Int) == 0) then some ((((y17.1.map cInt).length : Int) == 0)) else some (false)) else (bif (y17.2 != 0) then (bif (((y13.1.map cInt).length : Int) == 0) then some ((((y17.1.map cInt).length : Int) == 0)) else some (false)) else (Option.bind (rCopy_S l) fun y23 => Option.bind (sForward_S y23 a) fun y25 => Option.bind (rCopy_S l) fun y27 => Option.bind (sForward_S y27 b) fun y29 => bif (y25.2 != 0) then some (false) else (bif (y29.2 != 0) then some (false) else (Option.bind (slEqual_S y13.1 y17.1) fun y33 => bif (!y33) then some (false) else lSuccessionMeets_L1 l y13 y25 y29 N N 0))))))
set_option linter.unusedVariables false in
theorem lSuccessionMeets_Fh {N : Nat} {l : List Aut} {a : Int} {b : Int} {r : Bool} (hF : lSuccessionMeets_F N l a b = some r) : Holds Try.prog Gw 5 [.sl 6 (l.map cAut), I a, I b] (lSuccessionMeets_E r) := by
  refine holds_of_wq tabOk mixed Try.func5 (by decide) rfl (Nat.le_of_ble_eq_true rfl) ?_
  refine obind hF fun y1 h2 hF => ?_
  refine Or.inl ⟨_, lawake_h h2, rfl, ?_⟩
  refine And.intro (fun h3 => ?_) (fun h3 => ?_)
  · have hF := cpos h3 hF
    refine obind hF fun y4 h5 hF => ?_
    refine Or.inl ⟨_, lawake_h h5, rfl, ?_⟩
    exact Or.inl ⟨rfl, congrArg (Option.map lSuccessionMeets_E) hF⟩
  · have hF := cneg h3 hF
    refine obind hF fun y6 h7 hF => ?_
    refine Or.inl ⟨_, rFew_h h7, rfl, ?_⟩
    refine And.intro (fun h8 => ?_) (fun h8 => ?_)
    · have hF := cpos h8 hF
      refine obind hF fun y9 h10 hF => ?_
      refine Or.inl ⟨_, lawake_h h10, rfl, ?_⟩
      exact Or.inl ⟨rfl, congrArg (Option.map lSuccessionMeets_E) hF⟩
    · have hF := cneg h8 hF
      refine obind hF fun y11 h12 hF => ?_
      refine Or.inl ⟨_, rCopy_h h12, rfl, ?_⟩
      refine obind hF fun y13 h14 hF => ?_
      refine Or.inl ⟨_, sMeet_h h14, rfl, ?_⟩
      refine Or.inl ?_
      refine obind hF fun y15 h16 hF => ?_
      refine Or.inl ⟨_, rCopy_h h16, rfl, ?_⟩
      refine obind hF fun y17 h18 hF => ?_
      refine Or.inl ⟨_, sMeet_h h18, rfl, ?_⟩
      refine And.intro (fun h19 => ?_) (fun h19 => ?_)
      · have hF := cpos h19 hF
        refine And.intro (fun h20 => ?_) (fun h20 => ?_)
        · have hF := cpos h20 hF
          exact Or.inl ⟨rfl, congrArg (Option.map lSuccessionMeets_E) hF⟩
        · have hF := cneg h20 hF
          exact Or.inl ⟨rfl, congrArg (Option.map lSuccessionMeets_E) hF⟩
      · have hF := cneg h19 hF
        refine And.intro (fun h21 => ?_) (fun h21 => ?_)
        · have hF := cpos h21 hF
          refine And.intro (fun h22 => ?_) (fun h22 => ?_)
          · have hF := cpos h22 hF
            exact Or.inl ⟨rfl, congrArg (Option.map lSuccessionMeets_E) hF⟩
          · have hF := cneg h22 hF
            exact Or.inl ⟨rfl, congrArg (Option.map lSuccessionMeets_E) hF⟩
        · have hF := cneg h21 hF
          refine obind hF fun y23 h24 hF => ?_
          refine Or.inl ⟨_, rCopy_h h24, rfl, ?_⟩
          refine obind hF fun y25 h26 hF => ?_
          refine Or.inl ⟨_, sForward_h h26, rfl, ?_⟩
          refine obind hF fun y27 h28 hF => ?_
          refine Or.inl ⟨_, rCopy_h h28, rfl, ?_⟩
          refine obind hF fun y29 h30 hF => ?_
          refine Or.inl ⟨_, sForward_h h30, rfl, ?_⟩
          refine And.intro (fun h31 => ?_) (fun h31 => ?_)
          · have hF := cpos h31 hF
            exact Or.inl ⟨rfl, congrArg (Option.map lSuccessionMeets_E) hF⟩
          · have hF := cneg h31 hF
            refine And.intro (fun h32 => ?_) (fun h32 => ?_)
            · have hF := cpos h32 hF
              exact Or.inl ⟨rfl, congrArg (Option.map lSuccessionMeets_E) hF⟩
            · have hF := cneg h32 hF
              refine obind hF fun y33 h34 hF => ?_
              refine Or.inl ⟨_, slEqual_h h34, rfl, ?_⟩
              refine And.intro (fun h35 => ?_) (fun h35 => ?_)
              · have hF := cpos h35 hF
                exact Or.inl ⟨rfl, congrArg (Option.map lSuccessionMeets_E) hF⟩
              · have hF := cneg h35 hF
                refine loop_oq (fun p : Nat × Int => [(0, .c (.sl 6 (l.map cAut))), (7, .pm 7 0 0), (11, .c (.sl 1 (y25.1.map cInt))), (13, .c (.sl 1 (y29.1.map cInt))), (87, .c (.sl 1 (y13.1.map cInt))), (88, .c (I ((y13.1.map cInt).length : Int))), (89, .c (I p.2))]) (fun p : Nat × Int => [(7, .var [.sl 1 (y13.1.map cInt)])]) (fun p => lSuccessionMeets_L1 l y13 y25 y29 N p.1 p.2 = some r) (fun p => p.1) (N, 0) hF ⟨rfl, rfl, rfl, rfl, rfl, rfl, rfl, trivial⟩ ⟨rfl, trivial⟩ ?_
                rintro ⟨fu1, v36⟩ hF
                cases fu1 with
                | zero => exact nomatch hF
                | succ fu1 =>
                  refine join_no ?_
                  refine And.intro (fun h37 => ?_) (fun h37 => ?_)
                  · have hF := cpos h37 hF
                    refine join_no ?_
                    refine obind hF fun x38 h39 hF => ?_
                    refine ⟨ix_nn h39, .inl rfl, _, ix_map cInt h39, ?_⟩
                    refine obind hF fun y40 h41 hF => ?_
                    refine Or.inl ⟨_, slContains_h h41, rfl, ?_⟩
                    refine And.intro (fun h42 => ?_) (fun h42 => ?_)
                    · have hF := cpos h42 hF
                      exact Or.inl ⟨rfl, congrArg (Option.map lSuccessionMeets_E) hF⟩
                    · have hF := cneg h42 hF
                      refine obind hF fun y43 h44 hF => ?_
                      refine Or.inl ⟨_, slContains_h h44, rfl, ?_⟩
                      refine And.intro (fun h45 => ?_) (fun h45 => ?_)
                      · have hF := cpos h45 hF
                        exact Or.inl ⟨rfl, congrArg (Option.map lSuccessionMeets_E) hF⟩
                      · have hF := cneg h45 hF
                        refine loop_oq (fun p : Nat × Int => [(0, .c (.sl 6 (l.map cAut))), (7, .pm 7 0 0), (11, .c (.sl 1 (y25.1.map cInt))), (13, .c (.sl 1 (y29.1.map cInt))), (16, .c (I x38)), (87, .c (.sl 1 (y13.1.map cInt))), (88, .c (I ((y13.1.map cInt).length : Int))), (89, .c (I v36)), (98, .c (.sl 1 (y29.1.map cInt))), (99, .c (I x38)), (100, .c (B y43)), (101, .c (B (!y43))), (103, .c (.sl 6 (l.map cAut))), (104, .c (I ((l.map cAut).length : Int))), (105, .c (I p.2))]) (fun p : Nat × Int => [(7, .var [.sl 1 (y13.1.map cInt)])]) (fun p => lSuccessionMeets_L2 l y13 v36 x38 (fun q_v36 => lSuccessionMeets_L1 l y13 y25 y29 N fu1 q_v36) p.1 p.2 = some r) (fun p => p.1) (N, 0) hF ⟨rfl, rfl, rfl, rfl, rfl, rfl, rfl, rfl, rfl, rfl, rfl, rfl, rfl, rfl, rfl, trivial⟩ ⟨rfl, trivial⟩ ?_
                        rintro ⟨fu2, v46⟩ hF
                        cases fu2 with
                        | zero => exact nomatch hF
                        | succ fu2 =>
                          refine join_no ?_
                          refine And.intro (fun h47 => ?_) (fun h47 => ?_)
                          · have hF := cpos h47 hF
                            refine join_no ?_
                            refine obind hF fun x48 h49 hF => ?_
                            refine ⟨ix_nn h49, .inl rfl, _, ix_map cAut h49, ?_⟩
                            refine Or.inl ?_
                            refine obind hF fun y50 h51 hF => ?_
                            refine Or.inl ⟨_, slContains_h h51, rfl, ?_⟩
                            refine And.intro (fun h52 => ?_) (fun h52 => ?_)
                            · have hF := cpos h52 hF
                              refine obind hF fun y53 h54 hF => ?_
                              refine Or.inl ⟨_, slContains_h h54, rfl, ?_⟩
                              refine And.intro (fun h55 => ?_) (fun h55 => ?_)
                              · have hF := cpos h55 hF
                                exact Or.inl ⟨rfl, congrArg (Option.map lSuccessionMeets_E) hF⟩
                              · have hF := cneg h55 hF
                                exact ⟨(fu2, (IntKind.i64.wrap (v46 + 1))), Nat.lt_succ_self _, hF, ⟨rfl, rfl, rfl, rfl, rfl, rfl, rfl, rfl, rfl, rfl, rfl, rfl, rfl, rfl, rfl, trivial⟩, ⟨rfl, trivial⟩⟩
                            · have hF := cneg h52 hF
                              exact ⟨(fu2, (IntKind.i64.wrap (v46 + 1))), Nat.lt_succ_self _, hF, ⟨rfl, rfl, rfl, rfl, rfl, rfl, rfl, rfl, rfl, rfl, rfl, rfl, rfl, rfl, rfl, trivial⟩, ⟨rfl, trivial⟩⟩
                          · have hF := cneg h47 hF
                            exact ⟨(fu1, (IntKind.i64.wrap (v36 + 1))), Nat.lt_succ_self _, hF, ⟨rfl, rfl, rfl, rfl, rfl, rfl, rfl, trivial⟩, ⟨rfl, trivial⟩⟩
                  · have hF := cneg h37 hF
                    refine loop_oq (fun p : Nat × Int => [(0, .c (.sl 6 (l.map cAut))), (7, .pm 7 0 0), (13, .c (.sl 1 (y29.1.map cInt))), (121, .c (.sl 1 (y25.1.map cInt))), (122, .c (I ((y25.1.map cInt).length : Int))), (123, .c (I p.2))]) (fun p : Nat × Int => [(7, .var [.sl 1 (y13.1.map cInt)])]) (fun p => lSuccessionMeets_L3 l y13 y25 y29 p.1 p.2 = some r) (fun p => p.1) (N, 0) hF ⟨rfl, rfl, rfl, rfl, rfl, rfl, trivial⟩ ⟨rfl, trivial⟩ ?_
                    rintro ⟨fu3, v56⟩ hF
                    cases fu3 with
                    | zero => exact nomatch hF
                    | succ fu3 =>
                      refine join_no ?_
                      refine And.intro (fun h57 => ?_) (fun h57 => ?_)
                      · have hF := cpos h57 hF
                        refine join_no ?_
                        refine obind hF fun x58 h59 hF => ?_
                        refine ⟨ix_nn h59, .inl rfl, _, ix_map cInt h59, ?_⟩
                        refine obind hF fun y60 h61 hF => ?_
                        refine Or.inl ⟨_, slContains_h h61, rfl, ?_⟩
                        refine And.intro (fun h62 => ?_) (fun h62 => ?_)
                        · have hF := cpos h62 hF
                          exact ⟨(fu3, (IntKind.i64.wrap (v56 + 1))), Nat.lt_succ_self _, hF, ⟨rfl, rfl, rfl, rfl, rfl, rfl, trivial⟩, ⟨rfl, trivial⟩⟩
                        · have hF := cneg h62 hF
                          refine obind hF fun y63 h64 hF => ?_
                          refine Or.inl ⟨_, rCopy_h h64, rfl, ?_⟩
                          refine obind hF fun y65 h66 hF => ?_
                          refine Or.inl ⟨_, sBack_h h66, rfl, ?_⟩
                          refine And.intro (fun h67 => ?_) (fun h67 => ?_)
                          · have hF := cpos h67 hF
                            exact Or.inl ⟨rfl, congrArg (Option.map lSuccessionMeets_E) hF⟩
                          · have hF := cneg h67 hF
                            refine obind hF fun y68 h69 hF => ?_
                            refine Or.inl ⟨_, slContainsFuncI_h (fun _ _ h => lSuccessionMeets_1_h h) h69, rfl, ?_⟩
                            refine And.intro (fun h70 => ?_) (fun h70 => ?_)
                            · have hF := cpos h70 hF
                              exact Or.inl ⟨rfl, congrArg (Option.map lSuccessionMeets_E) hF⟩
                            · have hF := cneg h70 hF
                              exact ⟨(fu3, (IntKind.i64.wrap (v56 + 1))), Nat.lt_succ_self _, hF, ⟨rfl, rfl, rfl, rfl, rfl, rfl, trivial⟩, ⟨rfl, trivial⟩⟩
                      · have hF := cneg h57 hF
                        exact Or.inl ⟨rfl, congrArg (Option.map lSuccessionMeets_E) hF⟩
abbrev lSuccessionMeets_S (l : List Aut) (a : Int) (b : Int) : Option (Bool) := lSuccessionMeets_F 1000 l a b
theorem lSuccessionMeets_h {l : List Aut} {a : Int} {b : Int} {r : Bool} (h : lSuccessionMeets_S l a b = some r) : Holds Try.prog Gw 5 [.sl 6 (l.map cAut), I a, I b] (lSuccessionMeets_E r) := lSuccessionMeets_Fh  h
abbrev slIndexFuncL_E (y : Int) : CV := I y
def slIndexFuncL_L1 (s : List (List Int)) (f : (List Int) → Option Bool) : Nat → Int → Option (Int)
  | 0, _ => none
  | fu1 + 1, v1 => bif decide (v1 < ((s.map cSl_Int).length : Int)) then (Option.bind (ix s v1) fun x3 => Option.bind (f x3) fun y5 => bif y5 then some (v1) else slIndexFuncL_L1 s f fu1 (IntKind.i64.wrap (v1 + 1))) else some ((-1))
def slIndexFuncL_F (N : Nat) (s : List (List Int)) (f : (List Int) → Option Bool) : Option (Int) := slIndexFuncL_L1 s f N 0
set_option linter.unusedVariables false in
theorem slIndexFuncL_Fh {N : Nat} {s : List (List Int)} {f : (List Int) → Option Bool} {r : Int} {f_f : FuncId} {f_c : List CV} (f_h : ∀ z0 y, f z0 = some y → Holds Try.prog Gw f_f (.sl 1 (z0.map cInt) :: f_c) (B y)) (hF : slIndexFuncL_F N s f = some r) : Holds Try.prog Gw 22 [.sl 1 (s.map cSl_Int), .fn f_f f_c] (slIndexFuncL_E r) := by
  refine holds_of_wq tabOk mixed Try.func22 (by decide) rfl (Nat.le_of_ble_eq_true rfl) ?_
  refine loop_oq (fun p : Nat × Int => [(0, .c (.sl 1 (s.map cSl_Int))), (1, .c (.fn f_f f_c)), (7, .c (I ((s.map cSl_Int).length : Int))), (8, .c (I p.2))]) (fun _ => []) (fun p => slIndexFuncL_L1 s f p.1 p.2 = some r) (fun p => p.1) (N, 0) hF ⟨rfl, rfl, rfl, rfl, trivial⟩ trivial ?_
  rintro ⟨fu1, v1⟩ hF
  cases fu1 with
  | zero => exact nomatch hF
  | succ fu1 =>
    refine join_no ?_
    refine And.intro (fun h2 => ?_) (fun h2 => ?_)
    · have hF := cpos h2 hF
      refine join_no ?_
      refine obind hF fun x3 h4 hF => ?_
      refine ⟨ix_nn h4, .inl rfl, _, ix_map cSl_Int h4, ?_⟩
      refine obind hF fun y5 h6 hF => ?_
      refine Or.inl ⟨_, f_h _ _ h6, rfl, ?_⟩
      refine And.intro (fun h7 => ?_) (fun h7 => ?_)
      · have hF := cpos h7 hF
        exact Or.inl ⟨rfl, congrArg (Option.map slIndexFuncL_E) hF⟩
      · have hF := cneg h7 hF
        exact ⟨(fu1, (IntKind.i64.wrap (v1 + 1))), Nat.lt_succ_self _, hF, ⟨rfl, rfl, rfl, rfl, trivial⟩, trivial⟩
    · have hF := cneg h2 hF
      exact Or.inl ⟨rfl, congrArg (Option.map slIndexFuncL_E) hF⟩
abbrev slIndexFuncL_S (s : List (List Int)) (f : (List Int) → Option Bool) : Option (Int) := slIndexFuncL_F (s.length + 1) s f
theorem slIndexFuncL_h {s : List (List Int)} {f : (List Int) → Option Bool} {r : Int} {f_f : FuncId} {f_c : List CV} (f_h : ∀ z0 y, f z0 = some y → Holds Try.prog Gw f_f (.sl 1 (z0.map cInt) :: f_c) (B y)) (h : slIndexFuncL_S s f = some r) : Holds Try.prog Gw 22 [.sl 1 (s.map cSl_Int), .fn f_f f_c] (slIndexFuncL_E r) := slIndexFuncL_Fh f_h h
abbrev lSuccessionOrder_1_1_E (y : Bool) : CV := B y
def lSuccessionOrder_1_1_F (x : List Int) (c0 : Int) : Option (Bool) := Option.bind (slContains_S x c0) fun y1 => some (y1)
set_option linter.unusedVariables false in
theorem lSuccessionOrder_1_1_Fh {x : List Int} {c0 : Int} {r : Bool} (hF : lSuccessionOrder_1_1_F x c0 = some r) : Holds Try.prog Gw 23 [.sl 1 (x.map cInt), .pi [I c0] 0] (lSuccessionOrder_1_1_E r) := by
  refine holds_of_wq tabOk mixed Try.func23 (by decide) rfl (Nat.le_of_ble_eq_true rfl) ?_
  refine obind hF fun y1 h2 hF => ?_
  refine Or.inl ⟨_, slContains_h h2, rfl, ?_⟩
  exact Or.inl ⟨rfl, congrArg (Option.map lSuccessionOrder_1_1_E) hF⟩
abbrev lSuccessionOrder_1_1_S (x : List Int) (c0 : Int) : Option (Bool) := lSuccessionOrder_1_1_F x c0
theorem lSuccessionOrder_1_1_h {x : List Int} {c0 : Int} {r : Bool} (h : lSuccessionOrder_1_1_S x c0 = some r) : Holds Try.prog Gw 23 [.sl 1 (x.map cInt), .pi [I c0] 0] (lSuccessionOrder_1_1_E r) := lSuccessionOrder_1_1_Fh  h
abbrev lSuccessionOrder_1_E (y : Int) : CV := I y
def lSuccessionOrder_1_F (id : Int) (c0 : List (List Int)) : Option (Int) := Option.bind (slIndexFuncL_S c0 (fun z0 => lSuccessionOrder_1_1_S z0 id)) fun y1 => some (y1)
set_option linter.unusedVariables false in
theorem lSuccessionOrder_1_Fh {id : Int} {c0 : List (List Int)} {r : Int} (hF : lSuccessionOrder_1_F id c0 = some r) : Holds Try.prog Gw 21 [I id, .pi [.sl 1 (c0.map cSl_Int)] 0] (lSuccessionOrder_1_E r) := by
  refine holds_of_wq tabOk mixed Try.func21 (by decide) rfl (Nat.le_of_ble_eq_true rfl) ?_
  refine Or.inl ?_
  refine obind hF fun y1 h2 hF => ?_
  refine Or.inl ⟨_, slIndexFuncL_h (fun _ _ h => lSuccessionOrder_1_1_h h) h2, rfl, ?_⟩
  exact Or.inl ⟨rfl, congrArg (Option.map lSuccessionOrder_1_E) hF⟩
abbrev lSuccessionOrder_1_S (id : Int) (c0 : List (List Int)) : Option (Int) := lSuccessionOrder_1_F id c0
theorem lSuccessionOrder_1_h {id : Int} {c0 : List (List Int)} {r : Int} (h : lSuccessionOrder_1_S id c0 = some r) : Holds Try.prog Gw 21 [I id, .pi [.sl 1 (c0.map cSl_Int)] 0] (lSuccessionOrder_1_E r) := lSuccessionOrder_1_Fh  h
abbrev slIsSorted_E (y : Bool) : CV := B y
def slIsSorted_L1 (x : List Int) : Nat → Int → Option (Bool)
  | 0, _ => none
  | fu1 + 1, i1 => bif decide (i1 > 0) then (Option.bind (ix x i1) fun x3 => Option.bind (ix x (IntKind.i64.wrap (i1 - 1))) fun x5 => Option.bind (cmpLess_S x3 x5) fun y7 => bif y7 then some (false) else slIsSorted_L1 x fu1 (IntKind.i64.wrap (i1 - 1))) else some (true)
def slIsSorted_F (N : Nat) (x : List Int) : Option (Bool) := slIsSorted_L1 x N (IntKind.i64.wrap (((x.map cInt).length : Int) - 1))
set_option linter.unusedVariables false in
theorem slIsSorted_Fh {N : Nat} {x : List Int} {r : Bool} (hF : slIsSorted_F N x = some r) : Holds Try.prog Gw 24 [.sl 1 (x.map cInt)] (slIsSorted_E r) := by
  refine holds_of_wq tabOk mixed Try.func24 (by decide) rfl (Nat.le_of_ble_eq_true rfl) ?_
  refine loop_oq (fun p : Nat × Int => [(0, .c (.sl 1 (x.map cInt))), (3, .c (I p.2))]) (fun _ => []) (fun p => slIsSorted_L1 x p.1 p.2 = some r) (fun p => p.1) (N, (IntKind.i64.wrap (((x.map cInt).length : Int) - 1))) hF ⟨rfl, rfl, trivial⟩ trivial ?_
  rintro ⟨fu1, i1⟩ hF
  cases fu1 with
  | zero => exact nomatch hF
  | succ fu1 =>
    refine And.intro (fun h2 => ?_) (fun h2 => ?_)
    · have hF := cpos h2 hF
      refine join_no ?_
      refine obind hF fun x3 h4 hF => ?_
      refine ⟨ix_nn h4, .inl rfl, _, ix_map cInt h4, ?_⟩
      refine obind hF fun x5 h6 hF => ?_
      refine ⟨ix_nn h6, .inl rfl, _, ix_map cInt h6, ?_⟩
      refine obind hF fun y7 h8 hF => ?_
      refine Or.inl ⟨_, cmpLess_h h8, rfl, ?_⟩
      refine And.intro (by kernel_rfl) ?_
      refine And.intro (fun h9 => ?_) (fun h9 => ?_)
      · have hF := cpos h9 hF
        exact Or.inl ⟨rfl, congrArg (Option.map slIsSorted_E) hF⟩
      · have hF := cneg h9 hF
        exact ⟨(fu1, (IntKind.i64.wrap (i1 - 1))), Nat.lt_succ_self _, hF, ⟨rfl, rfl, trivial⟩, trivial⟩
    · have hF := cneg h2 hF
      exact Or.inl ⟨rfl, congrArg (Option.map slIsSorted_E) hF⟩
abbrev slIsSorted_S (x : List Int) : Option (Bool) := slIsSorted_F (x.length + 1) x
theorem slIsSorted_h {x : List Int} {r : Bool} (h : slIsSorted_S x = some r) : Holds Try.prog Gw 24 [.sl 1 (x.map cInt)] (slIsSorted_E r) := slIsSorted_Fh  h
abbrev lSuccessionOrder_E (y : Bool) : CV := B y
def lSuccessionOrder_L3 (l : List Aut) (y13 : List (List Int) × Int) (x27 : Int) (v17 : Int) (v25 : Int) (k_2 : Int → Option (Bool)) : Nat → Int → Int → Option (Bool)
  | 0, _, _ => none
  | fu3 + 1, last29, v30 => bif decide (v30 < ((l.map cAut).length : Int)) then (Option.bind (ix l v30) fun x32 => Option.bind (slContains_S x32.Next x27) fun y34 => bif y34 then (Option.bind (lSuccessionOrder_1_S x32.ID y13.1) fun y37 => lSuccessionOrder_L3 l y13 x27 v17 v25 k_2 fu3 (if last29 < y37 then y37 else last29) (IntKind.i64.wrap (v30 + 1))) else lSuccessionOrder_L3 l y13 x27 v17 v25 k_2 fu3 last29 (IntKind.i64.wrap (v30 + 1))) else (Option.bind (lSuccessionOrder_1_S x27 y13.1) fun y39 => bif (y39 != v17) then some (false) else (bif (last29 != (IntKind.i64.wrap (v17 - 1))) then some (false) else k_2 (IntKind.i64.wrap (v25 + 1))))
def lSuccessionOrder_L2 (l : List Aut) (y13 : List (List Int) × Int) (n16 : Int) (v17 : Int) (x19 : List Int) (k_1 : Int → Int → Option (Bool)) (N : Nat) : Nat → Int → Option (Bool)
  | 0, _ => none
  | fu2 + 1, v25 => bif decide (v25 < ((x19.map cInt).length : Int)) then (Option.bind (ix x19 v25) fun x27 => lSuccessionOrder_L3 l y13 x27 v17 v25 (fun q_v25 => lSuccessionOrder_L2 l y13 n16 v17 x19 k_1 N fu2 q_v25) N (-1) 0) else k_1 (IntKind.i64.wrap (n16 + ((x19.map cInt).length : Int))) (IntKind.i64.wrap (v17 + 1))
def lSuccessionOrder_L1 (l : List Aut) (y13 : List (List Int) × Int) (N : Nat) : Nat → Int → Int → Option (Bool)
  | 0, _, _ => none
  | fu1 + 1, n16, v17 => bif decide (v17 < ((y13.1.map cSl_Int).length : Int)) then (Option.bind (ix y13.1 v17) fun x19 => bif (((x19.map cInt).length : Int) == 0) then some (false) else (Option.bind (slIsSorted_S x19) fun y22 => bif (!y22) then some (false) else lSuccessionOrder_L2 l y13 n16 v17 x19 (fun q_n16 q_v17 => lSuccessionOrder_L1 l y13 N fu1 q_n16 q_v17) N N 0)) else some ((n16 == ((l.map cAut).length : Int)))
def lSuccessionOrder_F (N : Nat) (l : List Aut) : Option (Bool) := Option.bind (lawake_S) fun y1 => bif (!y1) then (Option.bind (lawake_S) fun y4 => some (y4)) else (Option.bind (rFew_S l) fun y6 => bif (!y6) then (Option.bind (lawake_S) fun y9 => some (y9)) else (Option.bind (rCopy_S l) fun y11 => Option.bind (sGenerations_S y11) fun y13 => bif (y13.2 != 0) then some ((((y13.1.map cSl_Int).length : Int) == 0)) else lSuccessionOrder_L1 l y13 N N 0 0))
set_option linter.unusedVariables false in
theorem lSuccessionOrder_Fh {N : Nat} {l : List Aut} {r : Bool} (hF : lSuccessionOrder_F N l = some r) : Holds Try.prog Gw 6 [.sl 6 (l.map cAut)] (lSuccessionOrder_E r) := by
  refine holds_of_wq tabOk mixed Try.func6 (by decide) rfl (Nat.le_of_ble_eq_true rfl) ?_
  refine obind hF fun y1 h2 hF => ?_
  refine Or.inl ⟨_, lawake_h h2, rfl, ?_⟩
  refine And.intro (fun h3 => ?_) (fun h3 => ?_)
  · have hF := cpos h3 hF
    refine obind hF fun y4 h5 hF => ?_
    refine Or.inl ⟨_, lawake_h h5, rfl, ?_⟩
    exact Or.inl ⟨rfl, congrArg (Option.map lSuccessionOrder_E) hF⟩
  · have hF := cneg h3 hF
    refine obind hF fun y6 h7 hF => ?_
    refine Or.inl ⟨_, rFew_h h7, rfl, ?_⟩
    refine And.intro (fun h8 => ?_) (fun h8 => ?_)
    · have hF := cpos h8 hF
      refine obind hF fun y9 h10 hF => ?_
      refine Or.inl ⟨_, lawake_h h10, rfl, ?_⟩
      exact Or.inl ⟨rfl, congrArg (Option.map lSuccessionOrder_E) hF⟩
    · have hF := cneg h8 hF
      refine obind hF fun y11 h12 hF => ?_
      refine Or.inl ⟨_, rCopy_h h12, rfl, ?_⟩
      refine obind hF fun y13 h14 hF => ?_
      refine Or.inl ⟨_, sGenerations_h h14, rfl, ?_⟩
      refine Or.inl ?_
      refine And.intro (fun h15 => ?_) (fun h15 => ?_)
      · have hF := cpos h15 hF
        exact Or.inl ⟨rfl, congrArg (Option.map lSuccessionOrder_E) hF⟩
      · have hF := cneg h15 hF
        refine loop_oq (fun p : Nat × Int × Int => [(0, .c (.sl 6 (l.map cAut))), (5, .c (I p.2.1)), (6, .fnr 21 [.pm 3 0 0]), (34, .c (.sl 1 (y13.1.map cSl_Int))), (35, .c (I ((y13.1.map cSl_Int).length : Int))), (36, .c (I p.2.2))]) (fun p : Nat × Int × Int => [(3, .var [.sl 1 (y13.1.map cSl_Int)])]) (fun p => lSuccessionOrder_L1 l y13 N p.1 p.2.1 p.2.2 = some r) (fun p => p.1) (N, 0, 0) hF ⟨rfl, rfl, rfl, rfl, rfl, rfl, trivial⟩ ⟨rfl, trivial⟩ ?_
        rintro ⟨fu1, n16, v17⟩ hF
        cases fu1 with
        | zero => exact nomatch hF
        | succ fu1 =>
          refine join_no ?_
          refine And.intro (fun h18 => ?_) (fun h18 => ?_)
          · have hF := cpos h18 hF
            refine join_no ?_
            refine obind hF fun x19 h20 hF => ?_
            refine ⟨ix_nn h20, .inl rfl, _, ix_map cSl_Int h20, ?_⟩
            refine And.intro (fun h21 => ?_) (fun h21 => ?_)
            · have hF := cpos h21 hF
              exact Or.inl ⟨rfl, congrArg (Option.map lSuccessionOrder_E) hF⟩
            · have hF := cneg h21 hF
              refine obind hF fun y22 h23 hF => ?_
              refine Or.inl ⟨_, slIsSorted_h h23, rfl, ?_⟩
              refine And.intro (fun h24 => ?_) (fun h24 => ?_)
              · have hF := cpos h24 hF
                exact Or.inl ⟨rfl, congrArg (Option.map lSuccessionOrder_E) hF⟩
              · have hF := cneg h24 hF
                refine loop_oq (fun p : Nat × Int => [(0, .c (.sl 6 (l.map cAut))), (5, .c (I (IntKind.i64.wrap (n16 + ((x19.map cInt).length : Int))))), (6, .fnr 21 [.pm 3 0 0]), (7, .c (I v17)), (34, .c (.sl 1 (y13.1.map cSl_Int))), (35, .c (I ((y13.1.map cSl_Int).length : Int))), (36, .c (I v17)), (49, .c (.sl 1 (x19.map cInt))), (50, .c (B y22)), (51, .c (B (!y22))), (53, .c (.sl 1 (x19.map cInt))), (54, .c (I ((x19.map cInt).length : Int))), (55, .c (I p.2))]) (fun p : Nat × Int => [(3, .var [.sl 1 (y13.1.map cSl_Int)])]) (fun p => lSuccessionOrder_L2 l y13 n16 v17 x19 (fun q_n16 q_v17 => lSuccessionOrder_L1 l y13 N fu1 q_n16 q_v17) N p.1 p.2 = some r) (fun p => p.1) (N, 0) hF ⟨rfl, rfl, rfl, rfl, rfl, rfl, rfl, rfl, rfl, rfl, rfl, rfl, rfl, trivial⟩ ⟨rfl, trivial⟩ ?_
                rintro ⟨fu2, v25⟩ hF
                cases fu2 with
                | zero => exact nomatch hF
                | succ fu2 =>
                  refine join_no ?_
                  refine And.intro (fun h26 => ?_) (fun h26 => ?_)
                  · have hF := cpos h26 hF
                    refine join_no ?_
                    refine obind hF fun x27 h28 hF => ?_
                    refine ⟨ix_nn h28, .inl rfl, _, ix_map cInt h28, ?_⟩
                    refine loop_oq (fun p : Nat × Int × Int => [(0, .c (.sl 6 (l.map cAut))), (5, .c (I (IntKind.i64.wrap (n16 + ((x19.map cInt).length : Int))))), (6, .fnr 21 [.pm 3 0 0]), (7, .c (I v17)), (10, .c (I x27)), (11, .c (I p.2.1)), (34, .c (.sl 1 (y13.1.map cSl_Int))), (35, .c (I ((y13.1.map cSl_Int).length : Int))), (36, .c (I v17)), (49, .c (.sl 1 (x19.map cInt))), (50, .c (B y22)), (51, .c (B (!y22))), (53, .c (.sl 1 (x19.map cInt))), (54, .c (I ((x19.map cInt).length : Int))), (55, .c (I v25)), (59, .c (.sl 6 (l.map cAut))), (60, .c (I ((l.map cAut).length : Int))), (61, .c (I p.2.2))]) (fun p : Nat × Int × Int => [(3, .var [.sl 1 (y13.1.map cSl_Int)])]) (fun p => lSuccessionOrder_L3 l y13 x27 v17 v25 (fun q_v25 => lSuccessionOrder_L2 l y13 n16 v17 x19 (fun q_n16 q_v17 => lSuccessionOrder_L1 l y13 N fu1 q_n16 q_v17) N fu2 q_v25) p.1 p.2.1 p.2.2 = some r) (fun p => p.1) (N, (-1), 0) hF ⟨rfl, rfl, rfl, rfl, rfl, rfl, rfl, rfl, rfl, rfl, rfl, rfl, rfl, rfl, rfl, rfl, rfl, rfl, trivial⟩ ⟨rfl, trivial⟩ ?_
                    rintro ⟨fu3, last29, v30⟩ hF
                    cases fu3 with
                    | zero => exact nomatch hF
                    | succ fu3 =>
                      refine join_no ?_
                      refine And.intro (fun h31 => ?_) (fun h31 => ?_)
                      · have hF := cpos h31 hF
                        refine join_no ?_
                        refine obind hF fun x32 h33 hF => ?_
                        refine ⟨ix_nn h33, .inl rfl, _, ix_map cAut h33, ?_⟩
                        refine Or.inl ?_
                        refine obind hF fun y34 h35 hF => ?_
                        refine Or.inl ⟨_, slContains_h h35, rfl, ?_⟩
                        refine And.intro (fun h36 => ?_) (fun h36 => ?_)
                        · have hF := cpos h36 hF
                          refine obind hF fun y37 h38 hF => ?_
                          refine Or.inl ⟨_, lSuccessionOrder_1_h h38, rfl, ?_⟩
                          exact ⟨(fu3, (if last29 < y37 then y37 else last29), (IntKind.i64.wrap (v30 + 1))), Nat.lt_succ_self _, hF, ⟨rfl, rfl, rfl, rfl, rfl, rfl, rfl, rfl, rfl, rfl, rfl, rfl, rfl, rfl, rfl, rfl, rfl, rfl, trivial⟩, ⟨rfl, trivial⟩⟩
                        · have hF := cneg h36 hF
                          exact ⟨(fu3, last29, (IntKind.i64.wrap (v30 + 1))), Nat.lt_succ_self _, hF, ⟨rfl, rfl, rfl, rfl, rfl, rfl, rfl, rfl, rfl, rfl, rfl, rfl, rfl, rfl, rfl, rfl, rfl, rfl, trivial⟩, ⟨rfl, trivial⟩⟩
                      · have hF := cneg h31 hF
                        refine obind hF fun y39 h40 hF => ?_
                        refine Or.inl ⟨_, lSuccessionOrder_1_h h40, rfl, ?_⟩
                        refine And.intro (fun h41 => ?_) (fun h41 => ?_)
                        · have hF := cpos h41 hF
                          exact Or.inl ⟨rfl, congrArg (Option.map lSuccessionOrder_E) hF⟩
                        · have hF := cneg h41 hF
                          refine And.intro (fun h42 => ?_) (fun h42 => ?_)
                          · have hF := cpos h42 hF
                            exact Or.inl ⟨rfl, congrArg (Option.map lSuccessionOrder_E) hF⟩
                          · have hF := cneg h42 hF
                            exact ⟨(fu2, (IntKind.i64.wrap (v25 + 1))), Nat.lt_succ_self _, hF, ⟨rfl, rfl, rfl, rfl, rfl, rfl, rfl, rfl, rfl, rfl, rfl, rfl, rfl, trivial⟩, ⟨rfl, trivial⟩⟩
                  · have hF := cneg h26 hF
                    exact ⟨(fu1, (IntKind.i64.wrap (n16 + ((x19.map cInt).length : Int))), (IntKind.i64.wrap (v17 + 1))), Nat.lt_succ_self _, hF, ⟨rfl, rfl, rfl, rfl, rfl, rfl, trivial⟩, ⟨rfl, trivial⟩⟩
          · have hF := cneg h18 hF
            exact Or.inl ⟨rfl, congrArg (Option.map lSuccessionOrder_E) hF⟩
abbrev lSuccessionOrder_S (l : List Aut) : Option (Bool) := lSuccessionOrder_F 1000 l
theorem lSuccessionOrder_h {l : List Aut} {r : Bool} (h : lSuccessionOrder_S l = some r) : Holds Try.prog Gw 6 [.sl 6 (l.map cAut)] (lSuccessionOrder_E r) := lSuccessionOrder_Fh  h
abbrev slCompare_E (y : Int) : CV := I y
def slCompare_L1 (s1 : List Int) (s2 : List Int) : Nat → Int → Option (Int)
  | 0, _ => none
  | fu1 + 1, v1 => bif decide (v1 < ((s1.map cInt).length : Int)) then (Option.bind (ix s1 v1) fun x3 => bif decide (v1 ≥ ((s2.map cInt).length : Int)) then some (1) else (Option.bind (ix s2 v1) fun x6 => Option.bind (cmpCompare_S x3 x6) fun y8 => bif (y8 != 0) then some (y8) else slCompare_L1 s1 s2 fu1 (IntKind.i64.wrap (v1 + 1)))) else (bif decide (((s1.map cInt).length : Int) < ((s2.map cInt).length : Int)) then some ((-1)) else some (0))
def slCompare_F (N : Nat) (s1 : List Int) (s2 : List Int) : Option (Int) := slCompare_L1 s1 s2 N 0
set_option linter.unusedVariables false in
theorem slCompare_Fh {N : Nat} {s1 : List Int} {s2 : List Int} {r : Int} (hF : slCompare_F N s1 s2 = some r) : Holds Try.prog Gw 26 [.sl 1 (s1.map cInt), .sl 1 (s2.map cInt)] (slCompare_E r) := by
  refine holds_of_wq tabOk mixed Try.func26 (by decide) rfl (Nat.le_of_ble_eq_true rfl) ?_
  refine loop_oq (fun p : Nat × Int => [(0, .c (.sl 1 (s1.map cInt))), (1, .c (.sl 1 (s2.map cInt))), (9, .c (.sl 1 (s1.map cInt))), (10, .c (I ((s1.map cInt).length : Int))), (11, .c (I p.2))]) (fun _ => []) (fun p => slCompare_L1 s1 s2 p.1 p.2 = some r) (fun p => p.1) (N, 0) hF ⟨rfl, rfl, rfl, rfl, rfl, trivial⟩ trivial ?_
  rintro ⟨fu1, v1⟩ hF
  cases fu1 with
  | zero => exact nomatch hF
  | succ fu1 =>
    refine join_no ?_
    refine And.intro (fun h2 => ?_) (fun h2 => ?_)
    · have hF := cpos h2 hF
      refine join_no ?_
      refine obind hF fun x3 h4 hF => ?_
      refine ⟨ix_nn h4, .inl rfl, _, ix_map cInt h4, ?_⟩
      refine And.intro (fun h5 => ?_) (fun h5 => ?_)
      · have hF := cpos h5 hF
        exact Or.inl ⟨rfl, congrArg (Option.map slCompare_E) hF⟩
      · have hF := cneg h5 hF
        refine obind hF fun x6 h7 hF => ?_
        refine ⟨ix_nn h7, .inl rfl, _, ix_map cInt h7, ?_⟩
        refine obind hF fun y8 h9 hF => ?_
        refine Or.inl ⟨_, cmpCompare_h h9, rfl, ?_⟩
        refine And.intro (fun h10 => ?_) (fun h10 => ?_)
        · have hF := cpos h10 hF
          exact Or.inl ⟨rfl, congrArg (Option.map slCompare_E) hF⟩
        · have hF := cneg h10 hF
          exact ⟨(fu1, (IntKind.i64.wrap (v1 + 1))), Nat.lt_succ_self _, hF, ⟨rfl, rfl, rfl, rfl, rfl, trivial⟩, trivial⟩
    · have hF := cneg h2 hF
      refine And.intro (fun h11 => ?_) (fun h11 => ?_)
      · have hF := cpos h11 hF
        exact Or.inl ⟨rfl, congrArg (Option.map slCompare_E) hF⟩
      · have hF := cneg h11 hF
        exact Or.inl ⟨rfl, congrArg (Option.map slCompare_E) hF⟩
abbrev slCompare_S (s1 : List Int) (s2 : List Int) : Option (Int) := slCompare_F (s1.length + 1) s1 s2
theorem slCompare_h {s1 : List Int} {s2 : List Int} {r : Int} (h : slCompare_S s1 s2 = some r) : Holds Try.prog Gw 26 [.sl 1 (s1.map cInt), .sl 1 (s2.map cInt)] (slCompare_E r) := slCompare_Fh  h
abbrev lSuccessionTime_E (y : Bool) : CV := B y
def lSuccessionTime_L2 (l : List Aut) (to : Int) (y13 : List Int × Int) (v23 : Int) (y29 : Aut × Bool) (k_1 : Int → Option (Bool)) : Nat → Int → Option (Bool)
  | 0, _ => none
  | fu2 + 1, v45 => bif decide (v45 < ((y29.1.Next.map cInt).length : Int)) then (Option.bind (ix y29.1.Next v45) fun x47 => Option.bind (rCopy_S l) fun y49 => Option.bind (sWay_S y49 x47 to) fun y51 => bif (y51.2 == 0) then (bif decide (((y51.1.map cInt).length : Int) < (IntKind.i64.wrap ((IntKind.i64.wrap (((y13.1.map cInt).length : Int) - v23)) - 1))) then some (false) else (bif (((y51.1.map cInt).length : Int) == (IntKind.i64.wrap ((IntKind.i64.wrap (((y13.1.map cInt).length : Int) - v23)) - 1))) then (Option.bind (slc y13.1 (IntKind.i64.wrap (v23 + 1)) (y13.1.length : Int)) fun y56 => Option.bind (slCompare_S y51.1 y56) fun y58 => bif decide (y58 < 0) then some (false) else lSuccessionTime_L2 l to y13 v23 y29 k_1 fu2 (IntKind.i64.wrap (v45 + 1))) else lSuccessionTime_L2 l to y13 v23 y29 k_1 fu2 (IntKind.i64.wrap (v45 + 1)))) else lSuccessionTime_L2 l to y13 v23 y29 k_1 fu2 (IntKind.i64.wrap (v45 + 1))) else k_1 (IntKind.i64.wrap (v23 + 1))
def lSuccessionTime_L1 (l : List Aut) (to : Int) (y13 : List Int × Int) (N : Nat) : Nat → Int → Option (Bool)
  | 0, _ => none
  | fu1 + 1, v23 => bif decide (v23 < (IntKind.i64.wrap (((y13.1.map cInt).length : Int) - 1))) then (Option.bind (rCopy_S l) fun y25 => Option.bind (ix y13.1 v23) fun x27 => Option.bind (pFind_S y25 x27) fun y29 => Option.bind (rCopy_S l) fun y31 => Option.bind (ix y13.1 (IntKind.i64.wrap (v23 + 1))) fun x33 => Option.bind (pFind_S y31 x33) fun y35 => bif (!y29.2) then some (false) else (bif (!y35.2) then some (false) else (Option.bind (ix y13.1 (IntKind.i64.wrap (v23 + 1))) fun x39 => Option.bind (slContains_S y29.1.Next x39) fun y41 => bif (!y41) then some (false) else (bif (y29.1.In.Until != y35.1.In.From) then some (false) else lSuccessionTime_L2 l to y13 v23 y29 (fun q_v23 => lSuccessionTime_L1 l to y13 N fu1 q_v23) N 0)))) else some (true)
def lSuccessionTime_F (N : Nat) (l : List Aut) (from_ : Int) (to : Int) : Option (Bool) := Option.bind (lawake_S) fun y1 => bif (!y1) then (Option.bind (lawake_S) fun y4 => some (y4)) else (Option.bind (rFew_S l) fun y6 => bif (!y6) then (Option.bind (lawake_S) fun y9 => some (y9)) else (Option.bind (rCopy_S l) fun y11 => Option.bind (sWay_S y11 from_ to) fun y13 => bif (y13.2 != 0) then some ((((y13.1.map cInt).length : Int) == 0)) else (bif (((y13.1.map cInt).length : Int) == 0) then some (false) else (Option.bind (ix y13.1 0) fun x17 => bif (x17 != from_) then some (false) else (Option.bind (ix y13.1 (IntKind.i64.wrap (((y13.1.map cInt).length : Int) - 1))) fun x20 => bif (x20 != to) then some (false) else lSuccessionTime_L1 l to y13 N N 0)))))
set_option linter.unusedVariables false in
theorem lSuccessionTime_Fh {N : Nat} {l : List Aut} {from_ : Int} {to : Int} {r : Bool} (hF : lSuccessionTime_F N l from_ to = some r) : Holds Try.prog Gw 7 [.sl 6 (l.map cAut), I from_, I to] (lSuccessionTime_E r) := by
  refine holds_of_wq tabOk mixed Try.func7 (by decide) rfl (Nat.le_of_ble_eq_true rfl) ?_
  refine obind hF fun y1 h2 hF => ?_
  refine Or.inl ⟨_, lawake_h h2, rfl, ?_⟩
  refine And.intro (fun h3 => ?_) (fun h3 => ?_)
  · have hF := cpos h3 hF
    refine obind hF fun y4 h5 hF => ?_
    refine Or.inl ⟨_, lawake_h h5, rfl, ?_⟩
    exact Or.inl ⟨rfl, congrArg (Option.map lSuccessionTime_E) hF⟩
  · have hF := cneg h3 hF
    refine obind hF fun y6 h7 hF => ?_
    refine Or.inl ⟨_, rFew_h h7, rfl, ?_⟩
    refine And.intro (fun h8 => ?_) (fun h8 => ?_)
    · have hF := cpos h8 hF
      refine obind hF fun y9 h10 hF => ?_
      refine Or.inl ⟨_, lawake_h h10, rfl, ?_⟩
      exact Or.inl ⟨rfl, congrArg (Option.map lSuccessionTime_E) hF⟩
    · have hF := cneg h8 hF
      refine obind hF fun y11 h12 hF => ?_
      refine Or.inl ⟨_, rCopy_h h12, rfl, ?_⟩
      refine obind hF fun y13 h14 hF => ?_
      refine Or.inl ⟨_, sWay_h h14, rfl, ?_⟩
      refine And.intro (fun h15 => ?_) (fun h15 => ?_)
      · have hF := cpos h15 hF
        exact Or.inl ⟨rfl, congrArg (Option.map lSuccessionTime_E) hF⟩
      · have hF := cneg h15 hF
        refine And.intro (fun h16 => ?_) (fun h16 => ?_)
        · have hF := cpos h16 hF
          exact Or.inl ⟨rfl, congrArg (Option.map lSuccessionTime_E) hF⟩
        · have hF := cneg h16 hF
          refine obind hF fun x17 h18 hF => ?_
          refine ⟨ix_nn h18, .inl rfl, _, ix_map cInt h18, ?_⟩
          refine And.intro (fun h19 => ?_) (fun h19 => ?_)
          · have hF := cpos h19 hF
            exact Or.inl ⟨rfl, congrArg (Option.map lSuccessionTime_E) hF⟩
          · have hF := cneg h19 hF
            refine obind hF fun x20 h21 hF => ?_
            refine ⟨ix_nn h21, .inl rfl, _, ix_map cInt h21, ?_⟩
            refine And.intro (fun h22 => ?_) (fun h22 => ?_)
            · have hF := cpos h22 hF
              exact Or.inl ⟨rfl, congrArg (Option.map lSuccessionTime_E) hF⟩
            · have hF := cneg h22 hF
              refine loop_oq (fun p : Nat × Int => [(0, .c (.sl 6 (l.map cAut))), (2, .c (I to)), (7, .c (.sl 1 (y13.1.map cInt))), (61, .c (I (IntKind.i64.wrap (((y13.1.map cInt).length : Int) - 1)))), (62, .c (I p.2))]) (fun _ => []) (fun p => lSuccessionTime_L1 l to y13 N p.1 p.2 = some r) (fun p => p.1) (N, 0) hF ⟨rfl, rfl, rfl, rfl, rfl, trivial⟩ trivial ?_
              rintro ⟨fu1, v23⟩ hF
              cases fu1 with
              | zero => exact nomatch hF
              | succ fu1 =>
                refine join_no ?_
                refine And.intro (fun h24 => ?_) (fun h24 => ?_)
                · have hF := cpos h24 hF
                  refine join_no ?_
                  refine obind hF fun y25 h26 hF => ?_
                  refine Or.inl ⟨_, rCopy_h h26, rfl, ?_⟩
                  refine obind hF fun x27 h28 hF => ?_
                  refine ⟨ix_nn h28, .inl rfl, _, ix_map cInt h28, ?_⟩
                  refine obind hF fun y29 h30 hF => ?_
                  refine Or.inl ⟨_, pFind_h h30, rfl, ?_⟩
                  refine Or.inl ?_
                  refine And.intro (by kernel_rfl) ?_
                  refine obind hF fun y31 h32 hF => ?_
                  refine Or.inl ⟨_, rCopy_h h32, rfl, ?_⟩
                  refine obind hF fun x33 h34 hF => ?_
                  refine ⟨ix_nn h34, .inl rfl, _, ix_map cInt h34, ?_⟩
                  refine obind hF fun y35 h36 hF => ?_
                  refine Or.inl ⟨_, pFind_h h36, rfl, ?_⟩
                  refine Or.inl ?_
                  refine And.intro (by kernel_rfl) ?_
                  refine And.intro (fun h37 => ?_) (fun h37 => ?_)
                  · have hF := cpos h37 hF
                    refine And.intro (by kernel_rfl) ?_
                    exact Or.inl ⟨rfl, congrArg (Option.map lSuccessionTime_E) hF⟩
                  · have hF := cneg h37 hF
                    refine And.intro (fun h38 => ?_) (fun h38 => ?_)
                    · have hF := cpos h38 hF
                      refine And.intro (by kernel_rfl) ?_
                      exact Or.inl ⟨rfl, congrArg (Option.map lSuccessionTime_E) hF⟩
                    · have hF := cneg h38 hF
                      refine obind hF fun x39 h40 hF => ?_
                      refine ⟨ix_nn h40, .inl rfl, _, ix_map cInt h40, ?_⟩
                      refine obind hF fun y41 h42 hF => ?_
                      refine Or.inl ⟨_, slContains_h h42, rfl, ?_⟩
                      refine And.intro (fun h43 => ?_) (fun h43 => ?_)
                      · have hF := cpos h43 hF
                        refine And.intro (by kernel_rfl) ?_
                        exact Or.inl ⟨rfl, congrArg (Option.map lSuccessionTime_E) hF⟩
                      · have hF := cneg h43 hF
                        refine And.intro (by kernel_rfl) ?_
                        refine And.intro (fun h44 => ?_) (fun h44 => ?_)
                        · have hF := cpos h44 hF
                          exact Or.inl ⟨rfl, congrArg (Option.map lSuccessionTime_E) hF⟩
                        · have hF := cneg h44 hF
                          refine loop_oq (fun p : Nat × Int => [(0, .c (.sl 6 (l.map cAut))), (2, .c (I to)), (7, .c (.sl 1 (y13.1.map cInt))), (9, .c (I v23)), (61, .c (I (IntKind.i64.wrap (((y13.1.map cInt).length : Int) - 1)))), (62, .c (I v23)), (89, .c (B y35.2)), (90, .c (B (!y35.2))), (93, .pm 10 0 5), (94, .c (.sl 1 (y29.1.Next.map cInt))), (95, .c (.sl 1 (y13.1.map cInt))), (96, .c (I v23)), (97, .c (I (IntKind.i64.wrap (v23 + 1)))), (98, .c (.pi [I x39] 0)), (99, .c (I x39)), (100, .c (B y41)), (101, .c (B (!y41))), (104, .pm 10 0 2), (105, .pm 10 0 3), (106, .c (I y29.1.In.Until)), (107, .pm 12 0 2), (108, .pm 12 0 2), (109, .c (I y35.1.In.From)), (110, .c (B (y29.1.In.Until != y35.1.In.From))), (113, .c (.sl 1 (y29.1.Next.map cInt))), (114, .c (I ((y29.1.Next.map cInt).length : Int))), (115, .c (I p.2))]) (fun p : Nat × Int => [(10, .var [I y29.1.ID, I y29.1.Kind, I y29.1.In.From, I y29.1.In.Until, .sl 3 (y29.1.Names.map cNam), .sl 1 (y29.1.Next.map cInt)]), (12, .var [I y35.1.ID, I y35.1.Kind, I y35.1.In.From, I y35.1.In.Until, .sl 3 (y35.1.Names.map cNam), .sl 1 (y35.1.Next.map cInt)])]) (fun p => lSuccessionTime_L2 l to y13 v23 y29 (fun q_v23 => lSuccessionTime_L1 l to y13 N fu1 q_v23) p.1 p.2 = some r) (fun p => p.1) (N, 0) hF ⟨rfl, rfl, rfl, rfl, rfl, rfl, rfl, rfl, rfl, rfl, rfl, rfl, rfl, rfl, rfl, rfl, rfl, rfl, rfl, rfl, rfl, rfl, rfl, rfl, rfl, rfl, rfl, trivial⟩ ⟨rfl, rfl, trivial⟩ ?_
                          rintro ⟨fu2, v45⟩ hF
                          cases fu2 with
                          | zero => exact nomatch hF
                          | succ fu2 =>
                            refine join_no ?_
                            refine And.intro (fun h46 => ?_) (fun h46 => ?_)
                            · have hF := cpos h46 hF
                              refine join_no ?_
                              refine obind hF fun x47 h48 hF => ?_
                              refine ⟨ix_nn h48, .inl rfl, _, ix_map cInt h48, ?_⟩
                              refine obind hF fun y49 h50 hF => ?_
                              refine Or.inl ⟨_, rCopy_h h50, rfl, ?_⟩
                              refine obind hF fun y51 h52 hF => ?_
                              refine Or.inl ⟨_, sWay_h h52, rfl, ?_⟩
                              refine And.intro (fun h53 => ?_) (fun h53 => ?_)
                              · have hF := cpos h53 hF
                                refine And.intro (fun h54 => ?_) (fun h54 => ?_)
                                · have hF := cpos h54 hF
                                  exact Or.inl ⟨rfl, congrArg (Option.map lSuccessionTime_E) hF⟩
                                · have hF := cneg h54 hF
                                  refine And.intro (fun h55 => ?_) (fun h55 => ?_)
                                  · have hF := cpos h55 hF
                                    refine obind hF fun y56 h57 hF => ?_
                                    refine Or.inr ⟨[], 0, _, _, _, _, rfl, rfl, eff_slice_l (cf := cInt) tok25.u tok3 h57, rfl, ?_⟩
                                    refine obind hF fun y58 h59 hF => ?_
                                    refine Or.inl ⟨_, slCompare_h h59, rfl, ?_⟩
                                    refine And.intro (fun h60 => ?_) (fun h60 => ?_)
                                    · have hF := cpos h60 hF
                                      exact Or.inl ⟨rfl, congrArg (Option.map lSuccessionTime_E) hF⟩
                                    · have hF := cneg h60 hF
                                      exact ⟨(fu2, (IntKind.i64.wrap (v45 + 1))), Nat.lt_succ_self _, hF, ⟨rfl, rfl, rfl, rfl, rfl, rfl, rfl, rfl, rfl, rfl, rfl, rfl, rfl, rfl, rfl, rfl, rfl, rfl, rfl, rfl, rfl, rfl, rfl, rfl, rfl, rfl, rfl, trivial⟩, ⟨rfl, rfl, trivial⟩⟩
                                  · have hF := cneg h55 hF
                                    exact ⟨(fu2, (IntKind.i64.wrap (v45 + 1))), Nat.lt_succ_self _, hF, ⟨rfl, rfl, rfl, rfl, rfl, rfl, rfl, rfl, rfl, rfl, rfl, rfl, rfl, rfl, rfl, rfl, rfl, rfl, rfl, rfl, rfl, rfl, rfl, rfl, rfl, rfl, rfl, trivial⟩, ⟨rfl, rfl, trivial⟩⟩
                              · have hF := cneg h53 hF
                                exact ⟨(fu2, (IntKind.i64.wrap (v45 + 1))), Nat.lt_succ_self _, hF, ⟨rfl, rfl, rfl, rfl, rfl, rfl, rfl, rfl, rfl, rfl, rfl, rfl, rfl, rfl, rfl, rfl, rfl, rfl, rfl, rfl, rfl, rfl, rfl, rfl, rfl, rfl, rfl, trivial⟩, ⟨rfl, rfl, trivial⟩⟩
                            · have hF := cneg h46 hF
                              exact ⟨(fu1, (IntKind.i64.wrap (v23 + 1))), Nat.lt_succ_self _, hF, ⟨rfl, rfl, rfl, rfl, rfl, trivial⟩, trivial⟩
                · have hF := cneg h24 hF
                  exact Or.inl ⟨rfl, congrArg (Option.map lSuccessionTime_E) hF⟩
abbrev lSuccessionTime_S (l : List Aut) (from_ : Int) (to : Int) : Option (Bool) := lSuccessionTime_F 1000 l from_ to
theorem lSuccessionTime_h {l : List Aut} {from_ : Int} {to : Int} {r : Bool} (h : lSuccessionTime_S l from_ to = some r) : Holds Try.prog Gw 7 [.sl 6 (l.map cAut), I from_, I to] (lSuccessionTime_E r) := lSuccessionTime_Fh  h
end Go.Proofs.Ytdoldlbcjcfmdaa
