/- Functions of the program as functions of Lean, each with its contract (printed by a program). -/
import Derived.Test.YtdoldlbcjcfmdaaAbsSeal
import Derived.Test.YtdoldlbcjcfmdaaGW
namespace Go.Proofs.Ytdoldlbcjcfmdaa
open Go Go.Abs
set_option maxRecDepth 10000
set_option maxHeartbeats 400000
abbrev rCopyB_E (y : List Aut) : CV := .sl 6 (y.map cAut)
def rCopyB_L1 (l : List Aut) : Nat → List Aut → Int → Option (List Aut)
  | 0, _, _ => none
  | fu1 + 1, out1, i2 => bif decide (i2 < ((l.map cAut).length : Int)) then (Option.bind (ix l i2) fun x4 => bif decide (([] : List Nam).length + x4.Names.length ≤ 140737488355328 ∧ (([] : List Nam).length + x4.Names.length) * 32 ≤ 140737488355328) then bif decide (([] : List Int).length + x4.Next.length ≤ 140737488355328 ∧ (([] : List Int).length + x4.Next.length) * 8 ≤ 140737488355328) then bif decide (out1.length + ([(⟨x4.ID, x4.Kind, x4.In, (([] : List Nam) ++ x4.Names), (([] : List Int) ++ x4.Next)⟩ : Aut)] : List Aut).length ≤ 4294967296) then rCopyB_L1 l fu1 (out1 ++ ([(⟨x4.ID, x4.Kind, x4.In, (([] : List Nam) ++ x4.Names), (([] : List Int) ++ x4.Next)⟩ : Aut)] : List Aut)) (IntKind.i64.wrap (i2 + 1)) else none else none else none) else some (out1)
def rCopyB_F (N : Nat) (l : List Aut) : Option (List Aut) := rCopyB_L1 l N ([] : List Aut) 0
set_option linter.unusedVariables false in
theorem rCopyB_Fh {N : Nat} {l : List Aut} {r : List Aut} (hF : rCopyB_F N l = some r) : Holds Try.prog Gw 11 [.sl 6 (l.map cAut)] (rCopyB_E r) := by
  refine holds_of_wq tabOk mixed Try.func11 (by decide) rfl (Nat.le_of_ble_eq_true rfl) ?_
  refine Or.inl ?_
  refine Or.inl ?_
  refine loop_oq (fun p : Nat × List Aut × Int => [(0, .c (.sl 6 (l.map cAut))), (3, .ap 3 0 6 (p.2.1.map cAut)), (4, .c (I p.2.2))]) (fun p : Nat × List Aut × Int => [(3, .tok 39 6)]) (fun p => rCopyB_L1 l p.1 p.2.1 p.2.2 = some r) (fun p => p.1) (N, ([] : List Aut), 0) hF ⟨rfl, rfl, rfl, trivial⟩ ⟨rfl, trivial⟩ ?_
  rintro ⟨fu1, out1, i2⟩ hF
  cases fu1 with
  | zero => exact nomatch hF
  | succ fu1 =>
    refine And.intro (fun h3 => ?_) (fun h3 => ?_)
    · have hF := cpos h3 hF
      refine join_no ?_
      refine obind hF fun x4 h5 hF => ?_
      refine ⟨ix_nn h5, .inl rfl, _, ix_map cAut h5, ?_⟩
      refine Or.inl ?_
      refine Or.inl ?_
      refine gpos hF fun h8 hF => ?_
      refine Or.inl ⟨len_map (fun _ => rfl), app_big h8, (([] : List Nam) ++ x4.Names).map cNam, map_app _ _ _, ?_⟩
      refine Or.inl ?_
      refine gpos hF fun h7 hF => ?_
      refine Or.inl ⟨len_map (fun _ => rfl), app_big h7, (([] : List Int) ++ x4.Next).map cInt, map_app _ _ _, ?_⟩
      refine And.intro (by kernel_rfl) ?_
      refine Or.inl ?_
      refine gpos hF fun h6 hF => ?_
      refine Or.inl ⟨len_all rfl, app_le (f := cAut) h6, (out1 ++ ([(⟨x4.ID, x4.Kind, x4.In, (([] : List Nam) ++ x4.Names), (([] : List Int) ++ x4.Next)⟩ : Aut)] : List Aut)).map cAut, map_app _ _ _, ?_⟩
      exact ⟨(fu1, (out1 ++ ([(⟨x4.ID, x4.Kind, x4.In, (([] : List Nam) ++ x4.Names), (([] : List Int) ++ x4.Next)⟩ : Aut)] : List Aut)), (IntKind.i64.wrap (i2 + 1))), Nat.lt_succ_self _, hF, ⟨rfl, rfl, rfl, trivial⟩, ⟨rfl, trivial⟩⟩
    · have hF := cneg h3 hF
      exact Or.inl ⟨rfl, congrArg (Option.map rCopyB_E) hF⟩
abbrev rCopyB_S (l : List Aut) : Option (List Aut) := rCopyB_F (l.length + 1) l
theorem rCopyB_h {l : List Aut} {r : List Aut} (h : rCopyB_S l = some r) : Holds Try.prog Gw 11 [.sl 6 (l.map cAut)] (rCopyB_E r) := rCopyB_Fh  h
abbrev lSuccessionSums_E (y : Bool) : CV := B y
def lSuccessionSums_L1 (l : List Aut) (from_ : Int) (to : Int) (y11 : Int × Int) : Nat → Int → Int → Option (Bool)
  | 0, _, _ => none
  | fu1 + 1, sum15, v16 => bif decide (v16 < ((l.map cAut).length : Int)) then (Option.bind (ix l v16) fun x18 => Option.bind (slContains_S x18.Next to) fun y20 => bif y20 then (Option.bind (rCopyB_S l) fun y23 => Option.bind (sShare_S y23 from_ x18.ID) fun y25 => bif (y25.2 != 0) then some (false) else lSuccessionSums_L1 l from_ to y11 fu1 (IntKind.i64.wrap (sum15 + y25.1)) (IntKind.i64.wrap (v16 + 1))) else lSuccessionSums_L1 l from_ to y11 fu1 sum15 (IntKind.i64.wrap (v16 + 1))) else some ((y11.1 == sum15))
def lSuccessionSums_F (N : Nat) (l : List Aut) (from_ : Int) (to : Int) : Option (Bool) := Option.bind (lawake_S) fun y1 => bif (!y1) then (Option.bind (lawake_S) fun y4 => some (y4)) else (bif decide (((l.map cAut).length : Int) > 12) then (Option.bind (lawake_S) fun y7 => some (y7)) else (Option.bind (rCopyB_S l) fun y9 => Option.bind (sShare_S y9 from_ to) fun y11 => bif (y11.2 != 0) then some ((y11.1 == 0)) else (bif (from_ == to) then some ((y11.1 == 1)) else lSuccessionSums_L1 l from_ to y11 N 0 0)))
set_option linter.unusedVariables false in
theorem lSuccessionSums_Fh {N : Nat} {l : List Aut} {from_ : Int} {to : Int} {r : Bool} (hF : lSuccessionSums_F N l from_ to = some r) : Holds Try.prog Gw 4 [.sl 6 (l.map cAut), I from_, I to] (lSuccessionSums_E r) := by
  refine holds_of_wq tabOk mixed Try.func4 (by decide) rfl (Nat.le_of_ble_eq_true rfl) ?_
  refine obind hF fun y1 h2 hF => ?_
  refine Or.inl ⟨_, lawake_h h2, rfl, ?_⟩
  refine And.intro (fun h3 => ?_) (fun h3 => ?_)
  · have hF := cpos h3 hF
    refine obind hF fun y4 h5 hF => ?_
    refine Or.inl ⟨_, lawake_h h5, rfl, ?_⟩
    exact Or.inl ⟨rfl, congrArg (Option.map lSuccessionSums_E) hF⟩
  · have hF := cneg h3 hF
    refine And.intro (fun h6 => ?_) (fun h6 => ?_)
    · have hF := cpos h6 hF
      refine obind hF fun y7 h8 hF => ?_
      refine Or.inl ⟨_, lawake_h h8, rfl, ?_⟩
      exact Or.inl ⟨rfl, congrArg (Option.map lSuccessionSums_E) hF⟩
    · have hF := cneg h6 hF
      refine obind hF fun y9 h10 hF => ?_
      refine Or.inl ⟨_, rCopyB_h h10, rfl, ?_⟩
      refine obind hF fun y11 h12 hF => ?_
      refine Or.inl ⟨_, sShare_h h12, rfl, ?_⟩
      refine And.intro (fun h13 => ?_) (fun h13 => ?_)
      · have hF := cpos h13 hF
        exact Or.inl ⟨rfl, congrArg (Option.map lSuccessionSums_E) hF⟩
      · have hF := cneg h13 hF
        refine And.intro (fun h14 => ?_) (fun h14 => ?_)
        · have hF := cpos h14 hF
          exact Or.inl ⟨rfl, congrArg (Option.map lSuccessionSums_E) hF⟩
        · have hF := cneg h14 hF
          refine loop_oq (fun p : Nat × Int × Int => [(0, .c (.sl 6 (l.map cAut))), (1, .c (I from_)), (2, .c (I to)), (7, .c (I y11.1)), (9, .c (I p.2.1)), (39, .c (.sl 6 (l.map cAut))), (40, .c (I ((l.map cAut).length : Int))), (41, .c (I p.2.2))]) (fun _ => []) (fun p => lSuccessionSums_L1 l from_ to y11 p.1 p.2.1 p.2.2 = some r) (fun p => p.1) (N, 0, 0) hF ⟨rfl, rfl, rfl, rfl, rfl, rfl, rfl, rfl, trivial⟩ trivial ?_
          rintro ⟨fu1, sum15, v16⟩ hF
          cases fu1 with
          | zero => exact nomatch hF
          | succ fu1 =>
            refine join_no ?_
            refine And.intro (fun h17 => ?_) (fun h17 => ?_)
            · have hF := cpos h17 hF
              refine join_no ?_
              refine obind hF fun x18 h19 hF => ?_
              refine ⟨ix_nn h19, .inl rfl, _, ix_map cAut h19, ?_⟩
              refine Or.inl ?_
              refine obind hF fun y20 h21 hF => ?_
              refine Or.inl ⟨_, slContains_h h21, rfl, ?_⟩
              refine And.intro (fun h22 => ?_) (fun h22 => ?_)
              · have hF := cpos h22 hF
                refine obind hF fun y23 h24 hF => ?_
                refine Or.inl ⟨_, rCopyB_h h24, rfl, ?_⟩
                refine obind hF fun y25 h26 hF => ?_
                refine Or.inl ⟨_, sShare_h h26, rfl, ?_⟩
                refine And.intro (by kernel_rfl) ?_
                refine And.intro (fun h27 => ?_) (fun h27 => ?_)
                · have hF := cpos h27 hF
                  exact Or.inl ⟨rfl, congrArg (Option.map lSuccessionSums_E) hF⟩
                · have hF := cneg h27 hF
                  exact ⟨(fu1, (IntKind.i64.wrap (sum15 + y25.1)), (IntKind.i64.wrap (v16 + 1))), Nat.lt_succ_self _, hF, ⟨rfl, rfl, rfl, rfl, rfl, rfl, rfl, rfl, trivial⟩, trivial⟩
              · have hF := cneg h22 hF
                exact ⟨(fu1, sum15, (IntKind.i64.wrap (v16 + 1))), Nat.lt_succ_self _, hF, ⟨rfl, rfl, rfl, rfl, rfl, rfl, rfl, rfl, trivial⟩, trivial⟩
            · have hF := cneg h17 hF
              exact Or.inl ⟨rfl, congrArg (Option.map lSuccessionSums_E) hF⟩
abbrev lSuccessionSums_S (l : List Aut) (from_ : Int) (to : Int) : Option (Bool) := lSuccessionSums_F 1000 l from_ to
theorem lSuccessionSums_h {l : List Aut} {from_ : Int} {to : Int} {r : Bool} (h : lSuccessionSums_S l from_ to = some r) : Holds Try.prog Gw 4 [.sl 6 (l.map cAut), I from_, I to] (lSuccessionSums_E r) := lSuccessionSums_Fh  h
end Go.Proofs.Ytdoldlbcjcfmdaa
