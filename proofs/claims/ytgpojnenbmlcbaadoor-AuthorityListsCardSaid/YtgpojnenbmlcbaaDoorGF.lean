/- Functions of the program as functions of Lean, each with its contract (printed by a program). -/
import Derived.Test.YtgpojnenbmlcbaaDoorRCopy
namespace Go.Proofs.YtgpojnenbmlcbaaDoor
open Go Go.Abs
set_option maxRecDepth 10000
set_option maxHeartbeats 400000
abbrev rindex_E (y : Int) : CV := I y
def rindex_L1 (l : List Aut) (id : Int) : Nat → Int → Option (Int)
  | 0, _ => none
  | fu1 + 1, i1 => bif decide (i1 < ((l.map cAut).length : Int)) then (Option.bind (ix l i1) fun x3 => bif (x3.ID == id) then some (i1) else rindex_L1 l id fu1 (IntKind.i64.wrap (i1 + 1))) else some ((-1))
def rindex_F (N : Nat) (l : List Aut) (id : Int) : Option (Int) := rindex_L1 l id N 0
set_option linter.unusedVariables false in
theorem rindex_Fh {N : Nat} {l : List Aut} {id : Int} {r : Int} (hF : rindex_F N l id = some r) : Holds Tryd.prog Gw 55 [.sl 6 (l.map cAut), I id] (rindex_E r) := by
  refine holds_of_wq tabOk mixed Tryd.func55 (by decide) rfl (Nat.le_of_ble_eq_true rfl) ?_
  refine loop_oq (fun p : Nat × Int => [(0, .c (.sl 6 (l.map cAut))), (1, .c (I id)), (5, .c (I p.2))]) (fun _ => []) (fun p => rindex_L1 l id p.1 p.2 = some r) (fun p => p.1) (N, 0) hF ⟨rfl, rfl, rfl, trivial⟩ trivial ?_
  rintro ⟨fu1, i1⟩ hF
  cases fu1 with
  | zero => exact nomatch hF
  | succ fu1 =>
    refine And.intro (fun h2 => ?_) (fun h2 => ?_)
    · have hF := cpos h2 hF
      refine join_no ?_
      refine obind hF fun x3 h4 hF => ?_
      refine ⟨ix_nn h4, .inl rfl, _, ix_map cAut h4, ?_⟩
      refine And.intro (fun h5 => ?_) (fun h5 => ?_)
      · have hF := cpos h5 hF
        exact Or.inl ⟨rfl, congrArg (Option.map rindex_E) hF⟩
      · have hF := cneg h5 hF
        exact ⟨(fu1, (IntKind.i64.wrap (i1 + 1))), Nat.lt_succ_self _, hF, ⟨rfl, rfl, rfl, trivial⟩, trivial⟩
    · have hF := cneg h2 hF
      exact Or.inl ⟨rfl, congrArg (Option.map rindex_E) hF⟩
abbrev rindex_S (l : List Aut) (id : Int) : Option (Int) := rindex_F (l.length + 1) l id
theorem rindex_h {l : List Aut} {id : Int} {r : Int} (h : rindex_S l id = some r) : Holds Tryd.prog Gw 55 [.sl 6 (l.map cAut), I id] (rindex_E r) := rindex_Fh  h
abbrev rRename_E (y : List Aut × Int) : CV := .tup [.sl 6 (y.1.map cAut), I y.2]
def rRename_F (l : List Aut) (id : Int) (day : Int) (text : Str) : Option (List Aut × Int) := Option.bind (rbasic_S l day) fun y1 => bif (y1 != 0) then some (([] : List Aut), y1) else (Option.bind (rIsName_S text) fun y4 => bif (!y4) then some (([] : List Aut), 4) else (Option.bind (rindex_S l id) fun y7 => bif decide (y7 < 0) then some (([] : List Aut), 7) else (Option.bind (ix l y7) fun x10 => Option.bind (rOn_S x10.In day) fun y12 => bif (!y12) then some (([] : List Aut), 11) else (Option.bind (ix l y7) fun x15 => Option.bind (ix l y7) fun x17 => Option.bind (ix x15.Names (IntKind.i64.wrap (((x17.Names.map cNam).length : Int) - 1))) fun x19 => bif decide (x19.In.From ≥ day) then some (([] : List Aut), 5) else (Option.bind (ix l y7) fun x22 => bif decide (((x22.Names.map cNam).length : Int) ≥ 16) then some (([] : List Aut), 8) else (Option.bind (rCopy_S l) fun y25 => Option.bind (ix y25 y7) fun x27 => Option.bind (ix x27.Names (IntKind.i64.wrap (((x27.Names.map cNam).length : Int) - 1))) fun x29 => Option.bind (ix l y7) fun x31 => bif decide ((x27.Names.set ((IntKind.i64.wrap (((x27.Names.map cNam).length : Int) - 1))).toNat (⟨x29.Text, (⟨x29.In.From, (if day < x29.In.Until then day else x29.In.Until)⟩ : Span)⟩ : Nam)).length + ([(⟨text, (⟨day, x31.In.Until⟩ : Span)⟩ : Nam)] : List Nam).length ≤ 4294967296) then some ((y25.set (y7).toNat (⟨x27.ID, x27.Kind, x27.In, ((x27.Names.set ((IntKind.i64.wrap (((x27.Names.map cNam).length : Int) - 1))).toNat (⟨x29.Text, (⟨x29.In.From, (if day < x29.In.Until then day else x29.In.Until)⟩ : Span)⟩ : Nam)) ++ ([(⟨text, (⟨day, x31.In.Until⟩ : Span)⟩ : Nam)] : List Nam)), x27.Next⟩ : Aut)), 0) else none))))))
set_option linter.unusedVariables false in
theorem rRename_Fh {l : List Aut} {id : Int} {day : Int} {text : Str} {r : List Aut × Int} (hF : rRename_F l id day text = some r) : Holds Tryd.prog Gw 27 [.sl 6 (l.map cAut), I id, I day, S text] (rRename_E r) := by
  refine holds_of_wq tabOk mixed Tryd.func27 (by decide) rfl (Nat.le_of_ble_eq_true rfl) ?_
  refine Or.inl ?_
  refine obind hF fun y1 h2 hF => ?_
  refine Or.inl ⟨_, rbasic_h h2, rfl, ?_⟩
  refine And.intro (fun h3 => ?_) (fun h3 => ?_)
  · have hF := cpos h3 hF
    refine Or.inl ?_
    exact Or.inl ⟨rfl, congrArg (Option.map rRename_E) hF⟩
  · have hF := cneg h3 hF
    refine obind hF fun y4 h5 hF => ?_
    refine Or.inl ⟨_, rIsName_h h5, rfl, ?_⟩
    refine And.intro (fun h6 => ?_) (fun h6 => ?_)
    · have hF := cpos h6 hF
      refine Or.inl ?_
      exact Or.inl ⟨rfl, congrArg (Option.map rRename_E) hF⟩
    · have hF := cneg h6 hF
      refine obind hF fun y7 h8 hF => ?_
      refine Or.inl ⟨_, rindex_h h8, rfl, ?_⟩
      refine join_no ?_
      refine And.intro (fun h9 => ?_) (fun h9 => ?_)
      · have hF := cpos h9 hF
        refine Or.inl ?_
        exact Or.inl ⟨rfl, congrArg (Option.map rRename_E) hF⟩
      · have hF := cneg h9 hF
        refine obind hF fun x10 h11 hF => ?_
        refine ⟨ix_nn h11, .inl rfl, _, ix_map cAut h11, ?_⟩
        refine obind hF fun y12 h13 hF => ?_
        refine Or.inl ⟨_, rOn_h h13, rfl, ?_⟩
        refine And.intro (fun h14 => ?_) (fun h14 => ?_)
        · have hF := cpos h14 hF
          refine Or.inl ?_
          exact Or.inl ⟨rfl, congrArg (Option.map rRename_E) hF⟩
        · have hF := cneg h14 hF
          refine obind hF fun x15 h16 hF => ?_
          refine ⟨ix_nn h16, .inl rfl, _, ix_map cAut h16, ?_⟩
          refine obind hF fun x17 h18 hF => ?_
          refine ⟨ix_nn h18, .inl rfl, _, ix_map cAut h18, ?_⟩
          refine obind hF fun x19 h20 hF => ?_
          refine ⟨ix_nn h20, .inl rfl, _, ix_map cNam h20, ?_⟩
          refine And.intro (by kernel_rfl) ?_
          refine And.intro (fun h21 => ?_) (fun h21 => ?_)
          · have hF := cpos h21 hF
            refine Or.inl ?_
            exact Or.inl ⟨rfl, congrArg (Option.map rRename_E) hF⟩
          · have hF := cneg h21 hF
            refine obind hF fun x22 h23 hF => ?_
            refine ⟨ix_nn h23, .inl rfl, _, ix_map cAut h23, ?_⟩
            refine And.intro (fun h24 => ?_) (fun h24 => ?_)
            · have hF := cpos h24 hF
              refine Or.inl ?_
              exact Or.inl ⟨rfl, congrArg (Option.map rRename_E) hF⟩
            · have hF := cneg h24 hF
              refine obind hF fun y25 h26 hF => ?_
              refine obind hF fun x27 h28 hF => ?_
              refine Or.inr (Or.inl ⟨_, _, rCopy_Of h26 h28, ?_⟩)
              refine Or.inl ⟨ix_nn h28, ix_lt h28, ?_⟩
              refine Or.inl ?_
              refine Or.inl ⟨_, .inl ⟨rfl, rfl⟩, ?_⟩
              refine Or.inl ⟨ix_nn h28, ix_lt h28, ?_⟩
              refine Or.inl ?_
              refine Or.inl ⟨_, .inl ⟨rfl, rfl⟩, ?_⟩
              refine Or.inl ?_
              refine obind hF fun x29 h30 hF => ?_
              refine Or.inl ⟨ix_nn h30, ix_lt h30, ?_⟩
              refine And.intro (by kernel_rfl) ?_
              refine Or.inl ?_
              refine Or.inl ?_
              refine Or.inl ?_
              refine Or.inl ⟨_, ix_map cNam h30, ?_⟩
              refine Or.inl ?_
              refine Or.inl ?_
              refine Or.inl ?_
              refine Or.inl ⟨_, ix_map cNam h30, ?_⟩
              refine ⟨(x27.Names.set ((IntKind.i64.wrap (((x27.Names.map cNam).length : Int) - 1))).toNat (⟨x29.Text, (⟨x29.In.From, (if day < x29.In.Until then day else x29.In.Until)⟩ : Span)⟩ : Nam)).map cNam, _, .inl ⟨rfl, set_map _ _ _ _, rfl⟩, ?_⟩
              refine Or.inl ⟨ix_nn h28, ix_lt h28, ?_⟩
              refine Or.inl ?_
              refine Or.inl ⟨_, .inl ⟨rfl, rfl⟩, ?_⟩
              refine obind hF fun x31 h32 hF => ?_
              refine ⟨ix_nn h32, .inl rfl, _, ix_map cAut h32, ?_⟩
              refine Or.inl ?_
              refine gpos hF fun h33 hF => ?_
              refine Or.inr ⟨[(65602, 1)], 0, _, _, _, _, rfl, rfl, eff_append (cf := cNam) (l := (x27.Names.set ((IntKind.i64.wrap (((x27.Names.map cNam).length : Int) - 1))).toNat (⟨x29.Text, (⟨x29.In.From, (if day < x29.In.Until then day else x29.In.Until)⟩ : Span)⟩ : Nam))) (ns := ([(⟨text, (⟨day, x31.In.Until⟩ : Span)⟩ : Nam)] : List Nam)) tok25.u tok53 (by decide) (by decide) (fun _ => rfl) h33, rfl, ?_⟩
              refine Or.inl ⟨ix_nn h28, ix_lt h28, ?_⟩
              refine Or.inl ?_
              refine Or.inl ⟨_, .inl ⟨rfl, rfl⟩, ?_⟩
              refine ⟨_, _, .inl ⟨rfl, rfl, rfl⟩, ?_⟩
              refine And.intro (by kernel_rfl) ?_
              refine ret_eq (p := fun r => resFin tab _ (rRename_E r) _) hF ?_
              exact Or.inr ⟨⟨⟨rfl, _, rfl, _, rfl, set_map _ _ _ _⟩, rfl, rfl⟩, by decide⟩
abbrev rRename_S (l : List Aut) (id : Int) (day : Int) (text : Str) : Option (List Aut × Int) := rRename_F l id day text
theorem rRename_h {l : List Aut} {id : Int} {day : Int} {text : Str} {r : List Aut × Int} (h : rRename_S l id day text = some r) : Holds Tryd.prog Gw 27 [.sl 6 (l.map cAut), I id, I day, S text] (rRename_E r) := rRename_Fh  h
abbrev rEnd_E (y : List Aut × Int) : CV := .tup [.sl 6 (y.1.map cAut), I y.2]
def rEnd_L2 (l : List Aut) (id : Int) (k16 : Int) (k_1 : Bool → Int → Option (List Aut × Int)) : Nat → Bool → Int → Option (List Aut × Int)
  | 0, _, _ => none
  | fu2 + 1, follows18, m19 => Option.bind (ix l k16) fun x20 => bif decide (m19 < ((x20.Next.map cInt).length : Int)) then (bif follows18 then rEnd_L2 l id k16 k_1 fu2 true (IntKind.i64.wrap (m19 + 1)) else (Option.bind (ix l k16) fun x24 => Option.bind (ix x24.Next m19) fun x26 => rEnd_L2 l id k16 k_1 fu2 (x26 == id) (IntKind.i64.wrap (m19 + 1)))) else k_1 follows18 (IntKind.i64.wrap (k16 + 1))
def rEnd_L1 (l : List Aut) (id : Int) (day : Int) (y4 : Int) (N : Nat) : Nat → Bool → Int → Option (List Aut × Int)
  | 0, _, _ => none
  | fu1 + 1, follows15, k16 => bif decide (k16 < ((l.map cAut).length : Int)) then rEnd_L2 l id k16 (fun q_follows15 q_k16 => rEnd_L1 l id day y4 N fu1 q_follows15 q_k16) N follows15 0 else (bif follows15 then some (([] : List Aut), 20) else (Option.bind (ix l y4) fun x29 => Option.bind (ix l y4) fun x31 => Option.bind (ix x29.Names (IntKind.i64.wrap (((x31.Names.map cNam).length : Int) - 1))) fun x33 => bif decide (x33.In.From ≥ day) then some (([] : List Aut), 5) else (Option.bind (rCopy_S l) fun y36 => Option.bind (ix y36 y4) fun x38 => Option.bind (ix x38.Names (IntKind.i64.wrap (((x38.Names.map cNam).length : Int) - 1))) fun x40 => some ((y36.set (y4).toNat (⟨x38.ID, x38.Kind, (⟨x38.In.From, day⟩ : Span), (x38.Names.set ((IntKind.i64.wrap (((x38.Names.map cNam).length : Int) - 1))).toNat (⟨x40.Text, (⟨x40.In.From, (if day < x40.In.Until then day else x40.In.Until)⟩ : Span)⟩ : Nam)), x38.Next⟩ : Aut)), 0))))
def rEnd_F (N : Nat) (l : List Aut) (id : Int) (day : Int) : Option (List Aut × Int) := Option.bind (rbasic_S l day) fun y1 => bif (y1 != 0) then some (([] : List Aut), y1) else (Option.bind (rindex_S l id) fun y4 => bif decide (y4 < 0) then some (([] : List Aut), 7) else (bif (day == 0) then some (([] : List Aut), 11) else (Option.bind (ix l y4) fun x8 => Option.bind (rOn_S x8.In (IntKind.i64.wrap (day - 1))) fun y10 => bif (!y10) then some (([] : List Aut), 11) else (Option.bind (ix l y4) fun x13 => rEnd_L1 l id day y4 N N (decide (((x13.Next.map cInt).length : Int) > 0)) 0))))
set_option linter.unusedVariables false in
theorem rEnd_Fh {N : Nat} {l : List Aut} {id : Int} {day : Int} {r : List Aut × Int} (hF : rEnd_F N l id day = some r) : Holds Tryd.prog Gw 29 [.sl 6 (l.map cAut), I id, I day] (rEnd_E r) := by
  refine holds_of_wq tabOk mixed Tryd.func29 (by decide) rfl (Nat.le_of_ble_eq_true rfl) ?_
  refine Or.inl ?_
  refine obind hF fun y1 h2 hF => ?_
  refine Or.inl ⟨_, rbasic_h h2, rfl, ?_⟩
  refine And.intro (fun h3 => ?_) (fun h3 => ?_)
  · have hF := cpos h3 hF
    refine Or.inl ?_
    exact Or.inl ⟨rfl, congrArg (Option.map rEnd_E) hF⟩
  · have hF := cneg h3 hF
    refine obind hF fun y4 h5 hF => ?_
    refine Or.inl ⟨_, rindex_h h5, rfl, ?_⟩
    refine And.intro (fun h6 => ?_) (fun h6 => ?_)
    · have hF := cpos h6 hF
      refine Or.inl ?_
      exact Or.inl ⟨rfl, congrArg (Option.map rEnd_E) hF⟩
    · have hF := cneg h6 hF
      refine And.intro (fun h7 => ?_) (fun h7 => ?_)
      · have hF := cpos h7 hF
        refine Or.inl ?_
        exact Or.inl ⟨rfl, congrArg (Option.map rEnd_E) hF⟩
      · have hF := cneg h7 hF
        refine obind hF fun x8 h9 hF => ?_
        refine ⟨ix_nn h9, .inl rfl, _, ix_map cAut h9, ?_⟩
        refine obind hF fun y10 h11 hF => ?_
        refine Or.inl ⟨_, rOn_h h11, rfl, ?_⟩
        refine And.intro (fun h12 => ?_) (fun h12 => ?_)
        · have hF := cpos h12 hF
          refine Or.inl ?_
          exact Or.inl ⟨rfl, congrArg (Option.map rEnd_E) hF⟩
        · have hF := cneg h12 hF
          refine obind hF fun x13 h14 hF => ?_
          refine ⟨ix_nn h14, .inl rfl, _, ix_map cAut h14, ?_⟩
          refine loop_oq (fun p : Nat × Bool × Int => [(0, .c (.sl 6 (l.map cAut))), (1, .c (I id)), (2, .c (I day)), (9, .c (I y4)), (10, .c (B p.2.1)), (11, .c (I p.2.2))]) (fun _ => []) (fun p => rEnd_L1 l id day y4 N p.1 p.2.1 p.2.2 = some r) (fun p => p.1) (N, decide (((x13.Next.map cInt).length : Int) > 0), 0) hF ⟨rfl, rfl, rfl, rfl, rfl, rfl, trivial⟩ trivial ?_
          rintro ⟨fu1, follows15, k16⟩ hF
          cases fu1 with
          | zero => exact nomatch hF
          | succ fu1 =>
            refine And.intro (fun h17 => ?_) (fun h17 => ?_)
            · have hF := cpos h17 hF
              refine join_no ?_
              refine loop_oq (fun p : Nat × Bool × Int => [(0, .c (.sl 6 (l.map cAut))), (1, .c (I id)), (2, .c (I day)), (9, .c (I y4)), (10, .c (B p.2.1)), (11, .c (I k16)), (12, .c (I p.2.2))]) (fun _ => []) (fun p => rEnd_L2 l id k16 (fun q_follows15 q_k16 => rEnd_L1 l id day y4 N fu1 q_follows15 q_k16) p.1 p.2.1 p.2.2 = some r) (fun p => p.1) (N, follows15, 0) hF ⟨rfl, rfl, rfl, rfl, rfl, rfl, rfl, trivial⟩ trivial ?_
              rintro ⟨fu2, follows18, m19⟩ hF
              cases fu2 with
              | zero => exact nomatch hF
              | succ fu2 =>
                refine obind hF fun x20 h21 hF => ?_
                refine ⟨ix_nn h21, .inl rfl, _, ix_map cAut h21, ?_⟩
                refine And.intro (fun h22 => ?_) (fun h22 => ?_)
                · have hF := cpos h22 hF
                  refine join_no ?_
                  refine And.intro (fun h23 => ?_) (fun h23 => ?_)
                  · have hF := cpos h23 hF
                    exact ⟨(fu2, true, (IntKind.i64.wrap (m19 + 1))), Nat.lt_succ_self _, hF, ⟨rfl, rfl, rfl, rfl, rfl, rfl, rfl, trivial⟩, trivial⟩
                  · have hF := cneg h23 hF
                    refine obind hF fun x24 h25 hF => ?_
                    refine ⟨ix_nn h25, .inl rfl, _, ix_map cAut h25, ?_⟩
                    refine obind hF fun x26 h27 hF => ?_
                    refine ⟨ix_nn h27, .inl rfl, _, ix_map cInt h27, ?_⟩
                    exact ⟨(fu2, (x26 == id), (IntKind.i64.wrap (m19 + 1))), Nat.lt_succ_self _, hF, ⟨rfl, rfl, rfl, rfl, rfl, rfl, rfl, trivial⟩, trivial⟩
                · have hF := cneg h22 hF
                  exact ⟨(fu1, follows18, (IntKind.i64.wrap (k16 + 1))), Nat.lt_succ_self _, hF, ⟨rfl, rfl, rfl, rfl, rfl, rfl, trivial⟩, trivial⟩
            · have hF := cneg h17 hF
              refine And.intro (fun h28 => ?_) (fun h28 => ?_)
              · have hF := cpos h28 hF
                refine Or.inl ?_
                exact Or.inl ⟨rfl, congrArg (Option.map rEnd_E) hF⟩
              · have hF := cneg h28 hF
                refine obind hF fun x29 h30 hF => ?_
                refine ⟨ix_nn h30, .inl rfl, _, ix_map cAut h30, ?_⟩
                refine obind hF fun x31 h32 hF => ?_
                refine ⟨ix_nn h32, .inl rfl, _, ix_map cAut h32, ?_⟩
                refine obind hF fun x33 h34 hF => ?_
                refine ⟨ix_nn h34, .inl rfl, _, ix_map cNam h34, ?_⟩
                refine And.intro (by kernel_rfl) ?_
                refine And.intro (fun h35 => ?_) (fun h35 => ?_)
                · have hF := cpos h35 hF
                  refine Or.inl ?_
                  exact Or.inl ⟨rfl, congrArg (Option.map rEnd_E) hF⟩
                · have hF := cneg h35 hF
                  refine obind hF fun y36 h37 hF => ?_
                  refine obind hF fun x38 h39 hF => ?_
                  refine Or.inr (Or.inl ⟨_, _, rCopy_Of h37 h39, ?_⟩)
                  refine Or.inl ⟨ix_nn h39, ix_lt h39, ?_⟩
                  refine Or.inl ?_
                  refine Or.inl ?_
                  refine Or.inl ⟨_, .inl ⟨rfl, rfl⟩, ?_⟩
                  refine ⟨_, _, .inl ⟨rfl, rfl, rfl⟩, ?_⟩
                  refine Or.inl ⟨ix_nn h39, ix_lt h39, ?_⟩
                  refine Or.inl ?_
                  refine Or.inl ⟨_, .inl ⟨rfl, rfl⟩, ?_⟩
                  refine Or.inl ⟨ix_nn h39, ix_lt h39, ?_⟩
                  refine Or.inl ?_
                  refine Or.inl ⟨_, .inl ⟨rfl, rfl⟩, ?_⟩
                  refine Or.inl ?_
                  refine obind hF fun x40 h41 hF => ?_
                  refine Or.inl ⟨ix_nn h41, ix_lt h41, ?_⟩
                  refine And.intro (by kernel_rfl) ?_
                  refine Or.inl ?_
                  refine Or.inl ?_
                  refine Or.inl ?_
                  refine Or.inl ⟨_, ix_map cNam h41, ?_⟩
                  refine Or.inl ?_
                  refine Or.inl ?_
                  refine Or.inl ?_
                  refine Or.inl ⟨_, ix_map cNam h41, ?_⟩
                  refine ⟨(x38.Names.set ((IntKind.i64.wrap (((x38.Names.map cNam).length : Int) - 1))).toNat (⟨x40.Text, (⟨x40.In.From, (if day < x40.In.Until then day else x40.In.Until)⟩ : Span)⟩ : Nam)).map cNam, _, .inl ⟨rfl, set_map _ _ _ _, rfl⟩, ?_⟩
                  refine ret_eq (p := fun r => resFin tab _ (rEnd_E r) _) hF ?_
                  exact Or.inr ⟨⟨⟨rfl, _, rfl, _, rfl, set_map _ _ _ _⟩, rfl, rfl⟩, by decide⟩
abbrev rEnd_S (l : List Aut) (id : Int) (day : Int) : Option (List Aut × Int) := rEnd_F 1000 l id day
theorem rEnd_h {l : List Aut} {id : Int} {day : Int} {r : List Aut × Int} (h : rEnd_S l id day = some r) : Holds Tryd.prog Gw 29 [.sl 6 (l.map cAut), I id, I day] (rEnd_E r) := rEnd_Fh  h
abbrev lAuthorityChanges_E (y : Bool) : CV := B y
def lAuthorityChanges_F (l : List Aut) (id : Int) (day : Int) (text : Str) : Option (Bool) := Option.bind (lawake_S) fun y1 => bif (!y1) then (Option.bind (lawake_S) fun y4 => some (y4)) else (Option.bind (rFew_S l) fun y6 => bif (!y6) then (Option.bind (lawake_S) fun y9 => some (y9)) else (bif decide ((text.length : Int) > 100) then (Option.bind (lawake_S) fun y12 => some (y12)) else (Option.bind (rCopy_S l) fun y14 => Option.bind (pRename_S y14 id day text) fun y16 => Option.bind (rRename_S l id day text) fun y18 => Option.bind (rCopy_S l) fun y20 => Option.bind (pEnd_S y20 id day) fun y22 => Option.bind (rEnd_S l id day) fun y24 => Option.bind (rSame_S y16.1 y18.1) fun y26 => bif y26 then (bif (y16.2 == y18.2) then (Option.bind (rSame_S y22.1 y24.1) fun y30 => bif y30 then some ((y22.2 == y24.2)) else some (false)) else some (false)) else some (false))))
set_option linter.unusedVariables false in
theorem lAuthorityChanges_Fh {l : List Aut} {id : Int} {day : Int} {text : Str} {r : Bool} (hF : lAuthorityChanges_F l id day text = some r) : Holds Tryd.prog Gw 5 [.sl 6 (l.map cAut), I id, I day, S text] (lAuthorityChanges_E r) := by
  refine holds_of_wq tabOk mixed Tryd.func5 (by decide) rfl (Nat.le_of_ble_eq_true rfl) ?_
  refine obind hF fun y1 h2 hF => ?_
  refine Or.inl ⟨_, lawake_h h2, rfl, ?_⟩
  refine And.intro (fun h3 => ?_) (fun h3 => ?_)
  · have hF := cpos h3 hF
    refine obind hF fun y4 h5 hF => ?_
    refine Or.inl ⟨_, lawake_h h5, rfl, ?_⟩
    exact Or.inl ⟨rfl, congrArg (Option.map lAuthorityChanges_E) hF⟩
  · have hF := cneg h3 hF
    refine obind hF fun y6 h7 hF => ?_
    refine Or.inl ⟨_, rFew_h h7, rfl, ?_⟩
    refine And.intro (fun h8 => ?_) (fun h8 => ?_)
    · have hF := cpos h8 hF
      refine obind hF fun y9 h10 hF => ?_
      refine Or.inl ⟨_, lawake_h h10, rfl, ?_⟩
      exact Or.inl ⟨rfl, congrArg (Option.map lAuthorityChanges_E) hF⟩
    · have hF := cneg h8 hF
      refine And.intro (fun h11 => ?_) (fun h11 => ?_)
      · have hF := cpos h11 hF
        refine obind hF fun y12 h13 hF => ?_
        refine Or.inl ⟨_, lawake_h h13, rfl, ?_⟩
        exact Or.inl ⟨rfl, congrArg (Option.map lAuthorityChanges_E) hF⟩
      · have hF := cneg h11 hF
        refine obind hF fun y14 h15 hF => ?_
        refine Or.inl ⟨_, rCopy_h h15, rfl, ?_⟩
        refine obind hF fun y16 h17 hF => ?_
        refine Or.inl ⟨_, pRename_h h17, rfl, ?_⟩
        refine obind hF fun y18 h19 hF => ?_
        refine Or.inl ⟨_, rRename_h h19, rfl, ?_⟩
        refine obind hF fun y20 h21 hF => ?_
        refine Or.inl ⟨_, rCopy_h h21, rfl, ?_⟩
        refine obind hF fun y22 h23 hF => ?_
        refine Or.inl ⟨_, pEnd_h h23, rfl, ?_⟩
        refine obind hF fun y24 h25 hF => ?_
        refine Or.inl ⟨_, rEnd_h h25, rfl, ?_⟩
        refine obind hF fun y26 h27 hF => ?_
        refine Or.inl ⟨_, rSame_h h27, rfl, ?_⟩
        refine And.intro (fun h28 => ?_) (fun h28 => ?_)
        · have hF := cpos h28 hF
          refine And.intro (fun h29 => ?_) (fun h29 => ?_)
          · have hF := cpos h29 hF
            refine obind hF fun y30 h31 hF => ?_
            refine Or.inl ⟨_, rSame_h h31, rfl, ?_⟩
            refine And.intro (fun h32 => ?_) (fun h32 => ?_)
            · have hF := cpos h32 hF
              exact Or.inl ⟨rfl, congrArg (Option.map lAuthorityChanges_E) hF⟩
            · have hF := cneg h32 hF
              exact Or.inl ⟨rfl, congrArg (Option.map lAuthorityChanges_E) hF⟩
          · have hF := cneg h29 hF
            exact Or.inl ⟨rfl, congrArg (Option.map lAuthorityChanges_E) hF⟩
        · have hF := cneg h28 hF
          exact Or.inl ⟨rfl, congrArg (Option.map lAuthorityChanges_E) hF⟩
abbrev lAuthorityChanges_S (l : List Aut) (id : Int) (day : Int) (text : Str) : Option (Bool) := lAuthorityChanges_F l id day text
theorem lAuthorityChanges_h {l : List Aut} {id : Int} {day : Int} {text : Str} {r : Bool} (h : lAuthorityChanges_S l id day text = some r) : Holds Tryd.prog Gw 5 [.sl 6 (l.map cAut), I id, I day, S text] (lAuthorityChanges_E r) := lAuthorityChanges_Fh  h
end Go.Proofs.YtgpojnenbmlcbaaDoor
