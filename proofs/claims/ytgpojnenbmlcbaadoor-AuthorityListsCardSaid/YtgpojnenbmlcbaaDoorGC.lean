/- Functions of the program as functions of Lean, each with its contract (printed by a program). -/
import Derived.Test.YtgpojnenbmlcbaaDoorCopied
namespace Go.Proofs.YtgpojnenbmlcbaaDoor
open Go Go.Abs
set_option maxRecDepth 10000
set_option maxHeartbeats 400000
abbrev pRename_E (y : List Aut × Int) : CV := .tup [.sl 6 (y.1.map cAut), I y.2]
def pRename_F (l : List Aut) (id : Int) (day : Int) (text : Str) : Option (List Aut × Int) := Option.bind (pasks_S l day) fun y1 => bif (y1 != 0) then some (([] : List Aut), y1) else (Option.bind (pname_S text) fun y4 => bif (!y4) then some (([] : List Aut), 4) else (Option.bind (pindex_S l id) fun y7 => bif decide (y7 < 0) then some (([] : List Aut), 7) else (Option.bind (ix l y7) fun x10 => Option.bind (ix l y7) fun x12 => Option.bind (pin_S x12.In day) fun y14 => bif (!y14) then some (([] : List Aut), 11) else (Option.bind (ix l y7) fun x17 => Option.bind (ix x17.Names (IntKind.i64.wrap (((x10.Names.map cNam).length : Int) - 1))) fun x19 => bif decide (x19.In.From ≥ day) then some (([] : List Aut), 5) else (Option.bind (ix l y7) fun x22 => bif decide (((x22.Names.map cNam).length : Int) ≥ 16) then some (([] : List Aut), 8) else (Option.bind (pcopied_S l) fun y25 => Option.bind (ix y25 y7) fun x27 => Option.bind (ix x27.Names (IntKind.i64.wrap (((x10.Names.map cNam).length : Int) - 1))) fun x29 => bif decide ((x27.Names.set ((IntKind.i64.wrap (((x10.Names.map cNam).length : Int) - 1))).toNat (⟨x29.Text, (⟨x29.In.From, (if day < x29.In.Until then day else x29.In.Until)⟩ : Span)⟩ : Nam)).length + ([(⟨text, (⟨day, x27.In.Until⟩ : Span)⟩ : Nam)] : List Nam).length ≤ 4294967296) then some ((y25.set (y7).toNat (⟨x27.ID, x27.Kind, x27.In, ((x27.Names.set ((IntKind.i64.wrap (((x10.Names.map cNam).length : Int) - 1))).toNat (⟨x29.Text, (⟨x29.In.From, (if day < x29.In.Until then day else x29.In.Until)⟩ : Span)⟩ : Nam)) ++ ([(⟨text, (⟨day, x27.In.Until⟩ : Span)⟩ : Nam)] : List Nam)), x27.Next⟩ : Aut)), 0) else none))))))
set_option linter.unusedVariables false in
theorem pRename_Fh {l : List Aut} {id : Int} {day : Int} {text : Str} {r : List Aut × Int} (hF : pRename_F l id day text = some r) : Holds Tryd.prog Gw 26 [.sl 6 (l.map cAut), I id, I day, S text] (pRename_E r) := by
  refine holds_of_wq tabOk mixed Tryd.func26 (by decide) rfl (Nat.le_of_ble_eq_true rfl) ?_
  refine Or.inl ?_
  refine obind hF fun y1 h2 hF => ?_
  refine Or.inl ⟨_, pasks_h h2, rfl, ?_⟩
  refine And.intro (fun h3 => ?_) (fun h3 => ?_)
  · have hF := cpos h3 hF
    refine Or.inl ?_
    exact Or.inl ⟨rfl, congrArg (Option.map pRename_E) hF⟩
  · have hF := cneg h3 hF
    refine obind hF fun y4 h5 hF => ?_
    refine Or.inl ⟨_, pname_h h5, rfl, ?_⟩
    refine And.intro (fun h6 => ?_) (fun h6 => ?_)
    · have hF := cpos h6 hF
      refine Or.inl ?_
      exact Or.inl ⟨rfl, congrArg (Option.map pRename_E) hF⟩
    · have hF := cneg h6 hF
      refine obind hF fun y7 h8 hF => ?_
      refine Or.inl ⟨_, pindex_h h8, rfl, ?_⟩
      refine And.intro (fun h9 => ?_) (fun h9 => ?_)
      · have hF := cpos h9 hF
        refine Or.inl ?_
        exact Or.inl ⟨rfl, congrArg (Option.map pRename_E) hF⟩
      · have hF := cneg h9 hF
        refine obind hF fun x10 h11 hF => ?_
        refine ⟨ix_nn h11, .inl rfl, _, ix_map cAut h11, ?_⟩
        refine join_no ?_
        refine obind hF fun x12 h13 hF => ?_
        refine ⟨ix_nn h13, .inl rfl, _, ix_map cAut h13, ?_⟩
        refine obind hF fun y14 h15 hF => ?_
        refine Or.inl ⟨_, pin_h h15, rfl, ?_⟩
        refine And.intro (fun h16 => ?_) (fun h16 => ?_)
        · have hF := cpos h16 hF
          refine Or.inl ?_
          exact Or.inl ⟨rfl, congrArg (Option.map pRename_E) hF⟩
        · have hF := cneg h16 hF
          refine obind hF fun x17 h18 hF => ?_
          refine ⟨ix_nn h18, .inl rfl, _, ix_map cAut h18, ?_⟩
          refine obind hF fun x19 h20 hF => ?_
          refine ⟨ix_nn h20, .inl rfl, _, ix_map cNam h20, ?_⟩
          refine And.intro (fun h21 => ?_) (fun h21 => ?_)
          · have hF := cpos h21 hF
            refine Or.inl ?_
            exact Or.inl ⟨rfl, congrArg (Option.map pRename_E) hF⟩
          · have hF := cneg h21 hF
            refine obind hF fun x22 h23 hF => ?_
            refine ⟨ix_nn h23, .inl rfl, _, ix_map cAut h23, ?_⟩
            refine And.intro (fun h24 => ?_) (fun h24 => ?_)
            · have hF := cpos h24 hF
              refine Or.inl ?_
              exact Or.inl ⟨rfl, congrArg (Option.map pRename_E) hF⟩
            · have hF := cneg h24 hF
              refine obind hF fun y25 h26 hF => ?_
              refine obind hF fun x27 h28 hF => ?_
              refine Or.inr (Or.inl ⟨_, _, pcopied_Of h26 h28, ?_⟩)
              refine Or.inl ⟨ix_nn h28, ix_lt h28, ?_⟩
              refine Or.inl ?_
              refine Or.inl ?_
              refine Or.inl ⟨_, .inl ⟨rfl, rfl⟩, ?_⟩
              refine Or.inl ?_
              refine Or.inl ?_
              refine Or.inl ⟨_, .inl ⟨rfl, rfl⟩, ?_⟩
              refine obind hF fun x29 h30 hF => ?_
              refine Or.inl ⟨ix_nn h30, ix_lt h30, ?_⟩
              refine Or.inl ?_
              refine Or.inl ?_
              refine Or.inl ⟨_, ix_map cNam h30, ?_⟩
              refine Or.inl ⟨ix_nn h30, ix_lt h30, ?_⟩
              refine Or.inl ?_
              refine Or.inl ?_
              refine Or.inl ⟨_, ix_map cNam h30, ?_⟩
              refine ⟨(x27.Names.set ((IntKind.i64.wrap (((x10.Names.map cNam).length : Int) - 1))).toNat (⟨x29.Text, (⟨x29.In.From, (if day < x29.In.Until then day else x29.In.Until)⟩ : Span)⟩ : Nam)).map cNam, _, .inl ⟨rfl, set_map _ _ _ _, rfl⟩, ?_⟩
              refine And.intro (by kernel_rfl) ?_
              refine Or.inl ?_
              refine Or.inl ?_
              refine Or.inl ⟨_, .inl ⟨rfl, rfl⟩, ?_⟩
              refine Or.inl ?_
              refine Or.inl ?_
              refine Or.inl ?_
              refine Or.inl ⟨_, .inl ⟨rfl, rfl⟩, ?_⟩
              refine Or.inl ?_
              refine gpos hF fun h31 hF => ?_
              refine Or.inr ⟨[(65603, 1)], 0, _, _, _, _, rfl, rfl, eff_append (cf := cNam) (l := (x27.Names.set ((IntKind.i64.wrap (((x10.Names.map cNam).length : Int) - 1))).toNat (⟨x29.Text, (⟨x29.In.From, (if day < x29.In.Until then day else x29.In.Until)⟩ : Span)⟩ : Nam))) (ns := ([(⟨text, (⟨day, x27.In.Until⟩ : Span)⟩ : Nam)] : List Nam)) tok25.u tok53 (by decide) (by decide) (fun _ => rfl) h31, rfl, ?_⟩
              refine Or.inl ?_
              refine Or.inl ?_
              refine Or.inl ⟨_, .inl ⟨rfl, rfl⟩, ?_⟩
              refine ⟨_, _, .inl ⟨rfl, rfl, rfl⟩, ?_⟩
              refine And.intro (by kernel_rfl) ?_
              refine ret_eq (p := fun r => resFin tab _ (pRename_E r) _) hF ?_
              exact Or.inr ⟨⟨⟨rfl, _, rfl, _, rfl, set_map _ _ _ _⟩, rfl, rfl⟩, by decide⟩
abbrev pRename_S (l : List Aut) (id : Int) (day : Int) (text : Str) : Option (List Aut × Int) := pRename_F l id day text
theorem pRename_h {l : List Aut} {id : Int} {day : Int} {text : Str} {r : List Aut × Int} (h : pRename_S l id day text = some r) : Holds Tryd.prog Gw 26 [.sl 6 (l.map cAut), I id, I day, S text] (pRename_E r) := pRename_Fh  h
abbrev slContainsFuncA_E (y : Bool) : CV := B y
def slContainsFuncA_F (s : List Aut) (f : Aut → Option Bool) : Option (Bool) := Option.bind (slIndexFuncA_S s f) fun y1 => some (decide (y1 ≥ 0))
set_option linter.unusedVariables false in
theorem slContainsFuncA_Fh {s : List Aut} {f : Aut → Option Bool} {r : Bool} {f_f : FuncId} {f_c : List CV} (f_h : ∀ z0 y, f z0 = some y → Holds Tryd.prog Gw f_f (.agg (cAut z0) :: f_c) (B y)) (hF : slContainsFuncA_F s f = some r) : Holds Tryd.prog Gw 33 [.sl 6 (s.map cAut), .fn f_f f_c] (slContainsFuncA_E r) := by
  refine holds_of_wq tabOk mixed Tryd.func33 (by decide) rfl (Nat.le_of_ble_eq_true rfl) ?_
  refine obind hF fun y1 h2 hF => ?_
  refine Or.inl ⟨_, slIndexFuncA_h f_h h2, rfl, ?_⟩
  exact Or.inl ⟨rfl, congrArg (Option.map slContainsFuncA_E) hF⟩
abbrev slContainsFuncA_S (s : List Aut) (f : Aut → Option Bool) : Option (Bool) := slContainsFuncA_F s f
theorem slContainsFuncA_h {s : List Aut} {f : Aut → Option Bool} {r : Bool} {f_f : FuncId} {f_c : List CV} (f_h : ∀ z0 y, f z0 = some y → Holds Tryd.prog Gw f_f (.agg (cAut z0) :: f_c) (B y)) (h : slContainsFuncA_S s f = some r) : Holds Tryd.prog Gw 33 [.sl 6 (s.map cAut), .fn f_f f_c] (slContainsFuncA_E r) := slContainsFuncA_Fh f_h h
abbrev slIndex_E (y : Int) : CV := I y
def slIndex_L1 (s : List Int) (v : Int) : Nat → Int → Option (Int)
  | 0, _ => none
  | fu1 + 1, v1 => bif decide (v1 < ((s.map cInt).length : Int)) then (Option.bind (ix s v1) fun x3 => bif (v == x3) then some (v1) else slIndex_L1 s v fu1 (IntKind.i64.wrap (v1 + 1))) else some ((-1))
def slIndex_F (N : Nat) (s : List Int) (v : Int) : Option (Int) := slIndex_L1 s v N 0
set_option linter.unusedVariables false in
theorem slIndex_Fh {N : Nat} {s : List Int} {v : Int} {r : Int} (hF : slIndex_F N s v = some r) : Holds Tryd.prog Gw 57 [.sl 1 (s.map cInt), I v] (slIndex_E r) := by
  refine holds_of_wq tabOk mixed Tryd.func57 (by decide) rfl (Nat.le_of_ble_eq_true rfl) ?_
  refine loop_oq (fun p : Nat × Int => [(0, .c (.sl 1 (s.map cInt))), (1, .c (I v)), (7, .c (I ((s.map cInt).length : Int))), (8, .c (I p.2))]) (fun _ => []) (fun p => slIndex_L1 s v p.1 p.2 = some r) (fun p => p.1) (N, 0) hF ⟨rfl, rfl, rfl, rfl, trivial⟩ trivial ?_
  rintro ⟨fu1, v1⟩ hF
  cases fu1 with
  | zero => exact nomatch hF
  | succ fu1 =>
    refine join_no ?_
    refine And.intro (fun h2 => ?_) (fun h2 => ?_)
    · have hF := cpos h2 hF
      refine join_no ?_
      refine obind hF fun x3 h4 hF => ?_
      refine ⟨ix_nn h4, .inl rfl, _, ix_map cInt h4, ?_⟩
      refine And.intro (fun h5 => ?_) (fun h5 => ?_)
      · have hF := cpos h5 hF
        exact Or.inl ⟨rfl, congrArg (Option.map slIndex_E) hF⟩
      · have hF := cneg h5 hF
        exact ⟨(fu1, (IntKind.i64.wrap (v1 + 1))), Nat.lt_succ_self _, hF, ⟨rfl, rfl, rfl, rfl, trivial⟩, trivial⟩
    · have hF := cneg h2 hF
      exact Or.inl ⟨rfl, congrArg (Option.map slIndex_E) hF⟩
abbrev slIndex_S (s : List Int) (v : Int) : Option (Int) := slIndex_F (s.length + 1) s v
theorem slIndex_h {s : List Int} {v : Int} {r : Int} (h : slIndex_S s v = some r) : Holds Tryd.prog Gw 57 [.sl 1 (s.map cInt), I v] (slIndex_E r) := slIndex_Fh  h
abbrev slContains_E (y : Bool) : CV := B y
def slContains_F (s : List Int) (v : Int) : Option (Bool) := Option.bind (slIndex_S s v) fun y1 => some (decide (y1 ≥ 0))
set_option linter.unusedVariables false in
theorem slContains_Fh {s : List Int} {v : Int} {r : Bool} (hF : slContains_F s v = some r) : Holds Tryd.prog Gw 30 [.sl 1 (s.map cInt), I v] (slContains_E r) := by
  refine holds_of_wq tabOk mixed Tryd.func30 (by decide) rfl (Nat.le_of_ble_eq_true rfl) ?_
  refine obind hF fun y1 h2 hF => ?_
  refine Or.inl ⟨_, slIndex_h h2, rfl, ?_⟩
  exact Or.inl ⟨rfl, congrArg (Option.map slContains_E) hF⟩
abbrev slContains_S (s : List Int) (v : Int) : Option (Bool) := slContains_F s v
theorem slContains_h {s : List Int} {v : Int} {r : Bool} (h : slContains_S s v = some r) : Holds Tryd.prog Gw 30 [.sl 1 (s.map cInt), I v] (slContains_E r) := slContains_Fh  h
abbrev pEnd_1_E (y : Bool) : CV := B y
def pEnd_1_F (a : Aut) (c0 : Int) : Option (Bool) := Option.bind (slContains_S a.Next c0) fun y1 => some (y1)
set_option linter.unusedVariables false in
theorem pEnd_1_Fh {a : Aut} {c0 : Int} {r : Bool} (hF : pEnd_1_F a c0 = some r) : Holds Tryd.prog Gw 56 [.agg (cAut a), .pi [I c0] 0] (pEnd_1_E r) := by
  refine holds_of_wq tabOk mixed Tryd.func56 (by decide) rfl (Nat.le_of_ble_eq_true rfl) ?_
  refine Or.inl ?_
  refine obind hF fun y1 h2 hF => ?_
  refine Or.inl ⟨_, slContains_h h2, rfl, ?_⟩
  exact Or.inl ⟨rfl, congrArg (Option.map pEnd_1_E) hF⟩
abbrev pEnd_1_S (a : Aut) (c0 : Int) : Option (Bool) := pEnd_1_F a c0
theorem pEnd_1_h {a : Aut} {c0 : Int} {r : Bool} (h : pEnd_1_S a c0 = some r) : Holds Tryd.prog Gw 56 [.agg (cAut a), .pi [I c0] 0] (pEnd_1_E r) := pEnd_1_Fh  h
abbrev pEnd_E (y : List Aut × Int) : CV := .tup [.sl 6 (y.1.map cAut), I y.2]
def pEnd_F (l : List Aut) (id : Int) (day : Int) : Option (List Aut × Int) := Option.bind (pasks_S l day) fun y1 => bif (y1 != 0) then some (([] : List Aut), y1) else (Option.bind (pindex_S l id) fun y4 => bif decide (y4 < 0) then some (([] : List Aut), 7) else (Option.bind (ix l y4) fun x7 => bif (day == 0) then some (([] : List Aut), 11) else (Option.bind (ix l y4) fun x10 => Option.bind (pin_S x10.In (IntKind.i64.wrap (day - 1))) fun y12 => bif (!y12) then some (([] : List Aut), 11) else (Option.bind (ix l y4) fun x15 => bif decide (((x15.Next.map cInt).length : Int) > 0) then some (([] : List Aut), 20) else (Option.bind (slContainsFuncA_S l (fun z0 => pEnd_1_S z0 id)) fun y18 => bif y18 then some (([] : List Aut), 20) else (Option.bind (ix l y4) fun x21 => Option.bind (ix x21.Names (IntKind.i64.wrap (((x7.Names.map cNam).length : Int) - 1))) fun x23 => bif decide (x23.In.From ≥ day) then some (([] : List Aut), 5) else (Option.bind (pcopied_S l) fun y26 => Option.bind (ix y26 y4) fun x28 => Option.bind (ix x28.Names (IntKind.i64.wrap (((x7.Names.map cNam).length : Int) - 1))) fun x30 => some ((y26.set (y4).toNat (⟨x28.ID, x28.Kind, (⟨x28.In.From, day⟩ : Span), (x28.Names.set ((IntKind.i64.wrap (((x7.Names.map cNam).length : Int) - 1))).toNat (⟨x30.Text, (⟨x30.In.From, (if day < x30.In.Until then day else x30.In.Until)⟩ : Span)⟩ : Nam)), x28.Next⟩ : Aut)), 0))))))))
set_option linter.unusedVariables false in
theorem pEnd_Fh {l : List Aut} {id : Int} {day : Int} {r : List Aut × Int} (hF : pEnd_F l id day = some r) : Holds Tryd.prog Gw 28 [.sl 6 (l.map cAut), I id, I day] (pEnd_E r) := by
  refine holds_of_wq tabOk mixed Tryd.func28 (by decide) rfl (Nat.le_of_ble_eq_true rfl) ?_
  refine Or.inl ?_
  refine Or.inl ?_
  refine obind hF fun y1 h2 hF => ?_
  refine Or.inl ⟨_, pasks_h h2, rfl, ?_⟩
  refine And.intro (fun h3 => ?_) (fun h3 => ?_)
  · have hF := cpos h3 hF
    refine Or.inl ?_
    exact Or.inl ⟨rfl, congrArg (Option.map pEnd_E) hF⟩
  · have hF := cneg h3 hF
    refine obind hF fun y4 h5 hF => ?_
    refine Or.inl ⟨_, pindex_h h5, rfl, ?_⟩
    refine And.intro (fun h6 => ?_) (fun h6 => ?_)
    · have hF := cpos h6 hF
      refine Or.inl ?_
      exact Or.inl ⟨rfl, congrArg (Option.map pEnd_E) hF⟩
    · have hF := cneg h6 hF
      refine obind hF fun x7 h8 hF => ?_
      refine ⟨ix_nn h8, .inl rfl, _, ix_map cAut h8, ?_⟩
      refine join_no ?_
      refine And.intro (fun h9 => ?_) (fun h9 => ?_)
      · have hF := cpos h9 hF
        refine Or.inl ?_
        exact Or.inl ⟨rfl, congrArg (Option.map pEnd_E) hF⟩
      · have hF := cneg h9 hF
        refine obind hF fun x10 h11 hF => ?_
        refine ⟨ix_nn h11, .inl rfl, _, ix_map cAut h11, ?_⟩
        refine obind hF fun y12 h13 hF => ?_
        refine Or.inl ⟨_, pin_h h13, rfl, ?_⟩
        refine And.intro (fun h14 => ?_) (fun h14 => ?_)
        · have hF := cpos h14 hF
          refine Or.inl ?_
          exact Or.inl ⟨rfl, congrArg (Option.map pEnd_E) hF⟩
        · have hF := cneg h14 hF
          refine obind hF fun x15 h16 hF => ?_
          refine ⟨ix_nn h16, .inl rfl, _, ix_map cAut h16, ?_⟩
          refine And.intro (fun h17 => ?_) (fun h17 => ?_)
          · have hF := cpos h17 hF
            refine Or.inl ?_
            exact Or.inl ⟨rfl, congrArg (Option.map pEnd_E) hF⟩
          · have hF := cneg h17 hF
            refine obind hF fun y18 h19 hF => ?_
            refine Or.inl ⟨_, slContainsFuncA_h (fun _ _ h => pEnd_1_h h) h19, rfl, ?_⟩
            refine And.intro (fun h20 => ?_) (fun h20 => ?_)
            · have hF := cpos h20 hF
              refine Or.inl ?_
              exact Or.inl ⟨rfl, congrArg (Option.map pEnd_E) hF⟩
            · have hF := cneg h20 hF
              refine obind hF fun x21 h22 hF => ?_
              refine ⟨ix_nn h22, .inl rfl, _, ix_map cAut h22, ?_⟩
              refine obind hF fun x23 h24 hF => ?_
              refine ⟨ix_nn h24, .inl rfl, _, ix_map cNam h24, ?_⟩
              refine And.intro (fun h25 => ?_) (fun h25 => ?_)
              · have hF := cpos h25 hF
                refine Or.inl ?_
                exact Or.inl ⟨rfl, congrArg (Option.map pEnd_E) hF⟩
              · have hF := cneg h25 hF
                refine obind hF fun y26 h27 hF => ?_
                refine obind hF fun x28 h29 hF => ?_
                refine Or.inr (Or.inl ⟨_, _, pcopied_Of h27 h29, ?_⟩)
                refine Or.inl ⟨ix_nn h29, ix_lt h29, ?_⟩
                refine Or.inl ?_
                refine Or.inl ?_
                refine Or.inl ?_
                refine Or.inl ⟨_, .inl ⟨rfl, rfl⟩, ?_⟩
                refine ⟨_, _, .inl ⟨rfl, rfl, rfl⟩, ?_⟩
                refine Or.inl ?_
                refine Or.inl ?_
                refine Or.inl ⟨_, .inl ⟨rfl, rfl⟩, ?_⟩
                refine Or.inl ?_
                refine Or.inl ?_
                refine Or.inl ⟨_, .inl ⟨rfl, rfl⟩, ?_⟩
                refine obind hF fun x30 h31 hF => ?_
                refine Or.inl ⟨ix_nn h31, ix_lt h31, ?_⟩
                refine Or.inl ?_
                refine Or.inl ?_
                refine Or.inl ⟨_, ix_map cNam h31, ?_⟩
                refine Or.inl ⟨ix_nn h31, ix_lt h31, ?_⟩
                refine Or.inl ?_
                refine Or.inl ?_
                refine Or.inl ⟨_, ix_map cNam h31, ?_⟩
                refine ⟨(x28.Names.set ((IntKind.i64.wrap (((x7.Names.map cNam).length : Int) - 1))).toNat (⟨x30.Text, (⟨x30.In.From, (if day < x30.In.Until then day else x30.In.Until)⟩ : Span)⟩ : Nam)).map cNam, _, .inl ⟨rfl, set_map _ _ _ _, rfl⟩, ?_⟩
                refine And.intro (by kernel_rfl) ?_
                refine ret_eq (p := fun r => resFin tab _ (pEnd_E r) _) hF ?_
                exact Or.inr ⟨⟨⟨rfl, _, rfl, _, rfl, set_map _ _ _ _⟩, rfl, rfl⟩, by decide⟩
abbrev pEnd_S (l : List Aut) (id : Int) (day : Int) : Option (List Aut × Int) := pEnd_F l id day
theorem pEnd_h {l : List Aut} {id : Int} {day : Int} {r : List Aut × Int} (h : pEnd_S l id day = some r) : Holds Tryd.prog Gw 28 [.sl 6 (l.map cAut), I id, I day] (pEnd_E r) := pEnd_Fh  h
abbrev lexample_E (y : List Aut) : CV := .sl 6 (y.map cAut)
def lexample_F : Option (List Aut) := some (([(⟨4, 2, (⟨100, 300⟩ : Span), ([(⟨([77, 105, 110, 116] : Str), (⟨100, 150⟩ : Span)⟩ : Nam), (⟨([82, 111, 121, 97, 108, 32, 77, 105, 110, 116] : Str), (⟨160, 300⟩ : Span)⟩ : Nam)] : List Nam), ([] : List Int)⟩ : Aut)] : List Aut))
set_option linter.unusedVariables false in
theorem lexample_Fh {r : List Aut} (hF : lexample_F  = some r) : Holds Tryd.prog Gw 36 [] (lexample_E r) := by
  refine holds_of_wq tabOk mixed Tryd.func36 (by decide) rfl (Nat.le_of_ble_eq_true rfl) ?_
  refine Or.inl ?_
  refine Or.inl ?_
  refine Or.inl ?_
  exact Or.inl ⟨rfl, congrArg (Option.map lexample_E) hF⟩
abbrev lexample_S : Option (List Aut) := lexample_F 
theorem lexample_h {r : List Aut} (h : lexample_S = some r) : Holds Tryd.prog Gw 36 [] (lexample_E r) := lexample_Fh  h
abbrev lawake_E (y : Bool) : CV := B y
def lawake_F : Option (Bool) := Option.bind (lexample_S) fun y1 => Option.bind (pName_S y1 4 155) fun y3 => Option.bind (lexample_S) fun y5 => Option.bind (pName_S y5 4 300) fun y7 => Option.bind (lexample_S) fun y9 => Option.bind (pName_S y9 4 160) fun y11 => Option.bind (lexample_S) fun y13 => Option.bind (pRename_S y13 4 200 ([83, 116, 97, 116, 101, 32, 77, 105, 110, 116] : Str)) fun y15 => Option.bind (lexample_S) fun y17 => Option.bind (pNamed_S y17 ([77, 105, 110, 116] : Str) 149) fun y19 => Option.bind (lexample_S) fun y21 => Option.bind (pEnd_S y21 4 290) fun y23 => Option.bind (pFind_S y15.1 4) fun y25 => Option.bind (lexample_S) fun y27 => Option.bind (pCheck_S y27) fun y29 => bif (y3.2 == 9) then (bif (y7.2 == 11) then (bif (y11.2 == 0) then (bif (y11.1 == ([82, 111, 121, 97, 108, 32, 77, 105, 110, 116] : Str)) then (bif (y15.2 == 0) then (bif (y19.2 == 0) then (Option.bind (slEqual_S y19.1 ([4] : List Int)) fun y37 => bif y37 then (bif (y23.2 == 0) then (bif (((y23.1.map cAut).length : Int) == 1) then (Option.bind (ix y23.1 0) fun x42 => bif (x42.In.Until == 290) then (bif y25.2 then (Option.bind (pText_S y25.1) fun y46 => bif (y46 == ([77, 105, 110, 116, 32, 49, 48, 48, 45, 49, 53, 48, 59, 32, 82, 111, 121, 97, 108, 32, 77, 105, 110, 116, 32, 49, 54, 48, 45, 50, 48, 48, 59, 32, 83, 116, 97, 116, 101, 32, 77, 105, 110, 116, 32, 50, 48, 48, 45, 51, 48, 48] : Str)) then (bif (y29.2 == 0) then some ((y29.1 == (-1))) else some (false)) else some (false)) else some (false)) else some (false)) else some (false)) else some (false)) else some (false)) else some (false)) else some (false)) else some (false)) else some (false)) else some (false)) else some (false)
set_option linter.unusedVariables false in
theorem lawake_Fh {r : Bool} (hF : lawake_F  = some r) : Holds Tryd.prog Gw 10 [] (lawake_E r) := by
  refine holds_of_wq tabOk mixed Tryd.func10 (by decide) rfl (Nat.le_of_ble_eq_true rfl) ?_
  refine obind hF fun y1 h2 hF => ?_
  refine Or.inl ⟨_, lexample_h h2, rfl, ?_⟩
  refine obind hF fun y3 h4 hF => ?_
  refine Or.inl ⟨_, pName_h h4, rfl, ?_⟩
  refine obind hF fun y5 h6 hF => ?_
  refine Or.inl ⟨_, lexample_h h6, rfl, ?_⟩
  refine obind hF fun y7 h8 hF => ?_
  refine Or.inl ⟨_, pName_h h8, rfl, ?_⟩
  refine obind hF fun y9 h10 hF => ?_
  refine Or.inl ⟨_, lexample_h h10, rfl, ?_⟩
  refine obind hF fun y11 h12 hF => ?_
  refine Or.inl ⟨_, pName_h h12, rfl, ?_⟩
  refine obind hF fun y13 h14 hF => ?_
  refine Or.inl ⟨_, lexample_h h14, rfl, ?_⟩
  refine obind hF fun y15 h16 hF => ?_
  refine Or.inl ⟨_, pRename_h h16, rfl, ?_⟩
  refine obind hF fun y17 h18 hF => ?_
  refine Or.inl ⟨_, lexample_h h18, rfl, ?_⟩
  refine obind hF fun y19 h20 hF => ?_
  refine Or.inl ⟨_, pNamed_h h20, rfl, ?_⟩
  refine obind hF fun y21 h22 hF => ?_
  refine Or.inl ⟨_, lexample_h h22, rfl, ?_⟩
  refine obind hF fun y23 h24 hF => ?_
  refine Or.inl ⟨_, pEnd_h h24, rfl, ?_⟩
  refine obind hF fun y25 h26 hF => ?_
  refine Or.inl ⟨_, pFind_h h26, rfl, ?_⟩
  refine Or.inl ?_
  refine obind hF fun y27 h28 hF => ?_
  refine Or.inl ⟨_, lexample_h h28, rfl, ?_⟩
  refine obind hF fun y29 h30 hF => ?_
  refine Or.inl ⟨_, pCheck_h h30, rfl, ?_⟩
  refine And.intro (fun h31 => ?_) (fun h31 => ?_)
  · have hF := cpos h31 hF
    refine And.intro (fun h32 => ?_) (fun h32 => ?_)
    · have hF := cpos h32 hF
      refine And.intro (fun h33 => ?_) (fun h33 => ?_)
      · have hF := cpos h33 hF
        refine And.intro (fun h34 => ?_) (fun h34 => ?_)
        · have hF := cpos h34 hF
          refine And.intro (fun h35 => ?_) (fun h35 => ?_)
          · have hF := cpos h35 hF
            refine And.intro (fun h36 => ?_) (fun h36 => ?_)
            · have hF := cpos h36 hF
              refine Or.inl ?_
              refine obind hF fun y37 h38 hF => ?_
              refine Or.inl ⟨_, slEqual_h h38, rfl, ?_⟩
              refine And.intro (fun h39 => ?_) (fun h39 => ?_)
              · have hF := cpos h39 hF
                refine And.intro (fun h40 => ?_) (fun h40 => ?_)
                · have hF := cpos h40 hF
                  refine And.intro (fun h41 => ?_) (fun h41 => ?_)
                  · have hF := cpos h41 hF
                    refine obind hF fun x42 h43 hF => ?_
                    refine ⟨ix_nn h43, .inl rfl, _, ix_map cAut h43, ?_⟩
                    refine And.intro (fun h44 => ?_) (fun h44 => ?_)
                    · have hF := cpos h44 hF
                      refine And.intro (fun h45 => ?_) (fun h45 => ?_)
                      · have hF := cpos h45 hF
                        refine obind hF fun y46 h47 hF => ?_
                        refine Or.inl ⟨_, pText_h h47, rfl, ?_⟩
                        refine And.intro (fun h48 => ?_) (fun h48 => ?_)
                        · have hF := cpos h48 hF
                          refine And.intro (fun h49 => ?_) (fun h49 => ?_)
                          · have hF := cpos h49 hF
                            exact Or.inl ⟨rfl, congrArg (Option.map lawake_E) hF⟩
                          · have hF := cneg h49 hF
                            exact Or.inl ⟨rfl, congrArg (Option.map lawake_E) hF⟩
                        · have hF := cneg h48 hF
                          exact Or.inl ⟨rfl, congrArg (Option.map lawake_E) hF⟩
                      · have hF := cneg h45 hF
                        exact Or.inl ⟨rfl, congrArg (Option.map lawake_E) hF⟩
                    · have hF := cneg h44 hF
                      exact Or.inl ⟨rfl, congrArg (Option.map lawake_E) hF⟩
                  · have hF := cneg h41 hF
                    exact Or.inl ⟨rfl, congrArg (Option.map lawake_E) hF⟩
                · have hF := cneg h40 hF
                  exact Or.inl ⟨rfl, congrArg (Option.map lawake_E) hF⟩
              · have hF := cneg h39 hF
                exact Or.inl ⟨rfl, congrArg (Option.map lawake_E) hF⟩
            · have hF := cneg h36 hF
              exact Or.inl ⟨rfl, congrArg (Option.map lawake_E) hF⟩
          · have hF := cneg h35 hF
            exact Or.inl ⟨rfl, congrArg (Option.map lawake_E) hF⟩
        · have hF := cneg h34 hF
          exact Or.inl ⟨rfl, congrArg (Option.map lawake_E) hF⟩
      · have hF := cneg h33 hF
        exact Or.inl ⟨rfl, congrArg (Option.map lawake_E) hF⟩
    · have hF := cneg h32 hF
      exact Or.inl ⟨rfl, congrArg (Option.map lawake_E) hF⟩
  · have hF := cneg h31 hF
    exact Or.inl ⟨rfl, congrArg (Option.map lawake_E) hF⟩
abbrev lawake_S : Option (Bool) := lawake_F 
theorem lawake_h {r : Bool} (h : lawake_S = some r) : Holds Tryd.prog Gw 10 [] (lawake_E r) := lawake_Fh  h
abbrev rFewOf_E (y : Bool) : CV := B y
def rFewOf_L1 (a : Aut) : Nat → Int → Option (Bool)
  | 0, _ => none
  | fu1 + 1, i1 => bif decide (i1 < ((a.Names.map cNam).length : Int)) then (Option.bind (ix a.Names i1) fun x3 => bif decide ((x3.Text.length : Int) > 100) then some (false) else rFewOf_L1 a fu1 (IntKind.i64.wrap (i1 + 1))) else (bif decide (((a.Names.map cNam).length : Int) ≤ 17) then some (decide (((a.Next.map cInt).length : Int) ≤ 17)) else some (false))
def rFewOf_F (N : Nat) (a : Aut) : Option (Bool) := rFewOf_L1 a N 0
set_option linter.unusedVariables false in
theorem rFewOf_Fh {N : Nat} {a : Aut} {r : Bool} (hF : rFewOf_F N a = some r) : Holds Tryd.prog Gw 12 [.agg (cAut a)] (rFewOf_E r) := by
  refine holds_of_wq tabOk mixed Tryd.func12 (by decide) rfl (Nat.le_of_ble_eq_true rfl) ?_
  refine Or.inl ?_
  refine loop_oq (fun p : Nat × Int => [(1, .pm 1 0 0), (3, .c (I p.2))]) (fun p : Nat × Int => [(1, .var [I a.ID, I a.Kind, I a.In.From, I a.In.Until, .sl 3 (a.Names.map cNam), .sl 1 (a.Next.map cInt)])]) (fun p => rFewOf_L1 a p.1 p.2 = some r) (fun p => p.1) (N, 0) hF ⟨rfl, rfl, trivial⟩ ⟨rfl, trivial⟩ ?_
  rintro ⟨fu1, i1⟩ hF
  cases fu1 with
  | zero => exact nomatch hF
  | succ fu1 =>
    refine And.intro (fun h2 => ?_) (fun h2 => ?_)
    · have hF := cpos h2 hF
      refine join_no ?_
      refine obind hF fun x3 h4 hF => ?_
      refine ⟨ix_nn h4, .inl rfl, _, ix_map cNam h4, ?_⟩
      refine And.intro (fun h5 => ?_) (fun h5 => ?_)
      · have hF := cpos h5 hF
        exact Or.inl ⟨rfl, congrArg (Option.map rFewOf_E) hF⟩
      · have hF := cneg h5 hF
        exact ⟨(fu1, (IntKind.i64.wrap (i1 + 1))), Nat.lt_succ_self _, hF, ⟨rfl, rfl, trivial⟩, ⟨rfl, trivial⟩⟩
    · have hF := cneg h2 hF
      refine And.intro (fun h6 => ?_) (fun h6 => ?_)
      · have hF := cpos h6 hF
        exact Or.inl ⟨rfl, congrArg (Option.map rFewOf_E) hF⟩
      · have hF := cneg h6 hF
        exact Or.inl ⟨rfl, congrArg (Option.map rFewOf_E) hF⟩
abbrev rFewOf_S (a : Aut) : Option (Bool) := rFewOf_F (a.Names.length + 1) a
theorem rFewOf_h {a : Aut} {r : Bool} (h : rFewOf_S a = some r) : Holds Tryd.prog Gw 12 [.agg (cAut a)] (rFewOf_E r) := rFewOf_Fh  h
abbrev rFew_E (y : Bool) : CV := B y
def rFew_L1 (l : List Aut) : Nat → Int → Option (Bool)
  | 0, _ => none
  | fu1 + 1, i1 => bif decide (i1 < ((l.map cAut).length : Int)) then (Option.bind (ix l i1) fun x3 => Option.bind (rFewOf_S x3) fun y5 => bif (!y5) then some (false) else rFew_L1 l fu1 (IntKind.i64.wrap (i1 + 1))) else (bif decide (((l.map cAut).length : Int) ≤ 12) then some (true) else some ((((l.map cAut).length : Int) == 65)))
def rFew_F (N : Nat) (l : List Aut) : Option (Bool) := rFew_L1 l N 0
set_option linter.unusedVariables false in
theorem rFew_Fh {N : Nat} {l : List Aut} {r : Bool} (hF : rFew_F N l = some r) : Holds Tryd.prog Gw 11 [.sl 6 (l.map cAut)] (rFew_E r) := by
  refine holds_of_wq tabOk mixed Tryd.func11 (by decide) rfl (Nat.le_of_ble_eq_true rfl) ?_
  refine loop_oq (fun p : Nat × Int => [(0, .c (.sl 6 (l.map cAut))), (3, .c (I p.2))]) (fun _ => []) (fun p => rFew_L1 l p.1 p.2 = some r) (fun p => p.1) (N, 0) hF ⟨rfl, rfl, trivial⟩ trivial ?_
  rintro ⟨fu1, i1⟩ hF
  cases fu1 with
  | zero => exact nomatch hF
  | succ fu1 =>
    refine And.intro (fun h2 => ?_) (fun h2 => ?_)
    · have hF := cpos h2 hF
      refine join_no ?_
      refine obind hF fun x3 h4 hF => ?_
      refine ⟨ix_nn h4, .inl rfl, _, ix_map cAut h4, ?_⟩
      refine obind hF fun y5 h6 hF => ?_
      refine Or.inl ⟨_, rFewOf_h h6, rfl, ?_⟩
      refine And.intro (fun h7 => ?_) (fun h7 => ?_)
      · have hF := cpos h7 hF
        exact Or.inl ⟨rfl, congrArg (Option.map rFew_E) hF⟩
      · have hF := cneg h7 hF
        exact ⟨(fu1, (IntKind.i64.wrap (i1 + 1))), Nat.lt_succ_self _, hF, ⟨rfl, rfl, trivial⟩, trivial⟩
    · have hF := cneg h2 hF
      refine And.intro (fun h8 => ?_) (fun h8 => ?_)
      · have hF := cpos h8 hF
        exact Or.inl ⟨rfl, congrArg (Option.map rFew_E) hF⟩
      · have hF := cneg h8 hF
        exact Or.inl ⟨rfl, congrArg (Option.map rFew_E) hF⟩
abbrev rFew_S (l : List Aut) : Option (Bool) := rFew_F (l.length + 1) l
theorem rFew_h {l : List Aut} {r : Bool} (h : rFew_S l = some r) : Holds Tryd.prog Gw 11 [.sl 6 (l.map cAut)] (rFew_E r) := rFew_Fh  h
abbrev rCopy_E (y : List Aut) : CV := .sl 6 (y.map cAut)
def rCopy_L1 (l : List Aut) : Nat → List Aut → Int → Option (List Aut)
  | 0, _, _ => none
  | fu1 + 1, out1, i2 => bif decide (i2 < ((l.map cAut).length : Int)) then (Option.bind (ix l i2) fun x4 => bif decide (([] : List Nam).length + x4.Names.length ≤ 4294967296) then bif decide (([] : List Int).length + x4.Next.length ≤ 4294967296) then bif decide (out1.length + ([(⟨x4.ID, x4.Kind, x4.In, (([] : List Nam) ++ x4.Names), (([] : List Int) ++ x4.Next)⟩ : Aut)] : List Aut).length ≤ 4294967296) then rCopy_L1 l fu1 (out1 ++ ([(⟨x4.ID, x4.Kind, x4.In, (([] : List Nam) ++ x4.Names), (([] : List Int) ++ x4.Next)⟩ : Aut)] : List Aut)) (IntKind.i64.wrap (i2 + 1)) else none else none else none) else some (out1)
def rCopy_F (N : Nat) (l : List Aut) : Option (List Aut) := rCopy_L1 l N ([] : List Aut) 0
set_option linter.unusedVariables false in
theorem rCopy_Fh {N : Nat} {l : List Aut} {r : List Aut} (hF : rCopy_F N l = some r) : Holds Tryd.prog Gw 14 [.sl 6 (l.map cAut)] (rCopy_E r) := by
  refine holds_of_wq tabOk mixed Tryd.func14 (by decide) rfl (Nat.le_of_ble_eq_true rfl) ?_
  refine Or.inl ?_
  refine Or.inl ?_
  refine loop_oq (fun p : Nat × List Aut × Int => [(0, .c (.sl 6 (l.map cAut))), (3, .ap 3 0 6 (p.2.1.map cAut)), (4, .c (I p.2.2))]) (fun p : Nat × List Aut × Int => [(3, .tok 28 6)]) (fun p => rCopy_L1 l p.1 p.2.1 p.2.2 = some r) (fun p => p.1) (N, ([] : List Aut), 0) hF ⟨rfl, rfl, rfl, trivial⟩ ⟨rfl, trivial⟩ ?_
  rintro ⟨fu1, out1, i2⟩ hF
  cases fu1 with
  | zero => exact nomatch hF
  | succ fu1 =>
    refine And.intro (fun h3 => ?_) (fun h3 => ?_)
    · have hF := cpos h3 hF
      refine join_no ?_
      refine obind hF fun x4 h5 hF => ?_
      refine ⟨ix_nn h5, .inl rfl, _, ix_map cAut h5, ?_⟩
      refine Or.inl ?_
      refine Or.inl ?_
      refine gpos hF fun h8 hF => ?_
      refine Or.inl ⟨len_map (fun _ => rfl), app_le h8, (([] : List Nam) ++ x4.Names).map cNam, map_app _ _ _, ?_⟩
      refine Or.inl ?_
      refine gpos hF fun h7 hF => ?_
      refine Or.inl ⟨len_map (fun _ => rfl), app_le h7, (([] : List Int) ++ x4.Next).map cInt, map_app _ _ _, ?_⟩
      refine And.intro (by kernel_rfl) ?_
      refine Or.inl ?_
      refine gpos hF fun h6 hF => ?_
      refine Or.inl ⟨len_all rfl, app_le h6, (out1 ++ ([(⟨x4.ID, x4.Kind, x4.In, (([] : List Nam) ++ x4.Names), (([] : List Int) ++ x4.Next)⟩ : Aut)] : List Aut)).map cAut, map_app _ _ _, ?_⟩
      exact ⟨(fu1, (out1 ++ ([(⟨x4.ID, x4.Kind, x4.In, (([] : List Nam) ++ x4.Names), (([] : List Int) ++ x4.Next)⟩ : Aut)] : List Aut)), (IntKind.i64.wrap (i2 + 1))), Nat.lt_succ_self _, hF, ⟨rfl, rfl, rfl, trivial⟩, ⟨rfl, trivial⟩⟩
    · have hF := cneg h3 hF
      exact Or.inl ⟨rfl, congrArg (Option.map rCopy_E) hF⟩
abbrev rCopy_S (l : List Aut) : Option (List Aut) := rCopy_F (l.length + 1) l
theorem rCopy_h {l : List Aut} {r : List Aut} (h : rCopy_S l = some r) : Holds Tryd.prog Gw 14 [.sl 6 (l.map cAut)] (rCopy_E r) := rCopy_Fh  h
end Go.Proofs.YtgpojnenbmlcbaaDoor
