/- Functions of the program as functions of Lean, each with its contract (printed by a program). -/
import Derived.Test.YtgpojnenbmlcbaaDoorAbsSeal
import Derived.Test.YtgpojnenbmlcbaaDoorGF
namespace Go.Proofs.YtgpojnenbmlcbaaDoor
open Go Go.Abs
set_option maxRecDepth 10000
set_option maxHeartbeats 400000
abbrev rCopyB_E (y : List Aut) : CV := .sl 6 (y.map cAut)
def rCopyB_L1 (l : List Aut) : Nat → List Aut → Int → Option (List Aut)
  | 0, _, _ => none
  | fu1 + 1, out1, i2 => bif decide (i2 < ((l.map cAut).length : Int)) then (Option.bind (ix l i2) fun x4 => bif decide (([] : List Nam).length + x4.Names.length ≤ 140737488355328 ∧ (([] : List Nam).length + x4.Names.length) * 32 ≤ 140737488355328) then bif decide (([] : List Int).length + x4.Next.length ≤ 140737488355328 ∧ (([] : List Int).length + x4.Next.length) * 8 ≤ 140737488355328) then bif decide (out1.length + ([(⟨x4.ID, x4.Kind, x4.In, (([] : List Nam) ++ x4.Names), (([] : List Int) ++ x4.Next)⟩ : Aut)] : List Aut).length ≤ 4294967296) then rCopyB_L1 l fu1 (out1 ++ ([(⟨x4.ID, x4.Kind, x4.In, (([] : List Nam) ++ x4.Names), (([] : List Int) ++ x4.Next)⟩ : Aut)] : List Aut)) (IntKind.i64.wrap (i2 + 1)) else none else none else none) else some (out1)
def rCopyB_F (N : Nat) (l : List Aut) : Option (List Aut) := rCopyB_L1 l N ([] : List Aut) 0
set_option linter.unusedVariables false in
theorem rCopyB_Fh {N : Nat} {l : List Aut} {r : List Aut} (hF : rCopyB_F N l = some r) : Holds Tryd.prog Gw 14 [.sl 6 (l.map cAut)] (rCopyB_E r) := by
  refine holds_of_wq tabOk mixed Tryd.func14 (by decide) rfl (Nat.le_of_ble_eq_true rfl) ?_
  refine Or.inl ?_
  refine Or.inl ?_
  refine loop_oq (fun p : Nat × List Aut × Int => [(0, .c (.sl 6 (l.map cAut))), (3, .ap 3 0 6 (p.2.1.map cAut)), (4, .c (I p.2.2))]) (fun p : Nat × List Aut × Int => [(3, .tok 28 6)]) (fun p => rCopyB_L1 l p.1 p.2.1 p.2.2 = some r) (fun p => p.1) (N, ([] : List Aut), 0) hF ⟨rfl, rfl, rfl, trivial⟩ ⟨rfl, trivial⟩ ?_
  rintro ⟨fu1, out1, i2⟩ hF
  cases fu1 with
  | zero => exact nomatch hF
  | succ fu1 =>
    refine And.intro (fun h3 => ?_) (fun h3 => ?_)
    · have hF := cpos h3 hF
      refine join_no ?_
      refine obind hF fun x4 h5 hF => ?_
      refine ⟨ix_nn h5, .inl rfl, _, ix_map cAut h5, ?_⟩
      refine Or.inl ?_
      refine Or.inl ?_
      refine gpos hF fun h8 hF => ?_
      refine Or.inl ⟨len_map (fun _ => rfl), app_big h8, (([] : List Nam) ++ x4.Names).map cNam, map_app _ _ _, ?_⟩
      refine Or.inl ?_
      refine gpos hF fun h7 hF => ?_
      refine Or.inl ⟨len_map (fun _ => rfl), app_big h7, (([] : List Int) ++ x4.Next).map cInt, map_app _ _ _, ?_⟩
      refine And.intro (by kernel_rfl) ?_
      refine Or.inl ?_
      refine gpos hF fun h6 hF => ?_
      refine Or.inl ⟨len_all rfl, app_le h6, (out1 ++ ([(⟨x4.ID, x4.Kind, x4.In, (([] : List Nam) ++ x4.Names), (([] : List Int) ++ x4.Next)⟩ : Aut)] : List Aut)).map cAut, map_app _ _ _, ?_⟩
      exact ⟨(fu1, (out1 ++ ([(⟨x4.ID, x4.Kind, x4.In, (([] : List Nam) ++ x4.Names), (([] : List Int) ++ x4.Next)⟩ : Aut)] : List Aut)), (IntKind.i64.wrap (i2 + 1))), Nat.lt_succ_self _, hF, ⟨rfl, rfl, rfl, trivial⟩, ⟨rfl, trivial⟩⟩
    · have hF := cneg h3 hF
      exact Or.inl ⟨rfl, congrArg (Option.map rCopyB_E) hF⟩
abbrev rCopyB_S (l : List Aut) : Option (List Aut) := rCopyB_F (l.length + 1) l
theorem rCopyB_h {l : List Aut} {r : List Aut} (h : rCopyB_S l = some r) : Holds Tryd.prog Gw 14 [.sl 6 (l.map cAut)] (rCopyB_E r) := rCopyB_Fh  h
abbrev lAuthorityLists_1_1_E (y : Bool) : CV := B y
def lAuthorityLists_1_1_F (a : Aut) (c0 : Int) : Option (Bool) := some ((a.ID == c0))
set_option linter.unusedVariables false in
theorem lAuthorityLists_1_1_Fh {a : Aut} {c0 : Int} {r : Bool} (hF : lAuthorityLists_1_1_F a c0 = some r) : Holds Tryd.prog Gw 34 [.agg (cAut a), .pi [I c0] 0] (lAuthorityLists_1_1_E r) := by
  refine holds_of_wq tabOk mixed Tryd.func34 (by decide) rfl (Nat.le_of_ble_eq_true rfl) ?_
  refine Or.inl ?_
  exact Or.inl ⟨rfl, congrArg (Option.map lAuthorityLists_1_1_E) hF⟩
abbrev lAuthorityLists_1_1_S (a : Aut) (c0 : Int) : Option (Bool) := lAuthorityLists_1_1_F a c0
theorem lAuthorityLists_1_1_h {a : Aut} {c0 : Int} {r : Bool} (h : lAuthorityLists_1_1_S a c0 = some r) : Holds Tryd.prog Gw 34 [.agg (cAut a), .pi [I c0] 0] (lAuthorityLists_1_1_E r) := lAuthorityLists_1_1_Fh  h
abbrev lAuthorityLists_1_E (y : Bool) : CV := B y
def lAuthorityLists_1_F (id : Int) (c0 : List Aut) : Option (Bool) := Option.bind (slContainsFuncA_S c0 (fun z0 => lAuthorityLists_1_1_S z0 id)) fun y1 => some (y1)
set_option linter.unusedVariables false in
theorem lAuthorityLists_1_Fh {id : Int} {c0 : List Aut} {r : Bool} (hF : lAuthorityLists_1_F id c0 = some r) : Holds Tryd.prog Gw 32 [I id, .pi [.sl 6 (c0.map cAut)] 0] (lAuthorityLists_1_E r) := by
  refine holds_of_wq tabOk mixed Tryd.func32 (by decide) rfl (Nat.le_of_ble_eq_true rfl) ?_
  refine Or.inl ?_
  refine obind hF fun y1 h2 hF => ?_
  refine Or.inl ⟨_, slContainsFuncA_h (fun _ _ h => lAuthorityLists_1_1_h h) h2, rfl, ?_⟩
  exact Or.inl ⟨rfl, congrArg (Option.map lAuthorityLists_1_E) hF⟩
abbrev lAuthorityLists_1_S (id : Int) (c0 : List Aut) : Option (Bool) := lAuthorityLists_1_F id c0
theorem lAuthorityLists_1_h {id : Int} {c0 : List Aut} {r : Bool} (h : lAuthorityLists_1_S id c0 = some r) : Holds Tryd.prog Gw 32 [I id, .pi [.sl 6 (c0.map cAut)] 0] (lAuthorityLists_1_E r) := lAuthorityLists_1_Fh  h
abbrev lAuthorityLists_E (y : Bool) : CV := B y
def lAuthorityLists_L2 (bits : Int) (v14 : Int) (v15 : List Aut) (x17 : Aut) (k_1 : Int → List Aut → Option (Bool)) : Nat → Int → Int → Option (Bool)
  | 0, _, _ => none
  | fu2 + 1, last19, v20 => bif decide (v20 < ((x17.Names.map cNam).length : Int)) then (Option.bind (ix x17.Names v20) fun x22 => bif decide (x22.In.From < last19) then some (false) else (bif decide (x22.In.Until > x17.In.Until) then some (false) else (Option.bind (sTrimSpace_S x22.Text) fun y26 => bif (!(y26 == x22.Text)) then some (false) else lAuthorityLists_L2 bits v14 v15 x17 k_1 fu2 x22.In.Until (IntKind.i64.wrap (v20 + 1))))) else (bif decide (0 ≤ v14) then bif ((IntKind.u16.wrap (((BitVec.ofInt (IntKind.bits .u16) (Int.fdiv bits (2 ^ (min (Int.toNat v14) (IntKind.bits .u16))))) &&& (BitVec.ofInt (IntKind.bits .u16) 1)).toNat : Int)) == 1) then (bif decide (v15.length + ([x17] : List Aut).length ≤ 4294967296) then k_1 (IntKind.i64.wrap (v14 + 1)) (v15 ++ ([x17] : List Aut)) else none) else k_1 (IntKind.i64.wrap (v14 + 1)) v15 else none)
def lAuthorityLists_L4 (v15 : List Aut) (v32 : Int) (x34 : Aut) (k_3 : Int → Option (Bool)) : Nat → Int → Option (Bool)
  | 0, _ => none
  | fu4 + 1, v36 => bif decide (v36 < ((x34.Next.map cInt).length : Int)) then (Option.bind (ix x34.Next v36) fun x38 => Option.bind (lAuthorityLists_1_S x38 v15) fun y40 => bif (!y40) then some (true) else lAuthorityLists_L4 v15 v32 x34 k_3 fu4 (IntKind.i64.wrap (v36 + 1))) else k_3 (IntKind.i64.wrap (v32 + 1))
def lAuthorityLists_L3 (v15 : List Aut) (N : Nat) : Nat → Int → Option (Bool)
  | 0, _ => none
  | fu3 + 1, v32 => bif decide (v32 < ((v15.map cAut).length : Int)) then (Option.bind (ix v15 v32) fun x34 => lAuthorityLists_L4 v15 v32 x34 (fun q_v32 => lAuthorityLists_L3 v15 N fu3 q_v32) N 0) else (Option.bind (rCopyB_S v15) fun y43 => Option.bind (pCheck_S y43) fun y45 => bif (y45.2 == 0) then some ((y45.1 == (-1))) else some (false))
def lAuthorityLists_L1 (l : List Aut) (bits : Int) (N : Nat) : Nat → Int → List Aut → Option (Bool)
  | 0, _, _ => none
  | fu1 + 1, v14, v15 => bif decide (v14 < ((l.map cAut).length : Int)) then (Option.bind (ix l v14) fun x17 => lAuthorityLists_L2 bits v14 v15 x17 (fun q_v14 q_v15 => lAuthorityLists_L1 l bits N fu1 q_v14 q_v15) N x17.In.From 0) else lAuthorityLists_L3 v15 N N 0
def lAuthorityLists_F (N : Nat) (l : List Aut) (bits : Int) : Option (Bool) := Option.bind (lawake_S) fun y1 => bif (!y1) then (Option.bind (lawake_S) fun y4 => some (y4)) else (bif decide (((l.map cAut).length : Int) > 12) then (Option.bind (lawake_S) fun y7 => some (y7)) else (Option.bind (rCopyB_S l) fun y9 => Option.bind (pCheck_S y9) fun y11 => bif (y11.2 != 0) then some (true) else lAuthorityLists_L1 l bits N N 0 ([] : List Aut)))
set_option linter.unusedVariables false in
theorem lAuthorityLists_Fh {N : Nat} {l : List Aut} {bits : Int} {r : Bool} (hF : lAuthorityLists_F N l bits = some r) : Holds Tryd.prog Gw2 9 [.sl 6 (l.map cAut), .v (.int .u16 bits)] (lAuthorityLists_E r) := by
  refine holds_of_wq tabOk mixed Tryd.func9 (by decide) rfl (Nat.le_of_ble_eq_true rfl) ?_
  refine obind hF fun y1 h2 hF => ?_
  refine Or.inl ⟨_, (holds_up (lawake_h h2)), rfl, ?_⟩
  refine And.intro (fun h3 => ?_) (fun h3 => ?_)
  · have hF := cpos h3 hF
    refine obind hF fun y4 h5 hF => ?_
    refine Or.inl ⟨_, (holds_up (lawake_h h5)), rfl, ?_⟩
    exact Or.inl ⟨rfl, congrArg (Option.map lAuthorityLists_E) hF⟩
  · have hF := cneg h3 hF
    refine And.intro (fun h6 => ?_) (fun h6 => ?_)
    · have hF := cpos h6 hF
      refine obind hF fun y7 h8 hF => ?_
      refine Or.inl ⟨_, (holds_up (lawake_h h8)), rfl, ?_⟩
      exact Or.inl ⟨rfl, congrArg (Option.map lAuthorityLists_E) hF⟩
    · have hF := cneg h6 hF
      refine obind hF fun y9 h10 hF => ?_
      refine Or.inl ⟨_, (holds_up (rCopyB_h h10)), rfl, ?_⟩
      refine obind hF fun y11 h12 hF => ?_
      refine Or.inl ⟨_, (holds_up (pCheck_h h12)), rfl, ?_⟩
      refine And.intro (fun h13 => ?_) (fun h13 => ?_)
      · have hF := cpos h13 hF
        exact Or.inl ⟨rfl, congrArg (Option.map lAuthorityLists_E) hF⟩
      · have hF := cneg h13 hF
        refine Or.inr ⟨[], 0, _, _, _, _, rfl, rfl, eff_allocS (e := 28) (ie := ti28) tok22 rfl rfl (by decide), rfl, ?_⟩
        refine loop_oq (fun p : Nat × Int × List Aut => [(1, .c (.v (.int .u16 bits))), (7, .pm 7 0 0), (8, .fnr 32 [.pm 7 0 0]), (37, .c (.sl 6 (l.map cAut))), (38, .c (I ((l.map cAut).length : Int))), (39, .c (I p.2.1))]) (fun p : Nat × Int × List Aut => [(7, .varx [.rs 65543 0]), (65543, .arr 28 6 (p.2.2.map cAut) none)]) (fun p => lAuthorityLists_L1 l bits N p.1 p.2.1 p.2.2 = some r) (fun p => p.1) (N, 0, ([] : List Aut)) hF ⟨rfl, rfl, rfl, rfl, rfl, rfl, trivial⟩ ⟨rfl, rfl, trivial⟩ ?_
        rintro ⟨fu1, v14, v15⟩ hF
        cases fu1 with
        | zero => exact nomatch hF
        | succ fu1 =>
          refine join_no ?_
          refine And.intro (fun h16 => ?_) (fun h16 => ?_)
          · have hF := cpos h16 hF
            refine join_no ?_
            refine obind hF fun x17 h18 hF => ?_
            refine ⟨ix_nn h18, .inl rfl, _, ix_map cAut h18, ?_⟩
            refine Or.inl ?_
            refine loop_oq (fun p : Nat × Int × Int => [(1, .c (.v (.int .u16 bits))), (7, .pm 7 0 0), (8, .fnr 32 [.pm 7 0 0]), (9, .c (I v14)), (10, .pm 10 0 0), (11, .c (I p.2.1)), (37, .c (.sl 6 (l.map cAut))), (38, .c (I ((l.map cAut).length : Int))), (39, .c (I v14)), (48, .c (.sl 3 (x17.Names.map cNam))), (49, .c (I ((x17.Names.map cNam).length : Int))), (50, .c (I p.2.2))]) (fun p : Nat × Int × Int => [(7, .varx [.rs 65543 0]), (10, .var [I x17.ID, I x17.Kind, I x17.In.From, I x17.In.Until, .sl 3 (x17.Names.map cNam), .sl 1 (x17.Next.map cInt)]), (65543, .arr 28 6 (v15.map cAut) none)]) (fun p => lAuthorityLists_L2 bits v14 v15 x17 (fun q_v14 q_v15 => lAuthorityLists_L1 l bits N fu1 q_v14 q_v15) p.1 p.2.1 p.2.2 = some r) (fun p => p.1) (N, x17.In.From, 0) hF ⟨rfl, rfl, rfl, rfl, rfl, rfl, rfl, rfl, rfl, rfl, rfl, rfl, trivial⟩ ⟨rfl, rfl, rfl, trivial⟩ ?_
            rintro ⟨fu2, last19, v20⟩ hF
            cases fu2 with
            | zero => exact nomatch hF
            | succ fu2 =>
              refine join_no ?_
              refine And.intro (fun h21 => ?_) (fun h21 => ?_)
              · have hF := cpos h21 hF
                refine join_no ?_
                refine obind hF fun x22 h23 hF => ?_
                refine ⟨ix_nn h23, .inl rfl, _, ix_map cNam h23, ?_⟩
                refine Or.inl ?_
                refine And.intro (fun h24 => ?_) (fun h24 => ?_)
                · have hF := cpos h24 hF
                  refine And.intro (by kernel_rfl) ?_
                  exact Or.inl ⟨rfl, congrArg (Option.map lAuthorityLists_E) hF⟩
                · have hF := cneg h24 hF
                  refine And.intro (fun h25 => ?_) (fun h25 => ?_)
                  · have hF := cpos h25 hF
                    refine And.intro (by kernel_rfl) ?_
                    exact Or.inl ⟨rfl, congrArg (Option.map lAuthorityLists_E) hF⟩
                  · have hF := cneg h25 hF
                    refine obind hF fun y26 h27 hF => ?_
                    refine Or.inl ⟨_, sTrimSpace_h h27, rfl, ?_⟩
                    refine And.intro (by kernel_rfl) ?_
                    refine And.intro (fun h28 => ?_) (fun h28 => ?_)
                    · have hF := cpos h28 hF
                      exact Or.inl ⟨rfl, congrArg (Option.map lAuthorityLists_E) hF⟩
                    · have hF := cneg h28 hF
                      exact ⟨(fu2, x22.In.Until, (IntKind.i64.wrap (v20 + 1))), Nat.lt_succ_self _, hF, ⟨rfl, rfl, rfl, rfl, rfl, rfl, rfl, rfl, rfl, rfl, rfl, rfl, trivial⟩, ⟨rfl, rfl, rfl, trivial⟩⟩
              · have hF := cneg h21 hF
                refine gpos hF fun h29 hF => ?_
                refine ⟨of_decide_eq_true h29, ?_⟩
                refine And.intro (fun h30 => ?_) (fun h30 => ?_)
                · have hF := cpos h30 hF
                  refine Or.inl ?_
                  refine Or.inl ?_
                  refine gpos hF fun h31 hF => ?_
                  refine Or.inr ⟨[(65543, 0)], 0, _, _, _, _, rfl, rfl, eff_append (cf := cAut) (l := v15) (ns := ([x17] : List Aut)) tok22.u tok28 (by decide) (by decide) (fun _ => rfl) h31, rfl, ?_⟩
                  refine Or.inl ?_
                  exact ⟨(fu1, (IntKind.i64.wrap (v14 + 1)), (v15 ++ ([x17] : List Aut))), Nat.lt_succ_self _, hF, ⟨rfl, rfl, rfl, rfl, rfl, rfl, trivial⟩, ⟨rfl, rfl, trivial⟩⟩
                · have hF := cneg h30 hF
                  exact ⟨(fu1, (IntKind.i64.wrap (v14 + 1)), v15), Nat.lt_succ_self _, hF, ⟨rfl, rfl, rfl, rfl, rfl, rfl, trivial⟩, ⟨rfl, rfl, trivial⟩⟩
          · have hF := cneg h16 hF
            refine Or.inl ?_
            refine Or.inl ?_
            refine loop_oq (fun p : Nat × Int => [(7, .pm 7 0 0), (8, .fnr 32 [.pm 7 0 0]), (90, .rs 65543 0), (91, .c (I ((v15.map cAut).length : Int))), (92, .c (I p.2))]) (fun p : Nat × Int => [(7, .varx [.rs 65543 0]), (65543, .arr 28 6 (v15.map cAut) none)]) (fun p => lAuthorityLists_L3 v15 N p.1 p.2 = some r) (fun p => p.1) (N, 0) hF ⟨rfl, rfl, rfl, rfl, rfl, trivial⟩ ⟨rfl, rfl, trivial⟩ ?_
            rintro ⟨fu3, v32⟩ hF
            cases fu3 with
            | zero => exact nomatch hF
            | succ fu3 =>
              refine join_no ?_
              refine And.intro (fun h33 => ?_) (fun h33 => ?_)
              · have hF := cpos h33 hF
                refine join_no ?_
                refine obind hF fun x34 h35 hF => ?_
                refine Or.inl ⟨ix_nn h35, ix_lt h35, ?_⟩
                refine Or.inl ⟨_, ix_map cAut h35, ?_⟩
                refine Or.inl ?_
                refine loop_oq (fun p : Nat × Int => [(7, .pm 7 0 0), (8, .fnr 32 [.pm 7 0 0]), (90, .rs 65543 0), (91, .c (I ((v15.map cAut).length : Int))), (92, .c (I v32)), (97, .c (.sl 1 (x34.Next.map cInt))), (98, .c (I ((x34.Next.map cInt).length : Int))), (99, .c (I p.2))]) (fun p : Nat × Int => [(7, .varx [.rs 65543 0]), (65543, .arr 28 6 (v15.map cAut) none)]) (fun p => lAuthorityLists_L4 v15 v32 x34 (fun q_v32 => lAuthorityLists_L3 v15 N fu3 q_v32) p.1 p.2 = some r) (fun p => p.1) (N, 0) hF ⟨rfl, rfl, rfl, rfl, rfl, rfl, rfl, rfl, trivial⟩ ⟨rfl, rfl, trivial⟩ ?_
                rintro ⟨fu4, v36⟩ hF
                cases fu4 with
                | zero => exact nomatch hF
                | succ fu4 =>
                  refine join_no ?_
                  refine And.intro (fun h37 => ?_) (fun h37 => ?_)
                  · have hF := cpos h37 hF
                    refine join_no ?_
                    refine obind hF fun x38 h39 hF => ?_
                    refine ⟨ix_nn h39, .inl rfl, _, ix_map cInt h39, ?_⟩
                    refine obind hF fun y40 h41 hF => ?_
                    refine Or.inl ⟨_, (holds_up (lAuthorityLists_1_h h41)), rfl, ?_⟩
                    refine And.intro (fun h42 => ?_) (fun h42 => ?_)
                    · have hF := cpos h42 hF
                      exact Or.inl ⟨rfl, congrArg (Option.map lAuthorityLists_E) hF⟩
                    · have hF := cneg h42 hF
                      exact ⟨(fu4, (IntKind.i64.wrap (v36 + 1))), Nat.lt_succ_self _, hF, ⟨rfl, rfl, rfl, rfl, rfl, rfl, rfl, rfl, trivial⟩, ⟨rfl, rfl, trivial⟩⟩
                  · have hF := cneg h37 hF
                    exact ⟨(fu3, (IntKind.i64.wrap (v32 + 1))), Nat.lt_succ_self _, hF, ⟨rfl, rfl, rfl, rfl, rfl, trivial⟩, ⟨rfl, rfl, trivial⟩⟩
              · have hF := cneg h33 hF
                refine Or.inl ?_
                refine obind hF fun y43 h44 hF => ?_
                refine Or.inr (Or.inr ⟨[(65543, 0)], 0, _, _, _, _, rfl, rfl, eff_call rfl (Or.inr ⟨_, rfl, rfl⟩) (effn_seal rfl ((holds_up (rCopyB_h h44)))), rfl, ?_⟩)
                refine obind hF fun y45 h46 hF => ?_
                refine Or.inl ⟨_, (holds_up (pCheck_h h46)), rfl, ?_⟩
                refine And.intro (fun h47 => ?_) (fun h47 => ?_)
                · have hF := cpos h47 hF
                  exact Or.inl ⟨rfl, congrArg (Option.map lAuthorityLists_E) hF⟩
                · have hF := cneg h47 hF
                  exact Or.inl ⟨rfl, congrArg (Option.map lAuthorityLists_E) hF⟩
abbrev lAuthorityLists_S (l : List Aut) (bits : Int) : Option (Bool) := lAuthorityLists_F 100 l bits
theorem lAuthorityLists_h {l : List Aut} {bits : Int} {r : Bool} (h : lAuthorityLists_S l bits = some r) : Holds Tryd.prog Gw2 9 [.sl 6 (l.map cAut), .v (.int .u16 bits)] (lAuthorityLists_E r) := lAuthorityLists_Fh  h
end Go.Proofs.YtgpojnenbmlcbaaDoor
