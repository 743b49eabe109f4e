/- Functions of the program as functions of Lean, each with its contract (printed by a program). -/
import Derived.Test.YtihjmnhamaicpaaGreatDoorGB
namespace Go.Proofs.YtihjmnhamaicpaaGreatDoor
open Go Go.Abs
set_option maxRecDepth 10000
set_option maxHeartbeats 400000
abbrev ppart_E (y : Int) : CV := I y
def ppart_F (a : Str) (b : Str) : Option (Int) := Option.bind (ix a 0) fun b1 => Option.bind (pdigit_S (b1.toNat : Int)) fun y3 => bif y3 then (Option.bind (ix b 0) fun b6 => Option.bind (pdigit_S (b6.toNat : Int)) fun y8 => bif y8 then (Option.bind (sTrimLeft_S a ([48] : Str)) fun y11 => Option.bind (sTrimLeft_S b ([48] : Str)) fun y13 => Option.bind (cmpCompare_S (y11.length : Int) (y13.length : Int)) fun y15 => Option.bind (cmpCompareS_S y11 y13) fun y17 => Option.bind (cmpOr_S ([y15, y17] : List Int)) fun y19 => some (y19)) else (Option.bind (ix a 0) fun b21 => Option.bind (pdigit_S (b21.toNat : Int)) fun y23 => Option.bind (ix b 0) fun b25 => Option.bind (pdigit_S (b25.toNat : Int)) fun y27 => bif (!(y23 == y27)) then (Option.bind (ix a 0) fun b30 => Option.bind (pdigit_S (b30.toNat : Int)) fun y32 => bif y32 then some ((-1)) else some (1)) else (Option.bind (cmpCompareS_S a b) fun y35 => some (y35)))) else (Option.bind (ix a 0) fun b37 => Option.bind (pdigit_S (b37.toNat : Int)) fun y39 => Option.bind (ix b 0) fun b41 => Option.bind (pdigit_S (b41.toNat : Int)) fun y43 => bif (!(y39 == y43)) then (Option.bind (ix a 0) fun b46 => Option.bind (pdigit_S (b46.toNat : Int)) fun y48 => bif y48 then some ((-1)) else some (1)) else (Option.bind (cmpCompareS_S a b) fun y51 => some (y51)))
set_option linter.unusedVariables false in
theorem ppart_Fh {a : Str} {b : Str} {r : Int} (hF : ppart_F a b = some r) : Holds Tryz.prog Gw 59 [S a, S b] (ppart_E r) := by
  refine holds_of_wq tabOk mixed Tryz.func59 (by decide) rfl (Nat.le_of_ble_eq_true rfl) ?_
  refine join_no ?_
  refine obind hF fun b1 h2 hF => ?_
  refine ⟨ix_nn h2, _, ix_str h2, ?_⟩
  refine obind hF fun y3 h4 hF => ?_
  refine Or.inl ⟨_, pdigit_h h4, rfl, ?_⟩
  refine And.intro (fun h5 => ?_) (fun h5 => ?_)
  · have hF := cpos h5 hF
    refine obind hF fun b6 h7 hF => ?_
    refine ⟨ix_nn h7, _, ix_str h7, ?_⟩
    refine obind hF fun y8 h9 hF => ?_
    refine Or.inl ⟨_, pdigit_h h9, rfl, ?_⟩
    refine And.intro (fun h10 => ?_) (fun h10 => ?_)
    · have hF := cpos h10 hF
      refine obind hF fun y11 h12 hF => ?_
      refine Or.inl ⟨_, sTrimLeft_h h12, rfl, ?_⟩
      refine obind hF fun y13 h14 hF => ?_
      refine Or.inl ⟨_, sTrimLeft_h h14, rfl, ?_⟩
      refine obind hF fun y15 h16 hF => ?_
      refine Or.inl ⟨_, cmpCompare_h h16, rfl, ?_⟩
      refine obind hF fun y17 h18 hF => ?_
      refine Or.inl ⟨_, cmpCompareS_h h18, rfl, ?_⟩
      refine Or.inl ?_
      refine obind hF fun y19 h20 hF => ?_
      refine Or.inl ⟨_, cmpOr_h h20, rfl, ?_⟩
      exact Or.inl ⟨rfl, congrArg (Option.map ppart_E) hF⟩
    · have hF := cneg h10 hF
      refine obind hF fun b21 h22 hF => ?_
      refine ⟨ix_nn h22, _, ix_str h22, ?_⟩
      refine obind hF fun y23 h24 hF => ?_
      refine Or.inl ⟨_, pdigit_h h24, rfl, ?_⟩
      refine obind hF fun b25 h26 hF => ?_
      refine ⟨ix_nn h26, _, ix_str h26, ?_⟩
      refine obind hF fun y27 h28 hF => ?_
      refine Or.inl ⟨_, pdigit_h h28, rfl, ?_⟩
      refine And.intro (by kernel_rfl) ?_
      refine And.intro (fun h29 => ?_) (fun h29 => ?_)
      · have hF := cpos h29 hF
        refine obind hF fun b30 h31 hF => ?_
        refine ⟨ix_nn h31, _, ix_str h31, ?_⟩
        refine obind hF fun y32 h33 hF => ?_
        refine Or.inl ⟨_, pdigit_h h33, rfl, ?_⟩
        refine And.intro (fun h34 => ?_) (fun h34 => ?_)
        · have hF := cpos h34 hF
          exact Or.inl ⟨rfl, congrArg (Option.map ppart_E) hF⟩
        · have hF := cneg h34 hF
          exact Or.inl ⟨rfl, congrArg (Option.map ppart_E) hF⟩
      · have hF := cneg h29 hF
        refine obind hF fun y35 h36 hF => ?_
        refine Or.inl ⟨_, cmpCompareS_h h36, rfl, ?_⟩
        exact Or.inl ⟨rfl, congrArg (Option.map ppart_E) hF⟩
  · have hF := cneg h5 hF
    refine obind hF fun b37 h38 hF => ?_
    refine ⟨ix_nn h38, _, ix_str h38, ?_⟩
    refine obind hF fun y39 h40 hF => ?_
    refine Or.inl ⟨_, pdigit_h h40, rfl, ?_⟩
    refine obind hF fun b41 h42 hF => ?_
    refine ⟨ix_nn h42, _, ix_str h42, ?_⟩
    refine obind hF fun y43 h44 hF => ?_
    refine Or.inl ⟨_, pdigit_h h44, rfl, ?_⟩
    refine And.intro (by kernel_rfl) ?_
    refine And.intro (fun h45 => ?_) (fun h45 => ?_)
    · have hF := cpos h45 hF
      refine obind hF fun b46 h47 hF => ?_
      refine ⟨ix_nn h47, _, ix_str h47, ?_⟩
      refine obind hF fun y48 h49 hF => ?_
      refine Or.inl ⟨_, pdigit_h h49, rfl, ?_⟩
      refine And.intro (fun h50 => ?_) (fun h50 => ?_)
      · have hF := cpos h50 hF
        exact Or.inl ⟨rfl, congrArg (Option.map ppart_E) hF⟩
      · have hF := cneg h50 hF
        exact Or.inl ⟨rfl, congrArg (Option.map ppart_E) hF⟩
    · have hF := cneg h45 hF
      refine obind hF fun y51 h52 hF => ?_
      refine Or.inl ⟨_, cmpCompareS_h h52, rfl, ?_⟩
      exact Or.inl ⟨rfl, congrArg (Option.map ppart_E) hF⟩
abbrev ppart_S (a : Str) (b : Str) : Option (Int) := ppart_F a b
theorem ppart_h {a : Str} {b : Str} {r : Int} (h : ppart_S a b = some r) : Holds Tryz.prog Gw 59 [S a, S b] (ppart_E r) := ppart_Fh  h
theorem pparts_K {s : Str} : EffFn Tryz.prog Gw 56 [.c (S s)] [] (.fnr 78 [.pm 0 1 0]) [(1, .var [S s])] := by
  refine effn_of_wq tabOk mixed Tryz.func56 (by decide) rfl (Nat.le_of_ble_eq_true rfl) rfl ?_
  refine Or.inl ?_
  exact ⟨[(1, 1)], [1], rfl, rfl, rfl⟩
def slAppendSeq_R0_X : {p : Array Nat × Code × Code // (rangesOf (Tryz.f77.body.getD .skip))[0]? = some p} := ⟨(_, _, _), rfl⟩
def slAppendSeq_R0_R (R : Loop) : Prop := R.params = slAppendSeq_R0_X.1.1 ∧ R.assign = slAppendSeq_R0_X.1.2.1 ∧ R.body = slAppendSeq_R0_X.1.2.2 ∧ R.tmps.size = 13
theorem slAppendSeq_R0_n {R : Loop} (h : slAppendSeq_R0_R R) : 1 = R.params.size := by rw [h.1]; rfl
def slAppendSeq_R0_F (o2 : List Str) (a7 : Str) : Option (List Str) := bif decide (o2.length + ([a7] : List Str).length ≤ 4294967296) then some ((o2 ++ ([a7] : List Str))) else none
set_option linter.unusedVariables false in
theorem slAppendSeq_R0_XFh {o2 : List Str} {a7 : Str} {r : List Str} {l : Nat} {R : Loop} (hR : slAppendSeq_R0_R R) (hF : slAppendSeq_R0_F o2 a7 = some r) : EffRnd Tryz.prog Gw l R (envL [(2, .pm 1 0 0)] 13 0) [.c (S a7)] [(0, .lp l R .on), (0, .varx [.rs 2 0]), (0, .arr 9 1 (o2.map cStr) none)] (.c (.v (.bool true))) [(0, .lp l R .on), (0, .varx [.rs 2 1]), (1, .arr 9 1 (r.map cStr) none)] := by
  refine effrnd_of_wq [2] tabOk mixed 0 hR.1 hR.2.1 hR.2.2.1 hR.2.2.2 rfl ?_
  refine ⟨rfl, ?_⟩
  refine Or.inl ?_
  refine Or.inl ?_
  refine gpos hF fun h1 hF => ?_
  refine Or.inr ⟨[(2147614720, 0)], 0, _, _, _, _, rfl, rfl, eff_append (cf := cStr) (l := o2) (ns := ([a7] : List Str)) tok22.u tok9 (by decide) (by decide) (fun _ => rfl) h1, rfl, ?_⟩
  refine Or.inl ?_
  refine ret_eq (p := fun r => rndFin [2] 0 l R 3 (.c (.v (.bool true))) [(0, .lp l R .on), (0, .varx [.rs 2 1]), (1, .arr 9 1 (r.map cStr) none)] .on true _) hF ?_
  exact ⟨rfl, rfl, [(4294967296, 0), (4295032832, 0), (2147614720, 1)], [0, 0, 1], rfl, rfl⟩
abbrev slAppendSeq_R0_XS (o2 : List Str) (a7 : Str) : Option (List Str) := slAppendSeq_R0_F o2 a7
theorem slAppendSeq_R0_Xh {o2 : List Str} {a7 : Str} {r : List Str} {l : Nat} {R : Loop} (hR : slAppendSeq_R0_R R) (h : slAppendSeq_R0_XS o2 a7 = some r) : EffRnd Tryz.prog Gw l R (envL [(2, .pm 1 0 0)] 13 0) [.c (S a7)] [(0, .lp l R .on), (0, .varx [.rs 2 0]), (0, .arr 9 1 (o2.map cStr) none)] (.c (.v (.bool true))) [(0, .lp l R .on), (0, .varx [.rs 2 1]), (1, .arr 9 1 (r.map cStr) none)] := slAppendSeq_R0_XFh hR h
def pparts_1_L2 (v_1 : Str) (v2 : List Str) (k_1 : Str → List Str → Option (List Str × Str)) : Nat → Int → Option (List Str × Str)
  | 0, _ => none
  | fu2 + 1, n4 => Option.bind (ix v_1 0) fun b5 => Option.bind (pdigit_S (b5.toNat : Int)) fun y7 => bif y7 then (bif decide (n4 < (v_1.length : Int)) then (Option.bind (ix v_1 n4) fun b11 => Option.bind (pdigit_S (b11.toNat : Int)) fun y13 => bif y13 then pparts_1_L2 v_1 v2 k_1 fu2 (IntKind.i64.wrap (n4 + 1)) else (Option.bind (slc v_1 0 n4) fun y16 => Option.bind (slAppendSeq_R0_XS v2 y16) fun y18 => Option.bind (slc v_1 n4 (v_1.length : Int)) fun y21 => k_1 y21 y18)) else (Option.bind (slc v_1 0 n4) fun y23 => Option.bind (slAppendSeq_R0_XS v2 y23) fun y25 => Option.bind (slc v_1 n4 (v_1.length : Int)) fun y28 => k_1 y28 y25)) else (Option.bind (slc v_1 0 n4) fun y30 => Option.bind (slAppendSeq_R0_XS v2 y30) fun y32 => Option.bind (slc v_1 n4 (v_1.length : Int)) fun y35 => k_1 y35 y32)
def pparts_1_L1 (N : Nat) : Nat → Str → List Str → Option (List Str × Str)
  | 0, _, _ => none
  | fu1 + 1, v_1, v2 => bif (!(v_1 == ([] : Str))) then pparts_1_L2 v_1 v2 (fun q_v_1 q_v2 => pparts_1_L1 N fu1 q_v_1 q_v2) N 1 else some (v2, v_1)
def pparts_1_F (N : Nat) (o2 : List Str) (u3 : Str) : Option (List Str × Str) := pparts_1_L1 N N u3 o2
set_option linter.unusedVariables false in
theorem pparts_1_XFh {N : Nat} {o2 : List Str} {u3 : Str} {r : List Str × Str} {l : Nat} {R : Loop} (hR : slAppendSeq_R0_R R) (hF : pparts_1_F N o2 u3 = some r) : EffFn Tryz.prog Gw 78 [.fnr (.yl l R.tmps.toList) (envL [(2, .pm 1 0 0)] 13 0), .pm 3 0 0] [(0, .lp l R .on), (0, .varx [.rs 2 0]), (0, .arr 9 1 (o2.map cStr) none), (0, .var [S u3])] (.c (.tup [])) [(0, .lp l R .on), (0, .varx [.rs 2 1]), (1, .arr 9 1 (r.1.map cStr) none), (0, .var [S r.2])] := by
  refine effn_of_wqM [2] tabOk mixed Tryz.func78 (by decide) rfl (Nat.le_of_ble_eq_true rfl) rfl ?_
  refine loop_oq (fun p : Nat × Str × List Str => [(0, .fnr (.yl l R.tmps.toList) (envL [(2, .pm 4295032832 0 0)] 13 0)), (1, .pm 4295163904 0 0)]) (fun p : Nat × Str × List Str => [(4294967296, .lp l R .on), (4295032832, .varx [.rs 2147614720 0]), (4295163904, .var [S p.2.1]), (2147614720, .arr 9 1 (p.2.2.map cStr) none)]) (fun p => pparts_1_L1 N p.1 p.2.1 p.2.2 = some r) (fun p => p.1) (N, u3, o2) hF ⟨rfl, rfl, trivial⟩ ⟨rfl, rfl, rfl, rfl, trivial⟩ ?_
  rintro ⟨fu1, v_1, v2⟩ hF
  cases fu1 with
  | zero => exact nomatch hF
  | succ fu1 =>
    refine And.intro (fun h3 => ?_) (fun h3 => ?_)
    · have hF := cpos h3 hF
      refine join_no ?_
      refine loop_oq (fun p : Nat × Int => [(0, .fnr (.yl l R.tmps.toList) (envL [(2, .pm 4295032832 0 0)] 13 0)), (1, .pm 4295163904 0 0), (3, .c (I p.2))]) (fun p : Nat × Int => [(4294967296, .lp l R .on), (4295032832, .varx [.rs 2147614720 0]), (4295163904, .var [S v_1]), (2147614720, .arr 9 1 (v2.map cStr) none)]) (fun p => pparts_1_L2 v_1 v2 (fun q_v_1 q_v2 => pparts_1_L1 N fu1 q_v_1 q_v2) p.1 p.2 = some r) (fun p => p.1) (N, 1) hF ⟨rfl, rfl, rfl, trivial⟩ ⟨rfl, rfl, rfl, rfl, trivial⟩ ?_
      rintro ⟨fu2, n4⟩ hF
      cases fu2 with
      | zero => exact nomatch hF
      | succ fu2 =>
        refine obind hF fun b5 h6 hF => ?_
        refine ⟨ix_nn h6, _, ix_str h6, ?_⟩
        refine obind hF fun y7 h8 hF => ?_
        refine Or.inl ⟨_, pdigit_h h8, rfl, ?_⟩
        refine And.intro (fun h9 => ?_) (fun h9 => ?_)
        · have hF := cpos h9 hF
          refine And.intro (fun h10 => ?_) (fun h10 => ?_)
          · have hF := cpos h10 hF
            refine obind hF fun b11 h12 hF => ?_
            refine ⟨ix_nn h12, _, ix_str h12, ?_⟩
            refine obind hF fun y13 h14 hF => ?_
            refine Or.inl ⟨_, pdigit_h h14, rfl, ?_⟩
            refine And.intro (fun h15 => ?_) (fun h15 => ?_)
            · have hF := cpos h15 hF
              exact ⟨(fu2, (IntKind.i64.wrap (n4 + 1))), Nat.lt_succ_self _, hF, ⟨rfl, rfl, rfl, trivial⟩, ⟨rfl, rfl, rfl, rfl, trivial⟩⟩
            · have hF := cneg h15 hF
              refine obind hF fun y16 h17 hF => ?_
              refine Or.inr ⟨[], 0, _, _, _, _, rfl, rfl, eff_sslice_h tok9.u h17, rfl, ?_⟩
              refine obind hF fun y18 h19 hF => ?_
              refine Or.inr ⟨[(4294967296, 0), (4295032832, 0), (2147614720, 0)], 0, _, _, _, _, rfl, rfl, eff_round rfl 0 rfl (slAppendSeq_R0_n hR) (slAppendSeq_R0_Xh hR h19), rfl, ?_⟩
              refine And.intro (fun h20 => ?_) (fun h20 => ?_)
              · exact absurd h20 (by simp)
              · skip
                refine obind hF fun y21 h22 hF => ?_
                refine Or.inr ⟨[], 0, _, _, _, _, rfl, rfl, eff_sslice_l tok9.u h22, rfl, ?_⟩
                exact ⟨(fu1, y21, y18), Nat.lt_succ_self _, hF, ⟨rfl, rfl, trivial⟩, ⟨rfl, rfl, rfl, rfl, trivial⟩⟩
          · have hF := cneg h10 hF
            refine obind hF fun y23 h24 hF => ?_
            refine Or.inr ⟨[], 0, _, _, _, _, rfl, rfl, eff_sslice_h tok9.u h24, rfl, ?_⟩
            refine obind hF fun y25 h26 hF => ?_
            refine Or.inr ⟨[(4294967296, 0), (4295032832, 0), (2147614720, 0)], 0, _, _, _, _, rfl, rfl, eff_round rfl 0 rfl (slAppendSeq_R0_n hR) (slAppendSeq_R0_Xh hR h26), rfl, ?_⟩
            refine And.intro (fun h27 => ?_) (fun h27 => ?_)
            · exact absurd h27 (by simp)
            · skip
              refine obind hF fun y28 h29 hF => ?_
              refine Or.inr ⟨[], 0, _, _, _, _, rfl, rfl, eff_sslice_l tok9.u h29, rfl, ?_⟩
              exact ⟨(fu1, y28, y25), Nat.lt_succ_self _, hF, ⟨rfl, rfl, trivial⟩, ⟨rfl, rfl, rfl, rfl, trivial⟩⟩
        · have hF := cneg h9 hF
          refine obind hF fun y30 h31 hF => ?_
          refine Or.inr ⟨[], 0, _, _, _, _, rfl, rfl, eff_sslice_h tok9.u h31, rfl, ?_⟩
          refine obind hF fun y32 h33 hF => ?_
          refine Or.inr ⟨[(4294967296, 0), (4295032832, 0), (2147614720, 0)], 0, _, _, _, _, rfl, rfl, eff_round rfl 0 rfl (slAppendSeq_R0_n hR) (slAppendSeq_R0_Xh hR h33), rfl, ?_⟩
          refine And.intro (fun h34 => ?_) (fun h34 => ?_)
          · exact absurd h34 (by simp)
          · skip
            refine obind hF fun y35 h36 hF => ?_
            refine Or.inr ⟨[], 0, _, _, _, _, rfl, rfl, eff_sslice_l tok9.u h36, rfl, ?_⟩
            exact ⟨(fu1, y35, y32), Nat.lt_succ_self _, hF, ⟨rfl, rfl, trivial⟩, ⟨rfl, rfl, rfl, rfl, trivial⟩⟩
    · have hF := cneg h3 hF
      refine ret_eq (p := fun r => effFinM tab _ 4 [2] (.c (.tup [])) [(0, .lp l R .on), (0, .varx [.rs 2 1]), (1, .arr 9 1 (r.1.map cStr) none), (0, .var [S r.2])] _) hF ?_
      exact ⟨[(4294967296, 0), (4295032832, 0), (2147614720, 0), (4295163904, 0)], [0, 0, 1, 0], rfl, rfl, rfl⟩
abbrev pparts_1_XS (o2 : List Str) (u3 : Str) : Option (List Str × Str) := pparts_1_F 1000 o2 u3
theorem pparts_1_Xh {o2 : List Str} {u3 : Str} {r : List Str × Str} {l : Nat} {R : Loop} (hR : slAppendSeq_R0_R R) (h : pparts_1_XS o2 u3 = some r) : EffFn Tryz.prog Gw 78 [.fnr (.yl l R.tmps.toList) (envL [(2, .pm 1 0 0)] 13 0), .pm 3 0 0] [(0, .lp l R .on), (0, .varx [.rs 2 0]), (0, .arr 9 1 (o2.map cStr) none), (0, .var [S u3])] (.c (.tup [])) [(0, .lp l R .on), (0, .varx [.rs 2 1]), (1, .arr 9 1 (r.1.map cStr) none), (0, .var [S r.2])] := pparts_1_XFh hR h
def slAppendSeq_F (u0 : Str) : Option (List Str × Str) := Option.bind (pparts_1_XS ([] : List Str) u0) fun y1 => some (y1.1, y1.2)
set_option linter.unusedVariables false in
theorem slAppendSeq_XFh {u0 : Str} {r : List Str × Str} (hF : slAppendSeq_F u0 = some r) : EffFn Tryz.prog Gw 77 [.c (.v (.slice none 0 0)), .fnr 78 [.pm 0 0 0]] [(0, .var [S u0])] (.rs 1 1) [(0, .var [S r.2]), (1, .arr 9 1 (r.1.map cStr) none)] := by
  refine effn_of_wq tabOk mixed Tryz.func77 (by decide) rfl (Nat.le_of_ble_eq_true rfl) rfl ?_
  refine Or.inr ⟨[], 0, _, _, _, _, rfl, rfl, eff_boxS (e := 9) (ie := ti9) (by decide), rfl, ?_⟩
  refine Or.inl ?_
  refine obind hF fun y1 h2 hF => ?_
  refine rangeP.mk ?_
  refine ⟨60000, envL [(2, .pm 2 1 0)] 13 0, _, _, Or.inl rfl, rfl, (by refine envSub_L ?_ 13 0; exact ⟨rfl, trivial⟩), fun l R hp ha hb hn => ⟨[(60000, 1), (2, 1), (65538, 1), (4294967296, 0)], 0, _, _, _, _, rfl, rfl, pparts_1_Xh ⟨hp, ha, hb, hn⟩ h2, rfl, _, true, .skip, rfl, fun _ => ?_, fun hb => nomatch hb⟩⟩
  refine Or.inl ?_
  refine ret_eq (p := fun r => effFin tab _ 1 (.rs 1 1) [(0, .var [S r.2]), (1, .arr 9 1 (r.1.map cStr) none)] _) hF ?_
  exact ⟨[(4294967296, 0), (65538, 2)], [0, 1], rfl, rfl, rfl⟩
abbrev slAppendSeq_XS (u0 : Str) : Option (List Str × Str) := slAppendSeq_F u0
theorem slAppendSeq_Xh {u0 : Str} {r : List Str × Str} (h : slAppendSeq_XS u0 = some r) : EffFn Tryz.prog Gw 77 [.c (.v (.slice none 0 0)), .fnr 78 [.pm 0 0 0]] [(0, .var [S u0])] (.rs 1 1) [(0, .var [S r.2]), (1, .arr 9 1 (r.1.map cStr) none)] := slAppendSeq_XFh  h
def slCollect_F (u0 : Str) : Option (List Str × Str) := Option.bind (slAppendSeq_XS u0) fun y1 => some (y1.1, y1.2)
set_option linter.unusedVariables false in
theorem slCollect_XFh {u0 : Str} {r : List Str × Str} (hF : slCollect_F u0 = some r) : EffFn Tryz.prog Gw 55 [.fnr 78 [.pm 0 0 0]] [(0, .var [S u0])] (.rs 1 1) [(0, .var [S r.2]), (1, .arr 9 1 (r.1.map cStr) none)] := by
  refine effn_of_wq tabOk mixed Tryz.func55 (by decide) rfl (Nat.le_of_ble_eq_true rfl) rfl ?_
  refine Or.inl ?_
  refine obind hF fun y1 h2 hF => ?_
  refine Or.inr (Or.inr ⟨[(4294967296, 0)], 0, _, _, _, _, rfl, rfl, eff_callN (as' := [.c (.v (.slice none 0 0)), .fnr 78 [.pm 0 0 0]]) rfl (Or.inr ⟨_, rfl, rfl⟩) ⟨.inr ⟨rfl, rfl⟩, .inl rfl, trivial⟩ (slAppendSeq_Xh h2), rfl, ?_⟩)
  refine ret_eq (p := fun r => effFin tab _ 1 (.rs 1 1) [(0, .var [S r.2]), (1, .arr 9 1 (r.1.map cStr) none)] _) hF ?_
  exact ⟨[(4294967296, 0), (65540, 1)], [0, 1], rfl, rfl, rfl⟩
abbrev slCollect_XS (u0 : Str) : Option (List Str × Str) := slCollect_F u0
theorem slCollect_Xh {u0 : Str} {r : List Str × Str} (h : slCollect_XS u0 = some r) : EffFn Tryz.prog Gw 55 [.fnr 78 [.pm 0 0 0]] [(0, .var [S u0])] (.rs 1 1) [(0, .var [S r.2]), (1, .arr 9 1 (r.1.map cStr) none)] := slCollect_XFh  h
abbrev slCompareFunc_E (y : Int) : CV := I y
def slCompareFunc_L1 (s1 : List Str) (s2 : List Str) (cmp : Str → Str → Option Int) : Nat → Int → Option (Int)
  | 0, _ => none
  | fu1 + 1, v1 => bif decide (v1 < ((s1.map cStr).length : Int)) then (Option.bind (ix s1 v1) fun x3 => bif decide (v1 ≥ ((s2.map cStr).length : Int)) then some (1) else (Option.bind (ix s2 v1) fun x6 => Option.bind (cmp x3 x6) fun y8 => bif (y8 != 0) then some (y8) else slCompareFunc_L1 s1 s2 cmp fu1 (IntKind.i64.wrap (v1 + 1)))) else (bif decide (((s1.map cStr).length : Int) < ((s2.map cStr).length : Int)) then some ((-1)) else some (0))
def slCompareFunc_F (N : Nat) (s1 : List Str) (s2 : List Str) (cmp : Str → Str → Option Int) : Option (Int) := slCompareFunc_L1 s1 s2 cmp N 0
set_option linter.unusedVariables false in
theorem slCompareFunc_Fh {N : Nat} {s1 : List Str} {s2 : List Str} {cmp : Str → Str → Option Int} {r : Int} {cmp_f : FuncId} {cmp_c : List CV} (cmp_h : ∀ z0 z1 y, cmp z0 z1 = some y → Holds Tryz.prog Gw cmp_f (S z0 :: S z1 :: cmp_c) (I y)) (hF : slCompareFunc_F N s1 s2 cmp = some r) : Holds Tryz.prog Gw 58 [.sl 1 (s1.map cStr), .sl 1 (s2.map cStr), .fn cmp_f cmp_c] (slCompareFunc_E r) := by
  refine holds_of_wq tabOk mixed Tryz.func58 (by decide) rfl (Nat.le_of_ble_eq_true rfl) ?_
  refine loop_oq (fun p : Nat × Int => [(0, .c (.sl 1 (s1.map cStr))), (1, .c (.sl 1 (s2.map cStr))), (2, .c (.fn cmp_f cmp_c)), (11, .c (.sl 1 (s1.map cStr))), (12, .c (I ((s1.map cStr).length : Int))), (13, .c (I p.2))]) (fun _ => []) (fun p => slCompareFunc_L1 s1 s2 cmp p.1 p.2 = some r) (fun p => p.1) (N, 0) hF ⟨rfl, rfl, rfl, rfl, rfl, rfl, trivial⟩ trivial ?_
  rintro ⟨fu1, v1⟩ hF
  cases fu1 with
  | zero => exact nomatch hF
  | succ fu1 =>
    refine join_no ?_
    refine And.intro (fun h2 => ?_) (fun h2 => ?_)
    · have hF := cpos h2 hF
      refine join_no ?_
      refine obind hF fun x3 h4 hF => ?_
      refine ⟨ix_nn h4, .inl rfl, _, ix_map cStr h4, ?_⟩
      refine And.intro (fun h5 => ?_) (fun h5 => ?_)
      · have hF := cpos h5 hF
        exact Or.inl ⟨rfl, congrArg (Option.map slCompareFunc_E) hF⟩
      · have hF := cneg h5 hF
        refine obind hF fun x6 h7 hF => ?_
        refine ⟨ix_nn h7, .inl rfl, _, ix_map cStr h7, ?_⟩
        refine obind hF fun y8 h9 hF => ?_
        refine Or.inl ⟨_, cmp_h _ _ _ h9, rfl, ?_⟩
        refine And.intro (fun h10 => ?_) (fun h10 => ?_)
        · have hF := cpos h10 hF
          exact Or.inl ⟨rfl, congrArg (Option.map slCompareFunc_E) hF⟩
        · have hF := cneg h10 hF
          exact ⟨(fu1, (IntKind.i64.wrap (v1 + 1))), Nat.lt_succ_self _, hF, ⟨rfl, rfl, rfl, rfl, rfl, rfl, trivial⟩, trivial⟩
    · have hF := cneg h2 hF
      refine And.intro (fun h11 => ?_) (fun h11 => ?_)
      · have hF := cpos h11 hF
        exact Or.inl ⟨rfl, congrArg (Option.map slCompareFunc_E) hF⟩
      · have hF := cneg h11 hF
        exact Or.inl ⟨rfl, congrArg (Option.map slCompareFunc_E) hF⟩
abbrev slCompareFunc_S (s1 : List Str) (s2 : List Str) (cmp : Str → Str → Option Int) : Option (Int) := slCompareFunc_F (s1.length + 1) s1 s2 cmp
theorem slCompareFunc_h {s1 : List Str} {s2 : List Str} {cmp : Str → Str → Option Int} {r : Int} {cmp_f : FuncId} {cmp_c : List CV} (cmp_h : ∀ z0 z1 y, cmp z0 z1 = some y → Holds Tryz.prog Gw cmp_f (S z0 :: S z1 :: cmp_c) (I y)) (h : slCompareFunc_S s1 s2 cmp = some r) : Holds Tryz.prog Gw 58 [.sl 1 (s1.map cStr), .sl 1 (s2.map cStr), .fn cmp_f cmp_c] (slCompareFunc_E r) := slCompareFunc_Fh cmp_h h
abbrev pNatural_E (y : Int) : CV := I y
def pNatural_F (a : Str) (b : Str) : Option (Int) := Option.bind (slCollect_XS a) fun y1 => Option.bind (slCollect_XS b) fun y3 => Option.bind (slCompareFunc_S y1.1 y3.1 (fun z0 z1 => ppart_S z0 z1)) fun y5 => Option.bind (cmpCompareS_S a b) fun y7 => Option.bind (cmpOr_S ([y5, y7] : List Int)) fun y9 => some (y9)
set_option linter.unusedVariables false in
theorem pNatural_Fh {a : Str} {b : Str} {r : Int} (hF : pNatural_F a b = some r) : Holds Tryz.prog Gw 30 [S a, S b] (pNatural_E r) := by
  refine holds_of_wq tabOk mixed Tryz.func30 (by decide) rfl (Nat.le_of_ble_eq_true rfl) ?_
  refine Or.inr (Or.inr ⟨[], 0, _, _, _, _, rfl, rfl, eff_call rfl (Or.inr ⟨_, rfl, rfl⟩) pparts_K, rfl, ?_⟩)
  refine obind hF fun y1 h2 hF => ?_
  refine Or.inr (Or.inr ⟨[(8, 1)], 0, _, _, _, _, rfl, rfl, eff_call rfl (Or.inr ⟨_, rfl, rfl⟩) (slCollect_Xh h2), rfl, ?_⟩)
  refine Or.inr (Or.inr ⟨[], 0, _, _, _, _, rfl, rfl, eff_call rfl (Or.inr ⟨_, rfl, rfl⟩) pparts_K, rfl, ?_⟩)
  refine obind hF fun y3 h4 hF => ?_
  refine Or.inr (Or.inr ⟨[(11, 1)], 0, _, _, _, _, rfl, rfl, eff_call rfl (Or.inr ⟨_, rfl, rfl⟩) (slCollect_Xh h4), rfl, ?_⟩)
  refine obind hF fun y5 h6 hF => ?_
  refine Or.inl ⟨_, slCompareFunc_h (fun _ _ _ h => ppart_h h) h6, rfl, ?_⟩
  refine obind hF fun y7 h8 hF => ?_
  refine Or.inl ⟨_, cmpCompareS_h h8, rfl, ?_⟩
  refine Or.inl ?_
  refine obind hF fun y9 h10 hF => ?_
  refine Or.inl ⟨_, cmpOr_h h10, rfl, ?_⟩
  exact Or.inl ⟨rfl, congrArg (Option.map pNatural_E) hF⟩
abbrev pNatural_S (a : Str) (b : Str) : Option (Int) := pNatural_F a b
theorem pNatural_h {a : Str} {b : Str} {r : Int} (h : pNatural_S a b = some r) : Holds Tryz.prog Gw 30 [S a, S b] (pNatural_E r) := pNatural_Fh  h
abbrev lawake_E (y : Bool) : CV := B y
def lawake_F : Option (Bool) := Option.bind (pParse_S ([51, 46, 49, 50, 46, 49] : Str)) fun y1 => Option.bind (pParent_S ([51, 46, 49, 50, 46, 49] : Str)) fun y3 => Option.bind (pCompare_S ([51, 46, 49, 50, 46, 49] : Str) ([51, 46, 50, 46, 57] : Str)) fun y5 => Option.bind (pFree_S ([([51, 46, 49] : Str), ([51, 46, 51] : Str)] : List Str) ([51] : Str)) fun y7 => bif (y1.2 == 0) then (Option.bind (slEqual_S y1.1 ([3, 12, 1] : List Int)) fun y10 => bif y10 then (bif y3.2 then (bif (y3.1 == ([51, 46, 49, 50] : Str)) then (bif (y5.2 == 0) then (bif (y5.1 == 1) then (bif (y7.2 == 0) then (bif (y7.1 == ([51, 46, 50] : Str)) then (Option.bind (pNatural_S ([65, 32, 57] : Str) ([65, 32, 49, 48] : Str)) fun y19 => bif (y19 == (-1)) then (Option.bind (pWithin_S ([51, 46, 49] : Str) ([51] : Str)) fun y22 => bif y22 then (Option.bind (pName_S ([65, 32, 57] : Str)) fun y25 => some (y25)) else some (false)) else some (false)) else some (false)) else some (false)) else some (false)) else some (false)) else some (false)) else some (false)) else some (false)) else some (false)
set_option linter.unusedVariables false in
theorem lawake_Fh {r : Bool} (hF : lawake_F  = some r) : Holds Tryz.prog Gw 11 [] (lawake_E r) := by
  refine holds_of_wq tabOk mixed Tryz.func11 (by decide) rfl (Nat.le_of_ble_eq_true rfl) ?_
  refine obind hF fun y1 h2 hF => ?_
  refine Or.inl ⟨_, pParse_h h2, rfl, ?_⟩
  refine obind hF fun y3 h4 hF => ?_
  refine Or.inl ⟨_, pParent_h h4, rfl, ?_⟩
  refine obind hF fun y5 h6 hF => ?_
  refine Or.inl ⟨_, pCompare_h h6, rfl, ?_⟩
  refine Or.inl ?_
  refine obind hF fun y7 h8 hF => ?_
  refine Or.inl ⟨_, pFree_h h8, rfl, ?_⟩
  refine And.intro (fun h9 => ?_) (fun h9 => ?_)
  · have hF := cpos h9 hF
    refine Or.inl ?_
    refine obind hF fun y10 h11 hF => ?_
    refine Or.inl ⟨_, slEqual_h h11, rfl, ?_⟩
    refine And.intro (fun h12 => ?_) (fun h12 => ?_)
    · have hF := cpos h12 hF
      refine And.intro (fun h13 => ?_) (fun h13 => ?_)
      · have hF := cpos h13 hF
        refine And.intro (fun h14 => ?_) (fun h14 => ?_)
        · have hF := cpos h14 hF
          refine And.intro (fun h15 => ?_) (fun h15 => ?_)
          · have hF := cpos h15 hF
            refine And.intro (fun h16 => ?_) (fun h16 => ?_)
            · have hF := cpos h16 hF
              refine And.intro (fun h17 => ?_) (fun h17 => ?_)
              · have hF := cpos h17 hF
                refine And.intro (fun h18 => ?_) (fun h18 => ?_)
                · have hF := cpos h18 hF
                  refine obind hF fun y19 h20 hF => ?_
                  refine Or.inl ⟨_, pNatural_h h20, rfl, ?_⟩
                  refine And.intro (fun h21 => ?_) (fun h21 => ?_)
                  · have hF := cpos h21 hF
                    refine obind hF fun y22 h23 hF => ?_
                    refine Or.inl ⟨_, pWithin_h h23, rfl, ?_⟩
                    refine And.intro (fun h24 => ?_) (fun h24 => ?_)
                    · have hF := cpos h24 hF
                      refine obind hF fun y25 h26 hF => ?_
                      refine Or.inl ⟨_, pName_h h26, rfl, ?_⟩
                      exact Or.inl ⟨rfl, congrArg (Option.map lawake_E) hF⟩
                    · have hF := cneg h24 hF
                      exact Or.inl ⟨rfl, congrArg (Option.map lawake_E) hF⟩
                  · have hF := cneg h21 hF
                    exact Or.inl ⟨rfl, congrArg (Option.map lawake_E) hF⟩
                · have hF := cneg h18 hF
                  exact Or.inl ⟨rfl, congrArg (Option.map lawake_E) hF⟩
              · have hF := cneg h17 hF
                exact Or.inl ⟨rfl, congrArg (Option.map lawake_E) hF⟩
            · have hF := cneg h16 hF
              exact Or.inl ⟨rfl, congrArg (Option.map lawake_E) hF⟩
          · have hF := cneg h15 hF
            exact Or.inl ⟨rfl, congrArg (Option.map lawake_E) hF⟩
        · have hF := cneg h14 hF
          exact Or.inl ⟨rfl, congrArg (Option.map lawake_E) hF⟩
      · have hF := cneg h13 hF
        exact Or.inl ⟨rfl, congrArg (Option.map lawake_E) hF⟩
    · have hF := cneg h12 hF
      exact Or.inl ⟨rfl, congrArg (Option.map lawake_E) hF⟩
  · have hF := cneg h9 hF
    exact Or.inl ⟨rfl, congrArg (Option.map lawake_E) hF⟩
abbrev lawake_S : Option (Bool) := lawake_F 
theorem lawake_h {r : Bool} (h : lawake_S = some r) : Holds Tryz.prog Gw 11 [] (lawake_E r) := lawake_Fh  h
end Go.Proofs.YtihjmnhamaicpaaGreatDoor
