/- Functions of the program as functions of Lean, each with its contract (printed by a program). -/
import Derived.Test.YtmdhahfminiilaaDoorGB
namespace Go.Proofs.YtmdhahfminiilaaDoor
open Go Go.Abs
set_option maxRecDepth 10000
set_option maxHeartbeats 400000
def pCite_R0_X : {p : Array Nat × Code × Code // (rangesOf (Tryd.f14.body.getD .skip))[0]? = some p} := ⟨(_, _, _), rfl⟩
def pCite_R0_R (R : Loop) : Prop := R.params = pCite_R0_X.1.1 ∧ R.assign = pCite_R0_X.1.2.1 ∧ R.body = pCite_R0_X.1.2.2 ∧ R.tmps.size = 39
theorem pCite_R0_n {R : Loop} (h : pCite_R0_R R) : 1 = R.params.size := by rw [h.1]; rfl
def pCite_R0_F (u1 : Int) (u2 : Int) (a27 : Version) : Option (Bool × Int) := bif decide (a27.Day > u1) then some (false, u2) else some (true, a27.Number)
set_option linter.unusedVariables false in
theorem pCite_R0_XFh {u1 : Int} {u2 : Int} {a27 : Version} {r : Bool × Int} {l : Nat} {R : Loop} (hR : pCite_R0_R R) (hF : pCite_R0_F u1 u2 a27 = some r) : EffRnd Tryd.prog Gw l R (envL [(5, .pm 1 0 0), (10, .pm 2 0 0)] 39 0) [.c (.agg [I a27.Number, I a27.Day, I a27.Unit.Unit, I a27.Unit.Parent, I a27.Unit.Level, S a27.Unit.Mark, S a27.Unit.Title, .sl 1 (a27.Path.map cInt)])] [(0, .lp l R .on), (0, .var [I u1]), (0, .var [I u2])] (.c (.v (.bool r.1))) [(0, .lp l R (lpq r.1 (.exit 0))), (0, .var [I u1]), (0, .var [I r.2])] := by
  refine effrnd_of_wq [] tabOk mixed 0 hR.1 hR.2.1 hR.2.2.1 hR.2.2.2 rfl ?_
  refine Or.inl ?_
  refine ⟨rfl, ?_⟩
  refine And.intro (fun h1 => ?_) (fun h1 => ?_)
  · have hF := cpos h1 hF
    refine ret_eq (p := fun r => rndFin [] 0 l R 3 (.c (.v (.bool r.1))) [(0, .lp l R (lpq r.1 (.exit 0))), (0, .var [I u1]), (0, .var [I r.2])] (.off (.exit 0)) false _) hF ?_
    exact ⟨rfl, rfl, [(4294967296, 0), (4295032832, 0), (4295098368, 0)], [0, 0, 0], rfl, rfl⟩
  · have hF := cneg h1 hF
    refine ret_eq (p := fun r => rndFin [] 0 l R 3 (.c (.v (.bool r.1))) [(0, .lp l R (lpq r.1 (.exit 0))), (0, .var [I u1]), (0, .var [I r.2])] .on true _) hF ?_
    exact ⟨rfl, rfl, [(4294967296, 0), (4295032832, 0), (4295098368, 0)], [0, 0, 0], rfl, rfl⟩
abbrev pCite_R0_XS (u1 : Int) (u2 : Int) (a27 : Version) : Option (Bool × Int) := pCite_R0_F u1 u2 a27
theorem pCite_R0_Xh {u1 : Int} {u2 : Int} {a27 : Version} {r : Bool × Int} {l : Nat} {R : Loop} (hR : pCite_R0_R R) (h : pCite_R0_XS u1 u2 a27 = some r) : EffRnd Tryd.prog Gw l R (envL [(5, .pm 1 0 0), (10, .pm 2 0 0)] 39 0) [.c (.agg [I a27.Number, I a27.Day, I a27.Unit.Unit, I a27.Unit.Parent, I a27.Unit.Level, S a27.Unit.Mark, S a27.Unit.Title, .sl 1 (a27.Path.map cInt)])] [(0, .lp l R .on), (0, .var [I u1]), (0, .var [I u2])] (.c (.v (.bool r.1))) [(0, .lp l R (lpq r.1 (.exit 0))), (0, .var [I u1]), (0, .var [I r.2])] := pCite_R0_XFh hR h
def pversions_11_L1 (u1 : Int) (u3 : List Shot) (u4 : Int) : Nat → Bool → Int → Int → Int → Int → Int → Int → Str → Str → Option (Bool × Int)
  | 0, _, _, _, _, _, _, _, _, _ => none
  | fu1 + 1, was1, n2, v3, v_4, before_5, before_6, before_7, before_8, before_9 => bif decide (v3 < ((u3.map cShot).length : Int)) then (Option.bind (ix u3 v3) fun x11 => Option.bind (pfind_S x11.Units u4) fun y13 => bif y13.2 then (bif (!was1) then (Option.bind (ppath_S x11.Units u4) fun y17 => Option.bind (pCite_R0_XS u1 v_4 (⟨(IntKind.i64.wrap (n2 + 1)), x11.Day, y13.1, y17⟩ : Version)) fun y19 => bif y19.1 then pversions_11_L1 u1 u3 u4 fu1 y13.2 (IntKind.i64.wrap (n2 + 1)) (IntKind.i64.wrap (v3 + 1)) y19.2 y13.1.Unit y13.1.Parent y13.1.Level y13.1.Mark y13.1.Title else some (false, y19.2)) else (bif (!(y13.1 == (⟨before_5, before_6, before_7, before_8, before_9⟩ : Standing))) then (Option.bind (ppath_S x11.Units u4) fun y25 => Option.bind (pCite_R0_XS u1 v_4 (⟨(IntKind.i64.wrap (n2 + 1)), x11.Day, y13.1, y25⟩ : Version)) fun y27 => bif y27.1 then pversions_11_L1 u1 u3 u4 fu1 y13.2 (IntKind.i64.wrap (n2 + 1)) (IntKind.i64.wrap (v3 + 1)) y27.2 y13.1.Unit y13.1.Parent y13.1.Level y13.1.Mark y13.1.Title else some (false, y27.2)) else pversions_11_L1 u1 u3 u4 fu1 y13.2 n2 (IntKind.i64.wrap (v3 + 1)) v_4 y13.1.Unit y13.1.Parent y13.1.Level y13.1.Mark y13.1.Title)) else pversions_11_L1 u1 u3 u4 fu1 y13.2 n2 (IntKind.i64.wrap (v3 + 1)) v_4 y13.1.Unit y13.1.Parent y13.1.Level y13.1.Mark y13.1.Title) else some (true, v_4)
def pversions_11_F (N : Nat) (u1 : Int) (u2 : Int) (u3 : List Shot) (u4 : Int) : Option (Bool × Int) := pversions_11_L1 u1 u3 u4 N false 0 0 u2 0 0 0 ([] : Str) ([] : Str)
set_option linter.unusedVariables false in
theorem pversions_11_XFh {N : Nat} {u1 : Int} {u2 : Int} {u3 : List Shot} {u4 : Int} {r : Bool × Int} {l : Nat} {R : Loop} (hR : pCite_R0_R R) (hF : pversions_11_F N u1 u2 u3 u4 = some r) : EffFn Tryd.prog Gw 63 [.fnr (.yl l R.tmps.toList) (envL [(5, .pm 1 0 0), (10, .pm 2 0 0)] 39 0), .pm 3 0 0, .pm 4 0 0] [(0, .lp l R .on), (0, .var [I u1]), (0, .var [I u2]), (0, .var [.sl 2 (u3.map cShot)]), (0, .var [I u4])] (.c (.tup [])) [(0, .lp l R (lpq r.1 (.exit 0))), (0, .var [I u1]), (0, .var [I r.2]), (0, .var [.sl 2 (u3.map cShot)]), (0, .var [I u4])] := by
  refine effn_of_wq tabOk mixed Tryd.func63 (by decide) rfl (Nat.le_of_ble_eq_true rfl) rfl ?_
  refine Or.inl ?_
  refine loop_oq (fun p : Nat × Bool × Int × Int × Int × Int × Int × Int × Str × Str => [(0, .fnr (.yl l R.tmps.toList) (envL [(5, .pm 4295032832 0 0), (10, .pm 4295098368 0 0)] 39 0)), (2, .pm 4295229440 0 0), (4, .pm 4 0 0), (5, .c (B p.2.1)), (6, .c (I p.2.2.1)), (11, .c (.sl 2 (u3.map cShot))), (12, .c (I ((u3.map cShot).length : Int))), (13, .c (I p.2.2.2.1))]) (fun p : Nat × Bool × Int × Int × Int × Int × Int × Int × Str × Str => [(4294967296, .lp l R .on), (4295032832, .var [I u1]), (4295098368, .var [I p.2.2.2.2.1]), (4295229440, .var [I u4]), (4, .var [I p.2.2.2.2.2.1, I p.2.2.2.2.2.2.1, I p.2.2.2.2.2.2.2.1, S p.2.2.2.2.2.2.2.2.1, S p.2.2.2.2.2.2.2.2.2]), (4295163904, .var [.sl 2 (u3.map cShot)])]) (fun p => pversions_11_L1 u1 u3 u4 p.1 p.2.1 p.2.2.1 p.2.2.2.1 p.2.2.2.2.1 p.2.2.2.2.2.1 p.2.2.2.2.2.2.1 p.2.2.2.2.2.2.2.1 p.2.2.2.2.2.2.2.2.1 p.2.2.2.2.2.2.2.2.2 = some r) (fun p => p.1) (N, false, 0, 0, u2, 0, 0, 0, ([] : Str), ([] : Str)) hF ⟨rfl, rfl, rfl, rfl, rfl, rfl, rfl, rfl, trivial⟩ ⟨rfl, rfl, rfl, rfl, rfl, rfl, trivial⟩ ?_
  rintro ⟨fu1, was1, n2, v3, v_4, before_5, before_6, before_7, before_8, before_9⟩ hF
  cases fu1 with
  | zero => exact nomatch hF
  | succ fu1 =>
    refine join_no ?_
    refine And.intro (fun h10 => ?_) (fun h10 => ?_)
    · have hF := cpos h10 hF
      refine join_no ?_
      refine obind hF fun x11 h12 hF => ?_
      refine ⟨ix_nn h12, .inl rfl, _, ix_map cShot h12, ?_⟩
      refine Or.inl ?_
      refine obind hF fun y13 h14 hF => ?_
      refine Or.inl ⟨_, pfind_h h14, rfl, ?_⟩
      refine Or.inl ?_
      refine And.intro (fun h15 => ?_) (fun h15 => ?_)
      · have hF := cpos h15 hF
        refine And.intro (fun h16 => ?_) (fun h16 => ?_)
        · have hF := cpos h16 hF
          refine obind hF fun y17 h18 hF => ?_
          refine Or.inl ⟨_, ppath_h h18, rfl, ?_⟩
          refine Or.inl ?_
          refine obind hF fun y19 h20 hF => ?_
          rcases y19 with ⟨_ | _, y21⟩
          · have hF := cneg rfl hF
            refine Or.inr ⟨[(4294967296, 0), (4295032832, 0), (4295098368, 0)], 0, _, _, _, _, rfl, rfl, eff_round rfl 0 rfl (pCite_R0_n hR) (pCite_R0_Xh hR h20), rfl, ?_⟩
            refine And.intro (by kernel_rfl) ?_
            refine And.intro (fun h22 => ?_) (fun h22 => ?_)
            · skip
              refine ret_eq (p := fun r => effFin tab _ 5 (.c (.tup [])) [(0, .lp l R (lpq r.1 (.exit 0))), (0, .var [I u1]), (0, .var [I r.2]), (0, .var [.sl 2 (u3.map cShot)]), (0, .var [I u4])] _) hF ?_
              exact ⟨[(4294967296, 0), (4295032832, 0), (4295098368, 0), (4295163904, 0), (4295229440, 0)], [0, 0, 0, 0, 0], rfl, rfl, rfl⟩
            · exact absurd h22 (by simp)
          · have hF := cpos rfl hF
            refine Or.inr ⟨[(4294967296, 0), (4295032832, 0), (4295098368, 0)], 0, _, _, _, _, rfl, rfl, eff_round rfl 0 rfl (pCite_R0_n hR) (pCite_R0_Xh hR h20), rfl, ?_⟩
            refine And.intro (by kernel_rfl) ?_
            refine And.intro (fun h23 => ?_) (fun h23 => ?_)
            · exact absurd h23 (by simp)
            · skip
              exact ⟨(fu1, y13.2, (IntKind.i64.wrap (n2 + 1)), (IntKind.i64.wrap (v3 + 1)), y21, y13.1.Unit, y13.1.Parent, y13.1.Level, y13.1.Mark, y13.1.Title), Nat.lt_succ_self _, hF, ⟨rfl, rfl, rfl, rfl, rfl, rfl, rfl, rfl, trivial⟩, ⟨rfl, rfl, rfl, rfl, rfl, rfl, trivial⟩⟩
        · have hF := cneg h16 hF
          refine Or.inr ⟨[], 0, _, _, _, _, rfl, rfl, sne_Standing y13.1 (⟨before_5, before_6, before_7, before_8, before_9⟩ : Standing), rfl, ?_⟩
          refine And.intro (fun h24 => ?_) (fun h24 => ?_)
          · have hF := cpos h24 hF
            refine obind hF fun y25 h26 hF => ?_
            refine Or.inl ⟨_, ppath_h h26, rfl, ?_⟩
            refine Or.inl ?_
            refine obind hF fun y27 h28 hF => ?_
            rcases y27 with ⟨_ | _, y29⟩
            · have hF := cneg rfl hF
              refine Or.inr ⟨[(4294967296, 0), (4295032832, 0), (4295098368, 0)], 0, _, _, _, _, rfl, rfl, eff_round rfl 0 rfl (pCite_R0_n hR) (pCite_R0_Xh hR h28), rfl, ?_⟩
              refine And.intro (by kernel_rfl) ?_
              refine And.intro (fun h30 => ?_) (fun h30 => ?_)
              · skip
                refine ret_eq (p := fun r => effFin tab _ 5 (.c (.tup [])) [(0, .lp l R (lpq r.1 (.exit 0))), (0, .var [I u1]), (0, .var [I r.2]), (0, .var [.sl 2 (u3.map cShot)]), (0, .var [I u4])] _) hF ?_
                exact ⟨[(4294967296, 0), (4295032832, 0), (4295098368, 0), (4295163904, 0), (4295229440, 0)], [0, 0, 0, 0, 0], rfl, rfl, rfl⟩
              · exact absurd h30 (by simp)
            · have hF := cpos rfl hF
              refine Or.inr ⟨[(4294967296, 0), (4295032832, 0), (4295098368, 0)], 0, _, _, _, _, rfl, rfl, eff_round rfl 0 rfl (pCite_R0_n hR) (pCite_R0_Xh hR h28), rfl, ?_⟩
              refine And.intro (by kernel_rfl) ?_
              refine And.intro (fun h31 => ?_) (fun h31 => ?_)
              · exact absurd h31 (by simp)
              · skip
                exact ⟨(fu1, y13.2, (IntKind.i64.wrap (n2 + 1)), (IntKind.i64.wrap (v3 + 1)), y29, y13.1.Unit, y13.1.Parent, y13.1.Level, y13.1.Mark, y13.1.Title), Nat.lt_succ_self _, hF, ⟨rfl, rfl, rfl, rfl, rfl, rfl, rfl, rfl, trivial⟩, ⟨rfl, rfl, rfl, rfl, rfl, rfl, trivial⟩⟩
          · have hF := cneg h24 hF
            exact ⟨(fu1, y13.2, n2, (IntKind.i64.wrap (v3 + 1)), v_4, y13.1.Unit, y13.1.Parent, y13.1.Level, y13.1.Mark, y13.1.Title), Nat.lt_succ_self _, hF, ⟨rfl, rfl, rfl, rfl, rfl, rfl, rfl, rfl, trivial⟩, ⟨rfl, rfl, rfl, rfl, rfl, rfl, trivial⟩⟩
      · have hF := cneg h15 hF
        exact ⟨(fu1, y13.2, n2, (IntKind.i64.wrap (v3 + 1)), v_4, y13.1.Unit, y13.1.Parent, y13.1.Level, y13.1.Mark, y13.1.Title), Nat.lt_succ_self _, hF, ⟨rfl, rfl, rfl, rfl, rfl, rfl, rfl, rfl, trivial⟩, ⟨rfl, rfl, rfl, rfl, rfl, rfl, trivial⟩⟩
    · have hF := cneg h10 hF
      refine ret_eq (p := fun r => effFin tab _ 5 (.c (.tup [])) [(0, .lp l R (lpq r.1 (.exit 0))), (0, .var [I u1]), (0, .var [I r.2]), (0, .var [.sl 2 (u3.map cShot)]), (0, .var [I u4])] _) hF ?_
      exact ⟨[(4294967296, 0), (4295032832, 0), (4295098368, 0), (4295163904, 0), (4295229440, 0)], [0, 0, 0, 0, 0], rfl, rfl, rfl⟩
abbrev pversions_11_XS (u1 : Int) (u2 : Int) (u3 : List Shot) (u4 : Int) : Option (Bool × Int) := pversions_11_F 2000 u1 u2 u3 u4
theorem pversions_11_Xh {u1 : Int} {u2 : Int} {u3 : List Shot} {u4 : Int} {r : Bool × Int} {l : Nat} {R : Loop} (hR : pCite_R0_R R) (h : pversions_11_XS u1 u2 u3 u4 = some r) : EffFn Tryd.prog Gw 63 [.fnr (.yl l R.tmps.toList) (envL [(5, .pm 1 0 0), (10, .pm 2 0 0)] 39 0), .pm 3 0 0, .pm 4 0 0] [(0, .lp l R .on), (0, .var [I u1]), (0, .var [I u2]), (0, .var [.sl 2 (u3.map cShot)]), (0, .var [I u4])] (.c (.tup [])) [(0, .lp l R (lpq r.1 (.exit 0))), (0, .var [I u1]), (0, .var [I r.2]), (0, .var [.sl 2 (u3.map cShot)]), (0, .var [I u4])] := pversions_11_XFh hR h
end Go.Proofs.YtmdhahfminiilaaDoor
