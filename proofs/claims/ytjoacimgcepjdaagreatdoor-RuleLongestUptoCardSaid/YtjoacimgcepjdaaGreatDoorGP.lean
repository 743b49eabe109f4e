/- Functions of the program as functions of Lean, each with its contract (printed by a program). -/
import Derived.Test.YtjoacimgcepjdaaGreatDoorGC
import Derived.Test.YtjoacimgcepjdaaGreatDoorLibB
namespace Go.Proofs.YtjoacimgcepjdaaGreatDoor
open Go Go.Abs
set_option maxRecDepth 10000
set_option maxHeartbeats 400000
def bWrite_F (u0q : Bool) (o1 : List Int) (s : Str) : Option (Int × Bool × List Int) := Option.bind (bCheck_XS u0q o1) fun y1 => bif decide (y1.length + s.length ≤ 4294967296) then some ((s.length : Int), false, (y1 ++ s2b s)) else none
set_option linter.unusedVariables false in
theorem bWrite_XFh {u0q : Bool} {o1 : List Int} {s : Str} {r : Int × Bool × List Int} (hF : bWrite_F u0q o1 s = some r) : EffFn Tryz.prog Gw 30 [.pm 0 0 0, .c (S s)] [(0, .varx [.bp 59 u0q, .rs 1 0]), (0, .arr 5 1 (o1.map cInt_u8) none)] (.c (.tup [I r.1, errC r.2.1])) [(0, .varx [.bp 59 true, .rs 1 1]), (1, .arr 5 1 (r.2.2.map cInt_u8) none)] := by
  refine effn_of_wqM [1] tabOk mixed Tryz.func30 (by decide) rfl (Nat.le_of_ble_eq_true rfl) rfl ?_
  refine obind hF fun y1 h2 hF => ?_
  refine Or.inr (⟨[(4294967296, 0), (2147549184, 0)], 0, _, _, _, _, rfl, rfl, eff_call rfl (Or.inr ⟨_, rfl, rfl⟩) (bCheck_Xh h2), rfl, ?_⟩)
  refine Or.inl ?_
  refine Or.inl ?_
  refine Or.inl ?_
  refine gpos hF fun h3 hF => ?_
  refine Or.inr ⟨[(2147549184, 1)], 0, _, _, _, _, rfl, rfl, eff_appstr (l := y1) (s := s) tok57.u tok9.u tok5 rfl rfl rfl h3, rfl, ?_⟩
  refine Or.inl ?_
  refine Or.inl ?_
  refine Or.inl ?_
  refine ret_eq (p := fun r => effFinM tab _ 2 [1] (.c (.tup [I r.1, errC r.2.1])) [(0, .varx [.bp 59 true, .rs 1 1]), (1, .arr 5 1 (r.2.2.map cInt_u8) none)] _) hF ?_
  exact ⟨[(4294967296, 0), (2147549184, 2)], [0, 1], rfl, rfl, rfl⟩
abbrev bWrite_XS (u0q : Bool) (o1 : List Int) (s : Str) : Option (Int × Bool × List Int) := bWrite_F u0q o1 s
theorem bWrite_Xh {u0q : Bool} {o1 : List Int} {s : Str} {r : Int × Bool × List Int} (h : bWrite_XS u0q o1 s = some r) : EffFn Tryz.prog Gw 30 [.pm 0 0 0, .c (S s)] [(0, .varx [.bp 59 u0q, .rs 1 0]), (0, .arr 5 1 (o1.map cInt_u8) none)] (.c (.tup [I r.1, errC r.2.1])) [(0, .varx [.bp 59 true, .rs 1 1]), (1, .arr 5 1 (r.2.2.map cInt_u8) none)] := bWrite_XFh  h
abbrev qPrint_E (y : Str × Int) : CV := .tup [S y.1, I y.2]
def qPrint_L1 (l : List Rule) : Nat → Int → Bool → List Int → Option (Str × Int)
  | 0, _, _, _ => none
  | fu1 + 1, v4, b_5, v6 => bif decide (v4 < ((l.map cRule).length : Int)) then (Option.bind (ix l v4) fun x8 => Option.bind (qline_S x8) fun y10 => Option.bind (bWrite_XS b_5 v6 y10) fun y12 => qPrint_L1 l fu1 (IntKind.i64.wrap (v4 + 1)) true y12.2.2) else (Option.bind (bString_XS b_5 v6) fun y14 => some (y14, 0))
def qPrint_F (N : Nat) (l : List Rule) : Option (Str × Int) := Option.bind (qCheck_S l) fun y1 => bif (y1.2 != 0) then some (([] : Str), 1) else qPrint_L1 l N 0 false ([] : List Int)
set_option linter.unusedVariables false in
theorem qPrint_Fh {N : Nat} {l : List Rule} {r : Str × Int} (hF : qPrint_F N l = some r) : Holds Tryz.prog Gw 11 [.sl 8 (l.map cRule)] (qPrint_E r) := by
  refine holds_of_wq tabOk mixed Tryz.func11 (by decide) rfl (Nat.le_of_ble_eq_true rfl) ?_
  refine obind hF fun y1 h2 hF => ?_
  refine Or.inl ⟨_, qCheck_h h2, rfl, ?_⟩
  refine And.intro (fun h3 => ?_) (fun h3 => ?_)
  · have hF := cpos h3 hF
    exact Or.inl ⟨rfl, congrArg (Option.map qPrint_E) hF⟩
  · have hF := cneg h3 hF
    refine Or.inr ⟨[], 0, _, _, _, _, rfl, rfl, eff_allocB (e := 5) (ie := ti5) tok59 rfl rfl (by decide), rfl, ?_⟩
    refine loop_oq (fun p : Nat × Int × Bool × List Int => [(6, .pm 6 0 0), (16, .c (.sl 8 (l.map cRule))), (17, .c (I ((l.map cRule).length : Int))), (18, .c (I p.2.1))]) (fun p : Nat × Int × Bool × List Int => [(6, .varx [.bp 59 p.2.2.1, .rs 65542 0]), (65542, .arr 5 1 (p.2.2.2.map cInt_u8) none)]) (fun p => qPrint_L1 l p.1 p.2.1 p.2.2.1 p.2.2.2 = some r) (fun p => p.1) (N, 0, false, ([] : List Int)) hF ⟨rfl, rfl, rfl, rfl, trivial⟩ ⟨rfl, rfl, trivial⟩ ?_
    rintro ⟨fu1, v4, b_5, v6⟩ hF
    cases fu1 with
    | zero => exact nomatch hF
    | succ fu1 =>
      refine join_no ?_
      refine And.intro (fun h7 => ?_) (fun h7 => ?_)
      · have hF := cpos h7 hF
        refine join_no ?_
        refine obind hF fun x8 h9 hF => ?_
        refine ⟨ix_nn h9, .inl rfl, _, ix_map cRule h9, ?_⟩
        refine Or.inl ?_
        refine obind hF fun y10 h11 hF => ?_
        refine Or.inl ⟨_, qline_h h11, rfl, ?_⟩
        refine obind hF fun y12 h13 hF => ?_
        refine Or.inr (⟨[(6, 0), (65542, 0)], 0, _, _, _, _, rfl, rfl, eff_call rfl (Or.inr ⟨_, rfl, rfl⟩) (bWrite_Xh h13), rfl, ?_⟩)
        exact ⟨(fu1, (IntKind.i64.wrap (v4 + 1)), true, y12.2.2), Nat.lt_succ_self _, hF, ⟨rfl, rfl, rfl, rfl, trivial⟩, ⟨rfl, rfl, trivial⟩⟩
      · have hF := cneg h7 hF
        refine obind hF fun y14 h15 hF => ?_
        refine Or.inr (⟨[(6, 0), (65542, 0)], 0, _, _, _, _, rfl, rfl, eff_call rfl (Or.inr ⟨_, rfl, rfl⟩) (bString_Xh h15), rfl, ?_⟩)
        exact Or.inl ⟨rfl, congrArg (Option.map qPrint_E) hF⟩
abbrev qPrint_S (l : List Rule) : Option (Str × Int) := qPrint_F (l.length + 1) l
theorem qPrint_h {l : List Rule} {r : Str × Int} (h : qPrint_S l = some r) : Holds Tryz.prog Gw 11 [.sl 8 (l.map cRule)] (qPrint_E r) := qPrint_Fh  h
end Go.Proofs.YtjoacimgcepjdaaGreatDoor
