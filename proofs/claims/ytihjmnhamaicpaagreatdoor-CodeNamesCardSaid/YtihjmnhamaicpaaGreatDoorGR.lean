/- Functions of the program as functions of Lean, each with its contract (printed by a program). -/
import Derived.Test.YtihjmnhamaicpaaGreatDoorAbsSub
import Derived.Test.YtihjmnhamaicpaaGreatDoorGB
namespace Go.Proofs.YtihjmnhamaicpaaGreatDoor
open Go Go.Abs
set_option maxRecDepth 10000
set_option maxHeartbeats 400000
abbrev rSort_E (y : List Str) : CV := .sl 1 (y.map cStr)
def rSort_L2 (l : List Str) (v2 : List Str) (i1 : Int) (k_1 : Int → List Str → Option (List Str)) : Nat → Int → Option (List Str)
  | 0, _ => none
  | fu2 + 1, v4 => bif decide (v4 > 0) then (Option.bind (ix v2 (IntKind.i64.wrap (v4 - 1))) fun x6 => Option.bind (ix l i1) fun x8 => Option.bind (rNatural_S x6 x8) fun y10 => bif decide (y10 > 0) then rSort_L2 l v2 i1 k_1 fu2 (IntKind.i64.wrap (v4 - 1)) else (bif decide (v2.length + ([([] : Str)] : List Str).length ≤ 4294967296) then bif decide (0 ≤ (IntKind.i64.wrap (v4 + 1)) ∧ (IntKind.i64.wrap (v4 + 1)) ≤ ((v2 ++ ([([] : Str)] : List Str)).length : Int)) && !(v2 ++ ([([] : Str)] : List Str)).isEmpty then bif decide (0 ≤ v4 ∧ v4 ≤ ((v2 ++ ([([] : Str)] : List Str)).length : Int)) && !(v2 ++ ([([] : Str)] : List Str)).isEmpty then Option.bind (ix l i1) fun x15 => Option.bind (ix (mix (v2 ++ ([([] : Str)] : List Str)) (((IntKind.i64.wrap (v4 + 1))).toNat) ((v4).toNat) (min ((v2 ++ ([([] : Str)] : List Str)).length - (v4).toNat) ((v2 ++ ([([] : Str)] : List Str)).length - ((IntKind.i64.wrap (v4 + 1))).toNat))) v4) fun x17 => k_1 (IntKind.i64.wrap (i1 + 1)) ((mix (v2 ++ ([([] : Str)] : List Str)) (((IntKind.i64.wrap (v4 + 1))).toNat) ((v4).toNat) (min ((v2 ++ ([([] : Str)] : List Str)).length - (v4).toNat) ((v2 ++ ([([] : Str)] : List Str)).length - ((IntKind.i64.wrap (v4 + 1))).toNat))).set (v4).toNat x15) else none else none else none)) else (bif decide (v2.length + ([([] : Str)] : List Str).length ≤ 4294967296) then bif decide (0 ≤ (IntKind.i64.wrap (v4 + 1)) ∧ (IntKind.i64.wrap (v4 + 1)) ≤ ((v2 ++ ([([] : Str)] : List Str)).length : Int)) && !(v2 ++ ([([] : Str)] : List Str)).isEmpty then bif decide (0 ≤ v4 ∧ v4 ≤ ((v2 ++ ([([] : Str)] : List Str)).length : Int)) && !(v2 ++ ([([] : Str)] : List Str)).isEmpty then Option.bind (ix l i1) fun x22 => Option.bind (ix (mix (v2 ++ ([([] : Str)] : List Str)) (((IntKind.i64.wrap (v4 + 1))).toNat) ((v4).toNat) (min ((v2 ++ ([([] : Str)] : List Str)).length - (v4).toNat) ((v2 ++ ([([] : Str)] : List Str)).length - ((IntKind.i64.wrap (v4 + 1))).toNat))) v4) fun x24 => k_1 (IntKind.i64.wrap (i1 + 1)) ((mix (v2 ++ ([([] : Str)] : List Str)) (((IntKind.i64.wrap (v4 + 1))).toNat) ((v4).toNat) (min ((v2 ++ ([([] : Str)] : List Str)).length - (v4).toNat) ((v2 ++ ([([] : Str)] : List Str)).length - ((IntKind.i64.wrap (v4 + 1))).toNat))).set (v4).toNat x22) else none else none else none)
def rSort_L1 (l : List Str) (N : Nat) : Nat → Int → List Str → Option (List Str)
  | 0, _, _ => none
  | fu1 + 1, i1, v2 => bif decide (i1 < ((l.map cStr).length : Int)) then rSort_L2 l v2 i1 (fun q_i1 q_v2 => rSort_L1 l N fu1 q_i1 q_v2) N ((v2.map cStr).length : Int) else some (v2)
def rSort_F (N : Nat) (l : List Str) : Option (List Str) := rSort_L1 l N N 0 ([] : List Str)
set_option linter.unusedVariables false in
theorem rSort_Fh {N : Nat} {l : List Str} {r : List Str} (hF : rSort_F N l = some r) : Holds Tryz.prog Gw 34 [.sl 1 (l.map cStr)] (rSort_E r) := by
  refine holds_of_wq tabOk mixed Tryz.func34 (by decide) rfl (Nat.le_of_ble_eq_true rfl) ?_
  refine Or.inl ?_
  refine Or.inr ⟨[], 0, _, _, _, _, rfl, rfl, eff_build0 tok22.u tok9 (by decide), rfl, ?_⟩
  refine loop_oq (fun p : Nat × Int × List Str => [(0, .c (.sl 1 (l.map cStr))), (3, .rs 6 0), (4, .c (I p.2.1))]) (fun p : Nat × Int × List Str => [(6, .arr 9 1 (p.2.2.map cStr) none)]) (fun p => rSort_L1 l N p.1 p.2.1 p.2.2 = some r) (fun p => p.1) (N, 0, ([] : List Str)) hF ⟨rfl, rfl, rfl, trivial⟩ ⟨rfl, trivial⟩ ?_
  rintro ⟨fu1, i1, v2⟩ hF
  cases fu1 with
  | zero => exact nomatch hF
  | succ fu1 =>
    refine And.intro (fun h3 => ?_) (fun h3 => ?_)
    · have hF := cpos h3 hF
      refine join_no ?_
      refine Or.inl ?_
      refine join_no ?_
      refine loop_oq (fun p : Nat × Int => [(0, .c (.sl 1 (l.map cStr))), (3, .rs 6 0), (4, .c (I i1)), (5, .c (I p.2))]) (fun p : Nat × Int => [(6, .arr 9 1 (v2.map cStr) none)]) (fun p => rSort_L2 l v2 i1 (fun q_i1 q_v2 => rSort_L1 l N fu1 q_i1 q_v2) p.1 p.2 = some r) (fun p => p.1) (N, ((v2.map cStr).length : Int)) hF ⟨rfl, rfl, rfl, rfl, trivial⟩ ⟨rfl, trivial⟩ ?_
      rintro ⟨fu2, v4⟩ hF
      cases fu2 with
      | zero => exact nomatch hF
      | succ fu2 =>
        refine And.intro (fun h5 => ?_) (fun h5 => ?_)
        · have hF := cpos h5 hF
          refine obind hF fun x6 h7 hF => ?_
          refine Or.inl ⟨ix_nn h7, ix_lt h7, ?_⟩
          refine Or.inl ⟨_, ix_map cStr h7, ?_⟩
          refine obind hF fun x8 h9 hF => ?_
          refine ⟨ix_nn h9, .inl rfl, _, ix_map cStr h9, ?_⟩
          refine obind hF fun y10 h11 hF => ?_
          refine Or.inl ⟨_, rNatural_h h11, rfl, ?_⟩
          refine And.intro (by kernel_rfl) ?_
          refine And.intro (fun h12 => ?_) (fun h12 => ?_)
          · have hF := cpos h12 hF
            exact ⟨(fu2, (IntKind.i64.wrap (v4 - 1))), Nat.lt_succ_self _, hF, ⟨rfl, rfl, rfl, rfl, trivial⟩, ⟨rfl, trivial⟩⟩
          · have hF := cneg h12 hF
            refine Or.inl ?_
            refine gpos hF fun h19 hF => ?_
            refine Or.inr ⟨[(6, 0)], 0, _, _, _, _, rfl, rfl, eff_append (cf := cStr) (l := v2) (ns := ([([] : Str)] : List Str)) tok22.u tok9 (by decide) (by decide) (fun _ => rfl) h19, rfl, ?_⟩
            refine gpos hF fun h13 hF => ?_
            refine Or.inl ⟨(subg h13).1, (subm (cf := cStr) h13).1, (subm (cf := cStr) h13).2, ?_⟩
            refine gpos hF fun h14 hF => ?_
            refine Or.inl ⟨(subg h14).1, (subm (cf := cStr) h14).1, (subm (cf := cStr) h14).2, ?_⟩
            refine Or.inr ⟨[(6, 1)], 0, _, _, _, _, rfl, rfl, eff_copy (cf := cStr) (l := (v2 ++ ([([] : Str)] : List Str))) (p := ((IntKind.i64.wrap (v4 + 1))).toNat) (q := (v4).toNat) (n := (min ((v2 ++ ([([] : Str)] : List Str)).length - (v4).toNat) ((v2 ++ ([([] : Str)] : List Str)).length - ((IntKind.i64.wrap (v4 + 1))).toNat))) tok22.u tok9 rfl (fun _ => rfl) rfl, rfl, ?_⟩
            refine And.intro (by kernel_rfl) ?_
            refine obind hF fun x15 h16 hF => ?_
            refine ⟨ix_nn h16, .inl rfl, _, ix_map cStr h16, ?_⟩
            refine obind hF fun x17 h18 hF => ?_
            refine Or.inl ⟨ix_nn h18, ix_lt h18, ?_⟩
            refine Or.inl ⟨_, ix_map cStr h18, ?_⟩
            refine ⟨((mix (v2 ++ ([([] : Str)] : List Str)) (((IntKind.i64.wrap (v4 + 1))).toNat) ((v4).toNat) (min ((v2 ++ ([([] : Str)] : List Str)).length - (v4).toNat) ((v2 ++ ([([] : Str)] : List Str)).length - ((IntKind.i64.wrap (v4 + 1))).toNat))).set (v4).toNat x15).map cStr, _, .inl ⟨rfl, set_map _ _ _ _, rfl⟩, ?_⟩
            exact ⟨(fu1, (IntKind.i64.wrap (i1 + 1)), ((mix (v2 ++ ([([] : Str)] : List Str)) (((IntKind.i64.wrap (v4 + 1))).toNat) ((v4).toNat) (min ((v2 ++ ([([] : Str)] : List Str)).length - (v4).toNat) ((v2 ++ ([([] : Str)] : List Str)).length - ((IntKind.i64.wrap (v4 + 1))).toNat))).set (v4).toNat x15)), Nat.lt_succ_self _, hF, ⟨rfl, rfl, rfl, trivial⟩, ⟨rfl, trivial⟩⟩
        · have hF := cneg h5 hF
          refine And.intro (by kernel_rfl) ?_
          refine Or.inl ?_
          refine gpos hF fun h26 hF => ?_
          refine Or.inr ⟨[(6, 0)], 0, _, _, _, _, rfl, rfl, eff_append (cf := cStr) (l := v2) (ns := ([([] : Str)] : List Str)) tok22.u tok9 (by decide) (by decide) (fun _ => rfl) h26, rfl, ?_⟩
          refine gpos hF fun h20 hF => ?_
          refine Or.inl ⟨(subg h20).1, (subm (cf := cStr) h20).1, (subm (cf := cStr) h20).2, ?_⟩
          refine gpos hF fun h21 hF => ?_
          refine Or.inl ⟨(subg h21).1, (subm (cf := cStr) h21).1, (subm (cf := cStr) h21).2, ?_⟩
          refine Or.inr ⟨[(6, 1)], 0, _, _, _, _, rfl, rfl, eff_copy (cf := cStr) (l := (v2 ++ ([([] : Str)] : List Str))) (p := ((IntKind.i64.wrap (v4 + 1))).toNat) (q := (v4).toNat) (n := (min ((v2 ++ ([([] : Str)] : List Str)).length - (v4).toNat) ((v2 ++ ([([] : Str)] : List Str)).length - ((IntKind.i64.wrap (v4 + 1))).toNat))) tok22.u tok9 rfl (fun _ => rfl) rfl, rfl, ?_⟩
          refine And.intro (by kernel_rfl) ?_
          refine obind hF fun x22 h23 hF => ?_
          refine ⟨ix_nn h23, .inl rfl, _, ix_map cStr h23, ?_⟩
          refine obind hF fun x24 h25 hF => ?_
          refine Or.inl ⟨ix_nn h25, ix_lt h25, ?_⟩
          refine Or.inl ⟨_, ix_map cStr h25, ?_⟩
          refine ⟨((mix (v2 ++ ([([] : Str)] : List Str)) (((IntKind.i64.wrap (v4 + 1))).toNat) ((v4).toNat) (min ((v2 ++ ([([] : Str)] : List Str)).length - (v4).toNat) ((v2 ++ ([([] : Str)] : List Str)).length - ((IntKind.i64.wrap (v4 + 1))).toNat))).set (v4).toNat x22).map cStr, _, .inl ⟨rfl, set_map _ _ _ _, rfl⟩, ?_⟩
          exact ⟨(fu1, (IntKind.i64.wrap (i1 + 1)), ((mix (v2 ++ ([([] : Str)] : List Str)) (((IntKind.i64.wrap (v4 + 1))).toNat) ((v4).toNat) (min ((v2 ++ ([([] : Str)] : List Str)).length - (v4).toNat) ((v2 ++ ([([] : Str)] : List Str)).length - ((IntKind.i64.wrap (v4 + 1))).toNat))).set (v4).toNat x22)), Nat.lt_succ_self _, hF, ⟨rfl, rfl, rfl, trivial⟩, ⟨rfl, trivial⟩⟩
    · have hF := cneg h3 hF
      refine ret_eq (p := fun r => resFin tab _ (rSort_E r) _) hF ?_
      exact Or.inr ⟨rfl, _, rfl, rfl⟩
abbrev rSort_S (l : List Str) : Option (List Str) := rSort_F 1000 l
theorem rSort_h {l : List Str} {r : List Str} (h : rSort_S l = some r) : Holds Tryz.prog Gw 34 [.sl 1 (l.map cStr)] (rSort_E r) := rSort_Fh  h
end Go.Proofs.YtihjmnhamaicpaaGreatDoor
