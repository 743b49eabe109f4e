/- Functions of the program as functions of Lean, each with its contract (printed by a program). -/
import Derived.Test.YtdoldlbcjcfmdaaGreatGE
namespace Go.Proofs.YtdoldlbcjcfmdaaGreat
open Go Go.Abs
set_option maxRecDepth 10000
set_option maxHeartbeats 400000
abbrev slCloneA_E (y : List Aut) : CV := .sl 6 (y.map cAut)
def slCloneA_F (s : List Aut) : Option (List Aut) := bif s.isEmpty then oboth (some (([] : List Aut))) (bif decide (([] : List Aut).length + s.length ≤ 4294967296) then some ((([] : List Aut) ++ s)) else none) else (bif decide (([] : List Aut).length + s.length ≤ 4294967296) then some ((([] : List Aut) ++ s)) else none)
set_option linter.unusedVariables false in
theorem slCloneA_Fh {s : List Aut} {r : List Aut} (hF : slCloneA_F s = some r) : Holds Tryz.prog Gw 67 [.sl 6 (s.map cAut)] (slCloneA_E r) := by
  refine holds_of_wq tabOk mixed Tryz.func67 (by decide) rfl (Nat.le_of_ble_eq_true rfl) ?_
  refine Or.inr ⟨[], 0, _, _, _, _, rfl, rfl, eff_nilS (e := 45) (ie := ti45) (by decide), rfl, ?_⟩
  refine nilc (cf := cAut) hF ?_ ?_
  · intro hF
    refine Or.inr ⟨[], 0, _, _, _, _, rfl, rfl, eff_nilS (e := 45) (ie := ti45) (by decide), rfl, ?_⟩
    refine ret_eq (p := fun r => resFin tab _ (slCloneA_E r) _) hF ?_
    exact Or.inr ⟨rfl, _, rfl, rfl⟩
  · intro hF
    refine Or.inr ⟨[], 0, _, _, _, _, rfl, rfl, eff_build0 tok22.u tok45 (by decide), rfl, ?_⟩
    refine gpos hF fun h1 hF => ?_
    refine Or.inr ⟨[(5, 1)], 0, _, _, _, _, rfl, rfl, eff_append (cf := cAut) (l := ([] : List Aut)) (ns := s) tok22.u tok45 (by decide) (by decide) (fun _ => rfl) h1, rfl, ?_⟩
    refine ret_eq (p := fun r => resFin tab _ (slCloneA_E r) _) hF ?_
    exact Or.inr ⟨rfl, _, rfl, rfl⟩
abbrev slCloneA_O (y : List Aut) : CV := .wo (.ow 0) [(45, 6, y.map cAut, none)]
set_option linter.unusedVariables false in
theorem slCloneA_Oh {s : List Aut} {r : List Aut} (hF : slCloneA_F s = some r) : Holds Tryz.prog Gw 67 [.sl 6 (s.map cAut)] (slCloneA_O r) := by
  refine holds_of_wq tabOk mixed Tryz.func67 (by decide) rfl (Nat.le_of_ble_eq_true rfl) ?_
  refine Or.inr ⟨[], 0, _, _, _, _, rfl, rfl, eff_nilS (e := 45) (ie := ti45) (by decide), rfl, ?_⟩
  refine nilc (cf := cAut) hF ?_ ?_
  · intro hF
    refine Or.inr ⟨[], 0, _, _, _, _, rfl, rfl, eff_nilS (e := 45) (ie := ti45) (by decide), rfl, ?_⟩
    refine ret_eq (p := fun r => resFin tab _ (slCloneA_O r) _) hF ?_
    exact Or.inr ⟨[(2, 2)], rfl, ⟨rfl, rfl⟩, rfl⟩
  · intro hF
    refine Or.inr ⟨[], 0, _, _, _, _, rfl, rfl, eff_build0 tok22.u tok45 (by decide), rfl, ?_⟩
    refine gpos hF fun h1 hF => ?_
    refine Or.inr ⟨[(5, 1)], 0, _, _, _, _, rfl, rfl, eff_append (cf := cAut) (l := ([] : List Aut)) (ns := s) tok22.u tok45 (by decide) (by decide) (fun _ => rfl) h1, rfl, ?_⟩
    refine ret_eq (p := fun r => resFin tab _ (slCloneA_O r) _) hF ?_
    exact Or.inr ⟨[(5, 2)], rfl, ⟨rfl, rfl⟩, rfl⟩
abbrev slCloneA_S (s : List Aut) : Option (List Aut) := slCloneA_F s
theorem slCloneA_h {s : List Aut} {r : List Aut} (h : slCloneA_S s = some r) : Holds Tryz.prog Gw 67 [.sl 6 (s.map cAut)] (slCloneA_E r) := slCloneA_Fh  h
abbrev sinTime_1_1_E (y : Int) : CV := I y
def sinTime_1_1_F (a : Aut) (b : Aut) : Option (Int) := Option.bind (cmpCompare_S a.In.From b.In.From) fun y1 => some (y1)
set_option linter.unusedVariables false in
theorem sinTime_1_1_Fh {a : Aut} {b : Aut} {r : Int} (hF : sinTime_1_1_F a b = some r) : Holds Tryz.prog Gw 69 [.agg (cAut a), .agg (cAut b)] (sinTime_1_1_E r) := by
  refine holds_of_wq tabOk mixed Tryz.func69 (by decide) rfl (Nat.le_of_ble_eq_true rfl) ?_
  refine Or.inl ?_
  refine Or.inl ?_
  refine obind hF fun y1 h2 hF => ?_
  refine Or.inl ⟨_, cmpCompare_h h2, rfl, ?_⟩
  exact Or.inl ⟨rfl, congrArg (Option.map sinTime_1_1_E) hF⟩
abbrev sinTime_1_1_S (a : Aut) (b : Aut) : Option (Int) := sinTime_1_1_F a b
theorem sinTime_1_1_h {a : Aut} {b : Aut} {r : Int} (h : sinTime_1_1_S a b = some r) : Holds Tryz.prog Gw 69 [.agg (cAut a), .agg (cAut b)] (sinTime_1_1_E r) := sinTime_1_1_Fh  h
def slSwapRange_L1 (a : Int) (b : Int) (n : Int) : Nat → Int → List Aut → Option (List Aut)
  | 0, _, _ => none
  | fu1 + 1, i1, v2 => bif decide (i1 < n) then (Option.bind (ix v2 (IntKind.i64.wrap (b + i1))) fun x4 => Option.bind (ix v2 (IntKind.i64.wrap (a + i1))) fun x6 => Option.bind (ix (v2.set ((IntKind.i64.wrap (a + i1))).toNat x4) (IntKind.i64.wrap (b + i1))) fun x8 => slSwapRange_L1 a b n fu1 (IntKind.i64.wrap (i1 + 1)) ((v2.set ((IntKind.i64.wrap (a + i1))).toNat x4).set ((IntKind.i64.wrap (b + i1))).toNat x6)) else some (v2)
def slSwapRange_F (N : Nat) (o0 : List Aut) (a : Int) (b : Int) (n : Int) : Option (List Aut) := slSwapRange_L1 a b n N 0 o0
set_option linter.unusedVariables false in
theorem slSwapRange_XFh {N : Nat} {o0 : List Aut} {a : Int} {b : Int} {n : Int} {r : List Aut} (hF : slSwapRange_F N o0 a b n = some r) : EffFn Tryz.prog Gw 116 [.rs 0 0, .c (I a), .c (I b), .c (I n), .c (.fn 69 [])] [(0, .arr 45 6 (o0.map cAut) none)] (.c (.tup [])) [(0, .arr 45 6 (r.map cAut) none)] := by
  refine effn_of_wq tabOk mixed Tryz.func116 (by decide) rfl (Nat.le_of_ble_eq_true rfl) rfl ?_
  refine loop_oq (fun p : Nat × Int × List Aut => [(0, .rs 4294967296 0), (1, .c (I a)), (2, .c (I b)), (3, .c (I n)), (10, .c (I p.2.1))]) (fun p : Nat × Int × List Aut => [(4294967296, .arr 45 6 (p.2.2.map cAut) none)]) (fun p => slSwapRange_L1 a b n p.1 p.2.1 p.2.2 = some r) (fun p => p.1) (N, 0, o0) hF ⟨rfl, rfl, rfl, rfl, rfl, trivial⟩ ⟨rfl, trivial⟩ ?_
  rintro ⟨fu1, i1, v2⟩ hF
  cases fu1 with
  | zero => exact nomatch hF
  | succ fu1 =>
    refine And.intro (fun h3 => ?_) (fun h3 => ?_)
    · have hF := cpos h3 hF
      refine join_no ?_
      refine obind hF fun x4 h5 hF => ?_
      refine Or.inl ⟨ix_nn h5, ix_lt h5, ?_⟩
      refine Or.inl ⟨_, ix_map cAut h5, ?_⟩
      refine obind hF fun x6 h7 hF => ?_
      refine Or.inl ⟨ix_nn h7, ix_lt h7, ?_⟩
      refine Or.inl ⟨_, ix_map cAut h7, ?_⟩
      refine Or.inl ⟨ix_nn h7, ix_lt h7, ?_⟩
      refine Or.inl ⟨_, ix_map cAut h7, ?_⟩
      refine ⟨(v2.set ((IntKind.i64.wrap (a + i1))).toNat x4).map cAut, _, .inl ⟨rfl, set_map _ _ _ _, rfl⟩, ?_⟩
      refine obind hF fun x8 h9 hF => ?_
      refine Or.inl ⟨ix_nn h9, ix_lt h9, ?_⟩
      refine Or.inl ⟨_, ix_map cAut h9, ?_⟩
      refine ⟨((v2.set ((IntKind.i64.wrap (a + i1))).toNat x4).set ((IntKind.i64.wrap (b + i1))).toNat x6).map cAut, _, .inl ⟨rfl, set_map _ _ _ _, rfl⟩, ?_⟩
      refine And.intro (by kernel_rfl) ?_
      exact ⟨(fu1, (IntKind.i64.wrap (i1 + 1)), ((v2.set ((IntKind.i64.wrap (a + i1))).toNat x4).set ((IntKind.i64.wrap (b + i1))).toNat x6)), Nat.lt_succ_self _, hF, ⟨rfl, rfl, rfl, rfl, rfl, trivial⟩, ⟨rfl, trivial⟩⟩
    · have hF := cneg h3 hF
      refine ret_eq (p := fun r => effFin tab _ 1 (.c (.tup [])) [(0, .arr 45 6 (r.map cAut) none)] _) hF ?_
      exact ⟨[(4294967296, 0)], [0], rfl, rfl, rfl⟩
abbrev slSwapRange_XS (o0 : List Aut) (a : Int) (b : Int) (n : Int) : Option (List Aut) := slSwapRange_F 1000 o0 a b n
theorem slSwapRange_Xh {o0 : List Aut} {a : Int} {b : Int} {n : Int} {r : List Aut} (h : slSwapRange_XS o0 a b n = some r) : EffFn Tryz.prog Gw 116 [.rs 0 0, .c (I a), .c (I b), .c (I n), .c (.fn 69 [])] [(0, .arr 45 6 (o0.map cAut) none)] (.c (.tup [])) [(0, .arr 45 6 (r.map cAut) none)] := slSwapRange_XFh  h
def slRotate_L1 (m : Int) : Nat → Int → Int → List Aut → Option (List Aut)
  | 0, _, _, _ => none
  | fu1 + 1, i1, j2, v3 => bif (i1 != j2) then (bif decide (i1 > j2) then (Option.bind (slSwapRange_XS v3 (IntKind.i64.wrap (m - i1)) m j2) fun y6 => slRotate_L1 m fu1 (IntKind.i64.wrap (i1 - j2)) j2 y6) else (Option.bind (slSwapRange_XS v3 (IntKind.i64.wrap (m - i1)) (IntKind.i64.wrap ((IntKind.i64.wrap (m + j2)) - i1)) i1) fun y8 => slRotate_L1 m fu1 i1 (IntKind.i64.wrap (j2 - i1)) y8)) else (Option.bind (slSwapRange_XS v3 (IntKind.i64.wrap (m - i1)) m i1) fun y10 => some (y10))
def slRotate_F (N : Nat) (o0 : List Aut) (a : Int) (m : Int) (b : Int) : Option (List Aut) := slRotate_L1 m N (IntKind.i64.wrap (m - a)) (IntKind.i64.wrap (b - m)) o0
set_option linter.unusedVariables false in
theorem slRotate_XFh {N : Nat} {o0 : List Aut} {a : Int} {m : Int} {b : Int} {r : List Aut} (hF : slRotate_F N o0 a m b = some r) : EffFn Tryz.prog Gw 111 [.rs 0 0, .c (I a), .c (I m), .c (I b), .c (.fn 69 [])] [(0, .arr 45 6 (o0.map cAut) none)] (.c (.tup [])) [(0, .arr 45 6 (r.map cAut) none)] := by
  refine effn_of_wq tabOk mixed Tryz.func111 (by decide) rfl (Nat.le_of_ble_eq_true rfl) rfl ?_
  refine join_no ?_
  refine loop_oq (fun p : Nat × Int × Int × List Aut => [(0, .rs 4294967296 0), (2, .c (I m)), (4, .c (.fn 69 [])), (10, .c (I p.2.1)), (11, .c (I p.2.2.1))]) (fun p : Nat × Int × Int × List Aut => [(4294967296, .arr 45 6 (p.2.2.2.map cAut) none)]) (fun p => slRotate_L1 m p.1 p.2.1 p.2.2.1 p.2.2.2 = some r) (fun p => p.1) (N, (IntKind.i64.wrap (m - a)), (IntKind.i64.wrap (b - m)), o0) hF ⟨rfl, rfl, rfl, rfl, rfl, trivial⟩ ⟨rfl, trivial⟩ ?_
  rintro ⟨fu1, i1, j2, v3⟩ hF
  cases fu1 with
  | zero => exact nomatch hF
  | succ fu1 =>
    refine And.intro (fun h4 => ?_) (fun h4 => ?_)
    · have hF := cpos h4 hF
      refine And.intro (fun h5 => ?_) (fun h5 => ?_)
      · have hF := cpos h5 hF
        refine obind hF fun y6 h7 hF => ?_
        refine Or.inr (Or.inr ⟨[(4294967296, 0)], 0, _, _, _, _, rfl, rfl, eff_call rfl (Or.inr ⟨_, rfl, rfl⟩) (slSwapRange_Xh h7), rfl, ?_⟩)
        exact ⟨(fu1, (IntKind.i64.wrap (i1 - j2)), j2, y6), Nat.lt_succ_self _, hF, ⟨rfl, rfl, rfl, rfl, rfl, trivial⟩, ⟨rfl, trivial⟩⟩
      · have hF := cneg h5 hF
        refine obind hF fun y8 h9 hF => ?_
        refine Or.inr (Or.inr ⟨[(4294967296, 0)], 0, _, _, _, _, rfl, rfl, eff_call rfl (Or.inr ⟨_, rfl, rfl⟩) (slSwapRange_Xh h9), rfl, ?_⟩)
        exact ⟨(fu1, i1, (IntKind.i64.wrap (j2 - i1)), y8), Nat.lt_succ_self _, hF, ⟨rfl, rfl, rfl, rfl, rfl, trivial⟩, ⟨rfl, trivial⟩⟩
    · have hF := cneg h4 hF
      refine obind hF fun y10 h11 hF => ?_
      refine Or.inr (Or.inr ⟨[(4294967296, 0)], 0, _, _, _, _, rfl, rfl, eff_call rfl (Or.inr ⟨_, rfl, rfl⟩) (slSwapRange_Xh h11), rfl, ?_⟩)
      refine ret_eq (p := fun r => effFin tab _ 1 (.c (.tup [])) [(0, .arr 45 6 (r.map cAut) none)] _) hF ?_
      exact ⟨[(4294967296, 0)], [0], rfl, rfl, rfl⟩
abbrev slRotate_XS (o0 : List Aut) (a : Int) (m : Int) (b : Int) : Option (List Aut) := slRotate_F 1000 o0 a m b
theorem slRotate_Xh {o0 : List Aut} {a : Int} {m : Int} {b : Int} {r : List Aut} (h : slRotate_XS o0 a m b = some r) : EffFn Tryz.prog Gw 111 [.rs 0 0, .c (I a), .c (I m), .c (I b), .c (.fn 69 [])] [(0, .arr 45 6 (o0.map cAut) none)] (.c (.tup [])) [(0, .arr 45 6 (r.map cAut) none)] := slRotate_XFh  h
def slSymMerge_L2 (i2 : Int) : Nat → Int → List Aut → Option (List Aut)
  | 0, _, _ => none
  | fu2 + 1, k12, v13 => bif decide (k12 < (IntKind.i64.wrap (i2 - 1))) then (Option.bind (ix v13 (IntKind.i64.wrap (k12 + 1))) fun x15 => Option.bind (ix v13 k12) fun x17 => Option.bind (ix (v13.set (k12).toNat x15) (IntKind.i64.wrap (k12 + 1))) fun x19 => slSymMerge_L2 i2 fu2 (IntKind.i64.wrap (k12 + 1)) ((v13.set (k12).toNat x15).set ((IntKind.i64.wrap (k12 + 1))).toNat x17)) else some (v13)
def slSymMerge_L1 (o0 : List Aut) (a : Int) (N : Nat) : Nat → Int → Int → Option (List Aut)
  | 0, _, _ => none
  | fu1 + 1, i2, j3 => bif decide (i2 < j3) then (Option.bind (ix o0 (IntKind.i64.wrap (Int.fdiv (IntKind.u64.wrap (IntKind.i64.wrap (i2 + j3))) 2))) fun x5 => Option.bind (ix o0 a) fun x7 => Option.bind (sinTime_1_1_S x5 x7) fun y9 => bif decide (y9 < 0) then slSymMerge_L1 o0 a N fu1 (IntKind.i64.wrap ((IntKind.i64.wrap (Int.fdiv (IntKind.u64.wrap (IntKind.i64.wrap (i2 + j3))) 2)) + 1)) j3 else slSymMerge_L1 o0 a N fu1 i2 (IntKind.i64.wrap (Int.fdiv (IntKind.u64.wrap (IntKind.i64.wrap (i2 + j3))) 2))) else slSymMerge_L2 i2 N a o0
def slSymMerge_L4 (i22 : Int) : Nat → Int → List Aut → Option (List Aut)
  | 0, _, _ => none
  | fu4 + 1, k32, v33 => bif decide (k32 > i22) then (Option.bind (ix v33 (IntKind.i64.wrap (k32 - 1))) fun x35 => Option.bind (ix v33 k32) fun x37 => Option.bind (ix (v33.set (k32).toNat x35) (IntKind.i64.wrap (k32 - 1))) fun x39 => slSymMerge_L4 i22 fu4 (IntKind.i64.wrap (k32 - 1)) ((v33.set (k32).toNat x35).set ((IntKind.i64.wrap (k32 - 1))).toNat x37)) else some (v33)
def slSymMerge_L3 (o0 : List Aut) (m : Int) (N : Nat) : Nat → Int → Int → Option (List Aut)
  | 0, _, _ => none
  | fu3 + 1, i22, j23 => bif decide (i22 < j23) then (Option.bind (ix o0 m) fun x25 => Option.bind (ix o0 (IntKind.i64.wrap (Int.fdiv (IntKind.u64.wrap (IntKind.i64.wrap (i22 + j23))) 2))) fun x27 => Option.bind (sinTime_1_1_S x25 x27) fun y29 => bif (!(decide (y29 < 0))) then slSymMerge_L3 o0 m N fu3 (IntKind.i64.wrap ((IntKind.i64.wrap (Int.fdiv (IntKind.u64.wrap (IntKind.i64.wrap (i22 + j23))) 2)) + 1)) j23 else slSymMerge_L3 o0 m N fu3 i22 (IntKind.i64.wrap (Int.fdiv (IntKind.u64.wrap (IntKind.i64.wrap (i22 + j23))) 2))) else slSymMerge_L4 i22 N m o0
def slSymMerge_L5 (o0 : List Aut) (a : Int) (m : Int) (b : Int) (self_ : List Aut → Int → Int → Int → Option (List Aut)) : Nat → Int → Int → Option (List Aut)
  | 0, _, _ => none
  | fu5 + 1, start42, r43 => bif decide (start42 < r43) then (Option.bind (ix o0 (IntKind.i64.wrap ((IntKind.i64.wrap ((IntKind.i64.wrap ((IntKind.i64.wrap (Int.fdiv (IntKind.u64.wrap (IntKind.i64.wrap (a + b))) 2)) + m)) - 1)) - (IntKind.i64.wrap (Int.fdiv (IntKind.u64.wrap (IntKind.i64.wrap (start42 + r43))) 2))))) fun x45 => Option.bind (ix o0 (IntKind.i64.wrap (Int.fdiv (IntKind.u64.wrap (IntKind.i64.wrap (start42 + r43))) 2))) fun x47 => Option.bind (sinTime_1_1_S x45 x47) fun y49 => bif (!(decide (y49 < 0))) then slSymMerge_L5 o0 a m b self_ fu5 (IntKind.i64.wrap ((IntKind.i64.wrap (Int.fdiv (IntKind.u64.wrap (IntKind.i64.wrap (start42 + r43))) 2)) + 1)) r43 else slSymMerge_L5 o0 a m b self_ fu5 start42 (IntKind.i64.wrap (Int.fdiv (IntKind.u64.wrap (IntKind.i64.wrap (start42 + r43))) 2))) else (bif decide (start42 < m) then (bif decide (m < (IntKind.i64.wrap ((IntKind.i64.wrap ((IntKind.i64.wrap (Int.fdiv (IntKind.u64.wrap (IntKind.i64.wrap (a + b))) 2)) + m)) - start42))) then (Option.bind (slRotate_XS o0 start42 m (IntKind.i64.wrap ((IntKind.i64.wrap ((IntKind.i64.wrap (Int.fdiv (IntKind.u64.wrap (IntKind.i64.wrap (a + b))) 2)) + m)) - start42))) fun y54 => bif decide (a < start42) then (bif decide (start42 < (IntKind.i64.wrap (Int.fdiv (IntKind.u64.wrap (IntKind.i64.wrap (a + b))) 2))) then (Option.bind (self_ y54 a start42 (IntKind.i64.wrap (Int.fdiv (IntKind.u64.wrap (IntKind.i64.wrap (a + b))) 2))) fun y58 => bif decide ((IntKind.i64.wrap (Int.fdiv (IntKind.u64.wrap (IntKind.i64.wrap (a + b))) 2)) < (IntKind.i64.wrap ((IntKind.i64.wrap ((IntKind.i64.wrap (Int.fdiv (IntKind.u64.wrap (IntKind.i64.wrap (a + b))) 2)) + m)) - start42))) then (bif decide ((IntKind.i64.wrap ((IntKind.i64.wrap ((IntKind.i64.wrap (Int.fdiv (IntKind.u64.wrap (IntKind.i64.wrap (a + b))) 2)) + m)) - start42)) < b) then (Option.bind (self_ y58 (IntKind.i64.wrap (Int.fdiv (IntKind.u64.wrap (IntKind.i64.wrap (a + b))) 2)) (IntKind.i64.wrap ((IntKind.i64.wrap ((IntKind.i64.wrap (Int.fdiv (IntKind.u64.wrap (IntKind.i64.wrap (a + b))) 2)) + m)) - start42)) b) fun y62 => some (y62)) else some (y58)) else some (y58)) else (bif decide ((IntKind.i64.wrap (Int.fdiv (IntKind.u64.wrap (IntKind.i64.wrap (a + b))) 2)) < (IntKind.i64.wrap ((IntKind.i64.wrap ((IntKind.i64.wrap (Int.fdiv (IntKind.u64.wrap (IntKind.i64.wrap (a + b))) 2)) + m)) - start42))) then (bif decide ((IntKind.i64.wrap ((IntKind.i64.wrap ((IntKind.i64.wrap (Int.fdiv (IntKind.u64.wrap (IntKind.i64.wrap (a + b))) 2)) + m)) - start42)) < b) then (Option.bind (self_ y54 (IntKind.i64.wrap (Int.fdiv (IntKind.u64.wrap (IntKind.i64.wrap (a + b))) 2)) (IntKind.i64.wrap ((IntKind.i64.wrap ((IntKind.i64.wrap (Int.fdiv (IntKind.u64.wrap (IntKind.i64.wrap (a + b))) 2)) + m)) - start42)) b) fun y66 => some (y66)) else some (y54)) else some (y54))) else (bif decide ((IntKind.i64.wrap (Int.fdiv (IntKind.u64.wrap (IntKind.i64.wrap (a + b))) 2)) < (IntKind.i64.wrap ((IntKind.i64.wrap ((IntKind.i64.wrap (Int.fdiv (IntKind.u64.wrap (IntKind.i64.wrap (a + b))) 2)) + m)) - start42))) then (bif decide ((IntKind.i64.wrap ((IntKind.i64.wrap ((IntKind.i64.wrap (Int.fdiv (IntKind.u64.wrap (IntKind.i64.wrap (a + b))) 2)) + m)) - start42)) < b) then (Option.bind (self_ y54 (IntKind.i64.wrap (Int.fdiv (IntKind.u64.wrap (IntKind.i64.wrap (a + b))) 2)) (IntKind.i64.wrap ((IntKind.i64.wrap ((IntKind.i64.wrap (Int.fdiv (IntKind.u64.wrap (IntKind.i64.wrap (a + b))) 2)) + m)) - start42)) b) fun y70 => some (y70)) else some (y54)) else some (y54))) else (bif decide (a < start42) then (bif decide (start42 < (IntKind.i64.wrap (Int.fdiv (IntKind.u64.wrap (IntKind.i64.wrap (a + b))) 2))) then (Option.bind (self_ o0 a start42 (IntKind.i64.wrap (Int.fdiv (IntKind.u64.wrap (IntKind.i64.wrap (a + b))) 2))) fun y74 => bif decide ((IntKind.i64.wrap (Int.fdiv (IntKind.u64.wrap (IntKind.i64.wrap (a + b))) 2)) < (IntKind.i64.wrap ((IntKind.i64.wrap ((IntKind.i64.wrap (Int.fdiv (IntKind.u64.wrap (IntKind.i64.wrap (a + b))) 2)) + m)) - start42))) then (bif decide ((IntKind.i64.wrap ((IntKind.i64.wrap ((IntKind.i64.wrap (Int.fdiv (IntKind.u64.wrap (IntKind.i64.wrap (a + b))) 2)) + m)) - start42)) < b) then (Option.bind (self_ y74 (IntKind.i64.wrap (Int.fdiv (IntKind.u64.wrap (IntKind.i64.wrap (a + b))) 2)) (IntKind.i64.wrap ((IntKind.i64.wrap ((IntKind.i64.wrap (Int.fdiv (IntKind.u64.wrap (IntKind.i64.wrap (a + b))) 2)) + m)) - start42)) b) fun y78 => some (y78)) else some (y74)) else some (y74)) else (bif decide ((IntKind.i64.wrap (Int.fdiv (IntKind.u64.wrap (IntKind.i64.wrap (a + b))) 2)) < (IntKind.i64.wrap ((IntKind.i64.wrap ((IntKind.i64.wrap (Int.fdiv (IntKind.u64.wrap (IntKind.i64.wrap (a + b))) 2)) + m)) - start42))) then (bif decide ((IntKind.i64.wrap ((IntKind.i64.wrap ((IntKind.i64.wrap (Int.fdiv (IntKind.u64.wrap (IntKind.i64.wrap (a + b))) 2)) + m)) - start42)) < b) then (Option.bind (self_ o0 (IntKind.i64.wrap (Int.fdiv (IntKind.u64.wrap (IntKind.i64.wrap (a + b))) 2)) (IntKind.i64.wrap ((IntKind.i64.wrap ((IntKind.i64.wrap (Int.fdiv (IntKind.u64.wrap (IntKind.i64.wrap (a + b))) 2)) + m)) - start42)) b) fun y82 => some (y82)) else some (o0)) else some (o0))) else (bif decide ((IntKind.i64.wrap (Int.fdiv (IntKind.u64.wrap (IntKind.i64.wrap (a + b))) 2)) < (IntKind.i64.wrap ((IntKind.i64.wrap ((IntKind.i64.wrap (Int.fdiv (IntKind.u64.wrap (IntKind.i64.wrap (a + b))) 2)) + m)) - start42))) then (bif decide ((IntKind.i64.wrap ((IntKind.i64.wrap ((IntKind.i64.wrap (Int.fdiv (IntKind.u64.wrap (IntKind.i64.wrap (a + b))) 2)) + m)) - start42)) < b) then (Option.bind (self_ o0 (IntKind.i64.wrap (Int.fdiv (IntKind.u64.wrap (IntKind.i64.wrap (a + b))) 2)) (IntKind.i64.wrap ((IntKind.i64.wrap ((IntKind.i64.wrap (Int.fdiv (IntKind.u64.wrap (IntKind.i64.wrap (a + b))) 2)) + m)) - start42)) b) fun y86 => some (y86)) else some (o0)) else some (o0)))) else (bif decide (a < start42) then (bif decide (start42 < (IntKind.i64.wrap (Int.fdiv (IntKind.u64.wrap (IntKind.i64.wrap (a + b))) 2))) then (Option.bind (self_ o0 a start42 (IntKind.i64.wrap (Int.fdiv (IntKind.u64.wrap (IntKind.i64.wrap (a + b))) 2))) fun y90 => bif decide ((IntKind.i64.wrap (Int.fdiv (IntKind.u64.wrap (IntKind.i64.wrap (a + b))) 2)) < (IntKind.i64.wrap ((IntKind.i64.wrap ((IntKind.i64.wrap (Int.fdiv (IntKind.u64.wrap (IntKind.i64.wrap (a + b))) 2)) + m)) - start42))) then (bif decide ((IntKind.i64.wrap ((IntKind.i64.wrap ((IntKind.i64.wrap (Int.fdiv (IntKind.u64.wrap (IntKind.i64.wrap (a + b))) 2)) + m)) - start42)) < b) then (Option.bind (self_ y90 (IntKind.i64.wrap (Int.fdiv (IntKind.u64.wrap (IntKind.i64.wrap (a + b))) 2)) (IntKind.i64.wrap ((IntKind.i64.wrap ((IntKind.i64.wrap (Int.fdiv (IntKind.u64.wrap (IntKind.i64.wrap (a + b))) 2)) + m)) - start42)) b) fun y94 => some (y94)) else some (y90)) else some (y90)) else (bif decide ((IntKind.i64.wrap (Int.fdiv (IntKind.u64.wrap (IntKind.i64.wrap (a + b))) 2)) < (IntKind.i64.wrap ((IntKind.i64.wrap ((IntKind.i64.wrap (Int.fdiv (IntKind.u64.wrap (IntKind.i64.wrap (a + b))) 2)) + m)) - start42))) then (bif decide ((IntKind.i64.wrap ((IntKind.i64.wrap ((IntKind.i64.wrap (Int.fdiv (IntKind.u64.wrap (IntKind.i64.wrap (a + b))) 2)) + m)) - start42)) < b) then (Option.bind (self_ o0 (IntKind.i64.wrap (Int.fdiv (IntKind.u64.wrap (IntKind.i64.wrap (a + b))) 2)) (IntKind.i64.wrap ((IntKind.i64.wrap ((IntKind.i64.wrap (Int.fdiv (IntKind.u64.wrap (IntKind.i64.wrap (a + b))) 2)) + m)) - start42)) b) fun y98 => some (y98)) else some (o0)) else some (o0))) else (bif decide ((IntKind.i64.wrap (Int.fdiv (IntKind.u64.wrap (IntKind.i64.wrap (a + b))) 2)) < (IntKind.i64.wrap ((IntKind.i64.wrap ((IntKind.i64.wrap (Int.fdiv (IntKind.u64.wrap (IntKind.i64.wrap (a + b))) 2)) + m)) - start42))) then (bif decide ((IntKind.i64.wrap ((IntKind.i64.wrap ((IntKind.i64.wrap (Int.fdiv (IntKind.u64.wrap (IntKind.i64.wrap (a + b))) 2)) + m)) - start42)) < b) then (Option.bind (self_ o0 (IntKind.i64.wrap (Int.fdiv (IntKind.u64.wrap (IntKind.i64.wrap (a + b))) 2)) (IntKind.i64.wrap ((IntKind.i64.wrap ((IntKind.i64.wrap (Int.fdiv (IntKind.u64.wrap (IntKind.i64.wrap (a + b))) 2)) + m)) - start42)) b) fun y102 => some (y102)) else some (o0)) else some (o0))))
def slSymMerge_L6 (o0 : List Aut) (a : Int) (m : Int) (b : Int) (self_ : List Aut → Int → Int → Int → Option (List Aut)) : Nat → Int → Int → Option (List Aut)
  | 0, _, _ => none
  | fu6 + 1, start104, r105 => bif decide (start104 < r105) then (Option.bind (ix o0 (IntKind.i64.wrap ((IntKind.i64.wrap ((IntKind.i64.wrap ((IntKind.i64.wrap (Int.fdiv (IntKind.u64.wrap (IntKind.i64.wrap (a + b))) 2)) + m)) - 1)) - (IntKind.i64.wrap (Int.fdiv (IntKind.u64.wrap (IntKind.i64.wrap (start104 + r105))) 2))))) fun x107 => Option.bind (ix o0 (IntKind.i64.wrap (Int.fdiv (IntKind.u64.wrap (IntKind.i64.wrap (start104 + r105))) 2))) fun x109 => Option.bind (sinTime_1_1_S x107 x109) fun y111 => bif (!(decide (y111 < 0))) then slSymMerge_L6 o0 a m b self_ fu6 (IntKind.i64.wrap ((IntKind.i64.wrap (Int.fdiv (IntKind.u64.wrap (IntKind.i64.wrap (start104 + r105))) 2)) + 1)) r105 else slSymMerge_L6 o0 a m b self_ fu6 start104 (IntKind.i64.wrap (Int.fdiv (IntKind.u64.wrap (IntKind.i64.wrap (start104 + r105))) 2))) else (bif decide (start104 < m) then (bif decide (m < (IntKind.i64.wrap ((IntKind.i64.wrap ((IntKind.i64.wrap (Int.fdiv (IntKind.u64.wrap (IntKind.i64.wrap (a + b))) 2)) + m)) - start104))) then (Option.bind (slRotate_XS o0 start104 m (IntKind.i64.wrap ((IntKind.i64.wrap ((IntKind.i64.wrap (Int.fdiv (IntKind.u64.wrap (IntKind.i64.wrap (a + b))) 2)) + m)) - start104))) fun y116 => bif decide (a < start104) then (bif decide (start104 < (IntKind.i64.wrap (Int.fdiv (IntKind.u64.wrap (IntKind.i64.wrap (a + b))) 2))) then (Option.bind (self_ y116 a start104 (IntKind.i64.wrap (Int.fdiv (IntKind.u64.wrap (IntKind.i64.wrap (a + b))) 2))) fun y120 => bif decide ((IntKind.i64.wrap (Int.fdiv (IntKind.u64.wrap (IntKind.i64.wrap (a + b))) 2)) < (IntKind.i64.wrap ((IntKind.i64.wrap ((IntKind.i64.wrap (Int.fdiv (IntKind.u64.wrap (IntKind.i64.wrap (a + b))) 2)) + m)) - start104))) then (bif decide ((IntKind.i64.wrap ((IntKind.i64.wrap ((IntKind.i64.wrap (Int.fdiv (IntKind.u64.wrap (IntKind.i64.wrap (a + b))) 2)) + m)) - start104)) < b) then (Option.bind (self_ y120 (IntKind.i64.wrap (Int.fdiv (IntKind.u64.wrap (IntKind.i64.wrap (a + b))) 2)) (IntKind.i64.wrap ((IntKind.i64.wrap ((IntKind.i64.wrap (Int.fdiv (IntKind.u64.wrap (IntKind.i64.wrap (a + b))) 2)) + m)) - start104)) b) fun y124 => some (y124)) else some (y120)) else some (y120)) else (bif decide ((IntKind.i64.wrap (Int.fdiv (IntKind.u64.wrap (IntKind.i64.wrap (a + b))) 2)) < (IntKind.i64.wrap ((IntKind.i64.wrap ((IntKind.i64.wrap (Int.fdiv (IntKind.u64.wrap (IntKind.i64.wrap (a + b))) 2)) + m)) - start104))) then (bif decide ((IntKind.i64.wrap ((IntKind.i64.wrap ((IntKind.i64.wrap (Int.fdiv (IntKind.u64.wrap (IntKind.i64.wrap (a + b))) 2)) + m)) - start104)) < b) then (Option.bind (self_ y116 (IntKind.i64.wrap (Int.fdiv (IntKind.u64.wrap (IntKind.i64.wrap (a + b))) 2)) (IntKind.i64.wrap ((IntKind.i64.wrap ((IntKind.i64.wrap (Int.fdiv (IntKind.u64.wrap (IntKind.i64.wrap (a + b))) 2)) + m)) - start104)) b) fun y128 => some (y128)) else some (y116)) else some (y116))) else (bif decide ((IntKind.i64.wrap (Int.fdiv (IntKind.u64.wrap (IntKind.i64.wrap (a + b))) 2)) < (IntKind.i64.wrap ((IntKind.i64.wrap ((IntKind.i64.wrap (Int.fdiv (IntKind.u64.wrap (IntKind.i64.wrap (a + b))) 2)) + m)) - start104))) then (bif decide ((IntKind.i64.wrap ((IntKind.i64.wrap ((IntKind.i64.wrap (Int.fdiv (IntKind.u64.wrap (IntKind.i64.wrap (a + b))) 2)) + m)) - start104)) < b) then (Option.bind (self_ y116 (IntKind.i64.wrap (Int.fdiv (IntKind.u64.wrap (IntKind.i64.wrap (a + b))) 2)) (IntKind.i64.wrap ((IntKind.i64.wrap ((IntKind.i64.wrap (Int.fdiv (IntKind.u64.wrap (IntKind.i64.wrap (a + b))) 2)) + m)) - start104)) b) fun y132 => some (y132)) else some (y116)) else some (y116))) else (bif decide (a < start104) then (bif decide (start104 < (IntKind.i64.wrap (Int.fdiv (IntKind.u64.wrap (IntKind.i64.wrap (a + b))) 2))) then (Option.bind (self_ o0 a start104 (IntKind.i64.wrap (Int.fdiv (IntKind.u64.wrap (IntKind.i64.wrap (a + b))) 2))) fun y136 => bif decide ((IntKind.i64.wrap (Int.fdiv (IntKind.u64.wrap (IntKind.i64.wrap (a + b))) 2)) < (IntKind.i64.wrap ((IntKind.i64.wrap ((IntKind.i64.wrap (Int.fdiv (IntKind.u64.wrap (IntKind.i64.wrap (a + b))) 2)) + m)) - start104))) then (bif decide ((IntKind.i64.wrap ((IntKind.i64.wrap ((IntKind.i64.wrap (Int.fdiv (IntKind.u64.wrap (IntKind.i64.wrap (a + b))) 2)) + m)) - start104)) < b) then (Option.bind (self_ y136 (IntKind.i64.wrap (Int.fdiv (IntKind.u64.wrap (IntKind.i64.wrap (a + b))) 2)) (IntKind.i64.wrap ((IntKind.i64.wrap ((IntKind.i64.wrap (Int.fdiv (IntKind.u64.wrap (IntKind.i64.wrap (a + b))) 2)) + m)) - start104)) b) fun y140 => some (y140)) else some (y136)) else some (y136)) else (bif decide ((IntKind.i64.wrap (Int.fdiv (IntKind.u64.wrap (IntKind.i64.wrap (a + b))) 2)) < (IntKind.i64.wrap ((IntKind.i64.wrap ((IntKind.i64.wrap (Int.fdiv (IntKind.u64.wrap (IntKind.i64.wrap (a + b))) 2)) + m)) - start104))) then (bif decide ((IntKind.i64.wrap ((IntKind.i64.wrap ((IntKind.i64.wrap (Int.fdiv (IntKind.u64.wrap (IntKind.i64.wrap (a + b))) 2)) + m)) - start104)) < b) then (Option.bind (self_ o0 (IntKind.i64.wrap (Int.fdiv (IntKind.u64.wrap (IntKind.i64.wrap (a + b))) 2)) (IntKind.i64.wrap ((IntKind.i64.wrap ((IntKind.i64.wrap (Int.fdiv (IntKind.u64.wrap (IntKind.i64.wrap (a + b))) 2)) + m)) - start104)) b) fun y144 => some (y144)) else some (o0)) else some (o0))) else (bif decide ((IntKind.i64.wrap (Int.fdiv (IntKind.u64.wrap (IntKind.i64.wrap (a + b))) 2)) < (IntKind.i64.wrap ((IntKind.i64.wrap ((IntKind.i64.wrap (Int.fdiv (IntKind.u64.wrap (IntKind.i64.wrap (a + b))) 2)) + m)) - start104))) then (bif decide ((IntKind.i64.wrap ((IntKind.i64.wrap ((IntKind.i64.wrap (Int.fdiv (IntKind.u64.wrap (IntKind.i64.wrap (a + b))) 2)) + m)) - start104)) < b) then (Option.bind (self_ o0 (IntKind.i64.wrap (Int.fdiv (IntKind.u64.wrap (IntKind.i64.wrap (a + b))) 2)) (IntKind.i64.wrap ((IntKind.i64.wrap ((IntKind.i64.wrap (Int.fdiv (IntKind.u64.wrap (IntKind.i64.wrap (a + b))) 2)) + m)) - start104)) b) fun y148 => some (y148)) else some (o0)) else some (o0)))) else (bif decide (a < start104) then (bif decide (start104 < (IntKind.i64.wrap (Int.fdiv (IntKind.u64.wrap (IntKind.i64.wrap (a + b))) 2))) then (Option.bind (self_ o0 a start104 (IntKind.i64.wrap (Int.fdiv (IntKind.u64.wrap (IntKind.i64.wrap (a + b))) 2))) fun y152 => bif decide ((IntKind.i64.wrap (Int.fdiv (IntKind.u64.wrap (IntKind.i64.wrap (a + b))) 2)) < (IntKind.i64.wrap ((IntKind.i64.wrap ((IntKind.i64.wrap (Int.fdiv (IntKind.u64.wrap (IntKind.i64.wrap (a + b))) 2)) + m)) - start104))) then (bif decide ((IntKind.i64.wrap ((IntKind.i64.wrap ((IntKind.i64.wrap (Int.fdiv (IntKind.u64.wrap (IntKind.i64.wrap (a + b))) 2)) + m)) - start104)) < b) then (Option.bind (self_ y152 (IntKind.i64.wrap (Int.fdiv (IntKind.u64.wrap (IntKind.i64.wrap (a + b))) 2)) (IntKind.i64.wrap ((IntKind.i64.wrap ((IntKind.i64.wrap (Int.fdiv (IntKind.u64.wrap (IntKind.i64.wrap (a + b))) 2)) + m)) - start104)) b) fun y156 => some (y156)) else some (y152)) else some (y152)) else (bif decide ((IntKind.i64.wrap (Int.fdiv (IntKind.u64.wrap (IntKind.i64.wrap (a + b))) 2)) < (IntKind.i64.wrap ((IntKind.i64.wrap ((IntKind.i64.wrap (Int.fdiv (IntKind.u64.wrap (IntKind.i64.wrap (a + b))) 2)) + m)) - start104))) then (bif decide ((IntKind.i64.wrap ((IntKind.i64.wrap ((IntKind.i64.wrap (Int.fdiv (IntKind.u64.wrap (IntKind.i64.wrap (a + b))) 2)) + m)) - start104)) < b) then (Option.bind (self_ o0 (IntKind.i64.wrap (Int.fdiv (IntKind.u64.wrap (IntKind.i64.wrap (a + b))) 2)) (IntKind.i64.wrap ((IntKind.i64.wrap ((IntKind.i64.wrap (Int.fdiv (IntKind.u64.wrap (IntKind.i64.wrap (a + b))) 2)) + m)) - start104)) b) fun y160 => some (y160)) else some (o0)) else some (o0))) else (bif decide ((IntKind.i64.wrap (Int.fdiv (IntKind.u64.wrap (IntKind.i64.wrap (a + b))) 2)) < (IntKind.i64.wrap ((IntKind.i64.wrap ((IntKind.i64.wrap (Int.fdiv (IntKind.u64.wrap (IntKind.i64.wrap (a + b))) 2)) + m)) - start104))) then (bif decide ((IntKind.i64.wrap ((IntKind.i64.wrap ((IntKind.i64.wrap (Int.fdiv (IntKind.u64.wrap (IntKind.i64.wrap (a + b))) 2)) + m)) - start104)) < b) then (Option.bind (self_ o0 (IntKind.i64.wrap (Int.fdiv (IntKind.u64.wrap (IntKind.i64.wrap (a + b))) 2)) (IntKind.i64.wrap ((IntKind.i64.wrap ((IntKind.i64.wrap (Int.fdiv (IntKind.u64.wrap (IntKind.i64.wrap (a + b))) 2)) + m)) - start104)) b) fun y164 => some (y164)) else some (o0)) else some (o0))))
def slSymMerge_F : Nat → List Aut → Int → Int → Int → Option (List Aut)
  | 0, _, _, _, _ => none
  | N + 1, o0, a, m, b => bif ((IntKind.i64.wrap (m - a)) == 1) then slSymMerge_L1 o0 a N N m b else (bif ((IntKind.i64.wrap (b - m)) == 1) then slSymMerge_L3 o0 m N N a m else (bif decide (m > (IntKind.i64.wrap (Int.fdiv (IntKind.u64.wrap (IntKind.i64.wrap (a + b))) 2))) then slSymMerge_L5 o0 a m b (slSymMerge_F N) N (IntKind.i64.wrap ((IntKind.i64.wrap ((IntKind.i64.wrap (Int.fdiv (IntKind.u64.wrap (IntKind.i64.wrap (a + b))) 2)) + m)) - b)) (IntKind.i64.wrap (Int.fdiv (IntKind.u64.wrap (IntKind.i64.wrap (a + b))) 2)) else slSymMerge_L6 o0 a m b (slSymMerge_F N) N a m))
set_option linter.unusedVariables false in
theorem slSymMerge_XFh : ∀ (N : Nat) (o0 : List Aut) (a : Int) (m : Int) (b : Int) (r : List Aut), slSymMerge_F N o0 a m b = some r → EffFn Tryz.prog Gw 106 [.rs 0 0, .c (I a), .c (I m), .c (I b), .c (.fn 69 [])] [(0, .arr 45 6 (o0.map cAut) none)] (.c (.tup [])) [(0, .arr 45 6 (r.map cAut) none)] := by
  intro N
  induction N with
  | zero => intro o0 a m b r hF; exact nomatch hF
  | succ N ih =>
    intro o0 a m b r hF
    refine effn_of_wq tabOk mixed Tryz.func106 (by decide) rfl (Nat.le_of_ble_eq_true rfl) rfl ?_
    refine And.intro (fun h1 => ?_) (fun h1 => ?_)
    · have hF := cpos h1 hF
      refine join_no ?_
      refine loop_oq (fun p : Nat × Int × Int => [(0, .rs 4294967296 0), (1, .c (I a)), (4, .c (.fn 69 [])), (10, .c (I p.2.1)), (11, .c (I p.2.2))]) (fun p : Nat × Int × Int => [(4294967296, .arr 45 6 (o0.map cAut) none)]) (fun p => slSymMerge_L1 o0 a N p.1 p.2.1 p.2.2 = some r) (fun p => p.1) (N, m, b) hF ⟨rfl, rfl, rfl, rfl, rfl, trivial⟩ ⟨rfl, trivial⟩ ?_
      rintro ⟨fu1, i2, j3⟩ hF
      cases fu1 with
      | zero => exact nomatch hF
      | succ fu1 =>
        refine And.intro (fun h4 => ?_) (fun h4 => ?_)
        · have hF := cpos h4 hF
          refine ⟨by decide, ?_⟩
          refine obind hF fun x5 h6 hF => ?_
          refine Or.inl ⟨ix_nn h6, ix_lt h6, ?_⟩
          refine Or.inl ⟨_, ix_map cAut h6, ?_⟩
          refine obind hF fun x7 h8 hF => ?_
          refine Or.inl ⟨ix_nn h8, ix_lt h8, ?_⟩
          refine Or.inl ⟨_, ix_map cAut h8, ?_⟩
          refine obind hF fun y9 h10 hF => ?_
          refine Or.inl ⟨_, sinTime_1_1_h h10, rfl, ?_⟩
          refine And.intro (by kernel_rfl) ?_
          refine And.intro (fun h11 => ?_) (fun h11 => ?_)
          · have hF := cpos h11 hF
            exact ⟨(fu1, (IntKind.i64.wrap ((IntKind.i64.wrap (Int.fdiv (IntKind.u64.wrap (IntKind.i64.wrap (i2 + j3))) 2)) + 1)), j3), Nat.lt_succ_self _, hF, ⟨rfl, rfl, rfl, rfl, rfl, trivial⟩, ⟨rfl, trivial⟩⟩
          · have hF := cneg h11 hF
            exact ⟨(fu1, i2, (IntKind.i64.wrap (Int.fdiv (IntKind.u64.wrap (IntKind.i64.wrap (i2 + j3))) 2))), Nat.lt_succ_self _, hF, ⟨rfl, rfl, rfl, rfl, rfl, trivial⟩, ⟨rfl, trivial⟩⟩
        · have hF := cneg h4 hF
          refine loop_oq (fun p : Nat × Int × List Aut => [(0, .rs 4294967296 0), (10, .c (I i2)), (13, .c (I p.2.1))]) (fun p : Nat × Int × List Aut => [(4294967296, .arr 45 6 (p.2.2.map cAut) none)]) (fun p => slSymMerge_L2 i2 p.1 p.2.1 p.2.2 = some r) (fun p => p.1) (N, a, o0) hF ⟨rfl, rfl, rfl, trivial⟩ ⟨rfl, trivial⟩ ?_
          rintro ⟨fu2, k12, v13⟩ hF
          cases fu2 with
          | zero => exact nomatch hF
          | succ fu2 =>
            refine And.intro (fun h14 => ?_) (fun h14 => ?_)
            · have hF := cpos h14 hF
              refine join_no ?_
              refine obind hF fun x15 h16 hF => ?_
              refine Or.inl ⟨ix_nn h16, ix_lt h16, ?_⟩
              refine Or.inl ⟨_, ix_map cAut h16, ?_⟩
              refine obind hF fun x17 h18 hF => ?_
              refine Or.inl ⟨ix_nn h18, ix_lt h18, ?_⟩
              refine Or.inl ⟨_, ix_map cAut h18, ?_⟩
              refine Or.inl ⟨ix_nn h18, ix_lt h18, ?_⟩
              refine Or.inl ⟨_, ix_map cAut h18, ?_⟩
              refine ⟨(v13.set (k12).toNat x15).map cAut, _, .inl ⟨rfl, set_map _ _ _ _, rfl⟩, ?_⟩
              refine obind hF fun x19 h20 hF => ?_
              refine Or.inl ⟨ix_nn h20, ix_lt h20, ?_⟩
              refine Or.inl ⟨_, ix_map cAut h20, ?_⟩
              refine ⟨((v13.set (k12).toNat x15).set ((IntKind.i64.wrap (k12 + 1))).toNat x17).map cAut, _, .inl ⟨rfl, set_map _ _ _ _, rfl⟩, ?_⟩
              refine And.intro (by kernel_rfl) ?_
              exact ⟨(fu2, (IntKind.i64.wrap (k12 + 1)), ((v13.set (k12).toNat x15).set ((IntKind.i64.wrap (k12 + 1))).toNat x17)), Nat.lt_succ_self _, hF, ⟨rfl, rfl, rfl, trivial⟩, ⟨rfl, trivial⟩⟩
            · have hF := cneg h14 hF
              refine ret_eq (p := fun r => effFin tab _ 1 (.c (.tup [])) [(0, .arr 45 6 (r.map cAut) none)] _) hF ?_
              exact ⟨[(4294967296, 0)], [0], rfl, rfl, rfl⟩
    · have hF := cneg h1 hF
      refine And.intro (fun h21 => ?_) (fun h21 => ?_)
      · have hF := cpos h21 hF
        refine join_no ?_
        refine loop_oq (fun p : Nat × Int × Int => [(0, .rs 4294967296 0), (2, .c (I m)), (4, .c (.fn 69 [])), (14, .c (I p.2.1)), (15, .c (I p.2.2))]) (fun p : Nat × Int × Int => [(4294967296, .arr 45 6 (o0.map cAut) none)]) (fun p => slSymMerge_L3 o0 m N p.1 p.2.1 p.2.2 = some r) (fun p => p.1) (N, a, m) hF ⟨rfl, rfl, rfl, rfl, rfl, trivial⟩ ⟨rfl, trivial⟩ ?_
        rintro ⟨fu3, i22, j23⟩ hF
        cases fu3 with
        | zero => exact nomatch hF
        | succ fu3 =>
          refine And.intro (fun h24 => ?_) (fun h24 => ?_)
          · have hF := cpos h24 hF
            refine ⟨by decide, ?_⟩
            refine obind hF fun x25 h26 hF => ?_
            refine Or.inl ⟨ix_nn h26, ix_lt h26, ?_⟩
            refine Or.inl ⟨_, ix_map cAut h26, ?_⟩
            refine obind hF fun x27 h28 hF => ?_
            refine Or.inl ⟨ix_nn h28, ix_lt h28, ?_⟩
            refine Or.inl ⟨_, ix_map cAut h28, ?_⟩
            refine obind hF fun y29 h30 hF => ?_
            refine Or.inl ⟨_, sinTime_1_1_h h30, rfl, ?_⟩
            refine And.intro (by kernel_rfl) ?_
            refine And.intro (fun h31 => ?_) (fun h31 => ?_)
            · have hF := cpos h31 hF
              exact ⟨(fu3, (IntKind.i64.wrap ((IntKind.i64.wrap (Int.fdiv (IntKind.u64.wrap (IntKind.i64.wrap (i22 + j23))) 2)) + 1)), j23), Nat.lt_succ_self _, hF, ⟨rfl, rfl, rfl, rfl, rfl, trivial⟩, ⟨rfl, trivial⟩⟩
            · have hF := cneg h31 hF
              exact ⟨(fu3, i22, (IntKind.i64.wrap (Int.fdiv (IntKind.u64.wrap (IntKind.i64.wrap (i22 + j23))) 2))), Nat.lt_succ_self _, hF, ⟨rfl, rfl, rfl, rfl, rfl, trivial⟩, ⟨rfl, trivial⟩⟩
          · have hF := cneg h24 hF
            refine loop_oq (fun p : Nat × Int × List Aut => [(0, .rs 4294967296 0), (14, .c (I i22)), (17, .c (I p.2.1))]) (fun p : Nat × Int × List Aut => [(4294967296, .arr 45 6 (p.2.2.map cAut) none)]) (fun p => slSymMerge_L4 i22 p.1 p.2.1 p.2.2 = some r) (fun p => p.1) (N, m, o0) hF ⟨rfl, rfl, rfl, trivial⟩ ⟨rfl, trivial⟩ ?_
            rintro ⟨fu4, k32, v33⟩ hF
            cases fu4 with
            | zero => exact nomatch hF
            | succ fu4 =>
              refine And.intro (fun h34 => ?_) (fun h34 => ?_)
              · have hF := cpos h34 hF
                refine join_no ?_
                refine obind hF fun x35 h36 hF => ?_
                refine Or.inl ⟨ix_nn h36, ix_lt h36, ?_⟩
                refine Or.inl ⟨_, ix_map cAut h36, ?_⟩
                refine obind hF fun x37 h38 hF => ?_
                refine Or.inl ⟨ix_nn h38, ix_lt h38, ?_⟩
                refine Or.inl ⟨_, ix_map cAut h38, ?_⟩
                refine Or.inl ⟨ix_nn h38, ix_lt h38, ?_⟩
                refine Or.inl ⟨_, ix_map cAut h38, ?_⟩
                refine ⟨(v33.set (k32).toNat x35).map cAut, _, .inl ⟨rfl, set_map _ _ _ _, rfl⟩, ?_⟩
                refine obind hF fun x39 h40 hF => ?_
                refine Or.inl ⟨ix_nn h40, ix_lt h40, ?_⟩
                refine Or.inl ⟨_, ix_map cAut h40, ?_⟩
                refine ⟨((v33.set (k32).toNat x35).set ((IntKind.i64.wrap (k32 - 1))).toNat x37).map cAut, _, .inl ⟨rfl, set_map _ _ _ _, rfl⟩, ?_⟩
                refine And.intro (by kernel_rfl) ?_
                exact ⟨(fu4, (IntKind.i64.wrap (k32 - 1)), ((v33.set (k32).toNat x35).set ((IntKind.i64.wrap (k32 - 1))).toNat x37)), Nat.lt_succ_self _, hF, ⟨rfl, rfl, rfl, trivial⟩, ⟨rfl, trivial⟩⟩
              · have hF := cneg h34 hF
                refine ret_eq (p := fun r => effFin tab _ 1 (.c (.tup [])) [(0, .arr 45 6 (r.map cAut) none)] _) hF ?_
                exact ⟨[(4294967296, 0)], [0], rfl, rfl, rfl⟩
      · have hF := cneg h21 hF
        refine ⟨by decide, ?_⟩
        refine And.intro (fun h41 => ?_) (fun h41 => ?_)
        · have hF := cpos h41 hF
          refine join_no ?_
          refine loop_oq (fun p : Nat × Int × Int => [(0, .rs 4294967296 0), (1, .c (I a)), (2, .c (I m)), (3, .c (I b)), (4, .c (.fn 69 [])), (18, .c (I (IntKind.i64.wrap (Int.fdiv (IntKind.u64.wrap (IntKind.i64.wrap (a + b))) 2)))), (19, .c (I (IntKind.i64.wrap ((IntKind.i64.wrap (Int.fdiv (IntKind.u64.wrap (IntKind.i64.wrap (a + b))) 2)) + m)))), (20, .c (I p.2.1)), (21, .c (I p.2.2)), (22, .c (I (IntKind.i64.wrap ((IntKind.i64.wrap ((IntKind.i64.wrap (Int.fdiv (IntKind.u64.wrap (IntKind.i64.wrap (a + b))) 2)) + m)) - 1))))]) (fun p : Nat × Int × Int => [(4294967296, .arr 45 6 (o0.map cAut) none)]) (fun p => slSymMerge_L5 o0 a m b (slSymMerge_F N) p.1 p.2.1 p.2.2 = some r) (fun p => p.1) (N, (IntKind.i64.wrap ((IntKind.i64.wrap ((IntKind.i64.wrap (Int.fdiv (IntKind.u64.wrap (IntKind.i64.wrap (a + b))) 2)) + m)) - b)), (IntKind.i64.wrap (Int.fdiv (IntKind.u64.wrap (IntKind.i64.wrap (a + b))) 2))) hF ⟨rfl, rfl, rfl, rfl, rfl, rfl, rfl, rfl, rfl, rfl, trivial⟩ ⟨rfl, trivial⟩ ?_
          rintro ⟨fu5, start42, r43⟩ hF
          cases fu5 with
          | zero => exact nomatch hF
          | succ fu5 =>
            refine And.intro (fun h44 => ?_) (fun h44 => ?_)
            · have hF := cpos h44 hF
              refine ⟨by decide, ?_⟩
              refine obind hF fun x45 h46 hF => ?_
              refine Or.inl ⟨ix_nn h46, ix_lt h46, ?_⟩
              refine Or.inl ⟨_, ix_map cAut h46, ?_⟩
              refine obind hF fun x47 h48 hF => ?_
              refine Or.inl ⟨ix_nn h48, ix_lt h48, ?_⟩
              refine Or.inl ⟨_, ix_map cAut h48, ?_⟩
              refine obind hF fun y49 h50 hF => ?_
              refine Or.inl ⟨_, sinTime_1_1_h h50, rfl, ?_⟩
              refine And.intro (by kernel_rfl) ?_
              refine And.intro (fun h51 => ?_) (fun h51 => ?_)
              · have hF := cpos h51 hF
                exact ⟨(fu5, (IntKind.i64.wrap ((IntKind.i64.wrap (Int.fdiv (IntKind.u64.wrap (IntKind.i64.wrap (start42 + r43))) 2)) + 1)), r43), Nat.lt_succ_self _, hF, ⟨rfl, rfl, rfl, rfl, rfl, rfl, rfl, rfl, rfl, rfl, trivial⟩, ⟨rfl, trivial⟩⟩
              · have hF := cneg h51 hF
                exact ⟨(fu5, start42, (IntKind.i64.wrap (Int.fdiv (IntKind.u64.wrap (IntKind.i64.wrap (start42 + r43))) 2))), Nat.lt_succ_self _, hF, ⟨rfl, rfl, rfl, rfl, rfl, rfl, rfl, rfl, rfl, rfl, trivial⟩, ⟨rfl, trivial⟩⟩
            · have hF := cneg h44 hF
              refine And.intro (fun h52 => ?_) (fun h52 => ?_)
              · have hF := cpos h52 hF
                refine And.intro (fun h53 => ?_) (fun h53 => ?_)
                · have hF := cpos h53 hF
                  refine obind hF fun y54 h55 hF => ?_
                  refine Or.inr (Or.inr ⟨[(4294967296, 0)], 0, _, _, _, _, rfl, rfl, eff_call rfl (Or.inr ⟨_, rfl, rfl⟩) (slRotate_Xh h55), rfl, ?_⟩)
                  refine And.intro (fun h56 => ?_) (fun h56 => ?_)
                  · have hF := cpos h56 hF
                    refine And.intro (fun h57 => ?_) (fun h57 => ?_)
                    · have hF := cpos h57 hF
                      refine obind hF fun y58 h59 hF => ?_
                      refine Or.inr (Or.inr ⟨[(4294967296, 0)], 0, _, _, _, _, rfl, rfl, eff_call rfl (Or.inr ⟨_, rfl, rfl⟩) (ih _ _ _ _ _ h59), rfl, ?_⟩)
                      refine And.intro (fun h60 => ?_) (fun h60 => ?_)
                      · have hF := cpos h60 hF
                        refine And.intro (fun h61 => ?_) (fun h61 => ?_)
                        · have hF := cpos h61 hF
                          refine obind hF fun y62 h63 hF => ?_
                          refine Or.inr (Or.inr ⟨[(4294967296, 0)], 0, _, _, _, _, rfl, rfl, eff_call rfl (Or.inr ⟨_, rfl, rfl⟩) (ih _ _ _ _ _ h63), rfl, ?_⟩)
                          refine ret_eq (p := fun r => effFin tab _ 1 (.c (.tup [])) [(0, .arr 45 6 (r.map cAut) none)] _) hF ?_
                          exact ⟨[(4294967296, 0)], [0], rfl, rfl, rfl⟩
                        · have hF := cneg h61 hF
                          refine ret_eq (p := fun r => effFin tab _ 1 (.c (.tup [])) [(0, .arr 45 6 (r.map cAut) none)] _) hF ?_
                          exact ⟨[(4294967296, 0)], [0], rfl, rfl, rfl⟩
                      · have hF := cneg h60 hF
                        refine ret_eq (p := fun r => effFin tab _ 1 (.c (.tup [])) [(0, .arr 45 6 (r.map cAut) none)] _) hF ?_
                        exact ⟨[(4294967296, 0)], [0], rfl, rfl, rfl⟩
                    · have hF := cneg h57 hF
                      refine And.intro (fun h64 => ?_) (fun h64 => ?_)
                      · have hF := cpos h64 hF
                        refine And.intro (fun h65 => ?_) (fun h65 => ?_)
                        · have hF := cpos h65 hF
                          refine obind hF fun y66 h67 hF => ?_
                          refine Or.inr (Or.inr ⟨[(4294967296, 0)], 0, _, _, _, _, rfl, rfl, eff_call rfl (Or.inr ⟨_, rfl, rfl⟩) (ih _ _ _ _ _ h67), rfl, ?_⟩)
                          refine ret_eq (p := fun r => effFin tab _ 1 (.c (.tup [])) [(0, .arr 45 6 (r.map cAut) none)] _) hF ?_
                          exact ⟨[(4294967296, 0)], [0], rfl, rfl, rfl⟩
                        · have hF := cneg h65 hF
                          refine ret_eq (p := fun r => effFin tab _ 1 (.c (.tup [])) [(0, .arr 45 6 (r.map cAut) none)] _) hF ?_
                          exact ⟨[(4294967296, 0)], [0], rfl, rfl, rfl⟩
                      · have hF := cneg h64 hF
                        refine ret_eq (p := fun r => effFin tab _ 1 (.c (.tup [])) [(0, .arr 45 6 (r.map cAut) none)] _) hF ?_
                        exact ⟨[(4294967296, 0)], [0], rfl, rfl, rfl⟩
                  · have hF := cneg h56 hF
                    refine And.intro (fun h68 => ?_) (fun h68 => ?_)
                    · have hF := cpos h68 hF
                      refine And.intro (fun h69 => ?_) (fun h69 => ?_)
                      · have hF := cpos h69 hF
                        refine obind hF fun y70 h71 hF => ?_
                        refine Or.inr (Or.inr ⟨[(4294967296, 0)], 0, _, _, _, _, rfl, rfl, eff_call rfl (Or.inr ⟨_, rfl, rfl⟩) (ih _ _ _ _ _ h71), rfl, ?_⟩)
                        refine ret_eq (p := fun r => effFin tab _ 1 (.c (.tup [])) [(0, .arr 45 6 (r.map cAut) none)] _) hF ?_
                        exact ⟨[(4294967296, 0)], [0], rfl, rfl, rfl⟩
                      · have hF := cneg h69 hF
                        refine ret_eq (p := fun r => effFin tab _ 1 (.c (.tup [])) [(0, .arr 45 6 (r.map cAut) none)] _) hF ?_
                        exact ⟨[(4294967296, 0)], [0], rfl, rfl, rfl⟩
                    · have hF := cneg h68 hF
                      refine ret_eq (p := fun r => effFin tab _ 1 (.c (.tup [])) [(0, .arr 45 6 (r.map cAut) none)] _) hF ?_
                      exact ⟨[(4294967296, 0)], [0], rfl, rfl, rfl⟩
                · have hF := cneg h53 hF
                  refine And.intro (fun h72 => ?_) (fun h72 => ?_)
                  · have hF := cpos h72 hF
                    refine And.intro (fun h73 => ?_) (fun h73 => ?_)
                    · have hF := cpos h73 hF
                      refine obind hF fun y74 h75 hF => ?_
                      refine Or.inr (Or.inr ⟨[(4294967296, 0)], 0, _, _, _, _, rfl, rfl, eff_call rfl (Or.inr ⟨_, rfl, rfl⟩) (ih _ _ _ _ _ h75), rfl, ?_⟩)
                      refine And.intro (fun h76 => ?_) (fun h76 => ?_)
                      · have hF := cpos h76 hF
                        refine And.intro (fun h77 => ?_) (fun h77 => ?_)
                        · have hF := cpos h77 hF
                          refine obind hF fun y78 h79 hF => ?_
                          refine Or.inr (Or.inr ⟨[(4294967296, 0)], 0, _, _, _, _, rfl, rfl, eff_call rfl (Or.inr ⟨_, rfl, rfl⟩) (ih _ _ _ _ _ h79), rfl, ?_⟩)
                          refine ret_eq (p := fun r => effFin tab _ 1 (.c (.tup [])) [(0, .arr 45 6 (r.map cAut) none)] _) hF ?_
                          exact ⟨[(4294967296, 0)], [0], rfl, rfl, rfl⟩
                        · have hF := cneg h77 hF
                          refine ret_eq (p := fun r => effFin tab _ 1 (.c (.tup [])) [(0, .arr 45 6 (r.map cAut) none)] _) hF ?_
                          exact ⟨[(4294967296, 0)], [0], rfl, rfl, rfl⟩
                      · have hF := cneg h76 hF
                        refine ret_eq (p := fun r => effFin tab _ 1 (.c (.tup [])) [(0, .arr 45 6 (r.map cAut) none)] _) hF ?_
                        exact ⟨[(4294967296, 0)], [0], rfl, rfl, rfl⟩
                    · have hF := cneg h73 hF
                      refine And.intro (fun h80 => ?_) (fun h80 => ?_)
                      · have hF := cpos h80 hF
                        refine And.intro (fun h81 => ?_) (fun h81 => ?_)
                        · have hF := cpos h81 hF
                          refine obind hF fun y82 h83 hF => ?_
                          refine Or.inr (Or.inr ⟨[(4294967296, 0)], 0, _, _, _, _, rfl, rfl, eff_call rfl (Or.inr ⟨_, rfl, rfl⟩) (ih _ _ _ _ _ h83), rfl, ?_⟩)
                          refine ret_eq (p := fun r => effFin tab _ 1 (.c (.tup [])) [(0, .arr 45 6 (r.map cAut) none)] _) hF ?_
                          exact ⟨[(4294967296, 0)], [0], rfl, rfl, rfl⟩
                        · have hF := cneg h81 hF
                          refine ret_eq (p := fun r => effFin tab _ 1 (.c (.tup [])) [(0, .arr 45 6 (r.map cAut) none)] _) hF ?_
                          exact ⟨[(4294967296, 0)], [0], rfl, rfl, rfl⟩
                      · have hF := cneg h80 hF
                        refine ret_eq (p := fun r => effFin tab _ 1 (.c (.tup [])) [(0, .arr 45 6 (r.map cAut) none)] _) hF ?_
                        exact ⟨[(4294967296, 0)], [0], rfl, rfl, rfl⟩
                  · have hF := cneg h72 hF
                    refine And.intro (fun h84 => ?_) (fun h84 => ?_)
                    · have hF := cpos h84 hF
                      refine And.intro (fun h85 => ?_) (fun h85 => ?_)
                      · have hF := cpos h85 hF
                        refine obind hF fun y86 h87 hF => ?_
                        refine Or.inr (Or.inr ⟨[(4294967296, 0)], 0, _, _, _, _, rfl, rfl, eff_call rfl (Or.inr ⟨_, rfl, rfl⟩) (ih _ _ _ _ _ h87), rfl, ?_⟩)
                        refine ret_eq (p := fun r => effFin tab _ 1 (.c (.tup [])) [(0, .arr 45 6 (r.map cAut) none)] _) hF ?_
                        exact ⟨[(4294967296, 0)], [0], rfl, rfl, rfl⟩
                      · have hF := cneg h85 hF
                        refine ret_eq (p := fun r => effFin tab _ 1 (.c (.tup [])) [(0, .arr 45 6 (r.map cAut) none)] _) hF ?_
                        exact ⟨[(4294967296, 0)], [0], rfl, rfl, rfl⟩
                    · have hF := cneg h84 hF
                      refine ret_eq (p := fun r => effFin tab _ 1 (.c (.tup [])) [(0, .arr 45 6 (r.map cAut) none)] _) hF ?_
                      exact ⟨[(4294967296, 0)], [0], rfl, rfl, rfl⟩
              · have hF := cneg h52 hF
                refine And.intro (fun h88 => ?_) (fun h88 => ?_)
                · have hF := cpos h88 hF
                  refine And.intro (fun h89 => ?_) (fun h89 => ?_)
                  · have hF := cpos h89 hF
                    refine obind hF fun y90 h91 hF => ?_
                    refine Or.inr (Or.inr ⟨[(4294967296, 0)], 0, _, _, _, _, rfl, rfl, eff_call rfl (Or.inr ⟨_, rfl, rfl⟩) (ih _ _ _ _ _ h91), rfl, ?_⟩)
                    refine And.intro (fun h92 => ?_) (fun h92 => ?_)
                    · have hF := cpos h92 hF
                      refine And.intro (fun h93 => ?_) (fun h93 => ?_)
                      · have hF := cpos h93 hF
                        refine obind hF fun y94 h95 hF => ?_
                        refine Or.inr (Or.inr ⟨[(4294967296, 0)], 0, _, _, _, _, rfl, rfl, eff_call rfl (Or.inr ⟨_, rfl, rfl⟩) (ih _ _ _ _ _ h95), rfl, ?_⟩)
                        refine ret_eq (p := fun r => effFin tab _ 1 (.c (.tup [])) [(0, .arr 45 6 (r.map cAut) none)] _) hF ?_
                        exact ⟨[(4294967296, 0)], [0], rfl, rfl, rfl⟩
                      · have hF := cneg h93 hF
                        refine ret_eq (p := fun r => effFin tab _ 1 (.c (.tup [])) [(0, .arr 45 6 (r.map cAut) none)] _) hF ?_
                        exact ⟨[(4294967296, 0)], [0], rfl, rfl, rfl⟩
                    · have hF := cneg h92 hF
                      refine ret_eq (p := fun r => effFin tab _ 1 (.c (.tup [])) [(0, .arr 45 6 (r.map cAut) none)] _) hF ?_
                      exact ⟨[(4294967296, 0)], [0], rfl, rfl, rfl⟩
                  · have hF := cneg h89 hF
                    refine And.intro (fun h96 => ?_) (fun h96 => ?_)
                    · have hF := cpos h96 hF
                      refine And.intro (fun h97 => ?_) (fun h97 => ?_)
                      · have hF := cpos h97 hF
                        refine obind hF fun y98 h99 hF => ?_
                        refine Or.inr (Or.inr ⟨[(4294967296, 0)], 0, _, _, _, _, rfl, rfl, eff_call rfl (Or.inr ⟨_, rfl, rfl⟩) (ih _ _ _ _ _ h99), rfl, ?_⟩)
                        refine ret_eq (p := fun r => effFin tab _ 1 (.c (.tup [])) [(0, .arr 45 6 (r.map cAut) none)] _) hF ?_
                        exact ⟨[(4294967296, 0)], [0], rfl, rfl, rfl⟩
                      · have hF := cneg h97 hF
                        refine ret_eq (p := fun r => effFin tab _ 1 (.c (.tup [])) [(0, .arr 45 6 (r.map cAut) none)] _) hF ?_
                        exact ⟨[(4294967296, 0)], [0], rfl, rfl, rfl⟩
                    · have hF := cneg h96 hF
                      refine ret_eq (p := fun r => effFin tab _ 1 (.c (.tup [])) [(0, .arr 45 6 (r.map cAut) none)] _) hF ?_
                      exact ⟨[(4294967296, 0)], [0], rfl, rfl, rfl⟩
                · have hF := cneg h88 hF
                  refine And.intro (fun h100 => ?_) (fun h100 => ?_)
                  · have hF := cpos h100 hF
                    refine And.intro (fun h101 => ?_) (fun h101 => ?_)
                    · have hF := cpos h101 hF
                      refine obind hF fun y102 h103 hF => ?_
                      refine Or.inr (Or.inr ⟨[(4294967296, 0)], 0, _, _, _, _, rfl, rfl, eff_call rfl (Or.inr ⟨_, rfl, rfl⟩) (ih _ _ _ _ _ h103), rfl, ?_⟩)
                      refine ret_eq (p := fun r => effFin tab _ 1 (.c (.tup [])) [(0, .arr 45 6 (r.map cAut) none)] _) hF ?_
                      exact ⟨[(4294967296, 0)], [0], rfl, rfl, rfl⟩
                    · have hF := cneg h101 hF
                      refine ret_eq (p := fun r => effFin tab _ 1 (.c (.tup [])) [(0, .arr 45 6 (r.map cAut) none)] _) hF ?_
                      exact ⟨[(4294967296, 0)], [0], rfl, rfl, rfl⟩
                  · have hF := cneg h100 hF
                    refine ret_eq (p := fun r => effFin tab _ 1 (.c (.tup [])) [(0, .arr 45 6 (r.map cAut) none)] _) hF ?_
                    exact ⟨[(4294967296, 0)], [0], rfl, rfl, rfl⟩
        · have hF := cneg h41 hF
          refine join_no ?_
          refine loop_oq (fun p : Nat × Int × Int => [(0, .rs 4294967296 0), (1, .c (I a)), (2, .c (I m)), (3, .c (I b)), (4, .c (.fn 69 [])), (18, .c (I (IntKind.i64.wrap (Int.fdiv (IntKind.u64.wrap (IntKind.i64.wrap (a + b))) 2)))), (19, .c (I (IntKind.i64.wrap ((IntKind.i64.wrap (Int.fdiv (IntKind.u64.wrap (IntKind.i64.wrap (a + b))) 2)) + m)))), (20, .c (I p.2.1)), (21, .c (I p.2.2)), (22, .c (I (IntKind.i64.wrap ((IntKind.i64.wrap ((IntKind.i64.wrap (Int.fdiv (IntKind.u64.wrap (IntKind.i64.wrap (a + b))) 2)) + m)) - 1))))]) (fun p : Nat × Int × Int => [(4294967296, .arr 45 6 (o0.map cAut) none)]) (fun p => slSymMerge_L6 o0 a m b (slSymMerge_F N) p.1 p.2.1 p.2.2 = some r) (fun p => p.1) (N, a, m) hF ⟨rfl, rfl, rfl, rfl, rfl, rfl, rfl, rfl, rfl, rfl, trivial⟩ ⟨rfl, trivial⟩ ?_
          rintro ⟨fu6, start104, r105⟩ hF
          cases fu6 with
          | zero => exact nomatch hF
          | succ fu6 =>
            refine And.intro (fun h106 => ?_) (fun h106 => ?_)
            · have hF := cpos h106 hF
              refine ⟨by decide, ?_⟩
              refine obind hF fun x107 h108 hF => ?_
              refine Or.inl ⟨ix_nn h108, ix_lt h108, ?_⟩
              refine Or.inl ⟨_, ix_map cAut h108, ?_⟩
              refine obind hF fun x109 h110 hF => ?_
              refine Or.inl ⟨ix_nn h110, ix_lt h110, ?_⟩
              refine Or.inl ⟨_, ix_map cAut h110, ?_⟩
              refine obind hF fun y111 h112 hF => ?_
              refine Or.inl ⟨_, sinTime_1_1_h h112, rfl, ?_⟩
              refine And.intro (by kernel_rfl) ?_
              refine And.intro (fun h113 => ?_) (fun h113 => ?_)
              · have hF := cpos h113 hF
                exact ⟨(fu6, (IntKind.i64.wrap ((IntKind.i64.wrap (Int.fdiv (IntKind.u64.wrap (IntKind.i64.wrap (start104 + r105))) 2)) + 1)), r105), Nat.lt_succ_self _, hF, ⟨rfl, rfl, rfl, rfl, rfl, rfl, rfl, rfl, rfl, rfl, trivial⟩, ⟨rfl, trivial⟩⟩
              · have hF := cneg h113 hF
                exact ⟨(fu6, start104, (IntKind.i64.wrap (Int.fdiv (IntKind.u64.wrap (IntKind.i64.wrap (start104 + r105))) 2))), Nat.lt_succ_self _, hF, ⟨rfl, rfl, rfl, rfl, rfl, rfl, rfl, rfl, rfl, rfl, trivial⟩, ⟨rfl, trivial⟩⟩
            · have hF := cneg h106 hF
              refine And.intro (fun h114 => ?_) (fun h114 => ?_)
              · have hF := cpos h114 hF
                refine And.intro (fun h115 => ?_) (fun h115 => ?_)
                · have hF := cpos h115 hF
                  refine obind hF fun y116 h117 hF => ?_
                  refine Or.inr (Or.inr ⟨[(4294967296, 0)], 0, _, _, _, _, rfl, rfl, eff_call rfl (Or.inr ⟨_, rfl, rfl⟩) (slRotate_Xh h117), rfl, ?_⟩)
                  refine And.intro (fun h118 => ?_) (fun h118 => ?_)
                  · have hF := cpos h118 hF
                    refine And.intro (fun h119 => ?_) (fun h119 => ?_)
                    · have hF := cpos h119 hF
                      refine obind hF fun y120 h121 hF => ?_
                      refine Or.inr (Or.inr ⟨[(4294967296, 0)], 0, _, _, _, _, rfl, rfl, eff_call rfl (Or.inr ⟨_, rfl, rfl⟩) (ih _ _ _ _ _ h121), rfl, ?_⟩)
                      refine And.intro (fun h122 => ?_) (fun h122 => ?_)
                      · have hF := cpos h122 hF
                        refine And.intro (fun h123 => ?_) (fun h123 => ?_)
                        · have hF := cpos h123 hF
                          refine obind hF fun y124 h125 hF => ?_
                          refine Or.inr (Or.inr ⟨[(4294967296, 0)], 0, _, _, _, _, rfl, rfl, eff_call rfl (Or.inr ⟨_, rfl, rfl⟩) (ih _ _ _ _ _ h125), rfl, ?_⟩)
                          refine ret_eq (p := fun r => effFin tab _ 1 (.c (.tup [])) [(0, .arr 45 6 (r.map cAut) none)] _) hF ?_
                          exact ⟨[(4294967296, 0)], [0], rfl, rfl, rfl⟩
                        · have hF := cneg h123 hF
                          refine ret_eq (p := fun r => effFin tab _ 1 (.c (.tup [])) [(0, .arr 45 6 (r.map cAut) none)] _) hF ?_
                          exact ⟨[(4294967296, 0)], [0], rfl, rfl, rfl⟩
                      · have hF := cneg h122 hF
                        refine ret_eq (p := fun r => effFin tab _ 1 (.c (.tup [])) [(0, .arr 45 6 (r.map cAut) none)] _) hF ?_
                        exact ⟨[(4294967296, 0)], [0], rfl, rfl, rfl⟩
                    · have hF := cneg h119 hF
                      refine And.intro (fun h126 => ?_) (fun h126 => ?_)
                      · have hF := cpos h126 hF
                        refine And.intro (fun h127 => ?_) (fun h127 => ?_)
                        · have hF := cpos h127 hF
                          refine obind hF fun y128 h129 hF => ?_
                          refine Or.inr (Or.inr ⟨[(4294967296, 0)], 0, _, _, _, _, rfl, rfl, eff_call rfl (Or.inr ⟨_, rfl, rfl⟩) (ih _ _ _ _ _ h129), rfl, ?_⟩)
                          refine ret_eq (p := fun r => effFin tab _ 1 (.c (.tup [])) [(0, .arr 45 6 (r.map cAut) none)] _) hF ?_
                          exact ⟨[(4294967296, 0)], [0], rfl, rfl, rfl⟩
                        · have hF := cneg h127 hF
                          refine ret_eq (p := fun r => effFin tab _ 1 (.c (.tup [])) [(0, .arr 45 6 (r.map cAut) none)] _) hF ?_
                          exact ⟨[(4294967296, 0)], [0], rfl, rfl, rfl⟩
                      · have hF := cneg h126 hF
                        refine ret_eq (p := fun r => effFin tab _ 1 (.c (.tup [])) [(0, .arr 45 6 (r.map cAut) none)] _) hF ?_
                        exact ⟨[(4294967296, 0)], [0], rfl, rfl, rfl⟩
                  · have hF := cneg h118 hF
                    refine And.intro (fun h130 => ?_) (fun h130 => ?_)
                    · have hF := cpos h130 hF
                      refine And.intro (fun h131 => ?_) (fun h131 => ?_)
                      · have hF := cpos h131 hF
                        refine obind hF fun y132 h133 hF => ?_
                        refine Or.inr (Or.inr ⟨[(4294967296, 0)], 0, _, _, _, _, rfl, rfl, eff_call rfl (Or.inr ⟨_, rfl, rfl⟩) (ih _ _ _ _ _ h133), rfl, ?_⟩)
                        refine ret_eq (p := fun r => effFin tab _ 1 (.c (.tup [])) [(0, .arr 45 6 (r.map cAut) none)] _) hF ?_
                        exact ⟨[(4294967296, 0)], [0], rfl, rfl, rfl⟩
                      · have hF := cneg h131 hF
                        refine ret_eq (p := fun r => effFin tab _ 1 (.c (.tup [])) [(0, .arr 45 6 (r.map cAut) none)] _) hF ?_
                        exact ⟨[(4294967296, 0)], [0], rfl, rfl, rfl⟩
                    · have hF := cneg h130 hF
                      refine ret_eq (p := fun r => effFin tab _ 1 (.c (.tup [])) [(0, .arr 45 6 (r.map cAut) none)] _) hF ?_
                      exact ⟨[(4294967296, 0)], [0], rfl, rfl, rfl⟩
                · have hF := cneg h115 hF
                  refine And.intro (fun h134 => ?_) (fun h134 => ?_)
                  · have hF := cpos h134 hF
                    refine And.intro (fun h135 => ?_) (fun h135 => ?_)
                    · have hF := cpos h135 hF
                      refine obind hF fun y136 h137 hF => ?_
                      refine Or.inr (Or.inr ⟨[(4294967296, 0)], 0, _, _, _, _, rfl, rfl, eff_call rfl (Or.inr ⟨_, rfl, rfl⟩) (ih _ _ _ _ _ h137), rfl, ?_⟩)
                      refine And.intro (fun h138 => ?_) (fun h138 => ?_)
                      · have hF := cpos h138 hF
                        refine And.intro (fun h139 => ?_) (fun h139 => ?_)
                        · have hF := cpos h139 hF
                          refine obind hF fun y140 h141 hF => ?_
                          refine Or.inr (Or.inr ⟨[(4294967296, 0)], 0, _, _, _, _, rfl, rfl, eff_call rfl (Or.inr ⟨_, rfl, rfl⟩) (ih _ _ _ _ _ h141), rfl, ?_⟩)
                          refine ret_eq (p := fun r => effFin tab _ 1 (.c (.tup [])) [(0, .arr 45 6 (r.map cAut) none)] _) hF ?_
                          exact ⟨[(4294967296, 0)], [0], rfl, rfl, rfl⟩
                        · have hF := cneg h139 hF
                          refine ret_eq (p := fun r => effFin tab _ 1 (.c (.tup [])) [(0, .arr 45 6 (r.map cAut) none)] _) hF ?_
                          exact ⟨[(4294967296, 0)], [0], rfl, rfl, rfl⟩
                      · have hF := cneg h138 hF
                        refine ret_eq (p := fun r => effFin tab _ 1 (.c (.tup [])) [(0, .arr 45 6 (r.map cAut) none)] _) hF ?_
                        exact ⟨[(4294967296, 0)], [0], rfl, rfl, rfl⟩
                    · have hF := cneg h135 hF
                      refine And.intro (fun h142 => ?_) (fun h142 => ?_)
                      · have hF := cpos h142 hF
                        refine And.intro (fun h143 => ?_) (fun h143 => ?_)
                        · have hF := cpos h143 hF
                          refine obind hF fun y144 h145 hF => ?_
                          refine Or.inr (Or.inr ⟨[(4294967296, 0)], 0, _, _, _, _, rfl, rfl, eff_call rfl (Or.inr ⟨_, rfl, rfl⟩) (ih _ _ _ _ _ h145), rfl, ?_⟩)
                          refine ret_eq (p := fun r => effFin tab _ 1 (.c (.tup [])) [(0, .arr 45 6 (r.map cAut) none)] _) hF ?_
                          exact ⟨[(4294967296, 0)], [0], rfl, rfl, rfl⟩
                        · have hF := cneg h143 hF
                          refine ret_eq (p := fun r => effFin tab _ 1 (.c (.tup [])) [(0, .arr 45 6 (r.map cAut) none)] _) hF ?_
                          exact ⟨[(4294967296, 0)], [0], rfl, rfl, rfl⟩
                      · have hF := cneg h142 hF
                        refine ret_eq (p := fun r => effFin tab _ 1 (.c (.tup [])) [(0, .arr 45 6 (r.map cAut) none)] _) hF ?_
                        exact ⟨[(4294967296, 0)], [0], rfl, rfl, rfl⟩
                  · have hF := cneg h134 hF
                    refine And.intro (fun h146 => ?_) (fun h146 => ?_)
                    · have hF := cpos h146 hF
                      refine And.intro (fun h147 => ?_) (fun h147 => ?_)
                      · have hF := cpos h147 hF
                        refine obind hF fun y148 h149 hF => ?_
                        refine Or.inr (Or.inr ⟨[(4294967296, 0)], 0, _, _, _, _, rfl, rfl, eff_call rfl (Or.inr ⟨_, rfl, rfl⟩) (ih _ _ _ _ _ h149), rfl, ?_⟩)
                        refine ret_eq (p := fun r => effFin tab _ 1 (.c (.tup [])) [(0, .arr 45 6 (r.map cAut) none)] _) hF ?_
                        exact ⟨[(4294967296, 0)], [0], rfl, rfl, rfl⟩
                      · have hF := cneg h147 hF
                        refine ret_eq (p := fun r => effFin tab _ 1 (.c (.tup [])) [(0, .arr 45 6 (r.map cAut) none)] _) hF ?_
                        exact ⟨[(4294967296, 0)], [0], rfl, rfl, rfl⟩
                    · have hF := cneg h146 hF
                      refine ret_eq (p := fun r => effFin tab _ 1 (.c (.tup [])) [(0, .arr 45 6 (r.map cAut) none)] _) hF ?_
                      exact ⟨[(4294967296, 0)], [0], rfl, rfl, rfl⟩
              · have hF := cneg h114 hF
                refine And.intro (fun h150 => ?_) (fun h150 => ?_)
                · have hF := cpos h150 hF
                  refine And.intro (fun h151 => ?_) (fun h151 => ?_)
                  · have hF := cpos h151 hF
                    refine obind hF fun y152 h153 hF => ?_
                    refine Or.inr (Or.inr ⟨[(4294967296, 0)], 0, _, _, _, _, rfl, rfl, eff_call rfl (Or.inr ⟨_, rfl, rfl⟩) (ih _ _ _ _ _ h153), rfl, ?_⟩)
                    refine And.intro (fun h154 => ?_) (fun h154 => ?_)
                    · have hF := cpos h154 hF
                      refine And.intro (fun h155 => ?_) (fun h155 => ?_)
                      · have hF := cpos h155 hF
                        refine obind hF fun y156 h157 hF => ?_
                        refine Or.inr (Or.inr ⟨[(4294967296, 0)], 0, _, _, _, _, rfl, rfl, eff_call rfl (Or.inr ⟨_, rfl, rfl⟩) (ih _ _ _ _ _ h157), rfl, ?_⟩)
                        refine ret_eq (p := fun r => effFin tab _ 1 (.c (.tup [])) [(0, .arr 45 6 (r.map cAut) none)] _) hF ?_
                        exact ⟨[(4294967296, 0)], [0], rfl, rfl, rfl⟩
                      · have hF := cneg h155 hF
                        refine ret_eq (p := fun r => effFin tab _ 1 (.c (.tup [])) [(0, .arr 45 6 (r.map cAut) none)] _) hF ?_
                        exact ⟨[(4294967296, 0)], [0], rfl, rfl, rfl⟩
                    · have hF := cneg h154 hF
                      refine ret_eq (p := fun r => effFin tab _ 1 (.c (.tup [])) [(0, .arr 45 6 (r.map cAut) none)] _) hF ?_
                      exact ⟨[(4294967296, 0)], [0], rfl, rfl, rfl⟩
                  · have hF := cneg h151 hF
                    refine And.intro (fun h158 => ?_) (fun h158 => ?_)
                    · have hF := cpos h158 hF
                      refine And.intro (fun h159 => ?_) (fun h159 => ?_)
                      · have hF := cpos h159 hF
                        refine obind hF fun y160 h161 hF => ?_
                        refine Or.inr (Or.inr ⟨[(4294967296, 0)], 0, _, _, _, _, rfl, rfl, eff_call rfl (Or.inr ⟨_, rfl, rfl⟩) (ih _ _ _ _ _ h161), rfl, ?_⟩)
                        refine ret_eq (p := fun r => effFin tab _ 1 (.c (.tup [])) [(0, .arr 45 6 (r.map cAut) none)] _) hF ?_
                        exact ⟨[(4294967296, 0)], [0], rfl, rfl, rfl⟩
                      · have hF := cneg h159 hF
                        refine ret_eq (p := fun r => effFin tab _ 1 (.c (.tup [])) [(0, .arr 45 6 (r.map cAut) none)] _) hF ?_
                        exact ⟨[(4294967296, 0)], [0], rfl, rfl, rfl⟩
                    · have hF := cneg h158 hF
                      refine ret_eq (p := fun r => effFin tab _ 1 (.c (.tup [])) [(0, .arr 45 6 (r.map cAut) none)] _) hF ?_
                      exact ⟨[(4294967296, 0)], [0], rfl, rfl, rfl⟩
                · have hF := cneg h150 hF
                  refine And.intro (fun h162 => ?_) (fun h162 => ?_)
                  · have hF := cpos h162 hF
                    refine And.intro (fun h163 => ?_) (fun h163 => ?_)
                    · have hF := cpos h163 hF
                      refine obind hF fun y164 h165 hF => ?_
                      refine Or.inr (Or.inr ⟨[(4294967296, 0)], 0, _, _, _, _, rfl, rfl, eff_call rfl (Or.inr ⟨_, rfl, rfl⟩) (ih _ _ _ _ _ h165), rfl, ?_⟩)
                      refine ret_eq (p := fun r => effFin tab _ 1 (.c (.tup [])) [(0, .arr 45 6 (r.map cAut) none)] _) hF ?_
                      exact ⟨[(4294967296, 0)], [0], rfl, rfl, rfl⟩
                    · have hF := cneg h163 hF
                      refine ret_eq (p := fun r => effFin tab _ 1 (.c (.tup [])) [(0, .arr 45 6 (r.map cAut) none)] _) hF ?_
                      exact ⟨[(4294967296, 0)], [0], rfl, rfl, rfl⟩
                  · have hF := cneg h162 hF
                    refine ret_eq (p := fun r => effFin tab _ 1 (.c (.tup [])) [(0, .arr 45 6 (r.map cAut) none)] _) hF ?_
                    exact ⟨[(4294967296, 0)], [0], rfl, rfl, rfl⟩
abbrev slSymMerge_XS (o0 : List Aut) (a : Int) (m : Int) (b : Int) : Option (List Aut) := slSymMerge_F 1000 o0 a m b
theorem slSymMerge_Xh {o0 : List Aut} {a : Int} {m : Int} {b : Int} {r : List Aut} (h : slSymMerge_XS o0 a m b = some r) : EffFn Tryz.prog Gw 106 [.rs 0 0, .c (I a), .c (I m), .c (I b), .c (.fn 69 [])] [(0, .arr 45 6 (o0.map cAut) none)] (.c (.tup [])) [(0, .arr 45 6 (r.map cAut) none)] := slSymMerge_XFh _ _ _ _ _ _ h
def slInsertion_L2 (a : Int) (i1 : Int) (k_1 : Int → List Aut → Option (List Aut)) : Nat → Int → List Aut → Option (List Aut)
  | 0, _, _ => none
  | fu2 + 1, j4, v5 => bif decide (j4 > a) then (Option.bind (ix v5 j4) fun x7 => Option.bind (ix v5 (IntKind.i64.wrap (j4 - 1))) fun x9 => Option.bind (sinTime_1_1_S x7 x9) fun y11 => bif decide (y11 < 0) then (Option.bind (ix (v5.set (j4).toNat x9) (IntKind.i64.wrap (j4 - 1))) fun x14 => slInsertion_L2 a i1 k_1 fu2 (IntKind.i64.wrap (j4 - 1)) ((v5.set (j4).toNat x9).set ((IntKind.i64.wrap (j4 - 1))).toNat x7)) else k_1 (IntKind.i64.wrap (i1 + 1)) v5) else k_1 (IntKind.i64.wrap (i1 + 1)) v5
def slInsertion_L1 (a : Int) (b : Int) (N : Nat) : Nat → Int → List Aut → Option (List Aut)
  | 0, _, _ => none
  | fu1 + 1, i1, v2 => bif decide (i1 < b) then slInsertion_L2 a i1 (fun q_i1 q_v2 => slInsertion_L1 a b N fu1 q_i1 q_v2) N i1 v2 else some (v2)
def slInsertion_F (N : Nat) (o0 : List Aut) (a : Int) (b : Int) : Option (List Aut) := slInsertion_L1 a b N N (IntKind.i64.wrap (a + 1)) o0
set_option linter.unusedVariables false in
theorem slInsertion_XFh {N : Nat} {o0 : List Aut} {a : Int} {b : Int} {r : List Aut} (hF : slInsertion_F N o0 a b = some r) : EffFn Tryz.prog Gw 105 [.rs 0 0, .c (I a), .c (I b), .c (.fn 69 [])] [(0, .arr 45 6 (o0.map cAut) none)] (.c (.tup [])) [(0, .arr 45 6 (r.map cAut) none)] := by
  refine effn_of_wq tabOk mixed Tryz.func105 (by decide) rfl (Nat.le_of_ble_eq_true rfl) rfl ?_
  refine loop_oq (fun p : Nat × Int × List Aut => [(0, .rs 4294967296 0), (1, .c (I a)), (2, .c (I b)), (3, .c (.fn 69 [])), (8, .c (I p.2.1))]) (fun p : Nat × Int × List Aut => [(4294967296, .arr 45 6 (p.2.2.map cAut) none)]) (fun p => slInsertion_L1 a b N p.1 p.2.1 p.2.2 = some r) (fun p => p.1) (N, (IntKind.i64.wrap (a + 1)), o0) hF ⟨rfl, rfl, rfl, rfl, rfl, trivial⟩ ⟨rfl, trivial⟩ ?_
  rintro ⟨fu1, i1, v2⟩ hF
  cases fu1 with
  | zero => exact nomatch hF
  | succ fu1 =>
    refine And.intro (fun h3 => ?_) (fun h3 => ?_)
    · have hF := cpos h3 hF
      refine join_no ?_
      refine loop_oq (fun p : Nat × Int × List Aut => [(0, .rs 4294967296 0), (1, .c (I a)), (2, .c (I b)), (3, .c (.fn 69 [])), (8, .c (I i1)), (9, .c (I p.2.1))]) (fun p : Nat × Int × List Aut => [(4294967296, .arr 45 6 (p.2.2.map cAut) none)]) (fun p => slInsertion_L2 a i1 (fun q_i1 q_v2 => slInsertion_L1 a b N fu1 q_i1 q_v2) p.1 p.2.1 p.2.2 = some r) (fun p => p.1) (N, i1, v2) hF ⟨rfl, rfl, rfl, rfl, rfl, rfl, trivial⟩ ⟨rfl, trivial⟩ ?_
      rintro ⟨fu2, j4, v5⟩ hF
      cases fu2 with
      | zero => exact nomatch hF
      | succ fu2 =>
        refine And.intro (fun h6 => ?_) (fun h6 => ?_)
        · have hF := cpos h6 hF
          refine obind hF fun x7 h8 hF => ?_
          refine Or.inl ⟨ix_nn h8, ix_lt h8, ?_⟩
          refine Or.inl ⟨_, ix_map cAut h8, ?_⟩
          refine obind hF fun x9 h10 hF => ?_
          refine Or.inl ⟨ix_nn h10, ix_lt h10, ?_⟩
          refine Or.inl ⟨_, ix_map cAut h10, ?_⟩
          refine obind hF fun y11 h12 hF => ?_
          refine Or.inl ⟨_, sinTime_1_1_h h12, rfl, ?_⟩
          refine And.intro (by kernel_rfl) ?_
          refine And.intro (fun h13 => ?_) (fun h13 => ?_)
          · have hF := cpos h13 hF
            refine join_no ?_
            refine Or.inl ⟨ix_nn h10, ix_lt h10, ?_⟩
            refine Or.inl ⟨_, ix_map cAut h10, ?_⟩
            refine Or.inl ⟨ix_nn h8, ix_lt h8, ?_⟩
            refine Or.inl ⟨_, ix_map cAut h8, ?_⟩
            refine Or.inl ⟨ix_nn h8, ix_lt h8, ?_⟩
            refine Or.inl ⟨_, ix_map cAut h8, ?_⟩
            refine ⟨(v5.set (j4).toNat x9).map cAut, _, .inl ⟨rfl, set_map _ _ _ _, rfl⟩, ?_⟩
            refine obind hF fun x14 h15 hF => ?_
            refine Or.inl ⟨ix_nn h15, ix_lt h15, ?_⟩
            refine Or.inl ⟨_, ix_map cAut h15, ?_⟩
            refine ⟨((v5.set (j4).toNat x9).set ((IntKind.i64.wrap (j4 - 1))).toNat x7).map cAut, _, .inl ⟨rfl, set_map _ _ _ _, rfl⟩, ?_⟩
            refine And.intro (by kernel_rfl) ?_
            exact ⟨(fu2, (IntKind.i64.wrap (j4 - 1)), ((v5.set (j4).toNat x9).set ((IntKind.i64.wrap (j4 - 1))).toNat x7)), Nat.lt_succ_self _, hF, ⟨rfl, rfl, rfl, rfl, rfl, rfl, trivial⟩, ⟨rfl, trivial⟩⟩
          · have hF := cneg h13 hF
            exact ⟨(fu1, (IntKind.i64.wrap (i1 + 1)), v5), Nat.lt_succ_self _, hF, ⟨rfl, rfl, rfl, rfl, rfl, trivial⟩, ⟨rfl, trivial⟩⟩
        · have hF := cneg h6 hF
          refine And.intro (by kernel_rfl) ?_
          exact ⟨(fu1, (IntKind.i64.wrap (i1 + 1)), v5), Nat.lt_succ_self _, hF, ⟨rfl, rfl, rfl, rfl, rfl, trivial⟩, ⟨rfl, trivial⟩⟩
    · have hF := cneg h3 hF
      refine ret_eq (p := fun r => effFin tab _ 1 (.c (.tup [])) [(0, .arr 45 6 (r.map cAut) none)] _) hF ?_
      exact ⟨[(4294967296, 0)], [0], rfl, rfl, rfl⟩
abbrev slInsertion_XS (o0 : List Aut) (a : Int) (b : Int) : Option (List Aut) := slInsertion_F 1000 o0 a b
theorem slInsertion_Xh {o0 : List Aut} {a : Int} {b : Int} {r : List Aut} (h : slInsertion_XS o0 a b = some r) : EffFn Tryz.prog Gw 105 [.rs 0 0, .c (I a), .c (I b), .c (.fn 69 [])] [(0, .arr 45 6 (o0.map cAut) none)] (.c (.tup [])) [(0, .arr 45 6 (r.map cAut) none)] := slInsertion_XFh  h
def slStable_L3 (n : Int) (blockSize9 : Int) (k_2 : Int → List Aut → Option (List Aut)) : Nat → Int → Int → List Aut → Option (List Aut)
  | 0, _, _, _ => none
  | fu3 + 1, a12, b13, v14 => bif decide (b13 ≤ n) then (Option.bind (slSymMerge_XS v14 a12 (IntKind.i64.wrap (a12 + blockSize9)) b13) fun y16 => slStable_L3 n blockSize9 k_2 fu3 b13 (IntKind.i64.wrap (b13 + (IntKind.i64.wrap (2 * blockSize9)))) y16) else (bif decide ((IntKind.i64.wrap (a12 + blockSize9)) < n) then (Option.bind (slSymMerge_XS v14 a12 (IntKind.i64.wrap (a12 + blockSize9)) n) fun y19 => k_2 (IntKind.i64.wrap (blockSize9 * 2)) y19) else k_2 (IntKind.i64.wrap (blockSize9 * 2)) v14)
def slStable_L2 (n : Int) (N : Nat) : Nat → Int → List Aut → Option (List Aut)
  | 0, _, _ => none
  | fu2 + 1, blockSize9, v10 => bif decide (blockSize9 < n) then slStable_L3 n blockSize9 (fun q_blockSize9 q_v10 => slStable_L2 n N fu2 q_blockSize9 q_v10) N 0 (IntKind.i64.wrap (2 * blockSize9)) v10 else some (v10)
def slStable_L1 (n : Int) (N : Nat) : Nat → Int → Int → List Aut → Option (List Aut)
  | 0, _, _, _ => none
  | fu1 + 1, a1, b2, v3 => bif decide (b2 ≤ n) then (Option.bind (slInsertion_XS v3 a1 b2) fun y5 => slStable_L1 n N fu1 b2 (IntKind.i64.wrap (b2 + 20)) y5) else (Option.bind (slInsertion_XS v3 a1 n) fun y7 => slStable_L2 n N N 20 y7)
def slStable_F (N : Nat) (o0 : List Aut) (n : Int) : Option (List Aut) := slStable_L1 n N N 0 20 o0
set_option linter.unusedVariables false in
theorem slStable_XFh {N : Nat} {o0 : List Aut} {n : Int} {r : List Aut} (hF : slStable_F N o0 n = some r) : EffFn Tryz.prog Gw 90 [.rs 0 0, .c (I n), .c (.fn 69 [])] [(0, .arr 45 6 (o0.map cAut) none)] (.c (.tup [])) [(0, .arr 45 6 (r.map cAut) none)] := by
  refine effn_of_wq tabOk mixed Tryz.func90 (by decide) rfl (Nat.le_of_ble_eq_true rfl) rfl ?_
  refine join_no ?_
  refine loop_oq (fun p : Nat × Int × Int × List Aut => [(0, .rs 4294967296 0), (1, .c (I n)), (2, .c (.fn 69 [])), (6, .c (I 20)), (7, .c (I p.2.1)), (8, .c (I p.2.2.1))]) (fun p : Nat × Int × Int × List Aut => [(4294967296, .arr 45 6 (p.2.2.2.map cAut) none)]) (fun p => slStable_L1 n N p.1 p.2.1 p.2.2.1 p.2.2.2 = some r) (fun p => p.1) (N, 0, 20, o0) hF ⟨rfl, rfl, rfl, rfl, rfl, rfl, trivial⟩ ⟨rfl, trivial⟩ ?_
  rintro ⟨fu1, a1, b2, v3⟩ hF
  cases fu1 with
  | zero => exact nomatch hF
  | succ fu1 =>
    refine And.intro (fun h4 => ?_) (fun h4 => ?_)
    · have hF := cpos h4 hF
      refine obind hF fun y5 h6 hF => ?_
      refine Or.inr (Or.inr ⟨[(4294967296, 0)], 0, _, _, _, _, rfl, rfl, eff_call rfl (Or.inr ⟨_, rfl, rfl⟩) (slInsertion_Xh h6), rfl, ?_⟩)
      exact ⟨(fu1, b2, (IntKind.i64.wrap (b2 + 20)), y5), Nat.lt_succ_self _, hF, ⟨rfl, rfl, rfl, rfl, rfl, rfl, trivial⟩, ⟨rfl, trivial⟩⟩
    · have hF := cneg h4 hF
      refine obind hF fun y7 h8 hF => ?_
      refine Or.inr (Or.inr ⟨[(4294967296, 0)], 0, _, _, _, _, rfl, rfl, eff_call rfl (Or.inr ⟨_, rfl, rfl⟩) (slInsertion_Xh h8), rfl, ?_⟩)
      refine loop_oq (fun p : Nat × Int × List Aut => [(0, .rs 4294967296 0), (1, .c (I n)), (2, .c (.fn 69 [])), (6, .c (I p.2.1))]) (fun p : Nat × Int × List Aut => [(4294967296, .arr 45 6 (p.2.2.map cAut) none)]) (fun p => slStable_L2 n N p.1 p.2.1 p.2.2 = some r) (fun p => p.1) (N, 20, y7) hF ⟨rfl, rfl, rfl, rfl, trivial⟩ ⟨rfl, trivial⟩ ?_
      rintro ⟨fu2, blockSize9, v10⟩ hF
      cases fu2 with
      | zero => exact nomatch hF
      | succ fu2 =>
        refine And.intro (fun h11 => ?_) (fun h11 => ?_)
        · have hF := cpos h11 hF
          refine join_no ?_
          refine loop_oq (fun p : Nat × Int × Int × List Aut => [(0, .rs 4294967296 0), (1, .c (I n)), (2, .c (.fn 69 [])), (6, .c (I blockSize9)), (7, .c (I p.2.1)), (8, .c (I p.2.2.1))]) (fun p : Nat × Int × Int × List Aut => [(4294967296, .arr 45 6 (p.2.2.2.map cAut) none)]) (fun p => slStable_L3 n blockSize9 (fun q_blockSize9 q_v10 => slStable_L2 n N fu2 q_blockSize9 q_v10) p.1 p.2.1 p.2.2.1 p.2.2.2 = some r) (fun p => p.1) (N, 0, (IntKind.i64.wrap (2 * blockSize9)), v10) hF ⟨rfl, rfl, rfl, rfl, rfl, rfl, trivial⟩ ⟨rfl, trivial⟩ ?_
          rintro ⟨fu3, a12, b13, v14⟩ hF
          cases fu3 with
          | zero => exact nomatch hF
          | succ fu3 =>
            refine And.intro (fun h15 => ?_) (fun h15 => ?_)
            · have hF := cpos h15 hF
              refine obind hF fun y16 h17 hF => ?_
              refine Or.inr (Or.inr ⟨[(4294967296, 0)], 0, _, _, _, _, rfl, rfl, eff_call rfl (Or.inr ⟨_, rfl, rfl⟩) (slSymMerge_Xh h17), rfl, ?_⟩)
              exact ⟨(fu3, b13, (IntKind.i64.wrap (b13 + (IntKind.i64.wrap (2 * blockSize9)))), y16), Nat.lt_succ_self _, hF, ⟨rfl, rfl, rfl, rfl, rfl, rfl, trivial⟩, ⟨rfl, trivial⟩⟩
            · have hF := cneg h15 hF
              refine And.intro (fun h18 => ?_) (fun h18 => ?_)
              · have hF := cpos h18 hF
                refine obind hF fun y19 h20 hF => ?_
                refine Or.inr (Or.inr ⟨[(4294967296, 0)], 0, _, _, _, _, rfl, rfl, eff_call rfl (Or.inr ⟨_, rfl, rfl⟩) (slSymMerge_Xh h20), rfl, ?_⟩)
                exact ⟨(fu2, (IntKind.i64.wrap (blockSize9 * 2)), y19), Nat.lt_succ_self _, hF, ⟨rfl, rfl, rfl, rfl, trivial⟩, ⟨rfl, trivial⟩⟩
              · have hF := cneg h18 hF
                exact ⟨(fu2, (IntKind.i64.wrap (blockSize9 * 2)), v14), Nat.lt_succ_self _, hF, ⟨rfl, rfl, rfl, rfl, trivial⟩, ⟨rfl, trivial⟩⟩
        · have hF := cneg h11 hF
          refine ret_eq (p := fun r => effFin tab _ 1 (.c (.tup [])) [(0, .arr 45 6 (r.map cAut) none)] _) hF ?_
          exact ⟨[(4294967296, 0)], [0], rfl, rfl, rfl⟩
abbrev slStable_XS (o0 : List Aut) (n : Int) : Option (List Aut) := slStable_F 1000 o0 n
theorem slStable_Xh {o0 : List Aut} {n : Int} {r : List Aut} (h : slStable_XS o0 n = some r) : EffFn Tryz.prog Gw 90 [.rs 0 0, .c (I n), .c (.fn 69 [])] [(0, .arr 45 6 (o0.map cAut) none)] (.c (.tup [])) [(0, .arr 45 6 (r.map cAut) none)] := slStable_XFh  h
def slSortStable_F (o0 : List Aut) : Option (List Aut) := Option.bind (slStable_XS o0 ((o0.map cAut).length : Int)) fun y1 => some (y1)
set_option linter.unusedVariables false in
theorem slSortStable_XFh {o0 : List Aut} {r : List Aut} (hF : slSortStable_F o0 = some r) : EffFn Tryz.prog Gw 68 [.rs 0 0, .c (.fn 69 [])] [(0, .arr 45 6 (o0.map cAut) none)] (.c (.tup [])) [(0, .arr 45 6 (r.map cAut) none)] := by
  refine effn_of_wq tabOk mixed Tryz.func68 (by decide) rfl (Nat.le_of_ble_eq_true rfl) rfl ?_
  refine Or.inl ?_
  refine obind hF fun y1 h2 hF => ?_
  refine Or.inr (Or.inr ⟨[(4294967296, 0)], 0, _, _, _, _, rfl, rfl, eff_call rfl (Or.inr ⟨_, rfl, rfl⟩) (slStable_Xh h2), rfl, ?_⟩)
  refine ret_eq (p := fun r => effFin tab _ 1 (.c (.tup [])) [(0, .arr 45 6 (r.map cAut) none)] _) hF ?_
  exact ⟨[(4294967296, 0)], [0], rfl, rfl, rfl⟩
abbrev slSortStable_XS (o0 : List Aut) : Option (List Aut) := slSortStable_F o0
theorem slSortStable_Xh {o0 : List Aut} {r : List Aut} (h : slSortStable_XS o0 = some r) : EffFn Tryz.prog Gw 68 [.rs 0 0, .c (.fn 69 [])] [(0, .arr 45 6 (o0.map cAut) none)] (.c (.tup [])) [(0, .arr 45 6 (r.map cAut) none)] := slSortStable_XFh  h
def sShare_R0_X : {p : Array Nat × Code × Code // (rangesOf (Tryz.f18.body.getD .skip))[0]? = some p} := ⟨(_, _, _), rfl⟩
def sShare_R0_R (R : Loop) : Prop := R.params = sShare_R0_X.1.1 ∧ R.assign = sShare_R0_X.1.2.1 ∧ R.body = sShare_R0_X.1.2.2 ∧ R.tmps.size = 49
theorem sShare_R0_n {R : Loop} (h : sShare_R0_R R) : 1 = R.params.size := by rw [h.1]; rfl
def sShare_R0_L1 (a26 : Aut) : Nat → Int → List (Int × Int) → Option ((List (Int × Int)))
  | 0, _, _ => none
  | fu1 + 1, v1, v2 => bif decide (v1 < ((a26.Next.map cInt).length : Int)) then (Option.bind (ix a26.Next v1) fun x4 => Option.bind (mlk v2 x4 0) fun y6 => Option.bind (mlk v2 a26.ID 0) fun y8 => sShare_R0_L1 a26 fu1 (IntKind.i64.wrap (v1 + 1)) (mset v2 x4 (if 1099511627776 < (IntKind.i64.wrap (y6 + y8)) then 1099511627776 else (IntKind.i64.wrap (y6 + y8))))) else some (v2)
def sShare_R0_F (N : Nat) (m2 : List (Int × Int)) (a26 : Aut) : Option ((List (Int × Int))) := sShare_R0_L1 a26 N 0 m2
set_option linter.unusedVariables false in
theorem sShare_R0_XFh {N : Nat} {m2 : List (Int × Int)} {a26 : Aut} {r : (List (Int × Int))} {l : Nat} {R : Loop} (hR : sShare_R0_R R) (hF : sShare_R0_F N m2 a26 = some r) : EffRnd Tryz.prog Gw l R (envL [(9, .pm 1 0 0)] 49 0) [.c (.agg [I a26.ID, I a26.Kind, I a26.In.From, I a26.In.Until, .sl 3 (a26.Names.map cNam), .sl 1 (a26.Next.map cInt)])] [(0, .lp l R .on), (0, .varx [.mr 2 0]), (0, .map (mpE (kInt .i64) eInt m2))] (.c (.v (.bool true))) [(0, .lp l R .on), (0, .varx [.mr 2 0]), (0, .map (mpE (kInt .i64) eInt r))] := by
  refine effrnd_of_wq [] tabOk mixed 0 hR.1 hR.2.1 hR.2.2.1 hR.2.2.2 rfl ?_
  refine Or.inl ?_
  refine ⟨rfl, ?_⟩
  refine loop_oq (fun p : Nat × Int × (List (Int × Int)) => [(9, .pm 4295032832 0 0), (10, .pm 10 0 0), (28, .c (.sl 1 (a26.Next.map cInt))), (29, .c (I ((a26.Next.map cInt).length : Int))), (30, .c (I p.2.1))]) (fun p : Nat × Int × (List (Int × Int)) => [(4295032832, .varx [.mr 4295098368 0]), (10, .var [I a26.ID, I a26.Kind, I a26.In.From, I a26.In.Until, .sl 3 (a26.Names.map cNam), .sl 1 (a26.Next.map cInt)]), (4294967296, .lp l R .busy), (4295098368, .map (mpE (kInt .i64) eInt p.2.2))]) (fun p => sShare_R0_L1 a26 p.1 p.2.1 p.2.2 = some r) (fun p => p.1) (N, 0, m2) hF ⟨rfl, rfl, rfl, rfl, rfl, trivial⟩ ⟨rfl, rfl, rfl, rfl, trivial⟩ ?_
  rintro ⟨fu1, v1, v2⟩ hF
  cases fu1 with
  | zero => exact nomatch hF
  | succ fu1 =>
    refine join_no ?_
    refine And.intro (fun h3 => ?_) (fun h3 => ?_)
    · have hF := cpos h3 hF
      refine join_no ?_
      refine obind hF fun x4 h5 hF => ?_
      refine ⟨ix_nn h5, .inl rfl, _, ix_map cInt h5, ?_⟩
      refine Or.inl ?_
      refine Or.inl ?_
      refine obind hF fun y6 h7 hF => ?_
      refine Or.inr ⟨[(4295098368, 0)], 0, _, _, _, _, rfl, rfl, eff_mlk (ev := eInt) (z := 0) (m := v2) (x := x4) tok63.u tok3.u (keyInt .i64) tok3 rfl h7, rfl, ?_⟩
      refine Or.inl ?_
      refine obind hF fun y8 h9 hF => ?_
      refine Or.inr ⟨[(4295098368, 0)], 0, _, _, _, _, rfl, rfl, eff_mlk (ev := eInt) (z := 0) (m := v2) (x := a26.ID) tok63.u tok3.u (keyInt .i64) tok3 rfl h9, rfl, ?_⟩
      refine Or.inr ⟨[(4295098368, 0)], 0, _, _, _, _, rfl, rfl, eff_mapUpdate (ev := eInt) (m := v2) (x := x4) (v := (if 1099511627776 < (IntKind.i64.wrap (y6 + y8)) then 1099511627776 else (IntKind.i64.wrap (y6 + y8)))) tok63.u tok3.u (keyInt .i64), rfl, ?_⟩
      exact ⟨(fu1, (IntKind.i64.wrap (v1 + 1)), (mset v2 x4 (if 1099511627776 < (IntKind.i64.wrap (y6 + y8)) then 1099511627776 else (IntKind.i64.wrap (y6 + y8))))), Nat.lt_succ_self _, hF, ⟨rfl, rfl, rfl, rfl, rfl, trivial⟩, ⟨rfl, rfl, rfl, rfl, trivial⟩⟩
    · have hF := cneg h3 hF
      refine ret_eq (p := fun r => rndFin [] 0 l R 3 (.c (.v (.bool true))) [(0, .lp l R .on), (0, .varx [.mr 2 0]), (0, .map (mpE (kInt .i64) eInt r))] .on true _) hF ?_
      exact ⟨rfl, rfl, [(4294967296, 0), (4295032832, 0), (4295098368, 0)], [0, 0, 0], rfl, rfl⟩
abbrev sShare_R0_XS (m2 : List (Int × Int)) (a26 : Aut) : Option ((List (Int × Int))) := sShare_R0_F 1000 m2 a26
theorem sShare_R0_Xh {m2 : List (Int × Int)} {a26 : Aut} {r : (List (Int × Int))} {l : Nat} {R : Loop} (hR : sShare_R0_R R) (h : sShare_R0_XS m2 a26 = some r) : EffRnd Tryz.prog Gw l R (envL [(9, .pm 1 0 0)] 49 0) [.c (.agg [I a26.ID, I a26.Kind, I a26.In.From, I a26.In.Until, .sl 3 (a26.Names.map cNam), .sl 1 (a26.Next.map cInt)])] [(0, .lp l R .on), (0, .varx [.mr 2 0]), (0, .map (mpE (kInt .i64) eInt m2))] (.c (.v (.bool true))) [(0, .lp l R .on), (0, .varx [.mr 2 0]), (0, .map (mpE (kInt .i64) eInt r))] := sShare_R0_XFh hR h
def sinTime_1_L1 (y3 : List Aut) : Nat → Int → List (Int × Int) → Option ((List (Int × Int)))
  | 0, _, _ => none
  | fu1 + 1, v5, v6 => bif decide (v5 < ((y3.map cAut).length : Int)) then (Option.bind (ix y3 v5) fun x8 => Option.bind (sShare_R0_XS v6 x8) fun y10 => sinTime_1_L1 y3 fu1 (IntKind.i64.wrap (v5 + 1)) y10) else some (v6)
def sinTime_1_F (N : Nat) (m2 : List (Int × Int)) (u3 : List Aut) : Option ((List (Int × Int))) := Option.bind (slCloneA_S u3) fun y1 => Option.bind (slSortStable_XS y1) fun y3 => sinTime_1_L1 y3 N 0 m2
set_option linter.unusedVariables false in
theorem sinTime_1_XFh {N : Nat} {m2 : List (Int × Int)} {u3 : List Aut} {r : (List (Int × Int))} {l : Nat} {R : Loop} (hR : sShare_R0_R R) (hF : sinTime_1_F N m2 u3 = some r) : EffFn Tryz.prog Gw 66 [.fnr (.yl l R.tmps.toList) (envL [(9, .pm 1 0 0)] 49 0), .pm 3 0 0] [(0, .lp l R .on), (0, .varx [.mr 2 0]), (0, .map (mpE (kInt .i64) eInt m2)), (0, .var [.sl 6 (u3.map cAut)])] (.c (.tup [])) [(0, .lp l R .on), (0, .varx [.mr 2 0]), (0, .map (mpE (kInt .i64) eInt r)), (0, .var [.sl 6 (u3.map cAut)])] := by
  refine effn_of_wq tabOk mixed Tryz.func66 (by decide) rfl (Nat.le_of_ble_eq_true rfl) rfl ?_
  refine obind hF fun y1 h2 hF => ?_
  refine Or.inr (Or.inl ⟨_, _, slCloneA_Oh h2, ?_⟩)
  refine obind hF fun y3 h4 hF => ?_
  refine Or.inr (Or.inr ⟨[(7, 1)], 0, _, _, _, _, rfl, rfl, eff_call rfl (Or.inr ⟨_, rfl, rfl⟩) (slSortStable_Xh h4), rfl, ?_⟩)
  refine Or.inl ?_
  refine loop_oq (fun p : Nat × Int × (List (Int × Int)) => [(0, .fnr (.yl l R.tmps.toList) (envL [(9, .pm 4295032832 0 0)] 49 0)), (10, .rs 7 0), (11, .c (I ((y3.map cAut).length : Int))), (12, .c (I p.2.1))]) (fun p : Nat × Int × (List (Int × Int)) => [(4294967296, .lp l R .on), (4295032832, .varx [.mr 4295098368 0]), (7, .arr 45 6 (y3.map cAut) none), (4295098368, .map (mpE (kInt .i64) eInt p.2.2)), (4295163904, .var [.sl 6 (u3.map cAut)])]) (fun p => sinTime_1_L1 y3 p.1 p.2.1 p.2.2 = some r) (fun p => p.1) (N, 0, m2) hF ⟨rfl, rfl, rfl, rfl, trivial⟩ ⟨rfl, rfl, rfl, rfl, rfl, trivial⟩ ?_
  rintro ⟨fu1, v5, v6⟩ hF
  cases fu1 with
  | zero => exact nomatch hF
  | succ fu1 =>
    refine join_no ?_
    refine And.intro (fun h7 => ?_) (fun h7 => ?_)
    · have hF := cpos h7 hF
      refine join_no ?_
      refine obind hF fun x8 h9 hF => ?_
      refine Or.inl ⟨ix_nn h9, ix_lt h9, ?_⟩
      refine Or.inl ⟨_, ix_map cAut h9, ?_⟩
      refine Or.inl ?_
      refine obind hF fun y10 h11 hF => ?_
      refine Or.inr ⟨[(4294967296, 0), (4295032832, 0), (4295098368, 0)], 0, _, _, _, _, rfl, rfl, eff_round rfl 0 rfl (sShare_R0_n hR) (sShare_R0_Xh hR h11), rfl, ?_⟩
      refine And.intro (fun h12 => ?_) (fun h12 => ?_)
      · exact absurd h12 (by simp)
      · skip
        exact ⟨(fu1, (IntKind.i64.wrap (v5 + 1)), y10), Nat.lt_succ_self _, hF, ⟨rfl, rfl, rfl, rfl, trivial⟩, ⟨rfl, rfl, rfl, rfl, rfl, trivial⟩⟩
    · have hF := cneg h7 hF
      refine ret_eq (p := fun r => effFin tab _ 4 (.c (.tup [])) [(0, .lp l R .on), (0, .varx [.mr 2 0]), (0, .map (mpE (kInt .i64) eInt r)), (0, .var [.sl 6 (u3.map cAut)])] _) hF ?_
      exact ⟨[(4294967296, 0), (4295032832, 0), (4295098368, 0), (4295163904, 0)], [0, 0, 0, 0], rfl, rfl, rfl⟩
abbrev sinTime_1_XS (m2 : List (Int × Int)) (u3 : List Aut) : Option ((List (Int × Int))) := sinTime_1_F 1000 m2 u3
theorem sinTime_1_Xh {m2 : List (Int × Int)} {u3 : List Aut} {r : (List (Int × Int))} {l : Nat} {R : Loop} (hR : sShare_R0_R R) (h : sinTime_1_XS m2 u3 = some r) : EffFn Tryz.prog Gw 66 [.fnr (.yl l R.tmps.toList) (envL [(9, .pm 1 0 0)] 49 0), .pm 3 0 0] [(0, .lp l R .on), (0, .varx [.mr 2 0]), (0, .map (mpE (kInt .i64) eInt m2)), (0, .var [.sl 6 (u3.map cAut)])] (.c (.tup [])) [(0, .lp l R .on), (0, .varx [.mr 2 0]), (0, .map (mpE (kInt .i64) eInt r)), (0, .var [.sl 6 (u3.map cAut)])] := sinTime_1_XFh hR h
theorem sinTime_K {l : List Aut} : EffFn Tryz.prog Gw 45 [.c (.sl 6 (l.map cAut))] [] (.fnr 66 [.pm 0 1 0]) [(1, .var [.sl 6 (l.map cAut)])] := by
  refine effn_of_wq tabOk mixed Tryz.func45 (by decide) rfl (Nat.le_of_ble_eq_true rfl) rfl ?_
  refine Or.inl ?_
  exact ⟨[(1, 1)], [1], rfl, rfl, rfl⟩
abbrev sShare_E (y : Int × Int) : CV := .tup [I y.1, I y.2]
def sShare_F (l : List Aut) (from_ : Int) (to : Int) : Option (Int × Int) := Option.bind (sasks_S l ([from_, to] : List Int)) fun y1 => bif (y1 != 0) then some (0, y1) else (Option.bind (sinTime_1_XS (mset ([] : List (Int × Int)) from_ 1) l) fun y4 => Option.bind (mlk y4 to 0) fun y6 => some (y6, 0))
set_option linter.unusedVariables false in
theorem sShare_Fh {l : List Aut} {from_ : Int} {to : Int} {r : Int × Int} (hF : sShare_F l from_ to = some r) : Holds Tryz.prog Gw 18 [.sl 6 (l.map cAut), I from_, I to] (sShare_E r) := by
  refine holds_of_wq tabOk mixed Tryz.func18 (by decide) rfl (Nat.le_of_ble_eq_true rfl) ?_
  refine Or.inl ?_
  refine obind hF fun y1 h2 hF => ?_
  refine Or.inl ⟨_, sasks_h h2, rfl, ?_⟩
  refine And.intro (fun h3 => ?_) (fun h3 => ?_)
  · have hF := cpos h3 hF
    exact Or.inl ⟨rfl, congrArg (Option.map sShare_E) hF⟩
  · have hF := cneg h3 hF
    refine Or.inr ⟨[], 0, _, _, _, _, rfl, rfl, eff_makeMap, rfl, ?_⟩
    refine Or.inr ⟨[(21, 1)], 0, _, _, _, _, rfl, rfl, eff_insert (ev := eInt) (m := ([] : List (Int × Int))) (x := from_) (v := 1) tok63.u tok3.u (keyInt .i64), rfl, ?_⟩
    refine Or.inl ?_
    refine Or.inl ?_
    refine Or.inr (Or.inr ⟨[], 0, _, _, _, _, rfl, rfl, eff_call rfl (Or.inr ⟨_, rfl, rfl⟩) sinTime_K, rfl, ?_⟩)
    refine obind hF fun y4 h5 hF => ?_
    refine rangeP.mk ?_
    refine ⟨60000, envL [(9, .pm 9 1 0)] 49 0, _, _, Or.inl rfl, rfl, (by refine envSub_L ?_ 49 0; exact ⟨rfl, trivial⟩), fun l R hp ha hb hn => ⟨[(60000, 1), (9, 1), (21, 1), (25, 1)], 0, _, _, _, _, rfl, rfl, sinTime_1_Xh ⟨hp, ha, hb, hn⟩ h5, rfl, _, true, .skip, rfl, fun _ => ?_, fun hb => nomatch hb⟩⟩
    refine Or.inl ?_
    refine obind hF fun y6 h7 hF => ?_
    refine Or.inr ⟨[(21, 1)], 0, _, _, _, _, rfl, rfl, eff_mlk (ev := eInt) (z := 0) (m := y4) (x := to) tok63.u tok3.u (keyInt .i64) tok3 rfl h7, rfl, ?_⟩
    exact Or.inl ⟨rfl, congrArg (Option.map sShare_E) hF⟩
abbrev sShare_S (l : List Aut) (from_ : Int) (to : Int) : Option (Int × Int) := sShare_F l from_ to
theorem sShare_h {l : List Aut} {from_ : Int} {to : Int} {r : Int × Int} (h : sShare_S l from_ to = some r) : Holds Tryz.prog Gw 18 [.sl 6 (l.map cAut), I from_, I to] (sShare_E r) := sShare_Fh  h
end Go.Proofs.YtdoldlbcjcfmdaaGreat
