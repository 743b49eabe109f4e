/- Functions of the program as functions of Lean, each with its contract (printed by a program). -/
import Derived.Test.YtmdhahfminiilaaDoorLibD
namespace Go.Proofs.YtmdhahfminiilaaDoor
open Go Go.Abs
set_option maxRecDepth 10000
set_option maxHeartbeats 400000
abbrev trimLA_E (y : Str) : CV := S y
def trimLA_L1 (as_ : List CV) : Nat → Str → Option (Str)
  | 0, _ => none
  | fu1 + 1, s1 => bif decide ((s1.length : Int) > 0) then (Option.bind (ix s1 0) fun b3 => Option.bind (ascHas_S as_ (b3.toNat : Int)) fun y5 => bif (!y5) then some (s1) else (Option.bind (slc s1 1 (s1.length : Int)) fun y8 => trimLA_L1 as_ fu1 y8)) else some (s1)
def trimLA_F (N : Nat) (s : Str) (as_ : List CV) : Option (Str) := trimLA_L1 as_ N s
set_option linter.unusedVariables false in
theorem trimLA_Fh {N : Nat} {s : Str} {as_ : List CV} {r : Str} (hF : trimLA_F N s as_ = some r) : Holds Tryd.prog Gw 59 [S s, .pi as_ 0] (trimLA_E r) := by
  refine holds_of_wq tabOk mixed Tryd.func59 (by decide) rfl (Nat.le_of_ble_eq_true rfl) ?_
  refine join_no ?_
  refine loop_oq (fun p : Nat × Str => [(0, .c (S p.2)), (1, .c (.pi as_ 0))]) (fun _ => []) (fun p => trimLA_L1 as_ p.1 p.2 = some r) (fun p => p.1) (N, s) hF ⟨rfl, rfl, trivial⟩ trivial ?_
  rintro ⟨fu1, s1⟩ hF
  cases fu1 with
  | zero => exact nomatch hF
  | succ fu1 =>
    refine And.intro (fun h2 => ?_) (fun h2 => ?_)
    · have hF := cpos h2 hF
      refine Or.inl ?_
      refine obind hF fun b3 h4 hF => ?_
      refine ⟨ix_nn h4, _, ix_str h4, ?_⟩
      refine obind hF fun y5 h6 hF => ?_
      refine Or.inl ⟨_, ascHas_h h6, rfl, ?_⟩
      refine And.intro (fun h7 => ?_) (fun h7 => ?_)
      · have hF := cpos h7 hF
        exact Or.inl ⟨rfl, congrArg (Option.map trimLA_E) hF⟩
      · have hF := cneg h7 hF
        refine obind hF fun y8 h9 hF => ?_
        refine Or.inr ⟨[], 0, _, _, _, _, rfl, rfl, eff_sslice_l tok9.u h9, rfl, ?_⟩
        exact ⟨(fu1, y8), Nat.lt_succ_self _, hF, ⟨rfl, rfl, trivial⟩, trivial⟩
    · have hF := cneg h2 hF
      exact Or.inl ⟨rfl, congrArg (Option.map trimLA_E) hF⟩
abbrev trimLA_S (s : Str) (as_ : List CV) : Option (Str) := trimLA_F (s.length + 1) s as_
theorem trimLA_h {s : Str} {as_ : List CV} {r : Str} (h : trimLA_S s as_ = some r) : Holds Tryd.prog Gw 59 [S s, .pi as_ 0] (trimLA_E r) := trimLA_Fh  h
abbrev trimRA_E (y : Str) : CV := S y
def trimRA_L1 (as_ : List CV) : Nat → Str → Option (Str)
  | 0, _ => none
  | fu1 + 1, s1 => bif decide ((s1.length : Int) > 0) then (Option.bind (ix s1 (IntKind.i64.wrap ((s1.length : Int) - 1))) fun b3 => Option.bind (ascHas_S as_ (b3.toNat : Int)) fun y5 => bif (!y5) then some (s1) else (Option.bind (slc s1 0 (IntKind.i64.wrap ((s1.length : Int) - 1))) fun y8 => trimRA_L1 as_ fu1 y8)) else some (s1)
def trimRA_F (N : Nat) (s : Str) (as_ : List CV) : Option (Str) := trimRA_L1 as_ N s
set_option linter.unusedVariables false in
theorem trimRA_Fh {N : Nat} {s : Str} {as_ : List CV} {r : Str} (hF : trimRA_F N s as_ = some r) : Holds Tryd.prog Gw 60 [S s, .pi as_ 0] (trimRA_E r) := by
  refine holds_of_wq tabOk mixed Tryd.func60 (by decide) rfl (Nat.le_of_ble_eq_true rfl) ?_
  refine join_no ?_
  refine loop_oq (fun p : Nat × Str => [(0, .c (S p.2)), (1, .c (.pi as_ 0))]) (fun _ => []) (fun p => trimRA_L1 as_ p.1 p.2 = some r) (fun p => p.1) (N, s) hF ⟨rfl, rfl, trivial⟩ trivial ?_
  rintro ⟨fu1, s1⟩ hF
  cases fu1 with
  | zero => exact nomatch hF
  | succ fu1 =>
    refine And.intro (fun h2 => ?_) (fun h2 => ?_)
    · have hF := cpos h2 hF
      refine Or.inl ?_
      refine obind hF fun b3 h4 hF => ?_
      refine ⟨ix_nn h4, _, ix_str h4, ?_⟩
      refine obind hF fun y5 h6 hF => ?_
      refine Or.inl ⟨_, ascHas_h h6, rfl, ?_⟩
      refine And.intro (fun h7 => ?_) (fun h7 => ?_)
      · have hF := cpos h7 hF
        exact Or.inl ⟨rfl, congrArg (Option.map trimRA_E) hF⟩
      · have hF := cneg h7 hF
        refine obind hF fun y8 h9 hF => ?_
        refine Or.inr ⟨[], 0, _, _, _, _, rfl, rfl, eff_sslice_h tok9.u h9, rfl, ?_⟩
        exact ⟨(fu1, y8), Nat.lt_succ_self _, hF, ⟨rfl, rfl, trivial⟩, trivial⟩
    · have hF := cneg h2 hF
      exact Or.inl ⟨rfl, congrArg (Option.map trimRA_E) hF⟩
abbrev trimRA_S (s : Str) (as_ : List CV) : Option (Str) := trimRA_F (s.length + 1) s as_
theorem trimRA_h {s : Str} {as_ : List CV} {r : Str} (h : trimRA_S s as_ = some r) : Holds Tryd.prog Gw 60 [S s, .pi as_ 0] (trimRA_E r) := trimRA_Fh  h
abbrev sTrimC_E (y : Str) : CV := S y
def sTrimC_F (s : Str) : Option (Str) := bif (s == ([] : Str)) then some (s) else (bif (digs == ([] : Str)) then some (s) else (bif ((digs.length : Int) == 1) then (Option.bind (ix digs 0) fun b4 => bif decide ((b4.toNat : Int) < 128) then (Option.bind (ix digs 0) fun b7 => Option.bind (trimRB_S s (b7.toNat : Int)) fun y9 => Option.bind (ix digs 0) fun b11 => Option.bind (trimLB_S y9 (b11.toNat : Int)) fun y13 => some (y13)) else (Option.bind (mkAscii_S digs) fun y15 => Option.bind (trimRA_S s digC) fun y18 => Option.bind (trimLA_S y18 digC) fun y20 => some (y20))) else (Option.bind (mkAscii_S digs) fun y22 => Option.bind (trimRA_S s digC) fun y25 => Option.bind (trimLA_S y25 digC) fun y27 => some (y27))))
set_option linter.unusedVariables false in
theorem sTrimC_Fh {s : Str} {r : Str} (hF : sTrimC_F s = some r) : Holds Tryd.prog Gw 36 [S s, S digs] (sTrimC_E r) := by
  refine holds_of_wq tabOk mixed Tryd.func36 (by decide) rfl (Nat.le_of_ble_eq_true rfl) ?_
  refine And.intro (fun h1 => ?_) (fun h1 => ?_)
  · have hF := cpos h1 hF
    exact Or.inl ⟨rfl, congrArg (Option.map sTrimC_E) hF⟩
  · have hF := cneg h1 hF
    refine And.intro (fun h2 => ?_) (fun h2 => ?_)
    · have hF := cpos h2 hF
      exact Or.inl ⟨rfl, congrArg (Option.map sTrimC_E) hF⟩
    · have hF := cneg h2 hF
      refine And.intro (fun h3 => ?_) (fun h3 => ?_)
      · have hF := cpos h3 hF
        refine Or.inl ?_
        refine obind hF fun b4 h5 hF => ?_
        refine ⟨ix_nn h5, _, ix_str h5, ?_⟩
        refine And.intro (fun h6 => ?_) (fun h6 => ?_)
        · have hF := cpos h6 hF
          refine Or.inl ?_
          refine obind hF fun b7 h8 hF => ?_
          refine ⟨ix_nn h8, _, ix_str h8, ?_⟩
          refine obind hF fun y9 h10 hF => ?_
          refine Or.inl ⟨_, trimRB_h h10, rfl, ?_⟩
          refine Or.inl ?_
          refine obind hF fun b11 h12 hF => ?_
          refine ⟨ix_nn h12, _, ix_str h12, ?_⟩
          refine obind hF fun y13 h14 hF => ?_
          refine Or.inl ⟨_, trimLB_h h14, rfl, ?_⟩
          refine And.intro (by kernel_rfl) ?_
          exact Or.inl ⟨rfl, congrArg (Option.map sTrimC_E) hF⟩
        · have hF := cneg h6 hF
          refine obind hF fun y15 h16 hF => ?_
          refine Or.inl ⟨_, mkAscii_h h16, rfl, ?_⟩
          refine Or.inl ?_
          refine And.intro (fun h17 => ?_) (fun h17 => ?_)
          · skip
            refine obind hF fun y18 h19 hF => ?_
            refine Or.inl ⟨_, trimRA_h h19, rfl, ?_⟩
            refine obind hF fun y20 h21 hF => ?_
            refine Or.inl ⟨_, trimLA_h h21, rfl, ?_⟩
            exact Or.inl ⟨rfl, congrArg (Option.map sTrimC_E) hF⟩
          · exact absurd h17 (by simp)
      · have hF := cneg h3 hF
        refine obind hF fun y22 h23 hF => ?_
        refine Or.inl ⟨_, mkAscii_h h23, rfl, ?_⟩
        refine Or.inl ?_
        refine And.intro (fun h24 => ?_) (fun h24 => ?_)
        · skip
          refine obind hF fun y25 h26 hF => ?_
          refine Or.inl ⟨_, trimRA_h h26, rfl, ?_⟩
          refine obind hF fun y27 h28 hF => ?_
          refine Or.inl ⟨_, trimLA_h h28, rfl, ?_⟩
          exact Or.inl ⟨rfl, congrArg (Option.map sTrimC_E) hF⟩
        · exact absurd h24 (by simp)
abbrev sTrimC_S (s : Str) : Option (Str) := sTrimC_F s
theorem sTrimC_h {s : Str} {r : Str} (h : sTrimC_S s = some r) : Holds Tryd.prog Gw 36 [S s, S digs] (sTrimC_E r) := sTrimC_Fh  h
end Go.Proofs.YtmdhahfminiilaaDoor
