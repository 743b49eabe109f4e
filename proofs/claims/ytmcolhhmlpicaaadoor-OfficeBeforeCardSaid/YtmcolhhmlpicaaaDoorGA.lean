/- Functions of the program as functions of Lean, each with its contract (printed by a program). -/
import Derived.Test.YtmcolhhmlpicaaaDoorTy
namespace Go.Proofs.YtmcolhhmlpicaaaDoor
open Go Go.Abs
set_option maxRecDepth 10000
set_option maxHeartbeats 400000
abbrev pvalid_E (y : Bool) : CV := B y
def pvalid_F (s : Span) : Option (Bool) := bif decide (s.From ≥ 0) then (bif decide (s.From < s.Until) then some (decide (s.Until ≤ 1048576)) else some (false)) else some (false)
set_option linter.unusedVariables false in
theorem pvalid_Fh {s : Span} {r : Bool} (hF : pvalid_F s = some r) : Holds Tryd.prog Gw 38 [.agg (cSpan s)] (pvalid_E r) := by
  refine holds_of_wq tabOk mixed Tryd.func38 (by decide) rfl (Nat.le_of_ble_eq_true rfl) ?_
  refine And.intro (fun h1 => ?_) (fun h1 => ?_)
  · have hF := cpos h1 hF
    refine And.intro (fun h2 => ?_) (fun h2 => ?_)
    · have hF := cpos h2 hF
      exact Or.inl ⟨rfl, congrArg (Option.map pvalid_E) hF⟩
    · have hF := cneg h2 hF
      exact Or.inl ⟨rfl, congrArg (Option.map pvalid_E) hF⟩
  · have hF := cneg h1 hF
    exact Or.inl ⟨rfl, congrArg (Option.map pvalid_E) hF⟩
abbrev pvalid_S (s : Span) : Option (Bool) := pvalid_F s
theorem pvalid_h {s : Span} {r : Bool} (h : pvalid_S s = some r) : Holds Tryd.prog Gw 38 [.agg (cSpan s)] (pvalid_E r) := pvalid_Fh  h
abbrev pin_E (y : Bool) : CV := B y
def pin_F (o : Off) (day : Int) : Option (Bool) := bif decide (o.In.From ≤ day) then some (decide (day < o.In.Until)) else some (false)
set_option linter.unusedVariables false in
theorem pin_Fh {o : Off} {day : Int} {r : Bool} (hF : pin_F o day = some r) : Holds Tryd.prog Gw 29 [.agg (cOff o), I day] (pin_E r) := by
  refine holds_of_wq tabOk mixed Tryd.func29 (by decide) rfl (Nat.le_of_ble_eq_true rfl) ?_
  refine And.intro (fun h1 => ?_) (fun h1 => ?_)
  · have hF := cpos h1 hF
    exact Or.inl ⟨rfl, congrArg (Option.map pin_E) hF⟩
  · have hF := cneg h1 hF
    exact Or.inl ⟨rfl, congrArg (Option.map pin_E) hF⟩
abbrev pin_S (o : Off) (day : Int) : Option (Bool) := pin_F o day
theorem pin_h {o : Off} {day : Int} {r : Bool} (h : pin_S o day = some r) : Holds Tryd.prog Gw 29 [.agg (cOff o), I day] (pin_E r) := pin_Fh  h
abbrev pFind_1_E (y : Bool) : CV := B y
def pFind_1_F (o : Off) (c0 : Int) : Option (Bool) := some ((o.ID == c0))
set_option linter.unusedVariables false in
theorem pFind_1_Fh {o : Off} {c0 : Int} {r : Bool} (hF : pFind_1_F o c0 = some r) : Holds Tryd.prog Gw 42 [.agg (cOff o), .pi [I c0] 0] (pFind_1_E r) := by
  refine holds_of_wq tabOk mixed Tryd.func42 (by decide) rfl (Nat.le_of_ble_eq_true rfl) ?_
  exact Or.inl ⟨rfl, congrArg (Option.map pFind_1_E) hF⟩
abbrev pFind_1_S (o : Off) (c0 : Int) : Option (Bool) := pFind_1_F o c0
theorem pFind_1_h {o : Off} {c0 : Int} {r : Bool} (h : pFind_1_S o c0 = some r) : Holds Tryd.prog Gw 42 [.agg (cOff o), .pi [I c0] 0] (pFind_1_E r) := pFind_1_Fh  h
abbrev slIndexFuncO_E (y : Int) : CV := I y
def slIndexFuncO_L1 (s : List Off) (f : Off → Option Bool) : Nat → Int → Option (Int)
  | 0, _ => none
  | fu1 + 1, v1 => bif decide (v1 < ((s.map cOff).length : Int)) then (Option.bind (ix s v1) fun x3 => Option.bind (f x3) fun y5 => bif y5 then some (v1) else slIndexFuncO_L1 s f fu1 (IntKind.i64.wrap (v1 + 1))) else some ((-1))
def slIndexFuncO_F (N : Nat) (s : List Off) (f : Off → Option Bool) : Option (Int) := slIndexFuncO_L1 s f N 0
set_option linter.unusedVariables false in
theorem slIndexFuncO_Fh {N : Nat} {s : List Off} {f : Off → Option Bool} {r : Int} {f_f : FuncId} {f_c : List CV} (f_h : ∀ z0 y, f z0 = some y → Holds Tryd.prog Gw f_f (.agg (cOff z0) :: f_c) (B y)) (hF : slIndexFuncO_F N s f = some r) : Holds Tryd.prog Gw 41 [.sl 5 (s.map cOff), .fn f_f f_c] (slIndexFuncO_E r) := by
  refine holds_of_wq tabOk mixed Tryd.func41 (by decide) rfl (Nat.le_of_ble_eq_true rfl) ?_
  refine loop_oq (fun p : Nat × Int => [(0, .c (.sl 5 (s.map cOff))), (1, .c (.fn f_f f_c)), (7, .c (I ((s.map cOff).length : Int))), (8, .c (I p.2))]) (fun _ => []) (fun p => slIndexFuncO_L1 s f p.1 p.2 = some r) (fun p => p.1) (N, 0) hF ⟨rfl, rfl, rfl, rfl, trivial⟩ trivial ?_
  rintro ⟨fu1, v1⟩ hF
  cases fu1 with
  | zero => exact nomatch hF
  | succ fu1 =>
    refine join_no ?_
    refine And.intro (fun h2 => ?_) (fun h2 => ?_)
    · have hF := cpos h2 hF
      refine join_no ?_
      refine obind hF fun x3 h4 hF => ?_
      refine ⟨ix_nn h4, .inl rfl, _, ix_map cOff h4, ?_⟩
      refine obind hF fun y5 h6 hF => ?_
      refine Or.inl ⟨_, f_h _ _ h6, rfl, ?_⟩
      refine And.intro (fun h7 => ?_) (fun h7 => ?_)
      · have hF := cpos h7 hF
        exact Or.inl ⟨rfl, congrArg (Option.map slIndexFuncO_E) hF⟩
      · have hF := cneg h7 hF
        exact ⟨(fu1, (IntKind.i64.wrap (v1 + 1))), Nat.lt_succ_self _, hF, ⟨rfl, rfl, rfl, rfl, trivial⟩, trivial⟩
    · have hF := cneg h2 hF
      exact Or.inl ⟨rfl, congrArg (Option.map slIndexFuncO_E) hF⟩
abbrev slIndexFuncO_S (s : List Off) (f : Off → Option Bool) : Option (Int) := slIndexFuncO_F (s.length + 1) s f
theorem slIndexFuncO_h {s : List Off} {f : Off → Option Bool} {r : Int} {f_f : FuncId} {f_c : List CV} (f_h : ∀ z0 y, f z0 = some y → Holds Tryd.prog Gw f_f (.agg (cOff z0) :: f_c) (B y)) (h : slIndexFuncO_S s f = some r) : Holds Tryd.prog Gw 41 [.sl 5 (s.map cOff), .fn f_f f_c] (slIndexFuncO_E r) := slIndexFuncO_Fh f_h h
abbrev pFind_E (y : Int) : CV := I y
def pFind_F (l : List Off) (id : Int) : Option (Int) := Option.bind (slIndexFuncO_S l (fun z0 => pFind_1_S z0 id)) fun y1 => some (y1)
set_option linter.unusedVariables false in
theorem pFind_Fh {l : List Off} {id : Int} {r : Int} (hF : pFind_F l id = some r) : Holds Tryd.prog Gw 21 [.sl 5 (l.map cOff), I id] (pFind_E r) := by
  refine holds_of_wq tabOk mixed Tryd.func21 (by decide) rfl (Nat.le_of_ble_eq_true rfl) ?_
  refine obind hF fun y1 h2 hF => ?_
  refine Or.inl ⟨_, slIndexFuncO_h (fun _ _ h => pFind_1_h h) h2, rfl, ?_⟩
  exact Or.inl ⟨rfl, congrArg (Option.map pFind_E) hF⟩
abbrev pFind_S (l : List Off) (id : Int) : Option (Int) := pFind_F l id
theorem pFind_h {l : List Off} {id : Int} {r : Int} (h : pFind_S l id = some r) : Holds Tryd.prog Gw 21 [.sl 5 (l.map cOff), I id] (pFind_E r) := pFind_Fh  h
abbrev slIndex_E (y : Int) : CV := I y
def slIndex_L1 (s : List Int) (v : Int) : Nat → Int → Option (Int)
  | 0, _ => none
  | fu1 + 1, v1 => bif decide (v1 < ((s.map cInt).length : Int)) then (Option.bind (ix s v1) fun x3 => bif (v == x3) then some (v1) else slIndex_L1 s v fu1 (IntKind.i64.wrap (v1 + 1))) else some ((-1))
def slIndex_F (N : Nat) (s : List Int) (v : Int) : Option (Int) := slIndex_L1 s v N 0
set_option linter.unusedVariables false in
theorem slIndex_Fh {N : Nat} {s : List Int} {v : Int} {r : Int} (hF : slIndex_F N s v = some r) : Holds Tryd.prog Gw 43 [.sl 1 (s.map cInt), I v] (slIndex_E r) := by
  refine holds_of_wq tabOk mixed Tryd.func43 (by decide) rfl (Nat.le_of_ble_eq_true rfl) ?_
  refine loop_oq (fun p : Nat × Int => [(0, .c (.sl 1 (s.map cInt))), (1, .c (I v)), (7, .c (I ((s.map cInt).length : Int))), (8, .c (I p.2))]) (fun _ => []) (fun p => slIndex_L1 s v p.1 p.2 = some r) (fun p => p.1) (N, 0) hF ⟨rfl, rfl, rfl, rfl, trivial⟩ trivial ?_
  rintro ⟨fu1, v1⟩ hF
  cases fu1 with
  | zero => exact nomatch hF
  | succ fu1 =>
    refine join_no ?_
    refine And.intro (fun h2 => ?_) (fun h2 => ?_)
    · have hF := cpos h2 hF
      refine join_no ?_
      refine obind hF fun x3 h4 hF => ?_
      refine ⟨ix_nn h4, .inl rfl, _, ix_map cInt h4, ?_⟩
      refine And.intro (fun h5 => ?_) (fun h5 => ?_)
      · have hF := cpos h5 hF
        exact Or.inl ⟨rfl, congrArg (Option.map slIndex_E) hF⟩
      · have hF := cneg h5 hF
        exact ⟨(fu1, (IntKind.i64.wrap (v1 + 1))), Nat.lt_succ_self _, hF, ⟨rfl, rfl, rfl, rfl, trivial⟩, trivial⟩
    · have hF := cneg h2 hF
      exact Or.inl ⟨rfl, congrArg (Option.map slIndex_E) hF⟩
abbrev slIndex_S (s : List Int) (v : Int) : Option (Int) := slIndex_F (s.length + 1) s v
theorem slIndex_h {s : List Int} {v : Int} {r : Int} (h : slIndex_S s v = some r) : Holds Tryd.prog Gw 43 [.sl 1 (s.map cInt), I v] (slIndex_E r) := slIndex_Fh  h
abbrev slContains_E (y : Bool) : CV := B y
def slContains_F (s : List Int) (v : Int) : Option (Bool) := Option.bind (slIndex_S s v) fun y1 => some (decide (y1 ≥ 0))
set_option linter.unusedVariables false in
theorem slContains_Fh {s : List Int} {v : Int} {r : Bool} (hF : slContains_F s v = some r) : Holds Tryd.prog Gw 22 [.sl 1 (s.map cInt), I v] (slContains_E r) := by
  refine holds_of_wq tabOk mixed Tryd.func22 (by decide) rfl (Nat.le_of_ble_eq_true rfl) ?_
  refine obind hF fun y1 h2 hF => ?_
  refine Or.inl ⟨_, slIndex_h h2, rfl, ?_⟩
  exact Or.inl ⟨rfl, congrArg (Option.map slContains_E) hF⟩
abbrev slContains_S (s : List Int) (v : Int) : Option (Bool) := slContains_F s v
theorem slContains_h {s : List Int} {v : Int} {r : Bool} (h : slContains_S s v = some r) : Holds Tryd.prog Gw 22 [.sl 1 (s.map cInt), I v] (slContains_E r) := slContains_Fh  h
abbrev slIndexFuncI_E (y : Int) : CV := I y
def slIndexFuncI_L1 (s : List Int) (f : Int → Option Bool) : Nat → Int → Option (Int)
  | 0, _ => none
  | fu1 + 1, v1 => bif decide (v1 < ((s.map cInt).length : Int)) then (Option.bind (ix s v1) fun x3 => Option.bind (f x3) fun y5 => bif y5 then some (v1) else slIndexFuncI_L1 s f fu1 (IntKind.i64.wrap (v1 + 1))) else some ((-1))
def slIndexFuncI_F (N : Nat) (s : List Int) (f : Int → Option Bool) : Option (Int) := slIndexFuncI_L1 s f N 0
set_option linter.unusedVariables false in
theorem slIndexFuncI_Fh {N : Nat} {s : List Int} {f : Int → Option Bool} {r : Int} {f_f : FuncId} {f_c : List CV} (f_h : ∀ z0 y, f z0 = some y → Holds Tryd.prog Gw f_f (I z0 :: f_c) (B y)) (hF : slIndexFuncI_F N s f = some r) : Holds Tryd.prog Gw 71 [.sl 1 (s.map cInt), .fn f_f f_c] (slIndexFuncI_E r) := by
  refine holds_of_wq tabOk mixed Tryd.func71 (by decide) rfl (Nat.le_of_ble_eq_true rfl) ?_
  refine loop_oq (fun p : Nat × Int => [(0, .c (.sl 1 (s.map cInt))), (1, .c (.fn f_f f_c)), (7, .c (I ((s.map cInt).length : Int))), (8, .c (I p.2))]) (fun _ => []) (fun p => slIndexFuncI_L1 s f p.1 p.2 = some r) (fun p => p.1) (N, 0) hF ⟨rfl, rfl, rfl, rfl, trivial⟩ trivial ?_
  rintro ⟨fu1, v1⟩ hF
  cases fu1 with
  | zero => exact nomatch hF
  | succ fu1 =>
    refine join_no ?_
    refine And.intro (fun h2 => ?_) (fun h2 => ?_)
    · have hF := cpos h2 hF
      refine join_no ?_
      refine obind hF fun x3 h4 hF => ?_
      refine ⟨ix_nn h4, .inl rfl, _, ix_map cInt h4, ?_⟩
      refine obind hF fun y5 h6 hF => ?_
      refine Or.inl ⟨_, f_h _ _ h6, rfl, ?_⟩
      refine And.intro (fun h7 => ?_) (fun h7 => ?_)
      · have hF := cpos h7 hF
        exact Or.inl ⟨rfl, congrArg (Option.map slIndexFuncI_E) hF⟩
      · have hF := cneg h7 hF
        exact ⟨(fu1, (IntKind.i64.wrap (v1 + 1))), Nat.lt_succ_self _, hF, ⟨rfl, rfl, rfl, rfl, trivial⟩, trivial⟩
    · have hF := cneg h2 hF
      exact Or.inl ⟨rfl, congrArg (Option.map slIndexFuncI_E) hF⟩
abbrev slIndexFuncI_S (s : List Int) (f : Int → Option Bool) : Option (Int) := slIndexFuncI_F (s.length + 1) s f
theorem slIndexFuncI_h {s : List Int} {f : Int → Option Bool} {r : Int} {f_f : FuncId} {f_c : List CV} (f_h : ∀ z0 y, f z0 = some y → Holds Tryd.prog Gw f_f (I z0 :: f_c) (B y)) (h : slIndexFuncI_S s f = some r) : Holds Tryd.prog Gw 71 [.sl 1 (s.map cInt), .fn f_f f_c] (slIndexFuncI_E r) := slIndexFuncI_Fh f_h h
abbrev pnext_1_E (y : Bool) : CV := B y
def pnext_1_F (id : Int) (c0 : List (Int × Off)) (c1 : Off) : Option (Bool) := Option.bind (mlk c0 id (⟨0, ([] : Str), (⟨0, 0⟩ : Span), ([] : List Int)⟩ : Off)) fun y1 => some ((y1.In.From != c1.In.Until))
set_option linter.unusedVariables false in
theorem pnext_1_Fh {id : Int} {c0 : List (Int × Off)} {c1 : Off} {r : Bool} (hF : pnext_1_F id c0 c1 = some r) : Holds Tryd.prog Gw 54 [I id, .pi [.mp (mpE (kInt .i64) eOff c0)] 0, .pi (cOff c1) 0] (pnext_1_E r) := by
  refine holds_of_wq tabOk mixed Tryd.func54 (by decide) rfl (Nat.le_of_ble_eq_true rfl) ?_
  refine obind hF fun y1 h2 hF => ?_
  refine Or.inr ⟨[], 0, _, _, _, _, rfl, rfl, eff_mlkC (ev := eOff) (z := (⟨0, ([] : Str), (⟨0, 0⟩ : Span), ([] : List Int)⟩ : Off)) (m := c0) (x := id) tok52.u tok3.u (keyInt .i64) tok40 rfl h2, rfl, ?_⟩
  exact Or.inl ⟨rfl, congrArg (Option.map pnext_1_E) hF⟩
abbrev pnext_1_S (id : Int) (c0 : List (Int × Off)) (c1 : Off) : Option (Bool) := pnext_1_F id c0 c1
theorem pnext_1_h {id : Int} {c0 : List (Int × Off)} {c1 : Off} {r : Bool} (h : pnext_1_S id c0 c1 = some r) : Holds Tryd.prog Gw 54 [I id, .pi [.mp (mpE (kInt .i64) eOff c0)] 0, .pi (cOff c1) 0] (pnext_1_E r) := pnext_1_Fh  h
abbrev slContainsFuncI_E (y : Bool) : CV := B y
def slContainsFuncI_F (s : List Int) (f : Int → Option Bool) : Option (Bool) := Option.bind (slIndexFuncI_S s f) fun y1 => some (decide (y1 ≥ 0))
set_option linter.unusedVariables false in
theorem slContainsFuncI_Fh {s : List Int} {f : Int → Option Bool} {r : Bool} {f_f : FuncId} {f_c : List CV} (f_h : ∀ z0 y, f z0 = some y → Holds Tryd.prog Gw f_f (I z0 :: f_c) (B y)) (hF : slContainsFuncI_F s f = some r) : Holds Tryd.prog Gw 53 [.sl 1 (s.map cInt), .fn f_f f_c] (slContainsFuncI_E r) := by
  refine holds_of_wq tabOk mixed Tryd.func53 (by decide) rfl (Nat.le_of_ble_eq_true rfl) ?_
  refine obind hF fun y1 h2 hF => ?_
  refine Or.inl ⟨_, slIndexFuncI_h f_h h2, rfl, ?_⟩
  exact Or.inl ⟨rfl, congrArg (Option.map slContainsFuncI_E) hF⟩
abbrev slContainsFuncI_S (s : List Int) (f : Int → Option Bool) : Option (Bool) := slContainsFuncI_F s f
theorem slContainsFuncI_h {s : List Int} {f : Int → Option Bool} {r : Bool} {f_f : FuncId} {f_c : List CV} (f_h : ∀ z0 y, f z0 = some y → Holds Tryd.prog Gw f_f (I z0 :: f_c) (B y)) (h : slContainsFuncI_S s f = some r) : Holds Tryd.prog Gw 53 [.sl 1 (s.map cInt), .fn f_f f_c] (slContainsFuncI_E r) := slContainsFuncI_Fh f_h h
abbrev pnext_E (y : Int) : CV := I y
def pnext_L2 (byID : List (Int × Off)) (o : Off) : Nat → Int → Option (Int)
  | 0, _ => none
  | fu2 + 1, v10 => bif decide (v10 < ((o.Next.map cInt).length : Int)) then (Option.bind (ix o.Next v10) fun x12 => Option.bind (mlook byID x12 (⟨0, ([] : Str), (⟨0, 0⟩ : Span), ([] : List Int)⟩ : Off)) fun y14 => bif (!y14.2) then some (7) else pnext_L2 byID o fu2 (IntKind.i64.wrap (v10 + 1))) else (Option.bind (slContainsFuncI_S o.Next (fun z0 => pnext_1_S z0 byID o)) fun y17 => bif y17 then some (10) else some (0))
def pnext_L1 (byID : List (Int × Off)) (o : Off) (N : Nat) : Nat → Int → Option (Int)
  | 0, _ => none
  | fu1 + 1, v1 => bif decide (v1 < ((o.Next.map cInt).length : Int)) then (Option.bind (ix o.Next v1) fun x3 => Option.bind (slc o.Next 0 v1) fun y5 => Option.bind (slContains_S y5 x3) fun y7 => bif y7 then some (6) else pnext_L1 byID o N fu1 (IntKind.i64.wrap (v1 + 1))) else pnext_L2 byID o N 0
def pnext_F (N : Nat) (byID : List (Int × Off)) (o : Off) : Option (Int) := pnext_L1 byID o N N 0
set_option linter.unusedVariables false in
theorem pnext_Fh {N : Nat} {byID : List (Int × Off)} {o : Off} {r : Int} (hF : pnext_F N byID o = some r) : Holds Tryd.prog Gw 40 [.mp (mpE (kInt .i64) eOff byID), .agg (cOff o)] (pnext_E r) := by
  refine holds_of_wq tabOk mixed Tryd.func40 (by decide) rfl (Nat.le_of_ble_eq_true rfl) ?_
  refine loop_oq (fun p : Nat × Int => [(2, .pm 2 0 0), (3, .pm 3 0 0), (12, .c (.sl 1 (o.Next.map cInt))), (13, .c (I ((o.Next.map cInt).length : Int))), (14, .c (I p.2))]) (fun p : Nat × Int => [(2, .var [.mp (mpE (kInt .i64) eOff byID)]), (3, .var [I o.ID, S o.Name, I o.In.From, I o.In.Until, .sl 1 (o.Next.map cInt)])]) (fun p => pnext_L1 byID o N p.1 p.2 = some r) (fun p => p.1) (N, 0) hF ⟨rfl, rfl, rfl, rfl, rfl, trivial⟩ ⟨rfl, rfl, trivial⟩ ?_
  rintro ⟨fu1, v1⟩ hF
  cases fu1 with
  | zero => exact nomatch hF
  | succ fu1 =>
    refine join_no ?_
    refine And.intro (fun h2 => ?_) (fun h2 => ?_)
    · have hF := cpos h2 hF
      refine join_no ?_
      refine obind hF fun x3 h4 hF => ?_
      refine ⟨ix_nn h4, .inl rfl, _, ix_map cInt h4, ?_⟩
      refine obind hF fun y5 h6 hF => ?_
      refine Or.inr ⟨[], 0, _, _, _, _, rfl, rfl, eff_slice_h (cf := cInt) tok28.u tok3 h6, rfl, ?_⟩
      refine obind hF fun y7 h8 hF => ?_
      refine Or.inl ⟨_, slContains_h h8, rfl, ?_⟩
      refine And.intro (fun h9 => ?_) (fun h9 => ?_)
      · have hF := cpos h9 hF
        exact Or.inl ⟨rfl, congrArg (Option.map pnext_E) hF⟩
      · have hF := cneg h9 hF
        exact ⟨(fu1, (IntKind.i64.wrap (v1 + 1))), Nat.lt_succ_self _, hF, ⟨rfl, rfl, rfl, rfl, rfl, trivial⟩, ⟨rfl, rfl, trivial⟩⟩
    · have hF := cneg h2 hF
      refine loop_oq (fun p : Nat × Int => [(2, .pm 2 0 0), (3, .pm 3 0 0), (27, .c (.sl 1 (o.Next.map cInt))), (28, .c (I ((o.Next.map cInt).length : Int))), (29, .c (I p.2))]) (fun p : Nat × Int => [(2, .var [.mp (mpE (kInt .i64) eOff byID)]), (3, .var [I o.ID, S o.Name, I o.In.From, I o.In.Until, .sl 1 (o.Next.map cInt)])]) (fun p => pnext_L2 byID o p.1 p.2 = some r) (fun p => p.1) (N, 0) hF ⟨rfl, rfl, rfl, rfl, rfl, trivial⟩ ⟨rfl, rfl, trivial⟩ ?_
      rintro ⟨fu2, v10⟩ hF
      cases fu2 with
      | zero => exact nomatch hF
      | succ fu2 =>
        refine join_no ?_
        refine And.intro (fun h11 => ?_) (fun h11 => ?_)
        · have hF := cpos h11 hF
          refine join_no ?_
          refine obind hF fun x12 h13 hF => ?_
          refine ⟨ix_nn h13, .inl rfl, _, ix_map cInt h13, ?_⟩
          refine obind hF fun y14 h15 hF => ?_
          refine Or.inr ⟨[], 0, _, _, _, _, rfl, rfl, eff_mlookC (ev := eOff) (z := (⟨0, ([] : Str), (⟨0, 0⟩ : Span), ([] : List Int)⟩ : Off)) (m := byID) (x := x12) tok52.u tok3.u (keyInt .i64) tok40 rfl h15, rfl, ?_⟩
          refine Or.inl ?_
          refine And.intro (fun h16 => ?_) (fun h16 => ?_)
          · have hF := cpos h16 hF
            exact Or.inl ⟨rfl, congrArg (Option.map pnext_E) hF⟩
          · have hF := cneg h16 hF
            exact ⟨(fu2, (IntKind.i64.wrap (v10 + 1))), Nat.lt_succ_self _, hF, ⟨rfl, rfl, rfl, rfl, rfl, trivial⟩, ⟨rfl, rfl, trivial⟩⟩
        · have hF := cneg h11 hF
          refine obind hF fun y17 h18 hF => ?_
          refine Or.inl ⟨_, slContainsFuncI_h (fun _ _ h => pnext_1_h h) h18, rfl, ?_⟩
          refine And.intro (fun h19 => ?_) (fun h19 => ?_)
          · have hF := cpos h19 hF
            exact Or.inl ⟨rfl, congrArg (Option.map pnext_E) hF⟩
          · have hF := cneg h19 hF
            exact Or.inl ⟨rfl, congrArg (Option.map pnext_E) hF⟩
abbrev pnext_S (byID : List (Int × Off)) (o : Off) : Option (Int) := pnext_F (o.Next.length + 1) byID o
theorem pnext_h {byID : List (Int × Off)} {o : Off} {r : Int} (h : pnext_S byID o = some r) : Holds Tryd.prog Gw 40 [.mp (mpE (kInt .i64) eOff byID), .agg (cOff o)] (pnext_E r) := pnext_Fh  h
abbrev pindex_E (y : (List (Int × Off))) : CV := .mp (mpE (kInt .i64) eOff y)
def pindex_L1 (l : List Off) : Nat → Int → List (Int × Off) → Option ((List (Int × Off)))
  | 0, _, _ => none
  | fu1 + 1, v1, v2 => bif decide (v1 < ((l.map cOff).length : Int)) then (Option.bind (ix l v1) fun x4 => Option.bind (mlook v2 x4.ID (⟨0, ([] : Str), (⟨0, 0⟩ : Span), ([] : List Int)⟩ : Off)) fun y6 => bif (!y6.2) then pindex_L1 l fu1 (IntKind.i64.wrap (v1 + 1)) (mset v2 x4.ID x4) else pindex_L1 l fu1 (IntKind.i64.wrap (v1 + 1)) v2) else some (v2)
def pindex_F (N : Nat) (l : List Off) : Option ((List (Int × Off))) := pindex_L1 l N 0 ([] : List (Int × Off))
set_option linter.unusedVariables false in
theorem pindex_Fh {N : Nat} {l : List Off} {r : (List (Int × Off))} (hF : pindex_F N l = some r) : Holds Tryd.prog Gw 37 [.sl 5 (l.map cOff)] (pindex_E r) := by
  refine holds_of_wq tabOk mixed Tryd.func37 (by decide) rfl (Nat.le_of_ble_eq_true rfl) ?_
  refine Or.inr ⟨[], 0, _, _, _, _, rfl, rfl, eff_makeMap, rfl, ?_⟩
  refine loop_oq (fun p : Nat × Int × (List (Int × Off)) => [(3, .mr 8 0), (9, .c (.sl 5 (l.map cOff))), (10, .c (I ((l.map cOff).length : Int))), (11, .c (I p.2.1))]) (fun p : Nat × Int × (List (Int × Off)) => [(8, .map (mpE (kInt .i64) eOff p.2.2))]) (fun p => pindex_L1 l p.1 p.2.1 p.2.2 = some r) (fun p => p.1) (N, 0, ([] : List (Int × Off))) hF ⟨rfl, rfl, rfl, rfl, trivial⟩ ⟨rfl, trivial⟩ ?_
  rintro ⟨fu1, v1, v2⟩ hF
  cases fu1 with
  | zero => exact nomatch hF
  | succ fu1 =>
    refine join_no ?_
    refine And.intro (fun h3 => ?_) (fun h3 => ?_)
    · have hF := cpos h3 hF
      refine join_no ?_
      refine obind hF fun x4 h5 hF => ?_
      refine ⟨ix_nn h5, .inl rfl, _, ix_map cOff h5, ?_⟩
      refine Or.inl ?_
      refine obind hF fun y6 h7 hF => ?_
      refine Or.inr ⟨[(8, 0)], 0, _, _, _, _, rfl, rfl, eff_mlook (ev := eOff) (z := (⟨0, ([] : Str), (⟨0, 0⟩ : Span), ([] : List Int)⟩ : Off)) (m := v2) (x := x4.ID) tok52.u tok3.u (keyInt .i64) tok40 rfl h7, rfl, ?_⟩
      refine Or.inl ?_
      refine And.intro (fun h8 => ?_) (fun h8 => ?_)
      · have hF := cpos h8 hF
        refine Or.inr ⟨[(8, 0)], 0, _, _, _, _, rfl, rfl, eff_mapUpdate (ev := eOff) (v := x4) tok52.u tok3.u (keyInt .i64), rfl, ?_⟩
        exact ⟨(fu1, (IntKind.i64.wrap (v1 + 1)), (mset v2 x4.ID x4)), Nat.lt_succ_self _, hF, ⟨rfl, rfl, rfl, rfl, trivial⟩, ⟨rfl, trivial⟩⟩
      · have hF := cneg h8 hF
        exact ⟨(fu1, (IntKind.i64.wrap (v1 + 1)), v2), Nat.lt_succ_self _, hF, ⟨rfl, rfl, rfl, rfl, trivial⟩, ⟨rfl, trivial⟩⟩
    · have hF := cneg h3 hF
      refine ret_eq (p := fun r => resFin tab _ (pindex_E r) _) hF ?_
      exact Or.inr ⟨rfl, rfl⟩
abbrev pindex_S (l : List Off) : Option ((List (Int × Off))) := pindex_F (l.length + 1) l
theorem pindex_h {l : List Off} {r : (List (Int × Off))} (h : pindex_S l = some r) : Holds Tryd.prog Gw 37 [.sl 5 (l.map cOff)] (pindex_E r) := pindex_Fh  h
end Go.Proofs.YtmcolhhmlpicaaaDoor
