/- How far it is, how many ways there are, generations. -/
import Derived.Test.YtdoldlbcjcfmdaaGreatLG1
set_option linter.unusedVariables false
set_option linter.unusedSimpArgs false
namespace Go.Proofs.YtdoldlbcjcfmdaaGreat
open Go Go.Abs
section
variable {V : List Int} {nx pv : Int → List Int} {rk : Int → Int}

open Classical in
noncomputable def dst (nx : Int → List Int) (x y : Int) : Option Nat := (List.range 12).find? fun k => decide (Wk nx k x y)
open Classical in
theorem dst_some (D : Dag V nx pv rk) {x y : Int} (hx : x ∈ V) {d : Nat} : dst nx x y = some d ↔ Wk nx d x y ∧ ∀ k, Wk nx k x y → d ≤ k := by
  unfold dst
  rw [List.find?_range_eq_some]
  constructor
  · rintro ⟨h1, h2, h3⟩
    refine ⟨of_decide_eq_true h1, fun k hk => ?_⟩
    rcases Nat.lt_or_ge k d with h | h
    · have := h3 k h
      simp [hk] at this
    · exact h
  · rintro ⟨h1, h2⟩
    refine ⟨decide_eq_true h1, List.mem_range.2 (wk_lt D h1 hx), fun j hj => ?_⟩
    simp only [Bool.not_eq_true', decide_eq_false_iff_not]
    exact fun h => absurd (h2 j h) (by omega)
open Classical in
theorem dst_none (D : Dag V nx pv rk) {x y : Int} (hx : x ∈ V) : dst nx x y = none ↔ ∀ k, ¬ Wk nx k x y := by
  unfold dst
  rw [List.find?_eq_none]
  constructor
  · intro h k hk
    exact h k (List.mem_range.2 (wk_lt D hk hx)) (decide_eq_true hk)
  · intro h k _ hk
    exact h k (of_decide_eq_true hk)
theorem dst_self (D : Dag V nx pv rk) {x : Int} (hx : x ∈ V) : dst nx x x = some 0 := (dst_some D hx).2 ⟨.nil x, fun _ _ => Nat.zero_le _⟩
theorem dst_zero (D : Dag V nx pv rk) {x y : Int} (hx : x ∈ V) (h : dst nx x y = some 0) : x = y := wk_zero ((dst_some D hx).1 h).1
theorem dst_wk (D : Dag V nx pv rk) {x y : Int} (hx : x ∈ V) {k : Nat} (h : Wk nx k x y) : ∃ d, dst nx x y = some d ∧ d ≤ k := by
  cases hq : dst nx x y with
  | none => exact absurd h ((dst_none D hx).1 hq k)
  | some d => exact ⟨d, rfl, ((dst_some D hx).1 hq).2 k h⟩
/-- One step on it is not nearer by more than one. -/
theorem dst_step (D : Dag V nx pv rk) {x y n : Int} (hn : n ∈ nx x) {d : Nat} (h : dst nx n y = some d) : ∃ e, dst nx x y = some e ∧ e ≤ d + 1 := by
  obtain ⟨hx, hnV⟩ := D.nxV _ _ hn
  exact dst_wk D hx (.cons hn ((dst_some D hnV).1 h).1)
theorem dst_next (D : Dag V nx pv rk) {x y : Int} (hx : x ∈ V) {d : Nat} (h : dst nx x y = some (d + 1)) : ∃ n ∈ nx x, dst nx n y = some d := by
  obtain ⟨h1, h2⟩ := (dst_some D hx).1 h
  obtain ⟨n, hn, hw⟩ := wk_succ h1
  have hnV := (D.nxV _ _ hn).2
  refine ⟨n, hn, (dst_some D hnV).2 ⟨hw, fun k hk => ?_⟩⟩
  have := h2 (k + 1) (.cons hn hk)
  omega

/-- The shortest way, the first one. -/
noncomputable def wayD (nx : Int → List Int) (y : Int) : Nat → Int → List Int
  | 0, x => [x]
  | d + 1, x => match (nx x).find? fun n => dst nx n y == some d with
    | some n => x :: wayD nx y d n
    | none => [x]
noncomputable def wayL (nx : Int → List Int) (x y : Int) : List Int := match dst nx x y with
  | some d => wayD nx y d x
  | none => []
theorem wayD_len (D : Dag V nx pv rk) {y : Int} : ∀ {d : Nat} {x : Int}, x ∈ V → dst nx x y = some d → (wayD nx y d x).length = d + 1
  | 0, x, _, _ => rfl
  | d + 1, x, hx, h => by
    obtain ⟨n, hn, hd⟩ := dst_next D hx h
    unfold wayD
    cases hf : (nx x).find? fun n => dst nx n y == some d with
    | none => exact absurd (List.find?_eq_none.1 hf n hn) (by simp [hd])
    | some m =>
      have hm := List.mem_of_find?_eq_some hf
      have hq := List.find?_some hf
      simp only [List.length_cons]
      rw [wayD_len D (D.nxV _ _ hm).2 (by simpa using hq)]
theorem wayD_head {y : Int} (d : Nat) (x : Int) : ∃ r, wayD nx y d x = x :: r := by
  cases d with
  | zero => exact ⟨[], rfl⟩
  | succ d =>
    unfold wayD
    cases (nx x).find? fun n => dst nx n y == some d with
    | none => exact ⟨_, rfl⟩
    | some m => exact ⟨_, rfl⟩

/-- How many walks there are of a length. -/
def cnt (nx : Int → List Int) : Nat → Int → Int → Nat
  | 0, x, y => if x = y then 1 else 0
  | k + 1, x, y => ((nx x).map fun n => cnt nx k n y).sum
theorem sum_map_add {α : Type} (f g : α → Nat) : ∀ l : List α, (l.map fun x => f x + g x).sum = (l.map f).sum + (l.map g).sum
  | [] => rfl
  | x :: l => by simp only [List.map_cons, List.sum_cons, sum_map_add f g l]; omega
theorem sum_map_zero {α : Type} {f : α → Nat} : ∀ {l : List α}, (∀ x ∈ l, f x = 0) → (l.map f).sum = 0
  | [], _ => rfl
  | x :: l, h => by
    have h1 := sum_map_zero (f := f) (l := l) fun y hy => h y (by simp [hy])
    have h2 := h x (by simp)
    simp only [List.map_cons, List.sum_cons]
    omega
theorem sum_swap {α β : Type} (f : α → β → Nat) : ∀ (l : List α) (m : List β), (l.map fun x => (m.map fun y => f x y).sum).sum = (m.map fun y => (l.map fun x => f x y).sum).sum
  | [], m => by simp only [List.map_nil, List.sum_nil]; exact (sum_map_zero fun _ _ => rfl).symm
  | x :: l, m => by
    simp only [List.map_cons, List.sum_cons, sum_swap f l m]
    rw [← sum_map_add]
theorem sum_one {x : Int} : ∀ {l : List Int}, l.Nodup → (l.map fun y => if y = x then 1 else 0).sum = if x ∈ l then 1 else 0
  | [], _ => rfl
  | y :: l, h => by
    obtain ⟨h1, h2⟩ := List.nodup_cons.1 h
    simp only [List.map_cons, List.sum_cons, sum_one h2, List.mem_cons]
    by_cases hy : y = x
    · subst hy; simp [h1]
    · have : ¬ x = y := fun e => hy e.symm
      simp [hy, this]
theorem cnt_rev (D : Dag V nx pv rk) : ∀ (k : Nat) (x y : Int), cnt nx (k + 1) x y = ((pv y).map fun p => cnt nx k x p).sum
  | 0, x, y => by
    show ((nx x).map fun n => if n = y then 1 else 0).sum = ((pv y).map fun p => if x = p then 1 else 0).sum
    rw [sum_one (D.nxN x)]
    have : ((pv y).map fun p => if x = p then 1 else 0) = ((pv y).map fun p => if p = x then 1 else 0) := List.map_congr_left fun p _ => by
      by_cases h : x = p
      · simp [h]
      · have h' : ¬ p = x := fun e => h e.symm
        simp [h, h']
    rw [this, sum_one (D.pvN y)]
    simp only [D.adj]
  | k + 1, x, y => by
    show ((nx x).map fun n => cnt nx (k + 1) n y).sum = ((pv y).map fun p => ((nx x).map fun n => cnt nx k n p).sum).sum
    rw [← sum_swap]
    congr 1
    exact List.map_congr_left fun n _ => cnt_rev D k n y
theorem cnt_pos : ∀ {k : Nat} {x y : Int}, 0 < cnt nx k x y ↔ Wk nx k x y
  | 0, x, y => by
    unfold cnt
    constructor
    · intro h
      by_cases he : x = y
      · subst he; exact .nil _
      · simp [he] at h
    · intro h; simp [wk_zero h]
  | k + 1, x, y => by
    have key : ∀ l : List Int, 0 < (l.map fun n => cnt nx k n y).sum ↔ ∃ n ∈ l, Wk nx k n y := by
      intro l
      induction l with
      | nil => simp
      | cons n l ih =>
        simp only [List.map_cons, List.sum_cons, List.mem_cons, exists_eq_or_imp]
        rw [← ih, ← cnt_pos (k := k) (x := n)]
        omega
    unfold cnt
    rw [key]
    constructor
    · rintro ⟨n, h1, h2⟩; exact .cons h1 h2
    · intro h; exact wk_succ h
def tots (nx : Int → List Int) : Nat → Int → Int → Nat
  | 0, _, _ => 0
  | n + 1, x, y => tots nx n x y + cnt nx n x y
theorem tots_fwd : ∀ (n : Nat) (x y : Int), tots nx (n + 1) x y = (if x = y then 1 else 0) + ((nx x).map fun m => tots nx n m y).sum
  | 0, x, y => by
    show 0 + cnt nx 0 x y = _
    rw [sum_map_zero (f := fun m => tots nx 0 m y) fun _ _ => rfl]
    unfold cnt; omega
  | n + 1, x, y => by
    show tots nx (n + 1) x y + cnt nx (n + 1) x y = _
    rw [tots_fwd n x y]
    show _ + ((nx x).map fun m => cnt nx n m y).sum = _ + ((nx x).map fun m => tots nx n m y + cnt nx n m y).sum
    rw [sum_map_add (fun m => tots nx n m y) (fun m => cnt nx n m y)]; omega
theorem tots_bwd (D : Dag V nx pv rk) : ∀ (n : Nat) (x y : Int), tots nx (n + 1) x y = (if x = y then 1 else 0) + ((pv y).map fun p => tots nx n x p).sum
  | 0, x, y => by
    show 0 + cnt nx 0 x y = _
    rw [sum_map_zero (f := fun p => tots nx 0 x p) fun _ _ => rfl]
    unfold cnt; omega
  | n + 1, x, y => by
    show tots nx (n + 1) x y + cnt nx (n + 1) x y = _
    rw [tots_bwd D n x y, cnt_rev D n x y]
    show _ = _ + ((pv y).map fun p => tots nx n x p + cnt nx n x p).sum
    rw [sum_map_add (fun p => tots nx n x p) (fun p => cnt nx n x p)]; omega
def tot (nx : Int → List Int) (x y : Int) : Nat := tots nx 12 x y
theorem tots_stay (D : Dag V nx pv rk) {x y : Int} (hx : x ∈ V) : tots nx 13 x y = tot nx x y := by
  have : cnt nx 12 x y = 0 := by
    rcases Nat.eq_zero_or_pos (cnt nx 12 x y) with h | h
    · exact h
    · have := wk_lt D (cnt_pos.1 h) hx; omega
  show tots nx 12 x y + cnt nx 12 x y = _
  rw [this]; rfl
theorem tot_fwd (D : Dag V nx pv rk) {x : Int} (y : Int) (hx : x ∈ V) : tot nx x y = (if x = y then 1 else 0) + ((nx x).map fun m => tot nx m y).sum := by
  rw [← tots_stay D hx, tots_fwd]; rfl
theorem tot_bwd (D : Dag V nx pv rk) {x : Int} (y : Int) (hx : x ∈ V) : tot nx x y = (if x = y then 1 else 0) + ((pv y).map fun p => tot nx x p).sum := by
  rw [← tots_stay D hx, tots_bwd D]; rfl
theorem tots_pos : ∀ {n : Nat} {x y : Int}, 0 < tots nx n x y ↔ ∃ k, k < n ∧ Wk nx k x y
  | 0, x, y => by unfold tots; constructor; (intro h; omega); (rintro ⟨k, h, _⟩; omega)
  | n + 1, x, y => by
    show 0 < tots nx n x y + cnt nx n x y ↔ _
    constructor
    · intro h
      rcases Nat.eq_zero_or_pos (cnt nx n x y) with h1 | h1
      · obtain ⟨k, h2, h3⟩ := (tots_pos (n := n) (x := x) (y := y)).1 (by omega)
        exact ⟨k, by omega, h3⟩
      · exact ⟨n, by omega, cnt_pos.1 h1⟩
    · rintro ⟨k, h1, h2⟩
      by_cases hk : k = n
      · subst hk; have := cnt_pos.2 h2; omega
      · have := tots_pos.2 ⟨k, show k < n by omega, h2⟩; omega
theorem tot_pos (D : Dag V nx pv rk) {x y : Int} (hx : x ∈ V) : 0 < tot nx x y ↔ ∃ k, Wk nx k x y := by
  unfold tot
  rw [tots_pos]
  exact ⟨fun ⟨k, _, h⟩ => ⟨k, h⟩, fun ⟨k, h⟩ => ⟨k, wk_lt D h hx, h⟩⟩
theorem tot_self (D : Dag V nx pv rk) {x : Int} (hx : x ∈ V) : tot nx x x = 1 := by
  have h : ∀ n, tots nx (n + 1) x x = 1 := by
    intro n
    induction n with
    | zero => show 0 + cnt nx 0 x x = 1; simp [cnt]
    | succ n ih =>
      show tots nx (n + 1) x x + cnt nx (n + 1) x x = 1
      have : cnt nx (n + 1) x x = 0 := by
        rcases Nat.eq_zero_or_pos (cnt nx (n + 1) x x) with h | h
        · exact h
        · have := wk_self D (cnt_pos.1 h); omega
      omega
  exact h 11
theorem sum_bd {α : Type} {f : α → Nat} {b : Nat} : ∀ {l : List α}, (∀ x ∈ l, f x ≤ b) → (l.map f).sum ≤ l.length * b
  | [], _ => by simp
  | x :: l, h => by
    have h1 := sum_bd (f := f) (b := b) (l := l) fun y hy => h y (by simp [hy])
    have h2 := h x (by simp)
    simp only [List.map_cons, List.sum_cons, List.length_cons, Nat.succ_mul]
    omega
theorem nx_len (D : Dag V nx pv rk) (x : Int) : (nx x).length ≤ 12 := Nat.le_trans (nodup_len _ _ (D.nxN x) fun y hy => (D.nxV x y hy).2) D.len
theorem cnt_bd (D : Dag V nx pv rk) : ∀ (k : Nat) (x y : Int), cnt nx (k + 1) x y ≤ 12 ^ k
  | 0, x, y => by
    show ((nx x).map fun n => if n = y then 1 else 0).sum ≤ 1
    rw [sum_one (D.nxN x)]
    split <;> omega
  | k + 1, x, y => by
    show ((nx x).map fun n => cnt nx (k + 1) n y).sum ≤ _
    refine Nat.le_trans (sum_bd fun n _ => cnt_bd D k n y) ?_
    rw [Nat.pow_succ, Nat.mul_comm]
    exact Nat.mul_le_mul_left _ (nx_len D x)
theorem tot_bd (D : Dag V nx pv rk) (x y : Int) : tot nx x y ≤ 100000000000 := by
  have h0 : cnt nx 0 x y ≤ 1 := by unfold cnt; split <;> omega
  have h := fun k => cnt_bd D k x y
  have e : tot nx x y = 0 + cnt nx 0 x y + cnt nx 1 x y + cnt nx 2 x y + cnt nx 3 x y + cnt nx 4 x y + cnt nx 5 x y + cnt nx 6 x y + cnt nx 7 x y + cnt nx 8 x y + cnt nx 9 x y + cnt nx 10 x y + cnt nx 11 x y := rfl
  have h1 := h 0; have h2 := h 1; have h3 := h 2; have h4 := h 3; have h5 := h 4; have h6 := h 5; have h7 := h 6; have h8 := h 7; have h9 := h 8; have h10 := h 9; have h11 := h 10
  simp only [Nat.zero_add, Nat.reduceAdd, Nat.reducePow] at h1 h2 h3 h4 h5 h6 h7 h8 h9 h10 h11
  omega

/-- The greatest of some numbers, 0 where there is none. -/
def maxl {α : Type} (f : α → Nat) : List α → Nat
  | [] => 0
  | x :: r => max (f x) (maxl f r)
theorem le_maxl {α : Type} {f : α → Nat} : ∀ {l : List α} {x : α}, x ∈ l → f x ≤ maxl f l
  | y :: r, x, h => by
    unfold maxl
    rcases List.mem_cons.1 h with rfl | h
    · omega
    · have := le_maxl (f := f) h; omega
theorem maxl_get {α : Type} {f : α → Nat} : ∀ {l : List α}, l ≠ [] → ∃ x ∈ l, f x = maxl f l
  | [], h => absurd rfl h
  | x :: r, _ => by
    unfold maxl
    by_cases hr : r = []
    · subst hr; exact ⟨x, by simp, by simp [maxl]⟩
    · obtain ⟨y, hy, he⟩ := maxl_get (f := f) hr
      by_cases h : maxl f r ≤ f x
      · exact ⟨x, by simp, by omega⟩
      · exact ⟨y, by simp [hy], by omega⟩
theorem maxl_congr {α : Type} {f g : α → Nat} : ∀ {l : List α}, (∀ x ∈ l, f x = g x) → maxl f l = maxl g l
  | [], _ => rfl
  | x :: r, h => by unfold maxl; rw [h x (by simp), maxl_congr fun y hy => h y (by simp [hy])]
theorem maxl_le {α : Type} {f : α → Nat} {b : Nat} : ∀ {l : List α}, (∀ x ∈ l, f x ≤ b) → maxl f l ≤ b
  | [], _ => Nat.zero_le _
  | x :: r, h => by
    unfold maxl
    have h1 := h x (by simp)
    have h2 := maxl_le (f := f) (b := b) (l := r) fun y hy => h y (by simp [hy])
    omega
/-- The generation. -/
def gn (pv : Int → List Int) : Nat → Int → Nat
  | 0, _ => 0
  | f + 1, x => maxl (fun p => gn pv f p + 1) (pv x)
theorem gn_stay (D : Dag V nx pv rk) : ∀ (f : Nat) (x : Int), ahd V (fun x => - rk x) x ≤ f → gn pv (f + 1) x = gn pv f x
  | 0, x, h => by
    show maxl _ (pv x) = 0
    have : pv x = [] := List.eq_nil_iff_forall_not_mem.2 fun p hp => by
      have := ahd_lt D.rev hp; omega
    rw [this]; rfl
  | f + 1, x, h => by
    show maxl (fun p => gn pv (f + 1) p + 1) (pv x) = maxl (fun p => gn pv f p + 1) (pv x)
    exact maxl_congr fun p hp => by
      have := ahd_lt D.rev hp
      rw [gn_stay D f p (by omega)]
def gen (pv : Int → List Int) (x : Int) : Nat := gn pv 12 x
theorem gen_eq (D : Dag V nx pv rk) {x : Int} (hx : x ∈ V) : gen pv x = maxl (fun p => gen pv p + 1) (pv x) := by
  unfold gen
  rw [← gn_stay D 12 x (by have := ahd_bd D.rev hx; omega)]
  rfl
theorem gn_le (D : Dag V nx pv rk) : ∀ (f : Nat) (x : Int), gn pv f x ≤ ahd V (fun x => - rk x) x
  | 0, x => Nat.zero_le _
  | f + 1, x => maxl_le fun p hp => by
    have := ahd_lt D.rev hp
    have := gn_le D f p
    omega
theorem gen_bd (D : Dag V nx pv rk) {x : Int} (hx : x ∈ V) : gen pv x < 12 := Nat.lt_of_le_of_lt (gn_le D 12 x) (ahd_bd D.rev hx)
end
end Go.Proofs.YtdoldlbcjcfmdaaGreat
