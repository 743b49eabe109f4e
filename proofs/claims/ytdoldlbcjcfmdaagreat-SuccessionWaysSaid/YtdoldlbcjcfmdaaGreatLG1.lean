/- Graphs without rounds: walks, what can be reached, how far it is, how many ways there are. -/
import Derived.Test.YtdoldlbcjcfmdaaGreatLA
set_option linter.unusedVariables false
set_option linter.unusedSimpArgs false
namespace Go.Proofs.YtdoldlbcjcfmdaaGreat
open Go Go.Abs

theorem nodup_len : ∀ (s V : List Int), s.Nodup → (∀ x ∈ s, x ∈ V) → s.length ≤ V.length
  | [], _, _, _ => Nat.zero_le _
  | x :: s, V, hn, hs => by
    have hx := hs x (by simp)
    have h1 := nodup_len s (V.erase x) (List.nodup_cons.1 hn).2 fun y hy => by
      have hne : y ≠ x := fun e => (List.nodup_cons.1 hn).1 (e ▸ hy)
      exact (List.mem_erase_of_ne hne).2 (hs y (by simp [hy]))
    rw [List.length_erase_of_mem hx] at h1
    have := List.length_pos_of_mem hx
    simp only [List.length_cons]
    omega
/-- Two lists that rise and have the same elements are one. -/
theorem sorted_ext : ∀ {s t : List Int}, s.Pairwise (· < ·) → t.Pairwise (· < ·) → (∀ x, x ∈ s ↔ x ∈ t) → s = t
  | [], [], _, _, _ => rfl
  | [], y :: t, _, _, h => absurd ((h y).2 (by simp)) (by simp)
  | x :: s, [], _, _, h => absurd ((h x).1 (by simp)) (by simp)
  | x :: s, y :: t, hs, ht, h => by
    obtain ⟨hx, hs'⟩ := List.pairwise_cons.1 hs
    obtain ⟨hy, ht'⟩ := List.pairwise_cons.1 ht
    have h1 := (h x).1 (by simp)
    have h2 := (h y).2 (by simp)
    have hxy : x = y := by
      rcases List.mem_cons.1 h1 with e | h1
      · exact e
      · rcases List.mem_cons.1 h2 with e | h2
        · exact e.symm
        · have := hy _ h1; have := hx _ h2; omega
    subst hxy
    refine congrArg (x :: ·) (sorted_ext hs' ht' fun z => ?_)
    constructor
    · intro hz
      rcases List.mem_cons.1 ((h z).1 (by simp [hz])) with e | h3
      · have := hx z hz; omega
      · exact h3
    · intro hz
      rcases List.mem_cons.1 ((h z).2 (by simp [hz])) with e | h3
      · have := hy z hz; omega
      · exact h3

structure Dag (V : List Int) (nx pv : Int → List Int) (rk : Int → Int) : Prop where
  srt : V.Pairwise (· < ·)
  len : V.length ≤ 12
  nxV : ∀ x y, y ∈ nx x → x ∈ V ∧ y ∈ V
  adj : ∀ x y, y ∈ nx x ↔ x ∈ pv y
  nxN : ∀ x, (nx x).Nodup
  pvN : ∀ x, (pv x).Nodup
  rk : ∀ x y, y ∈ nx x → rk x < rk y
theorem Dag.rev {V : List Int} {nx pv : Int → List Int} {rk : Int → Int} (D : Dag V nx pv rk) : Dag V pv nx (fun x => - rk x) where
  srt := D.srt
  len := D.len
  nxV x y h := ((D.nxV y x ((D.adj y x).2 h))).symm
  adj x y := (D.adj y x).symm
  nxN := D.pvN
  pvN := D.nxN
  rk x y h := by have := D.rk y x ((D.adj y x).2 h); show - rk x < - rk y; omega

/-- A walk of so many steps. -/
inductive Wk (nx : Int → List Int) : Nat → Int → Int → Prop
  | nil (x : Int) : Wk nx 0 x x
  | cons {k : Nat} {x y z : Int} (h : y ∈ nx x) (t : Wk nx k y z) : Wk nx (k + 1) x z
theorem wk_zero {nx : Int → List Int} {x y : Int} (h : Wk nx 0 x y) : x = y := by cases h; rfl
theorem wk_succ {nx : Int → List Int} {k : Nat} {x z : Int} (h : Wk nx (k + 1) x z) : ∃ y, y ∈ nx x ∧ Wk nx k y z := by
  cases h with | cons h t => exact ⟨_, h, t⟩
theorem Wk.snoc {nx : Int → List Int} {k : Nat} {x y z : Int} (h : Wk nx k x y) (hz : z ∈ nx y) : Wk nx (k + 1) x z := by
  induction h with
  | nil x => exact .cons hz (.nil _)
  | cons h t ih => exact .cons h (ih hz)
theorem Wk.trans {nx : Int → List Int} {k m : Nat} {x y z : Int} (h : Wk nx k x y) (h2 : Wk nx m y z) : Wk nx (k + m) x z := by
  induction h with
  | nil x => rw [Nat.zero_add]; exact h2
  | cons h t ih => rw [Nat.add_right_comm]; exact .cons h (ih h2)
section
variable {V : List Int} {nx pv : Int → List Int} {rk : Int → Int}
theorem Wk.rev (D : Dag V nx pv rk) {k : Nat} {x y : Int} (h : Wk nx k x y) : Wk pv k y x := by
  induction h with
  | nil x => exact .nil x
  | cons h t ih => exact ih.snoc ((D.adj _ _).1 h)
theorem wk_rev (D : Dag V nx pv rk) {k : Nat} {x y : Int} : Wk nx k x y ↔ Wk pv k y x := ⟨fun h => h.rev D, fun h => h.rev D.rev⟩
theorem wk_in (D : Dag V nx pv rk) {k : Nat} {x y : Int} (h : Wk nx k x y) (hx : x ∈ V) : y ∈ V := by
  induction h with
  | nil => exact hx
  | cons h t ih => exact ih (D.nxV _ _ h).2
/-- How many nodes lie behind. -/
def ahd (V : List Int) (rk : Int → Int) (x : Int) : Nat := V.countP fun v => decide (rk x < rk v)
theorem countP_lt {α : Type} {p q : α → Bool} : ∀ {l : List α}, (∀ x ∈ l, p x = true → q x = true) → (∃ x ∈ l, q x = true ∧ p x = false) → l.countP p < l.countP q
  | [], _, h => by obtain ⟨x, hx, _⟩ := h; simp at hx
  | a :: l, h1, h2 => by
    have hle : l.countP p ≤ l.countP q := List.countP_mono_left fun x hx => h1 x (by simp [hx])
    obtain ⟨x, hx, hq, hp⟩ := h2
    rw [List.countP_cons, List.countP_cons]
    rcases List.mem_cons.1 hx with rfl | hx
    · rw [hq, hp]; simp; omega
    · have := countP_lt (fun x hx => h1 x (by simp [hx])) ⟨x, hx, hq, hp⟩
      have ha := h1 a (by simp)
      cases hpa : p a with
      | false => simp; split <;> omega
      | true => rw [ha hpa]; simp; omega
theorem ahd_lt (D : Dag V nx pv rk) {x y : Int} (h : y ∈ nx x) : ahd V rk y < ahd V rk x := by
  have hr := D.rk x y h
  refine countP_lt (fun v _ hv => ?_) ⟨y, (D.nxV x y h).2, ?_, ?_⟩
  · have := of_decide_eq_true hv
    exact decide_eq_true (by omega)
  · exact decide_eq_true hr
  · exact decide_eq_false (by omega)
theorem ahd_bd (D : Dag V nx pv rk) {x : Int} (hx : x ∈ V) : ahd V rk x < 12 := by
  have h1 : ahd V rk x < V.countP fun _ => true := countP_lt (fun _ _ _ => rfl) ⟨x, hx, rfl, decide_eq_false (by omega)⟩
  have h2 : (V.countP fun _ => true) = V.length := by simp
  have := D.len
  omega
theorem wk_ahd (D : Dag V nx pv rk) {k : Nat} {x y : Int} (h : Wk nx k x y) : k ≤ ahd V rk x := by
  induction h with
  | nil => exact Nat.zero_le _
  | cons h t ih => have := ahd_lt D h; omega
theorem wk_lt (D : Dag V nx pv rk) {k : Nat} {x y : Int} (h : Wk nx k x y) (hx : x ∈ V) : k < 12 := Nat.lt_of_le_of_lt (wk_ahd D h) (ahd_bd D hx)
theorem wk_self (D : Dag V nx pv rk) {k : Nat} {x : Int} (h : Wk nx k x x) : k = 0 := by
  have key : ∀ {k : Nat} {x y : Int}, Wk nx k x y → k ≠ 0 → rk x < rk y := by
    intro k x y h
    induction h with
    | nil => exact fun h => absurd rfl h
    | @cons k x y z h t ih =>
      intro _
      have h1 := D.rk _ _ h
      by_cases hk : k = 0
      · subst hk; rw [← wk_zero t]; exact h1
      · exact Int.lt_trans h1 (ih hk)
  by_cases hk : k = 0
  · exact hk
  · have := key h hk; omega

open Classical in
noncomputable def reachB (nx : Int → List Int) (x y : Int) : Bool := decide (∃ k, Wk nx k x y)
open Classical in
theorem reachB_iff {x y : Int} : reachB nx x y = true ↔ ∃ k, Wk nx k x y := by unfold reachB; exact decide_eq_true_iff
/-- All to which a way goes, in order. -/
noncomputable def reachL (V : List Int) (nx : Int → List Int) (x : Int) : List Int := V.filter (reachB nx x)
theorem mem_reachL (D : Dag V nx pv rk) {x y : Int} (hx : x ∈ V) : y ∈ reachL V nx x ↔ ∃ k, Wk nx k x y := by
  unfold reachL
  rw [List.mem_filter, reachB_iff]
  exact ⟨fun h => h.2, fun h => ⟨wk_in D h.choose_spec hx, h⟩⟩
theorem reachL_srt (D : Dag V nx pv rk) (x : Int) : (reachL V nx x).Pairwise (· < ·) := D.srt.filter _
/-- A list that holds the start, only what can be reached, and with each one all that lies one step on, holds all that can be reached. -/
theorem closed_reach {x : Int} {s : List Int} (h0 : x ∈ s) (hcl : ∀ y ∈ s, ∀ z ∈ nx y, z ∈ s) : ∀ {k : Nat} {y : Int}, Wk nx k x y → y ∈ s := by
  have : ∀ {k : Nat} {a y : Int}, Wk nx k a y → a ∈ s → y ∈ s := by
    intro k a y h
    induction h with
    | nil => exact id
    | cons h t ih => exact fun ha => ih (hcl _ ha _ h)
  intro k y h
  exact this h h0
end
end Go.Proofs.YtdoldlbcjcfmdaaGreat
