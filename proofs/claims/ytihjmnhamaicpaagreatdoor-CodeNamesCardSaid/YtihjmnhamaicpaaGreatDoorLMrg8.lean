/- symMerge's search and what stands behind it, together. -/
import Derived.Test.YtihjmnhamaicpaaGreatDoorLMrg7
set_option linter.unusedVariables false
set_option linter.unusedSimpArgs false
namespace Go.Proofs.YtihjmnhamaicpaaGreatDoor
open Go Go.Abs
theorem part_L5 {p x y q : List Str} {self_ : List Str → Int → Int → Int → Option (List Str)} (hx : NSorted x) (hy : NSorted y) (nx : 1 ≤ x.length) (ny : 1 ≤ y.length) (h9 : p.length + x.length + y.length ≤ 900) (zx : ∀ z ∈ x, z.length ≤ 800) (zy : ∀ z ∈ y, z.length ≤ 800)
    (ih : ∀ x' y' p' q' : List Str, x' ≠ [] → y' ≠ [] → x'.length + y'.length < x.length + y.length → p'.length + x'.length + y'.length ≤ 900 → NSorted x' → NSorted y' → (∀ z ∈ x', z.length ≤ 800) → (∀ z ∈ y', z.length ≤ 800) →
      ∃ t, self_ (p' ++ (x' ++ (y' ++ q'))) (p'.length : Int) ((p'.length + x'.length : Nat) : Int) ((p'.length + x'.length + y'.length : Nat) : Int) = some (p' ++ (t ++ q')) ∧ t.Perm (x' ++ y') ∧ NSorted t)
    {a m b mid u w fu : Nat} (ha : a = p.length) (hm : m = p.length + x.length) (hb : b = p.length + x.length + y.length) (hmid : mid = (a + b) / 2) (hau : a ≤ u) (huw : u ≤ w) (hwm : w ≤ m) (hwd : w ≤ mid) (hub : mid + m ≤ u + b) (hu : u = a ∨ u + b = mid + m) (hw : w = m ∨ w = mid) (hf : w - u < fu) (h2 : 2 ≤ x.length ∨ 2 ≤ y.length) :
    ∃ t, slSymMerge_L5 (p ++ (x ++ (y ++ q))) (a : Int) (m : Int) (b : Int) self_ fu (u : Int) (w : Int) = some (p ++ (t ++ q)) ∧ t.Perm (x ++ y) ∧ NSorted t := by
  have R := rows_of (q := q) hx hy nx ny h9 zx zy
  rw [← hb, ← hm, ← ha] at R
  obtain ⟨v, v1, v2, v3, v4, v5⟩ := search_L5 R (self_ := self_) hmid (w - u) u w fu rfl hau huw hwm hwd hub hf (fun c c1 c2 c3 => by omega) (fun c c1 c2 c3 => by omega)
  rw [v5]
  obtain ⟨e, he⟩ : ∃ e, mid + m = v + e := ⟨mid + m - v, by omega⟩
  have sx : x.take (v - a) ++ x.drop (v - a) = x := List.take_append_drop _ _
  have sy : y.take (e - m) ++ y.drop (e - m) = y := List.take_append_drop _ _
  have l1 : (x.take (v - a)).length = v - a := by simp; omega
  have l2 : (x.drop (v - a)).length = m - v := by simp; omega
  have l3 : (y.take (e - m)).length = e - m := by simp; omega
  have l4 : (y.drop (e - m)).length = b - e := by simp; omega
  generalize hx1 : x.take (v - a) = x1 at sx l1
  generalize hx2 : x.drop (v - a) = x2 at sx l2
  generalize hy1 : y.take (e - m) = y1 at sy l3
  generalize hy2 : y.drop (e - m) = y2 at sy l4
  have Dx : ∀ c, a ≤ c → (h : c - a < x.length) → rowD x y a c = x[c - a] := fun c h1 h => rowD_left h1 h
  have Dy : ∀ c, m ≤ c → (h : c - m < y.length) → rowD x y a c = y[c - m] := fun c h1 h => by
    rw [rowD_right (by omega) (by omega)]
    congr 1; omega
  have cross1 : ∀ z ∈ x1, ∀ z' ∈ y2, natV z z' ≤ 0 := fun z hz z' hz' => by
    rw [← hx1] at hz
    rw [← hy2] at hz'
    obtain ⟨i, hi, rfl⟩ := List.getElem_of_mem hz
    obtain ⟨j, hj, rfl⟩ := List.getElem_of_mem hz'
    rw [List.getElem_take, List.getElem_drop]
    simp only [List.length_take, List.length_drop] at hi hj
    have q0 := v3 (v - 1) (by omega) (by omega) (by omega)
    rw [show mid + m - 1 - (v - 1) = e by omega, Dx (v - 1) (by omega) (by omega), Dy e (by omega) (by omega)] at q0
    have q1 := natV_tot.neg (y[e - m]'(by omega)) (x[v - 1 - a]'(by omega))
    have q2 := sorted_get hx (i := i) (j := v - 1 - a) (by omega) (by omega)
    have q3 := sorted_get hy (i := e - m) (j := e - m + j) (by omega) (by omega)
    exact natV_tot.tr _ _ _ (natV_tot.tr _ _ _ q2 (by omega)) q3
  have cross2 : ∀ z ∈ y1, ∀ z' ∈ x2, natV z z' ≤ 0 := fun z hz z' hz' => by
    rw [← hy1] at hz
    rw [← hx2] at hz'
    obtain ⟨i, hi, rfl⟩ := List.getElem_of_mem hz
    obtain ⟨j, hj, rfl⟩ := List.getElem_of_mem hz'
    rw [List.getElem_take, List.getElem_drop]
    simp only [List.length_take, List.length_drop] at hi hj
    have q0 := v4 v (by omega) (by omega) (by omega)
    rw [show mid + m - 1 - v = e - 1 by omega, Dx v (by omega) (by omega), Dy (e - 1) (by omega) (by omega)] at q0
    have q2 := sorted_get hy (i := i) (j := e - 1 - m) (by omega) (by omega)
    have q3 := sorted_get hx (i := v - a) (j := v - a + j) (by omega) (by omega)
    exact natV_tot.tr _ _ _ (natV_tot.tr _ _ _ q2 (by omega)) q3
  subst sx; subst sy
  simp only [List.length_append] at hm hb nx ny h9 h2
  obtain ⟨ax1, ax2, -⟩ := List.pairwise_append.1 hx
  obtain ⟨ay1, ay2, -⟩ := List.pairwise_append.1 hy
  have pos : ∀ {l : List Str}, l ≠ [] → 1 ≤ l.length := fun {l} h => List.length_pos_iff.2 h
  have ge2 : 2 ≤ mid - a ∨ True := .inr trivial
  obtain ⟨t1, t1p, t1s, t1c, t1e⟩ := half (self_ := self_) (p := p) (q := x2 ++ (y2 ++ q)) (a := (a : Int)) (m := (v : Int)) (b := (mid : Int)) ax1 ay1 (fun n1 n2 => by
    have := ih x1 y1 p (x2 ++ (y2 ++ q)) n1 n2 (by simp only [List.length_append]; omega) (by omega) ax1 ay1 (fun z hz => zx z (by simp [hz])) (fun z hz => zy z (by simp [hz]))
    rwa [← ha, show a + x1.length = v by omega, show v + y1.length = mid by omega] at this)
  have lt1 : t1.length = x1.length + y1.length := by rw [t1p.length_eq]; simp
  obtain ⟨t2, t2p, t2s, t2c, t2e⟩ := half (self_ := self_) (p := p ++ t1) (q := q) (a := (mid : Int)) (m := (e : Int)) (b := (b : Int)) ax2 ay2 (fun n1 n2 => by
    have := ih x2 y2 (p ++ t1) q n1 n2 (by simp only [List.length_append]; omega) (by simp only [List.length_append]; omega) ax2 ay2 (fun z hz => zx z (by simp [hz])) (fun z hz => zy z (by simp [hz]))
    rwa [show (p ++ t1).length = mid by simp only [List.length_append]; omega, show mid + x2.length = e by omega, show e + y2.length = b by omega] at this)
  obtain ⟨g1, g2⟩ := parted hx hy cross1 cross2 t1p t1s t2p t2s
  refine ⟨t1 ++ t2, ?_, g1, g2⟩
  exact finish_L5 ha (by omega) (by omega) (by omega) (by omega) hmid he (by omega) t1c t1e (fun n1 n2 => by simpa using t2c n1 n2) t2e
theorem part_L6 {p x y q : List Str} {self_ : List Str → Int → Int → Int → Option (List Str)} (hx : NSorted x) (hy : NSorted y) (nx : 1 ≤ x.length) (ny : 1 ≤ y.length) (h9 : p.length + x.length + y.length ≤ 900) (zx : ∀ z ∈ x, z.length ≤ 800) (zy : ∀ z ∈ y, z.length ≤ 800)
    (ih : ∀ x' y' p' q' : List Str, x' ≠ [] → y' ≠ [] → x'.length + y'.length < x.length + y.length → p'.length + x'.length + y'.length ≤ 900 → NSorted x' → NSorted y' → (∀ z ∈ x', z.length ≤ 800) → (∀ z ∈ y', z.length ≤ 800) →
      ∃ t, self_ (p' ++ (x' ++ (y' ++ q'))) (p'.length : Int) ((p'.length + x'.length : Nat) : Int) ((p'.length + x'.length + y'.length : Nat) : Int) = some (p' ++ (t ++ q')) ∧ t.Perm (x' ++ y') ∧ NSorted t)
    {a m b mid u w fu : Nat} (ha : a = p.length) (hm : m = p.length + x.length) (hb : b = p.length + x.length + y.length) (hmid : mid = (a + b) / 2) (hau : a ≤ u) (huw : u ≤ w) (hwm : w ≤ m) (hwd : w ≤ mid) (hub : mid + m ≤ u + b) (hu : u = a ∨ u + b = mid + m) (hw : w = m ∨ w = mid) (hf : w - u < fu) (h2 : 2 ≤ x.length ∨ 2 ≤ y.length) :
    ∃ t, slSymMerge_L6 (p ++ (x ++ (y ++ q))) (a : Int) (m : Int) (b : Int) self_ fu (u : Int) (w : Int) = some (p ++ (t ++ q)) ∧ t.Perm (x ++ y) ∧ NSorted t := by
  have R := rows_of (q := q) hx hy nx ny h9 zx zy
  rw [← hb, ← hm, ← ha] at R
  obtain ⟨v, v1, v2, v3, v4, v5⟩ := search_L6 R (self_ := self_) hmid (w - u) u w fu rfl hau huw hwm hwd hub hf (fun c c1 c2 c3 => by omega) (fun c c1 c2 c3 => by omega)
  rw [v5]
  obtain ⟨e, he⟩ : ∃ e, mid + m = v + e := ⟨mid + m - v, by omega⟩
  have sx : x.take (v - a) ++ x.drop (v - a) = x := List.take_append_drop _ _
  have sy : y.take (e - m) ++ y.drop (e - m) = y := List.take_append_drop _ _
  have l1 : (x.take (v - a)).length = v - a := by simp; omega
  have l2 : (x.drop (v - a)).length = m - v := by simp; omega
  have l3 : (y.take (e - m)).length = e - m := by simp; omega
  have l4 : (y.drop (e - m)).length = b - e := by simp; omega
  generalize hx1 : x.take (v - a) = x1 at sx l1
  generalize hx2 : x.drop (v - a) = x2 at sx l2
  generalize hy1 : y.take (e - m) = y1 at sy l3
  generalize hy2 : y.drop (e - m) = y2 at sy l4
  have Dx : ∀ c, a ≤ c → (h : c - a < x.length) → rowD x y a c = x[c - a] := fun c h1 h => rowD_left h1 h
  have Dy : ∀ c, m ≤ c → (h : c - m < y.length) → rowD x y a c = y[c - m] := fun c h1 h => by
    rw [rowD_right (by omega) (by omega)]
    congr 1; omega
  have cross1 : ∀ z ∈ x1, ∀ z' ∈ y2, natV z z' ≤ 0 := fun z hz z' hz' => by
    rw [← hx1] at hz
    rw [← hy2] at hz'
    obtain ⟨i, hi, rfl⟩ := List.getElem_of_mem hz
    obtain ⟨j, hj, rfl⟩ := List.getElem_of_mem hz'
    rw [List.getElem_take, List.getElem_drop]
    simp only [List.length_take, List.length_drop] at hi hj
    have q0 := v3 (v - 1) (by omega) (by omega) (by omega)
    rw [show mid + m - 1 - (v - 1) = e by omega, Dx (v - 1) (by omega) (by omega), Dy e (by omega) (by omega)] at q0
    have q1 := natV_tot.neg (y[e - m]'(by omega)) (x[v - 1 - a]'(by omega))
    have q2 := sorted_get hx (i := i) (j := v - 1 - a) (by omega) (by omega)
    have q3 := sorted_get hy (i := e - m) (j := e - m + j) (by omega) (by omega)
    exact natV_tot.tr _ _ _ (natV_tot.tr _ _ _ q2 (by omega)) q3
  have cross2 : ∀ z ∈ y1, ∀ z' ∈ x2, natV z z' ≤ 0 := fun z hz z' hz' => by
    rw [← hy1] at hz
    rw [← hx2] at hz'
    obtain ⟨i, hi, rfl⟩ := List.getElem_of_mem hz
    obtain ⟨j, hj, rfl⟩ := List.getElem_of_mem hz'
    rw [List.getElem_take, List.getElem_drop]
    simp only [List.length_take, List.length_drop] at hi hj
    have q0 := v4 v (by omega) (by omega) (by omega)
    rw [show mid + m - 1 - v = e - 1 by omega, Dx v (by omega) (by omega), Dy (e - 1) (by omega) (by omega)] at q0
    have q2 := sorted_get hy (i := i) (j := e - 1 - m) (by omega) (by omega)
    have q3 := sorted_get hx (i := v - a) (j := v - a + j) (by omega) (by omega)
    exact natV_tot.tr _ _ _ (natV_tot.tr _ _ _ q2 (by omega)) q3
  subst sx; subst sy
  simp only [List.length_append] at hm hb nx ny h9 h2
  obtain ⟨ax1, ax2, -⟩ := List.pairwise_append.1 hx
  obtain ⟨ay1, ay2, -⟩ := List.pairwise_append.1 hy
  have pos : ∀ {l : List Str}, l ≠ [] → 1 ≤ l.length := fun {l} h => List.length_pos_iff.2 h
  have ge2 : 2 ≤ mid - a ∨ True := .inr trivial
  obtain ⟨t1, t1p, t1s, t1c, t1e⟩ := half (self_ := self_) (p := p) (q := x2 ++ (y2 ++ q)) (a := (a : Int)) (m := (v : Int)) (b := (mid : Int)) ax1 ay1 (fun n1 n2 => by
    have := ih x1 y1 p (x2 ++ (y2 ++ q)) n1 n2 (by simp only [List.length_append]; omega) (by omega) ax1 ay1 (fun z hz => zx z (by simp [hz])) (fun z hz => zy z (by simp [hz]))
    rwa [← ha, show a + x1.length = v by omega, show v + y1.length = mid by omega] at this)
  have lt1 : t1.length = x1.length + y1.length := by rw [t1p.length_eq]; simp
  obtain ⟨t2, t2p, t2s, t2c, t2e⟩ := half (self_ := self_) (p := p ++ t1) (q := q) (a := (mid : Int)) (m := (e : Int)) (b := (b : Int)) ax2 ay2 (fun n1 n2 => by
    have := ih x2 y2 (p ++ t1) q n1 n2 (by simp only [List.length_append]; omega) (by simp only [List.length_append]; omega) ax2 ay2 (fun z hz => zx z (by simp [hz])) (fun z hz => zy z (by simp [hz]))
    rwa [show (p ++ t1).length = mid by simp only [List.length_append]; omega, show mid + x2.length = e by omega, show e + y2.length = b by omega] at this)
  obtain ⟨g1, g2⟩ := parted hx hy cross1 cross2 t1p t1s t2p t2s
  refine ⟨t1 ++ t2, ?_, g1, g2⟩
  exact finish_L6 ha (by omega) (by omega) (by omega) (by omega) hmid he (by omega) t1c t1e (fun n1 n2 => by simpa using t2c n1 n2) t2e
end Go.Proofs.YtihjmnhamaicpaaGreatDoor
