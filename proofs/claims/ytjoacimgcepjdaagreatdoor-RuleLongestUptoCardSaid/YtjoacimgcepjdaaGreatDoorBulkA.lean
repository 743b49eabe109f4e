/-
  Readings of arguments that also hear their bulk.
-/
import Derived.Test.YtjoacimgcepjdaaGreatDoorAbsRow
import Derived.Test.YtjoacimgcepjdaaGreatDoorRows
set_option linter.unusedVariables false
set_option linter.unusedSimpArgs false
namespace Go.Abs
open Go Go.RowKit Go.ChangeShapes Go.Proofs.YtjoacimgcepjdaaGreatDoor
section
variable {H : Type} (enc : TypeId × Value → H) (P : Program) (w : World)
/-- Whatever reads at type t, no part of it heavier than B, is f of some x with Q. -/
def BReads (B : Nat) (t : TypeId) {α : Type} (f : α → List CV) (Q : α → Prop) : Prop :=
  ∀ (fuel : Nat) (cs : List Value) (y : DataW H × List MemPlace), DataW.trod enc P w 0 (fun _ => true) true fuel t cs = some y → Rows.uptoBulk y.1 ≤ B → ∃ x, RC w (f x) cs ∧ Q x
variable {enc P w}
theorem breads_of {B : Nat} {t : TypeId} {α : Type} {f : α → List CV} {Q : α → Prop} (h : Reads enc P w t f Q) : BReads enc P w B t f Q := fun fuel cs y hy _ => h fuel cs y hy
theorem BReads.turn {B : Nat} {t : TypeId} {α β : Type} {f : α → List CV} {Q : α → Prop} {g : β → List CV} {R : β → Prop} (h : BReads enc P w B t f Q) (φ : α → β) (hf : ∀ x, g (φ x) = f x) (hQ : ∀ x, Q x → R (φ x)) : BReads enc P w B t g R := fun fuel cs y hy hw => by
  obtain ⟨x, h1, h2⟩ := h fuel cs y hy hw
  exact ⟨φ x, by rw [hf]; exact h1, hQ x h2⟩
theorem bulk_mem {d : DataW H} : ∀ {l : List (DataW H)}, d ∈ l → Rows.uptoBulk d ≤ Rows.uptoBulkAll l
  | x :: r, h => by
    simp only [Rows.uptoBulkAll]
    rcases List.mem_cons.1 h with rfl | h
    · omega
    · have := bulk_mem h; omega
theorem bulk_slice {d : DataW H} {a b : List (DataW H)} (h : d ∈ a) : Rows.uptoBulk d ≤ Rows.uptoBulk (.slice a b) := by
  have := bulk_mem h
  simp only [Rows.uptoBulk]; omega
theorem bulk_agg {d : DataW H} {a : List (DataW H)} (h : d ∈ a) : Rows.uptoBulk d ≤ Rows.uptoBulk (.agg a) := by
  have := bulk_mem h
  simp only [Rows.uptoBulk]; omega
theorem breads_slice {B : Nat} {t e : TypeId} {α : Type} {f : α → List CV} {Q : α → Prop} {sz : Nat} (ht : P.underlying t = some (.slice e)) (hsz : P.cellsOf e = sz) (hpos : 0 < sz) (hf : ∀ x, (f x).length = sz) (h : BReads enc P w B e f Q) :
    BReads enc P w B t (fun l => [.sl sz (l.map f)]) (fun l : List α => l.length ≤ 9223372036854775807 ∧ ∀ x ∈ l, Q x) := fun fuel cs y hy hw => by
  rcases DataW.trod_slice ht hy with ⟨rfl, _⟩ | ⟨a, len, cap, elems, rest, n, _, rfl, rfl, _, hlc, hcm, hel, hat, _, _⟩
  · exact ⟨[], .one rfl (.nil _ _ _), by simp, fun x hx => by simp at hx⟩
  · have hone : ∀ i, i < len → ∃ x : α, (∃ cs', w.cells? 0 (a.add (i * sz)) sz = some cs' ∧ RC w (f x) cs') ∧ Q x := by
      intro i hi
      have h1 := hat i hi
      rw [List.getElem?_eq_getElem (by omega), hsz] at h1
      obtain ⟨cs', h2, h3⟩ := Option.bind_eq_some_iff.1 h1
      obtain ⟨x, h4, h5⟩ := h n cs' _ h3 (Nat.le_trans (bulk_slice (List.mem_map.2 ⟨_, List.getElem_mem (by omega), rfl⟩)) hw)
      exact ⟨x, ⟨cs', h2, h4⟩, h5⟩
    obtain ⟨l, hl, hp⟩ := pick_list len hone
    refine ⟨l, .one rfl ?_, by rw [hl]; exact Nat.le_trans hlc hcm, fun x hx => ?_⟩
    · cases l with
      | nil => simp only [List.length_nil] at hl; subst hl; exact .nil _ _ _
      | cons x0 l0 =>
        have hcell : ∀ (i j : Nat) (d : List CV) (c : CV), ((x0 :: l0).map f)[i]? = some d → d[j]? = some c → ∃ u, w.cell? ((a.add (i * sz)).add j) = some u ∧ c.atom = true ∧ Rep (Zold w) w c u := by
          intro i j d c hd hc
          rw [List.getElem?_map] at hd
          obtain ⟨x, hx, rfl⟩ := Option.map_eq_some_iff.1 hd
          obtain ⟨⟨cs', h2, h4⟩, _⟩ := hp i x hx
          obtain ⟨ha, u, hu, hr⟩ := h4.2 j c hc
          unfold World.cells? at h2
          rw [if_pos (Nat.zero_le _)] at h2
          have hjlt : j < sz := by have := (List.getElem?_eq_some_iff.1 hc).1; rw [hf] at this; exact this
          obtain ⟨b, hb1, hb2⟩ := Lib.mapM_at h2 j j (by simp [hjlt])
          rw [hu] at hb1
          exact ⟨u, by rw [hb2]; exact hb1.symm, ha, hr⟩
        have hspot : a.spot = none := by
          have h0 : 0 < (f x0).length := by rw [hf]; exact hpos
          obtain ⟨u, hu, _, _⟩ := hcell 0 0 (f x0) ((f x0)[0]) rfl (List.getElem?_eq_getElem h0)
          have := cell_spot hu
          simpa [Addr.add] using this
        obtain ⟨b, o, s⟩ := a
        simp only at hspot; subst hspot
        have hcell' : ∀ (i j : Nat) (d : List CV) (c : CV), ((x0 :: l0).map f)[i]? = some d → d[j]? = some c → ∃ u, w.cell? ⟨b, o + i * sz + j, none⟩ = some u ∧ c.atom = true ∧ Rep (Zold w) w c u := by
          intro i j d c hd hc
          obtain ⟨u, hu, h3⟩ := hcell i j d c hd hc
          rw [add_none (a := ⟨b, o, none⟩) rfl, add_none (a := ⟨b, o + i * sz, none⟩) rfl] at hu
          exact ⟨u, hu, h3⟩
        have hlen : ((x0 :: l0).map f).length = len := by rw [List.length_map]; exact hl
        rw [← hlen]
        refine .sl sz _ b o cap (fun i j => (w.cell? ⟨b, o + i * sz + j, none⟩).getD undef) (by rw [hlen]; exact hlc) (fun i d hd => ?_) (fun i j d c hd hc => ?_) (fun i j d c hd hc => ?_)
        · rw [List.getElem?_map] at hd
          obtain ⟨x, _, rfl⟩ := Option.map_eq_some_iff.1 hd
          exact hf x
        · obtain ⟨u, hu, ha, _⟩ := hcell' i j d c hd hc
          exact ⟨cell_lt' hu, by rw [hu]; rfl, ha⟩
        · obtain ⟨u, hu, _, hr⟩ := hcell' i j d c hd hc
          rw [hu]; exact hr
    · obtain ⟨i, hi, rfl⟩ := List.getElem_of_mem hx
      exact (hp i _ (List.getElem?_eq_getElem hi)).2
/-- The fields of a struct from one on, at offset off. -/
def BFReads (enc : TypeId × Value → H) (P : Program) (w : World) (B : Nat) (fs : List Field) (off tot : Nat) {α : Type} (f : α → List CV) (Q : α → Prop) : Prop :=
  ∀ (fuel : Nat) (cs : List Value), cs.length = tot → (∀ g ∈ fs, ∃ y, DataW.trod enc P w 0 (fun _ => true) true fuel g.type ((cs.drop g.offset).take (P.cellsOf g.type)) = some y ∧ Rows.uptoBulk y.1 ≤ B) → ∃ x, RC w (f x) (cs.drop off) ∧ Q x
theorem bfreads_nil {B tot : Nat} : BFReads enc P w B [] tot tot (fun _ : Unit => []) (fun _ => True) := fun fuel cs hl _ =>
  ⟨(), by rw [List.drop_eq_nil_of_le (Nat.le_of_eq hl)]; exact ⟨rfl, fun j c hj => by simp at hj⟩, trivial⟩
theorem bfreads_cons {B : Nat} {g : Field} {fs : List Field} {off n tot : Nat} {α β : Type} {f : α → List CV} {Q : α → Prop} {f' : β → List CV} {R : β → Prop} (ho : g.offset = off) (hn : P.cellsOf g.type = n) (h : BReads enc P w B g.type f Q)
    (hr : BFReads enc P w B fs (off + n) tot f' R) : BFReads enc P w B (g :: fs) off tot (fun p : α × β => f p.1 ++ f' p.2) (fun p => Q p.1 ∧ R p.2) := fun fuel cs hl hall => by
  obtain ⟨y, hy, hyw⟩ := hall g (by simp)
  rw [ho, hn] at hy
  obtain ⟨x, hx, hq⟩ := h fuel _ y hy hyw
  obtain ⟨z, hz, hr⟩ := hr fuel cs hl fun g' hg' => hall g' (by simp [hg'])
  refine ⟨(x, z), ?_, hq, hr⟩
  have : cs.drop off = (cs.drop off).take n ++ cs.drop (off + n) := by
    rw [← List.drop_drop]; exact (List.take_append_drop n _).symm
  rw [this]
  exact hx.append hz
theorem breads_struct {B : Nat} {t : TypeId} {fs : Array Field} {n : Nat} {α : Type} {f : α → List CV} {Q : α → Prop} (ht : P.underlying t = some (.struct fs)) (hn : P.cellsOf t = n) (h : BFReads enc P w B fs.toList 0 n f Q) : BReads enc P w B t f Q := fun fuel cs y hy hw => by
  obtain ⟨xs, m, rfl, rfl, hl, hxs, hat⟩ := DataW.trod_struct ht hy
  obtain ⟨x, h1, h2⟩ := h m cs (hn ▸ hl) fun g hg => by
    obtain ⟨i, hi, rfl⟩ := List.getElem_of_mem hg
    have hi' : i < fs.size := by simpa using hi
    have := hat i fs[i] (by simp [hi'])
    rw [List.getElem?_eq_getElem (by omega)] at this
    exact ⟨_, by simpa using this, Nat.le_trans (bulk_agg (List.mem_map.2 ⟨_, List.getElem_mem _, rfl⟩)) hw⟩
  exact ⟨x, by simpa using h1, h2⟩
/-- An argument that takes one cell. -/
theorem barg_cell {B : Nat} {t : TypeId} {b0 : Nat} {v : Value} {d : DataW H} {ps : List MemPlace} {α : Type} {f : α → List CV} {g : α → CV} {Q : α → Prop} (hu : ∀ cs, ¬ Value.okWide P w .any b0 t (.agg cs)) (hfg : ∀ x, f x = [g x]) (h : BReads enc P w B t f Q)
    (hw : Rows.uptoBulk d ≤ B) (hval : Value.okWide P w .any b0 t v) (hd : DataW.Trod enc P w 0 (fun _ => true) true t v d ps) : ∃ x, Rep (Zold w) w (g x) v ∧ Q x := by
  obtain ⟨fuel, hd⟩ := hd
  obtain ⟨x, h1, h2⟩ := h fuel _ _ hd hw
  rw [hfg] at h1
  have hc : v.cells.toList = [v] := by
    cases v with
    | agg cs => exact absurd hval (hu cs)
    | _ => rfl
  rw [hc] at h1
  obtain ⟨_, u, hu', hr⟩ := h1.2 0 (g x) rfl
  simp at hu'
  subst hu'
  exact ⟨x, hr, h2⟩
theorem breads_str {B : Nat} {t : TypeId} (ht : P.underlying t = some .string) : BReads enc P w B t cStr (fun s => s.length ≤ B) := fun fuel cs y h hb => by
  obtain ⟨s, rfl, hy, hs⟩ := DataW.trod_string ht h
  refine ⟨s.data.toList, .one rfl (.v _), ?_⟩
  rw [hy] at hb
  simp only [Rows.uptoBulk] at hb
  exact Nat.le_trans (Nat.le_succ _) hb
end
end Go.Abs
