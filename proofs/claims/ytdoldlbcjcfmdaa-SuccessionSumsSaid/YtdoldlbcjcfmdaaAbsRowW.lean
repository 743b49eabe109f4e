/-
  Readings of arguments that also hear what the data weigh: slices of so many bytes.
-/
import Derived.Test.YtdoldlbcjcfmdaaAbsRow
set_option linter.unusedVariables false
set_option linter.unusedSimpArgs false
namespace Go.Abs
open Go Go.RowKit Go.ChangeShapes
section
variable {H : Type} (enc : TypeId × Value → H) (P : Program) (w : World)
/-- Whatever reads at type t, no part of it heavier than B, is f of some x with Q. -/
def WReads (B : Nat) (t : TypeId) {α : Type} (f : α → List CV) (Q : α → Prop) : Prop :=
  ∀ (fuel : Nat) (cs : List Value) (y : DataW H × List MemPlace), DataW.trod enc P w 0 (fun _ => true) true fuel t cs = some y → (∀ m ∈ y.1.weights P t, m ≤ B) → ∃ x, RC w (f x) cs ∧ Q x
variable {enc P w}
theorem wreads_of {B : Nat} {t : TypeId} {α : Type} {f : α → List CV} {Q : α → Prop} (h : Reads enc P w t f Q) : WReads enc P w B t f Q := fun fuel cs y hy _ => h fuel cs y hy
theorem WReads.turn {B : Nat} {t : TypeId} {α β : Type} {f : α → List CV} {Q : α → Prop} {g : β → List CV} {R : β → Prop} (h : WReads enc P w B t f Q) (φ : α → β) (hf : ∀ x, g (φ x) = f x) (hQ : ∀ x, Q x → R (φ x)) : WReads enc P w B t g R := fun fuel cs y hy hw => by
  obtain ⟨x, h1, h2⟩ := h fuel cs y hy hw
  exact ⟨φ x, by rw [hf]; exact h1, hQ x h2⟩
theorem weightsAll_mem {e : TypeId} {d : DataW H} : ∀ {l : List (DataW H)}, d ∈ l → ∀ {m : Nat}, m ∈ d.weights P e → m ∈ DataW.weightsAll P e l
  | x :: r, h, m, hm => by
    rw [DataW.weightsAll]
    rcases List.mem_cons.1 h with rfl | h
    · exact List.mem_append_left _ hm
    · exact List.mem_append_right _ (weightsAll_mem h hm)
theorem weightsEach_get {t : TypeId} {d : DataW H} {m : Nat} (hm : m ∈ d.weights P t) : ∀ {i : Nat} {ts : List TypeId} {ds : List (DataW H)}, ts[i]? = some t → ds[i]? = some d → m ∈ DataW.weightsEach P ts ds
  | 0, t0 :: ts, d0 :: ds, h1, h2 => by
    simp at h1 h2; subst h1; subst h2
    rw [DataW.weightsEach]; exact List.mem_append_left _ hm
  | i + 1, t0 :: ts, d0 :: ds, h1, h2 => by
    rw [DataW.weightsEach]; exact List.mem_append_right _ (weightsEach_get hm (by simpa using h1) (by simpa using h2))
  | i, [], _, h1, _ => by simp at h1
  | i, _ :: _, [], _, h2 => by simp at h2
theorem weights_slice {t e : TypeId} {a b : List (DataW H)} (ht : P.underlying t = some (.slice e)) : (DataW.slice a b).weights P t = (a.length + b.length) * P.bytesOf e :: (DataW.weightsAll P e a ++ DataW.weightsAll P e b) := by
  rw [DataW.weights, ht]
theorem weights_struct {t : TypeId} {fs : Array Field} {a : List (DataW H)} (ht : P.underlying t = some (.struct fs)) : (DataW.agg a).weights P t = DataW.weightsEach P (fs.toList.map (·.type)) a := by
  rw [DataW.weights, ht]
theorem wreads_slice {B : Nat} {t e : TypeId} {α : Type} {f : α → List CV} {Q : α → Prop} {sz : Nat} (ht : P.underlying t = some (.slice e)) (hsz : P.cellsOf e = sz) (hpos : 0 < sz) (hf : ∀ x, (f x).length = sz) (h : WReads enc P w B e f Q) :
    WReads enc P w B t (fun l => [.sl sz (l.map f)]) (fun l : List α => (l.length ≤ 9223372036854775807 ∧ ∀ x ∈ l, Q x) ∧ l.length * P.bytesOf e ≤ B) := fun fuel cs y hy hw => by
  rcases DataW.trod_slice ht hy with ⟨rfl, _⟩ | ⟨a, len, cap, elems, rest, n, _, rfl, rfl, _, hlc, hcm, hel, hat, _, _⟩
  · exact ⟨[], .one rfl (.nil _ _ _), ⟨by simp, fun x hx => by simp at hx⟩, by simp⟩
  · have hone : ∀ i, i < len → ∃ x : α, (∃ cs', w.cells? 0 (a.add (i * sz)) sz = some cs' ∧ RC w (f x) cs') ∧ Q x := by
      intro i hi
      have h1 := hat i hi
      rw [List.getElem?_eq_getElem (by omega), hsz] at h1
      obtain ⟨cs', h2, h3⟩ := Option.bind_eq_some_iff.1 h1
      obtain ⟨x, h4, h5⟩ := h n cs' _ h3 (fun m hm => hw m (by rw [weights_slice ht]; exact List.mem_cons_of_mem _ (List.mem_append_left _ (weightsAll_mem (List.mem_map.2 ⟨_, List.getElem_mem (by omega), rfl⟩) hm))))
      exact ⟨x, ⟨cs', h2, h4⟩, h5⟩
    obtain ⟨l, hl, hp⟩ := pick_list len hone
    refine ⟨l, .one rfl ?_, ⟨by rw [hl]; exact Nat.le_trans hlc hcm, fun x hx => ?_⟩, ?_⟩
    · cases l with
      | nil => simp only [List.length_nil] at hl; subst hl; exact .nil _ _ _
      | cons x0 l0 =>
        have hcell : ∀ (i j : Nat) (d : List CV) (c : CV), ((x0 :: l0).map f)[i]? = some d → d[j]? = some c → ∃ u, w.cell? ((a.add (i * sz)).add j) = some u ∧ c.atom = true ∧ Rep (Zold w) w c u := by
          intro i j d c hd hc
          rw [List.getElem?_map] at hd
          obtain ⟨x, hx, rfl⟩ := Option.map_eq_some_iff.1 hd
          obtain ⟨⟨cs', h2, h4⟩, _⟩ := hp i x hx
          obtain ⟨ha, u, hu, hr⟩ := h4.2 j c hc
          unfold World.cells? at h2
          rw [if_pos (Nat.zero_le _)] at h2
          have hjlt : j < sz := by have := (List.getElem?_eq_some_iff.1 hc).1; rw [hf] at this; exact this
          obtain ⟨b, hb1, hb2⟩ := Lib.mapM_at h2 j j (by simp [hjlt])
          rw [hu] at hb1
          exact ⟨u, by rw [hb2]; exact hb1.symm, ha, hr⟩
        have hspot : a.spot = none := by
          have h0 : 0 < (f x0).length := by rw [hf]; exact hpos
          obtain ⟨u, hu, _, _⟩ := hcell 0 0 (f x0) ((f x0)[0]) rfl (List.getElem?_eq_getElem h0)
          have := cell_spot hu
          simpa [Addr.add] using this
        obtain ⟨b, o, s⟩ := a
        simp only at hspot; subst hspot
        have hcell' : ∀ (i j : Nat) (d : List CV) (c : CV), ((x0 :: l0).map f)[i]? = some d → d[j]? = some c → ∃ u, w.cell? ⟨b, o + i * sz + j, none⟩ = some u ∧ c.atom = true ∧ Rep (Zold w) w c u := by
          intro i j d c hd hc
          obtain ⟨u, hu, h3⟩ := hcell i j d c hd hc
          rw [add_none (a := ⟨b, o, none⟩) rfl, add_none (a := ⟨b, o + i * sz, none⟩) rfl] at hu
          exact ⟨u, hu, h3⟩
        have hlen : ((x0 :: l0).map f).length = len := by rw [List.length_map]; exact hl
        rw [← hlen]
        refine .sl sz _ b o cap (fun i j => (w.cell? ⟨b, o + i * sz + j, none⟩).getD undef) (by rw [hlen]; exact hlc) (fun i d hd => ?_) (fun i j d c hd hc => ?_) (fun i j d c hd hc => ?_)
        · rw [List.getElem?_map] at hd
          obtain ⟨x, _, rfl⟩ := Option.map_eq_some_iff.1 hd
          exact hf x
        · obtain ⟨u, hu, ha, _⟩ := hcell' i j d c hd hc
          exact ⟨cell_lt' hu, by rw [hu]; rfl, ha⟩
        · obtain ⟨u, hu, _, hr⟩ := hcell' i j d c hd hc
          rw [hu]; exact hr
    · obtain ⟨i, hi, rfl⟩ := List.getElem_of_mem hx
      exact (hp i _ (List.getElem?_eq_getElem hi)).2
    · have := hw ((elems.map (·.1)).length * P.bytesOf e + (rest.map (·.1)).length * P.bytesOf e) (by rw [weights_slice ht, ← Nat.add_mul]; exact List.mem_cons_self ..)
      rw [List.length_map] at this
      rw [hl, ← hel]
      omega

/-- The fields of a struct from one on, at offset off. -/
def WFReads (enc : TypeId × Value → H) (P : Program) (w : World) (B : Nat) (fs : List Field) (off tot : Nat) {α : Type} (f : α → List CV) (Q : α → Prop) : Prop :=
  ∀ (fuel : Nat) (cs : List Value), cs.length = tot → (∀ g ∈ fs, ∃ y, DataW.trod enc P w 0 (fun _ => true) true fuel g.type ((cs.drop g.offset).take (P.cellsOf g.type)) = some y ∧ ∀ m ∈ y.1.weights P g.type, m ≤ B) → ∃ x, RC w (f x) (cs.drop off) ∧ Q x
theorem wfreads_nil {B tot : Nat} : WFReads enc P w B [] tot tot (fun _ : Unit => []) (fun _ => True) := fun fuel cs hl _ =>
  ⟨(), by rw [List.drop_eq_nil_of_le (Nat.le_of_eq hl)]; exact ⟨rfl, fun j c hj => by simp at hj⟩, trivial⟩
theorem wfreads_cons {B : Nat} {g : Field} {fs : List Field} {off n tot : Nat} {α β : Type} {f : α → List CV} {Q : α → Prop} {f' : β → List CV} {R : β → Prop} (ho : g.offset = off) (hn : P.cellsOf g.type = n) (h : WReads enc P w B g.type f Q)
    (hr : WFReads enc P w B fs (off + n) tot f' R) : WFReads enc P w B (g :: fs) off tot (fun p : α × β => f p.1 ++ f' p.2) (fun p => Q p.1 ∧ R p.2) := fun fuel cs hl hall => by
  obtain ⟨y, hy, hyw⟩ := hall g (by simp)
  rw [ho, hn] at hy
  obtain ⟨x, hx, hq⟩ := h fuel _ y hy hyw
  obtain ⟨z, hz, hr⟩ := hr fuel cs hl fun g' hg' => hall g' (by simp [hg'])
  refine ⟨(x, z), ?_, hq, hr⟩
  have : cs.drop off = (cs.drop off).take n ++ cs.drop (off + n) := by
    rw [← List.drop_drop]; exact (List.take_append_drop n _).symm
  rw [this]
  exact hx.append hz
theorem wreads_struct {B : Nat} {t : TypeId} {fs : Array Field} {n : Nat} {α : Type} {f : α → List CV} {Q : α → Prop} (ht : P.underlying t = some (.struct fs)) (hn : P.cellsOf t = n) (h : WFReads enc P w B fs.toList 0 n f Q) : WReads enc P w B t f Q := fun fuel cs y hy hw => by
  obtain ⟨xs, m, rfl, rfl, hl, hxs, hat⟩ := DataW.trod_struct ht hy
  obtain ⟨x, h1, h2⟩ := h m cs (hn ▸ hl) fun g hg => by
    obtain ⟨i, hi, rfl⟩ := List.getElem_of_mem hg
    have hi' : i < fs.size := by simpa using hi
    have := hat i fs[i] (by simp [hi'])
    rw [List.getElem?_eq_getElem (by omega)] at this
    refine ⟨_, by simpa using this, fun k hk => hw k ?_⟩
    rw [weights_struct ht]
    exact weightsEach_get hk (i := i) (by simp [hi']) (by rw [List.getElem?_map, List.getElem?_eq_getElem (by omega)]; rfl)
  exact ⟨x, by simpa using h1, h2⟩
/-- An argument that takes one cell. -/
theorem warg_cell {B : Nat} {t : TypeId} {b0 : Nat} {v : Value} {d : DataW H} {ps : List MemPlace} {α : Type} {f : α → List CV} {g : α → CV} {Q : α → Prop} (hu : ∀ cs, ¬ Value.okWide P w .any b0 t (.agg cs)) (hfg : ∀ x, f x = [g x]) (h : WReads enc P w B t f Q)
    (hw : ∀ m ∈ d.weights P t, m ≤ B) (hval : Value.okWide P w .any b0 t v) (hd : DataW.Trod enc P w 0 (fun _ => true) true t v d ps) : ∃ x, Rep (Zold w) w (g x) v ∧ Q x := by
  obtain ⟨fuel, hd⟩ := hd
  obtain ⟨x, h1, h2⟩ := h fuel _ _ hd hw
  rw [hfg] at h1
  have hc : v.cells.toList = [v] := by
    cases v with
    | agg cs => exact absurd hval (hu cs)
    | _ => rfl
  rw [hc] at h1
  obtain ⟨_, u, hu', hr⟩ := h1.2 0 (g x) rfl
  simp at hu'
  subst hu'
  exact ⟨x, hr, h2⟩
end
end Go.Abs
