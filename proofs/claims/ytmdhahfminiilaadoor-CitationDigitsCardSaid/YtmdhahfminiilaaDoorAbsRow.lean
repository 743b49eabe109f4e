import Derived.Test.YtmdhahfminiilaaDoorAbsPre
import Derived.ProofKit
import Derived.OpenShut
import Derived.Lib.LaidTab
import Derived.Deep.DeepHandedRow
set_option linter.unusedVariables false
set_option linter.unusedSimpArgs false
/-
  From the readings of a row's arguments to typed data; what a call that changes nothing of old memory owes to the row.
-/
namespace Go.Abs
open Go Go.RowKit Go.ChangeShapes

def Zold (w : World) : Zone := fun b _ => b < w.heap.size
theorem cell_lt' {w : World} {a : Addr} {v : Value} (h : w.cell? a = some v) : a.block < w.heap.size := by
  rcases Nat.lt_or_ge a.block w.heap.size with h' | h'
  · exact h'
  · simp [World.cell?, Array.getElem?_eq_none h'] at h
theorem cell_spot {w : World} {a : Addr} {v : Value} (h : w.cell? a = some v) : a.spot = none := by
  unfold World.cell? at h
  split at h
  · split at h
    · exact nomatch h
    · rename_i hs; simpa using hs
  · exact nomatch h
/-- A row of cells reads as closed data. -/
def RC (w : World) (zs : List CV) (cs : List Value) : Prop := cs.length = zs.length ∧ ∀ (j : Nat) (c : CV), zs[j]? = some c → c.atom = true ∧ ∃ x, cs[j]? = some x ∧ Rep (Zold w) w c x
theorem RC.one {w : World} {c : CV} {x : Value} (ha : c.atom = true) (h : Rep (Zold w) w c x) : RC w [c] [x] :=
  ⟨rfl, fun j d hj => by
    cases j with
    | zero => simp at hj; subst hj; exact ⟨ha, x, rfl, h⟩
    | succ j => simp at hj⟩
theorem RC.append {w : World} {zs ys : List CV} {cs ds : List Value} (h : RC w zs cs) (k : RC w ys ds) : RC w (zs ++ ys) (cs ++ ds) := by
  refine ⟨by simp [h.1, k.1], fun j c hj => ?_⟩
  by_cases hl : j < zs.length
  · rw [List.getElem?_append_left hl] at hj
    rw [List.getElem?_append_left (h.1 ▸ hl)]
    exact h.2 j c hj
  · rw [List.getElem?_append_right (Nat.le_of_not_lt hl)] at hj
    rw [List.getElem?_append_right (h.1 ▸ Nat.le_of_not_lt hl), h.1]
    exact k.2 _ c hj

section
variable {H : Type} (enc : TypeId × Value → H) (P : Program) (w : World)
/-- Whatever reads at type t is f of some x with Q. -/
def Reads (t : TypeId) {α : Type} (f : α → List CV) (Q : α → Prop) : Prop :=
  ∀ (fuel : Nat) (cs : List Value) (y : DataW H × List MemPlace), DataW.trod enc P w 0 (fun _ => true) true fuel t cs = some y → ∃ x, RC w (f x) cs ∧ Q x
variable {enc P w}
theorem reads_int {t : TypeId} {k : IntKind} (ht : P.underlying t = some (.int k)) : Reads enc P w t (fun n => [.v (.int k n)]) (fun n => (Lit.int k n).wf = true) := fun fuel cs y h => by
  obtain ⟨n, rfl, _, hw⟩ := DataW.trod_int ht h
  exact ⟨n, .one rfl (.v _), hw⟩
theorem reads_bool {t : TypeId} (ht : P.underlying t = some .bool) : Reads enc P w t cBool (fun _ => True) := fun fuel cs y h => by
  obtain ⟨n, rfl, _⟩ := DataW.trod_bool ht h
  exact ⟨n, .one rfl (.v _), trivial⟩
theorem reads_str {t : TypeId} (ht : P.underlying t = some .string) : Reads enc P w t cStr (fun s => s.length ≤ 9223372036854775807) := fun fuel cs y h => by
  obtain ⟨s, rfl, _, hs⟩ := DataW.trod_string ht h
  exact ⟨s.data.toList, .one rfl (.v _), hs⟩
theorem reads_map {t : TypeId} {α β : Type} {f : α → List CV} {Q : α → Prop} {g : β → List CV} {R : β → Prop} (φ : α → β) (hf : ∀ x, g (φ x) = f x) (hQ : ∀ x, Q x → R (φ x)) (h : Reads enc P w t f Q) : Reads enc P w t g R := fun fuel cs y hy => by
  obtain ⟨x, h1, h2⟩ := h fuel cs y hy
  exact ⟨φ x, by rw [hf]; exact h1, hQ x h2⟩
theorem Reads.turn {t : TypeId} {α β : Type} {f : α → List CV} {Q : α → Prop} {g : β → List CV} {R : β → Prop} (h : Reads enc P w t f Q) (φ : α → β) (hf : ∀ x, g (φ x) = f x) (hQ : ∀ x, Q x → R (φ x)) : Reads enc P w t g R := reads_map φ hf hQ h
theorem pick_list {α : Type} {p : Nat → α → Prop} : ∀ (n : Nat), (∀ i, i < n → ∃ x, p i x) → ∃ l : List α, l.length = n ∧ ∀ (i : Nat) (x : α), l[i]? = some x → p i x
  | 0, _ => ⟨[], rfl, fun i x h => by simp at h⟩
  | n + 1, h => by
    obtain ⟨l, hl, hp⟩ := pick_list n fun i hi => h i (Nat.lt_succ_of_lt hi)
    obtain ⟨x, hx⟩ := h n (Nat.lt_succ_self n)
    refine ⟨l ++ [x], by simp [hl], fun i y hy => ?_⟩
    by_cases hi : i < l.length
    · rw [List.getElem?_append_left hi] at hy; exact hp i y hy
    · rw [List.getElem?_append_right (Nat.le_of_not_lt hi)] at hy
      have : i - l.length = 0 := by
        rcases Nat.eq_zero_or_pos (i - l.length) with h0 | h0
        · exact h0
        · obtain ⟨m, hm⟩ : ∃ m, i - l.length = m + 1 := ⟨i - l.length - 1, by omega⟩
          rw [hm] at hy; simp at hy
      rw [this] at hy
      simp at hy
      subst hy
      have : i = n := by omega
      rw [this]; exact hx
theorem add_none {a : Addr} (h : a.spot = none) (n : Nat) : a.add n = ⟨a.block, a.off + n, none⟩ := by
  obtain ⟨b, o, s⟩ := a
  simp only at h; subst h
  unfold Addr.add
  split
  · rename_i h0; rw [h0]; rfl
  · rfl
theorem reads_slice {t e : TypeId} {α : Type} {f : α → List CV} {Q : α → Prop} {sz : Nat} (ht : P.underlying t = some (.slice e)) (hsz : P.cellsOf e = sz) (hpos : 0 < sz) (hf : ∀ x, (f x).length = sz) (h : Reads enc P w e f Q) :
    Reads enc P w t (fun l => [.sl sz (l.map f)]) (fun l : List α => l.length ≤ 9223372036854775807 ∧ ∀ x ∈ l, Q x) := fun fuel cs y hy => by
  rcases DataW.trod_slice ht hy with ⟨rfl, _⟩ | ⟨a, len, cap, elems, rest, n, _, rfl, _, _, hlc, hcm, hel, hat, _, _⟩
  · exact ⟨[], .one rfl (.nil _ _ _), by simp, fun x hx => by simp at hx⟩
  · have hone : ∀ i, i < len → ∃ x : α, (∃ cs', w.cells? 0 (a.add (i * sz)) sz = some cs' ∧ RC w (f x) cs') ∧ Q x := by
      intro i hi
      have h1 := hat i hi
      rw [List.getElem?_eq_getElem (by omega), hsz] at h1
      obtain ⟨cs', h2, h3⟩ := Option.bind_eq_some_iff.1 h1
      obtain ⟨x, h4, h5⟩ := h n cs' _ h3
      exact ⟨x, ⟨cs', h2, h4⟩, h5⟩
    obtain ⟨l, hl, hp⟩ := pick_list len hone
    refine ⟨l, .one rfl ?_, by rw [hl]; exact Nat.le_trans hlc hcm, fun x hx => ?_⟩
    · cases l with
      | nil => simp only [List.length_nil] at hl; subst hl; exact .nil _ _ _
      | cons x0 l0 =>
        have hcell : ∀ (i j : Nat) (d : List CV) (c : CV), ((x0 :: l0).map f)[i]? = some d → d[j]? = some c → ∃ u, w.cell? ((a.add (i * sz)).add j) = some u ∧ c.atom = true ∧ Rep (Zold w) w c u := by
          intro i j d c hd hc
          rw [List.getElem?_map] at hd
          obtain ⟨x, hx, rfl⟩ := Option.map_eq_some_iff.1 hd
          obtain ⟨⟨cs', h2, h4⟩, _⟩ := hp i x hx
          obtain ⟨ha, u, hu, hr⟩ := h4.2 j c hc
          unfold World.cells? at h2
          rw [if_pos (Nat.zero_le _)] at h2
          have hjlt : j < sz := by have := (List.getElem?_eq_some_iff.1 hc).1; rw [hf] at this; exact this
          obtain ⟨b, hb1, hb2⟩ := Lib.mapM_at h2 j j (by simp [hjlt])
          rw [hu] at hb1
          exact ⟨u, by rw [hb2]; exact hb1.symm, ha, hr⟩
        have hspot : a.spot = none := by
          have h0 : 0 < (f x0).length := by rw [hf]; exact hpos
          obtain ⟨u, hu, _, _⟩ := hcell 0 0 (f x0) ((f x0)[0]) rfl (List.getElem?_eq_getElem h0)
          have := cell_spot hu
          simpa [Addr.add] using this
        obtain ⟨b, o, s⟩ := a
        simp only at hspot; subst hspot
        have hcell' : ∀ (i j : Nat) (d : List CV) (c : CV), ((x0 :: l0).map f)[i]? = some d → d[j]? = some c → ∃ u, w.cell? ⟨b, o + i * sz + j, none⟩ = some u ∧ c.atom = true ∧ Rep (Zold w) w c u := by
          intro i j d c hd hc
          obtain ⟨u, hu, h3⟩ := hcell i j d c hd hc
          rw [add_none (a := ⟨b, o, none⟩) rfl, add_none (a := ⟨b, o + i * sz, none⟩) rfl] at hu
          exact ⟨u, hu, h3⟩
        have hlen : ((x0 :: l0).map f).length = len := by rw [List.length_map]; exact hl
        rw [← hlen]
        refine .sl sz _ b o cap (fun i j => (w.cell? ⟨b, o + i * sz + j, none⟩).getD undef) (by rw [hlen]; exact hlc) (fun i d hd => ?_) (fun i j d c hd hc => ?_) (fun i j d c hd hc => ?_)
        · rw [List.getElem?_map] at hd
          obtain ⟨x, _, rfl⟩ := Option.map_eq_some_iff.1 hd
          exact hf x
        · obtain ⟨u, hu, ha, _⟩ := hcell' i j d c hd hc
          exact ⟨cell_lt' hu, by rw [hu]; rfl, ha⟩
        · obtain ⟨u, hu, _, hr⟩ := hcell' i j d c hd hc
          rw [hu]; exact hr
    · obtain ⟨i, hi, rfl⟩ := List.getElem_of_mem hx
      exact (hp i _ (List.getElem?_eq_getElem hi)).2

/-- The fields of a struct from one on, at offset off. -/
def FReads (enc : TypeId × Value → H) (P : Program) (w : World) (fs : List Field) (off tot : Nat) {α : Type} (f : α → List CV) (Q : α → Prop) : Prop :=
  ∀ (fuel : Nat) (cs : List Value), cs.length = tot → (∀ g ∈ fs, ∃ y, DataW.trod enc P w 0 (fun _ => true) true fuel g.type ((cs.drop g.offset).take (P.cellsOf g.type)) = some y) → ∃ x, RC w (f x) (cs.drop off) ∧ Q x
theorem freads_nil {tot : Nat} : FReads enc P w [] tot tot (fun _ : Unit => []) (fun _ => True) := fun fuel cs hl _ =>
  ⟨(), by rw [List.drop_eq_nil_of_le (Nat.le_of_eq hl)]; exact ⟨rfl, fun j c hj => by simp at hj⟩, trivial⟩
theorem freads_cons {g : Field} {fs : List Field} {off n tot : Nat} {α β : Type} {f : α → List CV} {Q : α → Prop} {f' : β → List CV} {R : β → Prop} (ho : g.offset = off) (hn : P.cellsOf g.type = n) (h : Reads enc P w g.type f Q)
    (hr : FReads enc P w fs (off + n) tot f' R) : FReads enc P w (g :: fs) off tot (fun p : α × β => f p.1 ++ f' p.2) (fun p => Q p.1 ∧ R p.2) := fun fuel cs hl hall => by
  obtain ⟨y, hy⟩ := hall g (by simp)
  rw [ho, hn] at hy
  obtain ⟨x, hx, hq⟩ := h fuel _ y hy
  obtain ⟨z, hz, hr⟩ := hr fuel cs hl fun g' hg' => hall g' (by simp [hg'])
  refine ⟨(x, z), ?_, hq, hr⟩
  have : cs.drop off = (cs.drop off).take n ++ cs.drop (off + n) := by
    rw [← List.drop_drop]; exact (List.take_append_drop n _).symm
  rw [this]
  exact hx.append hz
theorem reads_struct {t : TypeId} {fs : Array Field} {n : Nat} {α : Type} {f : α → List CV} {Q : α → Prop} (ht : P.underlying t = some (.struct fs)) (hn : P.cellsOf t = n) (h : FReads enc P w fs.toList 0 n f Q) : Reads enc P w t f Q := fun fuel cs y hy => by
  obtain ⟨xs, m, rfl, _, hl, hxs, hat⟩ := DataW.trod_struct ht hy
  obtain ⟨x, h1, h2⟩ := h m cs (hn ▸ hl) fun g hg => by
    obtain ⟨i, hi, rfl⟩ := List.getElem_of_mem hg
    have hi' : i < fs.size := by simpa using hi
    have := hat i fs[i] (by simp [hi'])
    rw [List.getElem?_eq_getElem (by omega)] at this
    exact ⟨_, by simpa using this⟩
  exact ⟨x, by simpa using h1, h2⟩

/-- An argument that takes one cell. -/
theorem arg_cell {t : TypeId} {b0 : Nat} {v : Value} {d : DataW H} {ps : List MemPlace} {α : Type} {f : α → List CV} {g : α → CV} {Q : α → Prop} (hu : ∀ cs, ¬ Value.okWide P w .any b0 t (.agg cs)) (hfg : ∀ x, f x = [g x]) (h : Reads enc P w t f Q)
    (hval : Value.okWide P w .any b0 t v) (hd : DataW.Trod enc P w 0 (fun _ => true) true t v d ps) : ∃ x, Rep (Zold w) w (g x) v ∧ Q x := by
  obtain ⟨fuel, hd⟩ := hd
  obtain ⟨x, h1, h2⟩ := h fuel _ _ hd
  rw [hfg] at h1
  have hc : v.cells.toList = [v] := by
    cases v with
    | agg cs => exact absurd hval (hu cs)
    | _ => rfl
  rw [hc] at h1
  obtain ⟨_, u, hu', hr⟩ := h1.2 0 (g x) rfl
  simp at hu'
  subst hu'
  exact ⟨x, hr, h2⟩
theorem arg_agg {t : TypeId} {b0 : Nat} {v : Value} {d : DataW H} {ps : List MemPlace} {α : Type} {f : α → List CV} {Q : α → Prop} {fs : Array Field} (hu : P.underlying t = some (.struct fs)) (h : Reads enc P w t f Q)
    (hval : Value.okWide P w .any b0 t v) (hd : DataW.Trod enc P w 0 (fun _ => true) true t v d ps) : ∃ x, Rep (Zold w) w (.agg (f x)) v ∧ Q x := by
  obtain ⟨fuel, hd⟩ := hd
  obtain ⟨x, h1, h2⟩ := h fuel _ _ hd
  unfold Value.okWide at hval
  rw [hu] at hval
  obtain ⟨cs, rfl, _, _⟩ := hval
  refine ⟨x, ?_, h2⟩
  have := Rep.agg (Z := Zold w) (w := w) (f x) cs.toList h1.1.symm (fun i c y hi hy => by
    obtain ⟨_, u, hu, hr⟩ := h1.2 i c hi
    have hu' : cs.toList[i]? = some u := hu
    rw [hy] at hu'
    exact Option.some.inj hu' ▸ hr) (fun i c hi => (h1.2 i c hi).1)
  simpa using this
theorem no_agg_int {t : TypeId} {k : IntKind} {b0 : Nat} (hu : P.underlying t = some (.int k)) : ∀ cs, ¬ Value.okWide P w .any b0 t (.agg cs) := by
  intro cs h; simp [Value.okWide, Cell.okWide, Cell.ok, hu] at h
theorem no_agg_str {t : TypeId} {b0 : Nat} (hu : P.underlying t = some .string) : ∀ cs, ¬ Value.okWide P w .any b0 t (.agg cs) := by
  intro cs h; simp [Value.okWide, Cell.okWide, Cell.ok, hu] at h
theorem no_agg_slice {t e : TypeId} {b0 : Nat} (hu : P.underlying t = some (.slice e)) : ∀ cs, ¬ Value.okWide P w .any b0 t (.agg cs) := by
  intro cs h; simp [Value.okWide, Cell.okWide, Cell.ok, hu] at h
theorem no_agg_bool {t : TypeId} {b0 : Nat} (hu : P.underlying t = some .bool) : ∀ cs, ¬ Value.okWide P w .any b0 t (.agg cs) := by
  intro cs h; simp [Value.okWide, Cell.okWide, Cell.ok, hu] at h
theorem trodAll_stays (hl : laidOutB P = true) {W W' : World} {sp' : Nat → Bool} : ∀ (ts : List TypeId) (vs : List Value) (ds : List (DataW H)) (ps : List MemPlace), ts.all (fun t => P.readableRec t && decide (t < P.types.size)) = true →
    DataW.TrodAll enc P W 0 (fun _ => true) true ts vs ds ps → (∀ p ∈ ps, W.sameAt W' p) → (∀ p ∈ ps, sp' p.block = true) → DataW.TrodAll enc P W' 0 sp' true ts vs ds ps
  | [], vs, ds, ps, _, h, _, _ => by
    obtain ⟨rfl, rfl, rfl⟩ := trodAll_nil h
    exact trodAll_mk0
  | t :: ts, vs, ds, ps, ho, h, h1, h2 => by
    obtain ⟨v, vs1, d, ds1, a, b, rfl, rfl, rfl, k1, k2⟩ := trodAll_cons h
    simp only [List.all_cons, Bool.and_eq_true, decide_eq_true_eq] at ho
    exact ⟨a, b, WideElems.Trod_stays hl ho.1.1 ho.1.2 k1 (fun p hp => h1 p (by simp [hp])) (fun p hp => h2 p (by simp [hp])),
      trodAll_stays hl ts vs1 ds1 b (by simpa using ho.2) k2 (fun p hp => h1 p (by simp [hp])) (fun p hp => h2 p (by simp [hp])), rfl⟩
/-- A call that returns true and turns nothing of old memory owes the row nothing more. -/
theorem post_true {f : Func} {s : ChangeSpec} {apart fresh handsOn again : Bool} {W W' : World} {args : Array Value} {ds gs : List (DataW H)} {before : List MemPlace} {tb : TypeId}
    (hl : laidOutB P = true) (hW : DataW.Whole enc P f.params.toList s.vars apart W args.toList ds gs before) (hv : s.vars = []) (hok : f.params.toList.all (fun t => P.readableRec t && decide (t < P.types.size)) = true)
    (hrt : f.resultTypes = #[tb]) (htb : P.underlying tb = some .bool) (h1 : (s.fn H (ds ++ gs)).results = [.lit (.bool true)]) (h2 : (s.fn H (ds ++ gs)).args = ds) (h3 : (s.fn H (ds ++ gs)).vars = []) (hb : Below W.heap.size W W') :
    s.post enc P f apart fresh handsOn again W args (.bool true) W' := by
  have hlt := hW.lt
  obtain ⟨p, q, hA, hV, rfl, hz, hn⟩ := id hW
  rw [hv] at hV
  obtain ⟨rfl, rfl⟩ := trodVars_none hV
  have hargs : ∀ sp : Nat → Bool, (∀ x ∈ p ++ [], sp x.block = true) → DataW.TrodAll enc P W' 0 sp true f.params.toList args.toList (s.fn H (ds ++ [])).args p := fun sp hsp => by
    rw [h2]
    exact trodAll_stays hl _ _ _ _ hok hA (fun x hx => hb.same (hlt x (by simp [hx]))) (fun x hx => hsp x (by simp [hx]))
  have hvars : ∀ sp : Nat → Bool, DataW.TrodVars enc P W' sp s.vars (s.fn H (ds ++ [])).vars [] := fun sp => by
    rw [hv, h3]; rfl
  have hres : ∀ (b : Nat) (sp : Nat → Bool) (hd : Bool), DataW.TrodAll enc P W' b sp hd f.resultTypes.toList ((Value.bool true).resultList f.resultTypes.size) (s.fn H (ds ++ [])).results [] := fun b sp hd => by
    rw [h1, hrt]
    exact trodAll_cons_mk (shut_bool htb _) trodAll_mk0
  have hold : ∀ x ∈ p ++ [], (fun b => decide (b < W.heap.size)) x.block = true := fun x hx => by simpa using hlt x hx
  refine ⟨ds, [], p ++ [], [], p, [], hW, hres _ _ _, hargs _ hold, hvars _, World.keptBut_mono (fun x hx => ⟨hx, Or.inr (by simpa using hx)⟩) (hb.frame _), fun _ => ?_⟩
  refine ⟨ok_one hrt rfl (okWide_bool_mk htb _), _, _, ([] ++ p) ++ [], ⟨[] ++ p, [], trodAll_append (hargs _ (fun _ _ => rfl)) (hres _ _ _), hvars _, rfl, ?_, ?_⟩, ?_⟩
  · intro b off hp
    have hp' : MemPlace.cell b off ∈ p ++ [] := by simpa using hp
    rw [hb.frozen (p := ⟨b, off, none⟩) (hlt _ hp')]
    exact hz b off hp'
  · intro ha
    simpa using hn ha
  · intro x hx _
    simpa using hx
end
end Go.Abs
