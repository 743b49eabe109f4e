/-
  Soundness of the abstract operations that make or write memory.
-/
import Derived.Test.YtmcolhhmlpicaaaDoorAbsOps2
namespace Go.Abs
open Go Go.RowKit

def setE (E : Nat → Value) (d : Nat) (x : Value) : Nat → Value := fun t => if t = d then x else E t
theorem setE_same (E : Nat → Value) (d : Nat) (x : Value) : setE E d x d = x := by simp [setE]
theorem setE_ne (E : Nat → Value) {d t : Nat} (x : Value) (h : t ≠ d) : setE E d x t = E t := by simp [setE, h]
theorem upd_one_same (obj : Objs) (d : Nat) (x : Nat × AObj) : upd obj [(d, x)] d = x := by simp [upd]
theorem upd_one_ne (obj : Objs) {d t : Nat} (x : Nat × AObj) (h : t ≠ d) : upd obj [(d, x)] t = obj t := by
  simp only [upd]
  cases hb : Nat.beq d t with
  | false => rfl
  | true => exact absurd (Nat.eq_of_beq_eq_true hb).symm h
theorem upd_two_fst (obj : Objs) (s d : Nat) (x y : Nat × AObj) : upd obj [(s, x), (d, y)] s = x := by simp [upd]
theorem upd_two_snd (obj : Objs) {s d : Nat} (x y : Nat × AObj) (h : s ≠ d) : upd obj [(s, x), (d, y)] d = y := by
  simp only [upd]
  cases hb : Nat.beq s d with
  | false => simp
  | true => exact absurd (Nat.eq_of_beq_eq_true hb) h
theorem upd_two_ne (obj : Objs) {s d t : Nat} (x y : Nat × AObj) (h : t ≠ s) (h' : t ≠ d) : upd obj [(s, x), (d, y)] t = obj t := by
  simp only [upd]
  cases hb : Nat.beq s t with
  | true => exact absurd (Nat.eq_of_beq_eq_true hb).symm h
  | false =>
    cases hb' : Nat.beq d t with
    | true => exact absurd (Nat.eq_of_beq_eq_true hb').symm h'
    | false => rfl

section
variable {P : Program} {G : World → Prop} {T : Tab} {Z0 : Base} {w0 : World} {S : Nat → Prop} {n : Nat} {Z Z' : Zone} {E : Nat → Value} {st : St} {a : Act} {w w' : World}

theorem Inv.size_le (hI : Inv G Z0 w0 S n Z E st a w) : w0.heap.size ≤ w.heap.size := hI.below.size
theorem Inv.sltw (hI : Inv G Z0 w0 S n Z E st a w) (k : Nat) (hk : S k) : k < w.heap.size := Nat.lt_of_lt_of_le (hI.slt k hk) hI.size_le
theorem Inv.fresh (hI : Inv G Z0 w0 S n Z E st a w) {k : Nat} (hk : w.heap.size ≤ k) : ¬ S k := fun h => Nat.lt_irrefl _ (Nat.lt_of_lt_of_le (hI.sltw k h) hk)
theorem below_alloc (hI : Inv G Z0 w0 S n Z E st a w) (o : Obj) : Kept S w (w.alloc o) := (Kept.refl _ _).alloc hI.sltw o

/-- What may become of an object of the same generation. -/
def SameKind (o o' : AObj) : Prop :=
  match o, o' with
  | .var _, .var _ | .var _, .varx _ | .varx _, .varx _ | .varx _, .var _ => True
  | .ro _, .ro _ | .var _, .ro _ | .varx _, .ro _ | .ro _, .var _ | .ro _, .varx _ => True
  | .tok el s, .tok el' s' => el = el' ∧ s = s'
  | .arr el s _ _, .arr el' s' _ _ => el = el' ∧ s = s'
  | .map _, .map _ => True
  | _, _ => False
theorem objKeep_mk {obj obj' : Objs} {E E' : Nat → Value} (ch : Nat → Prop) (hsame : ∀ t, ¬ ch t → obj' t = obj t ∧ E' t = E t)
    (hch : ∀ t, ch t → (obj t).1 < (obj' t).1 ∨ ((obj' t).1 = (obj t).1 ∧ ((obj' t).2 = .spent ∨ (E' t = E t ∧ SameKind (obj t).2 (obj' t).2)))) : ObjKeep obj E obj' E' := by
  refine ⟨fun t => ?_, fun t g hg hl => ?_, fun t g el s hg ht => ?_, fun t g el sz ds foc hg ht => ?_, fun t g es hg ht => ?_⟩
  · by_cases h : ch t
    · rcases hch t h with h | h
      · exact Nat.le_of_lt h
      · rw [h.1]; exact Nat.le_refl _
    · rw [(hsame t h).1]; exact Nat.le_refl _
  · by_cases h : ch t
    · obtain ⟨cs, hl⟩ := hl
      rcases hch t h with h | ⟨hgen, h | ⟨hE, hk⟩⟩
      · rcases hl with hl | hl | hl <;> (rw [hl] at h; simp only at h; omega)
      · rcases hl with hl | hl | hl <;> (rw [hl] at h; simp at h)
      · refine ⟨?_, hE⟩
        have hg2 : (obj t).1 = g := by rcases hl with hl | hl | hl <;> (rw [hl] at hgen; exact hgen.symm)
        cases ho : obj t with
        | mk g0 o =>
          rw [ho] at hk hg2
          simp only at hk hg2
          subst hg2
          rcases hl with hl | hl | hl <;> rw [hl] at hk <;> cases o <;> simp only [SameKind] at hk <;> first | exact ⟨_, .inl ho⟩ | exact ⟨_, .inr (.inl ho)⟩ | exact ⟨_, .inr (.inr ho)⟩
    · rw [show live obj' t g = live obj t g from by unfold live; rw [(hsame t h).1]] at hl
      exact ⟨hl, (hsame t h).2⟩
  · by_cases h : ch t
    · rcases hch t h with h | ⟨hgen, h | ⟨hE, hk⟩⟩
      · rw [ht] at h; simp only at h; omega
      · rw [ht] at h; simp at h
      · refine ⟨?_, hE⟩
        rw [ht] at hgen hk
        cases ho : obj t with
        | mk g0 o =>
          rw [ho] at hk hgen
          simp only at hk hgen
          subst hgen
          cases o <;> simp only [SameKind] at hk
          rw [hk.1, hk.2]
    · rw [(hsame t h).1] at ht; exact ⟨ht, (hsame t h).2⟩
  · by_cases h : ch t
    · rcases hch t h with h | ⟨hgen, h | ⟨hE, hk⟩⟩
      · rw [ht] at h; simp only at h; omega
      · rw [ht] at h; simp at h
      · refine ⟨?_, hE⟩
        rw [ht] at hgen hk
        cases ho : obj t with
        | mk g0 o =>
          rw [ho] at hk hgen
          simp only at hk hgen
          subst hgen
          cases o <;> simp only [SameKind] at hk
          exact ⟨_, _, by rw [hk.1, hk.2]⟩
    · rw [(hsame t h).1] at ht; exact ⟨⟨_, _, ht⟩, (hsame t h).2⟩
  · by_cases h : ch t
    · rcases hch t h with h | ⟨hgen, h | ⟨hE, hk⟩⟩
      · rw [ht] at h; simp only at h; omega
      · rw [ht] at h; simp at h
      · refine ⟨?_, hE⟩
        rw [ht] at hgen hk
        cases ho : obj t with
        | mk g0 o =>
          rw [ho] at hk hgen
          simp only at hk hgen
          subst hgen
          cases o <;> simp only [SameKind] at hk
          exact ⟨_, rfl⟩
    · rw [(hsame t h).1] at ht; exact ⟨⟨_, ht⟩, (hsame t h).2⟩
/-- The general step: some objects are laid anew. -/
theorem Inv.renew (hI : Inv G Z0 w0 S n Z E st a w) {d : Option Nat} {r : SV} {x : Value} {obj' : Objs} {E' : Nat → Value} (ch : Nat → Prop) (hd : inRange n d = true)
    (hb : Kept S w w') (hk : Keeps Z w Z' w') (hlt : ∀ b o, Z' b o → b < w'.heap.size) (hnew : ∀ b o, Z' b o → Z b o ∨ ¬ S b)
    (hsame : ∀ t, ¬ ch t → obj' t = st.obj t ∧ E' t = E t)
    (hch : ∀ t, ch t → (st.obj t).1 < (obj' t).1 ∨ ((obj' t).1 = (st.obj t).1 ∧ ((obj' t).2 = .spent ∨ (E' t = E t ∧ SameKind (st.obj t).2 (obj' t).2))))
    (hobj : ObjKeep st.obj E obj' E' → ∀ t, ch t → ObjOk Z' w' obj' E' (E' t) (obj' t).2)
    (hframe : ∀ t, ¬ ch t → ∀ b, (st.obj t).2.blk (E t) = some b → w'.heap[b]? = w.heap[b]? ∧ (∀ k, Z' b k → Z b k) ∧ ∀ s, ch s → (obj' s).2.blk (E' s) ≠ some b)
    (hap : ∀ t t' b, ch t → ch t' → t ≠ t' → (obj' t).2.blk (E' t) = some b → (obj' t').2.blk (E' t') ≠ some b)
    (how : ∀ t, ch t → ∀ b, (obj' t).2.blk (E' t) = some b → ¬ S b)
    (hr : RepS Z' w' obj' E' r x) : Inv G Z0 w0 S n Z' E' ⟨put st.env d r, obj'⟩ (a.put d x) w' := by
  have hok := objKeep_mk ch hsame hch
  refine hI.step hd hb hk hlt hnew hok (fun t => ?_) (fun t t' b hne h1 h2 => ?_) (fun t b hb' => ?_) hr
  rotate_right
  · by_cases h : ch t
    · exact how t h b hb'
    · rw [(hsame t h).1, (hsame t h).2] at hb'
      exact hI.own t b hb'
  · by_cases h : ch t
    · exact hobj hok t h
    · rw [(hsame t h).1, (hsame t h).2]
      exact (hI.obj t).keep hk hok fun b hb => ⟨(hframe t h b hb).1, (hframe t h b hb).2.1⟩
  · by_cases h : ch t
    · by_cases h' : ch t'
      · exact hap t t' b h h' hne h1 h2
      · rw [(hsame t' h').1, (hsame t' h').2] at h2
        exact (hframe t' h' b h2).2.2 t h h1
    · rw [(hsame t h).1, (hsame t h).2] at h1
      by_cases h' : ch t'
      · exact (hframe t h b h1).2.2 t' h' h2
      · rw [(hsame t' h').1, (hsame t' h').2] at h2
        exact hI.apart t t' b hne h1 h2

/-- A new variable of the call's own. -/
theorem Inv.newVar (hI : Inv G Z0 w0 S n Z E st a w) {d : Nat} (hd : inRange n (some d) = true) (cs : List CV) (arr : Array Value) (el : TypeId) (hsz : arr.size = cs.length)
    (hc : ∀ (j : Nat) (c : CV), cs[j]? = some c → c.atom = true ∧ ∃ x, arr[j]? = some x ∧ Rep Z w c x) :
    Inv G Z0 w0 S n Z (setE E d (.pointer (some ⟨w.heap.size, 0, none⟩))) ⟨put st.env (some d) (.pm d ((st.obj d).1 + 1) 0), upd st.obj [(d, ((st.obj d).1 + 1, .var cs))]⟩
      (a.put (some d) (.pointer (some ⟨w.heap.size, 0, none⟩))) (w.alloc (.cells arr el)) := by
  have hk : Keeps Z w Z (w.alloc (.cells arr el)) := Keeps.alloc hI.zlt _
  have hother : ∀ t, t ≠ d → upd st.obj [(d, ((st.obj d).1 + 1, .var cs))] t = st.obj t := fun t h => upd_one_ne _ _ h
  have hsame : upd st.obj [(d, ((st.obj d).1 + 1, .var cs))] d = ((st.obj d).1 + 1, .var cs) := upd_one_same _ _ _
  refine hI.renew (· = d) hd (below_alloc hI _) hk (fun b o h => by have := hI.zlt b o h; simp; omega) (fun _ _ h => .inl h) (fun t ht => ⟨hother t ht, setE_ne E _ ht⟩) ?_ ?_ ?_ ?_ ?_ ?_
  · rintro t rfl; rw [hsame]; exact .inl (Nat.lt_succ_self _)
  · rintro _ t rfl
    rw [hsame, setE_same]
    refine ⟨w.heap.size, el, arr, rfl, heap_alloc_new w _, hsz, fun j c hj => ?_, fun o hz => Nat.lt_irrefl _ (hI.zlt _ _ hz)⟩
    obtain ⟨h1, x, h2, h3⟩ := hc j c hj
    exact ⟨h1, x, h2, h3.keep hk⟩
  · intro t ht b hb
    have hlt := (hI.obj t).lt hb
    refine ⟨heap_alloc_old w _ hlt, fun _ hz => hz, ?_⟩
    rintro s rfl h
    rw [hsame, setE_same] at h
    simp [AObj.blk] at h
    omega
  · rintro t t' b rfl rfl h; exact absurd rfl h
  · rintro t rfl b hb
    rw [hsame, setE_same] at hb
    simp [AObj.blk] at hb
    exact hI.fresh (by omega)
  · refine .pm _ _ _ _ ⟨_, rfl⟩ ?_ fun _ => ⟨w.heap.size, setE_same _ _ _, rfl⟩
    rw [hsame]
    exact Nat.le_refl _

theorem rep_ofVal (x : Value) : Rep Z w (ofVal x) x := by
  unfold ofVal
  split
  · exact .nil _ _ _
  · exact .v _
theorem atom_ofVal {x : Value} (h : x.oneCell' = true) : (ofVal x).atom = true := by
  unfold ofVal
  split
  · rfl
  · exact h
theorem zero_cells {t : Nat} {i : TI} (h : TOk1 P t i) : (zeroVal i).cells = i.zero.toArray := by
  unfold zeroVal
  cases hagg : i.isAgg with
  | true => rfl
  | false =>
    have hs := h.single hagg
    have hl := h.len
    rw [hs] at hl
    match hz : i.zero, hl with
    | [z], _ =>
      have ho := h.one
      rw [hz] at ho
      simp at ho
      simp only [cond_false, List.headD]
      cases z <;> first | rfl | simp [Value.oneCell'] at ho
theorem zeroC_len : ∀ (zs : List Value) (ks : List Nat), (zeroC zs ks).length = zs.length
  | [], _ => rfl
  | _ :: r, ks => congrArg Nat.succ (zeroC_len r ks.tail)
theorem zeroC_get : ∀ (zs : List Value) (ks : List Nat), zs.all (fun z => z.oneCell') = true → ∀ (j : Nat) (c : CV), (zeroC zs ks)[j]? = some c → c.atom = true ∧ ∃ x, zs[j]? = some x ∧ Rep Z w c x
  | [], _, _, j, c, h => by simp [zeroC] at h
  | z :: r, ks, ho, 0, c, h => by
    simp only [List.all_cons, Bool.and_eq_true] at ho
    simp only [zeroC, List.getElem?_cons_zero, Option.some.injEq] at h
    subst h
    refine ⟨?_, z, rfl, ?_⟩
    · split
      · rfl
      · exact ho.1
    · split
      · exact .nil _ _ _
      · exact .v _
  | z :: r, ks, ho, j + 1, c, h => by
    simp only [List.all_cons, Bool.and_eq_true] at ho
    simp only [zeroC, List.getElem?_cons_succ] at h ⊢
    exact zeroC_get r ks.tail ho.2 j c h
theorem zero_rep {t : Nat} {i : TI} (h : TOk1 P t i) (j : Nat) (c : CV) (hj : (zeroC i.zero i.ks)[j]? = some c) : c.atom = true ∧ ∃ x, i.zero.toArray[j]? = some x ∧ Rep Z w c x := by
  obtain ⟨h1, x, h2, h3⟩ := zeroC_get (Z := Z) (w := w) i.zero i.ks h.one j c hj
  exact ⟨h1, x, by simpa using h2, h3⟩

theorem sound_alloc (hT : TOk P T) (dst : Option Nat) (e : TypeId) (type : TypeId) (pos : String) (after : Array Edge) (guard : Option (Nat × Bool)) : OpSound P G T ⟨dst, .alloc e, type, pos, after, guard⟩ := by
  intro Z0 w0 S n Z E st a w K next Q F hI hd h hX hn
  simp only [wpOp] at h
  split at h
  · rename_i i d hti
    have hi := hT _ _ hti
    obtain ⟨j, hj, hjs, _, hjz⟩ := hi.infoE
    refine wp_value ?_ (hn _ _ _ _ _ _ _ h (hI.newVar hd (zeroC i.zero i.ks) i.zero.toArray e (by simp [zeroC_len]) (fun j c hj => zero_rep hi j c hj)))
    simp [execOp, Instr.alloc, zeroValue, typeInfo, hj, hjz, newVar, newRow, zero_cells hi]
  · first | exact h.elim | exact hX h

theorem cells_rep {c : CV} {x : Value} (h : Rep Z w c x) (hs : c.storable = true) : x.cells.size = c.cells.length ∧ ∀ (j : Nat) (d : CV), c.cells[j]? = some d → d.atom = true ∧ ∃ y, x.cells[j]? = some y ∧ Rep Z w d y := by
  have one : ∀ (c : CV) (x : Value), c.cells = [c] → x.cells = #[x] → c.atom = true → Rep Z w c x → x.cells.size = c.cells.length ∧ ∀ (j : Nat) (d : CV), c.cells[j]? = some d → d.atom = true ∧ ∃ y, x.cells[j]? = some y ∧ Rep Z w d y := by
    intro c x h1 h2 h3 h4
    refine ⟨by simp [h1, h2], fun j d hj => ?_⟩
    rw [h1] at hj
    match j, hj with
    | 0, hj => simp at hj; subst hj; exact ⟨h3, x, by simp [h2], h4⟩
    | j + 1, hj => simp at hj
  cases h with
  | agg cs vs hl hr ha =>
    refine ⟨by simp [Value.cells, CV.cells, hl], fun j d hj => ⟨ha j d hj, ?_⟩⟩
    simp only [CV.cells] at hj
    have hlt : j < cs.length := (List.getElem?_eq_some_iff.1 hj).1
    have hv : vs[j]? = some (vs[j]'(by omega)) := List.getElem?_eq_getElem (by omega)
    exact ⟨_, by simp [Value.cells, hv], hr j d _ hj hv⟩
  | tup vs us hl hr => simp [CV.storable, CV.atom] at hs
  | v x =>
    have hx : x.oneCell' = true := hs
    exact one _ _ rfl (by cases x <;> first | rfl | simp [Value.oneCell'] at hx) hx (.v x)
  | nil sz a cap => exact one _ _ rfl rfl rfl (.nil _ _ _)
  | sl sz ds b o cap f hcap hsz hc hr => exact one _ _ rfl rfl rfl (.sl sz ds b o cap f hcap hsz hc hr)
  | pi cs b o off f hc hr => exact one _ _ rfl rfl rfl (.pi cs b o off f hc hr)
  | fn f caps vs hl hr => exact one _ _ rfl rfl rfl (.fn f caps vs hl hr)
  | mpn => exact one _ _ rfl rfl rfl .mpn
  | mp es b arr clock hz hh hl hk hv => exact one _ _ rfl rfl rfl (.mp es b arr clock hz hh hl hk hv)

theorem sound_box (dst : Option Nat) (e : TypeId) (x : Operand) (type : TypeId) (pos : String) (after : Array Edge) (guard : Option (Nat × Bool)) : OpSound P G T ⟨dst, .box e x, type, pos, after, guard⟩ := by
  intro Z0 w0 S n Z E st a w K next Q F hI hd h hX hn
  have hx := look_rep hI x
  simp only [wpOp] at h
  split at h
  · rename_i c d hc
    replace h := bif_true h
    obtain ⟨hs, h⟩ := h
    obtain ⟨hsz, hcell⟩ := cells_rep (asC_rep hx hc) hs
    refine wp_value ?_ (hn _ _ _ _ _ _ _ h (hI.newVar hd c.cells (a.eval x).cells e hsz hcell))
    simp [execOp, Instr.box, newVar, newRow]
  · first | exact h.elim | exact hX h

theorem setAt_spec : ∀ (cs : List CV) (off : Nat) (xs ys : List CV), setAt cs off xs = some ys → ys.length = cs.length ∧ (xs = [] ∨ off + xs.length ≤ cs.length) ∧
    ∀ (j : Nat), ys[j]? = if off ≤ j ∧ j < off + xs.length then xs[j - off]? else cs[j]?
  | cs, off, [], ys, h => by
    cases cs <;> simp [setAt] at h <;> subst h <;> exact ⟨rfl, .inl rfl, fun j => by rw [if_neg (by simp)]⟩
  | [], off, x :: xs, ys, h => by simp [setAt] at h
  | c :: r, 0, x :: xs, ys, h => by
    simp only [setAt] at h
    split at h
    · rename_i zs hz
      simp at h
      subst h
      obtain ⟨h1, h2, h3⟩ := setAt_spec r 0 xs zs hz
      refine ⟨by simp [h1], .inr ?_, fun j => ?_⟩
      · rcases h2 with h2 | h2
        · subst h2; simp
        · simp at h2 ⊢; omega
      · cases j with
        | zero => simp
        | succ j =>
          have := h3 j
          simp only [Nat.zero_le, true_and, Nat.zero_add, Nat.sub_zero] at this
          simp only [List.getElem?_cons_succ, this, Nat.zero_le, true_and, Nat.zero_add, Nat.sub_zero, List.length_cons, Nat.add_lt_add_iff_right]
    · simp at h
  | c :: r, off + 1, x :: xs, ys, h => by
    simp only [setAt] at h
    split at h
    · rename_i zs hz
      simp at h
      subst h
      obtain ⟨h1, h2, h3⟩ := setAt_spec r off (x :: xs) zs hz
      refine ⟨by simp [h1], .inr ?_, fun j => ?_⟩
      · rcases h2 with h2 | h2
        · cases h2
        · simp at h2 ⊢; omega
      · cases j with
        | zero => simp
        | succ j =>
          rw [List.getElem?_cons_succ, h3 j]
          simp only [List.length_cons, Nat.add_le_add_iff_right, List.getElem?_cons_succ]
          by_cases hj : off ≤ j ∧ j < off + (xs.length + 1)
          · rw [if_pos hj, if_pos (by omega)]; congr 1; omega
          · rw [if_neg hj, if_neg (by omega)]
    · simp at h

/-- A variable of the call's own is written. -/
theorem Inv.setVar (hI : Inv G Z0 w0 S n Z E st a w) {d : Option Nat} (hd : inRange n d = true) {s g b : Nat} {cs cs' : List CV} {arr arr' : Array Value} {el : TypeId} (ho : st.obj s = (g, .var cs))
    (hE : E s = .pointer (some ⟨b, 0, none⟩)) (hh : w.heap[b]? = some (.cells arr el (0, 0))) (hsz : arr'.size = cs'.length) (x : Value)
    (hc : ∀ (j : Nat) (c : CV), cs'[j]? = some c → c.atom = true ∧ ∃ x, arr'[j]? = some x ∧ Rep Z w c x) :
    Inv G Z0 w0 S n Z E ⟨put st.env d .any, upd st.obj [(s, (g, .var cs'))]⟩ (a.put d x) (w.setRow b arr') := by
  have hos := hI.obj s
  rw [ho] at hos
  obtain ⟨b', el', arr0, he, _, _, _, hz⟩ := hos
  have hbb : b' = b := by rw [hE] at he; injection he with h1; injection h1 with h1; injection h1 with h1; exact h1.symm
  subst hbb
  have hnS : ¬ S b' := hI.own s b' (by rw [ho, hE]; rfl)
  have hk : Keeps Z w Z (w.setRow b' arr') := fun b o hz' => ⟨hz', keep_heap (setRow_other w b' b arr' (fun e => by subst e; exact hz o hz'))⟩
  have hother : ∀ t, t ≠ s → upd st.obj [(s, (g, .var cs'))] t = st.obj t := fun t h => upd_one_ne _ _ h
  have hsame : upd st.obj [(s, (g, .var cs'))] s = (g, .var cs') := upd_one_same _ _ _
  refine hI.renew (· = s) hd ⟨rfl, rfl, rfl, by simp [World.setRow], fun k hk => setRow_other w b' k arr' (fun e => hnS (e ▸ hk))⟩ hk (fun b o h => by have := hI.zlt b o h; simpa [World.setRow] using this) (fun _ _ h => .inl h) (fun t ht => ⟨hother t ht, rfl⟩) ?_ ?_ ?_ ?_ ?_ (.any _)
  · rintro t rfl; rw [hsame, ho]; exact .inr ⟨rfl, .inr ⟨rfl, trivial⟩⟩
  · rintro _ t rfl
    rw [hsame]
    refine ⟨b', el, arr', hE, setRow_heap w b' arr arr' el (0, 0) hh, hsz, fun j c hj => ?_, hz⟩
    obtain ⟨h1, y, h2, h3⟩ := hc j c hj
    exact ⟨h1, y, h2, h3.keep hk⟩
  · intro t ht b hb
    have hne : b ≠ b' := fun e => by subst e; exact hI.apart t s b ht hb (by rw [ho, hE]; rfl)
    refine ⟨setRow_other w b' b arr' hne, fun _ hz => hz, ?_⟩
    rintro s' rfl h
    rw [hsame, hE] at h
    simp [AObj.blk] at h
    exact hne h.symm
  · rintro t t' b rfl rfl h; exact absurd rfl h
  · rintro t rfl b hb
    rw [hsame, hE] at hb
    simp [AObj.blk] at hb
    subst hb
    exact hnS

theorem sound_store (hT : TOk P T) (dst : Option Nat) (t : TypeId) (x y : Operand) (type : TypeId) (pos : String) (after : Array Edge) (guard : Option (Nat × Bool)) : OpSound P G T ⟨dst, .store t x y, type, pos, after, guard⟩ := by
  intro Z0 w0 S n Z E st a w K next Q F hI hd h hX hn
  have hx := look_rep hI x
  have hy := look_rep hI y
  simp only [wpOp] at h
  split at h
  · rename_i i s g off c hti hlx hcy
    have hi := hT _ _ hti
    rw [hlx] at hx
    split at h
    · rename_i g' cs ho
      replace h := bif_true h
      obtain ⟨hb, h⟩ := h
      simp only [Bool.and_eq_true] at hb
      obtain ⟨⟨⟨hgg, hlen⟩, hst⟩, hpos⟩ := hb
      have := Nat.eq_of_beq_eq_true hgg
      subst this
      split at h
      · rename_i cs' hset
        obtain ⟨hys, hyc⟩ := cells_rep (asC_rep hy hcy) hst
        have hcl : c.cells.length = i.size := Nat.eq_of_beq_eq_true hlen
        have hip : 1 ≤ i.size := Nat.le_of_ble_eq_true hpos
        obtain ⟨h1, h2, h3⟩ := setAt_spec _ _ _ _ hset
        obtain ⟨b, hE, hxe, _⟩ := var_cells hI (.inl ho) hx
        have hos := hI.obj s
        rw [ho] at hos
        obtain ⟨b', el, arr, he, hh, hs, hc, _⟩ := hos
        have hbb : b' = b := by rw [hE] at he; injection he with h1; injection h1 with h1; injection h1 with h1; exact h1.symm
        subst hbb
        have hfit : off + (a.eval y).cells.toList.length ≤ arr.size := by
          rcases h2 with h2 | h2
          · rw [h2] at hcl; simp at hcl; omega
          · rw [Array.length_toList, hys, hs]; exact h2
        have hone : ∀ v ∈ (a.eval y).cells.toList, v.oneCell' = true := fun v hv => by
          obtain ⟨j, hj, hjv⟩ := List.getElem_of_mem hv
          have hj' : j < c.cells.length := by rw [← hys]; simpa using hj
          have hcj : c.cells[j]? = some (c.cells[j]'hj') := List.getElem?_eq_getElem hj'
          obtain ⟨hat, u, hu, hr⟩ := hyc j _ hcj
          have : u = v := by
            rw [Array.getElem?_eq_getElem (by simpa using hj)] at hu
            simp at hu hjv
            rw [← hu, ← hjv]
          subst this
          exact hr.atom hat
        have hrun := run_storeCells_at (P := P) b' off el (a.eval y).cells.toList 0 arr w hh (by simpa using hfit) hone
        refine wp_skip' ?_ (hn _ _ _ _ _ _ _ h (hI.setVar (arr' := (arr.toList.take (off + 0) ++ (a.eval y).cells.toList ++ arr.toList.drop (off + 0 + (a.eval y).cells.toList.length)).toArray) hd ho hE hh ?_ undef ?_))
        · simp only [execOp, hxe, Instr.storeAt, Instr.sureAddr, storeVar, Sem.run_bind, Sem.run_pure, Result.andThen_ok, hi.sizeOf w]
          rw [if_neg (by rw [hys, hcl]; simp)]
          simp only [Sem.run_pure, Result.andThen_ok, hrun]
        · simp only [Nat.add_zero, List.size_toArray, List.length_append, List.length_take, List.length_drop, Array.length_toList, h1, ← hs]
          simp only [Array.length_toList] at hfit
          omega
        · intro j c' hj
          have hjl : j < cs.length := by rw [← h1]; exact (List.getElem?_eq_some_iff.1 hj).1
          rw [h3 j] at hj
          have hget : ((arr.toList.take (off + 0) ++ (a.eval y).cells.toList ++ arr.toList.drop (off + 0 + (a.eval y).cells.toList.length)).toArray)[j]? =
              if off ≤ j ∧ j < off + c.cells.length then (a.eval y).cells[j - off]? else arr[j]? := by
            simp only [Nat.add_zero, List.getElem?_toArray, List.append_assoc]
            have hl1 : (arr.toList.take off).length = off := by simp at hfit ⊢; omega
            by_cases hjo : j < off
            · rw [List.getElem?_append_left (by omega), List.getElem?_take, if_pos hjo, if_neg (by omega)]; simp
            · rw [List.getElem?_append_right (by omega), hl1]
              by_cases hjk : j < off + c.cells.length
              · rw [List.getElem?_append_left (by rw [Array.length_toList, hys]; omega), if_pos (by omega)]; simp
              · rw [List.getElem?_append_right (by rw [Array.length_toList, hys]; omega), if_neg (by omega), List.getElem?_drop]
                simp only [Array.length_toList, hys, Array.getElem?_toList]
                congr 1
                omega
          rw [hget]
          by_cases hin : off ≤ j ∧ j < off + c.cells.length
          · rw [if_pos hin] at hj ⊢
            exact hyc _ c' hj
          · rw [if_neg hin] at hj ⊢
            exact hc j c' hj
      · first | exact h.elim | exact hX h
    · first | exact h.elim | exact hX h
  · first | exact h.elim | exact hX h
end
end Go.Abs
