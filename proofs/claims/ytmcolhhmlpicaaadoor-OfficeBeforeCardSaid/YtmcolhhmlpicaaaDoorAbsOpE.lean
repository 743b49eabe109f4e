/-
  What is known of more operations: parts of slices and strings, comparisons of structs and with nil, sorting.
-/
import Derived.Test.YtmcolhhmlpicaaaDoorAbsMap
import Derived.Laws.StructEq
namespace Go.Abs
open Go Go.RowKit

def slc {α : Type} (l : List α) (lo hi : Int) : Option (List α) := bif decide (0 ≤ lo ∧ lo ≤ hi ∧ hi ≤ l.length) then some ((l.drop lo.toNat).take (hi.toNat - lo.toNat)) else .none
theorem slc_spec {α : Type} {l r : List α} {lo hi : Int} (h : slc l lo hi = some r) : ∃ a b : Nat, lo = a ∧ hi = b ∧ a ≤ b ∧ b ≤ l.length ∧ r = (l.drop a).take (b - a) := by
  unfold slc at h
  cases hb : decide (0 ≤ lo ∧ lo ≤ hi ∧ hi ≤ l.length) with
  | false => rw [hb] at h; simp at h
  | true =>
    rw [hb] at h
    have hc := of_decide_eq_true hb
    simp at h
    exact ⟨lo.toNat, hi.toNat, by omega, by omega, by omega, by omega, h.symm⟩

section
variable {P : Program} {G : World → Prop} {Z : Zone} {w : World}
def BoundIs (o : Option Value) (n dflt : Nat) : Prop := (o = none ∧ n = dflt) ∨ ∃ k, o = some (.int k n)
theorem run_sliceBound (k : IntKind) {i y : Nat} (h : i ≤ y) (code : BoundsCode) (w : World) : (Instr.sliceBound (.int k i) y code).run P w = .ok i w := by
  have : ((0 : Int) ≤ (i : Int) ∧ (i : Int) ≤ (y : Int)) := by omega
  simp [Instr.sliceBound, asIntOf, h]
theorem run_sliceBounds (isS : Bool) {len cap l h : Nat} (hlc : len ≤ cap) (hlh : l ≤ h) (hh : h ≤ len) {lo hi : Option Value} (hlo : BoundIs lo l 0) (hhi : BoundIs hi h len) (w : World) :
    (Instr.sliceBounds isS len cap lo hi none).run P w = .ok (l, h, cap) w := by
  rcases hlo with ⟨rfl, rfl⟩ | ⟨k1, rfl⟩ <;> rcases hhi with ⟨rfl, rfl⟩ | ⟨k2, rfl⟩
  · simp [Instr.sliceBounds]
  · simp only [Instr.sliceBounds, Sem.run_bind, Sem.run_pure, Result.andThen_ok, run_sliceBound (P := P) k2 (Nat.le_trans hh hlc)]
  · simp only [Instr.sliceBounds, Sem.run_bind, Sem.run_pure, Result.andThen_ok, run_sliceBound (P := P) k1 hlh]
  · simp only [Instr.sliceBounds, Sem.run_bind, Sem.run_pure, Result.andThen_ok, run_sliceBound (P := P) k2 (Nat.le_trans hh hlc), run_sliceBound (P := P) k1 hlh]
theorem run_slice {t e : TypeId} {i : TI} (ht : P.underlying t = some (.slice e)) (hi : TOk1 P e i) {ds : List (List CV)} {v : Value} (hv : Rep Z w (.sl i.size ds) v) {l h : Nat} (hlh : l ≤ h) (hh : h ≤ ds.length) {lo hi' : Option Value} (hlo : BoundIs lo l 0) (hhi : BoundIs hi' h ds.length) :
    ∃ v', (Instr.sliceAt t v lo hi' none).run P w = .ok v' w ∧ Rep Z w (.sl i.size ((ds.drop l).take (h - l))) v' := by
  have key : ∀ (a : Option Addr) (cap : Nat), v = .slice a ds.length cap → ds.length ≤ cap → (Instr.sliceAt t v lo hi' none).run P w = .ok (.slice (if cap = l then a else a.map (·.add (l * i.size))) (h - l) (cap - l)) w := by
    intro a cap he hc
    subst he
    simp only [Instr.sliceAt, Sem.run_bind, run_underlying ht, Result.andThen_ok, Instr.slice, run_sliceBounds true hc hlh hh hlo hhi, hi.sizeOf, Sem.run_pure]
  generalize hcv : CV.sl i.size ds = cv at hv
  cases hv with
  | nil sz a cap =>
    injection hcv with h1 h2
    subst h2
    simp at hh
    subst hh
    have hl0 : l = 0 := Nat.le_zero.1 hlh
    subst hl0
    refine ⟨_, key a cap rfl (Nat.zero_le _), ?_⟩
    simp only [List.drop_nil, List.take_nil]
    exact .nil _ _ _
  | sl sz ds' b o cap f hcap hsz hc hr =>
    injection hcv with h1 h2
    subst h1
    subst h2
    refine ⟨_, key (some ⟨b, o, none⟩) cap rfl hcap, ?_⟩
    by_cases hle : l = h
    · subst hle
      simp only [Nat.sub_self, List.take_zero]
      exact .nil _ _ _
    · have hcl : cap ≠ l := by omega
      rw [if_neg hcl]
      show Rep Z w _ (Value.slice (some (Addr.add ⟨b, o, none⟩ (l * i.size))) (h - l) (cap - l))
      rw [show Addr.add ⟨b, o, none⟩ (l * i.size) = ⟨b, o + l * i.size, none⟩ by simp [Addr.add]]
      have hlen : ((ds.drop l).take (h - l)).length = h - l := by simp; omega
      have hget : ∀ (k : Nat) (d : List CV), ((ds.drop l).take (h - l))[k]? = some d → ds[l + k]? = some d := fun k d hk => by
        rw [List.getElem?_take] at hk
        split at hk
        · rw [List.getElem?_drop] at hk; exact hk
        · simp at hk
      have := Rep.sl (Z := Z) (w := w) i.size ((ds.drop l).take (h - l)) b (o + l * i.size) (cap - l) (fun k j => f (l + k) j) (by omega) (fun k d hk => hsz (l + k) d (hget k d hk))
        (fun k j d c h1 h2 => by
          have := hc (l + k) j d c (hget k d h1) h2
          rw [show o + l * i.size + k * i.size + j = o + (l + k) * i.size + j by rw [Nat.add_mul]; omega]
          exact this)
        (fun k j d c h1 h2 => hr (l + k) j d c (hget k d h1) h2)
      rw [hlen] at this
      exact this
  | _ => cases hcv
theorem slice_op0 {t : TypeId} {x : Operand} {a b : Option Operand} : (Op.slice t x a b none).operands[0]? = some x := by cases a <;> cases b <;> rfl

theorem slice_core {α : Type} {t e : TypeId} {i : TI} (ht : P.underlying t = some (.slice e)) (hi : TOk1 P e i) {cf : α → List CV} {l r : List α} {lo hi' : Int} (h : slc l lo hi' = some r) {x : Operand} {a b : Option Operand} {ty : TypeId} {sa : List SV}
    (hsa : ∀ (Z : Zone) (w : World) (Eo : Nat → Value) (ac : Act), (∀ (j : Nat) (s : SV) (y : Operand), (SV.c (.sl i.size (l.map cf)) :: sa)[j]? = some s → (Op.slice t x a b none).operands[j]? = some y → RepS Z w (objL []) Eo s (ac.eval y)) →
      BoundIs (a.map ac.eval) lo.toNat 0 ∧ BoundIs (b.map ac.eval) hi'.toNat l.length) :
    EffOp P G (.slice t x a b none) ty (.c (.sl i.size (l.map cf)) :: sa) [] (.c (.sl i.size (r.map cf))) [] := by
  intro Z w Eo ac o next Q ho hty hg hzl hl hargs hgs hnext
  obtain ⟨p, q, hp, hq, h1, h2, hr⟩ := slc_spec h
  have hx : Rep Z w (.sl i.size (l.map cf)) (ac.eval x) := by
    have := hargs 0 _ x rfl slice_op0
    cases this with | c _ _ h => exact h
  obtain ⟨b1, b2⟩ := hsa Z w Eo ac hargs
  obtain ⟨v', hrun, hrep⟩ := run_slice ht hi hx (l := p) (h := q) h1 (by simpa using h2) (by rw [hp] at b1; simpa using b1) (by rw [hq] at b2; simpa using b2)
  have hex : (execOp ac.eval o).run P w = .ok (.value v') w := by
    obtain ⟨dst, op, type, pos, after, guard⟩ := o
    simp only at ho
    subst ho
    simp only [execOp, Option.map_none, Sem.run_bind, hrun, Result.andThen_ok, Sem.run_pure]
  refine wp_value hex (hnext _ Z w Eo (effpost_same hg hzl (.c _ _ ?_)))
  rw [hr, List.map_take, List.map_drop]
  exact hrep
theorem eff_slice_h {α : Type} {t e : TypeId} {i : TI} (ht : P.underlying t = some (.slice e)) (hi : TOk1 P e i) {cf : α → List CV} {l r : List α} {hi' : Int} (h : slc l 0 hi' = some r) {x b : Operand} {ty : TypeId} {k : IntKind} :
    EffOp P G (.slice t x none (some b) none) ty [.c (.sl i.size (l.map cf)), .c (.v (.int k hi'))] [] (.c (.sl i.size (r.map cf))) [] :=
  slice_core ht hi h fun Z w Eo ac hargs => by
    obtain ⟨p, q, hp, hq, h1, h2, hr⟩ := slc_spec h
    have := rep_cv (hargs 1 _ b rfl (by simp [Op.operands]))
    exact ⟨.inl ⟨rfl, rfl⟩, .inr ⟨k, by simp [this, hq]⟩⟩
theorem eff_slice_l {α : Type} {t e : TypeId} {i : TI} (ht : P.underlying t = some (.slice e)) (hi : TOk1 P e i) {cf : α → List CV} {l r : List α} {lo : Int} (h : slc l lo l.length = some r) {x b : Operand} {ty : TypeId} {k : IntKind} :
    EffOp P G (.slice t x (some b) none none) ty [.c (.sl i.size (l.map cf)), .c (.v (.int k lo))] [] (.c (.sl i.size (r.map cf))) [] :=
  slice_core ht hi h fun Z w Eo ac hargs => by
    obtain ⟨p, q, hp, hq, h1, h2, hr⟩ := slc_spec h
    have := rep_cv (hargs 1 _ b rfl (by simp [Op.operands]))
    exact ⟨.inr ⟨k, by simp [this, hp]⟩, .inl ⟨rfl, by simp⟩⟩
theorem eff_slice_lh {α : Type} {t e : TypeId} {i : TI} (ht : P.underlying t = some (.slice e)) (hi : TOk1 P e i) {cf : α → List CV} {l r : List α} {lo hi' : Int} (h : slc l lo hi' = some r) {x a b : Operand} {ty : TypeId} {k k' : IntKind} :
    EffOp P G (.slice t x (some a) (some b) none) ty [.c (.sl i.size (l.map cf)), .c (.v (.int k lo)), .c (.v (.int k' hi'))] [] (.c (.sl i.size (r.map cf))) [] :=
  slice_core ht hi h fun Z w Eo ac hargs => by
    obtain ⟨p, q, hp, hq, h1, h2, hr⟩ := slc_spec h
    have e1 := rep_cv (hargs 1 _ a rfl (by simp [Op.operands]))
    have e2 := rep_cv (hargs 2 _ b rfl (by simp [Op.operands]))
    exact ⟨.inr ⟨k, by simp [e1, hp]⟩, .inr ⟨k', by simp [e2, hq]⟩⟩

/-- Parts of strings. -/
theorem str_extract (s : List UInt8) (l h : Nat) : (ByteArray.mk ⟨s⟩).extract l h = ⟨⟨(s.drop l).take (h - l)⟩⟩ := by
  have : ((ByteArray.mk ⟨s⟩).extract l h).data = (⟨(s.drop l).take (h - l)⟩ : Array UInt8) := by
    rw [ByteArray.data_extract]
    simp [List.extract_toArray]
  cases hx : (ByteArray.mk ⟨s⟩).extract l h with
  | mk d => rw [hx] at this; simp at this; rw [this]
theorem sslice_core {t : TypeId} (ht : P.underlying t = some .string) {l r : List UInt8} {lo hi' : Int} (h : slc l lo hi' = some r) {x : Operand} {a b : Option Operand} {ty : TypeId} {sa : List SV}
    (hsa : ∀ (Z : Zone) (w : World) (Eo : Nat → Value) (ac : Act), (∀ (j : Nat) (s : SV) (y : Operand), (SV.c (.v (.string ⟨⟨l⟩⟩)) :: sa)[j]? = some s → (Op.slice t x a b none).operands[j]? = some y → RepS Z w (objL []) Eo s (ac.eval y)) →
      BoundIs (a.map ac.eval) lo.toNat 0 ∧ BoundIs (b.map ac.eval) hi'.toNat l.length) :
    EffOp P G (.slice t x a b none) ty (.c (.v (.string ⟨⟨l⟩⟩)) :: sa) [] (.c (.v (.string ⟨⟨r⟩⟩))) [] := by
  intro Z w Eo ac o next Q ho hty hg hzl hl hargs hgs hnext
  obtain ⟨p, q, hp, hq, h1, h2, hr⟩ := slc_spec h
  have hx := rep_cv (hargs 0 _ x rfl slice_op0)
  obtain ⟨b1, b2⟩ := hsa Z w Eo ac hargs
  have hsz : (ByteArray.mk ⟨l⟩).size = l.length := by simp [ByteArray.size]
  have hb := run_sliceBounds (P := P) false (len := (ByteArray.mk ⟨l⟩).size) (cap := (ByteArray.mk ⟨l⟩).size) (l := p) (h := q) (Nat.le_refl _) h1 (by rw [hsz]; exact h2) (lo := a.map ac.eval) (hi := b.map ac.eval) (by rw [hp] at b1; simpa using b1) (by rw [hq] at b2; rw [hsz]; simpa using b2) w
  have hex : (execOp ac.eval o).run P w = .ok (.value (.string ⟨⟨r⟩⟩)) w := by
    obtain ⟨dst, op, type, pos, after, guard⟩ := o
    simp only at ho
    subst ho
    simp only [execOp, hx, Option.map_none, Instr.sliceAt, Instr.slice, Sem.run_bind, run_underlying ht, Result.andThen_ok, Option.isSome_none, Bool.false_eq_true, if_false, hb, Sem.run_pure, str_extract, hr]
  exact wp_value hex (hnext _ Z w Eo (effpost_same hg hzl (.c _ _ (.v _))))
theorem eff_sslice_h {t : TypeId} (ht : P.underlying t = some .string) {l r : List UInt8} {hi' : Int} (h : slc l 0 hi' = some r) {x b : Operand} {ty : TypeId} {k : IntKind} :
    EffOp P G (.slice t x none (some b) none) ty [.c (.v (.string ⟨⟨l⟩⟩)), .c (.v (.int k hi'))] [] (.c (.v (.string ⟨⟨r⟩⟩))) [] :=
  sslice_core ht h fun Z w Eo ac hargs => by
    obtain ⟨p, q, hp, hq, h1, h2, hr⟩ := slc_spec h
    have := rep_cv (hargs 1 _ b rfl (by simp [Op.operands]))
    exact ⟨.inl ⟨rfl, rfl⟩, .inr ⟨k, by simp [this, hq]⟩⟩
theorem eff_sslice_l {t : TypeId} (ht : P.underlying t = some .string) {l r : List UInt8} {lo : Int} (h : slc l lo l.length = some r) {x b : Operand} {ty : TypeId} {k : IntKind} :
    EffOp P G (.slice t x (some b) none none) ty [.c (.v (.string ⟨⟨l⟩⟩)), .c (.v (.int k lo))] [] (.c (.v (.string ⟨⟨r⟩⟩))) [] :=
  sslice_core ht h fun Z w Eo ac hargs => by
    obtain ⟨p, q, hp, hq, h1, h2, hr⟩ := slc_spec h
    have := rep_cv (hargs 1 _ b rfl (by simp [Op.operands]))
    exact ⟨.inr ⟨k, by simp [this, hp]⟩, .inl ⟨rfl, by simp⟩⟩
theorem eff_sslice_lh {t : TypeId} (ht : P.underlying t = some .string) {l r : List UInt8} {lo hi' : Int} (h : slc l lo hi' = some r) {x a b : Operand} {ty : TypeId} {k k' : IntKind} :
    EffOp P G (.slice t x (some a) (some b) none) ty [.c (.v (.string ⟨⟨l⟩⟩)), .c (.v (.int k lo)), .c (.v (.int k' hi'))] [] (.c (.v (.string ⟨⟨r⟩⟩))) [] :=
  sslice_core ht h fun Z w Eo ac hargs => by
    obtain ⟨p, q, hp, hq, h1, h2, hr⟩ := slc_spec h
    have e1 := rep_cv (hargs 1 _ a rfl (by simp [Op.operands]))
    have e2 := rep_cv (hargs 2 _ b rfl (by simp [Op.operands]))
    exact ⟨.inr ⟨k, by simp [e1, hp]⟩, .inr ⟨k', by simp [e2, hq]⟩⟩

/-- Structs of plain values, compared. -/
theorem agg_vals {xs : List Value} {v : Value} (h : Rep Z w (.agg (xs.map CV.v)) v) : v = .agg xs.toArray := by
  generalize hc : CV.agg (xs.map CV.v) = c at h
  cases h with
  | agg cs vs hl hr ha =>
    injection hc with hc
    subst hc
    have : xs = vs := by
      apply List.ext_getElem? 
      intro i
      cases hi : xs[i]? with
      | none => rw [List.getElem?_eq_none]; simp at hl; rw [← hl]; exact List.getElem?_eq_none_iff.1 hi
      | some x =>
        have hlt : i < vs.length := by simp at hl; rw [← hl]; exact (List.getElem?_eq_some_iff.1 hi).1
        have := hr i (.v x) vs[i] (by simp [hi]) (List.getElem?_eq_getElem hlt)
        rw [List.getElem?_eq_getElem hlt, rep_v this]
    rw [this]
  | _ => cases hc
theorem eff_eqs {op : BinOp} {t : TypeId} {xs ys : List Value} {r : Bool} {cx cy : List CV} (hx : cx = xs.map CV.v) (hy : cy = ys.map CV.v) (hm : P.eqGuardType P.depth t = false) (hrun : ∀ w, (binOp op t (.agg xs.toArray) (.agg ys.toArray)).run P w = .ok (.bool r) w) {x y : Operand} {ty : TypeId} {z : TypeId} :
    EffOp P G (.binOp op t x y z) ty [.c (.agg cx), .c (.agg cy)] [] (.c (.v (.bool r))) [] := by
  intro Z w Eo ac o next Q ho hty hg hzl hl hargs hgs hnext
  subst hx; subst hy
  have e1 : ac.eval x = .agg xs.toArray := by
    have := hargs 0 _ x rfl rfl
    cases this with | c _ _ h => exact agg_vals h
  have e2 : ac.eval y = .agg ys.toArray := by
    have := hargs 1 _ y rfl rfl
    cases this with | c _ _ h => exact agg_vals h
  have hex : (execOp ac.eval o).run P w = .ok (.value (.bool r)) w := by
    obtain ⟨dst, op, type, pos, after, guard⟩ := o
    simp only at ho
    subst ho
    simp only [execOp, e1, e2, Sem.run_bind, run_eqGuard_agg w _ t x y _ _ hm, hrun, Result.andThen_ok, Sem.run_pure]
  exact wp_value hex (hnext _ Z w Eo (effpost_same hg hzl (.c _ _ (.v _))))

theorem objL_two (g h : Nat) (o p : AObj) (j : Nat) : objL [(g, o), (h, p)] j = if j = 0 then (g, o) else if j = 1 then (h, p) else (0, .none) := by
  match j with
  | 0 => rfl
  | 1 => rfl
  | j + 2 => simp [objL]
/-- A new variable of a slice's type: it holds a slice of the call's own without elements. -/
theorem eff_allocS {t e : TypeId} {i ie : TI} (ht : TOk1 P t i) (hz : i.zero = [.slice none 0 0]) (hagg : i.isAgg = false) (hsz : 0 < ie.size) {ty : TypeId} :
    EffOp P G (.alloc t) ty [] [] (.pm 0 1 0) [(1, .varx [.rs 1 1]), (1, .arr e ie.size [] none)] := by
  intro Z w Eo ac o next Q ho hty hg hzl hl hargs hgs hnext
  obtain ⟨j, hj, hjs, _, hjz⟩ := ht.infoE
  have hzv : zeroVal i = .slice none 0 0 := by simp [zeroVal, hagg, hz]
  have hex : (execOp ac.eval o).run P w = .ok (.value (.pointer (some ⟨w.heap.size, 0, none⟩))) (w.alloc (.cells #[.slice none 0 0] t (0, 0))) := by
    obtain ⟨dst, op, type, pos, after, guard⟩ := o
    simp only at ho
    subst ho
    simp [execOp, Instr.alloc, zeroValue, typeInfo, hj, hjz, newVar, newRow, hzv, Value.cells]
  let Er : Nat → Value := fun j => if j = 0 then .pointer (some ⟨w.heap.size, 0, none⟩) else .slice none 0 0
  refine wp_value hex (hnext _ Z _ Er ?_)
  have hnew : (w.alloc (.cells #[.slice none 0 0] t (0, 0))).heap[w.heap.size]? = some (.cells #[.slice none 0 0] t (0, 0)) := (MapKept.heap_alloc w _).1
  have hblk : ∀ j b, (objL [(1, AObj.varx [.rs 1 1]), (1, .arr e ie.size [] none)] j).2.blk (Er j) = some b → j = 0 ∧ b = w.heap.size := fun j b hb => by
    rw [objL_two] at hb
    by_cases h0 : j = 0
    · subst h0; simp [Er, AObj.blk] at hb; exact ⟨rfl, hb.symm⟩
    · rw [if_neg h0] at hb
      by_cases h1 : j = 1
      · subst h1; simp [Er, AObj.blk] at hb
      · rw [if_neg h1] at hb; simp [AObj.blk] at hb
  exact
    { res := .pm 0 1 0 _ ⟨_, rfl⟩ (Nat.le_refl _) fun _ => ⟨w.heap.size, rfl, rfl⟩
      grp := ⟨fun j => by
          rw [objL_two]
          by_cases h0 : j = 0
          · subst h0
            rw [if_pos rfl]
            refine ⟨w.heap.size, t, #[.slice none 0 0], rfl, hnew, rfl, fun k c hk => ?_, fun o hz' => absurd (hzl _ _ hz') (Nat.lt_irrefl _)⟩
            match k, hk with
            | 0, hk =>
              simp at hk
              subst hk
              exact ⟨rfl, _, rfl, .one (.rs 1 1 _ ⟨_, _, _, rfl⟩ (Nat.le_refl _) fun _ _ _ _ _ => rfl)⟩
            | k + 1, hk => simp at hk
          · rw [if_neg h0]
            by_cases h1 : j = 1
            · subst h1
              rw [if_pos rfl]
              refine ⟨[], hsz, World.ownsRow_nil _ _ _ _, And.intro (fun _ _ h => nomatch h) (fun i d h => by simp at h), fun i d hi => by simp at hi, fun i d hi => by simp at hi, fun b o hb => by simp [Er, Value.ownBlock] at hb⟩
            · rw [if_neg h1]; trivial,
        fun j j' b hne h1 h2 => hne ((hblk j b h1).1.trans (hblk j' b h2).1.symm)⟩
      keeps := Keeps.alloc hzl _
      zlt := fun b o hz => by have := hzl b o hz; simp; omega
      znew := fun _ _ h => .inl h
      kept := (Kept.refl _ _).alloc (fun _ h => h.1) _
      own := fun b ⟨j, hj⟩ => .inl (by have := (hblk j b hj).2; omega)
      ok :=
        { gen := fun t => by simp [objL]
          var := fun t g hg hlv => by
            obtain ⟨cs, hlv⟩ := hlv
            rw [objL_two] at hlv
            by_cases h0 : t = 0
            · rw [if_pos h0] at hlv; simp at hlv; simp [objL] at hg; omega
            · rw [if_neg h0] at hlv
              by_cases h1 : t = 1
              · rw [if_pos h1] at hlv; simp at hlv
              · rw [if_neg h1] at hlv; simp at hlv
          tok := fun t g el s hg hlv => by
            rw [objL_two] at hlv
            by_cases h0 : t = 0
            · rw [if_pos h0] at hlv; simp at hlv
            · rw [if_neg h0] at hlv
              by_cases h1 : t = 1
              · rw [if_pos h1] at hlv; simp at hlv
              · rw [if_neg h1] at hlv; simp at hlv
          arr := fun t g el sz ds foc hg hlv => by
            rw [objL_two] at hlv
            by_cases h0 : t = 0
            · rw [if_pos h0] at hlv; simp at hlv
            · rw [if_neg h0] at hlv
              by_cases h1 : t = 1
              · rw [if_pos h1] at hlv; simp at hlv; simp [objL] at hg; omega
              · rw [if_neg h1] at hlv; simp at hlv
          map := fun t g es hg hlv => by
            rw [objL_two] at hlv
            by_cases h0 : t = 0
            · rw [if_pos h0] at hlv; simp at hlv
            · rw [if_neg h0] at hlv
              by_cases h1 : t = 1
              · rw [if_pos h1] at hlv; simp at hlv
              · rw [if_neg h1] at hlv; simp at hlv } }
end
end Go.Abs
