/-
  Soundness of the abstract operations that neither make nor write memory.
-/
import Derived.Test.YtmcolhhmlpicaaaDoorAbsRel
namespace Go.Abs
open Go Go.RowKit

def descAgg : TypeDesc → Bool
  | .struct _ => true
  | .array _ _ => true
  | _ => false
def zeroVal (i : TI) : Value := bif i.isAgg then .agg i.zero.toArray else i.zero.headD undef
structure TOk1 (P : Program) (t : Nat) (i : TI) : Prop where
  u : P.underlying t = some i.desc
  info : (P.info? t).map (fun j => (j.size, j.bytes)) = some (i.size, i.bytes)
  zero : ((P.info? t).bind (fun j => j.zero)) = some (zeroVal i)
  agg : i.isAgg = descAgg i.desc
  one : i.zero.all (fun z => z.oneCell') = true
  len : i.zero.length = i.size
  single : i.isAgg = false → i.size = 1
def TOk (P : Program) (T : Tab) : Prop := ∀ t i, T.get t = some i → TOk1 P t i

section
variable {P : Program} {G : World → Prop} {T : Tab} {Z0 : Base} {w0 : World} {S : Nat → Prop} {n : Nat} {Z : Zone} {E : Nat → Value} {st : St} {a : Act} {w : World}

theorem TOk1.infoE {t : Nat} {i : TI} (h : TOk1 P t i) : ∃ j, P.info? t = some j ∧ j.size = i.size ∧ j.bytes = i.bytes ∧ j.zero = some (zeroVal i) := by
  have h1 := h.info
  have h2 := h.zero
  cases hj : P.info? t with
  | none => rw [hj] at h1; simp at h1
  | some j =>
    rw [hj] at h1 h2
    simp at h1 h2
    exact ⟨j, rfl, h1.1, h1.2, h2⟩
theorem TOk1.sizeOf {t : Nat} {i : TI} (h : TOk1 P t i) (w : World) : (Go.sizeOf t).run P w = .ok i.size w := by
  obtain ⟨j, hj, hs, _, _⟩ := h.infoE
  simp [Go.sizeOf, typeInfo, hj, hs]
theorem TOk1.isAggRun {t : Nat} {i : TI} (h : TOk1 P t i) (w : World) : (Go.isAgg t).run P w = .ok i.isAgg w := by
  rw [h.agg]
  unfold Go.isAgg
  rw [Sem.run_bind, run_underlying h.u]
  cases i.desc <;> rfl

theorem wp_value {o : Oper} {next : Act → World → Prop} {Q : Exit → Act → World → Prop} {x : Value} {w' : World} (h : (execOp a.eval o).run P w = .ok (.value x) w') (hn : next (a.put o.dst x) w') : o.wp P a w next Q := by
  unfold Oper.wp; rw [h]; exact hn
theorem wp_skip' {o : Oper} {next : Act → World → Prop} {Q : Exit → Act → World → Prop} {w' : World} (h : (execOp a.eval o).run P w = .ok .skip w') (hn : next (a.put o.dst undef) w') : o.wp P a w next Q := by
  unfold Oper.wp; rw [h]; exact hn

theorem rep_const (obj : Objs) (x : Value) : RepS Z w obj E (constSV x) x := by
  unfold constSV
  split
  · exact .kt
  · exact .kf
  · exact .c _ _ (.nil _ _ _)
  · exact .c _ _ .mpn
  · exact .c _ _ (.v _)
theorem look_rep (hI : Inv G Z0 w0 S n Z E st a w) (x : Operand) : RepS Z w st.obj E (look st x) (a.eval x) := by
  cases x with
  | tmp t => exact hI.env t
  | const x => exact rep_const _ x
  | global g => exact .any _
  | func f => exact .c _ _ (.fn f [] [] rfl (fun i c x h => by simp at h))
theorem asC_rep {obj : Objs} {s : SV} {x : Value} {c : CV} (h : RepS Z w obj E s x) (hc : asC s = some c) : Rep Z w c x := by
  cases h with
  | any => simp [asC] at hc
  | un => simp [asC] at hc
  | kt => simp [asC] at hc; subst hc; exact .v _
  | kf => simp [asC] at hc; subst hc; exact .v _
  | c c' x h => simp [asC] at hc; subst hc; exact h
  | pm => simp [asC] at hc
  | ap t g sz es x h => simp [asC] at hc; subst hc; exact h
  | fnr => simp [asC] at hc
  | rs => simp [asC] at hc
  | agx => simp [asC] at hc
  | pe => simp [asC] at hc
  | mr => simp [asC] at hc
theorem asSl_rep {obj : Objs} {s : SV} {x : Value} {sz : Nat} {ds : List (List CV)} (h : RepS Z w obj E s x) (hc : asSl s = some (sz, ds)) : Rep Z w (.sl sz ds) x := by
  cases h with
  | any => simp [asSl] at hc
  | un => simp [asSl] at hc
  | kt => simp [asSl] at hc
  | kf => simp [asSl] at hc
  | c c' x h =>
    cases c' with
    | sl s d => simp [asSl] at hc; obtain ⟨rfl, rfl⟩ := hc; exact h
    | _ => simp [asSl] at hc
  | pm => simp [asSl] at hc
  | ap t g s es x h => simp [asSl] at hc; obtain ⟨rfl, rfl⟩ := hc; exact h
  | fnr => simp [asSl] at hc
  | rs => simp [asSl] at hc
  | agx => simp [asSl] at hc
  | pe => simp [asSl] at hc
  | mr => simp [asSl] at hc
theorem rep_v {x y : Value} (h : Rep Z w (.v x) y) : y = x := by cases h; rfl
theorem rep_cv {obj : Objs} {x y : Value} (h : RepS Z w obj E (.c (.v x)) y) : y = x := by cases h with | c _ _ h => exact rep_v h

/-- What each operation's lemma says. -/
def OpSound (P : Program) (G : World → Prop) (T : Tab) (o : Oper) : Prop :=
  ∀ (Z0 : Base) (w0 : World) (S : Nat → Prop) (n : Nat) (Z : Zone) (E : Nat → Value) (st : St) (a : Act) (w : World) (K : KOp) (next : Act → World → Prop) (Q : Exit → Act → World → Prop) (F : KOp → Prop),
    Inv G Z0 w0 S n Z E st a w → inRange n o.dst = true → wpOp (orc P G) T (look st) st.obj F o.dst o.op o.type K → (F K → o.wp P a w next Q) →
    (∀ r rd u Z' E' x w', K r rd u → Inv G Z0 w0 S n Z' E' ⟨put st.env o.dst r, upd st.obj u⟩ (a.put o.dst x) w' → next (a.put o.dst x) w') → o.wp P a w next Q

/-- A value out of an unchanged world. -/
theorem sound_value {o : Oper} {K : KOp} {next : Act → World → Prop} {Q : Exit → Act → World → Prop} (hI : Inv G Z0 w0 S n Z E st a w) (hd : inRange n o.dst = true)
    (hn : ∀ r rd u Z' E' x w', K r rd u → Inv G Z0 w0 S n Z' E' ⟨put st.env o.dst r, upd st.obj u⟩ (a.put o.dst x) w' → next (a.put o.dst x) w')
    {r : SV} {rd : List Nat} {x : Value} (hk : K r rd []) (hrun : (execOp a.eval o).run P w = .ok (.value x) w) (hr : RepS Z w st.obj E r x) : o.wp P a w next Q :=
  wp_value hrun (hn r rd [] Z E x w hk (hI.value hd hr))

theorem sound_move (dst : Option Nat) (x : Operand) (type : TypeId) (pos : String) (after : Array Edge) (guard : Option (Nat × Bool)) : OpSound P G T ⟨dst, .move x, type, pos, after, guard⟩ := by
  intro Z0 w0 S n Z E st a w K next Q F hI hd h hX hn
  exact sound_value hI hd hn h (by simp [execOp]) (look_rep hI x)

theorem sound_pick (dst : Option Nat) (c x y : Operand) (type : TypeId) (pos : String) (after : Array Edge) (guard : Option (Nat × Bool)) : OpSound P G T ⟨dst, .pick c x y, type, pos, after, guard⟩ := by
  intro Z0 w0 S n Z E st a w K next Q F hI hd h hX hn
  have hc := look_rep hI c
  have hx := look_rep hI x
  have hy := look_rep hI y
  simp only [wpOp] at h
  split at h
  · rename_i he
    rw [he] at hc
    have hv : a.eval c = .bool true := by generalize a.eval c = y at *; cases hc; rfl
    exact sound_value hI hd hn h (by simp [execOp, hv, asBool]) hx
  · rename_i he
    rw [he] at hc
    have hv : a.eval c = .bool false := by generalize a.eval c = y at *; cases hc; rfl
    exact sound_value hI hd hn h (by simp [execOp, hv, asBool]) hy
  · rename_i q he
    rw [he] at hc
    have hv : a.eval c = .bool q := rep_cv hc
    split at h
    · rename_i u v h1 h2
      have e1 := rep_v (asC_rep hx h1)
      have e2 := rep_v (asC_rep hy h2)
      refine sound_value hI hd hn h (by simp [execOp, hv, asBool]; rfl) (.c _ _ ?_)
      cases q
      · simp only [Bool.false_eq_true, if_false, e2, cond_false]; exact .v _
      · simp only [if_true, e1, cond_true]; exact .v _
    · cases q with
      | true => exact sound_value hI hd hn (h.1 rfl) (by simp [execOp, hv, asBool]) hx
      | false => exact sound_value hI hd hn (h.2 rfl) (by simp [execOp, hv, asBool]) hy
  · first | exact h.elim | exact hX h

theorem sound_unOp (dst : Option Nat) (op : UnOp) (t : TypeId) (x : Operand) (type : TypeId) (pos : String) (after : Array Edge) (guard : Option (Nat × Bool)) : OpSound P G T ⟨dst, .unOp op t x, type, pos, after, guard⟩ := by
  intro Z0 w0 S n Z E st a w K next Q F hI hd h hX hn
  have hx := look_rep hI x
  cases op with
  | not =>
    simp only [wpOp] at h
    split at h
    · rename_i he
      rw [he] at hx
      have hv : a.eval x = .bool true := by generalize a.eval x = y at *; cases hx; rfl
      exact sound_value hI hd hn h (by simp [execOp, hv, Op.unary]) .kf
    · rename_i he
      rw [he] at hx
      have hv : a.eval x = .bool false := by generalize a.eval x = y at *; cases hx; rfl
      exact sound_value hI hd hn h (by simp [execOp, hv, Op.unary]) .kt
    · rename_i b he
      rw [he] at hx
      have hv : a.eval x = .bool b := rep_cv hx
      exact sound_value hI hd hn h (by simp [execOp, hv, Op.unary]) (.c _ _ (.v _))
    · first | exact h.elim | exact hX h
  | neg =>
    simp only [wpOp] at h
    split at h
    · rename_i k m he
      rw [he] at hx
      have hv : a.eval x = .int k m := rep_cv hx
      exact sound_value hI hd hn h (by simp [execOp, hv, Op.unary, Op.intArith]) (.c _ _ (.v _))
    · first | exact h.elim | exact hX h
  | _ => simp only [wpOp] at h; first | exact h.elim | exact hX h

theorem run_eq_bool {t : TypeId} (hu : P.underlying t = some .bool) (p q : Bool) (w : World) : (Op.equal t (.bool p) (.bool q)).run P w = .ok (p == q) w := by
  have h : ∀ d : Nat, (Op.equalIn (d + 1) t (.bool p) (.bool q)).run P w = .ok (p == q) w := fun d => by
    simp only [Op.equalIn, Sem.run_bind, run_underlying hu, Result.andThen_ok]
    simp
  exact h 9999
theorem run_bin {op : BinOp} {ib : Bool} {x y : Value} {K : Value → Prop} {t : TypeId} {ox oy : Operand} (hib : ib = true → P.underlying t = some .bool) (h : wpBin op ib x y K) (w : World) :
    ∃ r, K r ∧ (do eqGuard op t ox oy x y; binOp op t x y : Sem Value).run P w = .ok r w := by
  unfold wpBin at h
  split at h
  · obtain ⟨rfl, hb, hk⟩ := h
    exact ⟨_, hk, by simp [eqGuard, binOp, Op.intDiv, hb]⟩
  · obtain ⟨rfl, hb, hk⟩ := h
    exact ⟨_, hk, by simp [eqGuard, binOp, Op.intDiv, hb]⟩
  · obtain ⟨hb, hk⟩ := h
    exact ⟨_, hk, by simp [eqGuard, binOp, Op.shift, Int.not_lt.2 hb]⟩
  · obtain ⟨hb, hk⟩ := h
    exact ⟨_, hk, by simp [eqGuard, binOp, Op.shift, Int.not_lt.2 hb]⟩
  · rename_i k i k' j hq1 hq2 hq3 hq4
    split at h
    · rename_i r hr
      have hkk : k = k' := by
        cases hd : decide (k = k') with
        | false => rw [hd] at h; first | exact h.elim | exact hX h
        | true => exact of_decide_eq_true hd
      subst hkk
      simp only [decide_true, cond_true] at h
      refine ⟨r, h, ?_⟩
      cases op <;> simp only [intBin, reduceCtorEq, Option.some.injEq] at hr <;> (subst hr; first | (simp [eqGuard, binOp, Op.intBits]; done) | simp [eqGuard, binOp, Op.intArith, Op.intCmp])
    · first | exact h.elim | exact hX h
  · rename_i s1 s2
    obtain ⟨hs, s', rfl, hk⟩ := h
    refine ⟨_, hk, ?_⟩
    have hmx : ¬ (((s1.size + s2.size : Nat) : Int) > IntKind.i64.max) := by
      have : IntKind.i64.max = 9223372036854775807 := rfl
      omega
    simp only [eqGuard, binOp, Op.stringOp, hmx, if_false]
    simp
  · rename_i s1 s2 hq
    split at h
    · rename_i r hr
      refine ⟨r, h, ?_⟩
      have hdl : ∀ x y : ByteArray, (x.data.toList == y.data.toList) = (x.toList == y.toList) := fun x y => by rw [ByteArray.toList_eq, ByteArray.toList_eq]
      have hbl : ∀ x y : ByteArray, Op.bytesLess x.data.toList y.data.toList = Op.bytesLess x.toList y.toList := fun x y => by rw [ByteArray.toList_eq, ByteArray.toList_eq]
      cases op <;> simp only [strBin, reduceCtorEq, Option.some.injEq, hdl, hbl] at hr <;> (subst hr; simp [eqGuard, binOp, Op.stringOp])
    · first | exact h.elim | exact hX h
  · rename_i p q
    cases ib with
    | false => first | exact h.elim | exact hX h
    | true =>
      have hu := hib rfl
      simp only [cond_true] at h
      refine ⟨_, h, ?_⟩
      have h1 := run_eq_bool (P := P) hu p q w
      simp only [eqGuard, binOp, Sem.run_bind, h1]
      simp [h1]
  · rename_i p q
    cases ib with
    | false => first | exact h.elim | exact hX h
    | true =>
      have hu := hib rfl
      simp only [cond_true] at h
      refine ⟨_, h, ?_⟩
      have h1 := run_eq_bool (P := P) hu p q w
      simp only [eqGuard, binOp, Sem.run_bind, h1]
      simp [h1]
  · first | exact h.elim | exact hX h

theorem sound_binOp (hT : TOk P T) (dst : Option Nat) (op : BinOp) (t : TypeId) (x y : Operand) (t' : TypeId) (type : TypeId) (pos : String) (after : Array Edge) (guard : Option (Nat × Bool)) : OpSound P G T ⟨dst, .binOp op t x y t', type, pos, after, guard⟩ := by
  intro Z0 w0 S n Z E st a w K next Q F hI hd h hX hn
  have hx := look_rep hI x
  have hy := look_rep hI y
  simp only [wpOp] at h
  split at h
  · rename_i u v h1 h2
    have e1 := rep_v (asC_rep hx h1)
    have e2 := rep_v (asC_rep hy h2)
    obtain ⟨r, hk, hr⟩ := run_bin (P := P) (t := t) (ox := x) (oy := y) (fun hib => by
      split at hib
      · rename_i hg; exact (hT _ _ hg).u
      · cases hib) h w
    refine sound_value hI hd hn hk (x := r) ?_ (.c _ _ (.v _))
    simp only [execOp, e1, e2, Sem.run_bind] at hr ⊢
    rw [hr]
    rfl
  · first | exact h.elim | exact hX h

theorem sound_convert (hT : TOk P T) (dst : Option Nat) (s t : TypeId) (x : Operand) (type : TypeId) (pos : String) (after : Array Edge) (guard : Option (Nat × Bool)) : OpSound P G T ⟨dst, .convert s t x, type, pos, after, guard⟩ := by
  intro Z0 w0 S n Z E st a w K next Q F hI hd h hX hn
  have hx := look_rep hI x
  simp only [wpOp] at h
  split at h
  · rename_i k _ _ _ _ _ k' m _ h1 he h2
    rw [he] at hx
    have hv : a.eval x = .int k' m := rep_cv hx
    have hu := (hT _ _ h1).u
    have hs := (hT _ _ h2).u
    refine sound_value hI hd hn h (x := .int k (k.wrap m)) ?_ (.c _ _ (.v _))
    simp only [execOp, convert, hv, Sem.run_bind, run_underlying hu, run_underlying hs, Result.andThen_ok]
    simp [Conv.intToInt]
  · rename_i _ _ _ _ _ str _ h1 he h2
    rw [he] at hx
    have hv : a.eval x = .string str := rep_cv hx
    have hu := (hT _ _ h1).u
    have hs := (hT _ _ h2).u
    refine sound_value hI hd hn h (x := .string str) ?_ (.c _ _ (.v _))
    simp only [execOp, convert, hv, Sem.run_bind, run_underlying hu, run_underlying hs, Result.andThen_ok]
    simp
  · first | exact h.elim | exact hX h
end
end Go.Abs
