/-
  A slice of the call's own whose elements are slices of the call's own.
-/
import Derived.Test.YtmdhahfminiilaaDoorAbsSub
import Derived.Test.YtmdhahfminiilaaDoorAbsSeal
namespace Go.Abs
open Go Go.RowKit

theorem ownsRow_heap {w w' : World} {base e sz : Nat} {v : Value} {n : Nat} {xs : List Value} (h : w.ownsRow base e sz v n xs) (hk : ∀ b, v.ownBlock = some b → w'.heap[b]? = w.heap[b]?) : w'.ownsRow base e sz v n xs := by
  refine ⟨h.1, h.2.imp id ?_⟩
  rintro ⟨g, cap, cur, rfl, h1, h2, h3⟩
  exact ⟨g, cap, cur, rfl, h1, (hk g rfl).trans h2, h3⟩
/-- A row of the call's own, with closed cells. -/
def RowOk (Z : Zone) (w : World) (ei sz : Nat) (v : Value) (r : List (List CV)) : Prop :=
  ∃ ys, w.ownsRow 0 ei sz v r.length ys ∧ (∀ (k : Nat) (d : List CV), r[k]? = some d → d.length = sz) ∧
    ∀ (k j : Nat) (d : List CV) (c : CV), r[k]? = some d → d[j]? = some c → c.atom = true ∧ ∃ u, ys[k * sz + j]? = some u ∧ Rep Z w c u
section
variable {Z Z' : Zone} {w w' : World} {ei eo sz : Nat} {v ov : Value} {r : List (List CV)} {rows : List (List (List CV))} {foc : Option Nat} {us vs : List Value}
theorem RowOk.keep (h : RowOk Z w ei sz v r) (hk : Keeps Z w Z' w') (hb : ∀ b, v.ownBlock = some b → w'.heap[b]? = w.heap[b]?) : RowOk Z' w' ei sz v r := by
  obtain ⟨ys, h1, h2, h3⟩ := h
  exact ⟨ys, ownsRow_heap h1 hb, h2, fun k j d c hd hc => by obtain ⟨q1, u, q2, q3⟩ := h3 k j d c hd hc; exact ⟨q1, u, q2, q3.keep hk⟩⟩
theorem RowOk.isSl (h : RowOk Z w ei sz v r) : ∃ a l k, v = .slice a l k := by
  obtain ⟨ys, h1, _⟩ := h
  rcases h1.2 with ⟨rfl, _⟩ | ⟨_, _, _, rfl, _⟩ <;> exact ⟨_, _, _, rfl⟩
theorem RowOk.arr {obj : Objs} {E : Nat → Value} (h : RowOk Z w ei sz v r) (hs : 0 < sz) (hz : ∀ b o, v.ownBlock = some b → ¬ Z b o) : ObjOk Z w obj E v (.arr ei sz r none) := by
  obtain ⟨ys, h1, h2, h3⟩ := h
  refine ⟨ys, hs, h1, And.intro (fun _ _ h => nomatch h) (fun i d hd _ => ?_), fun i d _ hd => h2 i d hd, fun i d _ hd j c hc => ?_, hz⟩
  · have : ∀ c ∈ d, c.isRs = false := fun c hc => by
      obtain ⟨j, hj, rfl⟩ := List.getElem_of_mem hc
      obtain ⟨_, u, _, hr⟩ := h3 i j d _ hd (List.getElem?_eq_getElem hj)
      exact hr.notRs
    clear h1 h2 h3 hd
    induction d with
    | nil => rfl
    | cons c d ih => simp only [noRs, this c (by simp), cond_false]; exact ih fun c hc => this c (by simp [hc])
  · obtain ⟨q1, u, q2, q3⟩ := h3 i j d c hd hc
    exact ⟨q1, u, q2, .cl q3⟩
theorem RowOk.of_arr {obj : Objs} {E : Nat → Value} (h : ObjOk Z w obj E v (.arr ei sz r none)) : RowOk Z w ei sz v r := by
  obtain ⟨xs, hs, hown, hfoc, hl, hc, hz⟩ := h
  refine ⟨xs, hown, fun k d hd => hl k d (List.getElem?_eq_some_iff.1 hd).1 hd, fun k j d c hd hj => ?_⟩
  obtain ⟨q1, u, q2, q3⟩ := hc k d (List.getElem?_eq_some_iff.1 hd).1 hd j c hj
  exact ⟨q1, u, q2, q3.closed (noRs_get (hfoc.2 k d hd (fun _ _ h => nomatch h)) hj)⟩
theorem RowOk.rep (h : RowOk Z w ei sz v r) (hk : Keeps Z w Z' w) (hz : ∀ b o, v.ownBlock = some b → Z' b o) : Rep Z' w (.sl sz r) v := by
  obtain ⟨ys, h1, h2, h3⟩ := h
  exact rep_own h1 rfl h2 (fun k j d c hd hc => by obtain ⟨q1, u, q2, q3⟩ := h3 k j d c hd hc; exact ⟨q1, u, q2, q3.keep hk⟩) (fun b o hb _ => hz b o hb)

structure NestOk (eo ei sz : Nat) (rows : List (List (List CV))) (foc : Option Nat) (Z : Zone) (w : World) (us : List Value) (ov : Value) (vs : List Value) : Prop where
  len : vs.length = rows.length
  pos : 0 < sz
  out : ∃ xs, w.ownsRow 0 eo 1 ov rows.length xs ∧ (∀ i v, foc ≠ some i → vs[i]? = some v → xs[i]? = some v) ∧ ∀ m, foc = some m → us = [] ∨ ∃ u, us = [u] ∧ xs[m]? = some u
  row : ∀ i v r, foc ≠ some i → vs[i]? = some v → rows[i]? = some r → RowOk Z w ei sz v r
  ap : ∀ i j v v' b, i ≠ j → foc ≠ some i → foc ≠ some j → vs[i]? = some v → vs[j]? = some v' → v.ownBlock = some b → v'.ownBlock ≠ some b
  apo : ∀ i v b, foc ≠ some i → vs[i]? = some v → v.ownBlock = some b → ov.ownBlock ≠ some b
def nestBlk (foc : Option Nat) (ov : Value) (vs : List Value) (b : Nat) : Prop := ov.ownBlock = some b ∨ ∃ i v, foc ≠ some i ∧ vs[i]? = some v ∧ v.ownBlock = some b
theorem NestOk.keep (h : NestOk eo ei sz rows foc Z w us ov vs) (hk : Keeps Z w Z' w') (hb : ∀ b, nestBlk foc ov vs b → w'.heap[b]? = w.heap[b]?) : NestOk eo ei sz rows foc Z' w' us ov vs where
  len := h.len
  pos := h.pos
  out := by
    obtain ⟨xs, h1, h2⟩ := h.out
    exact ⟨xs, ownsRow_heap h1 fun b hb' => hb b (.inl hb'), h2⟩
  row i v r hi hv hr := (h.row i v r hi hv hr).keep hk fun b hb' => hb b (.inr ⟨i, v, hi, hv, hb'⟩)
  ap := h.ap
  apo := h.apo
theorem NestOk.get (h : NestOk eo ei sz rows foc Z w us ov vs) {i : Nat} {v : Value} (hi : foc ≠ some i) (hv : vs[i]? = some v) : ∃ r, rows[i]? = some r ∧ RowOk Z w ei sz v r := by
  have hlt : i < rows.length := by rw [← h.len]; exact (List.getElem?_eq_some_iff.1 hv).1
  exact ⟨_, List.getElem?_eq_getElem hlt, h.row i v _ hi hv (List.getElem?_eq_getElem hlt)⟩
theorem NestOk.cell (h : NestOk eo ei sz rows foc Z w us ov vs) {b : Nat} (hb : nestBlk foc ov vs b) : ∃ arr el fr, w.heap[b]? = some (.cells arr el fr) := by
  rcases hb with hb | ⟨i, v, hi, hv, hb⟩
  · obtain ⟨xs, h1, _⟩ := h.out
    obtain ⟨cur, hc⟩ := own_cells h1 hb
    exact ⟨_, _, _, hc⟩
  · obtain ⟨r, _, ys, h1, _⟩ := h.get hi hv
    obtain ⟨cur, hc⟩ := own_cells h1 hb
    exact ⟨_, _, _, hc⟩
theorem NestOk.rep (h : NestOk eo ei sz rows none Z w us ov vs) (hk : Keeps Z w Z' w) (hz : ∀ b o, nestBlk none ov vs b → Z' b o) : Rep Z' w (.sl 1 (rows.map fun r => [.sl sz r])) ov := by
  obtain ⟨xs, h1, h2, _⟩ := h.out
  refine rep_own h1 (by simp) (fun i d hd => ?_) (fun i j d c hd hc => ?_) (fun b o hb _ => hz b o (.inl hb))
  · rw [List.getElem?_map] at hd
    obtain ⟨r, _, rfl⟩ := Option.map_eq_some_iff.1 hd
    rfl
  · rw [List.getElem?_map] at hd
    obtain ⟨r, hr, rfl⟩ := Option.map_eq_some_iff.1 hd
    match j, hc with
    | 0, hc =>
      obtain rfl : CV.sl sz r = c := Option.some.inj hc
      have hlt : i < vs.length := by rw [h.len]; exact (List.getElem?_eq_some_iff.1 hr).1
      have hv : vs[i]? = some vs[i] := List.getElem?_eq_getElem hlt
      exact ⟨rfl, vs[i], by simpa using h2 i _ (fun h => nomatch h) hv, (h.row i _ r (fun h => nomatch h) hv hr).rep hk fun b o hb => hz b o (.inr ⟨i, _, (fun h => nomatch h), hv, hb⟩)⟩
    | j + 1, hc => simp at hc
theorem tup_inj {ov ov' : Value} {vs vs' : List Value} (h : Value.tuple (ov :: vs).toArray = .tuple (ov' :: vs').toArray) : ov = ov' ∧ vs = vs' := by
  injection h with h
  have := congrArg Array.toList h
  simpa using this
end
/-- The kind of object: the row at the focus, if there is one, is out. -/
def nestK (eo ei sz : Nat) (rows : List (List (List CV))) (foc : Option Nat) : ExtK where
  ok Z w us e := ∃ ov vs, e = .tuple (ov :: vs).toArray ∧ NestOk eo ei sz rows foc Z w us ov vs
  blk e b := ∃ ov vs, e = .tuple (ov :: vs).toArray ∧ nestBlk foc ov vs b
  cl := match foc with
    | none => some (.sl 1 (rows.map fun r => [.sl sz r]))
    | some _ => none
  keep := by
    rintro Z Z' w w' us e ⟨ov, vs, rfl, h⟩ hk hb
    exact ⟨ov, vs, rfl, h.keep hk fun b hb' => hb b ⟨ov, vs, rfl, hb'⟩⟩
  cell := by
    rintro Z w us e b ⟨ov, vs, rfl, h⟩ ⟨ov', vs', he, hb⟩
    obtain ⟨rfl, rfl⟩ := tup_inj he
    exact h.cell hb
  clat := by
    intro c h
    cases foc with
    | none => simp only [Option.some.injEq] at h; subst h; rfl
    | some m => simp at h
  close := by
    rintro Z Z' w e c hc ⟨ov, vs, rfl, h⟩ hz hk
    cases foc with
    | some m => simp at hc
    | none =>
      simp only [Option.some.injEq] at hc
      subst hc
      exact h.rep hk fun b o hb => hz b o ⟨ov, vs, rfl, hb⟩

/-- What is kept from one list of objects to the next. -/
theorem okeep {obj obj' : Objs} {E E' : Nat → Value} (h : ∀ t, (obj t).1 ≤ (obj' t).1 ∧ ((obj t).1 < (obj' t).1 ∨ (obj' t).2 = .none ∨ AObj.still (obj' t).2 ∨ (E' t = E t ∧ SameKind (obj t).2 (obj' t).2) ∨ (face (E' t) = face (E t) ∧ ExtKind (obj t).2 (obj' t).2))) : ObjKeep obj E obj' E' := by
  have key : ∀ t g o, g ≤ (obj t).1 → obj' t = (g, o) → o ≠ .none → ¬ AObj.still o → (obj t).1 = g ∧ ((E' t = E t ∧ SameKind (obj t).2 o) ∨ (face (E' t) = face (E t) ∧ ExtKind (obj t).2 o)) := fun t g o hg ht hn hs => by
    obtain ⟨h1, h2⟩ := h t
    rw [ht] at h1 h2
    simp only at h1 h2
    refine ⟨Nat.le_antisymm h1 hg, ?_⟩
    rcases h2 with h2 | h2 | h2 | h2 | h2
    · omega
    · exact absurd h2 hn
    · exact absurd h2 hs
    · exact .inl h2
    · exact .inr h2
  refine ⟨fun t => (h t).1, fun t g hg hl => ?_, fun t g el s hg ht => ?_, fun t g el sz ds foc hg ht => ?_, fun t g es hg ht => ?_, fun t g K cs hg ht => ?_⟩
  · obtain ⟨cs, hl⟩ := hl
    have : ∃ o, obj' t = (g, o) ∧ (o = .var cs ∨ o = .ro cs ∨ o = .varx cs) := by
      rcases hl with hl | hl | hl
      · exact ⟨_, hl, .inl rfl⟩
      · exact ⟨_, hl, .inr (.inl rfl)⟩
      · exact ⟨_, hl, .inr (.inr rfl)⟩
    obtain ⟨o, h1, h2⟩ := this
    obtain ⟨h3, h4⟩ := key t g o hg h1 (by rcases h2 with rfl | rfl | rfl <;> simp) (by rcases h2 with rfl | rfl | rfl <;> simp [AObj.still])
    rcases h4 with ⟨hE, hk⟩ | ⟨_, _, _, _, _, _, h4⟩
    · refine ⟨?_, hE⟩
      cases ho : obj t with
      | mk g0 o0 =>
        rw [ho] at hk h3
        simp only at hk h3
        subst h3
        rcases h2 with rfl | rfl | rfl <;> cases o0 <;> simp only [SameKind] at hk <;> first | exact ⟨_, .inl ho⟩ | exact ⟨_, .inr (.inl ho)⟩ | exact ⟨_, .inr (.inr ho)⟩
    · rcases h2 with rfl | rfl | rfl <;> cases h4
  · obtain ⟨h3, h4⟩ := key t g _ hg ht (by simp) (by simp [AObj.still])
    rcases h4 with ⟨hE, hk⟩ | ⟨_, _, _, _, _, _, h4⟩
    · refine ⟨?_, hE⟩
      cases ho : obj t with
      | mk g0 o0 =>
        rw [ho] at hk h3
        simp only at hk h3
        subst h3
        cases o0 <;> simp only [SameKind] at hk
        rw [hk.1, hk.2]
    · cases h4
  · obtain ⟨h3, h4⟩ := key t g _ hg ht (by simp) (by simp [AObj.still])
    rcases h4 with ⟨hE, hk⟩ | ⟨_, _, _, _, _, _, h4⟩
    · refine ⟨?_, hE⟩
      cases ho : obj t with
      | mk g0 o0 =>
        rw [ho] at hk h3
        simp only at hk h3
        subst h3
        cases o0 <;> simp only [SameKind] at hk
        exact ⟨_, _, by rw [hk.1, hk.2]⟩
    · cases h4
  · obtain ⟨h3, h4⟩ := key t g _ hg ht (by simp) (by simp [AObj.still])
    rcases h4 with ⟨hE, hk⟩ | ⟨_, _, _, _, _, _, h4⟩
    · refine ⟨?_, hE⟩
      cases ho : obj t with
      | mk g0 o0 =>
        rw [ho] at hk h3
        simp only at hk h3
        subst h3
        cases o0 <;> simp only [SameKind] at hk
        exact ⟨_, rfl⟩
    · cases h4
  · obtain ⟨h3, h4⟩ := key t g _ hg ht (by simp) (by simp [AObj.still])
    rcases h4 with ⟨hE, hk⟩ | ⟨hE, hk⟩
    · cases ho : obj t with
      | mk g0 o0 => rw [ho] at hk; cases o0 <;> simp only [SameKind] at hk
    · refine ⟨?_, hE⟩
      obtain ⟨K0, cs0, _, _, h1, _⟩ := hk
      exact ⟨K0, cs0, Prod.ext h3 h1⟩
section
variable {P : Program} {G : World → Prop} {Z : Zone} {w : World} {eo ei sz : Nat} {rows : List (List (List CV))} {foc : Option Nat}
theorem grp_nest {cs : List CV} {rest : List (Nat × AObj)} {Eo : Nat → Value} (hg : Grp Z w ((0, .ext (nestK eo ei sz rows foc) cs) :: rest) Eo) :
    ∃ us ov vs, us.length = cs.length ∧ (∀ (j : Nat) (c : CV), cs[j]? = some c → ∃ x, us[j]? = some x ∧ RepX Z w (objL ((0, .ext (nestK eo ei sz rows foc) cs) :: rest)) Eo c x) ∧ Eo 0 = .tuple (ov :: vs).toArray ∧ NestOk eo ei sz rows foc Z w us ov vs ∧ ∀ b o, nestBlk foc ov vs b → ¬ Z b o := by
  obtain ⟨us, h1, h2, ⟨ov, vs, h3, h4⟩, h5⟩ := hg.ok 0
  exact ⟨us, ov, vs, h1, h2, h3, h4, fun b o hb => h5 b o ⟨ov, vs, h3, hb⟩⟩
theorem NestOk.isSl {us : List Value} {ov : Value} {vs : List Value} (h : NestOk eo ei sz rows foc Z w us ov vs) : ∃ a k, ov = .slice a rows.length k := by
  obtain ⟨xs, h1, _⟩ := h.out
  rcases h1.2 with ⟨rfl, h0⟩ | ⟨_, _, _, rfl, _⟩
  · rw [h0]; exact ⟨_, _, rfl⟩
  · exact ⟨_, _, rfl⟩
theorem xr_face {obj : Objs} {Eo : Nat → Value} {t g : Nat} {K : ExtK} {cs : List CV} {x ov : Value} {vs : List Value} (h : RepS Z w obj Eo (.xr t g) x) (ho : obj t = (g, .ext K cs)) (hE : Eo t = .tuple (ov :: vs).toArray) : x = ov := by
  cases h with
  | xr _ _ _ _ _ hp => have := hp K cs ho; rw [hE] at this; exact this.symm
theorem xf_face {obj : Objs} {Eo : Nat → Value} {t g : Nat} {fn : Value → Value} {K : ExtK} {cs : List CV} {x ov : Value} {vs : List Value} (h : RepS Z w obj Eo (.xf t g fn) x) (ho : obj t = (g, .ext K cs)) (hE : Eo t = .tuple (ov :: vs).toArray) : x = fn ov := by
  cases h with
  | xf _ _ _ _ _ hp => have := hp K cs ho; rw [hE] at this; exact this.symm
/-- The address of cell n of a slice. -/
def cellOf (n : Nat) : Value → Value
  | .slice (some ⟨b, o, none⟩) _ _ => .pointer (some ⟨b, o + n, none⟩)
  | x => x
/-- How many rows there are. -/
theorem eff_nlen {t e : TypeId} (ht : P.underlying t = some (.slice e)) {x : Operand} {ty : TypeId} :
    EffOp P G (.call ⟨.builtin .len, ⟨[x]⟩, ⟨[t]⟩⟩) ty [.xr 0 0] [(0, .ext (nestK eo ei sz rows none) [])] (.c (.v (.int .i64 (rows.length : Int)))) [(0, .ext (nestK eo ei sz rows none) [])] := by
  intro Z w Eo ac o next Q ho hty hg hzl hl hargs hgs hnext
  have hx := hargs 0 (.xr 0 0) x rfl rfl
  obtain ⟨us, ov, vs, _, _, hE, hN, hnz⟩ := grp_nest hg
  have hov := xr_face hx rfl hE
  obtain ⟨a, k, hsl⟩ := hN.isSl
  have hex : (execOp ac.eval o).run P w = .ok (.value (.int .i64 (rows.length : Int))) w := by
    obtain ⟨dst, op, type, pos, after, guard⟩ := o
    simp only at ho
    subst ho
    rw [exec_builtin]
    simp [builtin, Builtin.len_, run_underlying ht, hov, hsl, goInt]
  exact wp_value hex (hnext _ Z w Eo (effpost_same hg hzl (.c _ _ (.v _))))
/-- The address of a row. -/
theorem eff_nidx {foc : Option Nat} {t e : TypeId} {i : TI} (ht : P.underlying t = some (.slice e)) (hi : TOk1 P e i) (h1 : i.size = 1) {n : Int} (hn : decide (0 ≤ n ∧ n < (rows.length : Int)) = true) {x y : Operand} {ty : TypeId} {k : IntKind} :
    EffOp P G (.indexAddr t x y) ty [.xr 0 0, .c (.v (.int k n))] [(0, .ext (nestK eo ei sz rows foc) [])] (.xf 0 0 (cellOf n.toNat)) [(0, .ext (nestK eo ei sz rows foc) [])] := by
  intro Z w Eo ac o next Q ho hty hg hzl hl hargs hgs hnext
  have hn := of_decide_eq_true hn
  have hx := hargs 0 (.xr 0 0) x rfl rfl
  have hy := rep_cv (hargs 1 (.c (.v (.int k n))) y rfl rfl)
  obtain ⟨us, ov, vs, _, _, hE, hN, hnz⟩ := grp_nest hg
  have hov := xr_face hx rfl hE
  obtain ⟨xs, hown, _⟩ := hN.out
  obtain ⟨b, cap, hb, _⟩ := own_form hown (by omega)
  have hex : (execOp ac.eval o).run P w = .ok (.value (.pointer (some ⟨b, n.toNat, none⟩))) w := by
    obtain ⟨dst, op, type, pos, after, guard⟩ := o
    simp only at ho
    subst ho
    simp only [execOp, hov, hb, hy, Instr.indexAt, asIntOf, Sem.run_bind, Sem.run_pure, Result.andThen_ok, run_underlying ht, hi.sizeOf w, h1, if_pos hn, Addr.add_lit, Nat.mul_one, Nat.zero_add]
  refine wp_value hex (hnext _ Z w Eo (effpost_same hg hzl (.xf 0 0 _ _ (Nat.le_refl _) fun K cs ho => ?_)))
  rw [hE]
  show cellOf n.toNat ov = _
  rw [hb]
  simp [cellOf]
theorem NestOk.take {us us' : List Value} {ov v : Value} {vs : List Value} (h : NestOk eo ei sz rows none Z w us ov vs) {n : Nat} (hv : vs[n]? = some v) (hu : us' = [] ∨ us' = [v]) : NestOk eo ei sz rows (some n) Z w us' ov vs where
  len := h.len
  pos := h.pos
  out := by
    obtain ⟨xs, h1, h2, _⟩ := h.out
    refine ⟨xs, h1, fun i v _ hv => h2 i v (fun h => nomatch h) hv, fun m hm => hu.imp id fun h => ⟨v, h, ?_⟩⟩
    injection hm with hm
    subst hm
    exact h2 n v (fun h => nomatch h) hv
  row i v r _ hv hr := h.row i v r (fun h => nomatch h) hv hr
  ap i j v v' b hij _ _ := h.ap i j v v' b hij (fun h => nomatch h) (fun h => nomatch h)
  apo i v b _ := h.apo i v b (fun h => nomatch h)
theorem nestBlk_none {ov : Value} {vs : List Value} {b : Nat} (h : nestBlk foc ov vs b) : nestBlk none ov vs b := h.imp id fun ⟨i, v, _, h2, h3⟩ => ⟨i, v, (fun h => nomatch h), h2, h3⟩
theorem NestOk.fill {Z' : Zone} {w' : World} {us : List Value} {ov v : Value} {vs xs' : List Value} {r : List (List CV)} {n : Nat} (h : NestOk eo ei sz rows (some n) Z w us ov vs) (hn : n < rows.length) (hk : Keeps Z w Z' w') (hown : w'.ownsRow 0 eo 1 ov rows.length xs')
    (hx : ∀ i v, i ≠ n → vs[i]? = some v → xs'[i]? = some v) (hxn : xs'[n]? = some v) (hrow : RowOk Z' w' ei sz v r) (hoth : ∀ i v' b, i ≠ n → vs[i]? = some v' → v'.ownBlock = some b → w'.heap[b]? = w.heap[b]? ∧ v.ownBlock ≠ some b)
    (hov : ∀ b, v.ownBlock = some b → ov.ownBlock ≠ some b) : NestOk eo ei sz (rows.set n r) none Z' w' [] ov (vs.set n v) := by
  have hne : ∀ i, i ≠ n → (some n : Option Nat) ≠ some i := fun i hi h => by injection h with h; exact hi h.symm
  have get : ∀ i u, (vs.set n v)[i]? = some u → (i = n ∧ u = v) ∨ (i ≠ n ∧ vs[i]? = some u) := fun i u hu => by
    by_cases hi : i = n
    · subst hi
      rw [List.getElem?_set_self (by rw [h.len]; exact hn)] at hu
      exact .inl ⟨rfl, (Option.some.inj hu).symm⟩
    · rw [List.getElem?_set_ne (Ne.symm hi)] at hu
      exact .inr ⟨hi, hu⟩
  refine ⟨by simp [h.len], h.pos, ⟨xs', by simpa using hown, fun i u _ hu => ?_, fun m hm => nomatch hm⟩, fun i u r' _ hu hr => ?_, fun i j u u' b hij _ _ hu hu' hb => ?_, fun i u b _ hu hb => ?_⟩
  · rcases get i u hu with ⟨rfl, rfl⟩ | ⟨hi, hu⟩
    · exact hxn
    · exact hx i u hi hu
  · rcases get i u hu with ⟨rfl, rfl⟩ | ⟨hi, hu⟩
    · rw [List.getElem?_set_self hn] at hr
      obtain rfl := Option.some.inj hr
      exact hrow
    · rw [List.getElem?_set_ne (Ne.symm hi)] at hr
      exact (h.row i u r' (hne i hi) hu hr).keep hk fun b hb => (hoth i u b hi hu hb).1
  · have gi := get i u hu
    have gj := get j u' hu'
    clear hu hu'
    rcases gi with ⟨rfl, rfl⟩ | ⟨hi, hu⟩
    · rcases gj with ⟨rfl, rfl⟩ | ⟨hj, hu'⟩
      · exact absurd rfl hij
      · exact fun hb' => (hoth j u' b hj hu' hb').2 hb
    · rcases gj with ⟨rfl, rfl⟩ | ⟨hj, hu'⟩
      · exact fun hb' => (hoth i u b hi hu hb).2 hb'
      · exact h.ap i j u u' b hij (hne i hi) (hne j hj) hu hu' hb
  · rcases get i u hu with ⟨rfl, rfl⟩ | ⟨hi, hu⟩
    · exact hov b hb
    · exact h.apo i u b (hne i hi) hu hb
theorem nest_two {o0 o1 : AObj} {g0 g1 : Nat} (j : Nat) : objL [(g0, o0), (g1, o1)] j = if j = 0 then (g0, o0) else if j = 1 then (g1, o1) else (0, .none) := objL_two _ _ _ _ _
/-- A row is taken out. -/
theorem eff_ntake {t : TypeId} {i : TI} (hi : TOk1 P t i) (hagg : i.isAgg = false) {n : Nat} {r : List (List CV)} (hr : rows[n]? = some r) {cs : List CV} (hcs : cs = [] ∨ cs = [.rs 1 1]) {x : Operand} {ty : TypeId} :
    EffOp P G (.load t x) ty [.xf 0 0 (cellOf n)] [(0, .ext (nestK eo ei sz rows none) [])] (.rs 1 1) [(0, .ext (nestK eo ei sz rows (some n)) cs), (1, .arr ei sz r none)] := by
  intro Z w Eo ac o next Q ho hty hg hzl hl hargs hgs hnext
  have hx := hargs 0 (.xf 0 0 (cellOf n)) x rfl rfl
  obtain ⟨us, ov, vs, _, _, hE, hN, hnz⟩ := grp_nest hg
  have hxv := xf_face hx rfl hE
  have hlt : n < rows.length := (List.getElem?_eq_some_iff.1 hr).1
  obtain ⟨v, hv⟩ : ∃ v, vs[n]? = some v := ⟨_, List.getElem?_eq_getElem (by rw [hN.len]; exact hlt)⟩
  obtain ⟨xs, hown, hcell, _⟩ := hN.out
  obtain ⟨b, cap, hb, _⟩ := own_form hown (by omega)
  have hrow := hN.row n v r (fun h => nomatch h) hv hr
  have hxs := hcell n v (fun h => nomatch h) hv
  rw [hb] at hown
  have hce : w.cell? ⟨b, n, none⟩ = some v := by rw [hown.cellAt _ (by omega), hxs]
  obtain ⟨a0, l0, k0, hvs⟩ := hrow.isSl
  obtain ⟨y, hrun, hy⟩ := run_part (Z := Z) (P := P) (w := w) hi (cs := [.v v]) (b := b) (o := n) (off := 0) (f := fun _ => v) (c := .v v) (fun j c hj => by
    match j, hj with
    | 0, hj => simp at hj; subst hj; exact ⟨hce, by rw [hvs]; rfl, .v _⟩
    | j + 1, hj => simp at hj) (by simp [part, hagg])
  have hyv := rep_v hy
  subst hyv
  have hex : (execOp ac.eval o).run P w = .ok (.value y) w := by
    obtain ⟨dst, op, type, pos, after, guard⟩ := o
    simp only at ho
    subst ho
    simp only [execOp, hxv, hb, cellOf, Nat.zero_add, Sem.run_bind]
    rw [Nat.add_zero] at hrun
    rw [hrun]
    rfl
  let Er : Nat → Value := fun j => if j = 0 then Eo 0 else y
  have hN' : NestOk eo ei sz rows (some n) Z w (if cs = [] then [] else [y]) ov vs := hN.take hv (by split <;> simp)
  have hb1 : ∀ c, y.ownBlock = some c → nestBlk none ov vs c := fun c hc => .inr ⟨n, y, (fun h => nomatch h), hv, hc⟩
  have hap : ∀ c, nestBlk (some n) ov vs c → y.ownBlock ≠ some c := fun c hc hyc => by
    rcases hc with hc | ⟨i', v', hi', hv', hc⟩
    · exact hN.apo n y c (fun h => nomatch h) hv hyc hc
    · exact hN.ap i' n v' y c (fun e => hi' (by rw [e])) (fun h => nomatch h) (fun h => nomatch h) hv' hv hc hyc
  have blk0 : ∀ c, (AObj.ext (nestK eo ei sz rows (some n)) cs).blk (Eo 0) c → nestBlk (some n) ov vs c := fun c hc => by
    obtain ⟨ov', vs', he, hc⟩ := hc
    rw [hE] at he
    obtain ⟨rfl, rfl⟩ := tup_inj he
    exact hc
  have gb : ∀ c, nestBlk none ov vs c → GB [(0, .ext (nestK eo ei sz rows none) [])] Eo c := fun c hc => ⟨0, ⟨ov, vs, hE, hc⟩⟩
  refine wp_value hex (hnext _ Z w Er ?_)
  exact
    { res := .rs 1 1 _ ⟨_, _, _, hvs⟩ (Nat.le_refl _) fun _ _ _ _ _ => rfl
      grp := ⟨fun j => by
          rw [nest_two]
          by_cases h0 : j = 0
          · subst h0
            rw [if_pos rfl]
            refine ⟨if cs = [] then [] else [y], ?_, fun j c hj => ?_, ⟨ov, vs, hE, hN'⟩, fun c o' hc => hnz c o' (nestBlk_none (blk0 c hc))⟩
            · rcases hcs with rfl | rfl <;> rfl
            · rcases hcs with rfl | rfl
              · simp at hj
              · match j, hj with
                | 0, hj => simp at hj; subst hj; exact ⟨y, rfl, .one (.rs 1 1 _ ⟨_, _, _, hvs⟩ (Nat.le_refl _) fun _ _ _ _ _ => rfl)⟩
                | j + 1, hj => simp at hj
          · rw [if_neg h0]
            by_cases h1 : j = 1
            · subst h1
              rw [if_pos rfl]
              exact hrow.arr hN.pos fun c o' hc => hnz c o' (hb1 c hc)
            · rw [if_neg h1]; trivial,
        fun j j' c hne h1 h2 => by
          have hblk : ∀ j, (objL [(0, AObj.ext (nestK eo ei sz rows (some n)) cs), (1, .arr ei sz r none)] j).2.blk (Er j) c → (j = 0 ∧ nestBlk (some n) ov vs c) ∨ (j = 1 ∧ y.ownBlock = some c) := fun j h => by
            rw [nest_two] at h
            by_cases h0 : j = 0
            · subst h0; exact .inl ⟨rfl, blk0 c h⟩
            · rw [if_neg h0] at h
              by_cases h1 : j = 1
              · subst h1; rw [if_pos rfl] at h; rw [arr_blk] at h; exact .inr ⟨rfl, h⟩
              · rw [if_neg h1] at h; simp [AObj.blk] at h
          rcases hblk j h1 with ⟨e1, q1⟩ | ⟨e1, q1⟩ <;> rcases hblk j' h2 with ⟨e2, q2⟩ | ⟨e2, q2⟩
          · exact hne (e1.trans e2.symm)
          · exact hap c q1 q2
          · exact hap c q2 q1
          · exact hne (e1.trans e2.symm)⟩
      keeps := Keeps.refl _ _
      zlt := hzl
      znew := fun _ _ h => .inl h
      kept := Kept.refl _ _
      own := fun c ⟨j, h⟩ => by
        rw [nest_two] at h
        by_cases h0 : j = 0
        · subst h0; exact .inr (gb c (nestBlk_none (blk0 c h)))
        · rw [if_neg h0] at h
          by_cases h1 : j = 1
          · subst h1; rw [if_pos rfl] at h; rw [arr_blk] at h; exact .inr (gb c (hb1 c h))
          · rw [if_neg h1] at h; simp [AObj.blk] at h
      ok := okeep fun t => by
        rw [nest_two, objL_one]
        by_cases h0 : t = 0
        · subst h0; exact ⟨Nat.le_refl _, .inr (.inr (.inr (.inr ⟨rfl, _, _, _, _, rfl, rfl⟩)))⟩
        · rw [if_neg h0, if_neg h0]
          by_cases h1 : t = 1
          · rw [if_pos h1]; exact ⟨Nat.zero_le _, .inl Nat.zero_lt_one⟩
          · rw [if_neg h1]; exact ⟨Nat.le_refl _, .inr (.inl rfl)⟩ }
end
end Go.Abs
