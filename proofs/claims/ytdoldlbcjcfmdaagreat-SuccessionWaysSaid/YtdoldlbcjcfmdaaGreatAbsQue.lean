/-
  A queue of the call's own: a slice of one-cell elements that is shortened in front and lengthened behind.
-/
import Derived.Test.YtdoldlbcjcfmdaaGreatAbsNest
namespace Go.Abs
open Go Go.RowKit
def QueOk (e : TypeId) (l : List CV) (Z : Zone) (w : World) (v : Value) : Prop :=
  ∃ g o cap cur, v = .slice (some ⟨g, o, none⟩) l.length cap ∧ w.heap[g]? = some (.cells cur e (0, 0)) ∧ l.length ≤ cap ∧ o + cap ≤ cur.size ∧ ∀ (k : Nat) (c : CV), l[k]? = some c → c.atom = true ∧ ∃ u, cur[o + k]? = some u ∧ Rep Z w c u
def queK (e : TypeId) (l : List CV) : ExtK where
  ok Z w _ e' := ∃ v, e' = .tuple (v :: []).toArray ∧ QueOk e l Z w v
  blk e' b := ∃ v, e' = .tuple (v :: []).toArray ∧ v.ownBlock = some b
  cl := none
  keep := by
    rintro Z Z' w w' us e' ⟨v, rfl, g, o, cap, cur, rfl, h1, h2, h3, h4⟩ hk hb
    exact ⟨_, rfl, g, o, cap, cur, rfl, (hb g ⟨_, rfl, rfl⟩).trans h1, h2, h3, fun k c hc => by obtain ⟨q1, u, q2, q3⟩ := h4 k c hc; exact ⟨q1, u, q2, q3.keep hk⟩⟩
  cell := by
    rintro Z w us e' b ⟨v, rfl, g, o, cap, cur, rfl, h1, _⟩ ⟨v', he, hb⟩
    obtain ⟨rfl, _⟩ := tup_inj he
    simp [Value.ownBlock] at hb
    subst hb
    exact ⟨_, _, _, h1⟩
  clat := fun h => nomatch h
  close := fun h => nomatch h
section
variable {P : Program} {G : World → Prop} {Z : Zone} {w : World} {e : TypeId} {l : List CV}
theorem grp_que {Eo : Nat → Value} (hg : Grp Z w [(0, .ext (queK e l) [])] Eo) :
    ∃ g o cap cur, Eo 0 = .tuple (Value.slice (some ⟨g, o, none⟩) l.length cap :: []).toArray ∧ w.heap[g]? = some (.cells cur e (0, 0)) ∧ l.length ≤ cap ∧ o + cap ≤ cur.size ∧ (∀ (k : Nat) (c : CV), l[k]? = some c → c.atom = true ∧ ∃ u, cur[o + k]? = some u ∧ Rep Z w c u) ∧ (∀ o, ¬ Z g o) ∧
      GB [(0, .ext (queK e l) [])] Eo g := by
  obtain ⟨us, _, _, ⟨v, h3, g, o, cap, cur, rfl, h4⟩, h5⟩ := hg.ok 0
  exact ⟨g, o, cap, cur, h3, h4.1, h4.2.1, h4.2.2.1, h4.2.2.2, fun o' => h5 g o' ⟨_, h3, rfl⟩, 0, ⟨_, h3, rfl⟩⟩
theorem que_ok {obj : Objs} {Eo : Nat → Value} {v : Value} (h : QueOk e l Z w v) (hz : ∀ c o, v.ownBlock = some c → ¬ Z c o) : ObjOk Z w obj Eo (.tuple (v :: []).toArray) (.ext (queK e l) []) :=
  ⟨[], rfl, fun j c hj => by simp at hj, ⟨v, rfl, h⟩, fun b o ⟨v', he, hb⟩ => by obtain ⟨rfl, _⟩ := tup_inj he; exact hz b o hb⟩
theorem que_blk {v : Value} {b : Nat} (h : (AObj.ext (queK e l) []).blk (.tuple (v :: []).toArray) b) : v.ownBlock = some b := by
  obtain ⟨v', he, hb⟩ := h
  obtain ⟨rfl, _⟩ := tup_inj he
  exact hb
theorem eff_qlen {t e' : TypeId} (ht : P.underlying t = some (.slice e')) {x : Operand} {ty : TypeId} :
    EffOp P G (.call ⟨.builtin .len, ⟨[x]⟩, ⟨[t]⟩⟩) ty [.xr 0 0] [(0, .ext (queK e l) [])] (.c (.v (.int .i64 (l.length : Int)))) [(0, .ext (queK e l) [])] := by
  intro Z w Eo ac o next Q ho hty hg hzl hl hargs hgs hnext
  obtain ⟨g, of, cap, cur, hE, _⟩ := grp_que hg
  have hx := xr_face (hargs 0 (.xr 0 0) x rfl rfl) rfl hE
  have hex : (execOp ac.eval o).run P w = .ok (.value (.int .i64 (l.length : Int))) w := by
    obtain ⟨dst, op, type, pos, after, guard⟩ := o
    simp only at ho
    subst ho
    rw [exec_builtin]
    simp [builtin, Builtin.len_, run_underlying ht, hx, goInt]
  exact wp_value hex (hnext _ Z w Eo (effpost_same hg hzl (.c _ _ (.v _))))
theorem eff_qidx {t : TypeId} {i : TI} (ht : P.underlying t = some (.slice e)) (hi : TOk1 P e i) (h1 : i.size = 1) {n : Int} (hn : decide (0 ≤ n ∧ n < (l.length : Int)) = true) {x y : Operand} {ty : TypeId} {k : IntKind} :
    EffOp P G (.indexAddr t x y) ty [.xr 0 0, .c (.v (.int k n))] [(0, .ext (queK e l) [])] (.xf 0 0 (cellOf n.toNat)) [(0, .ext (queK e l) [])] := by
  intro Z w Eo ac o next Q ho hty hg hzl hl hargs hgs hnext
  have hn := of_decide_eq_true hn
  obtain ⟨g, of, cap, cur, hE, _⟩ := grp_que hg
  have hx := xr_face (hargs 0 (.xr 0 0) x rfl rfl) rfl hE
  have hy := rep_cv (hargs 1 (.c (.v (.int k n))) y rfl rfl)
  have hex : (execOp ac.eval o).run P w = .ok (.value (.pointer (some ⟨g, of + n.toNat, none⟩))) w := by
    obtain ⟨dst, op, type, pos, after, guard⟩ := o
    simp only at ho
    subst ho
    simp only [execOp, hx, hy, Instr.indexAt, asIntOf, Sem.run_bind, Sem.run_pure, Result.andThen_ok, run_underlying ht, hi.sizeOf w, h1, if_pos hn, Addr.add_lit, Nat.mul_one]
  refine wp_value hex (hnext _ Z w Eo (effpost_same hg hzl (.xf 0 0 _ _ (Nat.le_refl _) fun K cs ho => ?_)))
  rw [hE]
  rfl
theorem eff_qload {t : TypeId} {i : TI} (hi : TOk1 P t i) (hagg : i.isAgg = false) {n : Nat} {c : CV} (hc : l[n]? = some c) {x : Operand} {ty : TypeId} :
    EffOp P G (.load t x) ty [.xf 0 0 (cellOf n)] [(0, .ext (queK e l) [])] (.c c) [(0, .ext (queK e l) [])] := by
  intro Z w Eo ac o next Q ho hty hg hzl hl hargs hgs hnext
  obtain ⟨g, of, cap, cur, hE, hh, hlc, hfit, hcell, _⟩ := grp_que hg
  have hx := xf_face (hargs 0 (.xf 0 0 (cellOf n)) x rfl rfl) rfl hE
  obtain ⟨hat, u, hu, hr⟩ := hcell n c hc
  obtain ⟨y, hrun, hy⟩ := run_part (Z := Z) (P := P) (w := w) hi (cs := [c]) (b := g) (o := of + n) (off := 0) (f := fun _ => u) (c := c) (fun j c' hj => by
    match j, hj with
    | 0, hj => simp at hj; subst hj; exact ⟨by rw [Nat.add_zero, cell_of_row w g (of + n) cur e (0, 0) hh, hu], hat, hr⟩
    | j + 1, hj => simp at hj) (by simp [part, hagg])
  have hex : (execOp ac.eval o).run P w = .ok (.value y) w := by
    obtain ⟨dst, op, type, pos, after, guard⟩ := o
    simp only at ho
    subst ho
    simp only [execOp, hx, cellOf, Sem.run_bind]
    rw [Nat.add_zero] at hrun
    rw [hrun]
    rfl
  exact wp_value hex (hnext _ Z w Eo (effpost_same hg hzl (.c _ _ hy)))
theorem eff_qtail {t : TypeId} {i : TI} (ht : P.underlying t = some (.slice e)) (hi : TOk1 P e i) (h1 : i.size = 1) {lo : Int} (hlo : decide (0 ≤ lo ∧ lo ≤ (l.length : Int)) = true) {x b : Operand} {ty : TypeId} {k : IntKind} :
    EffOp P G (.slice t x (some b) none none) ty [.xr 0 0, .c (.v (.int k lo))] [(0, .ext (queK e l) [])] (.xr 0 1) [(1, .ext (queK e (l.drop lo.toNat)) [])] := by
  intro Z w Eo ac o next Q ho hty hg hzl hl hargs hgs hnext
  have hlo := of_decide_eq_true hlo
  obtain ⟨g, of, cap, cur, hE, hh, hlc, hfit, hcell, hnz, hgb⟩ := grp_que hg
  have hx := xr_face (hargs 0 (.xr 0 0) x rfl slice_op0) rfl hE
  have hb := rep_cv (hargs 1 (.c (.v (.int k lo))) b rfl (by simp [Op.operands]))
  obtain ⟨p, rfl⟩ : ∃ p : Nat, lo = p := ⟨lo.toNat, by omega⟩
  have hpl : p ≤ l.length := by omega
  have hrun : (Instr.sliceAt t (ac.eval x) ((some b).map ac.eval) none none).run P w = .ok (.slice (if cap = p then some ⟨g, of, none⟩ else (some (⟨g, of, none⟩ : Addr)).map (·.add (p * i.size))) (l.length - p) (cap - p)) w := by
    rw [hx]
    simp only [Instr.sliceAt, Sem.run_bind, run_underlying ht, Result.andThen_ok, Instr.slice, Option.map_some, hb, run_sliceBounds (P := P) true (len := l.length) (cap := cap) (l := p) (h := l.length) hlc hpl (Nat.le_refl _) (lo := some (.int k (p : Int))) (hi := none) (.inr ⟨k, rfl⟩) (.inl ⟨rfl, rfl⟩), hi.sizeOf, Sem.run_pure]
  obtain ⟨o', hv', hof⟩ : ∃ o', (Value.slice (if cap = p then some ⟨g, of, none⟩ else (some (⟨g, of, none⟩ : Addr)).map (·.add (p * i.size))) (l.length - p) (cap - p)) = .slice (some ⟨g, o', none⟩) (l.length - p) (cap - p) ∧ ((cap = p ∧ o' = of) ∨ (cap ≠ p ∧ o' = of + p)) := by
    by_cases hcp : cap = p
    · exact ⟨of, by rw [if_pos hcp], .inl ⟨hcp, rfl⟩⟩
    · exact ⟨of + p, by rw [if_neg hcp]; simp [Addr.add, h1], .inr ⟨hcp, rfl⟩⟩
  rw [hv'] at hrun
  have hex : (execOp ac.eval o).run P w = .ok (.value (.slice (some ⟨g, o', none⟩) (l.length - p) (cap - p))) w := by
    obtain ⟨dst, op, type, pos, after, guard⟩ := o
    simp only at ho
    subst ho
    simp only [execOp, Option.map_none, Sem.run_bind, hrun, Result.andThen_ok, Sem.run_pure]
  have hq : QueOk e (l.drop p) Z w (.slice (some ⟨g, o', none⟩) (l.length - p) (cap - p)) := by
    refine ⟨g, o', cap - p, cur, by rw [List.length_drop], hh, by rw [List.length_drop]; omega, by omega, fun k' c hc => ?_⟩
    rw [List.getElem?_drop] at hc
    have hlt : p + k' < l.length := (List.getElem?_eq_some_iff.1 hc).1
    obtain ⟨q1, u, q2, q3⟩ := hcell (p + k') c hc
    refine ⟨q1, u, ?_, q3⟩
    rcases hof with ⟨h, _⟩ | ⟨_, h⟩
    · omega
    · rw [h, Nat.add_assoc]; exact q2
  refine wp_value hex (hnext _ Z w (fun _ => .tuple (Value.slice (some ⟨g, o', none⟩) (l.length - p) (cap - p) :: []).toArray) (effpost_new (.inr ⟨_, rfl⟩) hzl (Keeps.refl _ _) (Nat.le_refl _) (Kept.refl _ _) ?_ (fun c hc => ?_) (.xr 0 1 _ rfl (Nat.le_refl _) fun _ _ _ => rfl)))
  · exact que_ok hq fun c o hc => by simp [Value.ownBlock] at hc; subst hc; exact hnz o
  · have := que_blk hc
    simp [Value.ownBlock] at this
    subst this
    exact .inr hgb
theorem eff_qlit {t : TypeId} {i : TI} (ht : P.underlying t = some (.slice e)) (hi : TOk1 P e i) (h1 : i.size = 1) {c : CV} (hat : c.atom = true) (hcell : ∀ Z w x, Rep Z w c x → x.cells = #[x]) {x : Operand} {ty : TypeId} :
    EffOp P G (.buildSlice t 1 ⟨[(0, x)]⟩) ty [.c c] [] (.xr 0 1) [(1, .ext (queK e [c]) [])] := by
  intro Z w Eo ac o next Q ho hty hg hzl hl hargs hgs hnext
  have hx : Rep Z w c (ac.eval x) := by
    have := hargs 0 (.c c) x rfl rfl
    cases this with | c _ _ h => exact h
  have hxc := hcell Z w _ hx
  obtain ⟨j, hj, hjs, hjb, hjz⟩ := hi.infoE
  have hzc : (zeroVal i).cells.size = 1 := by rw [zero_cells hi]; simp [hi.len, h1]
  have hzv : (zeroValue e).run P w = .ok (zeroVal i) w := by simp [zeroValue, typeInfo, hj, hjz]
  have hex : (execOp ac.eval o).run P w = .ok (.value (.slice (some ⟨w.heap.size, 0, none⟩) 1 1)) (w.alloc (.cells #[ac.eval x] e)) := by
    obtain ⟨dst, op, type, pos, after, guard⟩ := o
    simp only at ho
    subst ho
    simp only [execOp, Instr.buildSlice, Sem.run_bind, run_underlying ht, Result.andThen_ok, hi.sizeOf w, h1, Sem.run_pure]
    have hr : Array.range 1 = #[0] := by decide
    simp only [hr]
    simp [hzv, Instr.fill, hxc, newRow]
  refine wp_value hex (hnext _ Z _ (fun _ => .tuple (Value.slice (some ⟨w.heap.size, 0, none⟩) 1 1 :: []).toArray) (effpost_new (.inl rfl) hzl (Keeps.alloc hzl _) (by simp) ((Kept.refl _ _).alloc (fun _ h => h.1) _) ?_ (fun b hb => ?_) (.xr 0 1 _ rfl (Nat.le_refl _) fun _ _ _ => rfl)))
  · refine que_ok ⟨w.heap.size, 0, 1, #[ac.eval x], rfl, heap_alloc_new w _, Nat.le_refl _, Nat.le_refl _, fun k c' hk => ?_⟩ fun c' o hc hz => by
      simp [Value.ownBlock] at hc
      have := hzl c' o hz
      omega
    match k, hk with
    | 0, hk => simp at hk; subst hk; exact ⟨hat, _, by simp, hx.keep (Keeps.alloc hzl _)⟩
    | k + 1, hk => simp at hk
  · have := que_blk hb
    simp [Value.ownBlock] at this
    exact .inl (by omega)
theorem eff_qapp {t : TypeId} {i : TI} (ht : P.underlying t = some (.slice e)) (hi : TOk1 P e i) (h1 : i.size = 1) (hby : i.bytes ≤ 4096) {c : CV} (hle : decide (l.length + 1 ≤ 4294967296) = true) {x y : Operand} {ty : TypeId} :
    EffOp P G (.call ⟨.builtin .append, ⟨[x, y]⟩, ⟨[t, t]⟩⟩) ty [.xr 0 0, .c (.sl 1 [[c]])] [(0, .ext (queK e l) [])] (.xr 0 1) [(1, .ext (queK e (l ++ [c])) [])] := by
  intro Z w Eo ac o next Q ho hty hg hzl hl hargs hgs hnext
  have hle := of_decide_eq_true hle
  obtain ⟨g, of, cap, cur, hE, hh, hlc, hfit, hcell, hnz, hgb⟩ := grp_que hg
  have hx := xr_face (hargs 0 (.xr 0 0) x rfl rfl) rfl hE
  have hy : Rep Z w (.sl 1 [[c]]) (ac.eval y) := by
    have := hargs 1 (.c (.sl 1 [[c]])) y rfl rfl
    cases this with | c _ _ h => exact h
  obtain ⟨news, hnl, hone, hyv, hncell⟩ := closed_news (sz := 1) Nat.one_pos (fun m hm => by simp at hm; rw [hm]; rfl) hy
  obtain ⟨hcat, u, hu, hur⟩ := hncell 0 0 [c] c rfl rfl
  have hnews : news = [u] := by
    match news, hnl, hu with
    | [v], _, hu => simp at hu; rw [hu]
  subst hnews
  obtain ⟨b2, c2, hyv, hnewc⟩ : ∃ b c2, ac.eval y = .slice (some b) 1 c2 ∧ ∀ j u', [u][j]? = some u' → w.cell? (b.add j) = some u' := by
    rcases hyv with ⟨h0, _⟩ | ⟨b, c2, h, _, h'⟩
    · simp at h0
    · exact ⟨b, c2, h, h'⟩
  obtain ⟨j, hj, hjs, hjb, hjz⟩ := hi.infoE
  have hjs1 : j.size = 1 := by rw [hjs, h1]
  have hbytes : (l.length + 1) * j.bytes ≤ 140737488355328 := by
    rw [hjb]
    calc (l.length + 1) * i.bytes ≤ 4294967296 * 4096 := Nat.mul_le_mul hle hby
      _ ≤ 140737488355328 := by decide
  have hu1 : ∀ v ∈ [u], v.oneCell' = true := hone
  have key : ∃ v' w', (Builtin.append_ #[t, t] ty #[ac.eval x, ac.eval y]).run P w = .ok v' w' ∧ w.grownBy w' (some g) ∧ (∃ g' o' cap' cur', v' = .slice (some ⟨g', o', none⟩) (l.length + 1) cap' ∧ w'.heap[g']? = some (.cells cur' e (0, 0)) ∧ l.length + 1 ≤ cap' ∧ o' + cap' ≤ cur'.size ∧ (g' = g ∨ g' = w.heap.size) ∧
      (∀ k, k < l.length → cur'[o' + k]? = cur[of + k]?) ∧ cur'[o' + l.length]? = some u) := by
    by_cases hroom : l.length + 1 ≤ cap
    · have hfc := run_firstCells_some (P := P) w j.size 1 b2 1 c2 [u] (by simp [hjs1]) hnewc
      have hst := run_storeCells_at (P := P) g (of + l.length) e [u] 0 cur w hh (by simp; omega) hu1
      generalize hcur' : (cur.toList.take (of + l.length + 0) ++ [u] ++ cur.toList.drop (of + l.length + 0 + [u].length)).toArray = cur' at hst
      have hrs : cur'.size = cur.size := by rw [← hcur']; exact row_size (vs := [u]) (by simp; omega)
      have hrg : ∀ k, cur'[k]? = if of + l.length ≤ k ∧ k < of + l.length + 1 then [u][k - (of + l.length)]? else cur[k]? := fun k => by rw [← hcur']; exact row_get (vs := [u]) (by simp; omega) k
      refine ⟨.slice (some ⟨g, of, none⟩) (l.length + 1) cap, w.setRow g cur', ?_, ⟨rfl, rfl, rfl, by simp, fun k _ hk => setRow_other w g k _ (fun e => hk (by rw [e]))⟩, g, of, cap, cur', rfl, setRow_heap w g cur cur' e (0, 0) hh, hroom, by omega, .inl rfl, fun k hk => by rw [hrg, if_neg (by omega)], by rw [hrg, if_pos (by omega)]; simp⟩
      rw [hx, hyv]
      rw [hjs1] at hfc
      simp [Builtin.append_, run_underlying ht, sizeOf, typeInfo, hj, hjs1, Builtin.lenOf, hroom, hfc, Addr.add_lit, hst]
    · have hol : ((cur.toList.drop of).take l.length).length = l.length := by
        have h9 : cur.toList.length = cur.size := Array.length_toList
        rw [List.length_take, List.length_drop, h9]; omega
      have hog : ∀ k, k < l.length → ((cur.toList.drop of).take l.length)[k]? = cur[of + k]? := fun k hk => by rw [List.getElem?_take, if_pos hk, List.getElem?_drop]; simp
      have hr := run_append_grow (P := P) w t ty e j (zeroVal i) ht hj hjz ⟨g, of, none⟩ l.length cap ((cur.toList.drop of).take l.length) (by rw [hol, hjs1, Nat.mul_one]) (fun k v hk => by
          have hkl : k < l.length := by rw [← hol]; exact (List.getElem?_eq_some_iff.1 hk).1
          rw [hog k hkl] at hk
          rw [Addr.add_lit, cell_of_row w g (of + k) cur e (0, 0) hh, hk]) b2 1 c2 [u] (by simp [hjs1]) hnewc (by omega) (by omega) (growslice_fits (by omega) hbytes)
      have hge := grownCap_ge w (l.length + 1) cap e
      have hzc : (zeroVal i).cells.size = 1 := by rw [zero_cells hi]; simp [hi.len, h1]
      have hsz : (((cur.toList.drop of).take l.length).toArray ++ [u].toArray ++ Builtin.zeroCells (zeroVal i).cells (grownCap w (l.length + 1) cap e - (l.length + 1))).size = grownCap w (l.length + 1) cap e := by
        simp only [Array.size_append, List.size_toArray, size_zeroCells, hzc, hol, List.length_cons, List.length_nil]
        omega
      refine ⟨_, w.drew.alloc (.cells (((cur.toList.drop of).take l.length).toArray ++ [u].toArray ++ Builtin.zeroCells (zeroVal i).cells (grownCap w (l.length + 1) cap e - (l.length + 1))) e), by rw [hx, hyv]; exact hr, ⟨rfl, rfl, rfl, by simp, fun k hk _ => heap_alloc_old w.drew _ hk⟩, w.heap.size, 0, _, _, rfl, heap_alloc_new w.drew _, hge, ?_, .inr rfl, fun k hk => ?_, ?_⟩
      · rw [hsz]; omega
      · rw [Nat.zero_add, Array.getElem?_append_left (by simp only [Array.size_append, List.size_toArray, hol]; omega), Array.getElem?_append_left (by simp only [List.size_toArray, hol]; exact hk)]
        rw [List.getElem?_toArray]; exact hog k hk
      · rw [Nat.zero_add, Array.getElem?_append_left (by simp only [Array.size_append, List.size_toArray, hol]; simp), Array.getElem?_append_right (by simp only [List.size_toArray, hol]; exact Nat.le_refl _)]
        simp only [List.size_toArray, hol, Nat.sub_self]
        rfl
  obtain ⟨v', w', hrun, hgr, g', o', cap', cur', hv', hh', hlc', hfit', hg', hold, hnew⟩ := key
  have hex : (execOp ac.eval o).run P w = .ok (.value v') w' := by
    obtain ⟨dst, op, type, pos, after, guard⟩ := o
    simp only at ho hty
    subst ho; subst hty
    rw [exec_builtin]
    simp only [builtin, Sem.run_bind, List.map_toArray, List.map_cons, List.map_nil, hrun]
    rfl
  have hkeep : Keeps Z w Z w' := fun b o hz => ⟨hz, keep_heap (hgr.block b (hzl b o hz) (fun e => by injection e with e; subst e; exact hnz o hz))⟩
  have hq : QueOk e (l ++ [c]) Z w' v' := by
    refine ⟨g', o', cap', cur', by rw [hv']; simp, hh', by simpa using hlc', hfit', fun k d hk => ?_⟩
    rcases Nat.lt_or_ge k l.length with h | h
    · rw [List.getElem?_append_left h] at hk
      obtain ⟨q1, u', q2, q3⟩ := hcell k d hk
      exact ⟨q1, u', by rw [hold k h]; exact q2, q3.keep hkeep⟩
    · rw [List.getElem?_append_right h] at hk
      match hkk : k - l.length, hk with
      | 0, hk =>
        simp at hk
        subst hk
        have : k = l.length := by omega
        subst this
        exact ⟨hcat, u, hnew, hur.keep hkeep⟩
      | m + 1, hk => simp at hk
  refine wp_value hex (hnext _ Z w' (fun _ => .tuple (v' :: []).toArray) (effpost_new (.inr ⟨_, rfl⟩) hzl hkeep hgr.size ((Kept.refl _ _).grown hgr (fun k h => h.1) (fun k hk h => h.2 (by injection hk with hk; subst hk; exact hgb)) (fun k hk => by injection hk with hk; subst hk; rw [hh]; exact fun h => nomatch h)) ?_ (fun b hb => ?_) (.xr 0 1 _ (by rw [hv']; rfl) (Nat.le_refl _) fun _ _ _ => rfl)))
  · refine que_ok hq fun b o hb hz => ?_
    rw [hv'] at hb
    simp [Value.ownBlock] at hb
    subst hb
    rcases hg' with h | h
    · rw [h] at hz; exact hnz o hz
    · have := hzl _ o hz; omega
  · have hb := que_blk hb
    rw [hv'] at hb
    simp [Value.ownBlock] at hb
    subst hb
    rcases hg' with h | h
    · rw [h]; exact .inr hgb
    · exact .inl (by omega)
end
end Go.Abs
