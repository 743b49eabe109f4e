/-
  Soundness: slices that are made and appended to.
-/
import Derived.Test.YtmcolhhmlpicaaaDoorAbsMem
namespace Go.Abs
open Go Go.RowKit

section
variable {P : Program} {G : World → Prop} {T : Tab} {Z0 : Base} {w0 : World} {S : Nat → Prop} {n : Nat} {Z Z' : Zone} {E : Nat → Value} {st : St} {a : Act} {w w' : World}

/-- A slice that may be appended to is laid into slot d. -/
theorem Inv.tok (hI : Inv G Z0 w0 S n Z E st a w) {d : Nat} (hd : inRange n (some d) = true) {x : Value} {sz el s' : Nat} {es : List (List CV)} {obj' : Objs}
    (hod : obj' d = ((st.obj d).1 + 1, .tok el s')) (hoo : ∀ t, t ≠ d → obj' t = st.obj t ∨ obj' t = ((st.obj t).1, .spent))
    (hb : Kept S w w') (hk : Keeps Z w Z' w') (hlt : ∀ b o, Z' b o → b < w'.heap.size) (hnew : ∀ b o, Z' b o → Z b o ∨ ¬ S b)
    (hown : ObjOk Z' w' st.obj E x (.tok el s')) (hrep : Rep Z' w' (.sl sz es) x)
    (hnS : ∀ b, (AObj.tok el s').blk x = some b → ¬ S b)
    (hothers : ∀ t, t ≠ d → obj' t = st.obj t → ∀ b, (st.obj t).2.blk (E t) = some b → w'.heap[b]? = w.heap[b]? ∧ (∀ k, Z' b k → Z b k) ∧ (AObj.tok el s').blk x ≠ some b) :
    Inv G Z0 w0 S n Z' (setE E d x) ⟨put st.env (some d) (.ap d ((st.obj d).1 + 1) sz es), obj'⟩ (a.put (some d) x) w' := by
  refine hI.renew (fun t => t = d ∨ obj' t ≠ st.obj t) hd hb hk hlt hnew ?_ ?_ ?_ ?_ ?_ ?_ ?_
  · intro t ht
    have h1 : t ≠ d := fun e => ht (.inl e)
    exact ⟨Classical.byContradiction fun e => ht (.inr e), setE_ne E _ h1⟩
  · intro t ht
    by_cases h : t = d
    · subst h; rw [hod]; exact .inl (Nat.lt_succ_self _)
    · rcases hoo t h with h1 | h1
      · rcases ht with ht | ht
        · exact absurd ht h
        · exact absurd h1 ht
      · rw [h1]; exact .inr ⟨rfl, .inl rfl⟩
  · intro _ t ht
    by_cases h : t = d
    · subst h; rw [hod, setE_same]; exact hown
    · rcases hoo t h with h1 | h1
      · rcases ht with ht | ht
        · exact absurd ht h
        · exact absurd h1 ht
      · rw [h1]; trivial
  · intro t ht b hb
    have h1 : t ≠ d := fun e => ht (.inl e)
    have h2 : obj' t = st.obj t := Classical.byContradiction fun e => ht (.inr e)
    obtain ⟨g1, g2, g3⟩ := hothers t h1 h2 b hb
    refine ⟨g1, g2, fun s hs => ?_⟩
    by_cases h : s = d
    · subst h; rw [hod, setE_same]; exact g3
    · rcases hoo s h with h3 | h3
      · rcases hs with hs | hs
        · exact absurd hs h
        · exact absurd h3 hs
      · rw [h3]; simp [AObj.blk]
  · intro t t' b ht ht' hne h1 h2
    by_cases h : t = d
    · have h' : t' ≠ d := fun e => hne (h.trans e.symm)
      rcases hoo t' h' with h3 | h3
      · rcases ht' with ht' | ht'
        · exact absurd ht' h'
        · exact absurd h3 ht'
      · rw [h3] at h2; simp [AObj.blk] at h2
    · rcases hoo t h with h3 | h3
      · rcases ht with ht | ht
        · exact absurd ht h
        · exact absurd h3 ht
      · rw [h3] at h1; simp [AObj.blk] at h1
  · intro t ht b hb'
    by_cases h : t = d
    · subst h; rw [hod, setE_same] at hb'; exact hnS b hb'
    · rcases hoo t h with h1 | h1
      · rcases ht with ht | ht
        · exact absurd ht h
        · exact absurd h1 ht
      · rw [h1] at hb'; simp [AObj.blk] at hb'
  · refine .ap _ _ _ _ _ hrep ?_ fun _ _ _ => setE_same _ _ _
    rw [hod]
    exact Nat.le_refl _

theorem sound_assign (dst : Option Nat) (x : Operand) (type : TypeId) (pos : String) (after : Array Edge) (guard : Option (Nat × Bool)) : OpSound P G T ⟨dst, .assign x, type, pos, after, guard⟩ := by
  intro Z0 w0 S n Z E st a w K next Q F hI hd h hX hn
  simp only [wpOp] at h
  cases dst with
  | none => first | exact h.elim | exact hX h
  | some d =>
    simp only [wpAssign] at h
    split at h
    · split at h
      · rename_i e _ _ _ _ _ hty
        split at h
        · rename_i i hi
          replace h := bif_true h
          obtain ⟨h1, h⟩ := h
          have h1 : 1 ≤ i.size := Nat.le_of_ble_eq_true h1
          refine wp_value (x := .slice none 0 0) (w' := w) (by simp [execOp, Act.eval]) (hn _ _ _ Z (setE E d (.slice none 0 0)) _ w h ?_)
          refine hI.tok hd (upd_one_same _ _ _) (fun t ht => .inl (upd_one_ne _ _ ht)) (Kept.refl _ _) (Keeps.refl _ _) hI.zlt (fun _ _ h => .inl h) ?_ (.nil _ _ _) (fun b hb => by simp [AObj.blk] at hb) ?_
          · exact ⟨0, [], h1, World.ownsRow_nil w _ _ _, fun g cap he => by simp at he⟩
          · exact fun t _ _ b _ => ⟨rfl, fun _ h => h, by simp [AObj.blk]⟩
        · first | exact h.elim | exact hX h
      · first | exact h.elim | exact hX h
    · have hx := look_rep hI x
      have hrun : (execOp a.eval ⟨some d, .assign x, type, pos, after, guard⟩).run P w = .ok (.value (a.eval x)) w := by simp [execOp]
      split at h
      · rename_i t g sz es he
        have hx' := hx
        rw [he] at hx'
        split at h
        · rename_i g' el s' ho
          cases hb : (Nat.beq g g' && !(Nat.beq t d)) with
          | false =>
            rw [hb] at h
            simp only [cond_false] at h
            exact sound_value hI hd hn h hrun hx
          | true =>
            rw [hb] at h
            simp only [cond_true] at h
            simp only [Bool.and_eq_true, Bool.not_eq_true'] at hb
            have hgg := Nat.eq_of_beq_eq_true hb.1
            subst hgg
            have htd : t ≠ d := fun e => by subst e; simp at hb
            cases hx' with
            | ap _ _ _ _ _ hrep hgl hE =>
              have hEt := hE _ _ ho
              refine wp_value hrun (hn _ _ _ Z (setE E d (a.eval x)) _ w h ?_)
              have hot := hI.obj t
              rw [ho, hEt] at hot
              refine hI.tok hd (upd_two_snd _ _ _ htd) (fun s hs => ?_) (Kept.refl _ _) (Keeps.refl _ _) hI.zlt (fun _ _ h => .inl h) hot hrep (fun b hb => hI.own t b (by rw [ho, hEt]; exact hb)) ?_
              · by_cases hst : s = t
                · subst hst; right; rw [upd_two_fst, ho]
                · left; exact upd_two_ne _ _ _ hst hs
              · intro s hs hos b hb'
                refine ⟨rfl, fun _ h => h, fun hx => ?_⟩
                have hst : s ≠ t := fun e => by subst e; rw [upd_two_fst] at hos; rw [ho] at hos; simp at hos
                exact hI.apart s t b hst hb' (by rw [ho, hEt]; exact hx)
        · refine sound_value hI hd hn h hrun (.c _ _ ?_)
          cases hx' with
          | ap _ _ _ _ _ hrep hgl hE => exact hrep
      · exact sound_value hI hd hn h hrun hx

/-- The cells of a list of elements, one behind the other. -/
theorem flat_get {ds : List (List CV)} {sz : Nat} (hsz : ∀ (i : Nat) (d : List CV), ds[i]? = some d → d.length = sz) (h0 : 0 < sz) {k : Nat} (hk : k < ds.length * sz) :
    ∃ d c, ds[k / sz]? = some d ∧ d[k % sz]? = some c := by
  have h1 : k / sz < ds.length := Nat.div_lt_of_lt_mul (by rw [Nat.mul_comm]; exact hk)
  have h2 : ds[k / sz]? = some (ds[k / sz]'h1) := List.getElem?_eq_getElem h1
  have h3 := hsz _ _ h2
  have h4 : k % sz < (ds[k / sz]'h1).length := by rw [h3]; exact Nat.mod_lt _ h0
  exact ⟨_, _, h2, List.getElem?_eq_getElem h4⟩

theorem append_run {base : Nat} {t ty e : TypeId} {i : TypeInfo} {z : Value} {size : Nat} (ht : P.underlying t = some (.slice e)) (hi : P.info? e = some i) (hz : i.zero = some z)
    (hsize : i.size = size) (hzs : z.cells.size = size) (hsz : 0 < size)
    {v : Value} {m0 : Nat} {xs : List Value} (hown : w.ownsRow base e size v m0 xs)
    {b : Addr} {m c : Nat} {news : List Value} (hm : 0 < m) (hl : news.length = m * size) (hnews : ∀ j u, news[j]? = some u → w.cell? (b.add j) = some u) (h1 : ∀ u ∈ news, u.oneCell' = true)
    (h63 : m0 + m ≤ 9223372036854775807) (hbytes : (m0 + m) * i.bytes ≤ 140737488355328) (hbase : base ≤ w.heap.size) :
    ∃ v' w', (Builtin.append_ #[t, t] ty #[v, .slice (some b) m c]).run P w = .ok v' w' ∧ w'.ownsRow base e size v' (m0 + m) (xs ++ news) ∧ w.grownBy w' v.ownBlock ∧
      (∀ g o, v.ownBlock = some g → o < m0 * size → w'.cell? ⟨g, o, none⟩ = w.cell? ⟨g, o, none⟩) ∧
      (v'.ownBlock = v.ownBlock ∨ v'.ownBlock = some w.heap.size) := by
  obtain ⟨v', w', hr, ho', hg', _⟩ := run_append_own (P := P) w base t ty e i z size i.bytes ht hi hz hsize rfl hzs hsz v m0 xs hown b m c news hl hnews h1 (by simp only [maxLen]; omega) hbytes hbase
  refine ⟨v', w', hr, ho', hg', ?_⟩
  subst hsize
  rcases hown.2 with ⟨rfl, rfl⟩ | ⟨g, cap, cur, rfl, hbg, hg, hnc, hcm, hcs, htake⟩
  · have hr2 := run_append_nil (P := P) w t ty e i z ht hi hz b m c news hl hnews hm (by omega) (by simp only [Nat.zero_add] at hbytes; omega)
    rw [hr2] at hr
    injection hr with hv hw
    subst hv
    exact ⟨fun g o hgo => by simp [Value.ownBlock] at hgo, .inr rfl⟩
  · by_cases hroom : m0 + m ≤ cap
    · have hfit : m0 * i.size + news.length ≤ cur.size := by rw [hl, hcs, ← Nat.add_mul]; exact Nat.mul_le_mul_right _ hroom
      have hr2 := run_append_room (P := P) w t ty e i ht hi g m0 cap cur hg b m c news hl hnews h1 hroom hfit
      rw [hr2] at hr
      injection hr with hv hw
      subst hv; subst hw
      refine ⟨fun g' o hgo ho => ?_, .inl rfl⟩
      simp [Value.ownBlock] at hgo
      subst hgo
      rw [cell_setRow_same w g o cur _ e (0, 0) hg, cell_of_row w g o cur e (0, 0) hg]
      simp only [List.getElem?_toArray, List.append_assoc]
      rw [List.getElem?_append_left (by simp; omega), List.getElem?_take, if_pos ho]
      simp
    · have holds : ∀ j u, xs[j]? = some u → w.cell? ((⟨g, 0, none⟩ : Addr).add j) = some u := hown.cells (g := g) rfl
      have hr2 := run_append_grow (P := P) w t ty e i z ht hi hz ⟨g, 0, none⟩ m0 cap xs hown.1 holds b m c news hl hnews (by omega) (by omega) (growslice_fits (by omega) hbytes)
      rw [hr2] at hr
      injection hr with hv hw
      subst hv; subst hw
      refine ⟨fun g' o hgo ho => ?_, .inr rfl⟩
      simp [Value.ownBlock] at hgo
      subst hgo
      exact cell_heap (w := w.drew) (heap_alloc_old w.drew _ (Array.getElem?_eq_some_iff.1 hg).1)

theorem append_none {base : Nat} {t ty e : TypeId} {i : TypeInfo} {size : Nat} (ht : P.underlying t = some (.slice e)) (hi : P.info? e = some i)
    {v : Value} {m0 : Nat} {xs : List Value} (hown : w.ownsRow base e size v m0 xs) (ya : Option Addr) (yc : Nat) :
    (Builtin.append_ #[t, t] ty #[v, .slice ya 0 yc]).run P w = .ok v w := by
  rcases hown.2 with ⟨rfl, rfl⟩ | ⟨g, cap, cur, rfl, _, _, hnc, _⟩
  · cases ya <;> simp [Builtin.append_, run_underlying ht, sizeOf, typeInfo, hi, Builtin.lenOf, Builtin.firstCells, loadCells, loadCellsFrom]
  · cases ya <;> simp [Builtin.append_, run_underlying ht, sizeOf, typeInfo, hi, Builtin.lenOf, Builtin.firstCells, hnc, storeCells, loadCells, loadCellsFrom]

theorem own_blk (x : Value) (el sz : Nat) : (AObj.tok el sz).blk x = x.ownBlock := by
  cases x <;> try rfl
  rename_i a l c
  cases a <;> rfl

/-- What a token's slice reads as, cell by cell. -/
theorem own_rep {el : TypeId} {sz m0 : Nat} {xs : List Value} {x : Value} {es : List (List CV)} (hown : w.ownsRow 0 el sz x m0 xs) (hrep : Rep Z w (.sl sz es) x) :
    m0 = es.length ∧ (∀ (i : Nat) (d : List CV), es[i]? = some d → d.length = sz) ∧ ∀ (i j : Nat) (d : List CV) (c : CV), es[i]? = some d → d[j]? = some c → c.atom = true ∧ ∃ u, xs[i * sz + j]? = some u ∧ Rep Z w c u := by
  cases hrep with
  | nil a b cap =>
    refine ⟨?_, fun i d h => by simp at h, fun i j d c h => by simp at h⟩
    rcases hown.2 with ⟨_, h⟩ | ⟨g, cap', cur, he, _⟩
    · exact h
    · injection he with _ h; exact h.symm
  | sl _ _ b o cap f hcap hs hc hr =>
    rcases hown.2 with ⟨he, _⟩ | ⟨g, cap', cur, he, hbg, hg, hnc, hcm, hcs, htake⟩
    · simp at he
    · simp only [Value.slice.injEq, Option.some.injEq, Addr.mk.injEq] at he
      obtain ⟨⟨rfl, rfl, _⟩, rfl, rfl⟩ := he
      refine ⟨rfl, hs, fun i j d c h1 h2 => ?_⟩
      obtain ⟨_, hcell, hat⟩ := hc i j d c h1 h2
      refine ⟨hat, f i j, ?_, hr i j d c h1 h2⟩
      rw [Nat.zero_add, cell_of_row w b _ cur el (0, 0) hg] at hcell
      rw [← htake, List.getElem?_take, if_pos ?_]
      · simpa using hcell
      · have hi : i < es.length := (List.getElem?_eq_some_iff.1 h1).1
        have hj : j < sz := by rw [← hs i d h1]; exact (List.getElem?_eq_some_iff.1 h2).1
        have h5 : (i + 1) * sz ≤ es.length * sz := Nat.mul_le_mul_right _ (by omega)
        rw [Nat.add_mul, Nat.one_mul] at h5
        omega

/-- The reading of an owned row. -/
theorem rep_own {el : TypeId} {sz m0 : Nat} {xs : List Value} {x : Value} {es : List (List CV)} (hown : w.ownsRow 0 el sz x m0 xs) (hm : m0 = es.length)
    (hs : ∀ (i : Nat) (d : List CV), es[i]? = some d → d.length = sz) (hc : ∀ (i j : Nat) (d : List CV) (c : CV), es[i]? = some d → d[j]? = some c → c.atom = true ∧ ∃ u, xs[i * sz + j]? = some u ∧ Rep Z w c u)
    (hz : ∀ b o, x.ownBlock = some b → o < m0 * sz → Z b o) : Rep Z w (.sl sz es) x := by
  subst hm
  rcases hown.2 with ⟨rfl, h0⟩ | ⟨g, cap, cur, rfl, hbg, hg, hnc, hcm, hcs, htake⟩
  · have : es = [] := List.eq_nil_of_length_eq_zero h0
    subst this
    exact .nil _ _ _
  · refine .sl sz es g 0 cap (fun i j => xs.getD (i * sz + j) undef) hnc hs (fun i j d c h1 h2 => ?_) (fun i j d c h1 h2 => ?_)
    · obtain ⟨hat, u, hu, _⟩ := hc i j d c h1 h2
      have hlt : i * sz + j < es.length * sz := by rw [← hown.1]; exact (List.getElem?_eq_some_iff.1 hu).1
      rw [Nat.zero_add]
      refine ⟨hz g _ rfl hlt, ?_, hat⟩
      rw [hown.cellAt _ hlt, List.getD_eq_getElem?_getD, hu]
      rfl
    · obtain ⟨hat, u, hu, hr⟩ := hc i j d c h1 h2
      have : xs.getD (i * sz + j) undef = u := by rw [List.getD_eq_getElem?_getD, hu]; rfl
      simp only [this]
      exact hr
end
end Go.Abs
