/-
  New slices of rows; rows appended.
-/
import Derived.Test.YtdoldlbcjcfmdaaGreatAbsNest2
namespace Go.Abs
open Go Go.RowKit
section
variable {P : Program} {G : World → Prop} {eo ei sz : Nat} {rows : List (List (List CV))}
theorem nest_nil (Z : Zone) (w : World) (hsz : 0 < sz) : NestOk eo ei sz [] none Z w [] (.slice none 0 0) [] where
  len := rfl
  pos := hsz
  out := ⟨[], World.ownsRow_nil _ _ _ _, fun i v _ h => by simp at h, fun _ h => nomatch h⟩
  row i v r _ h := by simp at h
  ap i j v v' b _ _ _ h := by simp at h
  apo i v b _ h := by simp at h
theorem nest_nil_blk {c : Nat} (h : nestBlk none (.slice none 0 0) [] c) : False := by
  rcases h with h | ⟨i, v, _, h, _⟩
  · simp [Value.ownBlock] at h
  · simp at h
/-- A new slice of rows, without rows. -/
theorem eff_nnil (hsz : 0 < sz) {ty : TypeId} : EffOp P G (.assign (.const (.slice .none 0 0))) ty [.c (.sl 0 [])] [] (.xr 0 1) [(1, .ext (nestK eo ei sz [] none) [])] := by
  intro Z w Eo ac o next Q ho hty hg hzl hl hargs hgs hnext
  have hex : (execOp ac.eval o).run P w = .ok (.value (.slice none 0 0)) w := by
    obtain ⟨dst, op, type, pos, after, guard⟩ := o
    simp only at ho
    subst ho
    simp [execOp, Act.eval]
  have hb : ∀ c, (AObj.ext (nestK eo ei sz [] none) []).blk (.tuple (Value.slice none 0 0 :: []).toArray) c → False := fun c hc => nest_nil_blk (nest_blk0 (cs := []) rfl hc)
  refine wp_value hex (hnext _ Z w (fun _ => .tuple (Value.slice none 0 0 :: []).toArray) (effpost_new (.inl rfl) hzl (Keeps.refl _ _) (Nat.le_refl _) (Kept.refl _ _) ?_ (fun b hb' => (hb b hb').elim) (.xr 0 1 _ rfl (Nat.le_refl _) fun _ _ _ => rfl)))
  exact ⟨[], rfl, fun j c hj => by simp at hj, ⟨_, _, rfl, nest_nil Z w hsz⟩, fun b o hb' => (hb b hb').elim⟩
/-- A new variable that holds a slice of rows, without rows. -/
theorem eff_nalloc {t : TypeId} {i : TI} (ht : TOk1 P t i) (hz : i.zero = [.slice none 0 0]) (hagg : i.isAgg = false) (hsz : 0 < sz) {ty : TypeId} :
    EffOp P G (.alloc t) ty [] [] (.pm 0 1 0) [(1, .varx [.xr 1 1]), (1, .ext (nestK eo ei sz [] none) [])] := by
  intro Z w Eo ac o next Q ho hty hg hzl hl hargs hgs hnext
  obtain ⟨j, hj, hjs, _, hjz⟩ := ht.infoE
  have hzv : zeroVal i = .slice none 0 0 := by simp [zeroVal, hagg, hz]
  have hex : (execOp ac.eval o).run P w = .ok (.value (.pointer (some ⟨w.heap.size, 0, none⟩))) (w.alloc (.cells #[.slice none 0 0] t (0, 0))) := by
    obtain ⟨dst, op, type, pos, after, guard⟩ := o
    simp only at ho
    subst ho
    simp [execOp, Instr.alloc, zeroValue, typeInfo, hj, hjz, newVar, newRow, hzv, Value.cells]
  let Er : Nat → Value := fun j => if j = 0 then .pointer (some ⟨w.heap.size, 0, none⟩) else .tuple (Value.slice none 0 0 :: []).toArray
  refine wp_value hex (hnext _ Z _ Er ?_)
  have hnew : (w.alloc (.cells #[.slice none 0 0] t (0, 0))).heap[w.heap.size]? = some (.cells #[.slice none 0 0] t (0, 0)) := (MapKept.heap_alloc w _).1
  have hb : ∀ c, (AObj.ext (nestK eo ei sz [] none) []).blk (.tuple (Value.slice none 0 0 :: []).toArray) c → False := fun c hc => nest_nil_blk (nest_blk0 (cs := []) rfl hc)
  have hblk : ∀ j b, (objL [(1, AObj.varx [.xr 1 1]), (1, .ext (nestK eo ei sz [] none) [])] j).2.blk (Er j) b → j = 0 ∧ b = w.heap.size := fun j b hbb => by
    rw [objL_two] at hbb
    by_cases h0 : j = 0
    · subst h0; simp [Er, AObj.blk] at hbb; exact ⟨rfl, hbb.symm⟩
    · rw [if_neg h0] at hbb
      by_cases h1 : j = 1
      · subst h1; exact (hb b hbb).elim
      · rw [if_neg h1] at hbb; simp [AObj.blk] at hbb
  exact
    { res := .pm 0 1 0 _ ⟨_, rfl⟩ (Nat.le_refl _) fun _ => ⟨w.heap.size, rfl, rfl⟩
      grp := ⟨fun j => by
          rw [objL_two]
          by_cases h0 : j = 0
          · subst h0
            rw [if_pos rfl]
            refine ⟨w.heap.size, t, #[.slice none 0 0], rfl, hnew, rfl, fun k c hk => ?_, fun o hz' => absurd (hzl _ _ hz') (Nat.lt_irrefl _), .none fun k c hk => by match k, hk with | 0, hk => simp at hk; subst hk; rfl | k + 1, hk => simp at hk⟩
            match k, hk with
            | 0, hk =>
              simp at hk
              subst hk
              exact ⟨rfl, _, rfl, .one (.xr 1 1 _ rfl (Nat.le_refl _) fun _ _ _ => rfl)⟩
            | k + 1, hk => simp at hk
          · rw [if_neg h0]
            by_cases h1 : j = 1
            · subst h1
              rw [if_pos rfl]
              exact ⟨[], rfl, fun j c hj => by simp at hj, ⟨_, _, rfl, nest_nil Z _ hsz⟩, fun b o hb' => (hb b hb').elim⟩
            · rw [if_neg h1]; trivial,
        fun j j' b hne h1 h2 => hne ((hblk j b h1).1.trans (hblk j' b h2).1.symm)⟩
      keeps := Keeps.alloc hzl _
      zlt := fun b o hz => by have := hzl b o hz; simp; omega
      znew := fun _ _ h => .inl h
      kept := (Kept.refl _ _).alloc (fun _ h => h.1) _
      own := fun b ⟨j, hj⟩ => .inl (by have := (hblk j b hj).2; omega)
      ok := okeep fun t => by
        rw [nest_two]
        by_cases h0 : t = 0
        · rw [if_pos h0]; exact ⟨by simp [objL], .inl (by simp [objL])⟩
        · rw [if_neg h0]
          by_cases h1 : t = 1
          · rw [if_pos h1]; exact ⟨by simp [objL], .inl (by simp [objL])⟩
          · rw [if_neg h1]; exact ⟨by simp [objL], .inr (.inl rfl)⟩ }
/-- A slice literal of one row that is nil. -/
theorem eff_nlit {t : TypeId} {i : TI} (ht : P.underlying t = some (.slice eo)) (hi : TOk1 P eo i) (h1 : i.size = 1) (hsz : 0 < sz) {ty : TypeId} :
    EffOp P G (.buildSlice t 1 ⟨[(0, .const (.slice .none 0 0))]⟩) ty [.c (.sl 0 [])] [] (.xr 0 1) [(1, .ext (nestK eo ei sz [[]] none) [])] := by
  intro Z w Eo ac o next Q ho hty hg hzl hl hargs hgs hnext
  obtain ⟨j, hj, hjs, hjb, hjz⟩ := hi.infoE
  have hzv : (zeroValue eo).run P w = .ok (zeroVal i) w := by simp [zeroValue, typeInfo, hj, hjz]
  have hzc : (zeroVal i).cells.size = 1 := by rw [zero_cells hi]; simp [hi.len, h1]
  have hex : (execOp ac.eval o).run P w = .ok (.value (.slice (some ⟨w.heap.size, 0, none⟩) 1 1)) (w.alloc (.cells #[.slice none 0 0] eo)) := by
    obtain ⟨dst, op, type, pos, after, guard⟩ := o
    simp only at ho
    subst ho
    simp only [execOp, Instr.buildSlice, Sem.run_bind, run_underlying ht, Result.andThen_ok, hi.sizeOf w, h1, Sem.run_pure]
    have hr : Array.range 1 = #[0] := by decide
    simp only [hr]
    simp [hzv, Instr.fill, Act.eval, newRow, Value.cells]
  have hown := World.ownsRow_lit (base := 0) (e := eo) (size := 1) w #[.slice none 0 0] 1 (Nat.zero_le _) (by simp only [maxLen]; omega) (by simp)
  let ov : Value := .slice (some ⟨w.heap.size, 0, none⟩) 1 1
  have hb : ∀ c, (AObj.ext (nestK eo ei sz [[]] none) []).blk (.tuple (ov :: [.slice none 0 0]).toArray) c → c = w.heap.size := fun c hc => by
    rcases nest_blk0 (cs := []) rfl hc with h | ⟨i, v, _, h, h'⟩
    · simp [ov, Value.ownBlock] at h; exact h.symm
    · match i, h with
      | 0, h => simp at h; subst h; simp [Value.ownBlock] at h'
      | i + 1, h => simp at h
  refine wp_value hex (hnext _ Z _ (fun _ => .tuple (ov :: [.slice none 0 0]).toArray) (effpost_new (.inl rfl) hzl (Keeps.alloc hzl _) (by simp) ((Kept.refl _ _).alloc (fun _ h => h.1) _) ?_ (fun b hb' => .inl (by rw [hb b hb']; exact Nat.le_refl _)) (.xr 0 1 _ rfl (Nat.le_refl _) fun _ _ _ => rfl)))
  refine ⟨[], rfl, fun j c hj => by simp at hj, ⟨_, _, rfl, ?_⟩, fun b o hb' hz => by have := hb b hb'; have := hzl b o hz; omega⟩
  refine ⟨rfl, hsz, ⟨_, hown, fun i v _ hv => ?_, fun _ h => nomatch h⟩, fun i v r _ hv hr => ?_, fun i j v v' b hij _ _ hv hv' hb' => ?_, fun i v b _ hv hb' => ?_⟩
  · match i, hv with
    | 0, hv => simp at hv; subst hv; rfl
    | i + 1, hv => simp at hv
  · match i, hv, hr with
    | 0, hv, hr =>
      simp at hv hr
      subst hv; subst hr
      exact ⟨[], World.ownsRow_nil _ _ _ _, fun k d h => by simp at h, fun k j d c h => by simp at h⟩
    | i + 1, hv, _ => simp at hv
  · match i, hv with
    | 0, hv => simp at hv; subst hv; simp [Value.ownBlock] at hb'
    | i + 1, hv => simp at hv
  · match i, hv with
    | 0, hv => simp at hv; subst hv; simp [Value.ownBlock] at hb'
    | i + 1, hv => simp at hv
theorem app_get {α : Type} {a b : List α} {i : Nat} {x : α} (h : (a ++ b)[i]? = some x) : (i < a.length ∧ a[i]? = some x) ∨ (a.length ≤ i ∧ b[i - a.length]? = some x) := by
  rcases Nat.lt_or_ge i a.length with hi | hi
  · rw [List.getElem?_append_left hi] at h; exact .inl ⟨hi, h⟩
  · rw [List.getElem?_append_right hi] at h; exact .inr ⟨hi, h⟩
/-- Rows appended. -/
theorem eff_napp {t : TypeId} {i : TI} {rows2 : List (List (List CV))} (ht : P.underlying t = some (.slice eo)) (hi : TOk1 P eo i) (h1 : i.size = 1) (hby : i.bytes ≤ 4096) (hle : decide (rows.length + rows2.length ≤ 4294967296) = true) {x y : Operand} {ty : TypeId} :
    EffOp P G (.call ⟨.builtin .append, ⟨[x, y]⟩, ⟨[t, t]⟩⟩) ty [.xr 0 0, .xr 1 0] [(0, .ext (nestK eo ei sz rows none) []), (0, .ext (nestK eo ei sz rows2 none) [])] (.xr 0 1) [(1, .ext (nestK eo ei sz (rows ++ rows2) none) []), (1, .spent)] := by
  intro Z w Eo ac o next Q ho hty hg hzl hl hargs hgs hnext
  have hle := of_decide_eq_true hle
  obtain ⟨us, ov, vs, _, _, hE, hN, hnz⟩ := grp_nest hg
  obtain ⟨us2, _, _, ⟨ov2, vs2, hE2, hN2⟩, hnz2⟩ : ObjOk Z w (objL [(0, AObj.ext (nestK eo ei sz rows none) []), (0, .ext (nestK eo ei sz rows2 none) [])]) Eo (Eo 1) (.ext (nestK eo ei sz rows2 none) []) := hg.ok 1
  have hx := xr_face (hargs 0 (.xr 0 0) x rfl rfl) rfl hE
  have hy := xr_face (hargs 1 (.xr 1 0) y rfl rfl) rfl hE2
  have hnb2 : ∀ c, nestBlk none ov2 vs2 c → (AObj.ext (nestK eo ei sz rows2 none) []).blk (Eo 1) c := fun c hc => ⟨ov2, vs2, hE2, hc⟩
  have hap : ∀ c, nestBlk none ov vs c → ¬ nestBlk none ov2 vs2 c := fun c hc hc2 => hg.apart 0 1 c (by decide) ⟨ov, vs, hE, hc⟩ (hnb2 c hc2)
  obtain ⟨xs, hown, hcell, _⟩ := hN.out
  obtain ⟨xs2, hown2, hcell2, _⟩ := hN2.out
  have hxl : xs.length = rows.length := by simpa using hown.1
  have hxl2 : xs2.length = rows2.length := by simpa using hown2.1
  have hxv2 : ∀ i u, xs2[i]? = some u → vs2[i]? = some u := fun i u hu => by
    have hil : i < vs2.length := by rw [hN2.len, ← hxl2]; exact (List.getElem?_eq_some_iff.1 hu).1
    have := hcell2 i _ (fun h => nomatch h) (List.getElem?_eq_getElem hil)
    rw [hu] at this
    rw [List.getElem?_eq_getElem hil, ← Option.some.inj this]
  obtain ⟨j, hj, hjs, hjb, hjz⟩ := hi.infoE
  have hzc : (zeroVal i).cells.size = 1 := by rw [zero_cells hi]; simp [hi.len, h1]
  have hbytes : (rows.length + rows2.length) * j.bytes ≤ 140737488355328 := by
    rw [hjb]
    calc (rows.length + rows2.length) * i.bytes ≤ 4294967296 * 4096 := Nat.mul_le_mul hle hby
      _ ≤ 140737488355328 := by decide
  have hslx : ∃ aa l k, ov = .slice aa l k := by obtain ⟨a, k, h⟩ := hN.isSl; exact ⟨_, _, _, h⟩
  obtain ⟨v', w', hrun, hown', hgr, hblk, hs'⟩ := app_core (P := P) (ty := ty) (m := rows2.length) (news := xs2) (yv := ov2) ht hj hjz (by rw [hjs, h1]) hzc Nat.one_pos hown hslx (by simpa using hxl2) (fun u hu => by
      obtain ⟨k, hk, rfl⟩ := List.getElem_of_mem hu
      obtain ⟨r, _, hr⟩ := hN2.get (fun h => nomatch h) (hxv2 k _ (List.getElem?_eq_getElem hk))
      obtain ⟨_, _, _, h⟩ := hr.isSl
      rw [h]; rfl) (by
      rcases hown2.2 with ⟨h, h0⟩ | ⟨g, cap, cur, h, hrest⟩
      · exact .inl ⟨h0, _, _, h⟩
      · rcases Nat.eq_zero_or_pos rows2.length with h0 | h0
        · exact .inl ⟨h0, some ⟨g, 0, none⟩, cap, by rw [h, h0]⟩
        · refine .inr ⟨⟨g, 0, none⟩, cap, h, h0, fun k u hu => ?_⟩
          exact hown2.cells (g := g) (by rw [h]; rfl) k u hu) (by omega) hbytes (Nat.zero_le _)
  have hex : (execOp ac.eval o).run P w = .ok (.value v') w' := by
    obtain ⟨dst, op, type, pos, after, guard⟩ := o
    simp only at ho hty
    subst ho; subst hty
    rw [exec_builtin]
    simp only [builtin, Sem.run_bind, List.map_toArray, List.map_cons, List.map_nil, hx, hy, hrun]
    rfl
  have hlt : ∀ c, nestBlk none ov vs c → c < w.heap.size := fun c hc => by obtain ⟨_, _, _, hh⟩ := hN.cell hc; exact (Array.getElem?_eq_some_iff.1 hh).1
  have hlt2 : ∀ c, nestBlk none ov2 vs2 c → c < w.heap.size := fun c hc => by obtain ⟨_, _, _, hh⟩ := hN2.cell hc; exact (Array.getElem?_eq_some_iff.1 hh).1
  have hkeep : Keeps Z w Z w' := fun b o hz => ⟨hz, keep_heap (hgr.block b (hzl b o hz) (fun e => hnz b o (.inl e.symm) hz))⟩
  have nn : ∀ i : Nat, (none : Option Nat) ≠ some i := fun i h => nomatch h
  have bl : ∀ (i : Nat) (v : Value) (c : Nat), vs[i]? = some v → v.ownBlock = some c → nestBlk none ov vs c := fun i v c hv hc => .inr ⟨i, v, nn i, hv, hc⟩
  have bl2 : ∀ (i : Nat) (v : Value) (c : Nat), vs2[i]? = some v → v.ownBlock = some c → nestBlk none ov2 vs2 c := fun i v c hv hc => .inr ⟨i, v, nn i, hv, hc⟩
  have hv'blk : ∀ c, v'.ownBlock = some c → ov.ownBlock = some c ∨ c = w.heap.size := fun c hc => by
    rcases hblk with h | h
    · exact .inl (by rw [← h]; exact hc)
    · rw [h] at hc; injection hc with hc; exact .inr hc.symm
  have hvl : vs.length = rows.length := hN.len
  have hN' : NestOk eo ei sz (rows ++ rows2) none Z w' [] v' (vs ++ vs2) := by
    refine ⟨by simp [hN.len, hN2.len], hN.pos, ⟨xs ++ xs2, by rw [List.length_append]; exact hown', fun i v _ hv => ?_, fun _ h => nomatch h⟩, fun i v r _ hv hr => ?_, fun i k v v' c hik _ _ hv hv' hc => ?_, fun i v c _ hv hc => ?_⟩
    · rcases app_get hv with ⟨h0, hv⟩ | ⟨h0, hv⟩
      · rw [List.getElem?_append_left (by omega)]; exact hcell i v (nn i) hv
      · rw [List.getElem?_append_right (by omega), hxl, ← hvl]; exact hcell2 _ v (nn _) hv
    · rcases app_get hv with ⟨h0, hv⟩ | ⟨h0, hv⟩
      · rw [List.getElem?_append_left (by omega)] at hr
        exact (hN.row i v r (nn i) hv hr).keep hkeep fun c hc => hgr.block c (hlt c (bl i v c hv hc)) fun e => hN.apo i v c (nn i) hv hc e.symm
      · rw [List.getElem?_append_right (by omega), ← hvl] at hr
        exact (hN2.row _ v r (nn _) hv hr).keep hkeep fun c hc => hgr.block c (hlt2 c (bl2 _ v c hv hc)) fun e => hap c (.inl e.symm) (bl2 _ v c hv hc)
    · rcases app_get hv with ⟨h0, hv⟩ | ⟨h0, hv⟩ <;> rcases app_get hv' with ⟨h1, hv'⟩ | ⟨h1, hv'⟩
      · exact hN.ap i k v v' c hik (nn i) (nn k) hv hv' hc
      · exact fun hc' => hap c (bl i v c hv hc) (bl2 _ v' c hv' hc')
      · exact fun hc' => hap c (bl k v' c hv' hc') (bl2 _ v c hv hc)
      · exact hN2.ap _ _ v v' c (by omega) (nn _) (nn _) hv hv' hc
    · rcases app_get hv with ⟨h0, hv⟩ | ⟨h0, hv⟩
      · intro hc'
        rcases hv'blk c hc' with h | h
        · exact hN.apo i v c (nn i) hv hc h
        · have := hlt c (bl i v c hv hc); omega
      · intro hc'
        rcases hv'blk c hc' with h | h
        · exact hap c (.inl h) (bl2 _ v c hv hc)
        · have := hlt2 c (bl2 _ v c hv hc); omega
  let Er : Nat → Value := fun j => if j = 0 then .tuple (v' :: (vs ++ vs2)).toArray else undef
  have hE0 : Er 0 = .tuple (v' :: (vs ++ vs2)).toArray := rfl
  have cases_blk : ∀ c, nestBlk none v' (vs ++ vs2) c → c = w.heap.size ∨ nestBlk none ov vs c ∨ nestBlk none ov2 vs2 c := fun c hc => by
    rcases hc with hc | ⟨i, v, _, hv, hc⟩
    · rcases hv'blk c hc with h | h
      · exact .inr (.inl (.inl h))
      · exact .inl h
    · rcases app_get hv with ⟨_, hv⟩ | ⟨_, hv⟩
      · exact .inr (.inl (bl i v c hv hc))
      · exact .inr (.inr (bl2 _ v c hv hc))
  have hgb : ∀ c, ov.ownBlock = some c → GB [(0, AObj.ext (nestK eo ei sz rows none) []), (0, .ext (nestK eo ei sz rows2 none) [])] Eo c := fun c hc => ⟨0, ⟨ov, vs, hE, .inl hc⟩⟩
  have hone : v'.oneCell' = true := by obtain ⟨_, _, _, h⟩ := hs'; rw [h]; rfl
  refine wp_value hex (hnext _ Z w' Er (effpost_merge (fun b o hz => Nat.lt_of_lt_of_le (hzl b o hz) hgr.size) (fun _ _ h => .inl h) (fun c hc => ?_) hkeep ((Kept.refl _ _).grown hgr (fun k h => h.1) (fun k hk h => h.2 (hgb k hk)) (fun k hk => by obtain ⟨cur, hc⟩ := own_cells hown hk; rw [hc]; exact fun h => nomatch h)) ?_ (.inl Nat.zero_lt_one) (.xr 0 1 _ hone (Nat.le_refl _) fun _ _ _ => rfl)))
  · rcases cases_blk c (nest_blk0 (cs := []) hE0 hc) with h | h | h
    · exact .inl (by omega)
    · exact .inr (.inl ⟨ov, vs, hE, h⟩)
    · exact .inr (.inr (hnb2 c h))
  · refine ⟨[], rfl, fun j c hj => by simp at hj, ⟨v', vs ++ vs2, hE0, hN'⟩, fun c o' hc hz => ?_⟩
    rcases cases_blk c (nest_blk0 (cs := []) hE0 hc) with h | h | h
    · have := hzl c o' hz; omega
    · exact hnz c o' h hz
    · exact hnz2 c o' (hnb2 c h) hz
end
end Go.Abs
