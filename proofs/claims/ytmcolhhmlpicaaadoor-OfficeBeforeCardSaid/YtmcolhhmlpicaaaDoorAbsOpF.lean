/-
  More of what is known of operations: slices of the call's own that are made and appended to, in their place.
-/
import Derived.Test.YtmcolhhmlpicaaaDoorAbsOpE
namespace Go.Abs
open Go Go.RowKit

section
variable {P : Program} {G : World → Prop} {Z : Zone} {w : World}
/-- One object, made new or come back elsewhere. -/
theorem effpost_new {os : List (Nat × AObj)} {Eo : Nat → Value} {o' : AObj} {E1 : Value} {w' : World} {r : SV} {x : Value} (hos : os = [] ∨ ∃ o, os = [(0, o)])
    (hz : ∀ b o, Z b o → b < w.heap.size) (hkeep : Keeps Z w Z w') (hsz : w.heap.size ≤ w'.heap.size) (hk : Kept (SG w os Eo) w w') (hok : ObjOk Z w' (objL [(1, o')]) (fun _ => E1) E1 o')
    (hblk : ∀ b, o'.blk E1 = some b → w.heap.size ≤ b ∨ GB os Eo b) (hr : RepS Z w' (objL [(1, o')]) (fun _ => E1) r x) : EffPost Z w os Eo Z w' [(1, o')] (fun _ => E1) r x := by
  have hgen : ∀ t, (objL os t).1 = 0 := fun t => by
    rcases hos with rfl | ⟨o, rfl⟩
    · simp [objL]
    · rw [objL_one]; split <;> rfl
  have hlow : ∀ t g o, g ≤ (objL os t).1 → objL [(1, o')] t = (g, o) → o = .none := fun t g o hg hl => by
    rw [hgen] at hg
    rw [objL_one] at hl
    by_cases ht : t = 0
    · rw [if_pos ht] at hl; simp at hl; omega
    · rw [if_neg ht] at hl; simp at hl; exact hl.2.symm
  exact
    { res := hr
      grp := ⟨fun j => by
          rw [objL_one]
          by_cases hj : j = 0
          · rw [if_pos hj]; exact hok
          · rw [if_neg hj]; trivial,
        fun j j' b hne h1 h2 => hne ((one_obj (Eo := fun _ => E1) h1).1.trans (one_obj (Eo := fun _ => E1) h2).1.symm)⟩
      keeps := hkeep
      zlt := fun b o h => Nat.lt_of_lt_of_le (hz b o h) hsz
      znew := fun _ _ h => .inl h
      kept := hk
      own := fun b ⟨j, hj⟩ => hblk b (one_obj (Eo := fun _ => E1) hj).2
      ok :=
        { gen := fun t => by rw [hgen]; exact Nat.zero_le _
          var := fun t g hg hl => by
            obtain ⟨cs, hl⟩ := hl
            rcases hl with h | h | h <;> exact absurd (hlow t g _ hg h) (by simp)
          tok := fun t g el s hg hl => absurd (hlow t g _ hg hl) (by simp)
          arr := fun t g el sz ds foc hg hl => absurd (hlow t g _ hg hl) (by simp)
          map := fun t g es hg hl => absurd (hlow t g _ hg hl) (by simp) } }

/-- The object of a slice of closed elements. -/
theorem arr_ok {e sz : Nat} {α : Type} {cf : α → List CV} {l : List α} (hcf : ∀ x, (cf x).length = sz) {v : Value} {xs : List Value} {obj : Objs} {E : Nat → Value} (hsz : 0 < sz) (hown : w.ownsRow 0 e sz v l.length xs)
    (hc : ∀ (i j : Nat) (a : α) (c : CV), l[i]? = some a → (cf a)[j]? = some c → c.atom = true ∧ ∃ u, xs[i * sz + j]? = some u ∧ Rep Z w c u) (hz : ∀ b o, v.ownBlock = some b → ¬ Z b o) :
    ObjOk Z w obj E v (.arr e sz (l.map cf) none) := by
  have hget : ∀ (i : Nat) (d : List CV), (l.map cf)[i]? = some d → ∃ a, l[i]? = some a ∧ d = cf a := fun i d h => by
    rw [List.getElem?_map] at h
    cases ha : l[i]? with
    | none => rw [ha] at h; simp at h
    | some a => rw [ha] at h; simp at h; exact ⟨a, rfl, h.symm⟩
  refine ⟨xs, hsz, by simpa using hown, And.intro (fun _ _ h => nomatch h) (fun i d hd _ => ?_), fun i d hi hd => ?_, fun i d hi hd j c hj => ?_, hz⟩
  · obtain ⟨a, ha, rfl⟩ := hget i d hd
    exact noRs_mk fun j c hj => (hc i j a c ha hj).2.choose_spec.2.notRs
  · obtain ⟨a, ha, rfl⟩ := hget i d hd
    exact hcf a
  · obtain ⟨a, ha, rfl⟩ := hget i d hd
    obtain ⟨h1, u, h2, h3⟩ := hc i j a c ha hj
    exact ⟨h1, u, h2, .cl h3⟩

theorem eff_nilS {e : TypeId} {ie : TI} (hsz : 0 < ie.size) {ty : TypeId} : EffOp P G (.assign (.const (.slice .none 0 0))) ty [.c (.sl 0 [])] [] (.rs 0 1) [(1, .arr e ie.size [] none)] := by
  intro Z w Eo ac o next Q ho hty hg hzl hl hargs hgs hnext
  have hex : (execOp ac.eval o).run P w = .ok (.value (.slice none 0 0)) w := by
    obtain ⟨dst, op, type, pos, after, guard⟩ := o
    simp only at ho
    subst ho
    simp [execOp, Act.eval]
  refine wp_value hex (hnext _ Z w (fun _ => .slice none 0 0) (effpost_new (.inl rfl) hzl (Keeps.refl _ _) (Nat.le_refl _) (Kept.refl _ _) ?_ (fun b hb => by simp [AObj.blk] at hb) (.rs 0 1 _ ⟨_, _, _, rfl⟩ (Nat.le_refl _) fun _ _ _ _ _ => rfl)))
  exact ⟨[], hsz, World.ownsRow_nil _ _ _ _, And.intro (fun _ _ h => nomatch h) (fun i d h => by simp at h), fun i d hi => by simp at hi, fun i d hi => by simp at hi, fun b o hb => by simp [Value.ownBlock] at hb⟩

theorem eff_append {α : Type} {t e : TypeId} {i : TI} {cf : α → List CV} {l ns : List α} (ht : P.underlying t = some (.slice e)) (hi : TOk1 P e i) (h1 : 1 ≤ i.size) (hby : i.bytes ≤ 4096) (hcf : ∀ x, (cf x).length = i.size)
    (hle : decide (l.length + ns.length ≤ 4294967296) = true) {x y : Operand} {ty : TypeId} :
    EffOp P G (.call ⟨.builtin .append, ⟨[x, y]⟩, ⟨[t, t]⟩⟩) ty [.rs 0 0, .c (.sl i.size (ns.map cf))] [(0, .arr e i.size (l.map cf) none)] (.rs 0 1) [(1, .arr e i.size ((l ++ ns).map cf) none)] := by
  intro Z w Eo ac o next Q ho hty hg hzl hl hargs hgs hnext
  have hle := of_decide_eq_true hle
  have hx := hargs 0 (.rs 0 0) x rfl rfl
  have hy : Rep Z w (.sl i.size (ns.map cf)) (ac.eval y) := by
    have := hargs 1 (.c (.sl i.size (ns.map cf))) y rfl rfl
    cases this with | c _ _ h => exact h
  obtain ⟨xs, hszp, hown, hfoc, hlens, hcells, hnz⟩ := hg.ok 0
  have hE : Eo 0 = ac.eval x ∧ ∃ aa q k, ac.eval x = .slice aa q k := by
    generalize ac.eval x = v at hx
    cases hx with | rs _ _ _ hs _ hp => exact ⟨hp _ _ _ _ rfl, hs⟩
  obtain ⟨hE, hslx⟩ := hE
  rw [hE] at hown hnz
  obtain ⟨news, hnl, hone, hyv, hcell⟩ := closed_news (sz := i.size) (by omega) (fun m hm => by obtain ⟨a, _, rfl⟩ := List.mem_map.1 hm; exact hcf a) hy
  obtain ⟨j, hj, hjs, hjb, hjz⟩ := hi.infoE
  have hzc : (zeroVal i).cells.size = i.size := by rw [zero_cells hi]; simp [hi.len]
  simp only [List.length_map] at hown hnl hyv
  have hbytes : (l.length + ns.length) * j.bytes ≤ 140737488355328 := by
    rw [hjb]
    calc (l.length + ns.length) * i.bytes ≤ 4294967296 * 4096 := Nat.mul_le_mul hle hby
      _ ≤ 140737488355328 := by decide
  obtain ⟨v', w', hrun, hown', hgr, hblk, hs'⟩ := app_core (P := P) (ty := ty) ht hj hjz hjs hzc h1 hown hslx hnl hone hyv (by omega) hbytes (Nat.zero_le _)
  have hex : (execOp ac.eval o).run P w = .ok (.value v') w' := by
    obtain ⟨dst, op, type, pos, after, guard⟩ := o
    simp only at ho hty
    subst ho; subst hty
    rw [exec_builtin]
    simp only [builtin, Sem.run_bind, List.map_toArray, List.map_cons, List.map_nil, hrun]
    rfl
  have hkeep : Keeps Z w Z w' := fun b o hz => ⟨hz, keep_heap (hgr.block b (hzl b o hz) (fun e => hnz b o e.symm hz))⟩
  have hgb : ∀ b, (ac.eval x).ownBlock = some b → GB [(0, .arr e i.size (l.map cf) none)] Eo b := fun b hb => ⟨0, by rw [hE]; rw [← arr_blk (ac.eval x) e i.size (l.map cf) none] at hb; exact hb⟩
  refine wp_value hex (hnext _ Z w' (fun _ => v') (effpost_new (.inr ⟨_, rfl⟩) hzl hkeep hgr.size ((Kept.refl _ _).grown hgr (fun k h => h.1) (fun k hk h => h.2 (hgb k hk))) ?_ (fun b hb => ?_) (.rs 0 1 _ hs' (Nat.le_refl _) fun _ _ _ _ _ => rfl)))
  · refine arr_ok hcf (by omega) (by simpa using hown') (fun i' j' a c ha hc => ?_) (fun b o hb hz => ?_)
    · have hjl : j' < i.size := by rw [← hcf a]; exact (List.getElem?_eq_some_iff.1 hc).1
      rw [get_app hown.1 hjl]
      by_cases hil : i' < l.length
      · rw [List.getElem?_append_left hil] at ha
        rw [if_pos hil]
        have hd : (l.map cf)[i']? = some (cf a) := by rw [List.getElem?_map, ha]; rfl
        obtain ⟨q1, u, q2, q3⟩ := hcells i' (cf a) (by simpa using hil) hd j' c hc
        exact ⟨q1, u, q2, (q3.closed (noRs_get (hfoc.2 i' (cf a) hd (fun _ _ h => nomatch h)) hc)).keep hkeep⟩
      · rw [List.getElem?_append_right (by omega)] at ha
        rw [if_neg hil]
        obtain ⟨q1, u, q2, q3⟩ := hcell (i' - l.length) j' (cf a) c (by rw [List.getElem?_map, ha]; rfl) hc
        exact ⟨q1, u, q2, q3.keep hkeep⟩
    · rcases hblk with hb1 | hb1
      · exact hnz b o (by rw [← hb1]; exact hb) hz
      · rw [hb1] at hb; injection hb with hb; have := hzl b o hz; omega
  · rw [arr_blk] at hb
    rcases hblk with hb1 | hb1
    · exact .inr (hgb b (by rw [← hb1]; exact hb))
    · rw [hb1] at hb; injection hb with hb; exact .inl (by omega)
/-- A slice literal without elements; of one element of one cell. -/
theorem eff_build0 {t e : TypeId} {i : TI} (ht : P.underlying t = some (.slice e)) (hi : TOk1 P e i) (h1 : 1 ≤ i.size) {ty : TypeId} :
    EffOp P G (.buildSlice t 0 ⟨[]⟩) ty [] [] (.rs 0 1) [(1, .arr e i.size [] none)] := by
  intro Z w Eo ac o next Q ho hty hg hzl hl hargs hgs hnext
  have hex : (execOp ac.eval o).run P w = .ok (.value (.slice (some ⟨w.heap.size, 0, none⟩) 0 0)) (w.alloc (.cells #[] e)) := by
    obtain ⟨dst, op, type, pos, after, guard⟩ := o
    simp only at ho
    subst ho
    simp only [execOp, Instr.buildSlice, Sem.run_bind, run_underlying ht, Result.andThen_ok, hi.sizeOf w, Nat.zero_mul, Sem.run_pure]
    rw [if_neg (by decide), if_pos trivial]
    have hr : Array.range 0 = #[] := by simp
    simp only [Sem.run_bind, Sem.run_pure, Result.andThen_ok, Instr.fill, Array.map_empty, hr]
    rfl
  have hown := World.ownsRow_lit (base := 0) (e := e) (size := i.size) w #[] 0 (Nat.zero_le _) (by simp only [maxLen]; omega) (by simp)
  refine wp_value hex (hnext _ Z _ (fun _ => .slice (some ⟨w.heap.size, 0, none⟩) 0 0) (effpost_new (.inl rfl) hzl (Keeps.alloc hzl _) (by simp) ((Kept.refl _ _).alloc (fun _ h => h.1) _) ?_ (fun b hb => ?_) (.rs 0 1 _ ⟨_, _, _, rfl⟩ (Nat.le_refl _) fun _ _ _ _ _ => rfl)))
  · exact ⟨[], h1, hown, And.intro (fun _ _ h => nomatch h) (fun i d h => by simp at h), fun i d hi => by simp at hi, fun i d hi => by simp at hi, fun b o hb hz => by
      simp [Value.ownBlock] at hb
      have := hzl b o hz
      omega⟩
  · simp [AObj.blk] at hb
    exact .inl (by omega)
theorem eff_build1 {α : Type} {t e : TypeId} {i : TI} {cf : α → List CV} {a : α} (ht : P.underlying t = some (.slice e)) (hi : TOk1 P e i) (h1 : i.size = 1) {c : CV} (hc : cf a = [c]) (hcf : ∀ x, (cf x).length = 1) (hat : c.atom = true) (hcell : ∀ Z w x, Rep Z w c x → x.cells = #[x]) {x : Operand} {ty : TypeId} :
    EffOp P G (.buildSlice t 1 ⟨[(0, x)]⟩) ty [.c c] [] (.rs 0 1) [(1, .arr e i.size ([a].map cf) none)] := by
  intro Z w Eo ac o next Q ho hty hg hzl hl hargs hgs hnext
  have hx : Rep Z w c (ac.eval x) := by
    have := hargs 0 (.c c) x rfl rfl
    cases this with | c _ _ h => exact h
  have hxc := hcell Z w _ hx
  obtain ⟨j, hj, hjs, hjb, hjz⟩ := hi.infoE
  have hzc : (zeroVal i).cells.size = 1 := by rw [zero_cells hi]; simp [hi.len, h1]
  have hzv : (zeroValue e).run P w = .ok (zeroVal i) w := by simp [zeroValue, typeInfo, hj, hjz]
  have hex : (execOp ac.eval o).run P w = .ok (.value (.slice (some ⟨w.heap.size, 0, none⟩) 1 1)) (w.alloc (.cells #[ac.eval x] e)) := by
    obtain ⟨dst, op, type, pos, after, guard⟩ := o
    simp only at ho
    subst ho
    simp only [execOp, Instr.buildSlice, Sem.run_bind, run_underlying ht, Result.andThen_ok, hi.sizeOf w, h1, Sem.run_pure]
    have hr : Array.range 1 = #[0] := by decide
    simp only [hr]
    simp [hzv, Instr.fill, hxc, newRow]
  have hown := World.ownsRow_lit (base := 0) (e := e) (size := i.size) w #[ac.eval x] 1 (Nat.zero_le _) (by simp only [maxLen]; omega) (by simp [h1])
  refine wp_value hex (hnext _ Z _ (fun _ => .slice (some ⟨w.heap.size, 0, none⟩) 1 1) (effpost_new (.inl rfl) hzl (Keeps.alloc hzl _) (by simp) ((Kept.refl _ _).alloc (fun _ h => h.1) _) ?_ (fun b hb => ?_) (.rs 0 1 _ ⟨_, _, _, rfl⟩ (Nat.le_refl _) fun _ _ _ _ _ => rfl)))
  · refine arr_ok (l := [a]) (fun x => by rw [hcf, h1]) (by omega) hown (fun i' j' a' c' ha hc' => ?_) (fun b o hb hz => by
      simp [Value.ownBlock] at hb
      have := hzl b o hz
      omega)
    match i', ha with
    | 0, ha =>
      simp at ha
      subst ha
      rw [hc] at hc'
      match j', hc' with
      | 0, hc' =>
        simp at hc'
        subst hc'
        exact ⟨hat, _, by simp, hx.keep (Keeps.alloc hzl _)⟩
      | n + 1, hc' => simp at hc'
    | n + 1, ha => simp at ha
  · simp [AObj.blk] at hb
    exact .inl (by omega)
end
/-- Both, if they agree. -/
def oboth {α : Type} [DecidableEq α] (x y : Option α) : Option α := if x = y then x else none
theorem nilc {α β γ : Type} [DecidableEq α] {l : List β} {cf : β → γ} {x y : Option α} {r : α} {K : Bool → Prop} (h : (bif l.isEmpty then oboth x y else y) = some r) (h1 : x = some r → K true) (h2 : y = some r → K false) :
    ∀ b, (b = true → l.map cf = []) → K b := by
  intro b hb
  cases b with
  | false =>
    refine h2 ?_
    cases l with
    | nil =>
      simp only [List.isEmpty_nil, cond_true, oboth] at h
      split at h
      · rename_i he; rw [← he]; exact h
      · cases h
    | cons a l => exact h
  | true =>
    have := hb rfl
    cases l with
    | nil =>
      simp only [List.isEmpty_nil, cond_true, oboth] at h
      split at h
      · exact h1 h
      · cases h
    | cons a l => simp at this
end Go.Abs
