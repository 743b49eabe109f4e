/-
  Builders: a variable of the call's own that holds nil or its own address, and a slice of bytes of the call's own.
-/
import Derived.Test.YtjoacimgcepjdaaGreatDoorAbsIns
import Derived.Test.YtjoacimgcepjdaaGreatDoorAbsSub
import Derived.Lib.FrozenHead
namespace Go.Abs
open Go Go.RowKit
section
variable {P : Program} {G : World → Prop} {Z : Zone} {w : World}
theorem app_str {t u ty e : TypeId} {i : TypeInfo} (ht : P.underlying t = some (.slice e)) (hu : P.underlying u = some .string) (hi : P.info? e = some i) (hz : i.zero = some (.int .u8 0)) (hsize : i.size = 1) (hby : i.bytes = 1)
    {v : Value} {n : Nat} {xs : List Value} (hown : w.ownsRow 0 e 1 v n xs) (s : ByteArray) (hb : n + s.size ≤ 140737488355328) :
    ∃ v' w', (Builtin.append_ #[t, u] ty #[v, .string s]).run P w = .ok v' w' ∧ w'.ownsRow 0 e 1 v' (n + s.size) (xs ++ Lib.strCells s) ∧ w.grownBy w' v.ownBlock ∧
      (v'.ownBlock = v.ownBlock ∨ v'.ownBlock = some w.heap.size) ∧ ∃ aa l k, v' = .slice aa l k := by
  have hm : n + s.size ≤ maxLen := by unfold maxLen; omega
  obtain ⟨v', w', hr, h2, h3, h4⟩ := Lib.run_append_own_string (P := P) (w := w) 0 t u ty e i ht hu hi hz hsize hby v n xs hown s hm hb (Nat.zero_le _)
  refine ⟨v', w', hr, h2, h3, ?_, ?_⟩
  · rcases hown.2 with ⟨rfl, rfl⟩ | ⟨g, cap, cur, rfl, hbg, hg, hnc, hcm, hcs, htake⟩
    · by_cases h0 : s.size = 0
      · left; rw [h4.2 ⟨rfl, h0⟩]
      · right
        have hq := run_append_nil_string (P := P) (w := w) t u ty e i (.int .u8 0) ht hu hi hz s (by omega) (by omega) (by rw [hby]; omega)
        rw [hq] at hr
        injection hr with hr
        rw [← hr]; rfl
    · by_cases hroom : n + s.size ≤ cap
      · left
        have hq := Lib.run_append_room_string (P := P) (w := w) t u ty e i ht hu hi hsize g n cap cur hg s hroom (by omega)
        rw [hq] at hr
        injection hr with hr
        rw [← hr]; rfl
      · right
        have holds : ∀ j u, xs[j]? = some u → w.cell? ((⟨g, 0, none⟩ : Addr).add j) = some u := hown.cells (g := g) rfl
        have hq := Lib.run_append_grow_string (P := P) (w := w) t u ty e i (.int .u8 0) ht hu hi hz ⟨g, 0, none⟩ n cap xs (by rw [hsize]; exact hown.1) holds s (by omega) (by omega) (by rw [hby]; exact growslice_fits (by omega) (by omega))
        rw [hq] at hr
        injection hr with hr
        rw [← hr]; rfl
  · rcases h2.2 with ⟨he, _⟩ | ⟨g, cap, cur, he, _⟩
    · exact ⟨_, _, _, he⟩
    · exact ⟨_, _, _, he⟩
theorem strCells_get {s : Str} {i : Nat} (h : i < s.length) : (Lib.strCells ⟨⟨s⟩⟩)[i]? = some (.int .u8 (s[i].toNat : Int)) := by
  simp [Lib.strCells, List.getElem?_map, List.getElem?_eq_getElem h]
/-- The bytes of a string, appended to a slice of the call's own. -/
theorem eff_appstr {t u e : TypeId} {i : TI} {l : List Int} {s : Str} (ht : P.underlying t = some (.slice e)) (hu : P.underlying u = some .string) (hi : TOk1 P e i) (hz : zeroVal i = .int .u8 0) (hs1 : i.size = 1) (hby : i.bytes = 1)
    (hle : decide (l.length + s.length ≤ 4294967296) = true) {x y : Operand} {ty : TypeId} :
    EffOp P G (.call ⟨.builtin .append, ⟨[x, y]⟩, ⟨[t, u]⟩⟩) ty [.rs 0 0, .c (.v (.string ⟨⟨s⟩⟩))] [(0, .arr e 1 (l.map cInt_u8) none)] (.rs 0 1) [(1, .arr e 1 ((l ++ s2b s).map cInt_u8) none)] := by
  intro Z w Eo ac o next Q ho hty hg hzl hl hargs hgs hnext
  have hle := of_decide_eq_true hle
  have hx := hargs 0 (.rs 0 0) x rfl rfl
  have hy := rep_v (rep_sc (hargs 1 (.c (.v (.string ⟨⟨s⟩⟩))) y rfl rfl))
  obtain ⟨xs, hszp, hown, hfoc, hlens, hcells, hnz⟩ := hg.ok 0
  have hE : Eo 0 = ac.eval x ∧ ∃ aa q k, ac.eval x = .slice aa q k := by
    generalize ac.eval x = v at hx
    cases hx with | rs _ _ _ hs _ hp => exact ⟨hp _ _ _ _ rfl, hs⟩
  obtain ⟨hE, hslx⟩ := hE
  rw [hE] at hown hnz
  obtain ⟨j, hj, hjs, hjb, hjz⟩ := hi.infoE
  simp only [List.length_map] at hown
  have hlen : (ByteArray.mk ⟨s⟩).size = s.length := by simp [ByteArray.size]
  have hbb : l.length + (ByteArray.mk ⟨s⟩).size ≤ 140737488355328 := by rw [hlen]; omega
  obtain ⟨v', w', hrun, hown', hgr, hblk, hs'⟩ := app_str (P := P) (ty := ty) (s := ⟨⟨s⟩⟩) ht hu hj (by rw [hjz, hz]) (by rw [hjs, hs1]) (by rw [hjb, hby]) hown hbb
  rw [hlen] at hown'
  have hex : (execOp ac.eval o).run P w = .ok (.value v') w' := by
    obtain ⟨dst, op, type, pos, after, guard⟩ := o
    simp only at ho hty
    subst ho; subst hty
    rw [exec_builtin]
    simp only [builtin, Sem.run_bind, List.map_toArray, List.map_cons, List.map_nil, hy, hrun]
    rfl
  have hkeep : Keeps Z w Z w' := fun b o hz => ⟨hz, keep_heap (hgr.block b (hzl b o hz) (fun e => hnz b o e.symm hz))⟩
  have hgb : ∀ b, (ac.eval x).ownBlock = some b → GB [(0, .arr e 1 (l.map cInt_u8) none)] Eo b := fun b hb => ⟨0, by rw [hE]; rw [← arr_blk (ac.eval x) e 1 (l.map cInt_u8) none] at hb; exact hb⟩
  refine wp_value hex (hnext _ Z w' (fun _ => v') (effpost_new (.inr ⟨_, rfl⟩) hzl hkeep hgr.size ((Kept.refl _ _).grown hgr (fun k h => h.1) (fun k hk h => h.2 (hgb k hk)) (fun k hk => by obtain ⟨cur, hc⟩ := own_cells hown hk; rw [hc]; exact fun h => nomatch h)) ?_ (fun b hb => ?_) (.rs 0 1 _ hs' (Nat.le_refl _) fun _ _ _ _ _ => rfl)))
  · refine arr_ok (cf := cInt_u8) (sz := 1) (e := e) (l := l ++ s2b s) (fun _ => rfl) Nat.one_pos (by simpa [s2b] using hown') (fun i' j' a c ha hc => ?_) (fun b o hb hz => ?_)
    · match j', hc with
      | 0, hc =>
        obtain rfl : CV.v (.int .u8 a) = c := Option.some.inj hc
        have hxl : xs.length = l.length := by simpa using hown.1
        refine ⟨rfl, ?_⟩
        rw [Nat.mul_one, Nat.add_zero]
        by_cases hil : i' < l.length
        · rw [List.getElem?_append_left hil] at ha
          rw [List.getElem?_append_left (by omega)]
          have hd : (l.map cInt_u8)[i']? = some (cInt_u8 a) := by rw [List.getElem?_map, ha]; rfl
          obtain ⟨q1, u, q2, q3⟩ := hcells i' (cInt_u8 a) (by simpa using hil) hd 0 _ rfl
          exact ⟨u, by simpa using q2, (q3.closed rfl).keep hkeep⟩
        · rw [List.getElem?_append_right (by omega)] at ha
          rw [List.getElem?_append_right (by omega), hxl]
          unfold s2b at ha
          rw [List.getElem?_map] at ha
          obtain ⟨q, hq, rfl⟩ := Option.map_eq_some_iff.1 ha
          obtain ⟨hi', hqe⟩ := List.getElem?_eq_some_iff.1 hq
          exact ⟨_, strCells_get hi', by rw [hqe]; exact .v _⟩
      | j' + 1, hc => simp [cInt_u8] at hc
    · rcases hblk with hb1 | hb1
      · exact hnz b o (by rw [← hb1]; exact hb) hz
      · rw [hb1] at hb; injection hb with hb; have := hzl b o hz; omega
  · rw [arr_blk] at hb
    rcases hblk with hb1 | hb1
    · exact .inr (hgb b (by rw [← hb1]; exact hb))
    · rw [hb1] at hb; injection hb with hb; exact .inl (by omega)
/-- A new builder. -/
theorem eff_allocB {t e : TypeId} {i ie : TI} (ht : TOk1 P t i) (hz : i.zero = [.pointer none, .slice none 0 0]) (hagg : i.isAgg = true) (hsz : 0 < ie.size) {ty : TypeId} :
    EffOp P G (.alloc t) ty [] [] (.pm 0 1 0) [(1, .varx [.bp t false, .rs 1 1]), (1, .arr e ie.size [] none)] := by
  intro Z w Eo ac o next Q ho hty hg hzl hl hargs hgs hnext
  obtain ⟨j, hj, hjs, _, hjz⟩ := ht.infoE
  have hzv : zeroVal i = .agg #[.pointer none, .slice none 0 0] := by simp [zeroVal, hagg, hz]
  have hex : (execOp ac.eval o).run P w = .ok (.value (.pointer (some ⟨w.heap.size, 0, none⟩))) (w.alloc (.cells #[.pointer none, .slice none 0 0] t (0, 0))) := by
    obtain ⟨dst, op, type, pos, after, guard⟩ := o
    simp only at ho
    subst ho
    simp [execOp, Instr.alloc, zeroValue, typeInfo, hj, hjz, newVar, newRow, hzv, Value.cells]
  let Er : Nat → Value := fun j => if j = 0 then .pointer (some ⟨w.heap.size, 0, none⟩) else .slice none 0 0
  refine wp_value hex (hnext _ Z _ Er ?_)
  have hnew : (w.alloc (.cells #[.pointer none, .slice none 0 0] t (0, 0))).heap[w.heap.size]? = some (.cells #[.pointer none, .slice none 0 0] t (0, 0)) := (MapKept.heap_alloc w _).1
  have hblk : ∀ j b, (objL [(1, AObj.varx [.bp t false, .rs 1 1]), (1, .arr e ie.size [] none)] j).2.blk (Er j) = some b → j = 0 ∧ b = w.heap.size := fun j b hb => by
    rw [objL_two] at hb
    by_cases h0 : j = 0
    · subst h0; simp [Er, AObj.blk] at hb; exact ⟨rfl, hb.symm⟩
    · rw [if_neg h0] at hb
      by_cases h1 : j = 1
      · subst h1; simp [Er, AObj.blk] at hb
      · rw [if_neg h1] at hb; simp [AObj.blk] at hb
  exact
    { res := .pm 0 1 0 _ ⟨_, rfl⟩ (Nat.le_refl _) fun _ => ⟨w.heap.size, rfl, rfl⟩
      grp := ⟨fun j => by
          rw [objL_two]
          by_cases h0 : j = 0
          · subst h0
            rw [if_pos rfl]
            refine ⟨w.heap.size, t, #[.pointer none, .slice none 0 0], rfl, hnew, rfl, fun k c hk => ?_, fun o hz' => absurd (hzl _ _ hz') (Nat.lt_irrefl _), fun k T f hk => by match k, hk with | 0, hk => simp at hk; obtain ⟨rfl, rfl⟩ := hk; exact ⟨rfl, rfl⟩ | 1, hk => simp at hk | k + 2, hk => simp at hk⟩
            match k, hk with
            | 0, hk =>
              simp at hk
              subst hk
              exact ⟨rfl, _, rfl, .one (.bp _ _ _ ⟨_, rfl⟩)⟩
            | 1, hk =>
              simp at hk
              subst hk
              exact ⟨rfl, _, rfl, .one (.rs 1 1 _ ⟨_, _, _, rfl⟩ (Nat.le_refl _) fun _ _ _ _ _ => rfl)⟩
            | k + 2, hk => simp at hk
          · rw [if_neg h0]
            by_cases h1 : j = 1
            · subst h1
              rw [if_pos rfl]
              refine ⟨[], hsz, World.ownsRow_nil _ _ _ _, And.intro (fun _ _ h => nomatch h) (fun i d h => by simp at h), fun i d hi => by simp at hi, fun i d hi => by simp at hi, fun b o hb => by simp [Er, Value.ownBlock] at hb⟩
            · rw [if_neg h1]; trivial,
        fun j j' b hne h1 h2 => hne ((hblk j b h1).1.trans (hblk j' b h2).1.symm)⟩
      keeps := Keeps.alloc hzl _
      zlt := fun b o hz => by have := hzl b o hz; simp; omega
      znew := fun _ _ h => .inl h
      kept := (Kept.refl _ _).alloc (fun _ h => h.1) _
      own := fun b ⟨j, hj⟩ => .inl (by have := (hblk j b hj).2; omega)
      ok :=
        { gen := fun t => by simp [objL]
          var := fun t g hg hlv => by
            obtain ⟨cs, hlv⟩ := hlv
            rw [objL_two] at hlv
            by_cases h0 : t = 0
            · rw [if_pos h0] at hlv; simp at hlv; simp [objL] at hg; omega
            · rw [if_neg h0] at hlv
              by_cases h1 : t = 1
              · rw [if_pos h1] at hlv; simp at hlv
              · rw [if_neg h1] at hlv; simp at hlv
          tok := fun t g el s hg hlv => by
            rw [objL_two] at hlv
            by_cases h0 : t = 0
            · rw [if_pos h0] at hlv; simp at hlv
            · rw [if_neg h0] at hlv
              by_cases h1 : t = 1
              · rw [if_pos h1] at hlv; simp at hlv
              · rw [if_neg h1] at hlv; simp at hlv
          arr := fun t g el sz ds foc hg hlv => by
            rw [objL_two] at hlv
            by_cases h0 : t = 0
            · rw [if_pos h0] at hlv; simp at hlv
            · rw [if_neg h0] at hlv
              by_cases h1 : t = 1
              · rw [if_pos h1] at hlv; simp at hlv; simp [objL] at hg; omega
              · rw [if_neg h1] at hlv; simp at hlv
          map := fun t g es hg hlv => by
            rw [objL_two] at hlv
            by_cases h0 : t = 0
            · rw [if_pos h0] at hlv; simp at hlv
            · rw [if_neg h0] at hlv
              by_cases h1 : t = 1
              · rw [if_pos h1] at hlv; simp at hlv
              · rw [if_neg h1] at hlv; simp at hlv } }
theorem objL_two' (g h : Nat) (o p : AObj) : objL [(g, o), (h, p)] 0 = (g, o) ∧ objL [(g, o), (h, p)] 1 = (h, p) := ⟨rfl, rfl⟩
/-- The check ahead of each use: behind it the builder bears its own address. -/
theorem effn_check {f : FuncId} {T e : TypeId} {q : Bool} {l : List Int} (hb : HasBody P f) (hTe : T ≠ e)
    (hfresh : ∀ (b : Nat) (w : World), w.cell? ⟨b, 0, none⟩ = some (.pointer none) → w.shape? b = some (T, 2) → w.frozen? ⟨b, 0, none⟩ = false → Calls P f #[.pointer (some ⟨b, 0, none⟩)] w fun e w' => e = .returned (.tuple #[]) ∧ w' = w.setCell ⟨b, 0, none⟩ (.pointer (some ⟨b, 0, none⟩)))
    (hused : ∀ (b : Nat) (w : World), w.cell? ⟨b, 0, none⟩ = some (.pointer (some ⟨b, 0, none⟩)) → Calls P f #[.pointer (some ⟨b, 0, none⟩)] w fun e w' => e = .returned (.tuple #[]) ∧ w' = w) :
    EffFn P G f [.pm 0 0 0] [(0, .varx [.bp T q, .rs 1 0]), (0, .arr e 1 (l.map cInt_u8) none)] (.c (.tup [])) [(0, .varx [.bp T true, .rs 1 1]), (1, .arr e 1 (l.map cInt_u8) none)] := by
  refine ⟨hb, fun Z w Eo vs hg hzl hlen hargs hgs => ?_⟩
  match vs, hlen with
  | [x], _ =>
    have hx := hargs 0 _ x rfl rfl
    have o0 : ObjOk Z w (objL [(0, AObj.varx [.bp T q, .rs 1 0]), (0, .arr e 1 (l.map cInt_u8) none)]) Eo (Eo 0) (.varx [.bp T q, .rs 1 0]) := hg.ok 0
    have o1 : ObjOk Z w (objL [(0, AObj.varx [.bp T q, .rs 1 0]), (0, .arr e 1 (l.map cInt_u8) none)]) Eo (Eo 1) (.arr e 1 (l.map cInt_u8) none) := hg.ok 1
    obtain ⟨b, el, arr, he, hh, hs, hc, hz, hbp⟩ := o0
    have hxe : x = .pointer (some ⟨b, 0, none⟩) := by
      cases hx with
      | pm _ _ _ _ _ hgn hl =>
        obtain ⟨b', h1, h2⟩ := hl ⟨_, .inr (.inr rfl)⟩
        rw [he] at h1
        simp at h1
        rw [h2, h1]
    subst hxe
    obtain ⟨rfl, h0⟩ := hbp 0 T q rfl
    obtain ⟨-, v, hv, hrv⟩ := hc 1 (.rs 1 0) rfl
    have hv1 : Eo 1 = v ∧ ∃ a l k, v = .slice a l k := by
      cases hrv with
      | one h => cases h with
        | cl h => cases h
        | rs _ _ _ hs hgn hp => exact ⟨hp _ _ _ _ rfl, hs⟩
    have hfin : ∀ (w' : World) (arr' : Array Value), w'.heap[b]? = some (.cells arr' el (0, 0)) → arr'.size = 2 → arr'[0]? = some (.pointer (some ⟨b, 0, none⟩)) → arr'[1]? = some v → (∀ k, k ≠ b → w'.heap[k]? = w.heap[k]?) → w'.os = w.os → w'.tape = w.tape → w'.output = w.output → w.heap.size ≤ w'.heap.size →
        EffPost Z w [(0, .varx [.bp el q, .rs 1 0]), (0, .arr e 1 (l.map cInt_u8) none)] Eo Z w' [(0, .varx [.bp el true, .rs 1 1]), (1, .arr e 1 (l.map cInt_u8) none)] Eo (.c (.tup [])) (.tuple #[]) := by
      intro w' arr' hb' hs' ha0 ha1 hoth q1 q2 q3 q4
      have hkeep : Keeps Z w Z w' := fun k o hzk => ⟨hzk, keep_heap (hoth k (fun e => hz o (e ▸ hzk)))⟩
      have hbl0 : ∀ c, (objL [(0, AObj.varx [.bp el q, .rs 1 0]), (0, .arr e 1 (l.map cInt_u8) none)] 0).2.blk (Eo 0) = some c ↔ c = b := fun c => by
        show (AObj.varx _).blk (Eo 0) = some c ↔ _
        rw [he]; simp [AObj.blk, eq_comm]
      have hne : v.ownBlock ≠ some b := fun h => by
        have := hg.apart 0 1 b (by decide) ((hbl0 b).2 rfl)
        refine this ?_
        show (AObj.arr _ _ _ _).blk (Eo 1) = some b
        rw [arr_blk, hv1.1]; exact h
      have hblk : ∀ j c, (objL [(0, AObj.varx [.bp el true, .rs 1 1]), (1, .arr e 1 (l.map cInt_u8) none)] j).2.blk (Eo j) = some c ↔ (objL [(0, AObj.varx [.bp el q, .rs 1 0]), (0, .arr e 1 (l.map cInt_u8) none)] j).2.blk (Eo j) = some c := fun j c => by
        rw [objL_two, objL_two]
        by_cases j0 : j = 0
        · rw [if_pos j0, if_pos j0, j0, he]; exact Iff.rfl
        · rw [if_neg j0, if_neg j0]
          by_cases j1 : j = 1
          · rw [if_pos j1, if_pos j1]
          · rw [if_neg j1, if_neg j1]
      have hok : ObjKeep (objL [(0, AObj.varx [.bp el q, .rs 1 0]), (0, .arr e 1 (l.map cInt_u8) none)]) Eo (objL [(0, AObj.varx [.bp el true, .rs 1 1]), (1, .arr e 1 (l.map cInt_u8) none)]) Eo :=
        { gen := fun t => by
            rw [objL_two, objL_two]
            by_cases j0 : t = 0
            · rw [if_pos j0, if_pos j0]; exact Nat.le_refl _
            · rw [if_neg j0, if_neg j0]
              by_cases j1 : t = 1
              · rw [if_pos j1, if_pos j1]; exact Nat.zero_le _
              · rw [if_neg j1, if_neg j1]; exact Nat.le_refl _
          var := fun t g hgn hlv => by
            refine ⟨?_, rfl⟩
            obtain ⟨cs, hlv⟩ := hlv
            rw [objL_two] at hlv
            by_cases j0 : t = 0
            · rw [if_pos j0] at hlv
              refine ⟨[.bp el q, .rs 1 0], .inr (.inr ?_)⟩
              rw [objL_two, if_pos j0]
              simp at hlv
              rw [hlv.1]
            · rw [if_neg j0] at hlv
              by_cases j1 : t = 1
              · rw [if_pos j1] at hlv; simp at hlv
              · rw [if_neg j1] at hlv; simp at hlv
          tok := fun t g el' s hgn hlv => by
            rw [objL_two] at hlv
            by_cases j0 : t = 0
            · rw [if_pos j0] at hlv; simp at hlv
            · rw [if_neg j0] at hlv
              by_cases j1 : t = 1
              · rw [if_pos j1] at hlv; simp at hlv
              · rw [if_neg j1] at hlv; simp at hlv
          arr := fun t g el' sz ds foc hgn hlv => by
            rw [objL_two] at hlv hgn
            by_cases j0 : t = 0
            · rw [if_pos j0] at hlv; simp at hlv
            · rw [if_neg j0] at hlv hgn
              by_cases j1 : t = 1
              · rw [if_pos j1] at hlv hgn; simp at hlv hgn; omega
              · rw [if_neg j1] at hlv; simp at hlv
          map := fun t g es hgn hlv => by
            rw [objL_two] at hlv
            by_cases j0 : t = 0
            · rw [if_pos j0] at hlv; simp at hlv
            · rw [if_neg j0] at hlv
              by_cases j1 : t = 1
              · rw [if_pos j1] at hlv; simp at hlv
              · rw [if_neg j1] at hlv; simp at hlv }
      exact
        { res := .c _ _ (.tup [] [] rfl (fun i c x h => by simp at h))
          grp := ⟨fun j => by
              rw [objL_two]
              by_cases j0 : j = 0
              · subst j0
                rw [if_pos rfl]
                refine ⟨b, el, arr', he, hb', hs', fun k c hk => ?_, hz, fun k T' f' hk => ?_⟩
                · match k, hk with
                  | 0, hk => simp at hk; subst hk; exact ⟨rfl, _, ha0, .one (.bp _ _ _ ⟨_, rfl⟩)⟩
                  | 1, hk => simp at hk; subst hk; exact ⟨rfl, _, ha1, .one (.rs 1 1 _ hv1.2 (Nat.le_refl _) fun _ _ _ _ _ => hv1.1)⟩
                  | k + 2, hk => simp at hk
                · match k, hk with
                  | 0, hk => simp at hk; obtain ⟨rfl, rfl⟩ := hk; exact ⟨rfl, by rw [ha0, he]; rfl⟩
                  | 1, hk => simp at hk
                  | k + 2, hk => simp at hk
              · rw [if_neg j0]
                by_cases j1 : j = 1
                · subst j1
                  rw [if_pos rfl]
                  refine o1.keep hkeep hok fun c hc' => ⟨hoth c fun e => ?_, fun _ h => h⟩
                  rw [arr_blk, hv1.1, e] at hc'
                  exact hne hc'
                · rw [if_neg j1]; trivial,
            fun j j' c hjj h1 h2 => hg.apart j j' c hjj ((hblk j c).1 h1) ((hblk j' c).1 h2)⟩
          keeps := hkeep
          zlt := fun c o h => Nat.lt_of_lt_of_le (hzl c o h) q4
          znew := fun _ _ h => .inl h
          kept := ⟨q1, q2, q3, q4, fun k hk => hoth k fun e => hk.2 ⟨0, (hbl0 k).2 e⟩, fun k hk => by
            by_cases hkb : k = b
            · rw [hkb, hh] at hk; exact nomatch hk
            · rw [hoth k hkb]; exact hk⟩
          own := fun c ⟨j, hj⟩ => .inr ⟨j, (hblk j c).1 hj⟩
          ok := hok }
    cases q with
    | false =>
      refine (hfresh b w (by rw [cell_of_row w b 0 arr el (0, 0) hh]; exact h0) (by simp [World.shape?, hh, hs]) (by simp [World.frozen?, hh])).mono fun e w' ⟨h1, h2⟩ => ⟨_, Z, Eo, h1, ?_⟩
      subst h2
      have hset : (w.setCell ⟨b, 0, none⟩ (.pointer (some ⟨b, 0, none⟩))).heap[b]? = some (.cells (arr.set! 0 (.pointer (some ⟨b, 0, none⟩))) el (0, 0)) := by
        simp [World.setCell, Array.getElem?_modify, hh]
      have hs2 : arr.size = 2 := hs
      refine hfin _ _ hset (by simp [hs2]) (by simp [hs2]) (by rw [Array.set!_eq_setIfInBounds, Array.getElem?_setIfInBounds_ne (by decide)]; exact hv) (fun k hk => ?_) rfl rfl rfl (by simp [World.setCell])
      simp [World.setCell, Array.getElem?_modify, Ne.symm hk]
    | true =>
      refine (hused b w (by rw [cell_of_row w b 0 arr el (0, 0) hh]; rw [h0, he]; rfl)).mono fun e w' ⟨h1, h2⟩ => ⟨_, Z, Eo, h1, ?_⟩
      subst h2
      exact hfin _ _ hh hs (by rw [h0, he]; rfl) hv (fun _ _ => rfl) rfl rfl rfl (Nat.le_refl _)
end
end Go.Abs
