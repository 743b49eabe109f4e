/-
  An entry laid into a map of its own; a slice of its own that is handed over for good, beside a closed value; loops that go on.
-/
import Derived.Test.YtmdhahfminiilaaDoorAbsSeal
import Derived.Lib.AtoiErrMem
namespace Go.Abs
open Go Go.RowKit
theorem lpq_on {J : Code} {b : Bool} (h : b = true) : lpq b J = .on := by subst h; rfl
theorem not_off {b : Bool} (h : (!b) = false) : b = true := by cases b <;> simp_all
theorem rep_sc {Z : Zone} {w : World} {ob : Nat → Nat × AObj} {Eo : Nat → Value} {c : CV} {x : Value} (h : RepS Z w ob Eo (.c c) x) : Rep Z w c x := by cases h with | c _ _ h => exact h
section
variable {P : Program} {G : World → Prop} {Z : Zone} {w : World} {α β : Type} [BEq α] {d : TypeDesc} {kc : α → Value}
theorem eff_insert {t kt et : TypeId} (ht : P.underlying t = some (.map kt et)) (hkt : P.underlying kt = some d) (hd : KeyOk d kc) {ev : β → CV} {m : List (α × β)} {x : α} {v : β} {a b c : Operand} {ty : TypeId} :
    EffOp P G (.insert t a b c) ty [.mr 0 0, .c (.v (kc x)), .c (ev v)] [(0, .map (mpE kc ev m))] .any [(0, .map (mpE kc ev (mset m x v)))] := by
  intro Z w Eo ac o next Q ho hty hg hzl hl hargs hgs hnext
  have h1 := hargs 0 (.mr 0 0) a rfl rfl
  have h2 := rep_cv (hargs 1 (.c (.v (kc x))) b rfl rfl)
  have h3 : Rep Z w (ev v) (ac.eval c) := by
    have := hargs 2 (.c (ev v)) c rfl rfl
    cases this with | c _ _ h => exact h
  obtain ⟨bl, arr, clock, hE, hh, hlen, hent, hnz⟩ := hg.ok 0
  have hav : ac.eval a = .map (some bl) := by
    generalize ac.eval a = y at h1
    cases h1 with
    | mr _ _ _ hs hgen hE' => exact (hE' _ rfl).symm.trans hE
  have hck : (Instr.checkKey false 10000 kt (kc x)).run P w = .ok () w := MapKept.run_checkKey hkt (hd.key x) false 9999
  have hblk : (objL [(0, AObj.map (mpE kc ev m))] 0).2.blk (Eo 0) bl := by rw [hE]; rfl
  have hkey : ∀ (i : Nat) (p : α × β) (e : MapEntry), m[i]? = some p → arr[i]? = some e → e.key = kc p.1 ∧ Rep Z w (ev p.2) e.val := fun i p e h4 h5 => by
    obtain ⟨q1, q2⟩ := hent i (.v (kc p.1)) (ev p.2) e (by simp [mpE, h4]) h5
    exact ⟨rep_v q1, q2⟩
  have hml : m.length = arr.size := by simpa [mpE] using hlen
  have hlt : bl < w.heap.size := (Array.getElem?_eq_some_iff.1 hh).1
  -- the world behind
  have fin : ∀ (arr' : Array MapEntry) (clock' : Nat), (Instr.mapUpdate t (.map (some bl)) (kc x) (ac.eval c)).run P w = .ok () { w with heap := w.heap.setIfInBounds bl (.map arr' clock') } →
      (mset m x v).length = arr'.size → (∀ (i : Nat) (p : α × β) (e : MapEntry), (mset m x v)[i]? = some p → arr'[i]? = some e → e.key = kc p.1 ∧ Rep Z w (ev p.2) e.val) → Oper.wpE P o ac w next Q := by
    intro arr' clock' hrun hl' he'
    obtain ⟨hset, hoth⟩ := MapKept.heap_set (o' := .map arr' clock') hh
    have hex : (execOp ac.eval o).run P w = .ok .skip { w with heap := w.heap.setIfInBounds bl (.map arr' clock') } := by
      obtain ⟨dst, op, type, pos, after, guard⟩ := o
      simp only at ho
      subst ho
      simp only [execOp, hav, h2, Sem.run_bind, hrun, Result.andThen_ok, Sem.run_pure]
    have hk : Kept (fun k => k ≠ bl) w { w with heap := w.heap.setIfInBounds bl (.map arr' clock') } := ⟨rfl, rfl, rfl, by simp, fun k hk => hoth k hk, fun k hk => (hoth k (fun e => by rw [e, hh] at hk; exact nomatch hk)).trans hk⟩
    have hkeep : Keeps Z w Z { w with heap := w.heap.setIfInBounds bl (.map arr' clock') } := fun c k h => ⟨h, keep_heap (hk.block c (fun e => hnz k (e ▸ h)))⟩
    refine wp_skip' hex (hnext _ Z _ Eo (effpost_one hg hzl hblk (fun c h => by rw [hE] at h; cases h; rfl) hk hnz ?_ ?_ (.any _)))
    · refine ⟨bl, arr', clock', hE, hset, by simpa [mpE] using hl', fun i k u e h4 h5 => ?_, hnz⟩
      rw [List.getElem?_map] at h4
      cases hp : (mset m x v)[i]? with
      | none => rw [hp] at h4; simp at h4
      | some p =>
        rw [hp] at h4
        simp at h4
        obtain ⟨rfl, rfl⟩ := h4
        obtain ⟨q1, q2⟩ := he' i p e hp h5
        exact ⟨by rw [q1]; exact .v _, q2.keep hkeep⟩
    · exact
        { gen := fun t => by rw [objL_one, objL_one]; split <;> exact Nat.le_refl _
          var := fun t g _ hlv => by
            obtain ⟨cs, hlv⟩ := hlv
            rw [objL_one] at hlv
            by_cases ht : t = 0
            · rw [if_pos ht] at hlv; simp at hlv
            · rw [if_neg ht] at hlv; simp at hlv
          ext := fun t g K cs hg hlv => by
            rw [objL_one] at hlv
            by_cases ht : t = 0
            · rw [if_pos ht] at hlv; simp at hlv
            · rw [if_neg ht] at hlv; simp at hlv
          tok := fun t g el s hg hlv => by
            rw [objL_one] at hlv
            by_cases ht : t = 0
            · rw [if_pos ht] at hlv; simp at hlv
            · rw [if_neg ht] at hlv; simp at hlv
          arr := fun t g el sz ds foc hg hlv => by
            rw [objL_one] at hlv
            by_cases ht : t = 0
            · rw [if_pos ht] at hlv; simp at hlv
            · rw [if_neg ht] at hlv; simp at hlv
          map := fun t g es _ hlv => by
            rw [objL_one] at hlv ⊢
            by_cases ht : t = 0
            · rw [if_pos ht] at hlv ⊢
              simp at hlv
              obtain ⟨rfl, _⟩ := hlv
              exact ⟨⟨_, rfl⟩, rfl⟩
            · rw [if_neg ht] at hlv; simp at hlv }
  rcases find_spec hd x m arr.toList 0 (by simpa using hml) (fun i p e h4 h5 => (hkey i p e h4 (by simpa using h5)).1) with ⟨q1, q2, q3⟩ | ⟨i, p, e, q1, q2, q3, q4, q5, q6⟩
  · refine fin (arr.push { key := kc x, val := ac.eval c, born := clock }) (clock + 1) ?_ (by rw [q3]; simp [hml]) fun i p e h4 h5 => ?_
    · simp only [Instr.mapUpdate, Sem.run_bind, run_underlying ht, Result.andThen_ok, MapKept.run_getObj_map hh, hck, MapKept.run_findKey hkt q1, MapKept.run_setObj_map _ hh]
    · rw [q3] at h4
      rcases Nat.lt_or_ge i m.length with hi | hi
      · rw [List.getElem?_append_left hi] at h4
        rw [Array.getElem?_push, if_neg (by omega)] at h5
        exact hkey i p e h4 h5
      · rw [List.getElem?_append_right hi] at h4
        have hi0 : i = m.length := by
          have := (List.getElem?_eq_some_iff.1 h4).1
          simp at this
          omega
        subst hi0
        simp at h4
        subst h4
        rw [Array.getElem?_push, if_pos hml] at h5
        injection h5 with h5
        subst h5
        exact ⟨rfl, h3⟩
  · have hei : arr[i]? = some e := by simpa using q2
    have hkey0 := (hkey i p e q1 hei).1
    refine fin (arr.modify i fun e => { e with key := kc x, val := ac.eval c }) clock ?_ (by rw [q6]; simp [hml]) fun j p' e' h4 h5 => ?_
    · rw [Nat.zero_add] at q4
      simp only [Instr.mapUpdate, Sem.run_bind, run_underlying ht, Result.andThen_ok, MapKept.run_getObj_map hh, hck, MapKept.run_findKey hkt q4, hei, Option.map_some, Option.getD_some, Instr.keyThatStays, hkey0, hd.bits x p.1 q3, if_true, Sem.run_pure, MapKept.run_setObj_map _ hh]
    · rw [q6, List.getElem?_set] at h4
      rw [Array.getElem?_modify] at h5
      by_cases hij : i = j
      · subst hij
        rw [if_pos rfl] at h5
        rw [hei] at h5
        simp at h5
        subst h5
        have hil : i < m.length := (List.getElem?_eq_some_iff.1 q1).1
        simp [hil] at h4
        subst h4
        exact ⟨rfl, h3⟩
      · rw [if_neg hij] at h4
        rw [if_neg hij] at h5
        exact hkey j p' e' h4 h5
end
section
variable {P : Program} {G : World → Prop}
theorem effn_seal2 {f : FuncId} {el sz : Nat} {es : List (List CV)} {c2 r : CV} (hp : r.pure = true) (h : Holds P G f [.sl sz es, c2] r) : EffFn P G f [.rs 0 0, .c c2] [(0, .arr el sz es none)] (.c r) [(1, .spent)] := by
  refine ⟨h.1, fun Z w Eo vs hg hzl hl hargs hgs => ?_⟩
  match vs, hl, hargs with
  | [x, y2], _, hargs =>
    have hx := hargs 0 (.rs 0 0) x rfl rfl
    have hy := rep_sc (hargs 1 (.c c2) y2 rfl rfl)
    have hE : Eo 0 = x := by
      cases hx with
      | rs _ _ _ _ _ h => exact h _ _ _ _ rfl
    have ho : objL [(0, AObj.arr el sz es none)] 0 = (0, .arr el sz es none) := rfl
    have hrep := grp_arr hg ho (ts := [0]) (by simp) hE
    have hlt : ∀ b, GB [(0, AObj.arr el sz es none)] Eo b → b < w.heap.size := fun b ⟨j, hj⟩ => (hg.ok j).lt hj
    have hzlt : ∀ b o, Zf Z (objL [(0, AObj.arr el sz es none)]) Eo [0] b o → b < w.heap.size := fun b o hz => hz.elim (hzl b o) fun ⟨s, _, hb⟩ => hlt b ⟨s, hb⟩
    have hS : ∀ k, SG w [(0, AObj.arr el sz es none)] Eo k → k < w.heap.size := fun k hk => hk.1
    refine (h.2 _ w [x, y2] (RepL.cons hrep (RepL.cons (hy.keep (Zf_of _ _ _)) (RepL.nil _ _))) hzlt (fun w1 hb1 => hgs w1 (.of_below hb1 hS))).mono ?_
    rintro e w' ⟨x', Z', rfl, hrr, hsub, hnew, hbel⟩
    refine ⟨x', Z', Eo, rfl, ?_⟩
    have hnb : ∀ j b, ¬ (objL [(1, AObj.spent)] j).2.blk (Eo j) b := fun j b hb => by
      match j, hb with
      | 0, hb => simp [objL, AObj.blk] at hb
      | j + 1, hb => simp [objL, AObj.blk] at hb
    exact
      { res := .c _ _ (hrr.pure hp)
        grp := ⟨fun j => by
            match j with
            | 0 => trivial
            | j + 1 => trivial, fun j j' b _ h1 => absurd h1 (hnb j b)⟩
        keeps := fun b o hz => ⟨hsub b o (.inl hz), keep_heap (hbel.block b (hzl b o hz))⟩
        zlt := fun b o hz => (hnew b o hz).2
        znew := fun b o hz => by
          rcases (hnew b o hz).1 with h1 | h1
          · rcases h1 with h1 | ⟨s, _, hb⟩
            · exact .inl h1
            · exact .inr (.inr ⟨s, hb⟩)
          · exact .inr (.inl h1)
        kept := .of_below hbel hS
        own := fun b ⟨j, hj⟩ => absurd hj (hnb j b)
        ok :=
          { gen := fun t => by
              match t with
              | 0 => simp [objL]
              | t + 1 => simp [objL]
            var := fun t g _ hlv => by
              obtain ⟨cs, hlv⟩ := hlv
              match t, hlv with
              | 0, hlv => simp [objL] at hlv
              | t + 1, hlv => simp [objL] at hlv
            ext := fun t g K cs _ hlv => by
              match t, hlv with
              | 0, hlv => simp [objL] at hlv
              | t + 1, hlv => simp [objL] at hlv
            tok := fun t g el s _ hlv => by
              match t, hlv with
              | 0, hlv => simp [objL] at hlv
              | t + 1, hlv => simp [objL] at hlv
            arr := fun t g el sz ds foc _ hlv => by
              match t, hlv with
              | 0, hlv => simp [objL] at hlv
              | t + 1, hlv => simp [objL] at hlv
            map := fun t g es _ hlv => by
              match t, hlv with
              | 0, hlv => simp [objL] at hlv
              | t + 1, hlv => simp [objL] at hlv } }
end
section
variable {P : Program} {G : World → Prop}
def s2b (s : Str) : List Int := s.map fun b => (b.toNat : Int)
theorem grp_nil {Z : Zone} {w : World} {Eo : Nat → Value} : Grp Z w [] Eo := ⟨fun _ => trivial, fun j j' b _ h1 => by simp [objL, AObj.blk] at h1⟩
/-- The bytes of a string, in a row of their own that is not written. -/
theorem eff_s2b {s t e : TypeId} (hs : P.underlying s = some .string) (ht : P.underlying t = some (.slice e)) (he : P.underlying e = some (.int .u8)) {l : Str} {x : Operand} {ty : TypeId} :
    EffOp P G (.convert s t x) ty [.c (.v (.string ⟨⟨l⟩⟩))] [] (.c (.sl 1 ((s2b l).map cInt_u8))) [] := by
  intro Z w Eo ac o next Q ho hty hg hzl hl hargs hgs hnext
  have hx := rep_v (rep_sc (hargs 0 (.c (.v (.string ⟨⟨l⟩⟩))) x rfl rfl))
  have hrun := Lib.run_convert_string_bytes (P := P) w s t e ⟨⟨l⟩⟩ hs ht he
  have hex : (execOp ac.eval o).run P w = .ok (.value (.slice (some ⟨w.heap.size, 0, none⟩) (ByteArray.mk ⟨l⟩).size (grownCap w (ByteArray.mk ⟨l⟩).size 0 e))) (Lib.bytesWorld w e ⟨⟨l⟩⟩) := by
    obtain ⟨dst, op, type, pos, after, guard⟩ := o
    simp only at ho
    subst ho
    simp only [execOp, hx, Sem.run_bind, hrun, Result.andThen_ok, Sem.run_pure]
  have hb := Lib.bytesWorld_below w e ⟨⟨l⟩⟩
  have hsz : (ByteArray.mk ⟨l⟩).size = ((s2b l).map cInt_u8).length := by simp [s2b, ByteArray.size]
  have hd : ∀ (i j : Nat) (d : List CV) (c : CV), ((s2b l).map cInt_u8)[i]? = some d → d[j]? = some c → j = 0 ∧ ∃ h : i < l.length, c = .v (.int .u8 (l[i].toNat : Int)) := by
    intro i j d c h1 h2
    rw [List.getElem?_map, s2b, List.getElem?_map] at h1
    cases hl : l[i]? with
    | none => rw [hl] at h1; cases h1
    | some q =>
      rw [hl] at h1
      obtain ⟨hi, hq⟩ := List.getElem?_eq_some_iff.1 hl
      obtain rfl : [CV.v (.int .u8 (q.toNat : Int))] = d := Option.some.inj h1
      match j, h2 with
      | 0, h2 => exact ⟨rfl, hi, by rw [hq]; exact (Option.some.inj h2).symm⟩
      | j + 1, h2 => simp at h2
  have hr : Rep (fun b o => Z b o ∨ b = w.heap.size) (Lib.bytesWorld w e ⟨⟨l⟩⟩) (.sl 1 ((s2b l).map cInt_u8)) (.slice (some ⟨w.heap.size, 0, none⟩) (ByteArray.mk ⟨l⟩).size (grownCap w (ByteArray.mk ⟨l⟩).size 0 e)) := by
    have h := Rep.sl (Z := fun b o => Z b o ∨ b = w.heap.size) (w := Lib.bytesWorld w e ⟨⟨l⟩⟩) 1 ((s2b l).map cInt_u8) w.heap.size 0 (grownCap w (ByteArray.mk ⟨l⟩).size 0 e) (fun i _ => .int .u8 ((l.getD i 0).toNat : Int)) (by rw [← hsz]; exact grownCap_ge w _ 0 e)
      (fun i d h => by
        rw [List.getElem?_map] at h
        obtain ⟨q, _, rfl⟩ := Option.map_eq_some_iff.1 h
        rfl)
      (fun i j d c h1 h2 => by
        obtain ⟨rfl, hi, rfl⟩ := hd i j d c h1 h2
        refine ⟨.inr rfl, ?_, rfl⟩
        rw [Nat.zero_add, Nat.mul_one, Nat.add_zero]
        exact Lib.bytesWorld_cell w e ⟨⟨l⟩⟩ i (by simpa [ByteArray.size] using hi))
      (fun i j d c h1 h2 => by
        obtain ⟨rfl, hi, rfl⟩ := hd i j d c h1 h2
        simp only [List.getD_eq_getElem?_getD, List.getElem?_eq_getElem hi, Option.getD_some]
        exact .v _)
    rw [← hsz] at h
    exact h
  refine wp_value hex (hnext _ (fun b o => Z b o ∨ b = w.heap.size) _ Eo ?_)
  exact
    { res := .c _ _ hr
      grp := grp_nil
      keeps := fun b o hz => ⟨.inl hz, keep_heap (hb.block b (hzl b o hz))⟩
      zlt := fun b o hz => by
        rcases hz with h | rfl
        · exact Nat.lt_of_lt_of_le (hzl b o h) hb.size
        · rw [Lib.bytesWorld_size]; omega
      znew := fun b o hz => by
        rcases hz with h | rfl
        · exact .inl h
        · exact .inr (.inl (Nat.le_refl _))
      kept := .of_below hb (fun k hk => hk.1)
      own := fun b ⟨j, hj⟩ => by simp [objL, AObj.blk] at hj
      ok := ObjKeep.refl _ _ }
/-- A plain value as an interface's. -/
theorem eff_mkif {t : TypeId} {k : IntKind} (ht : P.underlying t = some (.int k)) {v : Value} {x : Operand} {ty : TypeId} : EffOp P G (.makeInterface t x) ty [.c (.v v)] [] (.c (.v (.iface t v))) [] := by
  intro Z w Eo ac o next Q ho hty hg hzl hl hargs hgs hnext
  have hx := rep_v (rep_sc (hargs 0 (.c (.v v)) x rfl rfl))
  have hex : (execOp ac.eval o).run P w = .ok (.value (.iface t v)) w := by
    obtain ⟨dst, op, type, pos, after, guard⟩ := o
    simp only at ho
    subst ho
    simp [execOp, hx, Instr.makeInterface, run_underlying ht]
  exact wp_value hex (hnext _ Z w Eo (effpost_same hg hzl (.c _ _ (.v _))))
/-- An inner error by its number; 0: none. -/
def ifcV (t : TypeId) (e : Int) : Value := bif e == 0 then .nilIface else .iface t (.int .i64 e)
theorem eff_ifn {t u ty : TypeId} {x : Operand} {z : TypeId} {e : Int} (ht : P.underlying t = some (.interface (P.methodsAt t))) : EffOp P G (.binOp .neq t x (.const .nilIface) z) ty [.c (.v (ifcV u e)), .c (.v .nilIface)] [] (.c (.v (.bool (e != 0)))) [] := by
  intro Z w Eo a o next Q ho hty hg hz hl hargs hgs hnext
  obtain ⟨dst, op, type, pos, after, guard⟩ := o
  simp only at ho hty
  subst ho
  have hx := rep_v (rep_sc (hargs 0 _ x rfl rfl))
  have hc : a.eval (.const .nilIface) = .nilIface := rfl
  have hv : (e == 0) = true ∨ (e == 0) = false := by cases e == 0 <;> simp
  refine wp_value (x := .bool (e != 0)) ?_ (hnext _ Z w Eo (effpost_same hg hz (.c _ _ (.v _))))
  rcases hv with h | h
  · have hb : (e != 0) = false := by simp only [bne, h]; rfl
    rw [ifcV, h, cond_true] at hx
    rw [hb]
    simp only [execOp, hx, hc, Sem.run_bind, guard_errn (t := t) (x := x) (.inr rfl)]
    simp [run_neq_nil_nil w t ht]
  · have hb : (e != 0) = true := by simp only [bne, h]; rfl
    rw [ifcV, h, cond_false] at hx
    rw [hb]
    simp only [execOp, hx, hc, Sem.run_bind, guard_errn (t := t) (x := x) (.inl ⟨u, _, rfl⟩)]
    simp [run_neq_held_nil w t u _ ht]
end
end Go.Abs
