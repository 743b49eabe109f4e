/-
  What is known of operations on maps, on slices of slices and strings, and of comparisons of structs.
-/
import Derived.Test.YtmcolhhmlpicaaaDoorAbsFn
import Derived.Test.YtmcolhhmlpicaaaDoorAbsPre
import Derived.MapKept
namespace Go.Abs
open Go Go.RowKit

/-- Maps as lists of keys and values, in the order in which the keys came. -/
def mget {α β : Type} [BEq α] : List (α × β) → α → Option β
  | [], _ => .none
  | p :: r, x => bif x == p.1 then some p.2 else mget r x
def mset {α β : Type} [BEq α] : List (α × β) → α → β → List (α × β)
  | [], x, v => [(x, v)]
  | p :: r, x, v => bif x == p.1 then (x, v) :: r else p :: mset r x v
structure KeyOk {α : Type} [BEq α] (d : TypeDesc) (kc : α → Value) : Prop where
  key : ∀ a, MapKept.IsKey d (kc a)
  same : ∀ a b, Instr.sameNow d (kc a) (kc b) = some (a == b)
  bits : ∀ a b, (a == b) = true → Instr.sameBits 10000 (kc b) (kc a) = true
def kInt (k : IntKind) (a : Int) : Value := .int k a
def kStr (s : List UInt8) : Value := .string ⟨⟨s⟩⟩
theorem keyInt (k : IntKind) : KeyOk (.int k) (kInt k) where
  key _ := rfl
  same a b := by simp [Instr.sameNow, kInt]
  bits a b h := by simp at h; subst h; simp [Instr.sameBits, kInt]
theorem ba_beq (a b : List UInt8) : ((⟨⟨a⟩⟩ : ByteArray) == ⟨⟨b⟩⟩) = (a == b) := by
  cases h : a == b with
  | true => have := eq_of_beq h; subst this; exact (MapKept.bytes_beq _ _).2 rfl
  | false =>
    cases h' : ((⟨⟨a⟩⟩ : ByteArray) == ⟨⟨b⟩⟩) with
    | false => rfl
    | true =>
      have := (MapKept.bytes_beq _ _).1 h'
      have e : a = b := by injection this with this; injection this
      rw [e] at h; simp at h
theorem keyStr : KeyOk .string kStr where
  key _ := trivial
  same a b := by simp [Instr.sameNow, kStr, ba_beq]
  bits a b h := by have := eq_of_beq h; subst this; simp [Instr.sameBits, kStr, ba_beq]

/-- What a map reads as. -/
def RdMap (Z : Zone) (w : World) (es : List (CV × CV)) (v : Value) : Prop :=
  (v = .map none ∧ es = []) ∨ ∃ b arr clock, v = .map (some b) ∧ w.heap[b]? = some (.map arr clock) ∧ es.length = arr.size ∧
    ∀ (i : Nat) (k u : CV) (m : MapEntry), es[i]? = some (k, u) → arr[i]? = some m → Rep Z w k m.key ∧ Rep Z w u m.val
abbrev mpE {α β : Type} (kc : α → Value) (ev : β → CV) (m : List (α × β)) : List (CV × CV) := m.map fun p => (CV.v (kc p.1), ev p.2)

section
variable {P : Program} {G : World → Prop} {Z : Zone} {w : World} {α β : Type} [BEq α] {d : TypeDesc} {kc : α → Value}
theorem find_spec (hd : KeyOk d kc) (x : α) : ∀ (m : List (α × β)) (l : List MapEntry) (n : Nat), m.length = l.length → (∀ (i : Nat) (p : α × β) (e : MapEntry), m[i]? = some p → l[i]? = some e → e.key = kc p.1) →
    (Instr.findNow d (kc x) l n = some none ∧ mget m x = .none ∧ ∀ v, mset m x v = m ++ [(x, v)]) ∨
    ∃ i p e, m[i]? = some p ∧ l[i]? = some e ∧ (x == p.1) = true ∧ Instr.findNow d (kc x) l n = some (some (n + i, e.val)) ∧ mget m x = some p.2 ∧ ∀ v, mset m x v = m.set i (x, v)
  | [], l, n, hl, _ => by
    have : l = [] := by cases l with | nil => rfl | cons => simp at hl
    subst this
    exact .inl ⟨rfl, rfl, fun _ => rfl⟩
  | p :: r, [], n, hl, _ => by simp at hl
  | p :: r, e :: l, n, hl, h => by
    have hk := h 0 p e rfl rfl
    have hs := hd.same x p.1
    cases hb : x == p.1 with
    | true =>
      rw [hb, ← hk] at hs
      exact .inr ⟨0, p, e, rfl, rfl, hb, by simp [Instr.findNow, hs], by simp [mget, hb], fun v => by simp [mset, hb]⟩
    | false =>
      rw [hb, ← hk] at hs
      rcases find_spec hd x r l (n + 1) (by simpa using hl) (fun i p' e' h1 h2 => h (i + 1) p' e' (by simpa using h1) (by simpa using h2)) with ⟨h1, h2, h3⟩ | ⟨i, p', e', h1, h2, h3, h4, h5, h6⟩
      · exact .inl ⟨by simp [Instr.findNow, hs, h1], by simp [mget, hb, h2], fun v => by simp [mset, hb, h3]⟩
      · exact .inr ⟨i + 1, p', e', by simpa using h1, by simpa using h2, h3, by simp [Instr.findNow, hs, h4]; omega, by simp [mget, hb, h5], fun v => by simp [mset, hb, h6]⟩

def zeroCV (i : TI) : CV := bif i.isAgg then .agg (zeroC i.zero i.ks) else (zeroC i.zero i.ks).headD (.v undef)
theorem zeroCV_rep {t : Nat} {i : TI} (h : TOk1 P t i) : Rep Z w (zeroCV i) (zeroVal i) := by
  unfold zeroCV zeroVal
  cases ha : i.isAgg with
  | true =>
    simp only [cond_true]
    refine .agg _ _ (zeroC_len _ _) (fun j c x h1 h2 => ?_) (fun j c h1 => (zero_rep (Z := Z) (w := w) h j c h1).1)
    obtain ⟨_, y, h3, h4⟩ := zero_rep (Z := Z) (w := w) h j c h1
    have : y = x := by simp at h3; rw [h2] at h3; injection h3 with h3; exact h3.symm
    exact this ▸ h4
  | false =>
    simp only [cond_false]
    have h1 := h.single ha
    have h2 := h.len
    cases hz : i.zero with
    | nil => rw [hz] at h2; simp at h2; omega
    | cons z zs =>
      have hc : (zeroC i.zero i.ks)[0]? = some ((zeroC i.zero i.ks).headD (.v undef)) := by rw [hz]; rfl
      obtain ⟨_, y, h3, h4⟩ := zero_rep (Z := Z) (w := w) h 0 _ hc
      rw [hz] at h3 h4
      simp at h3
      subst h3
      exact h4
theorem run_zeroValue {t : Nat} {i : TI} (h : TOk1 P t i) (w : World) : (zeroValue t).run P w = .ok (zeroVal i) w := by
  obtain ⟨j, hj, _, _, hz⟩ := h.infoE
  simp [zeroValue, typeInfo, hj, hz]

theorem run_lookup {t kt et : TypeId} {i : TI} (ht : P.underlying t = some (.map kt et)) (hkt : P.underlying kt = some d) (hd : KeyOk d kc) (hi : TOk1 P et i) {ev : β → CV} {z : β} (hz : zeroCV i = ev z) {m : List (α × β)} {v : Value} (hm : RdMap Z w (mpE kc ev m) v) (x : α) (ok : Bool) :
    ∃ u, (Instr.lookup t v (kc x) ok).run P w = .ok (if ok then .tuple #[u, .bool (mget m x).isSome] else u) w ∧ Rep Z w (ev ((mget m x).getD z)) u := by
  have hck : ∀ b, (Instr.checkKey b 10000 kt (kc x)).run P w = .ok () w := fun b => MapKept.run_checkKey hkt (hd.key x) b 9999
  have fin : ∀ (arr : Array MapEntry), m.length = arr.size → (∀ (i : Nat) (p : α × β) (e : MapEntry), m[i]? = some p → arr[i]? = some e → e.key = kc p.1 ∧ Rep Z w (ev p.2) e.val) →
      ∃ u, (∃ o, Instr.findNow d (kc x) arr.toList 0 = some o ∧ ((o = .none ∧ (mget m x).isSome = false ∧ u = zeroVal i) ∨ ∃ k, o = some (k, u) ∧ (mget m x).isSome = true)) ∧ Rep Z w (ev ((mget m x).getD z)) u := by
    intro arr hl he
    rcases find_spec hd x m arr.toList 0 (by simpa using hl) (fun i p e h1 h2 => (he i p e h1 (by simpa using h2)).1) with ⟨h1, h2, _⟩ | ⟨i, p, e, h1, h2, h3, h4, h5, _⟩
    · exact ⟨_, ⟨_, h1, .inl ⟨rfl, by rw [h2]; rfl, rfl⟩⟩, by rw [h2]; show Rep Z w (ev z) _; rw [← hz]; exact zeroCV_rep hi⟩
    · exact ⟨e.val, ⟨_, h4, .inr ⟨_, rfl, by rw [h5]; rfl⟩⟩, by rw [h5]; exact (he i p e h1 (by simpa using h2)).2⟩
  rcases hm with ⟨rfl, hes⟩ | ⟨b, arr, clock, rfl, hh, hl, he⟩
  · have hmn : m = [] := by simpa [mpE] using hes
    obtain ⟨u, ⟨o, ho, hu⟩, hr⟩ := fin #[] (by rw [hmn]; rfl) (fun i p e h1 h2 => by simp at h2)
    refine ⟨u, ?_, hr⟩
    simp only [Instr.lookup, Sem.run_bind, run_underlying ht, Result.andThen_ok, Sem.run_pure, hck, MapKept.run_findKey hkt ho]
    rcases hu with ⟨rfl, h2, rfl⟩ | ⟨k, rfl, h2⟩
    · simp only [Sem.run_bind, run_zeroValue hi, Result.andThen_ok, Sem.run_pure, h2]
    · simp [h2]
  · obtain ⟨u, ⟨o, ho, hu⟩, hr⟩ := fin arr (by simpa [mpE] using hl) (fun i p e h1 h2 => by
      obtain ⟨q1, q2⟩ := he i (.v (kc p.1)) (ev p.2) e (by simp [mpE, h1]) h2
      exact ⟨rep_v q1, q2⟩)
    refine ⟨u, ?_, hr⟩
    simp only [Instr.lookup, Sem.run_bind, run_underlying ht, Result.andThen_ok, Sem.run_pure, MapKept.run_getObj_map hh, hck, MapKept.run_findKey hkt ho]
    rcases hu with ⟨rfl, h2, rfl⟩ | ⟨k, rfl, h2⟩
    · simp only [Sem.run_bind, run_zeroValue hi, Result.andThen_ok, Sem.run_pure, h2]
    · simp [h2]

/-- Nothing has changed. -/
theorem effpost_same {os : List (Nat × AObj)} {Eo : Nat → Value} {r : SV} {x : Value} (hg : Grp Z w os Eo) (hz : ∀ b o, Z b o → b < w.heap.size) (hr : RepS Z w (objL os) Eo r x) : EffPost Z w os Eo Z w os Eo r x :=
  { res := hr, grp := hg, keeps := Keeps.refl _ _, zlt := hz, znew := fun _ _ h => .inl h, kept := Kept.refl _ _, own := fun _ h => .inr h, ok := ObjKeep.refl _ _ }

theorem lookup_core {t kt et : TypeId} {i : TI} (ht : P.underlying t = some (.map kt et)) (hkt : P.underlying kt = some d) (hd : KeyOk d kc) (hi : TOk1 P et i) {ev : β → CV} {z : β} (hz : zeroCV i = ev z) {m : List (α × β)} {x : α} {a b : Operand} {ty : TypeId} {ok : Bool} {os : List (Nat × AObj)} {s : SV}
    (hs : ∀ Z w Eo v, Grp Z w os Eo → RepS Z w (objL os) Eo s v → RdMap Z w (mpE kc ev m) v) :
    EffOp P G (.lookup t a b ok) ty [s, .c (.v (kc x))] os (bif ok then .c (.tup [ev ((mget m x).getD z), .v (.bool (mget m x).isSome)]) else .c (ev ((mget m x).getD z))) os := by
  intro Z w Eo ac o next Q ho hty hg hzl hl hargs hgs hnext
  have h1 := hargs 0 s a rfl rfl
  have h2 := rep_cv (hargs 1 (.c (.v (kc x))) b rfl rfl)
  obtain ⟨u, hrun, hr⟩ := run_lookup ht hkt hd hi hz (hs Z w Eo _ hg h1) x ok
  have hex : (execOp ac.eval o).run P w = .ok (.value (if ok then .tuple #[u, .bool (mget m x).isSome] else u)) w := by
    obtain ⟨dst, op, type, pos, after, guard⟩ := o
    simp only at ho
    subst ho
    simp only [execOp, h2, Sem.run_bind, hrun, Result.andThen_ok, Sem.run_pure]
  refine wp_value hex (hnext _ Z w Eo (effpost_same hg hzl ?_))
  cases ok with
  | true =>
    refine .c _ _ (.tup _ [u, .bool (mget m x).isSome] rfl fun i c y h3 h4 => ?_)
    match i, h3, h4 with
    | 0, h3, h4 => simp at h3 h4; subst h3; subst h4; exact hr
    | 1, h3, h4 => simp at h3 h4; subst h3; subst h4; exact .v _
    | n + 2, h3, h4 => simp at h3
  | false => exact .c _ _ hr
/-- A look into a map of the call's own; into one that is written no more. -/
theorem eff_lookup {t kt et : TypeId} {i : TI} (ht : P.underlying t = some (.map kt et)) (hkt : P.underlying kt = some d) (hd : KeyOk d kc) (hi : TOk1 P et i) {ev : β → CV} {z : β} (hz : zeroCV i = ev z) {m : List (α × β)} {x : α} {a b : Operand} {ty : TypeId} {ok : Bool} :
    EffOp P G (.lookup t a b ok) ty [.mr 0 0, .c (.v (kc x))] [(0, .map (mpE kc ev m))] (bif ok then .c (.tup [ev ((mget m x).getD z), .v (.bool (mget m x).isSome)]) else .c (ev ((mget m x).getD z))) [(0, .map (mpE kc ev m))] := by
  refine lookup_core ht hkt hd hi hz fun Z w Eo v hg h => ?_
  cases h with
  | mr _ _ _ hs hgen hE =>
    have he := hE _ rfl
    obtain ⟨b, arr, clock, h1, h2, h3, h4, _⟩ := hg.ok 0
    exact .inr ⟨b, arr, clock, he.symm.trans h1, h2, h3, h4⟩
theorem eff_lookupC {t kt et : TypeId} {i : TI} (ht : P.underlying t = some (.map kt et)) (hkt : P.underlying kt = some d) (hd : KeyOk d kc) (hi : TOk1 P et i) {ev : β → CV} {z : β} (hz : zeroCV i = ev z) {m : List (α × β)} {x : α} {a b : Operand} {ty : TypeId} {ok : Bool} :
    EffOp P G (.lookup t a b ok) ty [.c (.mp (mpE kc ev m)), .c (.v (kc x))] [] (bif ok then .c (.tup [ev ((mget m x).getD z), .v (.bool (mget m x).isSome)]) else .c (ev ((mget m x).getD z))) [] := by
  refine lookup_core ht hkt hd hi hz fun Z w Eo v hg h => ?_
  cases h with
  | c _ _ h =>
    generalize hes : mpE kc ev m = es at h
    cases h with
    | mpn => exact .inl ⟨rfl, rfl⟩
    | mp _ b arr clock _ hh hl hk hv => exact .inr ⟨b, arr, clock, rfl, hh, hl, fun i k u m h1 h2 => ⟨hk i k u m h1 h2, hv i k u m h1 h2⟩⟩

def mlk {α β : Type} [BEq α] (m : List (α × β)) (x : α) (z : β) : Option β := some ((mget m x).getD z)
def mlook {α β : Type} [BEq α] (m : List (α × β)) (x : α) (z : β) : Option (β × Bool) := some ((mget m x).getD z, (mget m x).isSome)
section
variable {t kt et : TypeId} {i : TI} {ev : β → CV} {z : β} {m : List (α × β)} {x : α} {a b : Operand} {ty : TypeId}
theorem eff_mlk (ht : P.underlying t = some (.map kt et)) (hkt : P.underlying kt = some d) (hd : KeyOk d kc) (hi : TOk1 P et i) (hz : zeroCV i = ev z) {y : β} (hy : mlk m x z = some y) :
    EffOp P G (.lookup t a b false) ty [.mr 0 0, .c (.v (kc x))] [(0, .map (mpE kc ev m))] (.c (ev y)) [(0, .map (mpE kc ev m))] := by
  have := eff_lookup (P := P) (G := G) ht hkt hd hi hz (m := m) (x := x) (a := a) (b := b) (ty := ty) (ok := false)
  rw [← Option.some.inj hy]; exact this
theorem eff_mlkC (ht : P.underlying t = some (.map kt et)) (hkt : P.underlying kt = some d) (hd : KeyOk d kc) (hi : TOk1 P et i) (hz : zeroCV i = ev z) {y : β} (hy : mlk m x z = some y) :
    EffOp P G (.lookup t a b false) ty [.c (.mp (mpE kc ev m)), .c (.v (kc x))] [] (.c (ev y)) [] := by
  have := eff_lookupC (P := P) (G := G) ht hkt hd hi hz (m := m) (x := x) (a := a) (b := b) (ty := ty) (ok := false)
  rw [← Option.some.inj hy]; exact this
theorem eff_mlook (ht : P.underlying t = some (.map kt et)) (hkt : P.underlying kt = some d) (hd : KeyOk d kc) (hi : TOk1 P et i) (hz : zeroCV i = ev z) {y : β × Bool} (hy : mlook m x z = some y) :
    EffOp P G (.lookup t a b true) ty [.mr 0 0, .c (.v (kc x))] [(0, .map (mpE kc ev m))] (.c (.tup [ev y.1, .v (.bool y.2)])) [(0, .map (mpE kc ev m))] := by
  have := eff_lookup (P := P) (G := G) ht hkt hd hi hz (m := m) (x := x) (a := a) (b := b) (ty := ty) (ok := true)
  rw [← Option.some.inj hy]; exact this
theorem eff_mlookC (ht : P.underlying t = some (.map kt et)) (hkt : P.underlying kt = some d) (hd : KeyOk d kc) (hi : TOk1 P et i) (hz : zeroCV i = ev z) {y : β × Bool} (hy : mlook m x z = some y) :
    EffOp P G (.lookup t a b true) ty [.c (.mp (mpE kc ev m)), .c (.v (kc x))] [] (.c (.tup [ev y.1, .v (.bool y.2)])) [] := by
  have := eff_lookupC (P := P) (G := G) ht hkt hd hi hz (m := m) (x := x) (a := a) (b := b) (ty := ty) (ok := true)
  rw [← Option.some.inj hy]; exact this
end
theorem objL_one (g : Nat) (o : AObj) (j : Nat) : objL [(g, o)] j = if j = 0 then (g, o) else (0, .none) := by
  cases j with
  | zero => rfl
  | succ j => simp [objL]
theorem one_obj {o : AObj} {Eo : Nat → Value} {j b : Nat} {g : Nat} (h : (objL [(g, o)] j).2.blk (Eo j) = some b) : j = 0 ∧ o.blk (Eo 0) = some b := by
  rw [objL_one] at h
  by_cases hj : j = 0
  · subst hj; exact ⟨rfl, h⟩
  · rw [if_neg hj] at h; simp [AObj.blk] at h

theorem eff_makeMap {t : TypeId} {ty : TypeId} : EffOp P G (.makeMap t .none) ty [] [] (.mr 0 1) [(1, .map [])] := by
  intro Z w Eo ac o next Q ho hty hg hzl hl hargs hgs hnext
  have hex : (execOp ac.eval o).run P w = .ok (.value (.map (some w.heap.size))) (w.alloc (.map #[] 0)) := by
    obtain ⟨dst, op, type, pos, after, guard⟩ := o
    simp only at ho
    subst ho
    simp [execOp, Instr.makeMap]
  refine wp_value hex (hnext _ Z _ (fun _ => .map (some w.heap.size)) ?_)
  have hnew : (w.alloc (.map #[] 0)).heap[w.heap.size]? = some (.map #[] 0) := (MapKept.heap_alloc w _).1
  exact
    { res := .mr 0 1 _ ⟨_, rfl⟩ (Nat.le_refl _) fun _ _ => rfl
      grp := ⟨fun j => by
          rw [objL_one]
          by_cases hj : j = 0
          · rw [if_pos hj]
            exact ⟨w.heap.size, #[], 0, rfl, hnew, rfl, fun i k v m h => by simp at h, fun o hz => absurd (hzl _ _ hz) (Nat.lt_irrefl _)⟩
          · rw [if_neg hj]; trivial,
        fun j j' b hne h1 h2 => hne ((one_obj (Eo := fun _ => .map (some w.heap.size)) h1).1.trans (one_obj (Eo := fun _ => .map (some w.heap.size)) h2).1.symm)⟩
      keeps := Keeps.alloc hzl _
      zlt := fun b o hz => by have := hzl b o hz; simp; omega
      znew := fun _ _ h => .inl h
      kept := (Kept.refl _ _).alloc (fun _ h => h.1) _
      own := fun b ⟨j, hj⟩ => by
        obtain ⟨_, h⟩ := one_obj (Eo := fun _ => .map (some w.heap.size)) hj
        simp [AObj.blk] at h
        exact .inl (by omega)
      ok :=
        { gen := fun t => by simp [objL]
          var := fun t g hg hlv => by
            obtain ⟨cs, hlv⟩ := hlv
            rw [objL_one] at hlv
            by_cases ht : t = 0
            · rw [if_pos ht] at hlv; simp at hlv
            · rw [if_neg ht] at hlv; simp at hlv
          tok := fun t g el s hg hlv => by
            rw [objL_one] at hlv
            by_cases ht : t = 0
            · rw [if_pos ht] at hlv; simp at hlv
            · rw [if_neg ht] at hlv; simp at hlv
          arr := fun t g el sz ds foc hg hlv => by
            rw [objL_one] at hlv
            by_cases ht : t = 0
            · rw [if_pos ht] at hlv; simp at hlv
            · rw [if_neg ht] at hlv; simp at hlv
          map := fun t g es hg hlv => by
            rw [objL_one] at hlv
            by_cases ht : t = 0
            · rw [if_pos ht] at hlv
              simp at hlv
              simp [objL] at hg
              omega
            · rw [if_neg ht] at hlv; simp at hlv } }

/-- An object that is written where it lies. -/
theorem effpost_one {o o' : AObj} {Eo : Nat → Value} {w' : World} {b : Nat} {r : SV} {x : Value} (hg : Grp Z w [(0, o)] Eo) (hz : ∀ b o, Z b o → b < w.heap.size) (hb : o.blk (Eo 0) = some b) (hb' : o'.blk (Eo 0) = some b)
    (hk : Kept (fun k => k ≠ b) w w') (hne : ∀ c, ¬ Z b c) (hok : ObjOk Z w' (objL [(0, o')]) Eo (Eo 0) o') (hsk : ObjKeep (objL [(0, o)]) Eo (objL [(0, o')]) Eo) (hr : RepS Z w' (objL [(0, o')]) Eo r x) :
    EffPost Z w [(0, o)] Eo Z w' [(0, o')] Eo r x :=
  { res := hr
    grp := ⟨fun j => by
        rw [objL_one]
        by_cases hj : j = 0
        · rw [if_pos hj, hj]; exact hok
        · rw [if_neg hj]; trivial,
      fun j j' b hne h1 h2 => hne ((one_obj h1).1.trans (one_obj h2).1.symm)⟩
    keeps := fun c k h => ⟨h, keep_heap (hk.block c (fun e => hne k (e ▸ h)))⟩
    zlt := fun c k h => Nat.lt_of_lt_of_le (hz c k h) hk.size
    znew := fun _ _ h => .inl h
    kept := hk.mono fun k ⟨_, h⟩ e => h ⟨0, by rw [e]; exact hb⟩
    own := fun c ⟨j, hj⟩ => by
      obtain ⟨_, h⟩ := one_obj hj
      exact .inr ⟨0, by rw [hb'] at h; cases h; exact hb⟩
    ok := hsk }

theorem eff_mapUpdate {t kt et : TypeId} (ht : P.underlying t = some (.map kt et)) (hkt : P.underlying kt = some d) (hd : KeyOk d kc) {ev : β → CV} {m : List (α × β)} {x : α} {v : β} {a b c : Operand} {ty : TypeId} :
    EffOp P G (.mapUpdate t a b c) ty [.mr 0 0, .c (.v (kc x)), .c (ev v)] [(0, .map (mpE kc ev m))] .any [(0, .map (mpE kc ev (mset m x v)))] := by
  intro Z w Eo ac o next Q ho hty hg hzl hl hargs hgs hnext
  have h1 := hargs 0 (.mr 0 0) a rfl rfl
  have h2 := rep_cv (hargs 1 (.c (.v (kc x))) b rfl rfl)
  have h3 : Rep Z w (ev v) (ac.eval c) := by
    have := hargs 2 (.c (ev v)) c rfl rfl
    cases this with | c _ _ h => exact h
  obtain ⟨bl, arr, clock, hE, hh, hlen, hent, hnz⟩ := hg.ok 0
  have hav : ac.eval a = .map (some bl) := by
    generalize ac.eval a = y at h1
    cases h1 with
    | mr _ _ _ hs hgen hE' => exact (hE' _ rfl).symm.trans hE
  have hck : (Instr.checkKey false 10000 kt (kc x)).run P w = .ok () w := MapKept.run_checkKey hkt (hd.key x) false 9999
  have hblk : (objL [(0, AObj.map (mpE kc ev m))] 0).2.blk (Eo 0) = some bl := by rw [hE]; rfl
  have hkey : ∀ (i : Nat) (p : α × β) (e : MapEntry), m[i]? = some p → arr[i]? = some e → e.key = kc p.1 ∧ Rep Z w (ev p.2) e.val := fun i p e h4 h5 => by
    obtain ⟨q1, q2⟩ := hent i (.v (kc p.1)) (ev p.2) e (by simp [mpE, h4]) h5
    exact ⟨rep_v q1, q2⟩
  have hml : m.length = arr.size := by simpa [mpE] using hlen
  have hlt : bl < w.heap.size := (Array.getElem?_eq_some_iff.1 hh).1
  -- the world behind
  have fin : ∀ (arr' : Array MapEntry) (clock' : Nat), (Instr.mapUpdate t (.map (some bl)) (kc x) (ac.eval c)).run P w = .ok () { w with heap := w.heap.setIfInBounds bl (.map arr' clock') } →
      (mset m x v).length = arr'.size → (∀ (i : Nat) (p : α × β) (e : MapEntry), (mset m x v)[i]? = some p → arr'[i]? = some e → e.key = kc p.1 ∧ Rep Z w (ev p.2) e.val) → o.wp P ac w next Q := by
    intro arr' clock' hrun hl' he'
    obtain ⟨hset, hoth⟩ := MapKept.heap_set (o' := .map arr' clock') hh
    have hex : (execOp ac.eval o).run P w = .ok .skip { w with heap := w.heap.setIfInBounds bl (.map arr' clock') } := by
      obtain ⟨dst, op, type, pos, after, guard⟩ := o
      simp only at ho
      subst ho
      simp only [execOp, hav, h2, Sem.run_bind, hrun, Result.andThen_ok, Sem.run_pure]
    have hk : Kept (fun k => k ≠ bl) w { w with heap := w.heap.setIfInBounds bl (.map arr' clock') } := ⟨rfl, rfl, rfl, by simp, fun k hk => hoth k hk⟩
    have hkeep : Keeps Z w Z { w with heap := w.heap.setIfInBounds bl (.map arr' clock') } := fun c k h => ⟨h, keep_heap (hk.block c (fun e => hnz k (e ▸ h)))⟩
    refine wp_skip' hex (hnext _ Z _ Eo (effpost_one hg hzl hblk (by rw [hE]; rfl) hk hnz ?_ ?_ (.any _)))
    · refine ⟨bl, arr', clock', hE, hset, by simpa [mpE] using hl', fun i k u e h4 h5 => ?_, hnz⟩
      rw [List.getElem?_map] at h4
      cases hp : (mset m x v)[i]? with
      | none => rw [hp] at h4; simp at h4
      | some p =>
        rw [hp] at h4
        simp at h4
        obtain ⟨rfl, rfl⟩ := h4
        obtain ⟨q1, q2⟩ := he' i p e hp h5
        exact ⟨by rw [q1]; exact .v _, q2.keep hkeep⟩
    · exact
        { gen := fun t => by rw [objL_one, objL_one]; split <;> exact Nat.le_refl _
          var := fun t g _ hlv => by
            obtain ⟨cs, hlv⟩ := hlv
            rw [objL_one] at hlv
            by_cases ht : t = 0
            · rw [if_pos ht] at hlv; simp at hlv
            · rw [if_neg ht] at hlv; simp at hlv
          tok := fun t g el s hg hlv => by
            rw [objL_one] at hlv
            by_cases ht : t = 0
            · rw [if_pos ht] at hlv; simp at hlv
            · rw [if_neg ht] at hlv; simp at hlv
          arr := fun t g el sz ds foc hg hlv => by
            rw [objL_one] at hlv
            by_cases ht : t = 0
            · rw [if_pos ht] at hlv; simp at hlv
            · rw [if_neg ht] at hlv; simp at hlv
          map := fun t g es _ hlv => by
            rw [objL_one] at hlv ⊢
            by_cases ht : t = 0
            · rw [if_pos ht] at hlv ⊢
              simp at hlv
              obtain ⟨rfl, _⟩ := hlv
              exact ⟨⟨_, rfl⟩, rfl⟩
            · rw [if_neg ht] at hlv; simp at hlv }
  rcases find_spec hd x m arr.toList 0 (by simpa using hml) (fun i p e h4 h5 => (hkey i p e h4 (by simpa using h5)).1) with ⟨q1, q2, q3⟩ | ⟨i, p, e, q1, q2, q3, q4, q5, q6⟩
  · refine fin (arr.push { key := kc x, val := ac.eval c, born := clock }) (clock + 1) ?_ (by rw [q3]; simp [hml]) fun i p e h4 h5 => ?_
    · simp only [Instr.mapUpdate, Sem.run_bind, run_underlying ht, Result.andThen_ok, MapKept.run_getObj_map hh, hck, MapKept.run_findKey hkt q1, MapKept.run_setObj_map _ hh]
    · rw [q3] at h4
      rcases Nat.lt_or_ge i m.length with hi | hi
      · rw [List.getElem?_append_left hi] at h4
        rw [Array.getElem?_push, if_neg (by omega)] at h5
        exact hkey i p e h4 h5
      · rw [List.getElem?_append_right hi] at h4
        have hi0 : i = m.length := by
          have := (List.getElem?_eq_some_iff.1 h4).1
          simp at this
          omega
        subst hi0
        simp at h4
        subst h4
        rw [Array.getElem?_push, if_pos hml] at h5
        injection h5 with h5
        subst h5
        exact ⟨rfl, h3⟩
  · have hei : arr[i]? = some e := by simpa using q2
    have hkey0 := (hkey i p e q1 hei).1
    refine fin (arr.modify i fun e => { e with key := kc x, val := ac.eval c }) clock ?_ (by rw [q6]; simp [hml]) fun j p' e' h4 h5 => ?_
    · rw [Nat.zero_add] at q4
      simp only [Instr.mapUpdate, Sem.run_bind, run_underlying ht, Result.andThen_ok, MapKept.run_getObj_map hh, hck, MapKept.run_findKey hkt q4, hei, Option.map_some, Option.getD_some, Instr.keyThatStays, hkey0, hd.bits x p.1 q3, if_true, Sem.run_pure, MapKept.run_setObj_map _ hh]
    · rw [q6, List.getElem?_set] at h4
      rw [Array.getElem?_modify] at h5
      by_cases hij : i = j
      · subst hij
        rw [if_pos rfl] at h5
        rw [hei] at h5
        simp at h5
        subst h5
        have hil : i < m.length := (List.getElem?_eq_some_iff.1 q1).1
        simp [hil] at h4
        subst h4
        exact ⟨rfl, h3⟩
      · rw [if_neg hij] at h4
        rw [if_neg hij] at h5
        exact hkey j p' e' h4 h5
end
abbrev eInt (x : Int) : CV := I x
abbrev eBool (x : Bool) : CV := B x
abbrev eStr (x : Str) : CV := S x
end Go.Abs
