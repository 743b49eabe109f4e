/-
  The bytes of a string in a row of the call's own, which is written: []byte(s), b[i] = x, string(b).
-/
import Derived.Test.YtmdhahfminiilaaDoorAbsIns
import Derived.Test.YtmdhahfminiilaaDoorAbsNest
import Derived.Laws.IdiomStrings
namespace Go.Abs
open Go Go.RowKit
def BytOk (e : TypeId) (s : Str) (w : World) (v : Value) : Prop :=
  ∃ g cap cur fz, v = .slice (some ⟨g, 0, none⟩) s.length cap ∧ w.heap[g]? = some (.cells cur e fz) ∧ s.length ≤ cap ∧ s.length ≤ cur.size ∧ cur.size ≤ fz.1 ∧ ∀ (k : Nat) (c : UInt8), s[k]? = some c → cur[k]? = some (.int .u8 (c.toNat : Int))
def bytK (e : TypeId) (s : Str) : ExtK where
  ok _ w _ e' := ∃ v, e' = .tuple (v :: []).toArray ∧ BytOk e s w v
  blk e' b := ∃ v, e' = .tuple (v :: []).toArray ∧ v.ownBlock = some b
  cl := none
  keep := by
    rintro Z Z' w w' us e' ⟨v, rfl, g, cap, cur, fz, rfl, h1, h2⟩ hk hb
    exact ⟨_, rfl, g, cap, cur, fz, rfl, (hb g ⟨_, rfl, rfl⟩).trans h1, h2⟩
  cell := by
    rintro Z w us e' b ⟨v, rfl, g, cap, cur, fz, rfl, h1, _⟩ ⟨v', he, hb⟩
    obtain ⟨rfl, _⟩ := tup_inj he
    simp [Value.ownBlock] at hb
    subst hb
    exact ⟨_, _, _, h1⟩
  clat := fun h => nomatch h
  close := fun h => nomatch h
section
variable {P : Program} {G : World → Prop} {Z : Zone} {w : World} {e : TypeId} {s : Str}
theorem grp_byt {Eo : Nat → Value} (hg : Grp Z w [(0, .ext (bytK e s) [])] Eo) :
    ∃ g cap cur fz, Eo 0 = .tuple (Value.slice (some ⟨g, 0, none⟩) s.length cap :: []).toArray ∧ w.heap[g]? = some (.cells cur e fz) ∧ s.length ≤ cap ∧ s.length ≤ cur.size ∧ cur.size ≤ fz.1 ∧ (∀ (k : Nat) (c : UInt8), s[k]? = some c → cur[k]? = some (.int .u8 (c.toNat : Int))) ∧ (∀ o, ¬ Z g o) := by
  obtain ⟨us, _, _, ⟨v, h3, g, cap, cur, fz, rfl, h4⟩, h5⟩ := hg.ok 0
  exact ⟨g, cap, cur, fz, h3, h4.1, h4.2.1, h4.2.2.1, h4.2.2.2.1, h4.2.2.2.2, fun o' => h5 g o' ⟨_, h3, rfl⟩⟩
theorem byt_ok {obj : Objs} {Eo : Nat → Value} {v : Value} (h : BytOk e s w v) (hz : ∀ c o, v.ownBlock = some c → ¬ Z c o) : ObjOk Z w obj Eo (.tuple (v :: []).toArray) (.ext (bytK e s) []) :=
  ⟨[], rfl, fun j c hj => by simp at hj, ⟨v, rfl, h⟩, fun b o ⟨v', he, hb⟩ => by obtain ⟨rfl, _⟩ := tup_inj he; exact hz b o hb⟩
theorem byt_blk {v : Value} {b : Nat} (h : (AObj.ext (bytK e s) []).blk (.tuple (v :: []).toArray) b) : v.ownBlock = some b := by
  obtain ⟨v', he, hb⟩ := h
  obtain ⟨rfl, _⟩ := tup_inj he
  exact hb
theorem byt_dec {α : Type} {l : List α} {n : Int} {r : α} (h : ix l n = some r) : 0 ≤ n ∧ n < (l.length : Int) := by
  have h1 := ix_nn h
  have h2 := (List.getElem?_eq_some_iff.1 (ix_get h)).1
  omega
theorem eff_bylen {t e' : TypeId} (ht : P.underlying t = some (.slice e')) {x : Operand} {ty : TypeId} :
    EffOp P G (.call ⟨.builtin .len, ⟨[x]⟩, ⟨[t]⟩⟩) ty [.xr 0 0] [(0, .ext (bytK e s) [])] (.c (.v (.int .i64 (s.length : Int)))) [(0, .ext (bytK e s) [])] := by
  intro Z w Eo ac o next Q ho hty hg hzl hl hargs hgs hnext
  obtain ⟨g, cap, cur, fz, hE, _⟩ := grp_byt hg
  have hx := xr_face (hargs 0 (.xr 0 0) x rfl rfl) rfl hE
  have hex : (execOp ac.eval o).run P w = .ok (.value (.int .i64 (s.length : Int))) w := by
    obtain ⟨dst, op, type, pos, after, guard⟩ := o
    simp only at ho
    subst ho
    rw [exec_builtin]
    simp [builtin, Builtin.len_, run_underlying ht, hx, goInt]
  exact wp_value hex (hnext _ Z w Eo (effpost_same hg hzl (.c _ _ (.v _))))
theorem eff_byidx {t : TypeId} {i : TI} (ht : P.underlying t = some (.slice e)) (hi : TOk1 P e i) (h1 : i.size = 1) {n : Int} {c : UInt8} (h : ix s n = some c) {x y : Operand} {ty : TypeId} {k : IntKind} :
    EffOp P G (.indexAddr t x y) ty [.xr 0 0, .c (.v (.int k n))] [(0, .ext (bytK e s) [])] (.xf 0 0 (cellOf n.toNat)) [(0, .ext (bytK e s) [])] := by
  intro Z w Eo ac o next Q ho hty hg hzl hl hargs hgs hnext
  have hn := byt_dec h
  obtain ⟨g, cap, cur, fz, hE, _⟩ := grp_byt hg
  have hx := xr_face (hargs 0 (.xr 0 0) x rfl rfl) rfl hE
  have hy := rep_cv (hargs 1 (.c (.v (.int k n))) y rfl rfl)
  have hex : (execOp ac.eval o).run P w = .ok (.value (.pointer (some ⟨g, 0 + n.toNat, none⟩))) w := by
    obtain ⟨dst, op, type, pos, after, guard⟩ := o
    simp only at ho
    subst ho
    simp only [execOp, hx, hy, Instr.indexAt, asIntOf, Sem.run_bind, Sem.run_pure, Result.andThen_ok, run_underlying ht, hi.sizeOf w, h1, if_pos hn, Addr.add_lit, Nat.mul_one]
  refine wp_value hex (hnext _ Z w Eo (effpost_same hg hzl (.xf 0 0 _ _ (Nat.le_refl _) fun K cs ho => ?_)))
  rw [hE]
  rfl
theorem eff_byload {t : TypeId} {i : TI} (hi : TOk1 P t i) (hagg : i.isAgg = false) {n : Int} {c : UInt8} (h : ix s n = some c) {x : Operand} {ty : TypeId} :
    EffOp P G (.load t x) ty [.xf 0 0 (cellOf n.toNat)] [(0, .ext (bytK e s) [])] (.c (.v (.int .u8 (c.toNat : Int)))) [(0, .ext (bytK e s) [])] := by
  intro Z w Eo ac o next Q ho hty hg hzl hl hargs hgs hnext
  obtain ⟨g, cap, cur, fz, hE, hh, _, _, _, hcell, _⟩ := grp_byt hg
  have hx := xf_face (hargs 0 (.xf 0 0 (cellOf n.toNat)) x rfl rfl) rfl hE
  have hu := hcell n.toNat c (ix_get h)
  obtain ⟨y, hrun, hy⟩ := run_part (Z := Z) (P := P) (w := w) hi (cs := [.v (.int .u8 (c.toNat : Int))]) (b := g) (o := 0 + n.toNat) (off := 0) (f := fun _ => .int .u8 (c.toNat : Int)) (c := .v (.int .u8 (c.toNat : Int))) (fun j c' hj => by
    match j, hj with
    | 0, hj => simp at hj; subst hj; exact ⟨by rw [Nat.add_zero, cell_of_row w g (0 + n.toNat) cur e fz hh, Nat.zero_add, hu], rfl, .v _⟩
    | j + 1, hj => simp at hj) (by simp [part, hagg])
  have hex : (execOp ac.eval o).run P w = .ok (.value y) w := by
    obtain ⟨dst, op, type, pos, after, guard⟩ := o
    simp only at ho
    subst ho
    simp only [execOp, hx, cellOf, Sem.run_bind]
    rw [Nat.add_zero] at hrun
    rw [hrun]
    rfl
  exact wp_value hex (hnext _ Z w Eo (effpost_same hg hzl (.c _ _ hy)))
theorem eff_bynew {st t : TypeId} (hs : P.underlying st = some .string) (ht : P.underlying t = some (.slice e)) (he : P.underlying e = some (.int .u8)) {l : Str} {x : Operand} {ty : TypeId} :
    EffOp P G (.convert st t x) ty [.c (.v (.string ⟨⟨l⟩⟩))] [] (.xr 0 1) [(1, .ext (bytK e l) [])] := by
  intro Z w Eo ac o next Q ho hty hg hzl hl hargs hgs hnext
  have hx := rep_v (rep_sc (hargs 0 (.c (.v (.string ⟨⟨l⟩⟩))) x rfl rfl))
  have hrun := Lib.run_convert_string_bytes (P := P) w st t e ⟨⟨l⟩⟩ hs ht he
  have hex : (execOp ac.eval o).run P w = .ok (.value (.slice (some ⟨w.heap.size, 0, none⟩) (ByteArray.mk ⟨l⟩).size (grownCap w (ByteArray.mk ⟨l⟩).size 0 e))) (Lib.bytesWorld w e ⟨⟨l⟩⟩) := by
    obtain ⟨dst, op, type, pos, after, guard⟩ := o
    simp only at ho
    subst ho
    simp only [execOp, hx, Sem.run_bind, hrun, Result.andThen_ok, Sem.run_pure]
  have hb := Lib.bytesWorld_below w e ⟨⟨l⟩⟩
  have hsz : (ByteArray.mk ⟨l⟩).size = l.length := by simp [ByteArray.size]
  rw [hsz] at hex
  have hcap := grownCap_ge w l.length 0 e
  have hcs : (Lib.bytesCells w e ⟨⟨l⟩⟩).size = l.length + (grownCap w l.length 0 e - l.length) := by
    simp [Lib.bytesCells, ByteArray.size]
  have hok : BytOk e l (Lib.bytesWorld w e ⟨⟨l⟩⟩) (.slice (some ⟨w.heap.size, 0, none⟩) l.length (grownCap w l.length 0 e)) := by
    refine ⟨w.heap.size, _, _, _, rfl, Lib.bytesWorld_at_new w e ⟨⟨l⟩⟩, hcap, by omega, Nat.le_refl _, fun k c hk => ?_⟩
    have hkl := (List.getElem?_eq_some_iff.1 hk).1
    have h1 := Lib.bytesWorld_cell w e ⟨⟨l⟩⟩ k (by rw [hsz]; exact hkl)
    rw [cell_of_row _ _ _ _ _ _ (Lib.bytesWorld_at_new w e ⟨⟨l⟩⟩)] at h1
    rw [h1]
    simp only [List.getD_eq_getElem?_getD, hk, Option.getD_some]
  have hkeep : Keeps Z w Z (Lib.bytesWorld w e ⟨⟨l⟩⟩) := fun b o' hz => ⟨hz, keep_heap (hb.block b (hzl b o' hz))⟩
  refine wp_value hex (hnext _ Z _ (fun _ => .tuple (Value.slice (some ⟨w.heap.size, 0, none⟩) l.length (grownCap w l.length 0 e) :: []).toArray) (effpost_new (.inl rfl) hzl hkeep hb.size (.of_below hb fun k hk => hk.1) ?_ (fun b hb' => ?_) (.xr 0 1 _ rfl (Nat.le_refl _) fun _ _ _ => rfl)))
  · exact byt_ok hok fun c o' hc hz => by
      simp [Value.ownBlock] at hc
      have := hzl c o' hz
      omega
  · have := byt_blk hb'
    simp [Value.ownBlock] at this
    exact .inl (by omega)
theorem eff_byput {t : TypeId} {i : TI} (hi : TOk1 P t i) (h1s : i.size = 1) {n : Int} {c : UInt8} (h : ix s n = some c) {m : Int} (hm : decide (0 ≤ m ∧ m ≤ 255) = true) {x y : Operand} {ty : TypeId} :
    EffOp P G (.store t x y) ty [.xf 0 0 (cellOf n.toNat), .c (.v (.int .u8 m))] [(0, .ext (bytK e s) [])] .any [(0, .ext (bytK e (s.set n.toNat (UInt8.ofNat m.toNat))) [])] := by
  intro Z w Eo ac o next Q ho hty hg hzl hl hargs hgs hnext
  have hm := of_decide_eq_true hm
  obtain ⟨g, cap, cur, fz, hE, hh, hlc, hlen, hfz, hcell, hnz⟩ := grp_byt hg
  have hx := xf_face (hargs 0 (.xf 0 0 (cellOf n.toNat)) x rfl rfl) rfl hE
  have hy := rep_cv (hargs 1 (.c (.v (.int .u8 m))) y rfl rfl)
  have hnl : n.toNat < s.length := (List.getElem?_eq_some_iff.1 (ix_get h)).1
  have hnc : n.toNat < cur.size := by omega
  have hc? : w.cell? ⟨g, n.toNat, none⟩ = some cur[n.toNat] := by simp [World.cell?, hh, hnc]
  have hfro : w.frozen? ⟨g, n.toNat, none⟩ = false := by
    obtain ⟨lo, hi'⟩ := fz
    simp only [World.frozen?, hh, Bool.and_eq_false_iff, decide_eq_false_iff_not]
    exact .inl (by omega)
  have hst : (store ⟨g, n.toNat, none⟩ (.int .u8 m)).run P w = .ok () (w.setRow g (cur.setIfInBounds n.toNat (.int .u8 m))) := by
    rw [run_store P w _ _ _ rfl, hc?]
    simp [hfro, setCell_eq_setRow w g n.toNat cur e fz _ hh]
  have hex : (execOp ac.eval o).run P w = .ok .skip (w.setRow g (cur.setIfInBounds n.toNat (.int .u8 m))) := by
    obtain ⟨dst, op, type, pos, after, guard⟩ := o
    simp only at ho
    subst ho
    have ha : ((⟨g, n.toNat, none⟩ : Addr).add 0) = ⟨g, n.toNat, none⟩ := by simp [Addr.add]
    have hvc : (Value.int .u8 m).cells = #[.int .u8 m] := rfl
    simp only [execOp, hx, hy, cellOf, Nat.zero_add, Instr.storeAt, Instr.sureAddr, storeVar, Sem.run_bind, Sem.run_pure, Result.andThen_ok, hi.sizeOf w, hvc]
    rw [if_neg (by rw [h1s]; simp)]
    simp [storeCells, ha, hst]
  have hbl : (AObj.ext (bytK e s) []).blk (Eo 0) g := ⟨_, hE, rfl⟩
  have hother : ∀ k, k ≠ g → (w.setRow g (cur.setIfInBounds n.toNat (.int .u8 m))).heap[k]? = w.heap[k]? := fun k hk => setRow_other w g k _ hk
  refine wp_skip' hex (hnext _ Z _ Eo (effpost_one hg hzl hbl (fun c' hc => ?_) ⟨rfl, rfl, rfl, by simp [World.setRow], fun k hk => hother k hk, fun k hk => setRow_dfr w g k _ hk⟩ hnz ?_ ?_ (.any _)))
  · rw [hE] at hc
    have := byt_blk hc
    simp [Value.ownBlock] at this
    exact this.symm
  · rw [hE]
    refine byt_ok ⟨g, cap, _, fz, by rw [List.length_set], setRow_heap w g cur _ e fz hh, by rw [List.length_set]; exact hlc, by rw [List.length_set]; simpa using hlen, by simpa using hfz, fun k c' hk => ?_⟩ fun c' o' hc hz => by
      simp [Value.ownBlock] at hc
      subst hc
      exact hnz o' hz
    rw [List.getElem?_set] at hk
    rw [Array.getElem?_setIfInBounds]
    by_cases hkn : n.toNat = k
    · subst hkn
      rw [if_pos rfl, if_pos hnl] at hk
      obtain rfl := Option.some.inj hk
      rw [if_pos rfl, if_pos hnc]
      have : (UInt8.ofNat m.toNat).toNat = m.toNat := by simp; omega
      rw [this]
      congr 2
      omega
    · rw [if_neg hkn] at hk ⊢
      exact hcell k c' hk
  · refine okeep fun t => ?_
    rw [objL_one, objL_one]
    by_cases ht : t = 0
    · rw [if_pos ht, if_pos ht]; exact ⟨Nat.le_refl _, .inr (.inr (.inr (.inr ⟨rfl, _, _, _, _, rfl, rfl⟩)))⟩
    · rw [if_neg ht, if_neg ht]; exact ⟨Nat.le_refl _, .inr (.inl rfl)⟩
theorem eff_bystr {st t : TypeId} (hs : P.underlying st = some .string) (ht : P.underlying t = some (.slice e)) (he : P.underlying e = some (.int .u8)) {x : Operand} {ty : TypeId} :
    EffOp P G (.convert t st x) ty [.xr 0 0] [(0, .ext (bytK e s) [])] (.c (.v (.string ⟨⟨s⟩⟩))) [(0, .ext (bytK e s) [])] := by
  intro Z w Eo ac o next Q ho hty hg hzl hl hargs hgs hnext
  obtain ⟨g, cap, cur, fz, hE, hh, _, hlen, _, hcell, _⟩ := grp_byt hg
  have hx := xr_face (hargs 0 (.xr 0 0) x rfl rfl) rfl hE
  have hrun := run_convert_bytes_back (P := P) w t st e ⟨g, 0, none⟩ cap s ht he hs (fun j hj => by
    rw [Addr.add_lit, Nat.zero_add, cell_of_row w g j cur e fz hh]
    exact hcell j _ (List.getElem?_eq_getElem hj))
  have hex : (execOp ac.eval o).run P w = .ok (.value (.string ⟨⟨s⟩⟩)) w := by
    obtain ⟨dst, op, type, pos, after, guard⟩ := o
    simp only at ho
    subst ho
    simp only [execOp, hx, Sem.run_bind, hrun, Result.andThen_ok, Sem.run_pure]
  exact wp_value hex (hnext _ Z w Eo (effpost_same hg hzl (.c _ _ (.v _))))
end
end Go.Abs
