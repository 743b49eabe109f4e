/-
  More operations on slices of the call's own: the first elements; what lies behind is cleared; Compact; a closure over a variable that is written no more; Grow of nothing.
-/
import Derived.Test.YtdoldlbcjcfmdaaGreatAbsSub
import Derived.Shelf.Slices.CompactI
namespace Go.Abs
open Go Go.RowKit
section
variable {P : Program} {G : World → Prop}
theorem slice_op1 {t : TypeId} {x b : Operand} : (Op.slice t x none (some b) none).operands[1]? = some b := by simp [Op.operands]
theorem slice_op0h {t : TypeId} {x b : Operand} : (Op.slice t x none (some b) none).operands[0]? = some x := by simp [Op.operands]
theorem eff_take {α : Type} {t e : TypeId} {i : TI} (ht : P.underlying t = some (.slice e)) (hi : TOk1 P e i) {cf : α → List CV} {l : List α} {n : Int} (hn : decide (0 ≤ n ∧ n ≤ (l.length : Int)) = true) {x b : Operand} {ty : TypeId} {k : IntKind} :
    EffOp P G (.slice t x none (some b) none) ty [.rs 0 0, .c (.v (.int k n))] [(0, .arr e i.size (l.map cf) none)] (.rs 0 1) [(1, .arr e i.size ((l.take n.toNat).map cf) none)] := by
  intro Z w Eo ac o next Q ho hty hg hzl hl hargs hgs hnext
  have hn := of_decide_eq_true hn
  have hx := hargs 0 (.rs 0 0) x rfl slice_op0h
  have hlo := rep_cv (hargs 1 (.c (.v (.int k n))) b rfl slice_op1)
  obtain ⟨xs, hszp, hown, hfoc, hlens, hcells, hnz⟩ := hg.ok 0
  have hE : Eo 0 = ac.eval x := by
    generalize ac.eval x = v at hx
    cases hx with | rs _ _ _ hs _ hp => exact hp _ _ _ _ rfl
  obtain ⟨p, rfl⟩ : ∃ p : Nat, n = p := ⟨n.toNat, by omega⟩
  obtain ⟨hxl, hown⟩ := hown
  simp only [List.length_map] at hxl hown
  have hpl : p ≤ l.length := by omega
  have key : ∃ cap, ac.eval x = .slice ((ac.eval x).ownBlock.map fun b => ⟨b, 0, none⟩) l.length cap ∧ l.length ≤ cap ∧ (ac.eval x).ownBlock = (Eo 0).ownBlock := by
    rcases hown with ⟨hv, hn0⟩ | ⟨g, cap, cur, hv, _, hh, hcap, hmax, hcs, htake⟩
    · exact ⟨0, by rw [← hE, hv, hn0]; rfl, by omega, by rw [hE]⟩
    · exact ⟨cap, by rw [← hE, hv]; rfl, hcap, by rw [hE]⟩
  obtain ⟨cap, hvx, hcap, hob⟩ := key
  have hrun : (Instr.sliceAt t (ac.eval x) none ((some b).map ac.eval) none).run P w = .ok (.slice ((ac.eval x).ownBlock.map fun b => ⟨b, 0, none⟩) p cap) w := by
    generalize hob' : (ac.eval x).ownBlock = ob at hvx
    rw [hvx]
    simp only [Instr.sliceAt, Sem.run_bind, run_underlying ht, Result.andThen_ok, Instr.slice, Option.map_some, hlo, run_sliceBounds (P := P) true (len := l.length) (cap := cap) (l := 0) (h := p) hcap (Nat.zero_le _) hpl (lo := none) (hi := some (.int k (p : Int))) (.inl ⟨rfl, rfl⟩) (.inr ⟨k, rfl⟩), hi.sizeOf, Sem.run_pure]
    cases ob <;> simp [Addr.add]
  have hex : (execOp ac.eval o).run P w = .ok (.value (.slice ((ac.eval x).ownBlock.map fun b => ⟨b, 0, none⟩) p cap)) w := by
    obtain ⟨dst, op, type, pos, after, guard⟩ := o
    simp only at ho
    subst ho
    simp only [execOp, Option.map_none, Sem.run_bind, hrun, Result.andThen_ok, Sem.run_pure]
  have hob2 : (Value.slice ((ac.eval x).ownBlock.map fun b => ⟨b, 0, none⟩) p cap).ownBlock = (Eo 0).ownBlock := by
    rw [hob]
    cases (Eo 0).ownBlock <;> rfl
  refine wp_value hex (hnext _ Z w (fun _ => .slice ((ac.eval x).ownBlock.map fun b => ⟨b, 0, none⟩) p cap) (effpost_new (.inr ⟨_, rfl⟩) hzl (Keeps.refl _ _) (Nat.le_refl _) (Kept.refl _ _) ?_ (fun c hc => ?_) (.rs 0 1 _ ⟨_, _, _, rfl⟩ (Nat.le_refl _) fun _ _ _ _ _ => rfl)))
  · refine ⟨xs.take (p * i.size), hszp, ?_, And.intro (fun _ _ h => nomatch h) (fun j d hd _ => ?_), fun j d hj hd => ?_, fun j d hj hd m c hm => ?_, fun c o hc => hnz c o (by rw [← hob2]; exact hc)⟩
    · refine ⟨by rw [List.length_map, List.length_take, List.length_take, hxl, Int.toNat_natCast, Nat.min_eq_left hpl, Nat.min_eq_left (Nat.mul_le_mul_right _ hpl)], ?_⟩
      simp only [List.length_map, List.length_take, Int.toNat_natCast, Nat.min_eq_left hpl]
      rcases hown with ⟨hv, hn0⟩ | ⟨g, cap', cur, hv, hbg, hh, hcap', hmax, hcs, htake⟩
      · have hp0 : p = 0 := by omega
        left
        have : ac.eval x = .slice none 0 0 := by rw [← hE, hv]
        rw [this] at hvx ⊢
        simp [Value.ownBlock] at hvx ⊢
        exact ⟨⟨hp0, hvx.2.symm⟩, hp0⟩
      · right
        have : ac.eval x = .slice (some ⟨g, 0, none⟩) l.length cap' := by rw [← hE, hv]
        rw [this] at hvx ⊢
        simp [Value.ownBlock] at hvx
        refine ⟨g, cap', cur, ?_, hbg, hh, by omega, hmax, hcs, ?_⟩
        · rw [hvx]; rfl
        · rw [← htake, List.take_take, Nat.min_eq_left (Nat.mul_le_mul_right _ hpl)]
    · replace hd : ((l.take (p : Int).toNat).map cf)[j]? = some d := hd
      rw [List.getElem?_map, List.getElem?_take] at hd
      split at hd
      · rw [← List.getElem?_map] at hd
        exact hfoc.2 j d hd (fun _ _ h => nomatch h)
      · simp at hd
    · replace hd : ((l.take (p : Int).toNat).map cf)[j]? = some d := hd
      rw [List.getElem?_map, List.getElem?_take] at hd
      split at hd
      · rw [← List.getElem?_map] at hd
        exact hlens j d (List.getElem?_eq_some_iff.1 hd).1 hd
      · simp at hd
    · have hjp : j < p := by simpa [List.length_take, Nat.min_eq_left hpl] using hj
      replace hd : ((l.take (p : Int).toNat).map cf)[j]? = some d := hd
      rw [List.getElem?_map, List.getElem?_take, Int.toNat_natCast, if_pos hjp, ← List.getElem?_map] at hd
      have hjl := (List.getElem?_eq_some_iff.1 hd).1
      obtain ⟨a1, u, a2, a3⟩ := hcells j d hjl hd m c hm
      have hms : m < i.size := by rw [← hlens j d hjl hd]; exact (List.getElem?_eq_some_iff.1 hm).1
      refine ⟨a1, u, ?_, .cl (a3.closed (noRs_get (hfoc.2 j d hd (fun _ _ h => nomatch h)) hm))⟩
      rw [List.getElem?_take, if_pos]
      · exact a2
      · calc j * i.size + m < j * i.size + i.size := by omega
          _ = (j + 1) * i.size := by rw [Nat.succ_mul]
          _ ≤ p * i.size := Nat.mul_le_mul_right _ hjp
  · rw [arr_blk, hob2] at hc
    exact .inr ⟨0, by rw [← arr_blk (Eo 0) e i.size (l.map cf) none] at hc; exact hc⟩
/-- What lies behind the first p elements is cleared. -/
def wipe {α : Type} (l : List α) (p : Nat) (z : α) : List α := l.take p ++ List.replicate (l.length - p) z
theorem wipe_len {α : Type} {l : List α} {p : Nat} {z : α} (hp : p ≤ l.length) : (wipe l p z).length = l.length := by
  unfold wipe
  simp only [List.length_append, List.length_take, List.length_replicate]
  omega
theorem wipe_get {α : Type} {l : List α} {p : Nat} {z : α} (hp : p ≤ l.length) (j : Nat) : (wipe l p z)[j]? = if j < p then l[j]? else if j < l.length then some z else none := by
  unfold wipe
  by_cases h1 : j < p
  · rw [if_pos h1, List.getElem?_append_left (by rw [List.length_take]; omega), List.getElem?_take, if_pos h1]
  · rw [if_neg h1, List.getElem?_append_right (by rw [List.length_take]; omega), List.length_take, Nat.min_eq_left (by omega), List.getElem?_replicate]
    by_cases h2 : j < l.length
    · rw [if_pos h2, if_pos (by omega)]
    · rw [if_neg h2, if_neg (by omega)]
theorem zeroCells_one (v : Value) (n : Nat) : (Builtin.zeroCells #[v] n).toList = List.replicate n v := by
  apply List.ext_getElem?
  intro j
  simp only [Builtin.zeroCells, Array.toList_map, Array.toList_range, List.getElem?_map, List.getElem?_replicate, List.size_toArray, List.length_cons, List.length_nil, Nat.zero_add, Nat.mul_one, Nat.mod_one]
  by_cases hj : j < n
  · rw [List.getElem?_range hj, if_pos hj]; rfl
  · rw [List.getElem?_eq_none (by simpa using hj), if_neg hj]; rfl
theorem eff_clear {α : Type} {t e : TypeId} {i : TI} (ht : P.underlying t = some (.slice e)) (hi : TOk1 P e i) (_h1s : i.size = 1) (hiz : i.zero = [.int .i64 0]) (hag : i.isAgg = false) {cf : α → List CV} {l : List α} (hcf : ∀ x, (cf x).length = 1) {p : Nat} {z : α} (hcz : cf z = [.v (.int .i64 0)]) {x : Operand} {ty : TypeId} :
    EffOp P G (.call ⟨.builtin .clear, ⟨[x]⟩, ⟨[t]⟩⟩) ty [.ss 0 0 p] [(0, .arr e 1 (l.map cf) none)] (.c (.tup [])) [(0, .arr e 1 ((wipe l p z).map cf) none)] := by
  intro Z w Eo ac o next Q ho hty hg hzl hl hargs hgs hnext
  have hx := hargs 0 (.ss 0 0 p) x rfl rfl
  obtain ⟨xs, hszp, hown, hfoc, hlens, hcells, hnz⟩ := hg.ok 0
  have hX : ∃ b l' k o', Eo 0 = .slice (some ⟨b, 0, none⟩) l' k ∧ ac.eval x = .slice (some ⟨b, o', none⟩) (l' - p) (k - p) ∧ (p < l' → o' = p * 1) ∧ o' ≤ k * 1 ∧ p ≤ l' := by
    generalize ac.eval x = v at hx
    cases hx with | ss _ _ _ _ _ hp => exact hp _ _ _ _ rfl
  obtain ⟨b, L, K, o1, hE, hvx, ho1, hk1, hpL⟩ := hX
  obtain ⟨hxl, hown⟩ := hown
  simp only [List.length_map, Nat.mul_one] at hxl hown
  rcases hown with ⟨hv, _⟩ | ⟨g, cap, cur, hv, _, hh, hcap, hmax, hcs, htake⟩
  · rw [hE] at hv; cases hv
  · rw [hE] at hv
    obtain ⟨rfl, rfl, rfl⟩ : b = g ∧ L = l.length ∧ K = cap := by
      injection hv with e1 e2 e3
      injection e1 with e1
      injection e1 with e1
      exact ⟨e1, e2, e3⟩
    rw [Nat.mul_one] at ho1 hk1
    have hcx : ∀ j, j < l.length → cur[j]? = xs[j]? := fun j hj => by
      rw [← htake, List.getElem?_take, if_pos hj, Array.getElem?_toList]
    have hzv : zeroVal i = .int .i64 0 := by simp [zeroVal, hag, hiz]
    obtain ⟨jj, hj, hjs, hjb, hjz⟩ := hi.infoE
    have hzval : (zeroValue e).run P w = .ok (.int .i64 0) w := by simp [zeroValue, typeInfo, hj, hjz, hzv]
    have hcur : cur.toList.length = K := by simpa using hcs
    have hrun : ∃ cw : List Value, (Builtin.clear_ #[t] ty #[ac.eval x]).run P w = .ok (.tuple #[]) (w.setRow b cw.toArray) ∧ cw.length = K ∧ cw.take l.length = wipe xs p (.int .i64 0) := by
      rcases Nat.eq_or_lt_of_le hpL with hpe | hpl
      · refine ⟨cur.toList, ?_, hcur, ?_⟩
        · rw [hvx, show l.length - p = 0 by omega]
          have hself := setRow_self w b cur e (0, 0) hh
          simp [Builtin.clear_, run_underlying ht, hself]
        · apply List.ext_getElem?
          intro j
          rw [wipe_get (by omega), List.getElem?_take, Array.getElem?_toList]
          by_cases hj : j < l.length
          · rw [if_pos hj, if_pos (by omega), hcx j hj]
          · rw [if_neg hj, if_neg (by omega), if_neg (by omega)]
      · obtain ⟨m, hm⟩ : ∃ m, l.length - p = m + 1 := ⟨l.length - p - 1, by omega⟩
        have hop := ho1 hpl
        subst hop
        have hzc : (Value.int .i64 0).cells = #[.int .i64 0] := rfl
        have hst := run_storeCells_at P b o1 e (List.replicate (m + 1) (Value.int .i64 0)) 0 cur w hh (by rw [List.length_replicate]; omega) (fun v hv => by rw [List.eq_of_mem_replicate hv]; rfl)
        refine ⟨cur.toList.take o1 ++ List.replicate (m + 1) (Value.int .i64 0) ++ cur.toList.drop (o1 + (m + 1)), ?_, ?_, ?_⟩
        · rw [hvx, hm]
          simp only [Nat.add_zero, List.length_replicate] at hst
          simp [Builtin.clear_, run_underlying ht, hzval, hzc, zeroCells_one, hst]
        · simp only [List.length_append, List.length_take, List.length_replicate, List.length_drop, hcur]; omega
        · apply List.ext_getElem?
          intro j
          rw [wipe_get (by omega), List.getElem?_take]
          by_cases hj : j < l.length
          · rw [if_pos hj]
            by_cases h1 : j < o1
            · rw [if_pos h1, List.append_assoc, List.getElem?_append_left (by rw [List.length_take]; omega), List.getElem?_take, if_pos h1, Array.getElem?_toList, hcx j hj]
            · rw [if_neg h1, if_pos (by omega), List.append_assoc, List.getElem?_append_right (by rw [List.length_take]; omega), List.length_take, Nat.min_eq_left (by omega), List.getElem?_append_left (by rw [List.length_replicate]; omega), List.getElem?_replicate, if_pos (by omega)]
          · rw [if_neg hj, if_neg (by omega), if_neg (by omega)]
    obtain ⟨cw, hrun, hcwl, hcwt⟩ := hrun
    have hex : (execOp ac.eval o).run P w = .ok (.value (.tuple #[])) (w.setRow b cw.toArray) := by
      obtain ⟨dst, op, type, pos, after, guard⟩ := o
      simp only at ho hty
      subst ho; subst hty
      rw [exec_builtin]
      simp only [builtin, Sem.run_bind, List.map_toArray, List.map_cons, List.map_nil, hrun]
      rfl
    have hrow : (w.setRow b cw.toArray).heap[b]? = some (.cells cw.toArray e (0, 0)) := by rw [setRow_heap w b cur cw.toArray e (0, 0) hh]
    have hother : ∀ k, k ≠ b → (w.setRow b cw.toArray).heap[k]? = w.heap[k]? := fun k hk => setRow_other w b k cw.toArray hk
    have hks : Kept (fun k => k < w.heap.size ∧ k ≠ b) w (w.setRow b cw.toArray) :=
      ⟨rfl, rfl, rfl, by simp, fun k hk => hother k hk.2, fun k hk => (hother k (fun e => by rw [e, hh] at hk; exact nomatch hk)).trans hk⟩
    have hblk : AObj.blk (.arr e 1 (l.map cf) none) (Eo 0) b := by rw [hE]
    have hkeep : Keeps Z w Z (w.setRow b cw.toArray) := fun c k h => ⟨h, keep_heap (hother c fun e => hnz b k (by rw [hE]; rfl) (e ▸ h))⟩
    refine wp_value hex (hnext _ Z _ Eo (effpost_at hg hzl hblk (fun c h => by rw [hE] at h; cases h; rfl) hks (fun c => hnz b c (by rw [hE]; rfl)) ?_ arr_keep (.c _ _ (.tup [] [] rfl fun i c x h => by simp at h))))
    refine arr_ok (sz := 1) (xs := wipe xs p (.int .i64 0)) hcf Nat.one_pos ?_ (fun j' m a c ha hc => ?_) hnz
    · rw [hE]
      refine ⟨by rw [wipe_len (by omega), wipe_len hpL]; omega, .inr ⟨b, K, cw.toArray, by rw [wipe_len hpL], Nat.zero_le _, hrow, by rw [wipe_len hpL]; exact hcap, hmax, by simpa using hcwl, ?_⟩⟩
      rw [wipe_len hpL, Nat.mul_one]
      exact hcwt
    · have hm : m = 0 := by
        have := (List.getElem?_eq_some_iff.1 hc).1
        rw [hcf] at this; omega
      subst hm
      rw [wipe_get hpL] at ha
      simp only [Nat.mul_one, Nat.add_zero]
      rw [wipe_get (by omega)]
      split at ha
      · rename_i h1
        rw [if_pos h1]
        have hd : (l.map cf)[j']? = some (cf a) := by rw [List.getElem?_map, ha]; rfl
        obtain ⟨a1, u, a2, a3⟩ := hcells j' _ (by simpa using (List.getElem?_eq_some_iff.1 ha).1) hd 0 c hc
        simp only [Nat.mul_one, Nat.add_zero] at a2
        exact ⟨a1, u, a2, (a3.closed (noRs_get (hfoc.2 j' (cf a) hd (fun _ _ h => nomatch h)) hc)).keep hkeep⟩
      · rename_i h1
        split at ha
        · rename_i h2
          rw [if_neg h1, if_pos (by omega)]
          cases ha
          rw [hcz] at hc
          simp at hc
          subst hc
          exact ⟨rfl, _, rfl, .v _⟩
        · simp at ha
/-- Compact of whole numbers, in its place. -/
theorem eff_compactI {f : FuncId} {e : TypeId} (hb : HasBody P f)
    (hnone : ∀ (p : Option Addr) (cap : Nat) (w : World), Calls P f #[.slice p 0 cap] w fun e w' => e = .returned (.slice p 0 cap) ∧ w' = w)
    (hcomp : ∀ (blk off cap : Nat) (zs : List Int) (w : World), Go.Sort.Holds (Value.int .i64) w blk off zs.toArray → zs.length ≤ 9223372036854775807 → zs.length ≤ cap →
      Calls P f #[.slice (some ⟨blk, off, none⟩) zs.length cap] w fun e w' => e = .returned (.slice (some ⟨blk, off, none⟩) (Lib.compact zs).length cap) ∧ ∃ q, w' = Sort.putRow (Value.int .i64) (Sort.ahead w q) blk off (Lib.compact zs ++ List.replicate (zs.length - (Lib.compact zs).length) 0).toArray)
    (hle : ∀ zs : List Int, (Lib.compact zs).length ≤ zs.length) (l : List Int) (hlen : l.length ≤ 9223372036854775807) :
    EffFn P G f [.rs 0 0] [(0, .arr e 1 (l.map cInt) none)] (.rs 0 1) [(1, .arr e 1 ((Lib.compact l).map cInt) none)] := by
  refine ⟨hb, fun Z w Eo vs hg hz hl hargs hgs => ?_⟩
  match vs, hl with
  | [v], _ =>
    have hx := hargs 0 (.rs 0 0) v rfl rfl
    have hE : Eo 0 = v := by cases hx with | rs _ _ _ hs _ hp => exact hp _ _ _ _ rfl
    obtain ⟨xs, hszp, hown, hfoc, hlens, hcells, hnz⟩ := hg.ok 0
    rw [hE] at hown hnz
    obtain ⟨hxl, hown⟩ := hown
    simp only [List.length_map, Nat.mul_one] at hxl hown
    have hxs : xs = l.map (Value.int .i64) := by
      apply List.ext_getElem?
      intro i
      by_cases hi : i < l.length
      · have hd : (l.map cInt)[i]? = some (cInt l[i]) := by rw [List.getElem?_map, List.getElem?_eq_getElem hi]; rfl
        obtain ⟨_, u, hu, hr⟩ := hcells i _ (by simpa using hi) hd 0 _ rfl
        have : u = .int .i64 l[i] := by
          cases hr with
          | one h => cases h with | cl h => exact rep_v h
        simp only [Nat.mul_one, Nat.add_zero] at hu
        rw [hu, this, List.getElem?_map, List.getElem?_eq_getElem hi]; rfl
      · rw [List.getElem?_eq_none (by omega), List.getElem?_eq_none (by simpa using hi)]
    rcases hown with ⟨rfl, h0⟩ | ⟨g, cap, cur, rfl, _, hh, hcap, hmax, hcs, htake⟩
    · have hl0 : l = [] := List.eq_nil_of_length_eq_zero h0
      subst hl0
      refine (hnone none 0 w).mono fun e' w' ⟨he, hw⟩ => ⟨_, Z, (fun _ => .slice none 0 0), he, ?_⟩
      subst hw
      have hc0 : Lib.compact ([] : List Int) = [] := List.eq_nil_of_length_eq_zero (by have := hle []; simpa using this)
      rw [hc0]
      refine effpost_new (.inr ⟨_, rfl⟩) hz (Keeps.refl _ _) (Nat.le_refl _) (Kept.refl _ _) ?_ (fun b hb => by simp [AObj.blk] at hb) (.rs 0 1 _ ⟨_, _, _, rfl⟩ (Nat.le_refl _) fun _ _ _ _ _ => rfl)
      exact ⟨[], Nat.one_pos, World.ownsRow_nil _ _ _ _, And.intro (fun _ _ h => nomatch h) (fun i d h => by simp at h), fun i d hi => by simp at hi, fun i d hi => by simp at hi, fun b o hb => by simp [Value.ownBlock] at hb⟩
    · have hlt : g < w.heap.size := (Array.getElem?_eq_some_iff.1 hh).1
      have hcur : ∀ i, i < l.length → cur[i]? = some (.int .i64 (l.getD i 0)) := fun i hi => by
        have h1 : (cur.toList.take l.length)[i]? = (l.map (Value.int .i64))[i]? := by rw [htake, hxs]
        rw [List.getElem?_take, if_pos hi, List.getElem?_map, List.getElem?_eq_getElem hi] at h1
        rw [← Array.getElem?_toList, h1]
        simp [List.getD_eq_getElem?_getD, hi]
      have hH : Go.Sort.Holds (Value.int .i64) w g 0 l.toArray := fun j hj => by
        have hj' : j < l.length := by simpa using hj
        constructor
        · have := hcur j hj'
          simp only [World.cell?, hh, Nat.zero_add]
          rw [this]
          simp [List.getD_eq_getElem?_getD, hj']
        · simp [World.frozen?, hh]
      have hcl := hle l
      refine (hcomp g 0 cap l w hH hlen hcap).mono fun e' w' ⟨he, n, hw⟩ => ⟨_, Z, (fun _ => .slice (some ⟨g, 0, none⟩) (Lib.compact l).length cap), he, ?_⟩
      generalize hrow : (Lib.compact l ++ List.replicate (l.length - (Lib.compact l).length) 0).toArray = row at hw
      have hrs : row.size = l.length := by rw [← hrow]; simp; omega
      have hcell : w'.heap[g]? = some (.cells (Sort.putCells (Value.int .i64) 0 row cur) e (0, 0)) := by
        rw [hw]
        simp only [Sort.putRow, Sort.mapBlock, Sort.heap_ahead, Array.getElem?_modify, hh]
        simp [Sort.onCells]
      have key : ∀ k, k ≠ g → w'.heap[k]? = w.heap[k]? := fun k hk2 => by
        rw [hw]
        simp only [Sort.putRow, Sort.mapBlock, Sort.heap_ahead, Array.getElem?_modify]
        rw [if_neg (fun e => hk2 e.symm)]
      have hsize : w'.heap.size = w.heap.size := by rw [hw]; simp [Sort.putRow, Sort.mapBlock, Sort.heap_ahead]
      have hgb : GB [(0, .arr e 1 (l.map cInt) none)] Eo g := ⟨0, by show AObj.blk (.arr e 1 (l.map cInt) none) (Eo 0) g; rw [hE]⟩
      have hks : Kept (SG w [(0, .arr e 1 (l.map cInt) none)] Eo) w w' :=
        ⟨by rw [hw]; rfl, by rw [hw]; rfl, by rw [hw]; rfl, by rw [hsize]; exact Nat.le_refl _, fun k hk => key k (fun e => hk.2 (e ▸ hgb)), fun k hk => (key k (fun e => by rw [e, hh] at hk; exact nomatch hk)).trans hk⟩
      refine effpost_new (.inr ⟨_, rfl⟩) hz (fun b o h => ⟨h, keep_heap (key b fun e => hnz g o rfl (e ▸ h))⟩) (by rw [hsize]; exact Nat.le_refl _) hks ?_ (fun b hb => ?_) (.rs 0 1 _ ⟨_, _, _, rfl⟩ (Nat.le_refl _) fun _ _ _ _ _ => rfl)
      · refine arr_ok (sz := 1) (xs := (Lib.compact l).map (Value.int .i64)) (fun _ => rfl) Nat.one_pos ?_ (fun i j a c ha hc => ?_) (fun b o hb => hnz b o (by simpa [Value.ownBlock] using hb))
        · refine ⟨by simp, .inr ⟨g, cap, _, rfl, Nat.zero_le _, hcell, by omega, hmax, by simp [Sort.putCells, hcs], ?_⟩⟩
          apply List.ext_getElem?
          intro i
          rw [List.getElem?_take, Nat.mul_one, List.getElem?_map]
          by_cases hi : i < (Lib.compact l).length
          · rw [if_pos hi, Array.getElem?_toList, Sort.putCells, Array.getElem?_mapIdx, hcur i (by omega)]
            have hi' : i < row.size := by omega
            simp only [Option.map_some, Nat.zero_le, true_and, Nat.zero_add, Nat.sub_zero]
            rw [if_pos hi', getElem!_pos row i hi', List.getElem?_eq_getElem hi]
            simp [← hrow, List.getElem_append_left hi]
          · rw [if_neg hi, List.getElem?_eq_none (by omega)]; rfl
        · match j, hc with
          | 0, hc =>
            simp [cInt] at hc
            subst hc
            exact ⟨rfl, .int .i64 a, by simp [List.getElem?_map, ha], .v _⟩
      · rw [arr_blk] at hb
        simp [Value.ownBlock] at hb
        subst hb
        exact .inr hgb
/-- A struct of a slice and of a closure over a variable: the variable is written no more. -/
theorem eff_buildF {t : TypeId} {f : FuncId} {sz : Nat} {ds : List (List CV)} {cs : List CV}
    (hbuilt : ∀ (a : Option Addr) (l k : Nat) (g : FuncId) (caps : Array Value), P.built t [(0, .slice a l k), (1, .func (.func g) #[] caps)] = some #[.slice a l k, .func (.func g) #[] caps]) {x y : Operand} {ty : TypeId} :
    EffOp P G (.build t ⟨[(0, x), (1, y)]⟩) ty [.c (.sl sz ds), .fnr (.fn f) [.pm 0 0 0]] [(0, .var cs)] (.c (.agg [.sl sz ds, .fn f [.pi cs 0]])) [(1, .spent)] := by
  intro Z w Eo a o next Q ho hty hg hzl hl hargs hgs hnext
  have hx : Rep Z w (.sl sz ds) (a.eval x) := by
    have := hargs 0 (.c (.sl sz ds)) x rfl (by simp [Op.operands])
    cases this with | c _ _ h => exact h
  have hy := hargs 1 (.fnr (.fn f) [.pm 0 0 0]) y rfl (by simp [Op.operands])
  obtain ⟨b, el, arr, hE, hh, hasz, hcells, hnz⟩ := hg.ok 0
  have hyv : a.eval y = .func (.func f) #[] #[.pointer (some ⟨b, 0, none⟩)] := by
    generalize a.eval y = v at hy
    cases hy with
    | fnr _ _ vs _ hl hc =>
      match vs, hl with
      | [u], _ =>
        have hu := hc 0 (.pm 0 0 0) u rfl rfl
        cases hu with
        | pm _ _ _ _ _ _ h =>
          obtain ⟨b', h1, h2⟩ := h ⟨cs, .inl rfl⟩
          rw [hE] at h1
          injection h1 with h1
          injection h1 with h1
          injection h1 with h1
          rw [h2, ← h1]
          rfl
  have hxv : ∃ q l k, a.eval x = .slice q l k := by
    generalize a.eval x = v at hx
    cases hx with
    | nil => exact ⟨_, _, _, rfl⟩
    | sl => exact ⟨_, _, _, rfl⟩
  obtain ⟨q, l', k', hxv⟩ := hxv
  have hex : (execOp a.eval o).run P w = .ok (.value (.agg #[a.eval x, a.eval y])) w := by
    obtain ⟨dst, op, type, pos, after, guard⟩ := o
    simp only at ho
    subst ho
    have hb2 : P.built t [(0, a.eval x), (1, a.eval y)] = some #[a.eval x, a.eval y] := by rw [hxv, hyv]; exact hbuilt _ _ _ _ _
    have hb : P.built t ((#[(0, x), (1, y)] : Array (Nat × Operand)).map fun (i, x) => (i, a.eval x)).toList = some #[a.eval x, a.eval y] := by simpa using hb2
    simp only [execOp, Sem.run_bind, run_build w t _ _ hb]
    rfl
  have hblt : b < w.heap.size := (Array.getElem?_eq_some_iff.1 hh).1
  have hks : Keeps Z w (fun c m => Z c m ∨ c = b) w := fun c m h => ⟨.inl h, rfl, fun _ _ h => h⟩
  refine wp_value hex (hnext _ (fun c m => Z c m ∨ c = b) w Eo ?_)
  have hnb : ∀ j c, ¬ (objL [(1, AObj.spent)] j).2.blk (Eo j) c := fun j c hb => by
    match j, hb with
    | 0, hb => simp [objL, AObj.blk] at hb
    | j + 1, hb => simp [objL, AObj.blk] at hb
  exact
    { res := .c _ _ (.agg [.sl sz ds, .fn f [.pi cs 0]] [a.eval x, a.eval y] rfl (fun i c v h1 h2 => by
        match i, h1, h2 with
        | 0, h1, h2 => simp at h1 h2; subst h1; subst h2; exact hx.keep hks
        | 1, h1, h2 =>
          simp at h1 h2; subst h1; subst h2
          rw [hyv]
          refine .fn f [.pi cs 0] [.pointer (some ⟨b, 0, none⟩)] rfl fun i c v h1 h2 => ?_
          match i, h1, h2 with
          | 0, h1, h2 =>
            simp at h1 h2; subst h1; subst h2
            have key : ∀ (j : Nat) (c : CV), cs[j]? = some c → c.atom = true ∧ ∃ u, arr[j]? = some u ∧ Rep Z w c u := hcells
            refine .pi cs b 0 0 (fun j => arr[j]?.getD undef) (fun j c hj => ?_) (fun j c hj => ?_)
            · obtain ⟨k1, u, k2, k3⟩ := key j c hj
              refine ⟨.inr rfl, ?_, k1⟩
              simp [World.cell?, hh, k2]
            · obtain ⟨k1, u, k2, k3⟩ := key j c hj
              rw [k2]
              exact k3.keep hks
          | i + 1, h1, _ => simp at h1
        | i + 2, h1, _ => simp at h1) (fun i c h1 => by
          match i, h1 with
          | 0, h1 => simp at h1; subst h1; rfl
          | 1, h1 => simp at h1; subst h1; rfl
          | i + 2, h1 => simp at h1))
      grp := ⟨fun j => by
          match j with
          | 0 => trivial
          | j + 1 => trivial, fun j j' b _ h1 => absurd h1 (hnb j b)⟩
      keeps := hks
      zlt := fun c m h => h.elim (hzl c m) fun h => h ▸ hblt
      znew := fun c m h => h.elim .inl fun h => .inr (.inr ⟨0, by
        show AObj.blk (.var cs) (Eo 0) c
        rw [hE, h]⟩)
      kept := Kept.refl _ _
      own := fun c ⟨j, hj⟩ => absurd hj (hnb j c)
      ok :=
        { gen := fun t => by
            match t with
            | 0 => simp [objL]
            | t + 1 => simp [objL]
          var := fun t g _ hlv => by
            obtain ⟨cs, hlv⟩ := hlv
            match t, hlv with
            | 0, hlv => simp [objL] at hlv
            | t + 1, hlv => simp [objL] at hlv
          ext := fun t g K cs _ hlv => by
            match t, hlv with
            | 0, hlv => simp [objL] at hlv
            | t + 1, hlv => simp [objL] at hlv
          tok := fun t g el s _ hlv => by
            match t, hlv with
            | 0, hlv => simp [objL] at hlv
            | t + 1, hlv => simp [objL] at hlv
          arr := fun t g el sz ds foc _ hlv => by
            match t, hlv with
            | 0, hlv => simp [objL] at hlv
            | t + 1, hlv => simp [objL] at hlv
          map := fun t g es _ hlv => by
            match t, hlv with
            | 0, hlv => simp [objL] at hlv
            | t + 1, hlv => simp [objL] at hlv } }
/-- Room for n whole numbers. -/
theorem effn_growNil {f : FuncId} {e : TypeId} (hb : HasBody P f) (hroom : ∀ w : World, Calls P f #[.slice none 0 0, .int .i64 0] w fun e' w' => e' = .returned (.slice none 0 0) ∧ w' = w)
    (hgrow : ∀ (n : Nat) (w : World), 0 < n → n ≤ 4294967296 → Calls P f #[.slice none 0 0, .int .i64 n] w fun e' w' => ∃ cap cells, e' = .returned (.slice (some ⟨w.heap.size, 0, none⟩) 0 cap) ∧ w' = w.drew.alloc (.cells cells e) ∧ cells.size = cap ∧ cap ≤ maxLen)
    {n : Int} (hn : decide (0 ≤ n ∧ n ≤ 4294967296) = true) : EffFn P G f [.c (.v (.slice none 0 0)), .c (.v (.int .i64 n))] [] (.rs 0 1) [(1, .arr e 1 [] none)] := by
  have hn := of_decide_eq_true hn
  refine ⟨hb, fun Z w Eo vs hg hz hl hargs hgs => ?_⟩
  match vs, hl with
  | [v, u], _ =>
    have h0 := rep_cv (hargs 0 _ v rfl rfl)
    have h1 := rep_cv (hargs 1 _ u rfl rfl)
    subst h0; subst h1
    obtain ⟨p, rfl⟩ : ∃ p : Nat, n = p := ⟨n.toNat, by omega⟩
    rcases Nat.eq_zero_or_pos p with hp | hp
    · subst hp
      refine (hroom w).mono fun e' w' ⟨he, hw⟩ => ⟨_, Z, (fun _ => .slice none 0 0), he, ?_⟩
      subst hw
      refine effpost_new (.inl rfl) hz (Keeps.refl _ _) (Nat.le_refl _) (Kept.refl _ _) ?_ (fun b hb => by simp [AObj.blk] at hb) (.rs 0 1 _ ⟨_, _, _, rfl⟩ (Nat.le_refl _) fun _ _ _ _ _ => rfl)
      exact ⟨[], Nat.one_pos, World.ownsRow_nil _ _ _ _, And.intro (fun _ _ h => nomatch h) (fun i d h => by simp at h), fun i d hi => by simp at hi, fun i d hi => by simp at hi, fun b o hb => by simp [Value.ownBlock] at hb⟩
    · refine (hgrow p w hp (by omega)).mono fun e' w' ⟨cap, cells, he, hw, hcs, hcm⟩ => ⟨_, Z, (fun _ => .slice (some ⟨w.heap.size, 0, none⟩) 0 cap), he, ?_⟩
      subst hw
      have hzd : ∀ b o, Z b o → b < w.drew.heap.size := hz
      have hcell : (w.drew.alloc (.cells cells e)).heap[w.heap.size]? = some (.cells cells e (0, 0)) := heap_alloc_new w.drew _
      refine effpost_new (.inl rfl) hz (Keeps.alloc (w := w.drew) hzd _) (by simp) ((Kept.refl _ _).drew.alloc (fun _ h => h.1) _) ?_ (fun b hb => ?_) (.rs 0 1 _ ⟨_, _, _, rfl⟩ (Nat.le_refl _) fun _ _ _ _ _ => rfl)
      · refine ⟨[], Nat.one_pos, ⟨rfl, .inr ⟨w.heap.size, cap, cells, rfl, Nat.zero_le _, hcell, Nat.zero_le _, hcm, by omega, rfl⟩⟩, And.intro (fun _ _ h => nomatch h) (fun i d h => by simp at h), fun i d hi => by simp at hi, fun i d hi => by simp at hi, fun b o hb => ?_⟩
        simp [Value.ownBlock] at hb
        intro h
        have := hz b o h
        omega
      · rw [arr_blk] at hb
        simp [Value.ownBlock] at hb
        exact .inl (by omega)
/-- Arguments among which a nil slice stands as it is. -/
def nilL : List CV → List CV → Prop
  | [], [] => True
  | a :: r, b :: q => (a = b ∨ ∃ sz, a = .sl 0 [] ∧ b = .sl sz []) ∧ nilL r q
  | _, _ => False
theorem nilL_rep {Z : Zone} {w : World} : ∀ {cs1 cs2 : List CV} {vs : List Value}, nilL cs1 cs2 → RepL Z w cs1 vs → RepL Z w cs2 vs
  | [], [], _, _, h => h
  | a :: r, b :: q, vs, hn, h => by
    match vs, h with
    | [], h => exact absurd h.1 (by simp)
    | v :: vs, h =>
      refine RepL.cons ?_ (nilL_rep hn.2 h.tail)
      have h0 := h.head
      rcases hn.1 with rfl | ⟨sz, rfl, rfl⟩
      · exact h0
      · generalize hds : ([] : List (List CV)) = ds at h0
        cases h0 with
        | nil _ a cap => exact .nil _ _ _
        | sl _ _ b o cap f => subst hds; exact .nil _ _ _
  | [], _ :: _, _, hn, _ => hn.elim
  | _ :: _, [], _, hn, _ => hn.elim
theorem holds_nil {f : FuncId} {cs1 cs2 : List CV} {r : CV} (h : Holds P G f cs2 r) (hn : nilL cs1 cs2) : Holds P G f cs1 r :=
  ⟨h.1, fun Z w vs h1 h2 h3 => h.2 Z w vs (nilL_rep hn h1) h2 h3⟩
section
variable {α β : Type} [BEq α] {d : TypeDesc} {kc : α → Value}
/-- A map literal's entries. -/
theorem eff_insert {t kt et : TypeId} (ht : P.underlying t = some (.map kt et)) (hkt : P.underlying kt = some d) (hd : KeyOk d kc) {ev : β → CV} {m : List (α × β)} {x : α} {v : β} {a b c : Operand} {ty : TypeId} :
    EffOp P G (.insert t a b c) ty [.mr 0 0, .c (.v (kc x)), .c (ev v)] [(0, .map (mpE kc ev m))] .any [(0, .map (mpE kc ev (mset m x v)))] := by
  intro Z w Eo ac o next Q ho hty hg hzl hl hargs hgs hnext
  have h1 := hargs 0 (.mr 0 0) a rfl rfl
  have h2 := rep_cv (hargs 1 (.c (.v (kc x))) b rfl rfl)
  have h3 : Rep Z w (ev v) (ac.eval c) := by
    have := hargs 2 (.c (ev v)) c rfl rfl
    cases this with | c _ _ h => exact h
  obtain ⟨bl, arr, clock, hE, hh, hlen, hent, hnz⟩ := hg.ok 0
  have hav : ac.eval a = .map (some bl) := by
    generalize ac.eval a = y at h1
    cases h1 with
    | mr _ _ _ hs hgen hE' => exact (hE' _ rfl).symm.trans hE
  have hck : (Instr.checkKey false 10000 kt (kc x)).run P w = .ok () w := MapKept.run_checkKey hkt (hd.key x) false 9999
  have hblk : (objL [(0, AObj.map (mpE kc ev m))] 0).2.blk (Eo 0) bl := by rw [hE]; rfl
  have hkey : ∀ (i : Nat) (p : α × β) (e : MapEntry), m[i]? = some p → arr[i]? = some e → e.key = kc p.1 ∧ Rep Z w (ev p.2) e.val := fun i p e h4 h5 => by
    obtain ⟨q1, q2⟩ := hent i (.v (kc p.1)) (ev p.2) e (by simp [mpE, h4]) h5
    exact ⟨rep_v q1, q2⟩
  have hml : m.length = arr.size := by simpa [mpE] using hlen
  have hlt : bl < w.heap.size := (Array.getElem?_eq_some_iff.1 hh).1
  -- the world behind
  have fin : ∀ (arr' : Array MapEntry) (clock' : Nat), (Instr.mapUpdate t (.map (some bl)) (kc x) (ac.eval c)).run P w = .ok () { w with heap := w.heap.setIfInBounds bl (.map arr' clock') } →
      (mset m x v).length = arr'.size → (∀ (i : Nat) (p : α × β) (e : MapEntry), (mset m x v)[i]? = some p → arr'[i]? = some e → e.key = kc p.1 ∧ Rep Z w (ev p.2) e.val) → Oper.wpE P o ac w next Q := by
    intro arr' clock' hrun hl' he'
    obtain ⟨hset, hoth⟩ := MapKept.heap_set (o' := .map arr' clock') hh
    have hex : (execOp ac.eval o).run P w = .ok .skip { w with heap := w.heap.setIfInBounds bl (.map arr' clock') } := by
      obtain ⟨dst, op, type, pos, after, guard⟩ := o
      simp only at ho
      subst ho
      simp only [execOp, hav, h2, Sem.run_bind, hrun, Result.andThen_ok, Sem.run_pure]
    have hk : Kept (fun k => k ≠ bl) w { w with heap := w.heap.setIfInBounds bl (.map arr' clock') } := ⟨rfl, rfl, rfl, by simp, fun k hk => hoth k hk, fun k hk => (hoth k (fun e => by rw [e, hh] at hk; exact nomatch hk)).trans hk⟩
    have hkeep : Keeps Z w Z { w with heap := w.heap.setIfInBounds bl (.map arr' clock') } := fun c k h => ⟨h, keep_heap (hk.block c (fun e => hnz k (e ▸ h)))⟩
    refine wp_skip' hex (hnext _ Z _ Eo (effpost_one hg hzl hblk (fun c h => by rw [hE] at h; cases h; rfl) hk hnz ?_ ?_ (.any _)))
    · refine ⟨bl, arr', clock', hE, hset, by simpa [mpE] using hl', fun i k u e h4 h5 => ?_, hnz⟩
      rw [List.getElem?_map] at h4
      cases hp : (mset m x v)[i]? with
      | none => rw [hp] at h4; simp at h4
      | some p =>
        rw [hp] at h4
        simp at h4
        obtain ⟨rfl, rfl⟩ := h4
        obtain ⟨q1, q2⟩ := he' i p e hp h5
        exact ⟨by rw [q1]; exact .v _, q2.keep hkeep⟩
    · exact
        { gen := fun t => by rw [objL_one, objL_one]; split <;> exact Nat.le_refl _
          var := fun t g _ hlv => by
            obtain ⟨cs, hlv⟩ := hlv
            rw [objL_one] at hlv
            by_cases ht : t = 0
            · rw [if_pos ht] at hlv; simp at hlv
            · rw [if_neg ht] at hlv; simp at hlv
          ext := fun t g K cs hg hlv => by
            rw [objL_one] at hlv
            by_cases ht : t = 0
            · rw [if_pos ht] at hlv; simp at hlv
            · rw [if_neg ht] at hlv; simp at hlv
          tok := fun t g el s hg hlv => by
            rw [objL_one] at hlv
            by_cases ht : t = 0
            · rw [if_pos ht] at hlv; simp at hlv
            · rw [if_neg ht] at hlv; simp at hlv
          arr := fun t g el sz ds foc hg hlv => by
            rw [objL_one] at hlv
            by_cases ht : t = 0
            · rw [if_pos ht] at hlv; simp at hlv
            · rw [if_neg ht] at hlv; simp at hlv
          map := fun t g es _ hlv => by
            rw [objL_one] at hlv ⊢
            by_cases ht : t = 0
            · rw [if_pos ht] at hlv ⊢
              simp at hlv
              obtain ⟨rfl, _⟩ := hlv
              exact ⟨⟨_, rfl⟩, rfl⟩
            · rw [if_neg ht] at hlv; simp at hlv }
  rcases find_spec hd x m arr.toList 0 (by simpa using hml) (fun i p e h4 h5 => (hkey i p e h4 (by simpa using h5)).1) with ⟨q1, q2, q3⟩ | ⟨i, p, e, q1, q2, q3, q4, q5, q6⟩
  · refine fin (arr.push { key := kc x, val := ac.eval c, born := clock }) (clock + 1) ?_ (by rw [q3]; simp [hml]) fun i p e h4 h5 => ?_
    · simp only [Instr.mapUpdate, Sem.run_bind, run_underlying ht, Result.andThen_ok, MapKept.run_getObj_map hh, hck, MapKept.run_findKey hkt q1, MapKept.run_setObj_map _ hh]
    · rw [q3] at h4
      rcases Nat.lt_or_ge i m.length with hi | hi
      · rw [List.getElem?_append_left hi] at h4
        rw [Array.getElem?_push, if_neg (by omega)] at h5
        exact hkey i p e h4 h5
      · rw [List.getElem?_append_right hi] at h4
        have hi0 : i = m.length := by
          have := (List.getElem?_eq_some_iff.1 h4).1
          simp at this
          omega
        subst hi0
        simp at h4
        subst h4
        rw [Array.getElem?_push, if_pos hml] at h5
        injection h5 with h5
        subst h5
        exact ⟨rfl, h3⟩
  · have hei : arr[i]? = some e := by simpa using q2
    have hkey0 := (hkey i p e q1 hei).1
    refine fin (arr.modify i fun e => { e with key := kc x, val := ac.eval c }) clock ?_ (by rw [q6]; simp [hml]) fun j p' e' h4 h5 => ?_
    · rw [Nat.zero_add] at q4
      simp only [Instr.mapUpdate, Sem.run_bind, run_underlying ht, Result.andThen_ok, MapKept.run_getObj_map hh, hck, MapKept.run_findKey hkt q4, hei, Option.map_some, Option.getD_some, Instr.keyThatStays, hkey0, hd.bits x p.1 q3, if_true, Sem.run_pure, MapKept.run_setObj_map _ hh]
    · rw [q6, List.getElem?_set] at h4
      rw [Array.getElem?_modify] at h5
      by_cases hij : i = j
      · subst hij
        rw [if_pos rfl] at h5
        rw [hei] at h5
        simp at h5
        subst h5
        have hil : i < m.length := (List.getElem?_eq_some_iff.1 q1).1
        simp [hil] at h4
        subst h4
        exact ⟨rfl, h3⟩
      · rw [if_neg hij] at h4
        rw [if_neg hij] at h5
        exact hkey j p' e' h4 h5
end
/-- A slice that is nil where it has no elements. -/
def cNil : List Int → CV
  | [] => .v (.slice none 0 0)
  | a :: r => .sl 1 ((a :: r).map cInt)
theorem cNil_pure (l : List Int) : (cNil l).pure = true := by cases l <;> rfl
theorem cNil_ne {l : List Int} (h : l.isEmpty = false) : SV.c (.sl 1 (l.map cInt)) = .c (cNil l) := by
  cases l with
  | nil => cases h
  | cons => rfl
theorem nilcall {X pf K : CV → Prop} {y : List Int} (h : X (cNil y)) (hp : pf (cNil y)) (h1 : y.isEmpty = true → K (.v (.slice none 0 0))) (h2 : y.isEmpty = false → K (.sl 1 (y.map cInt))) : ∃ r, X r ∧ pf r ∧ K r := by
  cases y with
  | nil => exact ⟨_, h, hp, h1 rfl⟩
  | cons => exact ⟨_, h, hp, h2 rfl⟩
theorem eff_nilV {ty : TypeId} : EffOp P G (.assign (.const (.slice .none 0 0))) ty [.c (.sl 0 [])] [] (.c (.v (.slice none 0 0))) [] := by
  intro Z w Eo ac o next Q ho hty hg hzl hl hargs hgs hnext
  have hex : (execOp ac.eval o).run P w = .ok (.value (.slice none 0 0)) w := by
    obtain ⟨dst, op, type, pos, after, guard⟩ := o
    simp only at ho
    subst ho
    simp [execOp, Act.eval]
  exact wp_value hex (hnext _ Z w Eo (effpost_same hg hzl (.c _ _ (.v _))))
theorem eff_lenNil {t e : TypeId} (ht : P.underlying t = some (.slice e)) {x : Operand} {ty : TypeId} : EffOp P G (.call ⟨.builtin .len, ⟨[x]⟩, ⟨[t]⟩⟩) ty [.c (.v (.slice none 0 0))] [] (.c (.v (.int .i64 0))) [] := by
  intro Z w Eo ac o next Q ho hty hg hzl hl hargs hgs hnext
  have hx := rep_cv (hargs 0 _ x rfl rfl)
  have hex : (execOp ac.eval o).run P w = .ok (.value (.int .i64 0)) w := by
    obtain ⟨dst, op, type, pos, after, guard⟩ := o
    simp only at ho
    subst ho
    rw [exec_builtin]
    simp [builtin, Builtin.len_, run_underlying ht, hx, goInt]
  exact wp_value hex (hnext _ Z w Eo (effpost_same hg hzl (.c _ _ (.v _))))
theorem eff_nilEqT {t e : TypeId} (ht : P.underlying t = some (.slice e)) {x : Operand} {z ty : TypeId} : EffOp P G (.binOp .eql t x (.const (.slice .none 0 0)) z) ty [.c (.v (.slice none 0 0)), .c (.sl 0 [])] [] .kt [] := by
  intro Z w Eo ac o next Q ho hty hg hzl hl hargs hgs hnext
  have hx := rep_cv (hargs 0 _ x rfl rfl)
  have hex : (execOp ac.eval o).run P w = .ok (.value (.bool true)) w := by
    obtain ⟨dst, op, type, pos, after, guard⟩ := o
    simp only at ho
    subst ho
    simp only [execOp, hx, Sem.run_bind]
    simp [Act.eval, eqGuard, run_eql_nilS (w := w) t _ none 0 0 ht]
  exact wp_value hex (hnext _ Z w Eo (effpost_same hg hzl .kt))
theorem eff_nilEqF {t e : TypeId} (ht : P.underlying t = some (.slice e)) {x : Operand} {z ty : TypeId} {sz : Nat} {α : Type} {cf : α → List CV} {l : List α} (hne : l.isEmpty = false) :
    EffOp P G (.binOp .eql t x (.const (.slice .none 0 0)) z) ty [.c (.sl sz (l.map cf)), .c (.sl 0 [])] [] .kf [] := by
  intro Z w Eo ac o next Q ho hty hg hzl hl hargs hgs hnext
  have hx : Rep Z w (.sl sz (l.map cf)) (ac.eval x) := by
    have := hargs 0 _ x rfl rfl
    cases this with | c _ _ h => exact h
  have hv : ∃ a n c, ac.eval x = .slice (some a) n c := by
    generalize ac.eval x = v at hx
    generalize hds : l.map cf = ds at hx
    cases hx with
    | nil => cases l with
      | nil => cases hne
      | cons => cases hds
    | sl => exact ⟨_, _, _, rfl⟩
  obtain ⟨a, n, c, hv⟩ := hv
  have hex : (execOp ac.eval o).run P w = .ok (.value (.bool false)) w := by
    obtain ⟨dst, op, type, pos, after, guard⟩ := o
    simp only at ho
    subst ho
    simp only [execOp, hv, Sem.run_bind]
    simp [Act.eval, eqGuard, run_eql_nilS (w := w) t _ (some a) n c ht]
  exact wp_value hex (hnext _ Z w Eo (effpost_same hg hzl .kf))
/-- A slice literal of one cell that is written no more. -/
theorem eff_lit1C {t e : TypeId} {i : TI} (ht : P.underlying t = some (.slice e)) (hi : TOk1 P e i) (h1 : i.size = 1) {c : CV} (hat : c.atom = true) (hcell : ∀ Z w x, Rep Z w c x → x.cells = #[x]) {x : Operand} {ty : TypeId} :
    EffOp P G (.buildSlice t 1 ⟨[(0, x)]⟩) ty [.c c] [] (.c (.sl 1 [[c]])) [] := by
  intro Z w Eo ac o next Q ho hty hg hzl hl hargs hgs hnext
  have hx : Rep Z w c (ac.eval x) := by
    have := hargs 0 (.c c) x rfl rfl
    cases this with | c _ _ h => exact h
  have hxc := hcell Z w _ hx
  obtain ⟨j, hj, hjs, hjb, hjz⟩ := hi.infoE
  have hzc : (zeroVal i).cells.size = 1 := by rw [zero_cells hi]; simp [hi.len, h1]
  have hzv : (zeroValue e).run P w = .ok (zeroVal i) w := by simp [zeroValue, typeInfo, hj, hjz]
  have hex : (execOp ac.eval o).run P w = .ok (.value (.slice (some ⟨w.heap.size, 0, none⟩) 1 1)) (w.alloc (.cells #[ac.eval x] e)) := by
    obtain ⟨dst, op, type, pos, after, guard⟩ := o
    simp only at ho
    subst ho
    simp only [execOp, Instr.buildSlice, Sem.run_bind, run_underlying ht, Result.andThen_ok, hi.sizeOf w, h1, Sem.run_pure]
    have hr : Array.range 1 = #[0] := by decide
    simp only [hr]
    simp [hzv, Instr.fill, hxc, newRow]
  have hka : Keeps Z w Z (w.alloc (.cells #[ac.eval x] e)) := Keeps.alloc hzl _
  have hk : Keeps Z w (fun b o => Z b o ∨ b = w.heap.size) (w.alloc (.cells #[ac.eval x] e)) := fun b o h => ⟨.inl h, (hka b o h).2⟩
  have hnew : (w.alloc (.cells #[ac.eval x] e)).heap[w.heap.size]? = some (.cells #[ac.eval x] e (0, 0)) := heap_alloc_new w _
  refine wp_value hex (hnext _ (fun b o => Z b o ∨ b = w.heap.size) _ Eo ?_)
  have hnb : ∀ j b, ¬ (objL ([] : List (Nat × AObj)) j).2.blk (Eo j) b := fun j b hb => by simp [objL, AObj.blk] at hb
  exact
    { res := .c _ _ (.sl 1 [[c]] w.heap.size 0 1 (fun _ _ => ac.eval x) (Nat.le_refl _) (fun i d h => by
          match i, h with
          | 0, h => simp at h; subst h; rfl
          | i + 1, h => simp at h) (fun i j d c' h1 h2 => by
          match i, h1 with
          | 0, h1 =>
            simp at h1; subst h1
            match j, h2 with
            | 0, h2 => simp at h2; subst h2; exact ⟨.inr rfl, by unfold World.cell?; simp only [Nat.zero_add, Nat.zero_mul]; rw [hnew]; rfl, hat⟩
            | j + 1, h2 => simp at h2
          | i + 1, h1 => simp at h1) (fun i j d c' h1 h2 => by
          match i, h1 with
          | 0, h1 =>
            simp at h1; subst h1
            match j, h2 with
            | 0, h2 => simp at h2; subst h2; exact hx.keep hk
            | j + 1, h2 => simp at h2
          | i + 1, h1 => simp at h1))
      grp := ⟨fun j => by simp [objL]; trivial, fun j j' b _ h1 => absurd h1 (hnb j b)⟩
      keeps := hk
      zlt := fun b o h => by
        have hs : (w.alloc (.cells #[ac.eval x] e)).heap.size = w.heap.size + 1 := by simp
        rcases h with h | h
        · have := hzl b o h; omega
        · omega
      znew := fun b o h => h.elim .inl fun h => .inr (.inl (by omega))
      kept := (Kept.refl _ _).alloc (fun _ h => h.1) _
      own := fun b ⟨j, hj⟩ => absurd hj (hnb j b)
      ok := ObjKeep.refl _ _ }
end
end Go.Abs
