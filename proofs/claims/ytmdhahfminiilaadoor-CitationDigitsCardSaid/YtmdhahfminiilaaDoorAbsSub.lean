/-
  Parts of a slice of the call's own: what lies behind some elements; a copy from one part to another.
-/
import Derived.Test.YtmdhahfminiilaaDoorAbsOpG
import Derived.Test.YtmdhahfminiilaaDoorAbsSort
import Derived.Laws.CopyRow
namespace Go.Abs
open Go Go.RowKit
section
variable {P : Program} {G : World → Prop}
theorem eff_subslice {α : Type} {t e : TypeId} {i : TI} (ht : P.underlying t = some (.slice e)) (hi : TOk1 P e i) {cf : α → List CV} {l : List α} {lo : Int} (h0 : 0 ≤ lo) (h1 : lo ≤ (l.length : Int)) (hne : l ≠ []) {x b : Operand} {ty : TypeId} {k : IntKind} :
    EffOp P G (.slice t x (some b) none none) ty [.rs 0 0, .c (.v (.int k lo))] [(0, .arr e i.size (l.map cf) none)] (.ss 0 0 lo.toNat) [(0, .arr e i.size (l.map cf) none)] := by
  intro Z w Eo ac o next Q ho hty hg hzl hl hargs hgs hnext
  have hx := hargs 0 (.rs 0 0) x rfl slice_op0
  have hlo := rep_cv (hargs 1 (.c (.v (.int k lo))) b rfl (by simp [Op.operands]))
  obtain ⟨xs, hszp, hown, hfoc, hlens, hcells, hnz⟩ := hg.ok 0
  have hE : Eo 0 = ac.eval x := by
    generalize ac.eval x = v at hx
    cases hx with | rs _ _ _ hs _ hp => exact hp _ _ _ _ rfl
  obtain ⟨p, rfl⟩ : ∃ p : Nat, lo = p := ⟨lo.toNat, by omega⟩
  obtain ⟨hxl, hown⟩ := hown
  simp only [List.length_map] at hxl hown
  have hpl : p ≤ l.length := by omega
  rcases hown with ⟨_, hn0⟩ | ⟨g, cap, cur, hv, _, hh, hcap, hmax, hcs, htake⟩
  · exact absurd (List.eq_nil_of_length_eq_zero hn0) hne
  · have hvx : ac.eval x = .slice (some ⟨g, 0, none⟩) l.length cap := hE.symm.trans hv
    have hrun : (Instr.sliceAt t (ac.eval x) ((some b).map ac.eval) none none).run P w = .ok (.slice (if cap = p then some ⟨g, 0, none⟩ else (some (⟨g, 0, none⟩ : Addr)).map (·.add (p * i.size))) (l.length - p) (cap - p)) w := by
      rw [hvx]
      simp only [Instr.sliceAt, Sem.run_bind, run_underlying ht, Result.andThen_ok, Instr.slice, Option.map_some, hlo, run_sliceBounds (P := P) true (len := l.length) (cap := cap) (l := p) (h := l.length) hcap hpl (Nat.le_refl _) (lo := some (.int k (p : Int))) (hi := none) (.inr ⟨k, rfl⟩) (.inl ⟨rfl, rfl⟩), hi.sizeOf, Sem.run_pure]
    have hex : (execOp ac.eval o).run P w = .ok (.value (.slice (if cap = p then some ⟨g, 0, none⟩ else (some (⟨g, 0, none⟩ : Addr)).map (·.add (p * i.size))) (l.length - p) (cap - p))) w := by
      obtain ⟨dst, op, type, pos, after, guard⟩ := o
      simp only at ho
      subst ho
      simp only [execOp, Option.map_none, Sem.run_bind, hrun, Result.andThen_ok, Sem.run_pure]
    refine wp_value hex (hnext _ Z w Eo (effpost_same hg hzl ?_))
    refine .ss 0 0 _ _ (Nat.le_refl _) fun el sz ds foc ho => ?_
    rw [objL_one, if_pos rfl] at ho
    simp at ho
    obtain ⟨rfl, rfl, rfl, rfl⟩ := ho
    by_cases hcp : cap = p
    · refine ⟨g, l.length, cap, 0, hv, ?_, fun h => ?_, Nat.zero_le _, by simpa using hpl⟩
      · rw [if_pos hcp]; simp
      · simp at h; omega
    · refine ⟨g, l.length, cap, p * i.size, hv, ?_, fun _ => by simp, Nat.mul_le_mul_right _ (by omega), by simpa using hpl⟩
      rw [if_neg hcp]
      have : (⟨g, 0, none⟩ : Addr).add (p * i.size) = ⟨g, p * i.size, none⟩ := by
        unfold Addr.add; split <;> simp_all
      simp [this]
theorem subg {α : Type} {lo : Int} {l : List α} (h : (decide (0 ≤ lo ∧ lo ≤ (l.length : Int)) && !l.isEmpty) = true) : 0 ≤ lo ∧ lo ≤ (l.length : Int) ∧ l ≠ [] := by
  rw [Bool.and_eq_true, decide_eq_true_eq] at h
  refine ⟨h.1.1, h.1.2, ?_⟩
  rintro rfl
  exact absurd h.2 (by simp)
theorem subm {α β : Type} {cf : α → β} {lo : Int} {l : List α} (h : (decide (0 ≤ lo ∧ lo ≤ (l.length : Int)) && !l.isEmpty) = true) : lo ≤ ((l.map cf).length : Int) ∧ l.map cf ≠ [] := by
  obtain ⟨_, h2, h3⟩ := subg h
  exact ⟨by rw [List.length_map]; exact h2, fun e => h3 (List.map_eq_nil_iff.1 e)⟩
/-- n elements from place q on, laid from place p on. -/
def mix {α : Type} (l : List α) (p q n : Nat) : List α := l.take p ++ ((l.drop q).take n ++ l.drop (p + n))
theorem mix_len {α : Type} {l : List α} {p q n : Nat} (hp : p + n ≤ l.length) (hq : q + n ≤ l.length) : (mix l p q n).length = l.length := by
  unfold mix
  simp only [List.length_append, List.length_take, List.length_drop]
  omega
theorem mix_get {α : Type} {l : List α} {p q n : Nat} (hp : p + n ≤ l.length) (hq : q + n ≤ l.length) (i : Nat) : (mix l p q n)[i]? = if i < p then l[i]? else if i < p + n then l[q + (i - p)]? else l[i]? := by
  unfold mix
  by_cases h1 : i < p
  · rw [if_pos h1, List.getElem?_append_left (by rw [List.length_take]; omega), List.getElem?_take, if_pos h1]
  · rw [if_neg h1, List.getElem?_append_right (by rw [List.length_take]; omega), List.length_take, Nat.min_eq_left (by omega)]
    by_cases h2 : i < p + n
    · rw [if_pos h2, List.getElem?_append_left (by rw [List.length_take, List.length_drop]; omega), List.getElem?_take, if_pos (by omega), List.getElem?_drop]
    · rw [if_neg h2, List.getElem?_append_right (by rw [List.length_take, List.length_drop]; omega), List.length_take, List.length_drop, Nat.min_eq_left (by omega), List.getElem?_drop]
      congr 1
      omega
theorem eff_copy {α : Type} {t e : TypeId} {i : TI} (ht : P.underlying t = some (.slice e)) (hi : TOk1 P e i) (h1s : i.size = 1) {cf : α → List CV} {l : List α} (hcf : ∀ x, (cf x).length = 1) {p q n : Nat} (hn : n = min (l.length - q) (l.length - p)) {x y : Operand} {ty : TypeId} :
    EffOp P G (.call ⟨.builtin .copy, ⟨[x, y]⟩, ⟨[t, t]⟩⟩) ty [.ss 0 0 p, .ss 0 0 q] [(0, .arr e 1 (l.map cf) none)] (.c (.v (.int .i64 (n : Int)))) [(0, .arr e 1 ((mix l p q n).map cf) none)] := by
  intro Z w Eo ac o next Q ho hty hg hzl hl hargs hgs hnext
  have hx := hargs 0 (.ss 0 0 p) x rfl rfl
  have hy := hargs 1 (.ss 0 0 q) y rfl rfl
  obtain ⟨xs, hszp, hown, hfoc, hlens, hcells, hnz⟩ := hg.ok 0
  have hX : ∃ b l' k o', Eo 0 = .slice (some ⟨b, 0, none⟩) l' k ∧ ac.eval x = .slice (some ⟨b, o', none⟩) (l' - p) (k - p) ∧ (p < l' → o' = p * 1) ∧ o' ≤ k * 1 ∧ p ≤ l' := by
    generalize ac.eval x = v at hx
    cases hx with | ss _ _ _ _ _ hp => exact hp _ _ _ _ rfl
  have hY : ∃ b l' k o', Eo 0 = .slice (some ⟨b, 0, none⟩) l' k ∧ ac.eval y = .slice (some ⟨b, o', none⟩) (l' - q) (k - q) ∧ (q < l' → o' = q * 1) ∧ o' ≤ k * 1 ∧ q ≤ l' := by
    generalize ac.eval y = v at hy
    cases hy with | ss _ _ _ _ _ hp => exact hp _ _ _ _ rfl
  obtain ⟨b, L, K, o1, hE, hvx, ho1, hk1, hpL⟩ := hX
  obtain ⟨b', L', K', o2, hE', hvy, ho2, hk2, hqL⟩ := hY
  rw [hE] at hE'
  obtain ⟨rfl, rfl, rfl⟩ : b = b' ∧ L = L' ∧ K = K' := by
    injection hE' with e1 e2 e3
    injection e1 with e1
    injection e1 with e1
    exact ⟨e1, e2, e3⟩
  obtain ⟨hxl, hown⟩ := hown
  simp only [List.length_map, Nat.mul_one] at hxl hown
  rcases hown with ⟨hv, _⟩ | ⟨g, cap, cur, hv, _, hh, hcap, hmax, hcs, htake⟩
  · rw [hE] at hv; cases hv
  · rw [hE] at hv
    obtain ⟨rfl, rfl, rfl⟩ : b = g ∧ L = l.length ∧ K = cap := by
      injection hv with e1 e2 e3
      injection e1 with e1
      injection e1 with e1
      exact ⟨e1, e2, e3⟩
    rw [Nat.mul_one] at ho1 ho2 hk1 hk2
    have hpn : p + n ≤ l.length := by omega
    have hqn : q + n ≤ l.length := by omega
    have hxs : xs.length = l.length := hxl
    have hcx : ∀ j, j < l.length → cur[j]? = xs[j]? := fun j hj => by
      rw [← htake, List.getElem?_take, if_pos hj, Array.getElem?_toList]
    have hcl : ((xs.drop q).take n).length = n := by rw [List.length_take, List.length_drop]; omega
    have hone : ∀ v ∈ (xs.drop q).take n, v.oneCell' = true := by
      intro v hv
      obtain ⟨j, hj⟩ := List.getElem?_of_mem (List.mem_of_mem_drop (List.mem_of_mem_take hv))
      have hjl : j < l.length := by rw [← hxs]; exact (List.getElem?_eq_some_iff.1 hj).1
      have hd : (l.map cf)[j]? = some (cf l[j]) := by rw [List.getElem?_map, List.getElem?_eq_getElem hjl]; rfl
      have h0 : 0 < (cf l[j]).length := by rw [hcf]; exact Nat.one_pos
      obtain ⟨a1, u, a2, a3⟩ := hcells j _ (by simpa using hjl) hd 0 _ (List.getElem?_eq_getElem h0)
      simp only [Nat.mul_one, Nat.add_zero] at a2
      rw [hj] at a2
      rw [Option.some.inj a2]
      exact (a3.closed (noRs_get (hfoc.2 j (cf l[j]) hd (fun _ _ h => nomatch h)) (List.getElem?_eq_getElem h0))).atom a1
    have hrun := run_copy_row (P := P) w t t ty e b o1 (l.length - p) (K - p) ⟨b, o2, none⟩ (l.length - q) (K - q) cur e ((xs.drop q).take n) ht (by obtain ⟨j, hj, hjs, _⟩ := hi.infoE; simp [hj, hjs, h1s]) hh (by rw [hcl, hn]) (fun j v hj => by
      have hjn : j < n := by rw [← hcl]; exact (List.getElem?_eq_some_iff.1 hj).1
      have ha : (⟨b, o2, none⟩ : Addr).add j = ⟨b, o2 + j, none⟩ := by unfold Addr.add; split <;> simp_all
      rw [ha, ho2 (by omega)]
      simp only [World.cell?, hh]
      rw [hcx (q + j) (by omega)]
      rw [List.getElem?_take, if_pos hjn, List.getElem?_drop] at hj
      exact hj) (by
      rw [hcl, hcs]
      rcases Nat.eq_zero_or_pos n with h | h
      · omega
      · rw [ho1 (by omega)]; omega) hone
    rw [hcl] at hrun
    have hex : (execOp ac.eval o).run P w = .ok (.value (.int .i64 (n : Int))) (w.setRow b (cur.toList.take o1 ++ (xs.drop q).take n ++ cur.toList.drop (o1 + n)).toArray) := by
      obtain ⟨dst, op, type, pos, after, guard⟩ := o
      simp only at ho hty
      subst ho; subst hty
      rw [exec_builtin]
      simp only [builtin, Sem.run_bind, List.map_toArray, List.map_cons, List.map_nil, hvx, hvy, hrun]
      rfl
    -- the new row
    have hnew : (cur.toList.take o1 ++ (xs.drop q).take n ++ cur.toList.drop (o1 + n)).take l.length = mix xs p q n ∧ (cur.toList.take o1 ++ (xs.drop q).take n ++ cur.toList.drop (o1 + n)).length = K := by
      have hcs' : cur.toList.length = K := by simpa using hcs
      rcases Nat.eq_zero_or_pos n with h | h
      · subst h
        simp only [List.take_zero, List.append_nil, Nat.add_zero, List.take_append_drop]
        refine ⟨?_, hcs'⟩
        rw [htake]
        unfold mix
        simp
      · have e1 := ho1 (by omega)
        subst e1
        refine ⟨?_, by simp only [List.length_append, hcl, List.length_take, List.length_drop, hcs']; omega⟩
        apply List.ext_getElem?
        intro j
        rw [mix_get (by omega) (by omega), List.getElem?_take]
        by_cases hj : j < l.length
        · rw [if_pos hj]
          by_cases h1 : j < o1
          · rw [if_pos h1, List.append_assoc, List.getElem?_append_left (by rw [List.length_take]; omega), List.getElem?_take, if_pos h1, Array.getElem?_toList, hcx j hj]
          · rw [if_neg h1, List.append_assoc, List.getElem?_append_right (by rw [List.length_take]; omega), List.length_take, Nat.min_eq_left (by omega)]
            by_cases h2 : j < o1 + n
            · rw [if_pos h2, List.getElem?_append_left (by rw [hcl]; omega), List.getElem?_take, if_pos (by omega), List.getElem?_drop]
            · rw [if_neg h2, List.getElem?_append_right (by rw [hcl]; omega), hcl, List.getElem?_drop, Array.getElem?_toList, show o1 + n + (j - o1 - n) = j by omega, hcx j hj]
        · rw [if_neg hj]
          have : ∀ m, l.length ≤ m → xs[m]? = none := fun m hm => List.getElem?_eq_none (by omega)
          rw [if_neg (by omega), if_neg (by omega), this j (by omega)]
    generalize hcw : (cur.toList.take o1 ++ (xs.drop q).take n ++ cur.toList.drop (o1 + n)) = cw at hex hnew
    have hblt : b < w.heap.size := (Array.getElem?_eq_some_iff.1 hh).1
    have hrow : (w.setRow b cw.toArray).heap[b]? = some (.cells cw.toArray e (0, 0)) := by rw [setRow_heap w b cur cw.toArray e (0, 0) hh]
    have hother : ∀ k, k ≠ b → (w.setRow b cw.toArray).heap[k]? = w.heap[k]? := fun k hk => setRow_other w b k cw.toArray hk
    have hks : Kept (fun k => k < w.heap.size ∧ k ≠ b) w (w.setRow b cw.toArray) :=
      ⟨rfl, rfl, rfl, by simp, fun k hk => hother k hk.2, fun k hk => (hother k (fun e => by rw [e, hh] at hk; exact nomatch hk)).trans hk⟩
    have hblk : AObj.blk (.arr e 1 (l.map cf) none) (Eo 0) b := by rw [hE]
    have hkeep : Keeps Z w Z (w.setRow b cw.toArray) := fun c k h => ⟨h, keep_heap (hother c fun e => hnz b k (by rw [hE]; rfl) (e ▸ h))⟩
    refine wp_value hex (hnext _ Z _ Eo (effpost_at hg hzl hblk (fun c h => by rw [hE] at h; cases h; rfl) hks (fun c => hnz b c (by rw [hE]; rfl)) ?_ arr_keep (.c _ _ (.v _))))
    refine arr_ok (sz := 1) (xs := mix xs p q n) hcf Nat.one_pos ?_ (fun j' m a c ha hc => ?_) hnz
    · rw [hE]
      refine ⟨by rw [mix_len (by omega) (by omega), mix_len hpn hqn]; omega, .inr ⟨b, K, cw.toArray, by rw [mix_len hpn hqn], Nat.zero_le _, hrow, by rw [mix_len hpn hqn]; exact hcap, hmax, by simpa using hnew.2, ?_⟩⟩
      rw [mix_len hpn hqn, Nat.mul_one]
      exact hnew.1
    · have hm : m = 0 := by
        have := (List.getElem?_eq_some_iff.1 hc).1
        rw [hcf] at this; omega
      subst hm
      rw [mix_get hpn hqn] at ha
      have key : ∀ r : Nat, l[r]? = some a → c.atom = true ∧ ∃ u, xs[r]? = some u ∧ Rep Z (w.setRow b cw.toArray) c u := fun r hr => by
        have hd : (l.map cf)[r]? = some (cf a) := by rw [List.getElem?_map, hr]; rfl
        obtain ⟨a1, u, a2, a3⟩ := hcells r _ (by simpa using (List.getElem?_eq_some_iff.1 hr).1) hd 0 c hc
        simp only [Nat.mul_one, Nat.add_zero] at a2
        exact ⟨a1, u, a2, (a3.closed (noRs_get (hfoc.2 r (cf a) hd (fun _ _ h => nomatch h)) hc)).keep hkeep⟩
      simp only [Nat.mul_one, Nat.add_zero]
      rw [mix_get (by omega) (by omega)]
      split at ha
      · rename_i h1; rw [if_pos h1]; exact key _ ha
      · rename_i h1
        rw [if_neg h1]
        split at ha
        · rename_i h2; rw [if_pos h2]; exact key _ ha
        · rename_i h2; rw [if_neg h2]; exact key _ ha
end
end Go.Abs
