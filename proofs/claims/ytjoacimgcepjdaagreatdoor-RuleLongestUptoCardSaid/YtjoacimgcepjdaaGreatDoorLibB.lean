/- Contracts of strings.Builder over a builder of the call's own. -/
import Derived.Test.YtjoacimgcepjdaaGreatDoorAbsBld
import Derived.Test.YtjoacimgcepjdaaGreatDoorLibL
import Derived.Lib.UnsafeStr
namespace Go.Proofs.YtjoacimgcepjdaaGreatDoor
open Go Go.Abs Go.RowKit
theorem kept_freeze {S : Nat → Prop} {a w : World} (h : Kept S a w) {g n : Nat} (hS : ¬ S g) {c : Array Value} {e : TypeId} {fz : Nat × Nat} (hc : w.heap[g]? = some (.cells c e fz)) : Kept S a (w.freeze ⟨g, 0, none⟩ n) := by
  have hk : ∀ k, k ≠ g → (w.freeze ⟨g, 0, none⟩ n).heap[k]? = w.heap[k]? := fun k hk => by
    unfold World.freeze
    split
    · rfl
    · simp [Array.getElem?_modify, Ne.symm hk]
  have hsz : (w.freeze ⟨g, 0, none⟩ n).heap.size = w.heap.size := by
    unfold World.freeze
    split <;> simp
  have ho : (w.freeze ⟨g, 0, none⟩ n).os = w.os ∧ (w.freeze ⟨g, 0, none⟩ n).tape = w.tape ∧ (w.freeze ⟨g, 0, none⟩ n).output = w.output := by
    unfold World.freeze
    split <;> exact ⟨rfl, rfl, rfl⟩
  exact h.trans ⟨ho.1, ho.2.1, ho.2.2, by omega, fun k hks => hk k fun e => hS (e ▸ hks), fun k hkd => by
    by_cases hkg : k = g
    · rw [hkg, hc] at hkd; exact nomatch hkd
    · rw [hk k hkg]; exact hkd⟩
set_option maxHeartbeats 2000000 in
set_option maxRecDepth 100000 in
theorem str_some (b g cap : Nat) (p : Value) (l : List UInt8) (cur : Array Value) (w : World) (S : Nat → Prop) (hS : ¬ S g) (h0 : l ≠ []) (hbk : w.heap[b]? = some (.cells #[p, .slice (some ⟨g, 0, none⟩) l.length cap] 59 (0, 0))) (hown : w.ownsRow 0 5 1 (.slice (some ⟨g, 0, none⟩) l.length cap) l.length (Lib.byteCells l))
    (hg : w.heap[g]? = some (.cells cur 5 (0, 0))) (hnc : l.length ≤ cap) (hcm : cap ≤ maxLen) (hcs : cur.size = cap * 1) :
    Calls Tryz.prog 32 #[.pointer (some ⟨b, 0, none⟩)] w fun e w' => e = .returned (.string ⟨l.toArray⟩) ∧ Kept S w w' := by
  have L := Tryz.lays169
  have X := Tryz.Builder_Extra_169
  have hl0 : l.length ≠ 0 := by simpa using h0
  have c1 : w.drew.cell? ⟨b, 1, none⟩ = some (.slice (some ⟨g, 0, none⟩) l.length cap) := by
    have : w.drew.heap[b]? = some (.cells #[p, .slice (some ⟨g, 0, none⟩) l.length cap] 59 (0, 0)) := hbk
    rw [Lib.cell_of_heap this]; rfl
  have hSD : (Builtin.unsafeSliceData_ #[57] 87 #[.slice (some ⟨g, 0, none⟩) l.length cap]).run Tryz.prog w.drew = .ok (.pointer (some ⟨g, 0, none⟩)) w.drew :=
    Lib.run_unsafeSliceData_row _ _ _ _ _ _ (by omega)
  have hUS : (Builtin.unsafeString_ #[87, 3] 9 #[.pointer (some ⟨g, 0, none⟩), .int .i64 l.length]).run Tryz.prog w.drew = .ok (.string ⟨l.toArray⟩) (w.drew.freeze ⟨g, 0, none⟩ l.length) := by
    refine Lib.run_unsafeString_row w.drew 87 3 9 5 L.t127 X.cellsByte g cur.size (by have hg' : w.drew.heap[g]? = some (.cells cur 5 (0, 0)) := hg; simp [World.shape?, hg']) l h0 (by omega) (by unfold maxLen at hcm; omega) ?_
    intro j x hx
    exact hown.cells (g := g) rfl j (.int .u8 x.toNat) (by simp [Lib.byteCells, hx])
  have mixed := L.mixed
  go_enter Tryz.func32, Tryz.ntmps32
  go_wp2
  go_region_o
  all_goals (go_wp2; go_ret; exact ⟨rfl, kept_freeze (Kept.refl _ _).drew hS (w := w.drew) hg⟩)
theorem us_none (W : World) (q : Option Addr) : (Builtin.unsafeString_ #[87, 3] 9 #[.pointer q, .int .i64 0]).run Tryz.prog W = .ok (.string .empty) W := Lib.run_unsafeString_none W _ _ _ q
set_option maxHeartbeats 2000000 in
set_option maxRecDepth 100000 in
theorem str_nil (b : Nat) (p : Value) (w : World) (S : Nat → Prop) (hbk : w.heap[b]? = some (.cells #[p, .slice none 0 0] 59 (0, 0))) :
    Calls Tryz.prog 32 #[.pointer (some ⟨b, 0, none⟩)] w fun e w' => e = .returned (.string ⟨#[]⟩) ∧ Kept S w w' := by
  have hUS := us_none
  have c1 : w.drew.cell? ⟨b, 1, none⟩ = some (.slice none 0 0) := by
    have : w.drew.heap[b]? = some (.cells #[p, .slice none 0 0] 59 (0, 0)) := hbk
    rw [Lib.cell_of_heap this]; rfl
  have hSD : (Builtin.unsafeSliceData_ #[57] 87 #[.slice none 0 0]).run Tryz.prog w.drew = .ok (.pointer none) w.drew := rfl
  have mixed := Tryz.lays169.mixed
  go_enter Tryz.func32, Tryz.ntmps32
  go_wp2
  go_region_o
  all_goals (go_wp2; go_ret; exact ⟨rfl, (Kept.refl _ _).drew⟩)
set_option maxHeartbeats 2000000 in
set_option maxRecDepth 100000 in
theorem str_noroom (b g : Nat) (p : Value) (cur : Array Value) (w : World) (S : Nat → Prop) (hS : ∀ k, S k → k < w.heap.size) (hbk : w.heap[b]? = some (.cells #[p, .slice (some ⟨g, 0, none⟩) 0 0] 59 (0, 0))) (hg : w.heap[g]? = some (.cells cur 5 (0, 0))) :
    Calls Tryz.prog 32 #[.pointer (some ⟨b, 0, none⟩)] w fun e w' => e = .returned (.string ⟨#[]⟩) ∧ Kept S w w' := by
  have hUS := us_none
  have L := Tryz.lays169
  have hlt : b < w.heap.size := by
    rcases Nat.lt_or_ge b w.heap.size with h' | h'
    · exact h'
    · simp [Array.getElem?_eq_none h'] at hbk
  have c1 : w.drew.cell? ⟨b, 1, none⟩ = some (.slice (some ⟨g, 0, none⟩) 0 0) := by
    have : w.drew.heap[b]? = some (.cells #[p, .slice (some ⟨g, 0, none⟩) 0 0] 59 (0, 0)) := hbk
    rw [Lib.cell_of_heap this]; rfl
  have hSD : (Builtin.unsafeSliceData_ #[57] 87 #[.slice (some ⟨g, 0, none⟩) 0 0]).run Tryz.prog w.drew = .ok (.pointer (some ⟨w.drew.heap.size, 0, none⟩)) (w.drew.alloc (.view ⟨g, 0, none⟩ 5)) :=
    Lib.run_unsafeSliceData_zero w.drew _ _ 5 L.t127 ⟨g, 0, none⟩ 0 (5, cur.size) (by have hg' : w.drew.heap[g]? = some (.cells cur 5 (0, 0)) := hg; simp [World.shape?, hg'])
  have c2 : (w.drew.alloc (.view ⟨g, 0, none⟩ 5)).cell? ⟨b, 1, none⟩ = some (.slice (some ⟨g, 0, none⟩) 0 0) := by
    have : (w.drew.alloc (.view ⟨g, 0, none⟩ 5)).heap[b]? = _ := (Lib.alloc_old w.drew _ b hlt).trans hbk
    rw [Lib.cell_of_heap this]; rfl
  have c3 : (w.alloc (.view ⟨g, 0, none⟩ 5)).drew.cell? ⟨b, 1, none⟩ = some (.slice (some ⟨g, 0, none⟩) 0 0) := c2
  have c0 : w.cell? ⟨b, 1, none⟩ = some (.slice (some ⟨g, 0, none⟩) 0 0) := c1
  have mixed := L.mixed
  go_enter Tryz.func32, Tryz.ntmps32
  go_wp2
  go_region_o
  all_goals (go_wp2; go_ret; exact ⟨rfl, (Kept.refl _ _).drew.alloc hS _⟩)
set_option maxHeartbeats 2000000 in
set_option maxRecDepth 100000 in
theorem str_room (b g cap : Nat) (p : Value) (w : World) (S : Nat → Prop) (hc0 : cap ≠ 0) (hbk : w.heap[b]? = some (.cells #[p, .slice (some ⟨g, 0, none⟩) 0 cap] 59 (0, 0))) :
    Calls Tryz.prog 32 #[.pointer (some ⟨b, 0, none⟩)] w fun e w' => e = .returned (.string ⟨#[]⟩) ∧ Kept S w w' := by
  have hUS := us_none
  have c1 : w.drew.cell? ⟨b, 1, none⟩ = some (.slice (some ⟨g, 0, none⟩) 0 cap) := by
    have : w.drew.heap[b]? = some (.cells #[p, .slice (some ⟨g, 0, none⟩) 0 cap] 59 (0, 0)) := hbk
    rw [Lib.cell_of_heap this]; rfl
  have hSD : (Builtin.unsafeSliceData_ #[57] 87 #[.slice (some ⟨g, 0, none⟩) 0 cap]).run Tryz.prog w.drew = .ok (.pointer (some ⟨g, 0, none⟩)) w.drew :=
    Lib.run_unsafeSliceData_row _ _ _ _ _ _ hc0
  clear hc0
  have mixed := Tryz.lays169.mixed
  go_enter Tryz.func32, Tryz.ntmps32
  go_wp2
  go_region_o
  all_goals (go_wp2; go_ret; exact ⟨rfl, (Kept.refl _ _).drew⟩)
theorem bld_string {b : Nat} {p v : Value} {l : Str} {w : World} (hbk : w.heap[b]? = some (.cells #[p, v] 59 (0, 0))) (hown : w.ownsRow 0 5 1 v l.length (Lib.byteCells l)) :
    Calls Tryz.prog 32 #[.pointer (some ⟨b, 0, none⟩)] w fun e w' => e = .returned (.string ⟨⟨l⟩⟩) ∧ Kept (fun k => k < w.heap.size ∧ v.ownBlock ≠ some k) w w' := by
  have ho := hown
  rcases hown.2 with ⟨rfl, h0⟩ | ⟨g, cap, cur, rfl, hbg, hg, hnc, hcm, hcs, htake⟩
  · have : l = [] := List.eq_nil_of_length_eq_zero h0
    subst this
    exact str_nil b p w _ hbk
  · by_cases h0 : l = []
    · subst h0
      by_cases hc : cap = 0
      · subst hc
        exact str_noroom b g p cur w _ (fun k h => h.1) hbk hg
      · exact str_room b g cap p w _ hc hbk
    · exact str_some b g cap p l cur w _ (fun h => h.2 rfl) h0 hbk ho hg hnc hcm hcs
def bString_XS (_ : Bool) (l : List Int) : Option Str := bif s2b (b2s l) == l then some (b2s l) else none
theorem spent_keep {os : List (Nat × AObj)} {Eo : Nat → Value} (h0 : ∀ t, (objL os t).1 = 0) {n : Nat} : ObjKeep (objL os) Eo (objL (List.replicate n (1, .spent))) Eo := by
  have hl : ∀ t, objL (List.replicate n (1, AObj.spent)) t = if t < n then (1, .spent) else (0, .none) := fun t => by
    unfold objL
    rw [List.getElem?_replicate]
    by_cases ht : t < n
    · rw [if_pos ht, if_pos ht]
    · rw [if_neg ht, if_neg ht]
  exact
    { gen := fun t => by rw [h0]; exact Nat.zero_le _
      var := fun t g _ hlv => by
        obtain ⟨cs, hlv⟩ := hlv
        rw [hl] at hlv
        split at hlv <;> simp at hlv
      tok := fun t g el s _ hlv => by rw [hl] at hlv; split at hlv <;> simp at hlv
      arr := fun t g el sz ds foc _ hlv => by rw [hl] at hlv; split at hlv <;> simp at hlv
      map := fun t g es _ hlv => by rw [hl] at hlv; split at hlv <;> simp at hlv }
theorem bString_Xh {q : Bool} {l : List Int} {r : Str} (h : bString_XS q l = some r) :
    EffFn Tryz.prog Gw 32 [.pm 0 0 0] [(0, .varx [.bp 59 q, .rs 1 0]), (0, .arr 5 1 (l.map cInt_u8) none)] (.c (S r)) [(1, .spent), (1, .spent)] := by
  unfold bString_XS at h
  refine gpos h fun hq h => ?_
  obtain rfl := Option.some.inj h
  have hq : s2b (b2s l) = l := by simpa using hq
  refine ⟨⟨_, Tryz.func32, by decide, rfl⟩, fun Z w Eo vs hg hzl hlen hargs hgs => ?_⟩
  match vs, hlen with
  | [x], _ =>
    have hx := hargs 0 _ x rfl rfl
    have o0 : ObjOk Z w (objL [(0, AObj.varx [.bp 59 q, .rs 1 0]), (0, .arr 5 1 (l.map cInt_u8) none)]) Eo (Eo 0) (.varx [.bp 59 q, .rs 1 0]) := hg.ok 0
    have o1 : ObjOk Z w (objL [(0, AObj.varx [.bp 59 q, .rs 1 0]), (0, .arr 5 1 (l.map cInt_u8) none)]) Eo (Eo 1) (.arr 5 1 (l.map cInt_u8) none) := hg.ok 1
    obtain ⟨b, el, arr, he, hh, hs, hc, hz, hbp⟩ := o0
    have hxe : x = .pointer (some ⟨b, 0, none⟩) := by
      cases hx with
      | pm _ _ _ _ _ hgn hl =>
        obtain ⟨b', h1, h2⟩ := hl ⟨_, .inr (.inr rfl)⟩
        rw [he] at h1
        simp at h1
        rw [h2, h1]
    subst hxe
    obtain ⟨rfl, h0⟩ := hbp 0 59 q rfl
    obtain ⟨-, v, hv, hrv⟩ := hc 1 (.rs 1 0) rfl
    have hv1 : Eo 1 = v := by
      cases hrv with
      | one h => cases h with
        | cl h => cases h
        | rs _ _ _ hs hgn hp => exact hp _ _ _ _ rfl
    have hs2 : arr.size = 2 := hs
    have hbk : ∃ p, w.heap[b]? = some (.cells #[p, v] 59 (0, 0)) := by
      have ha : arr = #[bif q then Eo 0 else .pointer none, v] := by
        apply Array.ext'
        apply List.ext_getElem?
        intro i
        match i with
        | 0 => simpa using h0
        | 1 => simpa using hv
        | i + 2 => simp [hs2]
      exact ⟨_, by rw [hh, ha]⟩
    obtain ⟨p, hbk⟩ := hbk
    obtain ⟨xs, hszp, hown, hfoc, hlens, hcells, hnz⟩ := o1
    rw [hv1] at hown hnz
    have hbl : (b2s l).length = l.length := by simp [b2s]
    have hxs : xs = Lib.byteCells (b2s l) := by
      have hxl : xs.length = l.length := by simpa using hown.1
      apply List.ext_getElem?
      intro i
      by_cases hi : i < l.length
      · have hd : (l.map cInt_u8)[i]? = some (cInt_u8 l[i]) := by simp [hi]
        obtain ⟨-, u, q2, q3⟩ := hcells i (cInt_u8 l[i]) (by simpa using hi) hd 0 _ rfl
        have hu : u = .int .u8 l[i] := repv (q3.closed rfl)
        rw [Nat.mul_one, Nat.add_zero] at q2
        rw [q2, hu]
        have h3 : l[i]? = ((s2b (b2s l))[i]?) := by rw [hq]
        unfold s2b at h3
        rw [List.getElem?_map, List.getElem?_eq_getElem hi, List.getElem?_eq_getElem (by rw [hbl]; exact hi)] at h3
        have h4 : l[i] = (((b2s l)[i]'(by rw [hbl]; exact hi)).toNat : Int) := Option.some.inj h3
        rw [h4]
        simp [Lib.byteCells, hbl, hi]
      · rw [List.getElem?_eq_none (by omega), List.getElem?_eq_none (by simp [Lib.byteCells, hbl]; omega)]
    rw [hxs, List.length_map, ← hbl] at hown
    refine (bld_string hbk hown).mono fun e w' ⟨h1, h2⟩ => ⟨_, Z, Eo, h1, ?_⟩
    have hgb : ∀ k, ¬ GB [(0, AObj.varx [.bp 59 q, .rs 1 0]), (0, .arr 5 1 (l.map cInt_u8) none)] Eo k → v.ownBlock ≠ some k := fun k hk hv' => hk ⟨1, by
      show (AObj.arr _ _ _ _).blk (Eo 1) = some k
      rw [arr_blk, hv1]; exact hv'⟩
    have hno : ∀ (j c : Nat), (objL [(1, AObj.spent), (1, AObj.spent)] j).2.blk (Eo j) ≠ some c := fun j c => by
      match j with
      | 0 => simp [objL, AObj.blk]
      | 1 => simp [objL, AObj.blk]
      | j + 2 => simp [objL, AObj.blk]
    have hkeep : Keeps Z w Z w' := fun c o hzc => ⟨hzc, keep_heap (h2.block c ⟨hzl c o hzc, fun hv' => hnz c o hv' hzc⟩)⟩
    exact
      { res := .c _ _ (.v _)
        grp := ⟨fun j => by match j with | 0 => trivial | 1 => trivial | j + 2 => trivial, fun j j' c _ h _ => absurd h (hno j c)⟩
        keeps := hkeep
        zlt := fun c o hzc => Nat.lt_of_lt_of_le (hzl c o hzc) h2.size
        znew := fun _ _ h => .inl h
        kept := h2.mono fun k hk => ⟨hk.1, hgb k hk.2⟩
        own := fun c ⟨j, hj⟩ => absurd hj (hno j c)
        ok := spent_keep (n := 2) fun t => by match t with | 0 => rfl | 1 => rfl | t + 2 => rfl }
def bCheck_XS (_ : Bool) (l : List Int) : Option (List Int) := some l
theorem bCheck_Xh {q : Bool} {l r : List Int} (h : bCheck_XS q l = some r) :
    EffFn Tryz.prog Gw 54 [.pm 0 0 0] [(0, .varx [.bp 59 q, .rs 1 0]), (0, .arr 5 1 (l.map cInt_u8) none)] (.c (.tup [])) [(0, .varx [.bp 59 true, .rs 1 1]), (1, .arr 5 1 (r.map cInt_u8) none)] := by
  obtain rfl := Option.some.inj h
  exact effn_check ⟨_, Tryz.func54, by decide, rfl⟩ (by decide) (fun b w h1 h2 h3 => Any.Builder_copyCheck_fresh Tryz.lays240 Tryz.Builder_Extra_166.toX72 b w h1 h2 h3) (fun b w h1 => Any.Builder_copyCheck_used Tryz.lays240 Tryz.Builder_Extra_166.toX72 b w h1)
end Go.Proofs.YtjoacimgcepjdaaGreatDoor
