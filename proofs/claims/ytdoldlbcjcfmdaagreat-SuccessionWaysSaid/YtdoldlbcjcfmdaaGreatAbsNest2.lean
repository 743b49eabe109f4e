/-
  Rows are put back, sorted in their place, appended; new slices of rows.
-/
import Derived.Test.YtdoldlbcjcfmdaaGreatAbsNest
namespace Go.Abs
open Go Go.RowKit
section
variable {P : Program} {G : World → Prop} {eo ei sz : Nat} {rows : List (List (List CV))} {foc : Option Nat}
theorem nest_blk0 {Eo : Value} {cs : List CV} {ov : Value} {vs : List Value} (hE : Eo = .tuple (ov :: vs).toArray) {c : Nat} (hc : (AObj.ext (nestK eo ei sz rows foc) cs).blk Eo c) : nestBlk foc ov vs c := by
  obtain ⟨ov', vs', he, hc⟩ := hc
  rw [hE] at he
  obtain ⟨rfl, rfl⟩ := tup_inj he
  exact hc
theorem fill_blk {ov v : Value} {vs : List Value} {n c : Nat} (h : nestBlk none ov (vs.set n v) c) : nestBlk (some n) ov vs c ∨ v.ownBlock = some c := by
  rcases h with h | ⟨i, u, _, hu, hc⟩
  · exact .inl (.inl h)
  · by_cases hi : i = n
    · subst hi
      rw [List.getElem?_set] at hu
      split at hu
      · split at hu
        · cases hu; exact .inr hc
        · cases hu
      · rename_i h; exact absurd rfl h
    · rw [List.getElem?_set_ne (Ne.symm hi)] at hu
      exact .inl (.inr ⟨i, u, fun e => hi (by injection e with e; exact e.symm), hu, hc⟩)
/-- Two objects, of which the second one is used up. -/
theorem effpost_merge {Z Z' : Zone} {w w' : World} {g0 : Nat} {o0 o1 o' : AObj} {Eo Eo' : Nat → Value} {r : SV} {x : Value} (hzlt : ∀ b o, Z' b o → b < w'.heap.size) (hznew : ∀ b o, Z' b o → Z b o ∨ w.heap.size ≤ b ∨ GB [(0, o0), (0, o1)] Eo b) (hblk : ∀ c, o'.blk (Eo' 0) c → w.heap.size ≤ c ∨ o0.blk (Eo 0) c ∨ o1.blk (Eo 1) c)
    (hkeep : Keeps Z w Z' w') (hk : Kept (SG w [(0, o0), (0, o1)] Eo) w w') (hok : ObjOk Z' w' (objL [(g0, o'), (1, .spent)]) Eo' (Eo' 0) o') (hsk : 0 < g0 ∨ (face (Eo' 0) = face (Eo 0) ∧ ExtKind o0 o')) (hr : RepS Z' w' (objL [(g0, o'), (1, .spent)]) Eo' r x) :
    EffPost Z w [(0, o0), (0, o1)] Eo Z' w' [(g0, o'), (1, .spent)] Eo' r x :=
  have only : ∀ j c, (objL [(g0, o'), (1, .spent)] j).2.blk (Eo' j) c → j = 0 ∧ o'.blk (Eo' 0) c := fun j c h => by
    rw [nest_two] at h
    by_cases h0 : j = 0
    · subst h0; exact ⟨rfl, h⟩
    · rw [if_neg h0] at h
      by_cases h1 : j = 1
      · subst h1; rw [if_pos rfl] at h; simp [AObj.blk] at h
      · rw [if_neg h1] at h; simp [AObj.blk] at h
  { res := hr
    grp := ⟨fun j => by
        rw [nest_two]
        by_cases h0 : j = 0
        · subst h0; exact hok
        · rw [if_neg h0]
          by_cases h1 : j = 1
          · rw [if_pos h1]; trivial
          · rw [if_neg h1]; trivial,
      fun j j' c hne h1 h2 => hne ((only j c h1).1.trans (only j' c h2).1.symm)⟩
    keeps := hkeep
    zlt := hzlt
    znew := hznew
    kept := hk
    own := fun c ⟨j, h⟩ => by
      rcases hblk c (only j c h).2 with h | h | h
      · exact .inl h
      · exact .inr ⟨0, h⟩
      · exact .inr ⟨1, h⟩
    ok := okeep fun t => by
      rw [nest_two, nest_two]
      by_cases h0 : t = 0
      · subst h0
        refine ⟨Nat.zero_le _, ?_⟩
        rcases hsk with h | h
        · exact .inl h
        · exact .inr (.inr (.inr (.inr h)))
      · rw [if_neg h0, if_neg h0]
        by_cases h1 : t = 1
        · rw [if_pos h1, if_pos h1]; exact ⟨Nat.zero_le _, .inl Nat.zero_lt_one⟩
        · rw [if_neg h1, if_neg h1]; exact ⟨Nat.le_refl _, .inr (.inl rfl)⟩ }
/-- A row is put back. -/
theorem eff_nput {t : TypeId} {i : TI} (hi : TOk1 P t i) (h1s : i.size = 1) {n : Nat} (hn : decide (n < rows.length) = true) {r : List (List CV)} {cs : List CV} {x y : Operand} {ty : TypeId} :
    EffOp P G (.store t x y) ty [.xf 0 0 (cellOf n), .rs 1 0] [(0, .ext (nestK eo ei sz rows (some n)) cs), (0, .arr ei sz r none)] .any [(0, .ext (nestK eo ei sz (rows.set n r) none) []), (1, .spent)] := by
  intro Z w Eo ac o next Q ho hty hg hzl hl hargs hgs hnext
  have hn := of_decide_eq_true hn
  have hx := hargs 0 (.xf 0 0 (cellOf n)) x rfl rfl
  have hy := hargs 1 (.rs 1 0) y rfl rfl
  obtain ⟨us, ov, vs, _, _, hE, hN, hnz⟩ := grp_nest hg
  have hxv := xf_face hx rfl hE
  have hE1 : Eo 1 = ac.eval y := by
    generalize ac.eval y = v at hy
    cases hy with | rs _ _ _ _ _ hp => exact hp _ _ _ _ rfl
  have ho1 : ObjOk Z w (objL [(0, AObj.ext (nestK eo ei sz rows (some n)) cs), (0, .arr ei sz r none)]) Eo (Eo 1) (.arr ei sz r none) := hg.ok 1
  rw [hE1] at ho1
  have hrow := RowOk.of_arr ho1
  generalize hv : ac.eval y = v at hE1 ho1 hrow
  obtain ⟨a0, l0, k0, hvs⟩ := hrow.isSl
  have hvc : v.cells = #[v] := by rw [hvs]; rfl
  have hv1 : v.oneCell' = true := by rw [hvs]; rfl
  have hvz : ∀ c o, v.ownBlock = some c → ¬ Z c o := by
    obtain ⟨_, _, _, _, _, _, h⟩ := ho1
    exact h
  obtain ⟨xs, ⟨hxl, hown⟩, hcell, _⟩ := hN.out
  rcases hown with ⟨_, h0⟩ | ⟨b, cap, cur, hb, _, hh, hnc, hcm, hcs, htake⟩
  · omega
  rw [Nat.mul_one] at hcs
  have hfit : n + 1 ≤ cur.size := by omega
  have hrun := run_storeCells_at (P := P) b n eo [v] 0 cur w hh (by simpa using hfit) (by intro u hu; simp at hu; subst hu; exact hv1)
  generalize hcur' : (cur.toList.take (n + 0) ++ [v] ++ cur.toList.drop (n + 0 + [v].length)).toArray = cur' at hrun
  have hrs : cur'.size = cur.size := by rw [← hcur']; exact row_size (vs := [v]) (by simpa using hfit)
  have hrg : ∀ j, cur'[j]? = if n ≤ j ∧ j < n + 1 then [v][j - n]? else cur[j]? := fun j => by rw [← hcur']; exact row_get (vs := [v]) (by simpa using hfit) j
  have hex : (execOp ac.eval o).run P w = .ok .skip (w.setRow b cur') := by
    obtain ⟨dst, op, type, pos, after, guard⟩ := o
    simp only at ho
    subst ho
    simp only [execOp, hxv, hb, cellOf, Nat.zero_add, hv, Instr.storeAt, Instr.sureAddr, storeVar, Sem.run_bind, Sem.run_pure, Result.andThen_ok, hi.sizeOf w, hvc]
    rw [if_neg (by rw [h1s]; simp)]
    simp [hrun]
  have hbo : ov.ownBlock = some b := by rw [hb]; rfl
  have ap1 : ∀ c, nestBlk (some n) ov vs c → v.ownBlock ≠ some c := fun c hc hvc => by
    refine hg.apart 0 1 c (by decide) ⟨ov, vs, hE, hc⟩ ?_
    show (AObj.arr ei sz r none).blk (Eo 1) c
    rw [arr_blk, hE1]; exact hvc
  have hother : ∀ k, k ≠ b → (w.setRow b cur').heap[k]? = w.heap[k]? := fun k hk => setRow_other w b k cur' hk
  have hkeep : Keeps Z w Z (w.setRow b cur') := fun c o' hz => ⟨hz, keep_heap (hother c fun e => hnz c o' (.inl (by rw [hbo, e])) hz)⟩
  have hvb : v.ownBlock ≠ some b := ap1 b (.inl hbo)
  have hrow' : RowOk Z (w.setRow b cur') ei sz v r := hrow.keep hkeep fun c hc => hother c fun e => hvb (by rw [hc, e])
  have hN' : NestOk eo ei sz (rows.set n r) none Z (w.setRow b cur') [] ov (vs.set n v) := by
    refine hN.fill hn hkeep (xs' := cur'.toList.take rows.length) ⟨?_, .inr ⟨b, cap, cur', hb, Nat.zero_le _, setRow_heap w b cur cur' eo (0, 0) hh, hnc, hcm, by rw [hrs, hcs, Nat.mul_one], by rw [Nat.mul_one]⟩⟩ (fun i u hi hu => ?_) ?_ hrow' (fun i u c hi hu hc => ⟨hother c fun e => ?_, ap1 c (.inr ⟨i, u, fun e => hi (by injection e with e; exact e.symm), hu, hc⟩)⟩) (fun c hc hc' => ap1 c (.inl hc') hc)
    · have h9 : cur'.toList.length = cap := by rw [Array.length_toList, hrs, hcs]
      rw [List.length_take, h9]; omega
    · have hil : i < rows.length := by rw [← hN.len]; exact (List.getElem?_eq_some_iff.1 hu).1
      have := hcell i u (fun e => hi (by injection e with e; exact e.symm)) hu
      rw [← htake, Nat.mul_one, List.getElem?_take, if_pos hil] at this
      rw [List.getElem?_take, if_pos hil, Array.getElem?_toList, hrg, if_neg (by omega), ← Array.getElem?_toList]
      exact this
    · rw [List.getElem?_take, if_pos hn, Array.getElem?_toList, hrg, if_pos (by omega)]
      simp
    · subst e
      exact hN.apo i u c (fun e => hi (by injection e with e; exact e.symm)) hu hc hbo
  let Er : Nat → Value := fun j => if j = 0 then .tuple (ov :: vs.set n v).toArray else undef
  have hE0 : Er 0 = .tuple (ov :: vs.set n v).toArray := rfl
  refine wp_skip' hex (hnext _ Z _ Er (effpost_merge (fun c o' h => by simpa [World.setRow] using hzl c o' h) (fun _ _ h => .inl h) (fun c hc => ?_) hkeep ⟨rfl, rfl, rfl, by simp [World.setRow], fun k hk => hother k fun e => hk.2 ?_, fun k hk => setRow_dfr w b k cur' hk⟩ ?_ (.inr ⟨by rw [hE0, hE]; rfl, _, _, _, _, rfl, rfl⟩) (.any _)))
  · rcases fill_blk (nest_blk0 (cs := []) hE0 hc) with h | h
    · exact .inr (.inl ⟨ov, vs, hE, h⟩)
    · exact .inr (.inr (by rw [arr_blk, hE1]; exact h))
  · exact ⟨0, ⟨ov, vs, hE, .inl (by rw [hbo, e])⟩⟩
  · refine ⟨[], rfl, fun j c hj => by simp at hj, ⟨ov, vs.set n v, hE0, hN'⟩, fun c o' hc hz => ?_⟩
    rcases fill_blk (nest_blk0 (cs := []) hE0 hc) with h | h
    · exact hnz c o' h hz
    · exact hvz c o' h hz
/-- A function that writes a row in its place, and the row goes back. -/
theorem effn_nrow {f : FuncId} {n : Nat} {r r' : List (List CV)} (hn : decide (n < rows.length) = true) (h : EffFn P G f [.rs 0 0] [(0, .arr ei sz r none)] (.c (.tup [])) [(0, .arr ei sz r' none)]) :
    EffFn P G f [.rs 1 0] [(0, .ext (nestK eo ei sz rows (some n)) [.rs 1 0]), (0, .arr ei sz r none)] (.c (.tup [])) [(0, .ext (nestK eo ei sz (rows.set n r') none) []), (1, .spent)] := by
  refine ⟨h.1, fun Z w Eo vals hg hzl hl hargs hgs => ?_⟩
  have hn := of_decide_eq_true hn
  match vals, hl with
  | [v], _ =>
    have hy := hargs 0 (.rs 1 0) v rfl rfl
    obtain ⟨us, ov, vs, hul, hus, hE, hN, hnz⟩ := grp_nest hg
    have hE1 : Eo 1 = v := by cases hy with | rs _ _ _ _ _ hp => exact hp _ _ _ _ rfl
    have ho1 : ObjOk Z w (objL [(0, AObj.ext (nestK eo ei sz rows (some n)) [.rs 1 0]), (0, .arr ei sz r none)]) Eo (Eo 1) (.arr ei sz r none) := hg.ok 1
    rw [hE1] at ho1
    have hrow := RowOk.of_arr ho1
    obtain ⟨a0, l0, k0, hvs⟩ := hrow.isSl
    have hvz : ∀ c o, v.ownBlock = some c → ¬ Z c o := by
      obtain ⟨_, _, _, _, _, _, h⟩ := ho1
      exact h
    -- the cell holds the row
    obtain ⟨u, hu, hru⟩ := hus 0 _ rfl
    have huv : u = v := by
      cases hru with
      | one hr => cases hr with
        | cl hr => cases hr
        | rs _ _ _ _ _ hp => exact (hp _ _ _ _ rfl).symm.trans hE1
    subst huv
    obtain ⟨xs, hown, hcell, hfo⟩ := hN.out
    have hxn : xs[n]? = some u := by
      rcases hfo n rfl with h0 | ⟨u', h0, h1⟩
      · rw [h0] at hu; simp at hu
      · rw [h0] at hu; simp at hu; rw [hu] at h1; exact h1
    have ap1 : ∀ c, nestBlk (some n) ov vs c → u.ownBlock ≠ some c := fun c hc hvc => by
      refine hg.apart 0 1 c (by decide) ⟨ov, vs, hE, hc⟩ ?_
      show (AObj.arr ei sz r none).blk (Eo 1) c
      rw [arr_blk, hE1]; exact hvc
    let E2 : Nat → Value := fun _ => u
    have gb1 : ∀ c, GB [(0, AObj.arr ei sz r none)] E2 c → u.ownBlock = some c := fun c ⟨j, hj⟩ => by
      rw [objL_one] at hj
      by_cases h0 : j = 0
      · rw [if_pos h0] at hj; rw [arr_blk] at hj; exact hj
      · rw [if_neg h0] at hj; simp [AObj.blk] at hj
    have hg2 : Grp Z w [(0, AObj.arr ei sz r none)] E2 := ⟨fun j => by
        rw [objL_one]
        by_cases h0 : j = 0
        · rw [if_pos h0]; exact hrow.arr hN.pos hvz
        · rw [if_neg h0]; trivial, fun j j' c hne h1 h2 => by
        rw [objL_one] at h1 h2
        by_cases h0 : j = 0
        · by_cases h0' : j' = 0
          · exact hne (h0.trans h0'.symm)
          · rw [if_neg h0'] at h2; simp [AObj.blk] at h2
        · rw [if_neg h0] at h1; simp [AObj.blk] at h1⟩
    have hSG : ∀ k, SG w [(0, AObj.ext (nestK eo ei sz rows (some n)) [.rs 1 0]), (0, .arr ei sz r none)] Eo k → SG w [(0, AObj.arr ei sz r none)] E2 k := fun k hk => ⟨hk.1, fun hb => hk.2 ⟨1, by
      show (AObj.arr ei sz r none).blk (Eo 1) k
      rw [arr_blk, hE1]; exact gb1 k hb⟩⟩
    refine (h.2 Z w E2 [u] hg2 hzl rfl (fun i s x h1 h2 => ?_) (fun w1 hw1 => hgs w1 (hw1.mono hSG))).mono ?_
    · match i, h1, h2 with
      | 0, h1, h2 =>
        simp at h1 h2
        subst h1; subst h2
        exact .rs 0 0 _ ⟨_, _, _, hvs⟩ (Nat.le_refl _) fun _ _ _ _ _ => rfl
      | i + 1, h1, h2 => simp at h1
    rintro e w' ⟨x, Z', E3, rfl, hp⟩
    have hx : x = .tuple #[] := by
      have := hp.res
      cases this with
      | c _ _ h => cases h with
        | tup _ vs hl _ => cases vs with
          | nil => rfl
          | cons => simp at hl
    have hE3 : E3 0 = u := (hp.ok.arr 0 0 ei sz r' none (Nat.le_refl _) rfl).2
    have ho3 : ObjOk Z' w' (objL [(0, AObj.arr ei sz r' none)]) E3 (E3 0) (.arr ei sz r' none) := hp.grp.ok 0
    rw [hE3] at ho3
    have hrow3 := RowOk.of_arr ho3
    have hvz3 : ∀ c o, u.ownBlock = some c → ¬ Z' c o := by
      obtain ⟨_, _, _, _, _, _, h⟩ := ho3
      exact h
    have hold : ∀ c, nestBlk (some n) ov vs c → w'.heap[c]? = w.heap[c]? := fun c hc => by
      obtain ⟨_, _, _, hh⟩ := hN.cell hc
      exact hp.kept.block c ⟨(Array.getElem?_eq_some_iff.1 hh).1, fun hb => ap1 c hc (gb1 c hb)⟩
    have hN' : NestOk eo ei sz (rows.set n r') none Z' w' [] ov (vs.set n u) :=
      hN.fill hn hp.keeps (xs' := xs) (ownsRow_heap hown fun c hc => hold c (.inl hc)) (fun i u' hi hu' => hcell i u' (fun e => hi (by injection e with e; exact e.symm)) hu') hxn hrow3
        (fun i u' c hi hu' hc => by
          have hb : nestBlk (some n) ov vs c := .inr ⟨i, u', fun e => hi (by injection e with e; exact e.symm), hu', hc⟩
          exact ⟨hold c hb, ap1 c hb⟩) (fun c hc hc' => ap1 c (.inl hc') hc)
    let Er : Nat → Value := fun j => if j = 0 then .tuple (ov :: vs.set n u).toArray else undef
    have hE0 : Er 0 = .tuple (ov :: vs.set n u).toArray := rfl
    have g1 : ∀ c, u.ownBlock = some c → (AObj.arr ei sz r none).blk (Eo 1) c := fun c hc => by rw [arr_blk, hE1]; exact hc
    refine ⟨x, Z', Er, rfl, effpost_merge hp.zlt (fun c o' hz => ?_) (fun c hc => ?_) hp.keeps (hp.kept.mono hSG) ?_ (.inr ⟨by rw [hE0, hE]; rfl, _, _, _, _, rfl, rfl⟩) (by rw [hx]; exact .c _ _ (.tup [] [] rfl fun i c x h => by simp at h))⟩
    · rcases hp.znew c o' hz with h | h | h
      · exact .inl h
      · exact .inr (.inl h)
      · exact .inr (.inr ⟨1, g1 c (gb1 c h)⟩)
    · rcases fill_blk (nest_blk0 (cs := []) hE0 hc) with h | h
      · exact .inr (.inl ⟨ov, vs, hE, h⟩)
      · exact .inr (.inr (g1 c h))
    · refine ⟨[], rfl, fun j c hj => by simp at hj, ⟨ov, vs.set n u, hE0, hN'⟩, fun c o' hc hz => ?_⟩
      rcases fill_blk (nest_blk0 (cs := []) hE0 hc) with h | h
      · rcases hp.znew c o' hz with h' | h' | h'
        · exact hnz c o' h h'
        · obtain ⟨_, _, _, hh⟩ := hN.cell h
          have := (Array.getElem?_eq_some_iff.1 hh).1
          omega
        · exact ap1 c h (gb1 c h')
      · exact hvz3 c o' h hz
end
end Go.Abs
