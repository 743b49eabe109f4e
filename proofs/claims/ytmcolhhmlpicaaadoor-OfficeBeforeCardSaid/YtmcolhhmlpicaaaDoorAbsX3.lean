/-
  Soundness of the operations on slices of the call's own that are written: lengths, literals, append.
-/
import Derived.Test.YtmcolhhmlpicaaaDoorAbsX2
namespace Go.Abs
open Go Go.RowKit

section
variable {P : Program} {G : World → Prop} {T : Tab} {Z0 : Base} {w0 : World} {S : Nat → Prop} {n : Nat} {Z Z' : Zone} {E : Nat → Value} {st : St} {a : Act} {w w' : World}

theorem grown_refl (w : World) (r : Option Nat) : w.grownBy w r := ⟨rfl, rfl, rfl, Nat.le_refl _, fun _ _ _ => rfl⟩

/-- A slice that is written is laid into slot d. -/
theorem Inv.arrAt (hI : Inv G Z0 w0 S n Z E st a w) {d : Nat} (hd : inRange n (some d) = true) {x : Value} {el sz : Nat} {ds : List (List CV)} {foc : Option (Nat × List CV)} {obj' : Objs} {g : Nat} (hg : g = (st.obj d).1 + 1)
    (hod : obj' d = (g, .arr el sz ds foc)) (hoo : ∀ t, t ≠ d → obj' t = st.obj t ∨ obj' t = ((st.obj t).1, .spent))
    (hb : Kept S w w') (hk : Keeps Z w Z' w') (hlt : ∀ b o, Z' b o → b < w'.heap.size) (hnew : ∀ b o, Z' b o → Z b o ∨ ¬ S b) (hs : ∃ aa l k, x = .slice aa l k)
    (hown : ObjKeep st.obj E obj' (setE E d x) → ObjOk Z' w' obj' (setE E d x) x (.arr el sz ds foc)) (hnS : ∀ b, x.ownBlock = some b → ¬ S b)
    (hothers : ∀ t, t ≠ d → obj' t = st.obj t → ∀ b, (st.obj t).2.blk (E t) = some b → w'.heap[b]? = w.heap[b]? ∧ (∀ k, Z' b k → Z b k) ∧ x.ownBlock ≠ some b) :
    Inv G Z0 w0 S n Z' (setE E d x) ⟨put st.env (some d) (.rs d g), obj'⟩ (a.put (some d) x) w' := by
  subst hg
  refine hI.renew (fun t => t = d ∨ obj' t ≠ st.obj t) hd hb hk hlt hnew ?_ ?_ ?_ ?_ ?_ ?_ ?_
  · intro t ht
    have h1 : t ≠ d := fun e => ht (.inl e)
    exact ⟨Classical.byContradiction fun e => ht (.inr e), setE_ne E _ h1⟩
  · intro t ht
    by_cases h : t = d
    · subst h; rw [hod]; exact .inl (Nat.lt_succ_self _)
    · rcases hoo t h with h1 | h1
      · rcases ht with ht | ht
        · exact absurd ht h
        · exact absurd h1 ht
      · rw [h1]; exact .inr ⟨rfl, .inl rfl⟩
  · intro hkeep t ht
    by_cases h : t = d
    · subst h; rw [hod, setE_same]; exact hown hkeep
    · rcases hoo t h with h1 | h1
      · rcases ht with ht | ht
        · exact absurd ht h
        · exact absurd h1 ht
      · rw [h1]; trivial
  · intro t ht b hb
    have h1 : t ≠ d := fun e => ht (.inl e)
    have h2 : obj' t = st.obj t := Classical.byContradiction fun e => ht (.inr e)
    obtain ⟨g1, g2, g3⟩ := hothers t h1 h2 b hb
    refine ⟨g1, g2, fun s hs => ?_⟩
    by_cases h : s = d
    · subst h; rw [hod, setE_same, arr_blk]; exact g3
    · rcases hoo s h with h3 | h3
      · rcases hs with hs | hs
        · exact absurd hs h
        · exact absurd h3 hs
      · rw [h3]; simp [AObj.blk]
  · intro t t' b ht ht' hne h1 h2
    by_cases h : t = d
    · have h' : t' ≠ d := fun e => hne (h.trans e.symm)
      rcases hoo t' h' with h3 | h3
      · rcases ht' with ht' | ht'
        · exact absurd ht' h'
        · exact absurd h3 ht'
      · rw [h3] at h2; simp [AObj.blk] at h2
    · rcases hoo t h with h3 | h3
      · rcases ht with ht | ht
        · exact absurd ht h
        · exact absurd h3 ht
      · rw [h3] at h1; simp [AObj.blk] at h1
  · intro t ht b hb'
    by_cases h : t = d
    · subst h; rw [hod, setE_same, arr_blk] at hb'; exact hnS b hb'
    · rcases hoo t h with h1 | h1
      · rcases ht with ht | ht
        · exact absurd ht h
        · exact absurd h1 ht
      · rw [h1] at hb'; simp [AObj.blk] at hb'
  · refine .rs _ _ _ hs ?_ fun _ _ _ _ _ => setE_same _ _ _
    rw [hod]
    exact Nat.le_refl _

/-- The run of an append onto a row of the call's own. -/
theorem app_core {base : Nat} {t ty e : TypeId} {i : TypeInfo} {z : Value} {size : Nat} (ht : P.underlying t = some (.slice e)) (hi : P.info? e = some i) (hz : i.zero = some z)
    (hsize : i.size = size) (hzs : z.cells.size = size) (hsz : 0 < size) {v : Value} {m0 : Nat} {xs : List Value} (hown : w.ownsRow base e size v m0 xs) (hsl : ∃ aa l k, v = .slice aa l k)
    {yv : Value} {m : Nat} {news : List Value} (hl : news.length = m * size) (h1 : ∀ u ∈ news, u.oneCell' = true)
    (hy : (m = 0 ∧ ∃ ya yc, yv = .slice ya 0 yc) ∨ ∃ b c, yv = .slice (some b) m c ∧ 0 < m ∧ ∀ j u, news[j]? = some u → w.cell? (b.add j) = some u)
    (h63 : m0 + m ≤ 9223372036854775807) (hbytes : (m0 + m) * i.bytes ≤ 140737488355328) (hbase : base ≤ w.heap.size) :
    ∃ v' w', (Builtin.append_ #[t, t] ty #[v, yv]).run P w = .ok v' w' ∧ w'.ownsRow base e size v' (m0 + m) (xs ++ news) ∧ w.grownBy w' v.ownBlock ∧
      (v'.ownBlock = v.ownBlock ∨ v'.ownBlock = some w.heap.size) ∧ ∃ aa l k, v' = .slice aa l k := by
  rcases hy with ⟨hm, ya, yc, rfl⟩ | ⟨b, c, rfl, hm, hnews⟩
  · subst hm
    have hnil : news = [] := List.eq_nil_of_length_eq_zero (by simpa using hl)
    subst hnil
    exact ⟨v, w, append_none ht hi hown ya yc, by simpa using hown, grown_refl _ _, .inl rfl, hsl⟩
  · obtain ⟨v', w', hr, ho, hg, _, hb⟩ := append_run (P := P) (ty := ty) (c := c) ht hi hz hsize hzs hsz hown hm hl hnews h1 h63 hbytes hbase
    refine ⟨v', w', hr, ho, hg, hb, ?_⟩
    rcases ho.2 with ⟨he, _⟩ | ⟨g, cap, cur, he, _⟩
    · exact ⟨_, _, _, he⟩
    · exact ⟨_, _, _, he⟩

/-- The cells of a closed slice, one behind the other. -/
theorem closed_news {s2 sz : Nat} {ns : List (List CV)} {yv : Value} (hsz : 0 < sz) (hns : ∀ m ∈ ns, m.length = sz) (h : Rep Z w (.sl s2 ns) yv) :
    ∃ news : List Value, news.length = ns.length * sz ∧ (∀ u ∈ news, u.oneCell' = true) ∧ ((ns.length = 0 ∧ ∃ ya yc, yv = .slice ya 0 yc) ∨ ∃ b c, yv = .slice (some b) ns.length c ∧ 0 < ns.length ∧ ∀ j u, news[j]? = some u → w.cell? (b.add j) = some u) ∧
      ∀ (i j : Nat) (d : List CV) (c : CV), ns[i]? = some d → d[j]? = some c → c.atom = true ∧ ∃ u, news[i * sz + j]? = some u ∧ Rep Z w c u := by
  cases h with
  | nil _ ya yc => exact ⟨[], by simp, by simp, .inl ⟨rfl, ya, yc, rfl⟩, fun i j d c h => by simp at h⟩
  | sl _ _ b o cap f hcap hs2 hc hr =>
    by_cases hnil : ns = []
    · subst hnil
      exact ⟨[], by simp, by simp, .inl ⟨rfl, _, _, rfl⟩, fun i j d c h => by simp at h⟩
    · have hpos : 0 < ns.length := List.length_pos_iff.2 hnil
      have hs2z : s2 = sz := by
        have hfirst : ns[0]? = some (ns[0]'hpos) := List.getElem?_eq_getElem hpos
        rw [← hs2 0 _ hfirst]
        exact hns _ (List.getElem_mem hpos)
      subst hs2z
      let news := (List.range (ns.length * s2)).map fun k => f (k / s2) (k % s2)
      have hnl : news.length = ns.length * s2 := by simp [news]
      have hnget : ∀ k, k < ns.length * s2 → news[k]? = some (f (k / s2) (k % s2)) := fun k hk => by simp [news, List.getElem?_map, List.getElem?_range hk]
      refine ⟨news, hnl, ?_, .inr ⟨⟨b, o, none⟩, cap, rfl, hpos, ?_⟩, ?_⟩
      · intro u hu
        obtain ⟨k, hk, hku⟩ := List.getElem_of_mem hu
        have hlt : k < ns.length * s2 := by rw [← hnl]; exact hk
        obtain ⟨dd, c, h1, h2⟩ := flat_get hs2 hsz hlt
        have hu' : u = f (k / s2) (k % s2) := by
          have h3 := hnget k hlt
          rw [List.getElem?_eq_getElem hk] at h3
          injection h3 with h3
          rw [← hku, h3]
        rw [hu']
        exact (hr _ _ dd c h1 h2).atom (hc _ _ dd c h1 h2).2.2
      · intro k u hk
        have hlt : k < ns.length * s2 := by rw [← hnl]; exact (List.getElem?_eq_some_iff.1 hk).1
        obtain ⟨dd, c, h1, h2⟩ := flat_get hs2 hsz hlt
        obtain ⟨_, hcell, _⟩ := hc _ _ dd c h1 h2
        rw [hnget k hlt] at hk
        injection hk with hk
        rw [Addr.add_lit, ← hk]
        rw [Nat.add_assoc, div_mul_add] at hcell
        exact hcell
      · intro i j d c h1 h2
        have hi : i < ns.length := (List.getElem?_eq_some_iff.1 h1).1
        have hj : j < s2 := by rw [← hs2 i d h1]; exact (List.getElem?_eq_some_iff.1 h2).1
        refine ⟨(hc i j d c h1 h2).2.2, f i j, ?_, hr i j d c h1 h2⟩
        rw [hnget _ (idx_lt hi hj)]
        have e1 : (i * s2 + j) / s2 = i := by rw [Nat.mul_comm, Nat.mul_add_div hsz, Nat.div_eq_of_lt hj, Nat.add_zero]
        have e2 : (i * s2 + j) % s2 = j := by rw [Nat.mul_comm, Nat.mul_add_mod, Nat.mod_eq_of_lt hj]
        rw [e1, e2]

theorem xsound_len (hT : TOk P T) (dst : Option Nat) (args : Array Operand) (argTypes : Array TypeId) (type : TypeId) (pos : String) (after : Array Edge) (guard : Option (Nat × Bool)) : XSound P G T ⟨dst, .call ⟨.builtin .len, args, argTypes⟩, type, pos, after, guard⟩ := by
  intro Z0 w0 S n Z E st a w K next Q hI hd h hn
  obtain ⟨args⟩ := args
  cases args with
  | nil => simp only [wpX] at h
  | cons x rest =>
  cases rest with
  | cons y r => simp only [wpX] at h
  | nil =>
  have hx := look_rep hI x
  simp only [wpX] at h
  split at h
  · rename_i x0 _ x' e _ _ _ _ _ hx0 hbt
    have hxx : x = x' := by injection hx0
    subst hxx
    split at h
    · rename_i s g he
      rw [he] at hx
      split at h
      · rename_i g' el sz ds foc ho
        replace h := bif_true h; obtain ⟨hgg, h⟩ := h
        have := Nat.eq_of_beq_eq_true hgg
        subst this
        have hobj := hI.obj s
        rw [ho] at hobj
        obtain ⟨xs, hszp, hown, _⟩ := hobj
        have hxe : ∃ aa cap, a.eval x = .slice aa ds.length cap := by
          generalize a.eval x = y at hx
          cases hx with
          | rs _ _ _ hs hg hp' =>
            rw [hp' _ _ _ _ ho] at hown
            rcases hown.2 with ⟨hy, h0⟩ | ⟨b, cap, cur, hy, _⟩
            · exact ⟨_, _, by rw [hy, h0]⟩
            · exact ⟨_, _, hy⟩
        obtain ⟨aa, cap, hxe⟩ := hxe
        cases hat : argTypes[0]? with
        | none => rw [hat] at hbt; cases hbt
        | some t0 =>
          rw [hat] at hbt
          have hu := (hT _ _ hbt).u
          simp only at hu
          refine sound_value hI hd hn h ?_ (.c _ _ (.v _))
          rw [exec_builtin]
          simp only [builtin, Sem.run_bind, List.map_toArray, List.map_cons, List.map_nil]
          simp [Builtin.len_, hat, run_underlying hu, hxe, goInt]
      · exact h.elim
    · exact h.elim
  · exact h.elim

/-- An append that ends in a slice which is written. -/
theorem append_fin (hT : TOk P T) (hI : Inv G Z0 w0 S n Z E st a w) {d : Nat} {x y : Operand} {t1 e : TypeId} {type : TypeId} {pos : String} {after : Array Edge} {guard : Option (Nat × Bool)} {K : KOp} {next : Act → World → Prop} {Q : Exit → Act → World → Prop} (hd : inRange n (some d) = true)
    {ti i : TI} (ht1 : T.get t1 = some ti) (hde : ti.desc = .slice e) (hte : T.get e = some i) (h1 : 1 ≤ i.size) (hby : i.bytes ≤ 4096)
    {v : Value} {m0 : Nat} {xs : List Value} (hev : a.eval x = v) (hown : w.ownsRow 0 e i.size v m0 xs) (hsl : ∃ aa l k, v = .slice aa l k)
    (hvz : ∀ b o, v.ownBlock = some b → ¬ Z b o) (hvS : ∀ b, v.ownBlock = some b → ¬ S b)
    {m : Nat} {news : List Value} (hl : news.length = m * i.size) (hone : ∀ u ∈ news, u.oneCell' = true)
    (hy : (m = 0 ∧ ∃ ya yc, a.eval y = .slice ya 0 yc) ∨ ∃ b c, a.eval y = .slice (some b) m c ∧ 0 < m ∧ ∀ j u, news[j]? = some u → w.cell? (b.add j) = some u)
    (hlen : m0 + m ≤ 4294967296) {ds : List (List CV)} {foc : Option (Nat × List CV)} {obj' : Objs} {g : Nat} {rd : List Nat} {u : Upd} (hg : g = (st.obj d).1 + 1)
    (hk : K (.rs d g) rd u) (hu' : obj' = upd st.obj u)
    (hn : ∀ r rd u Z' E' x w', K r rd u → Inv G Z0 w0 S n Z' E' ⟨put st.env (some d) r, upd st.obj u⟩ (a.put (some d) x) w' → next (a.put (some d) x) w')
    (hod : obj' d = (g, .arr e i.size ds foc)) (hoo : ∀ t, t ≠ d → obj' t = st.obj t ∨ obj' t = ((st.obj t).1, .spent))
    (hdl : ds.length = m0 + m) (hfoc : FocOk ds foc)
    (hlens : ∀ (i' : Nat) (d' : List CV), i' < ds.length → cellX ds foc i' = some d' → d'.length = i.size)
    (hcells : ∀ (i' : Nat) (d' : List CV), i' < ds.length → cellX ds foc i' = some d' → ∀ (j : Nat) (c : CV), d'[j]? = some c → c.atom = true ∧ ∃ u, (xs ++ news)[i' * i.size + j]? = some u ∧ RepX Z w st.obj E c u)
    (hothers : ∀ t, t ≠ d → obj' t = st.obj t → ∀ b, (st.obj t).2.blk (E t) = some b → v.ownBlock ≠ some b) :
    Oper.wp P ⟨some d, .call ⟨.builtin .append, ⟨[x, y]⟩, ⟨[t1, t1]⟩⟩, type, pos, after, guard⟩ a w next Q := by
  have hu1 := (hT _ _ ht1).u
  rw [hde] at hu1
  have hie := hT _ _ hte
  obtain ⟨j, hj, hjs, hjb, hjz⟩ := hie.infoE
  have hzc : (zeroVal i).cells.size = i.size := by rw [zero_cells hie]; simp [hie.len]
  have hbytes : (m0 + m) * j.bytes ≤ 140737488355328 := by
    rw [hjb]
    calc (m0 + m) * i.bytes ≤ 4294967296 * 4096 := Nat.mul_le_mul hlen hby
      _ ≤ 140737488355328 := by decide
  obtain ⟨v', w', hrun, hown', hgr, hblk, hs'⟩ := app_core (P := P) (ty := type) hu1 hj hjz hjs hzc h1 hown hsl hl hone hy (by omega) hbytes (Nat.zero_le _)
  have hrun' : (execOp a.eval ⟨some d, .call ⟨.builtin .append, ⟨[x, y]⟩, ⟨[t1, t1]⟩⟩, type, pos, after, guard⟩).run P w = .ok (.value v') w' := by
    rw [exec_builtin]
    rw [← hev] at hrun
    simp only [builtin, Sem.run_bind, List.map_toArray, List.map_cons, List.map_nil, hrun]
    rfl
  have hkeep : Keeps Z w Z w' := fun b o hz => ⟨hz, keep_heap (hgr.block b (hI.zlt b o hz) (fun e => hvz b o e.symm hz))⟩
  refine wp_value hrun' (hn _ _ _ Z (setE E d v') v' w' hk ?_)
  rw [← hu']
  refine hI.arrAt hd hg hod hoo ((Kept.refl _ _).grown hgr hI.sltw hvS) hkeep (fun b o hz => Nat.lt_of_lt_of_le (hI.zlt b o hz) hgr.size) (fun _ _ hz => .inl hz) hs' (fun hkp => ?_) (fun b hb => ?_) (fun t ht hot b hb => ?_)
  · refine ⟨xs ++ news, h1, by rw [hdl]; exact hown', hfoc, hlens, fun i' d' hi' hc' j c hj' => ?_, fun b o hb hz => ?_⟩
    · obtain ⟨h3, u3, h4, h5⟩ := hcells i' d' hi' hc' j c hj'
      exact ⟨h3, u3, h4, h5.keep hkeep hkp⟩
    · rcases hblk with hb1 | hb1
      · exact hvz b o (by rw [← hb1]; exact hb) hz
      · rw [hb1] at hb; injection hb with hb; have := hI.zlt b o hz; omega
  · rcases hblk with hb1 | hb1
    · exact hvS b (by rw [← hb1]; exact hb)
    · rw [hb1] at hb; injection hb with hb; exact hI.fresh (by omega)
  · have h3 := hothers t ht hot b hb
    have hlt := (hI.obj t).lt hb
    refine ⟨hgr.block b hlt (fun e => h3 e.symm), fun _ hz => hz, fun e => ?_⟩
    rcases hblk with hb1 | hb1
    · exact h3 (hb1.symm.trans e)
    · rw [hb1] at e; injection e with e; omega

theorem get_app {xs news : List Value} {m0 sz i j : Nat} (hxl : xs.length = m0 * sz) (hj : j < sz) : (xs ++ news)[i * sz + j]? = if i < m0 then xs[i * sz + j]? else news[(i - m0) * sz + j]? := by
  by_cases h : i < m0
  · rw [if_pos h, List.getElem?_append_left (by rw [hxl]; exact idx_lt h hj)]
  · have hge : m0 * sz ≤ i * sz := Nat.mul_le_mul_right _ (by omega)
    rw [if_neg h, List.getElem?_append_right (by rw [hxl]; omega), hxl, Nat.sub_mul]
    congr 1
    omega

theorem xsound_append (hT : TOk P T) (dst : Option Nat) (args : Array Operand) (argTypes : Array TypeId) (type : TypeId) (pos : String) (after : Array Edge) (guard : Option (Nat × Bool)) : XSound P G T ⟨dst, .call ⟨.builtin .append, args, argTypes⟩, type, pos, after, guard⟩ := by
  intro Z0 w0 S n Z E st a w K next Q hI hd h hn
  obtain ⟨args⟩ := args
  obtain ⟨argTypes⟩ := argTypes
  simp only [wpX, wpXappend] at h
  split at h
  · rename_i x y d t1 t2
    split at h
    · rename_i e _ _ _ _ _ ht1
      split at h
      · rename_i i hte
        replace h := bif_true h; obtain ⟨hchk, h⟩ := h
        simp only [Bool.and_eq_true] at hchk
        obtain ⟨⟨⟨ht12, h1⟩, hby⟩, hzl⟩ := hchk
        have := Nat.eq_of_beq_eq_true ht12
        subst this
        have h1 := Nat.le_of_ble_eq_true h1
        have hby := Nat.le_of_ble_eq_true hby
        have hx := look_rep hI x
        have hy := look_rep hI y
        split at h
        · -- onto nil
          rename_i hx0
          split at h
          · rename_i s2 ns hsl
            obtain ⟨hns, hlen, hk⟩ := h
            obtain ⟨news, hnl, hone, hyv, hcell⟩ := closed_news h1 hns (asSl_rep hy hsl)
            refine append_fin hT hI hd ht1 rfl hte h1 hby (v := .slice none 0 0) (by simp [Act.eval]) (World.ownsRow_nil w _ _ _) ⟨_, _, _, rfl⟩ (fun b o hb => by simp [Value.ownBlock] at hb) (fun b hb => by simp [Value.ownBlock] at hb) hnl hone hyv (by omega) rfl hk rfl hn (upd_one_same _ _ _)
              (fun t ht => .inl (upd_one_ne _ _ ht)) (by simp) ⟨(fun _ _ h => nomatch h), fun i' d' hd' _ => noRs_mk fun j c hj => (hcell i' j d' c hd' hj).2.choose_spec.2.notRs⟩ (fun i' d' _ hc' => hns d' (List.mem_of_getElem? hc')) (fun i' d' _ hc' j c hj => ?_) (fun t _ _ b _ => by simp [Value.ownBlock])
            obtain ⟨h3, u, h4, h5⟩ := hcell i' j d' c hc' hj
            exact ⟨h3, u, by simpa using h4, .cl h5⟩
          · exact h.elim
        · -- two slices that are written
          rename_i x _ _ _ t g s g2 hly hlx
          rw [hlx] at hx
          rw [hly] at hy
          split at h
          · rename_i g' el sz ds foc g2' el2 sz2 ds2 foc2 ho ho2
            replace h := bif_true h; obtain ⟨hchk, h⟩ := h
            simp only [Bool.and_eq_true, Bool.not_eq_true'] at hchk
            obtain ⟨⟨⟨⟨⟨⟨⟨⟨c1, c2⟩, c3⟩, c4⟩, c5⟩, c6⟩, c7⟩, c8⟩, c9⟩ := hchk
            have := Nat.eq_of_beq_eq_true c1
            subst this
            have := Nat.eq_of_beq_eq_true c2
            subst this
            have := Nat.eq_of_beq_eq_true c3
            subst this
            have := Nat.eq_of_beq_eq_true c4
            subst this
            have := Nat.eq_of_beq_eq_true c5
            subst this
            have hts : t ≠ s := fun e => by subst e; simp at c6
            have hsd : s ≠ d := fun e => by subst e; simp at c7
            have htd : t ≠ d := fun e => by subst e; simp at c8
            have hfn : foc = none := by cases foc <;> simp_all
            subst hfn
            obtain ⟨hlen, ds', rfl, hk⟩ := h
            have hot := hI.obj t
            rw [ho] at hot
            obtain ⟨xs, hszp, hown, hfoc, hdl, hcl, hz⟩ := hot
            have hos := hI.obj s
            rw [ho2] at hos
            obtain ⟨xs2, _, hown2, hfoc2, hdl2, hcl2, hz2⟩ := hos
            have hEt : E t = a.eval x := by generalize a.eval x = v at hx; cases hx with | rs _ _ _ _ _ hp => exact hp _ _ _ _ ho
            have hEs : E s = a.eval y := by generalize a.eval y = v at hy; cases hy with | rs _ _ _ _ _ hp => exact hp _ _ _ _ ho2
            have hslx : ∃ aa l k, a.eval x = .slice aa l k := by generalize a.eval x = v at hx; cases hx with | rs _ _ _ hs _ _ => exact hs
            rw [hEt] at hown hz
            rw [hEs] at hown2
            have hcell2 : ∀ k, k < ds2.length → ∃ d', cellX ds2 foc2 k = some d' := fun k hk2 => by
              unfold cellX
              split
              · exact ⟨_, List.getElem?_eq_getElem hk2⟩
              · split
                · exact ⟨_, rfl⟩
                · exact ⟨_, List.getElem?_eq_getElem hk2⟩
            have hcx : ∀ k, cellX (ds ++ ds2) (shiftF ds.length foc2) k = if k < ds.length then ds[k]? else cellX ds2 foc2 (k - ds.length) := by
              intro k
              cases foc2 with
              | none =>
                simp only [shiftF, cellX]
                split
                · rename_i hk; rw [List.getElem?_append_left hk]
                · rename_i hk; rw [List.getElem?_append_right (by omega)]
              | some p =>
                obtain ⟨m, cs⟩ := p
                simp only [shiftF, cellX]
                by_cases hk : k < ds.length
                · rw [if_neg (by omega), if_pos hk, List.getElem?_append_left hk]
                · rw [if_neg hk]
                  by_cases hkm : k = ds.length + m
                  · rw [if_pos hkm, if_pos (by omega)]
                  · rw [if_neg hkm, if_neg (by omega), List.getElem?_append_right (by omega)]
            refine append_fin hT hI hd ht1 rfl hte h1 hby rfl hown hslx hz (fun b hb => hI.own t b (by rw [ho, arr_blk, hEt]; exact hb)) (m := ds2.length) (news := xs2) (foc := shiftF ds.length foc2) hown2.1 ?_ ?_ hlen rfl hk rfl hn ?_ ?_ List.length_append ?_ ?_ ?_ ?_
            · intro u hu
              obtain ⟨k, hkl, hku⟩ := List.getElem_of_mem hu
              have hk' : k < ds2.length * i.size := by rw [← hown2.1]; exact hkl
              have hq : k / i.size < ds2.length := Nat.div_lt_of_lt_mul (by rw [Nat.mul_comm]; exact hk')
              have hr : k % i.size < i.size := Nat.mod_lt _ h1
              obtain ⟨d', hd'⟩ := hcell2 _ hq
              have hdl' := hdl2 _ d' hq hd'
              have hc' : d'[k % i.size]? = some (d'[k % i.size]'(by omega)) := List.getElem?_eq_getElem (by omega)
              obtain ⟨hat, u', hu', hr'⟩ := hcl2 _ d' hq hd' _ _ hc'
              rw [div_mul_add, List.getElem?_eq_getElem hkl] at hu'
              injection hu' with hu'
              rw [← hku, hu']
              exact hr'.oneC hat
            · by_cases h0 : ds2.length = 0
              · left
                rcases hown2.2 with ⟨he, _⟩ | ⟨b, cap, cur, he, _⟩
                · exact ⟨h0, _, _, he⟩
                · exact ⟨h0, _, cap, by rw [he, h0]⟩
              · right
                obtain ⟨b, cap, he, _, _⟩ := own_form hown2 (by omega)
                refine ⟨⟨b, 0, none⟩, cap, he, by omega, fun k u hu => ?_⟩
                exact hown2.cells (by rw [he]; rfl) k u hu
            · simp only [upd]
              have e1 : Nat.beq t d = false := by cases hb : Nat.beq t d with | false => rfl | true => exact absurd (Nat.eq_of_beq_eq_true hb) htd
              have e2 : Nat.beq s d = false := by cases hb : Nat.beq s d with | false => rfl | true => exact absurd (Nat.eq_of_beq_eq_true hb) hsd
              rw [e1, e2]
              simp
            · intro q hq
              simp only [upd]
              cases e1 : Nat.beq t q with
              | true => have := Nat.eq_of_beq_eq_true e1; subst this; right; rw [ho]; rfl
              | false =>
                cases e2 : Nat.beq s q with
                | true => have := Nat.eq_of_beq_eq_true e2; subst this; right; rw [ho2]; rfl
                | false =>
                  have e3 : Nat.beq d q = false := by cases hb : Nat.beq d q with | false => rfl | true => exact absurd (Nat.eq_of_beq_eq_true hb).symm hq
                  left; rw [e3]; rfl
            · refine ⟨fun m' d' he => ?_, fun k d' hd' hne => ?_⟩
              · cases foc2 with
                | none => cases he
                | some p => obtain ⟨m, cs⟩ := p; simp [shiftF] at he; have := hfoc2.1 m cs rfl; simp; omega
              · by_cases hk : k < ds.length
                · rw [List.getElem?_append_left hk] at hd'
                  exact hfoc.2 k d' hd' (fun _ _ h => nomatch h)
                · rw [List.getElem?_append_right (by omega)] at hd'
                  refine hfoc2.2 _ d' hd' (fun m' d'' he => ?_)
                  subst he
                  have := hne (ds.length + m') d'' rfl
                  omega
            · intro k d' hk hc'
              rw [hcx] at hc'
              by_cases hkd : k < ds.length
              · rw [if_pos hkd] at hc'; exact hdl k d' hkd hc'
              · rw [if_neg hkd] at hc'; simp at hk; exact hdl2 _ d' (by omega) hc'
            · intro k d' hk hc' j c hj
              rw [hcx] at hc'
              have hjs : j < i.size := by
                have : d'.length = i.size := by
                  by_cases hkd : k < ds.length
                  · rw [if_pos hkd] at hc'; exact hdl k d' hkd hc'
                  · rw [if_neg hkd] at hc'; simp at hk; exact hdl2 _ d' (by omega) hc'
                rw [← this]; exact (List.getElem?_eq_some_iff.1 hj).1
              rw [get_app hown.1 hjs]
              by_cases hkd : k < ds.length
              · rw [if_pos hkd] at hc' ⊢; exact hcl k d' hkd hc' j c hj
              · rw [if_neg hkd] at hc' ⊢; simp at hk; exact hcl2 _ d' (by omega) hc' j c hj
            · intro q hq hoq b hb hb'
              have hqt : q ≠ t := fun e => by
                subst e
                simp only [upd] at hoq
                rw [show Nat.beq q q = true from by simp, cond_true, ho] at hoq
                simp at hoq
              exact hI.apart q t b hqt hb (by rw [ho, arr_blk, hEt]; exact hb')
          · exact h.elim
        · -- a slice that is written, a closed one behind it
          rename_i x _ _ _ t g hlx hnrs
          rw [hlx] at hx
          split at h
          · rename_i g' el sz ds foc s2 ns ho hsl
            replace h := bif_true h; obtain ⟨hchk, h⟩ := h
            simp only [Bool.and_eq_true] at hchk
            obtain ⟨⟨c1, c3⟩, c4⟩ := hchk
            have := Nat.eq_of_beq_eq_true c1
            subst this
            have := Nat.eq_of_beq_eq_true c3
            subst this
            have := Nat.eq_of_beq_eq_true c4
            subst this
            obtain ⟨hns, hlen, ds', rfl, hk⟩ := h
            obtain ⟨news, hnl, hone, hyv, hcell⟩ := closed_news h1 hns (asSl_rep hy hsl)
            have hot := hI.obj t
            rw [ho] at hot
            obtain ⟨xs, hszp, hown, hfoc, hdl, hcl, hz⟩ := hot
            have hEt : E t = a.eval x := by generalize a.eval x = v at hx; cases hx with | rs _ _ _ _ _ hp => exact hp _ _ _ _ ho
            have hslx : ∃ aa l k, a.eval x = .slice aa l k := by generalize a.eval x = v at hx; cases hx with | rs _ _ _ hs _ _ => exact hs
            rw [hEt] at hown hz
            have hcx : ∀ k, cellX (ds ++ ns) foc k = if k < ds.length then cellX ds foc k else ns[k - ds.length]? := by
              intro k
              unfold cellX
              cases foc with
              | none =>
                simp only
                split
                · rename_i hk; rw [List.getElem?_append_left hk]
                · rename_i hk; rw [List.getElem?_append_right (by omega)]
              | some p =>
                obtain ⟨m, cs⟩ := p
                have hm := hfoc.1 m cs rfl
                simp only
                by_cases hk : k < ds.length
                · rw [if_pos hk]
                  by_cases hkm : k = m
                  · rw [if_pos hkm, if_pos hkm]
                  · rw [if_neg hkm, if_neg hkm, List.getElem?_append_left hk]
                · rw [if_neg hk, if_neg (by omega), List.getElem?_append_right (by omega)]
            have hfoc' : FocOk (ds ++ ns) foc := by
              refine ⟨fun m' d' he => by have := hfoc.1 m' d' he; simp; omega, fun k d' hd' hne => ?_⟩
              by_cases hk : k < ds.length
              · rw [List.getElem?_append_left hk] at hd'
                exact hfoc.2 k d' hd' hne
              · rw [List.getElem?_append_right (by omega)] at hd'
                exact noRs_mk fun j c hj => (hcell _ j d' c hd' hj).2.choose_spec.2.notRs
            have hlens : ∀ (i' : Nat) (d' : List CV), i' < (ds ++ ns).length → cellX (ds ++ ns) foc i' = some d' → d'.length = i.size := by
              intro k d' hk hc'
              rw [hcx] at hc'
              by_cases hkd : k < ds.length
              · rw [if_pos hkd] at hc'; exact hdl k d' hkd hc'
              · rw [if_neg hkd] at hc'; exact hns d' (List.mem_of_getElem? hc')
            have hcells : ∀ (i' : Nat) (d' : List CV), i' < (ds ++ ns).length → cellX (ds ++ ns) foc i' = some d' → ∀ (j : Nat) (c : CV), d'[j]? = some c → c.atom = true ∧ ∃ u, (xs ++ news)[i' * i.size + j]? = some u ∧ RepX Z w st.obj E c u := by
              intro k d' hk hc' j c hj
              have hjs : j < i.size := by rw [← hlens k d' hk hc']; exact (List.getElem?_eq_some_iff.1 hj).1
              rw [hcx] at hc'
              rw [get_app hown.1 hjs]
              by_cases hkd : k < ds.length
              · rw [if_pos hkd] at hc' ⊢; exact hcl k d' hkd hc' j c hj
              · rw [if_neg hkd] at hc' ⊢
                obtain ⟨h3, u, h4, h5⟩ := hcell _ j d' c hc' hj
                exact ⟨h3, u, h4, .cl h5⟩
            have hoth : ∀ q b, q ≠ t → (st.obj q).2.blk (E q) = some b → (a.eval x).ownBlock ≠ some b := fun q b hqt hb hb' => hI.apart q t b hqt hb (by rw [ho, arr_blk, hEt]; exact hb')
            cases htd : Nat.beq t d with
            | true =>
              rw [htd] at hk
              simp only [cond_true] at hk
              have := Nat.eq_of_beq_eq_true htd
              subst this
              exact append_fin hT hI hd ht1 rfl hte h1 hby rfl hown hslx hz (fun b hb => hI.own t b (by rw [ho, arr_blk, hEt]; exact hb)) hnl hone hyv hlen (by rw [ho]) hk rfl hn (upd_one_same _ _ _) (fun q hq => .inl (upd_one_ne _ _ hq)) (by simp) hfoc' hlens hcells (fun q hq _ b hb => hoth q b hq hb)
            | false =>
              rw [htd] at hk
              simp only [cond_false] at hk
              have htd' : t ≠ d := fun e => by subst e; simp at htd
              refine append_fin hT hI hd ht1 rfl hte h1 hby rfl hown hslx hz (fun b hb => hI.own t b (by rw [ho, arr_blk, hEt]; exact hb)) hnl hone hyv hlen rfl hk rfl hn (upd_two_snd _ _ _ htd') (fun q hq => ?_) (by simp) hfoc' hlens hcells (fun q hq hoq b hb => hoth q b (fun e => ?_) hb)
              · by_cases hqt : q = t
                · subst hqt; right; rw [upd_two_fst, ho]
                · left; exact upd_two_ne _ _ _ hqt hq
              · subst e; rw [upd_two_fst, ho] at hoq; simp at hoq
          · exact h.elim
        · -- onto an empty literal
          rename_i x _ _ _ t g sz es hlx
          rw [hlx] at hx
          split at h
          · rename_i g' el s' s2 ns ho hsl
            replace h := bif_true h; obtain ⟨hchk, h⟩ := h
            simp only [Bool.and_eq_true, Bool.not_eq_true'] at hchk
            obtain ⟨⟨⟨⟨c1, c3⟩, c4⟩, c5⟩, c6⟩ := hchk
            have := Nat.eq_of_beq_eq_true c1
            subst this
            have := Nat.eq_of_beq_eq_true c3
            subst this
            have := Nat.eq_of_beq_eq_true c4
            subst this
            have := Nat.eq_of_beq_eq_true c5
            subst this
            have htd' : t ≠ d := fun e => by subst e; simp at c6
            obtain ⟨hes, hns, hlen, hk⟩ := h
            subst hes
            obtain ⟨news, hnl, hone, hyv, hcell⟩ := closed_news h1 hns (asSl_rep hy hsl)
            have hot := hI.obj t
            rw [ho] at hot
            obtain ⟨m0, xs, hszp, hown, hz⟩ := hot
            have hEt : E t = a.eval x := by generalize a.eval x = v at hx; cases hx with | ap _ _ _ _ _ _ _ hE => exact hE _ _ ho
            have hxr : Rep Z w (.sl i.size []) (a.eval x) := by generalize a.eval x = v at hx; cases hx with | ap _ _ _ _ _ hr _ _ => exact hr
            rw [hEt] at hown hz
            have hm0 : m0 = 0 := (own_rep hown hxr).1
            subst hm0
            have hslx : ∃ aa l k, a.eval x = .slice aa l k := by
              rcases hown.2 with ⟨he, _⟩ | ⟨b, cap, cur, he, _⟩ <;> exact ⟨_, _, _, he⟩
            have hxnil : xs = [] := List.eq_nil_of_length_eq_zero (by simpa using hown.1)
            subst hxnil
            refine append_fin hT hI hd ht1 rfl hte h1 hby rfl hown hslx ?_ (fun b hb => hI.own t b (by rw [ho, own_blk, hEt]; exact hb)) hnl hone hyv (by omega) rfl hk rfl hn (upd_two_snd _ _ _ htd') (fun q hq => ?_) (by simp) ⟨(fun _ _ h => nomatch h), fun i' d' hd' _ => noRs_mk fun j c hj => (hcell i' j d' c hd' hj).2.choose_spec.2.notRs⟩ (fun i' d' _ hc' => hns d' (List.mem_of_getElem? hc')) (fun i' d' _ hc' j c hj => ?_) (fun q hq hoq b hb hb' => ?_)
            · intro b o hb hzz
              rcases hown.2 with ⟨he, _⟩ | ⟨b', cap, cur, he, _⟩
              · rw [he] at hb; simp [Value.ownBlock] at hb
              · rw [he] at hb
                simp [Value.ownBlock] at hb
                subst hb
                exact hz _ cap he o (by simp) hzz
            · by_cases hqt : q = t
              · subst hqt; right; rw [upd_two_fst, ho]
              · left; exact upd_two_ne _ _ _ hqt hq
            · obtain ⟨h3, u, h4, h5⟩ := hcell i' j d' c hc' hj
              exact ⟨h3, u, by simpa using h4, .cl h5⟩
            · have hqt : q ≠ t := fun e => by subst e; rw [upd_two_fst, ho] at hoq; simp at hoq
              exact hI.apart q t b hqt hb (by rw [ho, own_blk, hEt]; exact hb')
          · exact h.elim
        · exact h.elim
      · exact h.elim
    · exact h.elim
  · exact h.elim
end
end Go.Abs
