/-
  Soundness: builtins, slice literals, struct literals, calls.
-/
import Derived.Test.YtmcolhhmlpicaaaDoorAbsTok
namespace Go.Abs
open Go Go.RowKit

section
variable {P : Program} {G : World → Prop} {T : Tab} {Z0 : Base} {w0 : World} {S : Nat → Prop} {n : Nat} {Z Z' : Zone} {E : Nat → Value} {st : St} {a : Act} {w w' : World}

theorem exec_builtin (dst : Option Nat) (b : Builtin) (args : Array Operand) (argTypes : Array TypeId) (type : TypeId) (pos : String) (after : Array Edge) (guard : Option (Nat × Bool)) :
    (execOp a.eval ⟨dst, .call ⟨.builtin b, args, argTypes⟩, type, pos, after, guard⟩).run P w = (builtin b argTypes type (args.map fun | .const _ => true | _ => false) (args.map a.eval)).run P w := by
  simp only [execOp, resolve, invoke, Sem.run_bind, Sem.run_pure, Result.andThen_ok]
  rfl

theorem div_mul_add (k sz : Nat) : k / sz * sz + k % sz = k := by rw [Nat.mul_comm]; exact Nat.div_add_mod k sz

theorem own_cells {base el sz m b : Nat} {x : Value} {xs : List Value} (h : w.ownsRow base el sz x m xs) (hb : x.ownBlock = some b) : ∃ cur, w.heap[b]? = some (.cells cur el (0, 0)) := by
  rcases h.2 with ⟨he, _⟩ | ⟨g, cap, cur, he, _, hg, _⟩
  · rw [he] at hb; simp [Value.ownBlock] at hb
  · rw [he] at hb; simp [Value.ownBlock] at hb; subst hb; exact ⟨cur, hg⟩
theorem own_nomap {base el sz m b : Nat} {x : Value} {xs : List Value} (h : w.ownsRow base el sz x m xs) (hb : x.ownBlock = some b) {p : Prop} : ∀ es c, w.heap[b]? = some (.map es c) → p := fun es c he => by
  obtain ⟨cur, hc⟩ := own_cells h hb
  rw [hc] at he; cases he
theorem append_others (hI : Inv G Z0 w0 S n Z E st a w) {t g e sz : Nat} (ho : st.obj t = (g, .tok e sz)) {s b : Nat} (hs : s ≠ t) (hb : (st.obj s).2.blk (E s) = some b) : (E t).ownBlock ≠ some b ∧ b < w.heap.size := by
  refine ⟨fun hx => hI.apart s t b hs hb (by rw [ho, own_blk]; exact hx), (hI.obj s).lt hb⟩

theorem sound_append (hT : TOk P T) (dst : Option Nat) (args : Array Operand) (argTypes : Array TypeId) (type : TypeId) (pos : String) (after : Array Edge) (guard : Option (Nat × Bool)) :
    OpSound P G T ⟨dst, .call ⟨.builtin .append, args, argTypes⟩, type, pos, after, guard⟩ := by
  intro Z0 w0 S n Z E st a w K next Q F hI hd h hX hn
  obtain ⟨args⟩ := args
  obtain ⟨argTypes⟩ := argTypes
  rcases args with _ | ⟨x, _ | ⟨y, _ | ⟨z, r⟩⟩⟩
  · simp only [wpOp, wpBuiltin] at h; exact hX h
  · simp only [wpOp, wpBuiltin] at h; exact hX h
  rotate_left
  · simp only [wpOp, wpBuiltin] at h; exact hX h
  · simp only [wpOp, wpBuiltin] at h
    split at h
    · rename_i t g sz es s2 ns d t1 t2 hlx hly
      have hx := look_rep hI x
      have hy := look_rep hI y
      rw [hlx] at hx
      have hyr := asSl_rep hy hly
      split at h
      · rename_i e _ _ _ _ _ ht1
        split at h
        · rename_i i hte
          replace h := bif_true h
          obtain ⟨hchk, h⟩ := h
          simp only [Bool.and_eq_true] at hchk
          obtain ⟨⟨⟨⟨⟨ht12, hisz⟩, h1sz⟩, hby⟩, hzl⟩, htok⟩ := hchk
          have := Nat.eq_of_beq_eq_true ht12
          subst this
          have hisz := Nat.eq_of_beq_eq_true hisz
          have h1sz := Nat.le_of_ble_eq_true h1sz
          have hby := Nat.le_of_ble_eq_true hby
          have ho : st.obj t = (g, .tok e sz) := by
            split at htok
            · rename_i g' el s ho
              simp only [Bool.and_eq_true] at htok
              rw [ho, Nat.eq_of_beq_eq_true htok.1.1, Nat.eq_of_beq_eq_true htok.1.2, Nat.eq_of_beq_eq_true htok.2]
            · cases htok
          clear htok
          rcases h with h | h
          rotate_left
          · exact hX h
          obtain ⟨hns, hlen, es', rfl, h⟩ := h
          have hu1 := (hT _ _ ht1).u
          simp only at hu1
          have hie := hT _ _ hte
          obtain ⟨j, hj, hjs, hjb, hjz⟩ := hie.infoE
          have hzc : (zeroVal i).cells.size = sz := by rw [zero_cells hie]; simp [hie.len, hisz]
          -- the token
          have hEt : E t = a.eval x := by
            generalize a.eval x = v at hx
            cases hx with | ap _ _ _ _ _ _ _ hE => exact hE _ _ ho
          have hxr : Rep Z w (.sl sz es) (a.eval x) := by
            generalize a.eval x = v at hx
            cases hx with | ap _ _ _ _ _ hr _ _ => exact hr
          have hot := hI.obj t
          rw [ho, hEt] at hot
          obtain ⟨m0, xs, hszp, hown, hz⟩ := hot
          obtain ⟨hm0, hes, hec⟩ := own_rep hown hxr
          -- the end, whatever world
          have fin : ∀ (v' : Value) (w' : World) (Z' : Zone), (Builtin.append_ #[t1, t1] type #[a.eval x, a.eval y]).run P w = .ok v' w' → Kept S w w' → Keeps Z w Z' w' →
              (∀ b o, Z' b o → b < w'.heap.size) → (∀ b o, Z' b o → Z b o ∨ ¬ S b) → ObjOk Z' w' st.obj E v' (.tok e sz) → Rep Z' w' (.sl sz (es ++ ns)) v' → (∀ b, v'.ownBlock = some b → ¬ S b) →
              (∀ s, s ≠ t → ∀ b, (st.obj s).2.blk (E s) = some b → w'.heap[b]? = w.heap[b]? ∧ (∀ k, Z' b k → Z b k) ∧ v'.ownBlock ≠ some b) →
              Oper.wp P ⟨some d, .call ⟨.builtin .append, ⟨[x, y]⟩, ⟨[t1, t1]⟩⟩, type, pos, after, guard⟩ a w next Q := by
            intro v' w' Z' hrun hb hk hlt hnew hok hrep hnS hoth
            have hrun' : (execOp a.eval ⟨some d, .call ⟨.builtin .append, ⟨[x, y]⟩, ⟨[t1, t1]⟩⟩, type, pos, after, guard⟩).run P w = .ok (.value v') w' := by
              rw [exec_builtin]
              simp only [builtin, Sem.run_bind, List.map_toArray, List.map_cons, List.map_nil, hrun]
              rfl
            cases htd : Nat.beq t d with
            | true =>
              rw [htd] at h
              simp only [cond_true] at h
              have := Nat.eq_of_beq_eq_true htd
              subst this
              have hg : (st.obj t).1 = g := by rw [ho]
              refine wp_value hrun' (hn _ _ _ Z' (setE E t v') v' w' h ?_)
              have := hI.tok (x := v') (sz := sz) (es := es ++ ns) (obj' := upd st.obj [(t, (g + 1, .tok e sz))]) hd (by rw [upd_one_same, hg]) (fun s hs => .inl (upd_one_ne _ _ hs)) hb hk hlt hnew hok hrep (fun b hb => hnS b (by rw [← own_blk]; exact hb))
                (fun s hs _ b hb' => by rw [own_blk]; exact hoth s hs b hb')
              rw [hg] at this
              exact this
            | false =>
              rw [htd] at h
              simp only [cond_false] at h
              have htd' : t ≠ d := fun e => by subst e; simp at htd
              refine wp_value hrun' (hn _ _ _ Z' (setE E d v') v' w' h ?_)
              refine hI.tok hd (upd_two_snd _ _ _ htd') (fun s hs => ?_) hb hk hlt hnew hok hrep (fun b hb => hnS b (by rw [← own_blk]; exact hb)) (fun s hs hos b hb' => ?_)
              · by_cases hst : s = t
                · subst hst; right; rw [upd_two_fst, ho]
                · left; exact upd_two_ne _ _ _ hst hs
              · rw [own_blk]
                have hst : s ≠ t := fun e => by subst e; rw [upd_two_fst, ho] at hos; simp at hos
                exact hoth s hst b hb'
          have empty : ns = [] → ∀ (ya : Option Addr) (yc : Nat), a.eval y = .slice ya 0 yc → Oper.wp P ⟨some d, .call ⟨.builtin .append, ⟨[x, y]⟩, ⟨[t1, t1]⟩⟩, type, pos, after, guard⟩ a w next Q := by
            intro hnil ya yc hye
            subst hnil
            refine fin (a.eval x) w Z (by rw [hye]; exact append_none hu1 hj hown ya yc) (Kept.refl _ _) (Keeps.refl _ _) hI.zlt (fun _ _ h => .inl h) ⟨m0, xs, hszp, hown, hz⟩ (by simpa using hxr) (fun b hb => hI.own t b (by rw [ho, hEt, own_blk]; exact hb)) ?_
            intro s hs b hb
            have := append_others hI ho hs hb
            rw [hEt] at this
            exact ⟨rfl, fun _ h => h, this.1⟩
          generalize hye : a.eval y = yv at hyr
          cases hyr with
          | nil _ ya yc => exact empty rfl ya yc hye
          | sl _ _ b o cap f hcap hs2 hc hr =>
            by_cases hnil : ns = []
            · subst hnil; exact empty rfl _ _ hye
            · have hpos : 0 < ns.length := List.length_pos_iff.2 hnil
              have hs2z : s2 = sz := by
                have hfirst : ns[0]? = some (ns[0]'hpos) := List.getElem?_eq_getElem hpos
                rw [← hs2 0 _ hfirst]
                exact hns _ (List.getElem_mem hpos)
              subst hs2z
              let news := (List.range (ns.length * s2)).map fun k => f (k / s2) (k % s2)
              have hnl : news.length = ns.length * s2 := by simp [news]
              have hnget : ∀ k, k < ns.length * s2 → news[k]? = some (f (k / s2) (k % s2)) := fun k hk => by simp [news, List.getElem?_map, List.getElem?_range hk]
              have hnews : ∀ j u, news[j]? = some u → w.cell? ((⟨b, o, none⟩ : Addr).add j) = some u := fun k u hk => by
                have hlt : k < ns.length * s2 := by rw [← hnl]; exact (List.getElem?_eq_some_iff.1 hk).1
                obtain ⟨dd, c, h1, h2⟩ := flat_get hs2 hszp hlt
                obtain ⟨_, hcell, _⟩ := hc _ _ dd c h1 h2
                rw [hnget k hlt] at hk
                injection hk with hk
                rw [Addr.add_lit, ← hk]
                rw [Nat.add_assoc, div_mul_add] at hcell
                exact hcell
              have hone : ∀ u ∈ news, u.oneCell' = true := fun u hu => by
                obtain ⟨k, hk, hku⟩ := List.getElem_of_mem hu
                have hlt : k < ns.length * s2 := by rw [← hnl]; exact hk
                obtain ⟨dd, c, h1, h2⟩ := flat_get hs2 hszp hlt
                have hu' : u = f (k / s2) (k % s2) := by
                  have h3 := hnget k hlt
                  rw [List.getElem?_eq_getElem hk] at h3
                  injection h3 with h3
                  rw [← hku, h3]
                rw [hu']
                exact (hr _ _ dd c h1 h2).atom (hc _ _ dd c h1 h2).2.2
              have hbytes : (m0 + ns.length) * j.bytes ≤ 140737488355328 := by
                rw [hm0, hjb]
                calc (es.length + ns.length) * i.bytes ≤ 4294967296 * 4096 := Nat.mul_le_mul hlen hby
                  _ ≤ 140737488355328 := by decide
              obtain ⟨v', w', hrun, hown', hgr, hold, hblk⟩ := append_run (P := P) (ty := type) (c := cap) hu1 hj hjz (hjs.trans hisz) hzc hszp hown hpos hnl hnews hone (by omega) hbytes (Nat.zero_le _)
              have hxS : ∀ k, (a.eval x).ownBlock = some k → ¬ S k := fun k hk => hI.own t k (by rw [ho, hEt, own_blk]; exact hk)
              have hvb : ∀ k, v'.ownBlock = some k → ¬ S k ∧ k < w'.heap.size := fun k hk => ⟨by
                rcases hblk with hb1 | hb1
                · exact hxS k (by rw [← hb1]; exact hk)
                · rw [hb1] at hk; injection hk with hk; exact hI.fresh (by omega), (hown'.lt k hk).2⟩
              refine fin v' w' (fun b o => Z b o ∨ (v'.ownBlock = some b ∧ o < (m0 + ns.length) * s2)) (by rw [hye]; exact hrun) ?_ ?_ ?_ ?_ ?_ ?_ (fun b hb => (hvb b hb).1) ?_
              · exact (Kept.refl _ _).grown hgr hI.sltw hxS
              · intro b o hzb
                refine ⟨.inl hzb, ?_⟩
                by_cases hbo : (a.eval x).ownBlock = some b
                · refine ⟨hold b o hbo ?_, fun es' c' he' => (own_nomap hown hbo es' c' he' : _)⟩
                  rcases Nat.lt_or_ge o (m0 * s2) with hlt | hge
                  · exact hlt
                  · exfalso
                    rcases hown.2 with ⟨he, _⟩ | ⟨g', cap', cur, he, _⟩
                    · rw [he] at hbo; simp [Value.ownBlock] at hbo
                    · rw [he] at hbo
                      simp [Value.ownBlock] at hbo
                      subst hbo
                      exact hz g' cap' he o hge hzb
                · exact keep_heap (hgr.block b (hI.zlt b o hzb) (fun e => hbo e.symm))
              · intro b o hzb
                rcases hzb with hzb | ⟨hzb, _⟩
                · exact Nat.lt_of_lt_of_le (hI.zlt b o hzb) hgr.size
                · exact (hvb b hzb).2
              · intro b o hzb
                rcases hzb with hzb | ⟨hzb, _⟩
                · exact .inl hzb
                · exact .inr (hvb b hzb).1
              · refine ⟨m0 + ns.length, xs ++ news, hszp, hown', fun g' cap' he o ho' hzz => ?_⟩
                rcases hzz with hzz | ⟨_, hlt⟩
                · rcases hblk with hb1 | hb1
                  · have hgx : (a.eval x).ownBlock = some g' := by rw [← hb1, he]; rfl
                    rcases hown.2 with ⟨hee, _⟩ | ⟨g2, cap2, cur, hee, _⟩
                    · rw [hee] at hgx; simp [Value.ownBlock] at hgx
                    · rw [hee] at hgx
                      simp [Value.ownBlock] at hgx
                      subst hgx
                      refine hz g2 cap2 hee o ?_ hzz
                      have : m0 * s2 ≤ (m0 + ns.length) * s2 := Nat.mul_le_mul_right _ (by omega)
                      omega
                  · have hgx : v'.ownBlock = some g' := by rw [he]; rfl
                    rw [hb1] at hgx
                    injection hgx with hgx
                    have := hI.zlt _ _ hzz
                    omega
                · omega
              · have hkeep : Keeps Z w (fun b o => Z b o ∨ (v'.ownBlock = some b ∧ o < (m0 + ns.length) * s2)) w' := by
                  intro b o hzb
                  refine ⟨.inl hzb, ?_⟩
                  by_cases hbo : (a.eval x).ownBlock = some b
                  · refine ⟨hold b o hbo ?_, fun es' c' he' => (own_nomap hown hbo es' c' he' : _)⟩
                    rcases Nat.lt_or_ge o (m0 * s2) with hlt | hge
                    · exact hlt
                    · exfalso
                      rcases hown.2 with ⟨he, _⟩ | ⟨g', cap', cur, he, _⟩
                      · rw [he] at hbo; simp [Value.ownBlock] at hbo
                      · rw [he] at hbo
                        simp [Value.ownBlock] at hbo
                        subst hbo
                        exact hz g' cap' he o hge hzb
                  · exact keep_heap (hgr.block b (hI.zlt b o hzb) (fun e => hbo e.symm))
                refine rep_own hown' (by rw [List.length_append, hm0]) (fun i d hid => ?_) (fun i j d c hid hjc => ?_) (fun b o hb ho' => .inr ⟨hb, ho'⟩)
                · rcases Nat.lt_or_ge i es.length with hlt | hge
                  · rw [List.getElem?_append_left hlt] at hid; exact hes i d hid
                  · rw [List.getElem?_append_right hge] at hid; exact hs2 _ d hid
                · have hxl := hown.1
                  rcases Nat.lt_or_ge i es.length with hlt | hge
                  · rw [List.getElem?_append_left hlt] at hid
                    obtain ⟨hat, u, hu, hru⟩ := hec i j d c hid hjc
                    refine ⟨hat, u, ?_, hru.keep hkeep⟩
                    rw [List.getElem?_append_left (List.getElem?_eq_some_iff.1 hu).1]
                    exact hu
                  · rw [List.getElem?_append_right hge] at hid
                    obtain ⟨_, _, hat⟩ := hc _ j d c hid hjc
                    have hjl : j < s2 := by rw [← hs2 _ d hid]; exact (List.getElem?_eq_some_iff.1 hjc).1
                    have hil : i - es.length < ns.length := (List.getElem?_eq_some_iff.1 hid).1
                    refine ⟨hat, f (i - es.length) j, ?_, (hr _ j d c hid hjc).keep hkeep⟩
                    have hidx : i * s2 + j = xs.length + ((i - es.length) * s2 + j) := by
                      rw [hxl, hm0, ← Nat.add_assoc, ← Nat.add_mul]
                      congr 2
                      omega
                    rw [hidx, List.getElem?_append_right (by omega), Nat.add_sub_cancel_left]
                    have hkl : (i - es.length) * s2 + j < ns.length * s2 := by
                      have h5 : (i - es.length + 1) * s2 ≤ ns.length * s2 := Nat.mul_le_mul_right _ (by omega)
                      rw [Nat.add_mul, Nat.one_mul] at h5
                      omega
                    rw [hnget _ hkl]
                    congr 2
                    · rw [Nat.mul_comm, Nat.mul_add_div hszp, Nat.div_eq_of_lt hjl, Nat.add_zero]
                    · rw [Nat.mul_comm, Nat.mul_add_mod, Nat.mod_eq_of_lt hjl]
              · intro s hs b hb
                have hoth := append_others hI ho hs hb
                rw [hEt] at hoth
                have hv' : v'.ownBlock ≠ some b := by
                  rcases hblk with hb1 | hb1
                  · rw [hb1]; exact hoth.1
                  · rw [hb1]; intro e; injection e with e; omega
                exact ⟨hgr.block b hoth.2 (fun e => hoth.1 e.symm), fun k hk => hk.elim id (fun h => absurd h.1 hv'), hv'⟩
        · first | exact h.elim | exact hX h
      · first | exact h.elim | exact hX h
    · first | exact h.elim | exact hX h

theorem sound_builtin (hT : TOk P T) (dst : Option Nat) (b : Builtin) (args : Array Operand) (argTypes : Array TypeId) (type : TypeId) (pos : String) (after : Array Edge) (guard : Option (Nat × Bool)) :
    OpSound P G T ⟨dst, .call ⟨.builtin b, args, argTypes⟩, type, pos, after, guard⟩ := by
  by_cases hap : b = .append
  · subst hap; exact sound_append hT _ _ _ _ _ _ _
  intro Z0 w0 S n Z E st a w K next Q F hI hd h hX hn
  obtain ⟨args⟩ := args
  simp only [wpOp, wpBuiltin] at h
  split at h
  · rename_i x
    have hx := look_rep hI x
    have hrun : ∀ v, (Builtin.len_ argTypes type #[a.eval x]).run P w = .ok v w → (execOp a.eval ⟨dst, .call ⟨.builtin .len, ⟨[x]⟩, argTypes⟩, type, pos, after, guard⟩).run P w = .ok (.value v) w := by
      intro v hv
      rw [exec_builtin]
      simp only [builtin, Sem.run_bind, List.map_toArray, List.map_cons, List.map_nil, hv]
      rfl
    split at h
    · rename_i s he
      rw [he] at hx
      have hxe : a.eval x = .string s := rep_cv hx
      split at h
      · rename_i _ _ _ _ _ hbt
        cases hat : argTypes[0]? with
        | none => rw [hat] at hbt; cases hbt
        | some t0 =>
          rw [hat] at hbt
          have hu := (hT _ _ hbt).u
          simp only at hu
          refine sound_value hI hd hn h (hrun _ ?_) (.c _ _ (.v _))
          simp [Builtin.len_, hat, run_underlying hu, hxe, goInt]
      · first | exact h.elim | exact hX h
    · split at h
      · rename_i sz ds e _ _ _ _ _ hsl hbt
        cases hat : argTypes[0]? with
        | none => rw [hat] at hbt; cases hbt
        | some t0 =>
          rw [hat] at hbt
          have hu := (hT _ _ hbt).u
          simp only at hu
          have hr := asSl_rep hx hsl
          have hxe : ∃ aa cap, a.eval x = .slice aa ds.length cap := by
            generalize a.eval x = y at hr
            cases hr with
            | nil _ aa cap => exact ⟨aa, cap, rfl⟩
            | sl _ _ b o cap => exact ⟨_, cap, rfl⟩
          obtain ⟨aa, cap, hxe⟩ := hxe
          refine sound_value hI hd hn h (hrun _ ?_) (.c _ _ (.v _))
          simp [Builtin.len_, hat, run_underlying hu, hxe, goInt]
      · first | exact h.elim | exact hX h
  · rename_i x y
    have hx := look_rep hI x
    have hy := look_rep hI y
    split at h
    · rename_i k i1 k2 i2 h1 h2
      have e1 := rep_v (asC_rep hx h1)
      have e2 := rep_v (asC_rep hy h2)
      refine sound_value hI hd hn h (x := .int k (if i2 < i1 then i2 else i1)) ?_ (.c _ _ (.v _))
      rw [exec_builtin]
      simp [builtin, Builtin.min_, Builtin.min2, e1, e2]
    · first | exact h.elim | exact hX h
  · rename_i x y
    have hx := look_rep hI x
    have hy := look_rep hI y
    split at h
    · rename_i k i1 k2 i2 h1 h2
      have e1 := rep_v (asC_rep hx h1)
      have e2 := rep_v (asC_rep hy h2)
      refine sound_value hI hd hn h (x := .int k (if i1 < i2 then i2 else i1)) ?_ (.c _ _ (.v _))
      rw [exec_builtin]
      simp [builtin, Builtin.max_, Builtin.max2, e1, e2]
    · first | exact h.elim | exact hX h
  · exact absurd rfl hap
  · first | exact h.elim | exact hX h
end
end Go.Abs
