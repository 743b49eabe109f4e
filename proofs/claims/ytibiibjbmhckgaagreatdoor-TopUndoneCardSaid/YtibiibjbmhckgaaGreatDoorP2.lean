import Derived.Test.YtibiibjbmhckgaaGreatDoorP1
import Derived.Laws.Cover3
set_option linter.unusedVariables false
set_option linter.unusedSimpArgs false
section
namespace Go
abbrev U9:=@List.length_take
abbrev X8:=@Nat.lt_succ_self
abbrev dI:=@Prod.mk.injEq
abbrev fK:=@List.getElem_mem
abbrev jS:=@Array.getElem?_toList
abbrev mW:=@Array.getElem?_eq_getElem
abbrev rM:=@List.getElem?_eq_none
abbrev rU:=@Nat.one_mul
abbrev BM:=@List.any_eq_false
abbrev ad7:=@List.getElem?_eq_none_iff
abbrev bd0:=@List.getElem?_range
end Go
namespace Go.F6
open Go Go.RowKit
section
variable{P:Program}{G:World->Prop}{T:Tab}{Z0:Base}{w0:World}{S:Nat->Prop}{n:Nat}{Z Z':Zone}{E:Nat->Value}{st:St}{a:Act}{w w':World}
def wB(P:Program)(G:World->Prop)(T:Tab)(o:Oper):Prop:=
 ∀(Z0:Base)(w0:World)(S:Nat->Prop)(n:Nat)(Z:Zone)(E:Nat->Value)(st:St)(a:Act)(w:World)(K:Z8)(next:Act->World->Prop)(Q:Exit->Act->World->Prop),
  Inv G Z0 w0 S n Z E st a w->inRange n o.dst=true->Y6 (gX P G) T (look st) st.obj o.dst o.op K->
  (∀r rd u Z' E' x w',K r rd u->Inv G Z0 w0 S n Z' E' ⟨put st.env o.dst r,upd st.obj u⟩ (a.put o.dst x) w'->next (a.put o.dst x) w')->Oper.bT P o a w next Q
theorem dn0{obj:I5}{c:CV}{x:Value}(h:fM Z w obj E c x):N7 Z w obj E (sv1 c) x:=by
 cases h with
 |cl h=>cases h<;>(simp only[sv1];exact .c _ _ (by constructor<;>assumption))
 |rs t g x hs hg h=>exact .rs t g x hs hg h
 |pr t g off x hs hg h=>exact .pm t g off x hs hg h
 |mr t g x hs hg h=>exact .mr t g x hs hg h
 |bp=>exact .any _
theorem bT4{obj:I5}{c:CV}{x:Value}(h:X5 Z w obj E c x)(hc:∀cs,c≠.agg cs):N7 Z w obj E (xA c) x:=by
 cases h with
 |one h=>
  cases h with
  |cl h=>cases h<;>first|exact absurd rfl (hc _)|(simp only[xA];exact .c _ _ (by constructor<;>assumption))
  |rs t g x hs hg h=>exact .rs t g x hs hg h
  |pr t g off x hs hg h=>exact .pm t g off x hs hg h
  |mr t g x hs hg h=>exact .mr t g x hs hg h
  |bp=>exact .any _
 |fr f caps vs hl h=>
  refine .Q7 (.fn f) (caps.map sv1) vs trivial (by simp[hl]) λi s x h1 h2=>?_;rw[O6]at h1;cases hi:caps[i]? with
  |none=>rw[hi]at h1;simp at h1
  |some c=>rw[hi]at h1;simp at h1;subst h1;exact dn0 (h i c x hi h2)
theorem cn6{obj:I5}{s:SV}{x:Value}{c:CV}(h:N7 Z w obj E s x)(hc:cap1 s=some c):fM Z w obj E c x:=by
 unfold cap1 at hc;split at hc
 .simp at hc;subst hc;cases h with|rs _ _ _ hs hg h=>exact .rs _ _ _ hs hg h
 .simp at hc;subst hc;cases h with|pm _ _ _ _ hs hg h=>exact .pr _ _ _ _ hs hg h
 .simp at hc;subst hc;cases h with|mr _ _ _ hs hg h=>exact .mr _ _ _ hs hg h
 .exact .cl (lZ h hc)
theorem bi6{obj:I5}:∀{ss:List SV}{cs:List CV}{vs:List Value},OI ss=some cs->ss.length=vs.length->(∀(i:Nat)(s:SV)(x:Value),ss[i]?=some s->vs[i]?=some x->N7 Z w obj E s x)->
 cs.length=vs.length/\∀(i:Nat)(c:CV)(x:Value),cs[i]?=some c->vs[i]?=some x->fM Z w obj E c x
 |[],cs,vs,hc,hl,_=>by
  simp[OI]at hc;subst hc;exact⟨hl,λi c x h=>by simp at h⟩
 |s::r,cs,vs,hc,hl,h=>by
  simp only[OI]at hc;split at hc
  .rename_i c cs' h1 h2;simp at hc;subst hc;cases vs with
   |nil=>simp at hl
   |cons v vs=>
    obtain⟨k1,k2⟩:=bi6 (vs:=vs) h2 (by simpa using hl) (λi s x a b=>h (i+1) s x (by simpa using a) (by simpa using b));refine⟨by simp[k1],λi c' x a b=>?_⟩;cases i with
    |zero=>simp at a b;subst a;subst b;exact cn6 (h 0 s v rfl rfl) h1
    |succ i=>exact k2 i c' x (by simpa using a) (by simpa using b)
  .simp at hc
theorem dn2{obj:I5}{cs:List CV}{vs:List Value}(hl:cs.length=vs.length)(h:∀(i:Nat)(c:CV)(x:Value),cs[i]?=some c->vs[i]?=some x->X5 Z w obj E c x)
 (ha:∀(i:Nat)(c:CV),cs[i]?=some c->c.atom=true):N7 Z w obj E (xA (.agg cs)) (.agg vs.toArray):=by
 simp only[xA];cases hn:nN cs with
 |true=>exact .c _ _ (.agg cs vs hl (λi c x h1 h2=>(h i c x h1 h2).closed (kY hn h1)) ha)
 |false=>exact .aC cs vs hl h ha
theorem bO2{obj:I5}{t:TypeId}{i:TI}(hi:N8 P t i){cs:List CV}{b o off:Nat}{f:Nat->Value}{c:CV}
 (hc:∀(j:Nat)(c:CV),cs[j]?=some c->w.cell? ⟨b,o+j,none⟩=some (f j)/\c.atom=true/\X5 Z w obj E c (f j)) (hp:part i cs off=some c):
 ∃x,(Instr.loadAt t (.pointer (some ⟨b,o+off,none⟩))).run P w=.ok x w/\N7 Z w obj E (xA c) x:=by
 unfold part at hp;cases hagg:i.isAgg with
 |false=>
  rw[hagg]at hp;simp only[G6]at hp;obtain⟨h1,h2,h3⟩:=hc off c hp;refine⟨f off,?_,bT4 h3 (λcs e=>by rw[e]at h2;simp[CV.atom]at h2)⟩;have hr:=hi.DZ w;rw[hagg]at hr;simp[Instr.loadAt,Instr.sureAddr,loadVar,hr,Go.load,Sem.run,h1]
 |true=>
  rw[hagg]at hp;simp only[H7]at hp;cases hx:takeN i.size (cs.drop off)with
  |none=>rw[hx]at hp;simp at hp
  |some xs=>
   rw[hx]at hp;simp at hp;subst hp;obtain⟨hl,hj⟩:=as4 _ _ _ hx;have hr:=hi.DZ w;rw[hagg]at hr;have hat:∀(j:Nat)(c:CV),xs[j]?=some c->cs[off+j]?=some c:=λj c hjc=>by grind
   let vals:=(List.range i.size).map λj=>f (off+j)
   have hvl:vals.length=i.size:=by simp[vals]
   have hcells:=run_loadCells_list (P:=P) w ⟨b,o+off,none⟩ vals (λj v wL=>by
    have hlt:j<i.size:=by rw[<-hvl];exact(O4.1 wL).1
    have hxj:∃c,xs[j]?=some c:=⟨xs[j]'(by omega),I9 (by omega)⟩;obtain⟨c,hxc⟩:=hxj;obtain⟨h1,_,_⟩:=hc _ c (hat j c hxc);have:v=f (off+j):=by
     simp[vals,O6,bd0 hlt]at wL;exact wL.symm
    rw[this,gY,Nat.add_assoc]
    exact h1)
   rw[hvl]at hcells;refine⟨.agg vals.toArray,?_,dn2 (by omega) (λj c x hjc hjx=>?_) (λj c hjc=>(hc _ c (hat j c hjc)).2.1)⟩
   .simp[Instr.loadAt,Instr.sureAddr,loadVar,hr,hi.sizeOf w,hcells]
   .grind
theorem ac5(hI:Inv G Z0 w0 S n Z E st a w){s g:Nat}{cs:List CV}(h:st.obj s=(g,.varx cs)){off:Nat}{x:Value}(hx:N7 Z w st.obj E (.pm s g off) x):
 ∃b,E s=.pointer (some ⟨b,0,none⟩)/\x=.pointer (some ⟨b,off,none⟩)/\∃f:Nat->Value,∀(j:Nat)(c:CV),cs[j]?=some c->w.cell? ⟨b,j,none⟩=some (f j)/\c.atom=true/\X5 Z w st.obj E c (f j):=by
 cases hx with
 |pm _ _ _ _ _ hg hl=>
  obtain⟨b,hE,hxe⟩:=hl ⟨cs,.inr (.inr h)⟩;refine⟨b,hE,hxe,?_⟩;have ho:=hI.obj s;rw[h]at ho;obtain⟨b',el,arr,he,hh,hs,hc,_⟩:=ho;have:b'=b:=by rw[hE]at he;injection he with h1;injection h1 with h1;injection h1 with h1;exact h1.symm
  subst this;refine⟨λj=>arr.getD j undef,λj c hj=>?_⟩;obtain⟨hat,x',hx',hr⟩:=hc j c hj;have:arr.getD j undef=x':=by rw[aT,hx'];rfl
  simp only[this];exact⟨(jY w b' j arr el (0,0) hh).trans hx',hat,hr⟩
theorem bi8{ds:List (List CV)}{D8:Option (Nat×List CV)}{m:Nat}{cs:List CV}(hf:GN ds D8)(h:ag9 ds D8 m cs):m<ds.length/\Y8 ds D8 m=some cs:=by
 unfold ag9 at h;unfold Y8;split at h
 .exact⟨(O4.1 h).1,h⟩
 .rename_i k d;rcases h with⟨rfl,rfl⟩|⟨hne,h⟩
  .exact⟨hf.1 _ _ rfl,by simp⟩
  .exact⟨(O4.1 h).1,by simp[hne,h]⟩
theorem aJ0{i j len sz:Nat}(hi:i<len)(hj:j<sz):i*sz+j<len*sz:=by
 have:(i+1)*sz<=len*sz:=iJ _ hi;rw[pV,rU]at this;omega
theorem aQ2{base e size m:Nat}{v:Value}{xs:List Value}(h:w.ownsRow base e size v m xs)(hn:0<m):∃g cap,v=.slice (some ⟨g,0,none⟩) m cap/\base<=g/\g<w.heap.size:=by
 rcases h.2 with⟨_,h0⟩|⟨g,cap,cur,hv,hb,hg,_⟩
 .omega
 .exact⟨g,cap,hv,hb,(V4.1 hg).1⟩
theorem cj5(hI:Inv G Z0 w0 S n Z E st a w){s g el sz:Nat}{ds:List (List CV)}{D8:Option (Nat×List CV)}(h:st.obj s=(g,.arr el sz ds D8)){m:Nat}{cs:List CV}(hm:m<ds.length)(hcs:Y8 ds D8 m=some cs):
 ∃b l k,E s=.slice (some ⟨b,0,none⟩) l k/\cs.length=sz/\∃f:Nat->Value,∀(j:Nat)(c:CV),cs[j]?=some c->w.cell? ⟨b,m*sz+j,none⟩=some (f j)/\c.atom=true/\X5 Z w st.obj E c (f j):=by
 have ho:=hI.obj s;rw[h]at ho;obtain⟨xs,hsz,hown,hfoc,hdl,hcl,hz⟩:=ho;obtain⟨b,cap,hE,hb,hlt⟩:=aQ2 hown (by omega);refine⟨b,ds.length,cap,hE,hdl m cs hm hcs,λj=>xs.getD (m*sz+j) undef,λj c hj=>?_⟩;obtain⟨hat,u,hu,hr⟩:=hcl m cs hm hcs j c hj;have hlt2:m*sz+j<ds.length*sz:=by rw[<-hown.1];exact(O4.1 hu).1
 have:xs.getD (m*sz+j) undef=u:=by rw[NQ,hu];rfl
 rw[hE]at hown;simp only[this];exact⟨by rw[hown.cellAt _ hlt2,hu],hat,hr⟩
theorem dA7(hT:X9 P T)(dst:Option Nat)(t:TypeId)(x:Operand)(type:TypeId)(pos:String)(after:Array Edge)(guard:Option (Nat×Bool)):wB P G T ⟨dst,.load t x,type,pos,after,guard⟩:=by
 intro Z0 w0 S n Z E st a w K next Q hI hd h hn
 have hx:=Y2 hI x;simp only[Y6]at h;split at h
 .rename_i i hti;have hi:=hT _ _ hti;have fin:∀(b o off:Nat)(cs:List CV)(f:Nat->Value)(c:CV)(rd:List Nat),a.eval x=.pointer (some ⟨b,o+off,none⟩)->
   (∀(j:Nat)(c:CV),cs[j]?=some c->w.cell? ⟨b,o+j,none⟩=some (f j)/\c.atom=true/\X5 Z w st.obj E c (f j))->part i cs off=some c->K (xA c) rd []->
   Oper.bT P ⟨dst,.load t x,type,pos,after,guard⟩ a w next Q:=by
   intro b o off cs f c rd he hc hp hk;obtain⟨v,hv,hrep⟩:=bO2 hi hc hp;refine aP hI hd hn hk (x:=v) ?_ hrep;simp only[execOp,he,I7,hv];rfl
  split at h
  .rename_i s g off he;rw[he]at hx;split at h
   .rename_i g' cs ho;replace h:=Q8 h;obtain⟨hgg,h⟩:=h;have:=F8 hgg;subst this;split at h
    .rename_i c hp;obtain⟨b,_,hxe,f,hc⟩:=ac5 hI ho hx;exact fin b 0 off cs f c _ (by rw[hxe,V7]) (λj c hj=>by rw[V7];exact hc j c hj) hp h
    .exact h.elim
   .exact h.elim
  .rename_i s g m off he;rw[he]at hx;split at h
   .rename_i g' el sz ds D8 ho;replace h:=Q8 h;obtain⟨hgg,h⟩:=h;have:=F8 hgg;subst this;obtain⟨cs,hcs,h⟩:=h;split at h
    .rename_i c hp;have hfoc:GN ds D8:=by have:=hI.obj s;rw[ho]at this;exact this.choose_spec.2.2.1
     obtain⟨hm,hcx⟩:=bi8 hfoc hcs;obtain⟨b,l,k,hE,_,f,hc⟩:=cj5 hI ho hm hcx;have hxe:a.eval x=.pointer (some ⟨b,m*sz+off,none⟩):=by
      generalize a.eval x=y at hx;cases hx with
      |pe _ _ _ _ _ _ hp'=>grind
     exact fin b (m*sz) off cs f c _ hxe hc hp h
    .exact h.elim
   .exact h.elim
  .exact h.elim
 .exact h.elim
theorem dA8(dst:Option Nat)(x:Operand)(type:TypeId)(pos:String)(after:Array Edge)(guard:Option (Nat×Bool)):wB P G T ⟨dst,.nilCheck x,type,pos,after,guard⟩:=by
 intro Z0 w0 S n Z E st a w K next Q hI hd h hn
 have hx:=Y2 hI x;have fin:∀(b off:Nat)(rd:List Nat),a.eval x=.pointer (some ⟨b,off,none⟩)->K (look st x) rd []->Oper.bT P ⟨dst,.nilCheck x,type,pos,after,guard⟩ a w next Q:=by
  intro b off rd he hk;exact aP hI hd hn hk (x:=a.eval x) (by simp[execOp,he]) hx
 simp only[Y6]at h;split at h
 .rename_i s g off he;have hx':=hx;rw[he]at hx';split at h
  .rename_i g' cs ho;replace h:=Q8 h;obtain⟨hgg,h⟩:=h;have:=F8 hgg;subst this;obtain⟨b,_,hxe,_⟩:=ac5 hI ho hx';exact fin b off _ hxe h
  .exact h.elim
 .rename_i s g m off he;have hx':=hx;rw[he]at hx';split at h
  .rename_i g' el sz ds D8 ho;replace h:=Q8 h;obtain⟨hgg,h⟩:=h;have:=F8 hgg;subst this;generalize hax:a.eval x=y at hx';cases hx' with
   |pe _ _ _ _ _ _ hp'=>
    obtain⟨b',l',k',hE',hy⟩:=hp' _ _ _ _ ho;exact fin _ _ _ (hax.trans hy) h
  .exact h.elim
 .exact h.elim
theorem dA4(hT:X9 P T)(dst:Option Nat)(t:TypeId)(x:Operand)(k:Nat)(type:TypeId)(pos:String)(after:Array Edge)(guard:Option (Nat×Bool)):wB P G T ⟨dst,.fieldAddr t x k,type,pos,after,guard⟩:=by
 intro Z0 w0 S n Z E st a w K next Q hI hd h hn
 have hx:=Y2 hI x;simp only[Y6]at h;split at h
 .rename_i fs _ _ _ _ _ hti;have hi:=hT _ _ hti;split at h
  .rename_i f hf;split at h
   .rename_i i hfi;have aH0:=hT _ _ hfi;cases hz:Nat.beq i.size 0 with
    |true=>rw[hz]at h;exact h.elim
    |false=>
     rw[hz]at h;simp only[G6]at h;have hne:i.size≠0:=λe=>by rw[e]at hz;exact Bool.noConfusion hz
     have run:∀b off,(Instr.fieldAt t (.pointer (some ⟨b,off,none⟩)) k).run P w=.ok (.pointer (some ⟨b,off+f.offset,none⟩)) w:=by
      intro b off;have hu:=hi.u;simp only at hu;simp[Instr.fieldAt,L6 hu,hf,Instr.sureAddr,fieldPlace,aH0.sizeOf w,hne,gY]
     split at h
     .rename_i s g off he;have hx':=hx;rw[he]at hx';split at h
      .rename_i g' cs ho;replace h:=Q8 h;obtain⟨hgg,h⟩:=h;have:=F8 hgg;subst this;obtain⟨b,hE,hxe,_⟩:=ac5 hI ho hx';refine aP hI hd hn h (x:=.pointer (some ⟨b,off+f.offset,none⟩)) ?_ (.pm _ _ _ _ ⟨_,rfl⟩ ?_ λ_=>⟨b,hE,rfl⟩)
       .simp only[execOp,hxe,I7,run];rfl
       .cases hx' with|pm _ _ _ _ _ hg _=>exact hg
      .exact h.elim
     .rename_i s g m off he;have hx':=hx;rw[he]at hx';split at h
      .rename_i g' el sz ds D8 ho;replace h:=Q8 h;obtain⟨hgg,h⟩:=h;have:=F8 hgg;subst this;generalize hax:a.eval x=y at hx';cases hx' with
       |pe _ _ _ _ _ hg hp'=>
        obtain⟨b,l,k',hE,hy⟩:=hp' _ _ _ _ ho;refine aP hI hd hn h (x:=.pointer (some ⟨b,m*sz+off+f.offset,none⟩)) ?_ (.pe _ _ _ _ _ hg λdK sz' ds' iM ho'=>?_)
        .simp only[execOp,hax,hy,I7,run];rfl
        .grind
      .exact h.elim
     .exact h.elim
   .exact h.elim
  .exact h.elim
 .exact h.elim
theorem co5{obj:I5}{s:SV}{x:Value}{ys:List CV}(h:N7 Z w obj E s x)(hy:aA4 s=some ys):
 x.cells.size=ys.length/\∀(j:Nat)(d:CV),ys[j]?=some d->d.atom=true/\∃y,x.cells[j]?=some y/\X5 Z w obj E d y:=by
 have closed:∀c,aQ s=some c->c.storable=true->x.cells.size=c.cells.length/\∀(j:Nat)(d:CV),c.cells[j]?=some d->d.atom=true/\∃y,x.cells[j]?=some y/\X5 Z w obj E d y:=by
  intro c hc hs;obtain⟨h1,h2⟩:=OM (lZ h hc) hs;exact⟨h1,λj d hj=>⟨(h2 j d hj).1,by obtain⟨_,y,hy,hr⟩:=h2 j d hj;exact⟨y,hy,.cl hr⟩⟩⟩
 unfold aA4 at hy;split at hy
 .rename_i t g;simp at hy;subst hy;cases h with
  |rs _ _ _ hs hg h=>
   obtain⟨aa,l,k,rfl⟩:=hs;refine⟨by simp[Value.cells],λj d hj=>?_⟩
   match j,hj with
   |0,hj=>simp at hj;subst hj;exact⟨rfl,.slice aa l k,by simp[Value.cells],.one (.rs t g _ ⟨aa,l,k,rfl⟩ hg h)⟩
   |j+1,hj=>simp at hj
 .rename_i t g off;simp at hy;subst hy;cases h with
  |pm _ _ _ _ hs hg h=>
   obtain⟨p,rfl⟩:=hs;refine⟨by simp[Value.cells],λj d hj=>?_⟩
   match j,hj with
   |0,hj=>simp at hj;subst hj;exact⟨rfl,.pointer p,by simp[Value.cells],.one (.pr t g off _ ⟨p,rfl⟩ hg h)⟩
   |j+1,hj=>simp at hj
 .rename_i t g;simp at hy;subst hy;cases h with
  |mr _ _ _ hs hg h=>
   obtain⟨p,rfl⟩:=hs;refine⟨by simp[Value.cells],λj d hj=>?_⟩
   match j,hj with
   |0,hj=>simp at hj;subst hj;exact⟨rfl,.map p,by simp[Value.cells],.one (.mr t g _ ⟨p,rfl⟩ hg h)⟩
   |j+1,hj=>simp at hj
 .rename_i f caps;cases hcs:OI caps with
  |none=>rw[hcs]at hy;simp at hy
  |some cs=>
   rw[hcs]at hy;simp at hy;subst hy;cases h with
   |Q7 _ _ vs _ hl h=>
    obtain⟨k1,k2⟩:=bi6 hcs hl h;refine⟨by simp[FV.val,Value.cells],λj d hj=>?_⟩
    match j,hj with
    |0,hj=>simp at hj;subst hj;exact⟨rfl,.func (.func f) #[] vs.toArray,by simp[FV.val,Value.cells],.fr f cs vs k1 k2⟩
    |j+1,hj=>simp at hj
 .rename_i cs;simp at hy;subst hy;cases h with
  |aC _ vs hl hr ha=>
   refine⟨by simp[Value.cells,hl],λj d hj=>⟨ha j d hj,?_⟩⟩;have hlt:j<cs.length:=(O4.1 hj).1;have hv:vs[j]?=some (vs[j]'(by omega)):=I9 (by omega);exact⟨_,by simp[Value.cells,hv],hr j d _ hj hv⟩
 .grind
theorem X5.an1{obj:I5}{c:CV}{x:Value}(h:X5 Z w obj E c x)(ha:c.atom=true):x.oneCell'=true:=by
 cases h with
 |one h=>
  cases h with
  |cl h=>exact h.atom ha
  |rs t g x hs hg h=>obtain⟨aa,l,k,rfl⟩:=hs;rfl
  |pr t g off x hs hg h=>obtain⟨p,rfl⟩:=hs;rfl
  |mr t g x hs hg h=>obtain⟨p,rfl⟩:=hs;rfl
  |bp T f x hs=>obtain⟨p,rfl⟩:=hs;rfl
 |fr f caps vs hl h=>rfl
theorem cells_one{obj:I5}{ys:List CV}{x:Value}(hs:x.cells.size=ys.length)(hc:∀(j:Nat)(d:CV),ys[j]?=some d->d.atom=true/\∃y,x.cells[j]?=some y/\X5 Z w obj E d y):∀v∈x.cells.toList,v.oneCell'=true:=by
 intro v hv;obtain⟨j,hj,wL⟩:=dV hv;have hj':j<ys.length:=by rw[<-hs];simpa using hj
 obtain⟨hat,u,hu,hr⟩:=hc j _ (I9 hj');have:u=v:=by
  rw[mW (by simpa using hj)]at hu;simp at hu wL;rw[<-hu,<-wL]
 subst this;exact hr.an1 hat
theorem bN2{cur:Array Value}{vs:List Value}{o:Nat}(hfit:o+vs.length<=cur.size)(j:Nat):
 ((cur.toList.take (o+0)++vs++cur.toList.drop (o+0+vs.length)).toArray)[j]?=if o<=j/\j<o+vs.length then vs[j-o]? else cur[j]?:=by
 simp only[oD,List.getElem?_toArray,kM];have hl1:(cur.toList.take o).length=o:=by simp;omega
 by_cases hjo:j<o
 .rw[bV (by omega),jK,I4 hjo,F9 (by omega)];simp
 .rw[bJ (by omega),hl1]
  grind
theorem bN3{cur:Array Value}{vs:List Value}{o:Nat}(hfit:o+vs.length<=cur.size):(cur.toList.take (o+0)++vs++cur.toList.drop (o+0+vs.length)).toArray.size=cur.size:=by
 simp;omega
end
end Go.F6
namespace Go.F6
open Go Go.RowKit
section
variable{P:Program}
def NH(o:Option Value)(n dflt:Nat):Prop:=(o=none/\n=dflt)\/∃k,o=some (.int k n)
theorem run_sliceBound(k:IntKind){i y:Nat}(h:i<=y)(code:BoundsCode)(w:World):(Instr.sliceBound (.int k i) y code).run P w=.ok i w:=by
 have:((0:Int)<=(i:Int)/\(i:Int)<=(y:Int)):=by omega
 simp[Instr.sliceBound,asIntOf,h]
theorem db7(isS:Bool){len cap l h:Nat}(hlc:len<=cap)(hlh:l<=h)(hh:h<=len){lo hi:Option Value}(hlo:NH lo l 0)(hhi:NH hi h len)(w:World):
 (Instr.sliceBounds isS len cap lo hi none).run P w=.ok (l,h,cap) w:=by
 rcases hlo with⟨rfl,rfl⟩|⟨k1,rfl⟩<;>rcases hhi with⟨rfl,rfl⟩|⟨k2,rfl⟩
 .simp[Instr.sliceBounds]
 .simp only[Instr.sliceBounds,I7,Q5,N9,run_sliceBound (P:=P) k2 (X4 hh hlc)]
 .simp only[Instr.sliceBounds,I7,Q5,N9,run_sliceBound (P:=P) k1 hlh]
 .simp only[Instr.sliceBounds,I7,Q5,N9,run_sliceBound (P:=P) k2 (X4 hh hlc),run_sliceBound (P:=P) k1 hlh]
end
theorem df6{ds ds':List (List CV)}{D8 iM:Option (Nat×List CV)}{m:Nat}{cs':List CV}(hf:GN ds D8)(hm:m<ds.length)(h:setCells ds D8 m cs' ds' iM):
 ds'.length=ds.length/\GN ds' iM/\Y8 ds' iM m=some cs'/\∀i,i≠m->Y8 ds' iM i=Y8 ds D8 i:=by
 unfold setCells at h;split at h
 .rcases h with⟨hn,rfl,rfl⟩|⟨rfl,rfl⟩
  .refine⟨by simp,⟨(λ_ _ h=>nomatch h),λi d hd _=>?_⟩,by simp[Y8,hm],λi hi=>by simp[Y8,List.getElem?_set_ne (Ne.symm hi)]⟩;by_cases hi:i=m
   .subst hi;rw[List.getElem?_set_self hm]at hd;injection hd with hd;subst hd;exact hn
   .rw[List.getElem?_set_ne (Ne.symm hi)]at hd;exact hf.2 i d hd (λ_ _ h=>nomatch h)
  .refine⟨rfl,⟨(λk d h=>by cases h;exact hm),λi d hd _=>hf.2 i d hd (λ_ _ h=>nomatch h)⟩,by simp[Y8],λi hi=>by simp[Y8,hi]⟩
 .rename_i k d;rcases h with⟨rfl,rfl,rfl⟩|⟨hne,hn,rfl,rfl⟩
  .refine⟨rfl,⟨(λk d h=>by cases h;exact hm),λi d' hd hi=>hf.2 i d' hd (λk' d'' h=>by cases h;exact hi _ _ rfl)⟩,by simp[Y8],λi hi=>by simp[Y8,hi]⟩
  .refine⟨by simp,⟨(λk' d' h=>by cases h;simpa using hf.1 _ _ rfl),λi d' hd hi=>?_⟩,by simp[Y8,hne,hm],λi hi=>by simp[Y8,List.getElem?_set_ne (Ne.symm hi)]⟩;by_cases him:i=m
   .subst him;rw[List.getElem?_set_self hm]at hd;injection hd with hd;subst hd;exact hn
   .rw[List.getElem?_set_ne (Ne.symm him)]at hd;exact hf.2 i d' hd hi
section
variable{P:Program}{G:World->Prop}{T:Tab}{Z0:Base}{w0:World}{S:Nat->Prop}{n:Nat}{Z Z':Zone}{E:Nat->Value}{st:St}{a:Act}{w w':World}
theorem Inv.dw8(hI:Inv G Z0 w0 S n Z E st a w){s g:Nat}{cs:List CV}(h:st.obj s=(g,.var cs)\/st.obj s=(g,.varx cs)):
 ∃b el arr,E s=.pointer (some ⟨b,0,none⟩)/\w.heap[b]?=some (.cells arr el (0,0))/\arr.size=cs.length/\
  (∀(j:Nat)(c:CV),cs[j]?=some c->c.atom=true/\∃x,arr[j]?=some x/\X5 Z w st.obj E c x)/\(∀o,¬Z b o)/\(st.obj s).2.blk (E s) b/\GK (E s) el arr cs:=by
 have ho:=hI.obj s;rcases h with h|h
 .rw[h]at ho;obtain⟨b,el,arr,he,hh,hs,hc,hz⟩:=ho;exact⟨b,el,arr,he,hh,hs,λj c hj=>⟨(hc j c hj).1,by obtain⟨_,x,hx,hr⟩:=hc j c hj;exact⟨x,hx,.cl hr⟩⟩,hz,by rw[h,he]<;>rfl,.none λj c hj=>by obtain⟨_,x,hx,hr⟩:=hc j c hj;exact hr.cV9⟩
 .rw[h]at ho;obtain⟨b,el,arr,he,hh,hs,hc,hz⟩:=ho;exact⟨b,el,arr,he,hh,hs,hc,hz.1,by rw[h,he]<;>rfl,he▸hz.2⟩
theorem Inv.bP4(hI:Inv G Z0 w0 S n Z E st a w){d:Option Nat}(hd:inRange n d=true){s b:Nat}{o':D9}{arr':Array Value}(hblk:(st.obj s).2.blk (E s) b)(hblk':∀b',o'.blk (E s) b'->b'=b)(hz:∀o,¬Z b o)(x:Value)
 (hsk:jV (st.obj s).2 o')
 (hok:Keeps Z w Z (w.setRow b arr')->dH st.obj E (upd st.obj [(s,((st.obj s).1,o'))]) E->U6 Z (w.setRow b arr') (upd st.obj [(s,((st.obj s).1,o'))]) E (E s) o'):
 Inv G Z0 w0 S n Z E ⟨put st.env d .any,upd st.obj [(s,((st.obj s).1,o'))]⟩ (a.put d x) (w.setRow b arr'):=by
 have hnS:=hI.own s b hblk;have hk:Keeps Z w Z (w.setRow b arr'):=λb' o hz'=>⟨hz',iH (sS w b b' arr' (λe=>by subst e;exact hz o hz'))⟩;have hother:∀t,t≠s->upd st.obj [(s,((st.obj s).1,o'))] t=st.obj t:=λt h=>sZ _ _ h;have hsame:upd st.obj [(s,((st.obj s).1,o'))] s=((st.obj s).1,o'):=tC _ _ _;refine hI.renew (·=s) hd ⟨rfl,rfl,rfl,by simp[World.setRow],λk hk=>sS w b k arr' (λe=>hnS (e▸hk)),λk hk=>aq4 w b k arr' hk⟩ hk (λb o h=>by have:=hI.U4 b o h;simpa[World.setRow]using this) (λ_ _ h=>.inl h) (λt ht=>⟨hother t ht,rfl⟩) ?_ ?_ ?_ ?_ ?_ (.any _)
 .rintro t rfl;rw[hsame];exact .inr ⟨rfl,.inr ⟨rfl,hsk⟩⟩
 .rintro hkeep t rfl;rw[hsame];exact hok hk hkeep
 .intro t ht b' hb;have hne:b'≠b:=λe=>by subst e;exact hI.apart t s b' ht hb hblk
  refine⟨sS w b b' arr' hne,λ_ hz=>hz,?_⟩;rintro s' rfl h;rw[hsame]at h;exact hne (hblk' _ h)
 .rintro t t' b rfl rfl h;exact absurd rfl h
 .rintro t rfl b' hb;rw[hsame]at hb;rw[hblk' _ hb];exact hnS
theorem dA9(hT:X9 P T)(dst:Option Nat)(t:TypeId)(x y:Operand)(type:TypeId)(pos:String)(after:Array Edge)(guard:Option (Nat×Bool)):wB P G T ⟨dst,.store t x y,type,pos,after,guard⟩:=by
 intro Z0 w0 S n Z E st a w K next Q hI hd h hn
 have hx:=Y2 hI x;have hy:=Y2 hI y;simp only[Y6]at h;split at h
 .rename_i i ys hti hys;have hi:=hT _ _ hti;replace h:=Q8 h;obtain⟨hb,h⟩:=h;simp only[X3]at hb;have hyl:ys.length=i.size:=F8 hb.1.1;have hyp:1<=i.size:=H6 hb.1.2;have hyb:=λ{j:Nat} {c:CV}=>bB9 hb.2 (j:=j) (c:=c);obtain⟨hsz,mG⟩:=co5 hy hys;have hone:=cells_one hsz mG;have hvl:(a.eval y).cells.toList.length=ys.length:=by rw[iT,hsz]
  have run:∀(b o:Nat)(cur:Array Value)(el:TypeId),a.eval x=.pointer (some ⟨b,o,none⟩)->w.heap[b]?=some (.cells cur el (0,0))->o+ys.length<=cur.size->
   (execOp a.eval ⟨dst,.store t x y,type,pos,after,guard⟩).run P w=.ok .skip (w.setRow b (cur.toList.take (o+0)++(a.eval y).cells.toList++cur.toList.drop (o+0+(a.eval y).cells.toList.length)).toArray):=by
   intro b o cur el hxe hh hfit;have hrun:=run_storeCells_at (P:=P) b o el (a.eval y).cells.toList 0 cur w hh (by rw[hvl];simpa using hfit) hone;simp only[execOp,hxe,Instr.storeAt,Instr.sureAddr,storeVar,I7,Q5,N9,hi.sizeOf w];rw[F9 (by rw[hsz,hyl];simp)];simp only[Q5,N9,hrun]
  split at h
  .rename_i s g off he;rw[he]at hx;have go:∀cs,(st.obj s=(g,.var cs)\/st.obj s=(g,.varx cs))->(match setAt cs off ys with|some cs'=>K .any [s] [(s,(g,.varx cs'))]|.none=>False)->Oper.bT P ⟨dst,.store t x y,type,pos,after,guard⟩ a w next Q:=by
    intro cs ho h;split at h
    .rename_i cs' hset;obtain⟨b,el,arr,hE,hh,hs,hc,hz,hblk,hbp⟩:=hI.dw8 ho;have hxe:a.eval x=.pointer (some ⟨b,off,none⟩):=by
      generalize a.eval x=y at hx;cases hx with
      |pm _ _ _ _ _ hg hl=>
       obtain⟨b',hE',hy'⟩:=hl ⟨cs,ho.imp id .inr⟩;rw[hE]at hE';simp at hE';rw[hy',hE']
     obtain⟨h1,h2,h3⟩:=SY _ _ _ _ hset;have hfit:off+ys.length<=arr.size:=by
      rcases h2 with h2|h2
      .rw[h2]at hyl;simp at hyl;omega
      .rw[hs];exact h2
     have hg:(st.obj s).1=g:=by rcases ho with ho|ho<;>rw[ho]
     refine MZ (run b off arr el hxe hh hfit) (hn _ _ _ Z E undef _ h ?_);have:=hI.bP4 (o':=.varx cs') (arr':=(arr.toList.take (off+0)++(a.eval y).cells.toList++arr.toList.drop (off+0+(a.eval y).cells.toList.length)).toArray) hd hblk (λb' h=>by rw[hE]at h;exact h.symm) hz undef (by rcases ho with ho|ho<;>(rw[ho];trivial)) ?_
     .rw[hg]at this;exact this
     .intro hk hkeep;have hrs:=bN3 (cur:=arr) (vs:=(a.eval y).cells.toList) (o:=off) (by rw[hvl];exact hfit);have hrg:=λj=>bN2 (cur:=arr) (vs:=(a.eval y).cells.toList) (o:=off) (by rw[hvl];exact hfit) j;generalize cF0:(arr.toList.take (off+0)++(a.eval y).cells.toList++arr.toList.drop (off+0+(a.eval y).cells.toList.length)).toArray=cur' at hrs hrg hk hkeep⊢;simp only[hvl]at hrg;refine⟨b,el,_,hE,rC w b arr _ el (0,0) hh,by rw[hrs,hs,h1],λj c hj=>?_,hz,λj T f hj=>?_⟩
      rotate_left
      .rw[h3 j]at hj;rw[hrg];by_cases hin:off<=j/\j<off+ys.length
       .rw[I4 hin]at hj;have:=hyb hj;simp[CV.EC]at this
       .rw[F9 hin]at hj⊢;exact hbp j T f hj
      rw[h3 j]at hj;rw[hrg];by_cases hin:off<=j/\j<off+ys.length
      .rw[I4 hin]at hj⊢;obtain⟨h4,v,h5,h6⟩:=mG _ c hj;exact⟨h4,v,by simpa using h5,h6.keep hk hkeep⟩
      .rw[F9 hin]at hj⊢;obtain⟨h4,v,h5,h6⟩:=hc j c hj;exact⟨h4,v,h5,h6.keep hk hkeep⟩
    .exact h.elim
   split at h
   .rename_i g' cs ho;replace h:=Q8 h;obtain⟨hgg,h⟩:=h;simp only[X3]at hgg;have:=F8 hgg.1;subst this;exact go cs (.inl ho) h
   .rename_i g' cs ho;replace h:=Q8 h;obtain⟨hgg,h⟩:=h;have:=F8 hgg;subst this;exact go cs (.inr ho) h
   .exact h.elim
  .rename_i s g m off he;rw[he]at hx;split at h
   .rename_i g' el sz ds D8 ho;replace h:=Q8 h;obtain⟨hgg,h⟩:=h;have:=F8 hgg;subst this;obtain⟨cs,hcs,h⟩:=h;split at h
    .rename_i cs' hset;obtain⟨ds',iM,hsc,h⟩:=h;have jB:=hI.obj s;rw[ho]at jB;obtain⟨xs,kW,hown,hfoc,hdl,hcl,hz⟩:=jB;obtain⟨hm,hcx⟩:=bi8 hfoc hcs;obtain⟨hlen',aj8,hcm,hco⟩:=df6 hfoc hm hsc;obtain⟨h1,h2,h3⟩:=SY _ _ _ _ hset;have br0:=hdl m cs hm hcx;rcases hown.2 with⟨_,h0⟩|⟨b,cap,cur,hE,hbase,hh,hnc,cE9,hcs2,htake⟩
     .omega
     have hxe:a.eval x=.pointer (some ⟨b,m*sz+off,none⟩):=by
      generalize a.eval x=y at hx;cases hx with
      |pe _ _ _ _ _ _ hp'=>grind
     have hoff:off+ys.length<=sz:=by
      rcases h2 with h2|h2
      .rw[h2]at hyl;simp at hyl;omega
      .rw[<-br0];exact h2
     have hmul:ds.length*sz<=cap*sz:=iJ _ hnc;have dL3:m*sz+sz<=ds.length*sz:=by
      have:(m+1)*sz<=ds.length*sz:=iJ _ hm;rw[pV,rU]at this;exact this
     have hfit:m*sz+off+ys.length<=cur.size:=by rw[hcs2];omega
     have hg:(st.obj s).1=g:=by rw[ho]
     have hz':∀o,¬Z b o:=λo=>hz b o (by rw[hE];rfl);refine MZ (run b (m*sz+off) cur el hxe hh hfit) (hn _ _ _ Z E undef _ h ?_);have:=hI.bP4 (o':=.arr el sz ds' iM) (arr':=(cur.toList.take (m*sz+off+0)++(a.eval y).cells.toList++cur.toList.drop (m*sz+off+0+(a.eval y).cells.toList.length)).toArray) hd (by rw[ho,hE]) (λb' h=>by rw[hE]at h;exact h.symm) hz' undef (by rw[ho];exact⟨rfl,rfl⟩) ?_
     .rw[hg]at this;exact this
     .intro hk hkeep;have hrs:=bN3 (cur:=cur) (vs:=(a.eval y).cells.toList) (o:=m*sz+off) (by rw[hvl];exact hfit);have hrg:=λj=>bN2 (cur:=cur) (vs:=(a.eval y).cells.toList) (o:=m*sz+off) (by rw[hvl];exact hfit) j;generalize cF0:(cur.toList.take (m*sz+off+0)++(a.eval y).cells.toList++cur.toList.drop (m*sz+off+0+(a.eval y).cells.toList.length)).toArray=cur' at hrs hrg hk hkeep⊢;simp only[hvl]at hrg;have h9:cur'.toList.length=cap*sz:=by rw[iT,hrs,hcs2]
      refine⟨cur'.toList.take (ds.length*sz),kW,⟨(by rw[hlen',U9,h9];omega),.inr ⟨b,cap,cur',by rw[hlen',hE],hbase,rC w b cur cur' el (0,0) hh,by rw[hlen'];exact hnc,cE9,by rw[hrs,hcs2],by rw[hlen']⟩⟩,aj8,?_,?_,λb' o hb'=>by rw[hE]at hb';simp[Value.ownBlock]at hb';subst hb';exact hz' o⟩
      .grind
      .intro k d hkl hkc j c hj;rw[hlen']at hkl;have cG5:j<sz:=by
        have cF1:d.length=sz:=by grind
        rw[<-cF1];exact(O4.1 hj).1
       have hidx:=aJ0 hkl cG5;have hget:(cur'.toList.take (ds.length*sz))[k*sz+j]?=cur'[k*sz+j]?:=by rw[jK,I4 hidx];simp
       have hold:∀u,xs[k*sz+j]?=some u->cur[k*sz+j]?=some u:=λu hu=>by
        rw[<-htake,jK,I4 hidx]at hu;simpa using hu
       rw[hget,hrg];by_cases hkm:k=m
       .subst hkm;rw[hcm]at hkc;injection hkc with hkc
        subst hkc;rw[h3 j]at hj;by_cases hin:off<=j/\j<off+ys.length
        .rw[I4 hin]at hj;rw[I4 (by omega)];obtain⟨h4,v,h5,h6⟩:=mG _ c hj;refine⟨h4,v,?_,h6.keep hk hkeep⟩;rw[show k*sz+j-(k*sz+off)=j-off from by omega];simpa using h5
        .rw[F9 hin]at hj;rw[F9 (by omega)];obtain⟨h4,v,h5,h6⟩:=hcl k cs hkl hcx j c hj;exact⟨h4,v,hold v h5,h6.keep hk hkeep⟩
       .rw[hco k hkm]at hkc;obtain⟨h4,v,h5,h6⟩:=hcl k d hkl hkc j c hj;have hnot:¬(m*sz+off<=k*sz+j/\k*sz+j<m*sz+off+ys.length):=by
         rcases Nat.lt_or_gt_of_ne hkm with hlt|hgt
         .have:(k+1)*sz<=m*sz:=iJ _ hlt;rw[pV,rU]at this;omega
         .have:(m+1)*sz<=k*sz:=iJ _ hgt;rw[pV,rU]at this;omega
        rw[F9 hnot];exact⟨h4,v,hold v h5,h6.keep hk hkeep⟩
    .exact h.elim
   .exact h.elim
  .exact h.elim
 .exact h.elim
theorem dA5(hT:X9 P T)(dst:Option Nat)(t:TypeId)(x i:Operand)(type:TypeId)(pos:String)(after:Array Edge)(guard:Option (Nat×Bool)):wB P G T ⟨dst,.indexAddr t x i,type,pos,after,guard⟩:=by
 intro Z0 w0 S n Z E st a w K next Q hI hd h hn
 have hx:=Y2 hI x;have hix:=Y2 hI i;simp only[Y6]at h;split at h
 .rename_i e _ _ _ _ _ hti;have hi:=hT _ _ hti;have hu:=hi.u;simp only at hu;split at h
  .rename_i ti s g kd m hte hlx hli;have hie:=hT _ _ hte;rw[hlx]at hx;rw[hli]at hix;have hiv:a.eval i=.int kd m:=kZ hix;split at h
   .rename_i g' el sz ds D8 ho;replace h:=Q8 h;obtain⟨hgg,h⟩:=h;simp only[X3]at hgg;have:=F8 hgg.1;subst this;have hsz:=F8 hgg.2;obtain⟨h0,hlt,h⟩:=h;have jB:=hI.obj s;rw[ho]at jB;obtain⟨xs,kW,hown,_⟩:=jB;obtain⟨b,cap,hE,_,_⟩:=aQ2 hown (by omega);generalize hax:a.eval x=y at hx;cases hx with
    |rs _ _ _ hs hg hp'=>
     have hye:y=.slice (some ⟨b,0,none⟩) ds.length cap:=(hp' _ _ _ _ ho).symm.trans hE;refine aP hI hd hn h (x:=.pointer (some ⟨b,m.toNat*sz,none⟩)) ?_ (.pe _ _ _ _ _ hg λdK sz' ds' iM ho'=>?_)
     .have JX:(0<=m/\m<(ds.length:Int)):=⟨h0,by omega⟩;simp only[execOp,hax,hye,hiv,Instr.indexAt,asIntOf,I7,Q5,N9,L6 hu,hie.sizeOf w,I4 JX,gY,hsz,V7]
     .grind
   .exact h.elim
  .exact h.elim
 .exact h.elim
end
end Go.F6
namespace Go.F6
open Go Go.RowKit
section
variable{P:Program}{G:World->Prop}{T:Tab}{Z0:Base}{w0:World}{S:Nat->Prop}{n:Nat}{Z Z':Zone}{E:Nat->Value}{st:St}{a:Act}{w w':World}
theorem cB5(w:World)(r:Option Nat):w.grownBy w r:=⟨rfl,rfl,rfl,J6 _,λ_ _ _=>rfl⟩
theorem Inv.bf8(hI:Inv G Z0 w0 S n Z E st a w){d:Nat}(hd:inRange n (some d)=true){x:Value}{el sz:Nat}{ds:List (List CV)}{D8:Option (Nat×List CV)}{E5:I5}{g:Nat}(hg:g=(st.obj d).1+1)
 (hod:E5 d=(g,.arr el sz ds D8)) (JY:∀t,t≠d->E5 t=st.obj t\/E5 t=((st.obj t).1,.spent))
 (hb:Kept S w w') (hk:Keeps Z w Z' w') (hlt:∀b o,Z' b o->b<w'.heap.size) (hnew:∀b o,Z' b o->Z b o\/¬S b) (hs:∃aa l k,x=.slice aa l k)
 (hown:dH st.obj E E5 (iR E d x)->U6 Z' w' E5 (iR E d x) x (.arr el sz ds D8)) (hnS:∀b,x.ownBlock=some b->¬S b)
 (XF:∀t,t≠d->E5 t=st.obj t->∀b,(st.obj t).2.blk (E t) b->w'.heap[b]?=w.heap[b]?/\(∀k,Z' b k->Z b k)/\x.ownBlock≠some b):
 Inv G Z0 w0 S n Z' (iR E d x) ⟨put st.env (some d) (.rs d g),E5⟩ (a.put (some d) x) w':=by
 subst hg;refine hI.renew (λt=>t=d\/E5 t≠st.obj t) hd hb hk hlt hnew ?_ ?_ ?_ ?_ ?_ ?_ ?_
 .intro t ht;have h1:t≠d:=λe=>ht (.inl e);exact⟨Classical.byContradiction λe=>ht (.inr e),aU2 E _ h1⟩
 .intro t ht;by_cases h:t=d
  .subst h;rw[hod];exact .inl (X8 _)
  .rcases JY t h with h1|h1
   .rcases ht with ht|ht
    .exact absurd ht h
    .exact absurd h1 ht
   .rw[h1];exact .inr ⟨rfl,.inl (.inl rfl)⟩
 .intro hkeep t ht;by_cases h:t=d
  .subst h;rw[hod,sQ];exact hown hkeep
  .rcases JY t h with h1|h1
   .rcases ht with ht|ht
    .exact absurd ht h
    .exact absurd h1 ht
   .rw[h1];trivial
 .intro t ht b hb;have h1:t≠d:=λe=>ht (.inl e);have h2:E5 t=st.obj t:=Classical.byContradiction λe=>ht (.inr e);obtain⟨g1,g2,g3⟩:=XF t h1 h2 b hb;refine⟨g1,g2,λs hs=>?_⟩;by_cases h:s=d
  .subst h;rw[hod,sQ,iF];exact g3
  .grind
 .intro t t' b ht ht' hne h1 h2;by_cases h:t=d
  .grind
  .grind
 .intro t ht b hb';by_cases h:t=d
  .subst h;rw[hod,sQ,iF]at hb';exact hnS b hb'
  .grind
 .refine .rs _ _ _ hs ?_ λ_ _ _ _ _=>sQ _ _ _;rw[hod];exact J6 _
theorem bf0{base:Nat}{t ty e:TypeId}{i:TypeInfo}{z:Value}{size:Nat}(ht:P.underlying t=some (.slice e))(hi:P.info? e=some i)(hz:i.zero=some z)
 (hsize:i.size=size) (hzs:z.cells.size=size) (hsz:0<size) {v:Value} {m0:Nat} {xs:List Value} (hown:w.ownsRow base e size v m0 xs) (hsl:∃aa l k,v=.slice aa l k)
 {yv:Value} {m:Nat} {news:List Value} (hl:news.length=m*size) (h1:∀u∈news,u.oneCell'=true)
 (hy:(m=0/\∃ya yc,yv=.slice ya 0 yc)\/∃b c,yv=.slice (some b) m c/\0<m/\∀j u,news[j]?=some u->w.cell? (b.add j)=some u)
 (h63:m0+m<=9223372036854775807) (hbytes:(m0+m)*i.bytes<=140737488355328) (hbase:base<=w.heap.size):
 ∃v' w',(Builtin.append_ #[t,t] ty #[v,yv]).run P w=.ok v' w'/\w'.ownsRow base e size v' (m0+m) (xs++news)/\w.grownBy w' v.ownBlock/\
  (v'.ownBlock=v.ownBlock\/v'.ownBlock=some w.heap.size)/\∃aa l k,v'=.slice aa l k:=by
 rcases hy with⟨hm,ya,yc,rfl⟩|⟨b,c,rfl,hm,hnews⟩
 .subst hm;have hnil:news=[]:=lX (by simpa using hl);subst hnil;exact⟨v,w,bf2 ht hi hown ya yc,by simpa using hown,cB5 _ _,.inl rfl,hsl⟩
 .obtain⟨v',w',hr,ho,hg,_,hb⟩:=bf4 (P:=P) (ty:=ty) (c:=c) ht hi hz hsize hzs hsz hown hm hl hnews h1 h63 hbytes hbase;refine⟨v',w',hr,ho,hg,hb,?_⟩;rcases ho.2 with⟨he,_⟩|⟨g,cap,cur,he,_⟩
  .exact⟨_,_,_,he⟩
  .exact⟨_,_,_,he⟩
theorem ah3{s2 sz:Nat}{ns:List (List CV)}{yv:Value}(hsz:0<sz)(hns:∀m∈ns,m.length=sz)(h:Rep Z w (.sl s2 ns) yv):
 ∃news:List Value,news.length=ns.length*sz/\(∀u∈news,u.oneCell'=true)/\((ns.length=0/\∃ya yc,yv=.slice ya 0 yc)\/∃b c,yv=.slice (some b) ns.length c/\0<ns.length/\∀j u,news[j]?=some u->w.cell? (b.add j)=some u)/\
  ∀(i j:Nat)(d:List CV)(c:CV),ns[i]?=some d->d[j]?=some c->c.atom=true/\∃u,news[i*sz+j]?=some u/\Rep Z w c u:=by
 cases h with
 |nil _ ya yc=>exact⟨[],by simp,by simp,.inl ⟨rfl,ya,yc,rfl⟩,λi j d c h=>by simp at h⟩
 |sl _ _ b o cap f hcap hs2 hc hr=>
  by_cases hnil:ns=[]
  .subst hnil;exact⟨[],by simp,by simp,.inl ⟨rfl,_,_,rfl⟩,λi j d c h=>by simp at h⟩
  .have hpos:0<ns.length:=List.length_pos_iff.2 hnil;have aI4:s2=sz:=by
    have hfirst:ns[0]?=some (ns[0]'hpos):=I9 hpos;rw[<-hs2 0 _ hfirst];exact hns _ (fK hpos)
   subst aI4
   let news:=(List.range (ns.length*s2)).map λk=>f (k/s2) (k % s2)
   have hnl:news.length=ns.length*s2:=by simp[news]
   have PW:∀k,k<ns.length*s2->news[k]?=some (f (k/s2) (k % s2)):=λk hk=>by simp[news,O6,bd0 hk]
   refine⟨news,hnl,?_,.inr ⟨⟨b,o,none⟩,cap,rfl,hpos,?_⟩,?_⟩
   .intro u hu;obtain⟨k,hk,hku⟩:=dV hu;have hlt:k<ns.length*s2:=by rw[<-hnl];exact hk
    obtain⟨dd,c,h1,h2⟩:=flat_get hs2 hsz hlt;have hu':u=f (k/s2) (k % s2):=by
     have h3:=PW k hlt;rw[I9 hk]at h3;injection h3 with h3
     rw[<-hku,h3]
    rw[hu'];exact(hr _ _ dd c h1 h2).atom (hc _ _ dd c h1 h2).2.2
   .intro k u hk;have hlt:k<ns.length*s2:=by rw[<-hnl];exact(O4.1 hk).1
    obtain⟨dd,c,h1,h2⟩:=flat_get hs2 hsz hlt;obtain⟨_,hcell,_⟩:=hc _ _ dd c h1 h2;rw[PW k hlt]at hk;injection hk with hk
    rw[gY,<-hk];rw[Nat.add_assoc,aB4]at hcell;exact hcell
   .intro i j d c h1 h2;have hi:i<ns.length:=(O4.1 h1).1;have hj:j<s2:=by rw[<-hs2 i d h1];exact(O4.1 h2).1
    refine⟨(hc i j d c h1 h2).2.2,f i j,?_,hr i j d c h1 h2⟩;rw[PW _ (aJ0 hi hj)];have e1:(i*s2+j)/s2=i:=by rw[Nat.mul_comm,Nat.mul_add_div hsz,Nat.div_eq_of_lt hj,oD]
    have e2:(i*s2+j) % s2=j:=by rw[Nat.mul_comm,Nat.mul_add_mod,Nat.mod_eq_of_lt hj]
    rw[e1,e2]
theorem dA6(hT:X9 P T)(dst:Option Nat)(args:Array Operand)(argTypes:Array TypeId)(type:TypeId)(pos:String)(after:Array Edge)(guard:Option (Nat×Bool)):wB P G T ⟨dst,.call ⟨.builtin .len,args,argTypes⟩,type,pos,after,guard⟩:=by
 intro Z0 w0 S n Z E st a w K next Q hI hd h hn
 obtain⟨args⟩:=args;cases args with
 |nil=>simp only[Y6]at h
 |cons x rest=>
 cases rest with
 |cons y r=>simp only[Y6]at h
 |nil=>
 have hx:=Y2 hI x;simp only[Y6]at h;split at h
 .rename_i x0 _ x' e _ _ _ _ _ hx0 hbt;have hxx:x=x':=by injection hx0
  subst hxx;split at h
  .rename_i s g he;rw[he]at hx;split at h
   .rename_i g' el sz ds D8 ho;replace h:=Q8 h;obtain⟨hgg,h⟩:=h;have:=F8 hgg;subst this;have jB:=hI.obj s;rw[ho]at jB;obtain⟨xs,kW,hown,_⟩:=jB;have hxe:∃aa cap,a.eval x=.slice aa ds.length cap:=by
     generalize a.eval x=y at hx;cases hx with
     |rs _ _ _ hs hg hp'=>
      rw[hp' _ _ _ _ ho]at hown;rcases hown.2 with⟨hy,h0⟩|⟨b,cap,cur,hy,_⟩
      .exact⟨_,_,by rw[hy,h0]⟩
      .exact⟨_,_,hy⟩
    obtain⟨aa,cap,hxe⟩:=hxe;cases hat:argTypes[0]? with
    |none=>rw[hat]at hbt;cases hbt
    |some t0=>
     rw[hat]at hbt;have hu:=(hT _ _ hbt).u;simp only at hu;refine aP hI hd hn h ?_ (.c _ _ (.v _));rw[CY];simp only[builtin,I7,List.map_toArray,kP,List.map_nil];simp[Builtin.len_,hat,L6 hu,hxe,goInt]
   .exact h.elim
  .exact h.elim
 .exact h.elim
theorem VD(hT:X9 P T)(hI:Inv G Z0 w0 S n Z E st a w){d:Nat}{x y:Operand}{t1 e:TypeId}{type:TypeId}{pos:String}{after:Array Edge}{guard:Option (Nat×Bool)}{K:Z8}{next:Act->World->Prop}{Q:Exit->Act->World->Prop}(hd:inRange n (some d)=true)
 {ti i:TI} (ht1:T.get t1=some ti) (hde:ti.desc=.slice e) (hte:T.get e=some i) (h1:1<=i.size) (hby:i.bytes<=4096)
 {v:Value} {m0:Nat} {xs:List Value} (hev:a.eval x=v) (hown:w.ownsRow 0 e i.size v m0 xs) (hsl:∃aa l k,v=.slice aa l k)
 (hvz:∀b o,v.ownBlock=some b->¬Z b o) (hvS:∀b,v.ownBlock=some b->¬S b)
 {m:Nat} {news:List Value} (hl:news.length=m*i.size) (hone:∀u∈news,u.oneCell'=true)
 (hy:(m=0/\∃ya yc,a.eval y=.slice ya 0 yc)\/∃b c,a.eval y=.slice (some b) m c/\0<m/\∀j u,news[j]?=some u->w.cell? (b.add j)=some u)
 (hlen:ZM (m0+m) i.bytes) {ds:List (List CV)} {D8:Option (Nat×List CV)} {E5:I5} {g:Nat} {rd:List Nat} {u:BZ} (hg:g=(st.obj d).1+1)
 (hk:K (.rs d g) rd u) (hu':E5=upd st.obj u)
 (hn:∀r rd u Z' E' x w',K r rd u->Inv G Z0 w0 S n Z' E' ⟨put st.env (some d) r,upd st.obj u⟩ (a.put (some d) x) w'->next (a.put (some d) x) w')
 (hod:E5 d=(g,.arr e i.size ds D8)) (JY:∀t,t≠d->E5 t=st.obj t\/E5 t=((st.obj t).1,.spent))
 (hdl:ds.length=m0+m) (hfoc:GN ds D8)
 (oN:∀(i':Nat)(d':List CV),i'<ds.length->Y8 ds D8 i'=some d'->d'.length=i.size)
 (hcells:∀(i':Nat)(d':List CV),i'<ds.length->Y8 ds D8 i'=some d'->∀(j:Nat)(c:CV),d'[j]?=some c->c.atom=true/\∃u,(xs++news)[i'*i.size+j]?=some u/\X5 Z w st.obj E c u)
 (XF:∀t,t≠d->E5 t=st.obj t->∀b,(st.obj t).2.blk (E t) b->v.ownBlock≠some b):
 Oper.bT P ⟨some d,.call ⟨.builtin .append,⟨[x,y]⟩,⟨[t1,t1]⟩⟩,type,pos,after,guard⟩ a w next Q:=by
 have hu1:=(hT _ _ ht1).u;rw[hde]at hu1;have hie:=hT _ _ hte;obtain⟨j,hj,hjs,hjb,hjz⟩:=hie.eX;have hzc:(O7 i).cells.size=i.size:=by rw[kK hie];simp[hie.len]
 have hbytes:(m0+m)*j.bytes<=140737488355328:=by
  rw[hjb];rcases hlen with hlen|hlen
  .calc (m0+m)*i.bytes<=4294967296*4096:=Nat.mul_le_mul hlen hby
    _<=140737488355328:=by decide
  .exact hlen.2
 have hlen:m0+m<=140737488355328:=by
  rcases hlen with hlen|hlen
  .omega
  .exact hlen.1
 obtain⟨v',w',hrun,hown',hgr,hblk,hs'⟩:=bf0 (P:=P) (ty:=type) hu1 hj hjz hjs hzc h1 hown hsl hl hone hy (by omega) hbytes (Y3 _);have hrun':(execOp a.eval ⟨some d,.call ⟨.builtin .append,⟨[x,y]⟩,⟨[t1,t1]⟩⟩,type,pos,after,guard⟩).run P w=.ok (.value v') w':=by
  rw[CY];rw[<-hev]at hrun;simp only[builtin,I7,List.map_toArray,kP,List.map_nil,hrun];rfl
 have hkeep:Keeps Z w Z w':=λb o hz=>⟨hz,iH (hgr.block b (hI.U4 b o hz) (λe=>hvz b o e.symm hz))⟩;refine aO hrun' (hn _ _ _ Z (iR E d v') v' w' hk ?_);rw[<-hu'];refine hI.bf8 hd hg hod JY ((Kept.refl _ _).grown hgr hI.vI hvS (λk hk=>by obtain⟨cur,hc⟩:=SB hown hk;rw[hc];exact λh=>nomatch h)) hkeep (λb o hz=>Z5 (hI.U4 b o hz) hgr.size) (λ_ _ hz=>.inl hz) hs' (λhkp=>?_) (λb hb=>?_) (λt ht hot b hb=>?_)
 .refine⟨xs++news,h1,by rw[hdl];exact hown',hfoc,oN,λi' d' hi' hc' j c hj'=>?_,λb o hb hz=>?_⟩
  .obtain⟨h3,u3,h4,h5⟩:=hcells i' d' hi' hc' j c hj';exact⟨h3,u3,h4,h5.keep hkeep hkp⟩
  .rcases hblk with hb1|hb1
   .exact hvz b o (by rw[<-hb1];exact hb) hz
   .rw[hb1]at hb;injection hb with hb;have:=hI.U4 b o hz;omega
 .rcases hblk with hb1|hb1
  .exact hvS b (by rw[<-hb1];exact hb)
  .rw[hb1]at hb;injection hb with hb;exact hI.fresh (by omega)
 .have h3:=XF t ht hot b hb;have hlt:=(hI.obj t).lt hb;refine⟨hgr.block b hlt (λe=>h3 e.symm),λ_ hz=>hz,λe=>?_⟩;rcases hblk with hb1|hb1
  .exact h3 (hb1.symm.trans e)
  .rw[hb1]at e;injection e with e;omega
theorem aE9{xs news:List Value}{m0 sz i j:Nat}(hxl:xs.length=m0*sz)(hj:j<sz):(xs++news)[i*sz+j]?=if i<m0 then xs[i*sz+j]? else news[(i-m0)*sz+j]?:=by
 by_cases h:i<m0
 .rw[I4 h,bV (by rw[hxl];exact aJ0 h hj)]
 .have hge:m0*sz<=i*sz:=iJ _ (by omega);rw[F9 h,bJ (by rw[hxl];omega),hxl,Nat.sub_mul];congr 1;omega
theorem dA2(hT:X9 P T)(dst:Option Nat)(args:Array Operand)(argTypes:Array TypeId)(type:TypeId)(pos:String)(after:Array Edge)(guard:Option (Nat×Bool)):wB P G T ⟨dst,.call ⟨.builtin .append,args,argTypes⟩,type,pos,after,guard⟩:=by
 intro Z0 w0 S n Z E st a w K next Q hI hd h hn
 obtain⟨args⟩:=args;obtain⟨argTypes⟩:=argTypes;simp only[Y6,BH]at h;split at h
 .rename_i x y d t1 t2;split at h
  .rename_i e _ _ _ _ _ ht1;split at h
   .rename_i i hte;replace h:=Q8 h;obtain⟨V6,h⟩:=h;simp only[X3]at V6;obtain⟨⟨⟨aI5,h1⟩,hby⟩,hzl⟩:=V6;have:=F8 aI5;subst this;have h1:=H6 h1;have hby:=H6 hby;have hx:=Y2 hI x;have hy:=Y2 hI y;split at h
    ·
     rename_i hx0;split at h
     .rename_i s2 ns hsl;obtain⟨hns,hlen,hk⟩:=h;obtain⟨news,hnl,hone,hyv,hcell⟩:=ah3 h1 hns (NY hy hsl);refine VD hT hI hd ht1 rfl hte h1 hby (v:=.slice none 0 0) (by simp[Act.eval]) (World.ownsRow_nil w _ _ _) ⟨_,_,_,rfl⟩ (λb o hb=>by simp[Value.ownBlock]at hb) (λb hb=>by simp[Value.ownBlock]at hb) hnl hone hyv (by rw[V7];exact hlen) rfl hk rfl hn (tC _ _ _)
       (λt ht=>.inl (sZ _ _ ht)) (by simp) ⟨(λ_ _ h=>nomatch h),λi' d' hd' _=>KQ λj c hj=>(hcell i' j d' c hd' hj).2.choose_spec.2.EJ⟩ (λi' d' _ hc'=>hns d' (iC hc')) (λi' d' _ hc' j c hj=>?_) (λt _ _ b _=>by simp[Value.ownBlock])
      obtain⟨h3,u,h4,h5⟩:=hcell i' j d' c hc' hj;exact⟨h3,u,by simpa using h4,.cl h5⟩
     .exact h.elim
    ·
     rename_i x _ _ _ t g s g2 hly hlx;rw[hlx]at hx;rw[hly]at hy;split at h
     .rename_i g' el sz ds D8 g2' el2 sz2 ds2 DF ho ho2;replace h:=Q8 h;obtain⟨V6,h⟩:=h;simp only[X3,Bool.not_eq_true']at V6;obtain⟨⟨⟨⟨⟨⟨⟨⟨c1,c2⟩,c3⟩,c4⟩,c5⟩,c6⟩,c7⟩,c8⟩,c9⟩:=V6;have:=F8 c1;subst this;have:=F8 c2;subst this;have:=F8 c3;subst this;have:=F8 c4;subst this;have:=F8 c5;subst this;have hts:t≠s:=λe=>by subst e;simp at c6
      have hsd:s≠d:=λe=>by subst e;simp at c7
      have htd:t≠d:=λe=>by subst e;simp at c8
      have hfn:D8=none:=by cases D8<;>simp_all
      subst hfn;obtain⟨hlen,ds',rfl,hk⟩:=h;have hot:=hI.obj t;rw[ho]at hot;obtain⟨xs,kW,hown,hfoc,hdl,hcl,hz⟩:=hot;have hos:=hI.obj s;rw[ho2]at hos;obtain⟨xs2,_,hown2,br2,aG8,bq9,hz2⟩:=hos;have iG:E t=a.eval x:=by generalize a.eval x=v at hx;cases hx with|rs _ _ _ _ _ hp=>exact hp _ _ _ _ ho
      have hEs:E s=a.eval y:=by generalize a.eval y=v at hy;cases hy with|rs _ _ _ _ _ hp=>exact hp _ _ _ _ ho2
      have DX:∃aa l k,a.eval x=.slice aa l k:=by generalize a.eval x=v at hx;cases hx with|rs _ _ _ hs _ _=>exact hs
      rw[iG]at hown hz;rw[hEs]at hown2;have hcell2:∀k,k<ds2.length->∃d',Y8 ds2 DF k=some d':=λk hk2=>by
       unfold Y8;split
       .exact⟨_,I9 hk2⟩
       .split
        .exact⟨_,rfl⟩
        .exact⟨_,I9 hk2⟩
      have hcx:∀k,Y8 (ds++ds2) (TB ds.length DF) k=if k<ds.length then ds[k]? else Y8 ds2 DF (k-ds.length):=by
       intro k;cases DF with
       |none=>
        simp only[TB,Y8]
        grind
       |some p=>
        obtain⟨m,cs⟩:=p;simp only[TB,Y8];by_cases hk:k<ds.length
        .rw[F9 (by omega),I4 hk,bV hk]
        .grind
      refine VD hT hI hd ht1 rfl hte h1 hby rfl hown DX hz (λb hb=>hI.own t b (by rw[ho,iF,iG];exact hb)) (m:=ds2.length) (news:=xs2) (D8:=TB ds.length DF) hown2.1 ?_ ?_ (.inl hlen) rfl hk rfl hn ?_ ?_ bQ ?_ ?_ ?_ ?_
      .intro u hu;obtain⟨k,hkl,hku⟩:=dV hu;have hk':k<ds2.length*i.size:=by rw[<-hown2.1];exact hkl
       have hq:k/i.size<ds2.length:=Nat.div_lt_of_lt_mul (by rw[Nat.mul_comm];exact hk');have hr:k % i.size<i.size:=Nat.mod_lt _ h1;obtain⟨d',hd'⟩:=hcell2 _ hq;have dK8:=aG8 _ d' hq hd';have hc':d'[k % i.size]?=some (d'[k % i.size]'(by omega)):=I9 (by omega);obtain⟨hat,u',hu',hr'⟩:=bq9 _ d' hq hd' _ _ hc';rw[aB4,I9 hkl]at hu';injection hu' with hu'
       rw[<-hku,hu'];exact hr'.an1 hat
      .by_cases h0:ds2.length=0
       .left;rcases hown2.2 with⟨he,_⟩|⟨b,cap,cur,he,_⟩
        .exact⟨h0,_,_,he⟩
        .exact⟨h0,_,cap,by rw[he,h0]⟩
       .right;obtain⟨b,cap,he,_,_⟩:=aQ2 hown2 (by omega);refine⟨⟨b,0,none⟩,cap,he,by omega,λk u hu=>?_⟩;exact hown2.cells (by rw[he];rfl) k u hu
      .simp only[upd];have e1:Nat.beq t d=false:=by cases hb:Nat.beq t d with|false=>rfl|true=>exact absurd (F8 hb) htd
       have e2:Nat.beq s d=false:=by cases hb:Nat.beq s d with|false=>rfl|true=>exact absurd (F8 hb) hsd
       rw[e1,e2];simp
      .intro q hq;simp only[upd];cases e1:Nat.beq t q with
       |true=>have:=F8 e1;subst this;right;rw[ho];rfl
       |false=>
        cases e2:Nat.beq s q with
        |true=>have:=F8 e2;subst this;right;rw[ho2];rfl
        |false=>
         have e3:Nat.beq d q=false:=by cases hb:Nat.beq d q with|false=>rfl|true=>exact absurd (F8 hb).symm hq
         left;rw[e3];rfl
      .refine⟨λm' d' he=>?_,λk d' hd' hne=>?_⟩
       .cases DF with
        |none=>cases he
        |some p=>obtain⟨m,cs⟩:=p;simp[TB]at he;have:=br2.1 m cs rfl;simp;omega
       .by_cases hk:k<ds.length
        .rw[bV hk]at hd';exact hfoc.2 k d' hd' (λ_ _ h=>nomatch h)
        .rw[bJ (by omega)]at hd';refine br2.2 _ d' hd' (λm' d'' he=>?_);subst he;have:=hne (ds.length+m') d'' rfl;omega
      .intro k d' hk hc';rw[hcx]at hc';by_cases hkd:k<ds.length
       .rw[I4 hkd]at hc';exact hdl k d' hkd hc'
       .rw[F9 hkd]at hc';simp at hk;exact aG8 _ d' (by omega) hc'
      .intro k d' hk hc' j c hj;rw[hcx]at hc';have hjs:j<i.size:=by
        have:d'.length=i.size:=by
         by_cases hkd:k<ds.length
         .rw[I4 hkd]at hc';exact hdl k d' hkd hc'
         .rw[F9 hkd]at hc';simp at hk;exact aG8 _ d' (by omega) hc'
        rw[<-this];exact(O4.1 hj).1
       rw[aE9 hown.1 hjs];by_cases hkd:k<ds.length
       .rw[I4 hkd]at hc'⊢;exact hcl k d' hkd hc' j c hj
       .rw[F9 hkd]at hc'⊢;simp at hk;exact bq9 _ d' (by omega) hc' j c hj
      .intro q hq hoq b hb hb';have uQ:q≠t:=λe=>by
        subst e;simp only[upd]at hoq;rw[show Nat.beq q q=true from by simp,H7,ho]at hoq;simp at hoq
       exact hI.apart q t b uQ hb (by rw[ho,iF,iG];exact hb')
     .exact h.elim
    ·
     rename_i x _ _ _ t g hlx dL5;rw[hlx]at hx;split at h
     .rename_i g' el sz ds D8 s2 ns ho hsl;replace h:=Q8 h;obtain⟨V6,h⟩:=h;simp only[X3]at V6;obtain⟨⟨c1,c3⟩,c4⟩:=V6;have:=F8 c1;subst this;have:=F8 c3;subst this;have:=F8 c4;subst this;obtain⟨hns,hlen,ds',rfl,hk⟩:=h;obtain⟨news,hnl,hone,hyv,hcell⟩:=ah3 h1 hns (NY hy hsl);have hot:=hI.obj t;rw[ho]at hot;obtain⟨xs,kW,hown,hfoc,hdl,hcl,hz⟩:=hot;have iG:E t=a.eval x:=by generalize a.eval x=v at hx;cases hx with|rs _ _ _ _ _ hp=>exact hp _ _ _ _ ho
      have DX:∃aa l k,a.eval x=.slice aa l k:=by generalize a.eval x=v at hx;cases hx with|rs _ _ _ hs _ _=>exact hs
      rw[iG]at hown hz;have hcx:∀k,Y8 (ds++ns) D8 k=if k<ds.length then Y8 ds D8 k else ns[k-ds.length]?:=by
       intro k;unfold Y8;cases D8 with
       |none=>grind
       |some p=>
        obtain⟨m,cs⟩:=p;have hm:=hfoc.1 m cs rfl;simp only;by_cases hk:k<ds.length
        .grind
        .rw[F9 hk,F9 (by omega),bJ (by omega)]
      have aj8:GN (ds++ns) D8:=by
       refine⟨λm' d' he=>by have:=hfoc.1 m' d' he;simp;omega,λk d' hd' hne=>?_⟩;by_cases hk:k<ds.length
       .rw[bV hk]at hd';exact hfoc.2 k d' hd' hne
       .rw[bJ (by omega)]at hd';exact KQ λj c hj=>(hcell _ j d' c hd' hj).2.choose_spec.2.EJ
      have oN:∀(i':Nat)(d':List CV),i'<(ds++ns).length->Y8 (ds++ns) D8 i'=some d'->d'.length=i.size:=by grind
      have hcells:∀(i':Nat)(d':List CV),i'<(ds++ns).length->Y8 (ds++ns) D8 i'=some d'->∀(j:Nat)(c:CV),d'[j]?=some c->c.atom=true/\∃u,(xs++news)[i'*i.size+j]?=some u/\X5 Z w st.obj E c u:=by
       intro k d' hk hc' j c hj;have hjs:j<i.size:=by rw[<-oN k d' hk hc'];exact(O4.1 hj).1
       rw[hcx]at hc';rw[aE9 hown.1 hjs];by_cases hkd:k<ds.length
       .rw[I4 hkd]at hc'⊢;exact hcl k d' hkd hc' j c hj
       .rw[F9 hkd]at hc'⊢;obtain⟨h3,u,h4,h5⟩:=hcell _ j d' c hc' hj;exact⟨h3,u,h4,.cl h5⟩
      have hoth:∀q b,q≠t->(st.obj q).2.blk (E q) b->(a.eval x).ownBlock≠some b:=λq b uQ hb hb'=>hI.apart q t b uQ hb (by rw[ho,iF,iG];exact hb');cases htd:Nat.beq t d with
      |true=>
       rw[htd]at hk;simp only[H7]at hk;have:=F8 htd;subst this;exact VD hT hI hd ht1 rfl hte h1 hby rfl hown DX hz (λb hb=>hI.own t b (by rw[ho,iF,iG];exact hb)) hnl hone hyv hlen (by rw[ho]) hk rfl hn (tC _ _ _) (λq hq=>.inl (sZ _ _ hq)) (by simp) aj8 oN hcells (λq hq _ b hb=>hoth q b hq hb)
      |false=>
       rw[htd]at hk;simp only[G6]at hk;have XI:t≠d:=λe=>by subst e;simp at htd
       refine VD hT hI hd ht1 rfl hte h1 hby rfl hown DX hz (λb hb=>hI.own t b (by rw[ho,iF,iG];exact hb)) hnl hone hyv hlen rfl hk rfl hn (av9 _ _ _ XI) (λq hq=>?_) (by simp) aj8 oN hcells (λq hq hoq b hb=>hoth q b (λe=>?_) hb)
       .by_cases uQ:q=t
        .subst uQ;right;rw[FQ,ho]
        .left;exact av8 _ _ _ uQ hq
       .subst e;rw[FQ,ho]at hoq;simp at hoq
     .exact h.elim
    ·
     rename_i x _ _ _ t g sz es hlx;rw[hlx]at hx;split at h
     .rename_i g' el s' s2 ns ho hsl;replace h:=Q8 h;obtain⟨V6,h⟩:=h;simp only[X3,Bool.not_eq_true']at V6;obtain⟨⟨⟨⟨c1,c3⟩,c4⟩,c5⟩,c6⟩:=V6;have:=F8 c1;subst this;have:=F8 c3;subst this;have:=F8 c4;subst this;have:=F8 c5;subst this;have XI:t≠d:=λe=>by subst e;simp at c6
      obtain⟨hes,hns,hlen,hk⟩:=h;subst hes;obtain⟨news,hnl,hone,hyv,hcell⟩:=ah3 h1 hns (NY hy hsl);have hot:=hI.obj t;rw[ho]at hot;obtain⟨m0,xs,kW,hown,hz⟩:=hot;have iG:E t=a.eval x:=by generalize a.eval x=v at hx;cases hx with|ap _ _ _ _ _ _ _ hE=>exact hE _ _ ho
      have hxr:Rep Z w (.sl i.size []) (a.eval x):=by generalize a.eval x=v at hx;cases hx with|ap _ _ _ _ _ hr _ _=>exact hr
      rw[iG]at hown hz;have hm0:m0=0:=(bG9 hown hxr).1;subst hm0;have DX:∃aa l k,a.eval x=.slice aa l k:=by
       rcases hown.2 with⟨he,_⟩|⟨b,cap,cur,he,_⟩<;>exact⟨_,_,_,he⟩
      have cJ8:xs=[]:=lX (by simpa using hown.1);subst cJ8;refine VD hT hI hd ht1 rfl hte h1 hby rfl hown DX ?_ (λb hb=>hI.own t b (by rw[ho,zT,iG];exact hb)) hnl hone hyv (.inl (by omega)) rfl hk rfl hn (av9 _ _ _ XI) (λq hq=>?_) (by simp) ⟨(λ_ _ h=>nomatch h),λi' d' hd' _=>KQ λj c hj=>(hcell i' j d' c hd' hj).2.choose_spec.2.EJ⟩ (λi' d' _ hc'=>hns d' (iC hc')) (λi' d' _ hc' j c hj=>?_) (λq hq hoq b hb hb'=>?_)
      .intro b o hb hzz;rcases hown.2 with⟨he,_⟩|⟨b',cap,cur,he,_⟩
       .rw[he]at hb;simp[Value.ownBlock]at hb
       .rw[he]at hb;simp[Value.ownBlock]at hb;subst hb;exact hz _ cap he o (by simp) hzz
      .by_cases uQ:q=t
       .subst uQ;right;rw[FQ,ho]
       .left;exact av8 _ _ _ uQ hq
      .obtain⟨h3,u,h4,h5⟩:=hcell i' j d' c hc' hj;exact⟨h3,u,by simpa using h4,.cl h5⟩
      .have uQ:q≠t:=λe=>by subst e;rw[FQ,ho]at hoq;simp at hoq
       exact hI.apart q t b uQ hb (by rw[ho,zT,iG];exact hb')
     .exact h.elim
    .exact h.elim
   .exact h.elim
  .exact h.elim
 .exact h.elim
end
end Go.F6
namespace Go.F6
open Go Go.RowKit
section
variable{P:Program}{G:World->Prop}{T:Tab}{Z0:Base}{w0:World}{S:Nat->Prop}{n:Nat}{Z Z':Zone}{E:Nat->Value}{st:St}{a:Act}{w w':World}
theorem dA3(hT:X9 P T)(dst:Option Nat)(t:TypeId)(len:Nat)(parts:Array (Nat×Operand))(type:TypeId)(pos:String)(after:Array Edge)(guard:Option (Nat×Bool)):wB P G T ⟨dst,.buildSlice t len parts,type,pos,after,guard⟩:=by
 intro Z0 w0 S n Z E st a w K next Q hI hd h hn
 simp only[Y6]at h;split at h
 .rename_i e _ _ _ _ _ hti;split at h
  .rename_i i d x hte hparts;split at h
   .rename_i cs hlx;replace h:=Q8 h;obtain⟨V6,cs0,h⟩:=h;simp only[X3]at V6;obtain⟨⟨⟨⟨hlen,hcl⟩,h1⟩,h2⟩,hzl⟩:=V6;have:=F8 hlen;subst this;have hcl:=F8 hcl;have h1:=H6 h1;have h2:=H6 h2;have hi:=hT _ _ hte;obtain⟨j,hj,hjs,hjb,hjz⟩:=hi.eX;have hu:=(hT _ _ hti).u;simp only at hu;have hx:=Y2 hI x;rw[hlx]at hx;have hpa:parts=#[(0,x)]:=by cases parts;simp_all
    subst hpa;generalize hax:a.eval x=xv at hx;cases hx with
    |aC _ vs hl hr ha=>
     have hvl:vs.length=i.size:=by omega
     have hcells:(Value.agg vs.toArray).cells=vs.toArray:=rfl
     let zero:Array Value:=(O7 i).cells
     let z0:Array Value:=(Array.range (1*i.size)).map (zero[· % zero.size]!)
     have hz0:z0.size=i.size:=by simp[z0]
     have hfold:=foldl_set (0*i.size) vs 0 z0 (by simp[hz0,hvl]);have heq:vs.toArray.zipIdx.foldl (λcs (p:Value×Nat)=>cs.setIfInBounds (0*i.size+p.2) p.1) z0=(vs.zipIdx 0).foldl (λcs (p:Value×Nat)=>cs.setIfInBounds (0*i.size+p.2) p.1) z0:=by
      rw[<-xG,Array.toList_zipIdx]
     let cells:=(vs.zipIdx 0).foldl (λcs (p:Value×Nat)=>cs.setIfInBounds (0*i.size+p.2) p.1) z0
     have hcs:cells.size=1*i.size:=hfold.1.trans (by rw[hz0,rU]);have hget:∀k,k<i.size->cells[k]?=vs[k]?:=λk hk=>by
      refine(hfold.2 k).trans ?_;rw[I4 (by omega)];congr 1;omega
     have wK:Instr.fill (λi'=>some (i'*i.size,i.size)) z0 [(0,Value.agg vs.toArray)]=some cells:=by
      simp only[Instr.fill,hcells];rw[F9 (by simp[hz0,hvl])];rw[heq]
     have hlim:¬(1*i.size>2^24):=by omega
     have h0:¬(1*i.size=0):=by omega
     have hrun:(execOp a.eval ⟨some d,.buildSlice t 1 #[(0,x)],type,pos,after,guard⟩).run P w=.ok (.value (.slice (some ⟨w.heap.size,0,none⟩) 1 1)) (w.alloc (.cells cells e)):=by
      have hzv:(zeroValue e).run P w=.ok (O7 i) w:=by simp[zeroValue,typeInfo,hj,hjz]
      have qK:Instr.fill (λi'=>some (i'*i.size,i.size)) ((Array.range (1*i.size)).map ((O7 i).cells[· % (O7 i).cells.size]!)) (#[(0,x)].map λ(i,x)=>(i,a.eval x)).toList=some cells:=by
       simp only[List.map_toArray,kP,List.map_nil,hax];exact wK
      simp only[execOp,Instr.buildSlice,I7,L6 hu,N9,hi.sizeOf w,F9 hlim,Q5,F9 h0,hzv,qK];rfl
     have hown:=World.ownsRow_lit (base:=0) (e:=e) (size:=i.size) w cells 1 (Y3 _) (by simp only[maxLen];omega) hcs;have hkeep:Keeps Z w Z (w.alloc (.cells cells e)):=Keeps.alloc hI.U4 _;refine aO hrun (hn _ _ _ Z (iR E d (.slice (some ⟨w.heap.size,0,none⟩) 1 1)) _ _ h ?_);refine hI.bf8 hd rfl (tC _ _ _) (λt ht=>.inl (sZ _ _ ht)) (az1 hI _) hkeep (λb o hz=>by have:=hI.U4 b o hz;simp;omega) (λ_ _ hz=>.inl hz) ⟨_,_,_,rfl⟩ (λhkp=>?_) (λb hb=>by simp[Value.ownBlock]at hb;exact hI.fresh (by omega)) (λt ht _ b hb=>?_)
     .refine⟨cells.toList,h1,hown,⟨(λm d he=>by cases he;simp),λi' d' _ hne=>?_⟩,?_,?_,λb o hb hz=>?_⟩
      .grind
      .intro i' d' hi' hc';have:i'=0:=by simpa using hi'
       subst this;simp[Y8]at hc';subst hc';exact hcl
      .intro i' d' hi' hc' j' c hj';have:i'=0:=by simpa using hi'
       subst this;simp[Y8]at hc';subst hc';have hjl:j'<cs.length:=(O4.1 hj').1;have hv:vs[j']?=some (vs[j']'(by omega)):=I9 (by omega);refine⟨ha j' c hj',_,?_,(hr j' c _ hj' hv).keep hkeep hkp⟩;rw[Nat.zero_mul,V7,jS,hget j' (by omega),hv]
      .simp[Value.ownBlock]at hb;have:=hI.U4 b o hz;omega
     .have hlt:=(hI.obj t).lt hb;refine⟨uP w _ hlt,λ_ hz=>hz,?_⟩;simp[Value.ownBlock];omega
   .exact h.elim
  .exact h.elim
 .exact h.elim
theorem bK8(obj:I5)(d m:Nat):∀(os:List (Nat×Nat×List (List CV)×Option (Nat×List CV)))(k:Nat)(t:Nat),
 (∀j,j<os.length->t≠sig d (k+j))->upd obj (pG obj d m k os) t=obj t
 |[],_,_,_=>rfl
 |(el,sz,ds,D8)::r,k,t,h=>by
  simp only[pG,upd];have h0:sig d k≠t:=λe=>h 0 (by simp) (by simpa using e.symm);have:Nat.beq (sig d k) t=false:=by cases hb:Nat.beq (sig d k) t with|false=>rfl|true=>exact absurd (F8 hb) h0
  rw[this];simp only[G6];refine bK8 obj d m r (k+1) t λj hj=>?_;have:=h (j+1) (by simpa using hj)
  rwa [show k+1+j=k+(j+1)from by omega]
theorem dg2{d j j':Nat}(h:sig d j=sig d j'):j=j':=by unfold sig at h;omega
theorem bK7(obj:I5)(d m:Nat):∀(os:List (Nat×Nat×List (List CV)×Option (Nat×List CV)))(k j:Nat)(el sz:Nat)(ds:List (List CV))(D8:Option (Nat×List CV)),
 os[j]?=some (el,sz,ds,D8)->upd obj (pG obj d m k os) (sig d (k+j))=((obj (sig d (k+j))).1+1,.arr el sz ds (SN obj d m D8))
 |[],_,_,_,_,_,_,h=>by simp at h
 |(dK,sz',ds',iM)::r,k,0,el,sz,ds,D8,h=>by
  simp at h;obtain⟨rfl,rfl,rfl,rfl⟩:=h;simp[pG,upd]
 |(dK,sz',ds',iM)::r,k,j+1,el,sz,ds,D8,h=>by
  simp only[pG,upd];have:Nat.beq (sig d k) (sig d (k+(j+1)))=false:=by
   cases hb:Nat.beq (sig d k) (sig d (k+(j+1)))with
   |false=>rfl
   |true=>have:=dg2 (F8 hb);omega
  rw[this];simp only[G6];have:=bK7 obj d m r (k+1) j el sz ds D8 (by simpa using h)
  rwa [show k+1+j=k+(j+1)from by omega]at this
theorem cb9(c:Call)(hc:∀b,c.callee≠.builtin b)(dst:Option Nat)(type:TypeId)(pos:String)(after:Array Edge)(guard:Option (Nat×Bool)):wB P G T ⟨dst,.call c,type,pos,after,guard⟩:=by
 intro Z0 w0 S n Z E st a w K next Q hI hd h hn
 have hcall:vS (gX P G) (look st) st.obj c dst K:=by
  unfold Y6 at h;cases hcc:c.callee with
  |builtin b=>exact absurd hcc (hc b)
  |value f=>simp only[hcc]at h;exact h
  |invoke r m=>simp only[hcc]at h;exact h
 clear h;unfold vS at hcall;split at hcall
 .rename_i f args more d hargs;split at hcall
  .rename_i cs ts hfr;replace hcall:=Q8 hcall;obtain⟨hte,r,os,hholds,hcall⟩:=hcall;have htn:ts=[]:=by simpa using hte
   subst htn;split at hcall
   .rename_i s PX;obtain⟨hbody,yZ⟩:=hholds;obtain⟨vs,hrl,hrun⟩:=bi2 hI hargs hfr hbody (some d) type pos after guard;refine MW (λ_ h=>nomatch h) ?_;unfold Oper.wp;rw[hrun];simp only[Oper.upon];have aI8:∀b o,Zf Z st.obj E [] b o->b<w.heap.size:=λb o hz=>hz.elim (hI.U4 b o) λ⟨s,_,hb⟩=>(hI.obj s).lt hb;refine(yZ _ w _ hrl aI8 (λw1 hb1=>hI.gs _ (hI.below.trans (.of_below hb1 hI.vI)))).mono ?_;rintro e w' ⟨x,eH,rfl,hrep,hsub,hnew,hbel⟩;obtain⟨Eo,cH5,hapart,br4,hsl,cF8,hres⟩:=hrep;have hbel0:Kept S w w':=.of_below hbel hI.vI;have hkeep:Keeps Z w eH w':=λb o hz=>⟨hsub b o (.inl hz),iH (hbel.block b (hI.U4 b o hz))⟩;have bs1:∀b o,eH b o->(Z b o\/w.heap.size<=b):=λb o hz=>(hnew b o hz).1.imp (λh=>h.elim id (λ⟨s,hs,_⟩=>by simp at hs)) id
    let E':Nat->Value:=λt=>if d<=t/\(t-d) % 65536=0/\(t-d)/65536<os.length then Eo ((t-d)/65536)else E t
    have hE':∀j,j<os.length->E' (sig d j)=Eo j:=λj hj=>by
     have h1:sig d j-d=65536*j:=by unfold sig;omega
     have h2:(65536*j)/65536=j:=by omega
     have h3:(65536*j) % 65536=0:=by omega
     show(if _ then _ else _)=_;rw[h1,h2,h3,I4 ⟨by unfold sig;omega,rfl,hj⟩]
    have aF9:∀t,(∀j,j<os.length->t≠sig d j)->E' t=E t:=λt ht=>by
     show(if _ then _ else _)=_;rw[F9];rintro⟨h1,h2,h3⟩;exact ht _ h3 (by unfold sig;omega)
    let E5:=upd st.obj (pG st.obj d os.length 0 os)
    have hob:∀j el sz ds D8,os[j]?=some (el,sz,ds,D8)->E5 (sig d j)=((st.obj (sig d j)).1+1,.arr el sz ds (SN st.obj d os.length D8)):=λj el sz ds D8 hj=>by
     have:=bK7 st.obj d os.length os 0 j el sz ds D8 hj;simpa using this
    have aH7:∀t,(∀j,j<os.length->t≠sig d j)->E5 t=st.obj t:=λt ht=>bK8 st.obj d os.length os 0 t (λj hj=>by simpa using ht j hj);have hget:∀j,j<os.length->∃el sz ds D8,os[j]?=some (el,sz,ds,D8):=λj hj=>⟨_,_,_,_,I9 hj⟩;have hx:∀(c:CV)(u:Value),c.nK=false->(∀j,c=.ow j->j<os.length)->X5 eH w' (dM os) Eo (qR c) u->X5 eH w' E5 E' (qV st.obj d os.length c) u:=by
     intro c u hcr hcj hr;cases c with
     |ow j=>
      have hj:=hcj j rfl;obtain⟨el,sz,ds,D8,hos⟩:=hget j hj;simp only[qR]at hr;cases hr with
      |one hr=>
       cases hr with
       |cl hr=>cases hr
       |rs _ _ _ hs _ hE=>
        have hblt:Nat.blt j os.length=true:=by simp[Nat.blt];omega
        simp only[qV,hblt,H7];refine .one (.rs _ _ _ hs (by rw[hob j el sz ds D8 hos];exact J6 _) λ_ _ _ _ _=>?_);rw[hE' j hj];cases D8 with
        |none=>exact hE el sz ds none (by simp[dM,hos])
        |some p=>obtain⟨m,cs⟩:=p;exact hE el sz ds (some (m,cs.map qR)) (by simp[dM,hos])
     |rs t g=>cases hcr
     |pr t g off=>cases hcr
     |mr t g=>cases hcr
     |fr f caps=>cases hcr
     |bp T f=>cases hcr
     |_=>exact .cl (hr.closed rfl)
    have ak4:dH st.obj E E5 E'->∀t,(∃j,j<os.length/\t=sig d j)->U6 eH w' E5 E' (E' t) (E5 t).2:=by
     rintro _ t ⟨j,hj,rfl⟩;obtain⟨el,sz,ds,D8,hos⟩:=hget j hj;rw[hob j el sz ds D8 hos,hE' j hj];have ho:=cH5 j;cases D8 with
     |none=>
      simp only[dM,hos]at ho;obtain⟨xs,h1,h2,h3,h4,h5,h6⟩:=ho;refine⟨xs,h1,h2,h3,h4,λi' d' hi' hc' j' c hj'=>?_,h6⟩;obtain⟨q1,u,q2,q3⟩:=h5 i' d' hi' hc' j' c hj';have hcr:=kY (h3.2 i' d' hc' (λ_ _ h=>nomatch h)) hj';exact⟨q1,u,q2,.cl (q3.closed hcr)⟩
     |some p=>
      obtain⟨m,cs⟩:=p;simp only[dM,hos]at ho;obtain⟨xs,h1,h2,h3,h4,h5,h6⟩:=ho;obtain⟨hnr,hoj⟩:=cF8 j el sz ds m cs hos;have hcx:∀k,Y8 ds (SN st.obj d os.length (some (m,cs))) k=if k=m then some (cs.map (qV st.obj d os.length))else ds[k]?:=λk=>rfl
      have nJ:∀k,Y8 ds (some (m,cs.map qR)) k=if k=m then some (cs.map qR)else ds[k]?:=λk=>rfl
      refine⟨xs,h1,h2,⟨λm' d' he=>?_,λi' d' hd' hne=>?_⟩,λi' d' hi' hc'=>?_,λi' d' hi' hc' j' c hj'=>?_,h6⟩
      .simp only[SN,Z9,dI]at he;rw[<-he.1];exact h3.1 m _ rfl
      .exact h3.2 i' d' hd' (λm' d'' he=>by
        simp only[Z9,dI]at he;rw[<-he.1]
        exact hne m (cs.map (qV st.obj d os.length)) rfl)
      .rw[hcx]at hc';by_cases hk:i'=m
       .grind
       .rw[F9 hk]at hc';exact h4 i' d' hi' (by rw[nJ,F9 hk];exact hc')
      .rw[hcx]at hc';by_cases hk:i'=m
       .rw[I4 hk]at hc';injection hc' with hc'
        subst hc';rw[O6]at hj';cases hc0:cs[j']? with
        |none=>rw[hc0]at hj';simp at hj'
        |some c0=>
         rw[hc0]at hj';simp at hj';subst hj';obtain⟨q1,u,q2,q3⟩:=h5 i' (cs.map qR) hi' (by rw[nJ,I4 hk]) j' (qR c0) (by rw[O6,hc0];rfl);refine⟨?_,u,q2,hx c0 u (kY hnr hc0) (λj he=>hoj j' j (by rw[hc0,he])) q3⟩;cases c0<;>first|exact q1|(simp only[qV];cases Nat.blt _ _<;>rfl)
       .rw[F9 hk]at hc';obtain⟨q1,u,q2,q3⟩:=h5 i' d' hi' (by rw[nJ,F9 hk];exact hc') j' c hj'
        have hcr:=kY (h3.2 i' d' hc' (λm' d'' he=>by
         simp only[Z9,dI]at he
         rw[<-he.1];exact hk)) hj'
        exact⟨q1,u,q2,.cl (q3.closed hcr)⟩
    have hblk:∀j,j<os.length->∀b,(E5 (sig d j)).2.blk (E' (sig d j)) b->(dM os j).2.blk (Eo j) b:=λj hj b hb=>by
     obtain⟨el,sz,ds,D8,hos⟩:=hget j hj;rw[hob j el sz ds D8 hos,hE' j hj,iF]at hb;cases D8 with
     |none=>simp only[dM,hos,iF];exact hb
     |some p=>obtain⟨m,cs⟩:=p;simp only[dM,hos,iF];exact hb
    refine hn _ _ _ eH E' x w' hcall ?_;refine hI.renew (λt=>∃j,j<os.length/\t=sig d j) hd hbel0 hkeep (λb o hz=>(hnew b o hz).2) (λb o hz=>(bs1 b o hz).imp id hI.fresh) (λt ht=>?_) ?_ ak4 ?_ ?_ ?_ ?_
    .have ht':∀j,j<os.length->t≠sig d j:=λj hj e=>ht ⟨j,hj,e⟩;exact⟨aH7 t ht',aF9 t ht'⟩
    .grind
    .intro t ht b hb;have hlt:=(hI.obj t).lt hb;refine⟨hbel.block b hlt,λk hz=>(bs1 b k hz).resolve_right (by omega),?_⟩;rintro s ⟨j,hj,rfl⟩ hb';have:=br4 j b (hblk j hj b hb');omega
    .rintro t t' b ⟨j,hj,rfl⟩ ⟨j',hj',rfl⟩ hne h1 h2;exact hapart j j' b (λe=>hne (by rw[e])) (hblk j hj b h1) (hblk j' hj' b h2)
    .rintro t ⟨j,hj,rfl⟩ b hb;exact hI.fresh (br4 j b (hblk j hj b hb))
    .cases r with
     |ow j=>
      obtain⟨rfl,hj⟩:=hres;have hblt:Nat.blt j os.length=true:=by simp[Nat.blt];omega
      simp only[LK,hblt,H7,Z9]at PX;subst PX;obtain⟨el,sz,ds,D8,hos⟩:=hget j hj;refine .rs _ _ _ (hsl j hj) (by have:=hob j el sz ds D8 hos;show _<=(E5 (sig d j)).1;rw[this];exact J6 _) λ_ _ _ _ _=>hE' j hj
     |agg cs0=>
      simp only[LK,Z9]at PX;subst PX;obtain⟨vs0,hnr,rfl,hl0,hr0,ha0,hoj⟩:=hres;refine .aC _ vs0 (by simpa using hl0) (λi c v h1 h2=>?_) (λi c h1=>?_)
      .rw[O6]at h1;cases hc0:cs0[i]? with
       |none=>rw[hc0]at h1;simp at h1
       |some c0=>
        rw[hc0]at h1;simp at h1;subst h1;exact hx c0 v (kY hnr hc0) (λj he=>hoj i j (by rw[hc0,he])) (hr0 i c0 v hc0 h2)
      .rw[O6]at h1;cases hc0:cs0[i]? with
       |none=>rw[hc0]at h1;simp at h1
       |some c0=>
        rw[hc0]at h1;simp at h1;subst h1;have:=ha0 i c0 hc0;cases c0<;>first|exact this|(simp only[qV];cases Nat.blt _ _<;>rfl)
     |_=>exact hres.elim
   .exact hcall.elim
  .exact hcall.elim
 .exact hcall.elim
theorem cb8(hT:X9 P T)(o:Oper):wB P G T o:=by
 obtain⟨dst,op,type,pos,after,guard⟩:=o;cases op with
 |load t x=>exact dA7 hT _ _ _ _ _ _ _
 |store t x y=>exact dA9 hT _ _ _ _ _ _ _ _
 |nilCheck x=>exact dA8 _ _ _ _ _ _
 |fieldAddr t x k=>exact dA4 hT _ _ _ _ _ _ _ _
 |indexAddr t x i=>exact dA5 hT _ _ _ _ _ _ _ _
 |buildSlice t len ps=>exact dA3 hT _ _ _ _ _ _ _ _
 |call c=>
  obtain⟨callee,args,argTypes⟩:=c;cases callee with
  |builtin b=>
   by_cases h1:b=.len
   .subst h1;exact dA6 hT _ _ _ _ _ _ _
   .by_cases h2:b=.append
    .subst h2;exact dA2 hT _ _ _ _ _ _ _
    .intro Z0 w0 S n Z E st a w K next Q hI hd h hn
     cases b<;>first|exact absurd rfl h1|exact absurd rfl h2|exact h.elim
  |value f=>exact cb9 _ (λb h=>by cases h) _ _ _ _ _
  |invoke r m=>exact cb9 _ (λb h=>by cases h) _ _ _ _ _
 |_=>intro Z0 w0 S n Z E st a w K next Q hI hd h hn;exact h.elim
end
end Go.F6
namespace Go.F6
open Go Go.RowKit
theorem bu5:∀(τ:List (Nat×Nat))(s h k j:Nat),kX τ s h k=some j->∃i,j=k+i/\τ[i]?=some (s,h)
 |[],_,_,_,_,he=>by simp[kX]at he
 |(t,g)::r,s,h,k,j,he=>by
  simp only[kX]at he;cases hb:(Nat.beq t s&&Nat.beq g h)with
  |true=>
   rw[hb]at he;simp at he;simp only[X3]at hb;have h1:=F8 hb.1;have h2:=F8 hb.2;subst h1;subst h2;subst he;exact⟨0,rfl,rfl⟩
  |false=>
   rw[hb]at he;simp only[G6]at he;obtain⟨i,h1,h2⟩:=bu5 r s h (k+1) j he;exact⟨i+1,by omega,by simpa using h2⟩
theorem aI9{τ:List (Nat×Nat)}{s h j:Nat}(he:kX τ s h 0=some j):τ[j]?=some (s,h):=by
 obtain⟨i,h1,h2⟩:=bu5 τ s h 0 j he;rw[h1,V7];exact h2
structure Match(τ:List (Nat×Nat))(γ:Nat->Nat)(obj:I5)(E:Nat->Value)(iQ:I5)(Eo:Nat->Value):Prop where
 at_:∀j t g,τ[j]?=some (t,g)->(obj t).1=g/\∃o',eY τ γ (obj t).2=some o'/\iQ j=(γ j,o')/\Eo j=E t
section
variable{τ:List (Nat×Nat)}{γ:Nat->Nat}{Z:Zone}{w:World}{obj iQ:I5}{E Eo:Nat->Value}
theorem bE5{o o':D9}{el sz:Nat}{ds:List (List CV)}{D8:Option (Nat×List CV)}(h:eY τ γ o=some o')(he:o'=.arr el sz ds D8):∃mD,o=.arr el sz ds mD:=by
 subst he;unfold eY at h;split at h
 .cases hc:fP τ γ _ with
  |none=>rw[hc]at h;simp at h
  |some cs=>rw[hc]at h;simp at h
 .cases hc:fP τ γ _ with
  |none=>rw[hc]at h;simp at h
  |some cs=>rw[hc]at h;simp at h;obtain⟨rfl,rfl,rfl,_⟩:=h;exact⟨_,rfl⟩
 .simp at h;subst h;exact⟨_,rfl⟩
theorem bE8{o o':D9}{el sz:Nat}(h:eY τ γ o=some o')(he:o'=.tok el sz):o=.tok el sz:=by
 subst he;unfold eY at h;split at h
 .cases hc:fP τ γ _ with
  |none=>rw[hc]at h;simp at h
  |some cs=>rw[hc]at h;simp at h
 .cases hc:fP τ γ _ with
  |none=>rw[hc]at h;simp at h
  |some cs=>rw[hc]at h;simp at h
 .simp at h;exact h
theorem bE7{o o':D9}{es:List (CV×CV)}(h:eY τ γ o=some o')(he:o'=.map es):o=.map es:=by
 subst he;unfold eY at h;split at h
 .cases hc:fP τ γ _ with
  |none=>rw[hc]at h;simp at h
  |some cs=>rw[hc]at h;simp at h
 .cases hc:fP τ γ _ with
  |none=>rw[hc]at h;simp at h
  |some cs=>rw[hc]at h;simp at h
 .simp at h;exact h
theorem bE9{o o':D9}{cs:List CV}(h:eY τ γ o=some o')(he:o'=.var cs\/o'=.ro cs\/o'=.varx cs):∃cs0,o=.var cs0\/o=.ro cs0\/o=.varx cs0:=by
 unfold eY at h;split at h
 .exact⟨_,.inr (.inr rfl)⟩
 .cases hc:fP τ γ _ with
  |none=>rw[hc]at h;simp at h
  |some cs=>rw[hc]at h;simp at h;subst h;simp at he
 .grind
theorem bE6{o o':D9}(h:eY τ γ o=some o')(e:Value){b:Nat}:o'.blk e b=o.blk e b:=by
 unfold eY at h;split at h
 .cases hc:fP τ γ _ with
  |none=>rw[hc]at h;simp at h
  |some cs=>rw[hc]at h;simp at h;subst h;cases e<;>first|rfl|(rename_i a;cases a<;>rfl)
 .cases hc:fP τ γ _ with
  |none=>rw[hc]at h;simp at h
  |some cs=>rw[hc]at h;simp at h;subst h;rw[iF,iF]
 .simp at h;subst h;rfl
theorem Match.live(M:Match τ γ obj E iQ Eo){j t g:Nat}(hj:τ[j]?=some (t,g))(h:live iQ j (γ j)):live obj t g:=by
 obtain⟨h1,o',h2,h3,_⟩:=M.at_ j t g hj;obtain⟨cs,h⟩:=h;rw[h3]at h;simp only[dI,true_and]at h;obtain⟨cs0,h4⟩:=bE9 h2 h;refine⟨cs0,?_⟩
 grind
theorem Match.arr(M:Match τ γ obj E iQ Eo){j t g el sz:Nat}{ds:List (List CV)}{D8:Option (Nat×List CV)}(hj:τ[j]?=some (t,g))(h:iQ j=(γ j,.arr el sz ds D8)):∃mD,obj t=(g,.arr el sz ds mD):=by
 obtain⟨h1,o',h2,h3,_⟩:=M.at_ j t g hj;rw[h3]at h;simp only[dI,true_and]at h;obtain⟨f0,h4⟩:=bE5 h2 h;exact⟨f0,by rw[<-h1,<-h4]⟩
theorem Match.map(M:Match τ γ obj E iQ Eo){j t g:Nat}{es:List (CV×CV)}(hj:τ[j]?=some (t,g))(h:iQ j=(γ j,.map es)):obj t=(g,.map es):=by
 obtain⟨h1,o',h2,h3,_⟩:=M.at_ j t g hj;rw[h3]at h;simp only[dI,true_and]at h;rw[<-h1,<-bE7 h2 h]
theorem Match.tok(M:Match τ γ obj E iQ Eo){j t g el sz:Nat}(hj:τ[j]?=some (t,g))(h:iQ j=(γ j,.tok el sz)):obj t=(g,.tok el sz):=by
 obtain⟨h1,o',h2,h3,_⟩:=M.at_ j t g hj;rw[h3]at h;simp only[dI,true_and]at h;rw[<-h1,<-bE8 h2 h]
theorem Match.gen(M:Match τ γ obj E iQ Eo){j t g:Nat}(hj:τ[j]?=some (t,g)):γ j<=(iQ j).1/\Eo j=E t:=by
 obtain⟨h1,o',h2,h3,h4⟩:=M.at_ j t g hj;rw[h3];exact⟨J6 _,h4⟩
theorem cm8{c c':CV}(h:uD τ γ c=some c')(hn:c.nK=false):c'=c:=by
 cases c<;>first|(simp[uD]at h;exact h.symm)|(simp[CV.nK]at hn)
theorem ap8{t g:Nat}{f:Nat->CV}{c':CV}(h:(kX τ t g 0).map f=some c'):∃j,τ[j]?=some (t,g)/\c'=f j:=by
 cases hi:kX τ t g 0 with
 |none=>rw[hi]at h;simp at h
 |some j=>rw[hi]at h;simp at h;exact⟨j,aI9 hi,h.symm⟩
theorem ap9{t g:Nat}{f:Nat->SV}{c':SV}(h:(kX τ t g 0).map f=some c'):∃j,τ[j]?=some (t,g)/\c'=f j:=by
 cases hi:kX τ t g 0 with
 |none=>rw[hi]at h;simp at h
 |some j=>rw[hi]at h;simp at h;exact⟨j,aI9 hi,h.symm⟩
theorem fM.tOz(M:Match τ γ obj E iQ Eo){c c':CV}{x:Value}(h:fM Z w obj E c x)(hc:uD τ γ c=some c'):fM Z w iQ Eo c' x:=by
 cases h with
 |cl h=>rw[cm8 hc h.EJ];exact .cl h
 |rs t g x hs hg h=>
  obtain⟨j,hj,rfl⟩:=ap8 hc;refine .rs j (γ j) x hs (M.gen hj).1 λel sz ds D8 ho=>?_;obtain⟨f0,h0⟩:=M.arr hj ho;rw[(M.gen hj).2];exact h _ _ _ _ h0
 |pr t g off x hs hg h=>
  obtain⟨j,hj,rfl⟩:=ap8 hc;refine .pr j (γ j) off x hs (M.gen hj).1 λhl=>?_;rw[(M.gen hj).2];exact h (M.live hj hl)
 |mr t g x hs hg h=>
  obtain⟨j,hj,rfl⟩:=ap8 hc;refine .mr j (γ j) x hs (M.gen hj).1 λes ho=>?_;rw[(M.gen hj).2];exact h _ (M.map hj ho)
 |bp T f x hs=>simp[uD]at hc;subst hc;exact .bp T f x hs
theorem bk5:∀{cs cs':List CV},IU τ γ cs=some cs'->cs'.length=cs.length/\∀(i:Nat)(c':CV),cs'[i]?=some c'->∃c,cs[i]?=some c/\uD τ γ c=some c'
 |[],cs',h=>by simp[IU]at h;subst h;exact⟨rfl,λi c' h=>by simp at h⟩
 |c::r,cs',h=>by
  simp only[IU]at h;split at h
  .rename_i d ds h1 h2;simp at h;subst h;obtain⟨k1,k2⟩:=bk5 h2;refine⟨by simp[k1],λi c' hi=>?_⟩;cases i with
   |zero=>simp at hi;subst hi;exact⟨c,rfl,h1⟩
   |succ i=>exact k2 i c' (by simpa using hi)
  .simp at h
theorem OU:∀{cs cs':List CV},fP τ γ cs=some cs'->cs'.length=cs.length/\∀(i:Nat)(c':CV),cs'[i]?=some c'->∃c,cs[i]?=some c/\CS τ γ c=some c'
 |[],cs',h=>by simp[fP]at h;subst h;exact⟨rfl,λi c' h=>by simp at h⟩
 |c::r,cs',h=>by
  simp only[fP]at h;split at h
  .rename_i d ds h1 h2;simp at h;subst h;obtain⟨k1,k2⟩:=OU h2;refine⟨by simp[k1],λi c' hi=>?_⟩;cases i with
   |zero=>simp at hi;subst hi;exact⟨c,rfl,h1⟩
   |succ i=>exact k2 i c' (by simpa using hi)
  .simp at h
theorem bT1:∀{cs cs':List SV},TP τ γ cs=some cs'->cs'.length=cs.length/\∀(i:Nat)(c':SV),cs'[i]?=some c'->∃c,cs[i]?=some c/\qY τ γ c=some c'
 |[],cs',h=>by simp[TP]at h;subst h;exact⟨rfl,λi c' h=>by simp at h⟩
 |c::r,cs',h=>by
  simp only[TP]at h;split at h
  .rename_i d ds h1 h2;simp at h;subst h;obtain⟨k1,k2⟩:=bT1 h2;refine⟨by simp[k1],λi c' hi=>?_⟩;cases i with
   |zero=>simp at hi;subst hi;exact⟨c,rfl,h1⟩
   |succ i=>exact k2 i c' (by simpa using hi)
  .simp at h
theorem aW8:∀{cs cs':List SV},TN τ γ cs=some cs'->cs'.length=cs.length/\∀(i:Nat)(c':SV),cs'[i]?=some c'->∃c,cs[i]?=some c/\ZU τ γ c=some c'
 |[],cs',h=>by simp[TN]at h;subst h;exact⟨rfl,λi c' h=>by simp at h⟩
 |c::r,cs',h=>by
  simp only[TN]at h;split at h
  .rename_i d ds h1 h2;simp at h;subst h;obtain⟨k1,k2⟩:=aW8 h2;refine⟨by simp[k1],λi c' hi=>?_⟩;cases i with
   |zero=>simp at hi;subst hi;exact⟨c,rfl,h1⟩
   |succ i=>exact k2 i c' (by simpa using hi)
  .simp at h
theorem X5.tOz(M:Match τ γ obj E iQ Eo){c c':CV}{x:Value}(h:X5 Z w obj E c x)(hc:CS τ γ c=some c'):X5 Z w iQ Eo c' x:=by
 cases h with
 |one h=>
  cases c with
  |fr f caps=>cases h with|cl h=>cases h
  |_=>exact .one (h.tOz M hc)
 |fr f caps vs hl h=>
  simp only[CS]at hc;cases hk:IU τ γ caps with
  |none=>rw[hk]at hc;simp at hc
  |some cs=>
   rw[hk]at hc;simp at hc;subst hc;obtain⟨k1,k2⟩:=bk5 hk;refine .fr f cs vs (k1.trans hl) λi c' x h1 h2=>?_;obtain⟨c,h3,h4⟩:=k2 i c' h1;exact(h i c x h3 h2).tOz M h4
theorem cm7{c c':CV}(h:uD τ γ c=some c'):c'.atom=c.atom:=by
 cases c<;>first|(simp[uD]at h;done)|(simp[uD]at h;rw[<-h];done)|(obtain⟨j,_,rfl⟩:=ap8 h;rfl)
theorem VI{c c':CV}(h:CS τ γ c=some c'):c'.atom=c.atom:=by
 cases c with
 |fr f caps=>
  simp only[CS]at h;cases hk:IU τ γ caps with
  |none=>rw[hk]at h;simp at h
  |some cs=>rw[hk]at h;simp at h;subst h;rfl
 |_=>exact cm7 (τ:=τ) (γ:=γ) h
theorem N7.to1(M:Match τ γ obj E iQ Eo){s s':SV}{x:Value}(h:N7 Z w obj E s x)(hc:qY τ γ s=some s'):N7 Z w iQ Eo s' x:=by
 cases h with
 |any x=>simp[qY]at hc;subst hc;exact .any _
 |un=>simp[qY]at hc;subst hc;exact .un
 |kt=>simp[qY]at hc;subst hc;exact .kt
 |kf=>simp[qY]at hc;subst hc;exact .kf
 |c c x h=>simp[qY]at hc;subst hc;exact .c _ _ h
 |pm t g off x hs hg h=>
  obtain⟨j,hj,rfl⟩:=ap9 hc;refine .pm j (γ j) off x hs (M.gen hj).1 λhl=>?_;rw[(M.gen hj).2];exact h (M.live hj hl)
 |ap t g sz es x h hg ht=>
  simp only[qY]at hc;cases hi:kX τ t g 0 with
  |none=>rw[hi]at hc;simp at hc;subst hc;exact .c _ _ h
  |some j=>
   rw[hi]at hc;simp at hc;subst hc;have hj:=aI9 hi;exact .ap j (γ j) sz es x h (M.gen hj).1 λel s ho=>by rw[(M.gen hj).2];exact ht _ _ (M.tok hj ho)
 |Q7=>simp[qY]at hc
 |rs t g x hs hg h=>
  obtain⟨j,hj,rfl⟩:=ap9 hc;refine .rs j (γ j) x hs (M.gen hj).1 λel sz ds D8 ho=>?_;obtain⟨f0,h0⟩:=M.arr hj ho;rw[(M.gen hj).2];exact h _ _ _ _ h0
 |aC cs vs hl h ha=>
  simp only[qY]at hc;cases hk:fP τ γ cs with
  |none=>rw[hk]at hc;simp at hc
  |some cs'=>
   rw[hk]at hc;simp at hc;subst hc;obtain⟨k1,k2⟩:=OU hk;refine .aC cs' vs (k1.trans hl) (λi c' x h1 h2=>?_) (λi c' h1=>?_)
   .obtain⟨c,h3,h4⟩:=k2 i c' h1;exact(h i c x h3 h2).tOz M h4
   .obtain⟨c,h3,h4⟩:=k2 i c' h1;rw[VI h4];exact ha i c h3
 |eF cs vs hl h ha=>
  simp only[qY]at hc;cases hk:fP τ γ cs with
  |none=>rw[hk]at hc;simp at hc
  |some cs'=>
   rw[hk]at hc;simp at hc;subst hc;obtain⟨k1,k2⟩:=OU hk;refine .eF cs' vs (k1.trans hl) (λi c' x h1 h2=>?_) (λi c' h1=>?_)
   .obtain⟨c,h3,h4⟩:=k2 i c' h1;exact(h i c x h3 h2).tOz M h4
   .obtain⟨c,h3,h4⟩:=k2 i c' h1;rw[VI h4];exact ha i c h3
 |pe t g n off x hg h=>
  obtain⟨j,hj,rfl⟩:=ap9 hc;refine .pe j (γ j) n off x (M.gen hj).1 λel sz ds D8 ho=>?_;obtain⟨f0,h0⟩:=M.arr hj ho;rw[(M.gen hj).2];exact h _ _ _ _ h0
 |mr t g x hs hg h=>
  obtain⟨j,hj,rfl⟩:=ap9 hc;refine .mr j (γ j) x hs (M.gen hj).1 λes ho=>?_;rw[(M.gen hj).2];exact h _ (M.map hj ho)
theorem N7.tOz(M:Match τ γ obj E iQ Eo){s s':SV}{x:Value}(h:N7 Z w obj E s x)(hc:ZU τ γ s=some s'):N7 Z w iQ Eo s' x:=by
 cases s with
 |Q7 f caps=>
  cases h with
  |Q7 _ _ vs hf hl h=>
   simp only[ZU]at hc;cases hk:TP τ γ caps with
   |none=>rw[hk]at hc;simp at hc
   |some cs=>
    rw[hk]at hc;simp at hc;subst hc;obtain⟨k1,k2⟩:=bT1 hk;refine .Q7 f cs vs hf (k1.trans hl) λi c' x h1 h2=>?_;obtain⟨c,h3,h4⟩:=k2 i c' h1;exact(h i c x h3 h2).to1 M h4
 |_=>exact h.to1 M hc
theorem cn5{c:CV}{T:Nat}{f:Bool}(h:CS τ γ c=some (.bp T f)):c=.bp T f:=by
 cases c<;>simp[CS,uD]at h⊢<;>exact h
theorem U6.tOz(M:Match τ γ obj E iQ Eo){o o':D9}{e:Value}(h:U6 Z w obj E e o)(hc:eY τ γ o=some o'):U6 Z w iQ Eo e o':=by
 cases o with
 |varx cs=>
  simp only[eY]at hc;cases hk:fP τ γ cs with
  |none=>rw[hk]at hc;simp at hc
  |some cs'=>
   rw[hk]at hc;simp at hc;subst hc;obtain⟨k1,k2⟩:=OU hk;obtain⟨b,el,arr,h1,h2,h3,h4,h5⟩:=h;refine⟨b,el,arr,h1,h2,h3.trans k1.symm,λj c' hj=>?_,h5.1,h5.2.same λj T f hj=>?_⟩
   rotate_left
   .obtain⟨c,h6,h7⟩:=k2 j _ hj;rw[h6,cn5 h7]
   obtain⟨c,h6,h7⟩:=k2 j c' hj;obtain⟨q1,x,q2,q3⟩:=h4 j c h6;exact⟨by rw[VI h7];exact q1,x,q2,q3.tOz M h7⟩
 |arr el sz ds D8=>
  obtain⟨xs,h1,h2,h3,h4,h5,h6⟩:=h;cases D8 with
  |none=>
   simp[eY]at hc;subst hc;refine⟨xs,h1,h2,h3,h4,λi d hi hcx j c hj=>?_,h6⟩;obtain⟨q1,u,q2,q3⟩:=h5 i d hi hcx j c hj;exact⟨q1,u,q2,.cl (q3.closed (kY (h3.2 i d hcx (λ_ _ h=>nomatch h)) hj))⟩
  |some p=>
   obtain⟨m,cs⟩:=p;simp only[eY]at hc;cases hk:fP τ γ cs with
   |none=>rw[hk]at hc;simp at hc
   |some cs'=>
    rw[hk]at hc;simp at hc;subst hc;obtain⟨k1,k2⟩:=OU hk;have hcx:∀k,Y8 ds (some (m,cs')) k=if k=m then some cs' else ds[k]?:=λk=>rfl
    have nJ:∀k,Y8 ds (some (m,cs)) k=if k=m then some cs else ds[k]?:=λk=>rfl
    refine⟨xs,h1,h2,⟨λm' d' he=>by cases he;exact h3.1 m cs rfl,λi d hd hne=>h3.2 i d hd λm' d' he=>by cases he;exact hne m cs' rfl⟩,λi d hi hc'=>?_,λi d hi hc' j c hj=>?_,h6⟩
    .grind
    .rw[hcx]at hc';by_cases hk':i=m
     .rw[I4 hk']at hc';cases hc';obtain⟨c0,h7,h8⟩:=k2 j c hj;obtain⟨q1,u,q2,q3⟩:=h5 i cs hi (by rw[nJ,I4 hk']) j c0 h7;exact⟨by rw[VI h8];exact q1,u,q2,q3.tOz M h8⟩
     .rw[F9 hk']at hc';obtain⟨q1,u,q2,q3⟩:=h5 i d hi (by rw[nJ,F9 hk'];exact hc') j c hj;exact⟨q1,u,q2,.cl (q3.closed (kY (h3.2 i d hc' (λm' d' he=>by cases he;exact hk')) hj))⟩
 |none=>simp[eY]at hc;subst hc;exact h
 |spent=>simp[eY]at hc;subst hc;exact h
 |var cs=>simp[eY]at hc;subst hc;exact h
 |ro cs=>simp[eY]at hc;subst hc;exact h
 |tok el sz=>simp[eY]at hc;subst hc;exact h
 |map es=>simp[eY]at hc;subst hc;exact h
 |lp l R q=>simp[eY]at hc;subst hc;exact h
theorem aQ0{obj:I5}:∀{l:List (Nat×Nat)}{k:Nat}{os:List (Nat×D9)},oV τ γ obj k l=some os->os.length=l.length/\∀(j t g:Nat),l[j]?=some (t,g)->(obj t).1=g/\∃o',eY τ γ (obj t).2=some o'/\os[j]?=some (γ (k+j),o')
 |[],k,os,h=>by simp[oV]at h;subst h;exact⟨rfl,λj t g h=>by simp at h⟩
 |(t,g)::r,k,os,h=>by
  simp only[oV]at h;cases hb:Nat.beq (obj t).1 g with
  |false=>rw[hb]at h;simp at h
  |true=>
   rw[hb]at h;simp only[H7]at h;split at h
   .rename_i o os' h1 h2;simp at h;subst h;obtain⟨k1,k2⟩:=aQ0 h2;refine⟨by simp[k1],λj t' g' hj=>?_⟩;cases j with
    |zero=>simp at hj;obtain⟨rfl,rfl⟩:=hj;exact⟨F8 hb,o,h1,rfl⟩
    |succ j=>grind
   .simp at h
end
theorem am4:∀{l:List Nat},nO l=true->∀(i j x:Nat),l[i]?=some x->l[j]?=some x->i=j
 |[],_,i,_,_,h,_=>by simp at h
 |y::r,hn,i,j,x,hi,hj=>by
  simp only[nO]at hn;cases hb:r.any (Nat.beq y)with
  |true=>rw[hb]at hn;cases hn
  |false=>
   rw[hb]at hn;simp only[G6]at hn;rw[BM]at hb;have hy:∀k,r[k]?≠some y:=λk hk=>hb y (iC hk) (Nat.beq_refl y);cases i with
   |zero=>
    cases j with
    |zero=>rfl
    |succ j=>simp at hi;subst hi;exact absurd (by simpa using hj) (hy j)
   |succ i=>
    cases j with
    |zero=>simp at hj;subst hj;exact absurd (by simpa using hi) (hy i)
    |succ j=>rw[am4 hn i j x (by simpa using hi) (by simpa using hj)]
section
variable{obj:I5}{d off:Nat}{τ:List (Nat×Nat)}
theorem MK:∀(os:List (Nat×D9))(k j:Nat),j<os.length->((aG obj d off τ k os).map (·.1))[j]?=some (U1 d off τ (k+j))
 |[],_,_,h=>by simp at h
 |(g,o)::r,k,j,h=>by
  cases j with
  |zero=>simp[aG]
  |succ j=>
   have:=MK r (k+1) j (by simpa using h);rw[show k+(j+1)=k+1+j by omega];simpa[aG]using this
theorem a04{fG:I5}:∀(os:List (Nat×D9))(k j g:Nat)(o:D9),nO ((aG obj d off τ k os).map (·.1))=true->os[j]?=some (g,o)->upd fG (aG obj d off τ k os) (U1 d off τ (k+j))=(bW obj d off τ (k+j) g,cZ obj d off τ o)
 |[],_,_,_,_,_,h=>by simp at h
 |(g0,o0)::r,k,j,g,o,hn,h=>by
  cases j with
  |zero=>simp at h;obtain⟨rfl,rfl⟩:=h;simp[aG,upd]
  |succ j=>
   have hne:Nat.beq (U1 d off τ k) (U1 d off τ (k+(j+1)))=false:=by
    cases hb:Nat.beq (U1 d off τ k) (U1 d off τ (k+(j+1)))with
    |false=>rfl
    |true=>
     have he:=F8 hb;have hlt:j+1<((g0,o0)::r).length:=(O4.1 h).1;have:=am4 hn 0 (j+1) _ (MK ((g0,o0)::r) k 0 (by simp)) (by rw[MK ((g0,o0)::r) k (j+1) hlt];exact congrArg some he.symm);omega
   simp only[aG,upd,hne,G6];have hn':nO ((aG obj d off τ (k+1) r).map (·.1))=true:=by
    simp only[aG,kP,nO]at hn;cases hb:List.any ((aG obj d off τ (k+1) r).map (·.1)) (Nat.beq (U1 d off τ k))with
    |true=>rw[hb]at hn;cases hn
    |false=>rw[hb]at hn;exact hn
   have:=a04 (fG:=fG) r (k+1) j g o hn' (by simpa using h);rw[show k+(j+1)=k+1+j by omega];exact this
theorem a05{fG:I5}:∀(os:List (Nat×D9))(k t:Nat),(∀j,j<os.length->t≠U1 d off τ (k+j))->upd fG (aG obj d off τ k os) t=fG t
 |[],_,_,_=>rfl
 |(g0,o0)::r,k,t,h=>by
  have hne:Nat.beq (U1 d off τ k) t=false:=by
   cases hb:Nat.beq (U1 d off τ k) t with
   |false=>rfl
   |true=>exact absurd (F8 hb).symm (h 0 (by simp))
  simp only[aG,upd,hne,G6];exact a05 r (k+1) t λj hj=>by
   rw[show k+1+j=k+(j+1) by omega];exact h (j+1) (by simpa using hj)
theorem cl6{j k k':Nat}(h:k<=k'):bW obj d off τ j k<=bW obj d off τ j k':=by unfold bW;split<;>omega
theorem af2{j k k':Nat}(h:bW obj d off τ j k=bW obj d off τ j k'):k=k':=by unfold bW at h;split at h<;>omega
structure Back(obj:I5)(d off:Nat)(τ:List (Nat×Nat))(os:List (Nat×D9))(Eo:Nat->Value)(E5:I5)(E':Nat->Value):Prop where
 at_:∀j g o,os[j]?=some (g,o)->E5 (U1 d off τ j)=(bW obj d off τ j g,cZ obj d off τ o)/\E' (U1 d off τ j)=Eo j
variable{os:List (Nat×D9)}{Eo E':Nat->Value}{E5:I5}{Z:Zone}{w:World}
theorem bE3(o:D9)(e:Value){b:Nat}:(cZ obj d off τ o).blk e b=o.blk e b:=by
 cases o with
 |varx cs=>cases e<;>first|rfl|(rename_i a;cases a<;>rfl)
 |arr el sz ds D8=>
  cases D8 with
  |none=>rfl
  |some p=>obtain⟨m,cs⟩:=p;simp only[cZ];rw[iF,iF]
 |_=>rfl
theorem Back.live(B:Back obj d off τ os Eo E5 E'){j k:Nat}(hj:j<os.length)(h:live E5 (U1 d off τ j) (bW obj d off τ j k)):live (G9 os) j k:=by
 have hos:os[j]?=some (os[j].1,os[j].2):=I9 hj;obtain⟨h1,_⟩:=B.at_ j _ _ hos;obtain⟨cs,h⟩:=h;rw[h1]at h;have hl:G9 os j=(os[j].1,os[j].2):=by unfold G9;rw[hos]
 rcases h with h|h|h
 all_goals
  simp only[dI]at h;have hk:=af2 h.1;rw[hk]at hl;have h2:=h.2
 .cases ho:os[j].2 with
  |var cs0=>rw[ho]at hl;exact⟨cs0,.inl hl⟩
  |arr el sz ds D8=>rw[ho]at h2;cases D8<;>simp[cZ]at h2
  |_=>rw[ho]at h2;simp[cZ]at h2
 .cases ho:os[j].2 with
  |ro cs0=>rw[ho]at hl;exact⟨cs0,.inr (.inl hl)⟩
  |arr el sz ds D8=>rw[ho]at h2;cases D8<;>simp[cZ]at h2
  |_=>rw[ho]at h2;simp[cZ]at h2
 .cases ho:os[j].2 with
  |varx cs0=>rw[ho]at hl;exact⟨cs0,.inr (.inr hl)⟩
  |arr el sz ds D8=>rw[ho]at h2;cases D8<;>simp[cZ]at h2
  |_=>rw[ho]at h2;simp[cZ]at h2
theorem Back.arr(B:Back obj d off τ os Eo E5 E'){j k el sz:Nat}{ds:List (List CV)}{D8:Option (Nat×List CV)}(hj:j<os.length)(h:E5 (U1 d off τ j)=(bW obj d off τ j k,.arr el sz ds D8)):∃mD,G9 os j=(k,.arr el sz ds mD):=by
 have hos:os[j]?=some (os[j].1,os[j].2):=I9 hj;obtain⟨h1,_⟩:=B.at_ j _ _ hos;rw[h1]at h;have hl:G9 os j=(os[j].1,os[j].2):=by unfold G9;rw[hos]
 simp only[dI]at h;rw[af2 h.1]at hl;have h2:=h.2;cases ho:os[j].2 with
 |arr dK sz' ds' iM=>
  rw[ho]at h2 hl;cases iM with
  |none=>simp[cZ]at h2;obtain⟨rfl,rfl,rfl,_⟩:=h2;exact⟨_,hl⟩
  |some p=>obtain⟨m,cs⟩:=p;simp[cZ]at h2;obtain⟨rfl,rfl,rfl,_⟩:=h2;exact⟨_,hl⟩
 |_=>rw[ho]at h2;simp[cZ]at h2
theorem Back.map(B:Back obj d off τ os Eo E5 E'){j k:Nat}{es:List (CV×CV)}(hj:j<os.length)(h:E5 (U1 d off τ j)=(bW obj d off τ j k,.map es)):G9 os j=(k,.map es):=by
 have hos:os[j]?=some (os[j].1,os[j].2):=I9 hj;obtain⟨h1,_⟩:=B.at_ j _ _ hos;rw[h1]at h;have hl:G9 os j=(os[j].1,os[j].2):=by unfold G9;rw[hos]
 simp only[dI]at h;rw[af2 h.1]at hl;have h2:=h.2;cases ho:os[j].2 with
 |map es'=>rw[ho]at h2 hl;simp[cZ]at h2;subst h2;exact hl
 |arr el sz ds D8=>rw[ho]at h2;cases D8<;>simp[cZ]at h2
 |_=>rw[ho]at h2;simp[cZ]at h2
theorem Back.tok(B:Back obj d off τ os Eo E5 E'){j k el sz:Nat}(hj:j<os.length)(h:E5 (U1 d off τ j)=(bW obj d off τ j k,.tok el sz)):G9 os j=(k,.tok el sz):=by
 have hos:os[j]?=some (os[j].1,os[j].2):=I9 hj;obtain⟨h1,_⟩:=B.at_ j _ _ hos;rw[h1]at h;have hl:G9 os j=(os[j].1,os[j].2):=by unfold G9;rw[hos]
 simp only[dI]at h;rw[af2 h.1]at hl;have h2:=h.2;cases ho:os[j].2 with
 |tok dK sz'=>rw[ho]at h2 hl;simp[cZ]at h2;obtain⟨rfl,rfl⟩:=h2;exact hl
 |arr el sz ds D8=>rw[ho]at h2;cases D8<;>simp[cZ]at h2
 |_=>rw[ho]at h2;simp[cZ]at h2
theorem Back.gen(B:Back obj d off τ os Eo E5 E'){j k:Nat}(hj:j<os.length)(hk:k<=(G9 os j).1):bW obj d off τ j k<=(E5 (U1 d off τ j)).1/\E' (U1 d off τ j)=Eo j:=by
 have hos:os[j]?=some (os[j].1,os[j].2):=I9 hj;obtain⟨h1,h2⟩:=B.at_ j _ _ hos;have hl:G9 os j=(os[j].1,os[j].2):=by unfold G9;rw[hos]
 rw[hl]at hk;rw[h1];exact⟨cl6 hk,h2⟩
theorem dJ{j n:Nat}(h:Nat.blt j n=true):j<n:=H6 h
theorem fM.back(B:Back obj d off τ os Eo E5 E'){c:CV}{x:Value}(h:fM Z w (G9 os) Eo c x)(hc:OG os.length c=true):fM Z w E5 E' (CQ obj d off τ c) x:=by
 cases h with
 |cl h=>have hn:=h.EJ;cases c<;>first|exact .cl h|(simp[CV.nK]at hn)
 |rs j k x hs hg h=>
  have hj:=dJ hc;obtain⟨g1,g2⟩:=B.gen hj hg;refine .rs _ _ x hs g1 λel sz ds D8 ho=>?_;obtain⟨f0,h0⟩:=B.arr hj ho;rw[g2];exact h _ _ _ _ h0
 |pr j k off x hs hg h=>
  have hj:=dJ hc;obtain⟨g1,g2⟩:=B.gen hj hg;refine .pr _ _ _ x hs g1 λhl=>?_;rw[g2];exact h (B.live hj hl)
 |mr j k x hs hg h=>
  have hj:=dJ hc;obtain⟨g1,g2⟩:=B.gen hj hg;refine .mr _ _ x hs g1 λes ho=>?_;rw[g2];exact h _ (B.map hj ho)
 |bp T f x hs=>exact .bp T f x hs
theorem wC{α:Type}{p:α->Bool}{l:List α}(h:l.all p=true){i:Nat}{x:α}(hi:l[i]?=some x):p x=true:=nZ.1 h x (iC hi)
theorem X5.back(B:Back obj d off τ os Eo E5 E'){c:CV}{x:Value}(h:X5 Z w (G9 os) Eo c x)(hc:oK os.length c=true):X5 Z w E5 E' (oJ obj d off τ c) x:=by
 cases h with
 |one h=>
  cases c with
  |fr f caps=>cases h with|cl h=>cases h
  |_=>exact .one (h.back B hc)
 |fr f caps vs hl h=>
  simp only[oK]at hc;refine .fr f _ vs (by simpa using hl) λi c x h1 h2=>?_;rw[O6]at h1;cases hk:caps[i]? with
  |none=>rw[hk]at h1;simp at h1
  |some c0=>rw[hk]at h1;simp at h1;subst h1;exact(h i c0 x hk h2).back B (wC hc hk)
theorem ag3(c:CV):(oJ obj d off τ c).atom=c.atom:=by cases c<;>rfl
theorem N7.bg2(B:Back obj d off τ os Eo E5 E'){s:SV}{x:Value}(h:N7 Z w (G9 os) Eo s x)(hs:∀f caps,s≠.Q7 f caps)(hc:zX os.length s=true):N7 Z w E5 E' (qX obj d off τ s) x:=by
 cases h with
 |any x=>exact .any _
 |un=>exact .un
 |kt=>exact .kt
 |kf=>exact .kf
 |c c x h=>exact .c _ _ h
 |pm j k off x hs hg h=>
  have hj:=dJ hc;obtain⟨g1,g2⟩:=B.gen hj hg;refine .pm _ _ _ x hs g1 λhl=>?_;rw[g2];exact h (B.live hj hl)
 |ap j k sz es x h hg ht=>
  have hj:=dJ hc;obtain⟨g1,g2⟩:=B.gen hj hg;exact .ap _ _ sz es x h g1 λel s ho=>by rw[g2];exact ht _ _ (B.tok hj ho)
 |Q7 f caps=>exact absurd rfl (hs f caps)
 |rs j k x hs hg h=>
  have hj:=dJ hc;obtain⟨g1,g2⟩:=B.gen hj hg;refine .rs _ _ x hs g1 λel sz ds D8 ho=>?_;obtain⟨f0,h0⟩:=B.arr hj ho;rw[g2];exact h _ _ _ _ h0
 |aC cs vs hl h ha=>
  simp only[zX]at hc;refine .aC _ vs (by simpa using hl) (λi c x h1 h2=>?_) (λi c h1=>?_)
  .rw[O6]at h1;cases hk:cs[i]? with
   |none=>rw[hk]at h1;simp at h1
   |some c0=>rw[hk]at h1;simp at h1;subst h1;exact(h i c0 x hk h2).back B (wC hc hk)
  .rw[O6]at h1;cases hk:cs[i]? with
   |none=>rw[hk]at h1;simp at h1
   |some c0=>rw[hk]at h1;simp at h1;subst h1;rw[ag3];exact ha i c0 hk
 |eF cs vs hl h ha=>
  simp only[zX]at hc;refine .eF _ vs (by simpa using hl) (λi c x h1 h2=>?_) (λi c h1=>?_)
  .rw[O6]at h1;cases hk:cs[i]? with
   |none=>rw[hk]at h1;simp at h1
   |some c0=>rw[hk]at h1;simp at h1;subst h1;exact(h i c0 x hk h2).back B (wC hc hk)
  .rw[O6]at h1;cases hk:cs[i]? with
   |none=>rw[hk]at h1;simp at h1
   |some c0=>rw[hk]at h1;simp at h1;subst h1;rw[ag3];exact ha i c0 hk
 |pe j k n off x hg h=>
  have hj:=dJ hc;obtain⟨g1,g2⟩:=B.gen hj hg;refine .pe _ _ _ _ x g1 λel sz ds D8 ho=>?_;obtain⟨f0,h0⟩:=B.arr hj ho;rw[g2];exact h _ _ _ _ h0
 |mr j k x hs hg h=>
  have hj:=dJ hc;obtain⟨g1,g2⟩:=B.gen hj hg;refine .mr _ _ x hs g1 λes ho=>?_;rw[g2];exact h _ (B.map hj ho)
theorem N7.back(B:Back obj d off τ os Eo E5 E'){s:SV}{x:Value}(h:N7 Z w (G9 os) Eo s x)(hc:lV os.length s=true):N7 Z w E5 E' (wZ obj d off τ s) x:=by
 cases s with
 |Q7 f caps=>
  cases h with
  |Q7 _ _ vs hf hl h=>
   refine .Q7 f _ vs hf (by simpa using hl) λi c x h1 h2=>?_;rw[O6]at h1;cases hk:caps[i]? with
   |none=>rw[hk]at h1;simp at h1
   |some c0=>
    rw[hk]at h1;simp at h1;subst h1;have hn:=wC (show caps.all (zX os.length)=true from hc) hk;exact(h i c0 x hk h2).bg2 B (λf caps e=>by rw[e]at hn;cases hn) hn
 |_=>exact h.bg2 B (λf caps e=>nomatch e) hc
theorem cn0{c:CV}{T:Nat}{f:Bool}(h:oJ obj d off τ c=.bp T f):c=.bp T f:=by
 cases c<;>simp[oJ,CQ]at h⊢<;>exact h
theorem U6.back(B:Back obj d off τ os Eo E5 E'){o:D9}{e:Value}(h:U6 Z w (G9 os) Eo e o)(hc:EK os.length o=true):U6 Z w E5 E' e (cZ obj d off τ o):=by
 cases o with
 |varx cs=>
  obtain⟨b,el,arr,h1,h2,h3,h4,h5⟩:=h;refine⟨b,el,arr,h1,h2,by simpa using h3,λj c hj=>?_,h5.1,h5.2.same λj T f hj=>?_⟩
  rotate_left
  .rw[O6]at hj;cases hk:cs[j]? with
   |none=>rw[hk]at hj;simp at hj
   |some c0=>rw[hk]at hj;simp at hj;rw[cn0 hj]
  rw[O6]at hj;cases hk:cs[j]? with
  |none=>rw[hk]at hj;simp at hj
  |some c0=>
   rw[hk]at hj;simp at hj;subst hj;obtain⟨q1,x,q2,q3⟩:=h4 j c0 hk;exact⟨by rw[ag3];exact q1,x,q2,q3.back B (wC (show cs.all (oK os.length)=true from hc) hk)⟩
 |arr el sz ds D8=>
  obtain⟨xs,h1,h2,h3,h4,h5,h6⟩:=h;cases D8 with
  |none=>
   refine⟨xs,h1,h2,h3,h4,λi d hi hcx j c hj=>?_,h6⟩;obtain⟨q1,u,q2,q3⟩:=h5 i d hi hcx j c hj;exact⟨q1,u,q2,.cl (q3.closed (kY (h3.2 i d hcx (λ_ _ h=>nomatch h)) hj))⟩
  |some p=>
   obtain⟨m,cs⟩:=p;have hc':cs.all (oK os.length)=true:=hc;have hcx:∀k,Y8 ds (some (m,cs.map (oJ obj d off τ))) k=if k=m then some (cs.map (oJ obj d off τ))else ds[k]?:=λk=>rfl
   have nJ:∀k,Y8 ds (some (m,cs)) k=if k=m then some cs else ds[k]?:=λk=>rfl
   refine⟨xs,h1,h2,⟨λm' d' he=>by cases he;exact h3.1 m cs rfl,λi d' hd hne=>h3.2 i d' hd λm' d'' he=>by cases he;exact hne m _ rfl⟩,λi d' hi hc1=>?_,λi d' hi hc1 j c hj=>?_,h6⟩
   .grind
   .rw[hcx]at hc1;by_cases hk':i=m
    .rw[I4 hk']at hc1;cases hc1;rw[O6]at hj;cases hk:cs[j]? with
     |none=>rw[hk]at hj;simp at hj
     |some c0=>
      rw[hk]at hj;simp at hj;subst hj;obtain⟨q1,u,q2,q3⟩:=h5 i cs hi (by rw[nJ,I4 hk']) j c0 hk;exact⟨by rw[ag3];exact q1,u,q2,q3.back B (wC hc' hk)⟩
    .rw[F9 hk']at hc1;obtain⟨q1,u,q2,q3⟩:=h5 i d' hi (by rw[nJ,F9 hk'];exact hc1) j c hj;exact⟨q1,u,q2,.cl (q3.closed (kY (h3.2 i d' hc1 (λm' d'' he=>by cases he;exact hk')) hj))⟩
 |none=>exact h
 |spent=>exact h
 |var cs=>exact h
 |ro cs=>exact h
 |tok el sz=>exact h
 |map es=>exact h
 |lp l R q=>exact h
end
section
variable{P:Program}{G:World->Prop}{T:Tab}{Z0:Base}{w0:World}{S:Nat->Prop}{n:Nat}{Z:Zone}{E:Nat->Value}{st:St}{a:Act}{w:World}
theorem jV.back{o o0 o1:D9}{τ:List (Nat×Nat)}{obj:I5}{d off:Nat}(h:jV o1 o)(hk:eY τ (λ_=>0) o0=some o1):jV o0 (cZ obj d off τ o):=by
 unfold eY at hk;split at hk
 .cases hc:fP τ (λ_=>0) _ with
  |none=>rw[hc]at hk;simp at hk
  |some cs=>
   rw[hc]at hk;simp at hk;subst hk;cases o with
   |arr el sz ds D8=>simp[jV]at h
   |_=>first|trivial|(simp[jV]at h)
 .cases hc:fP τ (λ_=>0) _ with
  |none=>rw[hc]at hk;simp at hk
  |some cs=>
   rw[hc]at hk;simp at hk;subst hk;cases o with
   |arr el sz ds D8=>cases D8<;>exact h
   |_=>simp[jV]at h
 .simp at hk;subst hk;cases o with
  |arr el sz ds D8=>
   cases D8 with
   |none=>exact h
   |some p=>obtain⟨m,cs⟩:=p;cases o0<;>first|exact h|(simp[jV]at h)
  |varx cs=>cases o0<;>first|trivial|(simp[jV]at h)
  |_=>exact h
theorem bl8{D off:Nat}{d:Option Nat}{τ:List (Nat×Nat)}{os os':List (Nat×D9)}{r:SV}(hI:Inv G Z0 w0 S n Z E st a w)(hd:inRange n d=true)(hos:oV τ (λ_=>0) st.obj 0 τ=some os)
 (V6:(nO ((aG st.obj D off τ 0 os').map (·.1))&&Nat.ble τ.length os'.length&&lV os'.length r&&os'.all (λo=>EK os'.length o.2))=true):
 ∃Eo:Nat->Value,Match τ (λ_=>0) st.obj E (G9 os) Eo/\rJ Z w os Eo/\(∀k,S k->SG w os Eo k)/\∀x Z' w' aY,pK Z w os Eo Z' w' os' aY r x->
  ∃E',Inv G Z0 w0 S n Z' E' ⟨put st.env d (wZ st.obj D off τ r),upd st.obj (aG st.obj D off τ 0 os')⟩ (a.put d x) w':=by
 simp only[X3]at V6;obtain⟨⟨⟨hnd,hlen⟩,cI5⟩,bs8⟩:=V6;have hlen:=H6 hlen;obtain⟨hol,hoa⟩:=aQ0 hos
 let Eo:Nat->Value:=λj=>match τ[j]? with|some (t,_)=>E t|none=>undef
 have WV:∀j t g,τ[j]?=some (t,g)->Eo j=E t:=λj t g h=>by simp only[Eo,h]
 have M:Match τ (λ_=>0) st.obj E (G9 os) Eo:=⟨λj t g hj=>by
  obtain⟨h1,o',h2,h3⟩:=hoa j t g hj
  exact⟨h1,o',h2,by unfold G9;rw[h3],WV j t g hj⟩⟩
 have bt4:∀j,j<τ.length->U1 D off τ j=(τ[j]?.getD (0,0)).1:=λj hj=>by
  unfold U1;rw[I9 hj];rfl
 have hinj:∀i j,i<os'.length->j<os'.length->U1 D off τ i=U1 D off τ j->i=j:=λi j hi hj he=>by
  have h1:=MK (obj:=st.obj) (d:=D) (off:=off) (τ:=τ) os' 0 i hi;have h2:=MK (obj:=st.obj) (d:=D) (off:=off) (τ:=τ) os' 0 j hj;rw[V7]at h1 h2;rw[he]at h1;exact am4 hnd i j _ h1 h2
 have hbk:∀j t g,τ[j]?=some (t,g)->U1 D off τ j=t:=λj t g hj=>by unfold U1;rw[hj]
 have hjl:∀j t g,τ[j]?=some (t,g)->j<os'.length:=λj t g hj=>Z5 (O4.1 hj).1 hlen;have hblk:∀j b,(G9 os j).2.blk (Eo j) b->∃t g,τ[j]?=some (t,g)/\(st.obj t).2.blk (E t) b:=λj b hb=>by
  cases hj:τ[j]? with
  |none=>
   have:os[j]?=none:=rM (by rw[hol];exact ad7.1 hj);unfold G9 at hb;rw[this]at hb;simp[D9.blk]at hb
  |some p=>
   obtain⟨t,g⟩:=p;obtain⟨h1,o',h2,h3,h4⟩:=M.at_ j t g hj;rw[h3,h4,bE6 h2]at hb;exact⟨t,g,rfl,hb⟩
 have JU:∀k,S k->SG w os Eo k:=λk hk=>⟨hI.vI k hk,λ⟨j,hj⟩=>by
  obtain⟨t,g,_,h2⟩:=hblk j k hj
  exact hI.own t k h2 hk⟩
 have WZ:rJ Z w os Eo:=by
  constructor
  .intro j;cases hj:τ[j]? with
   |none=>
    have:os[j]?=none:=rM (by rw[hol];exact ad7.1 hj);unfold G9;rw[this];trivial
   |some p=>
    obtain⟨t,g⟩:=p;obtain⟨h1,o',h2,h3,h4⟩:=M.at_ j t g hj;rw[h3,h4];exact(hI.obj t).tOz M h2
  .intro j j' b hne h1 h2;obtain⟨t,g,q1,q2⟩:=hblk j b h1;obtain⟨t',g',q3,q4⟩:=hblk j' b h2;refine hI.apart t t' b (λe=>hne ?_) q2 q4;exact hinj j j' (hjl j t g q1) (hjl j' t' g' q3) (by rw[hbk j t g q1,hbk j' t' g' q3,e])
 refine⟨Eo,M,WZ,JU,λx Z' w' aY hp=>?_⟩
 let E5:=upd st.obj (aG st.obj D off τ 0 os')
 let E':Nat->Value:=λt=>match(List.range os'.length).find? (λj=>U1 D off τ j==t)with|some j=>aY j|none=>E t
 have hE':∀j,j<os'.length->E' (U1 D off τ j)=aY j:=λj hj=>by
  simp only[E'];cases hf:(List.range os'.length).find? (λi=>U1 D off τ i==U1 D off τ j)with
  |none=>
   rw[List.find?_eq_none]at hf;exact absurd (by simp) (hf j (List.mem_range.2 hj))
  |some i=>grind
 have aF9:∀t,(∀j,j<os'.length->t≠U1 D off τ j)->E' t=E t:=λt ht=>by
  simp only[E'];cases hf:(List.range os'.length).find? (λi=>U1 D off τ i==t)with
  |none=>rfl
  |some i=>grind
 have hob:∀j g o1,os'[j]?=some (g,o1)->E5 (U1 D off τ j)=(bW st.obj D off τ j g,cZ st.obj D off τ o1):=λj g o1 hj=>by
  have:=a04 (fG:=st.obj) os' 0 j g o1 hnd hj;rw[V7]at this;exact this
 have aH7:∀t,(∀j,j<os'.length->t≠U1 D off τ j)->E5 t=st.obj t:=λt ht=>a05 os' 0 t (λj hj=>by rw[V7];exact ht j hj);have B:Back st.obj D off τ os' aY E5 E':=⟨λj g o1 hj=>⟨hob j g o1 hj,hE' j (O4.1 hj).1⟩⟩;have hget:∀j,j<os'.length->∃g o1,os'[j]?=some (g,o1)/\G9 os' j=(g,o1):=λj hj=>⟨os'[j].1,os'[j].2,I9 hj,by unfold G9;rw[I9 hj]⟩;have hblk':∀j,j<os'.length->∀b,(E5 (U1 D off τ j)).2.blk (E' (U1 D off τ j)) b->(G9 os' j).2.blk (aY j) b:=λj hj b hb=>by
  obtain⟨g,o1,h1,h2⟩:=hget j hj;rw[hob j g o1 h1,hE' j hj,bE3]at hb;rw[h2];exact hb
 have sG:Kept S w w':=hp.kept.mono JU;have hGB:∀t b,(∀j,j<os'.length->t≠U1 D off τ j)->(st.obj t).2.blk (E t) b->¬GB os Eo b:=λt b ht hb ⟨j,hj⟩=>by
  obtain⟨t',g',q1,q2⟩:=hblk j b hj;exact hI.apart t t' b (λe=>ht j (hjl j t' g' q1) (by rw[hbk j t' g' q1,e])) hb q2
 have bq3:∀b,GB os Eo b->¬S b:=λb hb hs=>(JU b hs).2 hb;refine⟨E',?_⟩;have hsame:∀t,(¬∃j,j<os'.length/\t=U1 D off τ j)->E5 t=st.obj t/\E' t=E t:=λt ht=>by
  have ht':∀j,j<os'.length->t≠U1 D off τ j:=λj hj e=>ht ⟨j,hj,e⟩;exact⟨aH7 t ht',aF9 t ht'⟩
 refine hI.bL0 (λt=>∃j,j<os'.length/\t=U1 D off τ j) hd sG hp.keeps hp.U4 (λb o1 hz=>?_) hsame (bF4 _ hsame ?_) ?_ ?_ ?_ ?_ (hp.res.back B cI5)
 .rcases hp.fB b o1 hz with h1|h1|h1
  .exact .inl h1
  .exact .inr (hI.fresh h1)
  .exact .inr (bq3 b h1)
 .rintro t ⟨j,hj,rfl⟩;obtain⟨g,o1,h1,h2⟩:=hget j hj;have hnone:o1≠.none:=λe=>by
   have:=nZ.1 bs8 _ (iC h1);rw[e]at this;cases this
  show(st.obj (U1 D off τ j)).1<(E5 (U1 D off τ j)).1\/((E5 (U1 D off τ j)).1=(st.obj (U1 D off τ j)).1/\(D9.still (E5 (U1 D off τ j)).2\/(E' (U1 D off τ j)=E (U1 D off τ j)/\jV (st.obj (U1 D off τ j)).2 (E5 (U1 D off τ j)).2)));rw[hob j g o1 h1];cases hτ:τ[j]? with
  |some p=>
   obtain⟨t,g0⟩:=p;obtain⟨q1,o0,q2,q3,q4⟩:=M.at_ j t g0 hτ;have hb:=hbk j t g0 hτ;rw[hb];have hG:bW st.obj D off τ j g=g0+g:=by unfold bW;rw[hτ]
   simp only[hG,q1];cases g with
   |succ g=>exact .inl (by omega)
   |zero=>
    refine .inr ⟨rfl,?_⟩;have iG:E' t=aY j:=by rw[<-hb];exact hE' j hj
    have hg0:(0:Nat)<=(G9 os j).1:=Y3 _;have fin:jV o0 o1->aY j=Eo j->(D9.still (cZ st.obj D off τ o1)\/(E' t=E t/\jV (st.obj t).2 (cZ st.obj D off τ o1))):=λhk he=>.inr ⟨by rw[iG,he,q4],hk.back q2⟩;have hv:∀cs,(o1=.var cs\/o1=.ro cs\/o1=.varx cs)->(D9.still (cZ st.obj D off τ o1)\/(E' t=E t/\jV (st.obj t).2 (cZ st.obj D off τ o1))):=λcs ho1=>by
     obtain⟨⟨cs0,hl⟩,he⟩:=hp.ok.var j 0 hg0 ⟨cs,by rw[h2];simpa using ho1⟩;rw[q3]at hl;simp only[dI,true_and]at hl;refine fin ?_ he;rcases hl with rfl|rfl|rfl<;>rcases ho1 with rfl|rfl|rfl<;>trivial
    cases o1 with
    |none=>exact absurd rfl hnone
    |spent=>exact .inl (.inl rfl)
    |lp l R q=>exact .inl (.inr ⟨_,_,_,rfl⟩)
    |var cs=>exact hv cs (.inl rfl)
    |ro cs=>exact hv cs (.inr (.inl rfl))
    |varx cs=>exact hv cs (.inr (.inr rfl))
    |tok el sz=>
     obtain⟨hl,he⟩:=hp.ok.tok j 0 el sz hg0 h2;rw[q3]at hl;simp only[dI,true_and]at hl;subst hl;exact fin ⟨rfl,rfl⟩ he
    |arr el sz ds D8=>
     obtain⟨⟨ds0,mD,hl⟩,he⟩:=hp.ok.arr j 0 el sz ds D8 hg0 h2;rw[q3]at hl;simp only[dI,true_and]at hl;subst hl;exact fin ⟨rfl,rfl⟩ he
    |map es=>
     obtain⟨⟨es0,hl⟩,he⟩:=hp.ok.map j 0 es hg0 h2;rw[q3]at hl;simp only[dI,true_and]at hl;subst hl;exact fin trivial he
  |none=>
   have hG:bW st.obj D off τ j g=(st.obj (U1 D off τ j)).1+g:=by unfold bW U1;rw[hτ]
   simp only[hG];cases g with
   |succ g=>exact .inl (by omega)
   |zero=>
    refine .inr ⟨rfl,.inl ?_⟩;have hoj:G9 os j=(0,.none):=by
     have:os[j]?=none:=rM (by rw[hol];exact ad7.1 hτ);unfold G9;rw[this]
    have hg0:(0:Nat)<=(G9 os j).1:=Y3 _;have hv:∀cs,¬(o1=.var cs\/o1=.ro cs\/o1=.varx cs):=λcs ho1=>by
     obtain⟨⟨cs0,hl⟩,_⟩:=hp.ok.var j 0 hg0 ⟨cs,by rw[h2];simpa using ho1⟩;rw[hoj]at hl;simp at hl
    cases o1 with
    |none=>exact absurd rfl hnone
    |spent=>exact .inl rfl
    |lp l R q=>exact .inr ⟨_,_,_,rfl⟩
    |var cs=>exact absurd (.inl rfl) (hv cs)
    |ro cs=>exact absurd (.inr (.inl rfl)) (hv cs)
    |varx cs=>exact absurd (.inr (.inr rfl)) (hv cs)
    |tok el sz=>obtain⟨hl,_⟩:=hp.ok.tok j 0 el sz hg0 h2;rw[hoj]at hl;simp at hl
    |arr el sz ds D8=>obtain⟨⟨ds0,mD,hl⟩,_⟩:=hp.ok.arr j 0 el sz ds D8 hg0 h2;rw[hoj]at hl;simp at hl
    |map es=>obtain⟨⟨es0,hl⟩,_⟩:=hp.ok.map j 0 es hg0 h2;rw[hoj]at hl;simp at hl
 .rintro _ t ⟨j,hj,rfl⟩;obtain⟨g,o1,h1,h2⟩:=hget j hj;show U6 Z' w' E5 E' (E' _) (E5 _).2;rw[hob j g o1 h1,hE' j hj];have:=hp.grp.ok j;rw[h2]at this;exact this.back B (nZ.1 bs8 _ (iC h1))
 .intro t ht b hb;have ht':∀j,j<os'.length->t≠U1 D off τ j:=λj hj e=>ht ⟨j,hj,e⟩;have hlt:=(hI.obj t).lt hb;have zA:=hGB t b ht' hb;refine⟨hp.kept.block b ⟨hlt,zA⟩,λk hz=>?_,?_⟩
  .rcases hp.fB b k hz with h1|h1|h1
   .exact h1
   .omega
   .exact absurd h1 zA
  .rintro s ⟨j,hj,rfl⟩ hb';rcases hp.own b ⟨j,hblk' j hj b hb'⟩with h1|h1
   .omega
   .exact zA h1
 .rintro t t' b ⟨j,hj,rfl⟩ ⟨j',hj',rfl⟩ hne h1 h2;exact hp.grp.apart j j' b (λe=>hne (by rw[e])) (hblk' j hj b h1) (hblk' j' hj' b h2)
 .rintro t ⟨j,hj,rfl⟩ b hb;rcases hp.own b ⟨j,hblk' j hj b hb⟩with h1|h1
  .exact hI.fresh h1
  .exact bq3 b h1
theorem aC9(o:Oper){K:Z8}{next:Act->World->Prop}{Q:Exit->Act->World->Prop}(hI:Inv G Z0 w0 S n Z E st a w)(hd:inRange n o.dst=true)(h:FW (gX P G) (look st) st.obj o.dst o.op o.type K)
 (hn:∀r rd u Z' E' x w',K r rd u->Inv G Z0 w0 S n Z' E' ⟨put st.env o.dst r,upd st.obj u⟩ (a.put o.dst x) w'->next (a.put o.dst x) w'):Oper.bT P o a w next Q:=by
 obtain⟨τ,off,args,os,r,os',hargs,hos,heff,V6,hK⟩:=h;obtain⟨Eo,M,WZ,JU,hback⟩:=bl8 (d:=o.dst) hI hd hos V6;obtain⟨hal,hag⟩:=aW8 hargs;refine heff Z w Eo a o next Q rfl rfl WZ hI.U4 (by simpa using hal) (λi s x h1 h2=>?_) (λw' hk=>hI.gs w' (hI.below.trans (hk.mono JU))) λx Z' w' aY hp=>(hback x Z' w' aY hp).elim λE' hI'=>hn _ _ _ Z' E' x w' hK ?_
 rotate_left
 .exact hI'
 .obtain⟨s0,h3,h4⟩:=hag i s h1;rw[O6]at h3;have h5:o.op.operands.toList[i]?=some x:=by simpa using h2
  rw[h5]at h3;simp at h3;subst h3;exact(Y2 hI x).tOz M h4
theorem cY7(hT:X9 P T)(o:Oper)(Z0:Base)(w0:World)(S:Nat->Prop)(n:Nat)(Z:Zone)(E:Nat->Value)(st:St)(a:Act)(w:World)(K:Z8)(next:Act->World->Prop)(Q:Exit->Act->World->Prop)
 (hI:Inv G Z0 w0 S n Z E st a w) (hd:inRange n o.dst=true) (h:FX (gX P G) T (look st) st.obj o.dst o.op o.type K)
 (hn:∀r rd u Z' E' x w',K r rd u->Inv G Z0 w0 S n Z' E' ⟨put st.env o.dst r,upd st.obj u⟩ (a.put o.dst x) w'->next (a.put o.dst x) w'):Oper.bT P o a w next Q:=
 h.elim (λh=>bG1 hT o Z0 w0 S n Z E st a w K next Q _ hI hd h (λhx=>cb8 hT o Z0 w0 S n Z E st a w K next Q hI hd hx hn) hn) (λh=>aC9 o hI hd h hn)
theorem cY6(hT:X9 P T)(o:Oper)(Z0:Base)(w0:World)(S:Nat->Prop)(n:Nat)(Z:Zone)(E:Nat->Value)(st:St)(a:Act)(w:World)(K:Z8)(next:Act->World->Prop)(Q:Exit->Act->World->Prop)
 (hI:Inv G Z0 w0 S n Z E st a w) (hd:inRange n o.dst=true) (h:dS (gX P G) T (look st) st.obj o.dst o.op o.type K)
 (hn:∀r rd u Z' E' x w',K r rd u->Inv G Z0 w0 S n Z' E' ⟨put st.env o.dst r,upd st.obj u⟩ (a.put o.dst x) w'->next (a.put o.dst x) w'):Oper.bT P o a w next Q:=
 by
 have h0:UM (gX P G) T (look st) st.obj o.dst o.op o.type K->Oper.bT P o a w next Q:=λh=>
  bG1 hT o Z0 w0 S n Z E st a w K next Q _ hI hd h (λhx=>hx.elim (λhx=>cb8 hT o Z0 w0 S n Z E st a w K next Q hI hd hx hn) (λhx=>aC9 o hI hd hx hn)) hn
 unfold dS at h;cases hb:ai0 o.op with
 |true=>rw[hb]at h;exact h.elim h0 (λhx=>aC9 o hI hd hx hn)
 |false=>rw[hb]at h;exact h0 h
end
end Go.F6
end
section
namespace Go
abbrev G5:=@Option.bind_some
abbrev fC:=@Bool.not_true
abbrev jT:=@List.mem_cons
abbrev rO:=@List.nil_append
abbrev xY:=@Nat.lt_trichotomy
abbrev yJ:=@decide_eq_true_eq
abbrev GX:=@Option.map_some
abbrev bc4:=@Array.getElem?_setIfInBounds_ne
end Go
namespace Go.F6
open Go Go.RowKit
section
variable{H:iW}{T:Tab}{lk:Operand->SV}{obj:I5}{F F':Z8->Prop}{d:Option Nat}{ty:TypeId}{K:Z8}
theorem az2{b:Bool}{p q r s:Prop}(h1:p->r)(h2:q->s)(h:bif b then p else q):bif b then r else s:=by grind
theorem dy1(hF:F K->F' K)(b:Builtin)(c:Call):gJ T lk obj F b c d K->gJ T lk obj F' b c d K:=by
 unfold gJ
 repeat' split
 all_goals first|exact id|exact hF|exact az2 (Or.imp id hF) id
theorem dy4(hF:F K->F' K)(c:Call):jH H lk obj F c K->jH H lk obj F' c K:=by
 unfold jH
 repeat' split
 all_goals first|exact hF|exact Or.imp id hF
theorem aw4(hF:F K->F' K)(op:Op):wpOp H T lk obj F d op ty K->wpOp H T lk obj F' d op ty K:=by
 cases op<;>simp only[wpOp]
 case call c=>split<;>first|exact dy1 hF _ _|exact dy4 hF _
 case unOp o t x=>cases o<;>simp only<;>(repeat' split)<;>first|exact id|exact hF
 case makeFunc f x y=>cases f<;>simp only<;>(try split)<;>first|exact id|exact hF
 case fieldAddr t x k=>
  repeat' split
  all_goals first|exact id|exact hF|(refine az2 id ?_;repeat' split)|skip
  all_goals first|exact id|exact hF
 all_goals first|exact hF|exact id|skip
 all_goals (repeat' split)
 all_goals first|exact id|exact hF|exact az2 id hF
theorem dy3(b:Builtin)(c:Call):gJ T lk obj F b c d K->gJ T lk obj (λ_=>False) b c d K\/F K:=by
 unfold gJ
 repeat' split
 all_goals first|exact .inl|exact .inr|skip
 all_goals
  grind
theorem dy6(c:Call):jH H lk obj F c K->jH H lk obj (λ_=>False) c K\/F K:=by
 unfold jH
 repeat' split
 all_goals first|exact .inr|exact λh=>h.imp .inl id
theorem ba4(op:Op):wpOp H T lk obj F d op ty K->wpOp H T lk obj (λ_=>False) d op ty K\/F K:=by
 cases op<;>simp only[wpOp]
 case call c=>split<;>first|exact dy3 _ _|exact dy6 _
 case unOp o t x=>cases o<;>simp only<;>(repeat' split)<;>first|exact .inl|exact .inr
 case makeFunc f x y=>cases f<;>simp only<;>(try split)<;>first|exact .inl|exact .inr
 case fieldAddr t x k=>
  split
  .split
   .grind
   .exact .inl
  .exact .inl
 all_goals first|exact .inr|exact .inl|skip
 all_goals (repeat' split)
 all_goals first|exact .inl|exact .inr
theorem dy2(b:Builtin)(c:Call):gJ T lk obj F b c d K->gJ T lk obj (λ_=>False) b c d K\/(F K/\∀(F':Z8->Prop)(K':Z8),F' K'->gJ T lk obj F' b c d K'):=by
 unfold gJ
 repeat' split
 all_goals first|exact .inl|exact λh=>.inr ⟨h,λ_ _ h=>h⟩|skip
 all_goals
  grind
theorem dy5(c:Call):jH H lk obj F c K->jH H lk obj (λ_=>False) c K\/(F K/\∀(F':Z8->Prop)(K':Z8),F' K'->jH H lk obj F' c K'):=by
 unfold jH
 repeat' split
 all_goals first|exact λh=>.inr ⟨h,λ_ _ h=>h⟩|exact λh=>h.imp .inl λh=>⟨h,λ_ _ h=>.inr h⟩
theorem dz7(op:Op):wpOp H T lk obj F d op ty K->wpOp H T lk obj (λ_=>False) d op ty K\/(F K/\∀(F':Z8->Prop)(K':Z8),F' K'->wpOp H T lk obj F' d op ty K'):=by
 cases op<;>simp only[wpOp]
 case call c=>split<;>first|exact dy2 _ _|exact dy5 _
 case unOp o t x=>cases o<;>simp only<;>(repeat' split)<;>first|exact .inl|exact λh=>.inr ⟨h,λ_ _ h=>h⟩
 case makeFunc f x y=>cases f<;>simp only<;>(try split)<;>first|exact .inl|exact λh=>.inr ⟨h,λ_ _ h=>h⟩
 case fieldAddr t x k=>
  split
  .split
   .split
    .rename_i i _;cases hz:Nat.beq i.size 0 with
     |true=>exact .inl
     |false=>
      simp only[G6]
      repeat' split
      all_goals first|exact .inl|exact λh=>.inr ⟨h,λ_ _ h=>h⟩
    .exact .inl
   .exact .inl
  .exact .inl
 all_goals first|exact λh=>.inr ⟨h,λ_ _ h=>h⟩|exact .inl|skip
 all_goals (repeat' split)
 all_goals first|exact .inl|exact λh=>.inr ⟨h,λ_ _ h=>h⟩
theorem cL6{α:Type}{o:Option α}(h:o.isNone=true):o=none:=by cases o<;>simp_all
theorem ba8(op:Op)(hX:Y6 H T lk obj d op K):MX H T lk obj d op ty K:=by
 unfold MX;have h:=hX;cases op with
 |load t x=>
  simp only[Y6]at h;split at h
  .rename_i i hti;split at h
   .rename_i s g off hlx;split at h
    .rename_i g' cs ho;simp only[wpOp,hti,hlx,ho];exact hX
    .exact h.elim
   .rename_i s g m off hlx;simp only[wpOp,hti,hlx];exact hX
   .exact h.elim
  .exact h.elim
 |store t x y=>
  simp only[Y6]at h;split at h
  .rename_i i ys hti hys;replace h:=Q8 h;obtain⟨_,h⟩:=h;split at h
   .rename_i s g off hlx;split at h
    .rename_i g' cs ho;replace h:=Q8 h;obtain⟨hb,h⟩:=h;simp only[X3]at hb;simp only[wpOp,hti,hlx,cL6 hb.2];exact hX
    .rename_i g' cs ho;cases hc:aQ (lk y)with
     |none=>simp only[wpOp,hti,hlx,hc,Option.map_none];exact hX
     |some c=>simp only[wpOp,hti,hlx,hc,GX,ho];exact hX
    .exact h.elim
   .rename_i s g m off hlx;simp only[wpOp,hti,hlx];exact hX
   .exact h.elim
  .exact h.elim
 |nilCheck x=>
  simp only[Y6]at h;split at h
  .rename_i s g off hlx;split at h
   .rename_i g' cs ho;simp only[wpOp,hlx,ho];exact hX
   .exact h.elim
  .rename_i s g m off hlx;simp only[wpOp,hlx];exact hX
  .exact h.elim
 |fieldAddr t x k=>
  simp only[Y6]at h;split at h
  .rename_i fs _ _ _ _ _ hti;split at h
   .rename_i f hf;split at h
    .rename_i i hfi;cases hz:Nat.beq i.size 0 with
     |true=>grind
     |false=>
      rw[hz]at h;simp only[G6]at h;split at h
      .rename_i s g off hlx;split at h
       .rename_i g' cs ho;simp only[wpOp,hti,hf,hfi,hz,G6,hlx,ho];exact hX
       .exact h.elim
      .rename_i s g m off hlx;simp only[wpOp,hti,hf,hfi,hz,G6,hlx];exact hX
      .exact h.elim
    .exact h.elim
   .exact h.elim
  .exact h.elim
 |indexAddr t x i=>
  simp only[Y6]at h;split at h
  .rename_i e _ _ _ _ _ hti;split at h
   .rename_i ti s g kd m hte hlx hli;simp only[wpOp,hti,hte,hlx,eP];exact hX
   .exact h.elim
  .exact h.elim
 |slice t x lo hi mx=>simp only[wpOp];exact hX
 |buildSlice t len ps=>
  simp only[Y6]at h;split at h
  .rename_i e _ _ _ _ _ hti;split at h
   .rename_i i d x hte hps;split at h
    .rename_i cs hlx;simp only[wpOp,hti,hte,hps,tZ,hlx,aQ];exact hX
    .exact h.elim
   .exact h.elim
  .exact h.elim
 |call c=>
  obtain⟨callee,args,argTypes⟩:=c;cases callee with
  |value f=>
   simp only[Y6,vS]at h;split at h
   .rename_i f args more d hargs;split at h
    .rename_i cs ts hfr;simp only[wpOp,jH,hargs,hfr];exact .inr hX
    .exact h.elim
   .exact h.elim
  |invoke r m=>
   simp only[Y6,vS]at h;split at h
   .rename_i f args more d hargs;split at h
    .rename_i cs ts hfr;simp only[wpOp,jH,hargs,hfr];exact .inr hX
    .exact h.elim
   .exact h.elim
  |builtin b=>
   cases b with
   |len=>
    simp only[Y6]at h;split at h
    .rename_i x e _ _ _ _ _ hargs hbt;split at h
     .rename_i s g hlx;simp only[wpOp,gJ,hargs,hlx,eP];exact hX
     .exact h.elim
    .exact h.elim
   |append=>
    simp only[Y6,BH]at h;split at h
    .rename_i x y d t1 t2 hargs aI6;split at h
     .rename_i e _ _ _ _ _ ht1;split at h
      .rename_i i hte;replace h:=Q8 h;obtain⟨V6,h⟩:=h;simp only[X3]at V6;obtain⟨⟨⟨c1,c2⟩,c3⟩,c4⟩:=V6;split at h
       .rename_i hlx;simp only[wpOp,gJ,hargs,hlx];exact hX
       .rename_i t g s g2 hly hlx;simp only[wpOp,gJ,hargs,hlx];exact hX
       .rename_i t g hlx _;simp only[wpOp,gJ,hargs,hlx];exact hX
       .rename_i t g sz es hlx;split at h
        .rename_i g' el s s2 ns ho hsl;replace h:=Q8 h;obtain⟨V6,h⟩:=h;simp only[X3]at V6;obtain⟨⟨⟨⟨d1,d2⟩,d3⟩,d4⟩,d5⟩:=V6;have e4:=F8 d4;have e3:=F8 d3;simp only[wpOp,gJ,hargs,hlx,hsl,aI6,ht1,hte,ho]
         grind
        .exact h.elim
       .exact h.elim
      .exact h.elim
     .exact h.elim
    .exact h.elim
   |_=>exact h.elim
 |_=>exact h.elim
theorem b95{op:Op}(h:UM H T lk obj d op ty K):FX H T lk obj d op ty K:=by
 rcases ba4 op h with h|h|h
 .exact .inl (aw4 (λh=>h.elim) op h)
 .exact .inl (ba8 op h)
 .exact .inr h
theorem dz5{op:Op}(h:dS H T lk obj d op ty K):FX H T lk obj d op ty K:=by
 unfold dS at h;cases hb:ai0 op with
 |true=>rw[hb]at h;exact h.elim b95 .inr
 |false=>rw[hb]at h;exact b95 h
end
end Go.F6
namespace Go.F6
open Go Go.RowKit
section
variable{H:iW}{T:Tab}{lk lk':Operand->SV}{obj E5:I5}{d:Option Nat}{ty:TypeId}{K:Z8}
theorem cz8{c c':CV}{ts:List Nat}(h:DL obj c=some (c',ts))(ho:∀t∈ts,E5 t=obj t):DL E5 c=some (c',ts):=by
 cases c with
 |pr t g off=>
  simp only[DL]at h⊢
  grind
 |_=>simp[DL]at h
theorem bp4:∀{cs cs':List CV}{ts:List Nat},DN obj cs=some (cs',ts)->(∀t∈ts,E5 t=obj t)->DN E5 cs=some (cs',ts)
 |[],cs',ts,h,_=>h
 |c::r,cs',ts,h,ho=>by
  simp only[DN]at h⊢;split at h
  .rename_i d t1 ds t2 h1 h2;simp at h;obtain⟨rfl,rfl⟩:=h;rw[cz8 h1 λt ht=>ho t (BO _ ht),bp4 h2 λt ht=>ho t (BP _ ht)]
  .simp at h
theorem cz6{c c':CV}{ts:List Nat}(h:qG obj c=some (c',ts))(ho:∀t∈ts,E5 t=obj t):qG E5 c=some (c',ts):=by
 unfold qG at h⊢;split at h
 .rename_i t g
  try simp only at h⊢
  grind
 .rename_i t g
  try simp only at h⊢
  grind
 .simp at h
 .rename_i f caps;simp only[Option.map_eq_some_iff]at h⊢;obtain⟨p,hp,hq⟩:=h;simp at hq;obtain⟨rfl,rfl⟩:=hq;exact⟨p,bp4 hp ho,rfl⟩
 .simp at h
 .exact h
theorem bp3:∀{cs cs':List CV}{ts:List Nat},uJ obj cs=some (cs',ts)->(∀t∈ts,E5 t=obj t)->uJ E5 cs=some (cs',ts)
 |[],cs',ts,h,_=>h
 |c::r,cs',ts,h,ho=>by
  simp only[uJ]at h⊢;split at h
  .rename_i d t1 ds t2 h1 h2;simp at h;obtain⟨rfl,rfl⟩:=h;rw[cz6 h1 λt ht=>ho t (BO _ ht),bp3 h2 λt ht=>ho t (BP _ ht)]
  .simp at h
theorem bp1{s:SV}{c:CV}{ts:List Nat}(h:freeze obj s=some (c,ts))(ho:∀t∈ts,E5 t=obj t):freeze E5 s=some (c,ts):=by
 unfold freeze at h⊢;split at h
 .rename_i t g off
  try simp only at h⊢
  split at h
  .grind
  .rename_i g' cs hob;cases hb:Nat.beq g g' with
   |false=>grind
   |true=>
    rw[hb]at h;simp only[H7]at h;split at h
    .rename_i cs' us hq;simp at h;rw[ho t (by rw[<-h.2];simp),hob];simp only[hb,H7];rw[bp3 hq λt ht=>ho t (by rw[<-h.2];exact NR _ ht)]
     grind
    .simp at h
  .simp at h
 .rename_i t g
  try simp only at h⊢
  grind
 .rename_i t g
  try simp only at h⊢
  grind
 .exact h
theorem bo9:∀(ss:List SV)(cs:List CV)(ts:List Nat),DI obj ss=some (cs,ts)->(∀t∈ts,E5 t=obj t)->DI E5 ss=some (cs,ts)
 |[],cs,ts,h,_=>h
 |s::ss,cs,ts,h,ho=>by
  simp only[DI]at h⊢;split at h
  .rename_i c t1 cs' t2 h1 h2;simp at h;obtain⟨rfl,rfl⟩:=h;rw[bp1 h1 (λt ht=>ho t (BO _ ht)),bo9 ss cs' t2 h2 (λt ht=>ho t (BP _ ht))]
  .simp at h
theorem cz3{s:SV}{c:CV}{ts:List Nat}(h:PN obj s=some (c,ts))(ho:∀t∈ts,E5 t=obj t):PN E5 s=some (c,ts):=by
 unfold PN at h⊢;split at h
 .rename_i f caps
  try simp only at h⊢
  split at h
  .rename_i cs ts' hl;simp at h;obtain⟨rfl,rfl⟩:=h;rw[bo9 _ _ _ hl ho]
  .simp at h
 .exact bp1 h ho
theorem aE6:∀(ss:List SV)(cs:List CV)(ts:List Nat),wI obj ss=some (cs,ts)->(∀t∈ts,E5 t=obj t)->wI E5 ss=some (cs,ts)
 |[],cs,ts,h,_=>h
 |s::ss,cs,ts,h,ho=>by
  simp only[wI]at h⊢;split at h
  .rename_i c t1 cs' t2 h1 h2;simp at h;obtain⟨rfl,rfl⟩:=h;rw[cz3 h1 (λt ht=>ho t (BO _ ht)),aE6 ss cs' t2 h2 (λt ht=>ho t (BP _ ht))]
  .simp at h
theorem bh5(fs:Array Field):∀(ps:List (Nat×Operand))(z:List CV),(∀p∈ps,lk' p.2=lk p.2)->wE T lk' fs z ps=wE T lk fs z ps
 |[],_,_=>rfl
 |(i,x)::r,z,h=>by
  simp only[wE];rw[h (i,x) (by simp)];have:=λz=>bh5 fs r z (λp hp=>h p (by simp[hp]));simp only[this]
theorem bh4(sz:Nat):∀(ps:List (Nat×Operand))(k:Nat),(∀p∈ps,lk' p.2=lk p.2)->tZ lk' sz k ps=tZ lk sz k ps
 |[],_,_=>rfl
 |(i,x)::r,k,h=>by
  simp only[tZ];rw[h (i,x) (by simp),bh4 sz r (k+1) (λp hp=>h p (by simp[hp]))]
theorem dx7{d:Nat}{x:Operand}(h:UL T lk obj ty d x K)(hl:lk' x=lk x)(ho:∀r rd wr,K r rd wr->∀s,(s∈rd\/s∈wr.map (·.1))->E5 s=obj s):UL T lk' E5 ty d x K:=by
 unfold UL at h⊢;split at h
 .split at h
  .split at h
   .rename_i i h2;replace h:=Q8 h;have hod:=ho _ _ _ h.2 d (.inr (by simp))
    grind
   .exact h.elim
  .exact h.elim
 .rw[hl];cases hs:lk x with
  |ap t g sz es=>
   simp only[hs]at h⊢;cases hob:obj t with
   |mk g' o=>
    simp only[hob]at h;cases o with
    |tok el s=>
     simp only at h;cases hb:(Nat.beq g g'&& !(Nat.beq t d))with
     |true=>
      rw[hb]at h;simp only[H7]at h;have h1:=ho _ _ _ h t (.inl (by simp));have h2:=ho _ _ _ h d (.inr (by simp))
      grind
     |false=>
      rw[hb]at h;simp only[G6]at h;have h1:=ho _ _ _ h t (.inl (by simp))
      grind
    |none=>have h1:=ho _ _ _ h t (.inl (by simp));simp only[h1,hob];exact h
    |spent=>have h1:=ho _ _ _ h t (.inl (by simp));simp only[h1,hob];exact h
    |var cs=>have h1:=ho _ _ _ h t (.inl (by simp));simp only[h1,hob];exact h
    |ro cs=>have h1:=ho _ _ _ h t (.inl (by simp));simp only[h1,hob];exact h
    |varx cs=>have h1:=ho _ _ _ h t (.inl (by simp));simp only[h1,hob];exact h
    |arr el sz ds D8=>have h1:=ho _ _ _ h t (.inl (by simp));simp only[h1,hob];exact h
    |map es=>have h1:=ho _ _ _ h t (.inl (by simp));simp only[h1,hob];exact h
    |lp l R q=>have h1:=ho _ _ _ h t (.inl (by simp));simp only[h1,hob];exact h
  |_=>grind
theorem dy0{b:Builtin}{c:Call}(h:gJ T lk obj (λ_=>False) b c d K)(hl:∀x∈c.args.toList,lk' x=lk x)(ho:∀r rd wr,K r rd wr->∀s,(s∈rd\/s∈wr.map (·.1))->E5 s=obj s):gJ T lk' E5 (λ_=>False) b c d K:=by
 unfold gJ at h⊢;split at h
 .grind
 .grind
 .grind
 .rename_i x y hx
  try simp only[hx]at h⊢
  rw[hl x (by rw[hx];simp),hl y (by rw[hx];simp)];split at h
  .rename_i t g sz es s2 ns d' t1 t2 h1 h2 h4
   try simp only[h1,h2,h4]
   split at h
   .rename_i e _ _ _ _ _ h5;split at h
    .rename_i i h6
     try simp only[h5,h6]
     replace h:=Q8 h;obtain⟨hb,h|h⟩:=h
     rotate_left
     .exact h.elim
     obtain⟨hns,hlen,es',he',h⟩:=h;have hot:E5 t=obj t:=by
      cases htd:Nat.beq t d' with
      |true=>rw[htd]at h;exact ho _ _ _ h t (.inl (by simp))
      |false=>rw[htd]at h;exact ho _ _ _ h t (.inl (by simp))
     rw[hot];rw[hb];refine .inl ⟨hns,hlen,es',he',?_⟩;cases htd:Nat.beq t d' with
     |true=>grind
     |false=>
      rw[htd]at h;simp only[G6]at h⊢;rw[ho _ _ _ h d' (.inr (by simp))];exact h
    .exact h.elim
   .exact h.elim
  .exact h.elim
 .exact h.elim
theorem b92{c:Call}(h:jH H lk obj (λ_=>False) c K)(hl:∀x∈c.operands,lk' x=lk x)(ho:∀r rd wr,K r rd wr->∀s,(s∈rd\/s∈wr.map (·.1))->E5 s=obj s):jH H lk' E5 (λ_=>False) c K:=by
 have hc:callArgs lk' c=callArgs lk c:=by
  unfold callArgs;have hargs:c.args.toList.map lk'=c.args.toList.map lk:=List.map_congr_left λx hx=>hl x (by simp[Call.operands];right;simpa using hx);cases hcc:c.callee with
  |value f=>
   have hf:lk' f=lk f:=hl f (by simp[Call.operands,hcc])
   grind
  |invoke r m=>rfl
  |builtin b=>rfl
 unfold jH at h⊢;rw[hc];split at h
 .rename_i f args more h1
  try simp only[h1]
  split at h
  .rename_i cs ts h2;obtain h|h:=h
   rotate_left
   .exact h.elim
   obtain⟨r,hr,hts,hk⟩:=h
   try rw[aE6 _ _ _ h2 (λt ht=>ho _ _ _ hk t (.inl ht))]
   grind
  .exact h.elim
 .exact h.elim
theorem dz6{op:Op}(h:wpOp H T lk obj (λ_=>False) d op ty K)(hl:∀x∈op.operands,lk' x=lk x)(ho:∀r rd wr,K r rd wr->∀s,(s∈rd\/s∈wr.map (·.1))->E5 s=obj s):wpOp H T lk' E5 (λ_=>False) d op ty K:=by
 cases op with
 |move x=>
  simp only[wpOp]at h⊢;rw[hl x (by simp[Op.operands])];exact h
 |assign x=>
  simp only[wpOp]at h⊢;split at h
  .exact dx7 h (hl x (by simp[Op.operands])) ho
  .exact h
 |pick c x y=>
  simp only[wpOp]at h⊢;rw[hl c (by simp[Op.operands]),hl x (by simp[Op.operands]),hl y (by simp[Op.operands])];exact h
 |alloc e=>
  simp only[wpOp]at h⊢;split at h
  .rename_i i d' h1
   try rw[h1]
   try simp only
   rw[ho _ _ _ h d' (.inr (by simp))];exact h
  .exact h.elim
 |box e x=>
  simp only[wpOp]at h⊢;rw[hl x (by simp[Op.operands])];split at h
  .rename_i c d' h1
   try rw[h1]
   try simp only
   replace h:=Q8 h;rw[ho _ _ _ h.2 d' (.inr (by simp)),h.1];exact h.2
  .exact h.elim
 |build t ps=>
  simp only[wpOp]at h⊢
  have:∀fs z,wE T lk' fs z ps.toList=wE T lk fs z ps.toList:=λfs z=>bh5 fs _ z λp hp=>hl p.2 (by
   simp only[Op.operands,List.mem_toArray,iV];exact⟨p,hp,rfl⟩)
  grind
 |buildSlice t len ps=>
  simp only[wpOp]at h⊢
  have:∀sz,tZ lk' sz 0 ps.toList=tZ lk sz 0 ps.toList:=λsz=>bh4 sz _ 0 λp hp=>hl p.2 (by
   simp only[Op.operands,List.mem_toArray,iV];exact⟨p,hp,rfl⟩)
  simp only[this];split at h
  .rename_i e _ _ _ _ _ h1;split at h
   .rename_i i d' h2;split at h
    .rename_i es h3
     try rw[h2]
     try simp only[h3]
     replace h:=Q8 h;rw[ho _ _ _ h.2 d' (.inr (by simp)),h.1];exact h.2
    .exact h.elim
   .exact h.elim
  .exact h.elim
 |load t x=>
  simp only[wpOp]at h⊢;rw[hl x (by simp[Op.operands])];split at h
  .rename_i i h1
   try simp only
   split at h
   .rename_i s g off h2
    try simp only
    split at h
    .rename_i g' cs h3;replace h:=Q8 h;obtain⟨hb,h⟩:=h;split at h
     .rename_i c h4;rw[ho _ _ _ h s (.inl (by simp)),h3]
      grind
     .exact h.elim
    .rename_i g' cs h3;replace h:=Q8 h;obtain⟨hb,h⟩:=h;split at h
     .rename_i c h4;rw[ho _ _ _ h s (.inl (by simp)),h3]
      grind
     .exact h.elim
    .exact h.elim
   .exact h
   .exact h.elim
  .exact h.elim
 |store t x y=>
  simp only[wpOp]at h⊢;rw[hl x (by simp[Op.operands]),hl y (by simp[Op.operands])];split at h
  .rename_i i s g off c h1 h2 h3
   try rw[h1,h2,h3]
   try simp only
   split at h
   .rename_i g' cs h4;replace h:=Q8 h;obtain⟨hb,h⟩:=h;split at h
    .rename_i cs' h5;rw[ho _ _ _ h s (.inl (by simp)),h4]
     grind
    .exact h.elim
   .exact h.elim
  .exact h.elim
 |nilCheck x=>
  simp only[wpOp]at h⊢;rw[hl x (by simp[Op.operands])];split at h
  .rename_i s g off h2
   try simp only
   split at h
   .rename_i g' cs h3;replace h:=Q8 h;rw[ho _ _ _ h.2 s (.inl (by simp)),h3]
    grind
   .rename_i g' cs h3;replace h:=Q8 h;rw[ho _ _ _ h.2 s (.inl (by simp)),h3]
    grind
   .exact h.elim
  .exact h
  .exact h
  .exact h
  .exact h.elim
 |binOp op t x y t'=>
  simp only[wpOp]at h⊢;rw[hl x (by simp[Op.operands]),hl y (by simp[Op.operands])];exact h
 |unOp op t x=>
  cases op<;>simp only[wpOp]at h⊢<;>(rw[hl x (by simp[Op.operands])];exact h)
 |convert s t x=>
  simp only[wpOp]at h⊢;rw[hl x (by simp[Op.operands])];exact h
 |makeFunc fn first captured=>
  cases fn with
  |func f=>
   simp only[wpOp]at h⊢;have:captured.toList.map lk'=captured.toList.map lk:=List.map_congr_left λx hx=>hl x (by simp[Op.operands];right;simpa using hx)
   grind
  |_=>simp only[wpOp]at h
 |fieldAddr t x k=>
  simp only[wpOp]at h⊢;rw[hl x (by simp[Op.operands])];split at h
  .rename_i fs _ _ _ _ _ h1
   try simp only
   split at h
   .rename_i f h2
    try simp only
    split at h
    .rename_i i h3
     try simp only
     cases hz:Nat.beq i.size 0 with
     |true=>grind
     |false=>
      rw[hz]at h;simp only[G6]at h⊢;split at h
      .rename_i s g off h4
       try simp only
       split at h
       .rename_i g' cs h5;replace h:=Q8 h;rw[ho _ _ _ h.2 s (.inl (by simp)),h5]
        grind
       .rename_i g' cs h5;replace h:=Q8 h;rw[ho _ _ _ h.2 s (.inl (by simp)),h5]
        grind
       .exact h.elim
      .exact h
      .exact h.elim
    .exact h.elim
   .exact h.elim
  .exact h.elim
 |field t x k=>
  simp only[wpOp]at h⊢;rw[hl x (by simp[Op.operands])];exact h
 |indexAddr t x i=>
  simp only[wpOp]at h⊢;rw[hl x (by simp[Op.operands]),hl i (by simp[Op.operands])];exact h
 |index t x i=>
  simp only[wpOp]at h⊢;rw[hl x (by simp[Op.operands]),hl i (by simp[Op.operands])];exact h
 |extract x k=>
  simp only[wpOp]at h⊢;rw[hl x (by simp[Op.operands])];exact h
 |call c=>
  simp only[Op.operands]at hl;unfold wpOp at h⊢;cases hcc:c.callee with
  |builtin b=>
   simp only[hcc]at h⊢;exact dy0 h (λx hx=>hl x (by simp[Call.operands];right;simpa using hx)) ho
  |value f=>simp only[hcc]at h⊢;exact b92 h hl ho
  |invoke r m=>simp only[hcc]at h⊢;exact b92 h hl ho
 |_=>exact h.elim
end
end Go.F6
namespace Go.F6
open Go Go.RowKit
section
variable{H:iW}{T:Tab}{lk lk':Operand->SV}{obj E5:I5}{d:Option Nat}{ty:TypeId}{K:Z8}
theorem c86{d m:Nat}{obj E5:I5}(h:∀j,j<m->(E5 (sig d j)).1=(obj (sig d j)).1):
 qV E5 d m=qV obj d m/\LK E5 d m=LK obj d m/\∀(os:List (Nat×Nat×List (List CV)×Option (Nat×List CV)))(k:Nat),k+os.length<=m->pG E5 d m k os=pG obj d m k os:=by
 have hj:∀j,Nat.blt j m=true->j<m:=λj hb=>Nat.lt_of_succ_le (by simpa[Nat.blt]using hb);have h1:qV E5 d m=qV obj d m:=by
  funext c;cases c with
  |ow j=>simp only[qV];cases hb:Nat.blt j m with|false=>rfl|true=>simp only[H7,h j (hj j hb)]
  |_=>rfl
 refine⟨h1,?_,?_⟩
 .funext c;cases c with
  |ow j=>simp only[LK];cases hb:Nat.blt j m with|false=>rfl|true=>simp only[H7,h j (hj j hb)]
  |agg cs=>simp only[LK,h1]
  |_=>rfl
 .intro os;induction os with
  |nil=>intro k _;rfl
  |cons o r ih=>
   intro k hk;obtain⟨el,sz,ds,D8⟩:=o;simp only[pR]at hk;simp only[pG,h k (by omega),ih (k+1) (by omega)];cases D8 with
   |none=>rfl
   |some p=>obtain⟨q,cs⟩:=p;simp only[SN,h1]
theorem bK9(obj:I5)(d m:Nat):∀(os:List (Nat×Nat×List (List CV)×Option (Nat×List CV)))(k j:Nat),j<os.length->sig d (k+j)∈(pG obj d m k os).map (·.1)
 |[],_,_,h=>by simp at h
 |(el,sz,ds,D8)::r,k,0,_=>by simp[pG]
 |(el,sz,ds,D8)::r,k,j+1,h=>by
  have:=bK9 obj d m r (k+1) j (by simpa using h);rw[show k+1+j=k+(j+1)from by omega]at this;simp only[pG,kP,jT]
  grind
theorem dz9{c:Call}(h:BH T lk obj c d K):∃r rd u,(∀K':Z8,K' r rd u->BH T lk obj c d K')/\K r rd u:=by
 unfold BH at h⊢;split at h
 .split at h
  .split at h
   .replace h:=Q8 h;obtain⟨hb,h⟩:=h;simp only[hb,H7];split at h
    .grind
    .grind
    .split at h
     .replace h:=Q8 h;obtain⟨hb2,h1,h2,ds',h3,h4⟩:=h;simp only[hb2,H7];clear hb2;generalize Nat.beq _ _=q at h4⊢;cases q with
      |true=>grind
      |false=>grind
     .exact h.elim
    .grind
    .exact h.elim
   .exact h.elim
  .exact h.elim
 .exact h.elim
theorem ca5{op:Op}(h:Y6 H T lk obj d op K):∃r rd u,(∀K':Z8,K' r rd u->Y6 H T lk obj d op K')/\K r rd u:=by
 cases op with
 |load t x=>
  simp only[Y6]at h⊢;split at h
  .split at h
   .grind
   .grind
   .exact h.elim
  .exact h.elim
 |store t x y=>
  simp only[Y6]at h⊢;split at h
  .replace h:=Q8 h;obtain⟨hb,h⟩:=h;simp only[hb,H7];split at h
   .split at h
    .grind
    .grind
    .exact h.elim
   .split at h
    .replace h:=Q8 h;obtain⟨hb,cs,hcs,h⟩:=h
     grind
    .exact h.elim
   .exact h.elim
  .exact h.elim
 |nilCheck x=>
  simp only[Y6]at h⊢;split at h
  .grind
  .grind
  .exact h.elim
 |fieldAddr t x k=>
  simp only[Y6]at h⊢;split at h
  .split at h
   .split at h
    .rename_i i _;cases hz:Nat.beq i.size 0 with
     |true=>grind
     |false=>
      rw[hz]at h;simp only[G6]at h⊢;split at h
      .grind
      .grind
      .exact h.elim
    .exact h.elim
   .exact h.elim
  .exact h.elim
 |indexAddr t x i=>
  simp only[Y6]at h⊢;split at h
  .grind
  .exact h.elim
 |buildSlice t len ps=>
  simp only[Y6]at h⊢;split at h
  .grind
  .exact h.elim
 |call c=>
  obtain⟨callee,args,argTypes⟩:=c;have hcall:∀c:Call,vS H lk obj c d K->∃r rd u,(∀K':Z8,K' r rd u->vS H lk obj c d K')/\K r rd u:=by
   intro c h;unfold vS at h⊢;split at h
   .grind
   .exact h.elim
  cases callee with
  |value f=>simp only[Y6]at h⊢;exact hcall _ h
  |invoke r m=>simp only[Y6]at h⊢;exact hcall _ h
  |builtin b=>
   cases b with
   |len=>
    simp only[Y6]at h⊢;split at h
    .grind
    .exact h.elim
   |append=>exact dz9 h
   |_=>exact h.elim
 |_=>exact h.elim
theorem dA0{c:Call}(h:BH T lk obj c d K)(hl:∀x∈c.args.toList,lk' x=lk x)(ho:∀r rd wr,K r rd wr->∀s,(s∈rd\/s∈wr.map (·.1))->E5 s=obj s):BH T lk' E5 c d K:=by
 unfold BH at h⊢;split at h
 .rename_i x y d t1 t2 hargs aI6;rw[hl x (by rw[hargs];simp),hl y (by rw[hargs];simp)];split at h
  .rename_i e _ _ _ _ _ ht1;split at h
   .rename_i i hte;replace h:=Q8 h;obtain⟨hb,h⟩:=h
    try simp only[hargs,aI6,ht1,hte]
    simp only[hb,H7];split at h
    .split at h
     .obtain⟨h1,h2,h3⟩:=h;have hod:=ho _ _ _ h3 d (.inr (by simp))
      grind
     .exact h.elim
    .rename_i t g s g2 _ _;split at h
     .rename_i aH6 dL6;replace h:=Q8 h;obtain⟨hb2,h1,ds',h2,h3⟩:=h;have ht:=ho _ _ _ h3 t (.inl (by simp));have hs:=ho _ _ _ h3 s (.inl (by simp));have hod:=ho _ _ _ h3 d (.inr (by simp))
      grind
     .exact h.elim
    .rename_i t g _ _;split at h
     .rename_i aH6 hsl;replace h:=Q8 h;obtain⟨hb2,h1,h2,ds',h3,h4⟩:=h;have ht:E5 t=obj t:=by
       cases htd:Nat.beq t d with
       |true=>rw[htd]at h4;exact ho _ _ _ h4 t (.inl (by simp))
       |false=>rw[htd]at h4;exact ho _ _ _ h4 t (.inl (by simp))
      simp only[ht,aH6,hsl,hb2,H7];refine⟨h1,h2,ds',h3,?_⟩;cases htd:Nat.beq t d with
      |true=>grind
      |false=>
       rw[htd]at h4;simp only[G6]at h4⊢;rw[ho _ _ _ h4 d (.inr (by simp))];exact h4
     .exact h.elim
    .rename_i t g sz es _;split at h
     .rename_i aH6 hsl;replace h:=Q8 h;obtain⟨hb2,h1,h2,h3,h4⟩:=h;have ht:=ho _ _ _ h4 t (.inl (by simp));have hod:=ho _ _ _ h4 d (.inr (by simp))
      grind
     .exact h.elim
    .exact h.elim
   .exact h.elim
  .exact h.elim
 .exact h.elim
theorem ca6{c:Call}(h:vS H lk obj c d K)(hl:∀x∈c.operands,lk' x=lk x)(ho:∀r rd wr,K r rd wr->∀s,(s∈rd\/s∈wr.map (·.1))->E5 s=obj s):vS H lk' E5 c d K:=by
 have hc:callArgs lk' c=callArgs lk c:=by
  unfold callArgs;have hargs:c.args.toList.map lk'=c.args.toList.map lk:=List.map_congr_left λx hx=>hl x (by simp[Call.operands];right;simpa using hx);cases hcc:c.callee with
  |value f=>
   have hf:lk' f=lk f:=hl f (by simp[Call.operands,hcc])
   grind
  |invoke r m=>rfl
  |builtin b=>rfl
 unfold vS at h⊢;rw[hc];split at h
 .rename_i f args more d h1
  try simp only[h1]
  split at h
  .rename_i cs ts h2;replace h:=Q8 h;obtain⟨hb,r,os,hh,h⟩:=h;have htn:ts=[]:=by grind
   subst htn;rw[aE6 _ _ _ h2 (λt ht=>by simp at ht)];simp only[hb,H7];refine⟨r,os,hh,?_⟩;split at h
   .rename_i s PX;have hs:∀j,j<os.length->(E5 (sig d j)).1=(obj (sig d j)).1:=λj hj=>by
     have:=bK9 obj d os.length os 0 j hj;rw[V7]at this;rw[ho _ _ _ h _ (.inr this)]
    obtain⟨_,e1,e2⟩:=c86 hs;rw[e1,PX,e2 os 0 (by omega)];exact h
   .exact h.elim
  .exact h.elim
 .exact h.elim
theorem dz8{op:Op}(h:Y6 H T lk obj d op K)(hl:∀x∈op.operands,lk' x=lk x)(ho:∀r rd wr,K r rd wr->∀s,(s∈rd\/s∈wr.map (·.1))->E5 s=obj s):Y6 H T lk' E5 d op K:=by
 cases op with
 |load t x=>
  simp only[Y6]at h⊢;rw[hl x (by simp[Op.operands])];split at h
  .rename_i i h1
   try simp only
   split at h
   .rename_i s g off h2
    try simp only
    split at h
    .rename_i g' cs h3;replace h:=Q8 h;obtain⟨hb,h⟩:=h;split at h
     .rename_i c h4;rw[ho _ _ _ h s (.inl (by simp)),h3]
      grind
     .exact h.elim
    .exact h.elim
   .rename_i s g m off h2
    try simp only
    split at h
    .rename_i g' el sz ds D8 h3;replace h:=Q8 h;obtain⟨hb,cs,hcs,h⟩:=h;split at h
     .rename_i c h4;rw[ho _ _ _ h s (.inl (by simp)),h3]
      grind
     .exact h.elim
    .exact h.elim
   .exact h.elim
  .exact h.elim
 |store t x y=>
  simp only[Y6]at h⊢;rw[hl x (by simp[Op.operands]),hl y (by simp[Op.operands])];split at h
  .rename_i i ys h1 h2;replace h:=Q8 h;obtain⟨hb,h⟩:=h
   try simp only[h1,h2]
   simp only[hb,H7];split at h
   .rename_i s g off h3
    try simp only
    split at h
    .rename_i g' cs h4;replace h:=Q8 h;obtain⟨hb,h⟩:=h;split at h
     .rename_i cs' h5;rw[ho _ _ _ h s (.inl (by simp)),h4]
      grind
     .exact h.elim
    .rename_i g' cs h4;replace h:=Q8 h;obtain⟨hb,h⟩:=h;split at h
     .rename_i cs' h5;rw[ho _ _ _ h s (.inl (by simp)),h4]
      grind
     .exact h.elim
    .exact h.elim
   .rename_i s g m off h3
    try simp only
    split at h
    .rename_i g' el sz ds D8 h4;replace h:=Q8 h;obtain⟨hb,cs,hcs,h⟩:=h;split at h
     .rename_i cs' h5;obtain⟨ds',iM,hsc,h⟩:=h;rw[ho _ _ _ h s (.inl (by simp)),h4]
      grind
     .exact h.elim
    .exact h.elim
   .exact h.elim
  .exact h.elim
 |nilCheck x=>
  simp only[Y6]at h⊢;rw[hl x (by simp[Op.operands])];split at h
  .rename_i s g off h2
   try simp only
   split at h
   .rename_i g' cs h3;replace h:=Q8 h;rw[ho _ _ _ h.2 s (.inl (by simp)),h3]
    grind
   .exact h.elim
  .rename_i s g m off h2
   try simp only
   split at h
   .rename_i g' el sz ds D8 h3;replace h:=Q8 h;rw[ho _ _ _ h.2 s (.inl (by simp)),h3]
    grind
   .exact h.elim
  .exact h.elim
 |fieldAddr t x k=>
  simp only[Y6]at h⊢;rw[hl x (by simp[Op.operands])];split at h
  .rename_i fs _ _ _ _ _ h1
   try simp only
   split at h
   .rename_i f h2
    try simp only
    split at h
    .rename_i i h3
     try simp only
     cases hz:Nat.beq i.size 0 with
     |true=>grind
     |false=>
      rw[hz]at h;simp only[G6]at h⊢;split at h
      .rename_i s g off h4
       try simp only
       split at h
       .rename_i g' cs h5;replace h:=Q8 h;rw[ho _ _ _ h.2 s (.inl (by simp)),h5]
        grind
       .exact h.elim
      .rename_i s g m off h4
       try simp only
       split at h
       .rename_i g' el sz ds D8 h5;replace h:=Q8 h;rw[ho _ _ _ h.2 s (.inl (by simp)),h5]
        grind
       .exact h.elim
      .exact h.elim
    .exact h.elim
   .exact h.elim
  .exact h.elim
 |indexAddr t x i=>
  simp only[Y6]at h⊢;rw[hl x (by simp[Op.operands]),hl i (by simp[Op.operands])];split at h
  .rename_i e _ _ _ _ _ h1
   try simp only
   split at h
   .rename_i ti s g kd m h2 h3 h4
    try simp only[h2,h3,h4]
    split at h
    .rename_i g' el sz ds D8 h5;replace h:=Q8 h;obtain⟨hb,q1,q2,q3⟩:=h;rw[ho _ _ _ q3 s (.inl (by simp)),h5]
     grind
    .exact h.elim
   .exact h.elim
  .exact h.elim
 |buildSlice t len ps=>
  simp only[Y6]at h⊢;split at h
  .rename_i e _ _ _ _ _ h1;split at h
   .rename_i i d x h2 h3
    have hx:lk' x=lk x:=hl x (by
     simp only[Op.operands,List.mem_toArray,iV];exact⟨(0,x),by rw[h3];simp,rfl⟩)
    try simp only[h1,h2,h3]
    rw[hx];split at h
    .replace h:=Q8 h;obtain⟨hb,cs0,h⟩:=h;rw[hb,ho _ _ _ h d (.inr (by simp))]
     grind
    .exact h.elim
   .exact h.elim
  .exact h.elim
 |call c=>
  obtain⟨callee,args,argTypes⟩:=c;simp only[Op.operands]at hl;cases callee with
  |value f=>simp only[Y6]at h⊢;exact ca6 h hl ho
  |invoke r m=>simp only[Y6]at h⊢;exact ca6 h hl ho
  |builtin b=>
   cases b with
   |len=>
    simp only[Y6]at h⊢;split at h
    .rename_i x e _ _ _ _ _ h1 h2;have hx:lk' x=lk x:=hl x (by simp[Call.operands];rw[<-Array.mem_toList_iff,h1];simp)
     try simp only[h1,h2]
     rw[hx];split at h
     .rename_i s g h3;split at h
      .rename_i g' el sz ds D8 h4;replace h:=Q8 h;rw[ho _ _ _ h.2 s (.inl (by simp)),h4]
       grind
      .exact h.elim
     .exact h.elim
    .exact h.elim
   |append=>exact dA0 h (λx hx=>hl x (by simp[Call.operands];simpa using hx)) ho
   |_=>exact h.elim
 |_=>exact h.elim
theorem dz2{op:Op}(h:MX H T lk obj d op ty K)(hl:∀x∈op.operands,lk' x=lk x)(ho:∀r rd wr,K r rd wr->∀s,(s∈rd\/s∈wr.map (·.1))->E5 s=obj s):MX H T lk' E5 d op ty K:=by
 rcases ba4 op h with h|h
 .exact aw4 (λh=>h.elim) op (dz6 h hl ho)
 .exact ba8 op (dz8 h hl ho)
theorem bG4{τ:List (Nat×Nat)}{γ:Nat->Nat}:∀(l:List (Nat×Nat))(k:Nat),(∀p∈l,E5 p.1=obj p.1)->oV τ γ E5 k l=oV τ γ obj k l
 |[],_,_=>rfl
 |(t,g)::r,k,h=>by
  have h0:E5 t=obj t:=h (t,g) (by simp);simp only[oV,h0,bG4 r (k+1) λp hp=>h p (NR _ hp)]
theorem IE{d off:Nat}{τ:List (Nat×Nat)}{j:Nat}(h:E5 (U1 d off τ j)=obj (U1 d off τ j))(k:Nat):bW E5 d off τ j k=bW obj d off τ j k:=by
 unfold bW;unfold U1 at h
 grind
theorem map_eq{α β:Type}{f g:α->β}{p:α->Bool}{l:List α}(hl:l.all p=true)(hfg:∀x,p x=true->f x=g x):l.map f=l.map g:=by
 rw[List.map_inj_left]
 grind
section
variable{d off:Nat}{τ:List (Nat×Nat)}{m:Nat}(h:∀j,j<m->E5 (U1 d off τ j)=obj (U1 d off τ j))
include h
theorem bi1{c:CV}(hc:OG m c=true):CQ E5 d off τ c=CQ obj d off τ c:=by
 cases c<;>first|rfl|(simp only[CQ];rw[IE (h _ (dJ hc))])
theorem ag4{c:CV}(hc:oK m c=true):oJ E5 d off τ c=oJ obj d off τ c:=by
 by_cases hf:∃f caps,c=.fr f caps
 .obtain⟨f,caps,rfl⟩:=hf;simp only[oJ];rw[map_eq (p:=OG m) hc λx hx=>bi1 h hx]
 .have e1:oK m c=OG m c:=by cases c<;>first|rfl|exact absurd ⟨_,_,rfl⟩ hf
  have e2:∀o,oJ o d off τ c=CQ o d off τ c:=λo=>by cases c<;>first|rfl|exact absurd ⟨_,_,rfl⟩ hf
  rw[e1]at hc;rw[e2,e2];exact bi1 h hc
theorem bO7{s:SV}(hc:zX m s=true):qX E5 d off τ s=qX obj d off τ s:=by
 cases s with
 |aC cs=>simp only[qX];rw[map_eq (p:=oK m) hc λx hx=>ag4 h hx]
 |eF cs=>simp only[qX];rw[map_eq (p:=oK m) hc λx hx=>ag4 h hx]
 |rs j k=>simp only[qX];rw[IE (h _ (dJ hc))]
 |pm j k o=>simp only[qX];rw[IE (h _ (dJ hc))]
 |mr j k=>simp only[qX];rw[IE (h _ (dJ hc))]
 |pe j k n o=>simp only[qX];rw[IE (h _ (dJ hc))]
 |ap j k sz es=>simp only[qX];rw[IE (h _ (dJ hc))]
 |_=>rfl
theorem dc1{s:SV}(hc:lV m s=true):wZ E5 d off τ s=wZ obj d off τ s:=by
 by_cases hf:∃f caps,s=.Q7 f caps
 .obtain⟨f,caps,rfl⟩:=hf;simp only[wZ];rw[map_eq (p:=zX m) hc λx hx=>bO7 h hx]
 .have e1:lV m s=zX m s:=by cases s<;>first|rfl|exact absurd ⟨_,_,rfl⟩ hf
  have e2:∀o,wZ o d off τ s=qX o d off τ s:=λo=>by cases s<;>first|rfl|exact absurd ⟨_,_,rfl⟩ hf
  rw[e1]at hc;rw[e2,e2];exact bO7 h hc
theorem cY4{o:D9}(hc:EK m o=true):cZ E5 d off τ o=cZ obj d off τ o:=by
 cases o with
 |varx cs=>simp only[cZ];rw[map_eq (p:=oK m) hc λx hx=>ag4 h hx]
 |arr el sz ds D8=>
  cases D8 with
  |none=>rfl
  |some p=>obtain⟨k,cs⟩:=p;simp only[cZ];rw[map_eq (p:=oK m) hc λx hx=>ag4 h hx]
 |_=>rfl
theorem b59:∀(os:List (Nat×D9))(k:Nat),k+os.length<=m->os.all (λo=>EK m o.2)=true->aG E5 d off τ k os=aG obj d off τ k os
 |[],_,_,_=>rfl
 |(g,o)::r,k,hk,ha=>by
  simp only[List.all_cons,X3]at ha;simp only[pR]at hk;simp only[aG];rw[IE (h k (by omega)),cY4 h ha.1,b59 r (k+1) (by omega) ha.2]
end
theorem b60{iP bF3:I5}{d off:Nat}{τ:List (Nat×Nat)}:∀(os:List (Nat×D9))(k:Nat),(aG iP d off τ k os).map (·.1)=(aG bF3 d off τ k os).map (·.1)
 |[],_=>rfl
 |(_,_)::r,k=>by simp only[aG,kP];rw[b60 r (k+1)]
theorem dy8{op:Op}(h:FW H lk obj d op ty K)(hl:∀x∈op.operands,lk' x=lk x)(ho:∀r rd wr,K r rd wr->∀s,(s∈rd\/s∈wr.map (·.1))->E5 s=obj s):FW H lk' E5 d op ty K:=by
 obtain⟨τ,off,args,os,r,os',h1,h2,h3,h4,h5⟩:=h;have h4':=h4;simp only[X3]at h4';have hs:=ho _ _ _ h5;have hbk:∀j,j<os'.length->E5 (U1 (d.getD 0) off τ j)=obj (U1 (d.getD 0) off τ j):=λj hj=>by
  refine hs _ (.inr ?_);have:=MK (obj:=obj) (d:=d.getD 0) (off:=off) (τ:=τ) os' 0 j hj
  grind
 refine⟨τ,off,args,os,r,os',?_,?_,h3,?_,?_⟩
 .rw[<-h1];congr 1;rw[List.map_inj_left]
  grind
 .rw[<-h2];exact bG4 τ 0 λp hp=>hs p.1 (.inl (iV.2 ⟨p,hp,rfl⟩))
 .rw[b60 (bF3:=obj) os' 0];exact h4
 .rw[b59 (m:=os'.length) hbk os' 0 (by omega) h4'.2,dc1 (m:=os'.length) hbk h4'.1.2];exact h5
theorem dz4{op:Op}(h:FX H T lk obj d op ty K)(hl:∀x∈op.operands,lk' x=lk x)(ho:∀r rd wr,K r rd wr->∀s,(s∈rd\/s∈wr.map (·.1))->E5 s=obj s):FX H T lk' E5 d op ty K:=
 h.imp (λh=>dz2 h hl ho) (λh=>dy8 h hl ho)
end
end Go.F6
namespace Go.F6
open Go Go.RowKit
section
variable{P:Program}{G:World->Prop}{T:Tab}{Z0:Base}{w0:World}{S:Nat->Prop}{n:Nat}{Z Z':Zone}{E:Nat->Value}{st:St}{a:Act}{w w':World}
theorem Inv.know(hI:Inv G Z0 w0 S n Z E st a w){d:Nat}{r:SV}(hr:N7 Z w st.obj E r (a.tmps.getD d undef)):Inv G Z0 w0 S n Z E ⟨put st.env (some d) r,st.obj⟩ a w:=
 { hI with
   env:=λt=>by
    simp only[put];cases hb:Nat.beq d t with
    |false=>exact hI.env t
    |true=>have:=F8 hb;subst this;exact hr }
theorem bb7{ops:Array Oper}{j dj:Nat}(h:(ops[j]?).bind (·.dst)=some dj)(hv:a.tmps.getD dj undef=undef):yielded ops a.tmps j=none:=by
 unfold yielded;rw[h];simp only[G5];rw[aT]at hv;cases hx:a.tmps[dj]? with
 |none=>rfl
 |some x=>rw[hx]at hv;simp at hv;rw[hv];rfl
theorem aw9{ops:Array Oper}{j dj:Nat}{b:Bool}(h:(ops[j]?).bind (·.dst)=some dj)(hv:a.tmps.getD dj undef=.bool b):yielded ops a.tmps j=some b:=by
 have:a.tmps[dj]?=some (.bool b):=by
  rw[aT]at hv;cases hx:a.tmps[dj]? with
  |none=>rw[hx]at hv;simp[undef]at hv
  |some x=>grind
 simp[yielded,h,this]
end
end Go.F6
namespace Go.F6
open Go Go.RowKit
section
variable{H:iW}{T:Tab}{lk:Operand->SV}{obj:I5}{d:Option Nat}{ty:TypeId}{K:Z8}
theorem dx8{op:BinOp}{ib:Bool}{x y:Value}{K:Value->Prop}(h:iI op ib x y K):∃v,iI op ib x y (λv'=>v'=v)/\K v:=by
 unfold iI at h⊢;split at h
 .grind
 .grind
 .grind
 .grind
 .grind
 .grind
 .grind
 .grind
 .grind
 .exact h.elim
theorem dx9{op:BinOp}{ib:Bool}{x y:Value}{K K':Value->Prop}(h:iI op ib x y K)(hk:∀v,K v->K' v):iI op ib x y K':=by
 unfold iI at h⊢;split at h
 .grind
 .grind
 .grind
 .grind
 .grind
 .grind
 .grind
 .grind
 .grind
 .exact h.elim
theorem b97{op:Op}(h:wpOp H T lk obj (λ_=>False) d op ty K):∃r rd u,(∀K':Z8,K' r rd u->wpOp H T lk obj (λ_=>False) d op ty K')/\K r rd u:=by
 cases op with
 |move x=>exact⟨_,_,_,λ_ hk=>hk,h⟩
 |assign x=>
  simp only[wpOp]at h⊢;split at h
  .rename_i d;unfold UL at h⊢;split at h
   .grind
   .cases hs:lk x with
    |ap t g sz es=>
     simp only[hs]at h⊢;cases hob:obj t with
     |mk g' o=>
      simp only[hob]at h⊢;cases o with
      |tok el s=>grind
      |none=>grind
      |spent=>grind
      |var cs=>grind
      |ro cs=>grind
      |varx cs=>grind
      |arr el sz ds D8=>grind
      |map es=>grind
      |lp l R q=>grind
    |any=>grind
    |un=>grind
    |kt=>grind
    |kf=>grind
    |c x=>grind
    |pm t g o=>grind
    |Q7 f cs=>grind
    |rs t g=>grind
    |aC cs=>grind
    |eF cs=>grind
    |pe t g m o=>grind
    |mr t g=>grind
  .exact h.elim
 |pick c x y=>
  simp only[wpOp]at h⊢;split at h
  .grind
  .grind
  .rename_i q _;split at h
   .grind
   .grind
  .exact h.elim
 |alloc e=>
  simp only[wpOp]at h⊢
  grind
 |box e x=>
  simp only[wpOp]at h⊢
  grind
 |build t ps=>
  simp only[wpOp]at h⊢
  grind
 |buildSlice t len ps=>
  simp only[wpOp]at h⊢;split at h
  .grind
  .exact h.elim
 |load t x=>
  simp only[wpOp]at h⊢;split at h
  .split at h
   .split at h
    .grind
    .grind
    .exact h.elim
   .grind
   .exact h.elim
  .exact h.elim
 |store t x y=>
  simp only[wpOp]at h⊢;split at h
  .grind
  .exact h.elim
 |nilCheck x=>
  simp only[wpOp]at h⊢;split at h
  .grind
  .grind
  .grind
  .grind
  .exact h.elim
 |binOp op t x y t'=>
  simp only[wpOp]at h⊢;split at h
  .obtain⟨v,hv,hk⟩:=dx8 h;refine⟨_,_,_,λK' hk'=>?_,hk⟩;exact dx9 hv λv' e=>by grind
  .exact h.elim
 |unOp op t x=>
  cases op with
  |not=>
   simp only[wpOp]at h⊢
   grind
  |neg=>
   simp only[wpOp]at h⊢
   grind
  |_=>exact h.elim
 |convert s t x=>
  simp only[wpOp]at h⊢
  grind
 |makeFunc fn first captured=>
  cases fn with
  |func f=>
   simp only[wpOp]at h⊢
   grind
  |_=>exact h.elim
 |fieldAddr t x k=>
  simp only[wpOp]at h⊢;split at h
  .split at h
   .split at h
    .rename_i i _;cases hz:Nat.beq i.size 0 with
     |true=>grind
     |false=>
      rw[hz]at h;simp only[G6]at h⊢;split at h
      .grind
      .grind
      .exact h.elim
    .exact h.elim
   .exact h.elim
  .exact h.elim
 |field t x k=>
  simp only[wpOp]at h⊢;split at h
  .split at h
   .grind
   .exact h.elim
  .exact h.elim
 |indexAddr t x i=>
  simp only[wpOp]at h⊢
  grind
 |index t x i=>
  simp only[wpOp]at h⊢
  grind
 |extract x k=>
  simp only[wpOp]at h⊢
  grind
 |call c=>
  unfold wpOp at h⊢;have hcall:jH H lk obj (λ_=>False) c K->∃r rd u,(∀K':Z8,K' r rd u->jH H lk obj (λ_=>False) c K')/\K r rd u:=by
   intro h;unfold jH at h⊢
   grind
  cases hcc:c.callee with
  |builtin b=>
   simp only[hcc]at h⊢;unfold gJ at h⊢;split at h
   .grind
   .grind
   .grind
   .split at h
    .split at h
     .split at h
      .replace h:=Q8 h;obtain⟨hb,⟨h1,h2,es',he',h⟩|h⟩:=h
       rotate_left
       .exact h.elim
       simp only[hb,H7];clear hb;generalize Nat.beq _ _=q at h⊢;cases q with
       |true=>grind
       |false=>grind
      .exact h.elim
     .exact h.elim
    .exact h.elim
   .exact h.elim
  |value f=>grind
  |invoke r m=>grind
 |_=>exact h.elim
theorem ba3{op:Op}(h:FW H lk obj d op ty K):∃r rd u,(∀K':Z8,K' r rd u->FW H lk obj d op ty K')/\K r rd u:=by
 obtain⟨τ,off,args,os,r,os',h1,h2,h3,h4,h5⟩:=h;exact⟨_,_,_,λK' hk=>⟨τ,off,args,os,r,os',h1,h2,h3,h4,hk⟩,h5⟩
theorem dz1{op:Op}(h:MX H T lk obj d op ty K):∃r rd u,(∀K':Z8,K' r rd u->MX H T lk obj d op ty K')/\K r rd u:=by
 rcases ba4 op h with h|h
 .obtain⟨r,rd,u,h1,h2⟩:=b97 h;exact⟨r,rd,u,λK' hk=>aw4 (λh=>h.elim) op (h1 K' hk),h2⟩
 .obtain⟨r,rd,u,h1,h2⟩:=ca5 h;exact⟨r,rd,u,λK' hk=>ba8 op (h1 K' hk),h2⟩
theorem dz3{op:Op}(h:FX H T lk obj d op ty K):∃r rd u,(∀K':Z8,K' r rd u->FX H T lk obj d op ty K')/\K r rd u:=by
 rcases h with h|h
 .obtain⟨r,rd,u,h1,h2⟩:=dz1 h;exact⟨r,rd,u,λK' hk=>.inl (h1 K' hk),h2⟩
 .obtain⟨r,rd,u,h1,h2⟩:=ba3 h;exact⟨r,rd,u,λK' hk=>.inr (h1 K' hk),h2⟩
theorem b94{op:Op}{K':Z8}(h:UM H T lk obj d op ty K)(hk:∀r rd u,K r rd u->K' r rd u):UM H T lk obj d op ty K':=by
 rcases dz7 op h with h|⟨h,hp⟩
 .obtain⟨r,rd,u,h1,h2⟩:=b97 h;exact aw4 (λh=>h.elim) op (h1 K' (hk _ _ _ h2))
 .refine hp _ _ ?_;rcases h with h|h
  .obtain⟨r,rd,u,h1,h2⟩:=ca5 h
   grind
  .obtain⟨r,rd,u,h1,h2⟩:=ba3 h
   grind
theorem b96{op:Op}{K':Z8}(h:dS H T lk obj d op ty K)(hk:∀r rd u,K r rd u->K' r rd u):dS H T lk obj d op ty K':=by
 unfold dS at h⊢;cases hb:ai0 op with
 |true=>
  rw[hb]at h;exact h.imp (λh=>b94 h hk) λh=>by
   obtain⟨r,rd,u,h1,h2⟩:=ba3 h
   grind
 |false=>rw[hb]at h;exact b94 h hk
end
section
variable{P:Program}{G:World->Prop}{T:Tab}{Z0:Base}{w0:World}{S:Nat->Prop}{n:Nat}{Z Z':Zone}{E:Nat->Value}{st:St}{a:Act}{w w':World}
def Ref(r r':SV):Prop:=r'=r\/(r=.c (.v (.bool true))/\r'=.kt)\/(r=.c (.v (.bool false))/\r'=.kf)
theorem Ref.rep{obj:I5}{r r':SV}{x:Value}(h:Ref r r')(hr:N7 Z w obj E r x):N7 Z w obj E r' x:=by
 rcases h with rfl|⟨rfl,rfl⟩|⟨rfl,rfl⟩
 .exact hr
 .rw[kZ hr];exact .kt
 .rw[kZ hr];exact .kf
def oM(all:List Oper)(st:St)(o:Oper):Option Bool:=
 match o.guard with
 |.none=>some true
 |some (j,want)=>match(all[j]?).bind (·.dst)with
  |.none=>.none
  |some dj=>match st.env dj with
   |.kt=>some want
   |.kf=>some (!want)
   |.un=>some false
   |_=>.none
def xM(H:iW)(T:Tab)(n:Nat)(all:List Oper)(st:St)(o:Oper)(e:Z7):Prop:=
 inRange n o.dst=true/\match oM all st o with
  |some true=>FX H T (look st) st.obj o.dst o.op o.type λr rd u=>Ref r e.r/\rd=e.rd/\u=e.wr
  |some false=>e=⟨.un,[],[]⟩
  |.none=>False
end
end Go.F6
namespace Go.F6
open Go Go.RowKit
def X0(ops:List Oper)(tr:List Z7)(S:Nat->Bool)(st0:St):Nat->St
 |0=>st0
 |m+1=>match ops[m]?,tr[m]? with
  |some o,some e=>bif S m then dZ (X0 ops tr S st0 m) o e else X0 ops tr S st0 m
  |_,_=>X0 ops tr S st0 m
def xJ(ops:List Oper)(S:Nat->Bool):Prop:=∀k o e,ops[k]?=some o->S k=true->e∈o.after->Region.binds .any e=true->S e.on=true
section before
variable{ops:List Oper}
theorem bA0(acc:Array Nat)(i:Nat):∀(es:List Edge)(s:Nat),(es.foldl (λs e=>if Region.binds .any e then s ||| 2^e.on ||| acc.getD e.on 0 else s) s).testBit i=true->
 s.testBit i=true\/∃e∈es,Region.binds .any e=true/\(e.on=i\/(acc.getD e.on 0).testBit i=true)
 |[],s,h=>.inl h
 |e::es,s,h=>by
  simp only[List.foldl_cons]at h;rcases bA0 acc i es _ h with h1|⟨e',he',h2⟩
  .split at h1
   .grind
   .grind
  .grind
theorem bg4(S:Nat->Bool)(hS:xJ ops S):∀(l:List Oper)(acc:Array Nat),(∀j,l[j]?=ops[acc.size+j]?)->
 (∀k i,(acc.getD k 0).testBit i=true->S k=true->S i=true)->
 ∀k i,((l.foldl (λacc o=>acc.push (o.after.foldl (λs e=>if Region.binds .any e then s ||| 2^e.on ||| acc.getD e.on 0 else s) 0)) acc).getD k 0).testBit i=true->S k=true->S i=true
 |[],acc,_,h=>h
 |o::l,acc,hl,h=>by
  simp only[List.foldl_cons];refine bg4 S hS l _ (λj=>?_) ?_
  .have:=hl (j+1)
   grind
  .intro k i hb hk;rcases xY k acc.size with hlt|heq|hgt
   .rw[aT,Array.getElem?_push,F9 (by omega),<-aT]at hb
    grind
   .subst heq;rw[aT,Array.getElem?_push,I4 rfl]at hb;simp only[Option.getD_some]at hb;rw[<-xG]at hb;rcases bA0 acc i _ _ hb with h1|⟨e,he,hbi,h2⟩
    .simp at h1
    .have ho:ops[acc.size]?=some o:=by have:=hl 0;simpa using this.symm
     have hon:=hS _ o e ho hk (by simpa using he) hbi
     grind
   .grind
theorem af0{S:Nat->Bool}(hS:xJ ops S){k i:Nat}(h:((Region.before ops.toArray).getD k 0).testBit i=true)(hk:S k=true):S i=true:=by
 unfold Region.before at h;rw[<-xG]at h;exact bg4 S hS ops #[] (λj=>by simp) (λk i hb _=>by simp at hb) k i h hk
end before
theorem bN4(ops:Array Oper)(mask:Nat)(ok:Oper)(ek:Z7):∀(l:List (Oper×Z7))(i0:Nat),YL ops mask ok ek i0 l=true->∀j oi ei,l[j]?=some (oi,ei)->mask.testBit (i0+j)=true\/tV ops oi ok ei ek=true
 |[],_,_,j,oi,ei,h=>by simp at h
 |(o,e)::l,i0,h,j,oi,ei,hj=>by
  simp only[YL]at h;cases hb:(mask.testBit i0 || tV ops o ok e ek)with
  |false=>grind
  |true=>
   rw[hb]at h;simp only[H7]at h;cases j with
   |zero=>grind
   |succ j=>
    have:=bN4 ops mask ok ek l (i0+1) h j oi ei (by simpa using hj)
    rwa [show i0+1+j=i0+(j+1)from by omega]at this
theorem bp8(ops:Array Oper):∀(l done:List (Oper×Z7))(ms:List Nat),YK ops ms done l=true->∀j ok ek,l[j]?=some (ok,ek)->∀i oi ei,i<done.length+j->(done++l)[i]?=some (oi,ei)->
 (ms.getD j 0).testBit i=true\/tV ops oi ok ei ek=true
 |[],_,_,_,j,_,_,h=>by simp at h
 |(o,e)::l,done,ms,h,j,ok,ek,hj=>by
  cases ms with
  |nil=>simp[YK]at h
  |cons m ms=>
   simp only[YK]at h;cases hb:YL ops m o e 0 done with
   |false=>grind
   |true=>
    rw[hb]at h;simp only[H7]at h;intro i oi ei hi hd;cases j with
    |zero=>
     simp at hj;obtain⟨rfl,rfl⟩:=hj;rw[bV (by omega)]at hd;have:=bN4 ops m o e done 0 hb i oi ei hd
     grind
    |succ j=>
     have:=bp8 ops l (done++[(o,e)]) ms h j ok ek (by simpa using hj) i oi ei (by simp;omega) (by simpa using hd)
     grind
theorem OQ{ops:List Oper}{tr:List Z7}(h:KP ops tr=true){i k:Nat}{oi ok:Oper}{ei ek:Z7}(hik:i<k)(hoi:ops[i]?=some oi)(hok:ops[k]?=some ok)(lN:tr[i]?=some ei)(hek:tr[k]?=some ek):
 ((Region.before ops.toArray).getD k 0).testBit i=true\/tV ops.toArray oi ok ei ek=true:=by
 unfold KP at h;simp only[X3]at h;have hz:∀j o e,ops[j]?=some o->tr[j]?=some e->(ops.zip tr)[j]?=some (o,e):=λj o e h1 h2=>by rw[List.getElem?_zip_eq_some];exact⟨h1,h2⟩
 have:=bp8 ops.toArray (ops.zip tr) [] _ h.1 k ok ek (hz k ok ek hok hek) i oi ei (by simpa using hik) (by simpa using hz i oi ei hoi lN);rw[NQ,jS,<-aT]at this;exact this
theorem YF(x:Nat):∀(l:List Nat),QG x l=true↔x∈l
 |[]=>by simp[QG]
 |y::r=>by
  simp only[QG,jT];cases hb:Nat.beq x y with
  |true=>have:=F8 hb;simp[this]
  |false=>
   have hne:x≠y:=λe=>by subst e;simp at hb
   simp only[G6,YF x r,hne,false_or]
theorem VQ:∀(l m:List Nat),VP l m=true->∀x∈l,x∉m
 |[],_,_,x,hx=>by simp at hx
 |y::r,m,h,x,hx=>by
  simp only[VP]at h;cases hb:QG y m with
  |true=>grind
  |false=>
   rw[hb]at h;simp only[G6]at h;simp only[jT]at hx;rcases hx with rfl|hx
   .intro hm;rw[<-YF]at hm;rw[hm]at hb;cases hb
   .exact VQ r m h x hx
section
variable{ops:List Oper}{tr:List Z7}{st0:St}{S:Nat->Bool}
theorem MQ(obj:I5):∀(u:BZ)(s:Nat),s∉u.map (·.1)->upd obj u s=obj s
 |[],_,_=>rfl
 |(k,x)::r,s,h=>by
  simp only[kP,jT,not_or]at h;simp only[upd];cases hb:Nat.beq k s with
  |true=>exact absurd (F8 hb).symm h.1
  |false=>exact MQ obj r s h.2
theorem av7(obj E5:I5):∀(u:BZ)(s:Nat),s∈u.map (·.1)->upd obj u s=upd E5 u s
 |[],_,h=>by simp at h
 |(k,x)::r,s,h=>by
  simp only[upd];cases hb:Nat.beq k s with
  |true=>rfl
  |false=>
   simp only[kP,jT]at h;rcases h with rfl|h
   .simp at hb
   .exact av7 obj E5 r s h
theorem LH(env:Nat->SV){d:Option Nat}(r:SV){t:Nat}(h:d≠some t):put env d r t=env t:=by
 cases d with
 |none=>rfl
 |some d=>
  simp only[put];cases hb:Nat.beq d t with
  |true=>exact absurd (by rw[F8 hb]) h
  |false=>rfl
theorem put_eq(env:Nat->SV)(r:SV)(t:Nat):put env (some t) r t=r:=by simp[put]
theorem b80{S S':Nat->Bool}{t:Nat}:∀(m:Nat),(∀k o,k<m->ops[k]?=some o->o.dst=some t->S k=S' k)->(X0 ops tr S st0 m).env t=(X0 ops tr S' st0 m).env t
 |0,_=>rfl
 |m+1,h=>by
  have ih:=b80 m (λk o hk ho hd=>h k o (by omega) ho hd);simp only[X0];cases ho:ops[m]? with
  |none=>exact ih
  |some o=>
   cases he:tr[m]? with
   |none=>exact ih
   |some e=>
    simp only;by_cases hd:o.dst=some t
    .rw[h m o (by omega) ho hd];cases S' m with
     |true=>simp only[H7,dZ,hd,put_eq]
     |false=>exact ih
    .have h1:∀st:St,(dZ st o e).env t=st.env t:=λst=>LH _ _ hd
     grind
theorem b81{S S':Nat->Bool}{s:Nat}:∀(m:Nat),(∀k e,k<m->tr[k]?=some e->s∈e.sites->S k=S' k)->(X0 ops tr S st0 m).obj s=(X0 ops tr S' st0 m).obj s
 |0,_=>rfl
 |m+1,h=>by
  have ih:=b81 m (λk e hk he hs=>h k e (by omega) he hs);simp only[X0];cases ho:ops[m]? with
  |none=>exact ih
  |some o=>
   cases he:tr[m]? with
   |none=>exact ih
   |some e=>
    simp only;by_cases hs:s∈e.sites
    .rw[h m e (by omega) he hs];cases S' m with
     |true=>simp only[H7,dZ];exact av7 _ _ _ _ hs
     |false=>exact ih
    .have h1:∀st:St,(dZ st o e).obj s=st.obj s:=λst=>MQ _ _ _ hs
     grind
theorem b79(i:Nat):∀(m:Nat),i<=m->X0 ops tr (λk=>decide (k<i)) st0 m=X0 ops tr (λ_=>true) st0 i:=by
 intro m hm;induction m with
 |zero=>have:i=0:=by omega
        subst this;rfl
 |succ m ih=>
  by_cases h:i=m+1
  .subst h;have:∀q,q<=m+1->X0 ops tr (λk=>decide (k<m+1)) st0 q=X0 ops tr (λ_=>true) st0 q:=by
    intro q;induction q with
    |zero=>intro _;rfl
    |succ q ihq=>
     intro hq;simp only[X0,ihq (by omega)]
     grind
   grind
  .rw[<-ih (by omega)];simp only[X0]
   grind
end
section
variable{P:Program}{G:World->Prop}{T:Tab}{Z0:Base}{w0:World}{S:Nat->Prop}{n:Nat}{ops:List Oper}{tr:List Z7}{st0:St}
theorem bz5{x:Operand}{o:Oper}{t:Nat}(h:x∈o.op.operands)(hx:x=.tmp t):t∈o.looksAt ops.toArray:=by
 unfold Oper.looksAt;rw[iU];left;rw[List.mem_filterMap];exact⟨x,by simpa using h,by rw[hx]⟩
theorem bz4{o:Oper}{j:Nat}{want:Bool}{dj:Nat}(hg:o.guard=some (j,want))(hd:(ops[j]?).bind (·.dst)=some dj):dj∈o.looksAt ops.toArray:=by
 unfold Oper.looksAt
 grind
theorem agree(hlen:tr.length=ops.length)(hc:KP ops tr=true){S:Nat->Bool}(hS:xJ ops S){i:Nat}{o:Oper}{e:Z7}(hoi:ops[i]?=some o)(lN:tr[i]?=some e)(hi:S i=false)
 (aI1:∀ed∈o.after,Region.binds .any ed=true->S ed.on=true):
 (∀t,t∈o.looksAt ops.toArray->(X0 ops tr S st0 ops.length).env t=(X0 ops tr (λ_=>true) st0 i).env t)/\
 (∀s,(s∈e.rd\/s∈e.sites)->(X0 ops tr S st0 ops.length).obj s=(X0 ops tr (λ_=>true) st0 i).obj s)/\
 (∀k ok ek,i<k->ops[k]?=some ok->tr[k]?=some ek->S k=true->ok.dst=none\/ok.dst≠o.dst)/\
 (∀k ek s,i<k->tr[k]?=some ek->S k=true->s∈e.sites->s∉ek.sites):=by
 have hlt:i<ops.length:=(O4.1 hoi).1;have hS':xJ ops (λk=>S k || decide (k=i)):=by
  intro k o' ed ho' hk hed hb;simp only[Bool.or_eq_true,yJ]at hk⊢;rcases hk with hk|rfl
  .exact .inl (hS k o' ed ho' hk hed hb)
  .grind
 have before:∀k,k<i->((Region.before ops.toArray).getD i 0).testBit k=true->S k=true:=by
  intro k hk hb;have:=af0 hS' hb (by simp)
  grind
 have behind:∀k,((Region.before ops.toArray).getD k 0).testBit i=true->S k=false:=by
  intro k hb;cases hk:S k with
  |false=>rfl
  |true=>have:=af0 hS hb hk;rw[hi]at this;cases this
 have get:∀k ok,ops[k]?=some ok->∃ek,tr[k]?=some ek:=λk ok hk=>by
  have:k<tr.length:=by rw[hlen];exact(O4.1 hk).1
  exact⟨_,I9 this⟩
 have get':∀k ek,tr[k]?=some ek->∃ok,ops[k]?=some ok:=λk ek hk=>by
  have:k<ops.length:=by rw[<-hlen];exact(O4.1 hk).1
  exact⟨_,I9 this⟩
 refine⟨λt ht=>?_,λs hs=>?_,?_,?_⟩
 .rw[<-b79 i ops.length (by omega)];refine b80 _ λk ok hk hok hd=>?_;obtain⟨ek,hek⟩:=get k ok hok;rcases xY k i with hlt'|heq|hgt
  .simp only[hlt',nG];rcases OQ hc hlt' hok hoi hek lN with h|h
   .grind
   .simp only[tV,X3]at h;exact absurd ht ((Oper.apart_spec h.1.1).1 t hd)
  .grind
  .have:decide (k<i)=false:=by simp;omega
   rw[this];rcases OQ hc hgt hoi hok lN hek with h|h
   .grind
   .simp only[tV,X3]at h;exact absurd ht ((Oper.apart_spec h.1.1).2.2 t hd)
 .rw[<-b79 i ops.length (by omega)];refine b81 _ λk ek hk hek hsk=>?_;obtain⟨ok,hok⟩:=get' k ek hek;rcases xY k i with hlt'|heq|hgt
  .simp only[hlt',nG];rcases OQ hc hlt' hok hoi hek lN with h|h
   .grind
   .simp only[tV,X3]at h;have:=VQ _ _ h.1.2 s hsk
    grind
  .grind
  .have:decide (k<i)=false:=by simp;omega
   rw[this];rcases OQ hc hgt hoi hok lN hek with h|h
   .grind
   .simp only[tV,X3]at h;rcases hs with hs|hs
    .exact absurd hs (VQ _ _ h.2 s hsk)
    .have:=VQ _ _ h.1.2 s hs
     grind
 .intro k ok ek hgt hok hek hk;rcases OQ hc hgt hoi hok lN hek with h|h
  .grind
  .simp only[tV,X3]at h;cases hd:ok.dst with
   |none=>grind
   |some d=>exact .inr λe=>(Oper.apart_spec h.1.1).2.1 d e.symm hd
 .intro k ek s hgt hek hk hs hsk;obtain⟨ok,hok⟩:=get' k ek hek;rcases OQ hc hgt hoi hok lN hek with h|h
  .grind
  .simp only[tV,X3]at h;have:=VQ _ _ h.1.2 s hs
   grind
theorem up_add{S:Nat->Bool}{i:Nat}{o:Oper}{e:Z7}(hoi:ops[i]?=some o)(lN:tr[i]?=some e)(hi:S i=false)
 (h3:∀k ok ek,i<k->ops[k]?=some ok->tr[k]?=some ek->S k=true->ok.dst=none\/ok.dst≠o.dst)
 (h4:∀k ek s,i<k->tr[k]?=some ek->S k=true->s∈e.sites->s∉ek.sites):∀m,i<m->
 X0 ops tr (λk=>S k || decide (k=i)) st0 m=dZ (X0 ops tr S st0 m) o e:=by
 have low:∀m,m<=i->X0 ops tr (λk=>S k || decide (k=i)) st0 m=X0 ops tr S st0 m:=by
  intro m;induction m with
  |zero=>intro _;rfl
  |succ m ih=>
   intro hm;simp only[X0,ih (by omega)]
   grind
 intro m;induction m with
 |zero=>grind
 |succ m ih=>
  intro hm;by_cases JX:m=i
  .subst JX;simp only[X0,hoi,lN,low m (J6 _),hi,Bool.false_or,nG,H7,G6]
  .have ih:=ih (by omega);have hd:decide (m=i)=false:=by simp;omega
   simp only[X0,ih,hd,Bool.or_false];cases hom:ops[m]? with
   |none=>rfl
   |some om=>
    cases hem:tr[m]? with
    |none=>rfl
    |some em=>
     simp only;cases hsm:S m with
     |false=>rfl
     |true=>
      simp only[H7];have g3:=h3 m om em (by omega) hom hem hsm;have g4:=λs=>h4 m em s (by omega) hem hsm;unfold dZ;congr 1
      .funext t;dsimp only;by_cases h1:om.dst=some t
       .have h2:o.dst≠some t:=λe=>by
         grind
        rw[LH _ _ h2,h1,put_eq,put_eq]
       .rw[LH _ _ h1];by_cases h2:o.dst=some t
        .rw[h2,put_eq,put_eq]
        .rw[LH _ _ h2,LH _ _ h2,LH _ _ h1]
      .funext s;dsimp only;by_cases h1:s∈em.sites
       .have h2:s∉e.sites:=λh=>g4 s h h1;rw[MQ _ e.wr s h2];exact av7 _ _ _ _ h1
       .rw[MQ _ em.wr s h1];by_cases h2:s∈e.sites
        .exact av7 _ _ _ _ h2
        .rw[MQ _ e.wr s h2,MQ _ e.wr s h2,MQ _ em.wr s h1]
theorem cx2{H:iW}{st st':St}{o:Oper}{e:Z7}(h:xM H T n ops st o e)(henv:∀t,t∈o.looksAt ops.toArray->st'.env t=st.env t)
 (jB:∀s,(s∈e.rd\/s∈e.sites)->st'.obj s=st.obj s):xM H T n ops st' o e:=by
 obtain⟨h1,h2⟩:=h;refine⟨h1,?_⟩;have hg:oM ops st' o=oM ops st o:=by
  unfold oM;cases hgd:o.guard with
  |none=>rfl
  |some jw=>
   obtain⟨j,want⟩:=jw;simp only;cases hd:(ops[j]?).bind (·.dst)with
   |none=>rfl
   |some dj=>simp only;rw[henv dj (bz4 hgd hd)]
 rw[hg];split at h2
 .refine dz4 h2 (λx hx=>?_) (λr rd u hk s hs=>?_)
  .cases x with
   |tmp t=>exact henv t (bz5 hx rfl)
   |const v=>rfl
   |global g=>rfl
   |func f=>rfl
  .obtain⟨_,rfl,rfl⟩:=hk;exact jB s hs
 .exact h2
 .grind
theorem cx3(hT:X9 P T){Z:Zone}{E:Nat->Value}{st:St}{a:Act}{w:World}{Q:Exit->Act->World->Prop}{next:Act->World->Prop}{i:Nat}{o:Oper}{e:Z7}(hI:Inv G Z0 w0 S n Z E st a w)(hoi:ops[i]?=some o)(h:xM (gX P G) T n ops st o e)
 (hn:∀Z' E' a' w',Inv G Z0 w0 S n Z' E' (dZ st o e) a' w'->next a' w') {ρ:Option Nat}:Go.wpOpIn (dG ρ) 0 P ops.toArray Q i next a w:=by
 obtain⟨hd,h⟩:=h;unfold Go.wpOpIn;have hoi':ops.toArray[i]?=some o:=by grind
 simp only[hoi'];have gs:∀b,oM ops st o=some b->Region.wanted o (yielded ops.toArray a.tmps)=b:=by
  intro b hb;unfold oM at hb;cases hgd:o.guard with
  |none=>rw[hgd]at hb;simp at hb;subst hb;simp[Region.wanted,hgd]
  |some jw=>
   obtain⟨j,want⟩:=jw;rw[hgd]at hb;simp only at hb;cases hdj:(ops[j]?).bind (·.dst)with
   |none=>grind
   |some dj=>
    rw[hdj]at hb;simp only at hb;have PV:(ops.toArray[j]?).bind (·.dst)=some dj:=by grind
    have henv:=hI.env dj;split at hb
    .rename_i he;rw[he]at henv;have hv:a.tmps.getD dj undef=.bool true:=by generalize a.tmps.getD dj undef=y at henv;cases henv;rfl
     simp only[Z9]at hb;subst hb;simp only[Region.wanted,hgd,aw9 PV hv];cases want<;>rfl
    .rename_i he;rw[he]at henv;have hv:a.tmps.getD dj undef=.bool false:=by generalize a.tmps.getD dj undef=y at henv;cases henv;rfl
     simp only[Z9]at hb;subst hb;simp only[Region.wanted,hgd,aw9 PV hv]
     grind
    .rename_i he;rw[he]at henv;have hv:a.tmps.getD dj undef=undef:=by generalize a.tmps.getD dj undef=y at henv;cases henv;rfl
     simp only[Z9]at hb;subst hb;simp[Region.wanted,hgd,bb7 PV hv]
    .cases hb
 split at h
 .rename_i hg;rw[I4 (gs _ hg)];refine(cY7 hT o Z0 w0 S n Z E st a w _ _ _ hI hd h λr rd u Z' E' x w' hk hI'=>?_) ρ;obtain⟨href,rfl,rfl⟩:=hk;refine hn Z' E' _ w' ?_;have:∀t,N7 Z' w' (upd st.obj e.wr) E' (put st.env o.dst e.r t) ((a.put o.dst x).tmps.getD t undef):=λt=>by
   have ht:=hI'.env t;dsimp only at ht;cases hdst:o.dst with
   |none=>rw[hdst]at ht;exact ht
   |some d=>
    rw[hdst]at ht;by_cases htd:d=t
    .subst htd;rw[put_eq]at ht⊢;exact href.rep ht
    .have hne:some d≠some t:=λh=>htd (iE h);rw[LH _ _ hne]at ht⊢;exact ht
  exact{ hI' with env:=this }
 .rename_i hg;rw[F9 (by rw[gs _ hg];simp)];subst h;exact⟨λ_ _=>trivial,hn Z E _ w (hI.value (x:=undef) hd .un)⟩
 .exact h.elim
theorem ct5(hT:X9 P T){ρ:Option Nat}{Q:Exit->Act->World->Prop}(hlen:tr.length=ops.length)(hc:KP ops tr=true)
 (hE:∀i o e,ops[i]?=some o->tr[i]?=some e->xM (gX P G) T n ops (X0 ops tr (λ_=>true) st0 i) o e)
 (hQ:∀Z' E' a' w',Inv G Z0 w0 S n Z' E' (X0 ops tr (λ_=>true) st0 ops.length) a' w'->Q .normal a' w'):
 ∀(fuel:Nat)(listed:Array Bool)(Z:Zone)(E:Nat->Value)(a:Act)(w:World),listed.size=ops.length->xJ ops (λk=>listed.getD k false)->
  (listed.toList.filter (!·)).length<=fuel->Inv G Z0 w0 S n Z E (X0 ops tr (λk=>listed.getD k false) st0 ops.length) a w->wpAnyIn (dG ρ) 0 P .any ops.toArray Q fuel listed a w:=by
 have cF3:yL 0 ops=true:=by unfold KP at hc;simp only[X3]at hc;exact hc.2
 have edge:∀(l:List Oper)(i0:Nat),yL i0 l=true->∀j o,l[j]?=some o->∀e∈o.after,Region.binds .any e=true->e.on<i0+j:=by
  intro l;induction l with
  |nil=>grind
  |cons x l ih=>
   intro i0 h j o hj e he hb;simp only[yL]at h;cases hx:(x.after.all λe=> !Region.binds .any e || Nat.blt e.on i0)with
   |false=>grind
   |true=>
    rw[hx]at h;simp only[H7]at h;cases j with
    |zero=>
     simp at hj;subst hj;rw[Array.all_eq_true']at hx;have:=hx e he;simp only[hb,fC,Bool.false_or]at this;have h2:e.on<i0:=Nat.lt_of_succ_le (by simpa[Nat.blt]using this);omega
    |succ j=>grind
 have done:∀(listed:Array Bool),listed.size=ops.length->Region.ready .any ops.toArray listed=[]->∀k,k<ops.length->listed.getD k false=true:=by
  intro listed hsz hr k;induction k using Nat.strongRecOn with
  |_ k ih=>
   intro hk;cases hl:listed.getD k false with
   |true=>rfl
   |false=>
    exfalso;have ho:ops[k]?=some (ops[k]'hk):=I9 hk;have:k∈Region.ready .any ops.toArray listed:=by
     rw[mem_ready]
     grind
    grind
 have full:∀(listed:Array Bool),listed.size=ops.length->(∀k,k<ops.length->listed.getD k false=true)->X0 ops tr (λk=>listed.getD k false) st0 ops.length=X0 ops tr (λ_=>true) st0 ops.length:=by
  intro listed hsz hall;have:∀m,m<=ops.length->X0 ops tr (λk=>listed.getD k false) st0 m=X0 ops tr (λ_=>true) st0 m:=by
   intro m;induction m with
   |zero=>intro _;rfl
   |succ m ih=>intro hm;simp only[X0,ih (by omega),hall m (by omega)]
  grind
 have stop:∀(listed:Array Bool)(Z:Zone)(E:Nat->Value)(a:Act)(w:World),listed.size=ops.length->Region.ready .any ops.toArray listed=[]->Inv G Z0 w0 S n Z E (X0 ops tr (λk=>listed.getD k false) st0 ops.length) a w->Q .normal a w:=by grind
 intro fuel;induction fuel with
 |zero=>
  intro listed Z E a w hsz hcl hf hI;have hr:Region.ready .any ops.toArray listed=[]:=by
   rw[List.eq_nil_iff_forall_not_mem];intro k hk;rw[mem_ready]at hk;obtain⟨h1,o,ho,_⟩:=hk;have hltk:∀{o:Oper},ops.toArray[k]?=some o->k<ops.length:=λh=>by grind
   have hlt:k<listed.size:=by grind
   have hmem:(false:Bool)∈listed.toList.filter (!·):=by
    rw[List.mem_filter];refine⟨?_,rfl⟩;rw[aT,mW hlt]at h1
    grind
   grind
  exact⟨hr,stop listed Z E a w hsz hr hI⟩
 |succ fuel ih=>
  intro listed Z E a w hsz hcl hf hI;refine⟨λhr=>stop listed Z E a w hsz hr hI,λi hi=>?_⟩;rw[mem_ready]at hi;obtain⟨h1,o,ho,hall⟩:=hi;have hoi:ops[i]?=some o:=by grind
  have hlt:i<ops.length:=(O4.1 hoi).1;have lN:tr[i]?=some (tr[i]'(by omega)):=I9 (by omega);have hi0:listed.getD i false=false:=by grind
  obtain⟨a1,a2,a3,a4⟩:=agree (st0:=st0) hlen hc hcl hoi lN hi0 (λed hed hb=>hall ed hed hb);have hent:=cx2 (hE i o _ hoi lN) a1 a2;refine cx3 hT hI hoi hent λZ' E' a' w' hI'=>?_;have hfun:(λk=>(listed.setIfInBounds i true).getD k false)=(λk=>listed.getD k false || decide (k=i)):=by
   funext k;by_cases hk:k=i
   .subst hk;simp[aT,hsz,hlt]
   .rw[aT,bc4 (by omega),<-aT];simp[hk]
  refine ih (listed.setIfInBounds i true) Z' E' a' w' (by simpa using hsz) ?_ ?_ ?_
  .rw[hfun];intro k o' ed ho' hk hed hb;simp only[Bool.or_eq_true,yJ]at hk⊢;rcases hk with hk|rfl
   .exact .inl (hcl k o' ed ho' hk hed hb)
   .grind
  .have hset:∀(l:List Bool)(j:Nat),l[j]?=some false->((l.set j true).filter (!·)).length+1=(l.filter (!·)).length:=by
    intro l;induction l with
    |nil=>grind
    |cons b l ihl=>
     intro j h;cases j with
     |zero=>grind
     |succ j=>grind
   have:=hset listed.toList i (by
    rw[jS,mW (by omega)];rw[aT,mW (by omega)]at hi0
    simpa using hi0)
   grind
  .rw[hfun,up_add hoi lN hi0 a3 a4 ops.length hlt];exact hI'
theorem c78{g:Bool}{r:SV}{K:SV->Prop}(h:pF g r K):∃r',Ref r r'/\K r':=by
 unfold pF at h;cases g with
 |false=>exact⟨r,.inl rfl,h⟩
 |true=>
  simp only[H7]at h;split at h
  .rename_i b;cases b with
   |true=>exact⟨.kt,.inr (.inl ⟨rfl,rfl⟩),h.1 rfl⟩
   |false=>exact⟨.kf,.inr (.inr ⟨rfl,rfl⟩),h.2 rfl⟩
  .exact⟨r,.inl rfl,h⟩
theorem b99{H:iW}(all:List Oper){K:List Z7->St->Prop}:∀(rest:List Oper)(i:Nat)(st:St)(acc:List Z7),kJ H T n all i rest st acc K->
 ∃es:List Z7,es.length=rest.length/\(∀j o e,rest[j]?=some o->es[j]?=some e->xM H T n all (X0 rest es (λ_=>true) st j) o e)/\K (acc.reverse++es) (X0 rest es (λ_=>true) st rest.length)
 |[],i,st,acc,h=>⟨[],rfl,λj o e h=>by simp at h,by simpa[kJ,X0]using h⟩
 |o::rest,i,st,acc,h=>by
  simp only[kJ]at h;replace h:=Q8 h;obtain⟨hd,h⟩:=h;have shift:∀(e:Z7)(es:List Z7)(m:Nat),X0 (o::rest) (e::es) (λ_=>true) st (m+1)=X0 rest es (λ_=>true) (dZ st o e) m:=by
   intro e es m;induction m with
   |zero=>simp[X0]
   |succ m ih=>
    have h1:X0 (o::rest) (e::es) (λ_=>true) st (m+1+1)=match(o::rest)[m+1]?,(e::es)[m+1]? with
     |some o',some e'=>bif true then dZ (X0 (o::rest) (e::es) (λ_=>true) st (m+1)) o' e' else X0 (o::rest) (e::es) (λ_=>true) st (m+1)
     |_,_=>X0 (o::rest) (e::es) (λ_=>true) st (m+1):=rfl
    rw[h1,ih];simp only[List.getElem?_cons_succ];rfl
  have fin:∀(e:Z7),xM H T n all st o e->kJ H T n all (i+1) rest (dZ st o e) (e::acc) K->
   ∃es:List Z7,es.length=(o::rest).length/\(∀j o' e',(o::rest)[j]?=some o'->es[j]?=some e'->xM H T n all (X0 (o::rest) es (λ_=>true) st j) o' e')/\K (acc.reverse++es) (X0 (o::rest) es (λ_=>true) st (o::rest).length):=by
   intro e he hr;obtain⟨es,h1,h2,h3⟩:=b99 all rest (i+1) (dZ st o e) (e::acc) hr;refine⟨e::es,by simp[h1],λj o' e' hj hje=>?_,?_⟩
   .cases j with
    |zero=>simp at hj hje;subst hj;subst hje;exact he
    |succ j=>grind
   .grind
  have exec:oM all st o=some true->(dS H T (look st) st.obj o.dst o.op o.type λr rd u=>pF (zD all i) r λr=>kJ H T n all (i+1) rest (dZ st o ⟨r,rd,u⟩) (⟨r,rd,u⟩::acc) K)->
   ∃es:List Z7,es.length=(o::rest).length/\(∀j o' e',(o::rest)[j]?=some o'->es[j]?=some e'->xM H T n all (X0 (o::rest) es (λ_=>true) st j) o' e')/\K (acc.reverse++es) (X0 (o::rest) es (λ_=>true) st (o::rest).length):=by
   intro hg h;obtain⟨r,rd,u,hall,hk⟩:=dz3 (dz5 h);obtain⟨r',href,hk'⟩:=c78 hk;exact fin ⟨r',rd,u⟩ ⟨hd,by rw[hg];exact hall _ ⟨href,rfl,rfl⟩⟩ hk'
  have pass:oM all st o=some false->kJ H T n all (i+1) rest (dZ st o ⟨.un,[],[]⟩) (⟨.un,[],[]⟩::acc) K->
   ∃es:List Z7,es.length=(o::rest).length/\(∀j o' e',(o::rest)[j]?=some o'->es[j]?=some e'->xM H T n all (X0 (o::rest) es (λ_=>true) st j) o' e')/\K (acc.reverse++es) (X0 (o::rest) es (λ_=>true) st (o::rest).length):=
   λhg h=>fin ⟨.un,[],[]⟩ ⟨hd,by rw[hg]⟩ h
  cases hgd:o.guard with
  |none=>rw[hgd]at h;exact exec (by simp[oM,hgd]) h
  |some jw=>
   obtain⟨j,want⟩:=jw;rw[hgd]at h;simp only at h;split at h
   .exact h.elim
   .rename_i dj hdj;split at h
    .rename_i he;cases want with
     |true=>exact exec (by simp[oM,hgd,hdj,he]) h
     |false=>exact pass (by simp[oM,hgd,hdj,he]) h
    .rename_i he;cases want with
     |true=>exact pass (by simp[oM,hgd,hdj,he]) h
     |false=>exact exec (by simp[oM,hgd,hdj,he]) h
    .rename_i he;exact pass (by simp[oM,hgd,hdj,he]) h
    .exact h.elim
theorem Inv.drew{Z:Zone}{E:Nat->Value}{st:St}{a:Act}{w:World}(hI:Inv G Z0 w0 S n Z E st a w):Inv G Z0 w0 S n Z E st a { w with drawn:=w.drawn+1 }:=by
 have hk:Keeps Z w Z { w with drawn:=w.drawn+1 }:=λ_ _ h=>⟨h,rfl,λ_ _ h=>h⟩
 exact{ hI with
  below:=hI.below.drew
  defers:=hI.defers.kept ((Kept.refl (λ_=>False) w).drew)
  U4:=hI.U4
  env:=λt=>(hI.env t).keep hk (dH.refl _ _)
  obj:=λt=>(hI.obj t).keep hk (dH.refl _ _) λb _=>⟨rfl,λ_ h=>h⟩ }
theorem dy7(hT:X9 P T)(hm:P.follows .mixedOrders=true){ρ:Option Nat}{Q:Exit->Act->World->Prop}{K:St->Prop}(hK:∀Z' E' st' a' w',K st'->Inv G Z0 w0 S n Z' E' st' a' w'->Q .normal a' w'){id:Nat}{ops:Array Oper}
 {Z:Zone} {E:Nat->Value} {st:St} {a:Act} {w:World} (hI:Inv G Z0 w0 S n Z E st a w) (h:ba2 (gX P G) T n ops.toList st K):(Code.region id ops true).wpIn (dG ρ) 0 P Q a w:=by
 unfold ba2 at h;obtain⟨es,h1,h2,h3,h4⟩:=b99 ops.toList ops.toList 0 st [] h;simp only[List.reverse_nil,rO]at h3;refine wpIn_region_any hm ?_;have h0:∀m,X0 ops.toList es (λk=>(Array.replicate ops.size false).getD k false) st m=st:=by
  intro m;have hf:∀k,(Array.replicate ops.size false).getD k false=false:=λk=>by
   rw[aT,Array.getElem?_replicate]
   grind
  rw[show(λk=>(Array.replicate ops.size false).getD k false)=λ_=>false from funext hf];induction m with
  |zero=>rfl
  |succ m ih=>
   simp only[X0,G6,ih]
   grind
 have:=ct5 (ρ:=ρ) (ops:=ops.toList) (tr:=es) (st0:=st) hT h1 h3 h2 (λZ' E' a' w' hI'=>hK _ _ _ _ _ h4 hI') ops.size (Array.replicate ops.size false) Z E a { w with drawn:=w.drawn+1 } (by simp)
  (λk o e _ hk=>by
    have hf:(Array.replicate ops.size false).getD k false=false:=by
     rw[aT,Array.getElem?_replicate]
     grind
    simp only[hf]at hk
    cases hk) (X4 (List.length_filter_le _ _) (by simp)) (by rw[h0];exact hI.drew)
 simpa using this
end
end Go.F6
end
section
namespace Go
abbrev gK:=@World.putObj_heap_other
abbrev xX:=@Nat.le_of_not_lt
end Go
namespace Go.F6
open Go Go.RowKit
section
variable{P:Program}{G:World->Prop}{T:Tab}{Z0:Base}{w0:World}{S:Nat->Prop}{n:Nat}{Z Z':Zone}{E:Nat->Value}{st:St}{a:Act}{w w':World}
theorem bN9(w:World)(t e:TypeId)(a:Option Addr)(l c:Nat)(h:P.underlying t=some (.slice e)):(binOp .eql t (.slice a l c) (.slice none 0 0)).run P w=.ok (.bool a.isNone) w:=by
 simp only[binOp];simp[run_equal_slice_nil w t e a l c h]
theorem cV0(hT:X9 P T){o:Oper}{q:Bool}{t:TypeId}{x:Operand}{K:SV->Prop}{next:Act->World->Prop}{Q:Exit->Act->World->Prop}(hI:Inv G Z0 w0 S n Z E st a w)(hd:inRange n o.dst=true)
 (hq:YJ o.op=some (q,t,x)) (h:ac8 T st q t x K) (hn:∀r x,K r->Inv G Z0 w0 S n Z E ⟨put st.env o.dst r,st.obj⟩ (a.put o.dst x) w->next (a.put o.dst x) w):Oper.bT P o a w next Q:=by
 unfold ac8 at h;split at h
 .rename_i ds hs;unfold bR6 at hs;split at hs
  .rename_i e _ _ _ _ _ hT';have hu:=(hT _ _ hT').u;simp only at hu;have hx:∃aa l k,a.eval x=.slice aa l k/\(aa=none->ds=[]):=by
    have hx:=Y2 hI x;split at hs
    .rename_i s g he;rw[he]at hx;split at hs
     .rename_i g' el sz ds' D8 ho;cases hb:Nat.beq g g' with
      |false=>grind
      |true=>
       rw[hb]at hs;have hgg:=F8 hb;subst hgg;simp only[H7,Z9]at hs;subst hs;have jB:=hI.obj s;rw[ho]at jB;obtain⟨xs,kW,hown,_⟩:=jB;generalize a.eval x=y at hx;cases hx with
       |rs _ _ _ hs hg hp'=>
        rw[hp' _ _ _ _ ho]at hown;rcases hown.2 with⟨hy,h0⟩|⟨b,cap,cur,hy,_⟩
        .grind
        .grind
     .cases hs
    .have hsl:∃sz,eP (look st x)=some (sz,ds):=by
      cases hq:eP (look st x)with
      |none=>grind
      |some p=>grind
     obtain⟨sz,hsl⟩:=hsl;have hr:Rep Z w (.sl sz ds) (a.eval x):=by
      generalize look st x=s at hx hsl;unfold eP at hsl;split at hsl
      .simp only[Z9,dI]at hsl;obtain⟨rfl,rfl⟩:=hsl;cases hx with|c _ _ h=>exact h
      .simp only[Z9,dI]at hsl;obtain⟨rfl,rfl⟩:=hsl;cases hx with|ap _ _ _ _ _ h _ _=>exact h
      .cases hsl
     generalize a.eval x=y at hr;cases hr with
     |nil _ aa cap=>grind
     |sl _ _ b o cap f=>exact⟨_,_,_,rfl,λh=>by cases h⟩
   obtain⟨aa,l,k,hx,hnil⟩:=hx;have hb:=h aa.isNone (λh=>hnil (Option.isNone_iff_eq_none.1 h));obtain⟨dst,op,type,pos,after,guard⟩:=o;simp only at hq hd hn;unfold YJ at hq;split at hq
   .rename_i t' x' z;simp only[Z9,dI]at hq;obtain⟨rfl,rfl,rfl⟩:=hq;refine aO (x:=.bool aa.isNone) ?_ (hn _ _ hb (hI.value hd ?_))
    .simp only[execOp,hx,I7];simp[Act.eval,eqGuard,bN9 (w:=w) t' _ aa l k hu]
    .cases aa.isNone<;>first|exact .kt|exact .kf
   .rename_i t' x' z;simp only[Z9,dI]at hq;obtain⟨rfl,rfl,rfl⟩:=hq;refine aO (x:=.bool (!aa.isNone)) ?_ (hn _ _ hb (hI.value hd ?_))
    .simp only[execOp,hx,I7];simp[Act.eval,eqGuard,run_neq_slice_nil (w:=w) t' _ aa l k hu]
    .cases aa.isNone<;>first|exact .kt|exact .kf
   .cases hq
  .cases hs
 .obtain⟨hlk,ht,hk⟩:=h;have hx:a.eval x=.slice none 0 0:=by
   have:=Y2 hI x;rw[hlk]at this;exact kZ this
  split at ht
  rotate_left
  .grind
  rename_i hT';have hu:=(hT _ _ hT').u;simp only at hu;obtain⟨dst,op,type,pos,after,guard⟩:=o;simp only at hq hd hn;unfold YJ at hq;split at hq
  .simp only[Z9,dI]at hq;obtain⟨rfl,rfl,rfl⟩:=hq;refine aO (x:=.bool true) ?_ (hn _ _ hk (hI.value hd .kt));simp only[execOp,hx,I7];simp[Act.eval,eqGuard,bN9 (w:=w) _ _ none 0 0 hu]
  .simp only[Z9,dI]at hq;obtain⟨rfl,rfl,rfl⟩:=hq;refine aO (x:=.bool false) ?_ (hn _ _ hk (hI.value hd .kf));simp only[execOp,hx,I7];simp[Act.eval,eqGuard,run_neq_slice_nil (w:=w) _ _ none 0 0 hu]
  .cases hq
theorem aw5(hT:X9 P T)(all:List Oper){ρ:Option Nat}{Q:Exit->Act->World->Prop}{K:St->Prop}(hK:∀Z' E' st' a' w',K st'->Inv G Z0 w0 S n Z' E' st' a' w'->Q .normal a' w'):
 ∀(l:List Oper)(Z:Zone)(E:Nat->Value)(st:St)(a:Act)(w:World),Inv G Z0 w0 S n Z E st a w->wpOps (gX P G) T n all l st K->wpListIn (dG ρ) 0 P all.toArray Q l a w
 |[],Z,E,st,a,w,hI,h=>hK _ _ _ _ _ h hI
 |o::rest,Z,E,st,a,w,hI,h=>by
  simp only[wpOps]at h;replace h:=Q8 h;obtain⟨hd,h⟩:=h;have exec:∀(st:St),Inv G Z0 w0 S n Z E st a w->(dS (gX P G) T (look st) st.obj o.dst o.op o.type λr _ u=>wpOps (gX P G) T n all rest ⟨put st.env o.dst r,upd st.obj u⟩ K)->
   Region.wanted o (yielded all.toArray a.tmps)=true->wpListIn (dG ρ) 0 P all.toArray Q (o::rest) a w:=by
   intro st hI h hw;unfold wpListIn;rw[I4 hw];exact(cY6 hT o Z0 w0 S n Z E st a w _ _ _ hI hd h λr _ u Z' E' x w' hk hI'=>aw5 hT all hK rest Z' E' _ _ w' hI' hk) ρ
  have pass:∀(st:St),Inv G Z0 w0 S n Z E st a w->wpOps (gX P G) T n all rest ⟨put st.env o.dst .un,st.obj⟩ K->Region.wanted o (yielded all.toArray a.tmps)=false->wpListIn (dG ρ) 0 P all.toArray Q (o::rest) a w:=by
   intro st hI h hw;unfold wpListIn;rw[F9 (by simp[hw])];exact⟨λ_ _=>trivial,aw5 hT all hK rest Z E _ _ w (hI.value (x:=undef) hd .un) h⟩
  cases hg:o.guard with
  |none=>
   rw[hg]at h;simp only at h;split at h
   .rename_i q t x hq;unfold wpListIn;rw[I4 (by simp[Region.wanted,hg])];exact(cV0 hT hI hd hq h λr x' hk hI'=>aw5 hT all hK rest Z E _ _ w hI' hk) ρ
   .exact exec st hI h (by simp[Region.wanted,hg])
  |some jw=>
   obtain⟨j,want⟩:=jw;rw[hg]at h;simp only at h;split at h
   .exact h.elim
   .rename_i dj hdj;have PV:(all.toArray[j]?).bind (·.dst)=some dj:=by grind
    have wnt:∀b,a.tmps.getD dj undef=.bool b->Region.wanted o (yielded all.toArray a.tmps)=(some b==some want):=λb hb=>by
     simp[Region.wanted,hg,aw9 PV hb]
    have henv:=hI.env dj;split at h
    .rename_i he;rw[he]at henv;have hv:a.tmps.getD dj undef=.bool true:=by generalize a.tmps.getD dj undef=y at henv;cases henv;rfl
     cases want with
     |true=>grind
     |false=>grind
    .rename_i he;rw[he]at henv;have hv:a.tmps.getD dj undef=.bool false:=by generalize a.tmps.getD dj undef=y at henv;cases henv;rfl
     cases want with
     |true=>grind
     |false=>grind
    .rename_i b he;rw[he]at henv;have hv:a.tmps.getD dj undef=.bool b:=kZ henv;cases b with
     |true=>
      have h1:=h.1 rfl;have hI':=hI.know (d:=dj) (r:=.kt) (by rw[hv];exact .kt);cases want with
      |true=>grind
      |false=>grind
     |false=>
      have h1:=h.2 rfl;have hI':=hI.know (d:=dj) (r:=.kf) (by rw[hv];exact .kf);cases want with
      |true=>grind
      |false=>grind
    .rename_i he;rw[he]at henv;have hv:a.tmps.getD dj undef=undef:=by generalize a.tmps.getD dj undef=y at henv;cases henv;rfl
     exact pass st hI h (by simp[Region.wanted,hg,bb7 PV hv])
    .exact h.elim
theorem bz0{obj E5:I5}{c:CV}{x:Value}(h:fM Z w obj E c x)(hl:EG obj c=true):fM Z w E5 E (YM c) x:=by
 cases h with
 |cl h=>have hn:=h.EJ;cases c<;>first|exact .cl h|(simp[CV.nK]at hn)
 |rs t g x hs hg h=>
  simp only[EG]at hl;split at hl
  .rename_i g' el sz ds D8 ho;have:=F8 hl;subst this;exact .rs _ _ x hs (Y3 _) λ_ _ _ _ _=>h _ _ _ _ ho
  .cases hl
 |pr t g off x hs hg h=>
  have:live obj t g:=by
   simp only[EG]at hl;split at hl
   .rename_i g' cs ho;have:=F8 hl;subst this;exact⟨cs,.inl ho⟩
   .rename_i g' cs ho;have:=F8 hl;subst this;exact⟨cs,.inr (.inl ho)⟩
   .rename_i g' cs ho;have:=F8 hl;subst this;exact⟨cs,.inr (.inr ho)⟩
   .cases hl
  exact .pr _ _ _ x hs (Y3 _) λ_=>h this
 |mr t g x hs hg h=>
  simp only[EG]at hl;split at hl
  .rename_i g' es ho;have:=F8 hl;subst this;exact .mr _ _ x hs (Y3 _) λ_ _=>h _ ho
  .cases hl
 |bp T f x hs=>exact .bp T f x hs
theorem bC5{obj E5:I5}{c:CV}{x:Value}(h:X5 Z w obj E c x)(hl:aL8 obj c=true):X5 Z w E5 E (zL c) x:=by
 cases h with
 |one h=>
  by_cases hf:∃f caps,c=.fr f caps
  .obtain⟨f,caps,rfl⟩:=hf;cases h with|cl h=>cases h
  .have e1:aL8 obj c=EG obj c:=by cases c<;>first|rfl|exact absurd ⟨_,_,rfl⟩ hf
   have e2:zL c=YM c:=by cases c<;>first|rfl|exact absurd ⟨_,_,rfl⟩ hf
   rw[e1]at hl;rw[e2];exact .one (bz0 h hl)
 |fr f caps vs hlen h=>
  refine .fr f _ vs (by simpa using hlen) λi c x h1 h2=>?_;rw[O6]at h1;cases hk:caps[i]? with
  |none=>grind
  |some c0=>rw[hk]at h1;simp at h1;subst h1;exact bz0 (h i c0 x hk h2) (wC (show caps.all (EG obj)=true from hl) hk)
theorem cV4{c:CV}{T:Nat}{f:Bool}(h:zL c=.bp T f):c=.bp T f:=by
 cases c<;>simp[zL,YM]at h⊢<;>exact h
theorem bC4(c:CV):(zL c).atom=c.atom:=by cases c<;>rfl
theorem cV6{obj:I5}{o:D9}{cs:List CV}(h:jD obj o=.var cs\/jD obj o=.ro cs\/jD obj o=.varx cs):∃cs0,o=.var cs0\/o=.ro cs0\/o=.varx cs0:=by
 unfold jD at h;split at h
 .grind
 .grind
 .grind
theorem cV5{obj:I5}{o:D9}{el sz:Nat}{ds:List (List CV)}{D8:Option (Nat×List CV)}(h:jD obj o=.arr el sz ds D8):∃mD,o=.arr el sz ds mD:=by
 unfold jD at h;split at h
 .grind
 .grind
 .grind
theorem cV8{obj:I5}{o:D9}{el sz:Nat}(h:jD obj o=.tok el sz):o=.tok el sz:=by
 unfold jD at h;split at h
 .grind
 .grind
 .exact h
theorem cV7{obj:I5}{o:D9}{es:List (CV×CV)}(h:jD obj o=.map es):o=.map es:=by
 unfold jD at h;split at h
 .grind
 .grind
 .exact h
theorem Inv.weak(hI:Inv G Z0 w0 S n Z E st a w){st':St}(hw:Weak st st'):Inv G Z0 w0 S n Z E st' a w:=by
 obtain⟨h1,h2x⟩:=hw;have h2:∀s,st'.obj s=(0,.none)\/st'.obj s=(0,jD st.obj (st.obj s).2):=λs=>by
  rcases h2x s with h|h
  .exact .inl h
  .unfold am5 at h;cases hb:(Nat.blt s PIN || Nat.beq (st.obj s).1 0)with
   |true=>grind
   |false=>grind
 have zB:∀s o,Nat.blt s PIN=false->st'.obj s=(0,o)->o≠.none->st.obj s=(0,(st.obj s).2)/\jD st.obj (st.obj s).2=o:=λs o hs he hne=>by
  rcases h2x s with h|h
  .grind
  .unfold am5 at h;rw[hs,Bool.false_or]at h;cases hb:Nat.beq (st.obj s).1 0 with
   |true=>
    rw[hb]at h;rw[h]at he;exact⟨Prod.ext (F8 hb) rfl,by simpa using he⟩
   |false=>grind
 have hpk:xZ Z0.obj Z0.E st'.obj E:=by
  constructor
  .intro t ht hl;refine hI.pin.var t ht ?_;obtain⟨cs,hl⟩:=hl;have:∃o,st'.obj t=(0,o)/\o≠.none/\(o=.var cs\/o=.ro cs\/o=.varx cs):=by grind
   obtain⟨o,q1,q2,q3⟩:=this;obtain⟨q4,q5⟩:=zB t o ht q1 q2;rw[<-q5]at q3;obtain⟨cs0,q6⟩:=cV6 q3;refine⟨cs0,?_⟩
   grind
  .intro t el s ht hl;obtain⟨q4,q5⟩:=zB t _ ht hl (by simp);exact hI.pin.tok t el s ht (q4.trans (by rw[cV8 q5]))
  .intro t el sz ds D8 ht hl;obtain⟨q4,q5⟩:=zB t _ ht hl (by simp);obtain⟨f0,q6⟩:=cV5 q5;exact hI.pin.arr t el sz ds f0 ht (q4.trans (by rw[q6]))
  .intro t es ht hl;obtain⟨q4,q5⟩:=zB t _ ht hl (by simp);exact hI.pin.map t es ht (q4.trans (by rw[cV7 q5]))
 have cE6:∀(o:D9)(e:Value)(b:Nat),(jD st.obj o).blk e b->o.blk e b:=by
  intro o e b h;unfold jD at h;split at h
  .grind
  .grind
  .exact h
 have hblk:∀s b,(st'.obj s).2.blk (E s) b->(st.obj s).2.blk (E s) b:=λs b hb=>by
  rcases h2 s with h|h
  .grind
  .rw[h]at hb;exact cE6 _ _ _ hb
 have dL4:∀(s:SV)(x:Value),N7 Z w st.obj E s x->N7 Z w st'.obj E (zM st.obj s) x:=by
  intro s x henv;cases henv with
  |any x=>exact .any x
  |un=>exact .un
  |kt=>exact .c _ _ (.v _)
  |kf=>exact .c _ _ (.v _)
  |c c x h=>exact .c c x h
  |Q7 f caps vs=>exact .any _
  |aC cs vs=>exact .any _
  |eF cs vs=>exact .any _
  |ap t' g sz es x hrep hg ht=>
   simp only[zM];split
   .rename_i g' el z ho;cases hb:Nat.beq g g' with
    |true=>
     have:=F8 hb;subst this;exact .ap _ _ _ _ _ hrep (Y3 _) λdK z' _=>ht _ _ ho
    |false=>exact .c _ _ hrep
   .exact .c _ _ hrep
  |pm t' g off x hs hg hl=>
   simp only[zM];split
   .rename_i g' cs ho;cases hb:Nat.beq g g' with
    |true=>
     have:=F8 hb;subst this;exact .pm _ _ _ _ hs (Y3 _) λ_=>hl ⟨cs,.inl ho⟩
    |false=>exact .any _
   .rename_i g' cs ho;cases hb:Nat.beq g g' with
    |true=>
     have:=F8 hb;subst this;exact .pm _ _ _ _ hs (Y3 _) λ_=>hl ⟨cs,.inr (.inl ho)⟩
    |false=>exact .any _
   .rename_i g' cs ho;cases hb:Nat.beq g g' with
    |true=>
     have:=F8 hb;subst this;exact .pm _ _ _ _ hs (Y3 _) λ_=>hl ⟨cs,.inr (.inr ho)⟩
    |false=>exact .any _
   .exact .any _
  |rs t' g x hs hg hE=>
   simp only[zM];split
   .rename_i g' el sz ds D8 ho;cases hb:Nat.beq g g' with
    |true=>
     have:=F8 hb;subst this;exact .rs _ _ _ hs (Y3 _) λ_ _ _ _ _=>hE _ _ _ _ ho
    |false=>exact .any _
   .exact .any _
  |mr t' g x hs hg hE=>
   simp only[zM];split
   .rename_i g' es ho;cases hb:Nat.beq g g' with
    |true=>
     have:=F8 hb;subst this;exact .mr _ _ _ hs (Y3 _) λ_ _=>hE _ ho
    |false=>exact .any _
   .exact .any _
  |pe t' g m off x hg hE=>
   simp only[zM];split
   .rename_i g' el sz ds D8 ho;cases hb:Nat.beq g g' with
    |true=>
     have:=F8 hb;subst this;refine .pe _ _ _ _ _ (Y3 _) λdK sz' ds' iM he=>?_;have hsz:sz'=sz:=by
      rcases h2 t' with h|h
      .grind
      .rw[h,ho]at he;simp only[dI,true_and]at he;cases D8 with
       |none=>simp only[jD,D9.arr.injEq]at he;exact he.2.1.symm
       |some p=>
        obtain⟨k,cs⟩:=p;simp only[jD]at he;cases hlv:YA st.obj cs with
        |true=>grind
        |false=>grind
     grind
    |false=>exact .any _
   .exact .any _
 refine{ hI with pin:=hpk,env:=λt=>?_,obj:=λt=>?_,own:=λt b hb=>hI.own t b (hblk t b hb),apart:=λt t' b hne ha hb=>hI.apart t t' b hne (hblk t b ha) (hblk t' b hb) }
 .rcases h1 t with h|h
  .rw[h];exact .any _
  .rw[h];have henv:=hI.env t;generalize a.tmps.getD t undef=x at henv;generalize st.env t=s at henv;by_cases hf:∃f caps,s=.Q7 f caps
   .obtain⟨f,caps,rfl⟩:=hf;cases henv with
    |Q7 _ _ vs hf hl hh=>
     refine .Q7 f _ vs hf (by simpa using hl) λi c y q1 q2=>?_;rw[O6]at q1;cases hk:caps[i]? with
     |none=>grind
     |some c0=>grind
   .have e2:aN5 st.obj s=zM st.obj s:=by cases s<;>first|rfl|exact absurd ⟨_,_,rfl⟩ hf
    grind
 .have hot:=hI.obj t;rcases h2 t with h|h
  .rw[h];trivial
  .rw[h];show U6 Z w st'.obj E (E t) (jD st.obj (st.obj t).2);cases ho:(st.obj t).2 with
   |none=>trivial
   |spent=>trivial
   |var cs=>rw[ho]at hot;exact hot
   |ro cs=>rw[ho]at hot;exact hot
   |tok el sz=>rw[ho]at hot;exact hot
   |map es=>rw[ho]at hot;exact hot
   |lp l R q=>rw[ho]at hot;exact hot
   |varx cs=>
    rw[ho]at hot;simp only[jD];cases hl:YA st.obj cs with
    |false=>trivial
    |true=>
     obtain⟨b,el,arr,he,hh,hs,hc,hz⟩:=hot;refine⟨b,el,arr,he,hh,by simpa using hs,λj c hj=>?_,hz.1,hz.2.same λj T f hj=>?_⟩
     rotate_left
     .rw[O6]at hj;cases hk:cs[j]? with
      |none=>grind
      |some c0=>rw[hk]at hj;simp at hj;rw[cV4 hj]
     rw[O6]at hj;cases hcj:cs[j]? with
     |none=>grind
     |some c0=>
      rw[hcj]at hj;simp at hj;subst hj;obtain⟨q1,x,q2,q3⟩:=hc j c0 hcj;exact⟨by rw[bC4];exact q1,x,q2,bC5 q3 (wC hl hcj)⟩
   |arr el sz ds D8=>
    rw[ho]at hot;cases D8 with
    |none=>
     simp only[jD];obtain⟨xs,q1,q2,q3,q4,q5,q6⟩:=hot;refine⟨xs,q1,q2,q3,q4,λi d hi hd j c hj=>?_,q6⟩;obtain⟨r1,u,r2,r3⟩:=q5 i d hi hd j c hj;exact⟨r1,u,r2,.cl (r3.closed (kY (q3.2 i d hd (λ_ _ h=>nomatch h)) hj))⟩
    |some p=>
     obtain⟨m,cs⟩:=p;simp only[jD];cases hl:YA st.obj cs with
     |false=>trivial
     |true=>
      obtain⟨xs,q1,q2,q3,q4,q5,q6⟩:=hot;have hcx:∀k,Y8 ds (some (m,cs.map zL)) k=if k=m then some (cs.map zL)else ds[k]?:=λk=>rfl
      have nJ:∀k,Y8 ds (some (m,cs)) k=if k=m then some cs else ds[k]?:=λk=>rfl
      refine⟨xs,q1,q2,⟨λm' d' he=>?_,λi d hd hne=>?_⟩,λi d hi hd=>?_,λi d hi hd j c hj=>?_,q6⟩
      .simp only[Z9,dI]at he;rw[<-he.1];exact q3.1 m cs rfl
      .exact q3.2 i d hd (λm' d'' he=>by
        simp only[Z9,dI]at he;rw[<-he.1]
        exact hne m _ rfl)
      .rw[hcx]at hd;by_cases hk:i=m
       .grind
       .grind
      .rw[hcx]at hd;by_cases hk:i=m
       .rw[I4 hk]at hd;injection hd with hd
        subst hd;rw[O6]at hj;cases hcj:cs[j]? with
        |none=>grind
        |some c0=>
         rw[hcj]at hj;simp at hj;subst hj;obtain⟨r1,u,r2,r3⟩:=q5 i cs hi (by rw[nJ,I4 hk]) j c0 hcj;exact⟨by rw[bC4];exact r1,u,r2,bC5 r3 (wC hl hcj)⟩
       .rw[F9 hk]at hd;obtain⟨r1,u,r2,r3⟩:=q5 i d hi (by rw[nJ,F9 hk];exact hd) j c hj
        exact⟨r1,u,r2,.cl (r3.closed (kY (q3.2 i d hd (λm' d'' he=>by
         simp only[Z9,dI]at he
         rw[<-he.1];exact hk)) hj))⟩
theorem b93{F:Fence}{m:Nat}{c:Code}{Q:Exit->Act->World->Prop}(I:Nat->Act->World->Prop)(k:Nat){a:Act}{w:World}(h0:I k a w)
 (round:∀k a w,I k a w->c.wpIn F m P (Exit.then (λa' w'=>∃k',k'<k/\I k' a' w') Q) a w):(Code.loop c).wpIn F m P Q a w:=by
 intro b k0 cs hro hb hr;have key:∀j a w,I j a w->∃e a' w',Q e a' w'/\ArrivesIn (Machine.fenced P F) P (lone (b.atR a (.code c::.inLoop c::k0)) cs w) b k0 cs e a' w':=by
  intro j;induction j using Nat.strongRecOn with
  |_ j ih=>
   intro a w hI;obtain⟨e,a₁,w₁,hq,harr⟩:=round j a w hI b (.inLoop c::k0) cs hro hb hr;cases e with
   |normal=>
    obtain⟨k',hlt,hI₁⟩:=hq;obtain⟨e₂,a₂,w₂,hq₂,harr₂⟩:=ih k' hlt a₁ w₁ hI₁;exact⟨e₂,a₂,w₂,hq₂,.of_steps (StepsIn.trans harr (.one (fenced_calm hb hr rfl) stepR_inLoop)) harr₂⟩
   |exit id=>exact⟨_,a₁,w₁,hq,.pass (x:=.inLoop c) rfl (λ_ _=>.inl (by simp)) harr⟩
   |goto l=>exact⟨_,a₁,w₁,hq,.pass (x:=.inLoop c) rfl (λ_ _=>.inl (by simp)) harr⟩
   |ret=>exact⟨_,a₁,w₁,hq,.pass (x:=.inLoop c) rfl (λ_ _=>.inl (by simp)) harr⟩
   |panic ch=>exact⟨_,a₁,w₁,hq,.pass (x:=.inLoop c) rfl (λ_ _=>.inl (by simp)) harr⟩
   |outgrown=>exact⟨_,a₁,w₁,hq,.pass (x:=.inLoop c) rfl (λ_ _=>.inl (by simp)) harr⟩
 obtain⟨e,a',w',hq,harr⟩:=key k a w h0;exact⟨e,a',w',hq,.of_steps (.one (fenced_calm hb hr rfl) stepR_loop) harr⟩
theorem bm5{env:Nat->SV}:∀{k:Nat}{l:List SV},ai5 env k l->∀{i:Nat}{s:SV},l[i]?=some s->s=.any\/s=env (k+i)
 |_,[],_,_,_,h=>by simp at h
 |k,s0::r,⟨h0,h⟩,i,s,hi=>by
  cases i with
  |zero=>grind
  |succ i=>
   have:=bm5 h (i:=i) (s:=s) (by simpa using hi)
   rwa [show k+1+i=k+(i+1) by omega]at this
theorem kL.lt{B:Nat}{w:World}:∀{ds:List Deferred},kL B w ds->∀d∈ds,d≠{ target:=.collected w.heap.size,args:=#[] }
 |[],_,d,hd=>by simp at hd
 |d0::ds,⟨⟨r,h1,h2,_⟩,h⟩,d,hd=>by
  rcases jT.1 hd with rfl|hd
  .grind
  .exact kL.lt h d hd
theorem c65(hT:X9 P T){Q:Exit->Act->World->Prop}{K:Exit->St->Prop}{g:Operand}{ps:Array Tmp}{assign body:Code}(hI:Inv G Z0 w0 S n Z E st a w)
 (hK:∀e Z' E' st' a' w',K e st'->Inv G Z0 w0 S n Z' E' st' a' w'->Q e a' w') (h:ba5 (gX P G) n g ps assign body K st):(Code.rangeFunc g ps assign body).wpIn (dG none) 0 P Q a w:=by
 obtain⟨s0,env,f,caps,hg,hlen,hsub,h⟩:=h;have hlen:=F8 hlen;refine wpIn_rangeFunc ?_;intro fn _;obtain⟨R,hR⟩:∃R:Loop,R={ state:=.ready,pending:=none,fn:=fn,tmps:=a.tmps,params:=ps,assign:=assign,body:=body,defers:=w.heap.size }:=⟨_,rfl⟩;have hRt:R.tmps=a.tmps:=by rw[hR]
 obtain⟨τ,off,args,os,r,os',hargs,hos,cF4,V6,g',b,J,hlp,hkt,hkf⟩:=h (w.heap.size+1) R (by rw[hR]) (by rw[hR]) (by rw[hR]) (by rw[hRt];exact hI.sz);obtain⟨w1,hw1⟩:∃w1,w1=(w.alloc (.deferred (some []))).alloc (.loop R):=⟨_,rfl⟩;have hsz1:w1.heap.size=w.heap.size+2:=by rw[hw1];simp
 have hL1:w1.heap[w.heap.size+1]?=some (.loop R):=by
  rw[hw1];have:=World.alloc_heap_new (w.alloc (.deferred (some []))) (.loop R);rwa [World.size_alloc]at this
 have hD1:w1.heap[w.heap.size]?=some jZ:=by
  rw[hw1];exact(Below.heap_alloc _ _ _ (by simp)).trans (World.alloc_heap_new w _)
 have aG2:jU.put R .on=R:=by rw[hR];rfl
 have hk1:Kept S w w1:=by rw[hw1];exact((Kept.refl _ _).alloc hI.vI _).alloc (λk hk=>by have:=hI.vI k hk;simp;omega) _
 have hkp:Keeps Z w Z w1:=by
  rw[hw1];exact(Keeps.alloc hI.U4 _).trans (Keeps.alloc (λb o h=>by have:=hI.U4 b o h;simp;omega) _)
 have hold:∀k,k<w.heap.size->w1.heap[k]?=w.heap[k]?:=λk hk=>by
  rw[hw1];exact(Below.heap_alloc _ _ _ (by simp;omega)).trans (Below.heap_alloc _ _ _ hk)
 let iP:=upd st.obj [(s0,((st.obj s0).1+1,.lp (w.heap.size+1) R .on))]
 have hs1:iP s0=((st.obj s0).1+1,.lp (w.heap.size+1) R .on):=tC _ _ _;have hn1:∀t,t≠s0->iP t=st.obj t:=λt ht=>sZ _ _ ht;have hI0:Inv G Z0 w0 S n Z E ⟨put st.env none .any,iP⟩ (a.put none undef) w1:=by
  refine hI.renew (·=s0) (d:=none) (r:=.any) (x:=undef) rfl hk1 hkp (λb o h=>by have:=hI.U4 b o h;omega) (λ_ _ h=>.inl h) (λt ht=>⟨hn1 t ht,rfl⟩) ?_ ?_ ?_ ?_ ?_ (.any _)
  .grind
  .rintro _ t rfl;rw[hs1];exact⟨by rw[aG2];exact hL1,λo hz=>by have:=hI.U4 _ _ hz;omega⟩
  .intro t ht b hb;have hlt:=(hI.obj t).lt hb
   grind
  .grind
  .rintro t rfl b hb;rw[hs1]at hb;simp[D9.blk]at hb;exact hI.fresh (by omega)
 let a1:Act:={ a with defers:={ target:=.collected w.heap.size,args:=#[] }::a.defers }
 have hI1:Inv G Z0 w0 S n Z E ⟨st.env,iP⟩ a1 w1:=
  { hI0 with defers:=⟨⟨w.heap.size,rfl,hD1,hI.size_le,hI.defers.lt⟩,hI.defers.kept hk1⟩ }
 obtain⟨Eo,M,WZ,JU,hback⟩:=bl8 (D:=0) (d:=none) hI1 rfl hos V6;have hgv:=Y2 hI1 g;have hlk:look ⟨st.env,iP⟩ g=look st g:=by cases g<;>rfl
 rw[hlk]at hgv;have hev:a1.eval g=a.eval g:=by cases g<;>rfl
 rw[hev]at hgv;have hcap:∃cv:List Value,a.eval g=.func (.func f) #[] cv.toArray/\caps.length=cv.length/\∀(i:Nat)(s:SV)(x:Value),caps[i]?=some s->cv[i]?=some x->N7 Z w1 iP E s x:=by
  generalize a.eval g=y at hgv;rcases hg with hg|⟨cs,hg,hcs⟩
  .rw[hg]at hgv;cases hgv with
   |Q7 _ _ vs _ hl hh=>exact⟨vs,rfl,hl,hh⟩
  .rw[hg]at hgv;subst hcs;cases hgv with
   |c _ _ hr=>
    cases hr with
    |fn _ _ vs hl hh=>
     refine⟨vs,rfl,by simpa using hl,λi s x h1 h2=>?_⟩;rw[O6]at h1;cases hk:cs[i]? with
     |none=>grind
     |some c0=>rw[hk]at h1;simp at h1;subst h1;exact .c _ _ (hh i c0 x hk h2)
 obtain⟨cv,hcv,hcl,hcr⟩:=hcap;obtain⟨hal,hag⟩:=aW8 hargs;obtain⟨⟨WR,hfn,hnm,hbd⟩,hcall⟩:=cF4;have cF5:N7 Z w1 iP E (.Q7 (.yl (w.heap.size+1) R.tmps.toList) env) (.func (.yield (w.heap.size+1)) #[] #[]):=by
  have:=N7.Q7 (Z:=Z) (w:=w1) (obj:=iP) (E:=E) (.yl (w.heap.size+1) R.tmps.toList) env R.tmps.toList rfl (by rw[hlen,hRt];simpa using hI.sz.symm) (λi s x h1 h2=>by
   rcases bm5 hsub h1 with rfl|rfl
   .exact .any _
   .have h3:=hI1.env i;rw[V7];have h4:a1.tmps.getD i undef=x:=by
     rw[hRt]at h2;show a.tmps.getD i undef=x;rw[aT,<-jS,h2];rfl
    rw[<-h4];exact h3)
  exact this
 have yZ:=hcall Z w1 Eo (.func (.yield (w.heap.size+1)) #[] #[]::cv) WZ hI1.U4 (by rw[hal];simp[hcl]) (λi s x h1 h2=>by
  obtain⟨s1,h3,h4⟩:=hag i s h1;cases i with
  |zero=>
   simp at h3 h2;subst h3;subst h2;exact cF5.tOz M h4
  |succ i=>
   simp at h3 h2
   exact(hcr i s1 x h3 h2).tOz M h4) (λw' hk=>hI1.gs w' (hI1.below.trans (hk.mono JU)))
 have hnm':¬(WR.name= "runtime.NumGoroutine"):=by grind
 have uO:¬(WR.body=none):=λe=>by grind
 refine⟨w.heap.size+1,[{ target:=.collected w.heap.size,args:=#[] }],w1,{ target:=.fn (.func f) cv.toArray,args:=#[.func (.yield (w.heap.size+1)) #[] #[]] },w1,f,
  #[.func (.yield (w.heap.size+1)) #[] #[]]++cv.toArray,w1,?_,?_,λ_ _=>trivial,?_,λh=>(nomatch h),?_⟩
 .rw[hw1,hR];exact run_enterLoop_outer _ _ _ _ _
 .simp only[resolve,hcv];simp[go_sem]
 .simp only[invoke,callFunc];simp[Go.program,Sem.run,hfn,hnm',uO,go_sem]
 refine OH.2 ?_;have uN:(#[.func (.yield (w.heap.size+1)) #[] #[]]++cv.toArray:Array Value)=(.func (.yield (w.heap.size+1)) #[] #[]::cv).toArray:=by grind
 rw[uN];refine yZ.mono ?_;rintro e w3 ⟨x,Z',aY,rfl,hp⟩;obtain⟨E',DU⟩:=hback x Z' w3 aY hp;have aH3:(upd iP (aG iP 0 off τ 0 os')) s0=(g',.lp (w.heap.size+1) R (mJ b J)):=hlp;have ho3:=DU.obj s0;have aI0:=DU.own s0;have bq6:=DU.apart;simp only at ho3 aI0 bq6;rw[aH3]at ho3 aI0;obtain⟨hL3,hz3⟩:=ho3;have hl3:w.heap.size+1<w3.heap.size:=(V4.1 hL3).1;obtain⟨R3,uM⟩:∃R3,R3=jU.put R (mJ b J):=⟨_,rfl⟩;rw[<-uM]at hL3;have hst3:R3.state≠.busy:=by rw[uM];cases b<;>simp[mJ,jU.put]
 have hend:=run_endLoop (P:=P) hL3 hst3;have hI4:Inv G Z0 w0 S n Z' E' ⟨put st.env none .any,upd (upd iP (aG iP 0 off τ 0 os')) [(s0,(g',.spent))]⟩ (a1.put none undef) (w3.putObj (w.heap.size+1) (.loop { R3 with state:=.exhausted })):=by
  have hs4:upd (upd iP (aG iP 0 off τ 0 os')) [(s0,(g',.spent))] s0=(g',.spent):=tC _ _ _;have hn4:∀t,t≠s0->upd (upd iP (aG iP 0 off τ 0 os')) [(s0,(g',.spent))] t=upd iP (aG iP 0 off τ 0 os') t:=λt ht=>sZ _ _ ht;have hoth:∀k,k≠w.heap.size+1->(w3.putObj (w.heap.size+1) (.loop { R3 with state:=.exhausted })).heap[k]?=w3.heap[k]?:=λk hk=>gK hk;refine DU.renew (·=s0) (d:=none) (r:=.any) (x:=undef) rfl ?_ ?_ (λb o h=>by have:=DU.U4 b o h;simpa using this) (λ_ _ h=>.inl h) (λt ht=>⟨hn4 t ht,rfl⟩) ?_ ?_ ?_ ?_ ?_ (.any _)
  .refine⟨rfl,rfl,rfl,by simp,λk hk=>hoth k (λe=>aI0 (w.heap.size+1) rfl (e▸hk)),λk hk=>(hoth k (λe=>?_)).trans hk⟩;rw[e,hL3]at hk;exact nomatch hk
  .exact λb o hz=>⟨hz,iH (hoth b (λe=>hz3 o (e▸hz)))⟩
  .rintro t rfl;rw[hs4];exact .inr ⟨by show g'=(upd iP (aG iP 0 off τ 0 os') t).1;rw[aH3],.inl (.inl rfl)⟩
  .rintro _ t rfl;rw[hs4];trivial
  .intro t ht b' hb;refine⟨hoth b' (λe=>?_),λ_ hz=>hz,?_⟩
   .subst e;exact bq6 t s0 _ ht hb (by rw[aH3]<;>rfl)
   .grind
  .grind
  .grind
 generalize w3.putObj (w.heap.size+1) (.loop { R3 with state:=.exhausted })=w4 at hend hI4;refine⟨R3.pending,w4,hend,?_⟩;cases b with
 |true=>
  have hpn:R3.pending=none:=by rw[uM];rfl
  rw[hpn];exact hK .normal _ _ _ _ _ (hkt rfl) hI4
 |false=>
  have hpn:R3.pending=some J:=by rw[uM];rfl
  rw[hpn];have hj:=hkf rfl;unfold aK5 at hj;split at hj
  .exact wpIn_ret (hK _ _ _ _ _ _ hj hI4)
  .exact wpIn_exit (hK _ _ _ _ _ _ hj hI4)
  .grind
theorem YN{ρ:Option Nat}{a b:Code}(h:ρ=none\/(cO a&&cO b)=true):ρ=none\/cO a=true:=h.imp id λh=>by grind
theorem QM{ρ:Option Nat}{a b:Code}(h:ρ=none\/(cO a&&cO b)=true):ρ=none\/cO b=true:=h.imp id λh=>by grind
theorem TQ{P:Program}{b:Frame}{a:Act}{k:List Item}{cs:List Frame}{w:World}{c:Code}:step P (lone (b.atR a (.code (.scope c)::k)) cs w)=.next (lone (b.atR a (.code c::.inScope c::k)) cs w):=
 step_lone_go (by simp[stepG,stepG.exec,Frame.atR])
theorem dm7{P:Program}{b:Frame}{a:Act}{k:List Item}{cs:List Frame}{w:World}{c:Code}:step P (lone (b.atR a (.inScope c::k)) cs w)=.next (lone (b.atR a k) cs w):=
 step_lone_go (by simp[stepG,stepG.exec,Frame.atR])
theorem dy9{F:Fence}{n:Nat}{P:Program}{Q:Exit->Act->World->Prop}{a:Act}{w:World}{c:Code}(h:c.wpIn F n P (λe a w=>match e with|.goto _=>False|e=>Q e a w) a w):(Code.scope c).wpIn F n P Q a w:=by
 intro b k cs hro hb hr;have h0:(lone (b.atR a (.code (.scope c)::k)) cs w).fenced P F:=fenced_calm hb hr rfl;obtain⟨e,a₁,w₁,hq,harr⟩:=h b (.inScope c::k) cs hro hb hr;cases e with
 |normal=>exact⟨.normal,a₁,w₁,hq,.head h0 TQ (StepsIn.trans harr (.one (fenced_calm hb hr rfl) dm7))⟩
 |exit id=>
  have hx:exitTo id (.inScope c::k)=exitTo id k:=by simp[exitTo]
  exact⟨.exit id,a₁,w₁,hq,λk' hk=>.head h0 TQ (harr.1 k' (by rw[hx];exact hk)),
   λhr' hk=>let ⟨k₁,h1,h2⟩:=harr.2 hr' (by rw[hx];exact hk);⟨k₁,h1,.head h0 TQ h2⟩⟩
 |goto l=>grind
 |ret=>exact⟨_,a₁,w₁,hq,.of_steps (.one h0 TQ) harr⟩
 |panic ch=>exact⟨_,a₁,w₁,hq,.of_steps (.one h0 TQ) harr⟩
 |outgrown=>exact⟨_,a₁,w₁,hq,.of_steps (.one h0 TQ) harr⟩
theorem aw3(hT:X9 P T)(hm:P.follows .mixedOrders=true){ρ:Option Nat}(code:Code):(ρ=none\/cO code=true)->∀{Q:Exit->Act->World->Prop}{K:Exit->St->Prop}(_:∀e Z' E' st' a' w',K e st'->Inv G Z0 w0 S n Z' E' st' a' w'->Q e a' w')
 (Z:Zone) (E:Nat->Value) (st:St) (a:Act) (w:World),Inv G Z0 w0 S n Z E st a w->dB (gX P G) T n code K st->code.wpIn (dG ρ) 0 P Q a w:=by
 induction code with
 |skip=>intro hρ Q K hK Z E st a w hI h;exact wpIn_skip (hK _ _ _ _ _ _ h hI)
 |region id ops draw=>
  intro hρ Q K hK Z E st a w hI h;simp only[dB]at h;cases draw with
  |true=>exact dy7 hT hm (λZ' E' st' a' w' hk hI'=>hK _ _ _ _ _ _ hk hI') hI h
  |false=>
   simp only[G6]at h;have:=aw5 (ρ:=ρ) (Q:=Q) hT ops.toList (λZ' E' st' a' w' hk hI'=>hK _ _ _ _ _ _ hk hI') ops.toList Z E st a w hI h;refine wpIn_region_list ?_;simpa using this
 |seq x y zC ihy=>
  intro hρ Q K hK Z E st a w hI h;simp only[dB]at h;cases hj:KC x with
  |true=>
   rw[hj]at h;simp only[H7]at h;refine wpIn_seq (zC (YN hρ) (λe Z' E' st' a' w' hk hI'=>?_) Z E st a w hI h);cases e with
   |normal=>
    rcases hk with hk|⟨st0,hw,hk⟩
    .exact ihy (QM hρ) hK _ _ _ _ _ hI' hk
    .exact ihy (QM hρ) hK _ _ _ _ _ (hI'.weak hw) hk
   |exit id=>exact hK _ _ _ _ _ _ hk hI'
   |goto l=>exact hK _ _ _ _ _ _ hk hI'
   |ret=>exact hK _ _ _ _ _ _ hk hI'
   |panic ch=>exact hK _ _ _ _ _ _ hk hI'
   |outgrown=>exact hK _ _ _ _ _ _ hk hI'
  |false=>
   rw[hj]at h;simp only[G6]at h;refine wpIn_seq (zC (YN hρ) (λe Z' E' st' a' w' hk hI'=>?_) Z E st a w hI h);cases e with
   |normal=>exact ihy (QM hρ) hK _ _ _ _ _ hI' hk
   |exit id=>exact hK _ _ _ _ _ _ hk hI'
   |goto l=>exact hK _ _ _ _ _ _ hk hI'
   |ret=>exact hK _ _ _ _ _ _ hk hI'
   |panic ch=>exact hK _ _ _ _ _ _ hk hI'
   |outgrown=>exact hK _ _ _ _ _ _ hk hI'
 |cond c x y zC ihy=>
  intro hρ Q K hK Z E st a w hI h;simp only[dB]at h;have hc:=Y2 hI c;split at h
  .rename_i he;rw[he]at hc;have hv:a.eval c=.bool true:=by generalize a.eval c=y at hc;cases hc;rfl
   exact wpIn_cond_true hv (zC (YN hρ) hK _ _ _ _ _ hI h)
  .rename_i he;rw[he]at hc;have hv:a.eval c=.bool false:=by generalize a.eval c=y at hc;cases hc;rfl
   exact wpIn_cond_false hv (ihy (QM hρ) hK _ _ _ _ _ hI h)
  .rename_i q he;rw[he]at hc;have hv:a.eval c=.bool q:=kZ hc;cases q with
   |true=>exact wpIn_cond_true hv (zC (YN hρ) hK _ _ _ _ _ hI (h.1 rfl))
   |false=>exact wpIn_cond_false hv (ihy (QM hρ) hK _ _ _ _ _ hI (h.2 rfl))
  .exact h.elim
 |block id body ih=>
  intro hρ Q K hK Z E st a w hI h;simp only[dB]at h;refine wpIn_block (ih hρ (λe Z' E' st' a' w' hk hI'=>?_) Z E st a w hI h);cases e with
  |exit j=>
   simp only[Exit.inBlock];cases hb:Nat.beq j id with
   |true=>
    simp only[hb,H7]at hk;rw[I4 (F8 hb)]
    grind
   |false=>
    simp only[hb,G6]at hk;rw[F9 (λe=>by subst e;simp at hb)]
    grind
  |normal=>exact hK _ _ _ _ _ _ hk hI'
  |goto l=>exact hK _ _ _ _ _ _ hk hI'
  |ret=>exact hK _ _ _ _ _ _ hk hI'
  |panic ch=>exact hK _ _ _ _ _ _ hk hI'
  |outgrown=>exact hK _ _ _ _ _ _ hk hI'
 |loop body ih=>
  intro hρ Q K hK Z E st a w hI h;simp only[dB]at h;obtain⟨I,⟨k,st0,hw,hi⟩,hstep⟩:=h;refine b93 (λk a w=>∃Z E st,I k st/\Inv G Z0 w0 S n Z E st a w) k ⟨Z,E,st0,hi,hI.weak hw⟩ λk a w ⟨Z,E,st,hi,hI⟩=>?_;refine ih hρ (λe Z' E' st' a' w' hk' hI'=>?_) Z E st a w hI (hstep k st hi);cases e with
  |normal=>
   obtain⟨k',MB,hlt,hw3,hi3⟩:=hk';exact⟨k',hlt,Z',E',MB,hi3,hI'.weak hw3⟩
  |exit j=>exact hK _ _ _ _ _ _ hk' hI'
  |goto l=>exact hK _ _ _ _ _ _ hk' hI'
  |ret=>exact hK _ _ _ _ _ _ hk' hI'
  |panic ch=>exact hK _ _ _ _ _ _ hk' hI'
  |outgrown=>exact hK _ _ _ _ _ _ hk' hI'
 |exit id=>intro _ Q K hK Z E st a w hI h;exact wpIn_exit (hK _ _ _ _ _ _ h hI)
 |ret=>intro _ Q K hK Z E st a w hI h;exact wpIn_ret (hK _ _ _ _ _ _ h hI)
 |rangeFunc f ps x y=>
  intro hρ Q K hK Z E st a w hI h;obtain rfl:ρ=none:=hρ.resolve_right (λh=>nomatch h);exact c65 hT hI hK h
 |scope body ih=>
  intro hρ Q K hK Z E st a w hI h;simp only[dB]at h;refine dy9 (ih hρ (λe Z' E' st' a' w' hk hI'=>?_) Z E st a w hI h);cases e with
  |goto l=>grind
  |normal=>grind
  |exit j=>grind
  |ret=>grind
  |panic ch=>grind
  |outgrown=>grind
 |label l=>intro _ Q K hK Z E st a w hI h;exact wpIn_label (hK _ _ _ _ _ _ h hI)
 |goto l=>intro _ Q K hK Z E st a w hI h;exact h.elim
 |refuse why=>intro _ Q K hK Z E st a w hI h;exact h.elim
theorem aT0(hT:X9 P T)(hI:Inv G Z0 w0 S n Z E st a w){rv:ResultVar}{c:CV}(h:zV T st rv=some c):
 ∃x,(match rv with|.tmp t=>pure (a.tmps.getD t undef)|.cell y t=>do loadVar t (<-asAddr (a.tmps.getD y undef)):Sem Value).run P w=.ok x w/\Rep Z w c x:=by
 cases rv with
 |tmp t=>exact⟨_,by simp,lZ (hI.env t) h⟩
 |cell y t=>
  simp only[zV]at h;split at h
  .rename_i i s g off hti he;split at h
   .rename_i g' cs ho;cases hb:Nat.beq g g' with
    |false=>grind
    |true=>
     rw[hb]at h;simp only[H7]at h;have:=F8 hb;subst this;have henv:=hI.env y;rw[he]at henv;obtain⟨b,_,hx,f,hc⟩:=BA hI (.inl ho) henv;obtain⟨v,hv,hr⟩:=aT5 (o:=0) (hT _ _ hti) (λj c hj=>by rw[V7];exact hc j c hj) h;refine⟨v,?_,hr⟩;simp only[Instr.loadAt,Instr.sureAddr,I7,Q5,N9,V7]at hv;simp only[hx,asAddr,I7,Q5,N9,hv]
   .simp at h
  .simp at h
theorem YZ(hT:X9 P T)(hI:Inv G Z0 w0 S n Z E st a w):∀(rs:List ResultVar)(cs:List CV),jG T st rs=some cs->
 ∃vs,(rs.mapM λrv=>(match rv with|.tmp t=>pure (a.tmps.getD t undef)|.cell y t=>do loadVar t (<-asAddr (a.tmps.getD y undef)):Sem Value)).run P w=.ok vs w/\O8 Z w cs vs
 |[],cs,h=>by simp[jG]at h;subst h;exact⟨[],by simp,O8.nil _ _⟩
 |rv::rs,cs,h=>by
  simp only[jG]at h;split at h
  .rename_i c cs' h1 h2;simp at h;subst h;obtain⟨x,hx,hr⟩:=aT0 hT hI h1;obtain⟨vs,hvs,hrs⟩:=YZ hT hI rs cs' h2;refine⟨x::vs,?_,O8.cons hr hrs⟩;simp only[List.mapM_cons,I7,hx,N9,hvs,Q5]
  .simp at h
theorem aT2(hT:X9 P T)(hI:Inv G Z0 w0 S n Z E st a w){fn:Func}{r:CV}(h:ZA T st fn.results.toList=some r):∃x,(results fn a.tmps).run P w=.ok x w/\Rep Z w r x:=by
 unfold results;rw[Array.mapM_eq_mapM_toList];unfold ZA at h;split at h
 .rename_i rv hrs;obtain⟨x,hx,hr⟩:=aT0 hT hI h;refine⟨x,?_,hr⟩;simp only[hrs,List.mapM_cons,List.mapM_nil,I7,Sem.run_map,Q5,N9];exact congrArg (λr:Result Value=>((r.andThen λa w'=>Result.ok [a] w').andThen λa w'=>Result.ok a.toArray w').andThen λa w'=>Result.ok (if h:a.size=1 then a[0]else Value.tuple a) w') hx
 .rename_i hne;cases hra:jG T st fn.results.toList with
  |none=>grind
  |some cs=>
   rw[hra]at h;simp at h;subst h;obtain⟨vs,hvs,hrs⟩:=YZ hT hI _ _ hra;have hlen:∀(rs:List ResultVar)(cs:List CV),jG T st rs=some cs->cs.length=rs.length:=by
    intro rs;induction rs with
    |nil=>intro cs h;simp[jG]at h;subst h;rfl
    |cons rv rs ih=>
     intro cs h;simp only[jG]at h
     grind
   have h1:vs.length≠1:=λe=>by
    have:=hlen _ _ hra;rw[hrs.1,e]at this
    match hl:fn.results.toList,this with
    |[x],_=>grind
   refine⟨.tuple vs.toArray,?_,.P7 cs vs hrs.1 hrs.2⟩;simp only[I7,Sem.run_map,Q5];refine(congrArg (λr:Result (List Value)=>(r.andThen λa w'=>Result.ok a.toArray w').andThen λa w'=>Result.ok (if h:a.size=1 then a[0]else Value.tuple a) w') hvs).trans ?_;simp only[N9]
   grind
theorem bu9:∀(args:List CV)(vs:List Value)(_:O8 Z w args vs)(t:Nat),N7 Z w (λ_=>(0,.none)) E (ak8 args t) (vs.getD t undef)
 |[],vs,_,t=>.any _
 |c::args,[],h,t=>by have:=h.1;simp at this
 |c::args,x::vs,h,0=>.c _ _ h.head
 |c::args,x::vs,h,t+1=>by simpa[ak8]using bu9 args vs h.tail t
end
end Go.F6
namespace Go.F6
open Go Go.RowKit
section
variable{P:Program}{G:World->Prop}{T:Tab}{Z0:Base}{w0:World}{S:Nat->Prop}{n:Nat}{Z Z':Zone}{E:Nat->Value}{st:St}{a:Act}{w w':World}
def oZ(a:Act)(rv:ResultVar):Sem Value:=match rv with|.tmp t=>pure (a.tmps.getD t undef)|.cell y t=>do loadVar t (<-asAddr (a.tmps.getD y undef))
def iY(Z:Zone)(obj:I5)(E:Nat->Value):Zone:=λb o=>Z b o\/∃s,(obj s).2.blk (E s) b
theorem be0:Keeps Z w (iY Z st.obj E) w:=λ_ _ hz=>⟨.inl hz,rfl,λ_ _ h=>h⟩
theorem be1{ts:List Nat}:Keeps (Zf Z st.obj E ts) w (iY Z st.obj E) w:=λ_ _ hz=>⟨hz.imp id λ⟨s,_,h⟩=>⟨s,h⟩,rfl,λ_ _ h=>h⟩
theorem cj6(hI:Inv G Z0 w0 S n Z E st a w){t g el sz:Nat}{ds:List (List CV)}(ho:st.obj t=(g,.arr el sz ds none)):Rep (iY Z st.obj E) w (.sl sz ds) (E t):=
 (ay6 hI ho (xR.2 rfl) rfl).keep be1
theorem ai9(hI:Inv G Z0 w0 S n Z E st a w){cs cs':List CV}(h:DJ st.obj cs=some cs'):cs'.length=cs.length/\∀(j:Nat)(c c':CV),cs[j]?=some c->cs'[j]?=some c'->
 (c.atom=true->c'.atom=true)/\∀x,X5 Z w st.obj E c x->Rep (iY Z st.obj E) w c' x:=by
 unfold DJ at h;cases hf:uJ st.obj cs with
 |none=>grind
 |some p=>
  obtain⟨ds,ts⟩:=p;rw[hf]at h;simp at h;subst h;obtain⟨h1,h2⟩:=aE7 hI (us:=ts) hf (λ_ h=>h);refine⟨h1,λj c c' h3 h4=>?_⟩;obtain⟨c0,h5,h6,h7⟩:=h2 j c' h4;rw[h3]at h5;cases h5;exact⟨h6,λx hx=>(h7 x hx).keep be1⟩
theorem cj4(hI:Inv G Z0 w0 S n Z E st a w){t g el sz m:Nat}{ds:List (List CV)}{cs cs':List CV}(ho:st.obj t=(g,.arr el sz ds (some (m,cs))))(hf:DJ st.obj cs=some cs'):
 Rep (iY Z st.obj E) w (.sl sz (ds.set m cs')) (E t):=by
 have hot:=hI.obj t;rw[ho]at hot;obtain⟨xs,hsz,hown,hfoc,hdl,hcl,hz⟩:=hot;have hm:=hfoc.1 m cs rfl;obtain⟨hl,hsp⟩:=ai9 hI hf;have hcx:∀k,Y8 ds (some (m,cs)) k=if k=m then some cs else ds[k]?:=λk=>rfl
 have br0:cs.length=sz:=hdl m cs hm (by rw[hcx,I4 rfl]);refine YW (m0:=ds.length) hown (by simp) (λi d hd=>?_) (λi j d c h1 h2=>?_) (λb o hb _=>.inr ⟨t,by rw[ho,iF];exact hb⟩)
 .grind
 .by_cases hi:i=m
  .subst hi;rw[List.getElem?_set_self hm]at h1;injection h1 with h1
   subst h1;have hjl:j<cs.length:=by grind
   obtain⟨hat,u,hu,hr⟩:=hcl i cs hm (by rw[hcx,I4 rfl]) j _ (I9 hjl)
   grind
  .rw[List.getElem?_set_ne (Ne.symm hi)]at h1;obtain⟨hat,u,hu,hr⟩:=hcl i d (O4.1 h1).1 (by rw[hcx,F9 hi];exact h1) j c h2
   have hcr:=kY (hfoc.2 i d h1 (λm' d'' he=>by
    simp only[Z9,dI]at he
    rw[<-he.1];exact hi)) h2
   exact⟨hat,u,hu,(hr.closed hcr).keep be0⟩
theorem bM1(hT:X9 P T)(hI:Inv G Z0 w0 S n Z E st a w){rv:ResultVar}{c:CV}(h:ZB T st rv c):
 ∃x,(oZ a rv).run P w=.ok x w/\Rep (iY Z st.obj E) w c x:=by
 have old:zV T st rv=some c->∃x,(oZ a rv).run P w=.ok x w/\Rep (iY Z st.obj E) w c x:=λh=>by
  obtain⟨x,h1,h2⟩:=aT0 hT hI h;exact⟨x,by cases rv<;>exact h1,h2.keep be0⟩
 cases rv with
 |tmp t=>
  have henv:=hI.env t;unfold ZB at h;simp only at h;split at h
  .rename_i s g he;rw[he]at henv;split at h
   .rename_i g' el sz ds D8 ho;obtain⟨hb,ds',rfl,h⟩:=h;have:=F8 hb;subst this;refine⟨a.tmps.getD t undef,rfl,?_⟩;have hE:a.tmps.getD t undef=E s:=by
     generalize a.tmps.getD t undef=y at henv;cases henv with|rs _ _ _ _ _ hE=>exact(hE _ _ _ _ ho).symm
    rw[hE];cases D8 with
    |none=>simp only at h;subst h;exact cj6 hI ho
    |some p=>
     obtain⟨m,cs⟩:=p;obtain⟨cs',hf,rfl⟩:=h;exact cj4 hI ho hf
   .exact h.elim
  .rename_i cs he;rw[he]at henv;obtain⟨cs',hf,rfl⟩:=h;refine⟨a.tmps.getD t undef,rfl,?_⟩;generalize a.tmps.getD t undef=y at henv;cases henv with
   |aC _ vs hl hr ha=>
    obtain⟨q1,q2⟩:=ai9 hI hf;refine .agg cs' vs (by omega) (λi c v h1 h2=>?_) (λi c h1=>?_)
    .have hil:i<cs.length:=by rw[<-q1];exact(O4.1 h1).1
     exact(q2 i _ c (I9 hil) h1).2 v (hr i _ v (I9 hil) h2)
    .have hil:i<cs.length:=by rw[<-q1];exact(O4.1 h1).1
     exact(q2 i _ c (I9 hil) h1).1 (ha i _ (I9 hil))
  .rename_i s g he;rw[he]at henv;split at h
   .rename_i g' es ho;obtain⟨hb,rfl⟩:=h;have:=F8 hb;subst this;have hf:DJ st.obj [.mr s g]=some [.mp es]:=by simp[DJ,uJ,qG,ho]
    obtain⟨_,q2⟩:=ai9 hI hf;refine⟨a.tmps.getD t undef,rfl,?_⟩;generalize a.tmps.getD t undef=y at henv;cases henv with|mr _ _ _ hs hg hE=>exact(q2 0 _ _ rfl rfl).2 _ (.one (.mr _ _ _ hs hg hE))
   .exact h.elim
  .exact old h
 |cell y t=>
  unfold ZB at h;simp only at h;split at h
  .rename_i i s g off hti he;have henv:=hI.env y;rw[he]at henv;split at h
   .rename_i g' cs ho;obtain⟨hb,cs',hf,hp⟩:=h;have:=F8 hb;subst this;obtain⟨b,_,hx,f,hc⟩:=ac5 hI ho henv;obtain⟨q1,q2⟩:=ai9 hI hf
    obtain⟨v,hv,hr⟩:=aT5 (Z:=iY Z st.obj E) (o:=0) (cs:=cs') (hT _ _ hti) (λj c hj=>by
     have hil:j<cs.length:=by grind
     obtain⟨r1,r2,r3⟩:=hc j _ (I9 hil);obtain⟨s1,s2⟩:=q2 j _ c (I9 hil) hj
     rw[V7];exact⟨r1,s1 r2,s2 _ r3⟩) hp
    refine⟨v,?_,hr⟩;simp only[Instr.loadAt,Instr.sureAddr,I7,Q5,N9,V7]at hv;simp only[oZ,hx,asAddr,I7,Q5,N9,hv]
   .exact old h
  .exact h.elim
theorem bM2(hT:X9 P T)(hI:Inv G Z0 w0 S n Z E st a w):∀(rs:List ResultVar)(cs:List CV),ZC T st rs cs->
 ∃vs,(rs.mapM λrv=>oZ a rv).run P w=.ok vs w/\O8 (iY Z st.obj E) w cs vs/\cs.length=rs.length
 |[],cs,h=>by simp[ZC]at h;subst h;exact⟨[],by simp,O8.nil _ _,rfl⟩
 |rv::rs,[],h=>by simp[ZC]at h
 |rv::rs,c::cs,h=>by
  obtain⟨x,hx,hr⟩:=bM1 hT hI h.1;obtain⟨vs,hvs,hrs,hl⟩:=bM2 hT hI rs cs h.2;refine⟨x::vs,?_,O8.cons hr hrs,by simp[hl]⟩;simp only[List.mapM_cons,I7,hx,N9,hvs,Q5]
theorem bM3(fn:Func)(a:Act):results fn a.tmps=(do
 let vs <-(fn.results.toList.mapM (oZ a))
 pure (if h:vs.toArray.size=1 then vs.toArray[0]else Value.tuple vs.toArray)):=by
 unfold results;rw[Array.mapM_eq_mapM_toList];simp only[map_eq_pure_bind,bind_assoc,pure_bind]
 first|rfl|(congr 1;congr 1;funext rv;cases rv<;>rfl)
theorem SQ{fn:Func}{rv:ResultVar}{x:Value}(hrs:fn.results.toList=[rv])(hx:(oZ a rv).run P w=.ok x w):(results fn a.tmps).run P w=.ok x w:=by
 rw[bM3,hrs];simp[hx]
theorem aT1{fn:Func}{vs:List Value}(hvs:(fn.results.toList.mapM λrv=>oZ a rv).run P w=.ok vs w)(h1:vs.length≠1):(results fn a.tmps).run P w=.ok (.tuple vs.toArray) w:=by
 rw[bM3];simp only[I7,hvs,N9,Q5]
 grind
theorem bG3{τ:List (Nat×Nat)}:∀{l:List (Nat×Nat)}{os:List (Nat×Nat×List (List CV)×Option (Nat×List CV))},SA st τ l os->os.length=l.length/\∀(j t g:Nat),l[j]?=some (t,g)->∃el sz ds D8 f,os[j]?=some (el,sz,ds,D8)/\OB τ D8=some f/\st.obj t=(g,.arr el sz ds f)
 |[],os,h=>by simp[SA]at h;subst h;exact⟨rfl,λj t g h=>by simp at h⟩
 |(t0,g0)::l,[],h=>by simp[SA]at h
 |(t0,g0)::l,(el,sz,ds,D8)::os,h=>by
  simp only[SA]at h;obtain⟨h1,h2⟩:=h;obtain⟨q1,q2⟩:=bG3 h2;refine⟨by simp[q1],λj t g hj=>?_⟩;cases j with
  |zero=>grind
  |succ j=>grind
theorem ae7{τ:List (Nat×Nat)}:∀{cs cs':List CV},tX τ cs=some cs'->cs'.length=cs.length/\∀(j:Nat)(c c':CV),cs[j]?=some c->cs'[j]?=some c'->jM τ c=some c'
 |[],cs',h=>by simp[tX]at h;subst h;exact⟨rfl,λj c c' h=>by simp at h⟩
 |c0::r,cs',h=>by
  simp only[tX]at h;split at h
  .rename_i c1 cs1 h1 h2;simp at h;subst h;obtain⟨q1,q2⟩:=ae7 h2;refine⟨by simp[q1],λj c c' hj hj'=>?_⟩;cases j with
   |zero=>grind
   |succ j=>grind
  .simp at h
theorem OA{τ:List (Nat×Nat)}{c c':CV}(h:jM τ c=some c'):c.nK=false/\(∀j,c=.ow j->j<τ.length)/\(c.atom=c'.atom):=by
 cases c with
 |ow j=>
  simp only[jM]at h;split at h
  .rename_i t g ht;simp at h;subst h;exact⟨rfl,λk e=>by cases e;exact(O4.1 ht).1,rfl⟩
  .simp at h
 |rs t g=>simp[jM]at h
 |pr t g off=>simp[jM]at h
 |mr t g=>simp[jM]at h
 |fr f caps=>simp[jM]at h
 |bp T f=>simp[jM]at h
 |_=>simp only[jM,Z9]at h;subst h;exact⟨rfl,λk e=>(nomatch e),rfl⟩
theorem bC3:∀{l:List Nat},nodupB l=true->∀(i j x:Nat),l[i]?=some x->l[j]?=some x->i=j
 |[],_,i,j,x,h,_=>by simp at h
 |y::r,h,i,j,x,hi,hj=>by
  simp only[nodupB]at h;cases hb:r.any (Nat.beq y)with
  |true=>grind
  |false=>
   rw[hb]at h;have hno:∀k,r[k]?≠some y:=λk hk=>by
    have:r.any (Nat.beq y)=true:=List.any_eq_true.2 ⟨y,iC hk,by simp⟩
    grind
   cases i with
   |zero=>grind
   |succ i=>
    cases j with
    |zero=>grind
    |succ j=>rw[bC3 h i j x (by simpa using hi) (by simpa using hj)]
theorem da1(hT:X9 P T)(hI:Inv G Z0 w0 S n Z E st a w){fn:Func}{r:CV}{os:List (Nat×Nat×List (List CV)×Option (Nat×List CV))}(h:bM0 T st fn.results.toList r os):
 ∃x,(results fn a.tmps).run P w=.ok x w/\NU Z (λb=>¬S b) w r os x:=by
 obtain⟨τ,hnd,hos,hr⟩:=h;obtain⟨hol,cH9⟩:=bG3 hos
 let Eo:Nat->Value:=λj=>match τ[j]? with|some (t,_)=>E t|.none=>undef
 have WV:∀j t g,τ[j]?=some (t,g)->Eo j=E t:=λj t g h=>by grind
 have hget:∀j,j<os.length->∃t g el sz ds D8 f,τ[j]?=some (t,g)/\os[j]?=some (el,sz,ds,D8)/\OB τ D8=some f/\st.obj t=(g,.arr el sz ds f):=λj hj=>by
  have hj':j<τ.length:=by omega
  obtain⟨el,sz,ds,D8,f,h1,h2,h3⟩:=cH9 j (τ[j]'hj').1 (τ[j]'hj').2 (I9 hj')
  grind
 have bs4:∀j el sz ds D8,os[j]?=some (el,sz,ds,D8)->dM os j=(0,.arr el sz ds (match D8 with|.none=>.none|some (m,cs)=>some (m,cs.map qR))):=λj el sz ds D8 h=>by
  cases D8 with
  |none=>simp[dM,h]
  |some p=>obtain⟨m,cs⟩:=p;simp[dM,h]
 have hcell:∀(c c':CV)(u:Value),jM τ c=some c'->X5 Z w st.obj E c' u->X5 Z w (dM os) Eo (qR c) u:=by
  intro c c' u hb hx;cases c with
  |ow j=>
   simp only[jM]at hb;split at hb
   .rename_i t g ht;simp at hb;subst hb;have hj:j<os.length:=by grind
    obtain⟨t',g',el,sz,ds,D8,f,h1,h2,h3,h4⟩:=hget j hj;rw[ht]at h1;simp at h1;obtain⟨rfl,rfl⟩:=h1;cases hx with
    |one hx=>
     cases hx with
     |cl hx=>cases hx
     |rs _ _ _ hs _ hE=>
      refine .one (.rs j 0 _ hs (Y3 _) λ_ _ _ _ _=>?_)
      grind
   .simp at hb
  |rs t g=>simp[jM]at hb
  |pr t g off=>simp[jM]at hb
  |mr t g=>simp[jM]at hb
  |fr f caps=>simp[jM]at hb
  |bp T f=>simp[jM]at hb
  |_=>simp only[jM,Z9]at hb;subst hb;exact .cl (hx.closed rfl)
 have jB:∀j,U6 Z w (dM os) Eo (Eo j) (dM os j).2:=by
  intro j;by_cases hj:j<os.length
  .obtain⟨t,g,el,sz,ds,D8,f,h1,h2,h3,h4⟩:=hget j hj;have hot:=hI.obj t;rw[h4]at hot;rw[bs4 j el sz ds D8 h2,WV j t g h1];cases D8 with
   |none=>
    simp[OB]at h3;subst h3;obtain⟨xs,q1,q2,q3,q4,q5,q6⟩:=hot;refine⟨xs,q1,q2,q3,q4,λi d hi hd j c hj=>?_,q6⟩;obtain⟨r1,u,r2,r3⟩:=q5 i d hi hd j c hj;exact⟨r1,u,r2,.cl (r3.closed (kY (q3.2 i d hd (λ_ _ h=>nomatch h)) hj))⟩
   |some p=>
    obtain⟨m,cs⟩:=p;simp only[OB]at h3;cases hbl:tX τ cs with
    |none=>grind
    |some cs'=>
     rw[hbl]at h3;simp at h3;subst h3;obtain⟨b1,b2⟩:=ae7 hbl;obtain⟨xs,q1,q2,q3,q4,q5,q6⟩:=hot;have hcx:∀k,Y8 ds (some (m,cs.map qR)) k=if k=m then some (cs.map qR)else ds[k]?:=λk=>rfl
     have nJ:∀k,Y8 ds (some (m,cs')) k=if k=m then some cs' else ds[k]?:=λk=>rfl
     refine⟨xs,q1,q2,⟨λm' d' he=>?_,λi d hd hne=>?_⟩,λi d hi hd=>?_,λi d hi hd j' c hj'=>?_,q6⟩
     .simp only[Z9,dI]at he;rw[<-he.1];exact q3.1 m cs' rfl
     .exact q3.2 i d hd (λm' d'' he=>by
       simp only[Z9,dI]at he;rw[<-he.1]
       exact hne m _ rfl)
     .rw[hcx]at hd;by_cases hk:i=m
      .grind
      .grind
     .rw[hcx]at hd;by_cases hk:i=m
      .rw[I4 hk]at hd;injection hd with hd
       subst hd;rw[O6]at hj';cases hcj:cs[j']? with
       |none=>grind
       |some c0=>
        rw[hcj]at hj';simp at hj';subst hj';have hjl:j'<cs'.length:=by grind
        have hbc:=b2 j' c0 _ hcj (I9 hjl);obtain⟨r1,u,r2,r3⟩:=q5 i cs' hi (by rw[nJ,I4 hk]) j' _ (I9 hjl);refine⟨?_,u,r2,hcell c0 _ u hbc r3⟩;rw[<-(OA hbc).2.2]at r1;cases c0<;>first|exact r1|rfl
      .rw[F9 hk]at hd;obtain⟨r1,u,r2,r3⟩:=q5 i d hi (by rw[nJ,F9 hk];exact hd) j' c hj'
       exact⟨r1,u,r2,.cl (r3.closed (kY (q3.2 i d hd (λm' d'' he=>by
        simp only[Z9,dI]at he
        rw[<-he.1];exact hk)) hj'))⟩
  .have:dM os j=(0,.none):=by simp[dM,rM (xX hj)]
   rw[this];trivial
 have hblk:∀j b,(dM os j).2.blk (Eo j) b->∃t g,τ[j]?=some (t,g)/\(st.obj t).2.blk (E t) b:=by
  intro j b hb;by_cases hj:j<os.length
  .grind
  .have:dM os j=(0,.none):=by simp[dM,rM (xX hj)]
   grind
 have hap:∀j j' b,j≠j'->(dM os j).2.blk (Eo j) b->¬(dM os j').2.blk (Eo j') b:=by
  intro j j' b hne h1 h2;obtain⟨t,g,ht,hb⟩:=hblk j b h1;obtain⟨t',g',ht',hb'⟩:=hblk j' b h2;refine hI.apart t t' b (λe=>hne ?_) hb hb';subst e;exact bC3 hnd j j' t (by rw[O6,ht];rfl) (by rw[O6,ht'];rfl)
 have hsl:∀j,j<os.length->∃a l k,Eo j=.slice a l k:=by
  intro j hj;obtain⟨t,g,el,sz,ds,D8,f,h1,h2,h3,h4⟩:=hget j hj;have hot:=hI.obj t;rw[h4]at hot;obtain⟨xs,_,hown,_⟩:=hot;rw[WV j t g h1];rcases hown.2 with⟨he,_⟩|⟨b,cap,cur,he,_⟩<;>exact⟨_,_,_,he⟩
 have hfoc:∀(k el sz:Nat)(ds:List (List CV))(m:Nat)(cs:List CV),os[k]?=some (el,sz,ds,some (m,cs))->nN cs=true/\∀(i j:Nat),cs[i]?=some (.ow j)->j<os.length:=by
  intro k el sz ds m cs hk;have hkl:k<os.length:=(O4.1 hk).1;obtain⟨t,g,dK,sz',ds',D8,f,h1,h2,h3,h4⟩:=hget k hkl;rw[hk]at h2;simp at h2;obtain⟨rfl,rfl,rfl,rfl⟩:=h2;simp only[OB]at h3;cases hbl:tX τ cs with
  |none=>grind
  |some cs'=>
   obtain⟨b1,b2⟩:=ae7 hbl;have hb:∀j c,cs[j]?=some c->∃c',jM τ c=some c':=λj c hj=>by
    have hjl:j<cs'.length:=by rw[b1];exact(O4.1 hj).1
    grind
   refine⟨KQ λj c hj=>?_,λi j hi=>?_⟩
   .obtain⟨c',hc'⟩:=hb j c hj;exact(OA hc').1
   .obtain⟨c',hc'⟩:=hb i _ hi;rw[hol];exact(OA hc').2.1 j rfl
 have hfr:∀j b,(dM os j).2.blk (Eo j) b->¬S b:=λj b hb=>by
  by_cases hj:j<os.length
  .obtain⟨t,g,el,sz,ds,D8,f,h1,h2,h3,h4⟩:=hget j hj;rw[bs4 j el sz ds D8 h2,WV j t g h1,iF]at hb;exact hI.own t b (by rw[h4,iF];exact hb)
  .have:dM os j=(0,.none):=by unfold dM;rw[rM (by omega)]
   grind
 have agg:∀(cs ys:List CV)(vs:List Value),tX τ cs=some ys->ys.length=vs.length->(∀(i:Nat)(c:CV)(v:Value),ys[i]?=some c->vs[i]?=some v->X5 Z w st.obj E c v)->(∀(i:Nat)(c:CV),ys[i]?=some c->c.atom=true)->
  NU Z (λb=>¬S b) w (.agg cs) os (.agg vs.toArray):=by
  intro cs ys vs hbl hl hrep hat;obtain⟨b1,b2⟩:=ae7 hbl;have hb:∀j c,cs[j]?=some c->∃c',ys[j]?=some c'/\jM τ c=some c':=λj c hj=>by
   have hjl:j<ys.length:=by rw[b1];exact(O4.1 hj).1
   exact⟨_,I9 hjl,b2 j c _ hj (I9 hjl)⟩
  refine⟨Eo,jB,hap,hfr,hsl,hfoc,vs,KQ λj c hj=>?_,rfl,by omega,λi c v h1 h2=>?_,λi c h1=>?_,λi j hi=>?_⟩
  .obtain⟨c',_,hc'⟩:=hb j c hj;exact(OA hc').1
  .grind
  .obtain⟨c',hy,hc'⟩:=hb i c h1;rw[(OA hc').2.2];exact hat i c' hy
  .obtain⟨c',_,hc'⟩:=hb i _ hi;rw[hol];exact(OA hc').2.1 j rfl
 split at hr
 .rename_i t j hrs;cases hτ:τ[j]? with
  |none=>grind
  |some p=>
   obtain⟨t',g'⟩:=p;rw[hτ]at hr;simp at hr;have henv:=hI.env t;rw[<-hr]at henv;have hj:j<os.length:=by grind
   obtain⟨t2,g2,el,sz,ds,D8,f,h1,h2,h3,h4⟩:=hget j hj;rw[hτ]at h1;simp at h1;obtain⟨rfl,rfl⟩:=h1;refine⟨a.tmps.getD t undef,SQ hrs rfl,Eo,jB,hap,hfr,hsl,hfoc,?_,hj⟩;generalize a.tmps.getD t undef=y at henv;cases henv with
   |rs _ _ _ _ _ hE=>grind
 .rename_i t cs hrs;cases hbl:tX τ cs with
  |none=>grind
  |some ys=>
   rw[hbl]at hr;simp at hr;have henv:=hI.env t;rw[<-hr]at henv;refine⟨a.tmps.getD t undef,SQ hrs rfl,?_⟩;generalize a.tmps.getD t undef=y at henv;cases henv with
   |aC _ vs hl hrep ha=>grind
 .rename_i y t cs hrs;split at hr
  .rename_i i s g off hti he;split at hr
   .rename_i g' ys ho;obtain⟨hb,hr⟩:=hr;have:=F8 hb;subst this;obtain⟨zs,hbl,hp⟩:=hr;have henv:=hI.env y;rw[he]at henv;obtain⟨b,_,hx,f,hc⟩:=ac5 hI ho henv;obtain⟨v,hv,hrep⟩:=bO2 (o:=0) (hT _ _ hti) (λj c hj=>by rw[V7];exact hc j c hj) hp;refine⟨v,SQ hrs ?_,?_⟩
    .simp only[Instr.loadAt,Instr.sureAddr,I7,Q5,N9,V7]at hv;simp only[oZ,hx,asAddr,I7,Q5,N9,hv]
    .simp only[xA]at hrep;cases hn:nN zs with
     |true=>
      rw[hn]at hrep;cases hrep with
      |c _ _ hr=>
       cases hr with
       |agg _ vs hl hr ha=>exact agg cs zs vs hbl hl (λi c v h1 h2=>.cl (hr i c v h1 h2)) ha
     |false=>
      rw[hn]at hrep;cases hrep with
      |aC _ vs hl hr ha=>grind
   .grind
  .grind
 .grind
theorem U6.aN4{obj:I5}{o:D9}{e:Value}{b:Nat}(h:U6 Z w obj E e o)(hb:o.blk e b):w.heap[b]?≠some jZ:=by
 intro hd;cases o with
 |none=>grind
 |spent=>grind
 |var cs=>
  obtain⟨b',el,arr,he,hh,_⟩:=h;rw[he]at hb;simp[D9.blk]at hb;subst hb;rw[hh]at hd;exact nomatch hd
 |ro cs=>
  obtain⟨b',el,arr,he,hh,_⟩:=h;rw[he]at hb;simp[D9.blk]at hb;subst hb;rw[hh]at hd;exact nomatch hd
 |tok el sz=>
  obtain⟨m,xs,hsz,hown,_⟩:=h;rw[aY3]at hb;obtain⟨cur,hc⟩:=SB hown hb;rw[hc]at hd;exact nomatch hd
 |varx cs=>
  obtain⟨b',el,arr,he,hh,_⟩:=h;rw[he]at hb;simp[D9.blk]at hb;subst hb;rw[hh]at hd;exact nomatch hd
 |arr el sz ds D8=>
  obtain⟨xs,hsz,hown,_⟩:=h;rw[iF]at hb;obtain⟨cur,hc⟩:=SB hown hb;rw[hc]at hd;exact nomatch hd
 |map es=>
  obtain⟨b',arr,clock,he,hh,_⟩:=h;rw[he]at hb;simp[D9.blk]at hb;subst hb;rw[hh]at hd;exact nomatch hd
 |lp l R q=>
  simp[D9.blk]at hb;subst hb;rw[h.1]at hd;exact nomatch hd
theorem Keeps.c42{r:Nat}(hD:w.heap[r]?=some jZ):Keeps Z w Z (w.putObj r (.deferred none)):=λb o hz=>by
 refine⟨hz,?_⟩;by_cases hb:b=r
 .subst hb;have h2:(w.putObj b (.deferred none)).heap[b]?=some (.deferred none):=World.putObj_heap_same (V4.1 hD).1;refine⟨?_,λes c he=>by rw[hD]at he;exact nomatch he⟩;simp[World.cell?,h2,hD,jZ]
 .exact iH (gK hb)
theorem kL.put{B r:Nat}:∀{ds:List Deferred},(∀d'∈ds,d'≠{ target:=.collected r,args:=#[] })->kL B w ds->kL B (w.putObj r (.deferred none)) ds
 |[],_,_=>trivial
 |d::ds,hne,⟨⟨r',h1,h2,h3,h4⟩,h⟩=>by
  refine⟨⟨r',h1,(gK (λe=>?_)).trans h2,h3,h4⟩,kL.put (λd' hd'=>hne d' (NR _ hd')) h⟩
  grind
theorem Inv.shut(hI:Inv G Z0 w0 S n Z E st a w){d:Deferred}{ds:List Deferred}(hd:a.defers=d::ds):∃r,d.target=.collected r/\(Instr.takeDeferred r).run P w=.ok [] (w.putObj r (.deferred none))/\
 Inv G Z0 w0 S n Z E st { a with defers:=ds } (w.putObj r (.deferred none)):=by
 have hdf:=hI.defers;rw[hd]at hdf;obtain⟨⟨r,hr,hD,hB,hne⟩,hds⟩:=hdf;have hoth:∀k,k≠r->(w.putObj r (.deferred none)).heap[k]?=w.heap[k]?:=λk hk=>gK hk;have hk:Keeps Z w Z (w.putObj r (.deferred none)):=.c42 hD;refine⟨r,by rw[hr],run_takeDeferred hD,?_⟩;exact
 { gs:=hI.gs
   slt:=hI.slt
   below:=⟨hI.below.os,hI.below.tape,hI.below.output,by simpa using hI.below.size,λk hk=>(hoth k (λe=>by have:=hI.slt k hk;omega)).trans (hI.below.block k hk),
    λk hk=>(hoth k (λe=>by have:=(V4.1 hk).1;omega)).trans (hI.below.bG k hk)⟩
   defers:=kL.put hne hds
   sz:=hI.sz
   U4:=λb o h=>by simpa using hI.U4 b o h
   keeps:=hI.keeps.trans hk
   pin:=hI.pin
   fB:=hI.fB
   env:=λt=>(hI.env t).keep hk (dH.refl _ _)
   obj:=λt=>(hI.obj t).keep hk (dH.refl _ _) λb hb=>⟨hoth b (λe=>(hI.obj t).aN4 hb (e▸hD)),λ_ h=>h⟩
   own:=hI.own
   apart:=hI.apart }
theorem XY{fn:Func}{R:Ending->World->Prop}:∀(ds:List Deferred)(a:Act)(w:World),a.defers=ds->Inv G Z0 w0 S n Z E st a w->
 (∀w',Inv G Z0 w0 S n Z E st { a with defers:=[] } w'->LeavesIn (dG none) 0 P fn a.tmps R [] .returning w')->LeavesInM (dG none) 0 P fn a.tmps R ds .returning w
 |[],a,w,hd,hI,h=>h w (by have:a={ a with defers:=[] }:=by cases a;simp only at hd;rw[hd]
                          rw[<-this];exact hI)
 |d::ds,a,w,hd,hI,h=>by
  obtain⟨r,h1,h2,h3⟩:=hI.shut (P:=P) hd;exact⟨λe=>(nomatch e),.inl ⟨r,_,h1,h2,XY ds { a with defers:=ds } _ rfl h3 h⟩⟩
theorem cH7(hT:X9 P T)(hm:P.follows .mixedOrders=true){f:FuncId}{fn:Func}{code:Code}{args:List CV}{r:CV}(hf:P.funcs[f]?=some fn)(hname:(fn.name== "runtime.NumGoroutine")=false)(hb:fn.body=some code)(hn:args.length<=fn.ntmps)
 (h:dB (gX P G) T fn.ntmps code (bL8 T fn.results.toList r) (XK args)):Holds P G f args r:=by
 refine⟨⟨fn,hf,hname,by rw[hb];rfl⟩,?_⟩;intro Z w vs hrep hz hgw;refine OH.1 (callsIn_of_wp_marks (F:=dG none) (n:=0) hf hb trivial ?_);have hvl:vs.length<=fn.ntmps:=by rw[<-hrep.1];exact hn
 have hI:Inv G ⟨Z,λ_=>(0,.none),λ_=>undef⟩ w (λk=>k<w.heap.size) fn.ntmps Z (λ_=>undef) (XK args) { tmps:=vs.toArray++Array.replicate (fn.ntmps-vs.toArray.size) undef,defers:=[] } w:=
  { gs:=λw' h=>hgw w' h.below
    slt:=λ_ h=>h
    below:=Kept.refl _ _
    defers:=trivial
    sz:=by simp;omega
    U4:=hz
    keeps:=Keeps.refl _ _
    pin:=xZ.refl _ _
    fB:=λ_ _ h=>.inl h
    env:=λt=>by
     have hg:(vs.toArray++Array.replicate (fn.ntmps-vs.toArray.size) undef).getD t undef=vs.getD t undef:=by
      rw[aT,Array.getElem?_append]
      grind
     rw[hg];exact bu9 args vs hrep t
    obj:=λt=>trivial
    own:=λt b hb=>by simp[XK,D9.blk]at hb
    apart:=λt t' b _ hb=>by simp[XK,D9.blk]at hb }
 refine aw3 hT hm code (.inl rfl) (λe Z' E' st' a' w' hk hI'=>?_) Z _ _ _ w hI h;have fin:∀w',Inv G ⟨Z,λ_=>(0,.none),λ_=>undef⟩ w (λk=>k<w.heap.size) fn.ntmps Z' E' st' { a' with defers:=[] } w'->qW T fn.results.toList r st'->∃v,(results fn a'.tmps).run P w'=.ok v w'/\
  ∃(x:Value) (eH:Zone),Ending.returned v=.returned x/\BX eH (λb=>w.heap.size<=b) w' r x/\(∀b o,Z b o->eH b o)/\(∀b o,eH b o->(Z b o\/w.heap.size<=b)/\b<w'.heap.size)/\Below w.heap.size w w':=by
  intro w' hI';have closed:∀v,(results fn a'.tmps).run P w'=.ok v w'->Rep (iY Z' st'.obj E') w' r v->∃v,(results fn a'.tmps).run P w'=.ok v w'/\
   ∃(x:Value) (eH:Zone),Ending.returned v=.returned x/\BX eH (λb=>w.heap.size<=b) w' r x/\(∀b o,Z b o->eH b o)/\(∀b o,eH b o->(Z b o\/w.heap.size<=b)/\b<w'.heap.size)/\Below w.heap.size w w':=by
   intro v hv hr;refine⟨v,hv,v,_,rfl,.mk hr,λb o hz=>.inl (hI'.z0 b o hz),λb o hz=>?_,hI'.below.below⟩;rcases hz with hz|⟨s,hs⟩
   .exact⟨(hI'.fB b o hz).imp id xX,hI'.U4 b o hz⟩
   .exact⟨.inr (xX (hI'.own s b hs)),(hI'.obj s).lt hs⟩
  intro hfin;clear hk;unfold qW at hfin;rcases hfin with⟨hp,hres⟩|hres
  .obtain⟨v,hv,hr⟩:=aT2 hT hI' hres;exact⟨v,hv,v,Z',rfl,.mk hr,hI'.z0,λb o hz=>⟨(hI'.fB b o hz).imp id xX,hI'.U4 b o hz⟩,hI'.below.below⟩
  .split at hres
   .rename_i r os;obtain⟨v,hv,hr⟩:=da1 hT hI' hres;exact⟨v,hv,v,Z',rfl,hr.fr λ_=>xX,hI'.z0,λb o hz=>⟨(hI'.fB b o hz).imp id xX,hI'.U4 b o hz⟩,hI'.below.below⟩
   .rename_i cs;obtain⟨vs,hvs,hrs,hl⟩:=bM2 hT hI' _ _ hres.1;exact closed _ (aT1 hvs (by rw[<-hrs.1,hl];exact hres.2)) (.P7 cs vs hrs.1 hrs.2)
   .split at hres
    .rename_i rv hrs;obtain⟨v,hv,hr⟩:=bM1 hT hI' hres;exact closed v (SQ hrs hv) hr
    .grind
 cases e with
 |normal=>exact XY a'.defers a' w' rfl hI' λw2 hI2=>fin w2 hI2 hk
 |ret=>exact XY a'.defers a' w' rfl hI' λw2 hI2=>fin w2 hI2 hk
 |exit id=>exact hk.elim
 |goto l=>exact hk.elim
 |panic ch=>exact hk.elim
 |outgrown=>exact hk.elim
theorem dt8(P:Program):X9 P []:=λt i h=>by simp[Tab.get]at h
theorem dt7{P:Program}{t:Nat}{i:TI}{r:Tab}(h:N8 P t i)(hr:X9 P r):X9 P ((t,i)::r):=λt' i' h'=>by
 simp only[Tab.get]at h';cases hb:Nat.beq t t' with
 |true=>
  rw[hb]at h';simp only[H7,Z9]at h';have:=F8 hb
  grind
 |false=>rw[hb]at h';exact hr t' i' h'
end
end Go.F6
namespace Go.F6
open Go Go.RowKit
section
variable{H:iW}{T:Tab}{n:Nat}
theorem b98(all:List Oper){K K':St->Prop}(hk:∀st,K st->K' st):∀(l:List Oper)(st:St),wpOps H T n all l st K->wpOps H T n all l st K'
 |[],st,h=>hk st h
 |o::rest,st,h=>by
  simp only[wpOps]at h⊢;replace h:=Q8 h;obtain⟨hd,h⟩:=h;simp only[hd,H7];have go:=λst=>b98 all hk rest st;have ex:∀st:St,(dS H T (look st) st.obj o.dst o.op o.type λr _ u=>wpOps H T n all rest ⟨put st.env o.dst r,upd st.obj u⟩ K)->(dS H T (look st) st.obj o.dst o.op o.type λr _ u=>wpOps H T n all rest ⟨put st.env o.dst r,upd st.obj u⟩ K'):=
   λst h=>b96 h λr _ u h=>go _ h
  split at h
  .split at h
   .unfold ac8 at h⊢;split at h
    .exact λb hb=>go _ (h b hb)
    .grind
   .grind
  .rename_i j want _;split at h
   .exact h.elim
   .split at h
    .grind
    .grind
    .rename_i dj _ _ _ _ b _;refine⟨λhb=>?_,λhb=>?_⟩
     .grind
     .grind
    .exact go _ h
    .exact h.elim
theorem c77{g:Bool}{r:SV}{K K':SV->Prop}(hk:∀r,K r->K' r)(h:pF g r K):pF g r K':=by
 unfold pF at h⊢;cases g with
 |false=>exact hk _ h
 |true=>grind
theorem ca4(all:List Oper){K K':List Z7->St->Prop}(hk:∀tr st,K tr st->K' tr st):∀(l:List Oper)(i:Nat)(st:St)(tr:List Z7),kJ H T n all i l st tr K->kJ H T n all i l st tr K'
 |[],i,st,tr,h=>hk _ _ h
 |o::rest,i,st,tr,h=>by
  simp only[kJ]at h⊢;replace h:=Q8 h;obtain⟨hd,h⟩:=h;simp only[hd,H7];have go:=λi st tr=>ca4 all hk rest i st tr;have ex:(dS H T (look st) st.obj o.dst o.op o.type λr rd u=>pF (zD all i) r λr=>kJ H T n all (i+1) rest (dZ st o ⟨r,rd,u⟩) (⟨r,rd,u⟩::tr) K)->
   (dS H T (look st) st.obj o.dst o.op o.type λr rd u=>pF (zD all i) r λr=>kJ H T n all (i+1) rest (dZ st o ⟨r,rd,u⟩) (⟨r,rd,u⟩::tr) K'):=
   λh=>b96 h λr rd u h=>c77 (λr h=>go _ _ _ h) h
  split at h
  .exact ex h
  .rename_i j want _;split at h
   .exact h.elim
   .grind
theorem aw2(code:Code):∀{K K':Exit->St->Prop}(_:∀e st,K e st->K' e st)(st:St),dB H T n code K st->dB H T n code K' st:=by
 induction code with
 |skip=>intro K K' hk st h;exact hk _ _ h
 |region id ops draw=>
  intro K K' hk st h;simp only[dB]at h⊢;cases draw with
  |true=>exact ca4 ops.toList (λtr st h=>⟨h.1,hk _ _ h.2⟩) _ _ _ _ h
  |false=>exact b98 _ (λst h=>hk _ _ h) _ _ h
 |seq a b iha ihb=>
  intro K K' hk st h;simp only[dB]at h⊢;cases hj:KC a with
  |true=>grind
  |false=>grind
 |cond c a b iha ihb=>
  intro K K' hk st h;simp only[dB]at h⊢
  grind
 |block id body ih=>
  intro K K' hk st h;simp only[dB]at h⊢;refine ih (λe st h=>?_) st h;cases e with
  |exit j=>grind
  |_=>grind
 |loop body ih=>
  intro K K' hk st h;simp only[dB]at h⊢;obtain⟨I,h0,hs⟩:=h;refine⟨I,h0,λk st1 hi=>ih (λe st h=>?_) st1 (hs k st1 hi)⟩;cases e with
  |normal=>exact h
  |_=>grind
 |exit id=>intro K K' hk st h;exact hk _ _ h
 |label l=>intro K K' hk st h;exact hk _ _ h
 |scope body ih=>
  intro K K' hk st h;simp only[dB]at h⊢;refine ih (λe st h=>?_) st h;cases e with
  |goto l=>exact h
  |_=>grind
 |ret=>intro K K' hk st h;exact hk _ _ h
 |rangeFunc g ps x y=>
  intro K K' hk st h;obtain⟨s0,env,f,caps,h1,h2,h3,h⟩:=h;refine⟨s0,env,f,caps,h1,h2,h3,λl R q1 q2 q3 q4=>?_⟩;obtain⟨τ,off,args,os,r,os',k1,k2,k3,k4,g',b,J,k5,k6,k7⟩:=h l R q1 q2 q3 q4;refine⟨τ,off,args,os,r,os',k1,k2,k3,k4,g',b,J,k5,λhb=>hk _ _ (k6 hb),λhb=>?_⟩;have:=k7 hb;unfold aK5 at this⊢
  grind
 |_=>intro K K' hk st h;exact h.elim
theorem cR0{α:Type}(mk:α->List (Nat×SV))(mo:α->List (Nat×D9))(I:α->Prop)(μ:α->Nat)(x0:α){body:Code}{K:Exit->St->Prop}{st:St}(h0:I x0)(he:aB st (mk x0))(ho:GV st (mo x0))
 (step:∀x,I x->dB H T n body (λe st2=>match e with|.normal=>∃x',μ x'<μ x/\I x'/\aB st2 (mk x')/\GV st2 (mo x')|e=>K e st2) ⟨uU (mk x),mkObj (mo x)⟩):
 dB H T n (.loop body) K st:=by
 refine⟨λk st=>∃x,I x/\k=μ x/\st=⟨uU (mk x),mkObj (mo x)⟩,⟨μ x0,_,a96 he ho,x0,h0,rfl,rfl⟩,?_⟩;rintro k st ⟨x,hx,rfl,rfl⟩;refine aw2 body (λe st2 h=>?_) _ (step x hx);cases e with
 |normal=>
  obtain⟨x',hlt,hx',he',ho'⟩:=h;exact⟨μ x',_,hlt,a96 he' ho',x',hx',rfl,rfl⟩
 |_=>exact h
end
theorem bs6{P:Program}{G:World->Prop}{f:FuncId}{args:List CV}{r:CV}(hb:pO P f)(h:∀(Z:Zone)(w:World)(vs:List Value),O8 Z w args vs->(∀b o,Z b o->b<w.heap.size)->G w->
 Calls P f vs.toArray w λe w'=>∃(x:Value) (Z':Zone),e=.returned x/\Rep Z' w' r x/\(∀b o,Z b o->Z' b o)/\
  (∀b o,Z' b o->(Z b o\/w.heap.size<=b)/\b<w'.heap.size)/\Below w.heap.size w w'):Holds P G f args r:=
 ⟨hb,λZ w vs h1 h2 h3=>(h Z w vs h1 h2 (h3 w (Below.refl _ _))).mono λ_ _ ⟨x,Z',q1,q2,q3⟩=>⟨x,Z',q1,.mk q2,q3⟩⟩
theorem cH8{P:Program}{G:World->Prop}(hG:∀w w',G w->Below w.heap.size w w'->G w'){f:FuncId}{args:List CV}{r:CV}(h:Holds P G f args r)(hp:r.pure=true):pO P f/\∀(Z:Zone)(w:World)(vs:List Value),O8 Z w args vs->(∀b o,Z b o->b<w.heap.size)->G w->
 Calls P f vs.toArray w λe w'=>∃(x:Value) (Z':Zone),e=.returned x/\Rep Z' w' r x/\(∀b o,Z b o->Z' b o)/\
  (∀b o,Z' b o->(Z b o\/w.heap.size<=b)/\b<w'.heap.size)/\Below w.heap.size w w':=
 ⟨h.1,λZ w vs h1 h2 h3=>(h.2 Z w vs h1 h2 (hG w · h3)).mono λ_ _ ⟨x,Z',q1,q2,q3⟩=>⟨x,Z',q1,q2.pure hp,q3⟩⟩
end Go.F6
namespace Go.F6
open Go Go.RowKit
section
variable(H:iW)(T:Tab)(n:Nat)
def ca7(all:List Oper)(o:Oper)(ih:St->(St->Prop)->Prop)(st:St)(K:St->Prop):Prop:=
    bif inRange n o.dst then
     match o.guard with
     |.none=>match YJ o.op with
      |some (q,t,x)=>ac8 T st q t x λr=>ih ⟨put st.env o.dst r,st.obj⟩ K
      |.none=>dS H T (look st) st.obj o.dst o.op o.type λr _ u=>ih ⟨put st.env o.dst r,upd st.obj u⟩ K
     |some (j,want)=>match(all[j]?).bind (·.dst)with
      |.none=>False
      |some dj=>match st.env dj with
       |.kt=>bif want then dS H T (look st) st.obj o.dst o.op o.type λr _ u=>ih ⟨put st.env o.dst r,upd st.obj u⟩ K
         else ih ⟨put st.env o.dst .un,st.obj⟩ K
       |.kf=>bif want then ih ⟨put st.env o.dst .un,st.obj⟩ K
         else dS H T (look st) st.obj o.dst o.op o.type λr _ u=>ih ⟨put st.env o.dst r,upd st.obj u⟩ K
       |.c (.v (.bool b))=>
         (b=true->bif want then dS H T (look ⟨put st.env (some dj) .kt,st.obj⟩) st.obj o.dst o.op o.type λr _ u=>ih ⟨put (put st.env (some dj) .kt) o.dst r,upd st.obj u⟩ K
           else ih ⟨put (put st.env (some dj) .kt) o.dst .un,st.obj⟩ K)/\
         (b=false->bif want then ih ⟨put (put st.env (some dj) .kf) o.dst .un,st.obj⟩ K
           else dS H T (look ⟨put st.env (some dj) .kf,st.obj⟩) st.obj o.dst o.op o.type λr _ u=>ih ⟨put (put st.env (some dj) .kf) o.dst r,upd st.obj u⟩ K)
       |.un=>ih ⟨put st.env o.dst .un,st.obj⟩ K
       |_=>False
    else False
def aw6(all l:List Oper):St->(St->Prop)->Prop:=
 List.rec (motive:=λ_=>St->(St->Prop)->Prop) (λst K=>K st) (λo _ ih=>ca7 H T n all o ih) l
def cb4(all:List Oper)(o:Oper)(ih:Nat->St->List Z7->(List Z7->St->Prop)->Prop)(i:Nat)(st:St)(tr:List Z7)(K:List Z7->St->Prop):Prop:=
    bif inRange n o.dst then
     match o.guard with
     |.none=>dS H T (look st) st.obj o.dst o.op o.type λr rd u=>pF (zD all i) r λr=>ih (i+1) (dZ st o ⟨r,rd,u⟩) (⟨r,rd,u⟩::tr) K
     |some (j,want)=>match(all[j]?).bind (·.dst)with
      |.none=>False
      |some dj=>match st.env dj with
       |.kt=>bif want then dS H T (look st) st.obj o.dst o.op o.type λr rd u=>pF (zD all i) r λr=>ih (i+1) (dZ st o ⟨r,rd,u⟩) (⟨r,rd,u⟩::tr) K
         else ih (i+1) (dZ st o ⟨.un,[],[]⟩) (⟨.un,[],[]⟩::tr) K
       |.kf=>bif want then ih (i+1) (dZ st o ⟨.un,[],[]⟩) (⟨.un,[],[]⟩::tr) K
         else dS H T (look st) st.obj o.dst o.op o.type λr rd u=>pF (zD all i) r λr=>ih (i+1) (dZ st o ⟨r,rd,u⟩) (⟨r,rd,u⟩::tr) K
       |.un=>ih (i+1) (dZ st o ⟨.un,[],[]⟩) (⟨.un,[],[]⟩::tr) K
       |_=>False
    else False
def ba7(all l:List Oper):Nat->St->List Z7->(List Z7->St->Prop)->Prop:=
 List.rec (motive:=λ_=>Nat->St->List Z7->(List Z7->St->Prop)->Prop) (λ_ st tr K=>K tr.reverse st) (λo _ ih=>cb4 H T n all o ih) l
def ba6(ops:List Oper)(st:St)(K:St->Prop):Prop:=
 ba7 H T n ops ops 0 st [] λtr st'=>KP ops tr=true/\K st'
theorem ca9(all:List Oper):∀(l:List Oper),aw6 H T n all l=λst K=>wpOps H T n all l st K
 |[]=>rfl
 |o::rest=>by
  have ih:=ca9 all rest;show ca7 H T n all o (aw6 H T n all rest)=_;rw[ih];rfl
theorem cb5(all:List Oper):∀(l:List Oper),ba7 H T n all l=λi st tr K=>kJ H T n all i l st tr K
 |[]=>rfl
 |o::rest=>by
  have ih:=cb5 all rest;show cb4 H T n all o (ba7 H T n all rest)=_;rw[ih];rfl
def aU1(b:(Exit->St->Prop)->St->Prop)(K:Exit->St->Prop)(e:Exit)(st:St):Prop:=match e with|.normal=>b K st|e=>K e st
def bg9(id:Nat)(K:Exit->St->Prop)(e:Exit)(st:St):Prop:=match e with|.exit j=>bif Nat.beq j id then K .normal st else K e st|e=>K e st
def bP3(K:Exit->St->Prop)(e:Exit)(st:St):Prop:=match e with|.goto _=>False|e=>K e st
def bj6(s:SV)(a b:(Exit->St->Prop)->St->Prop)(K:Exit->St->Prop)(st:St):Prop:=match s with
    |.kt=>a K st
    |.kf=>b K st
    |.c (.v (.bool q))=>(q=true->a K st)/\(q=false->b K st)
    |_=>False
def cQ8(I:Nat->St->Prop)(k:Nat)(K:Exit->St->Prop)(e:Exit)(st2:St):Prop:=match e with|.normal=>∃k' MB,k'<k/\Weak st2 MB/\I k' MB|e=>K e st2
inductive aM1(H':iW)(T':Tab)(n':Nat)(c:Code)(body:(Exit->St->Prop)->St->Prop)(K:Exit->St->Prop)(st:St):Prop
 |mk (h:∃I:Nat->St->Prop,(∃k st0,Weak st st0/\I k st0)/\∀k st1,I k st1->body (cQ8 I k K) st1)
def df5(b:(Exit->St->Prop)->St->Prop)(K:Exit->St->Prop)(e:Exit)(st:St):Prop:=match e with|.normal=>b K st\/∃st0,Weak st st0/\b K st0|e=>K e st
inductive al2(c d:Code)(a b:(Exit->St->Prop)->St->Prop)(K:Exit->St->Prop)(st:St):Prop
 |mk (h:a (df5 b K) st)
inductive YU(H':iW)(n':Nat)(g:Operand)(ps:Array Tmp)(x y:Code)(K:Exit->St->Prop)(st:St):Prop
 |mk (h:ba5 H' n' g ps x y K st)
def bU(code:Code):(Exit->St->Prop)->St->Prop:=
 Code.rec (motive:=λ_=>(Exit->St->Prop)->St->Prop)
  (λK st=>K .normal st)
  (λ_ ops draw K st=>bif draw then ba6 H T n ops.toList st (K .normal)else aw6 H T n ops.toList ops.toList st (K .normal))
  (λx y a b K st=>bif KC x then al2 x y a b K st else a (aU1 b K) st)
  (λc _ _ a b K st=>bj6 (look st c) a b K st)
  (λid _ body K st=>body (bg9 id K) st)
  (λc body K st=>aM1 H T n c body K st)
  (λg ps x y _ _ K st=>YU H n g ps x y K st)
  (λid K st=>K (.exit id) st)
  (λ_ body K st=>body (bP3 K) st)
  (λ_ K st=>K .normal st)
  (λ_ _ _=>False)
  (λK st=>K .ret st)
  (λ_ _ _=>False)
  code
theorem mV:∀(code:Code),bU H T n code=λK st=>dB H T n code K st
 |.skip=>rfl
 |.region _ ops draw=>by
  funext K st;show(bif draw then ba6 H T n ops.toList st (K .normal)else aw6 H T n ops.toList ops.toList st (K .normal))=_;rw[ca9,ba6,cb5];rfl
 |.seq a b=>by
  funext K st;show(bif KC a then al2 a b (bU H T n a) (bU H T n b) K st else bU H T n a (aU1 (bU H T n b) K) st)=_;rw[mV a,mV b];show _=bif KC a then _ else _
  cases KC a with
  |true=>exact propext ⟨λ⟨h⟩=>h,λh=>⟨h⟩⟩
  |false=>rfl
 |.cond c a b=>by
  funext K st;show bj6 (look st c) (bU H T n a) (bU H T n b) K st=_;rw[mV a,mV b];rfl
 |.block id body=>by
  funext K st;show bU H T n body (bg9 id K) st=_;rw[mV body];rfl
 |.loop body=>by
  funext K st;show aM1 H T n body (bU H T n body) K st=_;rw[mV body];exact propext ⟨λ⟨h⟩=>h,λh=>⟨h⟩⟩
 |.rangeFunc g ps x y=>by
  funext K st;exact propext ⟨λ⟨h⟩=>h,λh=>⟨h⟩⟩
 |.exit _=>rfl
 |.scope body=>by
  funext K st;show bU H T n body (bP3 K) st=_;rw[mV body];rfl
 |.label _=>rfl
 |.goto _=>rfl
 |.ret=>rfl
 |.refuse _=>rfl
end
def da9{α:Type}(mk:α->List (Nat×SV))(mo:α->List (Nat×D9))(I:α->Prop)(μ:α->Nat)(x:α)(K:Exit->St->Prop)(e:Exit)(st2:St):Prop:=
 match e with|.normal=>∃x',μ x'<μ x/\I x'/\aB st2 (mk x')/\GV st2 (mo x')|e=>K e st2
theorem J9{H:iW}{T:Tab}{n:Nat}{a b:Code}{K:Exit->St->Prop}{st:St}(h:bU H T n a (aU1 (bU H T n b) K) st):al2 a b (bU H T n a) (bU H T n b) K st:=by
 refine⟨?_⟩;rw[mV]at h⊢;refine aw2 a (λe st h=>?_) st h;cases e with
 |normal=>exact .inl h
 |_=>exact h
def cM2{α:Type}(mk:α->List (Nat×SV))(mo:α->List (Nat×D9))(I:α->Prop)(K:Exit->St->Prop)(e:Exit)(st2:St):Prop:=
 match e with|.normal=>∃x,I x/\aB st2 (mk x)/\GV st2 (mo x)|e=>K e st2
theorem KD{H:iW}{T:Tab}{n:Nat}{α:Type}(mk:α->List (Nat×SV))(mo:α->List (Nat×D9))(I:α->Prop){a b:Code}{K:Exit->St->Prop}{st:St}
 (hb:∀x,I x->bU H T n b K ⟨uU (mk x),mkObj (mo x)⟩) (ha:bU H T n a (cM2 mk mo I K) st):al2 a b (bU H T n a) (bU H T n b) K st:=by
 refine⟨?_⟩;rw[mV]at ha⊢;refine aw2 a (λe st2 h=>?_) st ha;cases e with
 |normal=>
  obtain⟨x,hx,he,ho⟩:=h;exact .inr ⟨_,a96 he ho,hb x hx⟩
 |_=>exact h
theorem dX{H:iW}{T:Tab}{n:Nat}{α:Type}(mk:α->List (Nat×SV))(mo:α->List (Nat×D9))(I:α->Prop)(μ:α->Nat)(x0:α){body:Code}{K:Exit->St->Prop}{st:St}(h0:I x0)(he:aB st (mk x0))(ho:GV st (mo x0))
 (step:∀x,I x->bU H T n body (da9 mk mo I μ x K) ⟨uU (mk x),mkObj (mo x)⟩):
 aM1 H T n body (bU H T n body) K st:=by
 show bU H T n (.loop body) K st;rw[mV];refine cR0 mk mo I μ x0 h0 he ho λx hx=>?_;have h:=step x hx;rw[mV]at h;exact h
theorem Q9{P:Program}{G:World->Prop}{T:Tab}(hT:X9 P T)(hm:P.follows .mixedOrders=true){f:FuncId}{fn:Func}{code:Code}{args:List CV}{r:CV}(hf:P.funcs[f]?=some fn)(hname:(fn.name== "runtime.NumGoroutine")=false)(hb:fn.body=some code)(hn:args.length<=fn.ntmps)
 (h:bU (gX P G) T fn.ntmps code (bL8 T fn.results.toList r) (XK args)):Holds P G f args r:=by
 rw[mV]at h;exact cH7 hT hm hf hname hb hn h
end Go.F6
namespace Go.F6
open Go Go.RowKit
abbrev Str:=List UInt8
abbrev I(n:Int):CV:=.v (.int .i64 n)
abbrev B(b:Bool):CV:=.v (.bool b)
abbrev S(s:Str):CV:=.v (.string ⟨⟨s⟩⟩)
def F5(n:Int):List CV:=[I n]
def cStr(s:Str):List CV:=[S s]
def yF(f:FuncId):List CV:=[.fn f []]
def ix{α:Type}(l:List α)(n:Int):Option α:=if n<0 then none else l[n.toNat]?
section
variable{α β:Type}{G:Prop}
theorem D7{o:Option α}{f:α->Option β}{r:β}(h:Option.bind o f=some r)(k:∀x,o=some x->f x=some r->G):G:=by
 cases o with
 |none=>grind
 |some x=>grind
theorem D6{b:Bool}{x y:Option α}{r:α}(hb:b=true)(h:(bif b then x else y)=some r):x=some r:=by grind
theorem D5{b:Bool}{x y:Option α}{r:α}(hb:b=false)(h:(bif b then x else y)=some r):y=some r:=by grind
theorem kU{b:Bool}{x:Option α}{r:α}(h:(bif b then x else none)=some r)(k:b=true->x=some r->G):G:=by grind
theorem cA9{b:Bool}{x:Option α}{r:α}(h:(bif b then none else x)=some r)(k:b=false->x=some r->G):G:=by grind
theorem V9{l:List α}{n:Int}{x:α}(h:ix l n=some x):0<=n:=by
 unfold ix at h
 grind
theorem aK4{l:List α}{n:Int}{x:α}(h:ix l n=some x):l[n.toNat]?=some x:=by
 unfold ix at h
 grind
theorem Y0(f:α->β){l:List α}{n:Int}{x:α}(h:ix l n=some x):(l.map f)[n.toNat]?=some (f x):=by
 rw[O6,aK4 h];rfl
theorem al1{s:Str}{n:Int}{b:UInt8}(h:ix s n=some b):(ByteArray.mk ⟨s⟩)[n.toNat]?=some b:=by
 have h1:=aK4 h;have h2:=(O4.1 h1).1;have h3:=(O4.1 h1).2;have hs:n.toNat<(ByteArray.mk ⟨s⟩).size:=h2;rw[getElem?_pos (ByteArray.mk ⟨s⟩) n.toNat hs];exact congrArg some h3
theorem cP7{sz:Nat}:∀{l:List (List β)},l.all (λd=>Nat.beq d.length sz)=true->∀n∈l,n.length=sz:=by
 intro l h n hn;rw[nZ]at h;exact F8 (h n hn)
theorem cR5(f:α->β)(a b:List α):(a++b).map f=a.map f++b.map f:=List.map_append
theorem ci6{f:α->β}{a b:List α}{k:Nat}(h:decide (a.length+b.length<=4294967296)=true):ZM ((a.map f).length+(b.map f).length) k:=.inl (by simpa using h)
theorem W9{p:α->Prop}{v r:α}(h:some v=some r)(hp:p v):p r:=iE h▸hp
end
end Go.F6
end
