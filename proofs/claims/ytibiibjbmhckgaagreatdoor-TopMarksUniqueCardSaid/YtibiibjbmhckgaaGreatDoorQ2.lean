import Derived.Test.YtibiibjbmhckgaaGreatDoorQ1
import Derived.Laws.Cover3
set_option linter.unusedVariables false
set_option linter.unusedSimpArgs false
set_option linter.defProp false
section
namespace Go
abbrev Y1:=@List.length_take
abbrev aP:=@Nat.lt_succ_self
abbrev dR:=@Prod.mk.injEq
abbrev gK:=@List.getElem_mem
abbrev kM:=@Array.getElem?_toList
abbrev lY:=@Array.getElem?_eq_getElem
abbrev nI:=@Nat.one_mul
abbrev uQ:=@List.getElem?_eq_none
abbrev ET:=@List.any_eq_false
abbrev ak6:=@List.getElem?_eq_none_iff
abbrev bj2:=@List.getElem?_range
end Go
namespace Go.F7
open Go Go.RowKit
section
variable{P:Program}{G:aB}{T:Tab}{Z0:Base}{w0:World}{S:U2}{n:Nat}{Z Z':Zone}{E:Q8}{st:St}{a:Act}{w w':World}
def yG(P:Program)(G:aB)(T:Tab)(o:Oper):Prop:=
 ∀(Z0:Base)(w0:World)(S:U2)(n:Nat)(Z:Zone)(E:Q8)(st:St)(a:Act)(w:World)(K:aV)(next:kR)(Q:dD),
  Inv G Z0 w0 S n Z E st a w->inRange n o.dst=true->aK (jF P G) T (look st) st.obj o.dst o.op K->
  (∀r rd u Z' E' x w',K r rd u->Inv G Z0 w0 S n Z' E' ⟨put st.env o.dst r,upd st.obj u⟩ (a.put o.dst x) w'->next (a.put o.dst x) w')->Oper.dV P o a w next Q
def dt8{obj:J8}{c:CV}{x:Value}(h:iK Z w obj E c x):O7 Z w obj E (sv1 c) x:=by
 cases h with
 |cl h=>cases h<;>(simp only[sv1];exact .c _ _ (by constructor<;>assumption))
 |rs t g x hs hg h=>exact .rs t g x hs hg h
 |pr t g off x hs hg h=>exact .pm t g off x hs hg h
 |mr t g x hs hg h=>exact .mr t g x hs hg h
 |bp=>exact .any _
def b04{obj:J8}{c:CV}{x:Value}(h:Z5 Z w obj E c x)(hc:∀cs,c≠.agg cs):O7 Z w obj E (zG c) x:=by
 cases h with
 |one h=>
  cases h with
  |cl h=>cases h<;>first|exact absurd rfl (hc _)|(simp only[zG];exact .c _ _ (by constructor<;>assumption))
  |rs t g x hs hg h=>exact .rs t g x hs hg h
  |pr t g off x hs hg h=>exact .pm t g off x hs hg h
  |mr t g x hs hg h=>exact .mr t g x hs hg h
  |bp=>exact .any _
 |fr f caps vs hl h=>
  refine .V4 (.fn f) (caps.map sv1) vs trivial (by simp[hl]) λi s x h1 h2=>?_;rw[P9]at h1;rcases hi:caps[i]? with _|c
  .rw[hi]at h1;simp at h1
  .rw[hi]at h1;simp at h1;subst h1;exact dt8 (h i c x hi h2)
def cv6{obj:J8}{s:SV}{x:Value}{c:CV}(h:O7 Z w obj E s x)(hc:cap1 s=some c):iK Z w obj E c x:=by
 unfold cap1 at hc;split at hc
 .simp at hc;subst hc;cases h with|rs _ _ _ hs hg h=>exact .rs _ _ _ hs hg h
 .simp at hc;subst hc;cases h with|pm _ _ _ _ hs hg h=>exact .pr _ _ _ _ hs hg h
 .simp at hc;subst hc;cases h with|mr _ _ _ hs hg h=>exact .mr _ _ _ hs hg h
 .exact .cl (oD h hc)
def bo8{obj:J8}:∀{ss:dG}{cs:G9}{vs:H6},SH ss=some cs->ss.length=vs.length->(∀(i:Nat)(s:SV)(x:Value),ss[i]?=some s->vs[i]?=some x->O7 Z w obj E s x)->
    cs.length=vs.length/\∀(i:Nat)(c:CV)(x:Value),cs[i]?=some c->vs[i]?=some x->iK Z w obj E c x
 |[],cs,vs,hc,hl,_=>by
  simp[SH]at hc;subst hc;exact⟨hl,λi c x h=>by simp at h⟩
 |s::r,cs,vs,hc,hl,h=>by
  simp only[SH]at hc;split at hc
  .rename_i c cs' h1 h2;simp at hc;subst hc;cases vs with
   |nil=>simp at hl
   |cons v vs=>
    have⟨k1,k2⟩:=bo8 (vs:=vs) h2 (by simpa using hl) (λi s x a b=>h (i+1) s x (by simpa using a) (by simpa using b));refine⟨by simp[k1],λi c' x a b=>?_⟩;cases i with
    |zero=>simp at a b;subst a;subst b;exact cv6 (h 0 s v rfl rfl) h1
    |succ i=>exact k2 i c' x (by simpa using a) (by simpa using b)
  .simp at hc
def du0{obj:J8}{cs:G9}{vs:H6}(hl:cs.length=vs.length)(h:∀(i:Nat)(c:CV)(x:Value),cs[i]?=some c->vs[i]?=some x->Z5 Z w obj E c x)
    (ha:∀(i:Nat)(c:CV),cs[i]?=some c->c.atom=true):O7 Z w obj E (zG (.agg cs)) (.agg vs.toArray):=by
 simp only[zG];rcases hn:qB cs with _|_
 .exact .aY cs vs hl h ha
 .exact .c _ _ (.agg cs vs hl (λi c x h1 h2=>(h i c x h1 h2).closed (mY hn h1)) ha)
def bV2{obj:J8}{t:TypeId}{i:TI}(hi:O6 P t i){cs:G9}{b o off:Nat}{f:Q8}{c:CV}
    (hc:∀(j:Nat)(c:CV),cs[j]?=some c->w.cell? ⟨b,o+j,none⟩=some (f j)/\c.atom=true/\Z5 Z w obj E c (f j)) (hp:part i cs off=some c):
    ∃x,(Instr.loadAt t (.pointer (some ⟨b,o+off,none⟩))).run P w=.ok x w/\O7 Z w obj E (zG c) x:=by
 unfold part at hp;rcases hagg:i.isAgg with _|_
 .rw[hagg]at hp;simp only[G6]at hp;have⟨h1,h2,h3⟩:=hc off c hp;refine⟨f off,?_,b04 h3 (λcs e=>by rw[e]at h2;simp[CV.atom]at h2)⟩;have hr:=hi.IB w;rw[hagg]at hr;simp[Instr.loadAt,Instr.sureAddr,loadVar,hr,Go.load,Sem.run,h1]
 .rw[hagg]at hp;simp only[H9]at hp;rcases hx:takeN i.size (cs.drop off)with _|xs
  .rw[hx]at hp;simp at hp
  .rw[hx]at hp;simp at hp;subst hp;have⟨hl,hj⟩:=az2 _ _ _ hx;have hr:=hi.IB w;rw[hagg]at hr;have hat:∀(j:Nat)(c:CV),xs[j]?=some c->cs[off+j]?=some c:=λj c hjc=>by grind
   let vals:=(List.range i.size).map λj=>f (off+j)
   have hvl:vals.length=i.size:=by simp[vals]
   have hcells:=run_loadCells_list (P:=P) w ⟨b,o+off,none⟩ vals (λj v yS=>by
    have hlt:j<i.size:=by rw[<-hvl];exact(P7.1 yS).1
    have hxj:∃c,xs[j]?=some c:=⟨xs[j]'(by omega),J9 (by omega)⟩;have⟨c,hxc⟩:=hxj;have⟨h1,_,_⟩:=hc _ c (hat j c hxc);have:v=f (off+j):=by
     simp[vals,P9,bj2 hlt]at yS;exact yS.symm
    rw[this,iI,Nat.add_assoc]
    exact h1)
   rw[hvl]at hcells;refine⟨.agg vals.toArray,?_,du0 (by omega) (λj c x hjc hjx=>?_) (λj c hjc=>(hc _ c (hat j c hjc)).2.1)⟩
   .simp[Instr.loadAt,Instr.sureAddr,loadVar,hr,hi.sizeOf w,hcells]
   .grind
def aj3(hI:Inv G Z0 w0 S n Z E st a w){s g:Nat}{cs:G9}(h:st.obj s=(g,.varx cs)){off:Nat}{x:Value}(hx:O7 Z w st.obj E (.pm s g off) x):
    ∃b,E s=.pointer (some ⟨b,0,none⟩)/\x=.pointer (some ⟨b,off,none⟩)/\∃f:Nat->Value,∀(j:Nat)(c:CV),cs[j]?=some c->w.cell? ⟨b,j,none⟩=some (f j)/\c.atom=true/\Z5 Z w st.obj E c (f j):=by
 cases hx with
 |pm _ _ _ _ _ hg hl=>
  have⟨b,hE,hxe⟩:=hl ⟨cs,.inr (.inr h)⟩;refine⟨b,hE,hxe,?_⟩;have ho:=hI.obj s;rw[h]at ho;have⟨b',el,arr,he,hh,hs,hc,_⟩:=ho;have:b'=b:=by rw[hE]at he;injection he with h1;injection h1 with h1;injection h1 with h1;exact h1.symm
  subst this;refine⟨λj=>arr.getD j undef,λj c hj=>?_⟩;have⟨hat,x',hx',hr⟩:=hc j c hj;have:arr.getD j undef=x':=by rw[bY,hx'];rfl
  simp only[this];exact⟨(kU w b' j arr el (0,0) hh).trans hx',hat,hr⟩
def bp1{ds:dS}{D7:uX}{m:Nat}{cs:G9}(hf:KN ds D7)(h:an7 ds D7 m cs):m<ds.length/\aO ds D7 m=some cs:=by
 unfold an7 at h;unfold aO;split at h
 .exact⟨(P7.1 h).1,h⟩
 .rename_i k d;rcases h with⟨rfl,rfl⟩|⟨hne,h⟩
  .exact⟨hf.1 _ _ rfl,by simp⟩
  .exact⟨(P7.1 h).1,by simp[hne,h]⟩
def aP2{i j len sz:Nat}(hi:i<len)(hj:j<sz):i*sz+j<len*sz:=by
 have:(i+1)*sz<=len*sz:=iJ _ hi;rw[mF,nI]at this;omega
def aW8{base e size m:Nat}{v:Value}{xs:H6}(h:w.ownsRow base e size v m xs)(hn:0<m):∃g cap,v=.slice (some ⟨g,0,none⟩) m cap/\base<=g/\g<w.heap.size:=by
 rcases h.2 with⟨_,h0⟩|⟨g,cap,cur,hv,hb,hg,_⟩
 .omega
 .exact⟨g,cap,hv,hb,(X6.1 hg).1⟩
def cr4(hI:Inv G Z0 w0 S n Z E st a w){s g el sz:Nat}{ds:dS}{D7:uX}(h:st.obj s=(g,.arr el sz ds D7)){m:Nat}{cs:G9}(hm:m<ds.length)(hcs:aO ds D7 m=some cs):
    ∃b l k,E s=.slice (some ⟨b,0,none⟩) l k/\cs.length=sz/\∃f:Nat->Value,∀(j:Nat)(c:CV),cs[j]?=some c->w.cell? ⟨b,m*sz+j,none⟩=some (f j)/\c.atom=true/\Z5 Z w st.obj E c (f j):=by
 have ho:=hI.obj s;rw[h]at ho;have⟨xs,hsz,hown,hfoc,hdl,hcl,hz⟩:=ho;have⟨b,cap,hE,hb,hlt⟩:=aW8 hown (by omega);refine⟨b,ds.length,cap,hE,hdl m cs hm hcs,λj=>xs.getD (m*sz+j) undef,λj c hj=>?_⟩;have⟨hat,u,hu,hr⟩:=hcl m cs hm hcs j c hj;have hlt2:m*sz+j<ds.length*sz:=by rw[<-hown.1];exact(P7.1 hu).1
 have:xs.getD (m*sz+j) undef=u:=by rw[RG,hu];rfl
 rw[hE]at hown;simp only[this];exact⟨by rw[hown.cellAt _ hlt2,hu],hat,hr⟩
def dH1(hT:aA P T)(dst:E8)(t:TypeId)(x:Operand)(type:TypeId)(pos:String)(after:dO)(guard:dH):yG P G T ⟨dst,.load t x,type,pos,after,guard⟩:=by
 intro Z0 w0 S n Z E st a w K next Q hI hd h hn
 have hx:=aG hI x;simp only[aK]at h;split at h
 .rename_i i hti;have hi:=hT _ _ hti;have fin:∀(b o off:Nat)(cs:G9)(f:Q8)(c:CV)(rd:O1),a.eval x=.pointer (some ⟨b,o+off,none⟩)->
   (∀(j:Nat)(c:CV),cs[j]?=some c->w.cell? ⟨b,o+j,none⟩=some (f j)/\c.atom=true/\Z5 Z w st.obj E c (f j))->part i cs off=some c->K (zG c) rd []->
   Oper.dV P ⟨dst,.load t x,type,pos,after,guard⟩ a w next Q:=by
   intro b o off cs f c rd he hc hp hk;have⟨v,hv,hrep⟩:=bV2 hi hc hp;refine bT hI hd hn hk (x:=v) ?_ hrep;simp only[execOp,he,J6,hv];rfl
  split at h
  .rename_i s g off he;rw[he]at hx;split at h
   .rename_i g' cs ho;replace h:=U8 h;obtain⟨hgg,h⟩:=h;have:=G5 hgg;subst this;split at h
    .rename_i c hp;have⟨b,_,hxe,f,hc⟩:=aj3 hI ho hx;exact fin b 0 off cs f c _ (by rw[hxe,X9]) (λj c hj=>by rw[X9];exact hc j c hj) hp h
    .exact h.elim
   .exact h.elim
  .rename_i s g m off he;rw[he]at hx;split at h
   .rename_i g' el sz ds D7 ho;replace h:=U8 h;obtain⟨hgg,h⟩:=h;have:=G5 hgg;subst this;have⟨cs,hcs,h⟩:=h;split at h
    .rename_i c hp;have hfoc:KN ds D7:=by have:=hI.obj s;rw[ho]at this;exact this.choose_spec.2.2.1
     have⟨hm,hcx⟩:=bp1 hfoc hcs;have⟨b,l,k,hE,_,f,hc⟩:=cr4 hI ho hm hcx;have hxe:a.eval x=.pointer (some ⟨b,m*sz+off,none⟩):=by
      generalize a.eval x=y at hx;cases hx with
      |pe _ _ _ _ _ _ hp'=>grind
     exact fin b (m*sz) off cs f c _ hxe hc hp h
    .exact h.elim
   .exact h.elim
  .exact h.elim
 .exact h.elim
def dH2(dst:E8)(x:Operand)(type:TypeId)(pos:String)(after:dO)(guard:dH):yG P G T ⟨dst,.nilCheck x,type,pos,after,guard⟩:=by
 intro Z0 w0 S n Z E st a w K next Q hI hd h hn
 have hx:=aG hI x;have fin:∀(b off:Nat)(rd:O1),a.eval x=.pointer (some ⟨b,off,none⟩)->K (look st x) rd []->Oper.dV P ⟨dst,.nilCheck x,type,pos,after,guard⟩ a w next Q:=by
  intro b off rd he hk;exact bT hI hd hn hk (x:=a.eval x) (by simp[execOp,he]) hx
 simp only[aK]at h;split at h
 .rename_i s g off he;have hx':=hx;rw[he]at hx';split at h
  .rename_i g' cs ho;replace h:=U8 h;obtain⟨hgg,h⟩:=h;have:=G5 hgg;subst this;have⟨b,_,hxe,_⟩:=aj3 hI ho hx';exact fin b off _ hxe h
  .exact h.elim
 .rename_i s g m off he;have hx':=hx;rw[he]at hx';split at h
  .rename_i g' el sz ds D7 ho;replace h:=U8 h;obtain⟨hgg,h⟩:=h;have:=G5 hgg;subst this;generalize hax:a.eval x=y at hx';cases hx' with
   |pe _ _ _ _ _ _ hp'=>
    have⟨b',l',k',hE',hy⟩:=hp' _ _ _ _ ho;exact fin _ _ _ (hax.trans hy) h
  .exact h.elim
 .exact h.elim
def dG8(hT:aA P T)(dst:E8)(t:TypeId)(x:Operand)(k:Nat)(type:TypeId)(pos:String)(after:dO)(guard:dH):yG P G T ⟨dst,.fieldAddr t x k,type,pos,after,guard⟩:=by
 intro Z0 w0 S n Z E st a w K next Q hI hd h hn
 have hx:=aG hI x;simp only[aK]at h;split at h
 .rename_i fs _ _ _ _ _ hti;have hi:=hT _ _ hti;split at h
  .rename_i f hf;split at h
   .rename_i i hfi;have aM9:=hT _ _ hfi;cases hz:Nat.beq i.size 0 with
    |true=>rw[hz]at h;exact h.elim
    |false=>
     rw[hz]at h;simp only[G6]at h;have hne:i.size≠0:=λe=>by rw[e]at hz;exact Bool.noConfusion hz
     have run:∀b off,(Instr.fieldAt t (.pointer (some ⟨b,off,none⟩)) k).run P w=.ok (.pointer (some ⟨b,off+f.offset,none⟩)) w:=by
      intro b off;have hu:=hi.u;simp only at hu;simp[Instr.fieldAt,O4 hu,hf,Instr.sureAddr,fieldPlace,aM9.sizeOf w,hne,iI]
     split at h
     .rename_i s g off he;have hx':=hx;rw[he]at hx';split at h
      .rename_i g' cs ho;replace h:=U8 h;obtain⟨hgg,h⟩:=h;have:=G5 hgg;subst this;have⟨b,hE,hxe,_⟩:=aj3 hI ho hx';refine bT hI hd hn h (x:=.pointer (some ⟨b,off+f.offset,none⟩)) ?_ (.pm _ _ _ _ ⟨_,rfl⟩ ?_ λ_=>⟨b,hE,rfl⟩)
       .simp only[execOp,hxe,J6,run];rfl
       .cases hx' with|pm _ _ _ _ _ hg _=>exact hg
      .exact h.elim
     .rename_i s g m off he;have hx':=hx;rw[he]at hx';split at h
      .rename_i g' el sz ds D7 ho;replace h:=U8 h;obtain⟨hgg,h⟩:=h;have:=G5 hgg;subst this;generalize hax:a.eval x=y at hx';cases hx' with
       |pe _ _ _ _ _ hg hp'=>
        have⟨b,l,k',hE,hy⟩:=hp' _ _ _ _ ho;refine bT hI hd hn h (x:=.pointer (some ⟨b,m*sz+off+f.offset,none⟩)) ?_ (.pe _ _ _ _ _ hg λfB sz' ds' jR ho'=>?_)
        .simp only[execOp,hax,hy,J6,run];rfl
        .grind
      .exact h.elim
     .exact h.elim
   .exact h.elim
  .exact h.elim
 .exact h.elim
def cw3{obj:J8}{s:SV}{x:Value}{ys:G9}(h:O7 Z w obj E s x)(hy:aG5 s=some ys):
    x.cells.size=ys.length/\∀(j:Nat)(d:CV),ys[j]?=some d->d.atom=true/\∃y,x.cells[j]?=some y/\Z5 Z w obj E d y:=by
 have closed:∀c,bU s=some c->c.storable=true->x.cells.size=c.cells.length/\∀(j:Nat)(d:CV),c.cells[j]?=some d->d.atom=true/\∃y,x.cells[j]?=some y/\Z5 Z w obj E d y:=by
  intro c hc hs;have⟨h1,h2⟩:=SK (oD h hc) hs;exact⟨h1,λj d hj=>⟨(h2 j d hj).1,by have⟨_,y,hy,hr⟩:=h2 j d hj;exact⟨y,hy,.cl hr⟩⟩⟩
 unfold aG5 at hy;split at hy
 .rename_i t g;simp at hy;subst hy;cases h with
  |rs _ _ _ hs hg h=>
   obtain⟨aa,l,k,rfl⟩:=hs;refine⟨by simp[Value.cells],λj d hj=>?_⟩
   match j,hj with
   |0,hj=>simp at hj;subst hj;exact⟨rfl,.slice aa l k,by simp[Value.cells],.one (.rs t g _ ⟨aa,l,k,rfl⟩ hg h)⟩
   |j+1,hj=>simp at hj
 .rename_i t g off;simp at hy;subst hy;cases h with
  |pm _ _ _ _ hs hg h=>
   obtain⟨p,rfl⟩:=hs;refine⟨by simp[Value.cells],λj d hj=>?_⟩
   match j,hj with
   |0,hj=>simp at hj;subst hj;exact⟨rfl,.pointer p,by simp[Value.cells],.one (.pr t g off _ ⟨p,rfl⟩ hg h)⟩
   |j+1,hj=>simp at hj
 .rename_i t g;simp at hy;subst hy;cases h with
  |mr _ _ _ hs hg h=>
   obtain⟨p,rfl⟩:=hs;refine⟨by simp[Value.cells],λj d hj=>?_⟩
   match j,hj with
   |0,hj=>simp at hj;subst hj;exact⟨rfl,.map p,by simp[Value.cells],.one (.mr t g _ ⟨p,rfl⟩ hg h)⟩
   |j+1,hj=>simp at hj
 .rename_i f caps;cases hcs:SH caps with
  |none=>rw[hcs]at hy;simp at hy
  |some cs=>
   rw[hcs]at hy;simp at hy;subst hy;cases h with
   |V4 _ _ vs _ hl h=>
    have⟨k1,k2⟩:=bo8 hcs hl h;refine⟨by simp[FV.val,Value.cells],λj d hj=>?_⟩
    match j,hj with
    |0,hj=>simp at hj;subst hj;exact⟨rfl,.func (.func f) #[] vs.toArray,by simp[FV.val,Value.cells],.fr f cs vs k1 k2⟩
    |j+1,hj=>simp at hj
 .rename_i cs;simp at hy;subst hy;cases h with
  |aY _ vs hl hr ha=>
   refine⟨by simp[Value.cells,hl],λj d hj=>⟨ha j d hj,?_⟩⟩;have hlt:j<cs.length:=(P7.1 hj).1;have hv:vs[j]?=some (vs[j]'(by omega)):=J9 (by omega);exact⟨_,by simp[Value.cells,hv],hr j d _ hj hv⟩
 .grind
theorem Z5.au0{obj:J8}{c:CV}{x:Value}(h:Z5 Z w obj E c x)(ha:c.atom=true):x.oneCell'=true:=by
 cases h with
 |one h=>
  cases h with
  |cl h=>exact h.atom ha
  |rs t g x hs hg h=>obtain⟨aa,l,k,rfl⟩:=hs;rfl
  |pr t g off x hs hg h=>obtain⟨p,rfl⟩:=hs;rfl
  |mr t g x hs hg h=>obtain⟨p,rfl⟩:=hs;rfl
  |bp T f x hs=>obtain⟨p,rfl⟩:=hs;rfl
 |fr f caps vs hl h=>rfl
def cells_one{obj:J8}{ys:G9}{x:Value}(hs:x.cells.size=ys.length)(hc:∀(j:Nat)(d:CV),ys[j]?=some d->d.atom=true/\∃y,x.cells[j]?=some y/\Z5 Z w obj E d y):∀v∈x.cells.toList,v.oneCell'=true:=by
 intro v hv;have⟨j,hj,yS⟩:=eX hv;have hj':j<ys.length:=by rw[<-hs];simpa using hj
 have⟨hat,u,hu,hr⟩:=hc j _ (J9 hj');have:u=v:=by
  rw[lY (by simpa using hj)]at hu;simp at hu yS;rw[<-hu,<-yS]
 subst this;exact hr.au0 hat
def bU2{cur:S9}{vs:H6}{o:Nat}(hfit:o+vs.length<=cur.size)(j:Nat):
    ((cur.toList.take (o+0)++vs++cur.toList.drop (o+0+vs.length)).toArray)[j]?=if o<=j/\j<o+vs.length then vs[j-o]? else cur[j]?:=by
 simp only[pG,List.getElem?_toArray,lC];have hl1:(cur.toList.take o).length=o:=by simp;omega
 by_cases hjo:j<o
 .rw[dX (by omega),kN,I9 hjo,H7 (by omega)];simp
 .rw[dN (by omega),hl1]
  grind
def bU3{cur:S9}{vs:H6}{o:Nat}(hfit:o+vs.length<=cur.size):(cur.toList.take (o+0)++vs++cur.toList.drop (o+0+vs.length)).toArray.size=cur.size:=by
 simp;omega
end
end Go.F7
namespace Go.F7
open Go Go.RowKit
section
variable{P:Program}
def QY(o:uY)(n dflt:Nat):Prop:=(o=none/\n=dflt)\/∃k,o=some (.int k n)
def run_sliceBound(k:IntKind){i y:Nat}(h:i<=y)(code:BoundsCode)(w:World):(Instr.sliceBound (.int k i) y code).run P w=.ok i w:=by
 have:((0:Int)<=(i:Int)/\(i:Int)<=(y:Int)):=by omega
 simp[Instr.sliceBound,asIntOf,h]
def dh7(isS:Bool){len cap l h:Nat}(hlc:len<=cap)(hlh:l<=h)(hh:h<=len){lo hi:uY}(hlo:QY lo l 0)(hhi:QY hi h len)(w:World):
    (Instr.sliceBounds isS len cap lo hi none).run P w=.ok (l,h,cap) w:=by
 rcases hlo with⟨rfl,rfl⟩|⟨k1,rfl⟩<;>rcases hhi with⟨rfl,rfl⟩|⟨k2,rfl⟩
 .simp[Instr.sliceBounds]
 .simp only[Instr.sliceBounds,J6,U5,O8,run_sliceBound (P:=P) k2 (Y2 hh hlc)]
 .simp only[Instr.sliceBounds,J6,U5,O8,run_sliceBound (P:=P) k1 hlh]
 .simp only[Instr.sliceBounds,J6,U5,O8,run_sliceBound (P:=P) k2 (Y2 hh hlc),run_sliceBound (P:=P) k1 hlh]
end
def dl8{ds ds':dS}{D7 jR:uX}{m:Nat}{cs':G9}(hf:KN ds D7)(hm:m<ds.length)(h:setCells ds D7 m cs' ds' jR):
    ds'.length=ds.length/\KN ds' jR/\aO ds' jR m=some cs'/\∀i,i≠m->aO ds' jR i=aO ds D7 i:=by
 unfold setCells at h;split at h
 .rcases h with⟨hn,rfl,rfl⟩|⟨rfl,rfl⟩
  .refine⟨by simp,⟨(λ_ _ h=>nomatch h),λi d hd _=>?_⟩,by simp[aO,hm],λi hi=>by simp[aO,List.getElem?_set_ne (Ne.symm hi)]⟩;by_cases hi:i=m
   .subst hi;rw[List.getElem?_set_self hm]at hd;injection hd with hd;subst hd;exact hn
   .rw[List.getElem?_set_ne (Ne.symm hi)]at hd;exact hf.2 i d hd (λ_ _ h=>nomatch h)
  .refine⟨rfl,⟨(λk d h=>by cases h;exact hm),λi d hd _=>hf.2 i d hd (λ_ _ h=>nomatch h)⟩,by simp[aO],λi hi=>by simp[aO,hi]⟩
 .rename_i k d;rcases h with⟨rfl,rfl,rfl⟩|⟨hne,hn,rfl,rfl⟩
  .refine⟨rfl,⟨(λk d h=>by cases h;exact hm),λi d' hd hi=>hf.2 i d' hd (λk' d'' h=>by cases h;exact hi _ _ rfl)⟩,by simp[aO],λi hi=>by simp[aO,hi]⟩
  .refine⟨by simp,⟨(λk' d' h=>by cases h;simpa using hf.1 _ _ rfl),λi d' hd hi=>?_⟩,by simp[aO,hne,hm],λi hi=>by simp[aO,List.getElem?_set_ne (Ne.symm hi)]⟩;by_cases him:i=m
   .subst him;rw[List.getElem?_set_self hm]at hd;injection hd with hd;subst hd;exact hn
   .rw[List.getElem?_set_ne (Ne.symm him)]at hd;exact hf.2 i d' hd hi
section
variable{P:Program}{G:aB}{T:Tab}{Z0:Base}{w0:World}{S:U2}{n:Nat}{Z Z':Zone}{E:Q8}{st:St}{a:Act}{w w':World}
def Inv.dC9(hI:Inv G Z0 w0 S n Z E st a w){s g:Nat}{cs:G9}(h:st.obj s=(g,.var cs)\/st.obj s=(g,.varx cs)):
    ∃b el arr,E s=.pointer (some ⟨b,0,none⟩)/\w.heap[b]?=some (.cells arr el (0,0))/\arr.size=cs.length/\
     (∀(j:Nat)(c:CV),cs[j]?=some c->c.atom=true/\∃x,arr[j]?=some x/\Z5 Z w st.obj E c x)/\(∀o,¬Z b o)/\(st.obj s).2.blk (E s) b/\KJ (E s) el arr cs:=by
 have ho:=hI.obj s;rcases h with h|h
 .rw[h]at ho;have⟨b,el,arr,he,hh,hs,hc,hz⟩:=ho;exact⟨b,el,arr,he,hh,hs,λj c hj=>⟨(hc j c hj).1,by have⟨_,x,hx,hr⟩:=hc j c hj;exact⟨x,hx,.cl hr⟩⟩,hz,by rw[h,he]<;>rfl,.none λj c hj=>by have⟨_,x,hx,hr⟩:=hc j c hj;exact hr.c52⟩
 .rw[h]at ho;have⟨b,el,arr,he,hh,hs,hc,hz⟩:=ho;exact⟨b,el,arr,he,hh,hs,hc,hz.1,by rw[h,he]<;>rfl,he▸hz.2⟩
def Inv.bW4(hI:Inv G Z0 w0 S n Z E st a w){d:E8}(hd:inRange n d=true){s b:Nat}{o':G8}{arr':S9}(hblk:(st.obj s).2.blk (E s) b)(hblk':∀b',o'.blk (E s) b'->b'=b)(hz:∀o,¬Z b o)(x:Value)
    (hsk:lG (st.obj s).2 o')
    (hok:Keeps Z w Z (w.setRow b arr')->eY st.obj E (upd st.obj [(s,((st.obj s).1,o'))]) E->X7 Z (w.setRow b arr') (upd st.obj [(s,((st.obj s).1,o'))]) E (E s) o'):
    Inv G Z0 w0 S n Z E ⟨put st.env d .any,upd st.obj [(s,((st.obj s).1,o'))]⟩ (a.put d x) (w.setRow b arr'):=by
 have hnS:=hI.own s b hblk;have hk:Keeps Z w Z (w.setRow b arr'):=λb' o hz'=>⟨hz',jM (vW w b b' arr' (λe=>by subst e;exact hz o hz'))⟩;have hother:∀t,t≠s->upd st.obj [(s,((st.obj s).1,o'))] t=st.obj t:=λt h=>wB _ _ h;have hsame:upd st.obj [(s,((st.obj s).1,o'))] s=((st.obj s).1,o'):=wC _ _ _;refine hI.renew (·=s) hd ⟨rfl,rfl,rfl,by simp[World.setRow],λk hk=>vW w b k arr' (λe=>hnS (e▸hk)),λk hk=>ax6 w b k arr' hk⟩ hk (λb o h=>by have:=hI.X5 b o h;simpa[World.setRow]using this) (λ_ _ h=>.inl h) (λt ht=>⟨hother t ht,rfl⟩) ?_ ?_ ?_ ?_ ?_ (.any _)
 .rintro t rfl;rw[hsame];exact .inr ⟨rfl,.inr ⟨rfl,hsk⟩⟩
 .rintro hkeep t rfl;rw[hsame];exact hok hk hkeep
 .intro t ht b' hb;have hne:b'≠b:=λe=>by subst e;exact hI.apart t s b' ht hb hblk
  refine⟨vW w b b' arr' hne,λ_ hz=>hz,?_⟩;rintro s' rfl h;rw[hsame]at h;exact hne (hblk' _ h)
 .rintro t t' b rfl rfl h;exact absurd rfl h
 .rintro t rfl b' hb;rw[hsame]at hb;rw[hblk' _ hb];exact hnS
def dH3(hT:aA P T)(dst:E8)(t:TypeId)(x y:Operand)(type:TypeId)(pos:String)(after:dO)(guard:dH):yG P G T ⟨dst,.store t x y,type,pos,after,guard⟩:=by
 intro Z0 w0 S n Z E st a w K next Q hI hd h hn
 have hx:=aG hI x;have hy:=aG hI y;simp only[aK]at h;split at h
 .rename_i i ys hti hys;have hi:=hT _ _ hti;replace h:=U8 h;have⟨hb,h⟩:=h;simp only[Z4]at hb;have hyl:ys.length=i.size:=G5 hb.1.1;have hyp:1<=i.size:=I8 hb.1.2;have hyb:=λ{j:Nat} {c:CV}=>bI2 hb.2 (j:=j) (c:=c);have⟨hsz,oK⟩:=cw3 hy hys;have hone:=cells_one hsz oK;have hvl:(a.eval y).cells.toList.length=ys.length:=by rw[iW,hsz]
  have run:∀(b o:Nat)(cur:S9)(el:TypeId),a.eval x=.pointer (some ⟨b,o,none⟩)->w.heap[b]?=some (.cells cur el (0,0))->o+ys.length<=cur.size->
   (execOp a.eval ⟨dst,.store t x y,type,pos,after,guard⟩).run P w=.ok .skip (w.setRow b (cur.toList.take (o+0)++(a.eval y).cells.toList++cur.toList.drop (o+0+(a.eval y).cells.toList.length)).toArray):=by
   intro b o cur el hxe hh hfit;have hrun:=run_storeCells_at (P:=P) b o el (a.eval y).cells.toList 0 cur w hh (by rw[hvl];simpa using hfit) hone;simp only[execOp,hxe,Instr.storeAt,Instr.sureAddr,storeVar,J6,U5,O8,hi.sizeOf w];rw[H7 (by rw[hsz,hyl];simp)];simp only[U5,O8,hrun]
  split at h
  .rename_i s g off he;rw[he]at hx;have go:∀cs,(st.obj s=(g,.var cs)\/st.obj s=(g,.varx cs))->(match setAt cs off ys with|some cs'=>K .any [s] [(s,(g,.varx cs'))]|.none=>False)->Oper.dV P ⟨dst,.store t x y,type,pos,after,guard⟩ a w next Q:=by
    intro cs ho h;split at h
    .rename_i cs' hset;have⟨b,el,arr,hE,hh,hs,hc,hz,hblk,hbp⟩:=hI.dC9 ho;have hxe:a.eval x=.pointer (some ⟨b,off,none⟩):=by
      generalize a.eval x=y at hx;cases hx with
      |pm _ _ _ _ _ hg hl=>
       have⟨b',hE',hy'⟩:=hl ⟨cs,ho.imp id .inr⟩;rw[hE]at hE';simp at hE';rw[hy',hE']
     have⟨h1,h2,h3⟩:=WH _ _ _ _ hset;have hfit:off+ys.length<=arr.size:=by
      rcases h2 with h2|h2
      .rw[h2]at hyl;simp at hyl;omega
      .rw[hs];exact h2
     have hg:(st.obj s).1=g:=by rcases ho with ho|ho<;>rw[ho]
     refine QU (run b off arr el hxe hh hfit) (hn _ _ _ Z E undef _ h ?_);have:=hI.bW4 (o':=.varx cs') (arr':=(arr.toList.take (off+0)++(a.eval y).cells.toList++arr.toList.drop (off+0+(a.eval y).cells.toList.length)).toArray) hd hblk (λb' h=>by rw[hE]at h;exact h.symm) hz undef (by rcases ho with ho|ho<;>(rw[ho];trivial)) ?_
     .rw[hg]at this;exact this
     .intro hk hkeep;have hrs:=bU3 (cur:=arr) (vs:=(a.eval y).cells.toList) (o:=off) (by rw[hvl];exact hfit);have hrg:=λj=>bU2 (cur:=arr) (vs:=(a.eval y).cells.toList) (o:=off) (by rw[hvl];exact hfit) j;generalize cK9:(arr.toList.take (off+0)++(a.eval y).cells.toList++arr.toList.drop (off+0+(a.eval y).cells.toList.length)).toArray=cur' at hrs hrg hk hkeep⊢;simp only[hvl]at hrg;refine⟨b,el,_,hE,rU w b arr _ el (0,0) hh,by rw[hrs,hs,h1],λj c hj=>?_,hz,λj T f hj=>?_⟩
      rotate_left
      .rw[h3 j]at hj;rw[hrg];by_cases hin:off<=j/\j<off+ys.length
       .rw[I9 hin]at hj;have:=hyb hj;simp[CV.IC]at this
       .rw[H7 hin]at hj⊢;exact hbp j T f hj
      rw[h3 j]at hj;rw[hrg];by_cases hin:off<=j/\j<off+ys.length
      .rw[I9 hin]at hj⊢;have⟨h4,v,h5,h6⟩:=oK _ c hj;exact⟨h4,v,by simpa using h5,h6.keep hk hkeep⟩
      .rw[H7 hin]at hj⊢;have⟨h4,v,h5,h6⟩:=hc j c hj;exact⟨h4,v,h5,h6.keep hk hkeep⟩
    .exact h.elim
   split at h
   .rename_i g' cs ho;replace h:=U8 h;obtain⟨hgg,h⟩:=h;simp only[Z4]at hgg;have:=G5 hgg.1;subst this;exact go cs (.inl ho) h
   .rename_i g' cs ho;replace h:=U8 h;obtain⟨hgg,h⟩:=h;have:=G5 hgg;subst this;exact go cs (.inr ho) h
   .exact h.elim
  .rename_i s g m off he;rw[he]at hx;split at h
   .rename_i g' el sz ds D7 ho;replace h:=U8 h;obtain⟨hgg,h⟩:=h;have:=G5 hgg;subst this;have⟨cs,hcs,h⟩:=h;split at h
    .rename_i cs' hset;have⟨ds',jR,hsc,h⟩:=h;have kD:=hI.obj s;rw[ho]at kD;have⟨xs,mW,hown,hfoc,hdl,hcl,hz⟩:=kD;have⟨hm,hcx⟩:=bp1 hfoc hcs;have⟨hlen',aq3,hcm,hco⟩:=dl8 hfoc hm hsc;have⟨h1,h2,h3⟩:=WH _ _ _ _ hset;have by1:=hdl m cs hm hcx;rcases hown.2 with⟨_,h0⟩|⟨b,cap,cur,hE,hbase,hh,hnc,cK8,hcs2,htake⟩
     .omega
     have hxe:a.eval x=.pointer (some ⟨b,m*sz+off,none⟩):=by
      generalize a.eval x=y at hx;cases hx with
      |pe _ _ _ _ _ _ hp'=>grind
     have hoff:off+ys.length<=sz:=by
      rcases h2 with h2|h2
      .rw[h2]at hyl;simp at hyl;omega
      .rw[<-by1];exact h2
     have hmul:ds.length*sz<=cap*sz:=iJ _ hnc;have dS5:m*sz+sz<=ds.length*sz:=by
      have:(m+1)*sz<=ds.length*sz:=iJ _ hm;rw[mF,nI]at this;exact this
     have hfit:m*sz+off+ys.length<=cur.size:=by rw[hcs2];omega
     have hg:(st.obj s).1=g:=by rw[ho]
     have hz':∀o,¬Z b o:=λo=>hz b o (by rw[hE];rfl);refine QU (run b (m*sz+off) cur el hxe hh hfit) (hn _ _ _ Z E undef _ h ?_);have:=hI.bW4 (o':=.arr el sz ds' jR) (arr':=(cur.toList.take (m*sz+off+0)++(a.eval y).cells.toList++cur.toList.drop (m*sz+off+0+(a.eval y).cells.toList.length)).toArray) hd (by rw[ho,hE]) (λb' h=>by rw[hE]at h;exact h.symm) hz' undef (by rw[ho];exact⟨rfl,rfl⟩) ?_
     .rw[hg]at this;exact this
     .intro hk hkeep;have hrs:=bU3 (cur:=cur) (vs:=(a.eval y).cells.toList) (o:=m*sz+off) (by rw[hvl];exact hfit);have hrg:=λj=>bU2 (cur:=cur) (vs:=(a.eval y).cells.toList) (o:=m*sz+off) (by rw[hvl];exact hfit) j;generalize cK9:(cur.toList.take (m*sz+off+0)++(a.eval y).cells.toList++cur.toList.drop (m*sz+off+0+(a.eval y).cells.toList.length)).toArray=cur' at hrs hrg hk hkeep⊢;simp only[hvl]at hrg;have h9:cur'.toList.length=cap*sz:=by rw[iW,hrs,hcs2]
      refine⟨cur'.toList.take (ds.length*sz),mW,⟨(by rw[hlen',Y1,h9];omega),.inr ⟨b,cap,cur',by rw[hlen',hE],hbase,rU w b cur cur' el (0,0) hh,by rw[hlen'];exact hnc,cK8,by rw[hrs,hcs2],by rw[hlen']⟩⟩,aq3,?_,?_,λb' o hb'=>by rw[hE]at hb';simp[Value.ownBlock]at hb';subst hb';exact hz' o⟩
      .grind
      .intro k d hkl hkc j c hj;rw[hlen']at hkl;have cM4:j<sz:=by
        have cL0:d.length=sz:=by grind
        rw[<-cL0];exact(P7.1 hj).1
       have hidx:=aP2 hkl cM4;have hget:(cur'.toList.take (ds.length*sz))[k*sz+j]?=cur'[k*sz+j]?:=by rw[kN,I9 hidx];simp
       have hold:∀u,xs[k*sz+j]?=some u->cur[k*sz+j]?=some u:=λu hu=>by
        rw[<-htake,kN,I9 hidx]at hu;simpa using hu
       rw[hget,hrg];by_cases hkm:k=m
       .subst hkm;rw[hcm]at hkc;injection hkc with hkc
        subst hkc;rw[h3 j]at hj;by_cases hin:off<=j/\j<off+ys.length
        .rw[I9 hin]at hj;rw[I9 (by omega)];have⟨h4,v,h5,h6⟩:=oK _ c hj;refine⟨h4,v,?_,h6.keep hk hkeep⟩;rw[show k*sz+j-(k*sz+off)=j-off from by omega];simpa using h5
        .rw[H7 hin]at hj;rw[H7 (by omega)];have⟨h4,v,h5,h6⟩:=hcl k cs hkl hcx j c hj;exact⟨h4,v,hold v h5,h6.keep hk hkeep⟩
       .rw[hco k hkm]at hkc;have⟨h4,v,h5,h6⟩:=hcl k d hkl hkc j c hj;have hnot:¬(m*sz+off<=k*sz+j/\k*sz+j<m*sz+off+ys.length):=by
         rcases Nat.lt_or_gt_of_ne hkm with hlt|hgt
         .have:(k+1)*sz<=m*sz:=iJ _ hlt;rw[mF,nI]at this;omega
         .have:(m+1)*sz<=k*sz:=iJ _ hgt;rw[mF,nI]at this;omega
        rw[H7 hnot];exact⟨h4,v,hold v h5,h6.keep hk hkeep⟩
    .exact h.elim
   .exact h.elim
  .exact h.elim
 .exact h.elim
def dG9(hT:aA P T)(dst:E8)(t:TypeId)(x i:Operand)(type:TypeId)(pos:String)(after:dO)(guard:dH):yG P G T ⟨dst,.indexAddr t x i,type,pos,after,guard⟩:=by
 intro Z0 w0 S n Z E st a w K next Q hI hd h hn
 have hx:=aG hI x;have hix:=aG hI i;simp only[aK]at h;split at h
 .rename_i e _ _ _ _ _ hti;have hi:=hT _ _ hti;have hu:=hi.u;simp only at hu;split at h
  .rename_i ti s g kd m hte hlx hli;have hie:=hT _ _ hte;rw[hlx]at hx;rw[hli]at hix;have hiv:a.eval i=.int kd m:=mZ hix;split at h
   .rename_i g' el sz ds D7 ho;replace h:=U8 h;obtain⟨hgg,h⟩:=h;simp only[Z4]at hgg;have:=G5 hgg.1;subst this;have hsz:=G5 hgg.2;have⟨h0,hlt,h⟩:=h;have kD:=hI.obj s;rw[ho]at kD;have⟨xs,mW,hown,_⟩:=kD;have⟨b,cap,hE,_,_⟩:=aW8 hown (by omega);generalize hax:a.eval x=y at hx;cases hx with
    |rs _ _ _ hs hg hp'=>
     have hye:y=.slice (some ⟨b,0,none⟩) ds.length cap:=(hp' _ _ _ _ ho).symm.trans hE;refine bT hI hd hn h (x:=.pointer (some ⟨b,m.toNat*sz,none⟩)) ?_ (.pe _ _ _ _ _ hg λfB sz' ds' jR ho'=>?_)
     .have NJ:(0<=m/\m<(ds.length:Int)):=⟨h0,by omega⟩;simp only[execOp,hax,hye,hiv,Instr.indexAt,asIntOf,J6,U5,O8,O4 hu,hie.sizeOf w,I9 NJ,iI,hsz,X9]
     .grind
   .exact h.elim
  .exact h.elim
 .exact h.elim
end
end Go.F7
namespace Go.F7
open Go Go.RowKit
section
variable{P:Program}{G:aB}{T:Tab}{Z0:Base}{w0:World}{S:U2}{n:Nat}{Z Z':Zone}{E:Q8}{st:St}{a:Act}{w w':World}
def cI1(w:World)(r:E8):w.grownBy w r:=⟨rfl,rfl,rfl,N8 _,λ_ _ _=>rfl⟩
def Inv.bm0(hI:Inv G Z0 w0 S n Z E st a w){d:Nat}(hd:inRange n (some d)=true){x:Value}{el sz:Nat}{ds:dS}{D7:uX}{D8:J8}{g:Nat}(hg:g=(st.obj d).1+1)
    (hod:D8 d=(g,.arr el sz ds D7)) (NM:∀t,t≠d->D8 t=st.obj t\/D8 t=((st.obj t).1,.spent))
    (hb:Kept S w w') (hk:Keeps Z w Z' w') (hlt:∀b o,Z' b o->b<w'.heap.size) (hnew:∀b o,Z' b o->Z b o\/¬S b) (hs:∃aa l k,x=.slice aa l k)
    (hown:eY st.obj E D8 (jV E d x)->X7 Z' w' D8 (jV E d x) x (.arr el sz ds D7)) (hnS:∀b,x.ownBlock=some b->¬S b)
    (aa2:∀t,t≠d->D8 t=st.obj t->∀b,(st.obj t).2.blk (E t) b->w'.heap[b]?=w.heap[b]?/\(∀k,Z' b k->Z b k)/\x.ownBlock≠some b):
    Inv G Z0 w0 S n Z' (jV E d x) ⟨put st.env (some d) (.rs d g),D8⟩ (a.put (some d) x) w':=by
 subst hg;refine hI.renew (λt=>t=d\/D8 t≠st.obj t) hd hb hk hlt hnew ?_ ?_ ?_ ?_ ?_ ?_ ?_
 .intro t ht;have h1:t≠d:=λe=>ht (.inl e);exact⟨Classical.byContradiction λe=>ht (.inr e),a06 E _ h1⟩
 .intro t ht;by_cases h:t=d
  .subst h;rw[hod];exact .inl (aP _)
  .rcases NM t h with h1|h1
   .rcases ht with ht|ht
    .exact absurd ht h
    .exact absurd h1 ht
   .rw[h1];exact .inr ⟨rfl,.inl (.inl rfl)⟩
 .intro hkeep t ht;by_cases h:t=d
  .subst h;rw[hod,vV];exact hown hkeep
  .rcases NM t h with h1|h1
   .rcases ht with ht|ht
    .exact absurd ht h
    .exact absurd h1 ht
   .rw[h1];trivial
 .intro t ht b hb;have h1:t≠d:=λe=>ht (.inl e);have h2:D8 t=st.obj t:=Classical.byContradiction λe=>ht (.inr e);have⟨g1,g2,g3⟩:=aa2 t h1 h2 b hb;refine⟨g1,g2,λs hs=>?_⟩;by_cases h:s=d
  .subst h;rw[hod,vV,jK];exact g3
  .grind
 .intro t t' b ht ht' hne h1 h2;by_cases h:t=d
  .grind
  .grind
 .intro t ht b hb';by_cases h:t=d
  .subst h;rw[hod,vV,jK]at hb';exact hnS b hb'
  .grind
 .refine .rs _ _ _ hs ?_ λ_ _ _ _ _=>vV _ _ _;rw[hod];exact N8 _
def bl3{base:Nat}{t ty e:TypeId}{i:TypeInfo}{z:Value}{size:Nat}(ht:P.underlying t=some (.slice e))(hi:P.info? e=some i)(hz:i.zero=some z)
    (hsize:i.size=size) (hzs:z.cells.size=size) (hsz:0<size) {v:Value} {m0:Nat} {xs:H6} (hown:w.ownsRow base e size v m0 xs) (hsl:∃aa l k,v=.slice aa l k)
    {yv:Value} {m:Nat} {news:H6} (hl:news.length=m*size) (h1:∀u∈news,u.oneCell'=true)
    (hy:(m=0/\∃ya yc,yv=.slice ya 0 yc)\/∃b c,yv=.slice (some b) m c/\0<m/\∀j u,news[j]?=some u->w.cell? (b.add j)=some u)
    (h63:m0+m<=9223372036854775807) (hbytes:(m0+m)*i.bytes<=140737488355328) (hbase:base<=w.heap.size):
    ∃v' w',(Builtin.append_ #[t,t] ty #[v,yv]).run P w=.ok v' w'/\w'.ownsRow base e size v' (m0+m) (xs++news)/\w.grownBy w' v.ownBlock/\
     (v'.ownBlock=v.ownBlock\/v'.ownBlock=some w.heap.size)/\∃aa l k,v'=.slice aa l k:=by
 rcases hy with⟨hm,ya,yc,rfl⟩|⟨b,c,rfl,hm,hnews⟩
 .subst hm;have hnil:news=[]:=mD (by simpa using hl);subst hnil;exact⟨v,w,bl5 ht hi hown ya yc,by simpa using hown,cI1 _ _,.inl rfl,hsl⟩
 .have⟨v',w',hr,ho,hg,_,hb⟩:=bl7 (P:=P) (ty:=ty) (c:=c) ht hi hz hsize hzs hsz hown hm hl hnews h1 h63 hbytes hbase;refine⟨v',w',hr,ho,hg,hb,?_⟩;rcases ho.2 with⟨he,_⟩|⟨g,cap,cur,he,_⟩
  .exact⟨_,_,_,he⟩
  .exact⟨_,_,_,he⟩
def ao1{s2 sz:Nat}{ns:dS}{yv:Value}(hsz:0<sz)(hns:∀m∈ns,m.length=sz)(h:Rep Z w (.sl s2 ns) yv):
    ∃news:H6,news.length=ns.length*sz/\(∀u∈news,u.oneCell'=true)/\((ns.length=0/\∃ya yc,yv=.slice ya 0 yc)\/∃b c,yv=.slice (some b) ns.length c/\0<ns.length/\∀j u,news[j]?=some u->w.cell? (b.add j)=some u)/\
     ∀(i j:Nat)(d:G9)(c:CV),ns[i]?=some d->d[j]?=some c->c.atom=true/\∃u,news[i*sz+j]?=some u/\Rep Z w c u:=by
 cases h with
 |nil _ ya yc=>exact⟨[],by simp,by simp,.inl ⟨rfl,ya,yc,rfl⟩,λi j d c h=>by simp at h⟩
 |sl _ _ b o cap f hcap hs2 hc hr=>
  by_cases hnil:ns=[]
  .subst hnil;exact⟨[],by simp,by simp,.inl ⟨rfl,_,_,rfl⟩,λi j d c h=>by simp at h⟩
  .have hpos:0<ns.length:=List.length_pos_iff.2 hnil;have aO4:s2=sz:=by
    have hfirst:ns[0]?=some (ns[0]'hpos):=J9 hpos;rw[<-hs2 0 _ hfirst];exact hns _ (gK hpos)
   subst aO4
   let news:=(List.range (ns.length*s2)).map λk=>f (k/s2) (k % s2)
   have hnl:news.length=ns.length*s2:=by simp[news]
   have TQ:∀k,k<ns.length*s2->news[k]?=some (f (k/s2) (k % s2)):=λk hk=>by simp[news,P9,bj2 hk]
   refine⟨news,hnl,?_,.inr ⟨⟨b,o,none⟩,cap,rfl,hpos,?_⟩,?_⟩
   .intro u hu;have⟨k,hk,hku⟩:=eX hu;have hlt:k<ns.length*s2:=by rw[<-hnl];exact hk
    have⟨dd,c,h1,h2⟩:=flat_get hs2 hsz hlt;have hu':u=f (k/s2) (k % s2):=by
     have h3:=TQ k hlt;rw[J9 hk]at h3;injection h3 with h3
     rw[<-hku,h3]
    rw[hu'];exact(hr _ _ dd c h1 h2).atom (hc _ _ dd c h1 h2).2.2
   .intro k u hk;have hlt:k<ns.length*s2:=by rw[<-hnl];exact(P7.1 hk).1
    have⟨dd,c,h1,h2⟩:=flat_get hs2 hsz hlt;have⟨_,hcell,_⟩:=hc _ _ dd c h1 h2;rw[TQ k hlt]at hk;injection hk with hk
    rw[iI,<-hk];rw[Nat.add_assoc,aH5]at hcell;exact hcell
   .intro i j d c h1 h2;have hi:i<ns.length:=(P7.1 h1).1;have hj:j<s2:=by rw[<-hs2 i d h1];exact(P7.1 h2).1
    refine⟨(hc i j d c h1 h2).2.2,f i j,?_,hr i j d c h1 h2⟩;rw[TQ _ (aP2 hi hj)];have e1:(i*s2+j)/s2=i:=by rw[Nat.mul_comm,Nat.mul_add_div hsz,Nat.div_eq_of_lt hj,pG]
    have e2:(i*s2+j) % s2=j:=by rw[Nat.mul_comm,Nat.mul_add_mod,Nat.mod_eq_of_lt hj]
    rw[e1,e2]
def dH0(hT:aA P T)(dst:E8)(args:yD)(argTypes:Array TypeId)(type:TypeId)(pos:String)(after:dO)(guard:dH):yG P G T ⟨dst,.call ⟨.builtin .len,args,argTypes⟩,type,pos,after,guard⟩:=by
 intro Z0 w0 S n Z E st a w K next Q hI hd h hn
 have⟨args⟩:=args;cases args with
 |nil=>simp only[aK]at h
 |cons x rest=>
 cases rest with
 |cons y r=>simp only[aK]at h
 |nil=>
 have hx:=aG hI x;simp only[aK]at h;split at h
 .rename_i x0 _ x' e _ _ _ _ _ hx0 hbt;have hxx:x=x':=by injection hx0
  subst hxx;split at h
  .rename_i s g he;rw[he]at hx;split at h
   .rename_i g' el sz ds D7 ho;replace h:=U8 h;obtain⟨hgg,h⟩:=h;have:=G5 hgg;subst this;have kD:=hI.obj s;rw[ho]at kD;have⟨xs,mW,hown,_⟩:=kD;have hxe:∃aa cap,a.eval x=.slice aa ds.length cap:=by
     generalize a.eval x=y at hx;cases hx with
     |rs _ _ _ hs hg hp'=>
      rw[hp' _ _ _ _ ho]at hown;rcases hown.2 with⟨hy,h0⟩|⟨b,cap,cur,hy,_⟩
      .exact⟨_,_,by rw[hy,h0]⟩
      .exact⟨_,_,hy⟩
    have⟨aa,cap,hxe⟩:=hxe;cases hat:argTypes[0]? with
    |none=>rw[hat]at hbt;cases hbt
    |some t0=>
     rw[hat]at hbt;have hu:=(hT _ _ hbt).u;simp only at hu;refine bT hI hd hn h ?_ (.c _ _ (.v _));rw[BJ];simp only[builtin,J6,List.map_toArray,kP,List.map_nil];simp[Builtin.len_,hat,O4 hu,hxe,goInt]
   .exact h.elim
  .exact h.elim
 .exact h.elim
def YD(hT:aA P T)(hI:Inv G Z0 w0 S n Z E st a w){d:Nat}{x y:Operand}{t1 e:TypeId}{type:TypeId}{pos:String}{after:dO}{guard:dH}{K:aV}{next:kR}{Q:dD}(hd:inRange n (some d)=true)
    {ti i:TI} (ht1:T.get t1=some ti) (hde:ti.desc=.slice e) (hte:T.get e=some i) (h1:1<=i.size) (hby:i.bytes<=4096)
    {v:Value} {m0:Nat} {xs:H6} (hev:a.eval x=v) (hown:w.ownsRow 0 e i.size v m0 xs) (hsl:∃aa l k,v=.slice aa l k)
    (hvz:∀b o,v.ownBlock=some b->¬Z b o) (hvS:∀b,v.ownBlock=some b->¬S b)
    {m:Nat} {news:H6} (hl:news.length=m*i.size) (hone:∀u∈news,u.oneCell'=true)
    (hy:(m=0/\∃ya yc,a.eval y=.slice ya 0 yc)\/∃b c,a.eval y=.slice (some b) m c/\0<m/\∀j u,news[j]?=some u->w.cell? (b.add j)=some u)
    (hlen:ag0 (m0+m) i.bytes) {ds:dS} {D7:uX} {D8:J8} {g:Nat} {rd:O1} {u:FI} (hg:g=(st.obj d).1+1)
    (hk:K (.rs d g) rd u) (hu':D8=upd st.obj u)
    (hn:∀r rd u Z' E' x w',K r rd u->Inv G Z0 w0 S n Z' E' ⟨put st.env (some d) r,upd st.obj u⟩ (a.put (some d) x) w'->next (a.put (some d) x) w')
    (hod:D8 d=(g,.arr e i.size ds D7)) (NM:∀t,t≠d->D8 t=st.obj t\/D8 t=((st.obj t).1,.spent))
    (hdl:ds.length=m0+m) (hfoc:KN ds D7)
    (rC:∀(i':Nat)(d':G9),i'<ds.length->aO ds D7 i'=some d'->d'.length=i.size)
    (hcells:∀(i':Nat)(d':G9),i'<ds.length->aO ds D7 i'=some d'->∀(j:Nat)(c:CV),d'[j]?=some c->c.atom=true/\∃u,(xs++news)[i'*i.size+j]?=some u/\Z5 Z w st.obj E c u)
    (aa2:∀t,t≠d->D8 t=st.obj t->∀b,(st.obj t).2.blk (E t) b->v.ownBlock≠some b):
    Oper.dV P ⟨some d,.call ⟨.builtin .append,⟨[x,y]⟩,⟨[t1,t1]⟩⟩,type,pos,after,guard⟩ a w next Q:=by
 have hu1:=(hT _ _ ht1).u;rw[hde]at hu1;have hie:=hT _ _ hte;have⟨j,hj,hjs,hjb,hjz⟩:=hie.gX;have hzc:(Q9 i).cells.size=i.size:=by rw[lX hie];simp[hie.len]
 have hbytes:(m0+m)*j.bytes<=140737488355328:=by
  rw[hjb];rcases hlen with hlen|hlen
  .calc (m0+m)*i.bytes<=4294967296*4096:=Nat.mul_le_mul hlen hby
    _<=140737488355328:=by decide
  .exact hlen.2
 have hlen:m0+m<=140737488355328:=by
  rcases hlen with hlen|hlen
  .omega
  .exact hlen.1
 have⟨v',w',hrun,hown',hgr,hblk,hs'⟩:=bl3 (P:=P) (ty:=type) hu1 hj hjz hjs hzc h1 hown hsl hl hone hy (by omega) hbytes (aF _);have hrun':(execOp a.eval ⟨some d,.call ⟨.builtin .append,⟨[x,y]⟩,⟨[t1,t1]⟩⟩,type,pos,after,guard⟩).run P w=.ok (.value v') w':=by
  rw[BJ];rw[<-hev]at hrun;simp only[builtin,J6,List.map_toArray,kP,List.map_nil,hrun];rfl
 have hkeep:Keeps Z w Z w':=λb o hz=>⟨hz,jM (hgr.block b (hI.X5 b o hz) (λe=>hvz b o e.symm hz))⟩;refine bP hrun' (hn _ _ _ Z (jV E d v') v' w' hk ?_);rw[<-hu'];refine hI.bm0 hd hg hod NM ((Kept.refl _ _).grown hgr hI.xK hvS (λk hk=>by have⟨cur,hc⟩:=VT hown hk;rw[hc];exact λh=>nomatch h)) hkeep (λb o hz=>aH (hI.X5 b o hz) hgr.size) (λ_ _ hz=>.inl hz) hs' (λhkp=>?_) (λb hb=>?_) (λt ht hot b hb=>?_)
 .refine⟨xs++news,h1,by rw[hdl];exact hown',hfoc,rC,λi' d' hi' hc' j c hj'=>?_,λb o hb hz=>?_⟩
  .have⟨h3,u3,h4,h5⟩:=hcells i' d' hi' hc' j c hj';exact⟨h3,u3,h4,h5.keep hkeep hkp⟩
  .rcases hblk with hb1|hb1
   .exact hvz b o (by rw[<-hb1];exact hb) hz
   .rw[hb1]at hb;injection hb with hb;have:=hI.X5 b o hz;omega
 .rcases hblk with hb1|hb1
  .exact hvS b (by rw[<-hb1];exact hb)
  .rw[hb1]at hb;injection hb with hb;exact hI.fresh (by omega)
 .have h3:=aa2 t ht hot b hb;have hlt:=(hI.obj t).lt hb;refine⟨hgr.block b hlt (λe=>h3 e.symm),λ_ hz=>hz,λe=>?_⟩;rcases hblk with hb1|hb1
  .exact h3 (hb1.symm.trans e)
  .rw[hb1]at e;injection e with e;omega
def aL2{xs news:H6}{m0 sz i j:Nat}(hxl:xs.length=m0*sz)(hj:j<sz):(xs++news)[i*sz+j]?=if i<m0 then xs[i*sz+j]? else news[(i-m0)*sz+j]?:=by
 by_cases h:i<m0
 .rw[I9 h,dX (by rw[hxl];exact aP2 h hj)]
 .have hge:m0*sz<=i*sz:=iJ _ (by omega);rw[H7 h,dN (by rw[hxl];omega),hxl,Nat.sub_mul];congr 1;omega
def dG6(hT:aA P T)(dst:E8)(args:yD)(argTypes:Array TypeId)(type:TypeId)(pos:String)(after:dO)(guard:dH):yG P G T ⟨dst,.call ⟨.builtin .append,args,argTypes⟩,type,pos,after,guard⟩:=by
 intro Z0 w0 S n Z E st a w K next Q hI hd h hn
 have⟨args⟩:=args;have⟨argTypes⟩:=argTypes;simp only[aK,EO]at h;split at h
 .rename_i x y d t1 t2;split at h
  .rename_i e _ _ _ _ _ ht1;split at h
   .rename_i i hte;replace h:=U8 h;obtain⟨Y7,h⟩:=h;simp only[Z4]at Y7;have⟨⟨⟨aO5,h1⟩,hby⟩,hzl⟩:=Y7;have:=G5 aO5;subst this;have h1:=I8 h1;have hby:=I8 hby;have hx:=aG hI x;have hy:=aG hI y;split at h
    ·
     rename_i hx0;split at h
     .rename_i s2 ns hsl;have⟨hns,hlen,hk⟩:=h;have⟨news,hnl,hone,hyv,hcell⟩:=ao1 h1 hns (RU hy hsl);refine YD hT hI hd ht1 rfl hte h1 hby (v:=.slice none 0 0) (by simp[Act.eval]) (World.ownsRow_nil w _ _ _) ⟨_,_,_,rfl⟩ (λb o hb=>by simp[Value.ownBlock]at hb) (λb hb=>by simp[Value.ownBlock]at hb) hnl hone hyv (by rw[X9];exact hlen) rfl hk rfl hn (wC _ _ _)
       (λt ht=>.inl (wB _ _ ht)) (by simp) ⟨(λ_ _ h=>nomatch h),λi' d' hd' _=>OE λj c hj=>(hcell i' j d' c hd' hj).2.choose_spec.2.IV⟩ (λi' d' _ hc'=>hns d' (iZ hc')) (λi' d' _ hc' j c hj=>?_) (λt _ _ b _=>by simp[Value.ownBlock])
      have⟨h3,u,h4,h5⟩:=hcell i' j d' c hc' hj;exact⟨h3,u,by simpa using h4,.cl h5⟩
     .exact h.elim
    ·
     rename_i x _ _ _ t g s g2 hly hlx;rw[hlx]at hx;rw[hly]at hy;split at h
     .rename_i g' el sz ds D7 g2' el2 sz2 ds2 GI ho ho2;replace h:=U8 h;obtain⟨Y7,h⟩:=h;simp only[Z4,Bool.not_eq_true']at Y7;have⟨⟨⟨⟨⟨⟨⟨⟨c1,c2⟩,c3⟩,c4⟩,c5⟩,c6⟩,c7⟩,c8⟩,c9⟩:=Y7;have:=G5 c1;subst this;have:=G5 c2;subst this;have:=G5 c3;subst this;have:=G5 c4;subst this;have:=G5 c5;subst this;have hts:t≠s:=λe=>by subst e;simp at c6
      have hsd:s≠d:=λe=>by subst e;simp at c7
      have htd:t≠d:=λe=>by subst e;simp at c8
      have hfn:D7=none:=by cases D7<;>simp_all
      subst hfn;obtain⟨hlen,ds',rfl,hk⟩:=h;have hot:=hI.obj t;rw[ho]at hot;have⟨xs,mW,hown,hfoc,hdl,hcl,hz⟩:=hot;have hos:=hI.obj s;rw[ho2]at hos;have⟨xs2,_,hown2,by3,aM7,by0,hz2⟩:=hos;have jL:E t=a.eval x:=by generalize a.eval x=v at hx;cases hx with|rs _ _ _ _ _ hp=>exact hp _ _ _ _ ho
      have hEs:E s=a.eval y:=by generalize a.eval y=v at hy;cases hy with|rs _ _ _ _ _ hp=>exact hp _ _ _ _ ho2
      have GZ:∃aa l k,a.eval x=.slice aa l k:=by generalize a.eval x=v at hx;cases hx with|rs _ _ _ hs _ _=>exact hs
      rw[jL]at hown hz;rw[hEs]at hown2;have hcell2:∀k,k<ds2.length->∃d',aO ds2 GI k=some d':=λk hk2=>by
       unfold aO;split
       .exact⟨_,J9 hk2⟩
       .split
        .exact⟨_,rfl⟩
        .exact⟨_,J9 hk2⟩
      have hcx:∀k,aO (ds++ds2) (WJ ds.length GI) k=if k<ds.length then ds[k]? else aO ds2 GI (k-ds.length):=by
       intro k;cases GI with
       |none=>
        simp only[WJ,aO]
        grind
       |some p=>
        have⟨m,cs⟩:=p;simp only[WJ,aO];by_cases hk:k<ds.length
        .rw[H7 (by omega),I9 hk,dX hk]
        .grind
      refine YD hT hI hd ht1 rfl hte h1 hby rfl hown GZ hz (λb hb=>hI.own t b (by rw[ho,jK,jL];exact hb)) (m:=ds2.length) (news:=xs2) (D7:=WJ ds.length GI) hown2.1 ?_ ?_ (.inl hlen) rfl hk rfl hn ?_ ?_ cO ?_ ?_ ?_ ?_
      .intro u hu;have⟨k,hkl,hku⟩:=eX hu;have hk':k<ds2.length*i.size:=by rw[<-hown2.1];exact hkl
       have hq:k/i.size<ds2.length:=Nat.div_lt_of_lt_mul (by rw[Nat.mul_comm];exact hk');have hr:k % i.size<i.size:=Nat.mod_lt _ h1;have⟨d',hd'⟩:=hcell2 _ hq;have dS0:=aM7 _ d' hq hd';have hc':d'[k % i.size]?=some (d'[k % i.size]'(by omega)):=J9 (by omega);have⟨hat,u',hu',hr'⟩:=by0 _ d' hq hd' _ _ hc';rw[aH5,J9 hkl]at hu';injection hu' with hu'
       rw[<-hku,hu'];exact hr'.au0 hat
      .by_cases h0:ds2.length=0
       .left;rcases hown2.2 with⟨he,_⟩|⟨b,cap,cur,he,_⟩
        .exact⟨h0,_,_,he⟩
        .exact⟨h0,_,cap,by rw[he,h0]⟩
       .right;have⟨b,cap,he,_,_⟩:=aW8 hown2 (by omega);refine⟨⟨b,0,none⟩,cap,he,by omega,λk u hu=>?_⟩;exact hown2.cells (by rw[he];rfl) k u hu
      .simp only[upd];have e1:Nat.beq t d=false:=by cases hb:Nat.beq t d with|false=>rfl|true=>exact absurd (G5 hb) htd
       have e2:Nat.beq s d=false:=by cases hb:Nat.beq s d with|false=>rfl|true=>exact absurd (G5 hb) hsd
       rw[e1,e2];simp
      .intro q hq;simp only[upd];cases e1:Nat.beq t q with
       |true=>have:=G5 e1;subst this;right;rw[ho];rfl
       |false=>
        cases e2:Nat.beq s q with
        |true=>have:=G5 e2;subst this;right;rw[ho2];rfl
        |false=>
         have e3:Nat.beq d q=false:=by cases hb:Nat.beq d q with|false=>rfl|true=>exact absurd (G5 hb).symm hq
         left;rw[e3];rfl
      .refine⟨λm' d' he=>?_,λk d' hd' hne=>?_⟩
       .cases GI with
        |none=>cases he
        |some p=>have⟨m,cs⟩:=p;simp[WJ]at he;have:=by3.1 m cs rfl;simp;omega
       .by_cases hk:k<ds.length
        .rw[dX hk]at hd';exact hfoc.2 k d' hd' (λ_ _ h=>nomatch h)
        .rw[dN (by omega)]at hd';refine by3.2 _ d' hd' (λm' d'' he=>?_);subst he;have:=hne (ds.length+m') d'' rfl;omega
      .intro k d' hk hc';rw[hcx]at hc';by_cases hkd:k<ds.length
       .rw[I9 hkd]at hc';exact hdl k d' hkd hc'
       .rw[H7 hkd]at hc';simp at hk;exact aM7 _ d' (by omega) hc'
      .intro k d' hk hc' j c hj;rw[hcx]at hc';have hjs:j<i.size:=by
        have:d'.length=i.size:=by
         by_cases hkd:k<ds.length
         .rw[I9 hkd]at hc';exact hdl k d' hkd hc'
         .rw[H7 hkd]at hc';simp at hk;exact aM7 _ d' (by omega) hc'
        rw[<-this];exact(P7.1 hj).1
       rw[aL2 hown.1 hjs];by_cases hkd:k<ds.length
       .rw[I9 hkd]at hc'⊢;exact hcl k d' hkd hc' j c hj
       .rw[H7 hkd]at hc'⊢;simp at hk;exact by0 _ d' (by omega) hc' j c hj
      .intro q hq hoq b hb hb';have wY:q≠t:=λe=>by
        subst e;simp only[upd]at hoq;rw[show Nat.beq q q=true from by simp,H9,ho]at hoq;simp at hoq
       exact hI.apart q t b wY hb (by rw[ho,jK,jL];exact hb')
     .exact h.elim
    ·
     rename_i x _ _ _ t g hlx dS7;rw[hlx]at hx;split at h
     .rename_i g' el sz ds D7 s2 ns ho hsl;replace h:=U8 h;obtain⟨Y7,h⟩:=h;simp only[Z4]at Y7;have⟨⟨c1,c3⟩,c4⟩:=Y7;have:=G5 c1;subst this;have:=G5 c3;subst this;have:=G5 c4;subst this;obtain⟨hns,hlen,ds',rfl,hk⟩:=h;have⟨news,hnl,hone,hyv,hcell⟩:=ao1 h1 hns (RU hy hsl);have hot:=hI.obj t;rw[ho]at hot;have⟨xs,mW,hown,hfoc,hdl,hcl,hz⟩:=hot;have jL:E t=a.eval x:=by generalize a.eval x=v at hx;cases hx with|rs _ _ _ _ _ hp=>exact hp _ _ _ _ ho
      have GZ:∃aa l k,a.eval x=.slice aa l k:=by generalize a.eval x=v at hx;cases hx with|rs _ _ _ hs _ _=>exact hs
      rw[jL]at hown hz;have hcx:∀k,aO (ds++ns) D7 k=if k<ds.length then aO ds D7 k else ns[k-ds.length]?:=by
       intro k;unfold aO;cases D7 with
       |none=>grind
       |some p=>
        have⟨m,cs⟩:=p;have hm:=hfoc.1 m cs rfl;simp only;by_cases hk:k<ds.length
        .grind
        .rw[H7 hk,H7 (by omega),dN (by omega)]
      have aq3:KN (ds++ns) D7:=by
       refine⟨λm' d' he=>by have:=hfoc.1 m' d' he;simp;omega,λk d' hd' hne=>?_⟩;by_cases hk:k<ds.length
       .rw[dX hk]at hd';exact hfoc.2 k d' hd' hne
       .rw[dN (by omega)]at hd';exact OE λj c hj=>(hcell _ j d' c hd' hj).2.choose_spec.2.IV
      have rC:∀(i':Nat)(d':G9),i'<(ds++ns).length->aO (ds++ns) D7 i'=some d'->d'.length=i.size:=by grind
      have hcells:∀(i':Nat)(d':G9),i'<(ds++ns).length->aO (ds++ns) D7 i'=some d'->∀(j:Nat)(c:CV),d'[j]?=some c->c.atom=true/\∃u,(xs++news)[i'*i.size+j]?=some u/\Z5 Z w st.obj E c u:=by
       intro k d' hk hc' j c hj;have hjs:j<i.size:=by rw[<-rC k d' hk hc'];exact(P7.1 hj).1
       rw[hcx]at hc';rw[aL2 hown.1 hjs];by_cases hkd:k<ds.length
       .rw[I9 hkd]at hc'⊢;exact hcl k d' hkd hc' j c hj
       .rw[H7 hkd]at hc'⊢;have⟨h3,u,h4,h5⟩:=hcell _ j d' c hc' hj;exact⟨h3,u,h4,.cl h5⟩
      have hoth:∀q b,q≠t->(st.obj q).2.blk (E q) b->(a.eval x).ownBlock≠some b:=λq b wY hb hb'=>hI.apart q t b wY hb (by rw[ho,jK,jL];exact hb');cases htd:Nat.beq t d with
      |true=>
       rw[htd]at hk;simp only[H9]at hk;have:=G5 htd;subst this;exact YD hT hI hd ht1 rfl hte h1 hby rfl hown GZ hz (λb hb=>hI.own t b (by rw[ho,jK,jL];exact hb)) hnl hone hyv hlen (by rw[ho]) hk rfl hn (wC _ _ _) (λq hq=>.inl (wB _ _ hq)) (by simp) aq3 rC hcells (λq hq _ b hb=>hoth q b hq hb)
      |false=>
       rw[htd]at hk;simp only[G6]at hk;have aa6:t≠d:=λe=>by subst e;simp at htd
       refine YD hT hI hd ht1 rfl hte h1 hby rfl hown GZ hz (λb hb=>hI.own t b (by rw[ho,jK,jL];exact hb)) hnl hone hyv hlen rfl hk rfl hn (aC1 _ _ _ aa6) (λq hq=>?_) (by simp) aq3 rC hcells (λq hq hoq b hb=>hoth q b (λe=>?_) hb)
       .by_cases wY:q=t
        .subst wY;right;rw[JY,ho]
        .left;exact aC0 _ _ _ wY hq
       .subst e;rw[JY,ho]at hoq;simp at hoq
     .exact h.elim
    ·
     rename_i x _ _ _ t g sz es hlx;rw[hlx]at hx;split at h
     .rename_i g' el s' s2 ns ho hsl;replace h:=U8 h;obtain⟨Y7,h⟩:=h;simp only[Z4,Bool.not_eq_true']at Y7;have⟨⟨⟨⟨c1,c3⟩,c4⟩,c5⟩,c6⟩:=Y7;have:=G5 c1;subst this;have:=G5 c3;subst this;have:=G5 c4;subst this;have:=G5 c5;subst this;have aa6:t≠d:=λe=>by subst e;simp at c6
      have⟨hes,hns,hlen,hk⟩:=h;subst hes;have⟨news,hnl,hone,hyv,hcell⟩:=ao1 h1 hns (RU hy hsl);have hot:=hI.obj t;rw[ho]at hot;have⟨m0,xs,mW,hown,hz⟩:=hot;have jL:E t=a.eval x:=by generalize a.eval x=v at hx;cases hx with|ap _ _ _ _ _ _ _ hE=>exact hE _ _ ho
      have hxr:Rep Z w (.sl i.size []) (a.eval x):=by generalize a.eval x=v at hx;cases hx with|ap _ _ _ _ _ hr _ _=>exact hr
      rw[jL]at hown hz;have hm0:m0=0:=(bN2 hown hxr).1;subst hm0;have GZ:∃aa l k,a.eval x=.slice aa l k:=by
       rcases hown.2 with⟨he,_⟩|⟨b,cap,cur,he,_⟩<;>exact⟨_,_,_,he⟩
      have cP7:xs=[]:=mD (by simpa using hown.1);subst cP7;refine YD hT hI hd ht1 rfl hte h1 hby rfl hown GZ ?_ (λb hb=>hI.own t b (by rw[ho,DT,jL];exact hb)) hnl hone hyv (.inl (by omega)) rfl hk rfl hn (aC1 _ _ _ aa6) (λq hq=>?_) (by simp) ⟨(λ_ _ h=>nomatch h),λi' d' hd' _=>OE λj c hj=>(hcell i' j d' c hd' hj).2.choose_spec.2.IV⟩ (λi' d' _ hc'=>hns d' (iZ hc')) (λi' d' _ hc' j c hj=>?_) (λq hq hoq b hb hb'=>?_)
      .intro b o hb hzz;rcases hown.2 with⟨he,_⟩|⟨b',cap,cur,he,_⟩
       .rw[he]at hb;simp[Value.ownBlock]at hb
       .rw[he]at hb;simp[Value.ownBlock]at hb;subst hb;exact hz _ cap he o (by simp) hzz
      .by_cases wY:q=t
       .subst wY;right;rw[JY,ho]
       .left;exact aC0 _ _ _ wY hq
      .have⟨h3,u,h4,h5⟩:=hcell i' j d' c hc' hj;exact⟨h3,u,by simpa using h4,.cl h5⟩
      .have wY:q≠t:=λe=>by subst e;rw[JY,ho]at hoq;simp at hoq
       exact hI.apart q t b wY hb (by rw[ho,DT,jL];exact hb')
     .exact h.elim
    .exact h.elim
   .exact h.elim
  .exact h.elim
 .exact h.elim
end
end Go.F7
namespace Go.F7
open Go Go.RowKit
section
variable{P:Program}{G:aB}{T:Tab}{Z0:Base}{w0:World}{S:U2}{n:Nat}{Z Z':Zone}{E:Q8}{st:St}{a:Act}{w w':World}
def dG7(hT:aA P T)(dst:E8)(t:TypeId)(len:Nat)(parts:zY)(type:TypeId)(pos:String)(after:dO)(guard:dH):yG P G T ⟨dst,.buildSlice t len parts,type,pos,after,guard⟩:=by
 intro Z0 w0 S n Z E st a w K next Q hI hd h hn
 simp only[aK]at h;split at h
 .rename_i e _ _ _ _ _ hti;split at h
  .rename_i i d x hte hparts;split at h
   .rename_i cs hlx;replace h:=U8 h;obtain⟨Y7,cs0,h⟩:=h;simp only[Z4]at Y7;have⟨⟨⟨⟨hlen,hcl⟩,h1⟩,h2⟩,hzl⟩:=Y7;have:=G5 hlen;subst this;have hcl:=G5 hcl;have h1:=I8 h1;have h2:=I8 h2;have hi:=hT _ _ hte;have⟨j,hj,hjs,hjb,hjz⟩:=hi.gX;have hu:=(hT _ _ hti).u;simp only at hu;have hx:=aG hI x;rw[hlx]at hx;have hpa:parts=#[(0,x)]:=by cases parts;simp_all
    subst hpa;generalize hax:a.eval x=xv at hx;cases hx with
    |aY _ vs hl hr ha=>
     have hvl:vs.length=i.size:=by omega
     have hcells:(Value.agg vs.toArray).cells=vs.toArray:=rfl
     let zero:S9:=(Q9 i).cells
     let z0:S9:=(Array.range (1*i.size)).map (zero[· % zero.size]!)
     have hz0:z0.size=i.size:=by simp[z0]
     have hfold:=foldl_set (0*i.size) vs 0 z0 (by simp[hz0,hvl]);have heq:vs.toArray.zipIdx.foldl (λcs (p:Value×Nat)=>cs.setIfInBounds (0*i.size+p.2) p.1) z0=(vs.zipIdx 0).foldl (λcs (p:Value×Nat)=>cs.setIfInBounds (0*i.size+p.2) p.1) z0:=by
      rw[<-zL,Array.toList_zipIdx]
     let cells:=(vs.zipIdx 0).foldl (λcs (p:Value×Nat)=>cs.setIfInBounds (0*i.size+p.2) p.1) z0
     have hcs:cells.size=1*i.size:=hfold.1.trans (by rw[hz0,nI]);have hget:∀k,k<i.size->cells[k]?=vs[k]?:=λk hk=>by
      refine(hfold.2 k).trans ?_;rw[I9 (by omega)];congr 1;omega
     have yR:Instr.fill (λi'=>some (i'*i.size,i.size)) z0 [(0,Value.agg vs.toArray)]=some cells:=by
      simp only[Instr.fill,hcells];rw[H7 (by simp[hz0,hvl])];rw[heq]
     have hlim:¬(1*i.size>2^24):=by omega
     have h0:¬(1*i.size=0):=by omega
     have hrun:(execOp a.eval ⟨some d,.buildSlice t 1 #[(0,x)],type,pos,after,guard⟩).run P w=.ok (.value (.slice (some ⟨w.heap.size,0,none⟩) 1 1)) (w.alloc (.cells cells e)):=by
      have hzv:(zeroValue e).run P w=.ok (Q9 i) w:=by simp[zeroValue,typeInfo,hj,hjz]
      have tJ:Instr.fill (λi'=>some (i'*i.size,i.size)) ((Array.range (1*i.size)).map ((Q9 i).cells[· % (Q9 i).cells.size]!)) (#[(0,x)].map λ(i,x)=>(i,a.eval x)).toList=some cells:=by
       simp only[List.map_toArray,kP,List.map_nil,hax];exact yR
      simp only[execOp,Instr.buildSlice,J6,O4 hu,O8,hi.sizeOf w,H7 hlim,U5,H7 h0,hzv,tJ];rfl
     have hown:=World.ownsRow_lit (base:=0) (e:=e) (size:=i.size) w cells 1 (aF _) (by simp only[maxLen];omega) hcs;have hkeep:Keeps Z w Z (w.alloc (.cells cells e)):=Keeps.alloc hI.X5 _;refine bP hrun (hn _ _ _ Z (jV E d (.slice (some ⟨w.heap.size,0,none⟩) 1 1)) _ _ h ?_);refine hI.bm0 hd rfl (wC _ _ _) (λt ht=>.inl (wB _ _ ht)) (aF2 hI _) hkeep (λb o hz=>by have:=hI.X5 b o hz;simp;omega) (λ_ _ hz=>.inl hz) ⟨_,_,_,rfl⟩ (λhkp=>?_) (λb hb=>by simp[Value.ownBlock]at hb;exact hI.fresh (by omega)) (λt ht _ b hb=>?_)
     .refine⟨cells.toList,h1,hown,⟨(λm d he=>by cases he;simp),λi' d' _ hne=>?_⟩,?_,?_,λb o hb hz=>?_⟩
      .grind
      .intro i' d' hi' hc';have:i'=0:=by simpa using hi'
       subst this;simp[aO]at hc';subst hc';exact hcl
      .intro i' d' hi' hc' j' c hj';have:i'=0:=by simpa using hi'
       subst this;simp[aO]at hc';subst hc';have hjl:j'<cs.length:=(P7.1 hj').1;have hv:vs[j']?=some (vs[j']'(by omega)):=J9 (by omega);refine⟨ha j' c hj',_,?_,(hr j' c _ hj' hv).keep hkeep hkp⟩;rw[Nat.zero_mul,X9,kM,hget j' (by omega),hv]
      .simp[Value.ownBlock]at hb;have:=hI.X5 b o hz;omega
     .have hlt:=(hI.obj t).lt hb;refine⟨vJ w _ hlt,λ_ hz=>hz,?_⟩;simp[Value.ownBlock];omega
   .exact h.elim
  .exact h.elim
 .exact h.elim
def bR5(obj:J8)(d m:Nat):∀(os:KT)(k:Nat)(t:Nat),
    (∀j,j<os.length->t≠sig d (k+j))->upd obj (rO obj d m k os) t=obj t
 |[],_,_,_=>rfl
 |(el,sz,ds,D7)::r,k,t,h=>by
  simp only[rO,upd];have h0:sig d k≠t:=λe=>h 0 (by simp) (by simpa using e.symm);have:Nat.beq (sig d k) t=false:=by cases hb:Nat.beq (sig d k) t with|false=>rfl|true=>exact absurd (G5 hb) h0
  rw[this];simp only[G6];refine bR5 obj d m r (k+1) t λj hj=>?_;have:=h (j+1) (by simpa using hj)
  rwa [show k+1+j=k+(j+1)from by omega]
def dm4{d j j':Nat}(h:sig d j=sig d j'):j=j':=by unfold sig at h;omega
def bR4(obj:J8)(d m:Nat):∀(os:KT)(k j:Nat)(el sz:Nat)(ds:dS)(D7:uX),
    os[j]?=some (el,sz,ds,D7)->upd obj (rO obj d m k os) (sig d (k+j))=((obj (sig d (k+j))).1+1,.arr el sz ds (WB obj d m D7))
 |[],_,_,_,_,_,_,h=>by simp at h
 |(fB,sz',ds',jR)::r,k,0,el,sz,ds,D7,h=>by
  simp at h;obtain⟨rfl,rfl,rfl,rfl⟩:=h;simp[rO,upd]
 |(fB,sz',ds',jR)::r,k,j+1,el,sz,ds,D7,h=>by
  simp only[rO,upd];have:Nat.beq (sig d k) (sig d (k+(j+1)))=false:=by
   cases hb:Nat.beq (sig d k) (sig d (k+(j+1)))with
   |false=>rfl
   |true=>have:=dm4 (G5 hb);omega
  rw[this];simp only[G6];have:=bR4 obj d m r (k+1) j el sz ds D7 (by simpa using h)
  rwa [show k+1+j=k+(j+1)from by omega]at this
def cj1(c:Call)(hc:∀b,c.callee≠.builtin b)(dst:E8)(type:TypeId)(pos:String)(after:dO)(guard:dH):yG P G T ⟨dst,.call c,type,pos,after,guard⟩:=by
 intro Z0 w0 S n Z E st a w K next Q hI hd h hn
 have hcall:xU (jF P G) (look st) st.obj c dst K:=by
  unfold aK at h;cases hcc:c.callee with
  |builtin b=>exact absurd hcc (hc b)
  |value f=>simp only[hcc]at h;exact h
  |invoke r m=>simp only[hcc]at h;exact h
 clear h;unfold xU at hcall;split at hcall
 .rename_i f args more d hargs;split at hcall
  .rename_i cs ts hfr;replace hcall:=U8 hcall;obtain⟨hte,r,os,hholds,hcall⟩:=hcall;have htn:ts=[]:=by simpa using hte
   subst htn;split at hcall
   .rename_i s TR;have⟨hbody,BX⟩:=hholds;have⟨vs,hrl,hrun⟩:=bo4 hI hargs hfr hbody (some d) type pos after guard;refine QS (λ_ h=>nomatch h) ?_;unfold Oper.wp;rw[hrun];simp only[Oper.upon];have aP0:∀b o,Zf Z st.obj E [] b o->b<w.heap.size:=λb o hz=>hz.elim (hI.X5 b o) λ⟨s,_,hb⟩=>(hI.obj s).lt hb;refine(BX _ w _ hrl aP0 (λw1 hb1=>hI.gs _ (hI.below.trans (.of_below hb1 hI.xK)))).mono ?_;rintro e w' ⟨x,gU,rfl,hrep,hsub,hnew,hbel⟩;have⟨Eo,cN3,hapart,by5,hsl,cL7,hres⟩:=hrep;have hbel0:Kept S w w':=.of_below hbel hI.xK;have hkeep:Keeps Z w gU w':=λb o hz=>⟨hsub b o (.inl hz),jM (hbel.block b (hI.X5 b o hz))⟩;have bz3:∀b o,gU b o->(Z b o\/w.heap.size<=b):=λb o hz=>(hnew b o hz).1.imp (λh=>h.elim id (λ⟨s,hs,_⟩=>by simp at hs)) id
    let E':Nat->Value:=λt=>if d<=t/\(t-d) % 65536=0/\(t-d)/65536<os.length then Eo ((t-d)/65536)else E t
    have hE':∀j,j<os.length->E' (sig d j)=Eo j:=λj hj=>by
     have h1:sig d j-d=65536*j:=by unfold sig;omega
     have h2:(65536*j)/65536=j:=by omega
     have h3:(65536*j) % 65536=0:=by omega
     show(if _ then _ else _)=_;rw[h1,h2,h3,I9 ⟨by unfold sig;omega,rfl,hj⟩]
    have aL8:∀t,(∀j,j<os.length->t≠sig d j)->E' t=E t:=λt ht=>by
     show(if _ then _ else _)=_;rw[H7];rintro⟨h1,h2,h3⟩;exact ht _ h3 (by unfold sig;omega)
    let D8:=upd st.obj (rO st.obj d os.length 0 os)
    have hob:∀j el sz ds D7,os[j]?=some (el,sz,ds,D7)->D8 (sig d j)=((st.obj (sig d j)).1+1,.arr el sz ds (WB st.obj d os.length D7)):=λj el sz ds D7 hj=>by
     have:=bR4 st.obj d os.length os 0 j el sz ds D7 hj;simpa using this
    have aN7:∀t,(∀j,j<os.length->t≠sig d j)->D8 t=st.obj t:=λt ht=>bR5 st.obj d os.length os 0 t (λj hj=>by simpa using ht j hj);have hget:∀j,j<os.length->∃el sz ds D7,os[j]?=some (el,sz,ds,D7):=λj hj=>⟨_,_,_,_,J9 hj⟩;have hx:∀(c:CV)(u:Value),c.qA=false->(∀j,c=.ow j->j<os.length)->Z5 gU w' (fF os) Eo (uF c) u->Z5 gU w' D8 E' (uH st.obj d os.length c) u:=by
     intro c u hcr hcj hr;cases c with
     |ow j=>
      have hj:=hcj j rfl;have⟨el,sz,ds,D7,hos⟩:=hget j hj;simp only[uF]at hr;cases hr with
      |one hr=>
       cases hr with
       |cl hr=>cases hr
       |rs _ _ _ hs _ hE=>
        have hblt:Nat.blt j os.length=true:=by simp[Nat.blt];omega
        simp only[uH,hblt,H9];refine .one (.rs _ _ _ hs (by rw[hob j el sz ds D7 hos];exact N8 _) λ_ _ _ _ _=>?_);rw[hE' j hj];cases D7 with
        |none=>exact hE el sz ds none (by simp[fF,hos])
        |some p=>have⟨m,cs⟩:=p;exact hE el sz ds (some (m,cs.map uF)) (by simp[fF,hos])
     |rs t g=>cases hcr
     |pr t g off=>cases hcr
     |mr t g=>cases hcr
     |fr f caps=>cases hcr
     |bp T f=>cases hcr
     |_=>exact .cl (hr.closed rfl)
    have aq9:eY st.obj E D8 E'->∀t,(∃j,j<os.length/\t=sig d j)->X7 gU w' D8 E' (E' t) (D8 t).2:=by
     rintro _ t ⟨j,hj,rfl⟩;have⟨el,sz,ds,D7,hos⟩:=hget j hj;rw[hob j el sz ds D7 hos,hE' j hj];have ho:=cN3 j;cases D7 with
     |none=>
      simp only[fF,hos]at ho;have⟨xs,h1,h2,h3,h4,h5,h6⟩:=ho;refine⟨xs,h1,h2,h3,h4,λi' d' hi' hc' j' c hj'=>?_,h6⟩;have⟨q1,u,q2,q3⟩:=h5 i' d' hi' hc' j' c hj';have hcr:=mY (h3.2 i' d' hc' (λ_ _ h=>nomatch h)) hj';exact⟨q1,u,q2,.cl (q3.closed hcr)⟩
     |some p=>
      have⟨m,cs⟩:=p;simp only[fF,hos]at ho;have⟨xs,h1,h2,h3,h4,h5,h6⟩:=ho;have⟨hnr,hoj⟩:=cL7 j el sz ds m cs hos;have hcx:∀k,aO ds (WB st.obj d os.length (some (m,cs))) k=if k=m then some (cs.map (uH st.obj d os.length))else ds[k]?:=λk=>rfl
      have pY:∀k,aO ds (some (m,cs.map uF)) k=if k=m then some (cs.map uF)else ds[k]?:=λk=>rfl
      refine⟨xs,h1,h2,⟨λm' d' he=>?_,λi' d' hd' hne=>?_⟩,λi' d' hi' hc'=>?_,λi' d' hi' hc' j' c hj'=>?_,h6⟩
      .simp only[WB,aQ,dR]at he;rw[<-he.1];exact h3.1 m _ rfl
      .exact h3.2 i' d' hd' (λm' d'' he=>by
        simp only[aQ,dR]at he;rw[<-he.1]
        exact hne m (cs.map (uH st.obj d os.length)) rfl)
      .rw[hcx]at hc';by_cases hk:i'=m
       .grind
       .rw[H7 hk]at hc';exact h4 i' d' hi' (by rw[pY,H7 hk];exact hc')
      .rw[hcx]at hc';by_cases hk:i'=m
       .rw[I9 hk]at hc';injection hc' with hc'
        subst hc';rw[P9]at hj';cases hc0:cs[j']? with
        |none=>rw[hc0]at hj';simp at hj'
        |some c0=>
         rw[hc0]at hj';simp at hj';subst hj';have⟨q1,u,q2,q3⟩:=h5 i' (cs.map uF) hi' (by rw[pY,I9 hk]) j' (uF c0) (by rw[P9,hc0];rfl);refine⟨?_,u,q2,hx c0 u (mY hnr hc0) (λj he=>hoj j' j (by rw[hc0,he])) q3⟩;cases c0<;>first|exact q1|(simp only[uH];cases Nat.blt _ _<;>rfl)
       .rw[H7 hk]at hc';have⟨q1,u,q2,q3⟩:=h5 i' d' hi' (by rw[pY,H7 hk];exact hc') j' c hj'
        have hcr:=mY (h3.2 i' d' hc' (λm' d'' he=>by
         simp only[aQ,dR]at he
         rw[<-he.1];exact hk)) hj'
        exact⟨q1,u,q2,.cl (q3.closed hcr)⟩
    have hblk:∀j,j<os.length->∀b,(D8 (sig d j)).2.blk (E' (sig d j)) b->(fF os j).2.blk (Eo j) b:=λj hj b hb=>by
     have⟨el,sz,ds,D7,hos⟩:=hget j hj;rw[hob j el sz ds D7 hos,hE' j hj,jK]at hb;cases D7 with
     |none=>simp only[fF,hos,jK];exact hb
     |some p=>have⟨m,cs⟩:=p;simp only[fF,hos,jK];exact hb
    refine hn _ _ _ gU E' x w' hcall ?_;refine hI.renew (λt=>∃j,j<os.length/\t=sig d j) hd hbel0 hkeep (λb o hz=>(hnew b o hz).2) (λb o hz=>(bz3 b o hz).imp id hI.fresh) (λt ht=>?_) ?_ aq9 ?_ ?_ ?_ ?_
    .have ht':∀j,j<os.length->t≠sig d j:=λj hj e=>ht ⟨j,hj,e⟩;exact⟨aN7 t ht',aL8 t ht'⟩
    .grind
    .intro t ht b hb;have hlt:=(hI.obj t).lt hb;refine⟨hbel.block b hlt,λk hz=>(bz3 b k hz).resolve_right (by omega),?_⟩;rintro s ⟨j,hj,rfl⟩ hb';have:=by5 j b (hblk j hj b hb');omega
    .rintro t t' b ⟨j,hj,rfl⟩ ⟨j',hj',rfl⟩ hne h1 h2;exact hapart j j' b (λe=>hne (by rw[e])) (hblk j hj b h1) (hblk j' hj' b h2)
    .rintro t ⟨j,hj,rfl⟩ b hb;exact hI.fresh (by5 j b (hblk j hj b hb))
    .cases r with
     |ow j=>
      obtain⟨rfl,hj⟩:=hres;have hblt:Nat.blt j os.length=true:=by simp[Nat.blt];omega
      simp only[PD,hblt,H9,aQ]at TR;subst TR;have⟨el,sz,ds,D7,hos⟩:=hget j hj;refine .rs _ _ _ (hsl j hj) (by have:=hob j el sz ds D7 hos;show _<=(D8 (sig d j)).1;rw[this];exact N8 _) λ_ _ _ _ _=>hE' j hj
     |agg cs0=>
      simp only[PD,aQ]at TR;subst TR;obtain⟨vs0,hnr,rfl,hl0,hr0,ha0,hoj⟩:=hres;refine .aY _ vs0 (by simpa using hl0) (λi c v h1 h2=>?_) (λi c h1=>?_)
      .rw[P9]at h1;cases hc0:cs0[i]? with
       |none=>rw[hc0]at h1;simp at h1
       |some c0=>
        rw[hc0]at h1;simp at h1;subst h1;exact hx c0 v (mY hnr hc0) (λj he=>hoj i j (by rw[hc0,he])) (hr0 i c0 v hc0 h2)
      .rw[P9]at h1;cases hc0:cs0[i]? with
       |none=>rw[hc0]at h1;simp at h1
       |some c0=>
        rw[hc0]at h1;simp at h1;subst h1;have:=ha0 i c0 hc0;cases c0<;>first|exact this|(simp only[uH];cases Nat.blt _ _<;>rfl)
     |_=>exact hres.elim
   .exact hcall.elim
  .exact hcall.elim
 .exact hcall.elim
def cj0(hT:aA P T)(o:Oper):yG P G T o:=by
 have⟨dst,op,type,pos,after,guard⟩:=o;cases op with
 |load t x=>exact dH1 hT _ _ _ _ _ _ _
 |store t x y=>exact dH3 hT _ _ _ _ _ _ _ _
 |nilCheck x=>exact dH2 _ _ _ _ _ _
 |fieldAddr t x k=>exact dG8 hT _ _ _ _ _ _ _ _
 |indexAddr t x i=>exact dG9 hT _ _ _ _ _ _ _ _
 |buildSlice t len ps=>exact dG7 hT _ _ _ _ _ _ _ _
 |call c=>
  have⟨callee,args,argTypes⟩:=c;cases callee with
  |builtin b=>
   by_cases h1:b=.len
   .subst h1;exact dH0 hT _ _ _ _ _ _ _
   .by_cases h2:b=.append
    .subst h2;exact dG6 hT _ _ _ _ _ _ _
    .intro Z0 w0 S n Z E st a w K next Q hI hd h hn
     cases b<;>first|exact absurd rfl h1|exact absurd rfl h2|exact h.elim
  |value f=>exact cj1 _ (λb h=>by cases h) _ _ _ _ _
  |invoke r m=>exact cj1 _ (λb h=>by cases h) _ _ _ _ _
 |_=>intro Z0 w0 S n Z E st a w K next Q hI hd h hn;exact h.elim
end
end Go.F7
namespace Go.F7
open Go Go.RowKit
def bB8:∀(τ:dU)(s h k j:Nat),mX τ s h k=some j->∃i,j=k+i/\τ[i]?=some (s,h)
 |[],_,_,_,_,he=>by simp[mX]at he
 |(t,g)::r,s,h,k,j,he=>by
  simp only[mX]at he;rcases hb:(Nat.beq t s&&Nat.beq g h)with _|_
  .rw[hb]at he;simp only[G6]at he;have⟨i,h1,h2⟩:=bB8 r s h (k+1) j he;exact⟨i+1,by omega,by simpa using h2⟩
  .rw[hb]at he;simp at he;simp only[Z4]at hb;have h1:=G5 hb.1;have h2:=G5 hb.2;subst h1;subst h2;subst he;exact⟨0,rfl,rfl⟩
def aP1{τ:dU}{s h j:Nat}(he:mX τ s h 0=some j):τ[j]?=some (s,h):=by
 have⟨i,h1,h2⟩:=bB8 τ s h 0 j he;rw[h1,X9];exact h2
structure Match(τ:List (Nat×Nat))(γ:Nat->Nat)(obj:J8)(E:Nat->Value)(jU:J8)(Eo:Nat->Value):Prop where
 at_:∀j t g,τ[j]?=some (t,g)->(obj t).1=g/\∃o',gY τ γ (obj t).2=some o'/\jU j=(γ j,o')/\Eo j=E t
section
variable{τ:dU}{γ:Nat->Nat}{Z:Zone}{w:World}{obj jU:J8}{E Eo:Q8}
def bK8{o o':G8}{el sz:Nat}{ds:dS}{D7:uX}(h:gY τ γ o=some o')(he:o'=.arr el sz ds D7):∃oJ,o=.arr el sz ds oJ:=by
 subst he;unfold gY at h;split at h
 .cases hc:iM τ γ _ with
  |none=>rw[hc]at h;simp at h
  |some cs=>rw[hc]at h;simp at h
 .cases hc:iM τ γ _ with
  |none=>rw[hc]at h;simp at h
  |some cs=>rw[hc]at h;simp at h;obtain⟨rfl,rfl,rfl,_⟩:=h;exact⟨_,rfl⟩
 .simp at h;subst h;exact⟨_,rfl⟩
def bL1{o o':G8}{el sz:Nat}(h:gY τ γ o=some o')(he:o'=.tok el sz):o=.tok el sz:=by
 subst he;unfold gY at h;split at h
 .cases hc:iM τ γ _ with
  |none=>rw[hc]at h;simp at h
  |some cs=>rw[hc]at h;simp at h
 .cases hc:iM τ γ _ with
  |none=>rw[hc]at h;simp at h
  |some cs=>rw[hc]at h;simp at h
 .simp at h;exact h
def bL0{o o':G8}{es:uV}(h:gY τ γ o=some o')(he:o'=.map es):o=.map es:=by
 subst he;unfold gY at h;split at h
 .cases hc:iM τ γ _ with
  |none=>rw[hc]at h;simp at h
  |some cs=>rw[hc]at h;simp at h
 .cases hc:iM τ γ _ with
  |none=>rw[hc]at h;simp at h
  |some cs=>rw[hc]at h;simp at h
 .simp at h;exact h
def bL2{o o':G8}{cs:G9}(h:gY τ γ o=some o')(he:o'=.var cs\/o'=.ro cs\/o'=.varx cs):∃cs0,o=.var cs0\/o=.ro cs0\/o=.varx cs0:=by
 unfold gY at h;split at h
 .exact⟨_,.inr (.inr rfl)⟩
 .cases hc:iM τ γ _ with
  |none=>rw[hc]at h;simp at h
  |some cs=>rw[hc]at h;simp at h;subst h;simp at he
 .grind
theorem bK9{o o':G8}(h:gY τ γ o=some o')(e:Value){b:Nat}:o'.blk e b=o.blk e b:=by
 unfold gY at h;split at h
 .cases hc:iM τ γ _ with
  |none=>rw[hc]at h;simp at h
  |some cs=>rw[hc]at h;simp at h;subst h;cases e<;>first|rfl|(rename_i a;cases a<;>rfl)
 .cases hc:iM τ γ _ with
  |none=>rw[hc]at h;simp at h
  |some cs=>rw[hc]at h;simp at h;subst h;rw[jK,jK]
 .simp at h;subst h;rfl
def Match.live(M:Match τ γ obj E jU Eo){j t g:Nat}(hj:τ[j]?=some (t,g))(h:live jU j (γ j)):live obj t g:=by
 have⟨h1,o',h2,h3,_⟩:=M.at_ j t g hj;have⟨cs,h⟩:=h;rw[h3]at h;simp only[dR,true_and]at h;have⟨cs0,h4⟩:=bL2 h2 h;refine⟨cs0,?_⟩
 grind
def Match.arr(M:Match τ γ obj E jU Eo){j t g el sz:Nat}{ds:dS}{D7:uX}(hj:τ[j]?=some (t,g))(h:jU j=(γ j,.arr el sz ds D7)):∃oJ,obj t=(g,.arr el sz ds oJ):=by
 have⟨h1,o',h2,h3,_⟩:=M.at_ j t g hj;rw[h3]at h;simp only[dR,true_and]at h;have⟨f0,h4⟩:=bK8 h2 h;exact⟨f0,by rw[<-h1,<-h4]⟩
def Match.map(M:Match τ γ obj E jU Eo){j t g:Nat}{es:uV}(hj:τ[j]?=some (t,g))(h:jU j=(γ j,.map es)):obj t=(g,.map es):=by
 have⟨h1,o',h2,h3,_⟩:=M.at_ j t g hj;rw[h3]at h;simp only[dR,true_and]at h;rw[<-h1,<-bL0 h2 h]
def Match.tok(M:Match τ γ obj E jU Eo){j t g el sz:Nat}(hj:τ[j]?=some (t,g))(h:jU j=(γ j,.tok el sz)):obj t=(g,.tok el sz):=by
 have⟨h1,o',h2,h3,_⟩:=M.at_ j t g hj;rw[h3]at h;simp only[dR,true_and]at h;rw[<-h1,<-bL1 h2 h]
def Match.gen(M:Match τ γ obj E jU Eo){j t g:Nat}(hj:τ[j]?=some (t,g)):γ j<=(jU j).1/\Eo j=E t:=by
 have⟨h1,o',h2,h3,h4⟩:=M.at_ j t g hj;rw[h3];exact⟨N8 _,h4⟩
def cu9{c c':CV}(h:wM τ γ c=some c')(hn:c.qA=false):c'=c:=by
 cases c<;>first|(simp[wM]at h;exact h.symm)|(simp[CV.qA]at hn)
def ax0{t g:Nat}{f:Nat->CV}{c':CV}(h:(mX τ t g 0).map f=some c'):∃j,τ[j]?=some (t,g)/\c'=f j:=by
 rcases hi:mX τ t g 0 with _|j
 .rw[hi]at h;simp at h
 .rw[hi]at h;simp at h;exact⟨j,aP1 hi,h.symm⟩
def ax1{t g:Nat}{f:Nat->SV}{c':SV}(h:(mX τ t g 0).map f=some c'):∃j,τ[j]?=some (t,g)/\c'=f j:=by
 rcases hi:mX τ t g 0 with _|j
 .rw[hi]at h;simp at h
 .rw[hi]at h;simp at h;exact⟨j,aP1 hi,h.symm⟩
def iK.tOz(M:Match τ γ obj E jU Eo){c c':CV}{x:Value}(h:iK Z w obj E c x)(hc:wM τ γ c=some c'):iK Z w jU Eo c' x:=by
 cases h with
 |cl h=>rw[cu9 hc h.IV];exact .cl h
 |rs t g x hs hg h=>
  obtain⟨j,hj,rfl⟩:=ax0 hc;refine .rs j (γ j) x hs (M.gen hj).1 λel sz ds D7 ho=>?_;have⟨f0,h0⟩:=M.arr hj ho;rw[(M.gen hj).2];exact h _ _ _ _ h0
 |pr t g off x hs hg h=>
  obtain⟨j,hj,rfl⟩:=ax0 hc;refine .pr j (γ j) off x hs (M.gen hj).1 λhl=>?_;rw[(M.gen hj).2];exact h (M.live hj hl)
 |mr t g x hs hg h=>
  obtain⟨j,hj,rfl⟩:=ax0 hc;refine .mr j (γ j) x hs (M.gen hj).1 λes ho=>?_;rw[(M.gen hj).2];exact h _ (M.map hj ho)
 |bp T f x hs=>simp[wM]at hc;subst hc;exact .bp T f x hs
def bq5:∀{cs cs':G9},LV τ γ cs=some cs'->cs'.length=cs.length/\∀(i:Nat)(c':CV),cs'[i]?=some c'->∃c,cs[i]?=some c/\wM τ γ c=some c'
 |[],cs',h=>by simp[LV]at h;subst h;exact⟨rfl,λi c' h=>by simp at h⟩
 |c::r,cs',h=>by
  simp only[LV]at h;split at h
  .rename_i d ds h1 h2;simp at h;subst h;have⟨k1,k2⟩:=bq5 h2;refine⟨by simp[k1],λi c' hi=>?_⟩;cases i with
   |zero=>simp at hi;subst hi;exact⟨c,rfl,h1⟩
   |succ i=>exact k2 i c' (by simpa using hi)
  .simp at h
def SQ:∀{cs cs':G9},iM τ γ cs=some cs'->cs'.length=cs.length/\∀(i:Nat)(c':CV),cs'[i]?=some c'->∃c,cs[i]?=some c/\FT τ γ c=some c'
 |[],cs',h=>by simp[iM]at h;subst h;exact⟨rfl,λi c' h=>by simp at h⟩
 |c::r,cs',h=>by
  simp only[iM]at h;split at h
  .rename_i d ds h1 h2;simp at h;subst h;have⟨k1,k2⟩:=SQ h2;refine⟨by simp[k1],λi c' hi=>?_⟩;cases i with
   |zero=>simp at hi;subst hi;exact⟨c,rfl,h1⟩
   |succ i=>exact k2 i c' (by simpa using hi)
  .simp at h
def bZ8:∀{cs cs':dG},WT τ γ cs=some cs'->cs'.length=cs.length/\∀(i:Nat)(c':SV),cs'[i]?=some c'->∃c,cs[i]?=some c/\uJ τ γ c=some c'
 |[],cs',h=>by simp[WT]at h;subst h;exact⟨rfl,λi c' h=>by simp at h⟩
 |c::r,cs',h=>by
  simp only[WT]at h;split at h
  .rename_i d ds h1 h2;simp at h;subst h;have⟨k1,k2⟩:=bZ8 h2;refine⟨by simp[k1],λi c' hi=>?_⟩;cases i with
   |zero=>simp at hi;subst hi;exact⟨c,rfl,h1⟩
   |succ i=>exact k2 i c' (by simpa using hi)
  .simp at h
def bb9:∀{cs cs':dG},WS τ γ cs=some cs'->cs'.length=cs.length/\∀(i:Nat)(c':SV),cs'[i]?=some c'->∃c,cs[i]?=some c/\sTo τ γ c=some c'
 |[],cs',h=>by simp[WS]at h;subst h;exact⟨rfl,λi c' h=>by simp at h⟩
 |c::r,cs',h=>by
  simp only[WS]at h;split at h
  .rename_i d ds h1 h2;simp at h;subst h;have⟨k1,k2⟩:=bb9 h2;refine⟨by simp[k1],λi c' hi=>?_⟩;cases i with
   |zero=>simp at hi;subst hi;exact⟨c,rfl,h1⟩
   |succ i=>exact k2 i c' (by simpa using hi)
  .simp at h
def Z5.tOz(M:Match τ γ obj E jU Eo){c c':CV}{x:Value}(h:Z5 Z w obj E c x)(hc:FT τ γ c=some c'):Z5 Z w jU Eo c' x:=by
 cases h with
 |one h=>
  cases c with
  |fr f caps=>cases h with|cl h=>cases h
  |_=>exact .one (h.tOz M hc)
 |fr f caps vs hl h=>
  simp only[FT]at hc;rcases hk:LV τ γ caps with _|cs
  .rw[hk]at hc;simp at hc
  .rw[hk]at hc;simp at hc;subst hc;have⟨k1,k2⟩:=bq5 hk;refine .fr f cs vs (k1.trans hl) λi c' x h1 h2=>?_;have⟨c,h3,h4⟩:=k2 i c' h1;exact(h i c x h3 h2).tOz M h4
theorem cu8{c c':CV}(h:wM τ γ c=some c'):c'.atom=c.atom:=by
 cases c<;>first|(simp[wM]at h;done)|(simp[wM]at h;rw[<-h];done)|(obtain⟨j,_,rfl⟩:=ax0 h;rfl)
def YI{c c':CV}(h:FT τ γ c=some c'):c'.atom=c.atom:=by
 cases c with
 |fr f caps=>
  simp only[FT]at h;cases hk:LV τ γ caps with
  |none=>rw[hk]at h;simp at h
  |some cs=>rw[hk]at h;simp at h;subst h;rfl
 |_=>exact cu8 (τ:=τ) (γ:=γ) h
def O7.to1(M:Match τ γ obj E jU Eo){s s':SV}{x:Value}(h:O7 Z w obj E s x)(hc:uJ τ γ s=some s'):O7 Z w jU Eo s' x:=by
 cases h with
 |any x=>simp[uJ]at hc;subst hc;exact .any _
 |un=>simp[uJ]at hc;subst hc;exact .un
 |kt=>simp[uJ]at hc;subst hc;exact .kt
 |kf=>simp[uJ]at hc;subst hc;exact .kf
 |c c x h=>simp[uJ]at hc;subst hc;exact .c _ _ h
 |pm t g off x hs hg h=>
  obtain⟨j,hj,rfl⟩:=ax1 hc;refine .pm j (γ j) off x hs (M.gen hj).1 λhl=>?_;rw[(M.gen hj).2];exact h (M.live hj hl)
 |ap t g sz es x h hg ht=>
  simp only[uJ]at hc;cases hi:mX τ t g 0 with
  |none=>rw[hi]at hc;simp at hc;subst hc;exact .c _ _ h
  |some j=>
   rw[hi]at hc;simp at hc;subst hc;have hj:=aP1 hi;exact .ap j (γ j) sz es x h (M.gen hj).1 λel s ho=>by rw[(M.gen hj).2];exact ht _ _ (M.tok hj ho)
 |V4=>simp[uJ]at hc
 |rs t g x hs hg h=>
  obtain⟨j,hj,rfl⟩:=ax1 hc;refine .rs j (γ j) x hs (M.gen hj).1 λel sz ds D7 ho=>?_;obtain⟨f0,h0⟩:=M.arr hj ho;rw[(M.gen hj).2];exact h _ _ _ _ h0
 |aY cs vs hl h ha=>
  simp only[uJ]at hc;cases hk:iM τ γ cs with
  |none=>rw[hk]at hc;simp at hc
  |some cs'=>
   rw[hk]at hc;simp at hc;subst hc;obtain⟨k1,k2⟩:=SQ hk;refine .aY cs' vs (k1.trans hl) (λi c' x h1 h2=>?_) (λi c' h1=>?_)
   .obtain⟨c,h3,h4⟩:=k2 i c' h1;exact(h i c x h3 h2).tOz M h4
   .obtain⟨c,h3,h4⟩:=k2 i c' h1;rw[YI h4];exact ha i c h3
 |fC cs vs hl h ha=>
  simp only[uJ]at hc;cases hk:iM τ γ cs with
  |none=>rw[hk]at hc;simp at hc
  |some cs'=>
   rw[hk]at hc;simp at hc;subst hc;obtain⟨k1,k2⟩:=SQ hk;refine .fC cs' vs (k1.trans hl) (λi c' x h1 h2=>?_) (λi c' h1=>?_)
   .obtain⟨c,h3,h4⟩:=k2 i c' h1;exact(h i c x h3 h2).tOz M h4
   .obtain⟨c,h3,h4⟩:=k2 i c' h1;rw[YI h4];exact ha i c h3
 |pe t g n off x hg h=>
  obtain⟨j,hj,rfl⟩:=ax1 hc;refine .pe j (γ j) n off x (M.gen hj).1 λel sz ds D7 ho=>?_;obtain⟨f0,h0⟩:=M.arr hj ho;rw[(M.gen hj).2];exact h _ _ _ _ h0
 |mr t g x hs hg h=>
  obtain⟨j,hj,rfl⟩:=ax1 hc;refine .mr j (γ j) x hs (M.gen hj).1 λes ho=>?_;rw[(M.gen hj).2];exact h _ (M.map hj ho)
def O7.tOz(M:Match τ γ obj E jU Eo){s s':SV}{x:Value}(h:O7 Z w obj E s x)(hc:sTo τ γ s=some s'):O7 Z w jU Eo s' x:=by
 cases s with
 |V4 f caps=>
  cases h with
  |V4 _ _ vs hf hl h=>
   simp only[sTo]at hc;cases hk:WT τ γ caps with
   |none=>rw[hk]at hc;simp at hc
   |some cs=>
    rw[hk]at hc;simp at hc;subst hc;obtain⟨k1,k2⟩:=bZ8 hk;refine .V4 f cs vs hf (k1.trans hl) λi c' x h1 h2=>?_;obtain⟨c,h3,h4⟩:=k2 i c' h1;exact(h i c x h3 h2).to1 M h4
 |_=>exact h.to1 M hc
def cv5{c:CV}{T:Nat}{f:Bool}(h:FT τ γ c=some (.bp T f)):c=.bp T f:=by
 cases c<;>simp[FT,wM]at h⊢<;>exact h
def X7.tOz(M:Match τ γ obj E jU Eo){o o':G8}{e:Value}(h:X7 Z w obj E e o)(hc:gY τ γ o=some o'):X7 Z w jU Eo e o':=by
 cases o with
 |varx cs=>
  simp only[gY]at hc;cases hk:iM τ γ cs with
  |none=>rw[hk]at hc;simp at hc
  |some cs'=>
   rw[hk]at hc;simp at hc;subst hc;have⟨k1,k2⟩:=SQ hk;have⟨b,el,arr,h1,h2,h3,h4,h5⟩:=h;refine⟨b,el,arr,h1,h2,h3.trans k1.symm,λj c' hj=>?_,h5.1,h5.2.same λj T f hj=>?_⟩
   rotate_left
   .have⟨c,h6,h7⟩:=k2 j _ hj;rw[h6,cv5 h7]
   have⟨c,h6,h7⟩:=k2 j c' hj;have⟨q1,x,q2,q3⟩:=h4 j c h6;exact⟨by rw[YI h7];exact q1,x,q2,q3.tOz M h7⟩
 |arr el sz ds D7=>
  have⟨xs,h1,h2,h3,h4,h5,h6⟩:=h;cases D7 with
  |none=>
   simp[gY]at hc;subst hc;refine⟨xs,h1,h2,h3,h4,λi d hi hcx j c hj=>?_,h6⟩;have⟨q1,u,q2,q3⟩:=h5 i d hi hcx j c hj;exact⟨q1,u,q2,.cl (q3.closed (mY (h3.2 i d hcx (λ_ _ h=>nomatch h)) hj))⟩
  |some p=>
   have⟨m,cs⟩:=p;simp only[gY]at hc;cases hk:iM τ γ cs with
   |none=>rw[hk]at hc;simp at hc
   |some cs'=>
    rw[hk]at hc;simp at hc;subst hc;have⟨k1,k2⟩:=SQ hk;have hcx:∀k,aO ds (some (m,cs')) k=if k=m then some cs' else ds[k]?:=λk=>rfl
    have pY:∀k,aO ds (some (m,cs)) k=if k=m then some cs else ds[k]?:=λk=>rfl
    refine⟨xs,h1,h2,⟨λm' d' he=>by cases he;exact h3.1 m cs rfl,λi d hd hne=>h3.2 i d hd λm' d' he=>by cases he;exact hne m cs' rfl⟩,λi d hi hc'=>?_,λi d hi hc' j c hj=>?_,h6⟩
    .grind
    .rw[hcx]at hc';by_cases hk':i=m
     .rw[I9 hk']at hc';cases hc';have⟨c0,h7,h8⟩:=k2 j c hj;have⟨q1,u,q2,q3⟩:=h5 i cs hi (by rw[pY,I9 hk']) j c0 h7;exact⟨by rw[YI h8];exact q1,u,q2,q3.tOz M h8⟩
     .rw[H7 hk']at hc';have⟨q1,u,q2,q3⟩:=h5 i d hi (by rw[pY,H7 hk'];exact hc') j c hj;exact⟨q1,u,q2,.cl (q3.closed (mY (h3.2 i d hc' (λm' d' he=>by cases he;exact hk')) hj))⟩
 |none=>simp[gY]at hc;subst hc;exact h
 |spent=>simp[gY]at hc;subst hc;exact h
 |var cs=>simp[gY]at hc;subst hc;exact h
 |ro cs=>simp[gY]at hc;subst hc;exact h
 |tok el sz=>simp[gY]at hc;subst hc;exact h
 |map es=>simp[gY]at hc;subst hc;exact h
 |lp l R q=>simp[gY]at hc;subst hc;exact h
def aW6{obj:J8}:∀{l:dU}{k:Nat}{os:Y0},rG τ γ obj k l=some os->os.length=l.length/\∀(j t g:Nat),l[j]?=some (t,g)->(obj t).1=g/\∃o',gY τ γ (obj t).2=some o'/\os[j]?=some (γ (k+j),o')
 |[],k,os,h=>by simp[rG]at h;subst h;exact⟨rfl,λj t g h=>by simp at h⟩
 |(t,g)::r,k,os,h=>by
  simp only[rG]at h;rcases hb:Nat.beq (obj t).1 g with _|_
  .rw[hb]at h;simp at h
  .rw[hb]at h;simp only[H9]at h;split at h
   .rename_i o os' h1 h2;simp at h;subst h;have⟨k1,k2⟩:=aW6 h2;refine⟨by simp[k1],λj t' g' hj=>?_⟩;cases j with
    |zero=>simp at hj;obtain⟨rfl,rfl⟩:=hj;exact⟨G5 hb,o,h1,rfl⟩
    |succ j=>grind
   .simp at h
end
def as9:∀{l:O1},qC l=true->∀(i j x:Nat),l[i]?=some x->l[j]?=some x->i=j
 |[],_,i,_,_,h,_=>by simp at h
 |y::r,hn,i,j,x,hi,hj=>by
  simp only[qC]at hn;rcases hb:r.any (Nat.beq y)with _|_
  .rw[hb]at hn;simp only[G6]at hn;rw[ET]at hb;have hy:∀k,r[k]?≠some y:=λk hk=>hb y (iZ hk) (Nat.beq_refl y);rcases i with _|i
   .cases j with
    |zero=>rfl
    |succ j=>simp at hi;subst hi;exact absurd (by simpa using hj) (hy j)
   .rcases j with _|j
    .simp at hj;subst hj;exact absurd (by simpa using hi) (hy i)
    .rw[as9 hn i j x (by simpa using hi) (by simpa using hj)]
  .rw[hb]at hn;cases hn
section
variable{obj:J8}{d off:Nat}{τ:dU}
def QE:∀(os:Y0)(k j:Nat),j<os.length->((aZ obj d off τ k os).map (·.1))[j]?=some (V8 d off τ (k+j))
 |[],_,_,h=>by simp at h
 |(g,o)::r,k,j,h=>by
  rcases j with _|j
  .simp[aZ]
  .have:=QE r (k+1) j (by simpa using h);rw[show k+(j+1)=k+1+j by omega];simpa[aZ]using this
def bf5{iF:J8}:∀(os:Y0)(k j g:Nat)(o:G8),qC ((aZ obj d off τ k os).map (·.1))=true->os[j]?=some (g,o)->upd iF (aZ obj d off τ k os) (V8 d off τ (k+j))=(dY obj d off τ (k+j) g,eG obj d off τ o)
 |[],_,_,_,_,_,h=>by simp at h
 |(g0,o0)::r,k,j,g,o,hn,h=>by
  rcases j with _|j
  .simp at h;obtain⟨rfl,rfl⟩:=h;simp[aZ,upd]
  .have hne:Nat.beq (V8 d off τ k) (V8 d off τ (k+(j+1)))=false:=by
    cases hb:Nat.beq (V8 d off τ k) (V8 d off τ (k+(j+1)))with
    |false=>rfl
    |true=>
     have he:=G5 hb;have hlt:j+1<((g0,o0)::r).length:=(P7.1 h).1;have:=as9 hn 0 (j+1) _ (QE ((g0,o0)::r) k 0 (by simp)) (by rw[QE ((g0,o0)::r) k (j+1) hlt];exact congrArg some he.symm);omega
   simp only[aZ,upd,hne,G6];have hn':qC ((aZ obj d off τ (k+1) r).map (·.1))=true:=by
    simp only[aZ,kP,qC]at hn;cases hb:List.any ((aZ obj d off τ (k+1) r).map (·.1)) (Nat.beq (V8 d off τ k))with
    |true=>rw[hb]at hn;cases hn
    |false=>rw[hb]at hn;exact hn
   have:=bf5 (iF:=iF) r (k+1) j g o hn' (by simpa using h);rw[show k+(j+1)=k+1+j by omega];exact this
def bf6{iF:J8}:∀(os:Y0)(k t:Nat),(∀j,j<os.length->t≠V8 d off τ (k+j))->upd iF (aZ obj d off τ k os) t=iF t
 |[],_,_,_=>rfl
 |(g0,o0)::r,k,t,h=>by
  have hne:Nat.beq (V8 d off τ k) t=false:=by
   cases hb:Nat.beq (V8 d off τ k) t with
   |false=>rfl
   |true=>exact absurd (G5 hb).symm (h 0 (by simp))
  simp only[aZ,upd,hne,G6];exact bf6 r (k+1) t λj hj=>by
   rw[show k+1+j=k+(j+1) by omega];exact h (j+1) (by simpa using hj)
def ct7{j k k':Nat}(h:k<=k'):dY obj d off τ j k<=dY obj d off τ j k':=by unfold dY;split<;>omega
def am0{j k k':Nat}(h:dY obj d off τ j k=dY obj d off τ j k'):k=k':=by unfold dY at h;split at h<;>omega
structure Back(obj:J8)(d off:Nat)(τ:List (Nat×Nat))(os:List (Nat×G8))(Eo:Nat->Value)(D8:J8)(E':Nat->Value):Prop where
 at_:∀j g o,os[j]?=some (g,o)->D8 (V8 d off τ j)=(dY obj d off τ j g,eG obj d off τ o)/\E' (V8 d off τ j)=Eo j
variable{os:Y0}{Eo E':Q8}{D8:J8}{Z:Zone}{w:World}
theorem bK6(o:G8)(e:Value){b:Nat}:(eG obj d off τ o).blk e b=o.blk e b:=by
 cases o with
 |varx cs=>cases e<;>first|rfl|(rename_i a;cases a<;>rfl)
 |arr el sz ds D7=>
  cases D7 with
  |none=>rfl
  |some p=>have⟨m,cs⟩:=p;simp only[eG];rw[jK,jK]
 |_=>rfl
def Back.live(B:Back obj d off τ os Eo D8 E'){j k:Nat}(hj:j<os.length)(h:live D8 (V8 d off τ j) (dY obj d off τ j k)):live (I5 os) j k:=by
 have hos:os[j]?=some (os[j].1,os[j].2):=J9 hj;have⟨h1,_⟩:=B.at_ j _ _ hos;have⟨cs,h⟩:=h;rw[h1]at h;have hl:I5 os j=(os[j].1,os[j].2):=by unfold I5;rw[hos]
 rcases h with h|h|h
 all_goals
  simp only[dR]at h;have hk:=am0 h.1;rw[hk]at hl;have h2:=h.2
 .cases ho:os[j].2 with
  |var cs0=>rw[ho]at hl;exact⟨cs0,.inl hl⟩
  |arr el sz ds D7=>rw[ho]at h2;cases D7<;>simp[eG]at h2
  |_=>rw[ho]at h2;simp[eG]at h2
 .cases ho:os[j].2 with
  |ro cs0=>rw[ho]at hl;exact⟨cs0,.inr (.inl hl)⟩
  |arr el sz ds D7=>rw[ho]at h2;cases D7<;>simp[eG]at h2
  |_=>rw[ho]at h2;simp[eG]at h2
 .cases ho:os[j].2 with
  |varx cs0=>rw[ho]at hl;exact⟨cs0,.inr (.inr hl)⟩
  |arr el sz ds D7=>rw[ho]at h2;cases D7<;>simp[eG]at h2
  |_=>rw[ho]at h2;simp[eG]at h2
def Back.arr(B:Back obj d off τ os Eo D8 E'){j k el sz:Nat}{ds:dS}{D7:uX}(hj:j<os.length)(h:D8 (V8 d off τ j)=(dY obj d off τ j k,.arr el sz ds D7)):∃oJ,I5 os j=(k,.arr el sz ds oJ):=by
 have hos:os[j]?=some (os[j].1,os[j].2):=J9 hj;have⟨h1,_⟩:=B.at_ j _ _ hos;rw[h1]at h;have hl:I5 os j=(os[j].1,os[j].2):=by unfold I5;rw[hos]
 simp only[dR]at h;rw[am0 h.1]at hl;have h2:=h.2;cases ho:os[j].2 with
 |arr fB sz' ds' jR=>
  rw[ho]at h2 hl;cases jR with
  |none=>simp[eG]at h2;obtain⟨rfl,rfl,rfl,_⟩:=h2;exact⟨_,hl⟩
  |some p=>have⟨m,cs⟩:=p;simp[eG]at h2;obtain⟨rfl,rfl,rfl,_⟩:=h2;exact⟨_,hl⟩
 |_=>rw[ho]at h2;simp[eG]at h2
def Back.map(B:Back obj d off τ os Eo D8 E'){j k:Nat}{es:uV}(hj:j<os.length)(h:D8 (V8 d off τ j)=(dY obj d off τ j k,.map es)):I5 os j=(k,.map es):=by
 have hos:os[j]?=some (os[j].1,os[j].2):=J9 hj;have⟨h1,_⟩:=B.at_ j _ _ hos;rw[h1]at h;have hl:I5 os j=(os[j].1,os[j].2):=by unfold I5;rw[hos]
 simp only[dR]at h;rw[am0 h.1]at hl;have h2:=h.2;cases ho:os[j].2 with
 |map es'=>rw[ho]at h2 hl;simp[eG]at h2;subst h2;exact hl
 |arr el sz ds D7=>rw[ho]at h2;cases D7<;>simp[eG]at h2
 |_=>rw[ho]at h2;simp[eG]at h2
def Back.tok(B:Back obj d off τ os Eo D8 E'){j k el sz:Nat}(hj:j<os.length)(h:D8 (V8 d off τ j)=(dY obj d off τ j k,.tok el sz)):I5 os j=(k,.tok el sz):=by
 have hos:os[j]?=some (os[j].1,os[j].2):=J9 hj;have⟨h1,_⟩:=B.at_ j _ _ hos;rw[h1]at h;have hl:I5 os j=(os[j].1,os[j].2):=by unfold I5;rw[hos]
 simp only[dR]at h;rw[am0 h.1]at hl;have h2:=h.2;cases ho:os[j].2 with
 |tok fB sz'=>rw[ho]at h2 hl;simp[eG]at h2;obtain⟨rfl,rfl⟩:=h2;exact hl
 |arr el sz ds D7=>rw[ho]at h2;cases D7<;>simp[eG]at h2
 |_=>rw[ho]at h2;simp[eG]at h2
def Back.gen(B:Back obj d off τ os Eo D8 E'){j k:Nat}(hj:j<os.length)(hk:k<=(I5 os j).1):dY obj d off τ j k<=(D8 (V8 d off τ j)).1/\E' (V8 d off τ j)=Eo j:=by
 have hos:os[j]?=some (os[j].1,os[j].2):=J9 hj;have⟨h1,h2⟩:=B.at_ j _ _ hos;have hl:I5 os j=(os[j].1,os[j].2):=by unfold I5;rw[hos]
 rw[hl]at hk;rw[h1];exact⟨ct7 hk,h2⟩
def fA{j n:Nat}(h:Nat.blt j n=true):j<n:=I8 h
def iK.back(B:Back obj d off τ os Eo D8 E'){c:CV}{x:Value}(h:iK Z w (I5 os) Eo c x)(hc:SC os.length c=true):iK Z w D8 E' (FQ obj d off τ c) x:=by
 cases h with
 |cl h=>have hn:=h.IV;cases c<;>first|exact .cl h|(simp[CV.qA]at hn)
 |rs j k x hs hg h=>
  have hj:=fA hc;have⟨g1,g2⟩:=B.gen hj hg;refine .rs _ _ x hs g1 λel sz ds D7 ho=>?_;have⟨f0,h0⟩:=B.arr hj ho;rw[g2];exact h _ _ _ _ h0
 |pr j k off x hs hg h=>
  have hj:=fA hc;have⟨g1,g2⟩:=B.gen hj hg;refine .pr _ _ _ x hs g1 λhl=>?_;rw[g2];exact h (B.live hj hl)
 |mr j k x hs hg h=>
  have hj:=fA hc;have⟨g1,g2⟩:=B.gen hj hg;refine .mr _ _ x hs g1 λes ho=>?_;rw[g2];exact h _ (B.map hj ho)
 |bp T f x hs=>exact .bp T f x hs
def yH{α:Type}{p:α->Bool}{l:List α}(h:l.all p=true){i:Nat}{x:α}(hi:l[i]?=some x):p x=true:=oW.1 h x (iZ hi)
def Z5.back(B:Back obj d off τ os Eo D8 E'){c:CV}{x:Value}(h:Z5 Z w (I5 os) Eo c x)(hc:qW os.length c=true):Z5 Z w D8 E' (qV obj d off τ c) x:=by
 cases h with
 |one h=>
  cases c with
  |fr f caps=>cases h with|cl h=>cases h
  |_=>exact .one (h.back B hc)
 |fr f caps vs hl h=>
  simp only[qW]at hc;refine .fr f _ vs (by simpa using hl) λi c x h1 h2=>?_;rw[P9]at h1;rcases hk:caps[i]? with _|c0
  .rw[hk]at h1;simp at h1
  .rw[hk]at h1;simp at h1;subst h1;exact(h i c0 x hk h2).back B (yH hc hk)
theorem an0(c:CV):(qV obj d off τ c).atom=c.atom:=by cases c<;>rfl
def O7.bm4(B:Back obj d off τ os Eo D8 E'){s:SV}{x:Value}(h:O7 Z w (I5 os) Eo s x)(hs:∀f caps,s≠.V4 f caps)(hc:DY os.length s=true):O7 Z w D8 E' (uI obj d off τ s) x:=by
 cases h with
 |any x=>exact .any _
 |un=>exact .un
 |kt=>exact .kt
 |kf=>exact .kf
 |c c x h=>exact .c _ _ h
 |pm j k off x hs hg h=>
  have hj:=fA hc;have⟨g1,g2⟩:=B.gen hj hg;refine .pm _ _ _ x hs g1 λhl=>?_;rw[g2];exact h (B.live hj hl)
 |ap j k sz es x h hg ht=>
  have hj:=fA hc;have⟨g1,g2⟩:=B.gen hj hg;exact .ap _ _ sz es x h g1 λel s ho=>by rw[g2];exact ht _ _ (B.tok hj ho)
 |V4 f caps=>exact absurd rfl (hs f caps)
 |rs j k x hs hg h=>
  have hj:=fA hc;have⟨g1,g2⟩:=B.gen hj hg;refine .rs _ _ x hs g1 λel sz ds D7 ho=>?_;have⟨f0,h0⟩:=B.arr hj ho;rw[g2];exact h _ _ _ _ h0
 |aY cs vs hl h ha=>
  simp only[DY]at hc;refine .aY _ vs (by simpa using hl) (λi c x h1 h2=>?_) (λi c h1=>?_)
  .rw[P9]at h1;cases hk:cs[i]? with
   |none=>rw[hk]at h1;simp at h1
   |some c0=>rw[hk]at h1;simp at h1;subst h1;exact(h i c0 x hk h2).back B (yH hc hk)
  .rw[P9]at h1;cases hk:cs[i]? with
   |none=>rw[hk]at h1;simp at h1
   |some c0=>rw[hk]at h1;simp at h1;subst h1;rw[an0];exact ha i c0 hk
 |fC cs vs hl h ha=>
  simp only[DY]at hc;refine .fC _ vs (by simpa using hl) (λi c x h1 h2=>?_) (λi c h1=>?_)
  .rw[P9]at h1;cases hk:cs[i]? with
   |none=>rw[hk]at h1;simp at h1
   |some c0=>rw[hk]at h1;simp at h1;subst h1;exact(h i c0 x hk h2).back B (yH hc hk)
  .rw[P9]at h1;cases hk:cs[i]? with
   |none=>rw[hk]at h1;simp at h1
   |some c0=>rw[hk]at h1;simp at h1;subst h1;rw[an0];exact ha i c0 hk
 |pe j k n off x hg h=>
  have hj:=fA hc;have⟨g1,g2⟩:=B.gen hj hg;refine .pe _ _ _ _ x g1 λel sz ds D7 ho=>?_;have⟨f0,h0⟩:=B.arr hj ho;rw[g2];exact h _ _ _ _ h0
 |mr j k x hs hg h=>
  have hj:=fA hc;have⟨g1,g2⟩:=B.gen hj hg;refine .mr _ _ x hs g1 λes ho=>?_;rw[g2];exact h _ (B.map hj ho)
def O7.back(B:Back obj d off τ os Eo D8 E'){s:SV}{x:Value}(h:O7 Z w (I5 os) Eo s x)(hc:nX os.length s=true):O7 Z w D8 E' (zF obj d off τ s) x:=by
 cases s with
 |V4 f caps=>
  cases h with
  |V4 _ _ vs hf hl h=>
   refine .V4 f _ vs hf (by simpa using hl) λi c x h1 h2=>?_;rw[P9]at h1;cases hk:caps[i]? with
   |none=>rw[hk]at h1;simp at h1
   |some c0=>
    rw[hk]at h1;simp at h1;subst h1;have hn:=yH (show caps.all (DY os.length)=true from hc) hk;exact(h i c0 x hk h2).bm4 B (λf caps e=>by rw[e]at hn;cases hn) hn
 |_=>exact h.bm4 B (λf caps e=>nomatch e) hc
def cv1{c:CV}{T:Nat}{f:Bool}(h:qV obj d off τ c=.bp T f):c=.bp T f:=by
 cases c<;>simp[qV,FQ]at h⊢<;>exact h
def X7.back(B:Back obj d off τ os Eo D8 E'){o:G8}{e:Value}(h:X7 Z w (I5 os) Eo e o)(hc:IW os.length o=true):X7 Z w D8 E' e (eG obj d off τ o):=by
 cases o with
 |varx cs=>
  have⟨b,el,arr,h1,h2,h3,h4,h5⟩:=h;refine⟨b,el,arr,h1,h2,by simpa using h3,λj c hj=>?_,h5.1,h5.2.same λj T f hj=>?_⟩
  rotate_left
  .rw[P9]at hj;cases hk:cs[j]? with
   |none=>rw[hk]at hj;simp at hj
   |some c0=>rw[hk]at hj;simp at hj;rw[cv1 hj]
  rw[P9]at hj;cases hk:cs[j]? with
  |none=>rw[hk]at hj;simp at hj
  |some c0=>
   rw[hk]at hj;simp at hj;subst hj;have⟨q1,x,q2,q3⟩:=h4 j c0 hk;exact⟨by rw[an0];exact q1,x,q2,q3.back B (yH (show cs.all (qW os.length)=true from hc) hk)⟩
 |arr el sz ds D7=>
  have⟨xs,h1,h2,h3,h4,h5,h6⟩:=h;cases D7 with
  |none=>
   refine⟨xs,h1,h2,h3,h4,λi d hi hcx j c hj=>?_,h6⟩;have⟨q1,u,q2,q3⟩:=h5 i d hi hcx j c hj;exact⟨q1,u,q2,.cl (q3.closed (mY (h3.2 i d hcx (λ_ _ h=>nomatch h)) hj))⟩
  |some p=>
   have⟨m,cs⟩:=p;have hc':cs.all (qW os.length)=true:=hc;have hcx:∀k,aO ds (some (m,cs.map (qV obj d off τ))) k=if k=m then some (cs.map (qV obj d off τ))else ds[k]?:=λk=>rfl
   have pY:∀k,aO ds (some (m,cs)) k=if k=m then some cs else ds[k]?:=λk=>rfl
   refine⟨xs,h1,h2,⟨λm' d' he=>by cases he;exact h3.1 m cs rfl,λi d' hd hne=>h3.2 i d' hd λm' d'' he=>by cases he;exact hne m _ rfl⟩,λi d' hi hc1=>?_,λi d' hi hc1 j c hj=>?_,h6⟩
   .grind
   .rw[hcx]at hc1;by_cases hk':i=m
    .rw[I9 hk']at hc1;cases hc1;rw[P9]at hj;cases hk:cs[j]? with
     |none=>rw[hk]at hj;simp at hj
     |some c0=>
      rw[hk]at hj;simp at hj;subst hj;have⟨q1,u,q2,q3⟩:=h5 i cs hi (by rw[pY,I9 hk']) j c0 hk;exact⟨by rw[an0];exact q1,u,q2,q3.back B (yH hc' hk)⟩
    .rw[H7 hk']at hc1;have⟨q1,u,q2,q3⟩:=h5 i d' hi (by rw[pY,H7 hk'];exact hc1) j c hj;exact⟨q1,u,q2,.cl (q3.closed (mY (h3.2 i d' hc1 (λm' d'' he=>by cases he;exact hk')) hj))⟩
 |none=>exact h
 |spent=>exact h
 |var cs=>exact h
 |ro cs=>exact h
 |tok el sz=>exact h
 |map es=>exact h
 |lp l R q=>exact h
end
section
variable{P:Program}{G:aB}{T:Tab}{Z0:Base}{w0:World}{S:U2}{n:Nat}{Z:Zone}{E:Q8}{st:St}{a:Act}{w:World}
def lG.back{o o0 o1:G8}{τ:dU}{obj:J8}{d off:Nat}(h:lG o1 o)(hk:gY τ (λ_=>0) o0=some o1):lG o0 (eG obj d off τ o):=by
 unfold gY at hk;split at hk
 .cases hc:iM τ (λ_=>0) _ with
  |none=>rw[hc]at hk;simp at hk
  |some cs=>
   rw[hc]at hk;simp at hk;subst hk;cases o with
   |arr el sz ds D7=>simp[lG]at h
   |_=>first|trivial|(simp[lG]at h)
 .cases hc:iM τ (λ_=>0) _ with
  |none=>rw[hc]at hk;simp at hk
  |some cs=>
   rw[hc]at hk;simp at hk;subst hk;cases o with
   |arr el sz ds D7=>cases D7<;>exact h
   |_=>simp[lG]at h
 .simp at hk;subst hk;cases o with
  |arr el sz ds D7=>
   cases D7 with
   |none=>exact h
   |some p=>have⟨m,cs⟩:=p;cases o0<;>first|exact h|(simp[lG]at h)
  |varx cs=>cases o0<;>first|trivial|(simp[lG]at h)
  |_=>exact h
def br8{D off:Nat}{d:E8}{τ:dU}{os os':Y0}{r:SV}(hI:Inv G Z0 w0 S n Z E st a w)(hd:inRange n d=true)(hos:rG τ (λ_=>0) st.obj 0 τ=some os)
    (Y7:(qC ((aZ st.obj D off τ 0 os').map (·.1))&&Nat.ble τ.length os'.length&&nX os'.length r&&os'.all (λo=>IW os'.length o.2))=true):
    ∃Eo:Nat->Value,Match τ (λ_=>0) st.obj E (I5 os) Eo/\uP Z w os Eo/\(∀k,S k->SG w os Eo k)/\∀x Z' w' bZ,rY Z w os Eo Z' w' os' bZ r x->
     ∃E',Inv G Z0 w0 S n Z' E' ⟨put st.env d (zF st.obj D off τ r),upd st.obj (aZ st.obj D off τ 0 os')⟩ (a.put d x) w':=by
 simp only[Z4]at Y7;have⟨⟨⟨hnd,hlen⟩,cO4⟩,bz9⟩:=Y7;have hlen:=I8 hlen;have⟨hol,hoa⟩:=aW6 hos
 let Eo:Nat->Value:=λj=>match τ[j]? with|some (t,_)=>E t|none=>undef
 have ZQ:∀j t g,τ[j]?=some (t,g)->Eo j=E t:=λj t g h=>by simp only[Eo,h]
 have M:Match τ (λ_=>0) st.obj E (I5 os) Eo:=⟨λj t g hj=>by
  have⟨h1,o',h2,h3⟩:=hoa j t g hj
  exact⟨h1,o',h2,by unfold I5;rw[h3],ZQ j t g hj⟩⟩
 have bA5:∀j,j<τ.length->V8 D off τ j=(τ[j]?.getD (0,0)).1:=λj hj=>by
  unfold V8;rw[J9 hj];rfl
 have hinj:∀i j,i<os'.length->j<os'.length->V8 D off τ i=V8 D off τ j->i=j:=λi j hi hj he=>by
  have h1:=QE (obj:=st.obj) (d:=D) (off:=off) (τ:=τ) os' 0 i hi;have h2:=QE (obj:=st.obj) (d:=D) (off:=off) (τ:=τ) os' 0 j hj;rw[X9]at h1 h2;rw[he]at h1;exact as9 hnd i j _ h1 h2
 have hbk:∀j t g,τ[j]?=some (t,g)->V8 D off τ j=t:=λj t g hj=>by unfold V8;rw[hj]
 have hjl:∀j t g,τ[j]?=some (t,g)->j<os'.length:=λj t g hj=>aH (P7.1 hj).1 hlen;have hblk:∀j b,(I5 os j).2.blk (Eo j) b->∃t g,τ[j]?=some (t,g)/\(st.obj t).2.blk (E t) b:=λj b hb=>by
  cases hj:τ[j]? with
  |none=>
   have:os[j]?=none:=uQ (by rw[hol];exact ak6.1 hj);unfold I5 at hb;rw[this]at hb;simp[G8.blk]at hb
  |some p=>
   have⟨t,g⟩:=p;have⟨h1,o',h2,h3,h4⟩:=M.at_ j t g hj;rw[h3,h4,bK9 h2]at hb;exact⟨t,g,rfl,hb⟩
 have NG:∀k,S k->SG w os Eo k:=λk hk=>⟨hI.xK k hk,λ⟨j,hj⟩=>by
  have⟨t,g,_,h2⟩:=hblk j k hj
  exact hI.own t k h2 hk⟩
 have ZV:uP Z w os Eo:=by
  constructor
  .intro j;cases hj:τ[j]? with
   |none=>
    have:os[j]?=none:=uQ (by rw[hol];exact ak6.1 hj);unfold I5;rw[this];trivial
   |some p=>
    have⟨t,g⟩:=p;have⟨h1,o',h2,h3,h4⟩:=M.at_ j t g hj;rw[h3,h4];exact(hI.obj t).tOz M h2
  .intro j j' b hne h1 h2;have⟨t,g,q1,q2⟩:=hblk j b h1;have⟨t',g',q3,q4⟩:=hblk j' b h2;refine hI.apart t t' b (λe=>hne ?_) q2 q4;exact hinj j j' (hjl j t g q1) (hjl j' t' g' q3) (by rw[hbk j t g q1,hbk j' t' g' q3,e])
 refine⟨Eo,M,ZV,NG,λx Z' w' bZ hp=>?_⟩
 let D8:=upd st.obj (aZ st.obj D off τ 0 os')
 let E':Nat->Value:=λt=>match(List.range os'.length).find? (λj=>V8 D off τ j==t)with|some j=>bZ j|none=>E t
 have hE':∀j,j<os'.length->E' (V8 D off τ j)=bZ j:=λj hj=>by
  simp only[E'];cases hf:(List.range os'.length).find? (λi=>V8 D off τ i==V8 D off τ j)with
  |none=>
   rw[List.find?_eq_none]at hf;exact absurd (by simp) (hf j (List.mem_range.2 hj))
  |some i=>grind
 have aL8:∀t,(∀j,j<os'.length->t≠V8 D off τ j)->E' t=E t:=λt ht=>by
  simp only[E'];cases hf:(List.range os'.length).find? (λi=>V8 D off τ i==t)with
  |none=>rfl
  |some i=>grind
 have hob:∀j g o1,os'[j]?=some (g,o1)->D8 (V8 D off τ j)=(dY st.obj D off τ j g,eG st.obj D off τ o1):=λj g o1 hj=>by
  have:=bf5 (iF:=st.obj) os' 0 j g o1 hnd hj;rw[X9]at this;exact this
 have aN7:∀t,(∀j,j<os'.length->t≠V8 D off τ j)->D8 t=st.obj t:=λt ht=>bf6 os' 0 t (λj hj=>by rw[X9];exact ht j hj);have B:Back st.obj D off τ os' bZ D8 E':=⟨λj g o1 hj=>⟨hob j g o1 hj,hE' j (P7.1 hj).1⟩⟩;have hget:∀j,j<os'.length->∃g o1,os'[j]?=some (g,o1)/\I5 os' j=(g,o1):=λj hj=>⟨os'[j].1,os'[j].2,J9 hj,by unfold I5;rw[J9 hj]⟩;have hblk':∀j,j<os'.length->∀b,(D8 (V8 D off τ j)).2.blk (E' (V8 D off τ j)) b->(I5 os' j).2.blk (bZ j) b:=λj hj b hb=>by
  have⟨g,o1,h1,h2⟩:=hget j hj;rw[hob j g o1 h1,hE' j hj,bK6]at hb;rw[h2];exact hb
 have vK:Kept S w w':=hp.kept.mono NG;have hGB:∀t b,(∀j,j<os'.length->t≠V8 D off τ j)->(st.obj t).2.blk (E t) b->¬GB os Eo b:=λt b ht hb ⟨j,hj⟩=>by
  have⟨t',g',q1,q2⟩:=hblk j b hj;exact hI.apart t t' b (λe=>ht j (hjl j t' g' q1) (by rw[hbk j t' g' q1,e])) hb q2
 have bw5:∀b,GB os Eo b->¬S b:=λb hb hs=>(NG b hs).2 hb;refine⟨E',?_⟩;have hsame:∀t,(¬∃j,j<os'.length/\t=V8 D off τ j)->D8 t=st.obj t/\E' t=E t:=λt ht=>by
  have ht':∀j,j<os'.length->t≠V8 D off τ j:=λj hj e=>ht ⟨j,hj,e⟩;exact⟨aN7 t ht',aL8 t ht'⟩
 refine hI.bR7 (λt=>∃j,j<os'.length/\t=V8 D off τ j) hd vK hp.keeps hp.X5 (λb o1 hz=>?_) hsame (bL7 _ hsame ?_) ?_ ?_ ?_ ?_ (hp.res.back B cO4)
 .rcases hp.iH b o1 hz with h1|h1|h1
  .exact .inl h1
  .exact .inr (hI.fresh h1)
  .exact .inr (bw5 b h1)
 .rintro t ⟨j,hj,rfl⟩;have⟨g,o1,h1,h2⟩:=hget j hj;have hnone:o1≠.none:=λe=>by
   have:=oW.1 bz9 _ (iZ h1);rw[e]at this;cases this
  show(st.obj (V8 D off τ j)).1<(D8 (V8 D off τ j)).1\/((D8 (V8 D off τ j)).1=(st.obj (V8 D off τ j)).1/\(G8.still (D8 (V8 D off τ j)).2\/(E' (V8 D off τ j)=E (V8 D off τ j)/\lG (st.obj (V8 D off τ j)).2 (D8 (V8 D off τ j)).2)));rw[hob j g o1 h1];cases hτ:τ[j]? with
  |some p=>
   have⟨t,g0⟩:=p;have⟨q1,o0,q2,q3,q4⟩:=M.at_ j t g0 hτ;have hb:=hbk j t g0 hτ;rw[hb];have hG:dY st.obj D off τ j g=g0+g:=by unfold dY;rw[hτ]
   simp only[hG,q1];cases g with
   |succ g=>exact .inl (by omega)
   |zero=>
    refine .inr ⟨rfl,?_⟩;have jL:E' t=bZ j:=by rw[<-hb];exact hE' j hj
    have hg0:(0:Nat)<=(I5 os j).1:=aF _;have fin:lG o0 o1->bZ j=Eo j->(G8.still (eG st.obj D off τ o1)\/(E' t=E t/\lG (st.obj t).2 (eG st.obj D off τ o1))):=λhk he=>.inr ⟨by rw[jL,he,q4],hk.back q2⟩;have hv:∀cs,(o1=.var cs\/o1=.ro cs\/o1=.varx cs)->(G8.still (eG st.obj D off τ o1)\/(E' t=E t/\lG (st.obj t).2 (eG st.obj D off τ o1))):=λcs ho1=>by
     have⟨⟨cs0,hl⟩,he⟩:=hp.ok.var j 0 hg0 ⟨cs,by rw[h2];simpa using ho1⟩;rw[q3]at hl;simp only[dR,true_and]at hl;refine fin ?_ he;rcases hl with rfl|rfl|rfl<;>rcases ho1 with rfl|rfl|rfl<;>trivial
    cases o1 with
    |none=>exact absurd rfl hnone
    |spent=>exact .inl (.inl rfl)
    |lp l R q=>exact .inl (.inr ⟨_,_,_,rfl⟩)
    |var cs=>exact hv cs (.inl rfl)
    |ro cs=>exact hv cs (.inr (.inl rfl))
    |varx cs=>exact hv cs (.inr (.inr rfl))
    |tok el sz=>
     have⟨hl,he⟩:=hp.ok.tok j 0 el sz hg0 h2;rw[q3]at hl;simp only[dR,true_and]at hl;subst hl;exact fin ⟨rfl,rfl⟩ he
    |arr el sz ds D7=>
     have⟨⟨ds0,oJ,hl⟩,he⟩:=hp.ok.arr j 0 el sz ds D7 hg0 h2;rw[q3]at hl;simp only[dR,true_and]at hl;subst hl;exact fin ⟨rfl,rfl⟩ he
    |map es=>
     have⟨⟨es0,hl⟩,he⟩:=hp.ok.map j 0 es hg0 h2;rw[q3]at hl;simp only[dR,true_and]at hl;subst hl;exact fin trivial he
  |none=>
   have hG:dY st.obj D off τ j g=(st.obj (V8 D off τ j)).1+g:=by unfold dY V8;rw[hτ]
   simp only[hG];cases g with
   |succ g=>exact .inl (by omega)
   |zero=>
    refine .inr ⟨rfl,.inl ?_⟩;have hoj:I5 os j=(0,.none):=by
     have:os[j]?=none:=uQ (by rw[hol];exact ak6.1 hτ);unfold I5;rw[this]
    have hg0:(0:Nat)<=(I5 os j).1:=aF _;have hv:∀cs,¬(o1=.var cs\/o1=.ro cs\/o1=.varx cs):=λcs ho1=>by
     have⟨⟨cs0,hl⟩,_⟩:=hp.ok.var j 0 hg0 ⟨cs,by rw[h2];simpa using ho1⟩;rw[hoj]at hl;simp at hl
    cases o1 with
    |none=>exact absurd rfl hnone
    |spent=>exact .inl rfl
    |lp l R q=>exact .inr ⟨_,_,_,rfl⟩
    |var cs=>exact absurd (.inl rfl) (hv cs)
    |ro cs=>exact absurd (.inr (.inl rfl)) (hv cs)
    |varx cs=>exact absurd (.inr (.inr rfl)) (hv cs)
    |tok el sz=>have⟨hl,_⟩:=hp.ok.tok j 0 el sz hg0 h2;rw[hoj]at hl;simp at hl
    |arr el sz ds D7=>have⟨⟨ds0,oJ,hl⟩,_⟩:=hp.ok.arr j 0 el sz ds D7 hg0 h2;rw[hoj]at hl;simp at hl
    |map es=>have⟨⟨es0,hl⟩,_⟩:=hp.ok.map j 0 es hg0 h2;rw[hoj]at hl;simp at hl
 .rintro _ t ⟨j,hj,rfl⟩;have⟨g,o1,h1,h2⟩:=hget j hj;show X7 Z' w' D8 E' (E' _) (D8 _).2;rw[hob j g o1 h1,hE' j hj];have:=hp.grp.ok j;rw[h2]at this;exact this.back B (oW.1 bz9 _ (iZ h1))
 .intro t ht b hb;have ht':∀j,j<os'.length->t≠V8 D off τ j:=λj hj e=>ht ⟨j,hj,e⟩;have hlt:=(hI.obj t).lt hb;have BZ:=hGB t b ht' hb;refine⟨hp.kept.block b ⟨hlt,BZ⟩,λk hz=>?_,?_⟩
  .rcases hp.iH b k hz with h1|h1|h1
   .exact h1
   .omega
   .exact absurd h1 BZ
  .rintro s ⟨j,hj,rfl⟩ hb';rcases hp.own b ⟨j,hblk' j hj b hb'⟩with h1|h1
   .omega
   .exact BZ h1
 .rintro t t' b ⟨j,hj,rfl⟩ ⟨j',hj',rfl⟩ hne h1 h2;exact hp.grp.apart j j' b (λe=>hne (by rw[e])) (hblk' j hj b h1) (hblk' j' hj' b h2)
 .rintro t ⟨j,hj,rfl⟩ b hb;rcases hp.own b ⟨j,hblk' j hj b hb⟩with h1|h1
  .exact hI.fresh h1
  .exact bw5 b h1
def aJ1(o:Oper){K:aV}{next:kR}{Q:dD}(hI:Inv G Z0 w0 S n Z E st a w)(hd:inRange n o.dst=true)(h:KC (jF P G) (look st) st.obj o.dst o.op o.type K)
    (hn:∀r rd u Z' E' x w',K r rd u->Inv G Z0 w0 S n Z' E' ⟨put st.env o.dst r,upd st.obj u⟩ (a.put o.dst x) w'->next (a.put o.dst x) w'):Oper.dV P o a w next Q:=by
 have⟨τ,off,args,os,r,os',hargs,hos,heff,Y7,hK⟩:=h;have⟨Eo,M,ZV,NG,hback⟩:=br8 (d:=o.dst) hI hd hos Y7;have⟨hal,hag⟩:=bb9 hargs;refine heff Z w Eo a o next Q rfl rfl ZV hI.X5 (by simpa using hal) (λi s x h1 h2=>?_) (λw' hk=>hI.gs w' (hI.below.trans (hk.mono NG))) λx Z' w' bZ hp=>(hback x Z' w' bZ hp).elim λE' hI'=>hn _ _ _ Z' E' x w' hK ?_
 rotate_left
 .exact hI'
 .have⟨s0,h3,h4⟩:=hag i s h1;rw[P9]at h3;have h5:o.op.operands.toList[i]?=some x:=by simpa using h2
  rw[h5]at h3;simp at h3;subst h3;exact(aG hI x).tOz M h4
def c84(hT:aA P T)(o:Oper)(Z0:Base)(w0:World)(S:U2)(n:Nat)(Z:Zone)(E:Q8)(st:St)(a:Act)(w:World)(K:aV)(next:kR)(Q:dD)
    (hI:Inv G Z0 w0 S n Z E st a w) (hd:inRange n o.dst=true) (h:KD (jF P G) T (look st) st.obj o.dst o.op o.type K)
    (hn:∀r rd u Z' E' x w',K r rd u->Inv G Z0 w0 S n Z' E' ⟨put st.env o.dst r,upd st.obj u⟩ (a.put o.dst x) w'->next (a.put o.dst x) w'):Oper.dV P o a w next Q:=
 h.elim (λh=>bM4 hT o Z0 w0 S n Z E st a w K next Q _ hI hd h (λhx=>cj0 hT o Z0 w0 S n Z E st a w K next Q hI hd hx hn) hn) (λh=>aJ1 o hI hd h hn)
def c83(hT:aA P T)(o:Oper)(Z0:Base)(w0:World)(S:U2)(n:Nat)(Z:Zone)(E:Q8)(st:St)(a:Act)(w:World)(K:aV)(next:kR)(Q:dD)
    (hI:Inv G Z0 w0 S n Z E st a w) (hd:inRange n o.dst=true) (h:fP (jF P G) T (look st) st.obj o.dst o.op o.type K)
    (hn:∀r rd u Z' E' x w',K r rd u->Inv G Z0 w0 S n Z' E' ⟨put st.env o.dst r,upd st.obj u⟩ (a.put o.dst x) w'->next (a.put o.dst x) w'):Oper.dV P o a w next Q:=
 by
 have h0:XO (jF P G) T (look st) st.obj o.dst o.op o.type K->Oper.dV P o a w next Q:=λh=>
  bM4 hT o Z0 w0 S n Z E st a w K next Q _ hI hd h (λhx=>hx.elim (λhx=>cj0 hT o Z0 w0 S n Z E st a w K next Q hI hd hx hn) (λhx=>aJ1 o hI hd hx hn)) hn
 unfold fP at h;rcases hb:ao8 o.op with _|_
 .rw[hb]at h;exact h0 h
 .rw[hb]at h;exact h.elim h0 (λhx=>aJ1 o hI hd hx hn)
end
end Go.F7
end
section
namespace Go
abbrev F9:=@Option.bind_some
abbrev fG:=@Bool.not_true
abbrev lD:=@List.mem_cons
abbrev pU:=@decide_eq_true_eq
abbrev uS:=@List.nil_append
abbrev yB:=@Nat.lt_trichotomy
abbrev FB:=@Option.map_some
abbrev bi6:=@Array.getElem?_setIfInBounds_ne
end Go
namespace Go.F7
open Go Go.RowKit
section
variable{H:jY}{T:Tab}{lk:Operand->SV}{obj:J8}{F F':aV->Prop}{d:E8}{ty:TypeId}{K:aV}
def aF3{b:Bool}{p q r s:Prop}(h1:p->r)(h2:q->s)(h:bif b then p else q):bif b then r else s:=by grind
def dE2(hF:F K->F' K)(b:Builtin)(c:Call):iV T lk obj F b c d K->iV T lk obj F' b c d K:=by
 unfold iV
 repeat' split
 all_goals first|exact id|exact hF|exact aF3 (Or.imp id hF) id
def dE5(hF:F K->F' K)(c:Call):kK H lk obj F c K->kK H lk obj F' c K:=by
 unfold kK
 repeat' split
 all_goals first|exact hF|exact Or.imp id hF
def aC6(hF:F K->F' K)(op:Op):wpOp H T lk obj F d op ty K->wpOp H T lk obj F' d op ty K:=by
 cases op<;>simp only[wpOp]
 case call c=>split<;>first|exact dE2 hF _ _|exact dE5 hF _
 case unOp o t x=>cases o<;>simp only<;>(repeat' split)<;>first|exact id|exact hF
 case makeFunc f x y=>cases f<;>simp only<;>(try split)<;>first|exact id|exact hF
 case fieldAddr t x k=>
  repeat' split
  all_goals first|exact id|exact hF|(refine aF3 id ?_;repeat' split)|skip
  all_goals first|exact id|exact hF
 all_goals first|exact hF|exact id|skip
 all_goals (repeat' split)
 all_goals first|exact id|exact hF|exact aF3 id hF
def dE4(b:Builtin)(c:Call):iV T lk obj F b c d K->iV T lk obj (λ_=>False) b c d K\/F K:=by
 unfold iV
 repeat' split
 all_goals first|exact .inl|exact .inr|skip
 all_goals
  grind
def dE7(c:Call):kK H lk obj F c K->kK H lk obj (λ_=>False) c K\/F K:=by
 unfold kK
 repeat' split
 all_goals first|exact .inr|exact λh=>h.imp .inl id
def bh5(op:Op):wpOp H T lk obj F d op ty K->wpOp H T lk obj (λ_=>False) d op ty K\/F K:=by
 cases op<;>simp only[wpOp]
 case call c=>split<;>first|exact dE4 _ _|exact dE7 _
 case unOp o t x=>cases o<;>simp only<;>(repeat' split)<;>first|exact .inl|exact .inr
 case makeFunc f x y=>cases f<;>simp only<;>(try split)<;>first|exact .inl|exact .inr
 case fieldAddr t x k=>
  split
  .split
   .grind
   .exact .inl
  .exact .inl
 all_goals first|exact .inr|exact .inl|skip
 all_goals (repeat' split)
 all_goals first|exact .inl|exact .inr
def dE3(b:Builtin)(c:Call):iV T lk obj F b c d K->iV T lk obj (λ_=>False) b c d K\/(F K/\∀(F':aV->Prop)(K':aV),F' K'->iV T lk obj F' b c d K'):=by
 unfold iV
 repeat' split
 all_goals first|exact .inl|exact λh=>.inr ⟨h,λ_ _ h=>h⟩|skip
 all_goals
  grind
def dE6(c:Call):kK H lk obj F c K->kK H lk obj (λ_=>False) c K\/(F K/\∀(F':aV->Prop)(K':aV),F' K'->kK H lk obj F' c K'):=by
 unfold kK
 repeat' split
 all_goals first|exact λh=>.inr ⟨h,λ_ _ h=>h⟩|exact λh=>h.imp .inl λh=>⟨h,λ_ _ h=>.inr h⟩
def dF9(op:Op):wpOp H T lk obj F d op ty K->wpOp H T lk obj (λ_=>False) d op ty K\/(F K/\∀(F':aV->Prop)(K':aV),F' K'->wpOp H T lk obj F' d op ty K'):=by
 cases op<;>simp only[wpOp]
 case call c=>split<;>first|exact dE3 _ _|exact dE6 _
 case unOp o t x=>cases o<;>simp only<;>(repeat' split)<;>first|exact .inl|exact λh=>.inr ⟨h,λ_ _ h=>h⟩
 case makeFunc f x y=>cases f<;>simp only<;>(try split)<;>first|exact .inl|exact λh=>.inr ⟨h,λ_ _ h=>h⟩
 case fieldAddr t x k=>
  split
  .split
   .split
    .rename_i i _;cases hz:Nat.beq i.size 0 with
     |true=>exact .inl
     |false=>
      simp only[G6]
      repeat' split
      all_goals first|exact .inl|exact λh=>.inr ⟨h,λ_ _ h=>h⟩
    .exact .inl
   .exact .inl
  .exact .inl
 all_goals first|exact λh=>.inr ⟨h,λ_ _ h=>h⟩|exact .inl|skip
 all_goals (repeat' split)
 all_goals first|exact .inl|exact λh=>.inr ⟨h,λ_ _ h=>h⟩
def cR5{α:Type}{o:Option α}(h:o.isNone=true):o=none:=by cases o<;>simp_all
def bi0(op:Op)(hX:aK H T lk obj d op K):QT H T lk obj d op ty K:=by
 unfold QT;have h:=hX;cases op with
 |load t x=>
  simp only[aK]at h;split at h
  .rename_i i hti;split at h
   .rename_i s g off hlx;split at h
    .rename_i g' cs ho;simp only[wpOp,hti,hlx,ho];exact hX
    .exact h.elim
   .rename_i s g m off hlx;simp only[wpOp,hti,hlx];exact hX
   .exact h.elim
  .exact h.elim
 |store t x y=>
  simp only[aK]at h;split at h
  .rename_i i ys hti hys;replace h:=U8 h;have⟨_,h⟩:=h;split at h
   .rename_i s g off hlx;split at h
    .rename_i g' cs ho;replace h:=U8 h;have⟨hb,h⟩:=h;simp only[Z4]at hb;simp only[wpOp,hti,hlx,cR5 hb.2];exact hX
    .rename_i g' cs ho;cases hc:bU (lk y)with
     |none=>simp only[wpOp,hti,hlx,hc,Option.map_none];exact hX
     |some c=>simp only[wpOp,hti,hlx,hc,FB,ho];exact hX
    .exact h.elim
   .rename_i s g m off hlx;simp only[wpOp,hti,hlx];exact hX
   .exact h.elim
  .exact h.elim
 |nilCheck x=>
  simp only[aK]at h;split at h
  .rename_i s g off hlx;split at h
   .rename_i g' cs ho;simp only[wpOp,hlx,ho];exact hX
   .exact h.elim
  .rename_i s g m off hlx;simp only[wpOp,hlx];exact hX
  .exact h.elim
 |fieldAddr t x k=>
  simp only[aK]at h;split at h
  .rename_i fs _ _ _ _ _ hti;split at h
   .rename_i f hf;split at h
    .rename_i i hfi;cases hz:Nat.beq i.size 0 with
     |true=>grind
     |false=>
      rw[hz]at h;simp only[G6]at h;split at h
      .rename_i s g off hlx;split at h
       .rename_i g' cs ho;simp only[wpOp,hti,hf,hfi,hz,G6,hlx,ho];exact hX
       .exact h.elim
      .rename_i s g m off hlx;simp only[wpOp,hti,hf,hfi,hz,G6,hlx];exact hX
      .exact h.elim
    .exact h.elim
   .exact h.elim
  .exact h.elim
 |indexAddr t x i=>
  simp only[aK]at h;split at h
  .rename_i e _ _ _ _ _ hti;split at h
   .rename_i ti s g kd m hte hlx hli;simp only[wpOp,hti,hte,hlx,gV];exact hX
   .exact h.elim
  .exact h.elim
 |slice t x lo hi mx=>simp only[wpOp];exact hX
 |buildSlice t len ps=>
  simp only[aK]at h;split at h
  .rename_i e _ _ _ _ _ hti;split at h
   .rename_i i d x hte hps;split at h
    .rename_i cs hlx;simp only[wpOp,hti,hte,hps,wL,hlx,bU];exact hX
    .exact h.elim
   .exact h.elim
  .exact h.elim
 |call c=>
  have⟨callee,args,argTypes⟩:=c;cases callee with
  |value f=>
   simp only[aK,xU]at h;split at h
   .rename_i f args more d hargs;split at h
    .rename_i cs ts hfr;simp only[wpOp,kK,hargs,hfr];exact .inr hX
    .exact h.elim
   .exact h.elim
  |invoke r m=>
   simp only[aK,xU]at h;split at h
   .rename_i f args more d hargs;split at h
    .rename_i cs ts hfr;simp only[wpOp,kK,hargs,hfr];exact .inr hX
    .exact h.elim
   .exact h.elim
  |builtin b=>
   cases b with
   |len=>
    simp only[aK]at h;split at h
    .rename_i x e _ _ _ _ _ hargs hbt;split at h
     .rename_i s g hlx;simp only[wpOp,iV,hargs,hlx,gV];exact hX
     .exact h.elim
    .exact h.elim
   |append=>
    simp only[aK,EO]at h;split at h
    .rename_i x y d t1 t2 hargs aO7;split at h
     .rename_i e _ _ _ _ _ ht1;split at h
      .rename_i i hte;replace h:=U8 h;have⟨Y7,h⟩:=h;simp only[Z4]at Y7;have⟨⟨⟨c1,c2⟩,c3⟩,c4⟩:=Y7;split at h
       .rename_i hlx;simp only[wpOp,iV,hargs,hlx];exact hX
       .rename_i t g s g2 hly hlx;simp only[wpOp,iV,hargs,hlx];exact hX
       .rename_i t g hlx _;simp only[wpOp,iV,hargs,hlx];exact hX
       .rename_i t g sz es hlx;split at h
        .rename_i g' el s s2 ns ho hsl;replace h:=U8 h;have⟨Y7,h⟩:=h;simp only[Z4]at Y7;have⟨⟨⟨⟨d1,d2⟩,d3⟩,d4⟩,d5⟩:=Y7;have e4:=G5 d4;have e3:=G5 d3;simp only[wpOp,iV,hargs,hlx,hsl,aO7,ht1,hte,ho]
         grind
        .exact h.elim
       .exact h.elim
      .exact h.elim
     .exact h.elim
    .exact h.elim
   |_=>exact h.elim
 |_=>exact h.elim
def ch7{op:Op}(h:XO H T lk obj d op ty K):KD H T lk obj d op ty K:=by
 rcases bh5 op h with h|h|h
 .exact .inl (aC6 (λh=>h.elim) op h)
 .exact .inl (bi0 op h)
 .exact .inr h
def dF7{op:Op}(h:fP H T lk obj d op ty K):KD H T lk obj d op ty K:=by
 unfold fP at h;rcases hb:ao8 op with _|_
 .rw[hb]at h;exact ch7 h
 .rw[hb]at h;exact h.elim ch7 .inr
end
end Go.F7
namespace Go.F7
open Go Go.RowKit
section
variable{H:jY}{T:Tab}{lk lk':Operand->SV}{obj D8:J8}{d:E8}{ty:TypeId}{K:aV}
def cG9{c c':CV}{ts:O1}(h:GN obj c=some (c',ts))(ho:∀t∈ts,D8 t=obj t):GN D8 c=some (c',ts):=by
 cases c with
 |pr t g off=>
  simp only[GN]at h⊢
  grind
 |_=>simp[GN]at h
def bv6:∀{cs cs':G9}{ts:O1},GR obj cs=some (cs',ts)->(∀t∈ts,D8 t=obj t)->GR D8 cs=some (cs',ts)
 |[],cs',ts,h,_=>h
 |c::r,cs',ts,h,ho=>by
  simp only[GR]at h⊢;split at h
  .rename_i d t1 ds t2 h1 h2;simp at h;obtain⟨rfl,rfl⟩:=h;rw[cG9 h1 λt ht=>ho t (EW _ ht),bv6 h2 λt ht=>ho t (EX _ ht)]
  .simp at h
def cG7{c c':CV}{ts:O1}(h:sW obj c=some (c',ts))(ho:∀t∈ts,D8 t=obj t):sW D8 c=some (c',ts):=by
 unfold sW at h⊢;split at h
 .rename_i t g
  try simp only at h⊢
  grind
 .rename_i t g
  try simp only at h⊢
  grind
 .simp at h
 .rename_i f caps;simp only[Option.map_eq_some_iff]at h⊢;have⟨p,hp,hq⟩:=h;simp at hq;obtain⟨rfl,rfl⟩:=hq;exact⟨p,bv6 hp ho,rfl⟩
 .simp at h
 .exact h
def bv5:∀{cs cs':G9}{ts:O1},wS obj cs=some (cs',ts)->(∀t∈ts,D8 t=obj t)->wS D8 cs=some (cs',ts)
 |[],cs',ts,h,_=>h
 |c::r,cs',ts,h,ho=>by
  simp only[wS]at h⊢;split at h
  .rename_i d t1 ds t2 h1 h2;simp at h;obtain⟨rfl,rfl⟩:=h;rw[cG7 h1 λt ht=>ho t (EW _ ht),bv5 h2 λt ht=>ho t (EX _ ht)]
  .simp at h
def bv3{s:SV}{c:CV}{ts:O1}(h:freeze obj s=some (c,ts))(ho:∀t∈ts,D8 t=obj t):freeze D8 s=some (c,ts):=by
 unfold freeze at h⊢;split at h
 .rename_i t g off
  try simp only at h⊢
  split at h
  .grind
  .rename_i g' cs hob;cases hb:Nat.beq g g' with
   |false=>grind
   |true=>
    rw[hb]at h;simp only[H9]at h;split at h
    .rename_i cs' us hq;simp at h;rw[ho t (by rw[<-h.2];simp),hob];simp only[hb,H9];rw[bv5 hq λt ht=>ho t (by rw[<-h.2];exact RH _ ht)]
     grind
    .simp at h
  .simp at h
 .rename_i t g
  try simp only at h⊢
  grind
 .rename_i t g
  try simp only at h⊢
  grind
 .exact h
def bv1:∀(ss:dG)(cs:G9)(ts:O1),GK obj ss=some (cs,ts)->(∀t∈ts,D8 t=obj t)->GK D8 ss=some (cs,ts)
 |[],cs,ts,h,_=>h
 |s::ss,cs,ts,h,ho=>by
  simp only[GK]at h⊢;split at h
  .rename_i c t1 cs' t2 h1 h2;simp at h;obtain⟨rfl,rfl⟩:=h;rw[bv3 h1 (λt ht=>ho t (EW _ ht)),bv1 ss cs' t2 h2 (λt ht=>ho t (EX _ ht))]
  .simp at h
def cG4{s:SV}{c:CV}{ts:O1}(h:TJ obj s=some (c,ts))(ho:∀t∈ts,D8 t=obj t):TJ D8 s=some (c,ts):=by
 unfold TJ at h⊢;split at h
 .rename_i f caps
  try simp only at h⊢
  split at h
  .rename_i cs ts' hl;simp at h;obtain⟨rfl,rfl⟩:=h;rw[bv1 _ _ _ hl ho]
  .simp at h
 .exact bv3 h ho
def aK9:∀(ss:dG)(cs:G9)(ts:O1),yO obj ss=some (cs,ts)->(∀t∈ts,D8 t=obj t)->yO D8 ss=some (cs,ts)
 |[],cs,ts,h,_=>h
 |s::ss,cs,ts,h,ho=>by
  simp only[yO]at h⊢;split at h
  .rename_i c t1 cs' t2 h1 h2;simp at h;obtain⟨rfl,rfl⟩:=h;rw[cG4 h1 (λt ht=>ho t (EW _ ht)),aK9 ss cs' t2 h2 (λt ht=>ho t (EX _ ht))]
  .simp at h
def bn7(fs:Array Field):∀(ps:KU)(z:G9),(∀p∈ps,lk' p.2=lk p.2)->yJ T lk' fs z ps=yJ T lk fs z ps
 |[],_,_=>rfl
 |(i,x)::r,z,h=>by
  simp only[yJ];rw[h (i,x) (by simp)];have:=λz=>bn7 fs r z (λp hp=>h p (by simp[hp]));simp only[this]
def bn6(sz:Nat):∀(ps:KU)(k:Nat),(∀p∈ps,lk' p.2=lk p.2)->wL lk' sz k ps=wL lk sz k ps
 |[],_,_=>rfl
 |(i,x)::r,k,h=>by
  simp only[wL];rw[h (i,x) (by simp),bn6 sz r (k+1) (λp hp=>h p (by simp[hp]))]
def dD8{d:Nat}{x:Operand}(h:XM T lk obj ty d x K)(hl:lk' x=lk x)(ho:∀r rd wr,K r rd wr->∀s,(s∈rd\/s∈wr.map (·.1))->D8 s=obj s):XM T lk' D8 ty d x K:=by
 unfold XM at h⊢;split at h
 .split at h
  .split at h
   .rename_i i h2;replace h:=U8 h;have hod:=ho _ _ _ h.2 d (.inr (by simp))
    grind
   .exact h.elim
  .exact h.elim
 .rw[hl];cases hs:lk x with
  |ap t g sz es=>
   simp only[hs]at h⊢;cases hob:obj t with
   |mk g' o=>
    simp only[hob]at h;cases o with
    |tok el s=>
     simp only at h;cases hb:(Nat.beq g g'&& !(Nat.beq t d))with
     |true=>
      rw[hb]at h;simp only[H9]at h;have h1:=ho _ _ _ h t (.inl (by simp));have h2:=ho _ _ _ h d (.inr (by simp))
      grind
     |false=>
      rw[hb]at h;simp only[G6]at h;have h1:=ho _ _ _ h t (.inl (by simp))
      grind
    |none=>have h1:=ho _ _ _ h t (.inl (by simp));simp only[h1,hob];exact h
    |spent=>have h1:=ho _ _ _ h t (.inl (by simp));simp only[h1,hob];exact h
    |var cs=>have h1:=ho _ _ _ h t (.inl (by simp));simp only[h1,hob];exact h
    |ro cs=>have h1:=ho _ _ _ h t (.inl (by simp));simp only[h1,hob];exact h
    |varx cs=>have h1:=ho _ _ _ h t (.inl (by simp));simp only[h1,hob];exact h
    |arr el sz ds D7=>have h1:=ho _ _ _ h t (.inl (by simp));simp only[h1,hob];exact h
    |map es=>have h1:=ho _ _ _ h t (.inl (by simp));simp only[h1,hob];exact h
    |lp l R q=>have h1:=ho _ _ _ h t (.inl (by simp));simp only[h1,hob];exact h
  |_=>grind
def dE1{b:Builtin}{c:Call}(h:iV T lk obj (λ_=>False) b c d K)(hl:∀x∈c.args.toList,lk' x=lk x)(ho:∀r rd wr,K r rd wr->∀s,(s∈rd\/s∈wr.map (·.1))->D8 s=obj s):iV T lk' D8 (λ_=>False) b c d K:=by
 unfold iV at h⊢;split at h
 .grind
 .grind
 .grind
 .rename_i x y hx
  try simp only[hx]at h⊢
  rw[hl x (by rw[hx];simp),hl y (by rw[hx];simp)];split at h
  .rename_i t g sz es s2 ns d' t1 t2 h1 h2 h4
   try simp only[h1,h2,h4]
   split at h
   .rename_i e _ _ _ _ _ h5;split at h
    .rename_i i h6
     try simp only[h5,h6]
     replace h:=U8 h;obtain⟨hb,h|h⟩:=h
     rotate_left
     .exact h.elim
     have⟨hns,hlen,es',he',h⟩:=h;have hot:D8 t=obj t:=by
      cases htd:Nat.beq t d' with
      |true=>rw[htd]at h;exact ho _ _ _ h t (.inl (by simp))
      |false=>rw[htd]at h;exact ho _ _ _ h t (.inl (by simp))
     rw[hot];rw[hb];refine .inl ⟨hns,hlen,es',he',?_⟩;cases htd:Nat.beq t d' with
     |true=>grind
     |false=>
      rw[htd]at h;simp only[G6]at h⊢;rw[ho _ _ _ h d' (.inr (by simp))];exact h
    .exact h.elim
   .exact h.elim
  .exact h.elim
 .exact h.elim
def ch0{c:Call}(h:kK H lk obj (λ_=>False) c K)(hl:∀x∈c.operands,lk' x=lk x)(ho:∀r rd wr,K r rd wr->∀s,(s∈rd\/s∈wr.map (·.1))->D8 s=obj s):kK H lk' D8 (λ_=>False) c K:=by
 have hc:callArgs lk' c=callArgs lk c:=by
  unfold callArgs;have hargs:c.args.toList.map lk'=c.args.toList.map lk:=List.map_congr_left λx hx=>hl x (by simp[Call.operands];right;simpa using hx);cases hcc:c.callee with
  |value f=>
   have hf:lk' f=lk f:=hl f (by simp[Call.operands,hcc])
   grind
  |invoke r m=>rfl
  |builtin b=>rfl
 unfold kK at h⊢;rw[hc];split at h
 .rename_i f args more h1
  try simp only[h1]
  split at h
  .rename_i cs ts h2;obtain h|h:=h
   rotate_left
   .exact h.elim
   have⟨r,hr,hts,hk⟩:=h
   try rw[aK9 _ _ _ h2 (λt ht=>ho _ _ _ hk t (.inl ht))]
   grind
  .exact h.elim
 .exact h.elim
def dF8{op:Op}(h:wpOp H T lk obj (λ_=>False) d op ty K)(hl:∀x∈op.operands,lk' x=lk x)(ho:∀r rd wr,K r rd wr->∀s,(s∈rd\/s∈wr.map (·.1))->D8 s=obj s):wpOp H T lk' D8 (λ_=>False) d op ty K:=by
 cases op with
 |move x=>
  simp only[wpOp]at h⊢;rw[hl x (by simp[Op.operands])];exact h
 |assign x=>
  simp only[wpOp]at h⊢;split at h
  .exact dD8 h (hl x (by simp[Op.operands])) ho
  .exact h
 |pick c x y=>
  simp only[wpOp]at h⊢;rw[hl c (by simp[Op.operands]),hl x (by simp[Op.operands]),hl y (by simp[Op.operands])];exact h
 |alloc e=>
  simp only[wpOp]at h⊢;split at h
  .rename_i i d' h1
   try rw[h1]
   try simp only
   rw[ho _ _ _ h d' (.inr (by simp))];exact h
  .exact h.elim
 |box e x=>
  simp only[wpOp]at h⊢;rw[hl x (by simp[Op.operands])];split at h
  .rename_i c d' h1
   try rw[h1]
   try simp only
   replace h:=U8 h;rw[ho _ _ _ h.2 d' (.inr (by simp)),h.1];exact h.2
  .exact h.elim
 |build t ps=>
  simp only[wpOp]at h⊢
  have:∀fs z,yJ T lk' fs z ps.toList=yJ T lk fs z ps.toList:=λfs z=>bn7 fs _ z λp hp=>hl p.2 (by
   simp only[Op.operands,List.mem_toArray,jH];exact⟨p,hp,rfl⟩)
  grind
 |buildSlice t len ps=>
  simp only[wpOp]at h⊢
  have:∀sz,wL lk' sz 0 ps.toList=wL lk sz 0 ps.toList:=λsz=>bn6 sz _ 0 λp hp=>hl p.2 (by
   simp only[Op.operands,List.mem_toArray,jH];exact⟨p,hp,rfl⟩)
  simp only[this];split at h
  .rename_i e _ _ _ _ _ h1;split at h
   .rename_i i d' h2;split at h
    .rename_i es h3
     try rw[h2]
     try simp only[h3]
     replace h:=U8 h;rw[ho _ _ _ h.2 d' (.inr (by simp)),h.1];exact h.2
    .exact h.elim
   .exact h.elim
  .exact h.elim
 |load t x=>
  simp only[wpOp]at h⊢;rw[hl x (by simp[Op.operands])];split at h
  .rename_i i h1
   try simp only
   split at h
   .rename_i s g off h2
    try simp only
    split at h
    .rename_i g' cs h3;replace h:=U8 h;have⟨hb,h⟩:=h;split at h
     .rename_i c h4;rw[ho _ _ _ h s (.inl (by simp)),h3]
      grind
     .exact h.elim
    .rename_i g' cs h3;replace h:=U8 h;have⟨hb,h⟩:=h;split at h
     .rename_i c h4;rw[ho _ _ _ h s (.inl (by simp)),h3]
      grind
     .exact h.elim
    .exact h.elim
   .exact h
   .exact h.elim
  .exact h.elim
 |store t x y=>
  simp only[wpOp]at h⊢;rw[hl x (by simp[Op.operands]),hl y (by simp[Op.operands])];split at h
  .rename_i i s g off c h1 h2 h3
   try rw[h1,h2,h3]
   try simp only
   split at h
   .rename_i g' cs h4;replace h:=U8 h;have⟨hb,h⟩:=h;split at h
    .rename_i cs' h5;rw[ho _ _ _ h s (.inl (by simp)),h4]
     grind
    .exact h.elim
   .exact h.elim
  .exact h.elim
 |nilCheck x=>
  simp only[wpOp]at h⊢;rw[hl x (by simp[Op.operands])];split at h
  .rename_i s g off h2
   try simp only
   split at h
   .rename_i g' cs h3;replace h:=U8 h;rw[ho _ _ _ h.2 s (.inl (by simp)),h3]
    grind
   .rename_i g' cs h3;replace h:=U8 h;rw[ho _ _ _ h.2 s (.inl (by simp)),h3]
    grind
   .exact h.elim
  .exact h
  .exact h
  .exact h
  .exact h.elim
 |binOp op t x y t'=>
  simp only[wpOp]at h⊢;rw[hl x (by simp[Op.operands]),hl y (by simp[Op.operands])];exact h
 |unOp op t x=>
  cases op<;>simp only[wpOp]at h⊢<;>(rw[hl x (by simp[Op.operands])];exact h)
 |convert s t x=>
  simp only[wpOp]at h⊢;rw[hl x (by simp[Op.operands])];exact h
 |makeFunc fn first captured=>
  cases fn with
  |func f=>
   simp only[wpOp]at h⊢;have:captured.toList.map lk'=captured.toList.map lk:=List.map_congr_left λx hx=>hl x (by simp[Op.operands];right;simpa using hx)
   grind
  |_=>simp only[wpOp]at h
 |fieldAddr t x k=>
  simp only[wpOp]at h⊢;rw[hl x (by simp[Op.operands])];split at h
  .rename_i fs _ _ _ _ _ h1
   try simp only
   split at h
   .rename_i f h2
    try simp only
    split at h
    .rename_i i h3
     try simp only
     cases hz:Nat.beq i.size 0 with
     |true=>grind
     |false=>
      rw[hz]at h;simp only[G6]at h⊢;split at h
      .rename_i s g off h4
       try simp only
       split at h
       .rename_i g' cs h5;replace h:=U8 h;rw[ho _ _ _ h.2 s (.inl (by simp)),h5]
        grind
       .rename_i g' cs h5;replace h:=U8 h;rw[ho _ _ _ h.2 s (.inl (by simp)),h5]
        grind
       .exact h.elim
      .exact h
      .exact h.elim
    .exact h.elim
   .exact h.elim
  .exact h.elim
 |field t x k=>
  simp only[wpOp]at h⊢;rw[hl x (by simp[Op.operands])];exact h
 |indexAddr t x i=>
  simp only[wpOp]at h⊢;rw[hl x (by simp[Op.operands]),hl i (by simp[Op.operands])];exact h
 |index t x i=>
  simp only[wpOp]at h⊢;rw[hl x (by simp[Op.operands]),hl i (by simp[Op.operands])];exact h
 |extract x k=>
  simp only[wpOp]at h⊢;rw[hl x (by simp[Op.operands])];exact h
 |call c=>
  simp only[Op.operands]at hl;unfold wpOp at h⊢;cases hcc:c.callee with
  |builtin b=>
   simp only[hcc]at h⊢;exact dE1 h (λx hx=>hl x (by simp[Call.operands];right;simpa using hx)) ho
  |value f=>simp only[hcc]at h⊢;exact ch0 h hl ho
  |invoke r m=>simp only[hcc]at h⊢;exact ch0 h hl ho
 |_=>exact h.elim
end
end Go.F7
namespace Go.F7
open Go Go.RowKit
section
variable{H:jY}{T:Tab}{lk lk':Operand->SV}{obj D8:J8}{d:E8}{ty:TypeId}{K:aV}
def df0{d m:Nat}{obj D8:J8}(h:∀j,j<m->(D8 (sig d j)).1=(obj (sig d j)).1):
    uH D8 d m=uH obj d m/\PD D8 d m=PD obj d m/\∀(os:KT)(k:Nat),k+os.length<=m->rO D8 d m k os=rO obj d m k os:=by
 have hj:∀j,Nat.blt j m=true->j<m:=λj hb=>Nat.lt_of_succ_le (by simpa[Nat.blt]using hb);have h1:uH D8 d m=uH obj d m:=by
  funext c;cases c with
  |ow j=>simp only[uH];cases hb:Nat.blt j m with|false=>rfl|true=>simp only[H9,h j (hj j hb)]
  |_=>rfl
 refine⟨h1,?_,?_⟩
 .funext c;cases c with
  |ow j=>simp only[PD];cases hb:Nat.blt j m with|false=>rfl|true=>simp only[H9,h j (hj j hb)]
  |agg cs=>simp only[PD,h1]
  |_=>rfl
 .intro os;induction os with
  |nil=>intro k _;rfl
  |cons o r ih=>
   intro k hk;have⟨el,sz,ds,D7⟩:=o;simp only[sD]at hk;simp only[rO,h k (by omega),ih (k+1) (by omega)];rcases D7 with _|p
   .rfl
   .have⟨q,cs⟩:=p;simp only[WB,h1]
def bR6(obj:J8)(d m:Nat):∀(os:KT)(k j:Nat),j<os.length->sig d (k+j)∈(rO obj d m k os).map (·.1)
 |[],_,_,h=>by simp at h
 |(el,sz,ds,D7)::r,k,0,_=>by simp[rO]
 |(el,sz,ds,D7)::r,k,j+1,h=>by
  have:=bR6 obj d m r (k+1) j (by simpa using h);rw[show k+1+j=k+(j+1)from by omega]at this;simp only[rO,kP,lD]
  grind
def dG1{c:Call}(h:EO T lk obj c d K):∃r rd u,(∀K':aV,K' r rd u->EO T lk obj c d K')/\K r rd u:=by
 unfold EO at h⊢;split at h
 .split at h
  .split at h
   .replace h:=U8 h;have⟨hb,h⟩:=h;simp only[hb,H9];split at h
    .grind
    .grind
    .split at h
     .replace h:=U8 h;have⟨hb2,h1,h2,ds',h3,h4⟩:=h;simp only[hb2,H9];clear hb2;generalize Nat.beq _ _=q at h4⊢;cases q with
      |true=>grind
      |false=>grind
     .exact h.elim
    .grind
    .exact h.elim
   .exact h.elim
  .exact h.elim
 .exact h.elim
def ci4{op:Op}(h:aK H T lk obj d op K):∃r rd u,(∀K':aV,K' r rd u->aK H T lk obj d op K')/\K r rd u:=by
 cases op with
 |load t x=>
  simp only[aK]at h⊢;split at h
  .split at h
   .grind
   .grind
   .exact h.elim
  .exact h.elim
 |store t x y=>
  simp only[aK]at h⊢;split at h
  .replace h:=U8 h;have⟨hb,h⟩:=h;simp only[hb,H9];split at h
   .split at h
    .grind
    .grind
    .exact h.elim
   .split at h
    .replace h:=U8 h;have⟨hb,cs,hcs,h⟩:=h
     grind
    .exact h.elim
   .exact h.elim
  .exact h.elim
 |nilCheck x=>
  simp only[aK]at h⊢;split at h
  .grind
  .grind
  .exact h.elim
 |fieldAddr t x k=>
  simp only[aK]at h⊢;split at h
  .split at h
   .split at h
    .rename_i i _;cases hz:Nat.beq i.size 0 with
     |true=>grind
     |false=>
      rw[hz]at h;simp only[G6]at h⊢;split at h
      .grind
      .grind
      .exact h.elim
    .exact h.elim
   .exact h.elim
  .exact h.elim
 |indexAddr t x i=>
  simp only[aK]at h⊢;split at h
  .grind
  .exact h.elim
 |buildSlice t len ps=>
  simp only[aK]at h⊢;split at h
  .grind
  .exact h.elim
 |call c=>
  have⟨callee,args,argTypes⟩:=c;have hcall:∀c:Call,xU H lk obj c d K->∃r rd u,(∀K':aV,K' r rd u->xU H lk obj c d K')/\K r rd u:=by
   intro c h;unfold xU at h⊢;split at h
   .grind
   .exact h.elim
  cases callee with
  |value f=>simp only[aK]at h⊢;exact hcall _ h
  |invoke r m=>simp only[aK]at h⊢;exact hcall _ h
  |builtin b=>
   cases b with
   |len=>
    simp only[aK]at h⊢;split at h
    .grind
    .exact h.elim
   |append=>exact dG1 h
   |_=>exact h.elim
 |_=>exact h.elim
def dG2{c:Call}(h:EO T lk obj c d K)(hl:∀x∈c.args.toList,lk' x=lk x)(ho:∀r rd wr,K r rd wr->∀s,(s∈rd\/s∈wr.map (·.1))->D8 s=obj s):EO T lk' D8 c d K:=by
 unfold EO at h⊢;split at h
 .rename_i x y d t1 t2 hargs aO7;rw[hl x (by rw[hargs];simp),hl y (by rw[hargs];simp)];split at h
  .rename_i e _ _ _ _ _ ht1;split at h
   .rename_i i hte;replace h:=U8 h;obtain⟨hb,h⟩:=h
    try simp only[hargs,aO7,ht1,hte]
    simp only[hb,H9];split at h
    .split at h
     .have⟨h1,h2,h3⟩:=h;have hod:=ho _ _ _ h3 d (.inr (by simp))
      grind
     .exact h.elim
    .rename_i t g s g2 _ _;split at h
     .rename_i aN6 dS8;replace h:=U8 h;have⟨hb2,h1,ds',h2,h3⟩:=h;have ht:=ho _ _ _ h3 t (.inl (by simp));have hs:=ho _ _ _ h3 s (.inl (by simp));have hod:=ho _ _ _ h3 d (.inr (by simp))
      grind
     .exact h.elim
    .rename_i t g _ _;split at h
     .rename_i aN6 hsl;replace h:=U8 h;have⟨hb2,h1,h2,ds',h3,h4⟩:=h;have ht:D8 t=obj t:=by
       cases htd:Nat.beq t d with
       |true=>rw[htd]at h4;exact ho _ _ _ h4 t (.inl (by simp))
       |false=>rw[htd]at h4;exact ho _ _ _ h4 t (.inl (by simp))
      simp only[ht,aN6,hsl,hb2,H9];refine⟨h1,h2,ds',h3,?_⟩;cases htd:Nat.beq t d with
      |true=>grind
      |false=>
       rw[htd]at h4;simp only[G6]at h4⊢;rw[ho _ _ _ h4 d (.inr (by simp))];exact h4
     .exact h.elim
    .rename_i t g sz es _;split at h
     .rename_i aN6 hsl;replace h:=U8 h;have⟨hb2,h1,h2,h3,h4⟩:=h;have ht:=ho _ _ _ h4 t (.inl (by simp));have hod:=ho _ _ _ h4 d (.inr (by simp))
      grind
     .exact h.elim
    .exact h.elim
   .exact h.elim
  .exact h.elim
 .exact h.elim
def ci5{c:Call}(h:xU H lk obj c d K)(hl:∀x∈c.operands,lk' x=lk x)(ho:∀r rd wr,K r rd wr->∀s,(s∈rd\/s∈wr.map (·.1))->D8 s=obj s):xU H lk' D8 c d K:=by
 have hc:callArgs lk' c=callArgs lk c:=by
  unfold callArgs;have hargs:c.args.toList.map lk'=c.args.toList.map lk:=List.map_congr_left λx hx=>hl x (by simp[Call.operands];right;simpa using hx);cases hcc:c.callee with
  |value f=>
   have hf:lk' f=lk f:=hl f (by simp[Call.operands,hcc])
   grind
  |invoke r m=>rfl
  |builtin b=>rfl
 unfold xU at h⊢;rw[hc];split at h
 .rename_i f args more d h1
  try simp only[h1]
  split at h
  .rename_i cs ts h2;replace h:=U8 h;obtain⟨hb,r,os,hh,h⟩:=h;have htn:ts=[]:=by grind
   subst htn;rw[aK9 _ _ _ h2 (λt ht=>by simp at ht)];simp only[hb,H9];refine⟨r,os,hh,?_⟩;split at h
   .rename_i s TR;have hs:∀j,j<os.length->(D8 (sig d j)).1=(obj (sig d j)).1:=λj hj=>by
     have:=bR6 obj d os.length os 0 j hj;rw[X9]at this;rw[ho _ _ _ h _ (.inr this)]
    have⟨_,e1,e2⟩:=df0 hs;rw[e1,TR,e2 os 0 (by omega)];exact h
   .exact h.elim
  .exact h.elim
 .exact h.elim
def dG0{op:Op}(h:aK H T lk obj d op K)(hl:∀x∈op.operands,lk' x=lk x)(ho:∀r rd wr,K r rd wr->∀s,(s∈rd\/s∈wr.map (·.1))->D8 s=obj s):aK H T lk' D8 d op K:=by
 cases op with
 |load t x=>
  simp only[aK]at h⊢;rw[hl x (by simp[Op.operands])];split at h
  .rename_i i h1
   try simp only
   split at h
   .rename_i s g off h2
    try simp only
    split at h
    .rename_i g' cs h3;replace h:=U8 h;have⟨hb,h⟩:=h;split at h
     .rename_i c h4;rw[ho _ _ _ h s (.inl (by simp)),h3]
      grind
     .exact h.elim
    .exact h.elim
   .rename_i s g m off h2
    try simp only
    split at h
    .rename_i g' el sz ds D7 h3;replace h:=U8 h;have⟨hb,cs,hcs,h⟩:=h;split at h
     .rename_i c h4;rw[ho _ _ _ h s (.inl (by simp)),h3]
      grind
     .exact h.elim
    .exact h.elim
   .exact h.elim
  .exact h.elim
 |store t x y=>
  simp only[aK]at h⊢;rw[hl x (by simp[Op.operands]),hl y (by simp[Op.operands])];split at h
  .rename_i i ys h1 h2;replace h:=U8 h;have⟨hb,h⟩:=h
   try simp only[h1,h2]
   simp only[hb,H9];split at h
   .rename_i s g off h3
    try simp only
    split at h
    .rename_i g' cs h4;replace h:=U8 h;have⟨hb,h⟩:=h;split at h
     .rename_i cs' h5;rw[ho _ _ _ h s (.inl (by simp)),h4]
      grind
     .exact h.elim
    .rename_i g' cs h4;replace h:=U8 h;have⟨hb,h⟩:=h;split at h
     .rename_i cs' h5;rw[ho _ _ _ h s (.inl (by simp)),h4]
      grind
     .exact h.elim
    .exact h.elim
   .rename_i s g m off h3
    try simp only
    split at h
    .rename_i g' el sz ds D7 h4;replace h:=U8 h;have⟨hb,cs,hcs,h⟩:=h;split at h
     .rename_i cs' h5;have⟨ds',jR,hsc,h⟩:=h;rw[ho _ _ _ h s (.inl (by simp)),h4]
      grind
     .exact h.elim
    .exact h.elim
   .exact h.elim
  .exact h.elim
 |nilCheck x=>
  simp only[aK]at h⊢;rw[hl x (by simp[Op.operands])];split at h
  .rename_i s g off h2
   try simp only
   split at h
   .rename_i g' cs h3;replace h:=U8 h;rw[ho _ _ _ h.2 s (.inl (by simp)),h3]
    grind
   .exact h.elim
  .rename_i s g m off h2
   try simp only
   split at h
   .rename_i g' el sz ds D7 h3;replace h:=U8 h;rw[ho _ _ _ h.2 s (.inl (by simp)),h3]
    grind
   .exact h.elim
  .exact h.elim
 |fieldAddr t x k=>
  simp only[aK]at h⊢;rw[hl x (by simp[Op.operands])];split at h
  .rename_i fs _ _ _ _ _ h1
   try simp only
   split at h
   .rename_i f h2
    try simp only
    split at h
    .rename_i i h3
     try simp only
     cases hz:Nat.beq i.size 0 with
     |true=>grind
     |false=>
      rw[hz]at h;simp only[G6]at h⊢;split at h
      .rename_i s g off h4
       try simp only
       split at h
       .rename_i g' cs h5;replace h:=U8 h;rw[ho _ _ _ h.2 s (.inl (by simp)),h5]
        grind
       .exact h.elim
      .rename_i s g m off h4
       try simp only
       split at h
       .rename_i g' el sz ds D7 h5;replace h:=U8 h;rw[ho _ _ _ h.2 s (.inl (by simp)),h5]
        grind
       .exact h.elim
      .exact h.elim
    .exact h.elim
   .exact h.elim
  .exact h.elim
 |indexAddr t x i=>
  simp only[aK]at h⊢;rw[hl x (by simp[Op.operands]),hl i (by simp[Op.operands])];split at h
  .rename_i e _ _ _ _ _ h1
   try simp only
   split at h
   .rename_i ti s g kd m h2 h3 h4
    try simp only[h2,h3,h4]
    split at h
    .rename_i g' el sz ds D7 h5;replace h:=U8 h;have⟨hb,q1,q2,q3⟩:=h;rw[ho _ _ _ q3 s (.inl (by simp)),h5]
     grind
    .exact h.elim
   .exact h.elim
  .exact h.elim
 |buildSlice t len ps=>
  simp only[aK]at h⊢;split at h
  .rename_i e _ _ _ _ _ h1;split at h
   .rename_i i d x h2 h3
    have hx:lk' x=lk x:=hl x (by
     simp only[Op.operands,List.mem_toArray,jH];exact⟨(0,x),by rw[h3];simp,rfl⟩)
    try simp only[h1,h2,h3]
    rw[hx];split at h
    .replace h:=U8 h;have⟨hb,cs0,h⟩:=h;rw[hb,ho _ _ _ h d (.inr (by simp))]
     grind
    .exact h.elim
   .exact h.elim
  .exact h.elim
 |call c=>
  have⟨callee,args,argTypes⟩:=c;simp only[Op.operands]at hl;cases callee with
  |value f=>simp only[aK]at h⊢;exact ci5 h hl ho
  |invoke r m=>simp only[aK]at h⊢;exact ci5 h hl ho
  |builtin b=>
   cases b with
   |len=>
    simp only[aK]at h⊢;split at h
    .rename_i x e _ _ _ _ _ h1 h2;have hx:lk' x=lk x:=hl x (by simp[Call.operands];rw[<-Array.mem_toList_iff,h1];simp)
     try simp only[h1,h2]
     rw[hx];split at h
     .rename_i s g h3;split at h
      .rename_i g' el sz ds D7 h4;replace h:=U8 h;rw[ho _ _ _ h.2 s (.inl (by simp)),h4]
       grind
      .exact h.elim
     .exact h.elim
    .exact h.elim
   |append=>exact dG2 h (λx hx=>hl x (by simp[Call.operands];simpa using hx)) ho
   |_=>exact h.elim
 |_=>exact h.elim
def dF4{op:Op}(h:QT H T lk obj d op ty K)(hl:∀x∈op.operands,lk' x=lk x)(ho:∀r rd wr,K r rd wr->∀s,(s∈rd\/s∈wr.map (·.1))->D8 s=obj s):QT H T lk' D8 d op ty K:=by
 rcases bh5 op h with h|h
 .exact aC6 (λh=>h.elim) op (dF8 h hl ho)
 .exact bi0 op (dG0 h hl ho)
def bM7{τ:dU}{γ:Nat->Nat}:∀(l:dU)(k:Nat),(∀p∈l,D8 p.1=obj p.1)->rG τ γ D8 k l=rG τ γ obj k l
 |[],_,_=>rfl
 |(t,g)::r,k,h=>by
  have h0:D8 t=obj t:=h (t,g) (by simp);simp only[rG,h0,bM7 r (k+1) λp hp=>h p (RH _ hp)]
def LD{d off:Nat}{τ:dU}{j:Nat}(h:D8 (V8 d off τ j)=obj (V8 d off τ j))(k:Nat):dY D8 d off τ j k=dY obj d off τ j k:=by
 unfold dY;unfold V8 at h
 grind
def map_eq{α β:Type}{f g:α->β}{p:α->Bool}{l:List α}(hl:l.all p=true)(hfg:∀x,p x=true->f x=g x):l.map f=l.map g:=by
 rw[List.map_inj_left]
 grind
section
variable{d off:Nat}{τ:dU}{m:Nat}(h:∀j,j<m->D8 (V8 d off τ j)=obj (V8 d off τ j))
include h
def bo3{c:CV}(hc:SC m c=true):FQ D8 d off τ c=FQ obj d off τ c:=by
 cases c<;>first|rfl|(simp only[FQ];rw[LD (h _ (fA hc))])
def an1{c:CV}(hc:qW m c=true):qV D8 d off τ c=qV obj d off τ c:=by
 by_cases hf:∃f caps,c=.fr f caps
 .obtain⟨f,caps,rfl⟩:=hf;simp only[qV];rw[map_eq (p:=SC m) hc λx hx=>bo3 h hx]
 .have e1:qW m c=SC m c:=by cases c<;>first|rfl|exact absurd ⟨_,_,rfl⟩ hf
  have e2:∀o,qV o d off τ c=FQ o d off τ c:=λo=>by cases c<;>first|rfl|exact absurd ⟨_,_,rfl⟩ hf
  rw[e1]at hc;rw[e2,e2];exact bo3 h hc
theorem bV7{s:SV}(hc:DY m s=true):uI D8 d off τ s=uI obj d off τ s:=by
 cases s with
 |aY cs=>simp only[uI];rw[map_eq (p:=qW m) hc λx hx=>an1 h hx]
 |fC cs=>simp only[uI];rw[map_eq (p:=qW m) hc λx hx=>an1 h hx]
 |rs j k=>simp only[uI];rw[LD (h _ (fA hc))]
 |pm j k o=>simp only[uI];rw[LD (h _ (fA hc))]
 |mr j k=>simp only[uI];rw[LD (h _ (fA hc))]
 |pe j k n o=>simp only[uI];rw[LD (h _ (fA hc))]
 |ap j k sz es=>simp only[uI];rw[LD (h _ (fA hc))]
 |_=>rfl
def di1{s:SV}(hc:nX m s=true):zF D8 d off τ s=zF obj d off τ s:=by
 by_cases hf:∃f caps,s=.V4 f caps
 .obtain⟨f,caps,rfl⟩:=hf;simp only[zF];rw[map_eq (p:=DY m) hc λx hx=>bV7 h hx]
 .have e1:nX m s=DY m s:=by cases s<;>first|rfl|exact absurd ⟨_,_,rfl⟩ hf
  have e2:∀o,zF o d off τ s=uI o d off τ s:=λo=>by cases s<;>first|rfl|exact absurd ⟨_,_,rfl⟩ hf
  rw[e1]at hc;rw[e2,e2];exact bV7 h hc
theorem c81{o:G8}(hc:IW m o=true):eG D8 d off τ o=eG obj d off τ o:=by
 cases o with
 |varx cs=>simp only[eG];rw[map_eq (p:=qW m) hc λx hx=>an1 h hx]
 |arr el sz ds D7=>
  cases D7 with
  |none=>rfl
  |some p=>have⟨k,cs⟩:=p;simp only[eG];rw[map_eq (p:=qW m) hc λx hx=>an1 h hx]
 |_=>rfl
def cd5:∀(os:Y0)(k:Nat),k+os.length<=m->os.all (λo=>IW m o.2)=true->aZ D8 d off τ k os=aZ obj d off τ k os
 |[],_,_,_=>rfl
 |(g,o)::r,k,hk,ha=>by
  simp only[List.all_cons,Z4]at ha;simp only[sD]at hk;simp only[aZ];rw[LD (h k (by omega)),c81 h ha.1,cd5 r (k+1) (by omega) ha.2]
end
def cd6{jT bL6:J8}{d off:Nat}{τ:dU}:∀(os:Y0)(k:Nat),(aZ jT d off τ k os).map (·.1)=(aZ bL6 d off τ k os).map (·.1)
 |[],_=>rfl
 |(_,_)::r,k=>by simp only[aZ,kP];rw[cd6 r (k+1)]
def dE9{op:Op}(h:KC H lk obj d op ty K)(hl:∀x∈op.operands,lk' x=lk x)(ho:∀r rd wr,K r rd wr->∀s,(s∈rd\/s∈wr.map (·.1))->D8 s=obj s):KC H lk' D8 d op ty K:=by
 have⟨τ,off,args,os,r,os',h1,h2,h3,h4,h5⟩:=h;have h4':=h4;simp only[Z4]at h4';have hs:=ho _ _ _ h5;have hbk:∀j,j<os'.length->D8 (V8 (d.getD 0) off τ j)=obj (V8 (d.getD 0) off τ j):=λj hj=>by
  refine hs _ (.inr ?_);have:=QE (obj:=obj) (d:=d.getD 0) (off:=off) (τ:=τ) os' 0 j hj
  grind
 refine⟨τ,off,args,os,r,os',?_,?_,h3,?_,?_⟩
 .rw[<-h1];congr 1;rw[List.map_inj_left]
  grind
 .rw[<-h2];exact bM7 τ 0 λp hp=>hs p.1 (.inl (jH.2 ⟨p,hp,rfl⟩))
 .rw[cd6 (bL6:=obj) os' 0];exact h4
 .rw[cd5 (m:=os'.length) hbk os' 0 (by omega) h4'.2,di1 (m:=os'.length) hbk h4'.1.2];exact h5
def dF6{op:Op}(h:KD H T lk obj d op ty K)(hl:∀x∈op.operands,lk' x=lk x)(ho:∀r rd wr,K r rd wr->∀s,(s∈rd\/s∈wr.map (·.1))->D8 s=obj s):KD H T lk' D8 d op ty K:=
 h.imp (λh=>dF4 h hl ho) (λh=>dE9 h hl ho)
end
end Go.F7
namespace Go.F7
open Go Go.RowKit
section
variable{P:Program}{G:aB}{T:Tab}{Z0:Base}{w0:World}{S:U2}{n:Nat}{Z Z':Zone}{E:Q8}{st:St}{a:Act}{w w':World}
def Inv.know(hI:Inv G Z0 w0 S n Z E st a w){d:Nat}{r:SV}(hr:O7 Z w st.obj E r (a.tmps.getD d undef)):Inv G Z0 w0 S n Z E ⟨put st.env (some d) r,st.obj⟩ a w:=
 { hI with
   env:=λt=>by
    simp only[put];rcases hb:Nat.beq d t with _|_
    .exact hI.env t
    .have:=G5 hb;subst this;exact hr }
theorem bi4{ops:pJ}{j dj:Nat}(h:(ops[j]?).bind (·.dst)=some dj)(hv:a.tmps.getD dj undef=undef):yielded ops a.tmps j=none:=by
 unfold yielded;rw[h];simp only[F9];rw[bY]at hv;rcases hx:a.tmps[dj]? with _|x
 .rfl
 .rw[hx]at hv;simp at hv;rw[hv];rfl
def aD1{ops:pJ}{j dj:Nat}{b:Bool}(h:(ops[j]?).bind (·.dst)=some dj)(hv:a.tmps.getD dj undef=.bool b):yielded ops a.tmps j=some b:=by
 have:a.tmps[dj]?=some (.bool b):=by
  rw[bY]at hv;cases hx:a.tmps[dj]? with
  |none=>rw[hx]at hv;simp[undef]at hv
  |some x=>grind
 simp[yielded,h,this]
end
end Go.F7
namespace Go.F7
open Go Go.RowKit
section
variable{H:jY}{T:Tab}{lk:Operand->SV}{obj:J8}{d:E8}{ty:TypeId}{K:aV}
def dD9{op:BinOp}{ib:Bool}{x y:Value}{K:Value->Prop}(h:jO op ib x y K):∃v,jO op ib x y (λv'=>v'=v)/\K v:=by
 unfold jO at h⊢;split at h
 .grind
 .grind
 .grind
 .grind
 .grind
 .grind
 .grind
 .grind
 .grind
 .exact h.elim
def dE0{op:BinOp}{ib:Bool}{x y:Value}{K K':Value->Prop}(h:jO op ib x y K)(hk:∀v,K v->K' v):jO op ib x y K':=by
 unfold jO at h⊢;split at h
 .grind
 .grind
 .grind
 .grind
 .grind
 .grind
 .grind
 .grind
 .grind
 .exact h.elim
def ch9{op:Op}(h:wpOp H T lk obj (λ_=>False) d op ty K):∃r rd u,(∀K':aV,K' r rd u->wpOp H T lk obj (λ_=>False) d op ty K')/\K r rd u:=by
 cases op with
 |move x=>exact⟨_,_,_,λ_ hk=>hk,h⟩
 |assign x=>
  simp only[wpOp]at h⊢;split at h
  .rename_i d;unfold XM at h⊢;split at h
   .grind
   .cases hs:lk x with
    |ap t g sz es=>
     simp only[hs]at h⊢;cases hob:obj t with
     |mk g' o=>
      simp only[hob]at h⊢;cases o with
      |tok el s=>grind
      |none=>grind
      |spent=>grind
      |var cs=>grind
      |ro cs=>grind
      |varx cs=>grind
      |arr el sz ds D7=>grind
      |map es=>grind
      |lp l R q=>grind
    |any=>grind
    |un=>grind
    |kt=>grind
    |kf=>grind
    |c x=>grind
    |pm t g o=>grind
    |V4 f cs=>grind
    |rs t g=>grind
    |aY cs=>grind
    |fC cs=>grind
    |pe t g m o=>grind
    |mr t g=>grind
  .exact h.elim
 |pick c x y=>
  simp only[wpOp]at h⊢;split at h
  .grind
  .grind
  .rename_i q _;split at h
   .grind
   .grind
  .exact h.elim
 |alloc e=>
  simp only[wpOp]at h⊢
  grind
 |box e x=>
  simp only[wpOp]at h⊢
  grind
 |build t ps=>
  simp only[wpOp]at h⊢
  grind
 |buildSlice t len ps=>
  simp only[wpOp]at h⊢;split at h
  .grind
  .exact h.elim
 |load t x=>
  simp only[wpOp]at h⊢;split at h
  .split at h
   .split at h
    .grind
    .grind
    .exact h.elim
   .grind
   .exact h.elim
  .exact h.elim
 |store t x y=>
  simp only[wpOp]at h⊢;split at h
  .grind
  .exact h.elim
 |nilCheck x=>
  simp only[wpOp]at h⊢;split at h
  .grind
  .grind
  .grind
  .grind
  .exact h.elim
 |binOp op t x y t'=>
  simp only[wpOp]at h⊢;split at h
  .have⟨v,hv,hk⟩:=dD9 h;refine⟨_,_,_,λK' hk'=>?_,hk⟩;exact dE0 hv λv' e=>by grind
  .exact h.elim
 |unOp op t x=>
  cases op with
  |not=>
   simp only[wpOp]at h⊢
   grind
  |neg=>
   simp only[wpOp]at h⊢
   grind
  |_=>exact h.elim
 |convert s t x=>
  simp only[wpOp]at h⊢
  grind
 |makeFunc fn first captured=>
  cases fn with
  |func f=>
   simp only[wpOp]at h⊢
   grind
  |_=>exact h.elim
 |fieldAddr t x k=>
  simp only[wpOp]at h⊢;split at h
  .split at h
   .split at h
    .rename_i i _;cases hz:Nat.beq i.size 0 with
     |true=>grind
     |false=>
      rw[hz]at h;simp only[G6]at h⊢;split at h
      .grind
      .grind
      .exact h.elim
    .exact h.elim
   .exact h.elim
  .exact h.elim
 |field t x k=>
  simp only[wpOp]at h⊢;split at h
  .split at h
   .grind
   .exact h.elim
  .exact h.elim
 |indexAddr t x i=>
  simp only[wpOp]at h⊢
  grind
 |index t x i=>
  simp only[wpOp]at h⊢
  grind
 |extract x k=>
  simp only[wpOp]at h⊢
  grind
 |call c=>
  unfold wpOp at h⊢;have hcall:kK H lk obj (λ_=>False) c K->∃r rd u,(∀K':aV,K' r rd u->kK H lk obj (λ_=>False) c K')/\K r rd u:=by
   intro h;unfold kK at h⊢
   grind
  cases hcc:c.callee with
  |builtin b=>
   simp only[hcc]at h⊢;unfold iV at h⊢;split at h
   .grind
   .grind
   .grind
   .split at h
    .split at h
     .split at h
      .replace h:=U8 h;obtain⟨hb,⟨h1,h2,es',he',h⟩|h⟩:=h
       rotate_left
       .exact h.elim
       simp only[hb,H9];clear hb;generalize Nat.beq _ _=q at h⊢;cases q with
       |true=>grind
       |false=>grind
      .exact h.elim
     .exact h.elim
    .exact h.elim
   .exact h.elim
  |value f=>grind
  |invoke r m=>grind
 |_=>exact h.elim
def bh4{op:Op}(h:KC H lk obj d op ty K):∃r rd u,(∀K':aV,K' r rd u->KC H lk obj d op ty K')/\K r rd u:=by
 have⟨τ,off,args,os,r,os',h1,h2,h3,h4,h5⟩:=h;exact⟨_,_,_,λK' hk=>⟨τ,off,args,os,r,os',h1,h2,h3,h4,hk⟩,h5⟩
def dF3{op:Op}(h:QT H T lk obj d op ty K):∃r rd u,(∀K':aV,K' r rd u->QT H T lk obj d op ty K')/\K r rd u:=by
 rcases bh5 op h with h|h
 .have⟨r,rd,u,h1,h2⟩:=ch9 h;exact⟨r,rd,u,λK' hk=>aC6 (λh=>h.elim) op (h1 K' hk),h2⟩
 .have⟨r,rd,u,h1,h2⟩:=ci4 h;exact⟨r,rd,u,λK' hk=>bi0 op (h1 K' hk),h2⟩
def dF5{op:Op}(h:KD H T lk obj d op ty K):∃r rd u,(∀K':aV,K' r rd u->KD H T lk obj d op ty K')/\K r rd u:=by
 rcases h with h|h
 .have⟨r,rd,u,h1,h2⟩:=dF3 h;exact⟨r,rd,u,λK' hk=>.inl (h1 K' hk),h2⟩
 .have⟨r,rd,u,h1,h2⟩:=bh4 h;exact⟨r,rd,u,λK' hk=>.inr (h1 K' hk),h2⟩
def ch2{op:Op}{K':aV}(h:XO H T lk obj d op ty K)(hk:∀r rd u,K r rd u->K' r rd u):XO H T lk obj d op ty K':=by
 rcases dF9 op h with h|⟨h,hp⟩
 .have⟨r,rd,u,h1,h2⟩:=ch9 h;exact aC6 (λh=>h.elim) op (h1 K' (hk _ _ _ h2))
 .refine hp _ _ ?_;rcases h with h|h
  .have⟨r,rd,u,h1,h2⟩:=ci4 h
   grind
  .have⟨r,rd,u,h1,h2⟩:=bh4 h
   grind
def ch8{op:Op}{K':aV}(h:fP H T lk obj d op ty K)(hk:∀r rd u,K r rd u->K' r rd u):fP H T lk obj d op ty K':=by
 unfold fP at h⊢;rcases hb:ao8 op with _|_
 .rw[hb]at h;exact ch2 h hk
 .rw[hb]at h;exact h.imp (λh=>ch2 h hk) λh=>by
   have⟨r,rd,u,h1,h2⟩:=bh4 h
   grind
end
section
variable{P:Program}{G:aB}{T:Tab}{Z0:Base}{w0:World}{S:U2}{n:Nat}{Z Z':Zone}{E:Q8}{st:St}{a:Act}{w w':World}
def Ref(r r':SV):Prop:=r'=r\/(r=.c (.v (.bool true))/\r'=.kt)\/(r=.c (.v (.bool false))/\r'=.kf)
def Ref.rep{obj:J8}{r r':SV}{x:Value}(h:Ref r r')(hr:O7 Z w obj E r x):O7 Z w obj E r' x:=by
 rcases h with rfl|⟨rfl,rfl⟩|⟨rfl,rfl⟩
 .exact hr
 .rw[mZ hr];exact .kt
 .rw[mZ hr];exact .kf
def qZ(all:List Oper)(st:St)(o:Oper):Option Bool:=
 match o.guard with
 |.none=>some true
 |some (j,want)=>match(all[j]?).bind (·.dst)with
  |.none=>.none
  |some dj=>match st.env dj with
   |.kt=>some want
   |.kf=>some (!want)
   |.un=>some false
   |_=>.none
def zS(H:jY)(T:Tab)(n:Nat)(all:List Oper)(st:St)(o:Oper)(e:gJ):Prop:=
 inRange n o.dst=true/\match qZ all st o with
  |some true=>KD H T (look st) st.obj o.dst o.op o.type λr rd u=>Ref r e.r/\rd=e.rd/\u=e.wr
  |some false=>e=⟨.un,[],[]⟩
  |.none=>False
end
end Go.F7
namespace Go.F7
open Go Go.RowKit
def Y9(ops:List Oper)(tr:List gJ)(S:Nat->Bool)(st0:St):Nat->St
 |0=>st0
 |m+1=>match ops[m]?,tr[m]? with
  |some o,some e=>bif S m then gG (Y9 ops tr S st0 m) o e else Y9 ops tr S st0 m
  |_,_=>Y9 ops tr S st0 m
def zO(ops:Y4)(S:mJ):Prop:=∀k o e,ops[k]?=some o->S k=true->e∈o.after->Region.binds .any e=true->S e.on=true
section before
variable{ops:Y4}
def bG3(acc:Array Nat)(i:Nat):∀(es:List Edge)(s:Nat),(es.foldl (λs e=>if Region.binds .any e then s ||| 2^e.on ||| acc.getD e.on 0 else s) s).testBit i=true->
    s.testBit i=true\/∃e∈es,Region.binds .any e=true/\(e.on=i\/(acc.getD e.on 0).testBit i=true)
 |[],s,h=>.inl h
 |e::es,s,h=>by
  simp only[List.foldl_cons]at h;rcases bG3 acc i es _ h with h1|⟨e',he',h2⟩
  .split at h1
   .grind
   .grind
  .grind
def bm6(S:mJ)(hS:zO ops S):∀(l:Y4)(acc:Array Nat),(∀j,l[j]?=ops[acc.size+j]?)->
    (∀k i,(acc.getD k 0).testBit i=true->S k=true->S i=true)->
    ∀k i,((l.foldl (λacc o=>acc.push (o.after.foldl (λs e=>if Region.binds .any e then s ||| 2^e.on ||| acc.getD e.on 0 else s) 0)) acc).getD k 0).testBit i=true->S k=true->S i=true
 |[],acc,_,h=>h
 |o::l,acc,hl,h=>by
  simp only[List.foldl_cons];refine bm6 S hS l _ (λj=>?_) ?_
  .have:=hl (j+1)
   grind
  .intro k i hb hk;rcases yB k acc.size with hlt|heq|hgt
   .rw[bY,Array.getElem?_push,H7 (by omega),<-bY]at hb
    grind
   .subst heq;rw[bY,Array.getElem?_push,I9 rfl]at hb;simp only[Option.getD_some]at hb;rw[<-zL]at hb;rcases bG3 acc i _ _ hb with h1|⟨e,he,hbi,h2⟩
    .simp at h1
    .have ho:ops[acc.size]?=some o:=by have:=hl 0;simpa using this.symm
     have hon:=hS _ o e ho hk (by simpa using he) hbi
     grind
   .grind
def al9{S:mJ}(hS:zO ops S){k i:Nat}(h:((Region.before ops.toArray).getD k 0).testBit i=true)(hk:S k=true):S i=true:=by
 unfold Region.before at h;rw[<-zL]at h;exact bm6 S hS ops #[] (λj=>by simp) (λk i hb _=>by simp at hb) k i h hk
end before
def bU4(ops:pJ)(mask:Nat)(ok:Oper)(ek:gJ):∀(l:List (Oper×gJ))(i0:Nat),ad2 ops mask ok ek i0 l=true->∀j oi ei,l[j]?=some (oi,ei)->mask.testBit (i0+j)=true\/wI ops oi ok ei ek=true
 |[],_,_,j,oi,ei,h=>by simp at h
 |(o,e)::l,i0,h,j,oi,ei,hj=>by
  simp only[ad2]at h;rcases hb:(mask.testBit i0 || wI ops o ok e ek)with _|_
  .grind
  .rw[hb]at h;simp only[H9]at h;rcases j with _|j
   .grind
   .have:=bU4 ops mask ok ek l (i0+1) h j oi ei (by simpa using hj)
    rwa [show i0+1+j=i0+(j+1)from by omega]at this
def bw0(ops:pJ):∀(l done:List (Oper×gJ))(ms:O1),ad1 ops ms done l=true->∀j ok ek,l[j]?=some (ok,ek)->∀i oi ei,i<done.length+j->(done++l)[i]?=some (oi,ei)->
    (ms.getD j 0).testBit i=true\/wI ops oi ok ei ek=true
 |[],_,_,_,j,_,_,h=>by simp at h
 |(o,e)::l,done,ms,h,j,ok,ek,hj=>by
  rcases ms with _|⟨m,ms⟩
  .simp[ad1]at h
  .simp only[ad1]at h;rcases hb:ad2 ops m o e 0 done with _|_
   .grind
   .rw[hb]at h;simp only[H9]at h;intro i oi ei hi hd;rcases j with _|j
    .simp at hj;obtain⟨rfl,rfl⟩:=hj;rw[dX (by omega)]at hd;have:=bU4 ops m o e done 0 hb i oi ei hd
     grind
    .have:=bw0 ops l (done++[(o,e)]) ms h j ok ek (by simpa using hj) i oi ei (by simp;omega) (by simpa using hd)
     grind
def SL{ops:Y4}{tr:nJ}(h:OC ops tr=true){i k:Nat}{oi ok:Oper}{ei ek:gJ}(hik:i<k)(hoi:ops[i]?=some oi)(hok:ops[k]?=some ok)(nR:tr[i]?=some ei)(hek:tr[k]?=some ek):
    ((Region.before ops.toArray).getD k 0).testBit i=true\/wI ops.toArray oi ok ei ek=true:=by
 unfold OC at h;simp only[Z4]at h;have hz:∀j o e,ops[j]?=some o->tr[j]?=some e->(ops.zip tr)[j]?=some (o,e):=λj o e h1 h2=>by rw[List.getElem?_zip_eq_some];exact⟨h1,h2⟩
 have:=bw0 ops.toArray (ops.zip tr) [] _ h.1 k ok ek (hz k ok ek hok hek) i oi ei (by simpa using hik) (by simpa using hz i oi ei hoi nR);rw[RG,kM,<-bY]at this;exact this
def ac4(x:Nat):∀(l:O1),UF x l=true↔x∈l
 |[]=>by simp[UF]
 |y::r=>by
  simp only[UF,lD];rcases hb:Nat.beq x y with _|_
  .have hne:x≠y:=λe=>by subst e;simp at hb
   simp only[G6,ac4 x r,hne,false_or]
  .have:=G5 hb;simp[this]
def YP:∀(l m:O1),YO l m=true->∀x∈l,x∉m
 |[],_,_,x,hx=>by simp at hx
 |y::r,m,h,x,hx=>by
  simp only[YO]at h;rcases hb:UF y m with _|_
  .rw[hb]at h;simp only[G6]at h;simp only[lD]at hx;rcases hx with rfl|hx
   .intro hm;rw[<-ac4]at hm;rw[hm]at hb;cases hb
   .exact YP r m h x hx
  .grind
section
variable{ops:Y4}{tr:nJ}{st0:St}{S:mJ}
def QL(obj:J8):∀(u:FI)(s:Nat),s∉u.map (·.1)->upd obj u s=obj s
 |[],_,_=>rfl
 |(k,x)::r,s,h=>by
  simp only[kP,lD,not_or]at h;simp only[upd];rcases hb:Nat.beq k s with _|_
  .exact QL obj r s h.2
  .exact absurd (G5 hb).symm h.1
theorem aB9(obj D8:J8):∀(u:FI)(s:Nat),s∈u.map (·.1)->upd obj u s=upd D8 u s
 |[],_,h=>by simp at h
 |(k,x)::r,s,h=>by
  simp only[upd];rcases hb:Nat.beq k s with _|_
  .simp only[kP,lD]at h;rcases h with rfl|h
   .simp at hb
   .exact aB9 obj D8 r s h
  .rfl
def OY(env:Nat->SV){d:E8}(r:SV){t:Nat}(h:d≠some t):put env d r t=env t:=by
 rcases d with _|d
 .rfl
 .simp only[put];rcases hb:Nat.beq d t with _|_
  .rfl
  .exact absurd (by rw[G5 hb]) h
def put_eq(env:Nat->SV)(r:SV)(t:Nat):put env (some t) r t=r:=by simp[put]
def cf7{S S':mJ}{t:Nat}:∀(m:Nat),(∀k o,k<m->ops[k]?=some o->o.dst=some t->S k=S' k)->(Y9 ops tr S st0 m).env t=(Y9 ops tr S' st0 m).env t
 |0,_=>rfl
 |m+1,h=>by
  have ih:=cf7 m (λk o hk ho hd=>h k o (by omega) ho hd);simp only[Y9];rcases ho:ops[m]? with _|o
  .exact ih
  .rcases he:tr[m]? with _|e
   .exact ih
   .simp only;by_cases hd:o.dst=some t
    .rw[h m o (by omega) ho hd];cases S' m with
     |true=>simp only[H9,gG,hd,put_eq]
     |false=>exact ih
    .have h1:∀st:St,(gG st o e).env t=st.env t:=λst=>OY _ _ hd
     grind
def cf8{S S':mJ}{s:Nat}:∀(m:Nat),(∀k e,k<m->tr[k]?=some e->s∈e.sites->S k=S' k)->(Y9 ops tr S st0 m).obj s=(Y9 ops tr S' st0 m).obj s
 |0,_=>rfl
 |m+1,h=>by
  have ih:=cf8 m (λk e hk he hs=>h k e (by omega) he hs);simp only[Y9];rcases ho:ops[m]? with _|o
  .exact ih
  .rcases he:tr[m]? with _|e
   .exact ih
   .simp only;by_cases hs:s∈e.sites
    .rw[h m e (by omega) he hs];cases S' m with
     |true=>simp only[H9,gG];exact aB9 _ _ _ _ hs
     |false=>exact ih
    .have h1:∀st:St,(gG st o e).obj s=st.obj s:=λst=>QL _ _ _ hs
     grind
def cf6(i:Nat):∀(m:Nat),i<=m->Y9 ops tr (λk=>decide (k<i)) st0 m=Y9 ops tr (λ_=>true) st0 i:=by
 intro m hm;induction m with
 |zero=>have:i=0:=by omega
        subst this;rfl
 |succ m ih=>
  by_cases h:i=m+1
  .subst h;have:∀q,q<=m+1->Y9 ops tr (λk=>decide (k<m+1)) st0 q=Y9 ops tr (λ_=>true) st0 q:=by
    intro q;induction q with
    |zero=>intro _;rfl
    |succ q ihq=>
     intro hq;simp only[Y9,ihq (by omega)]
     grind
   grind
  .rw[<-ih (by omega)];simp only[Y9]
   grind
end
section
variable{P:Program}{G:aB}{T:Tab}{Z0:Base}{w0:World}{S:U2}{n:Nat}{ops:Y4}{tr:nJ}{st0:St}
def bF8{x:Operand}{o:Oper}{t:Nat}(h:x∈o.op.operands)(hx:x=.tmp t):t∈o.looksAt ops.toArray:=by
 unfold Oper.looksAt;rw[iY];left;rw[List.mem_filterMap];exact⟨x,by simpa using h,by rw[hx]⟩
def bF7{o:Oper}{j:Nat}{want:Bool}{dj:Nat}(hg:o.guard=some (j,want))(hd:(ops[j]?).bind (·.dst)=some dj):dj∈o.looksAt ops.toArray:=by
 unfold Oper.looksAt
 grind
def agree(hlen:tr.length=ops.length)(hc:OC ops tr=true){S:mJ}(hS:zO ops S){i:Nat}{o:Oper}{e:gJ}(hoi:ops[i]?=some o)(nR:tr[i]?=some e)(hi:S i=false)
    (aO2:∀ed∈o.after,Region.binds .any ed=true->S ed.on=true):
    (∀t,t∈o.looksAt ops.toArray->(Y9 ops tr S st0 ops.length).env t=(Y9 ops tr (λ_=>true) st0 i).env t)/\
    (∀s,(s∈e.rd\/s∈e.sites)->(Y9 ops tr S st0 ops.length).obj s=(Y9 ops tr (λ_=>true) st0 i).obj s)/\
    (∀k ok ek,i<k->ops[k]?=some ok->tr[k]?=some ek->S k=true->ok.dst=none\/ok.dst≠o.dst)/\
    (∀k ek s,i<k->tr[k]?=some ek->S k=true->s∈e.sites->s∉ek.sites):=by
 have hlt:i<ops.length:=(P7.1 hoi).1;have hS':zO ops (λk=>S k || decide (k=i)):=by
  intro k o' ed ho' hk hed hb;simp only[Bool.or_eq_true,pU]at hk⊢;rcases hk with hk|rfl
  .exact .inl (hS k o' ed ho' hk hed hb)
  .grind
 have before:∀k,k<i->((Region.before ops.toArray).getD i 0).testBit k=true->S k=true:=by
  intro k hk hb;have:=al9 hS' hb (by simp)
  grind
 have behind:∀k,((Region.before ops.toArray).getD k 0).testBit i=true->S k=false:=by
  intro k hb;cases hk:S k with
  |false=>rfl
  |true=>have:=al9 hS hb hk;rw[hi]at this;cases this
 have get:∀k ok,ops[k]?=some ok->∃ek,tr[k]?=some ek:=λk ok hk=>by
  have:k<tr.length:=by rw[hlen];exact(P7.1 hk).1
  exact⟨_,J9 this⟩
 have get':∀k ek,tr[k]?=some ek->∃ok,ops[k]?=some ok:=λk ek hk=>by
  have:k<ops.length:=by rw[<-hlen];exact(P7.1 hk).1
  exact⟨_,J9 this⟩
 refine⟨λt ht=>?_,λs hs=>?_,?_,?_⟩
 .rw[<-cf6 i ops.length (by omega)];refine cf7 _ λk ok hk hok hd=>?_;have⟨ek,hek⟩:=get k ok hok;rcases yB k i with hlt'|heq|hgt
  .simp only[hlt',pV];rcases SL hc hlt' hok hoi hek nR with h|h
   .grind
   .simp only[wI,Z4]at h;exact absurd ht ((Oper.apart_spec h.1.1).1 t hd)
  .grind
  .have:decide (k<i)=false:=by simp;omega
   rw[this];rcases SL hc hgt hoi hok nR hek with h|h
   .grind
   .simp only[wI,Z4]at h;exact absurd ht ((Oper.apart_spec h.1.1).2.2 t hd)
 .rw[<-cf6 i ops.length (by omega)];refine cf8 _ λk ek hk hek hsk=>?_;have⟨ok,hok⟩:=get' k ek hek;rcases yB k i with hlt'|heq|hgt
  .simp only[hlt',pV];rcases SL hc hlt' hok hoi hek nR with h|h
   .grind
   .simp only[wI,Z4]at h;have:=YP _ _ h.1.2 s hsk
    grind
  .grind
  .have:decide (k<i)=false:=by simp;omega
   rw[this];rcases SL hc hgt hoi hok nR hek with h|h
   .grind
   .simp only[wI,Z4]at h;rcases hs with hs|hs
    .exact absurd hs (YP _ _ h.2 s hsk)
    .have:=YP _ _ h.1.2 s hs
     grind
 .intro k ok ek hgt hok hek hk;rcases SL hc hgt hoi hok nR hek with h|h
  .grind
  .simp only[wI,Z4]at h;cases hd:ok.dst with
   |none=>grind
   |some d=>exact .inr λe=>(Oper.apart_spec h.1.1).2.1 d e.symm hd
 .intro k ek s hgt hek hk hs hsk;have⟨ok,hok⟩:=get' k ek hek;rcases SL hc hgt hoi hok nR hek with h|h
  .grind
  .simp only[wI,Z4]at h;have:=YP _ _ h.1.2 s hs
   grind
def up_add{S:mJ}{i:Nat}{o:Oper}{e:gJ}(hoi:ops[i]?=some o)(nR:tr[i]?=some e)(hi:S i=false)
    (h3:∀k ok ek,i<k->ops[k]?=some ok->tr[k]?=some ek->S k=true->ok.dst=none\/ok.dst≠o.dst)
    (h4:∀k ek s,i<k->tr[k]?=some ek->S k=true->s∈e.sites->s∉ek.sites):∀m,i<m->
    Y9 ops tr (λk=>S k || decide (k=i)) st0 m=gG (Y9 ops tr S st0 m) o e:=by
 have low:∀m,m<=i->Y9 ops tr (λk=>S k || decide (k=i)) st0 m=Y9 ops tr S st0 m:=by
  intro m;induction m with
  |zero=>intro _;rfl
  |succ m ih=>
   intro hm;simp only[Y9,ih (by omega)]
   grind
 intro m;induction m with
 |zero=>grind
 |succ m ih=>
  intro hm;by_cases NJ:m=i
  .subst NJ;simp only[Y9,hoi,nR,low m (N8 _),hi,Bool.false_or,pV,H9,G6]
  .have ih:=ih (by omega);have hd:decide (m=i)=false:=by simp;omega
   simp only[Y9,ih,hd,Bool.or_false];rcases hom:ops[m]? with _|om
   .rfl
   .rcases hem:tr[m]? with _|em
    .rfl
    .simp only;rcases hsm:S m with _|_
     .rfl
     .simp only[H9];have g3:=h3 m om em (by omega) hom hem hsm;have g4:=λs=>h4 m em s (by omega) hem hsm;unfold gG;congr 1
      .funext t;dsimp only;by_cases h1:om.dst=some t
       .have h2:o.dst≠some t:=λe=>by
         grind
        rw[OY _ _ h2,h1,put_eq,put_eq]
       .rw[OY _ _ h1];by_cases h2:o.dst=some t
        .rw[h2,put_eq,put_eq]
        .rw[OY _ _ h2,OY _ _ h2,OY _ _ h1]
      .funext s;dsimp only;by_cases h1:s∈em.sites
       .have h2:s∉e.sites:=λh=>g4 s h h1;rw[QL _ e.wr s h2];exact aB9 _ _ _ _ h1
       .rw[QL _ em.wr s h1];by_cases h2:s∈e.sites
        .exact aB9 _ _ _ _ h2
        .rw[QL _ e.wr s h2,QL _ e.wr s h2,QL _ em.wr s h1]
def cE3{H:jY}{st st':St}{o:Oper}{e:gJ}(h:zS H T n ops st o e)(henv:∀t,t∈o.looksAt ops.toArray->st'.env t=st.env t)
    (kD:∀s,(s∈e.rd\/s∈e.sites)->st'.obj s=st.obj s):zS H T n ops st' o e:=by
 have⟨h1,h2⟩:=h;refine⟨h1,?_⟩;have hg:qZ ops st' o=qZ ops st o:=by
  unfold qZ;cases hgd:o.guard with
  |none=>rfl
  |some jw=>
   have⟨j,want⟩:=jw;simp only;cases hd:(ops[j]?).bind (·.dst)with
   |none=>rfl
   |some dj=>simp only;rw[henv dj (bF7 hgd hd)]
 rw[hg];split at h2
 .refine dF6 h2 (λx hx=>?_) (λr rd u hk s hs=>?_)
  .cases x with
   |tmp t=>exact henv t (bF8 hx rfl)
   |const v=>rfl
   |global g=>rfl
   |func f=>rfl
  .obtain⟨_,rfl,rfl⟩:=hk;exact kD s hs
 .exact h2
 .grind
def cE4(hT:aA P T){Z:Zone}{E:Q8}{st:St}{a:Act}{w:World}{Q:dD}{next:kR}{i:Nat}{o:Oper}{e:gJ}(hI:Inv G Z0 w0 S n Z E st a w)(hoi:ops[i]?=some o)(h:zS (jF P G) T n ops st o e)
    (hn:∀Z' E' a' w',Inv G Z0 w0 S n Z' E' (gG st o e) a' w'->next a' w') {ρ:E8}:Go.wpOpIn (eU ρ) 0 P ops.toArray Q i next a w:=by
 have⟨hd,h⟩:=h;unfold Go.wpOpIn;have hoi':ops.toArray[i]?=some o:=by grind
 simp only[hoi'];have gs:∀b,qZ ops st o=some b->Region.wanted o (yielded ops.toArray a.tmps)=b:=by
  intro b hb;unfold qZ at hb;cases hgd:o.guard with
  |none=>rw[hgd]at hb;simp at hb;subst hb;simp[Region.wanted,hgd]
  |some jw=>
   have⟨j,want⟩:=jw;rw[hgd]at hb;simp only at hb;cases hdj:(ops[j]?).bind (·.dst)with
   |none=>grind
   |some dj=>
    rw[hdj]at hb;simp only at hb;have TP:(ops.toArray[j]?).bind (·.dst)=some dj:=by grind
    have henv:=hI.env dj;split at hb
    .rename_i he;rw[he]at henv;have hv:a.tmps.getD dj undef=.bool true:=by generalize a.tmps.getD dj undef=y at henv;cases henv;rfl
     simp only[aQ]at hb;subst hb;simp only[Region.wanted,hgd,aD1 TP hv];cases want<;>rfl
    .rename_i he;rw[he]at henv;have hv:a.tmps.getD dj undef=.bool false:=by generalize a.tmps.getD dj undef=y at henv;cases henv;rfl
     simp only[aQ]at hb;subst hb;simp only[Region.wanted,hgd,aD1 TP hv]
     grind
    .rename_i he;rw[he]at henv;have hv:a.tmps.getD dj undef=undef:=by generalize a.tmps.getD dj undef=y at henv;cases henv;rfl
     simp only[aQ]at hb;subst hb;simp[Region.wanted,hgd,bi4 TP hv]
    .cases hb
 split at h
 .rename_i hg;rw[I9 (gs _ hg)];refine(c84 hT o Z0 w0 S n Z E st a w _ _ _ hI hd h λr rd u Z' E' x w' hk hI'=>?_) ρ;obtain⟨href,rfl,rfl⟩:=hk;refine hn Z' E' _ w' ?_;have:∀t,O7 Z' w' (upd st.obj e.wr) E' (put st.env o.dst e.r t) ((a.put o.dst x).tmps.getD t undef):=λt=>by
   have ht:=hI'.env t;dsimp only at ht;cases hdst:o.dst with
   |none=>rw[hdst]at ht;exact ht
   |some d=>
    rw[hdst]at ht;by_cases htd:d=t
    .subst htd;rw[put_eq]at ht⊢;exact href.rep ht
    .have hne:some d≠some t:=λh=>htd (jJ h);rw[OY _ _ hne]at ht⊢;exact ht
  exact{ hI' with env:=this }
 .rename_i hg;rw[H7 (by rw[gs _ hg];simp)];subst h;exact⟨λ_ _=>trivial,hn Z E _ w (hI.value (x:=undef) hd .un)⟩
 .exact h.elim
def cA1(hT:aA P T){ρ:E8}{Q:dD}(hlen:tr.length=ops.length)(hc:OC ops tr=true)
    (hE:∀i o e,ops[i]?=some o->tr[i]?=some e->zS (jF P G) T n ops (Y9 ops tr (λ_=>true) st0 i) o e)
    (hQ:∀Z' E' a' w',Inv G Z0 w0 S n Z' E' (Y9 ops tr (λ_=>true) st0 ops.length) a' w'->Q .normal a' w'):
    ∀(fuel:Nat)(listed:Array Bool)(Z:Zone)(E:Q8)(a:Act)(w:World),listed.size=ops.length->zO ops (λk=>listed.getD k false)->
     (listed.toList.filter (!·)).length<=fuel->Inv G Z0 w0 S n Z E (Y9 ops tr (λk=>listed.getD k false) st0 ops.length) a w->wpAnyIn (eU ρ) 0 P .any ops.toArray Q fuel listed a w:=by
 have cL2:BG 0 ops=true:=by unfold OC at hc;simp only[Z4]at hc;exact hc.2
 have edge:∀(l:Y4)(i0:Nat),BG i0 l=true->∀j o,l[j]?=some o->∀e∈o.after,Region.binds .any e=true->e.on<i0+j:=by
  intro l;induction l with
  |nil=>grind
  |cons x l ih=>
   intro i0 h j o hj e he hb;simp only[BG]at h;cases hx:(x.after.all λe=> !Region.binds .any e || Nat.blt e.on i0)with
   |false=>grind
   |true=>
    rw[hx]at h;simp only[H9]at h;cases j with
    |zero=>
     simp at hj;subst hj;rw[Array.all_eq_true']at hx;have:=hx e he;simp only[hb,fG,Bool.false_or]at this;have h2:e.on<i0:=Nat.lt_of_succ_le (by simpa[Nat.blt]using this);omega
    |succ j=>grind
 have done:∀(listed:Array Bool),listed.size=ops.length->Region.ready .any ops.toArray listed=[]->∀k,k<ops.length->listed.getD k false=true:=by
  intro listed hsz hr k;induction k using Nat.strongRecOn with
  |_ k ih=>
   intro hk;cases hl:listed.getD k false with
   |true=>rfl
   |false=>
    exfalso;have ho:ops[k]?=some (ops[k]'hk):=J9 hk;have:k∈Region.ready .any ops.toArray listed:=by
     rw[mem_ready]
     grind
    grind
 have full:∀(listed:Array Bool),listed.size=ops.length->(∀k,k<ops.length->listed.getD k false=true)->Y9 ops tr (λk=>listed.getD k false) st0 ops.length=Y9 ops tr (λ_=>true) st0 ops.length:=by
  intro listed hsz hall;have:∀m,m<=ops.length->Y9 ops tr (λk=>listed.getD k false) st0 m=Y9 ops tr (λ_=>true) st0 m:=by
   intro m;induction m with
   |zero=>intro _;rfl
   |succ m ih=>intro hm;simp only[Y9,ih (by omega),hall m (by omega)]
  grind
 have stop:∀(listed:Array Bool)(Z:Zone)(E:Q8)(a:Act)(w:World),listed.size=ops.length->Region.ready .any ops.toArray listed=[]->Inv G Z0 w0 S n Z E (Y9 ops tr (λk=>listed.getD k false) st0 ops.length) a w->Q .normal a w:=by grind
 intro fuel;induction fuel with
 |zero=>
  intro listed Z E a w hsz hcl hf hI;have hr:Region.ready .any ops.toArray listed=[]:=by
   rw[List.eq_nil_iff_forall_not_mem];intro k hk;rw[mem_ready]at hk;have⟨h1,o,ho,_⟩:=hk;have hltk:∀{o:Oper},ops.toArray[k]?=some o->k<ops.length:=λh=>by grind
   have hlt:k<listed.size:=by grind
   have hmem:(false:Bool)∈listed.toList.filter (!·):=by
    rw[List.mem_filter];refine⟨?_,rfl⟩;rw[bY,lY hlt]at h1
    grind
   grind
  exact⟨hr,stop listed Z E a w hsz hr hI⟩
 |succ fuel ih=>
  intro listed Z E a w hsz hcl hf hI;refine⟨λhr=>stop listed Z E a w hsz hr hI,λi hi=>?_⟩;rw[mem_ready]at hi;have⟨h1,o,ho,hall⟩:=hi;have hoi:ops[i]?=some o:=by grind
  have hlt:i<ops.length:=(P7.1 hoi).1;have nR:tr[i]?=some (tr[i]'(by omega)):=J9 (by omega);have hi0:listed.getD i false=false:=by grind
  have⟨a1,a2,a3,a4⟩:=agree (st0:=st0) hlen hc hcl hoi nR hi0 (λed hed hb=>hall ed hed hb);have hent:=cE3 (hE i o _ hoi nR) a1 a2;refine cE4 hT hI hoi hent λZ' E' a' w' hI'=>?_;have hfun:(λk=>(listed.setIfInBounds i true).getD k false)=(λk=>listed.getD k false || decide (k=i)):=by
   funext k;by_cases hk:k=i
   .subst hk;simp[bY,hsz,hlt]
   .rw[bY,bi6 (by omega),<-bY];simp[hk]
  refine ih (listed.setIfInBounds i true) Z' E' a' w' (by simpa using hsz) ?_ ?_ ?_
  .rw[hfun];intro k o' ed ho' hk hed hb;simp only[Bool.or_eq_true,pU]at hk⊢;rcases hk with hk|rfl
   .exact .inl (hcl k o' ed ho' hk hed hb)
   .grind
  .have hset:∀(l:List Bool)(j:Nat),l[j]?=some false->((l.set j true).filter (!·)).length+1=(l.filter (!·)).length:=by
    intro l;induction l with
    |nil=>grind
    |cons b l ihl=>
     intro j h;cases j with
     |zero=>grind
     |succ j=>grind
   have:=hset listed.toList i (by
    rw[kM,lY (by omega)];rw[bY,lY (by omega)]at hi0
    simpa using hi0)
   grind
  .rw[hfun,up_add hoi nR hi0 a3 a4 ops.length hlt];exact hI'
def de4{g:Bool}{r:SV}{K:SV->Prop}(h:rM g r K):∃r',Ref r r'/\K r':=by
 unfold rM at h;rcases g with _|_
 .exact⟨r,.inl rfl,h⟩
 .simp only[H9]at h;split at h
  .rename_i b;cases b with
   |true=>exact⟨.kt,.inr (.inl ⟨rfl,rfl⟩),h.1 rfl⟩
   |false=>exact⟨.kf,.inr (.inr ⟨rfl,rfl⟩),h.2 rfl⟩
  .exact⟨r,.inl rfl,h⟩
def ci1{H:jY}(all:Y4){K:nJ->St->Prop}:∀(rest:Y4)(i:Nat)(st:St)(acc:nJ),lV H T n all i rest st acc K->
    ∃es:nJ,es.length=rest.length/\(∀j o e,rest[j]?=some o->es[j]?=some e->zS H T n all (Y9 rest es (λ_=>true) st j) o e)/\K (acc.reverse++es) (Y9 rest es (λ_=>true) st rest.length)
 |[],i,st,acc,h=>⟨[],rfl,λj o e h=>by simp at h,by simpa[lV,Y9]using h⟩
 |o::rest,i,st,acc,h=>by
  simp only[lV]at h;replace h:=U8 h;have⟨hd,h⟩:=h;have shift:∀(e:gJ)(es:nJ)(m:Nat),Y9 (o::rest) (e::es) (λ_=>true) st (m+1)=Y9 rest es (λ_=>true) (gG st o e) m:=by
   intro e es m;induction m with
   |zero=>simp[Y9]
   |succ m ih=>
    have h1:Y9 (o::rest) (e::es) (λ_=>true) st (m+1+1)=match(o::rest)[m+1]?,(e::es)[m+1]? with
     |some o',some e'=>bif true then gG (Y9 (o::rest) (e::es) (λ_=>true) st (m+1)) o' e' else Y9 (o::rest) (e::es) (λ_=>true) st (m+1)
     |_,_=>Y9 (o::rest) (e::es) (λ_=>true) st (m+1):=rfl
    rw[h1,ih];simp only[List.getElem?_cons_succ];rfl
  have fin:∀(e:gJ),zS H T n all st o e->lV H T n all (i+1) rest (gG st o e) (e::acc) K->
   ∃es:nJ,es.length=(o::rest).length/\(∀j o' e',(o::rest)[j]?=some o'->es[j]?=some e'->zS H T n all (Y9 (o::rest) es (λ_=>true) st j) o' e')/\K (acc.reverse++es) (Y9 (o::rest) es (λ_=>true) st (o::rest).length):=by
   intro e he hr;have⟨es,h1,h2,h3⟩:=ci1 all rest (i+1) (gG st o e) (e::acc) hr;refine⟨e::es,by simp[h1],λj o' e' hj hje=>?_,?_⟩
   .cases j with
    |zero=>simp at hj hje;subst hj;subst hje;exact he
    |succ j=>grind
   .grind
  have exec:qZ all st o=some true->(fP H T (look st) st.obj o.dst o.op o.type λr rd u=>rM (CJ all i) r λr=>lV H T n all (i+1) rest (gG st o ⟨r,rd,u⟩) (⟨r,rd,u⟩::acc) K)->
   ∃es:nJ,es.length=(o::rest).length/\(∀j o' e',(o::rest)[j]?=some o'->es[j]?=some e'->zS H T n all (Y9 (o::rest) es (λ_=>true) st j) o' e')/\K (acc.reverse++es) (Y9 (o::rest) es (λ_=>true) st (o::rest).length):=by
   intro hg h;have⟨r,rd,u,hall,hk⟩:=dF5 (dF7 h);have⟨r',href,hk'⟩:=de4 hk;exact fin ⟨r',rd,u⟩ ⟨hd,by rw[hg];exact hall _ ⟨href,rfl,rfl⟩⟩ hk'
  have pass:qZ all st o=some false->lV H T n all (i+1) rest (gG st o ⟨.un,[],[]⟩) (⟨.un,[],[]⟩::acc) K->
   ∃es:nJ,es.length=(o::rest).length/\(∀j o' e',(o::rest)[j]?=some o'->es[j]?=some e'->zS H T n all (Y9 (o::rest) es (λ_=>true) st j) o' e')/\K (acc.reverse++es) (Y9 (o::rest) es (λ_=>true) st (o::rest).length):=
   λhg h=>fin ⟨.un,[],[]⟩ ⟨hd,by rw[hg]⟩ h
  rcases hgd:o.guard with _|jw
  .rw[hgd]at h;exact exec (by simp[qZ,hgd]) h
  .have⟨j,want⟩:=jw;rw[hgd]at h;simp only at h;split at h
   .exact h.elim
   .rename_i dj hdj;split at h
    .rename_i he;cases want with
     |true=>exact exec (by simp[qZ,hgd,hdj,he]) h
     |false=>exact pass (by simp[qZ,hgd,hdj,he]) h
    .rename_i he;cases want with
     |true=>exact pass (by simp[qZ,hgd,hdj,he]) h
     |false=>exact exec (by simp[qZ,hgd,hdj,he]) h
    .rename_i he;exact pass (by simp[qZ,hgd,hdj,he]) h
    .exact h.elim
def Inv.drew{Z:Zone}{E:Q8}{st:St}{a:Act}{w:World}(hI:Inv G Z0 w0 S n Z E st a w):Inv G Z0 w0 S n Z E st a { w with drawn:=w.drawn+1 }:=by
 have hk:Keeps Z w Z { w with drawn:=w.drawn+1 }:=λ_ _ h=>⟨h,rfl,λ_ _ h=>h⟩
 exact{ hI with
  below:=hI.below.drew
  defers:=hI.defers.kept ((Kept.refl (λ_=>False) w).drew)
  X5:=hI.X5
  env:=λt=>(hI.env t).keep hk (eY.refl _ _)
  obj:=λt=>(hI.obj t).keep hk (eY.refl _ _) λb _=>⟨rfl,λ_ h=>h⟩ }
def dE8(hT:aA P T)(hm:P.follows .mixedOrders=true){ρ:E8}{Q:dD}{K:St->Prop}(hK:∀Z' E' st' a' w',K st'->Inv G Z0 w0 S n Z' E' st' a' w'->Q .normal a' w'){id:Nat}{ops:pJ}
    {Z:Zone} {E:Q8} {st:St} {a:Act} {w:World} (hI:Inv G Z0 w0 S n Z E st a w) (h:bh3 (jF P G) T n ops.toList st K):(Code.region id ops true).wpIn (eU ρ) 0 P Q a w:=by
 unfold bh3 at h;have⟨es,h1,h2,h3,h4⟩:=ci1 ops.toList ops.toList 0 st [] h;simp only[List.reverse_nil,uS]at h3;refine wpIn_region_any hm ?_;have h0:∀m,Y9 ops.toList es (λk=>(Array.replicate ops.size false).getD k false) st m=st:=by
  intro m;have hf:∀k,(Array.replicate ops.size false).getD k false=false:=λk=>by
   rw[bY,Array.getElem?_replicate]
   grind
  rw[show(λk=>(Array.replicate ops.size false).getD k false)=λ_=>false from funext hf];induction m with
  |zero=>rfl
  |succ m ih=>
   simp only[Y9,G6,ih]
   grind
 have:=cA1 (ρ:=ρ) (ops:=ops.toList) (tr:=es) (st0:=st) hT h1 h3 h2 (λZ' E' a' w' hI'=>hK _ _ _ _ _ h4 hI') ops.size (Array.replicate ops.size false) Z E a { w with drawn:=w.drawn+1 } (by simp)
  (λk o e _ hk=>by
    have hf:(Array.replicate ops.size false).getD k false=false:=by
     rw[bY,Array.getElem?_replicate]
     grind
    simp only[hf]at hk
    cases hk) (Y2 (List.length_filter_le _ _) (by simp)) (by rw[h0];exact hI.drew)
 simpa using this
end
end Go.F7
end
section
namespace Go
abbrev jA:=@World.putObj_heap_other
abbrev zW:=@Nat.le_of_not_lt
end Go
namespace Go.F7
open Go Go.RowKit
section
variable{P:Program}{G:aB}{T:Tab}{Z0:Base}{w0:World}{S:U2}{n:Nat}{Z Z':Zone}{E:Q8}{st:St}{a:Act}{w w':World}
def bU9(w:World)(t e:TypeId)(a:qP)(l c:Nat)(h:P.underlying t=some (.slice e)):(binOp .eql t (.slice a l c) (.slice none 0 0)).run P w=.ok (.bool a.isNone) w:=by
 simp only[binOp];simp[run_equal_slice_nil w t e a l c h]
def c38(hT:aA P T){o:Oper}{q:Bool}{t:TypeId}{x:Operand}{K:SV->Prop}{next:kR}{Q:dD}(hI:Inv G Z0 w0 S n Z E st a w)(hd:inRange n o.dst=true)
    (hq:ac9 o.op=some (q,t,x)) (h:aj8 T st q t x K) (hn:∀r x,K r->Inv G Z0 w0 S n Z E ⟨put st.env o.dst r,st.obj⟩ (a.put o.dst x) w->next (a.put o.dst x) w):Oper.dV P o a w next Q:=by
 unfold aj8 at h;split at h
 .rename_i ds hs;unfold bY4 at hs;split at hs
  .rename_i e _ _ _ _ _ hT';have hu:=(hT _ _ hT').u;simp only at hu;have hx:∃aa l k,a.eval x=.slice aa l k/\(aa=none->ds=[]):=by
    have hx:=aG hI x;split at hs
    .rename_i s g he;rw[he]at hx;split at hs
     .rename_i g' el sz ds' D7 ho;cases hb:Nat.beq g g' with
      |false=>grind
      |true=>
       rw[hb]at hs;have hgg:=G5 hb;subst hgg;simp only[H9,aQ]at hs;subst hs;have kD:=hI.obj s;rw[ho]at kD;obtain⟨xs,mW,hown,_⟩:=kD;generalize a.eval x=y at hx;cases hx with
       |rs _ _ _ hs hg hp'=>
        rw[hp' _ _ _ _ ho]at hown;rcases hown.2 with⟨hy,h0⟩|⟨b,cap,cur,hy,_⟩
        .grind
        .grind
     .cases hs
    .have hsl:∃sz,gV (look st x)=some (sz,ds):=by
      cases hq:gV (look st x)with
      |none=>grind
      |some p=>grind
     obtain⟨sz,hsl⟩:=hsl;have hr:Rep Z w (.sl sz ds) (a.eval x):=by
      generalize look st x=s at hx hsl;unfold gV at hsl;split at hsl
      .simp only[aQ,dR]at hsl;obtain⟨rfl,rfl⟩:=hsl;cases hx with|c _ _ h=>exact h
      .simp only[aQ,dR]at hsl;obtain⟨rfl,rfl⟩:=hsl;cases hx with|ap _ _ _ _ _ h _ _=>exact h
      .cases hsl
     generalize a.eval x=y at hr;cases hr with
     |nil _ aa cap=>grind
     |sl _ _ b o cap f=>exact⟨_,_,_,rfl,λh=>by cases h⟩
   obtain⟨aa,l,k,hx,hnil⟩:=hx;have hb:=h aa.isNone (λh=>hnil (Option.isNone_iff_eq_none.1 h));obtain⟨dst,op,type,pos,after,guard⟩:=o;simp only at hq hd hn;unfold ac9 at hq;split at hq
   .rename_i t' x' z;simp only[aQ,dR]at hq;obtain⟨rfl,rfl,rfl⟩:=hq;refine bP (x:=.bool aa.isNone) ?_ (hn _ _ hb (hI.value hd ?_))
    .simp only[execOp,hx,J6];simp[Act.eval,eqGuard,bU9 (w:=w) t' _ aa l k hu]
    .cases aa.isNone<;>first|exact .kt|exact .kf
   .rename_i t' x' z;simp only[aQ,dR]at hq;obtain⟨rfl,rfl,rfl⟩:=hq;refine bP (x:=.bool (!aa.isNone)) ?_ (hn _ _ hb (hI.value hd ?_))
    .simp only[execOp,hx,J6];simp[Act.eval,eqGuard,run_neq_slice_nil (w:=w) t' _ aa l k hu]
    .cases aa.isNone<;>first|exact .kt|exact .kf
   .cases hq
  .cases hs
 .obtain⟨hlk,ht,hk⟩:=h;have hx:a.eval x=.slice none 0 0:=by
   have:=aG hI x;rw[hlk]at this;exact mZ this
  split at ht
  rotate_left
  .grind
  rename_i hT';have hu:=(hT _ _ hT').u;simp only at hu;obtain⟨dst,op,type,pos,after,guard⟩:=o;simp only at hq hd hn;unfold ac9 at hq;split at hq
  .simp only[aQ,dR]at hq;obtain⟨rfl,rfl,rfl⟩:=hq;refine bP (x:=.bool true) ?_ (hn _ _ hk (hI.value hd .kt));simp only[execOp,hx,J6];simp[Act.eval,eqGuard,bU9 (w:=w) _ _ none 0 0 hu]
  .simp only[aQ,dR]at hq;obtain⟨rfl,rfl,rfl⟩:=hq;refine bP (x:=.bool false) ?_ (hn _ _ hk (hI.value hd .kf));simp only[execOp,hx,J6];simp[Act.eval,eqGuard,run_neq_slice_nil (w:=w) _ _ none 0 0 hu]
  .cases hq
def aC7(hT:aA P T)(all:Y4){ρ:E8}{Q:dD}{K:St->Prop}(hK:∀Z' E' st' a' w',K st'->Inv G Z0 w0 S n Z' E' st' a' w'->Q .normal a' w'):
    ∀(l:Y4)(Z:Zone)(E:Q8)(st:St)(a:Act)(w:World),Inv G Z0 w0 S n Z E st a w->wpOps (jF P G) T n all l st K->wpListIn (eU ρ) 0 P all.toArray Q l a w
 |[],Z,E,st,a,w,hI,h=>hK _ _ _ _ _ h hI
 |o::rest,Z,E,st,a,w,hI,h=>by
  simp only[wpOps]at h;replace h:=U8 h;obtain⟨hd,h⟩:=h;have exec:∀(st:St),Inv G Z0 w0 S n Z E st a w->(fP (jF P G) T (look st) st.obj o.dst o.op o.type λr _ u=>wpOps (jF P G) T n all rest ⟨put st.env o.dst r,upd st.obj u⟩ K)->
   Region.wanted o (yielded all.toArray a.tmps)=true->wpListIn (eU ρ) 0 P all.toArray Q (o::rest) a w:=by
   intro st hI h hw;unfold wpListIn;rw[I9 hw];exact(c83 hT o Z0 w0 S n Z E st a w _ _ _ hI hd h λr _ u Z' E' x w' hk hI'=>aC7 hT all hK rest Z' E' _ _ w' hI' hk) ρ
  have pass:∀(st:St),Inv G Z0 w0 S n Z E st a w->wpOps (jF P G) T n all rest ⟨put st.env o.dst .un,st.obj⟩ K->Region.wanted o (yielded all.toArray a.tmps)=false->wpListIn (eU ρ) 0 P all.toArray Q (o::rest) a w:=by
   intro st hI h hw;unfold wpListIn;rw[H7 (by simp[hw])];exact⟨λ_ _=>trivial,aC7 hT all hK rest Z E _ _ w (hI.value (x:=undef) hd .un) h⟩
  cases hg:o.guard with
  |none=>
   rw[hg]at h;simp only at h;split at h
   .rename_i q t x hq;unfold wpListIn;rw[I9 (by simp[Region.wanted,hg])];exact(c38 hT hI hd hq h λr x' hk hI'=>aC7 hT all hK rest Z E _ _ w hI' hk) ρ
   .exact exec st hI h (by simp[Region.wanted,hg])
  |some jw=>
   obtain⟨j,want⟩:=jw;rw[hg]at h;simp only at h;split at h
   .exact h.elim
   .rename_i dj hdj;have TP:(all.toArray[j]?).bind (·.dst)=some dj:=by grind
    have wnt:∀b,a.tmps.getD dj undef=.bool b->Region.wanted o (yielded all.toArray a.tmps)=(some b==some want):=λb hb=>by
     simp[Region.wanted,hg,aD1 TP hb]
    have henv:=hI.env dj;split at h
    .rename_i he;rw[he]at henv;have hv:a.tmps.getD dj undef=.bool true:=by generalize a.tmps.getD dj undef=y at henv;cases henv;rfl
     cases want with
     |true=>grind
     |false=>grind
    .rename_i he;rw[he]at henv;have hv:a.tmps.getD dj undef=.bool false:=by generalize a.tmps.getD dj undef=y at henv;cases henv;rfl
     cases want with
     |true=>grind
     |false=>grind
    .rename_i b he;rw[he]at henv;have hv:a.tmps.getD dj undef=.bool b:=mZ henv;cases b with
     |true=>
      have h1:=h.1 rfl;have hI':=hI.know (d:=dj) (r:=.kt) (by rw[hv];exact .kt);cases want with
      |true=>grind
      |false=>grind
     |false=>
      have h1:=h.2 rfl;have hI':=hI.know (d:=dj) (r:=.kf) (by rw[hv];exact .kf);cases want with
      |true=>grind
      |false=>grind
    .rename_i he;rw[he]at henv;have hv:a.tmps.getD dj undef=undef:=by generalize a.tmps.getD dj undef=y at henv;cases henv;rfl
     exact pass st hI h (by simp[Region.wanted,hg,bi4 TP hv])
    .exact h.elim
def bF3{obj D8:J8}{c:CV}{x:Value}(h:iK Z w obj E c x)(hl:IL obj c=true):iK Z w D8 E (ad3 c) x:=by
 cases h with
 |cl h=>have hn:=h.IV;cases c<;>first|exact .cl h|(simp[CV.qA]at hn)
 |rs t g x hs hg h=>
  simp only[IL]at hl;split at hl
  .rename_i g' el sz ds D7 ho;have:=G5 hl;subst this;exact .rs _ _ x hs (aF _) λ_ _ _ _ _=>h _ _ _ _ ho
  .cases hl
 |pr t g off x hs hg h=>
  have:live obj t g:=by
   simp only[IL]at hl;split at hl
   .rename_i g' cs ho;have:=G5 hl;subst this;exact⟨cs,.inl ho⟩
   .rename_i g' cs ho;have:=G5 hl;subst this;exact⟨cs,.inr (.inl ho)⟩
   .rename_i g' cs ho;have:=G5 hl;subst this;exact⟨cs,.inr (.inr ho)⟩
   .cases hl
  exact .pr _ _ _ x hs (aF _) λ_=>h this
 |mr t g x hs hg h=>
  simp only[IL]at hl;split at hl
  .rename_i g' es ho;have:=G5 hl;subst this;exact .mr _ _ x hs (aF _) λ_ _=>h _ ho
  .cases hl
 |bp T f x hs=>exact .bp T f x hs
def bI9{obj D8:J8}{c:CV}{x:Value}(h:Z5 Z w obj E c x)(hl:aS0 obj c=true):Z5 Z w D8 E (CZ c) x:=by
 cases h with
 |one h=>
  by_cases hf:∃f caps,c=.fr f caps
  .obtain⟨f,caps,rfl⟩:=hf;cases h with|cl h=>cases h
  .have e1:aS0 obj c=IL obj c:=by cases c<;>first|rfl|exact absurd ⟨_,_,rfl⟩ hf
   have e2:CZ c=ad3 c:=by cases c<;>first|rfl|exact absurd ⟨_,_,rfl⟩ hf
   rw[e1]at hl;rw[e2];exact .one (bF3 h hl)
 |fr f caps vs hlen h=>
  refine .fr f _ vs (by simpa using hlen) λi c x h1 h2=>?_;rw[P9]at h1;cases hk:caps[i]? with
  |none=>grind
  |some c0=>rw[hk]at h1;simp at h1;subst h1;exact bF3 (h i c0 x hk h2) (yH (show caps.all (IL obj)=true from hl) hk)
def c44{c:CV}{T:Nat}{f:Bool}(h:CZ c=.bp T f):c=.bp T f:=by
 cases c<;>simp[CZ,ad3]at h⊢<;>exact h
theorem bI8(c:CV):(CZ c).atom=c.atom:=by cases c<;>rfl
def c47{obj:J8}{o:G8}{cs:G9}(h:kF obj o=.var cs\/kF obj o=.ro cs\/kF obj o=.varx cs):∃cs0,o=.var cs0\/o=.ro cs0\/o=.varx cs0:=by
 unfold kF at h;split at h
 .grind
 .grind
 .grind
def c45{obj:J8}{o:G8}{el sz:Nat}{ds:dS}{D7:uX}(h:kF obj o=.arr el sz ds D7):∃oJ,o=.arr el sz ds oJ:=by
 unfold kF at h;split at h
 .grind
 .grind
 .grind
def c50{obj:J8}{o:G8}{el sz:Nat}(h:kF obj o=.tok el sz):o=.tok el sz:=by
 unfold kF at h;split at h
 .grind
 .grind
 .exact h
def c48{obj:J8}{o:G8}{es:uV}(h:kF obj o=.map es):o=.map es:=by
 unfold kF at h;split at h
 .grind
 .grind
 .exact h
def Inv.weak(hI:Inv G Z0 w0 S n Z E st a w){st':St}(hw:Weak st st'):Inv G Z0 w0 S n Z E st' a w:=by
 obtain⟨h1,h2x⟩:=hw;have h2:∀s,st'.obj s=(0,.none)\/st'.obj s=(0,kF st.obj (st.obj s).2):=λs=>by
  rcases h2x s with h|h
  .exact .inl h
  .unfold at1 at h;cases hb:(Nat.blt s PIN || Nat.beq (st.obj s).1 0)with
   |true=>grind
   |false=>grind
 have CB:∀s o,Nat.blt s PIN=false->st'.obj s=(0,o)->o≠.none->st.obj s=(0,(st.obj s).2)/\kF st.obj (st.obj s).2=o:=λs o hs he hne=>by
  rcases h2x s with h|h
  .grind
  .unfold at1 at h;rw[hs,Bool.false_or]at h;cases hb:Nat.beq (st.obj s).1 0 with
   |true=>
    rw[hb]at h;rw[h]at he;exact⟨Prod.ext (G5 hb) rfl,by simpa using he⟩
   |false=>grind
 have hpk:zX Z0.obj Z0.E st'.obj E:=by
  constructor
  .intro t ht hl;refine hI.pin.var t ht ?_;obtain⟨cs,hl⟩:=hl;have:∃o,st'.obj t=(0,o)/\o≠.none/\(o=.var cs\/o=.ro cs\/o=.varx cs):=by grind
   obtain⟨o,q1,q2,q3⟩:=this;obtain⟨q4,q5⟩:=CB t o ht q1 q2;rw[<-q5]at q3;obtain⟨cs0,q6⟩:=c47 q3;refine⟨cs0,?_⟩
   grind
  .intro t el s ht hl;obtain⟨q4,q5⟩:=CB t _ ht hl (by simp);exact hI.pin.tok t el s ht (q4.trans (by rw[c50 q5]))
  .intro t el sz ds D7 ht hl;obtain⟨q4,q5⟩:=CB t _ ht hl (by simp);obtain⟨f0,q6⟩:=c45 q5;exact hI.pin.arr t el sz ds f0 ht (q4.trans (by rw[q6]))
  .intro t es ht hl;obtain⟨q4,q5⟩:=CB t _ ht hl (by simp);exact hI.pin.map t es ht (q4.trans (by rw[c48 q5]))
 have cK4:∀(o:G8)(e:Value)(b:Nat),(kF st.obj o).blk e b->o.blk e b:=by
  intro o e b h;unfold kF at h;split at h
  .grind
  .grind
  .exact h
 have hblk:∀s b,(st'.obj s).2.blk (E s) b->(st.obj s).2.blk (E s) b:=λs b hb=>by
  rcases h2 s with h|h
  .grind
  .rw[h]at hb;exact cK4 _ _ _ hb
 have dS6:∀(s:SV)(x:Value),O7 Z w st.obj E s x->O7 Z w st'.obj E (DC st.obj s) x:=by
  intro s x henv;cases henv with
  |any x=>exact .any x
  |un=>exact .un
  |kt=>exact .c _ _ (.v _)
  |kf=>exact .c _ _ (.v _)
  |c c x h=>exact .c c x h
  |V4 f caps vs=>exact .any _
  |aY cs vs=>exact .any _
  |fC cs vs=>exact .any _
  |ap t' g sz es x hrep hg ht=>
   simp only[DC];split
   .rename_i g' el z ho;cases hb:Nat.beq g g' with
    |true=>
     have:=G5 hb;subst this;exact .ap _ _ _ _ _ hrep (aF _) λfB z' _=>ht _ _ ho
    |false=>exact .c _ _ hrep
   .exact .c _ _ hrep
  |pm t' g off x hs hg hl=>
   simp only[DC];split
   .rename_i g' cs ho;cases hb:Nat.beq g g' with
    |true=>
     have:=G5 hb;subst this;exact .pm _ _ _ _ hs (aF _) λ_=>hl ⟨cs,.inl ho⟩
    |false=>exact .any _
   .rename_i g' cs ho;cases hb:Nat.beq g g' with
    |true=>
     have:=G5 hb;subst this;exact .pm _ _ _ _ hs (aF _) λ_=>hl ⟨cs,.inr (.inl ho)⟩
    |false=>exact .any _
   .rename_i g' cs ho;cases hb:Nat.beq g g' with
    |true=>
     have:=G5 hb;subst this;exact .pm _ _ _ _ hs (aF _) λ_=>hl ⟨cs,.inr (.inr ho)⟩
    |false=>exact .any _
   .exact .any _
  |rs t' g x hs hg hE=>
   simp only[DC];split
   .rename_i g' el sz ds D7 ho;cases hb:Nat.beq g g' with
    |true=>
     have:=G5 hb;subst this;exact .rs _ _ _ hs (aF _) λ_ _ _ _ _=>hE _ _ _ _ ho
    |false=>exact .any _
   .exact .any _
  |mr t' g x hs hg hE=>
   simp only[DC];split
   .rename_i g' es ho;cases hb:Nat.beq g g' with
    |true=>
     have:=G5 hb;subst this;exact .mr _ _ _ hs (aF _) λ_ _=>hE _ ho
    |false=>exact .any _
   .exact .any _
  |pe t' g m off x hg hE=>
   simp only[DC];split
   .rename_i g' el sz ds D7 ho;cases hb:Nat.beq g g' with
    |true=>
     have:=G5 hb;subst this;refine .pe _ _ _ _ _ (aF _) λfB sz' ds' jR he=>?_;have hsz:sz'=sz:=by
      rcases h2 t' with h|h
      .grind
      .rw[h,ho]at he;simp only[dR,true_and]at he;cases D7 with
       |none=>simp only[kF,G8.arr.injEq]at he;exact he.2.1.symm
       |some p=>
        obtain⟨k,cs⟩:=p;simp only[kF]at he;cases hlv:ab9 st.obj cs with
        |true=>grind
        |false=>grind
     grind
    |false=>exact .any _
   .exact .any _
 refine{ hI with pin:=hpk,env:=λt=>?_,obj:=λt=>?_,own:=λt b hb=>hI.own t b (hblk t b hb),apart:=λt t' b hne ha hb=>hI.apart t t' b hne (hblk t b ha) (hblk t' b hb) }
 .rcases h1 t with h|h
  .rw[h];exact .any _
  .rw[h];have henv:=hI.env t;generalize a.tmps.getD t undef=x at henv;generalize st.env t=s at henv;by_cases hf:∃f caps,s=.V4 f caps
   .obtain⟨f,caps,rfl⟩:=hf;cases henv with
    |V4 _ _ vs hf hl hh=>
     refine .V4 f _ vs hf (by simpa using hl) λi c y q1 q2=>?_;rw[P9]at q1;cases hk:caps[i]? with
     |none=>grind
     |some c0=>grind
   .have e2:aT9 st.obj s=DC st.obj s:=by cases s<;>first|rfl|exact absurd ⟨_,_,rfl⟩ hf
    grind
 .have hot:=hI.obj t;rcases h2 t with h|h
  .rw[h];trivial
  .rw[h];show X7 Z w st'.obj E (E t) (kF st.obj (st.obj t).2);cases ho:(st.obj t).2 with
   |none=>trivial
   |spent=>trivial
   |var cs=>rw[ho]at hot;exact hot
   |ro cs=>rw[ho]at hot;exact hot
   |tok el sz=>rw[ho]at hot;exact hot
   |map es=>rw[ho]at hot;exact hot
   |lp l R q=>rw[ho]at hot;exact hot
   |varx cs=>
    rw[ho]at hot;simp only[kF];cases hl:ab9 st.obj cs with
    |false=>trivial
    |true=>
     obtain⟨b,el,arr,he,hh,hs,hc,hz⟩:=hot;refine⟨b,el,arr,he,hh,by simpa using hs,λj c hj=>?_,hz.1,hz.2.same λj T f hj=>?_⟩
     rotate_left
     .rw[P9]at hj;cases hk:cs[j]? with
      |none=>grind
      |some c0=>rw[hk]at hj;simp at hj;rw[c44 hj]
     rw[P9]at hj;cases hcj:cs[j]? with
     |none=>grind
     |some c0=>
      rw[hcj]at hj;simp at hj;subst hj;obtain⟨q1,x,q2,q3⟩:=hc j c0 hcj;exact⟨by rw[bI8];exact q1,x,q2,bI9 q3 (yH hl hcj)⟩
   |arr el sz ds D7=>
    rw[ho]at hot;cases D7 with
    |none=>
     simp only[kF];obtain⟨xs,q1,q2,q3,q4,q5,q6⟩:=hot;refine⟨xs,q1,q2,q3,q4,λi d hi hd j c hj=>?_,q6⟩;obtain⟨r1,u,r2,r3⟩:=q5 i d hi hd j c hj;exact⟨r1,u,r2,.cl (r3.closed (mY (q3.2 i d hd (λ_ _ h=>nomatch h)) hj))⟩
    |some p=>
     obtain⟨m,cs⟩:=p;simp only[kF];cases hl:ab9 st.obj cs with
     |false=>trivial
     |true=>
      obtain⟨xs,q1,q2,q3,q4,q5,q6⟩:=hot;have hcx:∀k,aO ds (some (m,cs.map CZ)) k=if k=m then some (cs.map CZ)else ds[k]?:=λk=>rfl
      have pY:∀k,aO ds (some (m,cs)) k=if k=m then some cs else ds[k]?:=λk=>rfl
      refine⟨xs,q1,q2,⟨λm' d' he=>?_,λi d hd hne=>?_⟩,λi d hi hd=>?_,λi d hi hd j c hj=>?_,q6⟩
      .simp only[aQ,dR]at he;rw[<-he.1];exact q3.1 m cs rfl
      .exact q3.2 i d hd (λm' d'' he=>by
        simp only[aQ,dR]at he;rw[<-he.1]
        exact hne m _ rfl)
      .rw[hcx]at hd;by_cases hk:i=m
       .grind
       .grind
      .rw[hcx]at hd;by_cases hk:i=m
       .rw[I9 hk]at hd;injection hd with hd
        subst hd;rw[P9]at hj;cases hcj:cs[j]? with
        |none=>grind
        |some c0=>
         rw[hcj]at hj;simp at hj;subst hj;obtain⟨r1,u,r2,r3⟩:=q5 i cs hi (by rw[pY,I9 hk]) j c0 hcj;exact⟨by rw[bI8];exact r1,u,r2,bI9 r3 (yH hl hcj)⟩
       .rw[H7 hk]at hd;obtain⟨r1,u,r2,r3⟩:=q5 i d hi (by rw[pY,H7 hk];exact hd) j c hj
        exact⟨r1,u,r2,.cl (r3.closed (mY (q3.2 i d hd (λm' d'' he=>by
         simp only[aQ,dR]at he
         rw[<-he.1];exact hk)) hj))⟩
def ch1{F:Fence}{m:Nat}{c:Code}{Q:dD}(I:Nat->Act->World->Prop)(k:Nat){a:Act}{w:World}(h0:I k a w)
    (round:∀k a w,I k a w->c.wpIn F m P (Exit.then (λa' w'=>∃k',k'<k/\I k' a' w') Q) a w):(Code.loop c).wpIn F m P Q a w:=by
 intro b k0 cs hro hb hr;have key:∀j a w,I j a w->∃e a' w',Q e a' w'/\ArrivesIn (Machine.fenced P F) P (lone (b.atR a (.code c::.inLoop c::k0)) cs w) b k0 cs e a' w':=by
  intro j;induction j using Nat.strongRecOn with
  |_ j ih=>
   intro a w hI;obtain⟨e,a₁,w₁,hq,harr⟩:=round j a w hI b (.inLoop c::k0) cs hro hb hr;cases e with
   |normal=>
    obtain⟨k',hlt,hI₁⟩:=hq;obtain⟨e₂,a₂,w₂,hq₂,harr₂⟩:=ih k' hlt a₁ w₁ hI₁;exact⟨e₂,a₂,w₂,hq₂,.of_steps (StepsIn.trans harr (.one (fenced_calm hb hr rfl) stepR_inLoop)) harr₂⟩
   |exit id=>exact⟨_,a₁,w₁,hq,.pass (x:=.inLoop c) rfl (λ_ _=>.inl (by simp)) harr⟩
   |goto l=>exact⟨_,a₁,w₁,hq,.pass (x:=.inLoop c) rfl (λ_ _=>.inl (by simp)) harr⟩
   |ret=>exact⟨_,a₁,w₁,hq,.pass (x:=.inLoop c) rfl (λ_ _=>.inl (by simp)) harr⟩
   |panic ch=>exact⟨_,a₁,w₁,hq,.pass (x:=.inLoop c) rfl (λ_ _=>.inl (by simp)) harr⟩
   |outgrown=>exact⟨_,a₁,w₁,hq,.pass (x:=.inLoop c) rfl (λ_ _=>.inl (by simp)) harr⟩
 obtain⟨e,a',w',hq,harr⟩:=key k a w h0;exact⟨e,a',w',hq,.of_steps (.one (fenced_calm hb hr rfl) stepR_loop) harr⟩
def bs6{env:Nat->SV}:∀{k:Nat}{l:dG},ap1 env k l->∀{i:Nat}{s:SV},l[i]?=some s->s=.any\/s=env (k+i)
 |_,[],_,_,_,h=>by simp at h
 |k,s0::r,⟨h0,h⟩,i,s,hi=>by
  cases i with
  |zero=>grind
  |succ i=>
   have:=bs6 h (i:=i) (s:=s) (by simpa using hi)
   rwa [show k+1+i=k+(i+1) by omega]at this
def lZ.lt{B:Nat}{w:World}:∀{ds:List Deferred},lZ B w ds->∀d∈ds,d≠{ target:=.collected w.heap.size,args:=#[] }
 |[],_,d,hd=>by simp at hd
 |d0::ds,⟨⟨r,h1,h2,_⟩,h⟩,d,hd=>by
  rcases lD.1 hd with rfl|hd
  .grind
  .exact lZ.lt h d hd
def dd5(hT:aA P T){Q:dD}{K:Exit->St->Prop}{g:Operand}{ps:Array Tmp}{assign body:Code}(hI:Inv G Z0 w0 S n Z E st a w)
    (hK:∀e Z' E' st' a' w',K e st'->Inv G Z0 w0 S n Z' E' st' a' w'->Q e a' w') (h:bh6 (jF P G) n g ps assign body K st):(Code.rangeFunc g ps assign body).wpIn (eU none) 0 P Q a w:=by
 obtain⟨s0,env,f,caps,hg,hlen,hsub,h⟩:=h;have hlen:=G5 hlen;refine wpIn_rangeFunc ?_;intro fn _;obtain⟨R,hR⟩:∃R:Loop,R={ state:=.ready,pending:=none,fn:=fn,tmps:=a.tmps,params:=ps,assign:=assign,body:=body,defers:=w.heap.size }:=⟨_,rfl⟩;have hRt:R.tmps=a.tmps:=by rw[hR]
 obtain⟨τ,off,args,os,r,os',hargs,hos,cL3,Y7,g',b,J,hlp,hkt,hkf⟩:=h (w.heap.size+1) R (by rw[hR]) (by rw[hR]) (by rw[hR]) (by rw[hRt];exact hI.sz);obtain⟨w1,hw1⟩:∃w1,w1=(w.alloc (.deferred (some []))).alloc (.loop R):=⟨_,rfl⟩;have hsz1:w1.heap.size=w.heap.size+2:=by rw[hw1];simp
 have hL1:w1.heap[w.heap.size+1]?=some (.loop R):=by
  rw[hw1];have:=World.alloc_heap_new (w.alloc (.deferred (some []))) (.loop R);rwa [World.size_alloc]at this
 have hD1:w1.heap[w.heap.size]?=some lM:=by
  rw[hw1];exact(Below.heap_alloc _ _ _ (by simp)).trans (World.alloc_heap_new w _)
 have aM1:lF.put R .on=R:=by rw[hR];rfl
 have hk1:Kept S w w1:=by rw[hw1];exact((Kept.refl _ _).alloc hI.xK _).alloc (λk hk=>by have:=hI.xK k hk;simp;omega) _
 have hkp:Keeps Z w Z w1:=by
  rw[hw1];exact(Keeps.alloc hI.X5 _).trans (Keeps.alloc (λb o h=>by have:=hI.X5 b o h;simp;omega) _)
 have hold:∀k,k<w.heap.size->w1.heap[k]?=w.heap[k]?:=λk hk=>by
  rw[hw1];exact(Below.heap_alloc _ _ _ (by simp;omega)).trans (Below.heap_alloc _ _ _ hk)
 let jT:=upd st.obj [(s0,((st.obj s0).1+1,.lp (w.heap.size+1) R .on))]
 have hs1:jT s0=((st.obj s0).1+1,.lp (w.heap.size+1) R .on):=wC _ _ _;have hn1:∀t,t≠s0->jT t=st.obj t:=λt ht=>wB _ _ ht;have hI0:Inv G Z0 w0 S n Z E ⟨put st.env none .any,jT⟩ (a.put none undef) w1:=by
  refine hI.renew (·=s0) (d:=none) (r:=.any) (x:=undef) rfl hk1 hkp (λb o h=>by have:=hI.X5 b o h;omega) (λ_ _ h=>.inl h) (λt ht=>⟨hn1 t ht,rfl⟩) ?_ ?_ ?_ ?_ ?_ (.any _)
  .grind
  .rintro _ t rfl;rw[hs1];exact⟨by rw[aM1];exact hL1,λo hz=>by have:=hI.X5 _ _ hz;omega⟩
  .intro t ht b hb;have hlt:=(hI.obj t).lt hb
   grind
  .grind
  .rintro t rfl b hb;rw[hs1]at hb;simp[G8.blk]at hb;exact hI.fresh (by omega)
 let a1:Act:={ a with defers:={ target:=.collected w.heap.size,args:=#[] }::a.defers }
 have hI1:Inv G Z0 w0 S n Z E ⟨st.env,jT⟩ a1 w1:=
  { hI0 with defers:=⟨⟨w.heap.size,rfl,hD1,hI.size_le,hI.defers.lt⟩,hI.defers.kept hk1⟩ }
 obtain⟨Eo,M,ZV,NG,hback⟩:=br8 (D:=0) (d:=none) hI1 rfl hos Y7;have hgv:=aG hI1 g;have hlk:look ⟨st.env,jT⟩ g=look st g:=by cases g<;>rfl
 rw[hlk]at hgv;have hev:a1.eval g=a.eval g:=by cases g<;>rfl
 rw[hev]at hgv;have hcap:∃cv:H6,a.eval g=.func (.func f) #[] cv.toArray/\caps.length=cv.length/\∀(i:Nat)(s:SV)(x:Value),caps[i]?=some s->cv[i]?=some x->O7 Z w1 jT E s x:=by
  generalize a.eval g=y at hgv;rcases hg with hg|⟨cs,hg,hcs⟩
  .rw[hg]at hgv;cases hgv with
   |V4 _ _ vs _ hl hh=>exact⟨vs,rfl,hl,hh⟩
  .rw[hg]at hgv;subst hcs;cases hgv with
   |c _ _ hr=>
    cases hr with
    |fn _ _ vs hl hh=>
     refine⟨vs,rfl,by simpa using hl,λi s x h1 h2=>?_⟩;rw[P9]at h1;cases hk:cs[i]? with
     |none=>grind
     |some c0=>rw[hk]at h1;simp at h1;subst h1;exact .c _ _ (hh i c0 x hk h2)
 obtain⟨cv,hcv,hcl,hcr⟩:=hcap;obtain⟨hal,hag⟩:=bb9 hargs;obtain⟨⟨ZN,hfn,hnm,hbd⟩,hcall⟩:=cL3;have cL4:O7 Z w1 jT E (.V4 (.yl (w.heap.size+1) R.tmps.toList) env) (.func (.yield (w.heap.size+1)) #[] #[]):=by
  have:=O7.V4 (Z:=Z) (w:=w1) (obj:=jT) (E:=E) (.yl (w.heap.size+1) R.tmps.toList) env R.tmps.toList rfl (by rw[hlen,hRt];simpa using hI.sz.symm) (λi s x h1 h2=>by
   rcases bs6 hsub h1 with rfl|rfl
   .exact .any _
   .have h3:=hI1.env i;rw[X9];have h4:a1.tmps.getD i undef=x:=by
     rw[hRt]at h2;show a.tmps.getD i undef=x;rw[bY,<-kM,h2];rfl
    rw[<-h4];exact h3)
  exact this
 have BX:=hcall Z w1 Eo (.func (.yield (w.heap.size+1)) #[] #[]::cv) ZV hI1.X5 (by rw[hal];simp[hcl]) (λi s x h1 h2=>by
  obtain⟨s1,h3,h4⟩:=hag i s h1;cases i with
  |zero=>
   simp at h3 h2;subst h3;subst h2;exact cL4.tOz M h4
  |succ i=>
   simp at h3 h2
   exact(hcr i s1 x h3 h2).tOz M h4) (λw' hk=>hI1.gs w' (hI1.below.trans (hk.mono NG)))
 have hnm':¬(ZN.name= "runtime.NumGoroutine"):=by grind
 have wX:¬(ZN.body=none):=λe=>by grind
 refine⟨w.heap.size+1,[{ target:=.collected w.heap.size,args:=#[] }],w1,{ target:=.fn (.func f) cv.toArray,args:=#[.func (.yield (w.heap.size+1)) #[] #[]] },w1,f,
  #[.func (.yield (w.heap.size+1)) #[] #[]]++cv.toArray,w1,?_,?_,λ_ _=>trivial,?_,λh=>(nomatch h),?_⟩
 .rw[hw1,hR];exact run_enterLoop_outer _ _ _ _ _
 .simp only[resolve,hcv];simp[go_sem]
 .simp only[invoke,callFunc];simp[Go.program,Sem.run,hfn,hnm',wX,go_sem]
 refine SE.2 ?_;have wW:(#[.func (.yield (w.heap.size+1)) #[] #[]]++cv.toArray:S9)=(.func (.yield (w.heap.size+1)) #[] #[]::cv).toArray:=by grind
 rw[wW];refine BX.mono ?_;rintro e w3 ⟨x,Z',bZ,rfl,hp⟩;obtain⟨E',GV⟩:=hback x Z' w3 bZ hp;have aN3:(upd jT (aZ jT 0 off τ 0 os')) s0=(g',.lp (w.heap.size+1) R (oL b J)):=hlp;have ho3:=GV.obj s0;have aO1:=GV.own s0;have bw8:=GV.apart;simp only at ho3 aO1 bw8;rw[aN3]at ho3 aO1;obtain⟨hL3,hz3⟩:=ho3;have hl3:w.heap.size+1<w3.heap.size:=(X6.1 hL3).1;obtain⟨R3,wV⟩:∃R3,R3=lF.put R (oL b J):=⟨_,rfl⟩;rw[<-wV]at hL3;have hst3:R3.state≠.busy:=by rw[wV];cases b<;>simp[oL,lF.put]
 have hend:=run_endLoop (P:=P) hL3 hst3;have hI4:Inv G Z0 w0 S n Z' E' ⟨put st.env none .any,upd (upd jT (aZ jT 0 off τ 0 os')) [(s0,(g',.spent))]⟩ (a1.put none undef) (w3.putObj (w.heap.size+1) (.loop { R3 with state:=.exhausted })):=by
  have hs4:upd (upd jT (aZ jT 0 off τ 0 os')) [(s0,(g',.spent))] s0=(g',.spent):=wC _ _ _;have hn4:∀t,t≠s0->upd (upd jT (aZ jT 0 off τ 0 os')) [(s0,(g',.spent))] t=upd jT (aZ jT 0 off τ 0 os') t:=λt ht=>wB _ _ ht;have hoth:∀k,k≠w.heap.size+1->(w3.putObj (w.heap.size+1) (.loop { R3 with state:=.exhausted })).heap[k]?=w3.heap[k]?:=λk hk=>jA hk;refine GV.renew (·=s0) (d:=none) (r:=.any) (x:=undef) rfl ?_ ?_ (λb o h=>by have:=GV.X5 b o h;simpa using this) (λ_ _ h=>.inl h) (λt ht=>⟨hn4 t ht,rfl⟩) ?_ ?_ ?_ ?_ ?_ (.any _)
  .refine⟨rfl,rfl,rfl,by simp,λk hk=>hoth k (λe=>aO1 (w.heap.size+1) rfl (e▸hk)),λk hk=>(hoth k (λe=>?_)).trans hk⟩;rw[e,hL3]at hk;exact nomatch hk
  .exact λb o hz=>⟨hz,jM (hoth b (λe=>hz3 o (e▸hz)))⟩
  .rintro t rfl;rw[hs4];exact .inr ⟨by show g'=(upd jT (aZ jT 0 off τ 0 os') t).1;rw[aN3],.inl (.inl rfl)⟩
  .rintro _ t rfl;rw[hs4];trivial
  .intro t ht b' hb;refine⟨hoth b' (λe=>?_),λ_ hz=>hz,?_⟩
   .subst e;exact bw8 t s0 _ ht hb (by rw[aN3]<;>rfl)
   .grind
  .grind
  .grind
 generalize w3.putObj (w.heap.size+1) (.loop { R3 with state:=.exhausted })=w4 at hend hI4;refine⟨R3.pending,w4,hend,?_⟩;cases b with
 |true=>
  have hpn:R3.pending=none:=by rw[wV];rfl
  rw[hpn];exact hK .normal _ _ _ _ _ (hkt rfl) hI4
 |false=>
  have hpn:R3.pending=some J:=by rw[wV];rfl
  rw[hpn];have hj:=hkf rfl;unfold aQ6 at hj;split at hj
  .exact wpIn_ret (hK _ _ _ _ _ _ hj hI4)
  .exact wpIn_exit (hK _ _ _ _ _ _ hj hI4)
  .grind
def nr1{ρ:E8}{a b:Code}(h:ρ=none\/(eF a&&eF b)=true):ρ=none\/eF a=true:=h.imp id λh=>by grind
def UM{ρ:E8}{a b:Code}(h:ρ=none\/(eF a&&eF b)=true):ρ=none\/eF b=true:=h.imp id λh=>by grind
def WU{P:Program}{b:Frame}{a:Act}{k:List Item}{cs:List Frame}{w:World}{c:Code}:step P (lone (b.atR a (.code (.scope c)::k)) cs w)=.next (lone (b.atR a (.code c::.inScope c::k)) cs w):=
 step_lone_go (by simp[stepG,stepG.exec,Frame.atR])
def dt5{P:Program}{b:Frame}{a:Act}{k:List Item}{cs:List Frame}{w:World}{c:Code}:step P (lone (b.atR a (.inScope c::k)) cs w)=.next (lone (b.atR a k) cs w):=
 step_lone_go (by simp[stepG,stepG.exec,Frame.atR])
def dF0{F:Fence}{n:Nat}{P:Program}{Q:dD}{a:Act}{w:World}{c:Code}(h:c.wpIn F n P (λe a w=>match e with|.goto _=>False|e=>Q e a w) a w):(Code.scope c).wpIn F n P Q a w:=by
 intro b k cs hro hb hr;have h0:(lone (b.atR a (.code (.scope c)::k)) cs w).fenced P F:=fenced_calm hb hr rfl;obtain⟨e,a₁,w₁,hq,harr⟩:=h b (.inScope c::k) cs hro hb hr;cases e with
 |normal=>exact⟨.normal,a₁,w₁,hq,.head h0 WU (StepsIn.trans harr (.one (fenced_calm hb hr rfl) dt5))⟩
 |exit id=>
  have hx:exitTo id (.inScope c::k)=exitTo id k:=by simp[exitTo]
  exact⟨.exit id,a₁,w₁,hq,λk' hk=>.head h0 WU (harr.1 k' (by rw[hx];exact hk)),
   λhr' hk=>let ⟨k₁,h1,h2⟩:=harr.2 hr' (by rw[hx];exact hk);⟨k₁,h1,.head h0 WU h2⟩⟩
 |goto l=>grind
 |ret=>exact⟨_,a₁,w₁,hq,.of_steps (.one h0 WU) harr⟩
 |panic ch=>exact⟨_,a₁,w₁,hq,.of_steps (.one h0 WU) harr⟩
 |outgrown=>exact⟨_,a₁,w₁,hq,.of_steps (.one h0 WU) harr⟩
def aC5(hT:aA P T)(hm:P.follows .mixedOrders=true){ρ:E8}(code:Code):(ρ=none\/eF code=true)->∀{Q:dD}{K:Exit->St->Prop}(_:∀e Z' E' st' a' w',K e st'->Inv G Z0 w0 S n Z' E' st' a' w'->Q e a' w')
    (Z:Zone) (E:Q8) (st:St) (a:Act) (w:World),Inv G Z0 w0 S n Z E st a w->eP (jF P G) T n code K st->code.wpIn (eU ρ) 0 P Q a w:=by
 induction code with
 |skip=>intro hρ Q K hK Z E st a w hI h;exact wpIn_skip (hK _ _ _ _ _ _ h hI)
 |region id ops draw=>
  intro hρ Q K hK Z E st a w hI h;simp only[eP]at h;cases draw with
  |true=>exact dE8 hT hm (λZ' E' st' a' w' hk hI'=>hK _ _ _ _ _ _ hk hI') hI h
  |false=>
   simp only[G6]at h;have:=aC7 (ρ:=ρ) (Q:=Q) hT ops.toList (λZ' E' st' a' w' hk hI'=>hK _ _ _ _ _ _ hk hI') ops.toList Z E st a w hI h;refine wpIn_region_list ?_;simpa using this
 |seq x y CG ihy=>
  intro hρ Q K hK Z E st a w hI h;simp only[eP]at h;cases hj:NR x with
  |true=>
   rw[hj]at h;simp only[H9]at h;refine wpIn_seq (CG (nr1 hρ) (λe Z' E' st' a' w' hk hI'=>?_) Z E st a w hI h);cases e with
   |normal=>
    rcases hk with hk|⟨st0,hw,hk⟩
    .exact ihy (UM hρ) hK _ _ _ _ _ hI' hk
    .exact ihy (UM hρ) hK _ _ _ _ _ (hI'.weak hw) hk
   |exit id=>exact hK _ _ _ _ _ _ hk hI'
   |goto l=>exact hK _ _ _ _ _ _ hk hI'
   |ret=>exact hK _ _ _ _ _ _ hk hI'
   |panic ch=>exact hK _ _ _ _ _ _ hk hI'
   |outgrown=>exact hK _ _ _ _ _ _ hk hI'
  |false=>
   rw[hj]at h;simp only[G6]at h;refine wpIn_seq (CG (nr1 hρ) (λe Z' E' st' a' w' hk hI'=>?_) Z E st a w hI h);cases e with
   |normal=>exact ihy (UM hρ) hK _ _ _ _ _ hI' hk
   |exit id=>exact hK _ _ _ _ _ _ hk hI'
   |goto l=>exact hK _ _ _ _ _ _ hk hI'
   |ret=>exact hK _ _ _ _ _ _ hk hI'
   |panic ch=>exact hK _ _ _ _ _ _ hk hI'
   |outgrown=>exact hK _ _ _ _ _ _ hk hI'
 |cond c x y CG ihy=>
  intro hρ Q K hK Z E st a w hI h;simp only[eP]at h;have hc:=aG hI c;split at h
  .rename_i he;rw[he]at hc;have hv:a.eval c=.bool true:=by generalize a.eval c=y at hc;cases hc;rfl
   exact wpIn_cond_true hv (CG (nr1 hρ) hK _ _ _ _ _ hI h)
  .rename_i he;rw[he]at hc;have hv:a.eval c=.bool false:=by generalize a.eval c=y at hc;cases hc;rfl
   exact wpIn_cond_false hv (ihy (UM hρ) hK _ _ _ _ _ hI h)
  .rename_i q he;rw[he]at hc;have hv:a.eval c=.bool q:=mZ hc;cases q with
   |true=>exact wpIn_cond_true hv (CG (nr1 hρ) hK _ _ _ _ _ hI (h.1 rfl))
   |false=>exact wpIn_cond_false hv (ihy (UM hρ) hK _ _ _ _ _ hI (h.2 rfl))
  .exact h.elim
 |block id body ih=>
  intro hρ Q K hK Z E st a w hI h;simp only[eP]at h;refine wpIn_block (ih hρ (λe Z' E' st' a' w' hk hI'=>?_) Z E st a w hI h);cases e with
  |exit j=>
   simp only[Exit.inBlock];cases hb:Nat.beq j id with
   |true=>
    simp only[hb,H9]at hk;rw[I9 (G5 hb)]
    grind
   |false=>
    simp only[hb,G6]at hk;rw[H7 (λe=>by subst e;simp at hb)]
    grind
  |normal=>exact hK _ _ _ _ _ _ hk hI'
  |goto l=>exact hK _ _ _ _ _ _ hk hI'
  |ret=>exact hK _ _ _ _ _ _ hk hI'
  |panic ch=>exact hK _ _ _ _ _ _ hk hI'
  |outgrown=>exact hK _ _ _ _ _ _ hk hI'
 |loop body ih=>
  intro hρ Q K hK Z E st a w hI h;simp only[eP]at h;obtain⟨I,⟨k,st0,hw,hi⟩,hstep⟩:=h;refine ch1 (λk a w=>∃Z E st,I k st/\Inv G Z0 w0 S n Z E st a w) k ⟨Z,E,st0,hi,hI.weak hw⟩ λk a w ⟨Z,E,st,hi,hI⟩=>?_;refine ih hρ (λe Z' E' st' a' w' hk' hI'=>?_) Z E st a w hI (hstep k st hi);cases e with
  |normal=>
   obtain⟨k',PX,hlt,hw3,hi3⟩:=hk';exact⟨k',hlt,Z',E',PX,hi3,hI'.weak hw3⟩
  |exit j=>exact hK _ _ _ _ _ _ hk' hI'
  |goto l=>exact hK _ _ _ _ _ _ hk' hI'
  |ret=>exact hK _ _ _ _ _ _ hk' hI'
  |panic ch=>exact hK _ _ _ _ _ _ hk' hI'
  |outgrown=>exact hK _ _ _ _ _ _ hk' hI'
 |exit id=>intro _ Q K hK Z E st a w hI h;exact wpIn_exit (hK _ _ _ _ _ _ h hI)
 |ret=>intro _ Q K hK Z E st a w hI h;exact wpIn_ret (hK _ _ _ _ _ _ h hI)
 |rangeFunc f ps x y=>
  intro hρ Q K hK Z E st a w hI h;obtain rfl:ρ=none:=hρ.resolve_right (λh=>nomatch h);exact dd5 hT hI hK h
 |scope body ih=>
  intro hρ Q K hK Z E st a w hI h;simp only[eP]at h;refine dF0 (ih hρ (λe Z' E' st' a' w' hk hI'=>?_) Z E st a w hI h);cases e with
  |goto l=>grind
  |normal=>grind
  |exit j=>grind
  |ret=>grind
  |panic ch=>grind
  |outgrown=>grind
 |label l=>intro _ Q K hK Z E st a w hI h;exact wpIn_label (hK _ _ _ _ _ _ h hI)
 |goto l=>intro _ Q K hK Z E st a w hI h;exact h.elim
 |refuse why=>intro _ Q K hK Z E st a w hI h;exact h.elim
def aZ4(hT:aA P T)(hI:Inv G Z0 w0 S n Z E st a w){rv:ResultVar}{c:CV}(h:DV T st rv=some c):
    ∃x,(match rv with|.tmp t=>pure (a.tmps.getD t undef)|.cell y t=>do loadVar t (<-asAddr (a.tmps.getD y undef)):Sem Value).run P w=.ok x w/\Rep Z w c x:=by
 cases rv with
 |tmp t=>exact⟨_,by simp,oD (hI.env t) h⟩
 |cell y t=>
  simp only[DV]at h;split at h
  .rename_i i s g off hti he;split at h
   .rename_i g' cs ho;cases hb:Nat.beq g g' with
    |false=>grind
    |true=>
     rw[hb]at h;simp only[H9]at h;have:=G5 hb;subst this;have henv:=hI.env y;rw[he]at henv;obtain⟨b,_,hx,f,hc⟩:=EK hI (.inl ho) henv;obtain⟨v,hv,hr⟩:=aZ9 (o:=0) (hT _ _ hti) (λj c hj=>by rw[X9];exact hc j c hj) h;refine⟨v,?_,hr⟩;simp only[Instr.loadAt,Instr.sureAddr,J6,U5,O8,X9]at hv;simp only[hx,asAddr,J6,U5,O8,hv]
   .simp at h
  .simp at h
def ae6(hT:aA P T)(hI:Inv G Z0 w0 S n Z E st a w):∀(rs:sH)(cs:G9),kJ T st rs=some cs->
    ∃vs,(rs.mapM λrv=>(match rv with|.tmp t=>pure (a.tmps.getD t undef)|.cell y t=>do loadVar t (<-asAddr (a.tmps.getD y undef)):Sem Value)).run P w=.ok vs w/\U0 Z w cs vs
 |[],cs,h=>by simp[kJ]at h;subst h;exact⟨[],by simp,U0.nil _ _⟩
 |rv::rs,cs,h=>by
  simp only[kJ]at h;split at h
  .rename_i c cs' h1 h2;simp at h;subst h;obtain⟨x,hx,hr⟩:=aZ4 hT hI h1;obtain⟨vs,hvs,hrs⟩:=ae6 hT hI rs cs' h2;refine⟨x::vs,?_,U0.cons hr hrs⟩;simp only[List.mapM_cons,J6,hx,O8,hvs,U5]
  .simp at h
def aZ6(hT:aA P T)(hI:Inv G Z0 w0 S n Z E st a w){fn:Func}{r:CV}(h:ae7 T st fn.results.toList=some r):∃x,(results fn a.tmps).run P w=.ok x w/\Rep Z w r x:=by
 unfold results;rw[Array.mapM_eq_mapM_toList];unfold ae7 at h;split at h
 .rename_i rv hrs;obtain⟨x,hx,hr⟩:=aZ4 hT hI h;refine⟨x,?_,hr⟩;simp only[hrs,List.mapM_cons,List.mapM_nil,J6,Sem.run_map,U5,O8];exact congrArg (λr:Result Value=>((r.andThen λa w'=>Result.ok [a] w').andThen λa w'=>Result.ok a.toArray w').andThen λa w'=>Result.ok (if h:a.size=1 then a[0]else Value.tuple a) w') hx
 .rename_i hne;cases hra:kJ T st fn.results.toList with
  |none=>grind
  |some cs=>
   rw[hra]at h;simp at h;subst h;obtain⟨vs,hvs,hrs⟩:=ae6 hT hI _ _ hra;have hlen:∀(rs:sH)(cs:G9),kJ T st rs=some cs->cs.length=rs.length:=by
    intro rs;induction rs with
    |nil=>intro cs h;simp[kJ]at h;subst h;rfl
    |cons rv rs ih=>
     intro cs h;simp only[kJ]at h
     grind
   have h1:vs.length≠1:=λe=>by
    have:=hlen _ _ hra;rw[hrs.1,e]at this
    match hl:fn.results.toList,this with
    |[x],_=>grind
   refine⟨.tuple vs.toArray,?_,.U6 cs vs hrs.1 hrs.2⟩;simp only[J6,Sem.run_map,U5];refine(congrArg (λr:Result H6=>(r.andThen λa w'=>Result.ok a.toArray w').andThen λa w'=>Result.ok (if h:a.size=1 then a[0]else Value.tuple a) w') hvs).trans ?_;simp only[O8]
   grind
def bC2:∀(args:G9)(vs:H6)(_:U0 Z w args vs)(t:Nat),O7 Z w (λ_=>(0,.none)) E (ar4 args t) (vs.getD t undef)
 |[],vs,_,t=>.any _
 |c::args,[],h,t=>by have:=h.1;simp at this
 |c::args,x::vs,h,0=>.c _ _ h.head
 |c::args,x::vs,h,t+1=>by simpa[ar4]using bC2 args vs h.tail t
end
end Go.F7
namespace Go.F7
open Go Go.RowKit
section
variable{P:Program}{G:aB}{T:Tab}{Z0:Base}{w0:World}{S:U2}{n:Nat}{Z Z':Zone}{E:Q8}{st:St}{a:Act}{w w':World}
def rJ(a:Act)(rv:ResultVar):Sem Value:=match rv with|.tmp t=>pure (a.tmps.getD t undef)|.cell y t=>do loadVar t (<-asAddr (a.tmps.getD y undef))
def jZ(Z:Zone)(obj:J8)(E:Q8):Zone:=λb o=>Z b o\/∃s,(obj s).2.blk (E s) b
def bk4:Keeps Z w (jZ Z st.obj E) w:=λ_ _ hz=>⟨.inl hz,rfl,λ_ _ h=>h⟩
def bk5{ts:O1}:Keeps (Zf Z st.obj E ts) w (jZ Z st.obj E) w:=λ_ _ hz=>⟨hz.imp id λ⟨s,_,h⟩=>⟨s,h⟩,rfl,λ_ _ h=>h⟩
def cr5(hI:Inv G Z0 w0 S n Z E st a w){t g el sz:Nat}{ds:dS}(ho:st.obj t=(g,.arr el sz ds none)):Rep (jZ Z st.obj E) w (.sl sz ds) (E t):=
 (aE7 hI ho (xZ.2 rfl) rfl).keep bk5
def ap6(hI:Inv G Z0 w0 S n Z E st a w){cs cs':G9}(h:GL st.obj cs=some cs'):cs'.length=cs.length/\∀(j:Nat)(c c':CV),cs[j]?=some c->cs'[j]?=some c'->
    (c.atom=true->c'.atom=true)/\∀x,Z5 Z w st.obj E c x->Rep (jZ Z st.obj E) w c' x:=by
 unfold GL at h;cases hf:wS st.obj cs with
 |none=>grind
 |some p=>
  obtain⟨ds,ts⟩:=p;rw[hf]at h;simp at h;subst h;obtain⟨h1,h2⟩:=aL0 hI (us:=ts) hf (λ_ h=>h);refine⟨h1,λj c c' h3 h4=>?_⟩;obtain⟨c0,h5,h6,h7⟩:=h2 j c' h4;rw[h3]at h5;cases h5;exact⟨h6,λx hx=>(h7 x hx).keep bk5⟩
def cr2(hI:Inv G Z0 w0 S n Z E st a w){t g el sz m:Nat}{ds:dS}{cs cs':G9}(ho:st.obj t=(g,.arr el sz ds (some (m,cs))))(hf:GL st.obj cs=some cs'):
    Rep (jZ Z st.obj E) w (.sl sz (ds.set m cs')) (E t):=by
 have hot:=hI.obj t;rw[ho]at hot;obtain⟨xs,hsz,hown,hfoc,hdl,hcl,hz⟩:=hot;have hm:=hfoc.1 m cs rfl;obtain⟨hl,hsp⟩:=ap6 hI hf;have hcx:∀k,aO ds (some (m,cs)) k=if k=m then some cs else ds[k]?:=λk=>rfl
 have by1:cs.length=sz:=hdl m cs hm (by rw[hcx,I9 rfl]);refine PE (m0:=ds.length) hown (by simp) (λi d hd=>?_) (λi j d c h1 h2=>?_) (λb o hb _=>.inr ⟨t,by rw[ho,jK];exact hb⟩)
 .grind
 .by_cases hi:i=m
  .subst hi;rw[List.getElem?_set_self hm]at h1;injection h1 with h1
   subst h1;have hjl:j<cs.length:=by grind
   obtain⟨hat,u,hu,hr⟩:=hcl i cs hm (by rw[hcx,I9 rfl]) j _ (J9 hjl)
   grind
  .rw[List.getElem?_set_ne (Ne.symm hi)]at h1;obtain⟨hat,u,hu,hr⟩:=hcl i d (P7.1 h1).1 (by rw[hcx,H7 hi];exact h1) j c h2
   have hcr:=mY (hfoc.2 i d h1 (λm' d'' he=>by
    simp only[aQ,dR]at he
    rw[<-he.1];exact hi)) h2
   exact⟨hat,u,hu,(hr.closed hcr).keep bk4⟩
def bT1(hT:aA P T)(hI:Inv G Z0 w0 S n Z E st a w){rv:ResultVar}{c:CV}(h:ae8 T st rv c):
    ∃x,(rJ a rv).run P w=.ok x w/\Rep (jZ Z st.obj E) w c x:=by
 have old:DV T st rv=some c->∃x,(rJ a rv).run P w=.ok x w/\Rep (jZ Z st.obj E) w c x:=λh=>by
  obtain⟨x,h1,h2⟩:=aZ4 hT hI h;exact⟨x,by cases rv<;>exact h1,h2.keep bk4⟩
 cases rv with
 |tmp t=>
  have henv:=hI.env t;unfold ae8 at h;simp only at h;split at h
  .rename_i s g he;rw[he]at henv;split at h
   .rename_i g' el sz ds D7 ho;obtain⟨hb,ds',rfl,h⟩:=h;have:=G5 hb;subst this;refine⟨a.tmps.getD t undef,rfl,?_⟩;have hE:a.tmps.getD t undef=E s:=by
     generalize a.tmps.getD t undef=y at henv;cases henv with|rs _ _ _ _ _ hE=>exact(hE _ _ _ _ ho).symm
    rw[hE];cases D7 with
    |none=>simp only at h;subst h;exact cr5 hI ho
    |some p=>
     obtain⟨m,cs⟩:=p;obtain⟨cs',hf,rfl⟩:=h;exact cr2 hI ho hf
   .exact h.elim
  .rename_i cs he;rw[he]at henv;obtain⟨cs',hf,rfl⟩:=h;refine⟨a.tmps.getD t undef,rfl,?_⟩;generalize a.tmps.getD t undef=y at henv;cases henv with
   |aY _ vs hl hr ha=>
    obtain⟨q1,q2⟩:=ap6 hI hf;refine .agg cs' vs (by omega) (λi c v h1 h2=>?_) (λi c h1=>?_)
    .have hil:i<cs.length:=by rw[<-q1];exact(P7.1 h1).1
     exact(q2 i _ c (J9 hil) h1).2 v (hr i _ v (J9 hil) h2)
    .have hil:i<cs.length:=by rw[<-q1];exact(P7.1 h1).1
     exact(q2 i _ c (J9 hil) h1).1 (ha i _ (J9 hil))
  .rename_i s g he;rw[he]at henv;split at h
   .rename_i g' es ho;obtain⟨hb,rfl⟩:=h;have:=G5 hb;subst this;have hf:GL st.obj [.mr s g]=some [.mp es]:=by simp[GL,wS,sW,ho]
    obtain⟨_,q2⟩:=ap6 hI hf;refine⟨a.tmps.getD t undef,rfl,?_⟩;generalize a.tmps.getD t undef=y at henv;cases henv with|mr _ _ _ hs hg hE=>exact(q2 0 _ _ rfl rfl).2 _ (.one (.mr _ _ _ hs hg hE))
   .exact h.elim
  .exact old h
 |cell y t=>
  unfold ae8 at h;simp only at h;split at h
  .rename_i i s g off hti he;have henv:=hI.env y;rw[he]at henv;split at h
   .rename_i g' cs ho;obtain⟨hb,cs',hf,hp⟩:=h;have:=G5 hb;subst this;obtain⟨b,_,hx,f,hc⟩:=aj3 hI ho henv;obtain⟨q1,q2⟩:=ap6 hI hf
    obtain⟨v,hv,hr⟩:=aZ9 (Z:=jZ Z st.obj E) (o:=0) (cs:=cs') (hT _ _ hti) (λj c hj=>by
     have hil:j<cs.length:=by grind
     obtain⟨r1,r2,r3⟩:=hc j _ (J9 hil);obtain⟨s1,s2⟩:=q2 j _ c (J9 hil) hj
     rw[X9];exact⟨r1,s1 r2,s2 _ r3⟩) hp
    refine⟨v,?_,hr⟩;simp only[Instr.loadAt,Instr.sureAddr,J6,U5,O8,X9]at hv;simp only[rJ,hx,asAddr,J6,U5,O8,hv]
   .exact old h
  .exact h.elim
def bT2(hT:aA P T)(hI:Inv G Z0 w0 S n Z E st a w):∀(rs:sH)(cs:G9),ae9 T st rs cs->
    ∃vs,(rs.mapM λrv=>rJ a rv).run P w=.ok vs w/\U0 (jZ Z st.obj E) w cs vs/\cs.length=rs.length
 |[],cs,h=>by simp[ae9]at h;subst h;exact⟨[],by simp,U0.nil _ _,rfl⟩
 |rv::rs,[],h=>by simp[ae9]at h
 |rv::rs,c::cs,h=>by
  obtain⟨x,hx,hr⟩:=bT1 hT hI h.1;obtain⟨vs,hvs,hrs,hl⟩:=bT2 hT hI rs cs h.2;refine⟨x::vs,?_,U0.cons hr hrs,by simp[hl]⟩;simp only[List.mapM_cons,J6,hx,O8,hvs,U5]
theorem bT3(fn:Func)(a:Act):results fn a.tmps=(do
 let vs <-(fn.results.toList.mapM (rJ a))
 pure (if h:vs.toArray.size=1 then vs.toArray[0]else Value.tuple vs.toArray)):=by
 unfold results;rw[Array.mapM_eq_mapM_toList];simp only[map_eq_pure_bind,bind_assoc,pure_bind]
 first|rfl|(congr 1;congr 1;funext rv;cases rv<;>rfl)
def WC{fn:Func}{rv:ResultVar}{x:Value}(hrs:fn.results.toList=[rv])(hx:(rJ a rv).run P w=.ok x w):(results fn a.tmps).run P w=.ok x w:=by
 rw[bT3,hrs];simp[hx]
def aZ5{fn:Func}{vs:H6}(hvs:(fn.results.toList.mapM λrv=>rJ a rv).run P w=.ok vs w)(h1:vs.length≠1):(results fn a.tmps).run P w=.ok (.tuple vs.toArray) w:=by
 rw[bT3];simp only[J6,hvs,O8,U5]
 grind
def bM6{τ:dU}:∀{l:dU}{os:KT},VR st τ l os->os.length=l.length/\∀(j t g:Nat),l[j]?=some (t,g)->∃el sz ds D7 f,os[j]?=some (el,sz,ds,D7)/\RZ τ D7=some f/\st.obj t=(g,.arr el sz ds f)
 |[],os,h=>by simp[VR]at h;subst h;exact⟨rfl,λj t g h=>by simp at h⟩
 |(t0,g0)::l,[],h=>by simp[VR]at h
 |(t0,g0)::l,(el,sz,ds,D7)::os,h=>by
  simp only[VR]at h;obtain⟨h1,h2⟩:=h;obtain⟨q1,q2⟩:=bM6 h2;refine⟨by simp[q1],λj t g hj=>?_⟩;cases j with
  |zero=>grind
  |succ j=>grind
def al6{τ:dU}:∀{cs cs':G9},wJ τ cs=some cs'->cs'.length=cs.length/\∀(j:Nat)(c c':CV),cs[j]?=some c->cs'[j]?=some c'->kT τ c=some c'
 |[],cs',h=>by simp[wJ]at h;subst h;exact⟨rfl,λj c c' h=>by simp at h⟩
 |c0::r,cs',h=>by
  simp only[wJ]at h;split at h
  .rename_i c1 cs1 h1 h2;simp at h;subst h;obtain⟨q1,q2⟩:=al6 h2;refine⟨by simp[q1],λj c c' hj hj'=>?_⟩;cases j with
   |zero=>grind
   |succ j=>grind
  .simp at h
def RY{τ:dU}{c c':CV}(h:kT τ c=some c'):c.qA=false/\(∀j,c=.ow j->j<τ.length)/\(c.atom=c'.atom):=by
 cases c with
 |ow j=>
  simp only[kT]at h;split at h
  .rename_i t g ht;simp at h;subst h;exact⟨rfl,λk e=>by cases e;exact(P7.1 ht).1,rfl⟩
  .simp at h
 |rs t g=>simp[kT]at h
 |pr t g off=>simp[kT]at h
 |mr t g=>simp[kT]at h
 |fr f caps=>simp[kT]at h
 |bp T f=>simp[kT]at h
 |_=>simp only[kT,aQ]at h;subst h;exact⟨rfl,λk e=>(nomatch e),rfl⟩
def bI7:∀{l:O1},nodupB l=true->∀(i j x:Nat),l[i]?=some x->l[j]?=some x->i=j
 |[],_,i,j,x,h,_=>by simp at h
 |y::r,h,i,j,x,hi,hj=>by
  simp only[nodupB]at h;cases hb:r.any (Nat.beq y)with
  |true=>grind
  |false=>
   rw[hb]at h;have hno:∀k,r[k]?≠some y:=λk hk=>by
    have:r.any (Nat.beq y)=true:=List.any_eq_true.2 ⟨y,iZ hk,by simp⟩
    grind
   cases i with
   |zero=>grind
   |succ i=>
    cases j with
    |zero=>grind
    |succ j=>rw[bI7 h i j x (by simpa using hi) (by simpa using hj)]
def dg1(hT:aA P T)(hI:Inv G Z0 w0 S n Z E st a w){fn:Func}{r:CV}{os:KT}(h:bT0 T st fn.results.toList r os):
    ∃x,(results fn a.tmps).run P w=.ok x w/\RN Z (λb=>¬S b) w r os x:=by
 obtain⟨τ,hnd,hos,hr⟩:=h;obtain⟨hol,cN7⟩:=bM6 hos
 let Eo:Nat->Value:=λj=>match τ[j]? with|some (t,_)=>E t|.none=>undef
 have ZQ:∀j t g,τ[j]?=some (t,g)->Eo j=E t:=λj t g h=>by grind
 have hget:∀j,j<os.length->∃t g el sz ds D7 f,τ[j]?=some (t,g)/\os[j]?=some (el,sz,ds,D7)/\RZ τ D7=some f/\st.obj t=(g,.arr el sz ds f):=λj hj=>by
  have hj':j<τ.length:=by omega
  obtain⟨el,sz,ds,D7,f,h1,h2,h3⟩:=cN7 j (τ[j]'hj').1 (τ[j]'hj').2 (J9 hj')
  grind
 have bz6:∀j el sz ds D7,os[j]?=some (el,sz,ds,D7)->fF os j=(0,.arr el sz ds (match D7 with|.none=>.none|some (m,cs)=>some (m,cs.map uF))):=λj el sz ds D7 h=>by
  cases D7 with
  |none=>simp[fF,h]
  |some p=>obtain⟨m,cs⟩:=p;simp[fF,h]
 have hcell:∀(c c':CV)(u:Value),kT τ c=some c'->Z5 Z w st.obj E c' u->Z5 Z w (fF os) Eo (uF c) u:=by
  intro c c' u hb hx;cases c with
  |ow j=>
   simp only[kT]at hb;split at hb
   .rename_i t g ht;simp at hb;subst hb;have hj:j<os.length:=by grind
    obtain⟨t',g',el,sz,ds,D7,f,h1,h2,h3,h4⟩:=hget j hj;rw[ht]at h1;simp at h1;obtain⟨rfl,rfl⟩:=h1;cases hx with
    |one hx=>
     cases hx with
     |cl hx=>cases hx
     |rs _ _ _ hs _ hE=>
      refine .one (.rs j 0 _ hs (aF _) λ_ _ _ _ _=>?_)
      grind
   .simp at hb
  |rs t g=>simp[kT]at hb
  |pr t g off=>simp[kT]at hb
  |mr t g=>simp[kT]at hb
  |fr f caps=>simp[kT]at hb
  |bp T f=>simp[kT]at hb
  |_=>simp only[kT,aQ]at hb;subst hb;exact .cl (hx.closed rfl)
 have kD:∀j,X7 Z w (fF os) Eo (Eo j) (fF os j).2:=by
  intro j;by_cases hj:j<os.length
  .obtain⟨t,g,el,sz,ds,D7,f,h1,h2,h3,h4⟩:=hget j hj;have hot:=hI.obj t;rw[h4]at hot;rw[bz6 j el sz ds D7 h2,ZQ j t g h1];cases D7 with
   |none=>
    simp[RZ]at h3;subst h3;obtain⟨xs,q1,q2,q3,q4,q5,q6⟩:=hot;refine⟨xs,q1,q2,q3,q4,λi d hi hd j c hj=>?_,q6⟩;obtain⟨r1,u,r2,r3⟩:=q5 i d hi hd j c hj;exact⟨r1,u,r2,.cl (r3.closed (mY (q3.2 i d hd (λ_ _ h=>nomatch h)) hj))⟩
   |some p=>
    obtain⟨m,cs⟩:=p;simp only[RZ]at h3;cases hbl:wJ τ cs with
    |none=>grind
    |some cs'=>
     rw[hbl]at h3;simp at h3;subst h3;obtain⟨b1,b2⟩:=al6 hbl;obtain⟨xs,q1,q2,q3,q4,q5,q6⟩:=hot;have hcx:∀k,aO ds (some (m,cs.map uF)) k=if k=m then some (cs.map uF)else ds[k]?:=λk=>rfl
     have pY:∀k,aO ds (some (m,cs')) k=if k=m then some cs' else ds[k]?:=λk=>rfl
     refine⟨xs,q1,q2,⟨λm' d' he=>?_,λi d hd hne=>?_⟩,λi d hi hd=>?_,λi d hi hd j' c hj'=>?_,q6⟩
     .simp only[aQ,dR]at he;rw[<-he.1];exact q3.1 m cs' rfl
     .exact q3.2 i d hd (λm' d'' he=>by
       simp only[aQ,dR]at he;rw[<-he.1]
       exact hne m _ rfl)
     .rw[hcx]at hd;by_cases hk:i=m
      .grind
      .grind
     .rw[hcx]at hd;by_cases hk:i=m
      .rw[I9 hk]at hd;injection hd with hd
       subst hd;rw[P9]at hj';cases hcj:cs[j']? with
       |none=>grind
       |some c0=>
        rw[hcj]at hj';simp at hj';subst hj';have hjl:j'<cs'.length:=by grind
        have hbc:=b2 j' c0 _ hcj (J9 hjl);obtain⟨r1,u,r2,r3⟩:=q5 i cs' hi (by rw[pY,I9 hk]) j' _ (J9 hjl);refine⟨?_,u,r2,hcell c0 _ u hbc r3⟩;rw[<-(RY hbc).2.2]at r1;cases c0<;>first|exact r1|rfl
      .rw[H7 hk]at hd;obtain⟨r1,u,r2,r3⟩:=q5 i d hi (by rw[pY,H7 hk];exact hd) j' c hj'
       exact⟨r1,u,r2,.cl (r3.closed (mY (q3.2 i d hd (λm' d'' he=>by
        simp only[aQ,dR]at he
        rw[<-he.1];exact hk)) hj'))⟩
  .have:fF os j=(0,.none):=by simp[fF,uQ (zW hj)]
   rw[this];trivial
 have hblk:∀j b,(fF os j).2.blk (Eo j) b->∃t g,τ[j]?=some (t,g)/\(st.obj t).2.blk (E t) b:=by
  intro j b hb;by_cases hj:j<os.length
  .grind
  .have:fF os j=(0,.none):=by simp[fF,uQ (zW hj)]
   grind
 have hap:∀j j' b,j≠j'->(fF os j).2.blk (Eo j) b->¬(fF os j').2.blk (Eo j') b:=by
  intro j j' b hne h1 h2;obtain⟨t,g,ht,hb⟩:=hblk j b h1;obtain⟨t',g',ht',hb'⟩:=hblk j' b h2;refine hI.apart t t' b (λe=>hne ?_) hb hb';subst e;exact bI7 hnd j j' t (by rw[P9,ht];rfl) (by rw[P9,ht'];rfl)
 have hsl:∀j,j<os.length->∃a l k,Eo j=.slice a l k:=by
  intro j hj;obtain⟨t,g,el,sz,ds,D7,f,h1,h2,h3,h4⟩:=hget j hj;have hot:=hI.obj t;rw[h4]at hot;obtain⟨xs,_,hown,_⟩:=hot;rw[ZQ j t g h1];rcases hown.2 with⟨he,_⟩|⟨b,cap,cur,he,_⟩<;>exact⟨_,_,_,he⟩
 have hfoc:∀(k el sz:Nat)(ds:dS)(m:Nat)(cs:G9),os[k]?=some (el,sz,ds,some (m,cs))->qB cs=true/\∀(i j:Nat),cs[i]?=some (.ow j)->j<os.length:=by
  intro k el sz ds m cs hk;have hkl:k<os.length:=(P7.1 hk).1;obtain⟨t,g,fB,sz',ds',D7,f,h1,h2,h3,h4⟩:=hget k hkl;rw[hk]at h2;simp at h2;obtain⟨rfl,rfl,rfl,rfl⟩:=h2;simp only[RZ]at h3;cases hbl:wJ τ cs with
  |none=>grind
  |some cs'=>
   obtain⟨b1,b2⟩:=al6 hbl;have hb:∀j c,cs[j]?=some c->∃c',kT τ c=some c':=λj c hj=>by
    have hjl:j<cs'.length:=by rw[b1];exact(P7.1 hj).1
    grind
   refine⟨OE λj c hj=>?_,λi j hi=>?_⟩
   .obtain⟨c',hc'⟩:=hb j c hj;exact(RY hc').1
   .obtain⟨c',hc'⟩:=hb i _ hi;rw[hol];exact(RY hc').2.1 j rfl
 have hfr:∀j b,(fF os j).2.blk (Eo j) b->¬S b:=λj b hb=>by
  by_cases hj:j<os.length
  .obtain⟨t,g,el,sz,ds,D7,f,h1,h2,h3,h4⟩:=hget j hj;rw[bz6 j el sz ds D7 h2,ZQ j t g h1,jK]at hb;exact hI.own t b (by rw[h4,jK];exact hb)
  .have:fF os j=(0,.none):=by unfold fF;rw[uQ (by omega)]
   grind
 have agg:∀(cs ys:G9)(vs:H6),wJ τ cs=some ys->ys.length=vs.length->(∀(i:Nat)(c:CV)(v:Value),ys[i]?=some c->vs[i]?=some v->Z5 Z w st.obj E c v)->(∀(i:Nat)(c:CV),ys[i]?=some c->c.atom=true)->
  RN Z (λb=>¬S b) w (.agg cs) os (.agg vs.toArray):=by
  intro cs ys vs hbl hl hrep hat;obtain⟨b1,b2⟩:=al6 hbl;have hb:∀j c,cs[j]?=some c->∃c',ys[j]?=some c'/\kT τ c=some c':=λj c hj=>by
   have hjl:j<ys.length:=by rw[b1];exact(P7.1 hj).1
   exact⟨_,J9 hjl,b2 j c _ hj (J9 hjl)⟩
  refine⟨Eo,kD,hap,hfr,hsl,hfoc,vs,OE λj c hj=>?_,rfl,by omega,λi c v h1 h2=>?_,λi c h1=>?_,λi j hi=>?_⟩
  .obtain⟨c',_,hc'⟩:=hb j c hj;exact(RY hc').1
  .grind
  .obtain⟨c',hy,hc'⟩:=hb i c h1;rw[(RY hc').2.2];exact hat i c' hy
  .obtain⟨c',_,hc'⟩:=hb i _ hi;rw[hol];exact(RY hc').2.1 j rfl
 split at hr
 .rename_i t j hrs;cases hτ:τ[j]? with
  |none=>grind
  |some p=>
   obtain⟨t',g'⟩:=p;rw[hτ]at hr;simp at hr;have henv:=hI.env t;rw[<-hr]at henv;have hj:j<os.length:=by grind
   obtain⟨t2,g2,el,sz,ds,D7,f,h1,h2,h3,h4⟩:=hget j hj;rw[hτ]at h1;simp at h1;obtain⟨rfl,rfl⟩:=h1;refine⟨a.tmps.getD t undef,WC hrs rfl,Eo,kD,hap,hfr,hsl,hfoc,?_,hj⟩;generalize a.tmps.getD t undef=y at henv;cases henv with
   |rs _ _ _ _ _ hE=>grind
 .rename_i t cs hrs;cases hbl:wJ τ cs with
  |none=>grind
  |some ys=>
   rw[hbl]at hr;simp at hr;have henv:=hI.env t;rw[<-hr]at henv;refine⟨a.tmps.getD t undef,WC hrs rfl,?_⟩;generalize a.tmps.getD t undef=y at henv;cases henv with
   |aY _ vs hl hrep ha=>grind
 .rename_i y t cs hrs;split at hr
  .rename_i i s g off hti he;split at hr
   .rename_i g' ys ho;obtain⟨hb,hr⟩:=hr;have:=G5 hb;subst this;obtain⟨zs,hbl,hp⟩:=hr;have henv:=hI.env y;rw[he]at henv;obtain⟨b,_,hx,f,hc⟩:=aj3 hI ho henv;obtain⟨v,hv,hrep⟩:=bV2 (o:=0) (hT _ _ hti) (λj c hj=>by rw[X9];exact hc j c hj) hp;refine⟨v,WC hrs ?_,?_⟩
    .simp only[Instr.loadAt,Instr.sureAddr,J6,U5,O8,X9]at hv;simp only[rJ,hx,asAddr,J6,U5,O8,hv]
    .simp only[zG]at hrep;cases hn:qB zs with
     |true=>
      rw[hn]at hrep;cases hrep with
      |c _ _ hr=>
       cases hr with
       |agg _ vs hl hr ha=>exact agg cs zs vs hbl hl (λi c v h1 h2=>.cl (hr i c v h1 h2)) ha
     |false=>
      rw[hn]at hrep;cases hrep with
      |aY _ vs hl hr ha=>grind
   .grind
  .grind
 .grind
def X7.aT8{obj:J8}{o:G8}{e:Value}{b:Nat}(h:X7 Z w obj E e o)(hb:o.blk e b):w.heap[b]?≠some lM:=by
 intro hd;cases o with
 |none=>grind
 |spent=>grind
 |var cs=>
  obtain⟨b',el,arr,he,hh,_⟩:=h;rw[he]at hb;simp[G8.blk]at hb;subst hb;rw[hh]at hd;exact nomatch hd
 |ro cs=>
  obtain⟨b',el,arr,he,hh,_⟩:=h;rw[he]at hb;simp[G8.blk]at hb;subst hb;rw[hh]at hd;exact nomatch hd
 |tok el sz=>
  obtain⟨m,xs,hsz,hown,_⟩:=h;rw[be1]at hb;obtain⟨cur,hc⟩:=VT hown hb;rw[hc]at hd;exact nomatch hd
 |varx cs=>
  obtain⟨b',el,arr,he,hh,_⟩:=h;rw[he]at hb;simp[G8.blk]at hb;subst hb;rw[hh]at hd;exact nomatch hd
 |arr el sz ds D7=>
  obtain⟨xs,hsz,hown,_⟩:=h;rw[jK]at hb;obtain⟨cur,hc⟩:=VT hown hb;rw[hc]at hd;exact nomatch hd
 |map es=>
  obtain⟨b',arr,clock,he,hh,_⟩:=h;rw[he]at hb;simp[G8.blk]at hb;subst hb;rw[hh]at hd;exact nomatch hd
 |lp l R q=>
  simp[G8.blk]at hb;subst hb;rw[h.1]at hd;exact nomatch hd
def Keeps.db8{r:Nat}(hD:w.heap[r]?=some lM):Keeps Z w Z (w.putObj r (.deferred none)):=λb o hz=>by
 refine⟨hz,?_⟩;by_cases hb:b=r
 .subst hb;have h2:(w.putObj b (.deferred none)).heap[b]?=some (.deferred none):=World.putObj_heap_same (X6.1 hD).1;refine⟨?_,λes c he=>by rw[hD]at he;exact nomatch he⟩;simp[World.cell?,h2,hD,lM]
 .exact jM (jA hb)
def lZ.put{B r:Nat}:∀{ds:List Deferred},(∀d'∈ds,d'≠{ target:=.collected r,args:=#[] })->lZ B w ds->lZ B (w.putObj r (.deferred none)) ds
 |[],_,_=>trivial
 |d::ds,hne,⟨⟨r',h1,h2,h3,h4⟩,h⟩=>by
  refine⟨⟨r',h1,(jA (λe=>?_)).trans h2,h3,h4⟩,lZ.put (λd' hd'=>hne d' (RH _ hd')) h⟩
  grind
def Inv.shut(hI:Inv G Z0 w0 S n Z E st a w){d:Deferred}{ds:List Deferred}(hd:a.defers=d::ds):∃r,d.target=.collected r/\(Instr.takeDeferred r).run P w=.ok [] (w.putObj r (.deferred none))/\
    Inv G Z0 w0 S n Z E st { a with defers:=ds } (w.putObj r (.deferred none)):=by
 have hdf:=hI.defers;rw[hd]at hdf;obtain⟨⟨r,hr,hD,hB,hne⟩,hds⟩:=hdf;have hoth:∀k,k≠r->(w.putObj r (.deferred none)).heap[k]?=w.heap[k]?:=λk hk=>jA hk;have hk:Keeps Z w Z (w.putObj r (.deferred none)):=.db8 hD;refine⟨r,by rw[hr],run_takeDeferred hD,?_⟩;exact
 { gs:=hI.gs
   slt:=hI.slt
   below:=⟨hI.below.os,hI.below.tape,hI.below.output,by simpa using hI.below.size,λk hk=>(hoth k (λe=>by have:=hI.slt k hk;omega)).trans (hI.below.block k hk),
    λk hk=>(hoth k (λe=>by have:=(X6.1 hk).1;omega)).trans (hI.below.dK k hk)⟩
   defers:=lZ.put hne hds
   sz:=hI.sz
   X5:=λb o h=>by simpa using hI.X5 b o h
   keeps:=hI.keeps.trans hk
   pin:=hI.pin
   iH:=hI.iH
   env:=λt=>(hI.env t).keep hk (eY.refl _ _)
   obj:=λt=>(hI.obj t).keep hk (eY.refl _ _) λb hb=>⟨hoth b (λe=>(hI.obj t).aT8 hb (e▸hD)),λ_ h=>h⟩
   own:=hI.own
   apart:=hI.apart }
def ab8{fn:Func}{R:Ending->World->Prop}:∀(ds:List Deferred)(a:Act)(w:World),a.defers=ds->Inv G Z0 w0 S n Z E st a w->
    (∀w',Inv G Z0 w0 S n Z E st { a with defers:=[] } w'->LeavesIn (eU none) 0 P fn a.tmps R [] .returning w')->LeavesInM (eU none) 0 P fn a.tmps R ds .returning w
 |[],a,w,hd,hI,h=>h w (by have:a={ a with defers:=[] }:=by cases a;simp only at hd;rw[hd]
                          rw[<-this];exact hI)
 |d::ds,a,w,hd,hI,h=>by
  obtain⟨r,h1,h2,h3⟩:=hI.shut (P:=P) hd;exact⟨λe=>(nomatch e),.inl ⟨r,_,h1,h2,ab8 ds { a with defers:=ds } _ rfl h3 h⟩⟩
def cN5(hT:aA P T)(hm:P.follows .mixedOrders=true){f:FuncId}{fn:Func}{code:Code}{args:G9}{r:CV}(hf:P.funcs[f]?=some fn)(hname:(fn.name== "runtime.NumGoroutine")=false)(hb:fn.body=some code)(hn:args.length<=fn.ntmps)
    (h:eP (jF P G) T fn.ntmps code (bS8 T fn.results.toList r) (aa8 args)):Holds P G f args r:=by
 refine⟨⟨fn,hf,hname,by rw[hb];rfl⟩,?_⟩;intro Z w vs hrep hz hgw;refine SE.1 (callsIn_of_wp_marks (F:=eU none) (n:=0) hf hb trivial ?_);have hvl:vs.length<=fn.ntmps:=by rw[<-hrep.1];exact hn
 have hI:Inv G ⟨Z,λ_=>(0,.none),λ_=>undef⟩ w (λk=>k<w.heap.size) fn.ntmps Z (λ_=>undef) (aa8 args) { tmps:=vs.toArray++Array.replicate (fn.ntmps-vs.toArray.size) undef,defers:=[] } w:=
  { gs:=λw' h=>hgw w' h.below
    slt:=λ_ h=>h
    below:=Kept.refl _ _
    defers:=trivial
    sz:=by simp;omega
    X5:=hz
    keeps:=Keeps.refl _ _
    pin:=zX.refl _ _
    iH:=λ_ _ h=>.inl h
    env:=λt=>by
     have hg:(vs.toArray++Array.replicate (fn.ntmps-vs.toArray.size) undef).getD t undef=vs.getD t undef:=by
      rw[bY,Array.getElem?_append]
      grind
     rw[hg];exact bC2 args vs hrep t
    obj:=λt=>trivial
    own:=λt b hb=>by simp[aa8,G8.blk]at hb
    apart:=λt t' b _ hb=>by simp[aa8,G8.blk]at hb }
 refine aC5 hT hm code (.inl rfl) (λe Z' E' st' a' w' hk hI'=>?_) Z _ _ _ w hI h;have fin:∀w',Inv G ⟨Z,λ_=>(0,.none),λ_=>undef⟩ w (λk=>k<w.heap.size) fn.ntmps Z' E' st' { a' with defers:=[] } w'->vT T fn.results.toList r st'->∃v,(results fn a'.tmps).run P w'=.ok v w'/\
  ∃(x:Value) (gU:Zone),Ending.returned v=.returned x/\FC gU (λb=>w.heap.size<=b) w' r x/\(∀b o,Z b o->gU b o)/\(∀b o,gU b o->(Z b o\/w.heap.size<=b)/\b<w'.heap.size)/\Below w.heap.size w w':=by
  intro w' hI';have closed:∀v,(results fn a'.tmps).run P w'=.ok v w'->Rep (jZ Z' st'.obj E') w' r v->∃v,(results fn a'.tmps).run P w'=.ok v w'/\
   ∃(x:Value) (gU:Zone),Ending.returned v=.returned x/\FC gU (λb=>w.heap.size<=b) w' r x/\(∀b o,Z b o->gU b o)/\(∀b o,gU b o->(Z b o\/w.heap.size<=b)/\b<w'.heap.size)/\Below w.heap.size w w':=by
   intro v hv hr;refine⟨v,hv,v,_,rfl,.mk hr,λb o hz=>.inl (hI'.z0 b o hz),λb o hz=>?_,hI'.below.below⟩;rcases hz with hz|⟨s,hs⟩
   .exact⟨(hI'.iH b o hz).imp id zW,hI'.X5 b o hz⟩
   .exact⟨.inr (zW (hI'.own s b hs)),(hI'.obj s).lt hs⟩
  intro hfin;clear hk;unfold vT at hfin;rcases hfin with⟨hp,hres⟩|hres
  .obtain⟨v,hv,hr⟩:=aZ6 hT hI' hres;exact⟨v,hv,v,Z',rfl,.mk hr,hI'.z0,λb o hz=>⟨(hI'.iH b o hz).imp id zW,hI'.X5 b o hz⟩,hI'.below.below⟩
  .split at hres
   .rename_i r os;obtain⟨v,hv,hr⟩:=dg1 hT hI' hres;exact⟨v,hv,v,Z',rfl,hr.fr λ_=>zW,hI'.z0,λb o hz=>⟨(hI'.iH b o hz).imp id zW,hI'.X5 b o hz⟩,hI'.below.below⟩
   .rename_i cs;obtain⟨vs,hvs,hrs,hl⟩:=bT2 hT hI' _ _ hres.1;exact closed _ (aZ5 hvs (by rw[<-hrs.1,hl];exact hres.2)) (.U6 cs vs hrs.1 hrs.2)
   .split at hres
    .rename_i rv hrs;obtain⟨v,hv,hr⟩:=bT1 hT hI' hres;exact closed v (WC hrs hv) hr
    .grind
 cases e with
 |normal=>exact ab8 a'.defers a' w' rfl hI' λw2 hI2=>fin w2 hI2 hk
 |ret=>exact ab8 a'.defers a' w' rfl hI' λw2 hI2=>fin w2 hI2 hk
 |exit id=>exact hk.elim
 |goto l=>exact hk.elim
 |panic ch=>exact hk.elim
 |outgrown=>exact hk.elim
def dz9(P:Program):aA P []:=λt i h=>by simp[Tab.get]at h
def dz8{P:Program}{t:Nat}{i:TI}{r:Tab}(h:O6 P t i)(hr:aA P r):aA P ((t,i)::r):=λt' i' h'=>by
 simp only[Tab.get]at h';cases hb:Nat.beq t t' with
 |true=>
  rw[hb]at h';simp only[H9,aQ]at h';have:=G5 hb
  grind
 |false=>rw[hb]at h';exact hr t' i' h'
end
end Go.F7
namespace Go.F7
open Go Go.RowKit
section
variable{H:jY}{T:Tab}{n:Nat}
def ci0(all:Y4){K K':St->Prop}(hk:∀st,K st->K' st):∀(l:Y4)(st:St),wpOps H T n all l st K->wpOps H T n all l st K'
 |[],st,h=>hk st h
 |o::rest,st,h=>by
  simp only[wpOps]at h⊢;replace h:=U8 h;obtain⟨hd,h⟩:=h;simp only[hd,H9];have go:=λst=>ci0 all hk rest st;have ex:∀st:St,(fP H T (look st) st.obj o.dst o.op o.type λr _ u=>wpOps H T n all rest ⟨put st.env o.dst r,upd st.obj u⟩ K)->(fP H T (look st) st.obj o.dst o.op o.type λr _ u=>wpOps H T n all rest ⟨put st.env o.dst r,upd st.obj u⟩ K'):=
   λst h=>ch8 h λr _ u h=>go _ h
  split at h
  .split at h
   .unfold aj8 at h⊢;split at h
    .exact λb hb=>go _ (h b hb)
    .grind
   .grind
  .rename_i j want _;split at h
   .exact h.elim
   .split at h
    .grind
    .grind
    .rename_i dj _ _ _ _ b _;refine⟨λhb=>?_,λhb=>?_⟩
     .grind
     .grind
    .exact go _ h
    .exact h.elim
def de3{g:Bool}{r:SV}{K K':SV->Prop}(hk:∀r,K r->K' r)(h:rM g r K):rM g r K':=by
 unfold rM at h⊢;cases g with
 |false=>exact hk _ h
 |true=>grind
def ci2(all:Y4){K K':nJ->St->Prop}(hk:∀tr st,K tr st->K' tr st):∀(l:Y4)(i:Nat)(st:St)(tr:nJ),lV H T n all i l st tr K->lV H T n all i l st tr K'
 |[],i,st,tr,h=>hk _ _ h
 |o::rest,i,st,tr,h=>by
  simp only[lV]at h⊢;replace h:=U8 h;obtain⟨hd,h⟩:=h;simp only[hd,H9];have go:=λi st tr=>ci2 all hk rest i st tr;have ex:(fP H T (look st) st.obj o.dst o.op o.type λr rd u=>rM (CJ all i) r λr=>lV H T n all (i+1) rest (gG st o ⟨r,rd,u⟩) (⟨r,rd,u⟩::tr) K)->
   (fP H T (look st) st.obj o.dst o.op o.type λr rd u=>rM (CJ all i) r λr=>lV H T n all (i+1) rest (gG st o ⟨r,rd,u⟩) (⟨r,rd,u⟩::tr) K'):=
   λh=>ch8 h λr rd u h=>de3 (λr h=>go _ _ _ h) h
  split at h
  .exact ex h
  .rename_i j want _;split at h
   .exact h.elim
   .grind
def aC4(code:Code):∀{K K':Exit->St->Prop}(_:∀e st,K e st->K' e st)(st:St),eP H T n code K st->eP H T n code K' st:=by
 induction code with
 |skip=>intro K K' hk st h;exact hk _ _ h
 |region id ops draw=>
  intro K K' hk st h;simp only[eP]at h⊢;cases draw with
  |true=>exact ci2 ops.toList (λtr st h=>⟨h.1,hk _ _ h.2⟩) _ _ _ _ h
  |false=>exact ci0 _ (λst h=>hk _ _ h) _ _ h
 |seq a b iha ihb=>
  intro K K' hk st h;simp only[eP]at h⊢;cases hj:NR a with
  |true=>grind
  |false=>grind
 |cond c a b iha ihb=>
  intro K K' hk st h;simp only[eP]at h⊢
  grind
 |block id body ih=>
  intro K K' hk st h;simp only[eP]at h⊢;refine ih (λe st h=>?_) st h;cases e with
  |exit j=>grind
  |_=>grind
 |loop body ih=>
  intro K K' hk st h;simp only[eP]at h⊢;obtain⟨I,h0,hs⟩:=h;refine⟨I,h0,λk st1 hi=>ih (λe st h=>?_) st1 (hs k st1 hi)⟩;cases e with
  |normal=>exact h
  |_=>grind
 |exit id=>intro K K' hk st h;exact hk _ _ h
 |label l=>intro K K' hk st h;exact hk _ _ h
 |scope body ih=>
  intro K K' hk st h;simp only[eP]at h⊢;refine ih (λe st h=>?_) st h;cases e with
  |goto l=>exact h
  |_=>grind
 |ret=>intro K K' hk st h;exact hk _ _ h
 |rangeFunc g ps x y=>
  intro K K' hk st h;obtain⟨s0,env,f,caps,h1,h2,h3,h⟩:=h;refine⟨s0,env,f,caps,h1,h2,h3,λl R q1 q2 q3 q4=>?_⟩;obtain⟨τ,off,args,os,r,os',k1,k2,k3,k4,g',b,J,k5,k6,k7⟩:=h l R q1 q2 q3 q4;refine⟨τ,off,args,os,r,os',k1,k2,k3,k4,g',b,J,k5,λhb=>hk _ _ (k6 hb),λhb=>?_⟩;have:=k7 hb;unfold aQ6 at this⊢
  grind
 |_=>intro K K' hk st h;exact h.elim
def cX7{α:Type}(mk:α->FD)(mo:α->Y0)(I:α->Prop)(μ:α->Nat)(x0:α){body:Code}{K:Exit->St->Prop}{st:St}(h0:I x0)(he:aX st (mk x0))(ho:KR st (mo x0))
    (step:∀x,I x->eP H T n body (λe st2=>match e with|.normal=>∃x',μ x'<μ x/\I x'/\aX st2 (mk x')/\KR st2 (mo x')|e=>K e st2) ⟨xC (mk x),mkObj (mo x)⟩):
    eP H T n (.loop body) K st:=by
 refine⟨λk st=>∃x,I x/\k=μ x/\st=⟨xC (mk x),mkObj (mo x)⟩,⟨μ x0,_,bg6 he ho,x0,h0,rfl,rfl⟩,?_⟩;rintro k st ⟨x,hx,rfl,rfl⟩;refine aC4 body (λe st2 h=>?_) _ (step x hx);cases e with
 |normal=>
  obtain⟨x',hlt,hx',he',ho'⟩:=h;exact⟨μ x',_,hlt,bg6 he' ho',x',hx',rfl,rfl⟩
 |_=>exact h
end
def aO0{P:Program}{G:aB}{f:FuncId}{args:G9}{r:CV}(hb:rZ P f)(h:∀(Z:Zone)(w:World)(vs:H6),U0 Z w args vs->(∀b o,Z b o->b<w.heap.size)->G w->
    Calls P f vs.toArray w λe w'=>∃(x:Value) (Z':Zone),e=.returned x/\Rep Z' w' r x/\(∀b o,Z b o->Z' b o)/\
     (∀b o,Z' b o->(Z b o\/w.heap.size<=b)/\b<w'.heap.size)/\Below w.heap.size w w'):Holds P G f args r:=
 ⟨hb,λZ w vs h1 h2 h3=>(h Z w vs h1 h2 (h3 w (Below.refl _ _))).mono λ_ _ ⟨x,Z',q1,q2,q3⟩=>⟨x,Z',q1,.mk q2,q3⟩⟩
def cN6{P:Program}{G:aB}(hG:∀w w',G w->Below w.heap.size w w'->G w'){f:FuncId}{args:G9}{r:CV}(h:Holds P G f args r)(hp:r.pure=true):rZ P f/\∀(Z:Zone)(w:World)(vs:H6),U0 Z w args vs->(∀b o,Z b o->b<w.heap.size)->G w->
    Calls P f vs.toArray w λe w'=>∃(x:Value) (Z':Zone),e=.returned x/\Rep Z' w' r x/\(∀b o,Z b o->Z' b o)/\
     (∀b o,Z' b o->(Z b o\/w.heap.size<=b)/\b<w'.heap.size)/\Below w.heap.size w w':=
 ⟨h.1,λZ w vs h1 h2 h3=>(h.2 Z w vs h1 h2 (hG w · h3)).mono λ_ _ ⟨x,Z',q1,q2,q3⟩=>⟨x,Z',q1,q2.pure hp,q3⟩⟩
end Go.F7
namespace Go.F7
open Go Go.RowKit
section
variable(H:jY)(T:Tab)(n:Nat)
def ci6(all:List Oper)(o:Oper)(ih:St->(St->Prop)->Prop)(st:St)(K:St->Prop):Prop:=
    bif inRange n o.dst then
     match o.guard with
     |.none=>match ac9 o.op with
      |some (q,t,x)=>aj8 T st q t x λr=>ih ⟨put st.env o.dst r,st.obj⟩ K
      |.none=>fP H T (look st) st.obj o.dst o.op o.type λr _ u=>ih ⟨put st.env o.dst r,upd st.obj u⟩ K
     |some (j,want)=>match(all[j]?).bind (·.dst)with
      |.none=>False
      |some dj=>match st.env dj with
       |.kt=>bif want then fP H T (look st) st.obj o.dst o.op o.type λr _ u=>ih ⟨put st.env o.dst r,upd st.obj u⟩ K
         else ih ⟨put st.env o.dst .un,st.obj⟩ K
       |.kf=>bif want then ih ⟨put st.env o.dst .un,st.obj⟩ K
         else fP H T (look st) st.obj o.dst o.op o.type λr _ u=>ih ⟨put st.env o.dst r,upd st.obj u⟩ K
       |.c (.v (.bool b))=>
         (b=true->bif want then fP H T (look ⟨put st.env (some dj) .kt,st.obj⟩) st.obj o.dst o.op o.type λr _ u=>ih ⟨put (put st.env (some dj) .kt) o.dst r,upd st.obj u⟩ K
           else ih ⟨put (put st.env (some dj) .kt) o.dst .un,st.obj⟩ K)/\
         (b=false->bif want then ih ⟨put (put st.env (some dj) .kf) o.dst .un,st.obj⟩ K
           else fP H T (look ⟨put st.env (some dj) .kf,st.obj⟩) st.obj o.dst o.op o.type λr _ u=>ih ⟨put (put st.env (some dj) .kf) o.dst r,upd st.obj u⟩ K)
       |.un=>ih ⟨put st.env o.dst .un,st.obj⟩ K
       |_=>False
    else False
def aC8(all l:Y4):St->(St->Prop)->Prop:=
 List.rec (motive:=λ_=>St->(St->Prop)->Prop) (λst K=>K st) (λo _ ih=>ci6 H T n all o ih) l
def ci8(all:List Oper)(o:Oper)(ih:Nat->St->List gJ->(List gJ->St->Prop)->Prop)(i:Nat)(st:St)(tr:List gJ)(K:List gJ->St->Prop):Prop:=
    bif inRange n o.dst then
     match o.guard with
     |.none=>fP H T (look st) st.obj o.dst o.op o.type λr rd u=>rM (CJ all i) r λr=>ih (i+1) (gG st o ⟨r,rd,u⟩) (⟨r,rd,u⟩::tr) K
     |some (j,want)=>match(all[j]?).bind (·.dst)with
      |.none=>False
      |some dj=>match st.env dj with
       |.kt=>bif want then fP H T (look st) st.obj o.dst o.op o.type λr rd u=>rM (CJ all i) r λr=>ih (i+1) (gG st o ⟨r,rd,u⟩) (⟨r,rd,u⟩::tr) K
         else ih (i+1) (gG st o ⟨.un,[],[]⟩) (⟨.un,[],[]⟩::tr) K
       |.kf=>bif want then ih (i+1) (gG st o ⟨.un,[],[]⟩) (⟨.un,[],[]⟩::tr) K
         else fP H T (look st) st.obj o.dst o.op o.type λr rd u=>rM (CJ all i) r λr=>ih (i+1) (gG st o ⟨r,rd,u⟩) (⟨r,rd,u⟩::tr) K
       |.un=>ih (i+1) (gG st o ⟨.un,[],[]⟩) (⟨.un,[],[]⟩::tr) K
       |_=>False
    else False
def bh8(all l:Y4):Nat->St->nJ->(nJ->St->Prop)->Prop:=
 List.rec (motive:=λ_=>Nat->St->nJ->(nJ->St->Prop)->Prop) (λ_ st tr K=>K tr.reverse st) (λo _ ih=>ci8 H T n all o ih) l
def bh7(ops:Y4)(st:St)(K:St->Prop):Prop:=
 bh8 H T n ops ops 0 st [] λtr st'=>OC ops tr=true/\K st'
theorem ci7(all:Y4):∀(l:Y4),aC8 H T n all l=λst K=>wpOps H T n all l st K
 |[]=>rfl
 |o::rest=>by
  have ih:=ci7 all rest;show ci6 H T n all o (aC8 H T n all rest)=_;rw[ih];rfl
theorem ci9(all:Y4):∀(l:Y4),bh8 H T n all l=λi st tr K=>lV H T n all i l st tr K
 |[]=>rfl
 |o::rest=>by
  have ih:=ci9 all rest;show ci8 H T n all o (bh8 H T n all rest)=_;rw[ih];rfl
def a05(b:(Exit->St->Prop)->St->Prop)(K:Exit->St->Prop)(e:Exit)(st:St):Prop:=match e with|.normal=>b K st|e=>K e st
def bn2(id:Nat)(K:Exit->St->Prop)(e:Exit)(st:St):Prop:=match e with|.exit j=>bif Nat.beq j id then K .normal st else K e st|e=>K e st
def bW3(K:Exit->St->Prop)(e:Exit)(st:St):Prop:=match e with|.goto _=>False|e=>K e st
def bp9(s:SV)(a b:(Exit->St->Prop)->St->Prop)(K:Exit->St->Prop)(st:St):Prop:=match s with
    |.kt=>a K st
    |.kf=>b K st
    |.c (.v (.bool q))=>(q=true->a K st)/\(q=false->b K st)
    |_=>False
def cX5(I:Nat->St->Prop)(k:Nat)(K:Exit->St->Prop)(e:Exit)(st2:St):Prop:=match e with|.normal=>∃k' PX,k'<k/\Weak st2 PX/\I k' PX|e=>K e st2
inductive aS4(H':jY)(T':Tab)(n':Nat)(c:Code)(body:(Exit->St->Prop)->St->Prop)(K:Exit->St->Prop)(st:St):Prop
 |mk (h:∃I:Nat->St->Prop,(∃k st0,Weak st st0/\I k st0)/\∀k st1,I k st1->body (cX5 I k K) st1)
def dl7(b:(Exit->St->Prop)->St->Prop)(K:Exit->St->Prop)(e:Exit)(st:St):Prop:=match e with|.normal=>b K st\/∃st0,Weak st st0/\b K st0|e=>K e st
inductive ar8(c d:Code)(a b:(Exit->St->Prop)->St->Prop)(K:Exit->St->Prop)(st:St):Prop
 |mk (h:a (dl7 b K) st)
inductive aw0(H':jY)(n':Nat)(g:Operand)(ps:Array Tmp)(x y:Code)(K:Exit->St->Prop)(st:St):Prop
 |mk (h:bh6 H' n' g ps x y K st)
def dW(code:Code):(Exit->St->Prop)->St->Prop:=
 Code.rec (motive:=λ_=>(Exit->St->Prop)->St->Prop)
  (λK st=>K .normal st)
  (λ_ ops draw K st=>bif draw then bh7 H T n ops.toList st (K .normal)else aC8 H T n ops.toList ops.toList st (K .normal))
  (λx y a b K st=>bif NR x then ar8 x y a b K st else a (a05 b K) st)
  (λc _ _ a b K st=>bp9 (look st c) a b K st)
  (λid _ body K st=>body (bn2 id K) st)
  (λc body K st=>aS4 H T n c body K st)
  (λg ps x y _ _ K st=>aw0 H n g ps x y K st)
  (λid K st=>K (.exit id) st)
  (λ_ body K st=>body (bW3 K) st)
  (λ_ K st=>K .normal st)
  (λ_ _ _=>False)
  (λK st=>K .ret st)
  (λ_ _ _=>False)
  code
theorem oQ:∀(code:Code),dW H T n code=λK st=>eP H T n code K st
 |.skip=>rfl
 |.region _ ops draw=>by
  funext K st;show(bif draw then bh7 H T n ops.toList st (K .normal)else aC8 H T n ops.toList ops.toList st (K .normal))=_;rw[ci7,bh7,ci9];rfl
 |.seq a b=>by
  funext K st;show(bif NR a then ar8 a b (dW H T n a) (dW H T n b) K st else dW H T n a (a05 (dW H T n b) K) st)=_;rw[oQ a,oQ b];show _=bif NR a then _ else _
  cases NR a with
  |true=>exact propext ⟨λ⟨h⟩=>h,λh=>⟨h⟩⟩
  |false=>rfl
 |.cond c a b=>by
  funext K st;show bp9 (look st c) (dW H T n a) (dW H T n b) K st=_;rw[oQ a,oQ b];rfl
 |.block id body=>by
  funext K st;show dW H T n body (bn2 id K) st=_;rw[oQ body];rfl
 |.loop body=>by
  funext K st;show aS4 H T n body (dW H T n body) K st=_;rw[oQ body];exact propext ⟨λ⟨h⟩=>h,λh=>⟨h⟩⟩
 |.rangeFunc g ps x y=>by
  funext K st;exact propext ⟨λ⟨h⟩=>h,λh=>⟨h⟩⟩
 |.exit _=>rfl
 |.scope body=>by
  funext K st;show dW H T n body (bW3 K) st=_;rw[oQ body];rfl
 |.label _=>rfl
 |.goto _=>rfl
 |.ret=>rfl
 |.refuse _=>rfl
end
def dg9{α:Type}(mk:α->FD)(mo:α->Y0)(I:α->Prop)(μ:α->Nat)(x:α)(K:Exit->St->Prop)(e:Exit)(st2:St):Prop:=
 match e with|.normal=>∃x',μ x'<μ x/\I x'/\aX st2 (mk x')/\KR st2 (mo x')|e=>K e st2
def P6{H:jY}{T:Tab}{n:Nat}{a b:Code}{K:Exit->St->Prop}{st:St}(h:dW H T n a (a05 (dW H T n b) K) st):ar8 a b (dW H T n a) (dW H T n b) K st:=by
 refine⟨?_⟩;rw[oQ]at h⊢;refine aC4 a (λe st h=>?_) st h;cases e with
 |normal=>exact .inl h
 |_=>exact h
def cS1{α:Type}(mk:α->FD)(mo:α->Y0)(I:α->Prop)(K:Exit->St->Prop)(e:Exit)(st2:St):Prop:=
 match e with|.normal=>∃x,I x/\aX st2 (mk x)/\KR st2 (mo x)|e=>K e st2
def NS{H:jY}{T:Tab}{n:Nat}{α:Type}(mk:α->FD)(mo:α->Y0)(I:α->Prop){a b:Code}{K:Exit->St->Prop}{st:St}
    (hb:∀x,I x->dW H T n b K ⟨xC (mk x),mkObj (mo x)⟩) (ha:dW H T n a (cS1 mk mo I K) st):ar8 a b (dW H T n a) (dW H T n b) K st:=by
 refine⟨?_⟩;rw[oQ]at ha⊢;refine aC4 a (λe st2 h=>?_) st ha;cases e with
 |normal=>
  obtain⟨x,hx,he,ho⟩:=h;exact .inr ⟨_,bg6 he ho,hb x hx⟩
 |_=>exact h
def iE{H:jY}{T:Tab}{n:Nat}{α:Type}(mk:α->FD)(mo:α->Y0)(I:α->Prop)(μ:α->Nat)(x0:α){body:Code}{K:Exit->St->Prop}{st:St}(h0:I x0)(he:aX st (mk x0))(ho:KR st (mo x0))
    (step:∀x,I x->dW H T n body (dg9 mk mo I μ x K) ⟨xC (mk x),mkObj (mo x)⟩):
    aS4 H T n body (dW H T n body) K st:=by
 show dW H T n (.loop body) K st;rw[oQ];refine cX7 mk mo I μ x0 h0 he ho λx hx=>?_;have h:=step x hx;rw[oQ]at h;exact h
def V9{P:Program}{G:aB}{T:Tab}(hT:aA P T)(hm:P.follows .mixedOrders=true){f:FuncId}{fn:Func}{code:Code}{args:G9}{r:CV}(hf:P.funcs[f]?=some fn)(hname:(fn.name== "runtime.NumGoroutine")=false)(hb:fn.body=some code)(hn:args.length<=fn.ntmps)
    (h:dW (jF P G) T fn.ntmps code (bS8 T fn.results.toList r) (aa8 args)):Holds P G f args r:=by
 rw[oQ]at h;exact cN5 hT hm hf hname hb hn h
end Go.F7
namespace Go.F7
open Go Go.RowKit
abbrev Str:=mG
abbrev W9:=List (Str×Int)
abbrev I(n:Int):CV:=.v (.int .i64 n)
abbrev B(b:Bool):CV:=.v (.bool b)
abbrev S(s:Str):CV:=.v (.string ⟨⟨s⟩⟩)
def F8(n:Int):G9:=[I n]
def cStr(s:Str):G9:=[S s]
def AY(f:FuncId):G9:=[.fn f []]
def ix{α:Type}(l:List α)(n:Int):Option α:=if n<0 then none else l[n.toNat]?
section
variable{α β:Type}{G:Prop}
def E5{o:Option α}{f:α->Option β}{r:β}(h:Option.bind o f=some r)(k:∀x,o=some x->f x=some r->G):G:=by
 cases o with
 |none=>grind
 |some x=>grind
def D6{b:Bool}{x y:Option α}{r:α}(hb:b=true)(h:(bif b then x else y)=some r):x=some r:=by grind
def D5{b:Bool}{x y:Option α}{r:α}(hb:b=false)(h:(bif b then x else y)=some r):y=some r:=by grind
def mV{b:Bool}{x:Option α}{r:α}(h:(bif b then x else none)=some r)(k:b=true->x=some r->G):G:=by grind
def aT{l:List α}{n:Int}{x:α}(h:ix l n=some x):0<=n:=by
 unfold ix at h
 grind
def aQ5{l:List α}{n:Int}{x:α}(h:ix l n=some x):l[n.toNat]?=some x:=by
 unfold ix at h
 grind
theorem bK(f:α->β){l:List α}{n:Int}{x:α}(h:ix l n=some x):(l.map f)[n.toNat]?=some (f x):=by
 rw[P9,aQ5 h];rfl
def ar7{s:Str}{n:Int}{b:UInt8}(h:ix s n=some b):(ByteArray.mk ⟨s⟩)[n.toNat]?=some b:=by
 have h1:=aQ5 h;have h2:=(P7.1 h1).1;have h3:=(P7.1 h1).2;have hs:n.toNat<(ByteArray.mk ⟨s⟩).size:=h2;rw[getElem?_pos (ByteArray.mk ⟨s⟩) n.toNat hs];exact congrArg some h3
def cW5{sz:Nat}:∀{l:List (List β)},l.all (λd=>Nat.beq d.length sz)=true->∀n∈l,n.length=sz:=by
 intro l h n hn;rw[oW]at h;exact G5 (h n hn)
def cY2(f:α->β)(a b:List α):(a++b).map f=a.map f++b.map f:=List.map_append
def cq3{f:α->β}{a b:List α}{k:Nat}(h:decide (a.length+b.length<=4294967296)=true):ag0 ((a.map f).length+(b.map f).length) k:=.inl (by simpa using h)
def Z9{p:α->Prop}{v r:α}(h:some v=some r)(hp:p v):p r:=jJ h▸hp
end
end Go.F7
end
