/- Of ours. -/
import Derived.Test.YtlfjlokfciejnaaGreatJ02
import Derived.KernelRfl
set_option maxRecDepth 20000
set_option maxHeartbeats 4000000
set_option linter.unusedVariables false
set_option linter.unusedSectionVars false
set_option linter.unusedSimpArgs false
set_option linter.defProp false
open List renaming length->lN
open Bool renaming true->tT,false->oK
open Option renaming some->sS,none->nN
namespace Go.Abs
variable {ρ:RM}{_d:List A_}{w:Heap}{o:Oper}
variable [jE]
def Hz:∀(n d:Nat),(S_ n d).length=d
|_,0=>rfl
|n,d+1=>by simp[S_,Hz (n+1) d]
def IA:∀(n d j:Nat),j<d->(S_ n d)[j]?=sS (n+j)
|n,d+1,0,_=>by simp[S_]
|n,d+1,j+1,h=>by
 simp only[S_,List.getElem?_cons_succ];rw[IA (n+1) d j oM];congr 1;omega
def Li{n d x:Nat}(h:x∈S_ n d):n<=x/\x<n+d:=by
 obtain⟨j,hj,rfl⟩:=bg h;rw[Hz]at hj;have:=IA n d j hj;rw[aA (by rw[Hz];exact hj)]at this;simp only[aU]at this;omega
def Lj:∀(n d:Nat),(S_ n d).Nodup
|_,0=>by simp[S_]
|n,d+1=>by
 simp only[S_,dY];exact⟨λh=>by have:=Li h;omega,Lj (n+1) d⟩
def PM{m:Hp}:∀{n d:Nat},xq m n d->∀j,j<d->m (n+j)=.c?
|n,d+1,h,0,_=>h.1
|n,d+1,h,j+1,hj=>by
 have:=PM h.2 j oM;rwa[show n+1+j=n+(j+1) by omega]at this
def Eb{m:Hp}{f:Nat->Nat}:∀{js:List Nat} {bs:List A_},p8 m f js bs->lN js=lN bs/\∀i,i<lN js->m (js.getD i 0)=(r_ bs i).N_ f
|[],[],_=>⟨rfl,λi hi=>by simp at hi⟩
|[],_::_,h=>by simp[p8]at h
|_::_,[],h=>by simp[p8]at h
|j::js,b::bs,h=>by
 simp only[p8]at h;let⟨h1,h2⟩:=Eb h.2;refine⟨by simp[h1],λi hi=>?_⟩;cases i with
 |zero=>simpa[r_]using h.1
 |succ i=>simpa[r_]using h2 i (uM hi)
def PN{f:Nat->Nat}:∀{js:List Nat} {bs:List A_} {m:Hp} {b:Nat},b∉js->jW m (ng f js bs) b=m b
|[],_,m,b,_=>by simp[ng,jW]
|_::_,[],m,b,_=>by simp[ng,jW]
|j::js,x::bs,m,b,h=>by
 simp only[aM,d9]at h;simp only[ng,jW];have:=PN (f:=f) (js:=js) (bs:=bs) (m:=upd m j (x.N_ f)) h.2;rw[this,zao _ _ h.1]
def WP{f:Nat->Nat}:∀{js:List Nat} {bs:List A_} {m:Hp},js.Nodup->lN js=lN bs->∀i,i<lN js->jW m (ng f js bs) (js.getD i 0)=(r_ bs i).N_ f
|[],_,m,_,_,i,hi=>by simp at hi
|_::_,[],m,_,h,_,_=>by simp at h
|j::js,x::bs,m,hn,h,0,hi=>by
 simp only[dY]at hn;simp only[ng,jW,List.getD_cons_zero];rw[PN hn.1,zam];simp[r_]
|j::js,x::bs,m,hn,h,i+1,hi=>by
 simp only[dY]at hn;simp only[ng,jW,List.getD_cons_succ];rw[WP hn.2 (uM h) i (uM hi)];simp[r_]
def PO{f:Nat->Nat}:∀{js:List Nat} {bs:List A_},lN js=lN bs->∀j,j∈js->∃b,(j,b)∈ng f js bs
| j::js,x::bs,h,k,hk=>by
 cases aM.1 hk with
 |inl e=>subst e;exact⟨x.N_ f,by simp[ng]⟩
 |inr e=>
  let⟨b,hb⟩:=PO (f:=f) (js:=js) (bs:=bs) (uM h) k e;exact⟨b,by simp[ng,hb]⟩
section
variable {P:Program} {get:Nat->AV} {m:Hp} {n:Nat}
def E_.sub{h:PH}{m:Hp}{l:oO}{bs:oV}(H:E_ h ρ m w)(hnd:l.Nodup)(_k:∀b,b∈bs->b.lt (lN l)=tT)(hat:p8 m (Z' l) l bs):E_ h (pG (Z' l) (lN l) ρ) (r_ bs) w:=by
 let⟨hlen,hb⟩:=Eb hat;have at_:∀b,b<lN l->m (Z' l b)=(r_ bs b).N_ (Z' l):=λb hbl=>hb b hbl;have inj:∀b c,b<lN l->c<lN l->Z' l b=Z' l c->b=c:=by
  intro b c h1 h2 e;unfold Z' at e;rw[aH,aH,aA h1,aA h2]at e;simp only[Option.getD_some]at e;exact(List.getElem?_inj h1 hnd).1 (by rw[aA h1,aA h2,e])
 have beyond:∀b,¬b<lN l->r_ bs b=.c?:=by
  intro b hb';unfold r_;rw[aH,aR oM];rfl
 have rs:∀{b:Nat} {p:Nat × Nat},pG (Z' l) (lN l) ρ b=sS p->b<lN l/\ρ (Z' l b)=sS p:=by
  intro b p h;unfold pG at h;split at h
  .exact⟨by assumption,h⟩
  .cases h
 have mem:∀b,b<lN l->(r_ bs b).lt (lN l)=tT:=by
  intro b hb';unfold r_;rw[aH,aA oM];exact _k _ (aO _)
 refine⟨H.pers,?_,?_,?_,?_⟩
 .intro b;unfold pG;by_cases hbl:b<lN l
  .rw[aC hbl,<-H.dom,at_ b hbl];cases r_ bs b<;>simp[A_.N_]
  .rw[aB hbl];simp[beyond b hbl]
 .intro b p _C;let⟨h1,h2⟩:=rs _C;have:=H.own _ p h2;rw[at_ b h1]at this;exact iw.N_ (mem b h1) this
 .intro b c' p q h1 h2 hr hs e;let⟨g1,g2⟩:=rs h1;let⟨g3,g4⟩:=rs h2;refine inj b c' g1 g3 (H.inj _ _ p q g2 g4 ?_ ?_ e)
  .rw[at_ b g1];exact Real.N_.2 hr
  .rw[at_ c' g3];exact Real.N_.2 hs
 .intro b p h1 hr;let⟨g1,g2⟩:=rs h1;exact H.sep _ p g2 (by rw[at_ b g1];exact Real.N_.2 hr)
def jK.sub{m:Hp}{l:oO}{bs:oV}(hat:p8 m (Z' l) l bs){B:Nat}(hf:jK ρ m B):jK (pG (Z' l) (lN l) ρ) (r_ bs) B:=by
 intro b p hp hr;unfold pG at hp;split at hp
 next hb=>
  exact hf _ p hp (by rw[show m (Z' l b)=_ from(Eb hat).2 b hb];exact Real.N_.2 hr)
 .cases hp
def WQ{l:oO}{bs _d:oV}{m':Hp}{ph h':PH}{ρ':RM}{w':Heap}(hle:lN bs<=lN _d)(hbl:∀b,b∈_d->b.lv (live _d)=tT)(hnd:l.Nodup)(_V:∀i,i∈l->i<n)
  (hk:lN l=lN bs) (hatm:p8 m' (Z' l) l bs) (hfrm:∀j,j<lN _d-lN bs->m' (n+j)=.c?) (hr:E_ ph ρ m' w) (st:tY ph (pG (Z' l) (lN l) ρ) (r_ bs) w h' ρ' (r_ _d) w') (hr':E_ h' ρ' (r_ _d) w')
  (pins:∀i,i<lN bs->ρ' i=pG (Z' l) (lN l) ρ i):
  ∃ρ2,Step ph ρ m' w h' ρ2 (jW m' (ng (Z' (l++S_ n (lN _d-lN bs))) (l++S_ n (lN _d-lN bs)) _d)) w'/\E_ h' ρ2 (jW m' (ng (Z' (l++S_ n (lN _d-lN bs))) (l++S_ n (lN _d-lN bs)) _d)) w'/\
   ∀(v:AV) (vC:Value),v.lv (live _d)=tT->g_ h' ρ' v vC->g_ h' ρ2 (v.N_ (Z' (l++S_ n (lN _d-lN bs)))) vC:=by
 generalize hd:lN _d-lN bs=d at*
 have hlen':(l++S_ n d).length=lN _d:=by rw[aV,Hz];omega
 have hnd':(l++S_ n d).Nodup:=by
  rw[bK];refine⟨hnd,Lj n d,λa ha b hb e=>?_⟩;have:=_V a ha;have:=Li hb;omega
 -- the caller's own numbers
 have inl:∀i,i<lN l->Z' (l++S_ n d) i=Z' l i:=by
  intro i hi;unfold Z';rw[aH,aH,aj hi]
 have inr:∀j,j<d->Z' (l++S_ n d) (lN l+j)=n+j:=by
  intro j hj;unfold Z';rw[aH,ay oM,cO,IA n d j hj];rfl
 have lmem:∀i,i<lN l->Z' l i∈l:=by
  intro i hi;unfold Z';rw[aH,aA hi];exact aO hi
 let ρ2:RM:=λb=>if n<=b/\b<n+d then ρ' (lN l+(b-n))else ρ b;let m2:Hp:=jW m' (ng (Z' (l++S_ n d)) (l++S_ n d) _d);have m2in:∀i,i<lN _d->m2 (Z' (l++S_ n d) i)=(r_ _d i).N_ (Z' (l++S_ n d)):=λi hi=>WP hnd' hlen' i oM;have m2out:∀b,b∉l++S_ n d->m2 b=m' b:=λb hb=>PN hb;have r2:∀i,i<lN _d->ρ2 (Z' (l++S_ n d) i)=ρ' i:=by
  intro i hi;by_cases hil:i<lN l
  .rw[inl i hil];have _k:=_V _ (lmem i hil);show(if n<=Z' l i/\Z' l i<n+d then _ else ρ (Z' l i))=_;rw[aB oM,pins i oM];unfold pG;rw[aC hil]
  .obtain⟨j,rfl⟩:∃j,i=lN l+j:=⟨i-lN l,oM⟩
   rw[inr j oM];show(if n<=n+j/\n+j<n+d then ρ' (lN l+(n+j-n))else _)=_;rw[aC oM,cO]
 have r2out:∀b,b∉l++S_ n d->ρ2 b=ρ b:=by
  intro b hb;show(if n<=b/\b<n+d then _ else ρ b)=_;rw[aB];intro hh;refine hb (aL.2 (.inr ?_));have:=IA n d (b-n) oM;rw[show n+(b-n)=b by omega]at this;exact ah this
 have cases_:∀b,b∉l++S_ n d\/∃i,i<lN _d/\b=Z' (l++S_ n d) i:=by
  intro b;by_cases hb:b∈l++S_ n d
  .let⟨i,hi,e⟩:=bg hb;refine .inr ⟨i,oM,?_⟩;unfold Z';rw[aH,aA hi];exact e.symm
  .exact .inl hb
 have rle:ρ.le ρ2:=by
  intro b p hb;rcases cases_ b with h|⟨i,hi,rfl⟩
  .rw[r2out b h];exact hb
  .rw[r2 i hi];by_cases hil:i<lN l
   .rw[pins i oM];unfold pG;rw[aC hil];rwa[inl i hil]at hb
   .obtain⟨j,rfl⟩:∃j,i=lN l+j:=⟨i-lN l,oM⟩
    rw[inr j oM,(hr.dom _).1 (hfrm j oM)]at hb;cases hb
 have mvH:∀b q,live _d b=tT->ρ' (id b)=sS q->ρ2 (Z' (l++S_ n d) b)=sS q:=by
  intro b q hb hq;have:b<lN _d:=by
   unfold live at hb;rcases aY b (lN _d) with h|h
   .exact h
   .rw[aR h]at hb;cases hb
  rw[r2 b this];exact hq
 -- what lies outside is not touched
 have freeOut:∀b p,b∉l++S_ n d->ρ b=sS p->Real (m' b) p->jK (pG (Z' l) (lN l) ρ) (r_ bs) p.1:=by
  intro b p hb _C _D c q hcq hrq he;unfold pG at hcq;split at hcq
  next hcl=>
   have hmc:m' (Z' l c)=(r_ bs c).N_ (Z' l):=(Eb hatm).2 c hcl;have:=hr.inj (Z' l c) b q p hcq _C (by rw[hmc];exact Real.N_.2 hrq) _D he;exact hb (this▸aL.2 (.inl (lmem c hcl)))
  .cases hcq
 have freeSub:∀B,jK ρ m' B->jK (pG (Z' l) (lN l) ρ) (r_ bs) B:=by
  intro B hB c q hcq hrq he;unfold pG at hcq;split at hcq
  next hcl=>
   have hmc:m' (Z' l c)=(r_ bs c).N_ (Z' l):=(Eb hatm).2 c hcl;exact hB (Z' l c) q hcq (by rw[hmc];exact Real.N_.2 hrq) he
  .cases hcq
 have K2:E_ h' ρ2 m2 w':=by
  refine⟨hr'.pers,?_,?_,?_,?_⟩
  .intro b;rcases cases_ b with h|⟨i,hi,rfl⟩
   .rw[m2out b h,r2out b h];exact hr.dom b
   .rw[m2in i hi,r2 i hi,<-hr'.dom];cases r_ _d i<;>simp[A_.N_]
  .intro b p hb;rcases cases_ b with h|⟨i,hi,rfl⟩
   .rw[r2out b h]at hb;rw[m2out b h];by_cases _D:Real (m' b) p
    .exact iw.congr st.hle rle (st.frame p.1 (hr.J? hb _D) (freeOut b p h hb _D)) (hr.own b p hb)
    .exact iw.notReal _D (hr.own b p hb) _ rle _
   .rw[r2 i hi]at hb;rw[m2in i hi];have:=hr'.own i p hb;have hmem:r_ _d i∈_d:=by
     unfold r_;rw[aH,aA hi];exact aO hi
    apply iw.mv (f:=id) mvH (hbl _ hmem);rw[A_.ren_id];exact this
  .intro b c p q hb hc' _I hrc he;rcases cases_ b with h|⟨i,hi,rfl⟩<;>rcases cases_ c with k|⟨j,hj,rfl⟩
   .rw[r2out b h]at hb;rw[r2out c k]at hc';rw[m2out b h]at _I;rw[m2out c k]at hrc;exact hr.inj b c p q hb hc' _I hrc he
   .exfalso;rw[r2out b h]at hb;rw[m2out b h]at _I;rw[r2 j hj]at hc';rw[m2in j hj]at hrc;rcases st.own j q hc' (Real.N_.1 hrc)with h3|⟨c'',q'',h3,h4,h5⟩
    .have:=hr.J? hb _I;omega
    .exact freeOut b p h hb _I c'' q'' h3 h4 (h5.trans he.symm)
   .exfalso;rw[r2out c k]at hc';rw[m2out c k]at hrc;rw[r2 i hi]at hb;rw[m2in i hi]at _I;rcases st.own i p hb (Real.N_.1 _I)with h3|⟨c'',q'',h3,h4,h5⟩
    .have:=hr.J? hc' hrc;omega
    .exact freeOut c q k hc' hrc c'' q'' h3 h4 (h5.trans he)
   .rw[r2 i hi]at hb;rw[r2 j hj]at hc';rw[m2in i hi]at _I;rw[m2in j hj]at hrc;rw[hr'.inj i j p q hb hc' (Real.N_.1 _I) (Real.N_.1 hrc) he]
  .intro b p hb _I;rcases cases_ b with h|⟨i,hi,rfl⟩
   .rw[r2out b h]at hb;rw[m2out b h]at _I;rw[st.hlow p.1 (hr.J? hb _I) (freeOut b p h hb _I)];exact hr.sep b p hb _I
   .rw[r2 i hi]at hb;rw[m2in i hi]at _I;exact hr'.sep i p hb (Real.N_.1 _I)
 have S2:Step ph ρ m' w h' ρ2 m2 w':=by
  refine⟨st.hle,λB hB hf=>st.hlow B hB (freeSub B hf),rle,st.size,λB hB hf=>st.frame B hB (freeSub B hf),?_⟩;intro b p hb _I;rcases cases_ b with h|⟨i,hi,rfl⟩
  .rw[r2out b h]at hb;rw[m2out b h]at _I;exact .inr ⟨b,p,hb,_I,rfl⟩
  .rw[r2 i hi]at hb;rw[m2in i hi]at _I;rcases st.own i p hb (Real.N_.1 _I)with h3|⟨c,q,h3,h4,h5⟩
   .exact .inl h3
   .unfold pG at h3;split at h3
    next hcl=>
     have hmc:m' (Z' l c)=(r_ bs c).N_ (Z' l):=(Eb hatm).2 c hcl;exact .inr ⟨Z' l c,q,h3,by rw[hmc];exact Real.N_.2 h4,h5⟩
    .cases h3
 refine⟨ρ2,S2,K2,λv vC hvl rv=>?_⟩;apply g_.mv (f:=id) mvH v vC hvl;rw[AV.ren_id];exact rv
def WR{f:FuncId}{l:oO}{args:oo}{bs:oV}{v:AV}{_d:oV}(hp:q_ P f args bs v _d)(hnd:l.Nodup)(_V:∀i,i∈l->i<n)(hal:AV.lts (lN l) args=tT)
  (_k:∀b,b∈bs->b.lt (lN l)=tT) (hat:p8 m (Z' l) l bs) (hfr:xq m n (lN _d-lN bs))
  (H:∀(ph:PH) (ρ:RM) (w:World) (a:Act),(∀k,Operand.tmp k∈o.op.operands->g_ ph ρ (get k) (a.tmps.getD k undef))->
   ∃_o:oP,iC ph ρ (AV.b? (Z' l) args) _o/\j_ P (execOp a.eval o) w (.enter f _o.toArray) w):
  gz P o get m [] (ng (Z' (l++S_ n (lN _d-lN bs))) (l++S_ n (lN _d-lN bs)) _d) (v.N_ (Z' (l++S_ n (lN _d-lN bs)))):=by
 intro m' h1 h2 ph ρ w a hr hG hS hg next Q hn;let⟨hcal,hle,hnon,hvl,hbl,hp⟩:=hp;let⟨hk,hat'⟩:=Eb hat;generalize hd:lN _d-lN bs=d at*
 have hlen':(l++S_ n d).length=lN _d:=by rw[aV,Hz];omega
 have hnd':(l++S_ n d).Nodup:=by
  rw[bK];refine⟨hnd,Lj n d,λa ha b hb e=>?_⟩;have:=_V a ha;have:=Li hb;omega
 have agree:∀j,j∈l++S_ n d->m' j=m j:=λj hj=>by
  let⟨b,hb⟩:=PO (f:=Z' (l++S_ n d)) hlen' j hj;exact h2 (j,b) hb
 have hatm:p8 m' (Z' l) l bs:=by
  have:∀(js:oO) (bs:oV),(∀j,j∈js->m' j=m j)->p8 m (Z' l) js bs->p8 m' (Z' l) js bs:=by
   intro js
   induction js with
   |nil=>intro bs _ h;cases bs<;>first|exact h|exact h.elim
   | cons j js ih=>
    intro bs hj h;cases bs with
    |nil=>exact h.elim
    |cons b bs=>
     simp only[p8]at h⊢;exact⟨(hj j oC).trans h.1,ih bs (λk hk=>hj k (by simp[hk])) h.2⟩
  exact this l bs (λj hj=>agree j (by simp[hj])) hat
 have hfrm:∀j,j<d->m' (n+j)=.c?:=λj hj=>by
  rw[agree (n+j) (by
   rw[aL]
   exact .inr (ah (IA n d j hj)))]
  exact PM hfr j hj
 let⟨_o,ra,_E⟩:=H ph ρ w a hg;have hc:=hr.sub hnd _k hatm;have hra:=iC.N_ args _o hal ra;unfold Oper.wp;rw[show(execOp a.eval o).run P w=.ok (.enter f _o.toArray) w from _E];rw[Oper.upon_enter];refine(hp ph _ w _o hc hG (jE.mono hS (fU _) (aJ _) λB _ hf=>⟨rfl,rfl,hf.sub hatm⟩) hra).mono λe w' hh=>?_;let⟨vC,h',ρ',e1,st,hr',e7,rv,pins⟩:=hh;subst e1;subst hd;let⟨ρ2,S2,K2,mv⟩:=WQ hle hbl hnd _V oM hatm hfrm hr st hr' pins;exact hn h' ρ2 w' vC S2 K2 e7 (mv v vC hvl rv)
def Ll(P:Program)(o:Oper)(get:Nat->AV)(m:Hp)(wr:oU)(pv:Value):Prop:=
∀ m':Hp,(∀x,x∈wr->m' x.1=m x.1)->∀(h:PH) (ρ:RM) (w:World) (a:Act),E_ h ρ m' w.heap->Ac P h->jE.ok h (jK ρ m') w->
 (∀k,Operand.tmp k∈o.op.operands->g_ h ρ (get k) (a.tmps.getD k undef))->
 ∀(next:Act->World->Prop) (Q:Exit->Act->World->Prop),
  (∀(h':PH) (ρ':RM) (w':World),Step h ρ m' w.heap h' ρ' (jW m' wr) w'.heap->E_ h' ρ' (jW m' wr) w'.heap->Same w w'->Q (.panic [{v:=pv,recovered:=oK}]) a w')->
  o.wp P a w next Q
def zFM{f:FuncId}{l:oO}{args:oo}{bs:oV}{pv:Value}{_d:oV}(hp:FW P f args bs pv _d)(hnd:l.Nodup)(_V:∀i,i∈l->i<n)(hal:AV.lts (lN l) args=tT)
  (_k:∀b,b∈bs->b.lt (lN l)=tT) (hat:p8 m (Z' l) l bs) (hfr:xq m n (lN _d-lN bs))
  (H:∀(ph:PH) (ρ:RM) (w:World) (a:Act),(∀k,Operand.tmp k∈o.op.operands->g_ ph ρ (get k) (a.tmps.getD k undef))->
   ∃_o:oP,iC ph ρ (AV.b? (Z' l) args) _o/\j_ P (execOp a.eval o) w (.enter f _o.toArray) w):
  Ll P o get m (ng (Z' (l++S_ n (lN _d-lN bs))) (l++S_ n (lN _d-lN bs)) _d) pv:=by
 intro m' h2 ph ρ w a hr hG hS hg next Q hn;let⟨hcal,hle,hnon,hbl,hp⟩:=hp;let⟨hk,hat'⟩:=Eb hat;generalize hd:lN _d-lN bs=d at*
 have hlen':(l++S_ n d).length=lN _d:=by rw[aV,Hz];omega
 have hnd':(l++S_ n d).Nodup:=by
  rw[bK];refine⟨hnd,Lj n d,λa ha b hb e=>?_⟩;have:=_V a ha;have:=Li hb;omega
 have agree:∀j,j∈l++S_ n d->m' j=m j:=λj hj=>by
  let⟨b,hb⟩:=PO (f:=Z' (l++S_ n d)) hlen' j hj;exact h2 (j,b) hb
 have hatm:p8 m' (Z' l) l bs:=by
  have:∀(js:oO) (bs:oV),(∀j,j∈js->m' j=m j)->p8 m (Z' l) js bs->p8 m' (Z' l) js bs:=by
   intro js
   induction js with
   |nil=>intro bs _ h;cases bs<;>first|exact h|exact h.elim
   | cons j js ih=>
    intro bs hj h;cases bs with
    |nil=>exact h.elim
    |cons b bs=>
     simp only[p8]at h⊢;exact⟨(hj j oC).trans h.1,ih bs (λk hk=>hj k (by simp[hk])) h.2⟩
  exact this l bs (λj hj=>agree j (by simp[hj])) hat
 have hfrm:∀j,j<d->m' (n+j)=.c?:=λj hj=>by
  rw[agree (n+j) (by
   rw[aL]
   exact .inr (ah (IA n d j hj)))]
  exact PM hfr j hj
 let⟨_o,ra,_E⟩:=H ph ρ w a hg;have hc:=hr.sub hnd _k hatm;have hra:=iC.N_ args _o hal ra;unfold Oper.wp;rw[show(execOp a.eval o).run P w=.ok (.enter f _o.toArray) w from _E];rw[Oper.upon_enter];refine(hp ph _ w _o hc hG (jE.mono hS (fU _) (aJ _) λB _ hf=>⟨rfl,rfl,hf.sub hatm⟩) hra).mono λe w' hh=>?_;let⟨h',ρ',e1,st,hr',e7,pins⟩:=hh;subst e1;subst hd;let⟨ρ2,S2,K2,mv⟩:=WQ hle hbl hnd _V oM hatm hfrm hr st hr' pins;exact hn h' ρ2 w' S2 K2 e7
end
end Go.Abs
namespace Go.Abs
variable {o:Oper}{f:FuncId}{x y:MX}{ph:PH}{ρ:RM}{ds:List D}{v:DV}{c:Call}{T:TypeId}
variable [jE]
section
variable {P:Program} {get:Nat->AV} {m:Hp} {n:Nat}
def WS{a:Act}:∀{xs:List MX} {os:List Operand} {cs:List AC},yl xs os=tT->(∀k,Operand.tmp k∈os->g_ ph ρ (get k) (a.tmps.getD k undef))->E9 get xs=sS cs->
 gY ph ρ cs (os.map a.eval)/\(os.map a.eval).length=lN cs
|[],[],cs,_,_,e=>by simp only[E9]at e;cases e;simp[gY]
|[],_::_,_,h,_,_=>by simp[yl]at h
|_::_,[],_,h,_,_=>by simp[yl]at h
| x::xs,o::os,cs,h,hg,e=>by
 simp only[yl,aG]at h;simp only[E9]at e;split at e
 next c r h1 h2=>
  split at e
  next h3=>
   cases e;have r1:=iV h.1 (ph:=ph) (ρ:=ρ) (get:=get) (a:=a) λk hk=>hg k (by simp[hk]);rw[h1]at r1;simp only[g_]at r1;let⟨i1,i2⟩:=WS h.2 (λk hk=>hg k (by simp[hk])) h2;simp only[List.map_cons,gY,List.length_cons];exact⟨⟨⟨AC.one_ok r1 h3,r1⟩,i1⟩,by rw[i2]⟩
  .cases e
 .cases e
def WU{fn:Fn}{first captured:Array Operand}{k_:su}(ho:o.op=.makeFunc fn first captured)(hc:gu P (.mkfn f k_) (.makeFunc fn first captured)=tT){cs:o7}(e:E9 get k_=sS cs):
  gz P o get m [] [] (.c (.fn (.func f) cs)):=by
 simp only[gu,aG]at hc;let⟨⟨c0,c1⟩,c2⟩:=hc;split at c0
 next g=>
  simp only[ae]at c0;subst c0;refine gz.Z_ λm' h1 ph ρ w a hr hg=>?_;let⟨i1,i2⟩:=WS (ph:=ph) (ρ:=ρ) (a:=a) c2 (λk hk=>hg k (by rw[ho];simp only[Op.operands];simp at hk⊢;exact .inr hk)) e;have hfirst:first=#[]:=uM c1;refine⟨.func (.func f) #[] (captured.map a.eval),?_,?_⟩
  .unfold execOp;rw[ho];refine fG ?_ (fF _);show j_ P (Instr.makeFunc (.func f) (first.map a.eval) (captured.map a.eval)) w _ w;rw[hfirst];unfold Instr.makeFunc;simp only[List.map_toArray,List.map_nil];exact fF _
  .simp only[g_,m_];refine⟨captured.toList.map a.eval,?_,i2,i1⟩;congr 1;apply dV;simp
 .cases c0
def PP{f:Fn}{ds:oQ}{v:Value}(r:g_ ph ρ (.c (.fn f (ds.map .d))) v):g_ ph ρ (.c (.d (.fn f ds))) v:=by
 simp only[g_,m_,RepD]at r⊢;let⟨vs,e1,e2,e3⟩:=r;exact⟨vs,e1,uM e2,gY.to_D e3⟩
def gz.weaken{rd:oO}{wr:oU}{v v':AV}(h:gz P o get m rd wr v)(hv:∀{ph:PH} {ρ:RM} {x:Value},g_ ph ρ v x->g_ ph ρ v' x):gz P o get m rd wr v':=
 λm' h1 h2 ph ρ w a hr hG hS hg next Q hn=>h m' h1 h2 ph ρ w a hr hG hS hg next Q λh' ρ' w' vC s k e p=>hn h' ρ' w' vC s k e (hv p)
def zEN{ds:sQ}(hp:h_ P f ds v)(H:∀(ph:PH) (ρ:RM) (w:World) (a:Act),(∀k,Operand.tmp k∈o.op.operands->g_ ph ρ (get k) (a.tmps.getD k undef))->
  ∃args:oP,il ph ds args/\j_ P (execOp a.eval o) w (.enter f args.toArray) w):gz P o get m [] [] v.av:=by
 intro m' h1 h2 ph ρ w a hr hG hS hg next Q hn;let⟨args,ra,_E⟩:=H ph ρ w a hg;let⟨_,hp⟩:=hp;unfold Oper.wp;rw[show(execOp a.eval o).run P w=.ok (.enter f args.toArray) w from _E];rw[Oper.upon_enter];refine(hp ph w args hr.pers hG (jE.mono hS (fU _) (aJ _) λ_ _ _=>⟨rfl,rfl,trivial⟩) ra).mono λe w' hh=>?_;let⟨vC,h',e1,e2,e3,e4,e5,e6,e7,e8⟩:=hh;subst e1;have K:E_ h' ρ m' w'.heap:=hr.grow e2 e4 (λB hB _=>⟨e6 B hB,e3 B hB⟩);have S:Step ph ρ m' w.heap h' ρ m' w'.heap:=⟨e2,λB hB _=>e3 B hB,fV ρ,e5,λB hB _=>e6 B hB,λb p hp hr=>.inr ⟨b,p,hp,hr,rfl⟩⟩
 exact hn h' ρ w' vC S K e7 (jJ.av e8)
def Lm{args:Array Value}{w:World}(h:callee P f=tT):j_ P (callFunc f args) w (.enter f args) w:=by
 unfold callee at h;unfold callFunc;apply j_.program.bind;split at h
 next fn hfn=>
  simp only[aG,bne_iff_ne,ne_eq]at h;rw[hfn];dsimp only;rw[aB (uM h.1),aB (by
   have:=h.2
   cases hb:fn.body<;>simp_all)]
  exact fF _
 .cases h
def il.length{h:PH}:∀{xs:List DV} {vs:List Value},il h xs vs->vs.length=xs.length
|[],vs,r=>by simp[il]at r;simp[r]
|_::_,[],r=>by simp[il]at r
|x::xs,v::vs,r=>by simp only[il]at r;simp[il.length r.2]
def zHh{xs:su}(ho:o.op=.call c)(hc:gu P (.call f xs) (.call c)=tT){ds:sQ}(e:E5 (xs.map (X get))=sS ds)(hp:h_ P f ds v):gz P o get m [] [] v.av:=by
 simp only[gu,aG]at hc;let⟨c0,c1⟩:=hc;split at c0
 next g hg=>
  simp only[ae]at c0;subst c0;refine zEN hp λph ρ w a hr=>?_;have rv:=JG c1 (ph:=ph) (ρ:=ρ) (get:=get) (a:=a) λk hk=>hr k (by rw[ho];simp[Op.operands,Call.operands,hg];simpa using hk);refine⟨_,Vk e rv,?_⟩;unfold execOp;rw[ho];show j_ P (do let d<-resolve a.eval c o.type;invoke d.target d.args) w _ w;unfold resolve;rw[hg];refine(fF _).bind ?_;have e1:(c.args.toList.map a.eval).toArray=c.args.map a.eval:=by apply dV;simp
  rw[e1];simp only[invoke,dz,Array.append_empty];have:=Lm (w:=w) (args:=c.args.map a.eval) hp.1;simpa using this
 .cases c0
def WV{op:BinOp}{k:IntKind}{i j:Int}{d:D}(ex:X get x=.c (.d (.int k i)))(ey:X get y=.c (.d (.int k j)))(H:∀(ph:PH) (w:World),k.min<=i/\i<=k.max->k.min<=j/\j<=k.max->∃v,j_ P (binOp op T (.int k i) (.int k j)) w v w/\RepD ph d v)
  (ph:PH) (ρ:RM) (a b:Value) (w:World) (ra:g_ ph ρ (X get x) a) (rb:g_ ph ρ (X get y) b):¬(a=.nilIface/\b=.nilIface)/\(∀c d,¬(a=.agg c/\b=.agg d))/\∃v,j_ P (binOp op T a b) w v w/\RepD ph d v:=by
 rw[ex]at ra;rw[ey]at rb;simp only[g_,m_,RepD]at ra rb;rw[ra.1,rb.1];exact⟨(by rintro⟨h,_⟩;cases h),(by rintro c d ⟨h,_⟩;cases h),H ph w ra.2 rb.2⟩
def WW{ag:Bool}{U:TypeId}{ox:Operand}(ho:o.op=.makeInterface U ox)(hc:gu P (.mkifc T ag x) (.makeInterface U ox)=tT){ds:oQ}
  (ex:(ag=tT/\∃cs,X get x=.ag cs/\A? cs=sS ds)\/(ag=oK/\∃d,X get x=.c (.d d)/\d.one=tT/\ds=[d])):gz P o get m [] [] (.c (.d (.ifc T ag ds))):=by
 simp only[gu,aG,ae]at hc;obtain⟨⟨rfl,c1⟩,hx⟩:=hc;refine gz.Z_ λm' h1 ph ρ w a hr hg=>?_;have r1:=iV hx (ph:=ph) (ρ:=ρ) (get:=get) (a:=a) λk hk=>hg k (by rw[ho];simp[Op.operands,hk]);refine⟨.iface T (a.eval ox),?_,?_⟩
 .unfold execOp;rw[ho];show j_ P (do let v<-Instr.makeInterface T (a.eval ox);pure (Next.value v)) w _ w;unfold Instr.makeInterface;cases hu:P.underlying T with
  |none=>rw[hu]at c1;cases c1
  |some d=>
   refine fG ?_ (fF _);refine(fP hu).bind ?_;rw[hu]at c1;cases d<;>first|exact fF _|cases c1
 .simp only[g_,m_,RepD];rcases ex with⟨rfl,cs,e,ec⟩|⟨rfl,d,e,h1,rfl⟩
  .rw[e]at r1;simp only[g_]at r1;let⟨vs,e1,e2,e3⟩:=r1;have e4:=FV ec;subst e4;exact⟨vs,by rw[e1];rfl,uM e2,(λh=>by cases h),gY.to_D e3⟩
  .rw[e]at r1;simp only[g_,m_]at r1;refine⟨[a.eval ox],rfl,rfl,λ_=>rfl,?_⟩;simp only[RepL,and_true];exact⟨D.one_ok r1 h1,r1⟩
def zHi{s:Nat}(ho:o.op=.call c)(hc:gu P (.copy s x y) (.call c)=tT){b len:Nat}{es:oh}(ex:X get x=.c (.x_ s b 0 len))(em:m b=.arr s es)(hlen:len<=lN es){K:AV->oO->oU->Prop}
  (hK:qb get m s (λys rd=>lN ys<=len/\K (.c (.d (.int .i64 (lN ys)))) rd [(b,.arr s (ys++es.drop (lN ys)))]) y):∃v rd wr,gz P o get m rd wr v/\K v rd wr:=by
 simp only[gu]at hc;split at hc
 next ox oy T T' hb ha hta=>
  simp only[aG]at hc;let⟨⟨hx,hy⟩,hc⟩:=hc;split at hc
  next i hi=>
   simp only[aG,ae,aI]at hc;let⟨c1,c4⟩:=hc;let⟨et,hu,hei⟩:=Ht hi;have _v:c.args=#[ox,oy]:=by rw[<-bG (xs:=c.args),ha]
   have htys:c.argTypes=#[T,T']:=by rw[<-bG (xs:=c.argTypes),hta]
   have ops:∀k,(ox=.tmp k\/oy=.tmp k)->Operand.tmp k∈o.op.operands:=by
    intro k hk;rw[ho];simp only[Op.operands,Call.operands,hb,_v];rcases hk with hk|hk<;>simp[hk]
   have wrap:∀{a:Act} {w w':World} {v:Value},j_ P (Builtin.copy_ #[T,T'] o.type #[a.eval ox,a.eval oy]) w v w'->j_ P (execOp a.eval o) w (.value v) w':=by
    intro a w w' v h;unfold execOp;rw[ho];show j_ P (do let d<-resolve a.eval c o.type;invoke d.target d.args) w _ w';unfold resolve;rw[hb,_v,htys];refine(fF _).bind ?_;simp only[invoke,List.map_toArray,List.map_cons,List.map_nil];exact h.bind (fF _)
   let⟨ys,rd,⟨hyl,kk⟩,hsrc⟩:=Lb (P:=P) hK;refine⟨_,_,_,gz.E? λm' h1 h2 ph ρ w a hr hg=>?_,kk⟩;have r1:=iV hx (ph:=ph) (ρ:=ρ) (get:=get) (a:=a) λk hk=>hg k (ops k (.inl hk));have r2:=iV hy (ph:=ph) (ρ:=ρ) (get:=get) (a:=a) λk hk=>hg k (ops k (.inr hk));have eb':m' b=.arr s es:=(h2 (b,.arr s (ys++es.drop (lN ys))) oC).trans em;let⟨new,s1,s2,s3,s4⟩:=hsrc (λb' hb'=>h1 b' hb') hr r2;rw[ex]at r1;simp only[g_,m_]at r1;let⟨p,base,p1,p2,p3,p4,p5⟩:=r1;simp only[Nat.zero_add]at p3;simp only[dW]at p2;have _Q:=hr.own b p p1;rw[eb']at _Q;have hone:=gp.one s4 s3;have run:∀{w':World},(∀q,base=sS q->j_ P (Go.storeCells q new 0) w () w')->(base=nN->w'=w)->j_ P (Builtin.copy_ #[T,T'] o.type #[a.eval ox,a.eval oy]) w (.int .i64 (lN ys)) w':=by
    intro w' hs hn;unfold Builtin.copy_;rw[p2]
    show j_ P (do
     let d<-underlying T
     _) w _ w'
    refine(fP hu).bind ?_;apply fG (show j_ P (Builtin.lenOf (a.eval oy)) w (lN ys) w from s1);have hmin:Nat.min (lN ys) len=lN ys:=Nat.min_eq_left hyl;refine(fe hei).bind ?_;rw[hmin];refine fG (show j_ P (Builtin.firstCells i.size (lN ys) (a.eval oy)) w new.toArray w by rw[c1];exact s2 w rfl) ?_;cases base with
    |none=>rw[hn rfl];exact fF _
    |some q=>exact(hs q rfl).bind (fF _)
   have hkl:(lN ys:Int)<=4611686018427387904:=by
    have:lN es<=zaf:=by
     rcases _Q with⟨q1,q2⟩|⟨us,U,g1,g2,g3,g5,g4⟩
     .rw[q2];simp
     .exact g5
    unfold zaf at this;omega
   have hint:g_ ph ρ (.c (.d (.int .i64 (lN ys)))) (.int .i64 (lN ys)):=by
    simp only[g_,m_,RepD,IntKind.min,IntKind.max,IntKind.signed,IntKind.bits];refine⟨trivial,?_,?_⟩<;>simp<;>omega
   by_cases hp0:p.2=0
   .have hl0:len=0:=oM;have hys:ys=[]:=aW.1 oM;subst hys;have _w:new=[]:=aW.1 (uM s3);subst _w;have hm:upd m' b (.arr s ([]++es.drop 0))=m':=by
     funext j;by_cases hj:j=b
     .subst hj;rw[zam,eb'];simp
     .rw[zao _ _ hj]
    refine⟨ph,ρ,w,.int .i64 0,wrap (run (λq hq=>fF _) (λ_=>rfl)),?_,?_,fZ w,uM hint⟩
    .show Step ph ρ m' w.heap ph ρ (upd m' b (.arr s ([]++es.drop 0))) w.heap;rw[hm];exact Step.refl _ _ _ _
    .show E_ ph ρ (upd m' b (.arr s ([]++es.drop 0))) w.heap;rw[hm];exact hr
   .have _D:Real (m' b) p:=by rw[eb'];show 0<p.2;omega
    have hbase:=p4 oM;subst hbase;rcases _Q with⟨q1,q2⟩|⟨us,U,g1,g2,g3,g5,g4⟩
    .omega
    have hm3:lN ys*s<=p.2*s:=cZ s oM;have hle:0+lN new<=lN us:=oM;have _U:iw ph ρ p (.arr s (ys++es.drop (lN ys))) (w.heap.setIfInBounds p.1 (.cells (Abs.z_ us 0 new).toArray U (0,0))):=by
     refine .inr ⟨_,U,JF _ _ (hr.J? p1 _D),by rw[CP];exact g2,by simp;omega,by simp;omega,?_⟩;rw[L8 _ _ _ (uM hle)];simp only[List.take_zero,List.nil_append,Nat.zero_add];apply gp.append s4 s3;have:=g4.drop (lN ys);rw[s3];exact this
    let⟨K1,S1⟩:=hr.set (.cells (Abs.z_ us 0 new).toArray U (0,0)) p1 _D (blk:=.arr s (ys++es.drop (lN ys))) oC _U;refine⟨ph,ρ,{w with heap:=w.heap.setIfInBounds p.1 (.cells (Abs.z_ us 0 new).toArray U (0,0))},.int .i64 (lN ys),wrap (run (λq hq=>?_) (λh=>by cases h)),S1,K1,fZ w,hint⟩;cases hq;simp only[bW];exact j_.storeAt g1 (uM hle) hone
  .cases hc
 .cases hc
def IB{K:AV->oO->oU->Nat->Prop}{mo:ni}(hc:gu P mo o.op=tT)(hK:ev P get m n K mo):∃v rd wr n',gz P o get m rd wr v/\K v rd wr n':=by
 cases mo with
 |mv x=>
  cases ho:o.op<;>rw[ho]at hc<;>first|(simp[gu]at hc;done)|skip
  .exact⟨_,_,_,_,Vn (.inl ho) (by simpa[gu]using hc),hK⟩
  .exact⟨_,_,_,_,Vn (.inr ho) (by simpa[gu]using hc),hK⟩
 | pick c a b=>
  cases ho:o.op<;>rw[ho]at hc<;>first|(simp[gu]at hc;done)|skip
  simp only[gu,aG]at hc;simp only[ev]at hK;split at hK
  next t et=>
   refine⟨_,[],[],n,zHj ho hc.1.1 hc.1.2 hc.2 et,?_⟩;cases t
   .exact hK.2 rfl
   .exact hK.1 rfl
  .exact hK.elim
 | binI op x y=>
  cases ho:o.op<;>rw[ho]at hc<;>first|(simp[gu]at hc;done)|skip
  simp only[gu,aG,aI]at hc;obtain⟨⟨c0,c1⟩,c2⟩:=hc;subst c0;simp only[ev]at hK;split at hK
  next k i k' j ex ey=>
   obtain⟨k1,hK⟩:=hK;subst k1;split at hK
   next d hd=>
    exact⟨_,_,_,_,JJ ho c1 c2 (WV ex ey λph w _ _=>zJZ hd _ ph),hK⟩
   .exact hK.elim
  .exact hK.elim
 | divI op x y=>
  cases ho:o.op<;>rw[ho]at hc<;>first|(simp[gu]at hc;done)|skip
  simp only[gu,aG,aI,cz]at hc;obtain⟨⟨⟨c0,c3⟩,c1⟩,c2⟩:=hc;subst c0;simp only[ev]at hK;split at hK
  next k i k' j ex ey=>
   obtain⟨k1,k2,hK⟩:=hK;subst k1;refine⟨_,[],[],n,JJ ho c1 c2 (WV ex ey λph w h1 h2=>zIF c3 k2 h1 h2 _ ph),?_⟩;rcases c3 with rfl|rfl
   .rw[aC rfl];exact hK
   .rw[aB oD];exact hK
  .exact hK.elim
 | binS op x y=>
  cases ho:o.op<;>rw[ho]at hc<;>first|(simp[gu]at hc;done)|skip
  simp only[gu,aG,aI]at hc;obtain⟨⟨c0,c1⟩,c2⟩:=hc;subst c0;simp only[ev]at hK;split at hK
  next i j ex ey=>
   split at hK
   next d hd=>
    refine⟨_,_,_,_,JJ ho c1 c2 (λph ρ a b w ra rb=>?_),hK⟩;rw[ex]at ra;rw[ey]at rb;simp only[g_,m_,RepD]at ra rb;rw[ra.1,rb.1];exact⟨(by rintro⟨h,_⟩;cases h),(by rintro c d ⟨h,_⟩;cases h),zJ0 hd _ ph⟩
   .exact hK.elim
  .exact hK.elim
 | cat x y=>
  cases ho:o.op<;>rw[ho]at hc<;>first|(simp[gu]at hc;done)|skip
  simp only[gu,aG,aI]at hc;obtain⟨⟨c0,c1⟩,c2⟩:=hc;subst c0;simp only[ev]at hK;split at hK
  next i j ex ey=>
   obtain⟨k1,hK⟩:=hK;refine⟨_,_,_,_,JJ ho c1 c2 (λph ρ a b w ra rb=>?_),hK⟩;rw[ex]at ra;rw[ey]at rb;simp only[g_,m_,RepD]at ra rb;rw[ra.1,rb.1];exact⟨(by rintro⟨h,_⟩;cases h),(by rintro c d ⟨h,_⟩;cases h),yD k1 _ ph⟩
  .exact hK.elim
 | binB op x y=>
  cases ho:o.op<;>rw[ho]at hc<;>first|(simp[gu]at hc;done)|skip
  simp only[gu,aG,aI]at hc;obtain⟨⟨⟨c0,c3⟩,c1⟩,c2⟩:=hc;subst c0;split at c3
  next hT=>
   simp only[ev]at hK;split at hK
   next i j ex ey=>
    split at hK
    next d hd=>
     refine⟨_,_,_,_,JJ ho c1 c2 (λph ρ a b w ra rb=>?_),hK⟩;rw[ex]at ra;rw[ey]at rb;simp only[g_,m_,RepD]at ra rb;rw[ra,rb];exact⟨(by rintro⟨h,_⟩;cases h),(by rintro c d ⟨h,_⟩;cases h),zJ1 hd hT ph⟩
    .exact hK.elim
   .exact hK.elim
  .cases c3
 | not x=>
  cases ho:o.op<;>rw[ho]at hc<;>first|(simp[gu]at hc;done)|skip
  simp only[gu,aG,aI]at hc;obtain⟨c0,c1⟩:=hc;subst c0;simp only[ev]at hK;split at hK
  next i ex=>
   refine⟨_,_,_,_,Vo ho c1 (λph ρ a w ra=>?_),hK⟩;rw[ex]at ra;simp only[g_,m_,RepD]at ra;rw[ra];exact⟨_,fF _,rfl⟩
  .exact hK.elim
 | neg x=>
  cases ho:o.op<;>rw[ho]at hc<;>first|(simp[gu]at hc;done)|skip
  simp only[gu,aG,aI]at hc;obtain⟨c0,c1⟩:=hc;subst c0;simp only[ev]at hK;split at hK
  next k i ex=>
   refine⟨_,_,_,_,Vo ho c1 (λph ρ a w ra=>?_),hK⟩;rw[ex]at ra;simp only[g_,m_,RepD]at ra;rw[ra.1];refine⟨_,fF _,?_⟩;unfold RepD;exact⟨rfl,LY _ _⟩
  .exact hK.elim
 | convI k x=>
  cases ho:o.op<;>rw[ho]at hc<;>first|(simp[gu]at hc;done)|skip
  rename_i S U ox;simp only[gu,aG]at hc;obtain⟨⟨c0,c1⟩,c2⟩:=hc;split at c0
  next k' hU=>
   simp only[aI]at c0;subst c0;split at c1
   next d hS=>
    simp only[ev]at hK;split at hK
    next k' i ex=>
     refine⟨_,_,_,_,gz.Z_ λm' h1 ph ρ w a hr hg=>?_,hK⟩;have r1:=iV c2 (ph:=ph) (ρ:=ρ) (get:=get) (a:=a) λk hk=>hg k (by rw[ho];simp[Op.operands,hk]);rw[ex]at r1;simp only[g_,m_,RepD]at r1;refine⟨.int k (k.wrap i),?_,?_⟩
     .unfold execOp;rw[ho];refine fG ?_ (fF _);show j_ P (convert S U (a.eval ox)) w _ w;rw[r1.1];exact j_.convert_int hS hU
     .simp only[g_,m_];unfold RepD;exact⟨rfl,LY _ _⟩
    .exact hK.elim
   .cases c1
  .cases c0
 | boxP x=>
  cases ho:o.op<;>rw[ho]at hc<;>first|(simp[gu]at hc;done)|skip
  simp only[ev]at hK;split at hK
  next ds e=>
   exact⟨_,_,_,_,zJt ho (by simpa[gu]using hc) e,hK⟩
  .exact hK.elim
 | boxM x=>
  cases ho:o.op<;>rw[ho]at hc<;>first|(simp[gu]at hc;done)|skip
  simp only[ev]at hK;split at hK
  next cs e=>
   exact⟨_,_,_,_,zHB ho (by simpa[gu]using hc) e hK.1,hK.2⟩
  .exact hK.elim
 | alloc z=>
  cases ho:o.op<;>rw[ho]at hc<;>first|(simp[gu]at hc;done)|skip
  simp only[gu]at hc;split at hc
  next i hi=>
   simp only[aG]at hc;simp only[ev]at hK;exact⟨_,_,_,_,zFf ho hi hc.1 hc.2 hK.1,hK.2⟩
  .cases hc
 | build z ps=>
  cases ho:o.op<;>rw[ho]at hc<;>first|(simp[gu]at hc;done)|skip
  simp only[ev]at hK;split at hK
  next cs e=>
   exact⟨_,_,_,_,zDw ho hc e,hK⟩
  .exact hK.elim
 | buildSl s xs=>
  cases ho:o.op<;>rw[ho]at hc<;>first|(simp[gu]at hc;done)|skip
  simp only[ev]at hK;split at hK
  next es e=>
   exact⟨_,_,_,_,zzT ho hc e,hK⟩
  .exact hK.elim
 | buildSlM s xs=>
  cases ho:o.op<;>rw[ho]at hc<;>first|(simp[gu]at hc;done)|skip
  simp only[ev]at hK;split at hK
  next es e=>
   exact⟨_,_,_,_,zyR ho (by simpa only[gu]using hc) e hK.1,hK.2⟩
  .exact hK.elim
 |load ag sz x=>
  cases ho:o.op<;>rw[ho]at hc<;>first|(simp[gu]at hc;done)|skip
  simp only[gu,aG,ae]at hc;obtain⟨v,rd,h1,h2⟩:=zHA (m:=m) (K:=λv rd=>K v rd [] n) ho hc.1 hc.2 hK;exact⟨v,rd,[],n,h1,h2⟩
 | store sz x y=>
  cases ho:o.op<;>rw[ho]at hc<;>first|(simp[gu]at hc;done)|skip
  simp only[gu,aG]at hc;obtain⟨⟨c0,c1⟩,c2⟩:=hc;split at c0
  next i hi=>
   simp only[aG,ae,aI]at c0;obtain⟨wr,h1,h2⟩:=zFg (m:=m) (K:=λwr=>K (.c (.d .any)) [] wr n) ho hi c0.1 c0.2 c1 c2 hK;exact⟨_,[],wr,n,h1,h2⟩
  .cases c0
 |faddr off x=>
  cases ho:o.op<;>rw[ho]at hc<;>first|(simp[gu]at hc;done)|skip
  obtain⟨v,h1,h2⟩:=zFr (m:=m) (K:=λv=>K v [] [] n) ho hc hK;exact⟨v,[],[],n,h1,h2⟩
 |iaddrS s x i=>
  cases ho:o.op<;>rw[ho]at hc<;>first|(simp[gu]at hc;done)|skip
  obtain⟨v,h1,h2⟩:=zC1 (m:=m) (K:=λv=>K v [] [] n) ho hc hK;exact⟨v,[],[],n,h1,h2⟩
 |iaddrA len s x i=>
  cases ho:o.op<;>rw[ho]at hc<;>first|(simp[gu]at hc;done)|skip
  obtain⟨v,h1,h2⟩:=zC2 (m:=m) (K:=λv=>K v [] [] n) ho hc hK;exact⟨v,[],[],n,h1,h2⟩
 | idxS x i=>
  cases ho:o.op<;>rw[ho]at hc<;>first|(simp[gu]at hc;done)|skip
  simp only[ev]at hK;split at hK
  next t k j ex ei=>
   obtain⟨k1,hK⟩:=hK;split at hK
   next b hb=>
    exact⟨_,_,_,_,zHL ho hc ex ei k1 hb,hK⟩
   .exact hK.elim
  .exact hK.elim
 |len x=>
  cases ho:o.op<;>rw[ho]at hc<;>first|(simp[gu]at hc;done)|skip
  obtain⟨v,rd,h1,h2⟩:=zJf (m:=m) (K:=λv rd=>K v rd [] n) ho hc hK;exact⟨v,rd,[],n,h1,h2⟩
 | lenS x=>
  cases ho:o.op<;>rw[ho]at hc<;>first|(simp[gu]at hc;done)|skip
  simp only[ev]at hK;split at hK
  next t ex=>
   exact⟨_,_,_,_,zHf ho hc ex,hK⟩
  .exact hK.elim
 | nilck x=>
  cases ho:o.op<;>rw[ho]at hc<;>first|(simp[gu]at hc;done)|skip
  rename_i ox;have hx:M_ x ox=tT:=by simpa only[gu]using hc
  simp only[ev]at hK;split at hK
  next b q ex=>
   refine⟨_,_,_,_,Ld ho hx (λ{ph ρ v} r=>?_),by rw[ex];exact hK⟩;rw[ex]at r;simp only[g_,m_]at r;obtain⟨p,_,e⟩:=r;exact⟨_,e⟩
  next s b i q ex=>
   refine⟨_,_,_,_,Ld ho hx (λ{ph ρ v} r=>?_),by rw[ex];exact hK⟩;rw[ex]at r;simp only[g_,m_]at r;obtain⟨p,_,e⟩:=r;exact⟨_,e⟩
  next cs q ex=>
   refine⟨_,_,_,_,Ld ho hx (λ{ph ρ v} r=>?_),by rw[ex];exact hK⟩;rw[ex]at r;simp only[g_,m_,RepD]at r;obtain⟨B,p,e,_⟩:=r;exact⟨_,e⟩
  next q ex=>
   refine⟨_,_,_,_,Ld ho hx (λ{ph ρ v} r=>?_),by rw[ex];exact hK⟩;rw[ex]at r;simp only[g_,m_,RepD]at r;exact⟨_,r⟩
  .exact hK.elim
 | extract x i=>
  cases ho:o.op<;>rw[ho]at hc<;>first|(simp[gu]at hc;done)|skip
  simp only[gu,aG,ae]at hc;obtain⟨c0,c1⟩:=hc;subst c0;simp only[ev]at hK;split at hK
  next vs ex=>
   split at hK
   next v hv=>
    exact⟨_,_,_,_,zzB ho c1 ex hv,hK⟩
   .exact hK.elim
  .exact hK.elim
 |slice s x lo hi=>
  cases ho:o.op<;>rw[ho]at hc<;>first|(simp[gu]at hc;done)|skip
  obtain⟨v,h1,h2⟩:=zEM (m:=m) (K:=λv=>K v [] [] n) ho hc hK;exact⟨v,[],[],n,h1,h2⟩
 | sliceS x lo hi=>
  cases ho:o.op<;>rw[ho]at hc<;>first|(simp[gu]at hc;done)|skip
  simp only[ev]at hK;split at hK
  next t ex=>
   obtain⟨v,h1,h2⟩:=zCm (m:=m) (K:=λv=>K v [] [] n) ho hc ex hK;exact⟨v,[],[],n,h1,h2⟩
  .exact hK.elim
 | append s bytes x y=>
  cases ho:o.op<;>rw[ho]at hc<;>first|(simp[gu]at hc;done)|skip
  simp only[gu]at hc;split at hc
  next ox oy T T' hb ha hta=>
   simp only[aG,bB]at hc;obtain⟨⟨⟨⟨c0,c1⟩,c2⟩,c3⟩,c4⟩:=hc;split at c4
   next i hi=>
    simp only[aG,ae,aI]at c4;obtain⟨⟨⟨⟨⟨⟨d1,d2⟩,d3⟩,d4⟩,d5⟩,d6⟩,d7⟩:=c4;obtain⟨v,rd,wr,h1,h2⟩:=zCn (m:=m) (n:=n) (K:=λv rd wr=>K v rd wr (n+1)) ho hb ha hta c0 c1 c2 c3 hi d1 d2 d3 d4 d5 d6 d7 hK;exact⟨v,rd,wr,n+1,h1,h2⟩
   .cases c4
  .cases hc
 | mkfn f k_=>
  cases ho:o.op<;>rw[ho]at hc<;>first|(simp[gu]at hc;done)|skip
  simp only[ev]at hK;split at hK
  next cs e=>
   split at hK
   next ds hd=>
    have:=FV hd;subst this;exact⟨_,_,_,_,(WU ho hc e).weaken PP,hK⟩
   .exact⟨_,_,_,_,WU ho hc e,hK⟩
  .exact hK.elim
 | call f xs=>
  cases ho:o.op<;>rw[ho]at hc<;>first|(simp[gu]at hc;done)|skip
  simp only[ev]at hK;split at hK
  next ds e=>
   obtain⟨v,hp,hK⟩:=hK;exact⟨_,_,_,_,zHh ho hc e hp,hK⟩
  .exact hK.elim
 |mkmap=>
  cases ho:o.op<;>rw[ho]at hc<;>first|(simp[gu]at hc;done)|skip
  simp only[ev]at hK;exact⟨_,_,_,_,zFy ho (by simpa only[gu]using hc) hK.1,hK.2⟩
 | mlook kk ok ag z x k=>
  cases ho:o.op<;>rw[ho]at hc<;>first|(simp[gu]at hc;done)|skip
  simp only[ev]at hK;split at hK
  next b d ex ek=>
   split at hK
   next es em=>
    split at hK
    next i v hf=>
     exact⟨_,_,_,_,JL ho hc ek (WG ex em) hf,hK⟩
    next hf=>
     exact⟨_,_,_,_,JL ho hc ek (WG ex em) hf,hK⟩
    .exact hK.elim
   .exact hK.elim
  next ks us d ex ek=>
   split at hK
   next i v hf=>
    exact⟨_,_,_,_,JL ho hc ek (WI ex) hf,hK⟩
   next hf=>
    exact⟨_,_,_,_,JL ho hc ek (WI ex) hf,hK⟩
   .exact hK.elim
  next d ex ek=>
   exact⟨_,_,_,_,JL (res:=nN) ho hc ek (zFB ex) rfl,hK⟩
  .exact hK.elim
 | mset kk x k v=>
  cases ho:o.op<;>rw[ho]at hc<;>first|(simp[gu]at hc;done)|skip
  all_goals
   simp only[gu,aG]at hc;simp only[ev]at hK;split at hK
   next b d ex ek=>
    split at hK
    next es em=>
     split at hK
     next i v' hf=>
      first
       |exact⟨_,_,_,_,Lg (.inl ho) hc.1.1.1 hc.1.1.2 hc.1.2 hc.2 ex ek em hf,hK⟩
       |exact⟨_,_,_,_,Lg (.inr ho) hc.1.1.1 hc.1.1.2 hc.1.2 hc.2 ex ek em hf,hK⟩
     next hf=>
      first
       |exact⟨_,_,_,_,Lg (.inl ho) hc.1.1.1 hc.1.1.2 hc.1.2 hc.2 ex ek em hf,hK⟩
       |exact⟨_,_,_,_,Lg (.inr ho) hc.1.1.1 hc.1.1.2 hc.1.2 hc.2 ex ek em hf,hK⟩
     .exact hK.elim
    .exact hK.elim
   .exact hK.elim
 | mkslM z bytes x y=>
  cases ho:o.op<;>rw[ho]at hc<;>first|(simp[gu]at hc;done)|skip
  simp only[ev]at hK;split at hK
  next j l ex ey=>
   exact⟨_,_,_,_,zFD ho hc ex ey hK.1 hK.2.1 hK.2.2.1 hK.2.2.2.1,hK.2.2.2.2⟩
  .exact hK.elim
 |callX f xs=>exact hK.elim
 |panicX x=>exact hK.elim
 | mkifc T ag x=>
  cases ho:o.op<;>rw[ho]at hc<;>first|(simp[gu]at hc;done)|skip
  simp only[ev]at hK;split at hK
  next cs ex=>
   split at hK
   next ds ed=>
    exact⟨_,_,_,_,WW ho hc (.inl ⟨rfl,cs,ex,ed⟩),hK⟩
   .exact hK.elim
  next d ex=>
   exact⟨_,_,_,_,WW ho hc (.inr ⟨rfl,d,ex,hK.1,rfl⟩),hK.2⟩
  .exact hK.elim
 | copy s x y=>
  cases ho:o.op<;>rw[ho]at hc<;>first|(simp[gu]at hc;done)|skip
  simp only[ev]at hK;split at hK
  next s' b off len ex=>
   split at hK
   next s'' es em=>
    obtain⟨rfl,rfl,rfl,h4,hK⟩:=hK;obtain⟨v,rd,wr,h1,h2⟩:=zHi (K:=λv rd wr=>K v rd wr n) ho hc ex em h4 hK;exact⟨v,rd,wr,n,h1,h2⟩
   .exact hK.elim
  .exact hK.elim
 | minI mx x y=>
  cases ho:o.op<;>rw[ho]at hc<;>first|(simp[gu]at hc;done)|skip
  simp only[ev]at hK;split at hK
  next k a k' b ex ey=>
   obtain⟨rfl,hK⟩:=hK;exact⟨_,_,_,_,zHV ho hc ex ey,hK⟩
  .exact hK.elim
 | isNilP ne x=>
  cases ho:o.op<;>rw[ho]at hc<;>first|(simp[gu]at hc;done)|skip
  simp only[ev]at hK;split at hK
  next ex=>
   exact⟨_,_,_,_,Lh ho hc (.inl ⟨ex,rfl⟩),hK⟩
  next cs off ex=>
   exact⟨_,_,_,_,Lh ho hc (.inr ⟨.inl ⟨cs,off,ex⟩,rfl⟩),hK⟩
  next b o ex=>
   exact⟨_,_,_,_,Lh ho hc (.inr ⟨.inr (.inl ⟨b,o,ex⟩),rfl⟩),hK⟩
  next s b i o ex=>
   exact⟨_,_,_,_,Lh ho hc (.inr ⟨.inr (.inr ⟨s,b,i,o,ex⟩),rfl⟩),hK⟩
  .exact hK.elim
 | isNil ne x=>
  cases ho:o.op<;>rw[ho]at hc<;>first|(simp[gu]at hc;done)|skip
  simp only[ev]at hK;split at hK
  next ex=>
   exact⟨_,_,_,_,WN ho hc ex (.inr ⟨oC,rfl⟩),hK⟩
  next ex=>
   exact⟨_,_,_,_,WN ho hc ex (.inl rfl),hK⟩
  next ex=>
   exact⟨_,_,_,_,zC7 ho hc ex hK.1,hK.2⟩
  .exact hK.elim
 | eqAg ne ks x y=>
  cases ho:o.op<;>rw[ho]at hc<;>first|(simp[gu]at hc;done)|skip
  simp only[ev]at hK;split at hK
  next cs cs' ex ey=>
   split at hK
   next a b ea eb=>
    split at hK
    next t ht=>
     exact⟨_,_,_,_,zHU ho hc ex ey ea eb ht,hK⟩
    .exact hK.elim
   .exact hK.elim
  .exact hK.elim
 | callM f xs=>
  cases ho:o.op<;>rw[ho]at hc<;>first|(simp[gu]at hc;done)|skip
  simp only[ev,Ad]at hK;obtain⟨l,args,bs,v,_d,hp,hnd,_V,hvs,hal,_k,hat,hfr,hK⟩:=hK;refine⟨_,_,_,_,WR hp hnd _V hal _k hat hfr (λph ρ w a hg=>?_),hK⟩;simp only[gu,aG]at hc;obtain⟨c0,c1⟩:=hc;rename_i c;split at c0
  next g hg'=>
   simp only[ae]at c0;subst c0;have rv:=JG c1 (ph:=ph) (ρ:=ρ) (get:=get) (a:=a) λk hk=>hg k (by rw[ho];simp[Op.operands,Call.operands,hg'];simpa using hk);refine⟨_,hvs▸rv,?_⟩;unfold execOp;rw[ho];show j_ P (do let d<-resolve a.eval c o.type;invoke d.target d.args) w _ w;unfold resolve;rw[hg'];refine(fF _).bind ?_;have e1:(c.args.toList.map a.eval).toArray=c.args.map a.eval:=by apply dV;simp
   rw[e1];simp only[invoke,dz,Array.append_empty];have:=Lm (w:=w) (args:=c.args.map a.eval) hp.1;simpa using this
  .cases c0
 | calldM x xs=>
  cases ho:o.op<;>rw[ho]at hc<;>first|(simp[gu]at hc;done)|skip
  rename_i c;simp only[ev]at hK;have key:∀(f:FuncId) (k_:o7),X get x=.c (.fn (.func f) k_)\/(∃ds,k_=ds.map .d/\X get x=.c (.d (.fn (.func f) ds)))->Ad P f (xs.map (X get)++k_.map .c) m n K->∃v rd wr n',gz P o get m rd wr v/\K v rd wr n':=by
   intro f k_ _T hK;simp only[Ad]at hK;obtain⟨l,args,bs,v,_d,hp,hnd,_V,hvs,hal,_k,hat,hfr,hK⟩:=hK;refine⟨_,_,_,_,WR hp hnd _V hal _k hat hfr (λph ρ w a hg=>?_),hK⟩;simp only[gu,aG]at hc;obtain⟨c0,c1⟩:=hc;split at c0
   next ox hg'=>
    have rx:=iV c0 (ph:=ph) (ρ:=ρ) (get:=get) (a:=a) λk hk=>hg k (by rw[ho];simp[Op.operands,Call.operands,hg',hk]);have rv:=JG c1 (ph:=ph) (ρ:=ρ) (get:=get) (a:=a) λk hk=>hg k (by rw[ho];simp[Op.operands,Call.operands,hg'];right;simpa using hk);have rcap:∃vs:oP,a.eval ox=.func (.func f) #[] vs.toArray/\lN vs=lN k_/\gY ph ρ k_ vs:=by
     rcases _T with e|⟨ds,rfl,e⟩
     .rw[e]at rx;simpa only[g_,m_]using rx
     .rw[e]at rx;simp only[g_,m_,RepD]at rx;obtain⟨vs,e1,e2,e3⟩:=rx;exact⟨vs,e1,by simpa using e2,gY.of_D e3⟩
    obtain⟨vs,e1,e2,e3⟩:=rcap;have app:∀(as:oo) (us:oP),iC ph ρ as us->∀(cs:o7) (ws:oP),lN ws=lN cs->gY ph ρ cs ws->iC ph ρ (as++cs.map .c) (us++ws):=by
     intro as
     induction as with
     | nil=>
      intro us hu cs;simp only[iC]at hu;subst hu
      induction cs with
      |nil=>intro ws hl _;cases ws<;>simp_all[iC]
      | cons c cs ih=>
       intro ws hl hr;cases ws with
       |nil=>simp at hl
       |cons w ws=>
        simp only[gY]at hr;simp only[List.nil_append,List.map_cons,iC,g_];exact⟨hr.1.2,by simpa using ih ws (by simpa using hl) hr.2⟩
     | cons x as ih=>
      intro us hu cs ws hl hr;cases us with
      |nil=>simp[iC]at hu
      |cons u us=>
       simp only[iC]at hu;simp only[List.cons_append,iC];exact⟨hu.1,ih us hu.2 cs ws hl hr⟩
    refine⟨_,hvs▸app _ _ rv k_ vs e2 e3,?_⟩;unfold execOp;rw[ho];show j_ P (do let d<-resolve a.eval c o.type;invoke d.target d.args) w _ w;unfold resolve;rw[hg'];simp only[e1];refine(fF _).bind ?_;have e4:(c.args.toList.map a.eval++vs).toArray=c.args.map a.eval++vs.toArray:=by apply dV;simp
    rw[e4];simp only[invoke,dz];exact Lm (w:=w) (args:=c.args.map a.eval++vs.toArray) hp.1
   .cases c0
  split at hK
  next f k_ ex=>
   exact key f k_ (.inl ex) hK
  next f k_ ex=>
   apply key f (k_.map .d) (.inr ⟨k_,rfl,ex⟩);rw[dP];exact hK
  .exact hK.elim
end
end Go.Abs
namespace Go.Abs
variable {a:Act}{dst:Option Nat}{ops:Array Oper}{m:Hp}{w:World}{v:Value}{t j:Nat}{h:PH}{ρ:RM}{b:Bool}{o:Oper}
variable [jE]
def look:List (Nat × AV)->Nat->AV
|[],_=>.c (.d .any)
|(k,v)::l,j=>if j=k then v else look l j
structure St where
 t:List (Nat × AV)
 m:Hp
 n:Nat
def St.get(S:St)(k:Nat):AV:=look S.t k
structure MO where
 g:Option (Nat × Bool)
 dst:Option Nat
 op:ni
abbrev sH:=List MO
def St.put(S:St)(dst:Option Nat)(v:AV)(wr:oU)(n:Nat):St:=
⟨match dst with|some d=>(d,v)::S.t|none=>S.t,jW S.m wr,n⟩
def jm:AV:=.c (.d (.sc undef))
def St.D?(S:St)(t:Nat)(b:Bool):St:=⟨(t,.c (.d (.bool b)))::S.t,S.m,S.n⟩
def St.know_get{S:St}{t:Nat}{b:Bool}(h:S.get t=.c (.d (.bool b))):(S.D? t b).get=S.get:=by
 funext k;unfold St.get St.D? at*
 simp only[look];split
 next e=>rw[e,h]
 .rfl
def qc(P:Program):List MO->St->(St->Prop)->Prop
|[],S,K=>K S
| o::os,S,K=>match o.g with
 |none=>ev P S.get S.m S.n (λv _ wr n=>qc P os (S.put o.dst v wr n) K) o.op
 |some (t,want)=>match S.get t with
  |.c (.d (.bool b))=>(b=want->ev P (S.D? t want).get S.m S.n (λv _ wr n=>qc P os ((S.D? t want).put o.dst v wr n) K) o.op)/\(b=(!want)->qc P os ((S.D? t (!want)).put o.dst jm [] S.n) K)
  |.c (.d (.sc (.tuple _)))=>qc P os (S.put o.dst jm [] S.n) K
  |_=>False
structure Ctx where
 h:PH
 ρ:RM
 m:Hp
 w:World
 N:Nat
 D:List Deferred:=[]
structure jo (P:Program) (c:Ctx) (get:Nat->AV) (m:Hp) (a:Act) (w:World):Prop where
 gnd:Ac P c.h
 sd:jE.ok c.h (jK c.ρ c.m) c.w
 defers:a.defers=c.D
 size:a.tmps.size=c.N
 ex:∃(h:PH) (ρ:RM),E_ h ρ m w.heap/\tY c.h c.ρ c.m c.w.heap h ρ m w.heap/\Same c.w w/\∀k,g_ h ρ (get k) (a.tmps.getD k undef)
def jo.side{P:Program}{c:Ctx}{get:Nat->AV}(r:jo P c get m a w)(S0:tY c.h c.ρ c.m c.w.heap h ρ m w.heap):jE.ok h (jK ρ m) w:=
 jE.mono r.sd S0.hle S0.size λB hB hf=>⟨S0.hlow B hB hf,S0.frame B hB hf,S0.free hB hf⟩
def zS(ops:Array Oper):Option (Nat × Bool)->Option (Nat × Bool)->Bool
|none,nN=>tT
|some (t,b),sS (j,b')=>b==b'&&((ops[j]?).bind (·.dst))==sS t
|_,_=>oK
def DW(P:Program)(N:Nat)(ops:Array Oper)(mo:MO)(o:Oper):Bool:=
 gu P mo.op o.op&&mo.dst==o.dst&&(match mo.dst with|some d=>decide (d<N)|none=>tT)&&zS ops mo.g o.guard
def lw(P:Program)(N:Nat)(ops:Array Oper):List MO->List Oper->Bool
|[],[]=>tT
|mo::_l,o::os=>DW P N ops mo o&&lw P N ops _l os
|_,_=>oK
section
variable {P:Program} {c:Ctx}
def WY{k:Nat}(h:∀d,dst=sS d->d<a.tmps.size):
  (a.put dst v).tmps.getD k undef=if dst=sS k then v else a.tmps.getD k undef:=by
 cases dst with
 |none=>simp[Act.put]
 | some d=>
  have hd:=h d rfl;simp only[Act.put,aU];by_cases hk:d=k
  .subst hk;simp[aZ,hd]
  .rw[aB hk];simp[aZ,bU hk]
def WZ:(a.put dst v).tmps.size=a.tmps.size:=by
 cases dst<;>simp[Act.put]
def put_defers:(a.put dst v).defers=a.defers:=by
 cases dst<;>rfl
def lW(g:Nat->AV)(dst:Option Nat)(v:AV):Nat->AV:=λk=>if dst=sS k then v else g k
def St.put_get(S:St)(dst:Option Nat)(v:AV)(wr:oU)(n:Nat):(S.put dst v wr n).get=lW S.get dst v:=by
 funext k;unfold St.get St.put lW;cases dst with
 |none=>simp
 |some d=>
  simp only[look,aU];by_cases h:k=d
  .subst h;simp
  .rw[aB h,aB (Ne.symm h)]
def PQ{get:Nat->AV}{m':Hp}{w':World}{h':PH}{ρ':RM}{v:AV}{vC:Value}(hG:Ac P c.h)(hsd:jE.ok c.h (jK c.ρ c.m) c.w)(hdef:a.defers=c.D)(hsz:a.tmps.size=c.N)(hd:∀d,dst=sS d->d<c.N)
  (S0:tY c.h c.ρ c.m c.w.heap h ρ m w.heap) (e0:Same c.w w) (hg:∀k,g_ h ρ (get k) (a.tmps.getD k undef)) (S:Step h ρ m w.heap h' ρ' m' w'.heap) (H:E_ h' ρ' m' w'.heap) (e:Same w w') (rv:g_ h' ρ' v vC):
  jo P c (lW get dst v) m' (a.put dst vC) w' where
 gnd:=hG
 sd:=hsd
 defers:=by rw[Go.Abs.put_defers];exact hdef
 size:=by rw[WZ];exact hsz
 ex:=by
  refine⟨h',ρ',H,S0.trans S,e0.trans e,λk=>?_⟩;rw[WY (λd h=>by rw[hsz];exact hd d h)];unfold lW;split
  .exact rv
  .exact g_.mono S.hle S.rle _ _ (hg k)
def PR{get:Nat->AV}(r:jo P c get m a w)(hd:∀d,dst=sS d->d<c.N):jo P c (lW get dst jm) m (a.put dst undef) w where
 gnd:=r.gnd
 sd:=r.sd
 defers:=by rw[Go.Abs.put_defers];exact r.defers
 size:=by rw[WZ];exact r.size
 ex:=by
  let⟨h,ρ,H,S0,e0,hg⟩:=r.ex;refine⟨h,ρ,H,S0,e0,λk=>?_⟩;rw[WY (λd h=>by rw[r.size];exact hd d h)];unfold lW;split
  .simp[jm,g_,m_,RepD]
  .exact hg k
def W9(h:((ops[j]?).bind (·.dst))=sS t)(e:a.tmps.getD t undef=.bool b):yielded ops a.tmps j=sS b:=by
 unfold yielded;rw[h];simp only[Option.bind_some];rw[aZ]at e;cases ht:a.tmps[t]? with
 |none=>rw[ht]at e;cases e
 |some v=>rw[ht]at e;simp only[Option.getD_some]at e;rw[e]
def zvZ{x:Array Value}(h:((ops[j]?).bind (·.dst))=sS t)(e:a.tmps.getD t undef=.tuple x):yielded ops a.tmps j=nN:=by
 unfold yielded;rw[h];simp only[Option.bind_some];rw[aZ]at e;cases ht:a.tmps[t]? with
 |none=>rfl
 |some v=>rw[ht]at e;simp only[Option.getD_some]at e;rw[e]
def IC{g:Option (Nat × Bool)}(h:zS ops g o.guard=tT)(hy:∀t b,g=sS (t,b)->a.tmps.getD t undef=.bool b):Region.wanted o (yielded ops a.tmps)=tT:=by
 unfold Region.wanted;unfold zS at h;split at h
 next hg=>rw[hg]
 next t b j b' hg=>
  simp only[aG,ae]at h;rw[hg];simp only[W9 h.2 (hy t b rfl),ae];rw[h.1]
 .cases h
def JM(h:zS ops (sS (t,b)) o.guard=tT)(hy:(a.tmps.getD t undef=.bool (!b))\/∃x,a.tmps.getD t undef=.tuple x):Region.wanted o (yielded ops a.tmps)=oK:=by
 unfold Region.wanted;unfold zS at h;split at h
 next e _=>cases e
 next t' b' j b'' e hg=>
  cases e;simp only[aG,ae]at h;let⟨h1,h2⟩:=h;subst h1;rw[hg];dsimp only;rcases hy with hy|⟨x,hy⟩
  .rw[W9 h2 hy];cases b<;>rfl
  .rw[zvZ h2 hy];rfl
 .cases h
def PT{Q:Exit->Act->World->Prop}{K:St->Prop}(hQ:∀S a w,jo P c S.get S.m a w->K S->Q .normal a w):∀{_l:List MO} {os:List Oper} {i:Nat} {S:St} {a:Act} {w:World},lw P c.N ops _l os=tT->
 (∀j o,os[j]?=sS o->ops[i+j]?=sS o)->qc P _l S K->jo P c S.get S.m a w->wpOps P ops Q (List.range' i (lN os)) a w
|[],[],i,S,a,w,_,_,h,r=>by simp only[List.length_nil,List.range'_zero,wpOps];exact hQ S a w r h
|[],_::_,_,_,_,_,h,_,_,_=>by simp[lw]at h
|_::_,[],_,_,_,_,h,_,_,_=>by simp[lw]at h
| mo::_l,o::os,i,S,a,w,hc,hi,h,r=>by
 simp only[lw,aG]at hc;let⟨hc0,_W⟩:=hc;simp only[DW,aG,ae]at hc0;let⟨⟨⟨c1,c2⟩,c3⟩,c4⟩:=hc0;have hd:∀d,mo.dst=sS d->d<c.N:=λd hd=>by rw[hd]at c3;simpa using c3
 have ho:=hi 0 o oC;simp only[Nat.add_zero]at ho;have hi':∀j o',os[j]?=sS o'->ops[i+1+j]?=sS o':=λj o' hj=>by
  have:=hi (j+1) o' (uM hj);rwa[show i+(j+1)=i+1+j from by omega]at this
 simp only[List.length_cons,dQ,wpOps,ho];have run:∀S₁:St,S₁.get=S.get->S₁.m=S.m->ev P S.get S.m S.n (λv _ wr n=>qc P _l (S₁.put mo.dst v wr n) K) mo.op->o.wp P a w (wpOps P ops Q (List.range' (i+1) (lN os))) Q:=by
  intro S₁ eg em he;let⟨v,rd,wr,n',hs,hk⟩:=IB c1 he;let⟨ph,ρ,H,S0,e0,hg⟩:=r.ex;refine hs S.m (λ_ _=>rfl) (λ_ _=>rfl) ph ρ w a H (r.gnd.mono S0.hle) (r.side S0) (λk _=>hg k) _ _ λh' ρ' w' vC st K' e rv=>?_;rw[<-c2];apply PT hQ _W hi' hk;rw[St.put_get,eg];have e2:(S₁.put mo.dst v wr n').m=jW S.m wr:=by rw[<-em];rfl
  rw[e2];exact PQ r.gnd r.sd r.defers r.size hd S0 e0 hg st K' e rv
 have skip:∀S₁:St,S₁.get=S.get->S₁.m=S.m->qc P _l (S₁.put mo.dst jm [] S.n) K->wpOps P ops Q (List.range' (i+1) (lN os)) (a.put o.dst undef) w:=by
  intro S₁ eg em hk;rw[<-c2];apply PT hQ _W hi' hk;rw[St.put_get,eg];have e2:(S₁.put mo.dst jm [] S.n).m=S.m:=by rw[<-em];rfl
  rw[e2];exact PR r hd
 let⟨ph,ρ,H,S0,e0,hg⟩:=r.ex;simp only[qc]at h;split at h
 next hgm=>
  rw[hgm]at c4;rw[aC (IC c4 (λt b hh=>by cases hh))];exact .inl (run S rfl rfl h)
 next t want hgm=>
  rw[hgm]at c4;have rt:=hg t;split at h
  next b et=>
   rw[et]at rt;simp only[g_,m_,RepD]at rt;by_cases hb:b=want
   .subst hb;rw[aC (IC c4 (λt' b' hh=>by cases hh;exact rt))];have h1:=h.1 rfl;rw[St.know_get et]at h1;exact .inl (run _ (St.know_get et) rfl h1)
   .have hb':b=(!want):=by cases b<;>cases want<;>simp_all
    rw[aB (by rw[JM c4 (.inl (by rw[rt,hb']))];simp)];exact skip _ (St.know_get (by rw[et,hb'])) rfl (h.2 hb')
  next x et=>
   rw[et]at rt;simp only[g_,m_,RepD]at rt;rw[aB (by rw[JM c4 (.inr ⟨x,rt⟩)];simp)];exact skip S rfl rfl h
  .exact h.elim
end
abbrev gF:=@St.know_get
end Go.Abs
namespace Go.Abs
variable {ops:Array Oper}{l:Array Bool}{j i k N:Nat}{_j:List Nat}{m:Hp}{o:Oper}{w:World}{_l:List MO}{Q:Exit->Act->World->Prop}
variable [jE]
abbrev FP:=List Nat × List Nat
variable {a b:FP}
abbrev sK:=List FP
def lJ(P:Program):List MO->St->List FP->(St->List FP->Prop)->Prop
|[],S,_i,K=>K S _i.reverse
| o::os,S,_i,K=>match o.g with
 |none=>ev P S.get S.m S.n (λv rd wr n=>lJ P os (S.put o.dst v wr n) ((rd,wr.map (·.1))::_i) K) o.op
 |some (t,want)=>match S.get t with
  |.c (.d (.bool b))=>(b=want->ev P (S.D? t want).get S.m S.n (λv rd wr n=>lJ P os ((S.D? t want).put o.dst v wr n) ((rd,wr.map (·.1))::_i) K) o.op)/\(b=(!want)->lJ P os ((S.D? t (!want)).put o.dst jm [] S.n) (([],[])::_i) K)
  |.c (.d (.sc (.tuple _)))=>lJ P os (S.put o.dst jm [] S.n) (([],[])::_i) K
  |_=>False
def touch(a b:FP):Bool:=a.2.any (λx=>b.1.contains x||b.2.contains x)||b.2.any (λx=>a.1.contains x)
def zT(_j:oO)(_i:List FP):Bool:=
(List.range (lN _i)).all λj=>(List.range j).all λi=>(_j.getD j 0).testBit i|| !touch (_i.getD i ([],[])) (_i.getD j ([],[]))
def JN(ops:Array Oper)(_j:oO):Bool:=
(List.range ops.size).all λj=>match ops[j]? with
 |some o=>(o.after.all λe=> !Region.binds .any e||decide (e.on<j))&&
  (List.range ops.size).all λi=> !(_j.getD j 0).testBit i||o.after.any λe=>Region.binds .any e&&(e.on==i||(_j.getD e.on 0).testBit i)
 |none=>oK
def JO(ops:Array Oper)(_j:oO):Bool:=
(List.range ops.size).all λj=>(List.range j).all λi=>(_j.getD j 0).testBit i||match ops[i]?,ops[j]? with
 |some a,sS b=>a.apart ops b
 |_,_=>oK
section
variable {α:Type}
def vQ:(Nat->α)->List (Nat × α)->(Nat->α)
|f,[]=>f
|f,(k,v)::l=>vQ (upd f k v) l
def DX:∀(l:List (Nat × α)) (f:Nat->α) (k:Nat),(∀x,x∈l->x.1≠k)->vQ f l k=f k
|[],_,_,_=>rfl
|(j,v)::l,f,k,h=>by
 simp only[vQ];rw[DX l _ k (λx hx=>h x (by simp[hx]))];exact zao _ _ (Ne.symm (h (j,v) oC))
def PU:∀(l:List (Nat × α)) (f g:Nat->α) (k:Nat),(∃x,x∈l/\x.1=k)->vQ f l k=vQ g l k
|[],_,_,_,h=>by let⟨x,hx,_⟩:=h;cases hx
| (j,v)::l,f,g,k,h=>by
 simp only[vQ];by_cases hk:∃x,x∈l/\x.1=k
 .exact PU l _ _ k hk
 .have _A:∀x,x∈l->x.1≠k:=λx hx e=>hk ⟨x,hx,e⟩;rw[DX l _ k _A,DX l _ k _A];let⟨x,hx,e⟩:=h;rcases aM.1 hx with hx|hx
  .subst hx;simp only at e;subst e;simp[zam]
  .exact absurd e (_A x hx)
def zDK(l:List (Nat × α)){f g:Nat->α}(h:f k=g k):vQ f l k=vQ g l k:=by
 by_cases hk:∃x,x∈l/\x.1=k
 .exact PU l f g k hk
 .have _A:∀x,x∈l->x.1≠k:=λx hx e=>hk ⟨x,hx,e⟩;rw[DX l f k _A,DX l g k _A,h]
def I_(s:Nat->Bool):Nat->(Nat->α)->List (List (Nat × α))->(Nat->α)
|_,f,[]=>f
|i,f,x::l=>I_ s (i+1) (if s i then vQ f x else f) l
def DY:∀(l:List (List (Nat × α))) (i:Nat) (s t:Nat->Bool) (f g:Nat->α),(∀q x,l[q]?=sS x->(∃y,y∈x/\y.1=k)->s (i+q)=t (i+q))->f k=g k->I_ s i f l k=I_ t i g l k
|[],_,_,_,_,_,_,h=>h
| x::l,i,s,t,f,g,hs,h=>by
 simp only[I_];refine DY l (i+1) s t _ _ (λq y hq hy=>?_) ?_
 .have:=hs (q+1) y (uM hq) hy;rwa[show i+1+q=i+(q+1)from by omega]
 .by_cases hk:∃y,y∈x/\y.1=k
  .have:=hs 0 x oC hk;simp only[Nat.add_zero]at this;rw[this];split
   .exact zDK x h
   .exact h
  .have _A:∀y,y∈x->y.1≠k:=λy hy e=>hk ⟨y,hy,e⟩;have e1:(if s i then vQ f x else f) k=f k:=by split<;>simp[DX x f k _A]
   have e2:(if t i then vQ g x else g) k=g k:=by split<;>simp[DX x g k _A]
   rw[e1,e2,h]
def PV:∀(l:List (List (Nat × α))) (i j:Nat) (s t:Nat->Bool) (f:Nat->α) (x:List (Nat × α)),l[j]?=sS x->(∀q,s (i+q)=(t (i+q)||q==j))->(t (i+j)=oK)->
 (∀q y,j<q->l[q]?=sS y->t (i+q)=tT->(∃z,z∈x/\z.1=k)->∀z,z∈y->z.1≠k)->I_ s i f l k=vQ (I_ t i f l) x k
|[],_,_,_,_,_,_,h,_,_,_=>by simp at h
| y ::l,i,0,s,t,f,x,h,hs,ht,hn=>by
 simp at h;subst h;have h0:=hs 0;simp only[Nat.add_zero,beq_self_eq_true,Bool.or_true]at h0 ht;simp only[I_];rw[h0,ht];simp only[if_true,bD,if_false];have hst:∀q,s (i+1+q)=t (i+1+q):=λq=>by
  have:=hs (q+1);rw[show i+(q+1)=i+1+q from by omega]at this;simpa using this
 by_cases hk:∃z,z∈y/\z.1=k
 ·-- the later ones do not write it
  have later:∀(f:Nat->α),I_ t (i+1) f l k=f k:=by
   intro f;have:I_ t (i+1) f l k=I_ (λ_=>oK) (i+1) f l k:=by
    refine DY l (i+1) t (λ_=>oK) f f (λq x hq hx=>?_) rfl;have h2:=hn (q+1) x oM (uM hq);rw[show i+(q+1)=i+1+q from by omega]at h2;cases htq:t (i+1+q)with
    |false=>rfl
    |true=>
     let⟨z,hz,e⟩:=hx;exact absurd e (h2 htq hk z hz)
   rw[this];have nN:∀(l:List (List (Nat × α))) (i:Nat) (f:Nat->α),I_ (λ_=>oK) i f l=f:=by
    intro l
    induction l with
    |nil=>intro i f;rfl
    |cons x l ih=>intro i f;simp only[I_];exact ih _ _
   rw[nN]
  have e1:I_ s (i+1) (vQ f y) l k=I_ t (i+1) (vQ f y) l k:=DY l (i+1) s t _ _ (λq _ _ _=>hst q) rfl;rw[e1,later];exact PU y _ _ k hk
 .have _A:∀z,z∈y->z.1≠k:=λz hz e=>hk ⟨z,hz,e⟩;rw[DX y _ k _A];exact DY l (i+1) s t _ _ (λq _ _ _=>hst q) (DX y f k _A)
| y::l,i,j+1,s,t,f,x,h,hs,ht,hn=>by
 have h0:=hs 0;simp only[Nat.add_zero]at h0;have h0':s i=t i:=uM h0;simp only[I_,h0'];refine PV l (i+1) j s t _ x (uM h) (λq=>?_) ?_ (λq z hq hz htq hx w hw=>?_)
 .have:=hs (q+1);rw[show i+(q+1)=i+1+q from by omega]at this;simpa using this
 .rwa[show i+1+j=i+(j+1)from by omega]
 .exact hn (q+1) z oM (uM hz) (by rwa[show i+(q+1)=i+1+q from by omega]) hx w hw
end
structure E where
 v:AV
 rd:List Nat
 wr:List (Nat × A_)
variable {es:List E}
def zU(get:Nat->AV):Option (Nat × Bool)->Prop
|none=>True
|some (t,b)=>get t=.c (.d (.bool b))
def Wd(get:Nat->AV):Option (Nat × Bool)->Prop
|none=>False
|some (t,b)=>get t=.c (.d (.bool (!b)))\/∃x,get t=.c (.d (.sc (.tuple x)))
def zV(P:Program)(get:Nat->AV)(m:Hp)(mo:MO)(o:Oper)(e:E):Prop:=
(zU get mo.g/\gz P o get m e.rd e.wr e.v)\/(Wd get mo.g/\e.v=jm/\e.rd=[]/\e.wr=[])
def dw(mo:MO)(e:E):oZ:=match mo.dst with|some d=>[(d,e.v)]|none=>[]
def F3:∀(l:List (Nat × A_)) (m:Hp),jW m l=vQ m l
|[],_=>rfl
|(k,v)::l,m=>by simp only[jW,vQ];exact F3 l _
def JP(get:Nat->AV)(mo:MO)(e:E):lW get mo.dst e.v=vQ get (dw mo e):=by
 unfold lW dw;cases mo.dst with
 |none=>funext k;simp[vQ]
 |some d=>
  funext k;simp only[vQ,upd,aU];by_cases h:d=k
  .subst h;simp
  .rw[aB h,aB (Ne.symm h)]
def kC(P:Program):(Nat->AV)->Hp->List MO->List Oper->List E->Prop
|_,_,[],[],[]=>True
|get,m,mo::_l,o::os,e::es=>zV P get m mo o e/\kC P (lW get mo.dst e.v) (jW m e.wr) _l os es
|_,_,_,_,_=>False
def We{P:Program}{K:St->List FP->Prop}:∀{_l:List MO} {os:List Oper} {S:St} {_i:List FP},lw P N ops _l os=tT->lJ P _l S _i K->
 ∃(es:List E) (S':St),kC P S.get S.m _l os es/\S'.get=I_ (λ_=>tT) 0 S.get ((_l.zip es).map λx=>dw x.1 x.2)/\S'.m=I_ (λ_=>tT) 0 S.m (es.map (·.wr))/\K S' (_i.reverse++es.map λe=>(e.rd,e.wr.map (·.1)))
|[],[],S,_i,_,h=>⟨[],S,trivial,rfl,rfl,by simpa[lJ]using h⟩
|[],_::_,_,_,h,_=>by simp[lw]at h
|_::_,[],_,_,h,_=>by simp[lw]at h
| mo ::_l,o::os,S,_i,hc,h=>by
 simp only[lw,aG]at hc;let⟨hc0,_W⟩:=hc;simp only[DW,aG,ae]at hc0;let⟨⟨⟨c1,c2⟩,c3⟩,c4⟩:=hc0;have shift:∀{β:Type} (l:List (List (Nat × β))) (i j:Nat) (f:Nat->β),I_ (λ_=>tT) i f l=I_ (λ_=>tT) j f l:=by
  intro β l
  induction l with
  |nil=>intro i j f;rfl
  |cons x l ih=>intro i j f;simp only[I_];exact ih _ _ _
 have fin:∀(S₁:St) (e:E) (n:Nat),S₁.get=S.get->S₁.m=S.m->zV P S.get S.m mo o e->lJ P _l (S₁.put mo.dst e.v e.wr n) ((e.rd,e.wr.map (·.1))::_i) K->∃(es:List E) (S':St),kC P S.get S.m (mo::_l) (o::os) es/\
   S'.get=I_ (λ_=>tT) 0 S.get (((mo::_l).zip es).map λx=>dw x.1 x.2)/\S'.m=I_ (λ_=>tT) 0 S.m (es.map (·.wr))/\K S' (_i.reverse++es.map λe=>(e.rd,e.wr.map (·.1))):=by
  intro S₁ e n eg em hs hr;let⟨es,S',t1,t2,t3,t4⟩:=We _W hr;have e1:(S₁.put mo.dst e.v e.wr n).get=lW S.get mo.dst e.v:=by rw[<-eg];exact St.put_get ..
  have e2:(S₁.put mo.dst e.v e.wr n).m=jW S.m e.wr:=by rw[<-em];rfl
  refine⟨e::es,S',⟨hs,by rw[<-e1,<-e2];exact t1⟩,?_,?_,uM t4⟩
  .rw[t2,e1,JP];simp only[List.zip_cons_cons,List.map_cons,I_,if_true];exact shift _ _ _ _
  .rw[t3,e2,F3];simp only[List.map_cons,I_,if_true];exact shift _ _ _ _
 have main:∃(S₁:St) (e:E) (n:Nat),S₁.get=S.get/\S₁.m=S.m/\zV P S.get S.m mo o e/\lJ P _l (S₁.put mo.dst e.v e.wr n) ((e.rd,e.wr.map (·.1))::_i) K:=by
  have run:∀S₁:St,S₁.get=S.get->S₁.m=S.m->zU S.get mo.g->ev P S.get S.m S.n (λv rd wr n=>lJ P _l (S₁.put mo.dst v wr n) ((rd,wr.map (·.1))::_i) K) mo.op->
    ∃(S₁:St) (e:E) (n:Nat),S₁.get=S.get/\S₁.m=S.m/\zV P S.get S.m mo o e/\lJ P _l (S₁.put mo.dst e.v e.wr n) ((e.rd,e.wr.map (·.1))::_i) K:=λS₁ eg em hy he=>by
   let⟨v,rd,wr,n',hs,hk⟩:=IB c1 he;exact⟨S₁,⟨v,rd,wr⟩,n',eg,em,.inl ⟨hy,hs⟩,hk⟩
  have skip:∀S₁:St,S₁.get=S.get->S₁.m=S.m->Wd S.get mo.g->lJ P _l (S₁.put mo.dst jm [] S.n) (([],[])::_i) K->
    ∃(S₁:St) (e:E) (n:Nat),S₁.get=S.get/\S₁.m=S.m/\zV P S.get S.m mo o e/\lJ P _l (S₁.put mo.dst e.v e.wr n) ((e.rd,e.wr.map (·.1))::_i) K:=λS₁ eg em hy hk=>
   ⟨S₁,⟨jm,[],[]⟩,S.n,eg,em,.inr ⟨hy,rfl,rfl,rfl⟩,hk⟩
  simp only[lJ]at h;split at h
  next hg=>exact run S rfl rfl (by rw[hg];trivial) h
  next t want hg=>
   split at h
   next b et=>
    by_cases hb:b=want
    .subst hb;have h1:=h.1 rfl;rw[gF et]at h1;exact run _ (gF et) rfl (by rw[hg];exact et) h1
    .have hb':b=(!want):=by cases b<;>cases want<;>simp_all
     exact skip _ (gF (by rw[et,hb'])) rfl (by rw[hg];exact .inl (by rw[et,hb'])) (h.2 hb')
   next x et=>
    exact skip S rfl rfl (by rw[hg];exact .inr ⟨x,et⟩) h
   .exact h.elim
 let⟨S₁,e,n,eg,em,h1,h2⟩:=main;exact fin S₁ e n eg em h1 h2
def kC.nth{P:Program}:∀{_l:List MO} {os:List Oper} {es:List E} {get:Nat->AV} {m:Hp} {j:Nat} {o:Oper},kC P get m _l os es->os[j]?=sS o->
 ∃mo e,_l[j]?=sS mo/\es[j]?=sS e/\zV P (I_ (λi=>decide (i<j)) 0 get ((_l.zip es).map λx=>dw x.1 x.2)) (I_ (λi=>decide (i<j)) 0 m (es.map (·.wr))) mo o e
|[],[],[],_,_,j,o,_,h=>by simp at h
|[],[],_::_,_,_,_,_,h,_=>by simp[kC]at h
|[],_::_,_,_,_,_,_,h,_=>by simp[kC]at h
|_::_,[],_,_,_,_,_,h,_=>by simp[kC]at h
|_::_,_::_,[],_,_,_,_,h,_=>by simp[kC]at h
| mo::_l,o'::os,e::es,get,m,0,o,h,ho=>by
 simp only[kC]at h;simp at ho;subst ho;have nN:∀{β:Type} (l:List (List (Nat × β))) (i:Nat) (f:Nat->β),I_ (λi=>decide (i<0)) i f l=f:=by
  intro β l
  induction l with
  |nil=>intro i f;rfl
  |cons x l ih=>intro i f;simp only[I_];simpa using ih _ _
 refine⟨mo,e,rfl,rfl,?_⟩;rw[nN,nN];exact h.1
| mo::_l,o'::os,e::es,get,m,j+1,o,h,ho=>by
 simp only[kC]at h;obtain⟨mo',e',h1,h2,h3⟩:=kC.nth h.2 (by simpa using ho);have shift:∀{β:Type} (l:List (List (Nat × β))) (i:Nat) (f:Nat->β),I_ (λi=>decide (i<j+1)) (i+1) f l=I_ (λi=>decide (i<j)) i f l:=by
  intro β l
  induction l with
  |nil=>intro i f;rfl
  |cons x l ih=>intro i f;simp only[I_];rw[ih];simp
 refine⟨mo',e',by simpa using h1,by simpa using h2,?_⟩;simp only[List.zip_cons_cons,List.map_cons,I_,Nat.zero_lt_succ,decide_true,if_true];rw[shift,shift,<-JP,<-F3];exact h3
def jT(l:Array Bool):Nat->Bool:=λi=>l.getD i oK
def Lp{q:Nat}(hj:j<l.size):jT (l.setIfInBounds j tT) q=(jT l q||q==j):=by
 unfold jT;by_cases h:q=j
 .subst h;simp[aZ,hj]
 .have:(q==j)=oK:=uM h;rw[this,Bool.or_false];simp[aZ,bU (Ne.symm h)]
def cnt(l:Array Bool):Nat:=l.toList.countP (λb=>b)
def zIz(hj:j<l.size)(h:jT l j=oK):cnt (l.setIfInBounds j tT)=cnt l+1:=by
 unfold cnt;have key:∀(l:sw) (j:Nat),j<lN l->l.getD j oK=oK->(l.set j tT).countP (λb=>b)=l.countP (λb=>b)+1:=by
  intro l
  induction l with
  |nil=>intro j h;simp at h
  | cons b l ih=>
   intro j hj hb;cases j with
   |zero=>simp at hb;subst hb;simp
   |succ j=>
    simp only[List.set_cons_succ,List.countP_cons];rw[ih j (uM hj) (uM hb)];omega
 rw[Array.toList_setIfInBounds];apply key l.toList j (uM hj);unfold jT at h;rw[aZ]at h;simpa[aH]using h
def zGe(h:cnt l=l.size):∀i,i<l.size->jT l i=tT:=by
 intro i hi;unfold cnt at h;have h2:l.toList.countP (λb=>b)=lN l.toList:=uM h;have:=List.countP_eq_length.1 h2;have h3:=this l[i] oC;unfold jT;simp[aZ,hi,h3]
section
variable {P:Program} {c:Ctx}
def Wh:i∈Region.ready .any ops l->i<ops.size/\l.getD i tT=oK/\∃o,ops[i]?=sS o/\∀e,e∈o.after->Region.binds .any e=tT->jT l e.on=tT:=by
 intro h;unfold Region.ready at h;rw[bP]at h;let⟨h1,h2⟩:=h;have hi:i<ops.size:=uM h1;simp only[aG,bB]at h2;refine⟨hi,h2.1,ops[i],bM hi,λe he hb=>?_⟩;have h3:=h2.2;rw[bM hi]at h3;simp only[Option.map_some,Option.getD_some,Array.all_eq_true']at h3;have:=h3 e he;rw[hb]at this;simpa[jT]using this
def zGf(hi:ops[i]?=sS o)(hl:l.getD i tT=oK)(h:∀e,e∈o.after->Region.binds .any e=tT->jT l e.on=tT):i∈Region.ready .any ops l:=by
 unfold Region.ready;rw[bP];have _k:i<ops.size:=by
  rcases aY i ops.size with h1|h1
  .exact h1
  .rw[bI h1]at hi;cases hi
 refine⟨uM _k,?_⟩;simp only[hl,Bool.not_false,Bool.true_and,hi,Option.map_some,Option.getD_some,Array.all_eq_true'];intro e he;cases hb:Region.binds .any e with
 |false=>rfl
 |true=>simpa[jT]using h e he hb
def PW(hi:i<l.size):l.getD i tT=jT l i:=by
 unfold jT;simp[aZ,hi]
def PX{_j:oO}(h:JN ops _j=tT)(ho:ops[j]?=sS o):
  (∀e,e∈o.after->Region.binds .any e=tT->e.on<j)/\∀i,i<ops.size->(_j.getD j 0).testBit i=tT->∃e,e∈o.after/\Region.binds .any e=tT/\(e.on=i\/(_j.getD e.on 0).testBit i=tT):=by
 have _k:j<ops.size:=by
  rcases aY j ops.size with h1|h1
  .exact h1
  .rw[bI h1]at ho;cases ho
 have:=ai.1 h j (uM _k);rw[ho]at this;simp only[aG,Array.all_eq_true',ai,List.mem_range]at this;refine⟨λe he hb=>?_,λi hi hb=>?_⟩
 .have h1:=this.1 e he;rw[hb]at h1;simpa using h1
 .have h2:=this.2 i hi;rw[hb]at h2;simp only[Bool.not_true,Bool.false_or,Array.any_eq_true',aG,cz,ae]at h2;let⟨e,he,h3,h4⟩:=h2;exact⟨e,he,h3,h4⟩
def PY{_j:oO}(h:JO ops _j=tT){a b:Oper}(hij:i<j)(ha:ops[i]?=sS a)(hb:ops[j]?=sS b):(_j.getD j 0).testBit i=tT\/a.apart ops b=tT:=by
 have _k:j<ops.size:=by
  rcases aY j ops.size with h1|h1
  .exact h1
  .rw[bI h1]at hb;cases hb
 have h1:=ai.1 h j (uM _k);have h2:=ai.1 h1 i (uM hij);rw[ha,hb]at h2;simpa using h2
def PZ{_j:oO}{_i:List FP}(h:zT _j _i=tT)(hij:i<j)(ha:_i[i]?=sS a)(hb:_i[j]?=sS b):(_j.getD j 0).testBit i=tT\/touch a b=oK:=by
 have _k:j<lN _i:=by
  rcases aY j (lN _i) with h1|h1
  .exact h1
  .rw[aR h1]at hb;cases hb
 have h1:=ai.1 h j (uM _k);have h2:=ai.1 h1 i (uM hij);rw[aH (l:=_i),aH (l:=_i),ha,hb]at h2;simpa using h2
def Lr(h:touch a b=oK){x:Nat}:(x∈a.2->x∉b.1/\x∉b.2)/\(x∈b.2->x∉a.1):=by
 unfold touch at h;simp only[Bool.or_eq_false_iff,eZ,dX,cz,d9]at h;exact⟨λhx=>h.1 x hx,λhx=>uM (h.2 x hx)⟩
def P7:∀{_l:List MO} {os:List Oper} {j:Nat} {mo:MO} {o:Oper},lw P N ops _l os=tT->_l[j]?=sS mo->os[j]?=sS o->DW P N ops mo o=tT
|[],_,_,_,_,_,h,_=>by simp at h
|_::_,[],_,_,_,_,_,h=>by simp at h
|mo::_l,o::os,0,mo',o',h,h1,h2=>by
 simp at h1 h2;subst h1 h2;simp only[lw,aG]at h;exact h.1
|mo::_l,o::os,j+1,mo',o',h,h1,h2=>by
 simp only[lw,aG]at h;exact P7 h.2 (uM h1) (uM h2)
def Ls:∀{_l:List MO} {os:List Oper},lw P N ops _l os=tT->lN _l=lN os
|[],[],_=>rfl
|[],_::_,h=>by simp[lw]at h
|_::_,[],h=>by simp[lw]at h
|_::_,_::_,h=>by
 simp only[lw,aG]at h;simp[Ls h.2]
def kC.len:∀{_l:List MO} {os:List Oper} {es:List E} {get:Nat->AV} {m:Hp},kC P get m _l os es->lN es=lN os
|[],[],[],_,_,_=>rfl
|[],[],_::_,_,_,h=>by simp[kC]at h
|[],_::_,_,_,_,h=>by simp[kC]at h
|_::_,[],_,_,_,h=>by simp[kC]at h
|_::_,_::_,[],_,_,h=>by simp[kC]at h
|_::_,_::_,_::_,_,_,h=>by simp only[kC]at h;simp[kC.len h.2]
def Wi{get:Nat->AV}{m':Hp}{a:Act}{w':World}{h h':PH}{ρ ρ':RM}(hG:Ac P c.h)(hsd:jE.ok c.h (jK c.ρ c.m) c.w)(hdef:a.defers=c.D)(hsz:a.tmps.size=c.N)
  (S0:tY c.h c.ρ c.m c.w.heap h ρ m w.heap) (e0:Same c.w w) (hg:∀k,g_ h ρ (get k) (a.tmps.getD k undef)) (S:Step h ρ m w.heap h' ρ' m' w'.heap) (H:E_ h' ρ' m' w'.heap) (e:Same w w'):
  jo P c get m' a w' where
 gnd:=hG
 sd:=hsd
 defers:=hdef
 size:=hsz
 ex:=⟨h',ρ',H,S0.trans S,e0.trans e,λk=>g_.mono S.hle S.rle _ _ (hg k)⟩
def zIA{get:Nat->AV}{a:Act}(r:jo P c get m a w):jo P c (λ_=>.c (.d .any)) m a w where
 gnd:=r.gnd
 sd:=r.sd
 defers:=r.defers
 size:=r.size
 ex:=by
  let⟨ph,ρ,H,S0,e0,hg⟩:=r.ex;exact⟨ph,ρ,H,S0,e0,λk=>by simp only[g_,m_,RepD]⟩
def P8(P:Program)(n:Nat)(_j:oO)(pj:Nat)(pv:Value)(wrp:oU)(get:Nat->AV)(m:Hp)(mo:MO)(o:Oper)(e:E)(j:Nat):Prop:=
(j≠pj/\zV P get m mo o e)\/(j=pj/\e.wr=[]/\zU get mo.g/\Ll P o get m wrp pv)\/(pj<n/\(_j.getD j 0).testBit pj=tT)
def Wj{_j:oO}{_l:sH}{get:Nat->AV}{pj:Nat}{pv:Value}{wrp:oU}(hc:lw P c.N ops _l ops.toList=tT)(len2:lN es=lN ops.toList)
  (ht:∀j o,ops.toList[j]?=sS o->∃mo e,_l[j]?=sS mo/\es[j]?=sS e/\P8 P ops.size _j pj pv wrp (I_ (λi=>decide (i<j)) 0 get ((_l.zip es).map λx=>dw x.1 x.2)) (I_ (λi=>decide (i<j)) 0 m (es.map (·.wr))) mo o e j)
  (hE:JN ops _j=tT) (hT:JO ops _j=tT) (hF:zT _j (es.map λe=>(e.rd,e.wr.map (·.1)))=tT)
  (hQ:¬pj<ops.size->∀a w,jo P c (I_ (λ_=>tT) 0 get ((_l.zip es).map λx=>dw x.1 x.2)) (I_ (λ_=>tT) 0 m (es.map (·.wr))) a w->Q .normal a w)
  (hw:pj<ops.size->∀i e,es[i]?=sS e->e.wr≠[]->(_j.getD pj 0).testBit i=tT/\i<pj)
  (hP:pj<ops.size->∀a w,jo P c (λ_=>.c (.d .any)) (jW (I_ (λi=>decide (i<pj)) 0 m (es.map (·.wr))) wrp) a w->Q (.panic [{v:=pv,recovered:=oK}]) a w):
  ∀(fuel:Nat) (l:Array Bool) (a:Act) (w:World),(pj<ops.size->jT l pj=oK)->l.size=ops.size->cnt l+fuel=ops.size->(∀j i,jT l j=tT->(_j.getD j 0).testBit i=tT->i<ops.size->jT l i=tT)->
   jo P c (I_ (jT l) 0 get ((_l.zip es).map λx=>dw x.1 x.2)) (I_ (jT l) 0 m (es.map (·.wr))) a w->wpAny P .any ops Q fuel l a w:=by
 have len1:=Ls hc;have len3:lN ops.toList=ops.size:=oC
 -- when all have come up
 have done:∀(l:Array Bool) (a:Act) (w:World),(pj<ops.size->jT l pj=oK)->(∀i,i<ops.size->jT l i=tT)->jo P c (I_ (jT l) 0 get ((_l.zip es).map λx=>dw x.1 x.2)) (I_ (jT l) 0 m (es.map (·.wr))) a w->Q .normal a w:=by
  intro l a w hpl hl r;refine hQ (λhp=>by have h1:=hpl hp;rw[hl pj hp]at h1;cases h1) a w ?_;have e1:I_ (jT l) 0 get ((_l.zip es).map λx=>dw x.1 x.2)=I_ (λ_=>tT) 0 get ((_l.zip es).map λx=>dw x.1 x.2):=by
   funext k;refine DY _ 0 _ _ _ _ (λq x hq _=>?_) rfl;have _k:q<((_l.zip es).map λx=>dw x.1 x.2).length:=by
    rcases aY q ((_l.zip es).map λx=>dw x.1 x.2).length with h|h
    .exact h
    .rw[aR h]at hq;cases hq
   simp only[aa,List.length_zip]at _k;rw[Nat.zero_add];exact hl q oM
  have e2:I_ (jT l) 0 m (es.map (·.wr))=I_ (λ_=>tT) 0 m (es.map (·.wr)):=by
   funext k;refine DY _ 0 _ _ _ _ (λq x hq _=>?_) rfl;have _k:q<(es.map (·.wr)).length:=by
    rcases aY q (es.map (·.wr)).length with h|h
    .exact h
    .rw[aR h]at hq;cases hq
   simp only[aa]at _k;rw[Nat.zero_add];exact hl q oM
  rw[<-e1,<-e2];exact r
 have allOf:∀(l:Array Bool),l.size=ops.size->Region.ready .any ops l=[]->∀i,i<ops.size->jT l i=tT:=by
  intro l hs hr i
  induction i using Nat.strongRecOn with
  | _ i ih=>
   intro hi;cases hli:jT l i with
   |true=>rfl
   | false=>
    have hmem:i∈Region.ready .any ops l:=by
     refine zGf (bM hi) (by rw[PW oM];exact hli) λe he hb=>?_;have h1:=(PX hE (bM hi)).1 e he hb;exact ih e.on h1 oM
    rw[hr]at hmem;cases hmem
 intro fuel
 induction fuel with
 | zero=>
  intro l a w hpl hs hcnt hcl r;have _H:=zGe (l:=l) oM;refine⟨?_,done l a w hpl (λi hi=>_H i oM) r⟩;cases hr:Region.ready .any ops l with
  |nil=>rfl
  |cons i t=>
   have:=Wh (by rw[hr];exact List.mem_cons_self:i∈Region.ready .any ops l);rw[PW oM,_H i oM]at this;exact absurd this.2.1 oC
 | succ fuel ih=>
  intro l a w hpl hs hcnt hcl r;refine⟨λhr=>done l a w hpl (allOf l hs hr) r,λj hj=>?_⟩;let⟨hjs,hjl,o,ho,hedge⟩:=Wh hj;rw[PW oM]at hjl;have hot:ops.toList[j]?=sS o:=uM ho;let⟨mo,e,hmo,he,hstep⟩:=ht j o hot;have hc0:=P7 hc hmo hot;simp only[DW,aG,ae]at hc0;let⟨⟨⟨c1,c2⟩,c3⟩,c4⟩:=hc0;have hd:∀d,mo.dst=sS d->d<c.N:=λd hd=>by rw[hd]at c3;simpa using c3
  -- what must come before has come
  have pre:∀i,i<ops.size->(_j.getD j 0).testBit i=tT->jT l i=tT:=by
   intro i hi hb;let⟨ed,h1,h2,h3⟩:=(PX hE ho).2 i hi hb;have h4:=hedge ed h1 h2;rcases h3 with h3|h3
   .rw[<-h3];exact h4
   .exact hcl ed.on i h4 h3 hi
  have post:∀i,(_j.getD i 0).testBit j=tT->jT l i=oK:=by
   intro i hb;cases hli:jT l i with
   |false=>rfl
   |true=>have:=hcl i j hli hb hjs;rw[hjl]at this;cases this
  -- the row of temporaries that operation q writes
  have rowd:∀(q:Nat) (x:oZ),((_l.zip es).map λx=>dw x.1 x.2)[q]?=sS x->∃oq:Oper,ops[q]?=sS oq/\∀k,(∃y,y∈x/\y.1=k)->oq.dst=sS k:=by
   intro q x hq;simp only[List.getElem?_map,aP]at hq;let⟨z,hz,hx⟩:=hq;have _k:q<(_l.zip es).length:=by
    rcases aY q (_l.zip es).length with h|h
    .exact h
    .rw[aR h]at hz;cases hz
   simp only[List.length_zip]at _k;have hqs:q<ops.size:=oM;refine⟨ops[q],bM hqs,λk hk=>?_⟩;have hzm:_l[q]?=sS z.1:=by
    have:=List.getElem?_zip_eq_some.1 hz;exact this.1
   have hcq:=P7 hc hzm (show ops.toList[q]?=sS ops[q] by simp[hqs]);simp only[DW,aG,ae]at hcq;rw[<-hcq.1.1.2];let⟨y,hy,hk⟩:=hk;rw[<-hx]at hy;unfold dw at hy;split at hy
   next d hdz=>
    simp only[aK]at hy;subst hy;rw[hdz];simp only at hk;rw[hk]
   .cases hy
  have rowb:∀(q:Nat) (x:oU),(es.map (·.wr))[q]?=sS x->∃fq:FP,(es.map λe=>(e.rd,e.wr.map (·.1)))[q]?=sS fq/\∀k,(∃y,y∈x/\y.1=k)->k∈fq.2:=by
   intro q x hq;simp only[List.getElem?_map,aP]at hq;let⟨z,hz,hx⟩:=hq;refine⟨(z.rd,z.wr.map (·.1)),by simp[List.getElem?_map,hz],λk hk=>?_⟩;let⟨y,hy,hk⟩:=hk;rw[<-hx]at hy;exact af.2 ⟨y,hy,hk⟩
  have hfj:(es.map λe=>(e.rd,e.wr.map (·.1)))[j]?=sS (e.rd,e.wr.map (·.1)):=by simp[List.getElem?_map,he]
  -- temporaries that it reads are as in the text
  have agT:∀k,k∈o.looksAt ops->I_ (jT l) 0 get ((_l.zip es).map λx=>dw x.1 x.2) k=I_ (λi=>decide (i<j)) 0 get ((_l.zip es).map λx=>dw x.1 x.2) k:=by
   intro k hk;refine DY _ 0 _ _ _ _ (λq x hq hx=>?_) rfl;rw[Nat.zero_add];let⟨oq,hoq,hdq⟩:=rowd q x hq;have hdk:=hdq k hx;have hqs:q<ops.size:=by
    rcases aY q ops.size with h1|h1
    .exact h1
    .rw[bI h1]at hoq;cases hoq
   rcases Nat.lt_trichotomy q j with h|h|h
   .rw[bS h];rcases PY hT h hoq ho with hb|hap
    .exact pre q hqs hb
    .exact absurd hk ((Oper.apart_spec hap).1 k hdk)
   .subst h;rw[hjl];simp
   .rw[bL oM];rcases PY hT h ho hoq with hb|hap
    .exact post q hb
    .exact absurd hk ((Oper.apart_spec hap).2.2 k hdk)
  have agB:∀k,(k∈e.rd\/k∈e.wr.map (·.1))->I_ (jT l) 0 m (es.map (·.wr)) k=I_ (λi=>decide (i<j)) 0 m (es.map (·.wr)) k:=by
   intro k hk;refine DY _ 0 _ _ _ _ (λq x hq hx=>?_) rfl;rw[Nat.zero_add];let⟨fq,hfq,hwq⟩:=rowb q x hq;have hkq:=hwq k hx;have hqs:q<ops.size:=by
    have:q<(es.map λe=>(e.rd,e.wr.map (·.1))).length:=by
     rcases aY q (es.map λe=>(e.rd,e.wr.map (·.1))).length with h1|h1
     .exact h1
     .rw[aR h1]at hfq;cases hfq
    simp only[aa]at this;omega
   rcases Nat.lt_trichotomy q j with h|h|h
   .rw[bS h];rcases PZ hF h hfq hfj with hb|hap
    .exact pre q hqs hb
    .have:=(Lr hap (x:=k)).1 hkq;rcases hk with hk|hk
     .exact absurd hk this.1
     .exact absurd hk this.2
   .subst h;rw[hjl];simp
   .rw[bL oM];rcases PZ hF h hfj hfq with hb|hap
    .exact post q hb
    .rcases hk with hk|hk
     .exact absurd hk ((Lr hap (x:=k)).2 hkq)
     .exact absurd hkq ((Lr hap (x:=k)).1 hk).2
  have hjsz:j<l.size:=oM
  -- what has come up with it
  have insT:I_ (jT (l.setIfInBounds j tT)) 0 get ((_l.zip es).map λx=>dw x.1 x.2)=lW (I_ (jT l) 0 get ((_l.zip es).map λx=>dw x.1 x.2)) mo.dst e.v:=by
   funext k;rw[JP];refine PV _ 0 j _ _ _ (dw mo e) ?_ (λq=>by rw[Nat.zero_add];exact Lp hjsz) (by rw[Nat.zero_add];exact hjl) (λq y hq hy hlq hz z hz'=>?_)
   .simp only[List.getElem?_map,aP];exact⟨(mo,e),List.getElem?_zip_eq_some.2 ⟨hmo,he⟩,rfl⟩
   .rw[Nat.zero_add]at hlq;let⟨oq,hoq,hdq⟩:=rowd q y hy;intro hzk;have h1:=hdq k ⟨z,hz',hzk⟩;have h2:o.dst=sS k:=by
     rw[<-c2];let⟨z0,hz0,hz0k⟩:=hz;unfold dw at hz0;split at hz0
     next d hdz=>
      simp only[aK]at hz0;subst hz0;rw[hdz];simp only at hz0k;rw[hz0k]
     .cases hz0
    rcases PY hT hq ho hoq with hb|hap
    .rw[post q hb]at hlq;cases hlq
    .exact(Oper.apart_spec hap).2.1 k h2 h1
  have insB:I_ (jT (l.setIfInBounds j tT)) 0 m (es.map (·.wr))=jW (I_ (jT l) 0 m (es.map (·.wr))) e.wr:=by
   funext k;rw[F3];refine PV _ 0 j _ _ _ e.wr ?_ (λq=>by rw[Nat.zero_add];exact Lp hjsz) (by rw[Nat.zero_add];exact hjl) (λq y hq hy hlq hz z hz'=>?_)
   .simp[List.getElem?_map,he]
   .rw[Nat.zero_add]at hlq;let⟨fq,hfq,hwq⟩:=rowb q y hy;intro hzk;have h1:=hwq k ⟨z,hz',hzk⟩;rcases PZ hF hq hfj hfq with hb|hap
    .rw[post q hb]at hlq;cases hlq
    .let⟨z0,hz0,hz0k⟩:=hz;exact((Lr hap (x:=k)).1 (af.2 ⟨z0,hz0,hz0k⟩)).2 h1
  have next:j≠pj->∀(a':Act) (w':World),jo P c (lW (I_ (jT l) 0 get ((_l.zip es).map λx=>dw x.1 x.2)) mo.dst e.v) (jW (I_ (jT l) 0 m (es.map (·.wr))) e.wr) a' w'->wpAny P .any ops Q fuel (l.setIfInBounds j tT) a' w':=by
   intro hjp a' w' r';refine ih _ a' w' (λhp=>by rw[Lp hjsz,hpl hp];simpa using Ne.symm hjp) (uM hs) (by rw[zIz hjsz hjl];omega) (λq i hq hb hi=>?_) (by rw[insT,insB];exact r');rw[Lp hjsz]at hq⊢;simp only[cz,ae]at hq⊢;rcases hq with hq|hq
   .exact .inl (hcl q i hq hb hi)
   .subst hq;exact .inl (pre i hi hb)
  let⟨ph,ρ,H,S0,e0,hg⟩:=r.ex;have looks:∀k,Operand.tmp k∈o.op.operands->k∈o.looksAt ops:=λk hk=>List.mem_append_left _ (List.mem_filterMap.2 ⟨.tmp k,uM hk,rfl⟩);have guardT:∀t b,mo.g=sS (t,b)->t∈o.looksAt ops:=by
   intro t b hgm;rw[hgm]at c4;unfold zS at c4;split at c4
   next e' _=>cases e'
   next t' b' j' b'' e' hgo=>
    cases e';simp only[aG,ae]at c4;apply List.mem_append_right _;rw[hgo];simp only[c4.2];simp
   .cases c4
  unfold wpOp;rw[ho];dsimp only;by_cases hjp:j=pj
  .subst hjp;rcases hstep with h|⟨_,he0,hy,hsem⟩|⟨_,h⟩
   .exact absurd rfl h.1
   .have em:I_ (jT l) 0 m (es.map (·.wr))=I_ (λi=>decide (i<j)) 0 m (es.map (·.wr)):=by
     funext k;refine DY _ 0 _ _ _ _ (λq x hq hx=>?_) rfl;rw[Nat.zero_add];simp only[List.getElem?_map,aP]at hq;let⟨z,hz,hzx⟩:=hq;have h1:=hw hjs q z hz (by rw[hzx];intro h0;rw[h0]at hx;let⟨y,hy,_⟩:=hx;cases hy);rw[pre q oM h1.1,bS h1.2]
    have rS:=r.side S0;rw[em]at H S0 rS;rw[aC (IC c4 (λt b hgm=>by
     have:=hg t;rw[agT t (guardT t b hgm)]at this;rw[hgm]at hy;simp only[zU]at hy;rw[hy]at this
     simpa only[g_,m_,RepD]using this))]
    refine .inl (hsem (I_ (λi=>decide (i<j)) 0 m (es.map (·.wr))) (λx _=>rfl) ph ρ w a H (r.gnd.mono S0.hle) rS
     (λk hk=>by rw[<-agT k (looks k hk)];exact hg k) _ _ λh' ρ' w' st K' e1=>?_)
    exact hP hjs _ _ (zIA (Wi r.gnd r.sd r.defers r.size S0 e0 hg st K' e1))
   .exact absurd ((PX hE ho).2 j hjs h) (by
     rintro⟨ed,h1,h2,h3⟩
     have h4:=hedge ed h1 h2;rcases h3 with h3|h3
     .rw[h3,hjl]at h4;cases h4
     .have:=hcl ed.on j h4 h3 hjs
      rw[hjl]at this;cases this)
  have hstep:zV P (I_ (λi=>decide (i<j)) 0 get ((_l.zip es).map λx=>dw x.1 x.2)) (I_ (λi=>decide (i<j)) 0 m (es.map (·.wr))) mo o e:=by
   rcases hstep with h|h|h
   .exact h.2
   .exact absurd h.1 hjp
   .have:=pre pj h.1 h.2;rw[hpl h.1]at this;cases this
  rcases hstep with⟨hy,hsem⟩|⟨hn,hv,hrd,hwr⟩
  .rw[aC (IC c4 (λt b hgm=>by
    have:=hg t;rw[agT t (guardT t b hgm)]at this;rw[hgm]at hy;simp only[zU]at hy;rw[hy]at this
    simpa only[g_,m_,RepD]using this))]
   refine .inl (hsem (I_ (jT l) 0 m (es.map (·.wr))) (λb hb=>agB b (.inl hb)) (λx hx=>agB x.1 (.inr (af.2 ⟨x,hx,rfl⟩))) ph ρ w a H (r.gnd.mono S0.hle) (r.side S0)
    (λk hk=>by rw[<-agT k (looks k hk)];exact hg k) _ _ λh' ρ' w' vC st K' e1 rv=>?_)
   rw[<-c2];exact next hjp _ _ (PQ r.gnd r.sd r.defers r.size hd S0 e0 hg st K' e1 rv)
  .cases hgm:mo.g with
   |none=>rw[hgm]at hn;exact hn.elim
   | some p=>
    let⟨t,b⟩:=p;rw[hgm]at hn c4;have:=hg t;rw[agT t (guardT t b hgm)]at this;rw[aB (by
     rw[JM c4 (by
      rcases hn with hn|⟨x,hn⟩
      .rw[hn]at this;exact .inl (by simpa only[g_,m_,RepD]using this)
      .rw[hn]at this;exact .inr ⟨x,by simpa only[g_,m_,RepD]using this⟩)]
     simp)]
    rw[<-c2];apply next hjp _ _;rw[hv,hwr];exact PR r hd
def Wl{_j:oO}{_l:sH}{get:Nat->AV}(hc:lw P c.N ops _l ops.toList=tT)(ht:kC P get m _l ops.toList es)
  (hE:JN ops _j=tT) (hT:JO ops _j=tT) (hF:zT _j (es.map λe=>(e.rd,e.wr.map (·.1)))=tT)
  (hQ:∀a w,jo P c (I_ (λ_=>tT) 0 get ((_l.zip es).map λx=>dw x.1 x.2)) (I_ (λ_=>tT) 0 m (es.map (·.wr))) a w->Q .normal a w):
  ∀(fuel:Nat) (l:Array Bool) (a:Act) (w:World),l.size=ops.size->cnt l+fuel=ops.size->(∀j i,jT l j=tT->(_j.getD j 0).testBit i=tT->i<ops.size->jT l i=tT)->
   jo P c (I_ (jT l) 0 get ((_l.zip es).map λx=>dw x.1 x.2)) (I_ (jT l) 0 m (es.map (·.wr))) a w->wpAny P .any ops Q fuel l a w:=by
 intro fuel l a w hs hcnt hcl r;exact Wj (pj:=ops.size) (pv:=undef) (wrp:=[]) hc ht.len (λj o ho=>by
  let⟨mo,e,h1,h2,h3⟩:=ht.nth ho
  exact⟨mo,e,h1,h2,.inl ⟨λh=>by subst h;simp at ho,h3⟩⟩) hE hT hF (λ_=>hQ) (λh=>absurd h oM) (λh=>absurd h oM) fuel l a w (λh=>absurd h oM) hs hcnt hcl r
end
end Go.Abs
