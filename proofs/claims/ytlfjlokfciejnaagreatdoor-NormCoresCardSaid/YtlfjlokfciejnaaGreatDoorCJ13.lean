/- Texts of ours, joined and written short by a program of ours. -/
import Derived.Test.YtlfjlokfciejnaaGreatDoorCJ12
import Derived.Test.YtlfjlokfciejnaaGreatDoorCJ09
import Derived.Test.YtlfjlokfciejnaaGreatDoorCJ11
set_option maxRecDepth 20000
set_option maxHeartbeats 4000000
set_option linter.unusedVariables false
set_option linter.unusedSimpArgs false
namespace Go.Gr
open Go.Abs Go.Proofs List
theorem OT(t:gq):(yE t).size<=20000:=by
 unfold yE;split
 ·rename_i h;have a:=Ai t false (ze h);have b:=Fu h;omega
 ·simp
def vk(l:List Tok):Prop:=∀t,t∈l->t.kind=1->t.text.size<=32
theorem zF2(l:List UInt8)(h:(jF l).e=0)(k:(jF l).kind=1):(jF l).text.length<=32:=by
 match l with
 |[]=>simp[jF,lV]at h
 | c ::r=>
  rw[jF]at h k⊢;split at h
  ·rename_i c1;rw[aC c1]at k⊢;split at h
   ·simp[lV]at h
   ·rename_i c2;rw[aB c2];simp only[bH];omega
  ·rename_i c1;rw[aB c1]at k;split at k
   ·split at k
    ·simp at k
    ·simp[lV]at k
   split at k
   ·split at k
    ·simp[lV]at k
    ·split at k
     ·simp[lV]at k
     ·simp at k
   split at k
   ·simp[lV]at k
   ·simp at k
theorem Xq:∀(n:Nat) (l:List UInt8) (a b:Int) (ts:List Tok),vk ts->vk (oh n l a b ts).1
|0,l,a,b,ts,h=>by rw[oh];exact h
| n+1,l,a,b,ts,h=>by
 rw[oh];simp only;split
 ·intro t ht k;rcases aM.1 ht with ht|ht
  ·exact h t ht k
  ·simp only[aK]at ht;subst ht;simp at k
 generalize l.drop (ig false l)=l' at*
 have go:(jF l').e=0->vk (oh n (l'.drop (jF l').len) (qC (l.take (ig false l)) a b).1 ((qC (l.take (ig false l)) a b).2+(jF l').len) (ts++[⟨(jF l').kind,bA (jF l').text,(qC (l.take (ig false l)) a b).1,(qC (l.take (ig false l)) a b).2⟩])).1:=λe0=>by
  refine Xq n _ _ _ _ ?_;intro t ht k;rcases aM.1 ht with ht|ht
  ·exact h t ht k
  ·simp only[aK]at ht;subst ht;simp only at k⊢;have:=zF2 l' e0 k;show(bA (jF l').text).size<=32;rw[Ul];exact this
 have nil:∀d:iY,vk (([]:List Tok),d).1:=λd t ht=>by cases ht
 by_cases q:(jF l').e=0/\ts.length=8192
 ·rw[aC q,aC (by decide)];exact nil _
 ·rw[aB q];by_cases e0:(jF l').e=0
  ·rw[aB (λz=>z e0)];exact go e0
  ·rw[aC e0];exact nil _
theorem zF3(s:fI):vk (lI s).1:=by
 unfold lI;split
 ·intro t ht;cases ht
 ·exact Xq _ _ _ _ _ (λt ht=>by cases ht)
theorem zF4{L:List Tok}(h:vk L)(p:PS):(jK L p).1.size<=32:=by
 unfold jK;split
 ·rename_i c;have:iL L p∈L:=by
   unfold iL at c⊢;rw[aH]at c⊢;cases q:L[p.at']? with
   |none=>rw[q]at c;simp[yB]at c
   |some t=>exact ae q
  exact h _ this c.2
 ·simp
theorem Xr{L:List Tok}(h:vk L):∀(n:Nat) (l:List jd) (p:PS),(∀d,d∈l->d.name.size<=32)->∀d,d∈(ru L n l p).1->d.name.size<=32
|0,l,p,hl,d,hd=>by rw[ru]at hd;exact hl d hd
| n+1,l,p,hl,d,hd=>by
 rw[ru]at hd;split at hd
 ·refine Xr h n _ _ (λx hx=>?_) d hd;rcases aM.1 hx with hx|hx
  ·exact hl x hx
  ·simp only[aK]at hx;subst hx;unfold rq;exact zF4 h _
 ·exact hl d hd
theorem zDj(s:fI):∀d,d∈(qW s).1.decs->d.name.size<=32:=λd hd=>by
 unfold qW at hd;simp only at hd;split at hd
 ·cases hd
 split at hd
 ·cases hd
 ·exact Xr (zF3 s) _ _ _ (λx hx=>by cases hx) d hd
theorem Xt:∀(l:List (fI × fI)) (i:Nat) (ns:List fI) (ms:List jZ) (bad:List iY),(∀m,m∈ms->∀d,d∈m.decs->tV d/\d.name.size<=32)->
 (∀m,m∈(rM l i ns ms bad).1.2->∀d,d∈m.decs->tV d/\d.name.size<=32)
|[],i,ns,ms,bad,h=>by rw[rM];exact h
| s::l,i,ns,ms,bad,h=>by
 rw[rM];refine Xt l _ _ _ _ λm hm=>?_;rcases aM.1 hm with hm|hm
 ·exact h m hm
 ·simp only[aK]at hm;subst hm;exactλd hd=>⟨zEh s.2 d hd,zDj s.2 d hd⟩
theorem Xu:∀(l:List (fI × fI)) (i:Nat) (ns:List fI) (ms:List jZ) (bad:List iY),bad.length<=(rM l i ns ms bad).2.length/\((rM l i ns ms bad).2.length=0->(∀n,n∈ns->n.size<=32)->∀n,n∈(rM l i ns ms bad).1.1->n.size<=32)
|[],i,ns,ms,bad=>by rw[rM];exact⟨aQ _,λ_ h=>h⟩
| s::l,i,ns,ms,bad=>by
 rw[rM];have r:=Xu l (i+1) (ns++[s.1]) (ms++[(qW s.2).1]) (if nG s.1=false then bad++[⟨i,1,1,10⟩]else if 0<=kD ns s.1 then bad++[⟨i,1,1,8⟩]else if(qW s.2).2.e≠0 then bad++[⟨i,(qW s.2).2.line,(qW s.2).2.col,(qW s.2).2.e⟩]else bad);by_cases c:nG s.1=false
 ·rw[aC c]at r⊢;have:=r.1;rw[aX]at this;simp only[length_cons,length_nil]at this;exact⟨by omega,λq=>by omega⟩
 ·refine⟨ak ?_ r.1,λq h=>r.2 q λn hn=>?_⟩
  ·rw[aB c];split
   ·simp
   split
   ·simp
   ·exact aQ _
  ·rcases aM.1 hn with hn|hn
   ·exact h n hn
   ·simp only[aK]at hn;subst hn;exact NW (by simpa using c)
def sF(ms:List jZ)(e:jI):Prop:=0<=e.module/\e.module<ms.length/\0<=e.decl/\e.decl<(ms.getD e.module.toNat om).decs.length
theorem Ea{α:Type}(q:α->Bool)(l:List α):fi q 0 l= -1\/(0<=fi q 0 l/\fi q 0 l<l.length):=by
 have:=GD q 0 l;omega
theorem JU(ms:List jZ)(m i:Int)(h0:0<=m)(h1:m<ms.length)(x:jr):∀(l:List fI) (sc:List jI) (bad:List iY),(∀e,e∈sc->sF ms e)->∀e,e∈(oo (ms.getD m.toNat om) m i x l sc bad).1->sF ms e
|[],sc,bad,h=>by rw[oo];exact h
| s::l,sc,bad,h=>by
 rw[oo];split
 ·exact JU ms m i h0 h1 x l _ _ h
 rename_i c;split
 ·exact JU ms m i h0 h1 x l _ _ h
 refine JU ms m i h0 h1 x l _ _ λe he=>?_;rcases aM.1 he with he|he
 ·exact h e he
 ·simp only[aK]at he;subst he;have a:=Ea (λd:jd=>decide (d.name=s)) (ms.getD m.toNat om).decs;have b:¬uE (ms.getD m.toNat om) s<0:=λz=>c (.inl z);unfold uE at b;unfold sF uE;simp only;omega
theorem Xv(ns:List fI)(ms:List jZ)(hn:ns.length=ms.length)(i:Int):∀(l:List jr) (sc:List jI) (bad:List iY),(∀e,e∈sc->sF ms e)->∀e,e∈(zY ns ms i l sc bad).1->sF ms e
|[],sc,bad,h=>by rw[zY];exact h
| x::l,sc,bad,h=>by
 rw[zY];refine Xv ns ms hn i l _ _ ?_;unfold yF;split
 ·exact h
 ·rename_i c;have a:=Ea (λn=>decide (n=x.from_)) ns;unfold kD at c⊢;exact JU ms _ i (by omega) (by omega) x _ _ _ h
theorem OU(ms:List jZ)(i:Nat)(hi:i<ms.length):∀(l:List jd) (k:Nat) (sc:List jI) (bad:List iY),k+l.length<=(ms.getD i om).decs.length->(∀e,e∈sc->sF ms e)->∀e,e∈(yj i l k sc bad).1->sF ms e
|[],k,sc,bad,hk,h=>by rw[yj];exact h
| d::l,k,sc,bad,hk,h=>by
 rw[yj];simp only[length_cons]at hk;split
 ·exact OU ms i hi l (k+1) _ _ (by omega) h
 refine OU ms i hi l (k+1) _ _ (by omega) λe he=>?_;rcases aM.1 he with he|he
 ·exact h e he
 ·simp only[aK]at he;subst he;unfold sF;simp only[az];omega
theorem Xw(ns:List fI)(ms:List jZ)(hn:ns.length=ms.length):∀(l:List jZ) (i:Nat) (all:List (List jI)) (bad:List iY),l=ms.drop i->all.length=i->i<=ms.length->(∀sc,sc∈all->∀e,e∈sc->sF ms e)->
 (uz ns ms l i all bad).1.length=ms.length/\∀sc,sc∈(uz ns ms l i all bad).1->∀e,e∈sc->sF ms e
|[],i,all,bad,hl,ha,hi,h=>by
 rw[uz];have:(ms.drop i).length=0:=by rw[<-hl];try rfl
 rw[dM]at this;exact⟨by simp only;omega,h⟩
| m::l,i,all,bad,hl,ha,hi,h=>by
 have hlt:i<ms.length:=by
  by_cases q:i<ms.length
  ·exact q
  ·rw[eG (by omega)]at hl;cases hl
 rw[aF hlt]at hl;have h1:=(List.cons.inj hl).1;have h2:=(List.cons.inj hl).2;have hm:ms.getD i om=m:=by rw[aH,aA hlt,h1];try rfl
 rw[uz];refine Xw ns ms hn l (i+1) _ _ h2 (by simp;omega) (by omega) λsc hsc=>?_;rcases aM.1 hsc with hsc|hsc
 ·exact h sc hsc
 ·simp only[aK]at hsc;subst hsc;exact OU ms i hlt m.decs 0 _ _ (by rw[hm];omega) (Xv ns ms hn i m.imps [] bad λe he=>by cases he)
structure mU (L:iV):Prop where
 good:oL L
 decs:∀m,m∈L.mods->∀d,d∈m.decs->tV d
 decNames:∀m,m∈L.mods->∀d,d∈m.decs->d.name.size<=32
 modNames:∀n,n∈L.names->n.size<=32
 small:∀m,m∈L.mods->lY m
 main:kI L ⟨bs [],L.main.module,L.main.decl⟩
theorem OV(l:List (fI × fI))(h:(yl l).2.length=0):mU (yl l).1:=by
 have hs:=WK l [];have hg:∀m,m∈(u6 l).1.2->∀d,d∈m.decs->tV d/\d.name.size<=32:=by
  unfold u6;split
  ·intro m hm;cases hm
  ·exact Xt l 0 [] [] [] λm hm=>by cases hm
 have hb:(u6 l).2.length=0->∀n,n∈(u6 l).1.1->n.size<=32:=by
  unfold u6;split
  ·intro q;simp at q
  ·exactλq=>(Xu l 0 [] [] []).2 q λn hn=>by cases hn
 unfold yl at h⊢;simp only at h⊢;generalize u6 l=f at*
 have hn:f.1.1.length=f.1.2.length:=hs.2.1;have s1:=Xw f.1.1 f.1.2 hn f.1.2 0 [] [] (by simp) rfl (by omega) (λsc hsc=>by cases hsc);generalize uz f.1.1 f.1.2 f.1.2 0 [] []=s at*
 generalize za f.1.1 f.1.2 f.1.2 0 []=t at*
 by_cases c1:0<f.2.length
 ·rw[aC c1]at h;simp only at h;omega
 rw[aB c1]at h⊢;by_cases c2:0<s.2.length
 ·rw[aC c2]at h;simp only at h;omega
 rw[aB c2]at h⊢;by_cases c3:0<t.length
 ·rw[aC c3]at h;simp only at h;omega
 rw[aB c3]at h⊢;by_cases c4:kD f.1.1 vT<0
 ·rw[aC c4]at h;simp at h
 rw[aB c4]at h⊢;by_cases c5:uE (f.1.2.getD (kD f.1.1 vT).toNat om) vT<0
 ·rw[aC c5]at h;simp at h
 rw[aB c5]at h⊢;split
 ·rename_i c6;rw[aC c6]at h;simp at h
 have a:=Ea (λn=>decide (n=vT)) f.1.1;have b:=Ea (λd:jd=>decide (d.name=vT)) (f.1.2.getD (kD f.1.1 vT).toNat om).decs;refine⟨⟨hs.1,hn,s1.1,λm hm d hd=>⟨(hg m hm d hd).1.types,by have:=(hg m hm d hd).1.vars;omega⟩,λsc hsc e he=>?_⟩,λm hm d hd=>(hg m hm d hd).1,λm hm d hd=>(hg m hm d hd).2,hb (by omega),hs.2.2,?_⟩
 ·have:=s1.2 sc hsc e he;exact⟨this.1,this.2.1,this.2.2.1,this.2.2.2⟩
 ·unfold kD at c4 c5 b⊢;unfold uE at c5⊢;refine⟨?_,?_,?_,?_⟩<;>simp only<;>omega
end Go.Gr
namespace Go.Gr
open Go.Abs Go.Proofs
theorem zIH(l:List (fI × fI)):gu Pg 15 [.one (.sl false 2 (l.map lX))] (.one (.bool (decide (l.length<=20)&&qM l 0))):=by
 refine zFE (by simp) λo c hN hp=>?_;obtain⟨R,hR⟩:∃R,(decide (l.length<=20)&&qM l 0)=R:=⟨_,rfl⟩
 rw[hR];unfold XO;simp;apply gT<;>intro h
 ·have h:¬l.length<=20:=by simp at h;omega
  simp[h]at hR;simp[hR]
 have h:l.length<=20:=by simp at h;omega
 simp[h]at hR;refine fU iC hp (λY:Nat × Nat=>Y.1<=l.length/\Y.2<=70000/\qM (l.drop Y.1) Y.2=R) (λY=>[(4,.c (.d (.int .i64 Y.1))),(3,.c (.d (.int .i64 Y.2))),(0,.c (.d (.sl false 2 (l.map lX))))]) (λ_=>[]) (λY=>l.length-Y.1) (0,0) [] ⟨by simp,by simp,by simpa using hR⟩ (by simp) λ⟨j,n⟩ ⟨i1,i2,i3⟩=>?_;unfold XN;simp only at i1 i2 i3;simp;apply gT<;>intro h
 ·have hj:j<l.length:=by simpa using h
  obtain⟨s,hs⟩:∃s,l[j]=s:=⟨_,rfl⟩
  rw[aF hj,hs,qM]at i3;have hw:=wI (n:=(j:Int)+1);have hw2:=wI (n:=(70000:Int)-n);by_cases c1:(70000:Int)-n<s.2.size
  ·rw[aC (.inl c1)]at i3;simp[hj,hs,hw2,c1,<-i3]
  by_cases c2:(1000:Int)<s.1.size
  ·rw[aC (.inr (by omega))]at i3;simp[hj,hs,hw2,c1,c2,<-i3]
  rw[aB (λz=>z.elim c1 (λz=>c2 (by omega)))]at i3;have hw3:=wI (n:=(n:Int)+s.2.size);simp[hj,hs,hw2,c1,c2];refine fJ (j+1,n+s.2.size) [] ⟨by simp only;omega,by simp only;omega,by simpa using i3⟩ (by simp only;omega) ?_;simp[hw,hw3]
 ·have hj:j=l.length:=by simp at h;omega
  subst hj;rw[aO,qM]at i3;simp[<-i3]
def fb(s:CS):List jW × List iY:=(s.funs,s.bad)
@[simp] theorem OW(a b e:Int)(s:CS):fb (lG a b e s)=fb s:=by unfold lG;split<;>rfl
@[simp] theorem Eb(t:gq)(a b:Int)(s:CS):fb (kH t a b s).2=fb s:=by unfold kH;simp only;split<;>simp
@[simp] theorem JV(t:gq)(a b:Int)(s:CS):fb (pW t a b s).2=fb s:=by unfold pW;simp only;split<;>simp
@[simp] theorem zK7(x:iB)(t u:gq)(a b:Int)(s:CS):fb (mR x t u a b s).2=fb s:=by unfold mR;split<;>rfl
@[simp] theorem OX(x:iB)(t u:gq)(a b:Int)(s:CS):fb (kz x t u a b s).2=fb s:=by
 unfold kz;split
 ·rfl
 split
 ·rfl
 split<;>simp
@[simp] theorem zLm(u:gq)(a b:Int)(x:(iB × gq) × CS):fb (ko u a b x).2=fb x.2:=by unfold ko;split<;>simp
@[simp] theorem zIi(a b:Int):∀(ts l:List gq) (s:CS),fb (sQ a b ts l s).2=fb s
|[],l,s=>by rw[sQ]
|t::ts,l,s=>by
 rw[sQ];split
 ·rfl
 ·rw[zIi a b ts];simp
@[simp] theorem zLn(s:CS)(t:List kY):fb {s with tab:=t}=fb s:=rfl
section
variable (L:iV)
@[simp] theorem zJ0(a b:Int)(e:jI)(l:List gq)(s:CS):fb (tN L a b e l s).2=fb s:=by
 unfold tN;split
 ·simp
 ·simp only;split<;>simp
def ja(i:Inf):Prop:=∀env s,fb (i env s).2=fb s
theorem OY(n:gz){i:Inf}(h:ja i)(t:gq)(env:Env)(s:CS):fb (nP n i t env s).2=fb s:=by unfold nP;simp[h env s]
theorem zIj(n:gz):ja (xU L n):=λenv s=>by
 unfold xU;simp only;repeat' split
 all_goals simp
theorem zJK(n a:gz){ia ib:Inf}(ha:ja ia)(hb:ja ib):ja (pX n a ia ib):=λenv s=>by
 unfold pX;simp only;split<;>simp[ha _ _,hb _ _]
theorem OZ(n a:gz){ia:Inf}(ha:ja ia):ja (xV n a ia):=λenv s=>by
 unfold xV;simp only;repeat' split
 all_goals simp[ha _ _]
theorem zI6(n b:gz){ia ib:Inf}(ha:ja ia)(hb:ja ib):ja (xW n b ia ib):=λenv s=>by
 unfold xW;simp only;repeat' split
 all_goals simp[ha _ _,hb _ _]
theorem zJL(n:gz){ia:Inf}(ha:ja ia):ja (pY n ia):=λenv s=>by
 unfold pY;simp only;repeat' split
 all_goals simp[ha _ _]
theorem zI7(n:gz){ia ib:Inf}(ha:ja ia)(hb:ja ib):ja (xX n ia ib):=λenv s=>by
 unfold xX;simp only;repeat' split
 all_goals simp[ha _ _,hb _ _]
theorem O0(q a b:gz){iq ia ib:Inf}(hq:ja iq)(ha:ja ia)(hb:ja ib):ja (xY q a b iq ia ib):=λenv s=>by
 unfold xY;simp[hq _ _,ha _ _,hb _ _]
theorem O1(n:gz){ia:Inf}(ha:ja ia):ja (xZ n ia):=λenv s=>by
 unfold xZ;simp only;repeat' split
 all_goals simp[ha _ _]
theorem O3(n a b:gz){ia ib:Inf}(ha:ja ia)(hb:ja ib):ja (opC n a b ia ib):=λenv s=>by
 unfold opC;simp only;repeat' split
 all_goals simp[OY _ ha,OY _ hb,ha _ _,hb _ _]
theorem zJM(n a:gz){ia:Inf}(ha:ja ia):ja (p8 n a ia):=λenv s=>by
 unfold p8;repeat' split
 all_goals simp[OY _ ha,ha _ _]
theorem Xx:∀(l:List gz),(∀x,x∈l->ja (jC L x))->∀env s,fb (oP L l env s).2=fb s
|[],_,env,s=>by rw[oP]
|n::l,h,env,s=>by
 rw[oP];simp only;rw[Xx l (λx hx=>h x (by simp[hx])),h n (by simp) env s]
theorem zJN(n:gz)(h:∀x,x∈n.kids->ja (jC L x)):ja (qL n (oP L n.kids)):=λenv s=>by
 unfold qL;simp only;rw[JV,Xx L n.kids h];split<;>simp
theorem JW{j:Inf}(h:ja j):ja (kP j):=λenv s=>by
 unfold kP;split
 ·rfl
 ·exact h env s
theorem JX(n:gz){rest:Inf}(hr:ja rest)(h:∀x,x∈n.kids->ja (jC L x)):ja (p9 L n rest):=λenv s=>by
 unfold p9;split
 ·rfl
 split
 ·rfl
 split
 ·rfl
 split
 ·rfl
 split
 ·rfl
 split
 ·exact zIj L n env s
 split
 ·exact zJN L n h env s
 ·exact hr env s
theorem zG9(n:gz)(h:∀x,x∈n.kids->ja (jC L x)):ja (jC L n):=by
 obtain⟨k,tx,nn,ln,cl,ts,ns,ks⟩:=n
 match ks,h with
 |[],h=>rw[JS];exact JW (JX L _ (λenv s=>rfl) h)
 |[a],h=>
  have ha:=h a (by simp[gz.kids]);rw[Bu];refine JW (JX L _ (λenv s=>?_) h);unfold Br;split
  ·exact OZ _ _ ha env s
  split
  ·exact zJL _ ha env s
  split
  ·exact O1 _ ha env s
  ·exact zJM _ _ ha env s
 |[a,b],h=>
  have ha:=h a (by simp[gz.kids]);have hb:=h b (by simp[gz.kids]);rw[Bv];refine JW (JX L _ (λenv s=>?_) h);unfold Bt;split
  ·exact zJK _ _ ha hb env s
  split
  ·exact zI6 _ _ ha hb env s
  split
  ·exact zI7 _ ha hb env s
  ·exact O3 _ _ _ ha hb env s
 |a::b::c::l,h=>
  rw[GZ];exact JW (JX L _ (O0 a b c (h a (by simp[gz.kids])) (h b (by simp[gz.kids])) (h c (by simp[gz.kids]))) h)
mutual
theorem JY:∀n:gz,ja (jC L n)
|.mk k tx nn ln cl ts ns ks=>zG9 L _ (Xy ks)
theorem Xy:∀l:List gz,∀x,x∈l->ja (jC L x)
|[],x,hx=>by cases hx
|n::l,x,hx=>by
 rcases aN.1 hx with e|hx
 ·rw[e];exact JY n
 ·exact Xy l x hx
end
end
end Go.Gr
namespace Go.Gr
open Go.Abs Go.Proofs List
theorem G6{L:iV}(hG:mU L){m k:Int}(h:kI L ⟨bs [],m,k⟩):tV (vU L m k)/\(vU L m k).name.size<=32:=by
 obtain⟨mn,kn,M,e1,e2,g1,g2,_⟩:=GL hG.good h;exact⟨hG.decs M (ae g1) _ (ae g2),hG.decNames M (ae g1) _ (ae g2)⟩
structure wX (L:iV) (s:CS) (i:Nat):Prop where
 tab:s.tab.length<=256
 ist:∀x,x∈s.tab->kI L ⟨bs [],x.module,x.decl⟩/\x.types.length<=1000000
 sites:s.sites.length+(257-i)*240009<=1000000000
 funs:s.funs.length<=i
 bad:s.bad.length<=i
def wY(L:iV)(x:kY)(s0:CS):CS:={s0 with module:=x.module,vars:=(vU L x.module x.decl).vars.map (·.1),wth:=x.types,e:=0}
theorem Xz{L:iV}{x:kY}(hx:kI L ⟨bs [],x.module,x.decl⟩)(hxt:x.types.length<=1000000){s:CS}{i:Nat}(hi:i<257)(h:wX L s i):lH L (wY L x s) (8*30001+1+(257-(i+1))*240009):=by
 have a:=h.sites;have b:=h.funs;have c:=h.bad;refine⟨hxt,?_,h.tab,hx.m0,hx.m1,⟨?_,?_⟩,h.ist⟩
 ·have e:(wY L x s).sites=s.sites:=rfl;have q:s.sites.length+(8*30001+1+(257-(i+1))*240009)<=1000000000:=by
   obtain⟨k,hk⟩:∃k,257-i=k+1:=⟨256-i,by omega⟩
   have hk2:257-(i+1)=k:=by omega
   rw[hk]at a;rw[hk2,show 8*30001+1=240009 from rfl];clear h hx hxt;generalize s.sites.length=n at*
   omega
  simp only[e];exact q
 ·have e:(wY L x s).funs=s.funs:=rfl;simp only[e];omega
 ·have e:(wY L x s).bad=s.bad:=rfl;simp only[e];omega
theorem JZ{L:iV}(hG:mU L){x:kY}(hx:kI L ⟨bs [],x.module,x.decl⟩)(hxt:x.types.length<=1000000){s:CS}{i:Nat}(hi:i<257)(h:wX L s i):wX L (nL L x s) (i+1):=by
 have hd:=(G6 hG hx).1;have p0:=Xz hx hxt hi h;have f0:fb (wY L x s)=fb s:=rfl;have hf:=h.funs;have hb:=h.bad;unfold nL;unfold wY at p0 f0;simp only;generalize vU L x.module x.decl=d at*
 generalize ({s with module:=x.module,vars:=d.vars.map (·.1),wth:=x.types,e:=0}:CS)=s0 at*
 have p1:=wW p0 (d.types.getD 0 noT) d.line d.col;have f1:=Eb (d.types.getD 0 noT) d.line d.col s0;generalize kH (d.types.getD 0 noT) d.line d.col s0=r1 at*
 have p2:=wW p1.1 (d.types.getD 1 noT) d.line d.col;have f2:=Eb (d.types.getD 1 noT) d.line d.col r1.2;generalize kH (d.types.getD 1 noT) d.line d.col r1.2=r2 at*
 obtain⟨T,hT⟩:∃T,(if r2.2.e=0 then pW (kS r1.1 r2.1) d.line d.col r2.2 else(kS r1.1 r2.1,r2.2))=T:=⟨_,rfl⟩
 have p3:lH L T.2 (8*30001+1+(257-(i+1))*240009)/\fb T.2=fb r2.2:=by
  rw[<-hT];split
  ·exact⟨(GM p2.1 _ _ _).1,JV _ _ _ _⟩
  ·exact⟨p2.1,rfl⟩
 rw[hT];clear hT;obtain⟨S,hS⟩:∃S,(if x.module=L.main.module/\x.decl=L.main.decl/\Aa (bT 1) r1.1=false then lG d.line d.col 14 T.2 else T.2)=S:=⟨_,rfl⟩
 have p4:lH L S (8*30001+1+(257-(i+1))*240009)/\fb S=fb T.2:=by
  rw[<-hS];split
  ·exact⟨vg p3.1 _ _ _,OW _ _ _ _⟩
  ·exact⟨p3.1,rfl⟩
 rw[hS];clear hS;have hne:sD [(d.param,r1.1)] (iK d.body):=⟨by have:=hd.size;simp only[length_cons,length_nil];omega,λv hv=>by simp only[aK]at hv;subst hv;exact p1.2⟩
 have p5:=(OM L hG.good d.body hd.body).2 [(d.param,r1.1)] S (1+(257-(i+1))*240009) hne (p4.1.less (by have:=hd.size;omega));have f5:=JY L d.body [(d.param,r1.1)] S;generalize jC L d.body [(d.param,r1.1)] S=y at*
 have p6:=xg (b:=(257-(i+1))*240009) (p5.1.less (by omega)) y.1.1 y.1.2 r2.1 d.body.line d.body.col;have f6:=OX y.1.1 y.1.2 r2.1 d.body.line d.body.col y.2;generalize kz y.1.1 y.1.2 r2.1 d.body.line d.body.col y.2=z at*
 have f:fb z.2=fb s:=by rw[f6,f5,p4.2,p3.2,f2,f1,f0]
 have g1:z.2.funs=s.funs:=dP (·.1) f;have g2:z.2.bad=s.bad:=dP (·.2) f;split
 ·exact⟨p6.tab,p6.ist,p6.sites,by simp[g1];omega,by simp[g2];omega⟩
 ·exact⟨p6.tab,p6.ist,p6.sites,by simp[g1];omega,by show z.2.bad.length<=_;rw[g2];omega⟩
theorem O4{L:iV}(i:Nat)(hi:i<L.mods.length):∀(l:List jd) (k:Nat) (s:CS),k+l.length<=(L.mods.getD i om).decs.length->wX L s 0->wX L (vB L i l k s).1 0
|[],k,s,hk,h=>by rw[vB];exact h
| d::l,k,s,hk,h=>by
 simp only[length_cons]at hk;rw[vB];split
 ·exact O4 i hi l (k+1) s (by omega) h
 have hx:∀x,x∈(kr 256 s.tab ⟨i,k,[]⟩).2->kI L ⟨bs [],x.module,x.decl⟩/\x.types.length<=1000000:=λx hx=>by
  rcases Ny hx with hx|hx
  ·exact h.ist x hx
  ·subst hx;exact⟨⟨by simp only;omega,by simp only;omega,by simp only;omega,by simp only[az];omega⟩,by simp⟩
 simp only;split
 ·exact⟨JQ h.tab _,hx,h.sites,h.funs,h.bad⟩
 ·exact O4 i hi l (k+1) _ (by omega) ⟨JQ h.tab _,hx,h.sites,h.funs,h.bad⟩
theorem O5{L:iV}:∀(l:List jZ) (i:Nat) (s:CS),l=L.mods.drop i->wX L s 0->wX L (rz L l i s).1 0
|[],i,s,hl,h=>by rw[rz];exact h
| m::l,i,s,hl,h=>by
 have hlt:i<L.mods.length:=by
  by_cases q:i<L.mods.length
  ·exact q
  ·rw[eG (by omega)]at hl;cases hl
 rw[aF hlt]at hl;have h1:=(List.cons.inj hl).1;have hm:L.mods.getD i om=m:=by rw[aH,aA hlt,h1];try rfl
 have r:=O4 i hlt m.decs 0 s (by rw[hm];omega) h;rw[rz];split
 ·exact r
 ·exact O5 l (i+1) _ (List.cons.inj hl).2 r
section
variable (L:iV)
abbrev ck9(s:CS):List Blk:=[uh L s 6 7 8,xf 256 s.tab.length 9,.dead,.dead,.dead,.dead,oV s.funs,qx s.sites,mJ s.bad,oU s.tab]
theorem YA(l:List gq)(i:Nat)(s:fI)(h:i<l.length):u7 (l.drop i) i s=u7 (l.drop (i+1)) (i+1) (s++(if i=0 then bs [91]else bs [44,32])++yE l[i]):=by
 rw[aF h,u7]
abbrev O6(L:iV)(s:CS)(vD wD:D)(tb a b d:Nat):Blk:=.box [.d (.sl false 1 (encS L.names)),.d (.sl false 2 (L.mods.map jZ.enc)),.d (.sl false 1 (L.scopes.map qw)),.d (.str L.main.name),.d (.int .i64 L.main.module),.d (.int .i64 L.main.decl),.ptr tb 0,.msl 13 a 0 s.funs.length,.d (.int .i64 s.main),.msl 3 b 0 s.sites.length,.msl 4 d 0 s.bad.length,.d (.int .i64 s.module),.d vD,.d wD,.d (.int .i64 s.e),.d (.int .i64 s.line),.d (.int .i64 s.col)]
abbrev ck5(L:iV)(s:CS)(vD wD:D):List Blk:=[O6 L s vD wD 1 2 3 4,xf 256 s.tab.length 5,oV s.funs,qx s.sites,mJ s.bad,oU s.tab]
theorem YB(a b:Int):(gz.mk 0 (bs []) 0 a b [] [] []).enc=[.int .i64 0,.str (bs []),.int .i64 0,.int .i64 a,.int .i64 b,.sl false 4 [],.sl false 1 [],.sl false 8 []]:=rfl
@[simp] theorem cut_body(d:jd):cut (d.enc.map AC.d) 5 8=d.body.enc.map AC.d:=by
 obtain⟨a,b,c,e,f,g,h,i⟩:=d;cases g;rfl
abbrev YC(z:fI):List AC:=[.d (.str z),.d (.int .i64 0),.d (.str (bs [])),.d (.sl true 1 []),.d (.sl true 4 []),.d (.int .i64 0),.d (.int .i64 0),.d (.str (bs [])),.d (.sl true 1 []),.d (.sl true 1 []),.d (.sl true 4 []),.d (.sl true 5 []),.d (.sl true 8 [])]
theorem J2(z:fI)(T:gq):13<=(splice (YC z) 1 (T.enc.map AC.d)).length:=by
 rw[BP];exact aQ _
theorem J3(z:fI)(T:gq)(b:iB):put (splice (YC z) 1 (T.enc.map AC.d)) 5 (b.enc.map AC.d)=(jW.enc ⟨z,T,b⟩).map AC.d:=by
 unfold jW.enc;rw[T.enc_eq,b.enc_eq];try rfl
abbrev G7(L:iV)(s:CS)(P:List Blk)(d:jd)(a b T:gq)(E:List Blk):List Blk:=qy L s++(P++[.box (d.enc.map .d),.box [.d (.int .i64 0),.d (.str (bs [])),.d (.int .i64 0),.d (.int .i64 d.line),.d (.int .i64 d.col),.d (.sl true 4 []),.d (.sl true 1 []),.d (.sl true 8 [])],.box (a.enc.map .d),.box (b.enc.map .d),.dead,.box (T.enc.map .d)]++E)
theorem St.cut{F:St->Prop}{t:List (Nat × AV)}{m:Hp}{n:Nat}(ts:List (Nat × AV))(bs:List Blk)(ht:∀p,p∈ts->Abs.look t p.1=p.2)(hm:∀i,m i=hpOf bs i)(h:∀T,(∀p,p∈ts->Abs.look T p.1=p.2)->F ⟨T,hpOf bs,n⟩):F ⟨t,m,n⟩:=by
 have e:m=hpOf bs:=funext hm;subst e;exact h t ht
abbrev G8(X:kY)(j:Nat)(z:fI):List (Nat × AV):=[(13,.c (.d (.int .i64 j))),(12,.c (.d (.str z))),(10,.c (.ptr 7 0)),(8,.c (.ptr 6 0)),(3,.c (.d (.rp X.enc 0))),(0,.c (.ptr 0 0))]
abbrev G9(L:iV)(s:CS)(P:List Blk)(T:gq)(z:iB):List Blk:=[uh L s 2 8 3,xf 256 s.tab.length 9,oV s.funs,mJ s.bad]++(P++[.box (T.enc.map .d),.box (z.enc.map .d),qx s.sites,oU s.tab])
theorem zBc(hF:mU L)(X:kY)(hX:kI L ⟨bs [],X.module,X.decl⟩)(hXt:X.types.length<=1000000)(s0:CS)(vD wD:D)(k:Nat)(hs:lH L (wY L X s0) (8*30001+1+k)):
  MCall Pg 34 [.c (.ptr 0 0),.ag (X.enc.map .d)] (ck5 L s0 vD wD) (.tup []) (ck9 L (nL L X s0)):=by
 refine zy3 mD λts hts ok hbk c hN hp=>?_;obtain⟨t,u,v,w,x,y,rfl⟩:=mZ hts;have hdG:=(G6 hF hX).1;have hdn:=(G6 hF hX).2;obtain⟨mn,kn,M,e1,e2,g1,g2,hd⟩:=GL hF.good hX;have hb1:=lD 1;unfold nL;unfold wY at hs;simp only;generalize hdd:vU L X.module X.decl=d at*
 have hv:=X4 d hd.vars;obtain⟨ta,tb,hty⟩:=Nw hd.types;have e3:d.types.getD 0 noT=ta:=by rw[hty];try rfl
 have e4:d.types.getD 1 noT=tb:=by rw[hty];try rfl
 rw[e3,e4];obtain⟨s,hss⟩:∃s:CS,{s0 with module:=X.module,vars:=d.vars.map (·.1),wth:=X.types,e:=0}=s:=⟨_,rfl⟩
 have m1:=DW L ta d.line d.col s (by rw[<-hss]at*;exact hs.wth);rw[hss]at hs⊢;have p1:=wW hs ta d.line d.col;generalize kH ta d.line d.col s=r1 at*
 have m2:=DW L tb d.line d.col r1.2 p1.1.wth;have p2:=wW p1.1 tb d.line d.col;generalize kH tb d.line d.col r1.2=r2 at*
 unfold XH;have b0:qy L s=qy L {s0 with module:=X.module,vars:=d.vars.map (·.1),wth:=X.types,e:=0}:=by rw[hss]
 rw[b0]at m1;simp[e1,e2,g1,g2];refine⟨by decide,?_⟩;refine gp hv ?_;simp[hty];refine gY [0,1,2,3,4,5] m1 (by simp[e1]) ?_;simp[hty];refine⟨by decide,?_⟩;refine gU [0,1,2,3,4,5] m2 ?_;simp;refine⟨by decide,?_⟩;have hfits:=Vx (bT 1) r1.1;generalize Aa (bT 1) r1.1=ft at*
 have mm:=MCall.erd (args:=[.c (.ptr 0 0),.ag [.d (.int .i64 6),.d (.str (bs [])),.d (.sl true 1 []),.d (.sl false 4 [r1.1.enc,r2.1.enc])],.ag [.d (.int .i64 0),.d (.str (bs [])),.d (.int .i64 0),.d (.int .i64 d.line),.d (.int .i64 d.col),.d (.sl true 4 []),.d (.sl true 1 []),.d (.sl true 8 [])]]) (DX L (kS r1.1 r2.1) (.mk 0 (bs []) 0 d.line d.col [] [] []) r2.2) (by simp[AV.erds,AV.erd,AC.erd,D.erd,D.erdL,D.erdE,kS,tT,nQ,vY,encS,gz.enc,gz.encs,YB]);simp only[gz.line,gz.col]at mm;have pm:=GM p2.1 (kS r1.1 r2.1) d.line d.col;have fin:∀q:CS,lH L q (8*30001+1+k)->MCall Pg 57 [.c (.ptr 0 0),.ag [.d (.int .i64 0),.d (.str (bs [])),.d (.int .i64 0),.d (.int .i64 d.line),.d (.int .i64 d.col),.d (.sl true 4 []),.d (.sl true 1 []),.d (.sl true 8 [])],.c (.d (.int .i64 14))] (qy L q) (.tup []) (qy L (lG d.line d.col 14 q))/\lH L (lG d.line d.col 14 q) (8*30001+1+k):=λq hq=>⟨MCall.erd (vK L (.mk 0 (bs []) 0 d.line d.col [] [] []) 14 q) (by simp[AV.erds,AV.erd,AC.erd,D.erd,D.erdL,D.erdE,encS,YB]),vg hq _ _ _⟩
 have hne:sD [(d.param,r1.1)] (iK d.body):=⟨by have:=hdG.size;simp;omega,λv hv=>by simp at hv;subst hv;exact p1.2⟩
 have hi:=OM L hF.good d.body hdG.body;have minf:∀q:CS,lH L q (8*30001+1+k)->MCall Pg 58 [.c (.ptr 0 0),.ag (d.body.enc.map .d),.c (.d (.sl true 5 [.str d.param::r1.1.enc]))] (qy L q) (GN (jC L d.body [(d.param,r1.1)] q).1.1 (jC L d.body [(d.param,r1.1)] q).1.2) (JP L (jC L d.body [(d.param,r1.1)] q).2)/\lH L (jC L d.body [(d.param,r1.1)] q).2 (1+k):=λq hq=>⟨MCall.erd (hi.1 [(d.param,r1.1)] q (1+k) hne (hq.less (by have:=hdG.size;omega))) (by simp[AV.erds,AV.erd,AC.erd,D.erd,D.erdL,D.erdE,jA]),(hi.2 [(d.param,r1.1)] q (1+k) hne (hq.less (by have:=hdG.size;omega))).1⟩
 have hnm:∃nm,L.names.getD X.module.toNat (bs [])=nm/\L.names[mn]?=some nm:=by
  rw[e1];simp only[az];have:mn<L.names.length:=by have:=hF.good.names;have:=hX.m1;simp only at this;omega
  exact⟨L.names[mn],by rw[aH,aA this];rfl,aA this⟩
 obtain⟨nm,hnm1,hnm2⟩:=hnm;have hnz:=hF.modNames nm (ae hnm2);rw[hnm1];obtain⟨R,hR⟩:∃R,u7 X.types 0 (nm++bs [46]++d.name)=R:=⟨_,rfl⟩
 rw[hR];by_cases q0:r2.2.e=0
 ·rw [aC q0];generalize pW (kS r1.1 r2.1) d.line d.col r2.2=T at*
  simp[q0];refine fe [16] ?_;simp[iT];refine gY [0,1,2,3,4,5] mm (by simp[q0]) ?_;simp;refine fo [] ?_;simp;refine gp hb1 ?_;simp;refine gp hfits ?_;simp;refine⟨by decide,?_⟩;refine fe [] ?_;simp only[BZ,AQ,aC,aB,reduceIte,Nat.reduceEqDiff,AL,qH,Blk.fz_arr,BX,wQ];refine St.cut (F:=w_ Pg c _ _ _) [(0,.c (.ptr 0 0)),(3,.c (.d (.rp X.enc 0))),(4,.c (.ptr 12 0)),(5,.c (.ptr 13 0)),(6,.c (.ptr 14 0)),(7,.c (.ptr 15 0)),(8,.c (.ptr 17 0)),(9,.c (.d (.bool ft)))] (G7 L T.2 [.pin t 0,.pin u 1,.pin v 2,.pin w 3,.pin x 4,.pin y 5] d r1.1 r2.1 (T.1) []) ?_ ?_ λT' hT=>?_
  ·simp[iT]
  ·intro i;by_cases q:i<18
   ·rcases(show i=0\/i=1\/i=2\/i=3\/i=4\/i=5\/i=6\/i=7\/i=8\/i=9\/i=10\/i=11\/i=12\/i=13\/i=14\/i=15\/i=16\/i=17 from by omega)with rfl|rfl|rfl|rfl|rfl|rfl|rfl|rfl|rfl|rfl|rfl|rfl|rfl|rfl|rfl|rfl|rfl|rfl<;>simp[iT]
   ·refine Eq.trans (b:=Blk.non) ?_ (rW (by simp;omega)).symm;try simp[show i≠0 from by omega,show i≠1 from by omega,show i≠2 from by omega,show i≠3 from by omega,show i≠4 from by omega,show i≠5 from by omega,show i≠6 from by omega,show i≠7 from by omega,show i≠8 from by omega,show i≠9 from by omega,show i≠10 from by omega,show i≠11 from by omega,show i≠12 from by omega,show i≠13 from by omega,show i≠14 from by omega,show i≠15 from by omega,show i≠16 from by omega,show i≠17 from by omega]
    rw[rW (show 12<=i from by omega)];try rfl
  simp only[di,cO,false_implies,implies_true,and_true]at hT;obtain⟨l0,l3,l4,l5,l6,l7,l8,l9⟩:=hT;simp[l0,l3,l4,l5,l6,l7,l8,l9];have P5:=pm.1;generalize T.1=Ty at*
  generalize T.2=S2 at*
  obtain⟨S5,pa,hS5⟩:∃S5,lH L S5 (8*30001+1+k)/\(if X.module=L.main.module/\X.decl=L.main.decl/\ft=false then lG d.line d.col 14 S2 else S2)=S5:=by
   split
   ·exact⟨_,(fin S2 P5).2,rfl⟩
   ·exact⟨_,P5,rfl⟩
  rw[hS5];by_cases cm:X.module=L.main.module;rotate_left;rw[aB (λz=>cm z.1)]at hS5;subst hS5;simp[cm,l0,l3,l4,l5,l6,l7,l8,l9];refine⟨by decide,?_⟩;generalize S2=S5 at*
  rotate_left;by_cases cd:X.decl=L.main.decl;rotate_left;rw[aB (λz=>cd z.2.1)]at hS5;subst hS5;simp[cm,cd,l0,l3,l4,l5,l6,l7,l8,l9];refine⟨by decide,?_⟩;generalize S2=S5 at*
  rotate_left;rotate_left;by_cases cf:ft=true;rw[aB (λz=>by rw[cf]at z;simp at z)]at hS5;subst hS5;simp[cm,cd,cf,l0,l3,l4,l5,l6,l7,l8,l9];refine⟨by decide,?_⟩;generalize S2=S5 at*
  rotate_left;rw[aC ⟨cm,cd,by simpa using cf⟩]at hS5;have ma:=(fin S2 P5).1;rw[hS5]at ma;simp[cm,cd,cf,l0,l3,l4,l5,l6,l7,l8,l9];refine⟨by decide,?_⟩;refine gY [0,1,2,3,4,5] ma (by simp[l0,l3,l4,l5,l6,l7,l8,l9]) ?_;simp[l0,l3,l4,l5,l6,l7,l8,l9]
  all_goals
   have mi:=(minf S5 pa).1;have pi:=(minf S5 pa).2;generalize jC L d.body [(d.param,r1.1)] (S5)=r3 at*
   have mc:=yz L r3.1.1 r3.1.2 r2.1 d.body r3.2 (by have:=pi.sites;omega);have pc:=xg (b:=k) (pi.less (by omega)) r3.1.1 r3.1.2 r2.1 d.body.line d.body.col;generalize kz r3.1.1 r3.1.2 r2.1 d.body.line d.body.col r3.2=r4 at*
   refine gY [0,1,2,3,4,5] mi (by simp[l0,l3,l4,l5,l6,l7,l8,l9]) ?_;simp[l0,l3,l4,l5,l6,l7,l8,l9];refine gY [0,1,2,18,4,19] mc (by simp[l0,l3,l4,l5,l6,l7,l8,l9]) ?_;simp[e1,hnm2,l0,l3,l4,l5,l6,l7,l8,l9];refine⟨by unfold zah;omega,by unfold zah;omega,by decide,?_⟩;refine fU iC hp (λY:Nat × fI=>Y.1<=X.types.length/\Y.2.size<=100+Y.1*20010/\u7 (X.types.drop Y.1) Y.1 Y.2=R) (λY=>G8 X Y.1 Y.2) (λ_=>G9 L r4.2 [.pin t 0,.pin u 1] Ty r4.1) (λY=>X.types.length-Y.1) (0,nm++bs [46]++d.name) [0,1,2,4,6,7,17,20,22,19] ⟨by simp,by simp only[ax,Ah,length_cons,length_nil];omega,by simpa using hR⟩ (by simp[l0,l3,l4,l5,l6,l7,l8,l9]) λ⟨j,z⟩ ⟨i1,i3,i2⟩=>?_;unfold Nq;simp only at i1 i3 i2;simp;apply gT<;>intro h
   ·have hj:j<X.types.length:=by simpa using h
    rw[YA _ _ _ hj]at i2;obtain⟨q,hq⟩:∃q,X.types[j]=q:=⟨_,rfl⟩
    rw[hq]at i2;have hw:=wrap_i64 (n:=(j:Int)+1) (by have:=hXt;omega) (by have:=hXt;omega);have hsq:=OT q;by_cases j0:j=0
    ·subst j0;simp[hj,hq];refine⟨by unfold zah;omega,?_⟩;refine gp (JJ q) ?_;simp;refine⟨by unfold zah;omega,?_⟩;refine fJ (0+1,z++bs [91]++yE q) [0,1,2,3,4,5,6,7,8,9] ⟨by simp only;omega,by simp only[ax,Ah,length_cons,length_nil];omega,by simpa using i2⟩ (by simp only;omega) ?_;simp[show IntKind.i64.wrap 1=1 from by decide]
    ·rw[aB j0]at i2;simp[hj,hq,j0];refine⟨by unfold zah;omega,?_⟩;refine gp (JJ q) ?_;simp;refine⟨by unfold zah;omega,?_⟩;refine fJ (j+1,z++bs [44,32]++yE q) [0,1,2,3,4,5,6,7,8,9] ⟨by simp only;omega,by simp only[ax,Ah,length_cons,length_nil];omega,i2⟩ (by simp only;omega) ?_;simp[hw]
   have hj:j=X.types.length:=by simp at h;omega
   subst hj;rw[aO,u7]at i2;subst i2;have hfew:=pc.few;have tf:(r4.2.funs.map ((λx=>List.map AC.d x)∘jW.enc)).take r4.2.funs.length=r4.2.funs.map ((λx=>List.map AC.d x)∘jW.enc):=aD (by simp);have td:(r4.2.bad.map ((λx=>List.map AC.d x)∘iY.enc)).take r4.2.bad.length=r4.2.bad.map ((λx=>List.map AC.d x)∘iY.enc):=aD (by simp);by_cases l0:0<X.types.length
   ·rw[aC l0];simp[l0,J2,J3,jW.enc_length];refine⟨by unfold zah;omega,by omega,by decide,?_⟩;by_cases qe:r4.2.e=0
    ·simp[qe];exact fO [0,1,4,5,6,7,10,8,3,9] [4,5,4,4,4,4] (by simp[AV.erds,AV.erd,iY.enc,tf,td])
    ·simp[qe];refine⟨by omega,by decide,?_⟩;exact fO [0,1,4,5,6,7,10,8,11,9] [4,5,4,4,4,4] (by simp[AV.erds,AV.erd,iY.enc,tf,td])
   ·rw[aB l0];simp[l0,J2,J3,jW.enc_length];refine⟨by omega,by decide,?_⟩;by_cases qe:r4.2.e=0
    ·simp[qe];exact fO [0,1,4,5,6,7,10,8,3,9] [4,5,4,4,4,4] (by simp[AV.erds,AV.erd,iY.enc,tf,td])
    ·simp[qe];refine⟨by omega,by decide,?_⟩;exact fO [0,1,4,5,6,7,10,8,11,9] [4,5,4,4,4,4] (by simp[AV.erds,AV.erd,iY.enc,tf,td])
 ·rw [aB q0];simp[q0];refine fo [.c 17 2] ?_;simp;refine gp hb1 ?_;simp;refine gp hfits ?_;simp;refine⟨by decide,?_⟩;refine fe [16,18] ?_;simp only[BZ,AQ,aC,aB,reduceIte,Nat.reduceEqDiff,AL,qH,Blk.fz_arr,BX,wQ,pI,R5];refine St.cut (F:=w_ Pg c _ _ _) [(0,.c (.ptr 0 0)),(3,.c (.d (.rp X.enc 0))),(4,.c (.ptr 12 0)),(5,.c (.ptr 13 0)),(6,.c (.ptr 14 0)),(7,.c (.ptr 15 0)),(8,.c (.ptr 17 0)),(9,.c (.d (.bool ft)))] (G7 L r2.2 [.pin t 0,.pin u 1,.pin v 2,.pin w 3,.pin x 4,.pin y 5] d r1.1 r2.1 (kS r1.1 r2.1) [.dead]) ?_ ?_ λT' hT=>?_
  ·simp[iT]
  ·intro i;by_cases q:i<19
   ·rcases(show i=0\/i=1\/i=2\/i=3\/i=4\/i=5\/i=6\/i=7\/i=8\/i=9\/i=10\/i=11\/i=12\/i=13\/i=14\/i=15\/i=16\/i=17\/i=18 from by omega)with rfl|rfl|rfl|rfl|rfl|rfl|rfl|rfl|rfl|rfl|rfl|rfl|rfl|rfl|rfl|rfl|rfl|rfl|rfl<;>simp[iT,kS,tT]
   ·refine Eq.trans (b:=Blk.non) ?_ (rW (by simp;omega)).symm;try simp[show i≠0 from by omega,show i≠1 from by omega,show i≠2 from by omega,show i≠3 from by omega,show i≠4 from by omega,show i≠5 from by omega,show i≠6 from by omega,show i≠7 from by omega,show i≠8 from by omega,show i≠9 from by omega,show i≠10 from by omega,show i≠11 from by omega,show i≠12 from by omega,show i≠13 from by omega,show i≠14 from by omega,show i≠15 from by omega,show i≠16 from by omega,show i≠17 from by omega,show i≠18 from by omega]
    rw[rW (show 12<=i from by omega)];try rfl
  simp only[di,cO,false_implies,implies_true,and_true]at hT;obtain⟨l0,l3,l4,l5,l6,l7,l8,l9⟩:=hT;simp[l0,l3,l4,l5,l6,l7,l8,l9];have P5:=p2.1;generalize kS r1.1 r2.1=Ty at*
  generalize r2.2=S2 at*
  obtain⟨S5,pa,hS5⟩:∃S5,lH L S5 (8*30001+1+k)/\(if X.module=L.main.module/\X.decl=L.main.decl/\ft=false then lG d.line d.col 14 S2 else S2)=S5:=by
   split
   ·exact⟨_,(fin S2 P5).2,rfl⟩
   ·exact⟨_,P5,rfl⟩
  rw[hS5];by_cases cm:X.module=L.main.module;rotate_left;rw[aB (λz=>cm z.1)]at hS5;subst hS5;simp[cm,l0,l3,l4,l5,l6,l7,l8,l9];refine⟨by decide,?_⟩;generalize S2=S5 at*
  rotate_left;by_cases cd:X.decl=L.main.decl;rotate_left;rw[aB (λz=>cd z.2.1)]at hS5;subst hS5;simp[cm,cd,l0,l3,l4,l5,l6,l7,l8,l9];refine⟨by decide,?_⟩;generalize S2=S5 at*
  rotate_left;rotate_left;by_cases cf:ft=true;rw[aB (λz=>by rw[cf]at z;simp at z)]at hS5;subst hS5;simp[cm,cd,cf,l0,l3,l4,l5,l6,l7,l8,l9];refine⟨by decide,?_⟩;generalize S2=S5 at*
  rotate_left;rw[aC ⟨cm,cd,by simpa using cf⟩]at hS5;have ma:=(fin S2 P5).1;rw[hS5]at ma;simp[cm,cd,cf,l0,l3,l4,l5,l6,l7,l8,l9];refine⟨by decide,?_⟩;refine gY [0,1,2,3,4,5] ma (by simp[l0,l3,l4,l5,l6,l7,l8,l9]) ?_;simp[l0,l3,l4,l5,l6,l7,l8,l9]
  all_goals
   have mi:=(minf S5 pa).1;have pi:=(minf S5 pa).2;generalize jC L d.body [(d.param,r1.1)] (S5)=r3 at*
   have mc:=yz L r3.1.1 r3.1.2 r2.1 d.body r3.2 (by have:=pi.sites;omega);have pc:=xg (b:=k) (pi.less (by omega)) r3.1.1 r3.1.2 r2.1 d.body.line d.body.col;generalize kz r3.1.1 r3.1.2 r2.1 d.body.line d.body.col r3.2=r4 at*
   refine gY [0,1,2,3,4,5] mi (by simp[l0,l3,l4,l5,l6,l7,l8,l9]) ?_;simp[l0,l3,l4,l5,l6,l7,l8,l9];refine gY [0,1,2,19,4,20] mc (by simp[l0,l3,l4,l5,l6,l7,l8,l9]) ?_;simp[e1,hnm2,l0,l3,l4,l5,l6,l7,l8,l9];refine⟨by unfold zah;omega,by unfold zah;omega,by decide,?_⟩;refine fU iC hp (λY:Nat × fI=>Y.1<=X.types.length/\Y.2.size<=100+Y.1*20010/\u7 (X.types.drop Y.1) Y.1 Y.2=R) (λY=>G8 X Y.1 Y.2) (λ_=>G9 L r4.2 [.pin t 0,.pin u 1] Ty r4.1) (λY=>X.types.length-Y.1) (0,nm++bs [46]++d.name) [0,1,2,4,6,7,17,21,23,20] ⟨by simp,by simp only[ax,Ah,length_cons,length_nil];omega,by simpa using hR⟩ (by simp[l0,l3,l4,l5,l6,l7,l8,l9]) λ⟨j,z⟩ ⟨i1,i3,i2⟩=>?_;unfold Nq;simp only at i1 i3 i2;simp;apply gT<;>intro h
   ·have hj:j<X.types.length:=by simpa using h
    rw[YA _ _ _ hj]at i2;obtain⟨q,hq⟩:∃q,X.types[j]=q:=⟨_,rfl⟩
    rw[hq]at i2;have hw:=wrap_i64 (n:=(j:Int)+1) (by have:=hXt;omega) (by have:=hXt;omega);have hsq:=OT q;by_cases j0:j=0
    ·subst j0;simp[hj,hq];refine⟨by unfold zah;omega,?_⟩;refine gp (JJ q) ?_;simp;refine⟨by unfold zah;omega,?_⟩;refine fJ (0+1,z++bs [91]++yE q) [0,1,2,3,4,5,6,7,8,9] ⟨by simp only;omega,by simp only[ax,Ah,length_cons,length_nil];omega,by simpa using i2⟩ (by simp only;omega) ?_;simp[show IntKind.i64.wrap 1=1 from by decide]
    ·rw[aB j0]at i2;simp[hj,hq,j0];refine⟨by unfold zah;omega,?_⟩;refine gp (JJ q) ?_;simp;refine⟨by unfold zah;omega,?_⟩;refine fJ (j+1,z++bs [44,32]++yE q) [0,1,2,3,4,5,6,7,8,9] ⟨by simp only;omega,by simp only[ax,Ah,length_cons,length_nil];omega,i2⟩ (by simp only;omega) ?_;simp[hw]
   have hj:j=X.types.length:=by simp at h;omega
   subst hj;rw[aO,u7]at i2;subst i2;have hfew:=pc.few;have tf:(r4.2.funs.map ((λx=>List.map AC.d x)∘jW.enc)).take r4.2.funs.length=r4.2.funs.map ((λx=>List.map AC.d x)∘jW.enc):=aD (by simp);have td:(r4.2.bad.map ((λx=>List.map AC.d x)∘iY.enc)).take r4.2.bad.length=r4.2.bad.map ((λx=>List.map AC.d x)∘iY.enc):=aD (by simp);by_cases l0:0<X.types.length
   ·rw[aC l0];simp[l0,J2,J3,jW.enc_length];refine⟨by unfold zah;omega,by omega,by decide,?_⟩;by_cases qe:r4.2.e=0
    ·simp[qe];exact fO [0,1,4,5,6,7,10,8,3,9] [4,5,4,4,4,4] (by simp[AV.erds,AV.erd,iY.enc,tf,td])
    ·simp[qe];refine⟨by omega,by decide,?_⟩;exact fO [0,1,4,5,6,7,10,8,11,9] [4,5,4,4,4,4] (by simp[AV.erds,AV.erd,iY.enc,tf,td])
   ·rw[aB l0];simp[l0,J2,J3,jW.enc_length];refine⟨by omega,by decide,?_⟩;by_cases qe:r4.2.e=0
    ·simp[qe];exact fO [0,1,4,5,6,7,10,8,3,9] [4,5,4,4,4,4] (by simp[AV.erds,AV.erd,iY.enc,tf,td])
    ·simp[qe];refine⟨by omega,by decide,?_⟩;exact fO [0,1,4,5,6,7,10,8,11,9] [4,5,4,4,4,4] (by simp[AV.erds,AV.erd,iY.enc,tf,td])
end
abbrev YD(L:iV)(i:Nat):List (Nat × AV):=[(5,.c (.d (.int .i64 i))),(4,.c (.ptr 2 0)),(2,.c (.ptr 0 0)),(1,.c (.d (.rp L.enc 0)))]
abbrev YE(L:iV)(s:CS):List Blk:=[.box [.d (.sl true 13 []),.d (.int .i64 0),.d (.sl true 3 [])],.box [.d (.int .i64 256),.msl 3 6 0 s.tab.length],O6 L s (.sl true 1 []) (.sl true 4 []) 1 3 4 5,oV s.funs,qx s.sites,mJ s.bad,oU s.tab]
abbrev O7(i:Nat):List (Nat × AV):=[(10,.c (.d (.int .i64 i))),(4,.c (.ptr 2 0)),(2,.c (.ptr 0 0))]
abbrev O8(L:iV)(s:CS)(vD wD:D):List Blk:=[.box [.d (.sl true 13 []),.d (.int .i64 0),.d (.sl true 3 [])],.box [.d (.int .i64 256),.msl 3 6 0 s.tab.length],O6 L s vD wD 1 3 4 5,oV s.funs,qx s.sites,mJ s.bad,oU s.tab]
theorem zIK(a0 a1 a2 a3 a4 a5 a6 a7 a8 a9 a10 a11 a12 a13 a14 a15 a16:AC):cut [a0,a1,a2,a3,a4,a5,a6,a7,a8,a9,a10,a11,a12,a13,a14,a15,a16] 7 3=[a7,a8,a9]:=rfl
theorem zIL(L:iV):put (splice [.d (.sl true 1 []),.d (.sl true 2 []),.d (.sl true 1 []),.d (.str (bs [])),.d (.int .i64 0),.d (.int .i64 0),.d (.sc (.pointer none)),.d (.sl true 13 []),.d (.int .i64 0),.d (.sl true 3 []),.d (.sl true 4 []),.d (.int .i64 0),.d (.sl true 1 []),.d (.sl true 4 []),.d (.int .i64 0),.d (.int .i64 0),.d (.int .i64 0)] 0 (L.enc.map AC.d)) 6 [AC.ptr 1 0]=[.d (.sl false 1 (encS L.names)),.d (.sl false 2 (L.mods.map jZ.enc)),.d (.sl false 1 (L.scopes.map qw)),.d (.str L.main.name),.d (.int .i64 L.main.module),.d (.int .i64 L.main.decl),.ptr 1 0,.d (.sl true 13 []),.d (.int .i64 0),.d (.sl true 3 []),.d (.sl true 4 []),.d (.int .i64 0),.d (.sl true 1 []),.d (.sl true 4 []),.d (.int .i64 0),.d (.int .i64 0),.d (.int .i64 0)]:=rfl
theorem zGv(L:iV)(hG:mU L):gu Pg 17 [.agg L.enc] (.tup [.agg (Ae L).1.enc,.one (.sl false 4 ((Ae L).2.map iY.enc))]):=by
 refine zCq (by simp) λo c hN hp=>?_;obtain⟨R,hR⟩:∃R,Ae L=R:=⟨_,rfl⟩
 rw[hR];unfold Ae at hR;unfold XL;simp;refine fo [.c 2 7,.c 2 9,.c 2 10,.c 1 1] ?_;simp[zIL];refine fU iC hp (λY:Nat × CS=>Y.1<=L.mods.length/\wX L Y.2 0/\Y.2.funs=[]/\Y.2.sites=[]/\Y.2.bad=[]/\Y.2.module=0/\Y.2.e=0/\Y.2.line=0/\Y.2.col=0/\rz L (L.mods.drop Y.1) Y.1 Y.2=rz L L.mods 0 cs0) (λY=>YD L Y.1) (λY=>YE L Y.2) (λY=>L.mods.length-Y.1) (0,cs0) [0,1,2,3,4,5,6] ⟨by simp,⟨by simp[cs0],by simp[cs0],by simp[cs0],by simp[cs0],by simp[cs0]⟩,rfl,rfl,rfl,rfl,rfl,rfl,rfl,by simp⟩ (by simp[cs0]) λ⟨i,S⟩ ⟨i1,i2,i3,i4,i5,i6,i7,i8,i9,i10⟩=>?_;unfold XJ;simp only at i1 i2 i3 i4 i5 i6 i7 i8 i9 i10;simp;apply gT<;>intro h
 ·have hi:i<L.mods.length:=by simpa using h
  obtain⟨m,hm⟩:∃m,L.mods[i]=m:=⟨_,rfl⟩
  rw[aF hi,hm,rz]at i10;simp[hi,hm];refine fU iC hp (λY:Nat × CS=>Y.1<=m.decs.length/\wX L Y.2 0/\Y.2.funs=[]/\Y.2.sites=[]/\Y.2.bad=[]/\Y.2.module=0/\Y.2.e=0/\Y.2.line=0/\Y.2.col=0/\(if 0<(vB L i (m.decs.drop Y.1) Y.1 Y.2).2.length then vB L i (m.decs.drop Y.1) Y.1 Y.2 else rz L (L.mods.drop (i+1)) (i+1) (vB L i (m.decs.drop Y.1) Y.1 Y.2).1)=rz L L.mods 0 cs0) (λY=>(6,.c (.d (.int .i64 Y.1)))::YD L i) (λY=>YE L Y.2) (λY=>m.decs.length-Y.1) (0,S) [0,1,2,3,4,5,6] ⟨by simp,i2,i3,i4,i5,i6,i7,i8,i9,by simpa using i10⟩ (by simp) λ⟨k,S2⟩ ⟨j1,j2,j3,j4,j5,j6,j7,j8,j9,j10⟩=>?_;unfold XI;simp only at j1 j2 j3 j4 j5 j6 j7 j8 j9 j10;have hmi:L.mods[i]?=some m:=by rw[aA hi,hm]
  simp[hi,hm];apply gT<;>intro h
  ·have hk:k<m.decs.length:=by simpa using h
   obtain⟨d,hd⟩:∃d,m.decs[k]=d:=⟨_,rfl⟩
   rw[aF hk,hd,vB]at j10;have hdl:=(hG.small m (ae hmi)).decs;have hw:=wI (n:=(k:Int)+1);by_cases c0:0<d.vars.length
   ·rw[aC c0]at j10;simp[hi,hm,hk,hd,c0];refine fJ (k+1,S2) [0,1,2,3,4,5,6] ⟨by simp only;omega,j2,j3,j4,j5,j6,j7,j8,j9,j10⟩ (by simp only;omega) ?_;simp[hw]
   rw[aB c0]at j10;have hx:∀x,x∈(kr 256 S2.tab ⟨i,k,[]⟩).2->kI L ⟨bs [],x.module,x.decl⟩/\x.types.length<=1000000:=λx hx=>by
    have hm2:L.mods.getD i om=m:=by rw[aH,hmi];try rfl
    rcases Ny hx with hx|hx
    ·exact j2.ist x hx
    ·subst hx;exact⟨⟨by simp only;omega,by simp only;omega,by simp only;omega,by simp only[az];rw[hm2];omega⟩,by simp⟩
   have hx2:=JQ j2.tab ⟨i,k,[]⟩;have le4:L.enc[4]?=some (D.int .i64 L.main.module):=rfl;have le5:L.enc[5]?=some (D.int .i64 L.main.decl):=rfl;have ma:=MCall.erd (args:=[.c (.ptr 0 0),.ag [.d (.int .i64 i),.d (.int .i64 k),.d (.sl true 4 [])]]) (XY 256 S2.tab (by have:=j2.tab;omega) ⟨i,k,[]⟩ (by simp)) (by simp[AV.erds,AV.erd,AC.erd,D.erd,D.erdL,D.erdE,kY.enc]);generalize kr 256 S2.tab ⟨i,k,[]⟩=r at*
   simp only at j10;by_cases r0:r.1.2=0;rotate_left
   ·simp only[aC (show r.1.2≠0 from r0)]at j10;simp at j10;rw[<-j10]at hR;simp at hR;subst hR;simp[hi,hm,hk,hd,c0];refine gY [1,6] ma (by simp[kY.enc]) ?_;simp[r0];refine⟨by decide,?_⟩;refine fe [] ?_;simp[yG,lZ.enc,iY.enc];try decide
   ·simp only[aB (show¬r.1.2≠0 fromλz=>z r0)]at j10;by_cases cm:(i:Int)=L.main.module
    ·by_cases cd:(k:Int)=L.main.decl
     ·simp only[aC (show(i:Int)=L.main.module/\(k:Int)=L.main.decl from⟨cm,cd⟩)]at j10;simp[hi,hm,hk,hd,c0];refine gY [1,6] ma (by simp[kY.enc]) ?_;simp[r0,cm,cd,le4,le5];refine fJ (k+1,{S2 with tab:=r.2,main:=r.1.1}) [0,1,2,3,4,5,8] ⟨by simp only;omega,⟨hx2,hx,j2.sites,j2.funs,j2.bad⟩,j3,j4,j5,j6,j7,j8,j9,j10⟩ (by simp only;omega) ?_;simp;rw[<-cd];exact hw
     ·simp only[aB (show¬((i:Int)=L.main.module/\(k:Int)=L.main.decl)fromλz=>cd z.2)]at j10;simp[hi,hm,hk,hd,c0];refine gY [1,6] ma (by simp[kY.enc]) ?_;simp[r0,cm,cd,le4,le5];refine fJ (k+1,{S2 with tab:=r.2}) [0,1,2,3,4,5,8] ⟨by simp only;omega,⟨hx2,hx,j2.sites,j2.funs,j2.bad⟩,j3,j4,j5,j6,j7,j8,j9,j10⟩ (by simp only;omega) ?_;simp[hw]
    ·simp only[aB (show¬((i:Int)=L.main.module/\(k:Int)=L.main.decl)fromλz=>cm z.1)]at j10;simp[hi,hm,hk,hd,c0];refine gY [1,6] ma (by simp[kY.enc]) ?_;simp[r0,cm,le4,le5];refine fJ (k+1,{S2 with tab:=r.2}) [0,1,2,3,4,5,8] ⟨by simp only;omega,⟨hx2,hx,j2.sites,j2.funs,j2.bad⟩,j3,j4,j5,j6,j7,j8,j9,j10⟩ (by simp only;omega) ?_;simp[hw]
  ·have hk:k=m.decs.length:=by simp at h;omega
   subst hk;rw[aO,vB]at j10;simp at j10;have hw:=wrap_i64 (n:=(i:Int)+1) (by have:=hG.good.few;omega) (by have:=hG.good.few;omega);refine fJ (i+1,S2) [0,1,2,3,4,5,6] ⟨by simp only;omega,j2,j3,j4,j5,j6,j7,j8,j9,j10⟩ (by simp only;omega) ?_;simp[hw]
 ·have hi:i=L.mods.length:=by simp at h;omega
  subst hi;rw[aO,rz]at i10;rw[<-i10]at hR;simp only[length_nil,Nat.lt_irrefl,if_false]at hR;obtain⟨F,hF⟩:∃F,pJ L 257 0 S=F:=⟨_,rfl⟩
  rw[hF]at hR;refine fU iC hp (λY:Nat × CS × D × D=>Y.1<=256/\wX L Y.2.1 Y.1/\pJ L (257-Y.1) Y.1 Y.2.1=F) (λY=>O7 Y.1) (λY=>O8 L Y.2.1 Y.2.2.1 Y.2.2.2) (λY=>257-Y.1) (0,S,.sl true 1 [],.sl true 4 []) [0,1,2,3,4,5,6] ⟨by simp,i2,by simpa using hF⟩ (by simp) λ⟨j,S2,vD,wD⟩ ⟨j1,j2,j3⟩=>?_;unfold XK;simp only at j1 j2 j3;simp;apply gT<;>intro h
  ·have hj:j<S2.tab.length:=by simpa using h
   have hjt:=j2.tab;obtain⟨X,hX⟩:∃X,S2.tab[j]=X:=⟨_,rfl⟩
   have hXm:X∈S2.tab:=hX▸aP hj;have hXi:=j2.ist X hXm;have hw:=wI (n:=(j:Int)+1);have mf:=zBc L hG X hXi.1 hXi.2 S2 vD wD ((257-(j+1))*240009) (Xz hXi.1 hXi.2 (by omega) j2);have mk:=JZ hG hXi.1 hXi.2 (by omega) j2;have e3:pJ L (257-(j+1)) (j+1) (nL L X S2)=F:=by
    have e:257-j=(257-(j+1))+1:=by omega
    rw[e,pJ,aC hj]at j3;rw[aH,aA hj,hX]at j3;exact j3
   generalize nL L X S2=S3 at*
   simp[hj,hX];refine gU [2,1,3,4,5,6] mf ?_;simp;refine fJ (j+1,S3,.sl false 1 (encS S3.vars),.sl false 4 (S3.wth.map gq.enc)) [0,1,2,7,8,9,10] ⟨by simp only;omega,mk,e3⟩ (by simp only;omega) ?_;simp[hw]
  ·have hj:¬j<S2.tab.length:=by simpa using h
   have e3:S2=F:=by
    have e:257-j=(257-(j+1))+1:=by omega
    rw[e,pJ,aB hj]at j3;exact j3
   subst e3;by_cases hb:0<S2.bad.length
   ·rw[aC hb]at hR;subst hR;simp[hb];refine⟨by decide,?_⟩;refine fe [5] ?_;simp[yG,lZ.enc];exact aD (by simp)
   ·rw[aB hb]at hR;subst hR;simp[hb,zIK];refine fe [3,4] ?_;simp[lZ.enc];exact⟨aD (by simp),aD (by simp)⟩
@[simp] theorem lZ.enc_length(p:lZ):p.enc.length=3:=rfl
@[simp] theorem lZ.cut_map(p:lZ):cut (p.enc.map AC.d) 0 3=p.enc.map .d:=rfl
@[simp] theorem lZ.cut_enc(p:lZ):cut p.enc 0 3=p.enc:=rfl
@[simp] theorem lZ.er_map(p:lZ):p.enc.map D.er=p.enc:=rfl
abbrev prV(r:lZ × Bool):DV:=.tup [.agg r.1.enc,.one (.bool r.2)]
theorem YF(l:List (fI × fI)):gu Pg 8 [.one (.sl false 2 (l.map lX))] (prV (vE l)):=by
 refine zAb (by simp) λo c hN hp=>?_;obtain⟨R,hR⟩:∃R,vE l=R:=⟨_,rfl⟩
 rw[hR];unfold vE at hR;have hfew:=zIH l;obtain⟨f,hf⟩:∃f,(decide (l.length<=20)&&qM l 0)=f:=⟨_,rfl⟩
 rw[hf]at hfew;unfold XM;simp;refine gp hfew ?_;simp;cases f with
 | false=>
  have hc:20<l.length\/qM l 0=false\/5000<tO l:=by
   simp at hf;by_cases q:l.length<=20
   ·exact .inr (.inl (hf q))
   ·exact .inl (by omega)
  rw[aC hc]at hR;refine fU iC hp (λ_:Nat=>True) (λ_=>[(6,.c (.d (.int .i64 0))),(5,.c (.d (.int .i64 0))),(4,.c (.d (.bool false))),(2,.c (.ptr 0 0)),(0,.c (.d (.sl false 2 (l.map lX))))]) (λ_=>[.box [.d (.sl true 13 []),.d (.int .i64 0),.d (.sl true 3 [])]]) (λ_=>0) 0 [0] (by simp) (by simp) λj h1=>?_;unfold Nr;simp;apply gT<;>intro h
  ·subst hR;simp[yG,lZ.enc]
  ·subst hR;simp[yG,lZ.enc]
 | true=>
  simp at hf;have hl:=hf.1;refine fU iC hp (λY:Nat × Nat=>Y.1<=l.length/\Y.2<=70000/\qM (l.drop Y.1) Y.2=true/\(Y.2:Int)+tO (l.drop Y.1)=tO l) (λY=>[(6,.c (.d (.int .i64 Y.1))),(5,.c (.d (.int .i64 Y.2))),(4,.c (.d (.bool true))),(2,.c (.ptr 0 0)),(0,.c (.d (.sl false 2 (l.map lX))))]) (λ_=>[.box [.d (.sl true 13 []),.d (.int .i64 0),.d (.sl true 3 [])]]) (λY=>l.length-Y.1) (0,0) [0] ⟨by simp,by simp,by simpa using hf.2,by simp⟩ (by simp) λ⟨j,n⟩ ⟨i1,i2,i3,i4⟩=>?_;unfold Nr;simp only at i1 i2 i3 i4;simp;apply gT<;>intro h
  ·have hj:j<l.length:=by simpa using h
   obtain⟨s,hs⟩:∃s,l[j]=s:=⟨_,rfl⟩
   rw[aF hj,hs,qM]at i3;rw[aF hj,hs,tO]at i4;have hw:=wI (n:=(j:Int)+1);by_cases c1:(70000:Int)-n<s.2.size\/1000<s.1.size
   ·rw[aC c1]at i3;cases i3
   rw[aB c1]at i3;have hw3:=wI (n:=(n:Int)+s.2.size);simp[hj,hs];refine fJ (j+1,n+s.2.size) [0] ⟨by simp only;omega,by simp only;omega,by simpa using i3,by simp only;omega⟩ (by simp only;omega) ?_;simp[hw,hw3]
  ·have hj:j=l.length:=by simp at h;omega
   subst hj;rw[aO,tO]at i4;have i5:tO l=n:=by omega
   by_cases c5:(5000:Int)<n
   ·rw[aC (.inr (.inr (by omega)))]at hR;subst hR;simp[c5,yG,lZ.enc]
   ·have hc:¬(20<l.length\/qM l 0=false\/5000<tO l):=by
     rw[hf.2];simp;omega
    rw[aB hc]at hR;have hlk:=zHK l;have hlg:=OV l;generalize yl l=x at*
    simp only at hR;simp[c5];refine gp hlk ?_;simp;by_cases c6:0<x.2.length
    ·rw[aC c6]at hR;subst hR;simp[c6,yG,lZ.enc]
    ·rw[aB c6]at hR;have hck:=zGv x.1 (hlg (by omega));generalize Ae x.1=y at*
     simp[c6];refine gp hck ?_;subst hR;simp
end Go.Gr
namespace Go.Gr
open Go.Abs Go.Proofs
def O9(l:List Int)(x:Int):List Int:=if x∈l then l else l++[x]
def Oa(l r:List Int):List Int:=r.foldl O9 l
def Ga(x:Int):List Int->List Int
|[]=>[x]
|y::l=>if x<=y then x::y::l else y::Ga x l
def Gb:List Int->List Int
|[]=>[]
|x::l=>Ga x (Gb l)
structure vo where
 name:fI
 body:iB
 caps:List Int
 deep:Int
 none:Bool
structure Flt where
 name:fI
 caps:Int
 body:iB
def Gc(x:Int):List Int->Nat->Int
|[],_=> -1
|y::l,i=>if x=y then i else Gc x l (i+1)
def Gd(t:vo)(n:Int):Int:=if t.deep<=n then n-t.deep+t.caps.length else Gc n t.caps 0
mutual
def Gf:iB->Int->List Int
|.mk k n _ _ _ _ _ ks,b=>(if k=4/\n<b then [n]else [])++YG ks b
def YG:List iB->Int->List Int
|[],_=>[]
|c::l,b=>Gf c b++YG l b
end
def YH(c:iB)(b:Int):List Int:=Gb (Oa [] (Gf c b))
mutual
def zJI(t:vo):iB->Int->List vo->iB × List vo
| .mk k n tx is ns ts cs ks=>λdeep l=>
 if k=4 then(.mk k (Gd t n) tx is ns ts cs ks,l)
 else if k=5 then
  (.mk 23 l.length (bs []) ((YH (ks.getD 0 noC) deep).map (Gd t)) [] [] [] [],l++[⟨t.name++bs [39],ks.getD 0 noC,YH (ks.getD 0 noC) deep,deep,false⟩])
 else(.mk k n tx is ns ts cs (Ob t k ks 0 deep l).1,(Ob t k ks 0 deep l).2)
def Ob(t:vo)(k:Int):List iB->Nat->Int->List vo->List iB × List vo
|[]=>λ_ _ l=>([],l)
|c::r=>λi deep l=>
 let x:=zJI t c (if k=18 then deep+i else deep) l;let y:=Ob t k r (i+1) deep x.2
 (x.1::y.1,y.2)
end
mutual
def kX:iB->Nat
|.mk _ _ _ _ _ _ _ ks=>1+jo ks
def jo:List iB->Nat
|[]=>0
|c::l=>kX c+jo l
end
mutual
def mM:Nat->iB->Prop
|m,.mk k n _ _ _ ts _ ks=>k≠23/\(k=18->ks.length<=2)/\(k=21->ks.length=1/\ts.length=2)/\(k=4->0<=n/\n<m/\ks=[])/\(k=5->ks.length=1)/\jw m k ks 0
def jw:Nat->Int->List iB->Nat->Prop
|_,_,[],_=>True
|m,k,c::l,i=>mM (if k=5 then m+1 else if k=18 then m+i else m) c/\jw m k l (i+1)
end
def CW(m b:Nat)(c:iB):Prop:=mM m c/\kX c<=b
theorem CW.less{m b b':Nat}{c:iB}(h:CW m b c)(hb:b<=b'):CW m b' c:=⟨h.1,ak h.2 hb⟩
theorem CW.n0(m:Nat)(k n:Int)(t:fI)(h4:k≠4)(h5:k≠5)(h23:k≠23)(h21:k≠21):CW m 1 (.mk k n t [] [] [] [] []):=by
 simp[CW,mM,jw,kX,jo,h4,h5,h23,h21]
theorem CW.n1{m b:Nat}{k n:Int}{t:fI}{ns:List fI}{ts:List gq}{c:iB}(h:CW m b c)(h4:k≠4)(h5:k≠5)(h23:k≠23)(h21:k=21->ts.length=2):CW m (b+1) (.mk k n t [] ns ts [] [c]):=by
 have:=h.2;refine⟨by simpa[mM,jw,h4,h5,h23]using ⟨h21,h.1⟩,by simp only[kX,jo];omega⟩
theorem CW.n2{m b b':Nat}{k n:Int}{t:fI}{ns:List fI}{ts:List gq}{c d:iB}(h:CW m b c)(h':CW m b' d)(h4:k≠4)(h5:k≠5)(h18:k≠18)(h23:k≠23)(h21:k≠21):CW m (b+b'+1) (.mk k n t [] ns ts [] [c,d]):=by
 have:=h.2;have:=h'.2;refine⟨by simpa[mM,jw,h4,h5,h18,h23,h21]using ⟨h.1,h'.1⟩,by simp only[kX,jo];omega⟩
theorem CW.n3{m b b' b'':Nat}{k n:Int}{t:fI}{ns:List fI}{ts:List gq}{c d e:iB}(h:CW m b c)(h':CW m b' d)(h'':CW m b'' e)(h4:k≠4)(h5:k≠5)(h18:k≠18)(h23:k≠23)(h21:k≠21):CW m (b+b'+b''+1) (.mk k n t [] ns ts [] [c,d,e]):=by
 have:=h.2;have:=h'.2;have:=h''.2;refine⟨by simpa[mM,jw,h4,h5,h18,h23,h21]using ⟨h.1,h'.1,h''.1⟩,by simp only[kX,jo];omega⟩
theorem CW.noC(m:Nat):CW m 1 noC:=CW.n0 m 0 0 _ (by decide) (by decide) (by decide) (by decide)
theorem CW.cast{m b:Nat}{x:iB}(h:CW m b x)(t u:gq)(ln cl:Int)(s:CS):CW m (b+1) (mR x t u ln cl s).1:=by
 unfold mR;split
 ·exact h.less (by omega)
 ·exact h.n1 (by decide) (by decide) (by decide) (λ_=>rfl)
theorem CW.coerce{m b:Nat}{x:iB}(h:CW m b x)(t u:gq)(ln cl:Int)(s:CS):CW m (b+1) (kz x t u ln cl s).1:=by
 unfold kz;split
 ·exact h.less (by omega)
 split
 ·exact h.less (by omega)
 split
 ·exact h.cast _ _ _ _ _
 ·exact h.less (by omega)
theorem CW.any{m b:Nat}{x:(iB × gq) × CS}(h:CW m b x.1.1)(u:gq)(ln cl:Int):CW m (b+1) (ko u ln cl x).1.1:=by
 unfold ko;split
 ·exact h.cast _ _ _ _ _
 ·exact h.less (by omega)
theorem CW.global(L:iV)(m:Nat)(ln cl:Int)(e:jI)(l:List gq)(s:CS):CW m 1 (tN L ln cl e l s).1.1:=by
 unfold tN;split
 ·exact CW.noC m
 ·exact CW.n0 m 6 _ _ (by decide) (by decide) (by decide) (by decide)
theorem YI{m:Nat}{k:Int}(h5:k≠5)(h18:k≠18):∀{l:List iB} {i:Nat},(∀c,c∈l->mM m c)->jw m k l i
|[],_,_=>by simp[jw]
|c::l,i,h=>by
 rw[jw,aB h5,aB h18];exact⟨h c (by simp),YI h5 h18 λx hx=>h x (by simp[hx])⟩
end Go.Gr
namespace Go.Gr
open Go.Abs Go.Proofs List
def jP(b:Nat)(i:Inf):Prop:=∀env s,CW env.length b (i env s).1.1
theorem jP.less{b b':Nat}{i:Inf}(h:jP b i)(hb:b<=b'):jP b' i:=λenv s=>(h env s).less hb
theorem zi(n:gz){b:Nat}{i:Inf}(h:jP b i)(t:gq)(env:Env)(s:CS):CW env.length (b+1) (nP n i t env s).1:=(h env s).coerce _ _ _ _ _
section
variable (L:iV)
theorem zH4(n:gz):jP 1 (xU L n):=λenv s=>by
 unfold xU;simp only;split
 ·rename_i h;have:=Nv env n.text;have h0:=h.1;refine⟨?_,by simp[cN,kX,jo]⟩;simp only[cN,mM,jw,and_true,true_and];exact⟨by decide,λh=>absurd h (by decide),λh=>absurd h (by decide),λ_=>⟨h0,by omega⟩,λh=>absurd h (by decide)⟩
 repeat' split
 all_goals first|exact CW.noC _|exact CW.global L _ _ _ _ _ _
theorem zJx(n a:gz){ba bb:Nat}{ia ib:Inf}(ha:jP ba ia)(hb:jP bb ib):jP (ba+bb+4) (pX n a ia ib):=λenv s=>by
 unfold pX;simp only;obtain⟨y,hy⟩:∃y,(if 0<n.types.length/\(ia env s).2.e=0 then(((kz (ia env s).1.1 (ia env s).1.2 (kH (n.types.getD 0 noT) n.line n.col (ia env s).2).1 a.line a.col (kH (n.types.getD 0 noT) n.line n.col (ia env s).2).2).1,(kH (n.types.getD 0 noT) n.line n.col (ia env s).2).1),(kz (ia env s).1.1 (ia env s).1.2 (kH (n.types.getD 0 noT) n.line n.col (ia env s).2).1 a.line a.col (kH (n.types.getD 0 noT) n.line n.col (ia env s).2).2).2)else ia env s)=y:=⟨_,rfl⟩
 have h1:CW env.length (ba+1) y.1.1:=by
  rw[<-hy];split
  ·exact(ha env s).coerce _ _ _ _ _
  ·exact(ha env s).less (by omega)
 rw[hy];have h2:=hb (env++[(n.text,y.1.2)]) y.2;rw[aX]at h2;have:=h1.2;have:=h2.2;refine⟨?_,by simp only[cK,kX,jo];omega⟩;simp only[cK,mM,jw,and_true,true_and];exact⟨by decide,λ_=>by simp,λh=>absurd h (by decide),λh=>absurd h (by decide),λh=>absurd h (by decide),by simpa using h1.1,by simpa using h2.1⟩
theorem Oc(n a:gz){ba:Nat}{ia:Inf}(ha:jP ba ia):jP (ba+4) (xV n a ia):=λenv s=>by
 unfold xV;simp only;generalize (if 1<n.types.length/\(kH (n.types.getD 0 noT) n.line n.col s).2.e=0 then kH (n.types.getD 1 noT) n.line n.col (kH (n.types.getD 0 noT) n.line n.col s).2 else(noT,(kH (n.types.getD 0 noT) n.line n.col s).2))=q;generalize (kH (n.types.getD 0 noT) n.line n.col s).1=p;have h2:=ha (env++[(n.text,p)]) q.2;rw[aX]at h2;generalize ia (env++[(n.text,p)]) q.2=x at*
 obtain⟨y,hy⟩:∃y,(if 1<n.types.length then(((kz x.1.1 x.1.2 q.1 a.line a.col x.2).1,q.1),(kz x.1.1 x.1.2 q.1 a.line a.col x.2).2)else x)=y:=⟨_,rfl⟩
 have h3:CW (env.length+[(n.text,p)].length) (ba+1) y.1.1:=by
  rw[<-hy];split
  ·exact h2.coerce _ _ _ _ _
  ·exact h2.less (by omega)
 rw[hy];have:=h3.2;refine⟨?_,by simp only[cK,kX,jo];omega⟩;simp only[cK,mM,jw,and_true,true_and];exact⟨by decide,λh=>absurd h (by decide),λh=>absurd h (by decide),λh=>absurd h (by decide),λ_=>rfl,by simpa using h3.1⟩
theorem c_call(n b:gz){ba bb:Nat}{ia ib:Inf}(ha:jP ba ia)(hb:jP bb ib):jP (ba+bb+4) (xW n b ia ib):=λenv s=>by
 unfold xW;simp only;split
 ·exact(CW.noC _).less (by omega)
 ·exact(((ha env s).any _ _ _).n2 ((hb env _).coerce _ _ _ _ _) (by decide) (by decide) (by decide) (by decide) (by decide)).less (by omega)
theorem zJy(n:gz){ba:Nat}{ia:Inf}(ha:jP ba ia):jP (ba+4) (pY n ia):=λenv s=>by
 unfold pY;simp only;refine CW.less (b:=ba+1+1) (CW.n1 ?_ (by decide) (by decide) (by decide) (by decide)) (by omega);split
 ·exact(ha env s).cast _ _ _ _ _
 ·exact(ha env s).less (by omega)
theorem zIP(n:gz){ba bb:Nat}{ia ib:Inf}(ha:jP ba ia)(hb:jP bb ib):jP (ba+bb+4) (xX n ia ib):=λenv s=>by
 unfold xX;simp only;split
 ·exact(CW.noC _).less (by omega)
 ·exact(((ha env s).any _ _ _).n2 (hb env _) (by decide) (by decide) (by decide) (by decide) (by decide)).less (by omega)
theorem YJ(q:gz)(env:Env):(o8 q env).1.length=env.length/\(o8 q env).2.length=env.length:=by
 unfold o8;split<;>simp
theorem Od(q a b:gz){bq ba bb:Nat}{iq ia ib:Inf}(hq:jP bq iq)(ha:jP ba ia)(hb:jP bb ib):jP (bq+ba+bb+4) (xY q a b iq ia ib):=λenv s=>by
 unfold xY;simp only;have h1:=ha (o8 q env).1 (kz (iq env s).1.1 (iq env s).1.2 (bT 2) q.line q.col (iq env s).2).2;rw[(YJ q env).1]at h1;have h2:=hb (o8 q env).2 (ia (o8 q env).1 (kz (iq env s).1.1 (iq env s).1.2 (bT 2) q.line q.col (iq env s).2).2).2;rw[(YJ q env).2]at h2;exact(CW.n3 ((hq env s).coerce _ _ _ _ _) (h1.coerce _ _ _ _ _) (h2.coerce _ _ _ _ _) (by decide) (by decide) (by decide) (by decide) (by decide)).less (by omega)
theorem Oe(n:gz){ba:Nat}{ia:Inf}(ha:jP ba ia):jP (ba+4) (xZ n ia):=λenv s=>by
 unfold xZ;simp only;split
 ·exact(ha env s).less (by omega)
 split
 ·exact(ha env s).less (by omega)
 generalize (kH (n.types.getD 0 noT) n.line n.col (ia env s).2)=u;obtain⟨y,hy⟩:∃y,(if(ia env s).1.2.kind≠0 then mR (ia env s).1.1 (ia env s).1.2 noT n.line n.col u.2 else((ia env s).1.1,u.2))=y:=⟨_,rfl⟩
 have h3:CW env.length (ba+1) y.1:=by
  rw[<-hy];split
  ·exact(ha env s).cast _ _ _ _ _
  ·exact(ha env s).less (by omega)
 rw[hy];split
 ·exact h3.less (by omega)
 split
 ·exact(h3.cast _ _ _ _ _).less (by omega)
 ·exact(h3.n1 (by decide) (by decide) (by decide) (λ_=>rfl)).less (by omega)
theorem Og(n a b:gz){ba bb:Nat}{ia ib:Inf}(ha:jP ba ia)(hb:jP bb ib):jP (ba+bb+4) (opC n a b ia ib):=λenv s=>by
 unfold opC;simp only;split
 ·exact(CW.n3 (zi a ha _ env s) (CW.n0 _ 2 1 _ (by decide) (by decide) (by decide) (by decide)) (zi b hb _ env _) (by decide) (by decide) (by decide) (by decide) (by decide)).less (by omega)
 split
 ·exact(CW.n3 (zi a ha _ env s) (zi b hb _ env _) (CW.n0 _ 2 0 _ (by decide) (by decide) (by decide) (by decide)) (by decide) (by decide) (by decide) (by decide) (by decide)).less (by omega)
 split
 ·exact(CW.n2 (ha env s) (hb env _) (by decide) (by decide) (by decide) (by decide) (by decide)).less (by omega)
 split
 ·exact(CW.n2 (zi a ha _ env s) (zi b hb _ env _) (by decide) (by decide) (by decide) (by decide) (by decide)).less (by omega)
 ·exact(CW.n2 (zi a ha _ env s) (zi b hb _ env _) (by decide) (by decide) (by decide) (by decide) (by decide)).less (by omega)
theorem zJz(n a:gz){ba:Nat}{ia:Inf}(ha:jP ba ia):jP (ba+4) (p8 n a ia):=λenv s=>by
 unfold p8;split
 ·exact(CW.n1 (zi a ha _ env s) (by decide) (by decide) (by decide) (by decide)).less (by omega)
 split
 ·exact(CW.n1 (zi a ha _ env s) (by decide) (by decide) (by decide) (by decide)).less (by omega)
 split
 ·exact(CW.n1 (ha env s) (by decide) (by decide) (by decide) (by decide)).less (by omega)
 ·exact(CW.n1 (ha env s) (by decide) (by decide) (by decide) (by decide)).less (by omega)
theorem YK:∀(l:List gz),(∀x,x∈l->jP (4*iK x) (jC L x))->∀env s,(∀c,c∈(oP L l env s).1.1->mM env.length c)/\jo (oP L l env s).1.1<=4*iW l
|[],_,env,s=>by rw[oP];exact⟨λc h=>(by cases h),by simp[jo]⟩
|n::l,h,env,s=>by
 rw[oP];simp only;have h1:=h n (by simp) env s;have h2:=YK l (λx hx=>h x (by simp[hx])) env (jC L n env s).2;have:=h1.2;have:=h2.2;refine⟨λc hc=>?_,by rw[jo,iW];omega⟩;rcases aN.1 hc with e|hc
 ·rw[e];exact h1.1
 ·exact h2.1 c hc
theorem zJA(n:gz)(h:∀x,x∈n.kids->jP (4*iK x) (jC L x)):jP (4*iK n) (qL n (oP L n.kids)):=λenv s=>by
 unfold qL;simp only;have h1:=YK L n.kids h env (if mH [] n.names=true then lG n.line n.col 8 s else s);have:=h1.2;have:=qP n;refine⟨?_,by simp only[kX];omega⟩;simp only[mM,true_and];exact⟨by decide,λh=>absurd h (by decide),λh=>absurd h (by decide),λh=>absurd h (by decide),λh=>absurd h (by decide),YI (by decide) (by decide) h1.1⟩
theorem J4{b:Nat}{j:Inf}(h:jP b j)(hb:1<=b):jP b (kP j):=λenv s=>by
 unfold kP;split
 ·exact(CW.noC _).less hb
 ·exact h env s
theorem J5(n:gz){rest:Inf}(hr:jP (4*iK n) rest)(h:∀x,x∈n.kids->jP (4*iK x) (jC L x)):jP (4*iK n) (p9 L n rest):=λenv s=>by
 have:=qP n;unfold p9;split
 ·exact(CW.n0 _ 0 _ _ (by decide) (by decide) (by decide) (by decide)).less (by omega)
 split
 ·exact(CW.n0 _ 1 _ _ (by decide) (by decide) (by decide) (by decide)).less (by omega)
 split
 ·exact(CW.n0 _ 2 _ _ (by decide) (by decide) (by decide) (by decide)).less (by omega)
 split
 ·exact(CW.n0 _ 3 _ _ (by decide) (by decide) (by decide) (by decide)).less (by omega)
 split
 ·exact(CW.n0 _ 20 _ _ (by decide) (by decide) (by decide) (by decide)).less (by omega)
 split
 ·exact(zH4 L n env s).less (by omega)
 split
 ·exact zJA L n h env s
 ·exact hr env s
theorem zGM(n:gz)(h:∀x,x∈n.kids->jP (4*iK x) (jC L x)):jP (4*iK n) (jC L n):=by
 obtain⟨k,tx,nn,ln,cl,ts,ns,ks⟩:=n
 match ks,h with
 |[],h=>
  rw[JS];exact J4 (J5 L _ (λenv s=>(CW.noC _).less (by rw[qP];omega)) h) (by rw[qP];omega)
 |[a],h=>
  have ha:=h a (by simp[gz.kids]);have e:4*iK (gz.mk k tx nn ln cl ts ns [a])=4*iK a+4:=by simp only[iK,iW];omega
  rw[Bu];refine J4 (J5 L _ (λenv s=>?_) h) (by omega);rw[e];unfold Br;split
  ·exact Oc _ _ ha env s
  split
  ·exact zJy _ ha env s
  split
  ·exact Oe _ ha env s
  ·exact zJz _ _ ha env s
 |[a,b],h=>
  have ha:=h a (by simp[gz.kids]);have hb:=h b (by simp[gz.kids]);have e:4*iK (gz.mk k tx nn ln cl ts ns [a,b])=4*iK a+4*iK b+4:=by simp only[iK,iW];omega
  rw[Bv];refine J4 (J5 L _ (λenv s=>?_) h) (by omega);rw[e];unfold Bt;split
  ·exact zJx _ _ ha hb env s
  split
  ·exact c_call _ _ ha hb env s
  split
  ·exact zIP _ ha hb env s
  ·exact Og _ _ _ ha hb env s
 |a::b::c::l,h=>
  have e:4*iK a+4*iK b+4*iK c+4<=4*iK (gz.mk k tx nn ln cl ts ns (a::b::c::l)):=by simp only[iK,iW];omega
  rw[GZ];exact J4 (J5 L _ ((Od a b c (h a (by simp[gz.kids])) (h b (by simp[gz.kids])) (h c (by simp[gz.kids]))).less e) h) (by omega)
mutual
theorem YL:∀n:gz,jP (4*iK n) (jC L n)
|.mk k tx nn ln cl ts ns ks=>zGM L _ (YM ks)
theorem YM:∀l:List gz,∀x,x∈l->jP (4*iK x) (jC L x)
|[],x,hx=>by cases hx
|n::l,x,hx=>by
 rcases aN.1 hx with e|hx
 ·rw[e];exact YL n
 ·exact YM l x hx
end
end
def xh(f:jW):Prop:=CW 1 120005 f.body/\f.name.size<=30000000000
theorem YN:∀(l:List gq) (i:Nat) (s:fI),(u7 l i s).size<=s.size+l.length*20010
|[],i,s=>by rw[u7];omega
|t::l,i,s=>by
 have h:=YN l (i+1) (s++(if i=0 then bs [91]else bs [44,32])++yE t);have h2:=OT t;have h3:(if i=0 then bs [91]else bs [44,32]).size<=2:=by split<;>decide
 rw[u7,length_cons];rw[ax,ax]at h;omega
theorem zGN{L:iV}(hG:mU L){x:kY}(hx:kI L ⟨bs [],x.module,x.decl⟩)(hxt:x.types.length<=1000000)(s:CS)(hs:∀f,f∈s.funs->xh f):∀f,f∈(nL L x s).funs->xh f:=by
 have hd:=(G6 hG hx).1;have hdn:=(G6 hG hx).2;have hmn:(L.names.getD x.module.toNat (bs [])).size<=32:=by
  rw[aH];cases q:L.names[x.module.toNat]? with
  |none=>decide
  |some z=>exact hG.modNames z (ae q)
 have f0:fb (wY L x s)=fb s:=rfl;unfold nL;unfold wY at f0;simp only;generalize vU L x.module x.decl=d at*
 generalize ({s with module:=x.module,vars:=d.vars.map (·.1),wth:=x.types,e:=0}:CS)=s0 at*
 have f1:=Eb (d.types.getD 0 noT) d.line d.col s0;generalize kH (d.types.getD 0 noT) d.line d.col s0=r1 at*
 have f2:=Eb (d.types.getD 1 noT) d.line d.col r1.2;generalize kH (d.types.getD 1 noT) d.line d.col r1.2=r2 at*
 obtain⟨T,hT⟩:∃T,(if r2.2.e=0 then pW (kS r1.1 r2.1) d.line d.col r2.2 else(kS r1.1 r2.1,r2.2))=T:=⟨_,rfl⟩
 have p3:fb T.2=fb r2.2:=by
  rw[<-hT];split
  ·exact JV _ _ _ _
  ·rfl
 rw[hT];clear hT;obtain⟨S,hS⟩:∃S,(if x.module=L.main.module/\x.decl=L.main.decl/\Aa (bT 1) r1.1=false then lG d.line d.col 14 T.2 else T.2)=S:=⟨_,rfl⟩
 have p4:fb S=fb T.2:=by
  rw[<-hS];split
  ·exact OW _ _ _ _
  ·rfl
 rw[hS];clear hS;have p5:=YL L d.body [(d.param,r1.1)] S;have f5:=JY L d.body [(d.param,r1.1)] S;generalize jC L d.body [(d.param,r1.1)] S=y at*
 have p6:=p5.coerce y.1.2 r2.1 d.body.line d.body.col y.2;have f6:=OX y.1.1 y.1.2 r2.1 d.body.line d.body.col y.2;generalize kz y.1.1 y.1.2 r2.1 d.body.line d.body.col y.2=z at*
 have f:fb z.2=fb s:=by rw[f6,f5,p4,p3,f2,f1,f0]
 have g1:z.2.funs=s.funs:=dP (·.1) f;have hsz:CW 1 120005 z.1:=p6.less (by have:=hd.size;omega);have key:∀nm:fI,nm.size<=30000000000->∀f,f∈z.2.funs++[(⟨nm,T.1,z.1⟩:jW)]->xh f:=λnm hnm f hf=>by
  rw[g1]at hf;rcases aM.1 hf with hf|hf
  ·exact hs f hf
  ·rw[aK.1 hf];exact⟨hsz,hnm⟩
 have hn1:=YN x.types 0 (L.names.getD x.module.toNat (bs [])++bs [46]++d.name);have hb1:(bs [46]).size=1:=rfl;have hb2:(bs [93]).size=1:=rfl;have hn2:(if 0<x.types.length then u7 x.types 0 (L.names.getD x.module.toNat (bs [])++bs [46]++d.name)++bs [93]else u7 x.types 0 (L.names.getD x.module.toNat (bs [])++bs [46]++d.name)).size<=30000000000:=by
  rw[ax,ax]at hn1;split
  ·rw[ax];omega
  ·omega
 split
 ·exact key _ hn2
 ·exact key _ hn2
theorem YO{L:iV}(hG:mU L):∀(n i:Nat) (s:CS),i+n<=257->wX L s i->(∀f,f∈s.funs->xh f)->(∀f,f∈(pJ L n i s).funs->xh f)/\(pJ L n i s).funs.length<=257
|0,i,s,hi,h,hf=>by rw[pJ];exact⟨hf,by have:=h.funs;omega⟩
| n+1,i,s,hi,h,hf=>by
 rw[pJ];split
 ·rename_i q;have hm:s.tab.getD i ⟨0,0,[]⟩∈s.tab:=by
   rw[aH,aA q];exact aP q
  have h1:=h.ist _ hm;exact YO hG n (i+1) _ (by omega) (JZ hG h1.1 h1.2 (by omega) h) (zGN hG h1.1 h1.2 s hf)
 ·exact⟨hf,by have:=h.funs;omega⟩
theorem J6(L:iV)(i:Nat):∀(l:List jd) (k:Nat) (s:CS),(vB L i l k s).1.funs=s.funs
|[],k,s=>by rw[vB]
| d::l,k,s=>by
 rw[vB];split
 ·exact J6 L i l (k+1) s
 ·simp only;split
  ·rfl
  ·rw[J6 L i l (k+1)]
theorem Oh(L:iV):∀(l:List jZ) (i:Nat) (s:CS),(rz L l i s).1.funs=s.funs
|[],i,s=>by rw[rz]
|m::l,i,s=>by
 rw[rz];split
 ·exact J6 L i m.decs 0 s
 ·rw[Oh L l,J6]
theorem YP(L:iV):wX L cs0 0:=⟨by simp[cs0],by simp[cs0],by simp[cs0],by simp[cs0],by simp[cs0]⟩
def zC(p:lZ):Prop:=(∀f,f∈p.funs->xh f)/\p.funs.length<=257
theorem zCi{L:iV}(hG:mU L):zC (Ae L).1:=by
 have n0:zC yG:=⟨λf h=>(by cases h),by decide⟩
 unfold Ae;simp only;split
 ·exact n0
 split
 ·exact n0
 ·have h0:=O5 L.mods 0 cs0 (by simp) (YP L);have h:=YO hG 257 0 (rz L L.mods 0 cs0).1 (by omega) h0 (by rw[Oh];intro f hf;cases hf);exact h
theorem zz7(l:List (fI × fI)):zC (vE l).1:=by
 have n0:zC yG:=⟨λf h=>(by cases h),by decide⟩
 unfold vE;split
 ·exact n0
 simp only;split
 ·exact n0
 ·exact zCi (OV l (by omega))
end Go.Gr
namespace Go.Gr
open Go.Abs Go.Proofs
def YQ:MC:=(λx(_:x=gC tt [(7,0)] [] [] (gB Tryz.f39))=>x) _ (by dsimp[Tryz.f39])
theorem zq9:WM Pg 39 8 YQ [.tmp 2]:=wM iC Tryz.func39 (by kernel_rfl)
def YR:MC:=(λx(_:x=gC tt [(7,0)] [] [] (gB Tryz.f18))=>x) _ (by dsimp[Tryz.f18])
theorem zry:WM Pg 18 8 YR [.tmp 2]:=wM iC Tryz.func18 (by kernel_rfl)
end Go.Gr
