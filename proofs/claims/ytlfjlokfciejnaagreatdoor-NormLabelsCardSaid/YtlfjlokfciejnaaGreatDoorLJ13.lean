/- Texts of ours, joined and written short by a program of ours. -/
import Derived.Test.YtlfjlokfciejnaaGreatDoorLJ12
import Derived.Test.YtlfjlokfciejnaaGreatDoorLJ09
import Derived.Test.YtlfjlokfciejnaaGreatDoorLJ11
set_option maxRecDepth 20000
set_option maxHeartbeats 4000000
set_option linter.unusedVariables false
set_option linter.unusedSimpArgs false
namespace Go.Gr
open Go.Abs Go.Proofs List
theorem Np(t:gU):(yD t).size<=20000:=by
 unfold yD;split
 ·rename_i h;have a:=Ah t false (z8 h);have b:=F7 h;omega
 ·simp
def vv(l:List Tok):Prop:=∀t,t∈l->t.kind=1->t.text.size<=32
theorem zF2(l:List UInt8)(h:(jB l).e=0)(k:(jB l).kind=1):(jB l).text.length<=32:=by
 match l with
 |[]=>simp[jB,lT]at h
 | c ::r=>
  rw[jB]at h k⊢;split at h
  ·rename_i c1;rw[aC c1]at k⊢;split at h
   ·simp[lT]at h
   ·rename_i c2;rw[aB c2];simp only[bN];omega
  ·rename_i c1;rw[aB c1]at k;split at k
   ·split at k
    ·simp at k
    ·simp[lT]at k
   split at k
   ·split at k
    ·simp[lT]at k
    ·split at k
     ·simp[lT]at k
     ·simp at k
   split at k
   ·simp[lT]at k
   ·simp at k
theorem Wu:∀(n:Nat) (l:List UInt8) (a b:Int) (ts:List Tok),vv ts->vv (o8 n l a b ts).1
|0,l,a,b,ts,h=>by rw[o8];exact h
| n+1,l,a,b,ts,h=>by
 rw[o8];simp only;split
 ·intro t ht k;rcases aK.1 ht with ht|ht
  ·exact h t ht k
  ·simp only[aL]at ht;subst ht;simp at k
 generalize l.drop (iX false l)=l' at*
 have go:(jB l').e=0->vv (o8 n (l'.drop (jB l').len) (qE (l.take (iX false l)) a b).1 ((qE (l.take (iX false l)) a b).2+(jB l').len) (ts++[⟨(jB l').kind,bA (jB l').text,(qE (l.take (iX false l)) a b).1,(qE (l.take (iX false l)) a b).2⟩])).1:=λe0=>by
  refine Wu n _ _ _ _ ?_;intro t ht k;rcases aK.1 ht with ht|ht
  ·exact h t ht k
  ·simp only[aL]at ht;subst ht;simp only at k⊢;have:=zF2 l' e0 k;show(bA (jB l').text).size<=32;rw[Ti];exact this
 have nil:∀d:iV,vv (([]:List Tok),d).1:=λd t ht=>by cases ht
 by_cases q:(jB l').e=0/\ts.length=8192
 ·rw[aC q,aC (by decide)];exact nil _
 ·rw[aB q];by_cases e0:(jB l').e=0
  ·rw[aB (λz=>z e0)];exact go e0
  ·rw[aC e0];exact nil _
theorem zF3(s:fF):vv (lK s).1:=by
 unfold lK;split
 ·intro t ht;cases ht
 ·exact Wu _ _ _ _ _ (λt ht=>by cases ht)
theorem zF4{L:List Tok}(h:vv L)(p:PS):(jI L p).1.size<=32:=by
 unfold jI;split
 ·rename_i c;have:iI L p∈L:=by
   unfold iI at c⊢;rw[aH]at c⊢;cases q:L[p.at']? with
   |none=>rw[q]at c;simp[yA]at c
   |some t=>exact ah q
  exact h _ this c.2
 ·simp
theorem Wv{L:List Tok}(h:vv L):∀(n:Nat) (l:List jZ) (p:PS),(∀d,d∈l->d.name.size<=32)->∀d,d∈(rz L n l p).1->d.name.size<=32
|0,l,p,hl,d,hd=>by rw[rz]at hd;exact hl d hd
| n+1,l,p,hl,d,hd=>by
 rw[rz]at hd;split at hd
 ·refine Wv h n _ _ (λx hx=>?_) d hd;rcases aK.1 hx with hx|hx
  ·exact hl x hx
  ·simp only[aL]at hx;subst hx;unfold ry;exact zF4 h _
 ·exact hl d hd
theorem zDj(s:fF):∀d,d∈(qc s).1.decs->d.name.size<=32:=λd hd=>by
 unfold qc at hd;simp only at hd;split at hd
 ·cases hd
 split at hd
 ·cases hd
 ·exact Wv (zF3 s) _ _ _ (λx hx=>by cases hx) d hd
theorem Ww:∀(l:List (fF × fF)) (i:Nat) (ns:List fF) (ms:List jW) (bad:List iV),(∀m,m∈ms->∀d,d∈m.decs->tY d/\d.name.size<=32)->
 (∀m,m∈(rR l i ns ms bad).1.2->∀d,d∈m.decs->tY d/\d.name.size<=32)
|[],i,ns,ms,bad,h=>by rw[rR];exact h
| s::l,i,ns,ms,bad,h=>by
 rw[rR];refine Ww l _ _ _ _ λm hm=>?_;rcases aK.1 hm with hm|hm
 ·exact h m hm
 ·simp only[aL]at hm;subst hm;exactλd hd=>⟨zEh s.2 d hd,zDj s.2 d hd⟩
theorem Wx:∀(l:List (fF × fF)) (i:Nat) (ns:List fF) (ms:List jW) (bad:List iV),bad.length<=(rR l i ns ms bad).2.length/\((rR l i ns ms bad).2.length=0->(∀n,n∈ns->n.size<=32)->∀n,n∈(rR l i ns ms bad).1.1->n.size<=32)
|[],i,ns,ms,bad=>by rw[rR];exact⟨aP _,λ_ h=>h⟩
| s::l,i,ns,ms,bad=>by
 rw[rR];have r:=Wx l (i+1) (ns++[s.1]) (ms++[(qc s.2).1]) (if nE s.1=false then bad++[⟨i,1,1,10⟩]else if 0<=jq ns s.1 then bad++[⟨i,1,1,8⟩]else if(qc s.2).2.e≠0 then bad++[⟨i,(qc s.2).2.line,(qc s.2).2.col,(qc s.2).2.e⟩]else bad);by_cases c:nE s.1=false
 ·rw[aC c]at r⊢;have:=r.1;rw[aT]at this;simp only[length_cons,length_nil]at this;exact⟨by omega,λq=>by omega⟩
 ·refine⟨aj ?_ r.1,λq h=>r.2 q λn hn=>?_⟩
  ·rw[aB c];split
   ·simp
   split
   ·simp
   ·exact aP _
  ·rcases aK.1 hn with hn|hn
   ·exact h n hn
   ·simp only[aL]at hn;subst hn;exact Mv (by simpa using c)
def sH(ms:List jW)(e:jF):Prop:=0<=e.module/\e.module<ms.length/\0<=e.decl/\e.decl<(ms.getD e.module.toNat o9).decs.length
theorem EO{α:Type}(q:α->Bool)(l:List α):fi q 0 l= -1\/(0<=fi q 0 l/\fi q 0 l<l.length):=by
 have:=Fh q 0 l;omega
theorem JF(ms:List jW)(m i:Int)(h0:0<=m)(h1:m<ms.length)(x:jl):∀(l:List fF) (sc:List jF) (bad:List iV),(∀e,e∈sc->sH ms e)->∀e,e∈(og (ms.getD m.toNat o9) m i x l sc bad).1->sH ms e
|[],sc,bad,h=>by rw[og];exact h
| s::l,sc,bad,h=>by
 rw[og];split
 ·exact JF ms m i h0 h1 x l _ _ h
 rename_i c;split
 ·exact JF ms m i h0 h1 x l _ _ h
 refine JF ms m i h0 h1 x l _ _ λe he=>?_;rcases aK.1 he with he|he
 ·exact h e he
 ·simp only[aL]at he;subst he;have a:=EO (λd:jZ=>decide (d.name=s)) (ms.getD m.toNat o9).decs;have b:¬uG (ms.getD m.toNat o9) s<0:=λz=>c (.inl z);unfold uG at b;unfold sH uG;simp only;omega
theorem Wy(ns:List fF)(ms:List jW)(hn:ns.length=ms.length)(i:Int):∀(l:List jl) (sc:List jF) (bad:List iV),(∀e,e∈sc->sH ms e)->∀e,e∈(zV ns ms i l sc bad).1->sH ms e
|[],sc,bad,h=>by rw[zV];exact h
| x::l,sc,bad,h=>by
 rw[zV];refine Wy ns ms hn i l _ _ ?_;unfold yE;split
 ·exact h
 ·rename_i c;have a:=EO (λn=>decide (n=x.from_)) ns;unfold jq at c⊢;exact JF ms _ i (by omega) (by omega) x _ _ _ h
theorem Nq(ms:List jW)(i:Nat)(hi:i<ms.length):∀(l:List jZ) (k:Nat) (sc:List jF) (bad:List iV),k+l.length<=(ms.getD i o9).decs.length->(∀e,e∈sc->sH ms e)->∀e,e∈(yc i l k sc bad).1->sH ms e
|[],k,sc,bad,hk,h=>by rw[yc];exact h
| d::l,k,sc,bad,hk,h=>by
 rw[yc];simp only[length_cons]at hk;split
 ·exact Nq ms i hi l (k+1) _ _ (by omega) h
 refine Nq ms i hi l (k+1) _ _ (by omega) λe he=>?_;rcases aK.1 he with he|he
 ·exact h e he
 ·simp only[aL]at he;subst he;unfold sH;simp only[bC];omega
theorem Wz(ns:List fF)(ms:List jW)(hn:ns.length=ms.length):∀(l:List jW) (i:Nat) (all:List (List jF)) (bad:List iV),l=ms.drop i->all.length=i->i<=ms.length->(∀sc,sc∈all->∀e,e∈sc->sH ms e)->
 (uz ns ms l i all bad).1.length=ms.length/\∀sc,sc∈(uz ns ms l i all bad).1->∀e,e∈sc->sH ms e
|[],i,all,bad,hl,ha,hi,h=>by
 rw[uz];have:(ms.drop i).length=0:=by rw[<-hl];try rfl
 rw[dM]at this;exact⟨by simp only;omega,h⟩
| m::l,i,all,bad,hl,ha,hi,h=>by
 have hlt:i<ms.length:=by
  by_cases q:i<ms.length
  ·exact q
  ·rw[di (by omega)]at hl;cases hl
 rw[aG hlt]at hl;have h1:=(List.cons.inj hl).1;have h2:=(List.cons.inj hl).2;have hm:ms.getD i o9=m:=by rw[aH,aA hlt,h1];try rfl
 rw[uz];refine Wz ns ms hn l (i+1) _ _ h2 (by simp;omega) (by omega) λsc hsc=>?_;rcases aK.1 hsc with hsc|hsc
 ·exact h sc hsc
 ·simp only[aL]at hsc;subst hsc;exact Nq ms i hlt m.decs 0 _ _ (by rw[hm];omega) (Wy ns ms hn i m.imps [] bad λe he=>by cases he)
structure mQ (L:iQ):Prop where
 good:oH L
 decs:∀m,m∈L.mods->∀d,d∈m.decs->tY d
 decNames:∀m,m∈L.mods->∀d,d∈m.decs->d.name.size<=32
 modNames:∀n,n∈L.names->n.size<=32
 small:∀m,m∈L.mods->lW m
 main:kD L ⟨bs [],L.main.module,L.main.decl⟩
theorem Nr(l:List (fF × fF))(h:(yf l).2.length=0):mQ (yf l).1:=by
 have hs:=VM l [];have hg:∀m,m∈(u7 l).1.2->∀d,d∈m.decs->tY d/\d.name.size<=32:=by
  unfold u7;split
  ·intro m hm;cases hm
  ·exact Ww l 0 [] [] [] λm hm=>by cases hm
 have hb:(u7 l).2.length=0->∀n,n∈(u7 l).1.1->n.size<=32:=by
  unfold u7;split
  ·intro q;simp at q
  ·exactλq=>(Wx l 0 [] [] []).2 q λn hn=>by cases hn
 unfold yf at h⊢;simp only at h⊢;generalize u7 l=f at*
 have hn:f.1.1.length=f.1.2.length:=hs.2.1;have s1:=Wz f.1.1 f.1.2 hn f.1.2 0 [] [] (by simp) rfl (by omega) (λsc hsc=>by cases hsc);generalize uz f.1.1 f.1.2 f.1.2 0 [] []=s at*
 generalize zY f.1.1 f.1.2 f.1.2 0 []=t at*
 by_cases c1:0<f.2.length
 ·rw[aC c1]at h;simp only at h;omega
 rw[aB c1]at h⊢;by_cases c2:0<s.2.length
 ·rw[aC c2]at h;simp only at h;omega
 rw[aB c2]at h⊢;by_cases c3:0<t.length
 ·rw[aC c3]at h;simp only at h;omega
 rw[aB c3]at h⊢;by_cases c4:jq f.1.1 vW<0
 ·rw[aC c4]at h;simp at h
 rw[aB c4]at h⊢;by_cases c5:uG (f.1.2.getD (jq f.1.1 vW).toNat o9) vW<0
 ·rw[aC c5]at h;simp at h
 rw[aB c5]at h⊢;split
 ·rename_i c6;rw[aC c6]at h;simp at h
 have a:=EO (λn=>decide (n=vW)) f.1.1;have b:=EO (λd:jZ=>decide (d.name=vW)) (f.1.2.getD (jq f.1.1 vW).toNat o9).decs;refine⟨⟨hs.1,hn,s1.1,λm hm d hd=>⟨(hg m hm d hd).1.types,by have:=(hg m hm d hd).1.vars;omega⟩,λsc hsc e he=>?_⟩,λm hm d hd=>(hg m hm d hd).1,λm hm d hd=>(hg m hm d hd).2,hb (by omega),hs.2.2,?_⟩
 ·have:=s1.2 sc hsc e he;exact⟨this.1,this.2.1,this.2.2.1,this.2.2.2⟩
 ·unfold jq at c4 c5 b⊢;unfold uG at c5⊢;refine⟨?_,?_,?_,?_⟩<;>simp only<;>omega
end Go.Gr
namespace Go.Gr
open Go.Abs Go.Proofs
theorem zIH(l:List (fF × fF)):gY Pg 15 [.one (.sl false 2 (l.map lV))] (.one (.bool (decide (l.length<=20)&&qP l 0))):=by
 refine zFE (by simp) λo c hN hp=>?_;obtain⟨R,hR⟩:∃R,(decide (l.length<=20)&&qP l 0)=R:=⟨_,rfl⟩
 rw[hR];unfold WC;simp;apply gN<;>intro h
 ·have h:¬l.length<=20:=by simp at h;omega
  simp[h]at hR;simp[hR]
 have h:l.length<=20:=by simp at h;omega
 simp[h]at hR;refine fP gz hp (λY:Nat × Nat=>Y.1<=l.length/\Y.2<=70000/\qP (l.drop Y.1) Y.2=R) (λY=>[(4,.c (.d (.int .i64 Y.1))),(3,.c (.d (.int .i64 Y.2))),(0,.c (.d (.sl false 2 (l.map lV))))]) (λ_=>[]) (λY=>l.length-Y.1) (0,0) [] ⟨by simp,by simp,by simpa using hR⟩ (by simp) λ⟨j,n⟩ ⟨i1,i2,i3⟩=>?_;unfold WB;simp only at i1 i2 i3;simp;apply gN<;>intro h
 ·have hj:j<l.length:=by simpa using h
  obtain⟨s,hs⟩:∃s,l[j]=s:=⟨_,rfl⟩
  rw[aG hj,hs,qP]at i3;have hw:=wI (n:=(j:Int)+1);have hw2:=wI (n:=(70000:Int)-n);by_cases c1:(70000:Int)-n<s.2.size
  ·rw[aC (.inl c1)]at i3;simp[hj,hs,hw2,c1,<-i3]
  by_cases c2:(1000:Int)<s.1.size
  ·rw[aC (.inr (by omega))]at i3;simp[hj,hs,hw2,c1,c2,<-i3]
  rw[aB (λz=>z.elim c1 (λz=>c2 (by omega)))]at i3;have hw3:=wI (n:=(n:Int)+s.2.size);simp[hj,hs,hw2,c1,c2];refine fG (j+1,n+s.2.size) [] ⟨by simp only;omega,by simp only;omega,by simpa using i3⟩ (by simp only;omega) ?_;simp[hw,hw3]
 ·have hj:j=l.length:=by simp at h;omega
  subst hj;rw[aQ,qP]at i3;simp[<-i3]
def fb(s:CS):List jh × List iV:=(s.funs,s.bad)
@[simp] theorem Ns(a b e:Int)(s:CS):fb (lI a b e s)=fb s:=by unfold lI;split<;>rfl
@[simp] theorem EP(t:gU)(a b:Int)(s:CS):fb (kC t a b s).2=fb s:=by unfold kC;simp only;split<;>simp
@[simp] theorem JG(t:gU)(a b:Int)(s:CS):fb (pX t a b s).2=fb s:=by unfold pX;simp only;split<;>simp
@[simp] theorem zK7(x:gy)(t u:gU)(a b:Int)(s:CS):fb (mP x t u a b s).2=fb s:=by unfold mP;split<;>rfl
@[simp] theorem Nt(x:gy)(t u:gU)(a b:Int)(s:CS):fb (lF x t u a b s).2=fb s:=by
 unfold lF;split
 ·rfl
 split
 ·rfl
 split<;>simp
@[simp] theorem zLm(u:gU)(a b:Int)(x:(gy × gU) × CS):fb (kg u a b x).2=fb x.2:=by unfold kg;split<;>simp
@[simp] theorem zIi(a b:Int):∀(ts l:List gU) (s:CS),fb (sV a b ts l s).2=fb s
|[],l,s=>by rw[sV]
|t::ts,l,s=>by
 rw[sV];split
 ·rfl
 ·rw[zIi a b ts];simp
@[simp] theorem zLn(s:CS)(t:List kX):fb {s with tab:=t}=fb s:=rfl
section
variable (L:iQ)
@[simp] theorem zJ0(a b:Int)(e:jF)(l:List gU)(s:CS):fb (tQ L a b e l s).2=fb s:=by
 unfold tQ;split
 ·simp
 ·simp only;split<;>simp
def jX(i:Inf):Prop:=∀env s,fb (i env s).2=fb s
theorem Nu(n:gq){i:Inf}(h:jX i)(t:gU)(env:Env)(s:CS):fb (nQ n i t env s).2=fb s:=by unfold nQ;simp[h env s]
theorem zIj(n:gq):jX (xV L n):=λenv s=>by
 unfold xV;simp only;repeat' split
 all_goals simp
theorem zJK(n a:gq){ia ib:Inf}(ha:jX ia)(hb:jX ib):jX (pY n a ia ib):=λenv s=>by
 unfold pY;simp only;split<;>simp[ha _ _,hb _ _]
theorem Nv(n a:gq){ia:Inf}(ha:jX ia):jX (xW n a ia):=λenv s=>by
 unfold xW;simp only;repeat' split
 all_goals simp[ha _ _]
theorem zI6(n b:gq){ia ib:Inf}(ha:jX ia)(hb:jX ib):jX (xX n b ia ib):=λenv s=>by
 unfold xX;simp only;repeat' split
 all_goals simp[ha _ _,hb _ _]
theorem zJL(n:gq){ia:Inf}(ha:jX ia):jX (p8 n ia):=λenv s=>by
 unfold p8;simp only;repeat' split
 all_goals simp[ha _ _]
theorem zI7(n:gq){ia ib:Inf}(ha:jX ia)(hb:jX ib):jX (xY n ia ib):=λenv s=>by
 unfold xY;simp only;repeat' split
 all_goals simp[ha _ _,hb _ _]
theorem Nw(q a b:gq){iq ia ib:Inf}(hq:jX iq)(ha:jX ia)(hb:jX ib):jX (xZ q a b iq ia ib):=λenv s=>by
 unfold xZ;simp[hq _ _,ha _ _,hb _ _]
theorem Ny(n:gq){ia:Inf}(ha:jX ia):jX (x8 n ia):=λenv s=>by
 unfold x8;simp only;repeat' split
 all_goals simp[ha _ _]
theorem Nz(n a b:gq){ia ib:Inf}(ha:jX ia)(hb:jX ib):jX (opC n a b ia ib):=λenv s=>by
 unfold opC;simp only;repeat' split
 all_goals simp[Nu _ ha,Nu _ hb,ha _ _,hb _ _]
theorem zJM(n a:gq){ia:Inf}(ha:jX ia):jX (p9 n a ia):=λenv s=>by
 unfold p9;repeat' split
 all_goals simp[Nu _ ha,ha _ _]
theorem XA:∀(l:List gq),(∀x,x∈l->jX (iy L x))->∀env s,fb (oL L l env s).2=fb s
|[],_,env,s=>by rw[oL]
|n::l,h,env,s=>by
 rw[oL];simp only;rw[XA l (λx hx=>h x (by simp[hx])),h n (by simp) env s]
theorem zJN(n:gq)(h:∀x,x∈n.kids->jX (iy L x)):jX (qO n (oL L n.kids)):=λenv s=>by
 unfold qO;simp only;rw[JG,XA L n.kids h];split<;>simp
theorem JH{j:Inf}(h:jX j):jX (kN j):=λenv s=>by
 unfold kN;split
 ·rfl
 ·exact h env s
theorem JI(n:gq){rest:Inf}(hr:jX rest)(h:∀x,x∈n.kids->jX (iy L x)):jX (pg L n rest):=λenv s=>by
 unfold pg;split
 ·rfl
 split
 ·rfl
 split
 ·rfl
 split
 ·rfl
 split
 ·rfl
 split
 ·exact zIj L n env s
 split
 ·exact zJN L n h env s
 ·exact hr env s
theorem zG9(n:gq)(h:∀x,x∈n.kids->jX (iy L x)):jX (iy L n):=by
 obtain⟨k,tx,nn,ln,cl,ts,ns,ks⟩:=n
 match ks,h with
 |[],h=>rw[JE];exact JH (JI L _ (λenv s=>rfl) h)
 |[a],h=>
  have ha:=h a (by simp[gq.kids]);rw[Bl];refine JH (JI L _ (λenv s=>?_) h);unfold Bi;split
  ·exact Nv _ _ ha env s
  split
  ·exact zJL _ ha env s
  split
  ·exact Ny _ ha env s
  ·exact zJM _ _ ha env s
 |[a,b],h=>
  have ha:=h a (by simp[gq.kids]);have hb:=h b (by simp[gq.kids]);rw[Bn];refine JH (JI L _ (λenv s=>?_) h);unfold Bj;split
  ·exact zJK _ _ ha hb env s
  split
  ·exact zI6 _ _ ha hb env s
  split
  ·exact zI7 _ ha hb env s
  ·exact Nz _ _ _ ha hb env s
 |a::b::c::l,h=>
  rw[GI];exact JH (JI L _ (Nw a b c (h a (by simp[gq.kids])) (h b (by simp[gq.kids])) (h c (by simp[gq.kids]))) h)
mutual
theorem JJ:∀n:gq,jX (iy L n)
|.mk k tx nn ln cl ts ns ks=>zG9 L _ (XB ks)
theorem XB:∀l:List gq,∀x,x∈l->jX (iy L x)
|[],x,hx=>by cases hx
|n::l,x,hx=>by
 rcases aN.1 hx with e|hx
 ·rw[e];exact JJ n
 ·exact XB l x hx
end
end
end Go.Gr
namespace Go.Gr
open Go.Abs Go.Proofs List
theorem GK{L:iQ}(hG:mQ L){m k:Int}(h:kD L ⟨bs [],m,k⟩):tY (vX L m k)/\(vX L m k).name.size<=32:=by
 obtain⟨mn,kn,M,e1,e2,g1,g2,_⟩:=Fv hG.good h;exact⟨hG.decs M (ah g1) _ (ah g2),hG.decNames M (ah g1) _ (ah g2)⟩
structure w9 (L:iQ) (s:CS) (i:Nat):Prop where
 tab:s.tab.length<=256
 ist:∀x,x∈s.tab->kD L ⟨bs [],x.module,x.decl⟩/\x.types.length<=1000000
 sites:s.sites.length+(257-i)*240009<=1000000000
 funs:s.funs.length<=i
 bad:s.bad.length<=i
def wh(L:iQ)(x:kX)(s0:CS):CS:={s0 with module:=x.module,vars:=(vX L x.module x.decl).vars.map (·.1),wth:=x.types,e:=0}
theorem XC{L:iQ}{x:kX}(hx:kD L ⟨bs [],x.module,x.decl⟩)(hxt:x.types.length<=1000000){s:CS}{i:Nat}(hi:i<257)(h:w9 L s i):lJ L (wh L x s) (8*30001+1+(257-(i+1))*240009):=by
 have a:=h.sites;have b:=h.funs;have c:=h.bad;refine⟨hxt,?_,h.tab,hx.m0,hx.m1,⟨?_,?_⟩,h.ist⟩
 ·have e:(wh L x s).sites=s.sites:=rfl;have q:s.sites.length+(8*30001+1+(257-(i+1))*240009)<=1000000000:=by
   obtain⟨k,hk⟩:∃k,257-i=k+1:=⟨256-i,by omega⟩
   have hk2:257-(i+1)=k:=by omega
   rw[hk]at a;rw[hk2,show 8*30001+1=240009 from rfl];clear h hx hxt;generalize s.sites.length=n at*
   omega
  simp only[e];exact q
 ·have e:(wh L x s).funs=s.funs:=rfl;simp only[e];omega
 ·have e:(wh L x s).bad=s.bad:=rfl;simp only[e];omega
theorem JK{L:iQ}(hG:mQ L){x:kX}(hx:kD L ⟨bs [],x.module,x.decl⟩)(hxt:x.types.length<=1000000){s:CS}{i:Nat}(hi:i<257)(h:w9 L s i):w9 L (nL L x s) (i+1):=by
 have hd:=(GK hG hx).1;have p0:=XC hx hxt hi h;have f0:fb (wh L x s)=fb s:=rfl;have hf:=h.funs;have hb:=h.bad;unfold nL;unfold wh at p0 f0;simp only;generalize vX L x.module x.decl=d at*
 generalize ({s with module:=x.module,vars:=d.vars.map (·.1),wth:=x.types,e:=0}:CS)=s0 at*
 have p1:=wZ p0 (d.types.getD 0 noT) d.line d.col;have f1:=EP (d.types.getD 0 noT) d.line d.col s0;generalize kC (d.types.getD 0 noT) d.line d.col s0=r1 at*
 have p2:=wZ p1.1 (d.types.getD 1 noT) d.line d.col;have f2:=EP (d.types.getD 1 noT) d.line d.col r1.2;generalize kC (d.types.getD 1 noT) d.line d.col r1.2=r2 at*
 obtain⟨T,hT⟩:∃T,(if r2.2.e=0 then pX (kR r1.1 r2.1) d.line d.col r2.2 else(kR r1.1 r2.1,r2.2))=T:=⟨_,rfl⟩
 have p3:lJ L T.2 (8*30001+1+(257-(i+1))*240009)/\fb T.2=fb r2.2:=by
  rw[<-hT];split
  ·exact⟨(Fw p2.1 _ _ _).1,JG _ _ _ _⟩
  ·exact⟨p2.1,rfl⟩
 rw[hT];clear hT;obtain⟨S,hS⟩:∃S,(if x.module=L.main.module/\x.decl=L.main.decl/\A8 (bT 1) r1.1=false then lI d.line d.col 14 T.2 else T.2)=S:=⟨_,rfl⟩
 have p4:lJ L S (8*30001+1+(257-(i+1))*240009)/\fb S=fb T.2:=by
  rw[<-hS];split
  ·exact⟨vo p3.1 _ _ _,Ns _ _ _ _⟩
  ·exact⟨p3.1,rfl⟩
 rw[hS];clear hS;have hne:sG [(d.param,r1.1)] (iH d.body):=⟨by have:=hd.size;simp only[length_cons,length_nil];omega,λv hv=>by simp only[aL]at hv;subst hv;exact p1.2⟩
 have p5:=(Nj L hG.good d.body hd.body).2 [(d.param,r1.1)] S (1+(257-(i+1))*240009) hne (p4.1.less (by have:=hd.size;omega));have f5:=JJ L d.body [(d.param,r1.1)] S;generalize iy L d.body [(d.param,r1.1)] S=y at*
 have p6:=xg (b:=(257-(i+1))*240009) (p5.1.less (by omega)) y.1.1 y.1.2 r2.1 d.body.line d.body.col;have f6:=Nt y.1.1 y.1.2 r2.1 d.body.line d.body.col y.2;generalize lF y.1.1 y.1.2 r2.1 d.body.line d.body.col y.2=z at*
 have f:fb z.2=fb s:=by rw[f6,f5,p4.2,p3.2,f2,f1,f0]
 have g1:z.2.funs=s.funs:=dL (·.1) f;have g2:z.2.bad=s.bad:=dL (·.2) f;split
 ·exact⟨p6.tab,p6.ist,p6.sites,by simp[g1];omega,by simp[g2];omega⟩
 ·exact⟨p6.tab,p6.ist,p6.sites,by simp[g1];omega,by show z.2.bad.length<=_;rw[g2];omega⟩
theorem OA{L:iQ}(i:Nat)(hi:i<L.mods.length):∀(l:List jZ) (k:Nat) (s:CS),k+l.length<=(L.mods.getD i o9).decs.length->w9 L s 0->w9 L (vB L i l k s).1 0
|[],k,s,hk,h=>by rw[vB];exact h
| d::l,k,s,hk,h=>by
 simp only[length_cons]at hk;rw[vB];split
 ·exact OA i hi l (k+1) s (by omega) h
 have hx:∀x,x∈(ku 256 s.tab ⟨i,k,[]⟩).2->kD L ⟨bs [],x.module,x.decl⟩/\x.types.length<=1000000:=λx hx=>by
  rcases NY hx with hx|hx
  ·exact h.ist x hx
  ·subst hx;exact⟨⟨by simp only;omega,by simp only;omega,by simp only;omega,by simp only[bC];omega⟩,by simp⟩
 simp only;split
 ·exact⟨JC h.tab _,hx,h.sites,h.funs,h.bad⟩
 ·exact OA i hi l (k+1) _ (by omega) ⟨JC h.tab _,hx,h.sites,h.funs,h.bad⟩
theorem OB{L:iQ}:∀(l:List jW) (i:Nat) (s:CS),l=L.mods.drop i->w9 L s 0->w9 L (sF L l i s).1 0
|[],i,s,hl,h=>by rw[sF];exact h
| m::l,i,s,hl,h=>by
 have hlt:i<L.mods.length:=by
  by_cases q:i<L.mods.length
  ·exact q
  ·rw[di (by omega)]at hl;cases hl
 rw[aG hlt]at hl;have h1:=(List.cons.inj hl).1;have hm:L.mods.getD i o9=m:=by rw[aH,aA hlt,h1];try rfl
 have r:=OA i hlt m.decs 0 s (by rw[hm];omega) h;rw[sF];split
 ·exact r
 ·exact OB l (i+1) _ (List.cons.inj hl).2 r
section
variable (L:iQ)
abbrev ck9(s:CS):List Blk:=[ui L s 6 7 8,xf 256 s.tab.length 9,.dead,.dead,.dead,.dead,om s.funs,rC s.sites,mI s.bad,oN s.tab]
theorem XD(l:List gU)(i:Nat)(s:fF)(h:i<l.length):uf (l.drop i) i s=uf (l.drop (i+1)) (i+1) (s++(if i=0 then bs [91]else bs [44,32])++yD l[i]):=by
 rw[aG h,uf]
abbrev OC(L:iQ)(s:CS)(vD wD:D)(tb a b d:Nat):Blk:=.box [.d (.sl false 1 (encS L.names)),.d (.sl false 2 (L.mods.map jW.enc)),.d (.sl false 1 (L.scopes.map rA)),.d (.str L.main.name),.d (.int .i64 L.main.module),.d (.int .i64 L.main.decl),.ptr tb 0,.msl 13 a 0 s.funs.length,.d (.int .i64 s.main),.msl 3 b 0 s.sites.length,.msl 4 d 0 s.bad.length,.d (.int .i64 s.module),.d vD,.d wD,.d (.int .i64 s.e),.d (.int .i64 s.line),.d (.int .i64 s.col)]
abbrev ck5(L:iQ)(s:CS)(vD wD:D):List Blk:=[OC L s vD wD 1 2 3 4,xf 256 s.tab.length 5,om s.funs,rC s.sites,mI s.bad,oN s.tab]
theorem XE(a b:Int):(gq.mk 0 (bs []) 0 a b [] [] []).enc=[.int .i64 0,.str (bs []),.int .i64 0,.int .i64 a,.int .i64 b,.sl false 4 [],.sl false 1 [],.sl false 8 []]:=rfl
@[simp] theorem cut_body(d:jZ):cut (d.enc.map AC.d) 5 8=d.body.enc.map AC.d:=by
 obtain⟨a,b,c,e,f,g,h,i⟩:=d;cases g;rfl
abbrev XF(z:fF):List AC:=[.d (.str z),.d (.int .i64 0),.d (.str (bs [])),.d (.sl true 1 []),.d (.sl true 4 []),.d (.int .i64 0),.d (.int .i64 0),.d (.str (bs [])),.d (.sl true 1 []),.d (.sl true 1 []),.d (.sl true 4 []),.d (.sl true 5 []),.d (.sl true 8 [])]
theorem JL(z:fF)(T:gU):13<=(splice (XF z) 1 (T.enc.map AC.d)).length:=by
 rw[BM];exact aP _
theorem JM(z:fF)(T:gU)(b:gy):put (splice (XF z) 1 (T.enc.map AC.d)) 5 (b.enc.map AC.d)=(jh.enc ⟨z,T,b⟩).map AC.d:=by
 unfold jh.enc;rw[T.enc_eq,b.enc_eq];try rfl
abbrev GL(L:iQ)(s:CS)(P:List Blk)(d:jZ)(a b T:gU)(E:List Blk):List Blk:=rE L s++(P++[.box (d.enc.map .d),.box [.d (.int .i64 0),.d (.str (bs [])),.d (.int .i64 0),.d (.int .i64 d.line),.d (.int .i64 d.col),.d (.sl true 4 []),.d (.sl true 1 []),.d (.sl true 8 [])],.box (a.enc.map .d),.box (b.enc.map .d),.dead,.box (T.enc.map .d)]++E)
theorem St.cut{F:St->Prop}{t:List (Nat × AV)}{m:Hp}{n:Nat}(ts:List (Nat × AV))(bs:List Blk)(ht:∀p,p∈ts->Abs.look t p.1=p.2)(hm:∀i,m i=hpOf bs i)(h:∀T,(∀p,p∈ts->Abs.look T p.1=p.2)->F ⟨T,hpOf bs,n⟩):F ⟨t,m,n⟩:=by
 have e:m=hpOf bs:=funext hm;subst e;exact h t ht
abbrev GM(X:kX)(j:Nat)(z:fF):List (Nat × AV):=[(13,.c (.d (.int .i64 j))),(12,.c (.d (.str z))),(10,.c (.ptr 7 0)),(8,.c (.ptr 6 0)),(3,.c (.d (.rp X.enc 0))),(0,.c (.ptr 0 0))]
abbrev GN(L:iQ)(s:CS)(P:List Blk)(T:gU)(z:gy):List Blk:=[ui L s 2 8 3,xf 256 s.tab.length 9,om s.funs,mI s.bad]++(P++[.box (T.enc.map .d),.box (z.enc.map .d),rC s.sites,oN s.tab])
theorem zBc(hF:mQ L)(X:kX)(hX:kD L ⟨bs [],X.module,X.decl⟩)(hXt:X.types.length<=1000000)(s0:CS)(vD wD:D)(k:Nat)(hs:lJ L (wh L X s0) (8*30001+1+k)):
  MCall Pg 34 [.c (.ptr 0 0),.ag (X.enc.map .d)] (ck5 L s0 vD wD) (.tup []) (ck9 L (nL L X s0)):=by
 refine zy3 mD λts hts ok hbk c hN hp=>?_;obtain⟨t,u,v,w,x,y,rfl⟩:=mZ hts;have hdG:=(GK hF hX).1;have hdn:=(GK hF hX).2;obtain⟨mn,kn,M,e1,e2,g1,g2,hd⟩:=Fv hF.good hX;have hb1:=lH 1;unfold nL;unfold wh at hs;simp only;generalize hdd:vX L X.module X.decl=d at*
 have hv:=WR d hd.vars;obtain⟨ta,tb,hty⟩:=NW hd.types;have e3:d.types.getD 0 noT=ta:=by rw[hty];try rfl
 have e4:d.types.getD 1 noT=tb:=by rw[hty];try rfl
 rw[e3,e4];obtain⟨s,hss⟩:∃s:CS,{s0 with module:=X.module,vars:=d.vars.map (·.1),wth:=X.types,e:=0}=s:=⟨_,rfl⟩
 have m1:=DF L ta d.line d.col s (by rw[<-hss]at*;exact hs.wth);rw[hss]at hs⊢;have p1:=wZ hs ta d.line d.col;generalize kC ta d.line d.col s=r1 at*
 have m2:=DF L tb d.line d.col r1.2 p1.1.wth;have p2:=wZ p1.1 tb d.line d.col;generalize kC tb d.line d.col r1.2=r2 at*
 unfold Vv;have b0:rE L s=rE L {s0 with module:=X.module,vars:=d.vars.map (·.1),wth:=X.types,e:=0}:=by rw[hss]
 rw[b0]at m1;simp[e1,e2,g1,g2];refine⟨by decide,?_⟩;refine gT hv ?_;simp[hty];refine gQ [0,1,2,3,4,5] m1 (by simp[e1]) ?_;simp[hty];refine⟨by decide,?_⟩;refine gP [0,1,2,3,4,5] m2 ?_;simp;refine⟨by decide,?_⟩;have hfits:=VA (bT 1) r1.1;generalize A8 (bT 1) r1.1=ft at*
 have mm:=MCall.erd (args:=[.c (.ptr 0 0),.ag [.d (.int .i64 6),.d (.str (bs [])),.d (.sl true 1 []),.d (.sl false 4 [r1.1.enc,r2.1.enc])],.ag [.d (.int .i64 0),.d (.str (bs [])),.d (.int .i64 0),.d (.int .i64 d.line),.d (.int .i64 d.col),.d (.sl true 4 []),.d (.sl true 1 []),.d (.sl true 8 [])]]) (DI L (kR r1.1 r2.1) (.mk 0 (bs []) 0 d.line d.col [] [] []) r2.2) (by simp[AV.erds,AV.erd,AC.erd,D.erd,D.erdL,D.erdE,kR,tX,nR,vg,encS,gq.enc,gq.encs,XE]);simp only[gq.line,gq.col]at mm;have pm:=Fw p2.1 (kR r1.1 r2.1) d.line d.col;have fin:∀q:CS,lJ L q (8*30001+1+k)->MCall Pg 57 [.c (.ptr 0 0),.ag [.d (.int .i64 0),.d (.str (bs [])),.d (.int .i64 0),.d (.int .i64 d.line),.d (.int .i64 d.col),.d (.sl true 4 []),.d (.sl true 1 []),.d (.sl true 8 [])],.c (.d (.int .i64 14))] (rE L q) (.tup []) (rE L (lI d.line d.col 14 q))/\lJ L (lI d.line d.col 14 q) (8*30001+1+k):=λq hq=>⟨MCall.erd (vM L (.mk 0 (bs []) 0 d.line d.col [] [] []) 14 q) (by simp[AV.erds,AV.erd,AC.erd,D.erd,D.erdL,D.erdE,encS,XE]),vo hq _ _ _⟩
 have hne:sG [(d.param,r1.1)] (iH d.body):=⟨by have:=hdG.size;simp;omega,λv hv=>by simp at hv;subst hv;exact p1.2⟩
 have hi:=Nj L hF.good d.body hdG.body;have minf:∀q:CS,lJ L q (8*30001+1+k)->MCall Pg 58 [.c (.ptr 0 0),.ag (d.body.enc.map .d),.c (.d (.sl true 5 [.str d.param::r1.1.enc]))] (rE L q) (Fx (iy L d.body [(d.param,r1.1)] q).1.1 (iy L d.body [(d.param,r1.1)] q).1.2) (JB L (iy L d.body [(d.param,r1.1)] q).2)/\lJ L (iy L d.body [(d.param,r1.1)] q).2 (1+k):=λq hq=>⟨MCall.erd (hi.1 [(d.param,r1.1)] q (1+k) hne (hq.less (by have:=hdG.size;omega))) (by simp[AV.erds,AV.erd,AC.erd,D.erd,D.erdL,D.erdE,il]),(hi.2 [(d.param,r1.1)] q (1+k) hne (hq.less (by have:=hdG.size;omega))).1⟩
 have hnm:∃nm,L.names.getD X.module.toNat (bs [])=nm/\L.names[mn]?=some nm:=by
  rw[e1];simp only[bC];have:mn<L.names.length:=by have:=hF.good.names;have:=hX.m1;simp only at this;omega
  exact⟨L.names[mn],by rw[aH,aA this];rfl,aA this⟩
 obtain⟨nm,hnm1,hnm2⟩:=hnm;have hnz:=hF.modNames nm (ah hnm2);rw[hnm1];obtain⟨R,hR⟩:∃R,uf X.types 0 (nm++bs [46]++d.name)=R:=⟨_,rfl⟩
 rw[hR];by_cases q0:r2.2.e=0
 ·rw [aC q0];generalize pX (kR r1.1 r2.1) d.line d.col r2.2=T at*
  simp[q0];refine fU [16] ?_;simp[iZ];refine gQ [0,1,2,3,4,5] mm (by simp[q0]) ?_;simp;refine fV [] ?_;simp;refine gT hb1 ?_;simp;refine gT hfits ?_;simp;refine⟨by decide,?_⟩;refine fU [] ?_;simp only[IJ,IM,aC,aB,reduceIte,Nat.reduceEqDiff,Eo,xF,Blk.fz_arr,II,zJ];refine St.cut (F:=w_ Pg c _ _ _) [(0,.c (.ptr 0 0)),(3,.c (.d (.rp X.enc 0))),(4,.c (.ptr 12 0)),(5,.c (.ptr 13 0)),(6,.c (.ptr 14 0)),(7,.c (.ptr 15 0)),(8,.c (.ptr 17 0)),(9,.c (.d (.bool ft)))] (GL L T.2 [.pin t 0,.pin u 1,.pin v 2,.pin w 3,.pin x 4,.pin y 5] d r1.1 r2.1 (T.1) []) ?_ ?_ λT' hT=>?_
  ·simp[iZ]
  ·intro i;by_cases q:i<18
   ·rcases(show i=0\/i=1\/i=2\/i=3\/i=4\/i=5\/i=6\/i=7\/i=8\/i=9\/i=10\/i=11\/i=12\/i=13\/i=14\/i=15\/i=16\/i=17 from by omega)with rfl|rfl|rfl|rfl|rfl|rfl|rfl|rfl|rfl|rfl|rfl|rfl|rfl|rfl|rfl|rfl|rfl|rfl<;>simp[iZ]
   ·refine Eq.trans (b:=Blk.non) ?_ (wU (by simp;omega)).symm;try simp[show i≠0 from by omega,show i≠1 from by omega,show i≠2 from by omega,show i≠3 from by omega,show i≠4 from by omega,show i≠5 from by omega,show i≠6 from by omega,show i≠7 from by omega,show i≠8 from by omega,show i≠9 from by omega,show i≠10 from by omega,show i≠11 from by omega,show i≠12 from by omega,show i≠13 from by omega,show i≠14 from by omega,show i≠15 from by omega,show i≠16 from by omega,show i≠17 from by omega]
    rw[wU (show 12<=i from by omega)];try rfl
  simp only[forall_mem_cons,bv,false_implies,implies_true,and_true]at hT;obtain⟨l0,l3,l4,l5,l6,l7,l8,l9⟩:=hT;simp[l0,l3,l4,l5,l6,l7,l8,l9];have P5:=pm.1;generalize T.1=Ty at*
  generalize T.2=S2 at*
  obtain⟨S5,pa,hS5⟩:∃S5,lJ L S5 (8*30001+1+k)/\(if X.module=L.main.module/\X.decl=L.main.decl/\ft=false then lI d.line d.col 14 S2 else S2)=S5:=by
   split
   ·exact⟨_,(fin S2 P5).2,rfl⟩
   ·exact⟨_,P5,rfl⟩
  rw[hS5];by_cases cm:X.module=L.main.module;rotate_left;rw[aB (λz=>cm z.1)]at hS5;subst hS5;simp[cm,l0,l3,l4,l5,l6,l7,l8,l9];refine⟨by decide,?_⟩;generalize S2=S5 at*
  rotate_left;by_cases cd:X.decl=L.main.decl;rotate_left;rw[aB (λz=>cd z.2.1)]at hS5;subst hS5;simp[cm,cd,l0,l3,l4,l5,l6,l7,l8,l9];refine⟨by decide,?_⟩;generalize S2=S5 at*
  rotate_left;rotate_left;by_cases cf:ft=true;rw[aB (λz=>by rw[cf]at z;simp at z)]at hS5;subst hS5;simp[cm,cd,cf,l0,l3,l4,l5,l6,l7,l8,l9];refine⟨by decide,?_⟩;generalize S2=S5 at*
  rotate_left;rw[aC ⟨cm,cd,by simpa using cf⟩]at hS5;have ma:=(fin S2 P5).1;rw[hS5]at ma;simp[cm,cd,cf,l0,l3,l4,l5,l6,l7,l8,l9];refine⟨by decide,?_⟩;refine gQ [0,1,2,3,4,5] ma (by simp[l0,l3,l4,l5,l6,l7,l8,l9]) ?_;simp[l0,l3,l4,l5,l6,l7,l8,l9]
  all_goals
   have mi:=(minf S5 pa).1;have pi:=(minf S5 pa).2;generalize iy L d.body [(d.param,r1.1)] (S5)=r3 at*
   have mc:=yo L r3.1.1 r3.1.2 r2.1 d.body r3.2 (by have:=pi.sites;omega);have pc:=xg (b:=k) (pi.less (by omega)) r3.1.1 r3.1.2 r2.1 d.body.line d.body.col;generalize lF r3.1.1 r3.1.2 r2.1 d.body.line d.body.col r3.2=r4 at*
   refine gQ [0,1,2,3,4,5] mi (by simp[l0,l3,l4,l5,l6,l7,l8,l9]) ?_;simp[l0,l3,l4,l5,l6,l7,l8,l9];refine gQ [0,1,2,18,4,19] mc (by simp[l0,l3,l4,l5,l6,l7,l8,l9]) ?_;simp[e1,hnm2,l0,l3,l4,l5,l6,l7,l8,l9];refine⟨by unfold zah;omega,by unfold zah;omega,by decide,?_⟩;refine fP gz hp (λY:Nat × fF=>Y.1<=X.types.length/\Y.2.size<=100+Y.1*20010/\uf (X.types.drop Y.1) Y.1 Y.2=R) (λY=>GM X Y.1 Y.2) (λ_=>GN L r4.2 [.pin t 0,.pin u 1] Ty r4.1) (λY=>X.types.length-Y.1) (0,nm++bs [46]++d.name) [0,1,2,4,6,7,17,20,22,19] ⟨by simp,by simp only[ay,Ag,length_cons,length_nil];omega,by simpa using hR⟩ (by simp[l0,l3,l4,l5,l6,l7,l8,l9]) λ⟨j,z⟩ ⟨i1,i3,i2⟩=>?_;unfold NQ;simp only at i1 i3 i2;simp;apply gN<;>intro h
   ·have hj:j<X.types.length:=by simpa using h
    rw[XD _ _ _ hj]at i2;obtain⟨q,hq⟩:∃q,X.types[j]=q:=⟨_,rfl⟩
    rw[hq]at i2;have hw:=wrap_i64 (n:=(j:Int)+1) (by have:=hXt;omega) (by have:=hXt;omega);have hsq:=Np q;by_cases j0:j=0
    ·subst j0;simp[hj,hq];refine⟨by unfold zah;omega,?_⟩;refine gT (Iq q) ?_;simp;refine⟨by unfold zah;omega,?_⟩;refine fG (0+1,z++bs [91]++yD q) [0,1,2,3,4,5,6,7,8,9] ⟨by simp only;omega,by simp only[ay,Ag,length_cons,length_nil];omega,by simpa using i2⟩ (by simp only;omega) ?_;simp[show IntKind.i64.wrap 1=1 from by decide]
    ·rw[aB j0]at i2;simp[hj,hq,j0];refine⟨by unfold zah;omega,?_⟩;refine gT (Iq q) ?_;simp;refine⟨by unfold zah;omega,?_⟩;refine fG (j+1,z++bs [44,32]++yD q) [0,1,2,3,4,5,6,7,8,9] ⟨by simp only;omega,by simp only[ay,Ag,length_cons,length_nil];omega,i2⟩ (by simp only;omega) ?_;simp[hw]
   have hj:j=X.types.length:=by simp at h;omega
   subst hj;rw[aQ,uf]at i2;subst i2;have hfew:=pc.few;have tf:(r4.2.funs.map ((λx=>List.map AC.d x)∘jh.enc)).take r4.2.funs.length=r4.2.funs.map ((λx=>List.map AC.d x)∘jh.enc):=aD (by simp);have td:(r4.2.bad.map ((λx=>List.map AC.d x)∘iV.enc)).take r4.2.bad.length=r4.2.bad.map ((λx=>List.map AC.d x)∘iV.enc):=aD (by simp);by_cases l0:0<X.types.length
   ·rw[aC l0];simp[l0,JL,JM,jh.enc_length];refine⟨by unfold zah;omega,by omega,by decide,?_⟩;by_cases qe:r4.2.e=0
    ·simp[qe];exact fJ [0,1,4,5,6,7,10,8,3,9] [4,5,4,4,4,4] (by simp[AV.erds,AV.erd,iV.enc,tf,td])
    ·simp[qe];refine⟨by omega,by decide,?_⟩;exact fJ [0,1,4,5,6,7,10,8,11,9] [4,5,4,4,4,4] (by simp[AV.erds,AV.erd,iV.enc,tf,td])
   ·rw[aB l0];simp[l0,JL,JM,jh.enc_length];refine⟨by omega,by decide,?_⟩;by_cases qe:r4.2.e=0
    ·simp[qe];exact fJ [0,1,4,5,6,7,10,8,3,9] [4,5,4,4,4,4] (by simp[AV.erds,AV.erd,iV.enc,tf,td])
    ·simp[qe];refine⟨by omega,by decide,?_⟩;exact fJ [0,1,4,5,6,7,10,8,11,9] [4,5,4,4,4,4] (by simp[AV.erds,AV.erd,iV.enc,tf,td])
 ·rw [aB q0];simp[q0];refine fV [.c 17 2] ?_;simp;refine gT hb1 ?_;simp;refine gT hfits ?_;simp;refine⟨by decide,?_⟩;refine fU [16,18] ?_;simp only[IJ,IM,aC,aB,reduceIte,Nat.reduceEqDiff,Eo,xF,Blk.fz_arr,II,zJ,rY,QU];refine St.cut (F:=w_ Pg c _ _ _) [(0,.c (.ptr 0 0)),(3,.c (.d (.rp X.enc 0))),(4,.c (.ptr 12 0)),(5,.c (.ptr 13 0)),(6,.c (.ptr 14 0)),(7,.c (.ptr 15 0)),(8,.c (.ptr 17 0)),(9,.c (.d (.bool ft)))] (GL L r2.2 [.pin t 0,.pin u 1,.pin v 2,.pin w 3,.pin x 4,.pin y 5] d r1.1 r2.1 (kR r1.1 r2.1) [.dead]) ?_ ?_ λT' hT=>?_
  ·simp[iZ]
  ·intro i;by_cases q:i<19
   ·rcases(show i=0\/i=1\/i=2\/i=3\/i=4\/i=5\/i=6\/i=7\/i=8\/i=9\/i=10\/i=11\/i=12\/i=13\/i=14\/i=15\/i=16\/i=17\/i=18 from by omega)with rfl|rfl|rfl|rfl|rfl|rfl|rfl|rfl|rfl|rfl|rfl|rfl|rfl|rfl|rfl|rfl|rfl|rfl|rfl<;>simp[iZ,kR,tX]
   ·refine Eq.trans (b:=Blk.non) ?_ (wU (by simp;omega)).symm;try simp[show i≠0 from by omega,show i≠1 from by omega,show i≠2 from by omega,show i≠3 from by omega,show i≠4 from by omega,show i≠5 from by omega,show i≠6 from by omega,show i≠7 from by omega,show i≠8 from by omega,show i≠9 from by omega,show i≠10 from by omega,show i≠11 from by omega,show i≠12 from by omega,show i≠13 from by omega,show i≠14 from by omega,show i≠15 from by omega,show i≠16 from by omega,show i≠17 from by omega,show i≠18 from by omega]
    rw[wU (show 12<=i from by omega)];try rfl
  simp only[forall_mem_cons,bv,false_implies,implies_true,and_true]at hT;obtain⟨l0,l3,l4,l5,l6,l7,l8,l9⟩:=hT;simp[l0,l3,l4,l5,l6,l7,l8,l9];have P5:=p2.1;generalize kR r1.1 r2.1=Ty at*
  generalize r2.2=S2 at*
  obtain⟨S5,pa,hS5⟩:∃S5,lJ L S5 (8*30001+1+k)/\(if X.module=L.main.module/\X.decl=L.main.decl/\ft=false then lI d.line d.col 14 S2 else S2)=S5:=by
   split
   ·exact⟨_,(fin S2 P5).2,rfl⟩
   ·exact⟨_,P5,rfl⟩
  rw[hS5];by_cases cm:X.module=L.main.module;rotate_left;rw[aB (λz=>cm z.1)]at hS5;subst hS5;simp[cm,l0,l3,l4,l5,l6,l7,l8,l9];refine⟨by decide,?_⟩;generalize S2=S5 at*
  rotate_left;by_cases cd:X.decl=L.main.decl;rotate_left;rw[aB (λz=>cd z.2.1)]at hS5;subst hS5;simp[cm,cd,l0,l3,l4,l5,l6,l7,l8,l9];refine⟨by decide,?_⟩;generalize S2=S5 at*
  rotate_left;rotate_left;by_cases cf:ft=true;rw[aB (λz=>by rw[cf]at z;simp at z)]at hS5;subst hS5;simp[cm,cd,cf,l0,l3,l4,l5,l6,l7,l8,l9];refine⟨by decide,?_⟩;generalize S2=S5 at*
  rotate_left;rw[aC ⟨cm,cd,by simpa using cf⟩]at hS5;have ma:=(fin S2 P5).1;rw[hS5]at ma;simp[cm,cd,cf,l0,l3,l4,l5,l6,l7,l8,l9];refine⟨by decide,?_⟩;refine gQ [0,1,2,3,4,5] ma (by simp[l0,l3,l4,l5,l6,l7,l8,l9]) ?_;simp[l0,l3,l4,l5,l6,l7,l8,l9]
  all_goals
   have mi:=(minf S5 pa).1;have pi:=(minf S5 pa).2;generalize iy L d.body [(d.param,r1.1)] (S5)=r3 at*
   have mc:=yo L r3.1.1 r3.1.2 r2.1 d.body r3.2 (by have:=pi.sites;omega);have pc:=xg (b:=k) (pi.less (by omega)) r3.1.1 r3.1.2 r2.1 d.body.line d.body.col;generalize lF r3.1.1 r3.1.2 r2.1 d.body.line d.body.col r3.2=r4 at*
   refine gQ [0,1,2,3,4,5] mi (by simp[l0,l3,l4,l5,l6,l7,l8,l9]) ?_;simp[l0,l3,l4,l5,l6,l7,l8,l9];refine gQ [0,1,2,19,4,20] mc (by simp[l0,l3,l4,l5,l6,l7,l8,l9]) ?_;simp[e1,hnm2,l0,l3,l4,l5,l6,l7,l8,l9];refine⟨by unfold zah;omega,by unfold zah;omega,by decide,?_⟩;refine fP gz hp (λY:Nat × fF=>Y.1<=X.types.length/\Y.2.size<=100+Y.1*20010/\uf (X.types.drop Y.1) Y.1 Y.2=R) (λY=>GM X Y.1 Y.2) (λ_=>GN L r4.2 [.pin t 0,.pin u 1] Ty r4.1) (λY=>X.types.length-Y.1) (0,nm++bs [46]++d.name) [0,1,2,4,6,7,17,21,23,20] ⟨by simp,by simp only[ay,Ag,length_cons,length_nil];omega,by simpa using hR⟩ (by simp[l0,l3,l4,l5,l6,l7,l8,l9]) λ⟨j,z⟩ ⟨i1,i3,i2⟩=>?_;unfold NQ;simp only at i1 i3 i2;simp;apply gN<;>intro h
   ·have hj:j<X.types.length:=by simpa using h
    rw[XD _ _ _ hj]at i2;obtain⟨q,hq⟩:∃q,X.types[j]=q:=⟨_,rfl⟩
    rw[hq]at i2;have hw:=wrap_i64 (n:=(j:Int)+1) (by have:=hXt;omega) (by have:=hXt;omega);have hsq:=Np q;by_cases j0:j=0
    ·subst j0;simp[hj,hq];refine⟨by unfold zah;omega,?_⟩;refine gT (Iq q) ?_;simp;refine⟨by unfold zah;omega,?_⟩;refine fG (0+1,z++bs [91]++yD q) [0,1,2,3,4,5,6,7,8,9] ⟨by simp only;omega,by simp only[ay,Ag,length_cons,length_nil];omega,by simpa using i2⟩ (by simp only;omega) ?_;simp[show IntKind.i64.wrap 1=1 from by decide]
    ·rw[aB j0]at i2;simp[hj,hq,j0];refine⟨by unfold zah;omega,?_⟩;refine gT (Iq q) ?_;simp;refine⟨by unfold zah;omega,?_⟩;refine fG (j+1,z++bs [44,32]++yD q) [0,1,2,3,4,5,6,7,8,9] ⟨by simp only;omega,by simp only[ay,Ag,length_cons,length_nil];omega,i2⟩ (by simp only;omega) ?_;simp[hw]
   have hj:j=X.types.length:=by simp at h;omega
   subst hj;rw[aQ,uf]at i2;subst i2;have hfew:=pc.few;have tf:(r4.2.funs.map ((λx=>List.map AC.d x)∘jh.enc)).take r4.2.funs.length=r4.2.funs.map ((λx=>List.map AC.d x)∘jh.enc):=aD (by simp);have td:(r4.2.bad.map ((λx=>List.map AC.d x)∘iV.enc)).take r4.2.bad.length=r4.2.bad.map ((λx=>List.map AC.d x)∘iV.enc):=aD (by simp);by_cases l0:0<X.types.length
   ·rw[aC l0];simp[l0,JL,JM,jh.enc_length];refine⟨by unfold zah;omega,by omega,by decide,?_⟩;by_cases qe:r4.2.e=0
    ·simp[qe];exact fJ [0,1,4,5,6,7,10,8,3,9] [4,5,4,4,4,4] (by simp[AV.erds,AV.erd,iV.enc,tf,td])
    ·simp[qe];refine⟨by omega,by decide,?_⟩;exact fJ [0,1,4,5,6,7,10,8,11,9] [4,5,4,4,4,4] (by simp[AV.erds,AV.erd,iV.enc,tf,td])
   ·rw[aB l0];simp[l0,JL,JM,jh.enc_length];refine⟨by omega,by decide,?_⟩;by_cases qe:r4.2.e=0
    ·simp[qe];exact fJ [0,1,4,5,6,7,10,8,3,9] [4,5,4,4,4,4] (by simp[AV.erds,AV.erd,iV.enc,tf,td])
    ·simp[qe];refine⟨by omega,by decide,?_⟩;exact fJ [0,1,4,5,6,7,10,8,11,9] [4,5,4,4,4,4] (by simp[AV.erds,AV.erd,iV.enc,tf,td])
end
abbrev XG(L:iQ)(i:Nat):List (Nat × AV):=[(5,.c (.d (.int .i64 i))),(4,.c (.ptr 2 0)),(2,.c (.ptr 0 0)),(1,.c (.d (.rp L.enc 0)))]
abbrev XH(L:iQ)(s:CS):List Blk:=[.box [.d (.sl true 13 []),.d (.int .i64 0),.d (.sl true 3 [])],.box [.d (.int .i64 256),.msl 3 6 0 s.tab.length],OC L s (.sl true 1 []) (.sl true 4 []) 1 3 4 5,om s.funs,rC s.sites,mI s.bad,oN s.tab]
abbrev OD(i:Nat):List (Nat × AV):=[(10,.c (.d (.int .i64 i))),(4,.c (.ptr 2 0)),(2,.c (.ptr 0 0))]
abbrev OE(L:iQ)(s:CS)(vD wD:D):List Blk:=[.box [.d (.sl true 13 []),.d (.int .i64 0),.d (.sl true 3 [])],.box [.d (.int .i64 256),.msl 3 6 0 s.tab.length],OC L s vD wD 1 3 4 5,om s.funs,rC s.sites,mI s.bad,oN s.tab]
theorem zIK(a0 a1 a2 a3 a4 a5 a6 a7 a8 a9 a10 a11 a12 a13 a14 a15 a16:AC):cut [a0,a1,a2,a3,a4,a5,a6,a7,a8,a9,a10,a11,a12,a13,a14,a15,a16] 7 3=[a7,a8,a9]:=rfl
theorem zIL(L:iQ):put (splice [.d (.sl true 1 []),.d (.sl true 2 []),.d (.sl true 1 []),.d (.str (bs [])),.d (.int .i64 0),.d (.int .i64 0),.d (.sc (.pointer none)),.d (.sl true 13 []),.d (.int .i64 0),.d (.sl true 3 []),.d (.sl true 4 []),.d (.int .i64 0),.d (.sl true 1 []),.d (.sl true 4 []),.d (.int .i64 0),.d (.int .i64 0),.d (.int .i64 0)] 0 (L.enc.map AC.d)) 6 [AC.ptr 1 0]=[.d (.sl false 1 (encS L.names)),.d (.sl false 2 (L.mods.map jW.enc)),.d (.sl false 1 (L.scopes.map rA)),.d (.str L.main.name),.d (.int .i64 L.main.module),.d (.int .i64 L.main.decl),.ptr 1 0,.d (.sl true 13 []),.d (.int .i64 0),.d (.sl true 3 []),.d (.sl true 4 []),.d (.int .i64 0),.d (.sl true 1 []),.d (.sl true 4 []),.d (.int .i64 0),.d (.int .i64 0),.d (.int .i64 0)]:=rfl
theorem zGv(L:iQ)(hG:mQ L):gY Pg 17 [.agg L.enc] (.tup [.agg (Ac L).1.enc,.one (.sl false 4 ((Ac L).2.map iV.enc))]):=by
 refine zCq (by simp) λo c hN hp=>?_;obtain⟨R,hR⟩:∃R,Ac L=R:=⟨_,rfl⟩
 rw[hR];unfold Ac at hR;unfold Vz;simp;refine fV [.c 2 7,.c 2 9,.c 2 10,.c 1 1] ?_;simp[zIL];refine fP gz hp (λY:Nat × CS=>Y.1<=L.mods.length/\w9 L Y.2 0/\Y.2.funs=[]/\Y.2.sites=[]/\Y.2.bad=[]/\Y.2.module=0/\Y.2.e=0/\Y.2.line=0/\Y.2.col=0/\sF L (L.mods.drop Y.1) Y.1 Y.2=sF L L.mods 0 cs0) (λY=>XG L Y.1) (λY=>XH L Y.2) (λY=>L.mods.length-Y.1) (0,cs0) [0,1,2,3,4,5,6] ⟨by simp,⟨by simp[cs0],by simp[cs0],by simp[cs0],by simp[cs0],by simp[cs0]⟩,rfl,rfl,rfl,rfl,rfl,rfl,rfl,by simp⟩ (by simp[cs0]) λ⟨i,S⟩ ⟨i1,i2,i3,i4,i5,i6,i7,i8,i9,i10⟩=>?_;unfold Vx;simp only at i1 i2 i3 i4 i5 i6 i7 i8 i9 i10;simp;apply gN<;>intro h
 ·have hi:i<L.mods.length:=by simpa using h
  obtain⟨m,hm⟩:∃m,L.mods[i]=m:=⟨_,rfl⟩
  rw[aG hi,hm,sF]at i10;simp[hi,hm];refine fP gz hp (λY:Nat × CS=>Y.1<=m.decs.length/\w9 L Y.2 0/\Y.2.funs=[]/\Y.2.sites=[]/\Y.2.bad=[]/\Y.2.module=0/\Y.2.e=0/\Y.2.line=0/\Y.2.col=0/\(if 0<(vB L i (m.decs.drop Y.1) Y.1 Y.2).2.length then vB L i (m.decs.drop Y.1) Y.1 Y.2 else sF L (L.mods.drop (i+1)) (i+1) (vB L i (m.decs.drop Y.1) Y.1 Y.2).1)=sF L L.mods 0 cs0) (λY=>(6,.c (.d (.int .i64 Y.1)))::XG L i) (λY=>XH L Y.2) (λY=>m.decs.length-Y.1) (0,S) [0,1,2,3,4,5,6] ⟨by simp,i2,i3,i4,i5,i6,i7,i8,i9,by simpa using i10⟩ (by simp) λ⟨k,S2⟩ ⟨j1,j2,j3,j4,j5,j6,j7,j8,j9,j10⟩=>?_;unfold Vw;simp only at j1 j2 j3 j4 j5 j6 j7 j8 j9 j10;have hmi:L.mods[i]?=some m:=by rw[aA hi,hm]
  simp[hi,hm];apply gN<;>intro h
  ·have hk:k<m.decs.length:=by simpa using h
   obtain⟨d,hd⟩:∃d,m.decs[k]=d:=⟨_,rfl⟩
   rw[aG hk,hd,vB]at j10;have hdl:=(hG.small m (ah hmi)).decs;have hw:=wI (n:=(k:Int)+1);by_cases c0:0<d.vars.length
   ·rw[aC c0]at j10;simp[hi,hm,hk,hd,c0];refine fG (k+1,S2) [0,1,2,3,4,5,6] ⟨by simp only;omega,j2,j3,j4,j5,j6,j7,j8,j9,j10⟩ (by simp only;omega) ?_;simp[hw]
   rw[aB c0]at j10;have hx:∀x,x∈(ku 256 S2.tab ⟨i,k,[]⟩).2->kD L ⟨bs [],x.module,x.decl⟩/\x.types.length<=1000000:=λx hx=>by
    have hm2:L.mods.getD i o9=m:=by rw[aH,hmi];try rfl
    rcases NY hx with hx|hx
    ·exact j2.ist x hx
    ·subst hx;exact⟨⟨by simp only;omega,by simp only;omega,by simp only;omega,by simp only[bC];rw[hm2];omega⟩,by simp⟩
   have hx2:=JC j2.tab ⟨i,k,[]⟩;have le4:L.enc[4]?=some (D.int .i64 L.main.module):=rfl;have le5:L.enc[5]?=some (D.int .i64 L.main.decl):=rfl;have ma:=MCall.erd (args:=[.c (.ptr 0 0),.ag [.d (.int .i64 i),.d (.int .i64 k),.d (.sl true 4 [])]]) (WN 256 S2.tab (by have:=j2.tab;omega) ⟨i,k,[]⟩ (by simp)) (by simp[AV.erds,AV.erd,AC.erd,D.erd,D.erdL,D.erdE,kX.enc]);generalize ku 256 S2.tab ⟨i,k,[]⟩=r at*
   simp only at j10;by_cases r0:r.1.2=0;rotate_left
   ·simp only[aC (show r.1.2≠0 from r0)]at j10;simp at j10;rw[<-j10]at hR;simp at hR;subst hR;simp[hi,hm,hk,hd,c0];refine gQ [1,6] ma (by simp[kX.enc]) ?_;simp[r0];refine⟨by decide,?_⟩;refine fU [] ?_;simp[yF,lZ.enc,iV.enc];try decide
   ·simp only[aB (show¬r.1.2≠0 fromλz=>z r0)]at j10;by_cases cm:(i:Int)=L.main.module
    ·by_cases cd:(k:Int)=L.main.decl
     ·simp only[aC (show(i:Int)=L.main.module/\(k:Int)=L.main.decl from⟨cm,cd⟩)]at j10;simp[hi,hm,hk,hd,c0];refine gQ [1,6] ma (by simp[kX.enc]) ?_;simp[r0,cm,cd,le4,le5];refine fG (k+1,{S2 with tab:=r.2,main:=r.1.1}) [0,1,2,3,4,5,8] ⟨by simp only;omega,⟨hx2,hx,j2.sites,j2.funs,j2.bad⟩,j3,j4,j5,j6,j7,j8,j9,j10⟩ (by simp only;omega) ?_;simp;rw[<-cd];exact hw
     ·simp only[aB (show¬((i:Int)=L.main.module/\(k:Int)=L.main.decl)fromλz=>cd z.2)]at j10;simp[hi,hm,hk,hd,c0];refine gQ [1,6] ma (by simp[kX.enc]) ?_;simp[r0,cm,cd,le4,le5];refine fG (k+1,{S2 with tab:=r.2}) [0,1,2,3,4,5,8] ⟨by simp only;omega,⟨hx2,hx,j2.sites,j2.funs,j2.bad⟩,j3,j4,j5,j6,j7,j8,j9,j10⟩ (by simp only;omega) ?_;simp[hw]
    ·simp only[aB (show¬((i:Int)=L.main.module/\(k:Int)=L.main.decl)fromλz=>cm z.1)]at j10;simp[hi,hm,hk,hd,c0];refine gQ [1,6] ma (by simp[kX.enc]) ?_;simp[r0,cm,le4,le5];refine fG (k+1,{S2 with tab:=r.2}) [0,1,2,3,4,5,8] ⟨by simp only;omega,⟨hx2,hx,j2.sites,j2.funs,j2.bad⟩,j3,j4,j5,j6,j7,j8,j9,j10⟩ (by simp only;omega) ?_;simp[hw]
  ·have hk:k=m.decs.length:=by simp at h;omega
   subst hk;rw[aQ,vB]at j10;simp at j10;have hw:=wrap_i64 (n:=(i:Int)+1) (by have:=hG.good.few;omega) (by have:=hG.good.few;omega);refine fG (i+1,S2) [0,1,2,3,4,5,6] ⟨by simp only;omega,j2,j3,j4,j5,j6,j7,j8,j9,j10⟩ (by simp only;omega) ?_;simp[hw]
 ·have hi:i=L.mods.length:=by simp at h;omega
  subst hi;rw[aQ,sF]at i10;rw[<-i10]at hR;simp only[length_nil,Nat.lt_irrefl,if_false]at hR;obtain⟨F,hF⟩:∃F,pK L 257 0 S=F:=⟨_,rfl⟩
  rw[hF]at hR;refine fP gz hp (λY:Nat × CS × D × D=>Y.1<=256/\w9 L Y.2.1 Y.1/\pK L (257-Y.1) Y.1 Y.2.1=F) (λY=>OD Y.1) (λY=>OE L Y.2.1 Y.2.2.1 Y.2.2.2) (λY=>257-Y.1) (0,S,.sl true 1 [],.sl true 4 []) [0,1,2,3,4,5,6] ⟨by simp,i2,by simpa using hF⟩ (by simp) λ⟨j,S2,vD,wD⟩ ⟨j1,j2,j3⟩=>?_;unfold Vy;simp only at j1 j2 j3;simp;apply gN<;>intro h
  ·have hj:j<S2.tab.length:=by simpa using h
   have hjt:=j2.tab;obtain⟨X,hX⟩:∃X,S2.tab[j]=X:=⟨_,rfl⟩
   have hXm:X∈S2.tab:=hX▸aO hj;have hXi:=j2.ist X hXm;have hw:=wI (n:=(j:Int)+1);have mf:=zBc L hG X hXi.1 hXi.2 S2 vD wD ((257-(j+1))*240009) (XC hXi.1 hXi.2 (by omega) j2);have mk:=JK hG hXi.1 hXi.2 (by omega) j2;have e3:pK L (257-(j+1)) (j+1) (nL L X S2)=F:=by
    have e:257-j=(257-(j+1))+1:=by omega
    rw[e,pK,aC hj]at j3;rw[aH,aA hj,hX]at j3;exact j3
   generalize nL L X S2=S3 at*
   simp[hj,hX];refine gP [2,1,3,4,5,6] mf ?_;simp;refine fG (j+1,S3,.sl false 1 (encS S3.vars),.sl false 4 (S3.wth.map gU.enc)) [0,1,2,7,8,9,10] ⟨by simp only;omega,mk,e3⟩ (by simp only;omega) ?_;simp[hw]
  ·have hj:¬j<S2.tab.length:=by simpa using h
   have e3:S2=F:=by
    have e:257-j=(257-(j+1))+1:=by omega
    rw[e,pK,aB hj]at j3;exact j3
   subst e3;by_cases hb:0<S2.bad.length
   ·rw[aC hb]at hR;subst hR;simp[hb];refine⟨by decide,?_⟩;refine fU [5] ?_;simp[yF,lZ.enc];exact aD (by simp)
   ·rw[aB hb]at hR;subst hR;simp[hb,zIK];refine fU [3,4] ?_;simp[lZ.enc];exact⟨aD (by simp),aD (by simp)⟩
@[simp] theorem lZ.enc_length(p:lZ):p.enc.length=3:=rfl
@[simp] theorem lZ.cut_map(p:lZ):cut (p.enc.map AC.d) 0 3=p.enc.map .d:=rfl
@[simp] theorem lZ.cut_enc(p:lZ):cut p.enc 0 3=p.enc:=rfl
@[simp] theorem lZ.er_map(p:lZ):p.enc.map D.er=p.enc:=rfl
abbrev prV(r:lZ × Bool):DV:=.tup [.agg r.1.enc,.one (.bool r.2)]
theorem XI(l:List (fF × fF)):gY Pg 8 [.one (.sl false 2 (l.map lV))] (prV (vE l)):=by
 refine zAb (by simp) λo c hN hp=>?_;obtain⟨R,hR⟩:∃R,vE l=R:=⟨_,rfl⟩
 rw[hR];unfold vE at hR;have hfew:=zIH l;obtain⟨f,hf⟩:∃f,(decide (l.length<=20)&&qP l 0)=f:=⟨_,rfl⟩
 rw[hf]at hfew;unfold WA;simp;refine gT hfew ?_;simp;cases f with
 | false=>
  have hc:20<l.length\/qP l 0=false\/5000<tT l:=by
   simp at hf;by_cases q:l.length<=20
   ·exact .inr (.inl (hf q))
   ·exact .inl (by omega)
  rw[aC hc]at hR;refine fP gz hp (λ_:Nat=>True) (λ_=>[(6,.c (.d (.int .i64 0))),(5,.c (.d (.int .i64 0))),(4,.c (.d (.bool false))),(2,.c (.ptr 0 0)),(0,.c (.d (.sl false 2 (l.map lV))))]) (λ_=>[.box [.d (.sl true 13 []),.d (.int .i64 0),.d (.sl true 3 [])]]) (λ_=>0) 0 [0] (by simp) (by simp) λj h1=>?_;unfold NR;simp;apply gN<;>intro h
  ·subst hR;simp[yF,lZ.enc]
  ·subst hR;simp[yF,lZ.enc]
 | true=>
  simp at hf;have hl:=hf.1;refine fP gz hp (λY:Nat × Nat=>Y.1<=l.length/\Y.2<=70000/\qP (l.drop Y.1) Y.2=true/\(Y.2:Int)+tT (l.drop Y.1)=tT l) (λY=>[(6,.c (.d (.int .i64 Y.1))),(5,.c (.d (.int .i64 Y.2))),(4,.c (.d (.bool true))),(2,.c (.ptr 0 0)),(0,.c (.d (.sl false 2 (l.map lV))))]) (λ_=>[.box [.d (.sl true 13 []),.d (.int .i64 0),.d (.sl true 3 [])]]) (λY=>l.length-Y.1) (0,0) [0] ⟨by simp,by simp,by simpa using hf.2,by simp⟩ (by simp) λ⟨j,n⟩ ⟨i1,i2,i3,i4⟩=>?_;unfold NR;simp only at i1 i2 i3 i4;simp;apply gN<;>intro h
  ·have hj:j<l.length:=by simpa using h
   obtain⟨s,hs⟩:∃s,l[j]=s:=⟨_,rfl⟩
   rw[aG hj,hs,qP]at i3;rw[aG hj,hs,tT]at i4;have hw:=wI (n:=(j:Int)+1);by_cases c1:(70000:Int)-n<s.2.size\/1000<s.1.size
   ·rw[aC c1]at i3;cases i3
   rw[aB c1]at i3;have hw3:=wI (n:=(n:Int)+s.2.size);simp[hj,hs];refine fG (j+1,n+s.2.size) [0] ⟨by simp only;omega,by simp only;omega,by simpa using i3,by simp only;omega⟩ (by simp only;omega) ?_;simp[hw,hw3]
  ·have hj:j=l.length:=by simp at h;omega
   subst hj;rw[aQ,tT]at i4;have i5:tT l=n:=by omega
   by_cases c5:(5000:Int)<n
   ·rw[aC (.inr (.inr (by omega)))]at hR;subst hR;simp[c5,yF,lZ.enc]
   ·have hc:¬(20<l.length\/qP l 0=false\/5000<tT l):=by
     rw[hf.2];simp;omega
    rw[aB hc]at hR;have hlk:=zHK l;have hlg:=Nr l;generalize yf l=x at*
    simp only at hR;simp[c5];refine gT hlk ?_;simp;by_cases c6:0<x.2.length
    ·rw[aC c6]at hR;subst hR;simp[c6,yF,lZ.enc]
    ·rw[aB c6]at hR;have hck:=zGv x.1 (hlg (by omega));generalize Ac x.1=y at*
     simp[c6];refine gT hck ?_;subst hR;simp
end Go.Gr
namespace Go.Gr
open Go.Abs Go.Proofs
def qU(l:List Int)(x:Int):List Int:=if x∈l then l else l++[x]
def ou(l r:List Int):List Int:=r.foldl qU l
def GQ(x:Int):List Int->List Int
|[]=>[x]
|y::l=>if x<=y then x::y::l else y::GQ x l
def GR:List Int->List Int
|[]=>[]
|x::l=>GQ x (GR l)
structure vw where
 name:fF
 body:gy
 caps:List Int
 deep:Int
 none:Bool
structure Flt where
 name:fF
 caps:Int
 body:gy
def GU(x:Int):List Int->Nat->Int
|[],_=> -1
|y::l,i=>if x=y then i else GU x l (i+1)
def GV(t:vw)(n:Int):Int:=if t.deep<=n then n-t.deep+t.caps.length else GU n t.caps 0
mutual
def GX:gy->Int->List Int
|.mk k n _ _ _ _ _ ks,b=>(if k=4/\n<b then [n]else [])++XJ ks b
def XJ:List gy->Int->List Int
|[],_=>[]
|c::l,b=>GX c b++XJ l b
end
def XK(c:gy)(b:Int):List Int:=GR (ou [] (GX c b))
mutual
def zJI(t:vw):gy->Int->List vw->gy × List vw
| .mk k n tx is ns ts cs ks=>λdeep l=>
 if k=4 then(.mk k (GV t n) tx is ns ts cs ks,l)
 else if k=5 then
  (.mk 23 l.length (bs []) ((XK (ks.getD 0 noC) deep).map (GV t)) [] [] [] [],l++[⟨t.name++bs [39],ks.getD 0 noC,XK (ks.getD 0 noC) deep,deep,false⟩])
 else(.mk k n tx is ns ts cs (OG t k ks 0 deep l).1,(OG t k ks 0 deep l).2)
def OG(t:vw)(k:Int):List gy->Nat->Int->List vw->List gy × List vw
|[]=>λ_ _ l=>([],l)
|c::r=>λi deep l=>
 let x:=zJI t c (if k=18 then deep+i else deep) l;let y:=OG t k r (i+1) deep x.2
 (x.1::y.1,y.2)
end
mutual
def kS:gy->Nat
|.mk _ _ _ _ _ _ _ ks=>1+ji ks
def ji:List gy->Nat
|[]=>0
|c::l=>kS c+ji l
end
mutual
def mR:Nat->gy->Prop
|m,.mk k n _ _ _ ts _ ks=>k≠23/\(k=18->ks.length<=2)/\(k=21->ks.length=1/\ts.length=2)/\(k=4->0<=n/\n<m/\ks=[])/\(k=5->ks.length=1)/\jr m k ks 0
def jr:Nat->Int->List gy->Nat->Prop
|_,_,[],_=>True
|m,k,c::l,i=>mR (if k=5 then m+1 else if k=18 then m+i else m) c/\jr m k l (i+1)
end
def CW(m b:Nat)(c:gy):Prop:=mR m c/\kS c<=b
theorem CW.less{m b b':Nat}{c:gy}(h:CW m b c)(hb:b<=b'):CW m b' c:=⟨h.1,aj h.2 hb⟩
theorem CW.n0(m:Nat)(k n:Int)(t:fF)(h4:k≠4)(h5:k≠5)(h23:k≠23)(h21:k≠21):CW m 1 (.mk k n t [] [] [] [] []):=by
 simp[CW,mR,jr,kS,ji,h4,h5,h23,h21]
theorem CW.n1{m b:Nat}{k n:Int}{t:fF}{ns:List fF}{ts:List gU}{c:gy}(h:CW m b c)(h4:k≠4)(h5:k≠5)(h23:k≠23)(h21:k=21->ts.length=2):CW m (b+1) (.mk k n t [] ns ts [] [c]):=by
 have:=h.2;refine⟨by simpa[mR,jr,h4,h5,h23]using ⟨h21,h.1⟩,by simp only[kS,ji];omega⟩
theorem CW.n2{m b b':Nat}{k n:Int}{t:fF}{ns:List fF}{ts:List gU}{c d:gy}(h:CW m b c)(h':CW m b' d)(h4:k≠4)(h5:k≠5)(h18:k≠18)(h23:k≠23)(h21:k≠21):CW m (b+b'+1) (.mk k n t [] ns ts [] [c,d]):=by
 have:=h.2;have:=h'.2;refine⟨by simpa[mR,jr,h4,h5,h18,h23,h21]using ⟨h.1,h'.1⟩,by simp only[kS,ji];omega⟩
theorem CW.n3{m b b' b'':Nat}{k n:Int}{t:fF}{ns:List fF}{ts:List gU}{c d e:gy}(h:CW m b c)(h':CW m b' d)(h'':CW m b'' e)(h4:k≠4)(h5:k≠5)(h18:k≠18)(h23:k≠23)(h21:k≠21):CW m (b+b'+b''+1) (.mk k n t [] ns ts [] [c,d,e]):=by
 have:=h.2;have:=h'.2;have:=h''.2;refine⟨by simpa[mR,jr,h4,h5,h18,h23,h21]using ⟨h.1,h'.1,h''.1⟩,by simp only[kS,ji];omega⟩
theorem CW.noC(m:Nat):CW m 1 noC:=CW.n0 m 0 0 _ (by decide) (by decide) (by decide) (by decide)
theorem CW.cast{m b:Nat}{x:gy}(h:CW m b x)(t u:gU)(ln cl:Int)(s:CS):CW m (b+1) (mP x t u ln cl s).1:=by
 unfold mP;split
 ·exact h.less (by omega)
 ·exact h.n1 (by decide) (by decide) (by decide) (λ_=>rfl)
theorem CW.coerce{m b:Nat}{x:gy}(h:CW m b x)(t u:gU)(ln cl:Int)(s:CS):CW m (b+1) (lF x t u ln cl s).1:=by
 unfold lF;split
 ·exact h.less (by omega)
 split
 ·exact h.less (by omega)
 split
 ·exact h.cast _ _ _ _ _
 ·exact h.less (by omega)
theorem CW.any{m b:Nat}{x:(gy × gU) × CS}(h:CW m b x.1.1)(u:gU)(ln cl:Int):CW m (b+1) (kg u ln cl x).1.1:=by
 unfold kg;split
 ·exact h.cast _ _ _ _ _
 ·exact h.less (by omega)
theorem CW.global(L:iQ)(m:Nat)(ln cl:Int)(e:jF)(l:List gU)(s:CS):CW m 1 (tQ L ln cl e l s).1.1:=by
 unfold tQ;split
 ·exact CW.noC m
 ·exact CW.n0 m 6 _ _ (by decide) (by decide) (by decide) (by decide)
theorem XL{m:Nat}{k:Int}(h5:k≠5)(h18:k≠18):∀{l:List gy} {i:Nat},(∀c,c∈l->mR m c)->jr m k l i
|[],_,_=>by simp[jr]
|c::l,i,h=>by
 rw[jr,aB h5,aB h18];exact⟨h c (by simp),XL h5 h18 λx hx=>h x (by simp[hx])⟩
end Go.Gr
namespace Go.Gr
open Go.Abs Go.Proofs List
def jR(b:Nat)(i:Inf):Prop:=∀env s,CW env.length b (i env s).1.1
theorem jR.less{b b':Nat}{i:Inf}(h:jR b i)(hb:b<=b'):jR b' i:=λenv s=>(h env s).less hb
theorem zf(n:gq){b:Nat}{i:Inf}(h:jR b i)(t:gU)(env:Env)(s:CS):CW env.length (b+1) (nQ n i t env s).1:=(h env s).coerce _ _ _ _ _
section
variable (L:iQ)
theorem zH4(n:gq):jR 1 (xV L n):=λenv s=>by
 unfold xV;simp only;split
 ·rename_i h;have:=NV env n.text;have h0:=h.1;refine⟨?_,by simp[cN,kS,ji]⟩;simp only[cN,mR,jr,and_true,true_and];exact⟨by decide,λh=>absurd h (by decide),λh=>absurd h (by decide),λ_=>⟨h0,by omega⟩,λh=>absurd h (by decide)⟩
 repeat' split
 all_goals first|exact CW.noC _|exact CW.global L _ _ _ _ _ _
theorem zJx(n a:gq){ba bb:Nat}{ia ib:Inf}(ha:jR ba ia)(hb:jR bb ib):jR (ba+bb+4) (pY n a ia ib):=λenv s=>by
 unfold pY;simp only;obtain⟨y,hy⟩:∃y,(if 0<n.types.length/\(ia env s).2.e=0 then(((lF (ia env s).1.1 (ia env s).1.2 (kC (n.types.getD 0 noT) n.line n.col (ia env s).2).1 a.line a.col (kC (n.types.getD 0 noT) n.line n.col (ia env s).2).2).1,(kC (n.types.getD 0 noT) n.line n.col (ia env s).2).1),(lF (ia env s).1.1 (ia env s).1.2 (kC (n.types.getD 0 noT) n.line n.col (ia env s).2).1 a.line a.col (kC (n.types.getD 0 noT) n.line n.col (ia env s).2).2).2)else ia env s)=y:=⟨_,rfl⟩
 have h1:CW env.length (ba+1) y.1.1:=by
  rw[<-hy];split
  ·exact(ha env s).coerce _ _ _ _ _
  ·exact(ha env s).less (by omega)
 rw[hy];have h2:=hb (env++[(n.text,y.1.2)]) y.2;rw[aT]at h2;have:=h1.2;have:=h2.2;refine⟨?_,by simp only[cK,kS,ji];omega⟩;simp only[cK,mR,jr,and_true,true_and];exact⟨by decide,λ_=>by simp,λh=>absurd h (by decide),λh=>absurd h (by decide),λh=>absurd h (by decide),by simpa using h1.1,by simpa using h2.1⟩
theorem OH(n a:gq){ba:Nat}{ia:Inf}(ha:jR ba ia):jR (ba+4) (xW n a ia):=λenv s=>by
 unfold xW;simp only;generalize (if 1<n.types.length/\(kC (n.types.getD 0 noT) n.line n.col s).2.e=0 then kC (n.types.getD 1 noT) n.line n.col (kC (n.types.getD 0 noT) n.line n.col s).2 else(noT,(kC (n.types.getD 0 noT) n.line n.col s).2))=q;generalize (kC (n.types.getD 0 noT) n.line n.col s).1=p;have h2:=ha (env++[(n.text,p)]) q.2;rw[aT]at h2;generalize ia (env++[(n.text,p)]) q.2=x at*
 obtain⟨y,hy⟩:∃y,(if 1<n.types.length then(((lF x.1.1 x.1.2 q.1 a.line a.col x.2).1,q.1),(lF x.1.1 x.1.2 q.1 a.line a.col x.2).2)else x)=y:=⟨_,rfl⟩
 have h3:CW (env.length+[(n.text,p)].length) (ba+1) y.1.1:=by
  rw[<-hy];split
  ·exact h2.coerce _ _ _ _ _
  ·exact h2.less (by omega)
 rw[hy];have:=h3.2;refine⟨?_,by simp only[cK,kS,ji];omega⟩;simp only[cK,mR,jr,and_true,true_and];exact⟨by decide,λh=>absurd h (by decide),λh=>absurd h (by decide),λh=>absurd h (by decide),λ_=>rfl,by simpa using h3.1⟩
theorem c_call(n b:gq){ba bb:Nat}{ia ib:Inf}(ha:jR ba ia)(hb:jR bb ib):jR (ba+bb+4) (xX n b ia ib):=λenv s=>by
 unfold xX;simp only;split
 ·exact(CW.noC _).less (by omega)
 ·exact(((ha env s).any _ _ _).n2 ((hb env _).coerce _ _ _ _ _) (by decide) (by decide) (by decide) (by decide) (by decide)).less (by omega)
theorem zJy(n:gq){ba:Nat}{ia:Inf}(ha:jR ba ia):jR (ba+4) (p8 n ia):=λenv s=>by
 unfold p8;simp only;refine CW.less (b:=ba+1+1) (CW.n1 ?_ (by decide) (by decide) (by decide) (by decide)) (by omega);split
 ·exact(ha env s).cast _ _ _ _ _
 ·exact(ha env s).less (by omega)
theorem zIP(n:gq){ba bb:Nat}{ia ib:Inf}(ha:jR ba ia)(hb:jR bb ib):jR (ba+bb+4) (xY n ia ib):=λenv s=>by
 unfold xY;simp only;split
 ·exact(CW.noC _).less (by omega)
 ·exact(((ha env s).any _ _ _).n2 (hb env _) (by decide) (by decide) (by decide) (by decide) (by decide)).less (by omega)
theorem XM(q:gq)(env:Env):(oZ q env).1.length=env.length/\(oZ q env).2.length=env.length:=by
 unfold oZ;split<;>simp
theorem OI(q a b:gq){bq ba bb:Nat}{iq ia ib:Inf}(hq:jR bq iq)(ha:jR ba ia)(hb:jR bb ib):jR (bq+ba+bb+4) (xZ q a b iq ia ib):=λenv s=>by
 unfold xZ;simp only;have h1:=ha (oZ q env).1 (lF (iq env s).1.1 (iq env s).1.2 (bT 2) q.line q.col (iq env s).2).2;rw[(XM q env).1]at h1;have h2:=hb (oZ q env).2 (ia (oZ q env).1 (lF (iq env s).1.1 (iq env s).1.2 (bT 2) q.line q.col (iq env s).2).2).2;rw[(XM q env).2]at h2;exact(CW.n3 ((hq env s).coerce _ _ _ _ _) (h1.coerce _ _ _ _ _) (h2.coerce _ _ _ _ _) (by decide) (by decide) (by decide) (by decide) (by decide)).less (by omega)
theorem OJ(n:gq){ba:Nat}{ia:Inf}(ha:jR ba ia):jR (ba+4) (x8 n ia):=λenv s=>by
 unfold x8;simp only;split
 ·exact(ha env s).less (by omega)
 split
 ·exact(ha env s).less (by omega)
 generalize (kC (n.types.getD 0 noT) n.line n.col (ia env s).2)=u;obtain⟨y,hy⟩:∃y,(if(ia env s).1.2.kind≠0 then mP (ia env s).1.1 (ia env s).1.2 noT n.line n.col u.2 else((ia env s).1.1,u.2))=y:=⟨_,rfl⟩
 have h3:CW env.length (ba+1) y.1:=by
  rw[<-hy];split
  ·exact(ha env s).cast _ _ _ _ _
  ·exact(ha env s).less (by omega)
 rw[hy];split
 ·exact h3.less (by omega)
 split
 ·exact(h3.cast _ _ _ _ _).less (by omega)
 ·exact(h3.n1 (by decide) (by decide) (by decide) (λ_=>rfl)).less (by omega)
theorem OL(n a b:gq){ba bb:Nat}{ia ib:Inf}(ha:jR ba ia)(hb:jR bb ib):jR (ba+bb+4) (opC n a b ia ib):=λenv s=>by
 unfold opC;simp only;split
 ·exact(CW.n3 (zf a ha _ env s) (CW.n0 _ 2 1 _ (by decide) (by decide) (by decide) (by decide)) (zf b hb _ env _) (by decide) (by decide) (by decide) (by decide) (by decide)).less (by omega)
 split
 ·exact(CW.n3 (zf a ha _ env s) (zf b hb _ env _) (CW.n0 _ 2 0 _ (by decide) (by decide) (by decide) (by decide)) (by decide) (by decide) (by decide) (by decide) (by decide)).less (by omega)
 split
 ·exact(CW.n2 (ha env s) (hb env _) (by decide) (by decide) (by decide) (by decide) (by decide)).less (by omega)
 split
 ·exact(CW.n2 (zf a ha _ env s) (zf b hb _ env _) (by decide) (by decide) (by decide) (by decide) (by decide)).less (by omega)
 ·exact(CW.n2 (zf a ha _ env s) (zf b hb _ env _) (by decide) (by decide) (by decide) (by decide) (by decide)).less (by omega)
theorem zJz(n a:gq){ba:Nat}{ia:Inf}(ha:jR ba ia):jR (ba+4) (p9 n a ia):=λenv s=>by
 unfold p9;split
 ·exact(CW.n1 (zf a ha _ env s) (by decide) (by decide) (by decide) (by decide)).less (by omega)
 split
 ·exact(CW.n1 (zf a ha _ env s) (by decide) (by decide) (by decide) (by decide)).less (by omega)
 split
 ·exact(CW.n1 (ha env s) (by decide) (by decide) (by decide) (by decide)).less (by omega)
 ·exact(CW.n1 (ha env s) (by decide) (by decide) (by decide) (by decide)).less (by omega)
theorem XN:∀(l:List gq),(∀x,x∈l->jR (4*iH x) (iy L x))->∀env s,(∀c,c∈(oL L l env s).1.1->mR env.length c)/\ji (oL L l env s).1.1<=4*iT l
|[],_,env,s=>by rw[oL];exact⟨λc h=>(by cases h),by simp[ji]⟩
|n::l,h,env,s=>by
 rw[oL];simp only;have h1:=h n (by simp) env s;have h2:=XN l (λx hx=>h x (by simp[hx])) env (iy L n env s).2;have:=h1.2;have:=h2.2;refine⟨λc hc=>?_,by rw[ji,iT];omega⟩;rcases aN.1 hc with e|hc
 ·rw[e];exact h1.1
 ·exact h2.1 c hc
theorem zJA(n:gq)(h:∀x,x∈n.kids->jR (4*iH x) (iy L x)):jR (4*iH n) (qO n (oL L n.kids)):=λenv s=>by
 unfold qO;simp only;have h1:=XN L n.kids h env (if mG [] n.names=true then lI n.line n.col 8 s else s);have:=h1.2;have:=qR n;refine⟨?_,by simp only[kS];omega⟩;simp only[mR,true_and];exact⟨by decide,λh=>absurd h (by decide),λh=>absurd h (by decide),λh=>absurd h (by decide),λh=>absurd h (by decide),XL (by decide) (by decide) h1.1⟩
theorem JN{b:Nat}{j:Inf}(h:jR b j)(hb:1<=b):jR b (kN j):=λenv s=>by
 unfold kN;split
 ·exact(CW.noC _).less hb
 ·exact h env s
theorem JO(n:gq){rest:Inf}(hr:jR (4*iH n) rest)(h:∀x,x∈n.kids->jR (4*iH x) (iy L x)):jR (4*iH n) (pg L n rest):=λenv s=>by
 have:=qR n;unfold pg;split
 ·exact(CW.n0 _ 0 _ _ (by decide) (by decide) (by decide) (by decide)).less (by omega)
 split
 ·exact(CW.n0 _ 1 _ _ (by decide) (by decide) (by decide) (by decide)).less (by omega)
 split
 ·exact(CW.n0 _ 2 _ _ (by decide) (by decide) (by decide) (by decide)).less (by omega)
 split
 ·exact(CW.n0 _ 3 _ _ (by decide) (by decide) (by decide) (by decide)).less (by omega)
 split
 ·exact(CW.n0 _ 20 _ _ (by decide) (by decide) (by decide) (by decide)).less (by omega)
 split
 ·exact(zH4 L n env s).less (by omega)
 split
 ·exact zJA L n h env s
 ·exact hr env s
theorem zGM(n:gq)(h:∀x,x∈n.kids->jR (4*iH x) (iy L x)):jR (4*iH n) (iy L n):=by
 obtain⟨k,tx,nn,ln,cl,ts,ns,ks⟩:=n
 match ks,h with
 |[],h=>
  rw[JE];exact JN (JO L _ (λenv s=>(CW.noC _).less (by rw[qR];omega)) h) (by rw[qR];omega)
 |[a],h=>
  have ha:=h a (by simp[gq.kids]);have e:4*iH (gq.mk k tx nn ln cl ts ns [a])=4*iH a+4:=by simp only[iH,iT];omega
  rw[Bl];refine JN (JO L _ (λenv s=>?_) h) (by omega);rw[e];unfold Bi;split
  ·exact OH _ _ ha env s
  split
  ·exact zJy _ ha env s
  split
  ·exact OJ _ ha env s
  ·exact zJz _ _ ha env s
 |[a,b],h=>
  have ha:=h a (by simp[gq.kids]);have hb:=h b (by simp[gq.kids]);have e:4*iH (gq.mk k tx nn ln cl ts ns [a,b])=4*iH a+4*iH b+4:=by simp only[iH,iT];omega
  rw[Bn];refine JN (JO L _ (λenv s=>?_) h) (by omega);rw[e];unfold Bj;split
  ·exact zJx _ _ ha hb env s
  split
  ·exact c_call _ _ ha hb env s
  split
  ·exact zIP _ ha hb env s
  ·exact OL _ _ _ ha hb env s
 |a::b::c::l,h=>
  have e:4*iH a+4*iH b+4*iH c+4<=4*iH (gq.mk k tx nn ln cl ts ns (a::b::c::l)):=by simp only[iH,iT];omega
  rw[GI];exact JN (JO L _ ((OI a b c (h a (by simp[gq.kids])) (h b (by simp[gq.kids])) (h c (by simp[gq.kids]))).less e) h) (by omega)
mutual
theorem XO:∀n:gq,jR (4*iH n) (iy L n)
|.mk k tx nn ln cl ts ns ks=>zGM L _ (XP ks)
theorem XP:∀l:List gq,∀x,x∈l->jR (4*iH x) (iy L x)
|[],x,hx=>by cases hx
|n::l,x,hx=>by
 rcases aN.1 hx with e|hx
 ·rw[e];exact XO n
 ·exact XP l x hx
end
end
def xh(f:jh):Prop:=CW 1 120005 f.body/\f.name.size<=30000000000
theorem XQ:∀(l:List gU) (i:Nat) (s:fF),(uf l i s).size<=s.size+l.length*20010
|[],i,s=>by rw[uf];omega
|t::l,i,s=>by
 have h:=XQ l (i+1) (s++(if i=0 then bs [91]else bs [44,32])++yD t);have h2:=Np t;have h3:(if i=0 then bs [91]else bs [44,32]).size<=2:=by split<;>decide
 rw[uf,length_cons];rw[ay,ay]at h;omega
theorem zGN{L:iQ}(hG:mQ L){x:kX}(hx:kD L ⟨bs [],x.module,x.decl⟩)(hxt:x.types.length<=1000000)(s:CS)(hs:∀f,f∈s.funs->xh f):∀f,f∈(nL L x s).funs->xh f:=by
 have hd:=(GK hG hx).1;have hdn:=(GK hG hx).2;have hmn:(L.names.getD x.module.toNat (bs [])).size<=32:=by
  rw[aH];cases q:L.names[x.module.toNat]? with
  |none=>decide
  |some z=>exact hG.modNames z (ah q)
 have f0:fb (wh L x s)=fb s:=rfl;unfold nL;unfold wh at f0;simp only;generalize vX L x.module x.decl=d at*
 generalize ({s with module:=x.module,vars:=d.vars.map (·.1),wth:=x.types,e:=0}:CS)=s0 at*
 have f1:=EP (d.types.getD 0 noT) d.line d.col s0;generalize kC (d.types.getD 0 noT) d.line d.col s0=r1 at*
 have f2:=EP (d.types.getD 1 noT) d.line d.col r1.2;generalize kC (d.types.getD 1 noT) d.line d.col r1.2=r2 at*
 obtain⟨T,hT⟩:∃T,(if r2.2.e=0 then pX (kR r1.1 r2.1) d.line d.col r2.2 else(kR r1.1 r2.1,r2.2))=T:=⟨_,rfl⟩
 have p3:fb T.2=fb r2.2:=by
  rw[<-hT];split
  ·exact JG _ _ _ _
  ·rfl
 rw[hT];clear hT;obtain⟨S,hS⟩:∃S,(if x.module=L.main.module/\x.decl=L.main.decl/\A8 (bT 1) r1.1=false then lI d.line d.col 14 T.2 else T.2)=S:=⟨_,rfl⟩
 have p4:fb S=fb T.2:=by
  rw[<-hS];split
  ·exact Ns _ _ _ _
  ·rfl
 rw[hS];clear hS;have p5:=XO L d.body [(d.param,r1.1)] S;have f5:=JJ L d.body [(d.param,r1.1)] S;generalize iy L d.body [(d.param,r1.1)] S=y at*
 have p6:=p5.coerce y.1.2 r2.1 d.body.line d.body.col y.2;have f6:=Nt y.1.1 y.1.2 r2.1 d.body.line d.body.col y.2;generalize lF y.1.1 y.1.2 r2.1 d.body.line d.body.col y.2=z at*
 have f:fb z.2=fb s:=by rw[f6,f5,p4,p3,f2,f1,f0]
 have g1:z.2.funs=s.funs:=dL (·.1) f;have hsz:CW 1 120005 z.1:=p6.less (by have:=hd.size;omega);have key:∀nm:fF,nm.size<=30000000000->∀f,f∈z.2.funs++[(⟨nm,T.1,z.1⟩:jh)]->xh f:=λnm hnm f hf=>by
  rw[g1]at hf;rcases aK.1 hf with hf|hf
  ·exact hs f hf
  ·rw[aL.1 hf];exact⟨hsz,hnm⟩
 have hn1:=XQ x.types 0 (L.names.getD x.module.toNat (bs [])++bs [46]++d.name);have hb1:(bs [46]).size=1:=rfl;have hb2:(bs [93]).size=1:=rfl;have hn2:(if 0<x.types.length then uf x.types 0 (L.names.getD x.module.toNat (bs [])++bs [46]++d.name)++bs [93]else uf x.types 0 (L.names.getD x.module.toNat (bs [])++bs [46]++d.name)).size<=30000000000:=by
  rw[ay,ay]at hn1;split
  ·rw[ay];omega
  ·omega
 split
 ·exact key _ hn2
 ·exact key _ hn2
theorem XR{L:iQ}(hG:mQ L):∀(n i:Nat) (s:CS),i+n<=257->w9 L s i->(∀f,f∈s.funs->xh f)->(∀f,f∈(pK L n i s).funs->xh f)/\(pK L n i s).funs.length<=257
|0,i,s,hi,h,hf=>by rw[pK];exact⟨hf,by have:=h.funs;omega⟩
| n+1,i,s,hi,h,hf=>by
 rw[pK];split
 ·rename_i q;have hm:s.tab.getD i ⟨0,0,[]⟩∈s.tab:=by
   rw[aH,aA q];exact aO q
  have h1:=h.ist _ hm;exact XR hG n (i+1) _ (by omega) (JK hG h1.1 h1.2 (by omega) h) (zGN hG h1.1 h1.2 s hf)
 ·exact⟨hf,by have:=h.funs;omega⟩
theorem JP(L:iQ)(i:Nat):∀(l:List jZ) (k:Nat) (s:CS),(vB L i l k s).1.funs=s.funs
|[],k,s=>by rw[vB]
| d::l,k,s=>by
 rw[vB];split
 ·exact JP L i l (k+1) s
 ·simp only;split
  ·rfl
  ·rw[JP L i l (k+1)]
theorem OM(L:iQ):∀(l:List jW) (i:Nat) (s:CS),(sF L l i s).1.funs=s.funs
|[],i,s=>by rw[sF]
|m::l,i,s=>by
 rw[sF];split
 ·exact JP L i m.decs 0 s
 ·rw[OM L l,JP]
theorem XT(L:iQ):w9 L cs0 0:=⟨by simp[cs0],by simp[cs0],by simp[cs0],by simp[cs0],by simp[cs0]⟩
def yt(p:lZ):Prop:=(∀f,f∈p.funs->xh f)/\p.funs.length<=257
theorem zCi{L:iQ}(hG:mQ L):yt (Ac L).1:=by
 have n0:yt yF:=⟨λf h=>(by cases h),by decide⟩
 unfold Ac;simp only;split
 ·exact n0
 split
 ·exact n0
 ·have h0:=OB L.mods 0 cs0 (by simp) (XT L);have h:=XR hG 257 0 (sF L L.mods 0 cs0).1 (by omega) h0 (by rw[OM];intro f hf;cases hf);exact h
theorem zz7(l:List (fF × fF)):yt (vE l).1:=by
 have n0:yt yF:=⟨λf h=>(by cases h),by decide⟩
 unfold vE;split
 ·exact n0
 simp only;split
 ·exact n0
 ·exact zCi (Nr l (by omega))
end Go.Gr
namespace Go.Gr
open Go.Abs Go.Proofs
def XU:MC:=(λx(_:x=gC tt [(7,0)] [] [] (gB Tryz.f39))=>x) _ (by dsimp[Tryz.f39])
theorem zq9:WM Pg 39 8 XU [.tmp 2]:=wM gz Tryz.func39 (by kernel_rfl)
def XV:MC:=(λx(_:x=gC tt [(7,0)] [] [] (gB Tryz.f18))=>x) _ (by dsimp[Tryz.f18])
theorem zry:WM Pg 18 8 XV [.tmp 2]:=wM gz Tryz.func18 (by kernel_rfl)
end Go.Gr
