/- Texts of ours, joined and written short by a program of ours. -/
import Derived.Test.YtlfjlokfciejnaaGreatDoorFJ12
import Derived.Test.YtlfjlokfciejnaaGreatDoorFJ09
import Derived.Test.YtlfjlokfciejnaaGreatDoorFJ11
set_option maxRecDepth 20000
set_option maxHeartbeats 4000000
set_option linter.unusedVariables false
set_option linter.unusedSimpArgs false
namespace Go.Gr
open Go.Abs Go.Proofs List
theorem NR(t:gT):(xu t).size<=20000:=by
 unfold xu;split
 ·rename_i h;have a:=AZ t false (zR h);have b:=FN h;omega
 ·simp
def vW(l:List Tok):Prop:=∀t,t∈l->t.kind=1->t.text.size<=32
theorem zF2(l:List UInt8)(h:(il l).e=0)(k:(il l).kind=1):(il l).text.length<=32:=by
 match l with
 |[]=>simp[il,lK]at h
 | c ::r=>
  rw[il]at h k⊢;split at h
  ·rename_i c1;rw[aC c1]at k⊢;split at h
   ·simp[lK]at h
   ·rename_i c2;rw[aB c2];simp only[bI];omega
  ·rename_i c1;rw[aB c1]at k;split at k
   ·split at k
    ·simp at k
    ·simp[lK]at k
   split at k
   ·split at k
    ·simp[lK]at k
    ·split at k
     ·simp[lK]at k
     ·simp at k
   split at k
   ·simp[lK]at k
   ·simp at k
theorem WX:∀(n:Nat) (l:List UInt8) (a b:Int) (ts:List Tok),vW ts->vW (oO n l a b ts).1
|0,l,a,b,ts,h=>by rw[oO];exact h
| n+1,l,a,b,ts,h=>by
 rw[oO];simp only;split
 ·intro t ht k;rcases aQ.1 ht with ht|ht
  ·exact h t ht k
  ·simp only[aL]at ht;subst ht;simp at k
 generalize l.drop (iU false l)=l' at*
 have go:(il l').e=0->vW (oO n (l'.drop (il l').len) (pX (l.take (iU false l)) a b).1 ((pX (l.take (iU false l)) a b).2+(il l').len) (ts++[⟨(il l').kind,bA (il l').text,(pX (l.take (iU false l)) a b).1,(pX (l.take (iU false l)) a b).2⟩])).1:=λe0=>by
  refine WX n _ _ _ _ ?_;intro t ht k;rcases aQ.1 ht with ht|ht
  ·exact h t ht k
  ·simp only[aL]at ht;subst ht;simp only at k⊢;have:=zF2 l' e0 k;show(bA (il l').text).size<=32;rw[TL];exact this
 have nil:∀d:iR,vW (([]:List Tok),d).1:=λd t ht=>by cases ht
 by_cases q:(il l').e=0/\ts.length=8192
 ·rw[aC q,aC (by decide)];exact nil _
 ·rw[aB q];by_cases e0:(il l').e=0
  ·rw[aB (λz=>z e0)];exact go e0
  ·rw[aC e0];exact nil _
theorem zF3(s:fE):vW (lC s).1:=by
 unfold lC;split
 ·intro t ht;cases ht
 ·exact WX _ _ _ _ _ (λt ht=>by cases ht)
theorem zF4{L:List Tok}(h:vW L)(p:PS):(jB L p).1.size<=32:=by
 unfold jB;split
 ·rename_i c;have:iG L p∈L:=by
   unfold iG at c⊢;rw[aH]at c⊢;cases q:L[p.at']? with
   |none=>rw[q]at c;simp[xm]at c
   |some t=>exact af q
  exact h _ this c.2
 ·simp
theorem WY{L:List Tok}(h:vW L):∀(n:Nat) (l:List jS) (p:PS),(∀d,d∈l->d.name.size<=32)->∀d,d∈(rU L n l p).1->d.name.size<=32
|0,l,p,hl,d,hd=>by rw[rU]at hd;exact hl d hd
| n+1,l,p,hl,d,hd=>by
 rw[rU]at hd;split at hd
 ·refine WY h n _ _ (λx hx=>?_) d hd;rcases aQ.1 hx with hx|hx
  ·exact hl x hx
  ·simp only[aL]at hx;subst hx;unfold rT;exact zF4 h _
 ·exact hl d hd
theorem zDj(s:fE):∀d,d∈(qL s).1.decs->d.name.size<=32:=λd hd=>by
 unfold qL at hd;simp only at hd;split at hd
 ·cases hd
 split at hd
 ·cases hd
 ·exact WY (zF3 s) _ _ _ (λx hx=>by cases hx) d hd
theorem WZ:∀(l:List (fE × fE)) (i:Nat) (ns:List fE) (ms:List jP) (bad:List iR),(∀m,m∈ms->∀d,d∈m.decs->sw d/\d.name.size<=32)->
 (∀m,m∈(qy l i ns ms bad).1.2->∀d,d∈m.decs->sw d/\d.name.size<=32)
|[],i,ns,ms,bad,h=>by rw[qy];exact h
| s::l,i,ns,ms,bad,h=>by
 rw[qy];refine WZ l _ _ _ _ λm hm=>?_;rcases aQ.1 hm with hm|hm
 ·exact h m hm
 ·simp only[aL]at hm;subst hm;exactλd hd=>⟨zEh s.2 d hd,zDj s.2 d hd⟩
theorem W9:∀(l:List (fE × fE)) (i:Nat) (ns:List fE) (ms:List jP) (bad:List iR),bad.length<=(qy l i ns ms bad).2.length/\((qy l i ns ms bad).2.length=0->(∀n,n∈ns->n.size<=32)->∀n,n∈(qy l i ns ms bad).1.1->n.size<=32)
|[],i,ns,ms,bad=>by rw[qy];exact⟨aM _,λ_ h=>h⟩
| s::l,i,ns,ms,bad=>by
 rw[qy];have r:=W9 l (i+1) (ns++[s.1]) (ms++[(qL s.2).1]) (if mY s.1=false then bad++[⟨i,1,1,10⟩]else if 0<=ji ns s.1 then bad++[⟨i,1,1,8⟩]else if(qL s.2).2.e≠0 then bad++[⟨i,(qL s.2).2.line,(qL s.2).2.col,(qL s.2).2.e⟩]else bad);by_cases c:mY s.1=false
 ·rw[aC c]at r⊢;have:=r.1;rw[aX]at this;simp only[length_cons,length_nil]at this;exact⟨by omega,λq=>by omega⟩
 ·refine⟨ak ?_ r.1,λq h=>r.2 q λn hn=>?_⟩
  ·rw[aB c];split
   ·simp
   split
   ·simp
   ·exact aM _
  ·rcases aQ.1 hn with hn|hn
   ·exact h n hn
   ·simp only[aL]at hn;subst hn;exact M4 (by simpa using c)
def rY(ms:List jP)(e:iy):Prop:=0<=e.module/\e.module<ms.length/\0<=e.decl/\e.decl<(ms.getD e.module.toNat oP).decs.length
theorem EC{α:Type}(q:α->Bool)(l:List α):fi q 0 l= -1\/(0<=fi q 0 l/\fi q 0 l<l.length):=by
 have:=FX q 0 l;omega
theorem Ik(ms:List jP)(m i:Int)(h0:0<=m)(h1:m<ms.length)(x:je):∀(l:List fE) (sc:List iy) (bad:List iR),(∀e,e∈sc->rY ms e)->∀e,e∈(oQ (ms.getD m.toNat oP) m i x l sc bad).1->rY ms e
|[],sc,bad,h=>by rw[oQ];exact h
| s::l,sc,bad,h=>by
 rw[oQ];split
 ·exact Ik ms m i h0 h1 x l _ _ h
 rename_i c;split
 ·exact Ik ms m i h0 h1 x l _ _ h
 refine Ik ms m i h0 h1 x l _ _ λe he=>?_;rcases aQ.1 he with he|he
 ·exact h e he
 ·simp only[aL]at he;subst he;have a:=EC (λd:jS=>decide (d.name=s)) (ms.getD m.toNat oP).decs;have b:¬tV (ms.getD m.toNat oP) s<0:=λz=>c (.inl z);unfold tV at b;unfold rY tV;simp only;omega
theorem Wd(ns:List fE)(ms:List jP)(hn:ns.length=ms.length)(i:Int):∀(l:List je) (sc:List iy) (bad:List iR),(∀e,e∈sc->rY ms e)->∀e,e∈(zM ns ms i l sc bad).1->rY ms e
|[],sc,bad,h=>by rw[zM];exact h
| x::l,sc,bad,h=>by
 rw[zM];refine Wd ns ms hn i l _ _ ?_;unfold xw;split
 ·exact h
 ·rename_i c;have a:=EC (λn=>decide (n=x.from_)) ns;unfold ji at c⊢;exact Ik ms _ i (by omega) (by omega) x _ _ _ h
theorem NS(ms:List jP)(i:Nat)(hi:i<ms.length):∀(l:List jS) (k:Nat) (sc:List iy) (bad:List iR),k+l.length<=(ms.getD i oP).decs.length->(∀e,e∈sc->rY ms e)->∀e,e∈(yY i l k sc bad).1->rY ms e
|[],k,sc,bad,hk,h=>by rw[yY];exact h
| d::l,k,sc,bad,hk,h=>by
 rw[yY];simp only[length_cons]at hk;split
 ·exact NS ms i hi l (k+1) _ _ (by omega) h
 refine NS ms i hi l (k+1) _ _ (by omega) λe he=>?_;rcases aQ.1 he with he|he
 ·exact h e he
 ·simp only[aL]at he;subst he;unfold rY;simp only[bB];omega
theorem We(ns:List fE)(ms:List jP)(hn:ns.length=ms.length):∀(l:List jP) (i:Nat) (all:List (List iy)) (bad:List iR),l=ms.drop i->all.length=i->i<=ms.length->(∀sc,sc∈all->∀e,e∈sc->rY ms e)->
 (uj ns ms l i all bad).1.length=ms.length/\∀sc,sc∈(uj ns ms l i all bad).1->∀e,e∈sc->rY ms e
|[],i,all,bad,hl,ha,hi,h=>by
 rw[uj];have:(ms.drop i).length=0:=by rw[<-hl];try rfl
 rw[dN]at this;exact⟨by simp only;omega,h⟩
| m::l,i,all,bad,hl,ha,hi,h=>by
 have hlt:i<ms.length:=by
  by_cases q:i<ms.length
  ·exact q
  ·rw[dx (by omega)]at hl;cases hl
 rw[aD hlt]at hl;have h1:=(List.cons.inj hl).1;have h2:=(List.cons.inj hl).2;have hm:ms.getD i oP=m:=by rw[aH,aA hlt,h1];try rfl
 rw[uj];refine We ns ms hn l (i+1) _ _ h2 (by simp;omega) (by omega) λsc hsc=>?_;rcases aQ.1 hsc with hsc|hsc
 ·exact h sc hsc
 ·simp only[aL]at hsc;subst hsc;exact NS ms i hlt m.decs 0 _ _ (by rw[hm];omega) (Wd ns ms hn i m.imps [] bad λe he=>by cases he)
structure mG (L:iN):Prop where
 good:nZ L
 decs:∀m,m∈L.mods->∀d,d∈m.decs->sw d
 decNames:∀m,m∈L.mods->∀d,d∈m.decs->d.name.size<=32
 modNames:∀n,n∈L.names->n.size<=32
 small:∀m,m∈L.mods->lN m
 main:jq L ⟨bs [],L.main.module,L.main.decl⟩
theorem NT(l:List (fE × fE))(h:(yZ l).2.length=0):mG (yZ l).1:=by
 have hs:=Uv l [];have hg:∀m,m∈(uP l).1.2->∀d,d∈m.decs->sw d/\d.name.size<=32:=by
  unfold uP;split
  ·intro m hm;cases hm
  ·exact WZ l 0 [] [] [] λm hm=>by cases hm
 have hb:(uP l).2.length=0->∀n,n∈(uP l).1.1->n.size<=32:=by
  unfold uP;split
  ·intro q;simp at q
  ·exactλq=>(W9 l 0 [] [] []).2 q λn hn=>by cases hn
 unfold yZ at h⊢;simp only at h⊢;generalize uP l=f at*
 have hn:f.1.1.length=f.1.2.length:=hs.2.1;have s1:=We f.1.1 f.1.2 hn f.1.2 0 [] [] (by simp) rfl (by omega) (λsc hsc=>by cases hsc);generalize uj f.1.1 f.1.2 f.1.2 0 [] []=s at*
 generalize zP f.1.1 f.1.2 f.1.2 0 []=t at*
 by_cases c1:0<f.2.length
 ·rw[aC c1]at h;simp only at h;omega
 rw[aB c1]at h⊢;by_cases c2:0<s.2.length
 ·rw[aC c2]at h;simp only at h;omega
 rw[aB c2]at h⊢;by_cases c3:0<t.length
 ·rw[aC c3]at h;simp only at h;omega
 rw[aB c3]at h⊢;by_cases c4:ji f.1.1 vO<0
 ·rw[aC c4]at h;simp at h
 rw[aB c4]at h⊢;by_cases c5:tV (f.1.2.getD (ji f.1.1 vO).toNat oP) vO<0
 ·rw[aC c5]at h;simp at h
 rw[aB c5]at h⊢;split
 ·rename_i c6;rw[aC c6]at h;simp at h
 have a:=EC (λn=>decide (n=vO)) f.1.1;have b:=EC (λd:jS=>decide (d.name=vO)) (f.1.2.getD (ji f.1.1 vO).toNat oP).decs;refine⟨⟨hs.1,hn,s1.1,λm hm d hd=>⟨(hg m hm d hd).1.types,by have:=(hg m hm d hd).1.vars;omega⟩,λsc hsc e he=>?_⟩,λm hm d hd=>(hg m hm d hd).1,λm hm d hd=>(hg m hm d hd).2,hb (by omega),hs.2.2,?_⟩
 ·have:=s1.2 sc hsc e he;exact⟨this.1,this.2.1,this.2.2.1,this.2.2.2⟩
 ·unfold ji at c4 c5 b⊢;unfold tV at c5⊢;refine⟨?_,?_,?_,?_⟩<;>simp only<;>omega
end Go.Gr
namespace Go.Gr
open Go.Abs Go.Proofs
theorem zIH(l:List (fE × fE)):gU Pg 15 [.one (.sl false 2 (l.map lM))] (.one (.bool (decide (l.length<=20)&&qC l 0))):=by
 refine zFE (by simp) λo c hN hp=>?_;obtain⟨R,hR⟩:∃R,(decide (l.length<=20)&&qC l 0)=R:=⟨_,rfl⟩
 rw[hR];unfold Vl;simp;apply gM<;>intro h
 ·have h:¬l.length<=20:=by simp at h;omega
  simp[h]at hR;simp[hR]
 have h:l.length<=20:=by simp at h;omega
 simp[h]at hR;refine fO gy hp (λY:Nat × Nat=>Y.1<=l.length/\Y.2<=70000/\qC (l.drop Y.1) Y.2=R) (λY=>[(4,.c (.d (.int .i64 Y.1))),(3,.c (.d (.int .i64 Y.2))),(0,.c (.d (.sl false 2 (l.map lM))))]) (λ_=>[]) (λY=>l.length-Y.1) (0,0) [] ⟨by simp,by simp,by simpa using hR⟩ (by simp) λ⟨j,n⟩ ⟨i1,i2,i3⟩=>?_;unfold Vk;simp only at i1 i2 i3;simp;apply gM<;>intro h
 ·have hj:j<l.length:=by simpa using h
  obtain⟨s,hs⟩:∃s,l[j]=s:=⟨_,rfl⟩
  rw[aD hj,hs,qC]at i3;have hw:=wI (n:=(j:Int)+1);have hw2:=wI (n:=(70000:Int)-n);by_cases c1:(70000:Int)-n<s.2.size
  ·rw[aC (.inl c1)]at i3;simp[hj,hs,hw2,c1,<-i3]
  by_cases c2:(1000:Int)<s.1.size
  ·rw[aC (.inr (by omega))]at i3;simp[hj,hs,hw2,c1,c2,<-i3]
  rw[aB (λz=>z.elim c1 (λz=>c2 (by omega)))]at i3;have hw3:=wI (n:=(n:Int)+s.2.size);simp[hj,hs,hw2,c1,c2];refine fF (j+1,n+s.2.size) [] ⟨by simp only;omega,by simp only;omega,by simpa using i3⟩ (by simp only;omega) ?_;simp[hw,hw3]
 ·have hj:j=l.length:=by simp at h;omega
  subst hj;rw[aO,qC]at i3;simp[<-i3]
def fb(s:CS):List jb × List iR:=(s.funs,s.bad)
@[simp] theorem NU(a b e:Int)(s:CS):fb (ky a b e s)=fb s:=by unfold ky;split<;>rfl
@[simp] theorem ED(t:gT)(a b:Int)(s:CS):fb (jo t a b s).2=fb s:=by unfold jo;simp only;split<;>simp
@[simp] theorem Il(t:gT)(a b:Int)(s:CS):fb (pF t a b s).2=fb s:=by unfold pF;simp only;split<;>simp
@[simp] theorem zK7(x:gu)(t u:gT)(a b:Int)(s:CS):fb (mF x t u a b s).2=fb s:=by unfold mF;split<;>rfl
@[simp] theorem NV(x:gu)(t u:gT)(a b:Int)(s:CS):fb (ko x t u a b s).2=fb s:=by
 unfold ko;split
 ·rfl
 split
 ·rfl
 split<;>simp
@[simp] theorem zLm(u:gT)(a b:Int)(x:(gu × gT) × CS):fb (kV u a b x).2=fb x.2:=by unfold kV;split<;>simp
@[simp] theorem zIi(a b:Int):∀(ts l:List gT) (s:CS),fb (sF a b ts l s).2=fb s
|[],l,s=>by rw[sF]
|t::ts,l,s=>by
 rw[sF];split
 ·rfl
 ·rw[zIi a b ts];simp
@[simp] theorem zLn(s:CS)(t:List kS):fb {s with tab:=t}=fb s:=rfl
section
variable (L:iN)
@[simp] theorem zJ0(a b:Int)(e:iy)(l:List gT)(s:CS):fb (sZ L a b e l s).2=fb s:=by
 unfold sZ;split
 ·simp
 ·simp only;split<;>simp
def jQ(i:Inf):Prop:=∀env s,fb (i env s).2=fb s
theorem NW(n:gp){i:Inf}(h:jQ i)(t:gT)(env:Env)(s:CS):fb (nI n i t env s).2=fb s:=by unfold nI;simp[h env s]
theorem zIj(n:gp):jQ (xM L n):=λenv s=>by
 unfold xM;simp only;repeat' split
 all_goals simp
theorem zJK(n a:gp){ia ib:Inf}(ha:jQ ia)(hb:jQ ib):jQ (pG n a ia ib):=λenv s=>by
 unfold pG;simp only;split<;>simp[ha _ _,hb _ _]
theorem NY(n a:gp){ia:Inf}(ha:jQ ia):jQ (xN n a ia):=λenv s=>by
 unfold xN;simp only;repeat' split
 all_goals simp[ha _ _]
theorem zI6(n b:gp){ia ib:Inf}(ha:jQ ia)(hb:jQ ib):jQ (xO n b ia ib):=λenv s=>by
 unfold xO;simp only;repeat' split
 all_goals simp[ha _ _,hb _ _]
theorem zJL(n:gp){ia:Inf}(ha:jQ ia):jQ (pI n ia):=λenv s=>by
 unfold pI;simp only;repeat' split
 all_goals simp[ha _ _]
theorem zI7(n:gp){ia ib:Inf}(ha:jQ ia)(hb:jQ ib):jQ (xP n ia ib):=λenv s=>by
 unfold xP;simp only;repeat' split
 all_goals simp[ha _ _,hb _ _]
theorem NZ(q a b:gp){iq ia ib:Inf}(hq:jQ iq)(ha:jQ ia)(hb:jQ ib):jQ (xQ q a b iq ia ib):=λenv s=>by
 unfold xQ;simp[hq _ _,ha _ _,hb _ _]
theorem N7(n:gp){ia:Inf}(ha:jQ ia):jQ (xR n ia):=λenv s=>by
 unfold xR;simp only;repeat' split
 all_goals simp[ha _ _]
theorem N8(n a b:gp){ia ib:Inf}(ha:jQ ia)(hb:jQ ib):jQ (opC n a b ia ib):=λenv s=>by
 unfold opC;simp only;repeat' split
 all_goals simp[NW _ ha,NW _ hb,ha _ _,hb _ _]
theorem zJM(n a:gp){ia:Inf}(ha:jQ ia):jQ (pJ n a ia):=λenv s=>by
 unfold pJ;repeat' split
 all_goals simp[NW _ ha,ha _ _]
theorem Wh:∀(l:List gp),(∀x,x∈l->jQ (ig L x))->∀env s,fb (oC L l env s).2=fb s
|[],_,env,s=>by rw[oC]
|n::l,h,env,s=>by
 rw[oC];simp only;rw[Wh l (λx hx=>h x (by simp[hx])),h n (by simp) env s]
theorem zJN(n:gp)(h:∀x,x∈n.kids->jQ (ig L x)):jQ (qB n (oC L n.kids)):=λenv s=>by
 unfold qB;simp only;rw[Il,Wh L n.kids h];split<;>simp
theorem Im{j:Inf}(h:jQ j):jQ (kI j):=λenv s=>by
 unfold kI;split
 ·rfl
 ·exact h env s
theorem Io(n:gp){rest:Inf}(hr:jQ rest)(h:∀x,x∈n.kids->jQ (ig L x)):jQ (pK L n rest):=λenv s=>by
 unfold pK;split
 ·rfl
 split
 ·rfl
 split
 ·rfl
 split
 ·rfl
 split
 ·rfl
 split
 ·exact zIj L n env s
 split
 ·exact zJN L n h env s
 ·exact hr env s
theorem zG9(n:gp)(h:∀x,x∈n.kids->jQ (ig L x)):jQ (ig L n):=by
 obtain⟨k,tx,nn,ln,cl,ts,ns,ks⟩:=n
 match ks,h with
 |[],h=>rw[Ij];exact Im (Io L _ (λenv s=>rfl) h)
 |[a],h=>
  have ha:=h a (by simp[gp.kids]);rw[BX];refine Im (Io L _ (λenv s=>?_) h);unfold BU;split
  ·exact NY _ _ ha env s
  split
  ·exact zJL _ ha env s
  split
  ·exact N7 _ ha env s
  ·exact zJM _ _ ha env s
 |[a,b],h=>
  have ha:=h a (by simp[gp.kids]);have hb:=h b (by simp[gp.kids]);rw[BZ];refine Im (Io L _ (λenv s=>?_) h);unfold BV;split
  ·exact zJK _ _ ha hb env s
  split
  ·exact zI6 _ _ ha hb env s
  split
  ·exact zI7 _ ha hb env s
  ·exact N8 _ _ _ ha hb env s
 |a::b::c::l,h=>
  rw[Fh];exact Im (Io L _ (NZ a b c (h a (by simp[gp.kids])) (h b (by simp[gp.kids])) (h c (by simp[gp.kids]))) h)
mutual
theorem Ip:∀n:gp,jQ (ig L n)
|.mk k tx nn ln cl ts ns ks=>zG9 L _ (Wi ks)
theorem Wi:∀l:List gp,∀x,x∈l->jQ (ig L x)
|[],x,hx=>by cases hx
|n::l,x,hx=>by
 rcases aN.1 hx with e|hx
 ·rw[e];exact Ip n
 ·exact Wi l x hx
end
end
end Go.Gr
namespace Go.Gr
open Go.Abs Go.Proofs List
theorem Fp{L:iN}(hG:mG L){m k:Int}(h:jq L ⟨bs [],m,k⟩):sw (vP L m k)/\(vP L m k).name.size<=32:=by
 obtain⟨mn,kn,M,e1,e2,g1,g2,_⟩:=F6 hG.good h;exact⟨hG.decs M (af g1) _ (af g2),hG.decNames M (af g1) _ (af g2)⟩
structure wR (L:iN) (s:CS) (i:Nat):Prop where
 tab:s.tab.length<=256
 ist:∀x,x∈s.tab->jq L ⟨bs [],x.module,x.decl⟩/\x.types.length<=1000000
 sites:s.sites.length+(257-i)*240009<=1000000000
 funs:s.funs.length<=i
 bad:s.bad.length<=i
def wS(L:iN)(x:kS)(s0:CS):CS:={s0 with module:=x.module,vars:=(vP L x.module x.decl).vars.map (·.1),wth:=x.types,e:=0}
theorem Wj{L:iN}{x:kS}(hx:jq L ⟨bs [],x.module,x.decl⟩)(hxt:x.types.length<=1000000){s:CS}{i:Nat}(hi:i<257)(h:wR L s i):kz L (wS L x s) (8*30001+1+(257-(i+1))*240009):=by
 have a:=h.sites;have b:=h.funs;have c:=h.bad;refine⟨hxt,?_,h.tab,hx.m0,hx.m1,⟨?_,?_⟩,h.ist⟩
 ·have e:(wS L x s).sites=s.sites:=rfl;have q:s.sites.length+(8*30001+1+(257-(i+1))*240009)<=1000000000:=by
   obtain⟨k,hk⟩:∃k,257-i=k+1:=⟨256-i,by omega⟩
   have hk2:257-(i+1)=k:=by omega
   rw[hk]at a;rw[hk2,show 8*30001+1=240009 from rfl];clear h hx hxt;generalize s.sites.length=n at*
   omega
  simp only[e];exact q
 ·have e:(wS L x s).funs=s.funs:=rfl;simp only[e];omega
 ·have e:(wS L x s).bad=s.bad:=rfl;simp only[e];omega
theorem Iq{L:iN}(hG:mG L){x:kS}(hx:jq L ⟨bs [],x.module,x.decl⟩)(hxt:x.types.length<=1000000){s:CS}{i:Nat}(hi:i<257)(h:wR L s i):wR L (nA L x s) (i+1):=by
 have hd:=(Fp hG hx).1;have p0:=Wj hx hxt hi h;have f0:fb (wS L x s)=fb s:=rfl;have hf:=h.funs;have hb:=h.bad;unfold nA;unfold wS at p0 f0;simp only;generalize vP L x.module x.decl=d at*
 generalize ({s with module:=x.module,vars:=d.vars.map (·.1),wth:=x.types,e:=0}:CS)=s0 at*
 have p1:=wQ p0 (d.types.getD 0 noT) d.line d.col;have f1:=ED (d.types.getD 0 noT) d.line d.col s0;generalize jo (d.types.getD 0 noT) d.line d.col s0=r1 at*
 have p2:=wQ p1.1 (d.types.getD 1 noT) d.line d.col;have f2:=ED (d.types.getD 1 noT) d.line d.col r1.2;generalize jo (d.types.getD 1 noT) d.line d.col r1.2=r2 at*
 obtain⟨T,hT⟩:∃T,(if r2.2.e=0 then pF (kM r1.1 r2.1) d.line d.col r2.2 else(kM r1.1 r2.1,r2.2))=T:=⟨_,rfl⟩
 have p3:kz L T.2 (8*30001+1+(257-(i+1))*240009)/\fb T.2=fb r2.2:=by
  rw[<-hT];split
  ·exact⟨(F7 p2.1 _ _ _).1,Il _ _ _ _⟩
  ·exact⟨p2.1,rfl⟩
 rw[hT];clear hT;obtain⟨S,hS⟩:∃S,(if x.module=L.main.module/\x.decl=L.main.decl/\AJ (bT 1) r1.1=false then ky d.line d.col 14 T.2 else T.2)=S:=⟨_,rfl⟩
 have p4:kz L S (8*30001+1+(257-(i+1))*240009)/\fb S=fb T.2:=by
  rw[<-hS];split
  ·exact⟨vV p3.1 _ _ _,NU _ _ _ _⟩
  ·exact⟨p3.1,rfl⟩
 rw[hS];clear hS;have hne:rX [(d.param,r1.1)] (iF d.body):=⟨by have:=hd.size;simp only[length_cons,length_nil];omega,λv hv=>by simp only[aL]at hv;subst hv;exact p1.2⟩
 have p5:=(NM L hG.good d.body hd.body).2 [(d.param,r1.1)] S (1+(257-(i+1))*240009) hne (p4.1.less (by have:=hd.size;omega));have f5:=Ip L d.body [(d.param,r1.1)] S;generalize ig L d.body [(d.param,r1.1)] S=y at*
 have p6:=xX (b:=(257-(i+1))*240009) (p5.1.less (by omega)) y.1.1 y.1.2 r2.1 d.body.line d.body.col;have f6:=NV y.1.1 y.1.2 r2.1 d.body.line d.body.col y.2;generalize ko y.1.1 y.1.2 r2.1 d.body.line d.body.col y.2=z at*
 have f:fb z.2=fb s:=by rw[f6,f5,p4.2,p3.2,f2,f1,f0]
 have g1:z.2.funs=s.funs:=dO (·.1) f;have g2:z.2.bad=s.bad:=dO (·.2) f;split
 ·exact⟨p6.tab,p6.ist,p6.sites,by simp[g1];omega,by simp[g2];omega⟩
 ·exact⟨p6.tab,p6.ist,p6.sites,by simp[g1];omega,by show z.2.bad.length<=_;rw[g2];omega⟩
theorem N9{L:iN}(i:Nat)(hi:i<L.mods.length):∀(l:List jS) (k:Nat) (s:CS),k+l.length<=(L.mods.getD i oP).decs.length->wR L s 0->wR L (uk L i l k s).1 0
|[],k,s,hk,h=>by rw[uk];exact h
| d::l,k,s,hk,h=>by
 simp only[length_cons]at hk;rw[uk];split
 ·exact N9 i hi l (k+1) s (by omega) h
 have hx:∀x,x∈(kX 256 s.tab ⟨i,k,[]⟩).2->jq L ⟨bs [],x.module,x.decl⟩/\x.types.length<=1000000:=λx hx=>by
  rcases Mx hx with hx|hx
  ·exact h.ist x hx
  ·subst hx;exact⟨⟨by simp only;omega,by simp only;omega,by simp only;omega,by simp only[bB];omega⟩,by simp⟩
 simp only;split
 ·exact⟨Ih h.tab _,hx,h.sites,h.funs,h.bad⟩
 ·exact N9 i hi l (k+1) _ (by omega) ⟨Ih h.tab _,hx,h.sites,h.funs,h.bad⟩
theorem Na{L:iN}:∀(l:List jP) (i:Nat) (s:CS),l=L.mods.drop i->wR L s 0->wR L (rW L l i s).1 0
|[],i,s,hl,h=>by rw[rW];exact h
| m::l,i,s,hl,h=>by
 have hlt:i<L.mods.length:=by
  by_cases q:i<L.mods.length
  ·exact q
  ·rw[dx (by omega)]at hl;cases hl
 rw[aD hlt]at hl;have h1:=(List.cons.inj hl).1;have hm:L.mods.getD i oP=m:=by rw[aH,aA hlt,h1];try rfl
 have r:=N9 i hlt m.decs 0 s (by rw[hm];omega) h;rw[rW];split
 ·exact r
 ·exact Na l (i+1) _ (List.cons.inj hl).2 r
section
variable (L:iN)
abbrev ck9(s:CS):List Blk:=[uT L s 6 7 8,xW 256 s.tab.length 9,.dead,.dead,.dead,.dead,oV s.funs,q9 s.sites,lq s.bad,oF s.tab]
theorem Wl(l:List gT)(i:Nat)(s:fE)(h:i<l.length):uQ (l.drop i) i s=uQ (l.drop (i+1)) (i+1) (s++(if i=0 then bs [91]else bs [44,32])++xu l[i]):=by
 rw[aD h,uQ]
abbrev Nb(L:iN)(s:CS)(vD wD:D)(tb a b d:Nat):Blk:=.box [.d (.sl false 1 (encS L.names)),.d (.sl false 2 (L.mods.map jP.enc)),.d (.sl false 1 (L.scopes.map qZ)),.d (.str L.main.name),.d (.int .i64 L.main.module),.d (.int .i64 L.main.decl),.ptr tb 0,.msl 13 a 0 s.funs.length,.d (.int .i64 s.main),.msl 3 b 0 s.sites.length,.msl 4 d 0 s.bad.length,.d (.int .i64 s.module),.d vD,.d wD,.d (.int .i64 s.e),.d (.int .i64 s.line),.d (.int .i64 s.col)]
abbrev ck5(L:iN)(s:CS)(vD wD:D):List Blk:=[Nb L s vD wD 1 2 3 4,xW 256 s.tab.length 5,oV s.funs,q9 s.sites,lq s.bad,oF s.tab]
theorem Wm(a b:Int):(gp.mk 0 (bs []) 0 a b [] [] []).enc=[.int .i64 0,.str (bs []),.int .i64 0,.int .i64 a,.int .i64 b,.sl false 4 [],.sl false 1 [],.sl false 8 []]:=rfl
@[simp] theorem cut_body(d:jS):cut (d.enc.map AC.d) 5 8=d.body.enc.map AC.d:=by
 obtain⟨a,b,c,e,f,g,h,i⟩:=d;cases g;rfl
abbrev Wn(z:fE):List AC:=[.d (.str z),.d (.int .i64 0),.d (.str (bs [])),.d (.sl true 1 []),.d (.sl true 4 []),.d (.int .i64 0),.d (.int .i64 0),.d (.str (bs [])),.d (.sl true 1 []),.d (.sl true 1 []),.d (.sl true 4 []),.d (.sl true 5 []),.d (.sl true 8 [])]
theorem Ir(z:fE)(T:gT):13<=(splice (Wn z) 1 (T.enc.map AC.d)).length:=by
 rw[Az];exact aM _
theorem Iu(z:fE)(T:gT)(b:gu):put (splice (Wn z) 1 (T.enc.map AC.d)) 5 (b.enc.map AC.d)=(jb.enc ⟨z,T,b⟩).map AC.d:=by
 unfold jb.enc;rw[T.enc_eq,b.enc_eq];try rfl
abbrev Fq(L:iN)(s:CS)(P:List Blk)(d:jS)(a b T:gT)(E:List Blk):List Blk:=qc L s++(P++[.box (d.enc.map .d),.box [.d (.int .i64 0),.d (.str (bs [])),.d (.int .i64 0),.d (.int .i64 d.line),.d (.int .i64 d.col),.d (.sl true 4 []),.d (.sl true 1 []),.d (.sl true 8 [])],.box (a.enc.map .d),.box (b.enc.map .d),.dead,.box (T.enc.map .d)]++E)
theorem St.cut{F:St->Prop}{t:List (Nat × AV)}{m:Hp}{n:Nat}(ts:List (Nat × AV))(bs:List Blk)(ht:∀p,p∈ts->Abs.look t p.1=p.2)(hm:∀i,m i=hpOf bs i)(h:∀T,(∀p,p∈ts->Abs.look T p.1=p.2)->F ⟨T,hpOf bs,n⟩):F ⟨t,m,n⟩:=by
 have e:m=hpOf bs:=funext hm;subst e;exact h t ht
abbrev Fs(X:kS)(j:Nat)(z:fE):List (Nat × AV):=[(13,.c (.d (.int .i64 j))),(12,.c (.d (.str z))),(10,.c (.ptr 7 0)),(8,.c (.ptr 6 0)),(3,.c (.d (.rp X.enc 0))),(0,.c (.ptr 0 0))]
abbrev Fu(L:iN)(s:CS)(P:List Blk)(T:gT)(z:gu):List Blk:=[uT L s 2 8 3,xW 256 s.tab.length 9,oV s.funs,lq s.bad]++(P++[.box (T.enc.map .d),.box (z.enc.map .d),q9 s.sites,oF s.tab])
theorem zBc(hF:mG L)(X:kS)(hX:jq L ⟨bs [],X.module,X.decl⟩)(hXt:X.types.length<=1000000)(s0:CS)(vD wD:D)(k:Nat)(hs:kz L (wS L X s0) (8*30001+1+k)):
  MCall Pg 34 [.c (.ptr 0 0),.ag (X.enc.map .d)] (ck5 L s0 vD wD) (.tup []) (ck9 L (nA L X s0)):=by
 refine zy3 lZ λts hts ok hbk c hN hp=>?_;obtain⟨t,u,v,w,x,y,rfl⟩:=mM hts;have hdG:=(Fp hF hX).1;have hdn:=(Fp hF hX).2;obtain⟨mn,kn,M,e1,e2,g1,g2,hd⟩:=F6 hF.good hX;have hb1:=ku 1;unfold nA;unfold wS at hs;simp only;generalize hdd:vP L X.module X.decl=d at*
 have hv:=Vy d hd.vars;obtain⟨ta,tb,hty⟩:=Mw hd.types;have e3:d.types.getD 0 noT=ta:=by rw[hty];try rfl
 have e4:d.types.getD 1 noT=tb:=by rw[hty];try rfl
 rw[e3,e4];obtain⟨s,hss⟩:∃s:CS,{s0 with module:=X.module,vars:=d.vars.map (·.1),wth:=X.types,e:=0}=s:=⟨_,rfl⟩
 have m1:=Cn L ta d.line d.col s (by rw[<-hss]at*;exact hs.wth);rw[hss]at hs⊢;have p1:=wQ hs ta d.line d.col;generalize jo ta d.line d.col s=r1 at*
 have m2:=Cn L tb d.line d.col r1.2 p1.1.wth;have p2:=wQ p1.1 tb d.line d.col;generalize jo tb d.line d.col r1.2=r2 at*
 unfold Ve;have b0:qc L s=qc L {s0 with module:=X.module,vars:=d.vars.map (·.1),wth:=X.types,e:=0}:=by rw[hss]
 rw[b0]at m1;simp[e1,e2,g1,g2];refine⟨by decide,?_⟩;refine gQ hv ?_;simp[hty];refine gP [0,1,2,3,4,5] m1 (by simp[e1]) ?_;simp[hty];refine⟨by decide,?_⟩;refine gN [0,1,2,3,4,5] m2 ?_;simp;refine⟨by decide,?_⟩;have hfits:=Ui (bT 1) r1.1;generalize AJ (bT 1) r1.1=ft at*
 have mm:=MCall.erd (args:=[.c (.ptr 0 0),.ag [.d (.int .i64 6),.d (.str (bs [])),.d (.sl true 1 []),.d (.sl false 4 [r1.1.enc,r2.1.enc])],.ag [.d (.int .i64 0),.d (.str (bs [])),.d (.int .i64 0),.d (.int .i64 d.line),.d (.int .i64 d.col),.d (.sl true 4 []),.d (.sl true 1 []),.d (.sl true 8 [])]]) (Co L (kM r1.1 r2.1) (.mk 0 (bs []) 0 d.line d.col [] [] []) r2.2) (by simp[AV.erds,AV.erd,AC.erd,D.erd,D.erdL,D.erdE,kM,su,nJ,vT,encS,gp.enc,gp.encs,Wm]);simp only[gp.line,gp.col]at mm;have pm:=F7 p2.1 (kM r1.1 r2.1) d.line d.col;have fin:∀q:CS,kz L q (8*30001+1+k)->MCall Pg 57 [.c (.ptr 0 0),.ag [.d (.int .i64 0),.d (.str (bs [])),.d (.int .i64 0),.d (.int .i64 d.line),.d (.int .i64 d.col),.d (.sl true 4 []),.d (.sl true 1 []),.d (.sl true 8 [])],.c (.d (.int .i64 14))] (qc L q) (.tup []) (qc L (ky d.line d.col 14 q))/\kz L (ky d.line d.col 14 q) (8*30001+1+k):=λq hq=>⟨MCall.erd (vE L (.mk 0 (bs []) 0 d.line d.col [] [] []) 14 q) (by simp[AV.erds,AV.erd,AC.erd,D.erd,D.erdL,D.erdE,encS,Wm]),vV hq _ _ _⟩
 have hne:rX [(d.param,r1.1)] (iF d.body):=⟨by have:=hdG.size;simp;omega,λv hv=>by simp at hv;subst hv;exact p1.2⟩
 have hi:=NM L hF.good d.body hdG.body;have minf:∀q:CS,kz L q (8*30001+1+k)->MCall Pg 58 [.c (.ptr 0 0),.ag (d.body.enc.map .d),.c (.d (.sl true 5 [.str d.param::r1.1.enc]))] (qc L q) (F8 (ig L d.body [(d.param,r1.1)] q).1.1 (ig L d.body [(d.param,r1.1)] q).1.2) (Ig L (ig L d.body [(d.param,r1.1)] q).2)/\kz L (ig L d.body [(d.param,r1.1)] q).2 (1+k):=λq hq=>⟨MCall.erd (hi.1 [(d.param,r1.1)] q (1+k) hne (hq.less (by have:=hdG.size;omega))) (by simp[AV.erds,AV.erd,AC.erd,D.erd,D.erdL,D.erdE,iZ]),(hi.2 [(d.param,r1.1)] q (1+k) hne (hq.less (by have:=hdG.size;omega))).1⟩
 have hnm:∃nm,L.names.getD X.module.toNat (bs [])=nm/\L.names[mn]?=some nm:=by
  rw[e1];simp only[bB];have:mn<L.names.length:=by have:=hF.good.names;have:=hX.m1;simp only at this;omega
  exact⟨L.names[mn],by rw[aH,aA this];rfl,aA this⟩
 obtain⟨nm,hnm1,hnm2⟩:=hnm;have hnz:=hF.modNames nm (af hnm2);rw[hnm1];obtain⟨R,hR⟩:∃R,uQ X.types 0 (nm++bs [46]++d.name)=R:=⟨_,rfl⟩
 rw[hR];by_cases q0:r2.2.e=0
 ·rw [aC q0];generalize pF (kM r1.1 r2.1) d.line d.col r2.2=T at*
  simp[q0];refine fT [16] ?_;simp[iV];refine gP [0,1,2,3,4,5] mm (by simp[q0]) ?_;simp;refine fU [] ?_;simp;refine gQ hb1 ?_;simp;refine gQ hfits ?_;simp;refine⟨by decide,?_⟩;refine fT [] ?_;simp only[Hf,Hm,aC,aB,reduceIte,Nat.reduceEqDiff,E8,ww,Blk.fz_arr,Hd,yw];refine St.cut (F:=w_ Pg c _ _ _) [(0,.c (.ptr 0 0)),(3,.c (.d (.rp X.enc 0))),(4,.c (.ptr 12 0)),(5,.c (.ptr 13 0)),(6,.c (.ptr 14 0)),(7,.c (.ptr 15 0)),(8,.c (.ptr 17 0)),(9,.c (.d (.bool ft)))] (Fq L T.2 [.pin t 0,.pin u 1,.pin v 2,.pin w 3,.pin x 4,.pin y 5] d r1.1 r2.1 (T.1) []) ?_ ?_ λT' hT=>?_
  ·simp[iV]
  ·intro i;by_cases q:i<18
   ·rcases(show i=0\/i=1\/i=2\/i=3\/i=4\/i=5\/i=6\/i=7\/i=8\/i=9\/i=10\/i=11\/i=12\/i=13\/i=14\/i=15\/i=16\/i=17 from by omega)with rfl|rfl|rfl|rfl|rfl|rfl|rfl|rfl|rfl|rfl|rfl|rfl|rfl|rfl|rfl|rfl|rfl|rfl<;>simp[iV]
   ·refine Eq.trans (b:=Blk.non) ?_ (wK (by simp;omega)).symm;try simp[show i≠0 from by omega,show i≠1 from by omega,show i≠2 from by omega,show i≠3 from by omega,show i≠4 from by omega,show i≠5 from by omega,show i≠6 from by omega,show i≠7 from by omega,show i≠8 from by omega,show i≠9 from by omega,show i≠10 from by omega,show i≠11 from by omega,show i≠12 from by omega,show i≠13 from by omega,show i≠14 from by omega,show i≠15 from by omega,show i≠16 from by omega,show i≠17 from by omega]
    rw[wK (show 12<=i from by omega)];try rfl
  simp only[forall_mem_cons,dE,false_implies,implies_true,and_true]at hT;obtain⟨l0,l3,l4,l5,l6,l7,l8,l9⟩:=hT;simp[l0,l3,l4,l5,l6,l7,l8,l9];have P5:=pm.1;generalize T.1=Ty at*
  generalize T.2=S2 at*
  obtain⟨S5,pa,hS5⟩:∃S5,kz L S5 (8*30001+1+k)/\(if X.module=L.main.module/\X.decl=L.main.decl/\ft=false then ky d.line d.col 14 S2 else S2)=S5:=by
   split
   ·exact⟨_,(fin S2 P5).2,rfl⟩
   ·exact⟨_,P5,rfl⟩
  rw[hS5];by_cases cm:X.module=L.main.module;rotate_left;rw[aB (λz=>cm z.1)]at hS5;subst hS5;simp[cm,l0,l3,l4,l5,l6,l7,l8,l9];refine⟨by decide,?_⟩;generalize S2=S5 at*
  rotate_left;by_cases cd:X.decl=L.main.decl;rotate_left;rw[aB (λz=>cd z.2.1)]at hS5;subst hS5;simp[cm,cd,l0,l3,l4,l5,l6,l7,l8,l9];refine⟨by decide,?_⟩;generalize S2=S5 at*
  rotate_left;rotate_left;by_cases cf:ft=true;rw[aB (λz=>by rw[cf]at z;simp at z)]at hS5;subst hS5;simp[cm,cd,cf,l0,l3,l4,l5,l6,l7,l8,l9];refine⟨by decide,?_⟩;generalize S2=S5 at*
  rotate_left;rw[aC ⟨cm,cd,by simpa using cf⟩]at hS5;have ma:=(fin S2 P5).1;rw[hS5]at ma;simp[cm,cd,cf,l0,l3,l4,l5,l6,l7,l8,l9];refine⟨by decide,?_⟩;refine gP [0,1,2,3,4,5] ma (by simp[l0,l3,l4,l5,l6,l7,l8,l9]) ?_;simp[l0,l3,l4,l5,l6,l7,l8,l9]
  all_goals
   have mi:=(minf S5 pa).1;have pi:=(minf S5 pa).2;generalize ig L d.body [(d.param,r1.1)] (S5)=r3 at*
   have mc:=yg L r3.1.1 r3.1.2 r2.1 d.body r3.2 (by have:=pi.sites;omega);have pc:=xX (b:=k) (pi.less (by omega)) r3.1.1 r3.1.2 r2.1 d.body.line d.body.col;generalize ko r3.1.1 r3.1.2 r2.1 d.body.line d.body.col r3.2=r4 at*
   refine gP [0,1,2,3,4,5] mi (by simp[l0,l3,l4,l5,l6,l7,l8,l9]) ?_;simp[l0,l3,l4,l5,l6,l7,l8,l9];refine gP [0,1,2,18,4,19] mc (by simp[l0,l3,l4,l5,l6,l7,l8,l9]) ?_;simp[e1,hnm2,l0,l3,l4,l5,l6,l7,l8,l9];refine⟨by unfold zah;omega,by unfold zah;omega,by decide,?_⟩;refine fO gy hp (λY:Nat × fE=>Y.1<=X.types.length/\Y.2.size<=100+Y.1*20010/\uQ (X.types.drop Y.1) Y.1 Y.2=R) (λY=>Fs X Y.1 Y.2) (λ_=>Fu L r4.2 [.pin t 0,.pin u 1] Ty r4.1) (λY=>X.types.length-Y.1) (0,nm++bs [46]++d.name) [0,1,2,4,6,7,17,20,22,19] ⟨by simp,by simp only[ax,AY,length_cons,length_nil];omega,by simpa using hR⟩ (by simp[l0,l3,l4,l5,l6,l7,l8,l9]) λ⟨j,z⟩ ⟨i1,i3,i2⟩=>?_;unfold Mo;simp only at i1 i3 i2;simp;apply gM<;>intro h
   ·have hj:j<X.types.length:=by simpa using h
    rw[Wl _ _ _ hj]at i2;obtain⟨q,hq⟩:∃q,X.types[j]=q:=⟨_,rfl⟩
    rw[hq]at i2;have hw:=wrap_i64 (n:=(j:Int)+1) (by have:=hXt;omega) (by have:=hXt;omega);have hsq:=NR q;by_cases j0:j=0
    ·subst j0;simp[hj,hq];refine⟨by unfold zah;omega,?_⟩;refine gQ (I7 q) ?_;simp;refine⟨by unfold zah;omega,?_⟩;refine fF (0+1,z++bs [91]++xu q) [0,1,2,3,4,5,6,7,8,9] ⟨by simp only;omega,by simp only[ax,AY,length_cons,length_nil];omega,by simpa using i2⟩ (by simp only;omega) ?_;simp[show IntKind.i64.wrap 1=1 from by decide]
    ·rw[aB j0]at i2;simp[hj,hq,j0];refine⟨by unfold zah;omega,?_⟩;refine gQ (I7 q) ?_;simp;refine⟨by unfold zah;omega,?_⟩;refine fF (j+1,z++bs [44,32]++xu q) [0,1,2,3,4,5,6,7,8,9] ⟨by simp only;omega,by simp only[ax,AY,length_cons,length_nil];omega,i2⟩ (by simp only;omega) ?_;simp[hw]
   have hj:j=X.types.length:=by simp at h;omega
   subst hj;rw[aO,uQ]at i2;subst i2;have hfew:=pc.few;have tf:(r4.2.funs.map ((λx=>List.map AC.d x)∘jb.enc)).take r4.2.funs.length=r4.2.funs.map ((λx=>List.map AC.d x)∘jb.enc):=aG (by simp);have td:(r4.2.bad.map ((λx=>List.map AC.d x)∘iR.enc)).take r4.2.bad.length=r4.2.bad.map ((λx=>List.map AC.d x)∘iR.enc):=aG (by simp);by_cases l0:0<X.types.length
   ·rw[aC l0];simp[l0,Ir,Iu,jb.enc_length];refine⟨by unfold zah;omega,by omega,by decide,?_⟩;by_cases qe:r4.2.e=0
    ·simp[qe];exact fI [0,1,4,5,6,7,10,8,3,9] [4,5,4,4,4,4] (by simp[AV.erds,AV.erd,iR.enc,tf,td])
    ·simp[qe];refine⟨by omega,by decide,?_⟩;exact fI [0,1,4,5,6,7,10,8,11,9] [4,5,4,4,4,4] (by simp[AV.erds,AV.erd,iR.enc,tf,td])
   ·rw[aB l0];simp[l0,Ir,Iu,jb.enc_length];refine⟨by omega,by decide,?_⟩;by_cases qe:r4.2.e=0
    ·simp[qe];exact fI [0,1,4,5,6,7,10,8,3,9] [4,5,4,4,4,4] (by simp[AV.erds,AV.erd,iR.enc,tf,td])
    ·simp[qe];refine⟨by omega,by decide,?_⟩;exact fI [0,1,4,5,6,7,10,8,11,9] [4,5,4,4,4,4] (by simp[AV.erds,AV.erd,iR.enc,tf,td])
 ·rw [aB q0];simp[q0];refine fU [.c 17 2] ?_;simp;refine gQ hb1 ?_;simp;refine gQ hfits ?_;simp;refine⟨by decide,?_⟩;refine fT [16,18] ?_;simp only[Hf,Hm,aC,aB,reduceIte,Nat.reduceEqDiff,E8,ww,Blk.fz_arr,Hd,yw,rH,QE];refine St.cut (F:=w_ Pg c _ _ _) [(0,.c (.ptr 0 0)),(3,.c (.d (.rp X.enc 0))),(4,.c (.ptr 12 0)),(5,.c (.ptr 13 0)),(6,.c (.ptr 14 0)),(7,.c (.ptr 15 0)),(8,.c (.ptr 17 0)),(9,.c (.d (.bool ft)))] (Fq L r2.2 [.pin t 0,.pin u 1,.pin v 2,.pin w 3,.pin x 4,.pin y 5] d r1.1 r2.1 (kM r1.1 r2.1) [.dead]) ?_ ?_ λT' hT=>?_
  ·simp[iV]
  ·intro i;by_cases q:i<19
   ·rcases(show i=0\/i=1\/i=2\/i=3\/i=4\/i=5\/i=6\/i=7\/i=8\/i=9\/i=10\/i=11\/i=12\/i=13\/i=14\/i=15\/i=16\/i=17\/i=18 from by omega)with rfl|rfl|rfl|rfl|rfl|rfl|rfl|rfl|rfl|rfl|rfl|rfl|rfl|rfl|rfl|rfl|rfl|rfl|rfl<;>simp[iV,kM,su]
   ·refine Eq.trans (b:=Blk.non) ?_ (wK (by simp;omega)).symm;try simp[show i≠0 from by omega,show i≠1 from by omega,show i≠2 from by omega,show i≠3 from by omega,show i≠4 from by omega,show i≠5 from by omega,show i≠6 from by omega,show i≠7 from by omega,show i≠8 from by omega,show i≠9 from by omega,show i≠10 from by omega,show i≠11 from by omega,show i≠12 from by omega,show i≠13 from by omega,show i≠14 from by omega,show i≠15 from by omega,show i≠16 from by omega,show i≠17 from by omega,show i≠18 from by omega]
    rw[wK (show 12<=i from by omega)];try rfl
  simp only[forall_mem_cons,dE,false_implies,implies_true,and_true]at hT;obtain⟨l0,l3,l4,l5,l6,l7,l8,l9⟩:=hT;simp[l0,l3,l4,l5,l6,l7,l8,l9];have P5:=p2.1;generalize kM r1.1 r2.1=Ty at*
  generalize r2.2=S2 at*
  obtain⟨S5,pa,hS5⟩:∃S5,kz L S5 (8*30001+1+k)/\(if X.module=L.main.module/\X.decl=L.main.decl/\ft=false then ky d.line d.col 14 S2 else S2)=S5:=by
   split
   ·exact⟨_,(fin S2 P5).2,rfl⟩
   ·exact⟨_,P5,rfl⟩
  rw[hS5];by_cases cm:X.module=L.main.module;rotate_left;rw[aB (λz=>cm z.1)]at hS5;subst hS5;simp[cm,l0,l3,l4,l5,l6,l7,l8,l9];refine⟨by decide,?_⟩;generalize S2=S5 at*
  rotate_left;by_cases cd:X.decl=L.main.decl;rotate_left;rw[aB (λz=>cd z.2.1)]at hS5;subst hS5;simp[cm,cd,l0,l3,l4,l5,l6,l7,l8,l9];refine⟨by decide,?_⟩;generalize S2=S5 at*
  rotate_left;rotate_left;by_cases cf:ft=true;rw[aB (λz=>by rw[cf]at z;simp at z)]at hS5;subst hS5;simp[cm,cd,cf,l0,l3,l4,l5,l6,l7,l8,l9];refine⟨by decide,?_⟩;generalize S2=S5 at*
  rotate_left;rw[aC ⟨cm,cd,by simpa using cf⟩]at hS5;have ma:=(fin S2 P5).1;rw[hS5]at ma;simp[cm,cd,cf,l0,l3,l4,l5,l6,l7,l8,l9];refine⟨by decide,?_⟩;refine gP [0,1,2,3,4,5] ma (by simp[l0,l3,l4,l5,l6,l7,l8,l9]) ?_;simp[l0,l3,l4,l5,l6,l7,l8,l9]
  all_goals
   have mi:=(minf S5 pa).1;have pi:=(minf S5 pa).2;generalize ig L d.body [(d.param,r1.1)] (S5)=r3 at*
   have mc:=yg L r3.1.1 r3.1.2 r2.1 d.body r3.2 (by have:=pi.sites;omega);have pc:=xX (b:=k) (pi.less (by omega)) r3.1.1 r3.1.2 r2.1 d.body.line d.body.col;generalize ko r3.1.1 r3.1.2 r2.1 d.body.line d.body.col r3.2=r4 at*
   refine gP [0,1,2,3,4,5] mi (by simp[l0,l3,l4,l5,l6,l7,l8,l9]) ?_;simp[l0,l3,l4,l5,l6,l7,l8,l9];refine gP [0,1,2,19,4,20] mc (by simp[l0,l3,l4,l5,l6,l7,l8,l9]) ?_;simp[e1,hnm2,l0,l3,l4,l5,l6,l7,l8,l9];refine⟨by unfold zah;omega,by unfold zah;omega,by decide,?_⟩;refine fO gy hp (λY:Nat × fE=>Y.1<=X.types.length/\Y.2.size<=100+Y.1*20010/\uQ (X.types.drop Y.1) Y.1 Y.2=R) (λY=>Fs X Y.1 Y.2) (λ_=>Fu L r4.2 [.pin t 0,.pin u 1] Ty r4.1) (λY=>X.types.length-Y.1) (0,nm++bs [46]++d.name) [0,1,2,4,6,7,17,21,23,20] ⟨by simp,by simp only[ax,AY,length_cons,length_nil];omega,by simpa using hR⟩ (by simp[l0,l3,l4,l5,l6,l7,l8,l9]) λ⟨j,z⟩ ⟨i1,i3,i2⟩=>?_;unfold Mo;simp only at i1 i3 i2;simp;apply gM<;>intro h
   ·have hj:j<X.types.length:=by simpa using h
    rw[Wl _ _ _ hj]at i2;obtain⟨q,hq⟩:∃q,X.types[j]=q:=⟨_,rfl⟩
    rw[hq]at i2;have hw:=wrap_i64 (n:=(j:Int)+1) (by have:=hXt;omega) (by have:=hXt;omega);have hsq:=NR q;by_cases j0:j=0
    ·subst j0;simp[hj,hq];refine⟨by unfold zah;omega,?_⟩;refine gQ (I7 q) ?_;simp;refine⟨by unfold zah;omega,?_⟩;refine fF (0+1,z++bs [91]++xu q) [0,1,2,3,4,5,6,7,8,9] ⟨by simp only;omega,by simp only[ax,AY,length_cons,length_nil];omega,by simpa using i2⟩ (by simp only;omega) ?_;simp[show IntKind.i64.wrap 1=1 from by decide]
    ·rw[aB j0]at i2;simp[hj,hq,j0];refine⟨by unfold zah;omega,?_⟩;refine gQ (I7 q) ?_;simp;refine⟨by unfold zah;omega,?_⟩;refine fF (j+1,z++bs [44,32]++xu q) [0,1,2,3,4,5,6,7,8,9] ⟨by simp only;omega,by simp only[ax,AY,length_cons,length_nil];omega,i2⟩ (by simp only;omega) ?_;simp[hw]
   have hj:j=X.types.length:=by simp at h;omega
   subst hj;rw[aO,uQ]at i2;subst i2;have hfew:=pc.few;have tf:(r4.2.funs.map ((λx=>List.map AC.d x)∘jb.enc)).take r4.2.funs.length=r4.2.funs.map ((λx=>List.map AC.d x)∘jb.enc):=aG (by simp);have td:(r4.2.bad.map ((λx=>List.map AC.d x)∘iR.enc)).take r4.2.bad.length=r4.2.bad.map ((λx=>List.map AC.d x)∘iR.enc):=aG (by simp);by_cases l0:0<X.types.length
   ·rw[aC l0];simp[l0,Ir,Iu,jb.enc_length];refine⟨by unfold zah;omega,by omega,by decide,?_⟩;by_cases qe:r4.2.e=0
    ·simp[qe];exact fI [0,1,4,5,6,7,10,8,3,9] [4,5,4,4,4,4] (by simp[AV.erds,AV.erd,iR.enc,tf,td])
    ·simp[qe];refine⟨by omega,by decide,?_⟩;exact fI [0,1,4,5,6,7,10,8,11,9] [4,5,4,4,4,4] (by simp[AV.erds,AV.erd,iR.enc,tf,td])
   ·rw[aB l0];simp[l0,Ir,Iu,jb.enc_length];refine⟨by omega,by decide,?_⟩;by_cases qe:r4.2.e=0
    ·simp[qe];exact fI [0,1,4,5,6,7,10,8,3,9] [4,5,4,4,4,4] (by simp[AV.erds,AV.erd,iR.enc,tf,td])
    ·simp[qe];refine⟨by omega,by decide,?_⟩;exact fI [0,1,4,5,6,7,10,8,11,9] [4,5,4,4,4,4] (by simp[AV.erds,AV.erd,iR.enc,tf,td])
end
abbrev Wo(L:iN)(i:Nat):List (Nat × AV):=[(5,.c (.d (.int .i64 i))),(4,.c (.ptr 2 0)),(2,.c (.ptr 0 0)),(1,.c (.d (.rp L.enc 0)))]
abbrev Wp(L:iN)(s:CS):List Blk:=[.box [.d (.sl true 13 []),.d (.int .i64 0),.d (.sl true 3 [])],.box [.d (.int .i64 256),.msl 3 6 0 s.tab.length],Nb L s (.sl true 1 []) (.sl true 4 []) 1 3 4 5,oV s.funs,q9 s.sites,lq s.bad,oF s.tab]
abbrev Nc(i:Nat):List (Nat × AV):=[(10,.c (.d (.int .i64 i))),(4,.c (.ptr 2 0)),(2,.c (.ptr 0 0))]
abbrev Nf(L:iN)(s:CS)(vD wD:D):List Blk:=[.box [.d (.sl true 13 []),.d (.int .i64 0),.d (.sl true 3 [])],.box [.d (.int .i64 256),.msl 3 6 0 s.tab.length],Nb L s vD wD 1 3 4 5,oV s.funs,q9 s.sites,lq s.bad,oF s.tab]
theorem zIK(a0 a1 a2 a3 a4 a5 a6 a7 a8 a9 a10 a11 a12 a13 a14 a15 a16:AC):cut [a0,a1,a2,a3,a4,a5,a6,a7,a8,a9,a10,a11,a12,a13,a14,a15,a16] 7 3=[a7,a8,a9]:=rfl
theorem zIL(L:iN):put (splice [.d (.sl true 1 []),.d (.sl true 2 []),.d (.sl true 1 []),.d (.str (bs [])),.d (.int .i64 0),.d (.int .i64 0),.d (.sc (.pointer none)),.d (.sl true 13 []),.d (.int .i64 0),.d (.sl true 3 []),.d (.sl true 4 []),.d (.int .i64 0),.d (.sl true 1 []),.d (.sl true 4 []),.d (.int .i64 0),.d (.int .i64 0),.d (.int .i64 0)] 0 (L.enc.map AC.d)) 6 [AC.ptr 1 0]=[.d (.sl false 1 (encS L.names)),.d (.sl false 2 (L.mods.map jP.enc)),.d (.sl false 1 (L.scopes.map qZ)),.d (.str L.main.name),.d (.int .i64 L.main.module),.d (.int .i64 L.main.decl),.ptr 1 0,.d (.sl true 13 []),.d (.int .i64 0),.d (.sl true 3 []),.d (.sl true 4 []),.d (.int .i64 0),.d (.sl true 1 []),.d (.sl true 4 []),.d (.int .i64 0),.d (.int .i64 0),.d (.int .i64 0)]:=rfl
theorem zGv(L:iN)(hG:mG L):gU Pg 17 [.agg L.enc] (.tup [.agg (AQ L).1.enc,.one (.sl false 4 ((AQ L).2.map iR.enc))]):=by
 refine zCq (by simp) λo c hN hp=>?_;obtain⟨R,hR⟩:∃R,AQ L=R:=⟨_,rfl⟩
 rw[hR];unfold AQ at hR;unfold Vi;simp;refine fU [.c 2 7,.c 2 9,.c 2 10,.c 1 1] ?_;simp[zIL];refine fO gy hp (λY:Nat × CS=>Y.1<=L.mods.length/\wR L Y.2 0/\Y.2.funs=[]/\Y.2.sites=[]/\Y.2.bad=[]/\Y.2.module=0/\Y.2.e=0/\Y.2.line=0/\Y.2.col=0/\rW L (L.mods.drop Y.1) Y.1 Y.2=rW L L.mods 0 cs0) (λY=>Wo L Y.1) (λY=>Wp L Y.2) (λY=>L.mods.length-Y.1) (0,cs0) [0,1,2,3,4,5,6] ⟨by simp,⟨by simp[cs0],by simp[cs0],by simp[cs0],by simp[cs0],by simp[cs0]⟩,rfl,rfl,rfl,rfl,rfl,rfl,rfl,by simp⟩ (by simp[cs0]) λ⟨i,S⟩ ⟨i1,i2,i3,i4,i5,i6,i7,i8,i9,i10⟩=>?_;unfold Vg;simp only at i1 i2 i3 i4 i5 i6 i7 i8 i9 i10;simp;apply gM<;>intro h
 ·have hi:i<L.mods.length:=by simpa using h
  obtain⟨m,hm⟩:∃m,L.mods[i]=m:=⟨_,rfl⟩
  rw[aD hi,hm,rW]at i10;simp[hi,hm];refine fO gy hp (λY:Nat × CS=>Y.1<=m.decs.length/\wR L Y.2 0/\Y.2.funs=[]/\Y.2.sites=[]/\Y.2.bad=[]/\Y.2.module=0/\Y.2.e=0/\Y.2.line=0/\Y.2.col=0/\(if 0<(uk L i (m.decs.drop Y.1) Y.1 Y.2).2.length then uk L i (m.decs.drop Y.1) Y.1 Y.2 else rW L (L.mods.drop (i+1)) (i+1) (uk L i (m.decs.drop Y.1) Y.1 Y.2).1)=rW L L.mods 0 cs0) (λY=>(6,.c (.d (.int .i64 Y.1)))::Wo L i) (λY=>Wp L Y.2) (λY=>m.decs.length-Y.1) (0,S) [0,1,2,3,4,5,6] ⟨by simp,i2,i3,i4,i5,i6,i7,i8,i9,by simpa using i10⟩ (by simp) λ⟨k,S2⟩ ⟨j1,j2,j3,j4,j5,j6,j7,j8,j9,j10⟩=>?_;unfold Vf;simp only at j1 j2 j3 j4 j5 j6 j7 j8 j9 j10;have hmi:L.mods[i]?=some m:=by rw[aA hi,hm]
  simp[hi,hm];apply gM<;>intro h
  ·have hk:k<m.decs.length:=by simpa using h
   obtain⟨d,hd⟩:∃d,m.decs[k]=d:=⟨_,rfl⟩
   rw[aD hk,hd,uk]at j10;have hdl:=(hG.small m (af hmi)).decs;have hw:=wI (n:=(k:Int)+1);by_cases c0:0<d.vars.length
   ·rw[aC c0]at j10;simp[hi,hm,hk,hd,c0];refine fF (k+1,S2) [0,1,2,3,4,5,6] ⟨by simp only;omega,j2,j3,j4,j5,j6,j7,j8,j9,j10⟩ (by simp only;omega) ?_;simp[hw]
   rw[aB c0]at j10;have hx:∀x,x∈(kX 256 S2.tab ⟨i,k,[]⟩).2->jq L ⟨bs [],x.module,x.decl⟩/\x.types.length<=1000000:=λx hx=>by
    have hm2:L.mods.getD i oP=m:=by rw[aH,hmi];try rfl
    rcases Mx hx with hx|hx
    ·exact j2.ist x hx
    ·subst hx;exact⟨⟨by simp only;omega,by simp only;omega,by simp only;omega,by simp only[bB];rw[hm2];omega⟩,by simp⟩
   have hx2:=Ih j2.tab ⟨i,k,[]⟩;have le4:L.enc[4]?=some (D.int .i64 L.main.module):=rfl;have le5:L.enc[5]?=some (D.int .i64 L.main.decl):=rfl;have ma:=MCall.erd (args:=[.c (.ptr 0 0),.ag [.d (.int .i64 i),.d (.int .i64 k),.d (.sl true 4 [])]]) (Vu 256 S2.tab (by have:=j2.tab;omega) ⟨i,k,[]⟩ (by simp)) (by simp[AV.erds,AV.erd,AC.erd,D.erd,D.erdL,D.erdE,kS.enc]);generalize kX 256 S2.tab ⟨i,k,[]⟩=r at*
   simp only at j10;by_cases r0:r.1.2=0;rotate_left
   ·simp only[aC (show r.1.2≠0 from r0)]at j10;simp at j10;rw[<-j10]at hR;simp at hR;subst hR;simp[hi,hm,hk,hd,c0];refine gP [1,6] ma (by simp[kS.enc]) ?_;simp[r0];refine⟨by decide,?_⟩;refine fT [] ?_;simp[xx,lT.enc,iR.enc];try decide
   ·simp only[aB (show¬r.1.2≠0 fromλz=>z r0)]at j10;by_cases cm:(i:Int)=L.main.module
    ·by_cases cd:(k:Int)=L.main.decl
     ·simp only[aC (show(i:Int)=L.main.module/\(k:Int)=L.main.decl from⟨cm,cd⟩)]at j10;simp[hi,hm,hk,hd,c0];refine gP [1,6] ma (by simp[kS.enc]) ?_;simp[r0,cm,cd,le4,le5];refine fF (k+1,{S2 with tab:=r.2,main:=r.1.1}) [0,1,2,3,4,5,8] ⟨by simp only;omega,⟨hx2,hx,j2.sites,j2.funs,j2.bad⟩,j3,j4,j5,j6,j7,j8,j9,j10⟩ (by simp only;omega) ?_;simp;rw[<-cd];exact hw
     ·simp only[aB (show¬((i:Int)=L.main.module/\(k:Int)=L.main.decl)fromλz=>cd z.2)]at j10;simp[hi,hm,hk,hd,c0];refine gP [1,6] ma (by simp[kS.enc]) ?_;simp[r0,cm,cd,le4,le5];refine fF (k+1,{S2 with tab:=r.2}) [0,1,2,3,4,5,8] ⟨by simp only;omega,⟨hx2,hx,j2.sites,j2.funs,j2.bad⟩,j3,j4,j5,j6,j7,j8,j9,j10⟩ (by simp only;omega) ?_;simp[hw]
    ·simp only[aB (show¬((i:Int)=L.main.module/\(k:Int)=L.main.decl)fromλz=>cm z.1)]at j10;simp[hi,hm,hk,hd,c0];refine gP [1,6] ma (by simp[kS.enc]) ?_;simp[r0,cm,le4,le5];refine fF (k+1,{S2 with tab:=r.2}) [0,1,2,3,4,5,8] ⟨by simp only;omega,⟨hx2,hx,j2.sites,j2.funs,j2.bad⟩,j3,j4,j5,j6,j7,j8,j9,j10⟩ (by simp only;omega) ?_;simp[hw]
  ·have hk:k=m.decs.length:=by simp at h;omega
   subst hk;rw[aO,uk]at j10;simp at j10;have hw:=wrap_i64 (n:=(i:Int)+1) (by have:=hG.good.few;omega) (by have:=hG.good.few;omega);refine fF (i+1,S2) [0,1,2,3,4,5,6] ⟨by simp only;omega,j2,j3,j4,j5,j6,j7,j8,j9,j10⟩ (by simp only;omega) ?_;simp[hw]
 ·have hi:i=L.mods.length:=by simp at h;omega
  subst hi;rw[aO,rW]at i10;rw[<-i10]at hR;simp only[length_nil,Nat.lt_irrefl,if_false]at hR;obtain⟨F,hF⟩:∃F,oh L 257 0 S=F:=⟨_,rfl⟩
  rw[hF]at hR;refine fO gy hp (λY:Nat × CS × D × D=>Y.1<=256/\wR L Y.2.1 Y.1/\oh L (257-Y.1) Y.1 Y.2.1=F) (λY=>Nc Y.1) (λY=>Nf L Y.2.1 Y.2.2.1 Y.2.2.2) (λY=>257-Y.1) (0,S,.sl true 1 [],.sl true 4 []) [0,1,2,3,4,5,6] ⟨by simp,i2,by simpa using hF⟩ (by simp) λ⟨j,S2,vD,wD⟩ ⟨j1,j2,j3⟩=>?_;unfold Vh;simp only at j1 j2 j3;simp;apply gM<;>intro h
  ·have hj:j<S2.tab.length:=by simpa using h
   have hjt:=j2.tab;obtain⟨X,hX⟩:∃X,S2.tab[j]=X:=⟨_,rfl⟩
   have hXm:X∈S2.tab:=hX▸aR hj;have hXi:=j2.ist X hXm;have hw:=wI (n:=(j:Int)+1);have mf:=zBc L hG X hXi.1 hXi.2 S2 vD wD ((257-(j+1))*240009) (Wj hXi.1 hXi.2 (by omega) j2);have mk:=Iq hG hXi.1 hXi.2 (by omega) j2;have e3:oh L (257-(j+1)) (j+1) (nA L X S2)=F:=by
    have e:257-j=(257-(j+1))+1:=by omega
    rw[e,oh,aC hj]at j3;rw[aH,aA hj,hX]at j3;exact j3
   generalize nA L X S2=S3 at*
   simp[hj,hX];refine gN [2,1,3,4,5,6] mf ?_;simp;refine fF (j+1,S3,.sl false 1 (encS S3.vars),.sl false 4 (S3.wth.map gT.enc)) [0,1,2,7,8,9,10] ⟨by simp only;omega,mk,e3⟩ (by simp only;omega) ?_;simp[hw]
  ·have hj:¬j<S2.tab.length:=by simpa using h
   have e3:S2=F:=by
    have e:257-j=(257-(j+1))+1:=by omega
    rw[e,oh,aB hj]at j3;exact j3
   subst e3;by_cases hb:0<S2.bad.length
   ·rw[aC hb]at hR;subst hR;simp[hb];refine⟨by decide,?_⟩;refine fT [5] ?_;simp[xx,lT.enc];exact aG (by simp)
   ·rw[aB hb]at hR;subst hR;simp[hb,zIK];refine fT [3,4] ?_;simp[lT.enc];exact⟨aG (by simp),aG (by simp)⟩
@[simp] theorem lT.enc_length(p:lT):p.enc.length=3:=rfl
@[simp] theorem lT.cut_map(p:lT):cut (p.enc.map AC.d) 0 3=p.enc.map .d:=rfl
@[simp] theorem lT.cut_enc(p:lT):cut p.enc 0 3=p.enc:=rfl
@[simp] theorem lT.er_map(p:lT):p.enc.map D.er=p.enc:=rfl
abbrev prV(r:lT × Bool):DV:=.tup [.agg r.1.enc,.one (.bool r.2)]
theorem Wq(l:List (fE × fE)):gU Pg 8 [.one (.sl false 2 (l.map lM))] (prV (ul l)):=by
 refine zAb (by simp) λo c hN hp=>?_;obtain⟨R,hR⟩:∃R,ul l=R:=⟨_,rfl⟩
 rw[hR];unfold ul at hR;have hfew:=zIH l;obtain⟨f,hf⟩:∃f,(decide (l.length<=20)&&qC l 0)=f:=⟨_,rfl⟩
 rw[hf]at hfew;unfold Vj;simp;refine gQ hfew ?_;simp;cases f with
 | false=>
  have hc:20<l.length\/qC l 0=false\/5000<si l:=by
   simp at hf;by_cases q:l.length<=20
   ·exact .inr (.inl (hf q))
   ·exact .inl (by omega)
  rw[aC hc]at hR;refine fO gy hp (λ_:Nat=>True) (λ_=>[(6,.c (.d (.int .i64 0))),(5,.c (.d (.int .i64 0))),(4,.c (.d (.bool false))),(2,.c (.ptr 0 0)),(0,.c (.d (.sl false 2 (l.map lM))))]) (λ_=>[.box [.d (.sl true 13 []),.d (.int .i64 0),.d (.sl true 3 [])]]) (λ_=>0) 0 [0] (by simp) (by simp) λj h1=>?_;unfold Mq;simp;apply gM<;>intro h
  ·subst hR;simp[xx,lT.enc]
  ·subst hR;simp[xx,lT.enc]
 | true=>
  simp at hf;have hl:=hf.1;refine fO gy hp (λY:Nat × Nat=>Y.1<=l.length/\Y.2<=70000/\qC (l.drop Y.1) Y.2=true/\(Y.2:Int)+si (l.drop Y.1)=si l) (λY=>[(6,.c (.d (.int .i64 Y.1))),(5,.c (.d (.int .i64 Y.2))),(4,.c (.d (.bool true))),(2,.c (.ptr 0 0)),(0,.c (.d (.sl false 2 (l.map lM))))]) (λ_=>[.box [.d (.sl true 13 []),.d (.int .i64 0),.d (.sl true 3 [])]]) (λY=>l.length-Y.1) (0,0) [0] ⟨by simp,by simp,by simpa using hf.2,by simp⟩ (by simp) λ⟨j,n⟩ ⟨i1,i2,i3,i4⟩=>?_;unfold Mq;simp only at i1 i2 i3 i4;simp;apply gM<;>intro h
  ·have hj:j<l.length:=by simpa using h
   obtain⟨s,hs⟩:∃s,l[j]=s:=⟨_,rfl⟩
   rw[aD hj,hs,qC]at i3;rw[aD hj,hs,si]at i4;have hw:=wI (n:=(j:Int)+1);by_cases c1:(70000:Int)-n<s.2.size\/1000<s.1.size
   ·rw[aC c1]at i3;cases i3
   rw[aB c1]at i3;have hw3:=wI (n:=(n:Int)+s.2.size);simp[hj,hs];refine fF (j+1,n+s.2.size) [0] ⟨by simp only;omega,by simp only;omega,by simpa using i3,by simp only;omega⟩ (by simp only;omega) ?_;simp[hw,hw3]
  ·have hj:j=l.length:=by simp at h;omega
   subst hj;rw[aO,si]at i4;have i5:si l=n:=by omega
   by_cases c5:(5000:Int)<n
   ·rw[aC (.inr (.inr (by omega)))]at hR;subst hR;simp[c5,xx,lT.enc]
   ·have hc:¬(20<l.length\/qC l 0=false\/5000<si l):=by
     rw[hf.2];simp;omega
    rw[aB hc]at hR;have hlk:=zHK l;have hlg:=NT l;generalize yZ l=x at*
    simp only at hR;simp[c5];refine gQ hlk ?_;simp;by_cases c6:0<x.2.length
    ·rw[aC c6]at hR;subst hR;simp[c6,xx,lT.enc]
    ·rw[aB c6]at hR;have hck:=zGv x.1 (hlg (by omega));generalize AQ x.1=y at*
     simp[c6];refine gQ hck ?_;subst hR;simp
end Go.Gr
namespace Go.Gr
open Go.Abs Go.Proofs
def Ng(l:List Int)(x:Int):List Int:=if x∈l then l else l++[x]
def Nh(l r:List Int):List Int:=r.foldl Ng l
def Fv(x:Int):List Int->List Int
|[]=>[x]
|y::l=>if x<=y then x::y::l else y::Fv x l
def Fw:List Int->List Int
|[]=>[]
|x::l=>Fv x (Fw l)
structure vX where
 name:fE
 body:gu
 caps:List Int
 deep:Int
 none:Bool
structure Flt where
 name:fE
 caps:Int
 body:gu
def Fx(x:Int):List Int->Nat->Int
|[],_=> -1
|y::l,i=>if x=y then i else Fx x l (i+1)
def Fy(t:vX)(n:Int):Int:=if t.deep<=n then n-t.deep+t.caps.length else Fx n t.caps 0
mutual
def Fz:gu->Int->List Int
|.mk k n _ _ _ _ _ ks,b=>(if k=4/\n<b then [n]else [])++Ws ks b
def Ws:List gu->Int->List Int
|[],_=>[]
|c::l,b=>Fz c b++Ws l b
end
def Wt(c:gu)(b:Int):List Int:=Fw (Nh [] (Fz c b))
mutual
def zJI(t:vX):gu->Int->List vX->gu × List vX
| .mk k n tx is ns ts cs ks=>λdeep l=>
 if k=4 then(.mk k (Fy t n) tx is ns ts cs ks,l)
 else if k=5 then
  (.mk 23 l.length (bs []) ((Wt (ks.getD 0 noC) deep).map (Fy t)) [] [] [] [],l++[⟨t.name++bs [39],ks.getD 0 noC,Wt (ks.getD 0 noC) deep,deep,false⟩])
 else(.mk k n tx is ns ts cs (Ni t k ks 0 deep l).1,(Ni t k ks 0 deep l).2)
def Ni(t:vX)(k:Int):List gu->Nat->Int->List vX->List gu × List vX
|[]=>λ_ _ l=>([],l)
|c::r=>λi deep l=>
 let x:=zJI t c (if k=18 then deep+i else deep) l;let y:=Ni t k r (i+1) deep x.2
 (x.1::y.1,y.2)
end
mutual
def kC:gu->Nat
|.mk _ _ _ _ _ _ _ ks=>1+jc ks
def jc:List gu->Nat
|[]=>0
|c::l=>kC c+jc l
end
mutual
def lQ:Nat->gu->Prop
|m,.mk k n _ _ _ ts _ ks=>k≠23/\(k=18->ks.length<=2)/\(k=21->ks.length=1/\ts.length=2)/\(k=4->0<=n/\n<m/\ks=[])/\(k=5->ks.length=1)/\jf m k ks 0
def jf:Nat->Int->List gu->Nat->Prop
|_,_,[],_=>True
|m,k,c::l,i=>lQ (if k=5 then m+1 else if k=18 then m+i else m) c/\jf m k l (i+1)
end
def CW(m b:Nat)(c:gu):Prop:=lQ m c/\kC c<=b
theorem CW.less{m b b':Nat}{c:gu}(h:CW m b c)(hb:b<=b'):CW m b' c:=⟨h.1,ak h.2 hb⟩
theorem CW.n0(m:Nat)(k n:Int)(t:fE)(h4:k≠4)(h5:k≠5)(h23:k≠23)(h21:k≠21):CW m 1 (.mk k n t [] [] [] [] []):=by
 simp[CW,lQ,jf,kC,jc,h4,h5,h23,h21]
theorem CW.n1{m b:Nat}{k n:Int}{t:fE}{ns:List fE}{ts:List gT}{c:gu}(h:CW m b c)(h4:k≠4)(h5:k≠5)(h23:k≠23)(h21:k=21->ts.length=2):CW m (b+1) (.mk k n t [] ns ts [] [c]):=by
 have:=h.2;refine⟨by simpa[lQ,jf,h4,h5,h23]using ⟨h21,h.1⟩,by simp only[kC,jc];omega⟩
theorem CW.n2{m b b':Nat}{k n:Int}{t:fE}{ns:List fE}{ts:List gT}{c d:gu}(h:CW m b c)(h':CW m b' d)(h4:k≠4)(h5:k≠5)(h18:k≠18)(h23:k≠23)(h21:k≠21):CW m (b+b'+1) (.mk k n t [] ns ts [] [c,d]):=by
 have:=h.2;have:=h'.2;refine⟨by simpa[lQ,jf,h4,h5,h18,h23,h21]using ⟨h.1,h'.1⟩,by simp only[kC,jc];omega⟩
theorem CW.n3{m b b' b'':Nat}{k n:Int}{t:fE}{ns:List fE}{ts:List gT}{c d e:gu}(h:CW m b c)(h':CW m b' d)(h'':CW m b'' e)(h4:k≠4)(h5:k≠5)(h18:k≠18)(h23:k≠23)(h21:k≠21):CW m (b+b'+b''+1) (.mk k n t [] ns ts [] [c,d,e]):=by
 have:=h.2;have:=h'.2;have:=h''.2;refine⟨by simpa[lQ,jf,h4,h5,h18,h23,h21]using ⟨h.1,h'.1,h''.1⟩,by simp only[kC,jc];omega⟩
theorem CW.noC(m:Nat):CW m 1 noC:=CW.n0 m 0 0 _ (by decide) (by decide) (by decide) (by decide)
theorem CW.cast{m b:Nat}{x:gu}(h:CW m b x)(t u:gT)(ln cl:Int)(s:CS):CW m (b+1) (mF x t u ln cl s).1:=by
 unfold mF;split
 ·exact h.less (by omega)
 ·exact h.n1 (by decide) (by decide) (by decide) (λ_=>rfl)
theorem CW.coerce{m b:Nat}{x:gu}(h:CW m b x)(t u:gT)(ln cl:Int)(s:CS):CW m (b+1) (ko x t u ln cl s).1:=by
 unfold ko;split
 ·exact h.less (by omega)
 split
 ·exact h.less (by omega)
 split
 ·exact h.cast _ _ _ _ _
 ·exact h.less (by omega)
theorem CW.any{m b:Nat}{x:(gu × gT) × CS}(h:CW m b x.1.1)(u:gT)(ln cl:Int):CW m (b+1) (kV u ln cl x).1.1:=by
 unfold kV;split
 ·exact h.cast _ _ _ _ _
 ·exact h.less (by omega)
theorem CW.global(L:iN)(m:Nat)(ln cl:Int)(e:iy)(l:List gT)(s:CS):CW m 1 (sZ L ln cl e l s).1.1:=by
 unfold sZ;split
 ·exact CW.noC m
 ·exact CW.n0 m 6 _ _ (by decide) (by decide) (by decide) (by decide)
theorem Wu{m:Nat}{k:Int}(h5:k≠5)(h18:k≠18):∀{l:List gu} {i:Nat},(∀c,c∈l->lQ m c)->jf m k l i
|[],_,_=>by simp[jf]
|c::l,i,h=>by
 rw[jf,aB h5,aB h18];exact⟨h c (by simp),Wu h5 h18 λx hx=>h x (by simp[hx])⟩
end Go.Gr
namespace Go.Gr
open Go.Abs Go.Proofs List
def jJ(b:Nat)(i:Inf):Prop:=∀env s,CW env.length b (i env s).1.1
theorem jJ.less{b b':Nat}{i:Inf}(h:jJ b i)(hb:b<=b'):jJ b' i:=λenv s=>(h env s).less hb
theorem zV(n:gp){b:Nat}{i:Inf}(h:jJ b i)(t:gT)(env:Env)(s:CS):CW env.length (b+1) (nI n i t env s).1:=(h env s).coerce _ _ _ _ _
section
variable (L:iN)
theorem zH4(n:gp):jJ 1 (xM L n):=λenv s=>by
 unfold xM;simp only;split
 ·rename_i h;have:=Mv env n.text;have h0:=h.1;refine⟨?_,by simp[cN,kC,jc]⟩;simp only[cN,lQ,jf,and_true,true_and];exact⟨by decide,λh=>absurd h (by decide),λh=>absurd h (by decide),λ_=>⟨h0,by omega⟩,λh=>absurd h (by decide)⟩
 repeat' split
 all_goals first|exact CW.noC _|exact CW.global L _ _ _ _ _ _
theorem zJx(n a:gp){ba bb:Nat}{ia ib:Inf}(ha:jJ ba ia)(hb:jJ bb ib):jJ (ba+bb+4) (pG n a ia ib):=λenv s=>by
 unfold pG;simp only;obtain⟨y,hy⟩:∃y,(if 0<n.types.length/\(ia env s).2.e=0 then(((ko (ia env s).1.1 (ia env s).1.2 (jo (n.types.getD 0 noT) n.line n.col (ia env s).2).1 a.line a.col (jo (n.types.getD 0 noT) n.line n.col (ia env s).2).2).1,(jo (n.types.getD 0 noT) n.line n.col (ia env s).2).1),(ko (ia env s).1.1 (ia env s).1.2 (jo (n.types.getD 0 noT) n.line n.col (ia env s).2).1 a.line a.col (jo (n.types.getD 0 noT) n.line n.col (ia env s).2).2).2)else ia env s)=y:=⟨_,rfl⟩
 have h1:CW env.length (ba+1) y.1.1:=by
  rw[<-hy];split
  ·exact(ha env s).coerce _ _ _ _ _
  ·exact(ha env s).less (by omega)
 rw[hy];have h2:=hb (env++[(n.text,y.1.2)]) y.2;rw[aX]at h2;have:=h1.2;have:=h2.2;refine⟨?_,by simp only[cK,kC,jc];omega⟩;simp only[cK,lQ,jf,and_true,true_and];exact⟨by decide,λ_=>by simp,λh=>absurd h (by decide),λh=>absurd h (by decide),λh=>absurd h (by decide),by simpa using h1.1,by simpa using h2.1⟩
theorem Nj(n a:gp){ba:Nat}{ia:Inf}(ha:jJ ba ia):jJ (ba+4) (xN n a ia):=λenv s=>by
 unfold xN;simp only;generalize (if 1<n.types.length/\(jo (n.types.getD 0 noT) n.line n.col s).2.e=0 then jo (n.types.getD 1 noT) n.line n.col (jo (n.types.getD 0 noT) n.line n.col s).2 else(noT,(jo (n.types.getD 0 noT) n.line n.col s).2))=q;generalize (jo (n.types.getD 0 noT) n.line n.col s).1=p;have h2:=ha (env++[(n.text,p)]) q.2;rw[aX]at h2;generalize ia (env++[(n.text,p)]) q.2=x at*
 obtain⟨y,hy⟩:∃y,(if 1<n.types.length then(((ko x.1.1 x.1.2 q.1 a.line a.col x.2).1,q.1),(ko x.1.1 x.1.2 q.1 a.line a.col x.2).2)else x)=y:=⟨_,rfl⟩
 have h3:CW (env.length+[(n.text,p)].length) (ba+1) y.1.1:=by
  rw[<-hy];split
  ·exact h2.coerce _ _ _ _ _
  ·exact h2.less (by omega)
 rw[hy];have:=h3.2;refine⟨?_,by simp only[cK,kC,jc];omega⟩;simp only[cK,lQ,jf,and_true,true_and];exact⟨by decide,λh=>absurd h (by decide),λh=>absurd h (by decide),λh=>absurd h (by decide),λ_=>rfl,by simpa using h3.1⟩
theorem c_call(n b:gp){ba bb:Nat}{ia ib:Inf}(ha:jJ ba ia)(hb:jJ bb ib):jJ (ba+bb+4) (xO n b ia ib):=λenv s=>by
 unfold xO;simp only;split
 ·exact(CW.noC _).less (by omega)
 ·exact(((ha env s).any _ _ _).n2 ((hb env _).coerce _ _ _ _ _) (by decide) (by decide) (by decide) (by decide) (by decide)).less (by omega)
theorem zJy(n:gp){ba:Nat}{ia:Inf}(ha:jJ ba ia):jJ (ba+4) (pI n ia):=λenv s=>by
 unfold pI;simp only;refine CW.less (b:=ba+1+1) (CW.n1 ?_ (by decide) (by decide) (by decide) (by decide)) (by omega);split
 ·exact(ha env s).cast _ _ _ _ _
 ·exact(ha env s).less (by omega)
theorem zIP(n:gp){ba bb:Nat}{ia ib:Inf}(ha:jJ ba ia)(hb:jJ bb ib):jJ (ba+bb+4) (xP n ia ib):=λenv s=>by
 unfold xP;simp only;split
 ·exact(CW.noC _).less (by omega)
 ·exact(((ha env s).any _ _ _).n2 (hb env _) (by decide) (by decide) (by decide) (by decide) (by decide)).less (by omega)
theorem Wv(q:gp)(env:Env):(oL q env).1.length=env.length/\(oL q env).2.length=env.length:=by
 unfold oL;split<;>simp
theorem Nk(q a b:gp){bq ba bb:Nat}{iq ia ib:Inf}(hq:jJ bq iq)(ha:jJ ba ia)(hb:jJ bb ib):jJ (bq+ba+bb+4) (xQ q a b iq ia ib):=λenv s=>by
 unfold xQ;simp only;have h1:=ha (oL q env).1 (ko (iq env s).1.1 (iq env s).1.2 (bT 2) q.line q.col (iq env s).2).2;rw[(Wv q env).1]at h1;have h2:=hb (oL q env).2 (ia (oL q env).1 (ko (iq env s).1.1 (iq env s).1.2 (bT 2) q.line q.col (iq env s).2).2).2;rw[(Wv q env).2]at h2;exact(CW.n3 ((hq env s).coerce _ _ _ _ _) (h1.coerce _ _ _ _ _) (h2.coerce _ _ _ _ _) (by decide) (by decide) (by decide) (by decide) (by decide)).less (by omega)
theorem Nl(n:gp){ba:Nat}{ia:Inf}(ha:jJ ba ia):jJ (ba+4) (xR n ia):=λenv s=>by
 unfold xR;simp only;split
 ·exact(ha env s).less (by omega)
 split
 ·exact(ha env s).less (by omega)
 generalize (jo (n.types.getD 0 noT) n.line n.col (ia env s).2)=u;obtain⟨y,hy⟩:∃y,(if(ia env s).1.2.kind≠0 then mF (ia env s).1.1 (ia env s).1.2 noT n.line n.col u.2 else((ia env s).1.1,u.2))=y:=⟨_,rfl⟩
 have h3:CW env.length (ba+1) y.1:=by
  rw[<-hy];split
  ·exact(ha env s).cast _ _ _ _ _
  ·exact(ha env s).less (by omega)
 rw[hy];split
 ·exact h3.less (by omega)
 split
 ·exact(h3.cast _ _ _ _ _).less (by omega)
 ·exact(h3.n1 (by decide) (by decide) (by decide) (λ_=>rfl)).less (by omega)
theorem Nn(n a b:gp){ba bb:Nat}{ia ib:Inf}(ha:jJ ba ia)(hb:jJ bb ib):jJ (ba+bb+4) (opC n a b ia ib):=λenv s=>by
 unfold opC;simp only;split
 ·exact(CW.n3 (zV a ha _ env s) (CW.n0 _ 2 1 _ (by decide) (by decide) (by decide) (by decide)) (zV b hb _ env _) (by decide) (by decide) (by decide) (by decide) (by decide)).less (by omega)
 split
 ·exact(CW.n3 (zV a ha _ env s) (zV b hb _ env _) (CW.n0 _ 2 0 _ (by decide) (by decide) (by decide) (by decide)) (by decide) (by decide) (by decide) (by decide) (by decide)).less (by omega)
 split
 ·exact(CW.n2 (ha env s) (hb env _) (by decide) (by decide) (by decide) (by decide) (by decide)).less (by omega)
 split
 ·exact(CW.n2 (zV a ha _ env s) (zV b hb _ env _) (by decide) (by decide) (by decide) (by decide) (by decide)).less (by omega)
 ·exact(CW.n2 (zV a ha _ env s) (zV b hb _ env _) (by decide) (by decide) (by decide) (by decide) (by decide)).less (by omega)
theorem zJz(n a:gp){ba:Nat}{ia:Inf}(ha:jJ ba ia):jJ (ba+4) (pJ n a ia):=λenv s=>by
 unfold pJ;split
 ·exact(CW.n1 (zV a ha _ env s) (by decide) (by decide) (by decide) (by decide)).less (by omega)
 split
 ·exact(CW.n1 (zV a ha _ env s) (by decide) (by decide) (by decide) (by decide)).less (by omega)
 split
 ·exact(CW.n1 (ha env s) (by decide) (by decide) (by decide) (by decide)).less (by omega)
 ·exact(CW.n1 (ha env s) (by decide) (by decide) (by decide) (by decide)).less (by omega)
theorem Ww:∀(l:List gp),(∀x,x∈l->jJ (4*iF x) (ig L x))->∀env s,(∀c,c∈(oC L l env s).1.1->lQ env.length c)/\jc (oC L l env s).1.1<=4*iO l
|[],_,env,s=>by rw[oC];exact⟨λc h=>(by cases h),by simp[jc]⟩
|n::l,h,env,s=>by
 rw[oC];simp only;have h1:=h n (by simp) env s;have h2:=Ww l (λx hx=>h x (by simp[hx])) env (ig L n env s).2;have:=h1.2;have:=h2.2;refine⟨λc hc=>?_,by rw[jc,iO];omega⟩;rcases aN.1 hc with e|hc
 ·rw[e];exact h1.1
 ·exact h2.1 c hc
theorem zJA(n:gp)(h:∀x,x∈n.kids->jJ (4*iF x) (ig L x)):jJ (4*iF n) (qB n (oC L n.kids)):=λenv s=>by
 unfold qB;simp only;have h1:=Ww L n.kids h env (if lh [] n.names=true then ky n.line n.col 8 s else s);have:=h1.2;have:=qE n;refine⟨?_,by simp only[kC];omega⟩;simp only[lQ,true_and];exact⟨by decide,λh=>absurd h (by decide),λh=>absurd h (by decide),λh=>absurd h (by decide),λh=>absurd h (by decide),Wu (by decide) (by decide) h1.1⟩
theorem Iw{b:Nat}{j:Inf}(h:jJ b j)(hb:1<=b):jJ b (kI j):=λenv s=>by
 unfold kI;split
 ·exact(CW.noC _).less hb
 ·exact h env s
theorem Iy(n:gp){rest:Inf}(hr:jJ (4*iF n) rest)(h:∀x,x∈n.kids->jJ (4*iF x) (ig L x)):jJ (4*iF n) (pK L n rest):=λenv s=>by
 have:=qE n;unfold pK;split
 ·exact(CW.n0 _ 0 _ _ (by decide) (by decide) (by decide) (by decide)).less (by omega)
 split
 ·exact(CW.n0 _ 1 _ _ (by decide) (by decide) (by decide) (by decide)).less (by omega)
 split
 ·exact(CW.n0 _ 2 _ _ (by decide) (by decide) (by decide) (by decide)).less (by omega)
 split
 ·exact(CW.n0 _ 3 _ _ (by decide) (by decide) (by decide) (by decide)).less (by omega)
 split
 ·exact(CW.n0 _ 20 _ _ (by decide) (by decide) (by decide) (by decide)).less (by omega)
 split
 ·exact(zH4 L n env s).less (by omega)
 split
 ·exact zJA L n h env s
 ·exact hr env s
theorem zGM(n:gp)(h:∀x,x∈n.kids->jJ (4*iF x) (ig L x)):jJ (4*iF n) (ig L n):=by
 obtain⟨k,tx,nn,ln,cl,ts,ns,ks⟩:=n
 match ks,h with
 |[],h=>
  rw[Ij];exact Iw (Iy L _ (λenv s=>(CW.noC _).less (by rw[qE];omega)) h) (by rw[qE];omega)
 |[a],h=>
  have ha:=h a (by simp[gp.kids]);have e:4*iF (gp.mk k tx nn ln cl ts ns [a])=4*iF a+4:=by simp only[iF,iO];omega
  rw[BX];refine Iw (Iy L _ (λenv s=>?_) h) (by omega);rw[e];unfold BU;split
  ·exact Nj _ _ ha env s
  split
  ·exact zJy _ ha env s
  split
  ·exact Nl _ ha env s
  ·exact zJz _ _ ha env s
 |[a,b],h=>
  have ha:=h a (by simp[gp.kids]);have hb:=h b (by simp[gp.kids]);have e:4*iF (gp.mk k tx nn ln cl ts ns [a,b])=4*iF a+4*iF b+4:=by simp only[iF,iO];omega
  rw[BZ];refine Iw (Iy L _ (λenv s=>?_) h) (by omega);rw[e];unfold BV;split
  ·exact zJx _ _ ha hb env s
  split
  ·exact c_call _ _ ha hb env s
  split
  ·exact zIP _ ha hb env s
  ·exact Nn _ _ _ ha hb env s
 |a::b::c::l,h=>
  have e:4*iF a+4*iF b+4*iF c+4<=4*iF (gp.mk k tx nn ln cl ts ns (a::b::c::l)):=by simp only[iF,iO];omega
  rw[Fh];exact Iw (Iy L _ ((Nk a b c (h a (by simp[gp.kids])) (h b (by simp[gp.kids])) (h c (by simp[gp.kids]))).less e) h) (by omega)
mutual
theorem Wx:∀n:gp,jJ (4*iF n) (ig L n)
|.mk k tx nn ln cl ts ns ks=>zGM L _ (Wy ks)
theorem Wy:∀l:List gp,∀x,x∈l->jJ (4*iF x) (ig L x)
|[],x,hx=>by cases hx
|n::l,x,hx=>by
 rcases aN.1 hx with e|hx
 ·rw[e];exact Wx n
 ·exact Wy l x hx
end
end
def xY(f:jb):Prop:=CW 1 120005 f.body/\f.name.size<=30000000000
theorem Wz:∀(l:List gT) (i:Nat) (s:fE),(uQ l i s).size<=s.size+l.length*20010
|[],i,s=>by rw[uQ];omega
|t::l,i,s=>by
 have h:=Wz l (i+1) (s++(if i=0 then bs [91]else bs [44,32])++xu t);have h2:=NR t;have h3:(if i=0 then bs [91]else bs [44,32]).size<=2:=by split<;>decide
 rw[uQ,length_cons];rw[ax,ax]at h;omega
theorem zGN{L:iN}(hG:mG L){x:kS}(hx:jq L ⟨bs [],x.module,x.decl⟩)(hxt:x.types.length<=1000000)(s:CS)(hs:∀f,f∈s.funs->xY f):∀f,f∈(nA L x s).funs->xY f:=by
 have hd:=(Fp hG hx).1;have hdn:=(Fp hG hx).2;have hmn:(L.names.getD x.module.toNat (bs [])).size<=32:=by
  rw[aH];cases q:L.names[x.module.toNat]? with
  |none=>decide
  |some z=>exact hG.modNames z (af q)
 have f0:fb (wS L x s)=fb s:=rfl;unfold nA;unfold wS at f0;simp only;generalize vP L x.module x.decl=d at*
 generalize ({s with module:=x.module,vars:=d.vars.map (·.1),wth:=x.types,e:=0}:CS)=s0 at*
 have f1:=ED (d.types.getD 0 noT) d.line d.col s0;generalize jo (d.types.getD 0 noT) d.line d.col s0=r1 at*
 have f2:=ED (d.types.getD 1 noT) d.line d.col r1.2;generalize jo (d.types.getD 1 noT) d.line d.col r1.2=r2 at*
 obtain⟨T,hT⟩:∃T,(if r2.2.e=0 then pF (kM r1.1 r2.1) d.line d.col r2.2 else(kM r1.1 r2.1,r2.2))=T:=⟨_,rfl⟩
 have p3:fb T.2=fb r2.2:=by
  rw[<-hT];split
  ·exact Il _ _ _ _
  ·rfl
 rw[hT];clear hT;obtain⟨S,hS⟩:∃S,(if x.module=L.main.module/\x.decl=L.main.decl/\AJ (bT 1) r1.1=false then ky d.line d.col 14 T.2 else T.2)=S:=⟨_,rfl⟩
 have p4:fb S=fb T.2:=by
  rw[<-hS];split
  ·exact NU _ _ _ _
  ·rfl
 rw[hS];clear hS;have p5:=Wx L d.body [(d.param,r1.1)] S;have f5:=Ip L d.body [(d.param,r1.1)] S;generalize ig L d.body [(d.param,r1.1)] S=y at*
 have p6:=p5.coerce y.1.2 r2.1 d.body.line d.body.col y.2;have f6:=NV y.1.1 y.1.2 r2.1 d.body.line d.body.col y.2;generalize ko y.1.1 y.1.2 r2.1 d.body.line d.body.col y.2=z at*
 have f:fb z.2=fb s:=by rw[f6,f5,p4,p3,f2,f1,f0]
 have g1:z.2.funs=s.funs:=dO (·.1) f;have hsz:CW 1 120005 z.1:=p6.less (by have:=hd.size;omega);have key:∀nm:fE,nm.size<=30000000000->∀f,f∈z.2.funs++[(⟨nm,T.1,z.1⟩:jb)]->xY f:=λnm hnm f hf=>by
  rw[g1]at hf;rcases aQ.1 hf with hf|hf
  ·exact hs f hf
  ·rw[aL.1 hf];exact⟨hsz,hnm⟩
 have hn1:=Wz x.types 0 (L.names.getD x.module.toNat (bs [])++bs [46]++d.name);have hb1:(bs [46]).size=1:=rfl;have hb2:(bs [93]).size=1:=rfl;have hn2:(if 0<x.types.length then uQ x.types 0 (L.names.getD x.module.toNat (bs [])++bs [46]++d.name)++bs [93]else uQ x.types 0 (L.names.getD x.module.toNat (bs [])++bs [46]++d.name)).size<=30000000000:=by
  rw[ax,ax]at hn1;split
  ·rw[ax];omega
  ·omega
 split
 ·exact key _ hn2
 ·exact key _ hn2
theorem XA{L:iN}(hG:mG L):∀(n i:Nat) (s:CS),i+n<=257->wR L s i->(∀f,f∈s.funs->xY f)->(∀f,f∈(oh L n i s).funs->xY f)/\(oh L n i s).funs.length<=257
|0,i,s,hi,h,hf=>by rw[oh];exact⟨hf,by have:=h.funs;omega⟩
| n+1,i,s,hi,h,hf=>by
 rw[oh];split
 ·rename_i q;have hm:s.tab.getD i ⟨0,0,[]⟩∈s.tab:=by
   rw[aH,aA q];exact aR q
  have h1:=h.ist _ hm;exact XA hG n (i+1) _ (by omega) (Iq hG h1.1 h1.2 (by omega) h) (zGN hG h1.1 h1.2 s hf)
 ·exact⟨hf,by have:=h.funs;omega⟩
theorem Iz(L:iN)(i:Nat):∀(l:List jS) (k:Nat) (s:CS),(uk L i l k s).1.funs=s.funs
|[],k,s=>by rw[uk]
| d::l,k,s=>by
 rw[uk];split
 ·exact Iz L i l (k+1) s
 ·simp only;split
  ·rfl
  ·rw[Iz L i l (k+1)]
theorem Np(L:iN):∀(l:List jP) (i:Nat) (s:CS),(rW L l i s).1.funs=s.funs
|[],i,s=>by rw[rW]
|m::l,i,s=>by
 rw[rW];split
 ·exact Iz L i m.decs 0 s
 ·rw[Np L l,Iz]
theorem XB(L:iN):wR L cs0 0:=⟨by simp[cs0],by simp[cs0],by simp[cs0],by simp[cs0],by simp[cs0]⟩
def yh(p:lT):Prop:=(∀f,f∈p.funs->xY f)/\p.funs.length<=257
theorem zCi{L:iN}(hG:mG L):yh (AQ L).1:=by
 have n0:yh xx:=⟨λf h=>(by cases h),by decide⟩
 unfold AQ;simp only;split
 ·exact n0
 split
 ·exact n0
 ·have h0:=Na L.mods 0 cs0 (by simp) (XB L);have h:=XA hG 257 0 (rW L L.mods 0 cs0).1 (by omega) h0 (by rw[Np];intro f hf;cases hf);exact h
theorem zz7(l:List (fE × fE)):yh (ul l).1:=by
 have n0:yh xx:=⟨λf h=>(by cases h),by decide⟩
 unfold ul;split
 ·exact n0
 simp only;split
 ·exact n0
 ·exact zCi (NT l (by omega))
end Go.Gr
namespace Go.Gr
open Go.Abs Go.Proofs
def XC:MC:=(λx(_:x=gC tt [(7,0)] [] [] (gB Tryz.f39))=>x) _ (by dsimp[Tryz.f39])
theorem zq9:WM Pg 39 8 XC [.tmp 2]:=wM gy Tryz.func39 (by kernel_rfl)
def XD:MC:=(λx(_:x=gC tt [(7,0)] [] [] (gB Tryz.f18))=>x) _ (by dsimp[Tryz.f18])
theorem zry:WM Pg 18 8 XD [.tmp 2]:=wM gy Tryz.func18 (by kernel_rfl)
end Go.Gr
