/- Texts of ours, joined and written short by a program of ours. -/
import Derived.Test.YtlfjlokfciejnaaGreatDoorJ12
import Derived.Test.YtlfjlokfciejnaaGreatDoorJ09
import Derived.Test.YtlfjlokfciejnaaGreatDoorJ11
set_option maxRecDepth 20000
set_option maxHeartbeats 4000000
set_option linter.all false
namespace Go.Gr
open Go.Abs Go.Proofs List
def zkx(t:Typ):(zfj t).size<=20000:=by
 unfold zfj
 split
 ·rename_i h
  have a:=zdj t false (zd6 h)
  have b:=zim h
  omega
 ·simp
def TokN(l:List Tok):Prop:=∀t,t∈l->t.kind=1->t.text.size<=32
def zB4(l:List UInt8)(h:(tokL l).e=0)(k:(tokL l).kind=1):(tokL l).text.length<=32:=by
 match l with
 |[]=>simp[tokL,badR]at h
 | c ::r=>
  rw[tokL]at h k⊢
  split at h
  ·rename_i c1
   rw[aC c1]at k⊢
   split at h
   ·simp[badR]at h
   ·rename_i c2
    rw[aB c2]
    simp only[bI]
    omega
  ·rename_i c1
   rw[aB c1]at k
   split at k
   ·split at k
    ·simp at k
    ·simp[badR]at k
   split at k
   ·split at k
    ·simp[badR]at k
    ·split at k
     ·simp[badR]at k
     ·simp at k
   split at k
   ·simp[badR]at k
   ·simp at k
def zty:∀(n:Nat) (l:List UInt8) (a b:Int) (ts:List Tok),TokN ts->TokN (lexL n l a b ts).1
 |0,l,a,b,ts,h=>by rw[lexL];exact h
 | n+1,l,a,b,ts,h=>by
  rw[lexL]
  simp only
  split
  ·intro t ht k
   rcases aQ.1 ht with ht|ht
   ·exact h t ht k
   ·simp only[aL]at ht;subst ht;simp at k
  generalize l.drop (blkL false l)=l' at*
  have go:(tokL l').e=0->TokN (lexL n (l'.drop (tokL l').len) (zbV (l.take (blkL false l)) a b).1 ((zbV (l.take (blkL false l)) a b).2+(tokL l').len) (ts++[⟨(tokL l').kind,bA (tokL l').text,(zbV (l.take (blkL false l)) a b).1,(zbV (l.take (blkL false l)) a b).2⟩])).1:=fun e0=>by
   refine zty n _ _ _ _ ?_
   intro t ht k
   rcases aQ.1 ht with ht|ht
   ·exact h t ht k
   ·simp only[aL]at ht
    subst ht
    simp only at k⊢
    have:=zB4 l' e0 k
    show(bA (tokL l').text).size<=32
    rw[zw9];exact this
  have nil:∀d:Dia,TokN (([]:List Tok),d).1:=fun d t ht=>by cases ht
  by_cases q:(tokL l').e=0/\ts.length=8192
  ·rw[aC q,aC (by decide)]
   exact nil _
  ·rw[aB q]
   by_cases e0:(tokL l').e=0
   ·rw[aB (fun z=>z e0)]
    exact go e0
   ·rw[aC e0]
    exact nil _
def zB5(s:fC):TokN (lexP s).1:=by
 unfold lexP
 split
 ·intro t ht;cases ht
 ·exact zty _ _ _ _ _ (fun t ht=>by cases ht)
def zB6{L:List Tok}(h:TokN L)(p:PS):(zaw L p).1.size<=32:=by
 unfold zaw
 split
 ·rename_i c
  have:curT L p∈L:=by
   unfold curT at c⊢
   rw[aH]at c⊢
   cases q:L[p.at']? with
   |none=>rw[q]at c;simp[zfi]at c
   |some t=>exact af q
  exact h _ this c.2
 ·simp
def zrM{L:List Tok}(h:TokN L):∀(n:Nat) (l:List Dec) (p:PS),(∀d,d∈l->d.name.size<=32)->∀d,d∈(zcC L n l p).1->d.name.size<=32
 |0,l,p,hl,d,hd=>by rw[zcC]at hd;exact hl d hd
 | n+1,l,p,hl,d,hd=>by
  rw[zcC]at hd
  split at hd
  ·refine zrM h n _ _ (fun x hx=>?_) d hd
   rcases aQ.1 hx with hx|hx
   ·exact hl x hx
   ·simp only[aL]at hx;subst hx;unfold decP;exact zB6 h _
  ·exact hl d hd
def zx9(s:fC):∀d,d∈(zbE s).1.decs->d.name.size<=32:=fun d hd=>by
 unfold zbE at hd
 simp only at hd
 split at hd
 ·cases hd
 split at hd
 ·cases hd
 ·exact zrM (zB5 s) _ _ _ (fun x hx=>by cases hx) d hd
def znS:∀(l:List (fC × fC)) (i:Nat) (ns:List fC) (ms:List Mdl) (bad:List Dia),(∀m,m∈ms->∀d,d∈m.decs->DecG d/\d.name.size<=32)->
  (∀m,m∈(zbQ l i ns ms bad).1.2->∀d,d∈m.decs->DecG d/\d.name.size<=32)
 |[],i,ns,ms,bad,h=>by rw[zbQ];exact h
 | s::l,i,ns,ms,bad,h=>by
  rw[zbQ]
  refine znS l _ _ _ _ fun m hm=>?_
  rcases aQ.1 hm with hm|hm
  ·exact h m hm
  ·simp only[aL]at hm
   subst hm
   exact fun d hd=>⟨zzy s.2 d hd,zx9 s.2 d hd⟩
def zpC:∀(l:List (fC × fC)) (i:Nat) (ns:List fC) (ms:List Mdl) (bad:List Dia),bad.length<=(zbQ l i ns ms bad).2.length/\((zbQ l i ns ms bad).2.length=0->(∀n,n∈ns->n.size<=32)->∀n,n∈(zbQ l i ns ms bad).1.1->n.size<=32)
 |[],i,ns,ms,bad=>by rw[zbQ];exact⟨aN _,fun _ h=>h⟩
 | s::l,i,ns,ms,bad=>by
  rw[zbQ]
  have r:=zpC l (i+1) (ns++[s.1]) (ms++[(zbE s.2).1]) (if zbg s.1=false then bad++[⟨i,1,1,10⟩]else if 0<=modZ ns s.1 then bad++[⟨i,1,1,8⟩]else if(zbE s.2).2.e≠0 then bad++[⟨i,(zbE s.2).2.line,(zbE s.2).2.col,(zbE s.2).2.e⟩]else bad)
  by_cases c:zbg s.1=false
  ·rw[aC c]at r⊢
   have:=r.1
   rw[aX]at this
   simp only[length_cons,length_nil]at this
   exact⟨by omega,fun q=>by omega⟩
  ·refine⟨ak ?_ r.1,fun q h=>r.2 q fun n hn=>?_⟩
   ·rw[aB c]
    split
    ·simp
    split
    ·simp
    ·exact aN _
   ·rcases aQ.1 hn with hn|hn
    ·exact h n hn
    ·simp only[aL]at hn;subst hn;exact zmg (by simpa using c)
def EntM(ms:List Mdl)(e:Ent):Prop:=0<=e.module/\e.module<ms.length/\0<=e.decl/\e.decl<(ms.getD e.module.toNat noM).decs.length
def znf{α:Type}(q:α->Bool)(l:List α):fi q 0 l= -1\/(0<=fi q 0 l/\fi q 0 l<l.length):=by
 have:=zqU q 0 l
 omega
def zng(ms:List Mdl)(m i:Int)(h0:0<=m)(h1:m<ms.length)(x:Imp):∀(l:List fC) (sc:List Ent) (bad:List Dia),(∀e,e∈sc->EntM ms e)->∀e,e∈(impN (ms.getD m.toNat noM) m i x l sc bad).1->EntM ms e
 |[],sc,bad,h=>by rw[impN];exact h
 | s::l,sc,bad,h=>by
  rw[impN]
  split
  ·exact zng ms m i h0 h1 x l _ _ h
  rename_i c
  split
  ·exact zng ms m i h0 h1 x l _ _ h
  refine zng ms m i h0 h1 x l _ _ fun e he=>?_
  rcases aQ.1 he with he|he
  ·exact h e he
  ·simp only[aL]at he
   subst he
   have a:=znf (fun d:Dec=>decide (d.name=s)) (ms.getD m.toNat noM).decs
   have b:¬zc7 (ms.getD m.toNat noM) s<0:=fun z=>c (.inl z)
   unfold zc7 at b
   unfold EntM zc7
   simp only
   omega
def ztz(ns:List fC)(ms:List Mdl)(hn:ns.length=ms.length)(i:Int):∀(l:List Imp) (sc:List Ent) (bad:List Dia),(∀e,e∈sc->EntM ms e)->∀e,e∈(zgY ns ms i l sc bad).1->EntM ms e
 |[],sc,bad,h=>by rw[zgY];exact h
 | x::l,sc,bad,h=>by
  rw[zgY]
  refine ztz ns ms hn i l _ _ ?_
  unfold zcl
  split
  ·exact h
  ·rename_i c
   have a:=znf (fun n=>decide (n=x.from_)) ns
   unfold modZ at c⊢
   exact zng ms _ i (by omega) (by omega) x _ _ _ h
def zoD(ms:List Mdl)(i:Nat)(hi:i<ms.length):∀(l:List Dec) (k:Nat) (sc:List Ent) (bad:List Dia),k+l.length<=(ms.getD i noM).decs.length->(∀e,e∈sc->EntM ms e)->∀e,e∈(zgj i l k sc bad).1->EntM ms e
 |[],k,sc,bad,hk,h=>by rw[zgj];exact h
 | d::l,k,sc,bad,hk,h=>by
  rw[zgj]
  simp only[length_cons]at hk
  split
  ·exact zoD ms i hi l (k+1) _ _ (by omega) h
  refine zoD ms i hi l (k+1) _ _ (by omega) fun e he=>?_
  rcases aQ.1 he with he|he
  ·exact h e he
  ·simp only[aL]at he
   subst he
   unfold EntM
   simp only[az]
   omega
def zpD(ns:List fC)(ms:List Mdl)(hn:ns.length=ms.length):∀(l:List Mdl) (i:Nat) (all:List (List Ent)) (bad:List Dia),l=ms.drop i->all.length=i->i<=ms.length->(∀sc,sc∈all->∀e,e∈sc->EntM ms e)->
  (zcg ns ms l i all bad).1.length=ms.length/\∀sc,sc∈(zcg ns ms l i all bad).1->∀e,e∈sc->EntM ms e
 |[],i,all,bad,hl,ha,hi,h=>by
  rw[zcg]
  have:(ms.drop i).length=0:=by rw[<-hl];try rfl
  rw[dJ]at this
  exact⟨by simp only;omega,h⟩
 | m::l,i,all,bad,hl,ha,hi,h=>by
  have hlt:i<ms.length:=by
   by_cases q:i<ms.length
   ·exact q
   ·rw[d9 (by omega)]at hl;cases hl
  rw[aG hlt]at hl
  have h1:=(List.cons.inj hl).1
  have h2:=(List.cons.inj hl).2
  have hm:ms.getD i noM=m:=by rw[aH,aA hlt,h1];try rfl
  rw[zcg]
  refine zpD ns ms hn l (i+1) _ _ h2 (by simp;omega) (by omega) fun sc hsc=>?_
  rcases aQ.1 hsc with hsc|hsc
  ·exact h sc hsc
  ·simp only[aL]at hsc
   subst hsc
   exact zoD ms i hlt m.decs 0 _ _ (by rw[hm];omega) (ztz ns ms hn i m.imps [] bad fun e he=>by cases he)
structure LinkG (L:Lnk):Prop where
 good:GoodL L
 decs:∀m,m∈L.mods->∀d,d∈m.decs->DecG d
 decNames:∀m,m∈L.mods->∀d,d∈m.decs->d.name.size<=32
 modNames:∀n,n∈L.names->n.size<=32
 small:∀m,m∈L.mods->SmallM m
 main:EntOk L ⟨bs [],L.main.module,L.main.decl⟩
def zl3(l:List (fC × fC))(h:(zgk l).2.length=0):LinkG (zgk l).1:=by
 have hs:=znT l []
 have hg:∀m,m∈(zcE l).1.2->∀d,d∈m.decs->DecG d/\d.name.size<=32:=by
  unfold zcE
  split
  ·intro m hm;cases hm
  ·exact znS l 0 [] [] [] fun m hm=>by cases hm
 have hb:(zcE l).2.length=0->∀n,n∈(zcE l).1.1->n.size<=32:=by
  unfold zcE
  split
  ·intro q;simp at q
  ·exact fun q=>(zpC l 0 [] [] []).2 q fun n hn=>by cases hn
 unfold zgk at h⊢
 simp only at h⊢
 generalize zcE l=f at*
 have hn:f.1.1.length=f.1.2.length:=hs.2.1
 have s1:=zpD f.1.1 f.1.2 hn f.1.2 0 [] [] (by simp) rfl (by omega) (fun sc hsc=>by cases hsc)
 generalize zcg f.1.1 f.1.2 f.1.2 0 [] []=s at*
 generalize zfe f.1.1 f.1.2 f.1.2 0 []=t at*
 by_cases c1:0<f.2.length
 ·rw[aC c1]at h;simp only at h;omega
 rw[aB c1]at h⊢
 by_cases c2:0<s.2.length
 ·rw[aC c2]at h;simp only at h;omega
 rw[aB c2]at h⊢
 by_cases c3:0<t.length
 ·rw[aC c3]at h;simp only at h;omega
 rw[aB c3]at h⊢
 by_cases c4:modZ f.1.1 zdW<0
 ·rw[aC c4]at h;simp at h
 rw[aB c4]at h⊢
 by_cases c5:zc7 (f.1.2.getD (modZ f.1.1 zdW).toNat noM) zdW<0
 ·rw[aC c5]at h;simp at h
 rw[aB c5]at h⊢
 split
 ·rename_i c6;rw[aC c6]at h;simp at h
 have a:=znf (fun n=>decide (n=zdW)) f.1.1
 have b:=znf (fun d:Dec=>decide (d.name=zdW)) (f.1.2.getD (modZ f.1.1 zdW).toNat noM).decs
 refine⟨⟨hs.1,hn,s1.1,fun m hm d hd=>⟨(hg m hm d hd).1.types,by have:=(hg m hm d hd).1.vars;omega⟩,fun sc hsc e he=>?_⟩,fun m hm d hd=>(hg m hm d hd).1,fun m hm d hd=>(hg m hm d hd).2,hb (by omega),hs.2.2,?_⟩
 ·have:=s1.2 sc hsc e he
  exact⟨this.1,this.2.1,this.2.2.1,this.2.2.2⟩
 ·unfold modZ at c4 c5 b⊢
  unfold zc7 at c5⊢
  refine⟨?_,?_,?_,?_⟩<;>simp only<;>omega
end Go.Gr
namespace Go.Gr
open Go.Abs Go.Proofs
def zFx(l:List (fC × fC)):PCall Pg 15 [.one (.sl false 2 (l.map srcE))] (.one (.bool (decide (l.length<=20)&&fewL l 0))):=by
 refine zBw (by simp) fun o c hN hp=>?_
 obtain⟨R,hR⟩:∃R,(decide (l.length<=20)&&fewL l 0)=R:=⟨_,rfl⟩
 rw[hR]
 unfold zqS
 simp
 apply gI<;>intro h
 ·have h:¬l.length<=20:=by simp at h;omega
  simp[h]at hR
  simp[hR]
 have h:l.length<=20:=by simp at h;omega
 simp[h]at hR
 refine fK zaa hp (fun Y:Nat × Nat=>Y.1<=l.length/\Y.2<=70000/\fewL (l.drop Y.1) Y.2=R) (fun Y=>[(4,.c (.d (.int .i64 Y.1))),(3,.c (.d (.int .i64 Y.2))),(0,.c (.d (.sl false 2 (l.map srcE))))]) (fun _=>[]) (fun Y=>l.length-Y.1) (0,0) [] ⟨by simp,by simp,by simpa using hR⟩ (by simp) fun⟨j,n⟩ ⟨i1,i2,i3⟩=>?_
 unfold zm7
 simp only at i1 i2 i3
 simp
 apply gI<;>intro h
 ·have hj:j<l.length:=by simpa using h
  obtain⟨s,hs⟩:∃s,l[j]=s:=⟨_,rfl⟩
  rw[aG hj,hs,fewL]at i3
  have hw:=wI (n:=(j:Int)+1)
  have hw2:=wI (n:=(70000:Int)-n)
  by_cases c1:(70000:Int)-n<s.2.size
  ·rw[aC (.inl c1)]at i3
   simp[hj,hs,hw2,c1,<-i3]
  by_cases c2:(1000:Int)<s.1.size
  ·rw[aC (.inr (by omega))]at i3
   simp[hj,hs,hw2,c1,c2,<-i3]
  rw[aB (fun z=>z.elim c1 (fun z=>c2 (by omega)))]at i3
  have hw3:=wI (n:=(n:Int)+s.2.size)
  simp[hj,hs,hw2,c1,c2]
  refine fD (j+1,n+s.2.size) [] ⟨by simp only;omega,by simp only;omega,by simpa using i3⟩ (by simp only;omega) ?_
  simp[hw,hw3]
 ·have hj:j=l.length:=by simp at h;omega
  subst hj
  rw[aO,fewL]at i3
  simp[<-i3]
def fb(s:CS):List Fun × List Dia:=(s.funs,s.bad)
@[simp] theorem zrx(a b e:Int)(s:CS):fb (zaW a b e s)=fb s:=by unfold zaW;split<;>rfl
@[simp] theorem zeO(t:Typ)(a b:Int)(s:CS):fb (zar t a b s).2=fb s:=by unfold zar;simp only;split<;>simp
@[simp] theorem znF(t:Typ)(a b:Int)(s:CS):fb (zbN t a b s).2=fb s:=by unfold zbN;simp only;split<;>simp
@[simp] theorem zId(x:Cor)(t u:Typ)(a b:Int)(s:CS):fb (za8 x t u a b s).2=fb s:=by unfold za8;split<;>rfl
@[simp] theorem zmY(x:Cor)(t u:Typ)(a b:Int)(s:CS):fb (zaF x t u a b s).2=fb s:=by
 unfold zaF
 split
 ·rfl
 split
 ·rfl
 split<;>simp
@[simp] theorem zIs(u:Typ)(a b:Int)(x:(Cor × Typ) × CS):fb (anyC u a b x).2=fb x.2:=by unfold anyC;split<;>simp
@[simp] theorem zE1(a b:Int):∀(ts l:List Typ) (s:CS),fb (zcM a b ts l s).2=fb s
 |[],l,s=>by rw[zcM]
 |t::ts,l,s=>by
  rw[zcM]
  split
  ·rfl
  ·rw[zE1 a b ts];simp
@[simp] theorem zIt(s:CS)(t:List Ist):fb {s with tab:=t}=fb s:=rfl
section
variable (L:Lnk)
@[simp] theorem zG5(a b:Int)(e:Ent)(l:List Typ)(s:CS):fb (zbO L a b e l s).2=fb s:=by
 unfold zbO
 split
 ·simp
 ·simp only
  split<;>simp
def KInf(i:Inf):Prop:=∀env s,fb (i env s).2=fb s
def zvD(n:Nod){i:Inf}(h:KInf i)(t:Typ)(env:Env)(s:CS):fb (zbl n i t env s).2=fb s:=by unfold zbl;simp[h env s]
def zE2(n:Nod):KInf (zdO L n):=fun env s=>by
 unfold zdO
 simp only
 repeat' split
 all_goals simp
def zGP(n a:Nod){ia ib:Inf}(ha:KInf ia)(hb:KInf ib):KInf (letC n a ia ib):=fun env s=>by
 unfold letC
 simp only
 split<;>simp[ha _ _,hb _ _]
def k_fn(n a:Nod){ia:Inf}(ha:KInf ia):KInf (fnC n a ia):=fun env s=>by
 unfold fnC
 simp only
 repeat' split
 all_goals simp[ha _ _]
def zF9(n b:Nod){ia ib:Inf}(ha:KInf ia)(hb:KInf ib):KInf (zeP n b ia ib):=fun env s=>by
 unfold zeP
 simp only
 repeat' split
 all_goals simp[ha _ _,hb _ _]
def zGQ(n:Nod){ia:Inf}(ha:KInf ia):KInf (selC n ia):=fun env s=>by
 unfold selC
 simp only
 repeat' split
 all_goals simp[ha _ _]
def zGa(n:Nod){ia ib:Inf}(ha:KInf ia)(hb:KInf ib):KInf (zeQ n ia ib):=fun env s=>by
 unfold zeQ
 simp only
 repeat' split
 all_goals simp[ha _ _,hb _ _]
def k_if(q a b:Nod){iq ia ib:Inf}(hq:KInf iq)(ha:KInf ia)(hb:KInf ib):KInf (ifC q a b iq ia ib):=fun env s=>by
 unfold ifC
 simp[hq _ _,ha _ _,hb _ _]
def k_as(n:Nod){ia:Inf}(ha:KInf ia):KInf (asC n ia):=fun env s=>by
 unfold asC
 simp only
 repeat' split
 all_goals simp[ha _ _]
def k_op(n a b:Nod){ia ib:Inf}(ha:KInf ia)(hb:KInf ib):KInf (opC n a b ia ib):=fun env s=>by
 unfold opC
 simp only
 repeat' split
 all_goals simp[zvD _ ha,zvD _ hb,ha _ _,hb _ _]
def zGR(n a:Nod){ia:Inf}(ha:KInf ia):KInf (oneC n a ia):=fun env s=>by
 unfold oneC
 repeat' split
 all_goals simp[zvD _ ha,ha _ _]
def zvE:∀(l:List Nod),(∀x,x∈l->KInf (zan L x))->∀env s,fb (za0 L l env s).2=fb s
 |[],_,env,s=>by rw[za0]
 |n::l,h,env,s=>by
  rw[za0]
  simp only
  rw[zvE l (fun x hx=>h x (by simp[hx])),h n (by simp) env s]
def zGS(n:Nod)(h:∀x,x∈n.kids->KInf (zan L x)):KInf (recC n (za0 L n.kids)):=fun env s=>by
 unfold recC
 simp only
 rw[znF,zvE L n.kids h]
 split<;>simp
def zqI{j:Inf}(h:KInf j):KInf (zaO j):=fun env s=>by
 unfold zaO
 split
 ·rfl
 ·exact h env s
def zqJ(n:Nod){rest:Inf}(hr:KInf rest)(h:∀x,x∈n.kids->KInf (zan L x)):KInf (zbK L n rest):=fun env s=>by
 unfold zbK
 split
 ·rfl
 split
 ·rfl
 split
 ·rfl
 split
 ·rfl
 split
 ·rfl
 split
 ·exact zE2 L n env s
 split
 ·exact zGS L n h env s
 ·exact hr env s
def zDm(n:Nod)(h:∀x,x∈n.kids->KInf (zan L x)):KInf (zan L n):=by
 obtain⟨k,tx,nn,ln,cl,ts,ns,ks⟩:=n
 match ks,h with
 |[],h=>rw[eq0];exact zqI (zqJ L _ (fun env s=>rfl) h)
 |[a],h=>
  have ha:=h a (by simp[Nod.kids])
  rw[eq1]
  refine zqI (zqJ L _ (fun env s=>?_) h)
  unfold ziX
  split
  ·exact k_fn _ _ ha env s
  split
  ·exact zGQ _ ha env s
  split
  ·exact k_as _ ha env s
  ·exact zGR _ _ ha env s
 |[a,b],h=>
  have ha:=h a (by simp[Nod.kids])
  have hb:=h b (by simp[Nod.kids])
  rw[eq2]
  refine zqI (zqJ L _ (fun env s=>?_) h)
  unfold ziY
  split
  ·exact zGP _ _ ha hb env s
  split
  ·exact zF9 _ _ ha hb env s
  split
  ·exact zGa _ ha hb env s
  ·exact k_op _ _ _ ha hb env s
 |a::b::c::l,h=>
  rw[eq3]
  exact zqI (zqJ L _ (k_if a b c (h a (by simp[Nod.kids])) (h b (by simp[Nod.kids])) (h c (by simp[Nod.kids]))) h)
mutual
def znG:∀n:Nod,KInf (zan L n)
 |.mk k tx nn ln cl ts ns ks=>zDm L _ (zvF ks)
def zvF:∀l:List Nod,∀x,x∈l->KInf (zan L x)
 |[],x,hx=>by cases hx
 |n::l,x,hx=>by
  rcases aM.1 hx with e|hx
  ·rw[e];exact znG n
  ·exact zvF l x hx
end
end
end Go.Gr
namespace Go.Gr
open Go.Abs Go.Proofs List
def zgg{L:Lnk}(hG:LinkG L){m k:Int}(h:EntOk L ⟨bs [],m,k⟩):DecG (zdV L m k)/\(zdV L m k).name.size<=32:=by
 obtain⟨mn,kn,M,e1,e2,g1,g2,_⟩:=zhk hG.good h
 exact⟨hG.decs M (af g1) _ (af g2),hG.decNames M (af g1) _ (af g2)⟩
structure TOk (L:Lnk) (s:CS) (i:Nat):Prop where
 tab:s.tab.length<=256
 ist:∀x,x∈s.tab->EntOk L ⟨bs [],x.module,x.decl⟩/\x.types.length<=1000000
 sites:s.sites.length+(257-i)*240009<=1000000000
 funs:s.funs.length<=i
 bad:s.bad.length<=i
def zdq(L:Lnk)(x:Ist)(s0:CS):CS:={s0 with module:=x.module,vars:=(zdV L x.module x.decl).vars.map (·.1),wth:=x.types,e:=0}
theorem zvQ{L:Lnk}{x:Ist}(hx:EntOk L ⟨bs [],x.module,x.decl⟩)(hxt:x.types.length<=1000000){s:CS}{i:Nat}(hi:i<257)(h:TOk L s i):SOk L (zdq L x s) (8*30001+1+(257-(i+1))*240009):=by
 have a:=h.sites
 have b:=h.funs
 have c:=h.bad
 refine⟨hxt,?_,h.tab,hx.m0,hx.m1,⟨?_,?_⟩,h.ist⟩
 ·have e:(zdq L x s).sites=s.sites:=rfl
  have q:s.sites.length+(8*30001+1+(257-(i+1))*240009)<=1000000000:=by
   obtain⟨k,hk⟩:∃k,257-i=k+1:=⟨256-i,by omega⟩
   have hk2:257-(i+1)=k:=by omega
   rw[hk]at a
   rw[hk2,show 8*30001+1=240009 from rfl]
   clear h hx hxt
   generalize s.sites.length=n at*
   omega
  simp only[e]
  exact q
 ·have e:(zdq L x s).funs=s.funs:=rfl
  simp only[e]
  omega
 ·have e:(zdq L x s).bad=s.bad:=rfl
  simp only[e]
  omega
theorem zk6{L:Lnk}(hG:LinkG L){x:Ist}(hx:EntOk L ⟨bs [],x.module,x.decl⟩)(hxt:x.types.length<=1000000){s:CS}{i:Nat}(hi:i<257)(h:TOk L s i):TOk L (funC L x s) (i+1):=by
 have hd:=(zgg hG hx).1
 have p0:=zvQ hx hxt hi h
 have f0:fb (zdq L x s)=fb s:=rfl
 have hf:=h.funs
 have hb:=h.bad
 unfold funC
 unfold zdq at p0 f0
 simp only
 generalize zdV L x.module x.decl=d at*
 generalize ({s with module:=x.module,vars:=d.vars.map (·.1),wth:=x.types,e:=0}:CS)=s0 at*
 have p1:=zbt p0 (d.types.getD 0 noT) d.line d.col
 have f1:=zeO (d.types.getD 0 noT) d.line d.col s0
 generalize zar (d.types.getD 0 noT) d.line d.col s0=r1 at*
 have p2:=zbt p1.1 (d.types.getD 1 noT) d.line d.col
 have f2:=zeO (d.types.getD 1 noT) d.line d.col r1.2
 generalize zar (d.types.getD 1 noT) d.line d.col r1.2=r2 at*
 obtain⟨T,hT⟩:∃T,(if r2.2.e=0 then zbN (fnT r1.1 r2.1) d.line d.col r2.2 else(fnT r1.1 r2.1,r2.2))=T:=⟨_,rfl⟩
 have p3:SOk L T.2 (8*30001+1+(257-(i+1))*240009)/\fb T.2=fb r2.2:=by
  rw[<-hT]
  split
  ·exact⟨(zir p2.1 _ _ _).1,znF _ _ _ _⟩
  ·exact⟨p2.1,rfl⟩
 rw[hT]
 clear hT
 obtain⟨S,hS⟩:∃S,(if x.module=L.main.module/\x.decl=L.main.decl/\zhR (bT 1) r1.1=false then zaW d.line d.col 14 T.2 else T.2)=S:=⟨_,rfl⟩
 have p4:SOk L S (8*30001+1+(257-(i+1))*240009)/\fb S=fb T.2:=by
  rw[<-hS]
  split
  ·exact⟨zb0 p3.1 _ _ _,zrx _ _ _ _⟩
  ·exact⟨p3.1,rfl⟩
 rw[hS]
 clear hS
 have hne:EOk [(d.param,r1.1)] (nsz d.body):=⟨by have:=hd.size;simp only[length_cons,length_nil];omega,fun v hv=>by simp only[aL]at hv;subst hv;exact p1.2⟩
 have p5:=(zoB L hG.good d.body hd.body).2 [(d.param,r1.1)] S (1+(257-(i+1))*240009) hne (p4.1.less (by have:=hd.size;omega))
 have f5:=znG L d.body [(d.param,r1.1)] S
 generalize zan L d.body [(d.param,r1.1)] S=y at*
 have p6:=zbL (b:=(257-(i+1))*240009) (p5.1.less (by omega)) y.1.1 y.1.2 r2.1 d.body.line d.body.col
 have f6:=zmY y.1.1 y.1.2 r2.1 d.body.line d.body.col y.2
 generalize zaF y.1.1 y.1.2 r2.1 d.body.line d.body.col y.2=z at*
 have f:fb z.2=fb s:=by rw[f6,f5,p4.2,p3.2,f2,f1,f0]
 have g1:z.2.funs=s.funs:=dL (·.1) f
 have g2:z.2.bad=s.bad:=dL (·.2) f
 split
 ·exact⟨p6.tab,p6.ist,p6.sites,by simp[g1];omega,by simp[g2];omega⟩
 ·exact⟨p6.tab,p6.ist,p6.sites,by simp[g1];omega,by show z.2.bad.length<=_;rw[g2];omega⟩
def zpq{L:Lnk}(i:Nat)(hi:i<L.mods.length):∀(l:List Dec) (k:Nat) (s:CS),k+l.length<=(L.mods.getD i noM).decs.length->TOk L s 0->TOk L (zdF L i l k s).1 0
 |[],k,s,hk,h=>by rw[zdF];exact h
 | d::l,k,s,hk,h=>by
  simp only[length_cons]at hk
  rw[zdF]
  split
  ·exact zpq i hi l (k+1) s (by omega) h
  have hx:∀x,x∈(addR 256 s.tab ⟨i,k,[]⟩).2->EntOk L ⟨bs [],x.module,x.decl⟩/\x.types.length<=1000000:=fun x hx=>by
   rcases zoT hx with hx|hx
   ·exact h.ist x hx
   ·subst hx
    exact⟨⟨by simp only;omega,by simp only;omega,by simp only;omega,by simp only[az];omega⟩,by simp⟩
  simp only
  split
  ·exact⟨zkI h.tab _,hx,h.sites,h.funs,h.bad⟩
  ·exact zpq i hi l (k+1) _ (by omega) ⟨zkI h.tab _,hx,h.sites,h.funs,h.bad⟩
def zpr{L:Lnk}:∀(l:List Mdl) (i:Nat) (s:CS),l=L.mods.drop i->TOk L s 0->TOk L (zcz L l i s).1 0
 |[],i,s,hl,h=>by rw[zcz];exact h
 | m::l,i,s,hl,h=>by
  have hlt:i<L.mods.length:=by
   by_cases q:i<L.mods.length
   ·exact q
   ·rw[d9 (by omega)]at hl;cases hl
  rw[aG hlt]at hl
  have h1:=(List.cons.inj hl).1
  have hm:L.mods.getD i noM=m:=by rw[aH,aA hlt,h1];try rfl
  have r:=zpq i hlt m.decs 0 s (by rw[hm];omega) h
  rw[zcz]
  split
  ·exact r
  ·exact zpr l (i+1) _ (List.cons.inj hl).2 r
section
variable (L:Lnk)
abbrev ck9(s:CS):List Blk:=[ckBx L s 6 7 8,tbB 256 s.tab.length 9,.dead,.dead,.dead,.dead,funA s.funs,sitA s.sites,diaA s.bad,tabA s.tab]
def zqx(l:List Typ)(i:Nat)(s:fC)(h:i<l.length):zdp (l.drop i) i s=zdp (l.drop (i+1)) (i+1) (s++(if i=0 then bs [91]else bs [44,32])++zfj l[i]):=by
 rw[aG h,zdp]
abbrev ckB(L:Lnk)(s:CS)(vD wD:D)(tb a b d:Nat):Blk:=.box [.d (.sl false 1 (encS L.names)),.d (.sl false 2 (L.mods.map Mdl.enc)),.d (.sl false 1 (L.scopes.map scpE)),.d (.str L.main.name),.d (.int .i64 L.main.module),.d (.int .i64 L.main.decl),.ptr tb 0,.msl 13 a 0 s.funs.length,.d (.int .i64 s.main),.msl 3 b 0 s.sites.length,.msl 4 d 0 s.bad.length,.d (.int .i64 s.module),.d vD,.d wD,.d (.int .i64 s.e),.d (.int .i64 s.line),.d (.int .i64 s.col)]
abbrev ck5(L:Lnk)(s:CS)(vD wD:D):List Blk:=[ckB L s vD wD 1 2 3 4,tbB 256 s.tab.length 5,funA s.funs,sitA s.sites,diaA s.bad,tabA s.tab]
theorem zu1(a b:Int):(Nod.mk 0 (bs []) 0 a b [] [] []).enc=[.int .i64 0,.str (bs []),.int .i64 0,.int .i64 a,.int .i64 b,.sl false 4 [],.sl false 1 [],.sl false 8 []]:=rfl
@[simp] theorem cut_body(d:Dec):cut (d.enc.map AC.d) 5 8=d.body.enc.map AC.d:=by
 obtain⟨a,b,c,e,f,g,h,i⟩:=d
 cases g;rfl
abbrev zD1(z:fC):List AC:=[.d (.str z),.d (.int .i64 0),.d (.str (bs [])),.d (.sl true 1 []),.d (.sl true 4 []),.d (.int .i64 0),.d (.int .i64 0),.d (.str (bs [])),.d (.sl true 1 []),.d (.sl true 1 []),.d (.sl true 4 []),.d (.sl true 5 []),.d (.sl true 8 [])]
def znw(z:fC)(T:Typ):13<=(splice (zD1 z) 1 (T.enc.map AC.d)).length:=by
 rw[zck];exact aN _
def znx(z:fC)(T:Typ)(b:Cor):put (splice (zD1 z) 1 (T.enc.map AC.d)) 5 (b.enc.map AC.d)=(Fun.enc ⟨z,T,b⟩).map AC.d:=by
 unfold Fun.enc;rw[T.enc_eq,b.enc_eq];try rfl
abbrev fnB0(L:Lnk)(s:CS)(P:List Blk)(d:Dec)(a b T:Typ)(E:List Blk):List Blk:=ck6 L s++(P++[.box (d.enc.map .d),.box [.d (.int .i64 0),.d (.str (bs [])),.d (.int .i64 0),.d (.int .i64 d.line),.d (.int .i64 d.col),.d (.sl true 4 []),.d (.sl true 1 []),.d (.sl true 8 [])],.box (a.enc.map .d),.box (b.enc.map .d),.dead,.box (T.enc.map .d)]++E)
def St.cut{F:St->Prop}{t:List (Nat × AV)}{m:Hp}{n:Nat}(ts:List (Nat × AV))(bs:List Blk)(ht:∀p,p∈ts->Abs.look t p.1=p.2)(hm:∀i,m i=hpOf bs i)(h:∀T,(∀p,p∈ts->Abs.look T p.1=p.2)->F ⟨T,hpOf bs,n⟩):F ⟨t,m,n⟩:=by
 have e:m=hpOf bs:=funext hm
 subst e
 exact h t ht
abbrev fnTs(X:Ist)(j:Nat)(z:fC):List (Nat × AV):=[(13,.c (.d (.int .i64 j))),(12,.c (.d (.str z))),(10,.c (.ptr 7 0)),(8,.c (.ptr 6 0)),(3,.c (.d (.rp X.enc 0))),(0,.c (.ptr 0 0))]
abbrev fnBs(L:Lnk)(s:CS)(P:List Blk)(T:Typ)(z:Cor):List Blk:=[ckBx L s 2 8 3,tbB 256 s.tab.length 9,funA s.funs,diaA s.bad]++(P++[.box (T.enc.map .d),.box (z.enc.map .d),sitA s.sites,tabA s.tab])
def zu3(hF:LinkG L)(X:Ist)(hX:EntOk L ⟨bs [],X.module,X.decl⟩)(hXt:X.types.length<=1000000)(s0:CS)(vD wD:D)(k:Nat)(hs:SOk L (zdq L X s0) (8*30001+1+k)):
  MCall Pg 34 [.c (.ptr 0 0),.ag (X.enc.map .d)] (ck5 L s0 vD wD) (.tup []) (ck9 L (funC L X s0)):=by
 refine zrA MS1 fun ts hts ok hbk c hN hp=>?_
 obtain⟨t,u,v,w,x,y,rfl⟩:=zbb hts
 have hdG:=(zgg hF hX).1
 have hdn:=(zgg hF hX).2
 obtain⟨mn,kn,M,e1,e2,g1,g2,hd⟩:=zhk hF.good hX
 have hb1:=zaG 1
 unfold funC
 unfold zdq at hs
 simp only
 generalize hdd:zdV L X.module X.decl=d at*
 have hv:=zxZ d hd.vars
 obtain⟨ta,tb,hty⟩:=zpt hd.types
 have e3:d.types.getD 0 noT=ta:=by rw[hty];try rfl
 have e4:d.types.getD 1 noT=tb:=by rw[hty];try rfl
 rw[e3,e4]
 obtain⟨s,hss⟩:∃s:CS,{s0 with module:=X.module,vars:=d.vars.map (·.1),wth:=X.types,e:=0}=s:=⟨_,rfl⟩
 have m1:=zdx L ta d.line d.col s (by rw[<-hss]at*;exact hs.wth)
 rw[hss]at hs⊢
 have p1:=zbt hs ta d.line d.col
 generalize zar ta d.line d.col s=r1 at*
 have m2:=zdx L tb d.line d.col r1.2 p1.1.wth
 have p2:=zbt p1.1 tb d.line d.col
 generalize zar tb d.line d.col r1.2=r2 at*
 unfold zkp
 have b0:ck6 L s=ck6 L {s0 with module:=X.module,vars:=d.vars.map (·.1),wth:=X.types,e:=0}:=by rw[hss]
 rw[b0]at m1
 simp[e1,e2,g1,g2]
 refine⟨by decide,?_⟩
 refine gN hv ?_
 simp[hty]
 refine gM [0,1,2,3,4,5] m1 (by simp[e1]) ?_
 simp[hty]
 refine⟨by decide,?_⟩
 refine gK [0,1,2,3,4,5] m2 ?_
 simp
 refine⟨by decide,?_⟩
 have hfits:=zxq (bT 1) r1.1
 generalize zhR (bT 1) r1.1=ft at*
 have mm:=MCall.erd (args:=[.c (.ptr 0 0),.ag [.d (.int .i64 6),.d (.str (bs [])),.d (.sl true 1 []),.d (.sl false 4 [r1.1.enc,r2.1.enc])],.ag [.d (.int .i64 0),.d (.str (bs [])),.d (.int .i64 0),.d (.int .i64 d.line),.d (.int .i64 d.col),.d (.sl true 4 []),.d (.sl true 1 []),.d (.sl true 8 [])]]) (zfp L (fnT r1.1 r2.1) (.mk 0 (bs []) 0 d.line d.col [] [] []) r2.2) (by simp[AV.erds,AV.erd,AC.erd,D.erd,D.erdL,D.erdE,fnT,zcc,zaU,zcN,encS,Nod.enc,Nod.encs,zu1])
 simp only[Nod.line,Nod.col]at mm
 have pm:=zir p2.1 (fnT r1.1 r2.1) d.line d.col
 have fin:∀q:CS,SOk L q (8*30001+1+k)->MCall Pg 57 [.c (.ptr 0 0),.ag [.d (.int .i64 0),.d (.str (bs [])),.d (.int .i64 0),.d (.int .i64 d.line),.d (.int .i64 d.col),.d (.sl true 4 []),.d (.sl true 1 []),.d (.sl true 8 [])],.c (.d (.int .i64 14))] (ck6 L q) (.tup []) (ck6 L (zaW d.line d.col 14 q))/\SOk L (zaW d.line d.col 14 q) (8*30001+1+k):=fun q hq=>⟨MCall.erd (zc0 L (.mk 0 (bs []) 0 d.line d.col [] [] []) 14 q) (by simp[AV.erds,AV.erd,AC.erd,D.erd,D.erdL,D.erdE,encS,zu1]),zb0 hq _ _ _⟩
 have hne:EOk [(d.param,r1.1)] (nsz d.body):=⟨by have:=hdG.size;simp;omega,fun v hv=>by simp at hv;subst hv;exact p1.2⟩
 have hi:=zoB L hF.good d.body hdG.body
 have minf:∀q:CS,SOk L q (8*30001+1+k)->MCall Pg 58 [.c (.ptr 0 0),.ag (d.body.enc.map .d),.c (.d (.sl true 5 [.str d.param::r1.1.enc]))] (ck6 L q) (infA (zan L d.body [(d.param,r1.1)] q).1.1 (zan L d.body [(d.param,r1.1)] q).1.2) (ck8 L (zan L d.body [(d.param,r1.1)] q).2)/\SOk L (zan L d.body [(d.param,r1.1)] q).2 (1+k):=fun q hq=>⟨MCall.erd (hi.1 [(d.param,r1.1)] q (1+k) hne (hq.less (by have:=hdG.size;omega))) (by simp[AV.erds,AV.erd,AC.erd,D.erd,D.erdL,D.erdE,encV]),(hi.2 [(d.param,r1.1)] q (1+k) hne (hq.less (by have:=hdG.size;omega))).1⟩
 have hnm:∃nm,L.names.getD X.module.toNat (bs [])=nm/\L.names[mn]?=some nm:=by
  rw[e1]
  simp only[az]
  have:mn<L.names.length:=by have:=hF.good.names;have:=hX.m1;simp only at this;omega
  exact⟨L.names[mn],by rw[aH,aA this];rfl,aA this⟩
 obtain⟨nm,hnm1,hnm2⟩:=hnm
 have hnz:=hF.modNames nm (af hnm2)
 rw[hnm1]
 obtain⟨R,hR⟩:∃R,zdp X.types 0 (nm++bs [46]++d.name)=R:=⟨_,rfl⟩
 rw[hR]
 by_cases q0:r2.2.e=0
 ·rw [aC q0]
  generalize zbN (fnT r1.1 r2.1) d.line d.col r2.2=T at*
  simp[q0]
  refine fP [16] ?_
  simp[zah]
  refine gM [0,1,2,3,4,5] mm (by simp[q0]) ?_
  simp
  refine fQ [] ?_
  simp
  refine gN hb1 ?_
  simp
  refine gN hfits ?_
  simp
  refine⟨by decide,?_⟩
  refine fP [] ?_
  simp only[zkZ,zpP,aC,aB,reduceIte,Nat.reduceEqDiff,zhd,zdL,Blk.fz_arr,zhQ,zec]
  refine St.cut (F:=w_ Pg c _ _ _) [(0,.c (.ptr 0 0)),(3,.c (.d (.rp X.enc 0))),(4,.c (.ptr 12 0)),(5,.c (.ptr 13 0)),(6,.c (.ptr 14 0)),(7,.c (.ptr 15 0)),(8,.c (.ptr 17 0)),(9,.c (.d (.bool ft)))] (fnB0 L T.2 [.pin t 0,.pin u 1,.pin v 2,.pin w 3,.pin x 4,.pin y 5] d r1.1 r2.1 (T.1) []) ?_ ?_ fun T' hT=>?_
  ·simp[zah]
  ·intro i
   by_cases q:i<18
   ·rcases(show i=0\/i=1\/i=2\/i=3\/i=4\/i=5\/i=6\/i=7\/i=8\/i=9\/i=10\/i=11\/i=12\/i=13\/i=14\/i=15\/i=16\/i=17 from by omega)with rfl|rfl|rfl|rfl|rfl|rfl|rfl|rfl|rfl|rfl|rfl|rfl|rfl|rfl|rfl|rfl|rfl|rfl<;>simp[zah]
   ·refine Eq.trans (b:=Blk.non) ?_ (zce (by simp;omega)).symm
    try simp[show i≠0 from by omega,show i≠1 from by omega,show i≠2 from by omega,show i≠3 from by omega,show i≠4 from by omega,show i≠5 from by omega,show i≠6 from by omega,show i≠7 from by omega,show i≠8 from by omega,show i≠9 from by omega,show i≠10 from by omega,show i≠11 from by omega,show i≠12 from by omega,show i≠13 from by omega,show i≠14 from by omega,show i≠15 from by omega,show i≠16 from by omega,show i≠17 from by omega]
    rw[zce (show 12<=i from by omega)]
    try rfl
  simp only[forall_mem_cons,cz,false_implies,implies_true,and_true]at hT
  obtain⟨l0,l3,l4,l5,l6,l7,l8,l9⟩:=hT
  simp[l0,l3,l4,l5,l6,l7,l8,l9]
  have P5:=pm.1
  generalize T.1=Ty at*
  generalize T.2=S2 at*
  obtain⟨S5,pa,hS5⟩:∃S5,SOk L S5 (8*30001+1+k)/\(if X.module=L.main.module/\X.decl=L.main.decl/\ft=false then zaW d.line d.col 14 S2 else S2)=S5:=by
   split
   ·exact⟨_,(fin S2 P5).2,rfl⟩
   ·exact⟨_,P5,rfl⟩
  rw[hS5]
  by_cases cm:X.module=L.main.module
  rotate_left
  rw[aB (fun z=>cm z.1)]at hS5
  subst hS5
  simp[cm,l0,l3,l4,l5,l6,l7,l8,l9]
  refine⟨by decide,?_⟩
  generalize S2=S5 at*
  rotate_left
  by_cases cd:X.decl=L.main.decl
  rotate_left
  rw[aB (fun z=>cd z.2.1)]at hS5
  subst hS5
  simp[cm,cd,l0,l3,l4,l5,l6,l7,l8,l9]
  refine⟨by decide,?_⟩
  generalize S2=S5 at*
  rotate_left
  rotate_left
  by_cases cf:ft=true
  rw[aB (fun z=>by rw[cf]at z;simp at z)]at hS5
  subst hS5
  simp[cm,cd,cf,l0,l3,l4,l5,l6,l7,l8,l9]
  refine⟨by decide,?_⟩
  generalize S2=S5 at*
  rotate_left
  rw[aC ⟨cm,cd,by simpa using cf⟩]at hS5
  have ma:=(fin S2 P5).1
  rw[hS5]at ma
  simp[cm,cd,cf,l0,l3,l4,l5,l6,l7,l8,l9]
  refine⟨by decide,?_⟩
  refine gM [0,1,2,3,4,5] ma (by simp[l0,l3,l4,l5,l6,l7,l8,l9]) ?_
  simp[l0,l3,l4,l5,l6,l7,l8,l9]
  all_goals
   have mi:=(minf S5 pa).1
   have pi:=(minf S5 pa).2
   generalize zan L d.body [(d.param,r1.1)] (S5)=r3 at*
   have mc:=zb6 L r3.1.1 r3.1.2 r2.1 d.body r3.2 (by have:=pi.sites;omega)
   have pc:=zbL (b:=k) (pi.less (by omega)) r3.1.1 r3.1.2 r2.1 d.body.line d.body.col
   generalize zaF r3.1.1 r3.1.2 r2.1 d.body.line d.body.col r3.2=r4 at*
   refine gM [0,1,2,3,4,5] mi (by simp[l0,l3,l4,l5,l6,l7,l8,l9]) ?_
   simp[l0,l3,l4,l5,l6,l7,l8,l9]
   refine gM [0,1,2,18,4,19] mc (by simp[l0,l3,l4,l5,l6,l7,l8,l9]) ?_
   simp[e1,hnm2,l0,l3,l4,l5,l6,l7,l8,l9]
   refine⟨by unfold zaf;omega,by unfold zaf;omega,by decide,?_⟩
   refine fK zaa hp (fun Y:Nat × fC=>Y.1<=X.types.length/\Y.2.size<=100+Y.1*20010/\zdp (X.types.drop Y.1) Y.1 Y.2=R) (fun Y=>fnTs X Y.1 Y.2) (fun _=>fnBs L r4.2 [.pin t 0,.pin u 1] Ty r4.1) (fun Y=>X.types.length-Y.1) (0,nm++bs [46]++d.name) [0,1,2,4,6,7,17,20,22,19] ⟨by simp,by simp only[ax,zeG,length_cons,length_nil];omega,by simpa using hR⟩ (by simp[l0,l3,l4,l5,l6,l7,l8,l9]) fun⟨j,z⟩ ⟨i1,i3,i2⟩=>?_
   unfold zfA
   simp only at i1 i3 i2
   simp
   apply gI<;>intro h
   ·have hj:j<X.types.length:=by simpa using h
    rw[zqx _ _ _ hj]at i2
    obtain⟨q,hq⟩:∃q,X.types[j]=q:=⟨_,rfl⟩
    rw[hq]at i2
    have hw:=wrap_i64 (n:=(j:Int)+1) (by have:=hXt;omega) (by have:=hXt;omega)
    have hsq:=zkx q
    by_cases j0:j=0
    ·subst j0
     simp[hj,hq]
     refine⟨by unfold zaf;omega,?_⟩
     refine gN (zno q) ?_
     simp
     refine⟨by unfold zaf;omega,?_⟩
     refine fD (0+1,z++bs [91]++zfj q) [0,1,2,3,4,5,6,7,8,9] ⟨by simp only;omega,by simp only[ax,zeG,length_cons,length_nil];omega,by simpa using i2⟩ (by simp only;omega) ?_
     simp[show IntKind.i64.wrap 1=1 from by decide]
    ·rw[aB j0]at i2
     simp[hj,hq,j0]
     refine⟨by unfold zaf;omega,?_⟩
     refine gN (zno q) ?_
     simp
     refine⟨by unfold zaf;omega,?_⟩
     refine fD (j+1,z++bs [44,32]++zfj q) [0,1,2,3,4,5,6,7,8,9] ⟨by simp only;omega,by simp only[ax,zeG,length_cons,length_nil];omega,i2⟩ (by simp only;omega) ?_
     simp[hw]
   have hj:j=X.types.length:=by simp at h;omega
   subst hj
   rw[aO,zdp]at i2
   subst i2
   have hfew:=pc.few
   have tf:(r4.2.funs.map ((fun x=>List.map AC.d x)∘Fun.enc)).take r4.2.funs.length=r4.2.funs.map ((fun x=>List.map AC.d x)∘Fun.enc):=aF (by simp)
   have td:(r4.2.bad.map ((fun x=>List.map AC.d x)∘Dia.enc)).take r4.2.bad.length=r4.2.bad.map ((fun x=>List.map AC.d x)∘Dia.enc):=aF (by simp)
   by_cases l0:0<X.types.length
   ·rw[aC l0]
    simp[l0,znw,znx,Fun.enc_length]
    refine⟨by unfold zaf;omega,by omega,by decide,?_⟩
    by_cases qe:r4.2.e=0
    ·simp[qe]
     exact fG [0,1,4,5,6,7,10,8,3,9] [4,5,4,4,4,4] (by simp[AV.erds,AV.erd,Dia.enc,tf,td])
    ·simp[qe]
     refine⟨by omega,by decide,?_⟩
     exact fG [0,1,4,5,6,7,10,8,11,9] [4,5,4,4,4,4] (by simp[AV.erds,AV.erd,Dia.enc,tf,td])
   ·rw[aB l0]
    simp[l0,znw,znx,Fun.enc_length]
    refine⟨by omega,by decide,?_⟩
    by_cases qe:r4.2.e=0
    ·simp[qe]
     exact fG [0,1,4,5,6,7,10,8,3,9] [4,5,4,4,4,4] (by simp[AV.erds,AV.erd,Dia.enc,tf,td])
    ·simp[qe]
     refine⟨by omega,by decide,?_⟩
     exact fG [0,1,4,5,6,7,10,8,11,9] [4,5,4,4,4,4] (by simp[AV.erds,AV.erd,Dia.enc,tf,td])
 ·rw [aB q0]
  simp[q0]
  refine fQ [.c 17 2] ?_
  simp
  refine gN hb1 ?_
  simp
  refine gN hfits ?_
  simp
  refine⟨by decide,?_⟩
  refine fP [16,18] ?_
  simp only[zkZ,zpP,aC,aB,reduceIte,Nat.reduceEqDiff,zhd,zdL,Blk.fz_arr,zhQ,zec,zcx,zuu]
  refine St.cut (F:=w_ Pg c _ _ _) [(0,.c (.ptr 0 0)),(3,.c (.d (.rp X.enc 0))),(4,.c (.ptr 12 0)),(5,.c (.ptr 13 0)),(6,.c (.ptr 14 0)),(7,.c (.ptr 15 0)),(8,.c (.ptr 17 0)),(9,.c (.d (.bool ft)))] (fnB0 L r2.2 [.pin t 0,.pin u 1,.pin v 2,.pin w 3,.pin x 4,.pin y 5] d r1.1 r2.1 (fnT r1.1 r2.1) [.dead]) ?_ ?_ fun T' hT=>?_
  ·simp[zah]
  ·intro i
   by_cases q:i<19
   ·rcases(show i=0\/i=1\/i=2\/i=3\/i=4\/i=5\/i=6\/i=7\/i=8\/i=9\/i=10\/i=11\/i=12\/i=13\/i=14\/i=15\/i=16\/i=17\/i=18 from by omega)with rfl|rfl|rfl|rfl|rfl|rfl|rfl|rfl|rfl|rfl|rfl|rfl|rfl|rfl|rfl|rfl|rfl|rfl|rfl<;>simp[zah,fnT,zcc]
   ·refine Eq.trans (b:=Blk.non) ?_ (zce (by simp;omega)).symm
    try simp[show i≠0 from by omega,show i≠1 from by omega,show i≠2 from by omega,show i≠3 from by omega,show i≠4 from by omega,show i≠5 from by omega,show i≠6 from by omega,show i≠7 from by omega,show i≠8 from by omega,show i≠9 from by omega,show i≠10 from by omega,show i≠11 from by omega,show i≠12 from by omega,show i≠13 from by omega,show i≠14 from by omega,show i≠15 from by omega,show i≠16 from by omega,show i≠17 from by omega,show i≠18 from by omega]
    rw[zce (show 12<=i from by omega)]
    try rfl
  simp only[forall_mem_cons,cz,false_implies,implies_true,and_true]at hT
  obtain⟨l0,l3,l4,l5,l6,l7,l8,l9⟩:=hT
  simp[l0,l3,l4,l5,l6,l7,l8,l9]
  have P5:=p2.1
  generalize fnT r1.1 r2.1=Ty at*
  generalize r2.2=S2 at*
  obtain⟨S5,pa,hS5⟩:∃S5,SOk L S5 (8*30001+1+k)/\(if X.module=L.main.module/\X.decl=L.main.decl/\ft=false then zaW d.line d.col 14 S2 else S2)=S5:=by
   split
   ·exact⟨_,(fin S2 P5).2,rfl⟩
   ·exact⟨_,P5,rfl⟩
  rw[hS5]
  by_cases cm:X.module=L.main.module
  rotate_left
  rw[aB (fun z=>cm z.1)]at hS5
  subst hS5
  simp[cm,l0,l3,l4,l5,l6,l7,l8,l9]
  refine⟨by decide,?_⟩
  generalize S2=S5 at*
  rotate_left
  by_cases cd:X.decl=L.main.decl
  rotate_left
  rw[aB (fun z=>cd z.2.1)]at hS5
  subst hS5
  simp[cm,cd,l0,l3,l4,l5,l6,l7,l8,l9]
  refine⟨by decide,?_⟩
  generalize S2=S5 at*
  rotate_left
  rotate_left
  by_cases cf:ft=true
  rw[aB (fun z=>by rw[cf]at z;simp at z)]at hS5
  subst hS5
  simp[cm,cd,cf,l0,l3,l4,l5,l6,l7,l8,l9]
  refine⟨by decide,?_⟩
  generalize S2=S5 at*
  rotate_left
  rw[aC ⟨cm,cd,by simpa using cf⟩]at hS5
  have ma:=(fin S2 P5).1
  rw[hS5]at ma
  simp[cm,cd,cf,l0,l3,l4,l5,l6,l7,l8,l9]
  refine⟨by decide,?_⟩
  refine gM [0,1,2,3,4,5] ma (by simp[l0,l3,l4,l5,l6,l7,l8,l9]) ?_
  simp[l0,l3,l4,l5,l6,l7,l8,l9]
  all_goals
   have mi:=(minf S5 pa).1
   have pi:=(minf S5 pa).2
   generalize zan L d.body [(d.param,r1.1)] (S5)=r3 at*
   have mc:=zb6 L r3.1.1 r3.1.2 r2.1 d.body r3.2 (by have:=pi.sites;omega)
   have pc:=zbL (b:=k) (pi.less (by omega)) r3.1.1 r3.1.2 r2.1 d.body.line d.body.col
   generalize zaF r3.1.1 r3.1.2 r2.1 d.body.line d.body.col r3.2=r4 at*
   refine gM [0,1,2,3,4,5] mi (by simp[l0,l3,l4,l5,l6,l7,l8,l9]) ?_
   simp[l0,l3,l4,l5,l6,l7,l8,l9]
   refine gM [0,1,2,19,4,20] mc (by simp[l0,l3,l4,l5,l6,l7,l8,l9]) ?_
   simp[e1,hnm2,l0,l3,l4,l5,l6,l7,l8,l9]
   refine⟨by unfold zaf;omega,by unfold zaf;omega,by decide,?_⟩
   refine fK zaa hp (fun Y:Nat × fC=>Y.1<=X.types.length/\Y.2.size<=100+Y.1*20010/\zdp (X.types.drop Y.1) Y.1 Y.2=R) (fun Y=>fnTs X Y.1 Y.2) (fun _=>fnBs L r4.2 [.pin t 0,.pin u 1] Ty r4.1) (fun Y=>X.types.length-Y.1) (0,nm++bs [46]++d.name) [0,1,2,4,6,7,17,21,23,20] ⟨by simp,by simp only[ax,zeG,length_cons,length_nil];omega,by simpa using hR⟩ (by simp[l0,l3,l4,l5,l6,l7,l8,l9]) fun⟨j,z⟩ ⟨i1,i3,i2⟩=>?_
   unfold zfA
   simp only at i1 i3 i2
   simp
   apply gI<;>intro h
   ·have hj:j<X.types.length:=by simpa using h
    rw[zqx _ _ _ hj]at i2
    obtain⟨q,hq⟩:∃q,X.types[j]=q:=⟨_,rfl⟩
    rw[hq]at i2
    have hw:=wrap_i64 (n:=(j:Int)+1) (by have:=hXt;omega) (by have:=hXt;omega)
    have hsq:=zkx q
    by_cases j0:j=0
    ·subst j0
     simp[hj,hq]
     refine⟨by unfold zaf;omega,?_⟩
     refine gN (zno q) ?_
     simp
     refine⟨by unfold zaf;omega,?_⟩
     refine fD (0+1,z++bs [91]++zfj q) [0,1,2,3,4,5,6,7,8,9] ⟨by simp only;omega,by simp only[ax,zeG,length_cons,length_nil];omega,by simpa using i2⟩ (by simp only;omega) ?_
     simp[show IntKind.i64.wrap 1=1 from by decide]
    ·rw[aB j0]at i2
     simp[hj,hq,j0]
     refine⟨by unfold zaf;omega,?_⟩
     refine gN (zno q) ?_
     simp
     refine⟨by unfold zaf;omega,?_⟩
     refine fD (j+1,z++bs [44,32]++zfj q) [0,1,2,3,4,5,6,7,8,9] ⟨by simp only;omega,by simp only[ax,zeG,length_cons,length_nil];omega,i2⟩ (by simp only;omega) ?_
     simp[hw]
   have hj:j=X.types.length:=by simp at h;omega
   subst hj
   rw[aO,zdp]at i2
   subst i2
   have hfew:=pc.few
   have tf:(r4.2.funs.map ((fun x=>List.map AC.d x)∘Fun.enc)).take r4.2.funs.length=r4.2.funs.map ((fun x=>List.map AC.d x)∘Fun.enc):=aF (by simp)
   have td:(r4.2.bad.map ((fun x=>List.map AC.d x)∘Dia.enc)).take r4.2.bad.length=r4.2.bad.map ((fun x=>List.map AC.d x)∘Dia.enc):=aF (by simp)
   by_cases l0:0<X.types.length
   ·rw[aC l0]
    simp[l0,znw,znx,Fun.enc_length]
    refine⟨by unfold zaf;omega,by omega,by decide,?_⟩
    by_cases qe:r4.2.e=0
    ·simp[qe]
     exact fG [0,1,4,5,6,7,10,8,3,9] [4,5,4,4,4,4] (by simp[AV.erds,AV.erd,Dia.enc,tf,td])
    ·simp[qe]
     refine⟨by omega,by decide,?_⟩
     exact fG [0,1,4,5,6,7,10,8,11,9] [4,5,4,4,4,4] (by simp[AV.erds,AV.erd,Dia.enc,tf,td])
   ·rw[aB l0]
    simp[l0,znw,znx,Fun.enc_length]
    refine⟨by omega,by decide,?_⟩
    by_cases qe:r4.2.e=0
    ·simp[qe]
     exact fG [0,1,4,5,6,7,10,8,3,9] [4,5,4,4,4,4] (by simp[AV.erds,AV.erd,Dia.enc,tf,td])
    ·simp[qe]
     refine⟨by omega,by decide,?_⟩
     exact fG [0,1,4,5,6,7,10,8,11,9] [4,5,4,4,4,4] (by simp[AV.erds,AV.erd,Dia.enc,tf,td])
end
end Go.Gr
namespace Go.Gr
open Go.Abs Go.Proofs List
abbrev chT(L:Lnk)(i:Nat):List (Nat × AV):=[(5,.c (.d (.int .i64 i))),(4,.c (.ptr 2 0)),(2,.c (.ptr 0 0)),(1,.c (.d (.rp L.enc 0)))]
abbrev chB(L:Lnk)(s:CS):List Blk:=[.box [.d (.sl true 13 []),.d (.int .i64 0),.d (.sl true 3 [])],.box [.d (.int .i64 256),.msl 3 6 0 s.tab.length],ckB L s (.sl true 1 []) (.sl true 4 []) 1 3 4 5,funA s.funs,sitA s.sites,diaA s.bad,tabA s.tab]
abbrev chT4(i:Nat):List (Nat × AV):=[(10,.c (.d (.int .i64 i))),(4,.c (.ptr 2 0)),(2,.c (.ptr 0 0))]
abbrev chB4(L:Lnk)(s:CS)(vD wD:D):List Blk:=[.box [.d (.sl true 13 []),.d (.int .i64 0),.d (.sl true 3 [])],.box [.d (.int .i64 256),.msl 3 6 0 s.tab.length],ckB L s vD wD 1 3 4 5,funA s.funs,sitA s.sites,diaA s.bad,tabA s.tab]
theorem zFI(a0 a1 a2 a3 a4 a5 a6 a7 a8 a9 a10 a11 a12 a13 a14 a15 a16:AC):cut [a0,a1,a2,a3,a4,a5,a6,a7,a8,a9,a10,a11,a12,a13,a14,a15,a16] 7 3=[a7,a8,a9]:=rfl
theorem zFJ(L:Lnk):put (splice [.d (.sl true 1 []),.d (.sl true 2 []),.d (.sl true 1 []),.d (.str (bs [])),.d (.int .i64 0),.d (.int .i64 0),.d (.sc (.pointer none)),.d (.sl true 13 []),.d (.int .i64 0),.d (.sl true 3 []),.d (.sl true 4 []),.d (.int .i64 0),.d (.sl true 1 []),.d (.sl true 4 []),.d (.int .i64 0),.d (.int .i64 0),.d (.int .i64 0)] 0 (L.enc.map AC.d)) 6 [AC.ptr 1 0]=[.d (.sl false 1 (encS L.names)),.d (.sl false 2 (L.mods.map Mdl.enc)),.d (.sl false 1 (L.scopes.map scpE)),.d (.str L.main.name),.d (.int .i64 L.main.module),.d (.int .i64 L.main.decl),.ptr 1 0,.d (.sl true 13 []),.d (.int .i64 0),.d (.sl true 3 []),.d (.sl true 4 []),.d (.int .i64 0),.d (.sl true 1 []),.d (.sl true 4 []),.d (.int .i64 0),.d (.int .i64 0),.d (.int .i64 0)]:=rfl
theorem zCz(L:Lnk)(hG:LinkG L):PCall Pg 17 [.agg L.enc] (.tup [.agg (zge L).1.enc,.one (.sl false 4 ((zge L).2.map Dia.enc))]):=by
 refine zwY (by simp) fun o c hN hp=>?_
 obtain⟨R,hR⟩:∃R,zge L=R:=⟨_,rfl⟩
 rw[hR]
 unfold zge at hR
 unfold zm6
 simp
 refine fQ [.c 2 7,.c 2 9,.c 2 10,.c 1 1] ?_
 simp[zFJ]
 refine fK zaa hp (fun Y:Nat × CS=>Y.1<=L.mods.length/\TOk L Y.2 0/\Y.2.funs=[]/\Y.2.sites=[]/\Y.2.bad=[]/\Y.2.module=0/\Y.2.e=0/\Y.2.line=0/\Y.2.col=0/\zcz L (L.mods.drop Y.1) Y.1 Y.2=zcz L L.mods 0 cs0) (fun Y=>chT L Y.1) (fun Y=>chB L Y.2) (fun Y=>L.mods.length-Y.1) (0,cs0) [0,1,2,3,4,5,6] ⟨by simp,⟨by simp[cs0],by simp[cs0],by simp[cs0],by simp[cs0],by simp[cs0]⟩,rfl,rfl,rfl,rfl,rfl,rfl,rfl,by simp⟩ (by simp[cs0]) fun⟨i,S⟩ ⟨i1,i2,i3,i4,i5,i6,i7,i8,i9,i10⟩=>?_
 unfold zkr
 simp only at i1 i2 i3 i4 i5 i6 i7 i8 i9 i10
 simp
 apply gI<;>intro h
 ·have hi:i<L.mods.length:=by simpa using h
  obtain⟨m,hm⟩:∃m,L.mods[i]=m:=⟨_,rfl⟩
  rw[aG hi,hm,zcz]at i10
  simp[hi,hm]
  refine fK zaa hp (fun Y:Nat × CS=>Y.1<=m.decs.length/\TOk L Y.2 0/\Y.2.funs=[]/\Y.2.sites=[]/\Y.2.bad=[]/\Y.2.module=0/\Y.2.e=0/\Y.2.line=0/\Y.2.col=0/\(if 0<(zdF L i (m.decs.drop Y.1) Y.1 Y.2).2.length then zdF L i (m.decs.drop Y.1) Y.1 Y.2 else zcz L (L.mods.drop (i+1)) (i+1) (zdF L i (m.decs.drop Y.1) Y.1 Y.2).1)=zcz L L.mods 0 cs0) (fun Y=>(6,.c (.d (.int .i64 Y.1)))::chT L i) (fun Y=>chB L Y.2) (fun Y=>m.decs.length-Y.1) (0,S) [0,1,2,3,4,5,6] ⟨by simp,i2,i3,i4,i5,i6,i7,i8,i9,by simpa using i10⟩ (by simp) fun⟨k,S2⟩ ⟨j1,j2,j3,j4,j5,j6,j7,j8,j9,j10⟩=>?_
  unfold zkq
  simp only at j1 j2 j3 j4 j5 j6 j7 j8 j9 j10
  have hmi:L.mods[i]?=some m:=by rw[aA hi,hm]
  simp[hi,hm]
  apply gI<;>intro h
  ·have hk:k<m.decs.length:=by simpa using h
   obtain⟨d,hd⟩:∃d,m.decs[k]=d:=⟨_,rfl⟩
   rw[aG hk,hd,zdF]at j10
   have hdl:=(hG.small m (af hmi)).decs
   have hw:=wI (n:=(k:Int)+1)
   by_cases c0:0<d.vars.length
   ·rw[aC c0]at j10
    simp[hi,hm,hk,hd,c0]
    refine fD (k+1,S2) [0,1,2,3,4,5,6] ⟨by simp only;omega,j2,j3,j4,j5,j6,j7,j8,j9,j10⟩ (by simp only;omega) ?_
    simp[hw]
   rw[aB c0]at j10
   have hx:∀x,x∈(addR 256 S2.tab ⟨i,k,[]⟩).2->EntOk L ⟨bs [],x.module,x.decl⟩/\x.types.length<=1000000:=fun x hx=>by
    have hm2:L.mods.getD i noM=m:=by rw[aH,hmi];try rfl
    rcases zoT hx with hx|hx
    ·exact j2.ist x hx
    ·subst hx
     exact⟨⟨by simp only;omega,by simp only;omega,by simp only;omega,by simp only[az];rw[hm2];omega⟩,by simp⟩
   have hx2:=zkI j2.tab ⟨i,k,[]⟩
   have le4:L.enc[4]?=some (D.int .i64 L.main.module):=rfl
   have le5:L.enc[5]?=some (D.int .i64 L.main.decl):=rfl
   have ma:=MCall.erd (args:=[.c (.ptr 0 0),.ag [.d (.int .i64 i),.d (.int .i64 k),.d (.sl true 4 [])]]) (zAW 256 S2.tab (by have:=j2.tab;omega) ⟨i,k,[]⟩ (by simp)) (by simp[AV.erds,AV.erd,AC.erd,D.erd,D.erdL,D.erdE,Ist.enc])
   generalize addR 256 S2.tab ⟨i,k,[]⟩=r at*
   simp only at j10
   by_cases r0:r.1.2=0
   rotate_left
   ·simp only[aC (show r.1.2≠0 from r0)]at j10
    simp at j10
    rw[<-j10]at hR
    simp at hR
    subst hR
    simp[hi,hm,hk,hd,c0]
    refine gM [1,6] ma (by simp[Ist.enc]) ?_
    simp[r0]
    refine⟨by decide,?_⟩
    refine fP [] ?_
    simp[zfl,Prg.enc,Dia.enc]
    try decide
   ·simp only[aB (show¬r.1.2≠0 from fun z=>z r0)]at j10
    by_cases cm:(i:Int)=L.main.module
    ·by_cases cd:(k:Int)=L.main.decl
     ·simp only[aC (show(i:Int)=L.main.module/\(k:Int)=L.main.decl from⟨cm,cd⟩)]at j10
      simp[hi,hm,hk,hd,c0]
      refine gM [1,6] ma (by simp[Ist.enc]) ?_
      simp[r0,cm,cd,le4,le5]
      refine fD (k+1,{S2 with tab:=r.2,main:=r.1.1}) [0,1,2,3,4,5,8] ⟨by simp only;omega,⟨hx2,hx,j2.sites,j2.funs,j2.bad⟩,j3,j4,j5,j6,j7,j8,j9,j10⟩ (by simp only;omega) ?_
      simp
      rw[<-cd];exact hw
     ·simp only[aB (show¬((i:Int)=L.main.module/\(k:Int)=L.main.decl)from fun z=>cd z.2)]at j10
      simp[hi,hm,hk,hd,c0]
      refine gM [1,6] ma (by simp[Ist.enc]) ?_
      simp[r0,cm,cd,le4,le5]
      refine fD (k+1,{S2 with tab:=r.2}) [0,1,2,3,4,5,8] ⟨by simp only;omega,⟨hx2,hx,j2.sites,j2.funs,j2.bad⟩,j3,j4,j5,j6,j7,j8,j9,j10⟩ (by simp only;omega) ?_
      simp[hw]
    ·simp only[aB (show¬((i:Int)=L.main.module/\(k:Int)=L.main.decl)from fun z=>cm z.1)]at j10
     simp[hi,hm,hk,hd,c0]
     refine gM [1,6] ma (by simp[Ist.enc]) ?_
     simp[r0,cm,le4,le5]
     refine fD (k+1,{S2 with tab:=r.2}) [0,1,2,3,4,5,8] ⟨by simp only;omega,⟨hx2,hx,j2.sites,j2.funs,j2.bad⟩,j3,j4,j5,j6,j7,j8,j9,j10⟩ (by simp only;omega) ?_
     simp[hw]
  ·have hk:k=m.decs.length:=by simp at h;omega
   subst hk
   rw[aO,zdF]at j10
   simp at j10
   have hw:=wrap_i64 (n:=(i:Int)+1) (by have:=hG.good.few;omega) (by have:=hG.good.few;omega)
   refine fD (i+1,S2) [0,1,2,3,4,5,6] ⟨by simp only;omega,j2,j3,j4,j5,j6,j7,j8,j9,j10⟩ (by simp only;omega) ?_
   simp[hw]
 ·have hi:i=L.mods.length:=by simp at h;omega
  subst hi
  rw[aO,zcz]at i10
  rw[<-i10]at hR
  simp only[length_nil,Nat.lt_irrefl,if_false]at hR
  obtain⟨F,hF⟩:∃F,zbI L 257 0 S=F:=⟨_,rfl⟩
  rw[hF]at hR
  refine fK zaa hp (fun Y:Nat × CS × D × D=>Y.1<=256/\TOk L Y.2.1 Y.1/\zbI L (257-Y.1) Y.1 Y.2.1=F) (fun Y=>chT4 Y.1) (fun Y=>chB4 L Y.2.1 Y.2.2.1 Y.2.2.2) (fun Y=>257-Y.1) (0,S,.sl true 1 [],.sl true 4 []) [0,1,2,3,4,5,6] ⟨by simp,i2,by simpa using hF⟩ (by simp) fun⟨j,S2,vD,wD⟩ ⟨j1,j2,j3⟩=>?_
  unfold zks
  simp only at j1 j2 j3
  simp
  apply gI<;>intro h
  ·have hj:j<S2.tab.length:=by simpa using h
   have hjt:=j2.tab
   obtain⟨X,hX⟩:∃X,S2.tab[j]=X:=⟨_,rfl⟩
   have hXm:X∈S2.tab:=hX▸aS hj
   have hXi:=j2.ist X hXm
   have hw:=wI (n:=(j:Int)+1)
   have mf:=zu3 L hG X hXi.1 hXi.2 S2 vD wD ((257-(j+1))*240009) (zvQ hXi.1 hXi.2 (by omega) j2)
   have mk:=zk6 hG hXi.1 hXi.2 (by omega) j2
   have e3:zbI L (257-(j+1)) (j+1) (funC L X S2)=F:=by
    have e:257-j=(257-(j+1))+1:=by omega
    rw[e,zbI,aC hj]at j3
    rw[aH,aA hj,hX]at j3
    exact j3
   generalize funC L X S2=S3 at*
   simp[hj,hX]
   refine gK [2,1,3,4,5,6] mf ?_
   simp
   refine fD (j+1,S3,.sl false 1 (encS S3.vars),.sl false 4 (S3.wth.map Typ.enc)) [0,1,2,7,8,9,10] ⟨by simp only;omega,mk,e3⟩ (by simp only;omega) ?_
   simp[hw]
  ·have hj:¬j<S2.tab.length:=by simpa using h
   have e3:S2=F:=by
    have e:257-j=(257-(j+1))+1:=by omega
    rw[e,zbI,aB hj]at j3
    exact j3
   subst e3
   by_cases hb:0<S2.bad.length
   ·rw[aC hb]at hR
    subst hR
    simp[hb]
    refine⟨by decide,?_⟩
    refine fP [5] ?_
    simp[zfl,Prg.enc]
    exact aF (by simp)
   ·rw[aB hb]at hR
    subst hR
    simp[hb,zFI]
    refine fP [3,4] ?_
    simp[Prg.enc]
    exact⟨aF (by simp),aF (by simp)⟩
@[simp] theorem Prg.enc_length(p:Prg):p.enc.length=3:=rfl
@[simp] theorem Prg.cut_map(p:Prg):cut (p.enc.map AC.d) 0 3=p.enc.map .d:=rfl
@[simp] theorem Prg.cut_enc(p:Prg):cut p.enc 0 3=p.enc:=rfl
@[simp] theorem Prg.er_map(p:Prg):p.enc.map D.er=p.enc:=rfl
abbrev prV(r:Prg × Bool):DV:=.tup [.agg r.1.enc,.one (.bool r.2)]
def zq5(l:List (fC × fC)):PCall Pg 8 [.one (.sl false 2 (l.map srcE))] (prV (zbU l)):=by
 refine ztm (by simp) fun o c hN hp=>?_
 obtain⟨R,hR⟩:∃R,zbU l=R:=⟨_,rfl⟩
 rw[hR]
 unfold zbU at hR
 have hfew:=zFx l
 obtain⟨f,hf⟩:∃f,(decide (l.length<=20)&&fewL l 0)=f:=⟨_,rfl⟩
 rw[hf]at hfew
 unfold zkt
 simp
 refine gN hfew ?_
 simp
 cases f with
 | false=>
  have hc:20<l.length\/fewL l 0=false\/5000<sumL l:=by
   simp at hf
   by_cases q:l.length<=20
   ·exact .inr (.inl (hf q))
   ·exact .inl (by omega)
  rw[aC hc]at hR
  refine fK zaa hp (fun _:Nat=>True) (fun _=>[(6,.c (.d (.int .i64 0))),(5,.c (.d (.int .i64 0))),(4,.c (.d (.bool false))),(2,.c (.ptr 0 0)),(0,.c (.d (.sl false 2 (l.map srcE))))]) (fun _=>[.box [.d (.sl true 13 []),.d (.int .i64 0),.d (.sl true 3 [])]]) (fun _=>0) 0 [0] (by simp) (by simp) fun j h1=>?_
  unfold zfB
  simp
  apply gI<;>intro h
  ·subst hR
   simp[zfl,Prg.enc]
  ·subst hR
   simp[zfl,Prg.enc]
 | true=>
  simp at hf
  have hl:=hf.1
  refine fK zaa hp (fun Y:Nat × Nat=>Y.1<=l.length/\Y.2<=70000/\fewL (l.drop Y.1) Y.2=true/\(Y.2:Int)+sumL (l.drop Y.1)=sumL l) (fun Y=>[(6,.c (.d (.int .i64 Y.1))),(5,.c (.d (.int .i64 Y.2))),(4,.c (.d (.bool true))),(2,.c (.ptr 0 0)),(0,.c (.d (.sl false 2 (l.map srcE))))]) (fun _=>[.box [.d (.sl true 13 []),.d (.int .i64 0),.d (.sl true 3 [])]]) (fun Y=>l.length-Y.1) (0,0) [0] ⟨by simp,by simp,by simpa using hf.2,by simp⟩ (by simp) fun⟨j,n⟩ ⟨i1,i2,i3,i4⟩=>?_
  unfold zfB
  simp only at i1 i2 i3 i4
  simp
  apply gI<;>intro h
  ·have hj:j<l.length:=by simpa using h
   obtain⟨s,hs⟩:∃s,l[j]=s:=⟨_,rfl⟩
   rw[aG hj,hs,fewL]at i3
   rw[aG hj,hs,sumL]at i4
   have hw:=wI (n:=(j:Int)+1)
   by_cases c1:(70000:Int)-n<s.2.size\/1000<s.1.size
   ·rw[aC c1]at i3;cases i3
   rw[aB c1]at i3
   have hw3:=wI (n:=(n:Int)+s.2.size)
   simp[hj,hs]
   refine fD (j+1,n+s.2.size) [0] ⟨by simp only;omega,by simp only;omega,by simpa using i3,by simp only;omega⟩ (by simp only;omega) ?_
   simp[hw,hw3]
  ·have hj:j=l.length:=by simp at h;omega
   subst hj
   rw[aO,sumL]at i4
   have i5:sumL l=n:=by omega
   by_cases c5:(5000:Int)<n
   ·rw[aC (.inr (.inr (by omega)))]at hR
    subst hR
    simp[c5,zfl,Prg.enc]
   ·have hc:¬(20<l.length\/fewL l 0=false\/5000<sumL l):=by
     rw[hf.2]
     simp
     omega
    rw[aB hc]at hR
    have hlk:=zEi l
    have hlg:=zl3 l
    generalize zgk l=x at*
    simp only at hR
    simp[c5]
    refine gN hlk ?_
    simp
    by_cases c6:0<x.2.length
    ·rw[aC c6]at hR
     subst hR
     simp[c6,zfl,Prg.enc]
    ·rw[aB c6]at hR
     have hck:=zCz x.1 (hlg (by omega))
     generalize zge x.1=y at*
     simp[c6]
     refine gN hck ?_
     subst hR
     simp
end Go.Gr
namespace Go.Gr
open Go.Abs Go.Proofs
def insL(l:List Int)(x:Int):List Int:=if x∈l then l else l++[x]
def addL(l r:List Int):List Int:=r.foldl insL l
def putI(x:Int):List Int->List Int
 |[]=>[x]
 |y::l=>if x<=y then x::y::l else y::putI x l
def srtI:List Int->List Int
 |[]=>[]
 |x::l=>putI x (srtI l)
structure Todo where
 name:fC
 body:Cor
 caps:List Int
 deep:Int
 none:Bool
structure Flt where
 name:fC
 caps:Int
 body:Cor
def idxI(x:Int):List Int->Nat->Int
 |[],_=> -1
 |y::l,i=>if x=y then i else idxI x l (i+1)
def numT(t:Todo)(n:Int):Int:=if t.deep<=n then n-t.deep+t.caps.length else idxI n t.caps 0
mutual
def rawV:Cor->Int->List Int
 |.mk k n _ _ _ _ _ ks,b=>(if k=4/\n<b then [n]else [])++zD3 ks b
def zD3:List Cor->Int->List Int
 |[],_=>[]
 |c::l,b=>rawV c b++zD3 l b
end
def zD4(c:Cor)(b:Int):List Int:=srtI (addL [] (rawV c b))
mutual
def zGN(t:Todo):Cor->Int->List Todo->Cor × List Todo
 | .mk k n tx is ns ts cs ks=>fun deep l=>
  if k=4 then(.mk k (numT t n) tx is ns ts cs ks,l)
  else if k=5 then
   (.mk 23 l.length (bs []) ((zD4 (ks.getD 0 noC) deep).map (numT t)) [] [] [] [],l++[⟨t.name++bs [39],ks.getD 0 noC,zD4 (ks.getD 0 noC) deep,deep,false⟩])
  else(.mk k n tx is ns ts cs (zvl t k ks 0 deep l).1,(zvl t k ks 0 deep l).2)
def zvl(t:Todo)(k:Int):List Cor->Nat->Int->List Todo->List Cor × List Todo
 |[]=>fun _ _ l=>([],l)
 |c::r=>fun i deep l=>
  let x:=zGN t c (if k=18 then deep+i else deep) l
  let y:=zvl t k r (i+1) deep x.2
  (x.1::y.1,y.2)
end
mutual
def csz:Cor->Nat
 |.mk _ _ _ _ _ _ _ ks=>1+cszs ks
def cszs:List Cor->Nat
 |[]=>0
 |c::l=>csz c+cszs l
end
mutual
def wfC:Nat->Cor->Prop
 |m,.mk k n _ _ _ ts _ ks=>k≠23/\(k=18->ks.length<=2)/\(k=21->ks.length=1/\ts.length=2)/\(k=4->0<=n/\n<m/\ks=[])/\(k=5->ks.length=1)/\wfCs m k ks 0
def wfCs:Nat->Int->List Cor->Nat->Prop
 |_,_,[],_=>True
 |m,k,c::l,i=>wfC (if k=5 then m+1 else if k=18 then m+i else m) c/\wfCs m k l (i+1)
end
def CW(m b:Nat)(c:Cor):Prop:=wfC m c/\csz c<=b
def CW.less{m b b':Nat}{c:Cor}(h:CW m b c)(hb:b<=b'):CW m b' c:=⟨h.1,ak h.2 hb⟩
def CW.n0(m:Nat)(k n:Int)(t:fC)(h4:k≠4)(h5:k≠5)(h23:k≠23)(h21:k≠21):CW m 1 (.mk k n t [] [] [] [] []):=by
 simp[CW,wfC,wfCs,csz,cszs,h4,h5,h23,h21]
def CW.n1{m b:Nat}{k n:Int}{t:fC}{ns:List fC}{ts:List Typ}{c:Cor}(h:CW m b c)(h4:k≠4)(h5:k≠5)(h23:k≠23)(h21:k=21->ts.length=2):CW m (b+1) (.mk k n t [] ns ts [] [c]):=by
 have:=h.2
 refine⟨by simpa[wfC,wfCs,h4,h5,h23]using ⟨h21,h.1⟩,by simp only[csz,cszs];omega⟩
def CW.n2{m b b':Nat}{k n:Int}{t:fC}{ns:List fC}{ts:List Typ}{c d:Cor}(h:CW m b c)(h':CW m b' d)(h4:k≠4)(h5:k≠5)(h18:k≠18)(h23:k≠23)(h21:k≠21):CW m (b+b'+1) (.mk k n t [] ns ts [] [c,d]):=by
 have:=h.2
 have:=h'.2
 refine⟨by simpa[wfC,wfCs,h4,h5,h18,h23,h21]using ⟨h.1,h'.1⟩,by simp only[csz,cszs];omega⟩
def CW.n3{m b b' b'':Nat}{k n:Int}{t:fC}{ns:List fC}{ts:List Typ}{c d e:Cor}(h:CW m b c)(h':CW m b' d)(h'':CW m b'' e)(h4:k≠4)(h5:k≠5)(h18:k≠18)(h23:k≠23)(h21:k≠21):CW m (b+b'+b''+1) (.mk k n t [] ns ts [] [c,d,e]):=by
 have:=h.2
 have:=h'.2
 have:=h''.2
 refine⟨by simpa[wfC,wfCs,h4,h5,h18,h23,h21]using ⟨h.1,h'.1,h''.1⟩,by simp only[csz,cszs];omega⟩
def CW.noC(m:Nat):CW m 1 noC:=CW.n0 m 0 0 _ (by decide) (by decide) (by decide) (by decide)
def CW.cast{m b:Nat}{x:Cor}(h:CW m b x)(t u:Typ)(ln cl:Int)(s:CS):CW m (b+1) (za8 x t u ln cl s).1:=by
 unfold za8
 split
 ·exact h.less (by omega)
 ·exact h.n1 (by decide) (by decide) (by decide) (fun _=>rfl)
def CW.coerce{m b:Nat}{x:Cor}(h:CW m b x)(t u:Typ)(ln cl:Int)(s:CS):CW m (b+1) (zaF x t u ln cl s).1:=by
 unfold zaF
 split
 ·exact h.less (by omega)
 split
 ·exact h.less (by omega)
 split
 ·exact h.cast _ _ _ _ _
 ·exact h.less (by omega)
def CW.any{m b:Nat}{x:(Cor × Typ) × CS}(h:CW m b x.1.1)(u:Typ)(ln cl:Int):CW m (b+1) (anyC u ln cl x).1.1:=by
 unfold anyC
 split
 ·exact h.cast _ _ _ _ _
 ·exact h.less (by omega)
def CW.global(L:Lnk)(m:Nat)(ln cl:Int)(e:Ent)(l:List Typ)(s:CS):CW m 1 (zbO L ln cl e l s).1.1:=by
 unfold zbO
 split
 ·exact CW.noC m
 ·exact CW.n0 m 6 _ _ (by decide) (by decide) (by decide) (by decide)
def zvm{m:Nat}{k:Int}(h5:k≠5)(h18:k≠18):∀{l:List Cor} {i:Nat},(∀c,c∈l->wfC m c)->wfCs m k l i
 |[],_,_=>by simp[wfCs]
 |c::l,i,h=>by
  rw[wfCs,aB h5,aB h18]
  exact⟨h c (by simp),zvm h5 h18 fun x hx=>h x (by simp[hx])⟩
end Go.Gr
namespace Go.Gr
open Go.Abs Go.Proofs List
def WInf(b:Nat)(i:Inf):Prop:=∀env s,CW env.length b (i env s).1.1
def WInf.less{b b':Nat}{i:Inf}(h:WInf b i)(hb:b<=b'):WInf b' i:=fun env s=>(h env s).less hb
def zfb(n:Nod){b:Nat}{i:Inf}(h:WInf b i)(t:Typ)(env:Env)(s:CS):CW env.length (b+1) (zbl n i t env s).1:=(h env s).coerce _ _ _ _ _
section
variable (L:Lnk)
def zEL(n:Nod):WInf 1 (zdO L n):=fun env s=>by
 unfold zdO
 simp only
 split
 ·rename_i h
  have:=zps env n.text
  have h0:=h.1
  refine⟨?_,by simp[cN,csz,cszs]⟩
  simp only[cN,wfC,wfCs,and_true,true_and]
  exact⟨by decide,fun h=>absurd h (by decide),fun h=>absurd h (by decide),fun _=>⟨h0,by omega⟩,fun h=>absurd h (by decide)⟩
 repeat' split
 all_goals first|exact CW.noC _|exact CW.global L _ _ _ _ _ _
def zGC(n a:Nod){ba bb:Nat}{ia ib:Inf}(ha:WInf ba ia)(hb:WInf bb ib):WInf (ba+bb+4) (letC n a ia ib):=fun env s=>by
 unfold letC
 simp only
 obtain⟨y,hy⟩:∃y,(if 0<n.types.length/\(ia env s).2.e=0 then(((zaF (ia env s).1.1 (ia env s).1.2 (zar (n.types.getD 0 noT) n.line n.col (ia env s).2).1 a.line a.col (zar (n.types.getD 0 noT) n.line n.col (ia env s).2).2).1,(zar (n.types.getD 0 noT) n.line n.col (ia env s).2).1),(zaF (ia env s).1.1 (ia env s).1.2 (zar (n.types.getD 0 noT) n.line n.col (ia env s).2).1 a.line a.col (zar (n.types.getD 0 noT) n.line n.col (ia env s).2).2).2)else ia env s)=y:=⟨_,rfl⟩
 have h1:CW env.length (ba+1) y.1.1:=by
  rw[<-hy]
  split
  ·exact(ha env s).coerce _ _ _ _ _
  ·exact(ha env s).less (by omega)
 rw[hy]
 have h2:=hb (env++[(n.text,y.1.2)]) y.2
 rw[aX]at h2
 have:=h1.2
 have:=h2.2
 refine⟨?_,by simp only[cK,csz,cszs];omega⟩
 simp only[cK,wfC,wfCs,and_true,true_and]
 exact⟨by decide,fun _=>by simp,fun h=>absurd h (by decide),fun h=>absurd h (by decide),fun h=>absurd h (by decide),by simpa using h1.1,by simpa using h2.1⟩
def c_fn(n a:Nod){ba:Nat}{ia:Inf}(ha:WInf ba ia):WInf (ba+4) (fnC n a ia):=fun env s=>by
 unfold fnC
 simp only
 generalize (if 1<n.types.length/\(zar (n.types.getD 0 noT) n.line n.col s).2.e=0 then zar (n.types.getD 1 noT) n.line n.col (zar (n.types.getD 0 noT) n.line n.col s).2 else(noT,(zar (n.types.getD 0 noT) n.line n.col s).2))=q
 generalize (zar (n.types.getD 0 noT) n.line n.col s).1=p
 have h2:=ha (env++[(n.text,p)]) q.2
 rw[aX]at h2
 generalize ia (env++[(n.text,p)]) q.2=x at*
 obtain⟨y,hy⟩:∃y,(if 1<n.types.length then(((zaF x.1.1 x.1.2 q.1 a.line a.col x.2).1,q.1),(zaF x.1.1 x.1.2 q.1 a.line a.col x.2).2)else x)=y:=⟨_,rfl⟩
 have h3:CW (env.length+[(n.text,p)].length) (ba+1) y.1.1:=by
  rw[<-hy]
  split
  ·exact h2.coerce _ _ _ _ _
  ·exact h2.less (by omega)
 rw[hy]
 have:=h3.2
 refine⟨?_,by simp only[cK,csz,cszs];omega⟩
 simp only[cK,wfC,wfCs,and_true,true_and]
 exact⟨by decide,fun h=>absurd h (by decide),fun h=>absurd h (by decide),fun h=>absurd h (by decide),fun _=>rfl,by simpa using h3.1⟩
def c_call(n b:Nod){ba bb:Nat}{ia ib:Inf}(ha:WInf ba ia)(hb:WInf bb ib):WInf (ba+bb+4) (zeP n b ia ib):=fun env s=>by
 unfold zeP
 simp only
 split
 ·exact(CW.noC _).less (by omega)
 ·exact(((ha env s).any _ _ _).n2 ((hb env _).coerce _ _ _ _ _) (by decide) (by decide) (by decide) (by decide) (by decide)).less (by omega)
def zGD(n:Nod){ba:Nat}{ia:Inf}(ha:WInf ba ia):WInf (ba+4) (selC n ia):=fun env s=>by
 unfold selC
 simp only
 refine CW.less (b:=ba+1+1) (CW.n1 ?_ (by decide) (by decide) (by decide) (by decide)) (by omega)
 split
 ·exact(ha env s).cast _ _ _ _ _
 ·exact(ha env s).less (by omega)
def zFP(n:Nod){ba bb:Nat}{ia ib:Inf}(ha:WInf ba ia)(hb:WInf bb ib):WInf (ba+bb+4) (zeQ n ia ib):=fun env s=>by
 unfold zeQ
 simp only
 split
 ·exact(CW.noC _).less (by omega)
 ·exact(((ha env s).any _ _ _).n2 (hb env _) (by decide) (by decide) (by decide) (by decide) (by decide)).less (by omega)
def zqr(q:Nod)(env:Env):(za1 q env).1.length=env.length/\(za1 q env).2.length=env.length:=by
 unfold za1
 split<;>simp
def c_if(q a b:Nod){bq ba bb:Nat}{iq ia ib:Inf}(hq:WInf bq iq)(ha:WInf ba ia)(hb:WInf bb ib):WInf (bq+ba+bb+4) (ifC q a b iq ia ib):=fun env s=>by
 unfold ifC
 simp only
 have h1:=ha (za1 q env).1 (zaF (iq env s).1.1 (iq env s).1.2 (bT 2) q.line q.col (iq env s).2).2
 rw[(zqr q env).1]at h1
 have h2:=hb (za1 q env).2 (ia (za1 q env).1 (zaF (iq env s).1.1 (iq env s).1.2 (bT 2) q.line q.col (iq env s).2).2).2
 rw[(zqr q env).2]at h2
 exact(CW.n3 ((hq env s).coerce _ _ _ _ _) (h1.coerce _ _ _ _ _) (h2.coerce _ _ _ _ _) (by decide) (by decide) (by decide) (by decide) (by decide)).less (by omega)
def c_as(n:Nod){ba:Nat}{ia:Inf}(ha:WInf ba ia):WInf (ba+4) (asC n ia):=fun env s=>by
 unfold asC
 simp only
 split
 ·exact(ha env s).less (by omega)
 split
 ·exact(ha env s).less (by omega)
 generalize (zar (n.types.getD 0 noT) n.line n.col (ia env s).2)=u
 obtain⟨y,hy⟩:∃y,(if(ia env s).1.2.kind≠0 then za8 (ia env s).1.1 (ia env s).1.2 noT n.line n.col u.2 else((ia env s).1.1,u.2))=y:=⟨_,rfl⟩
 have h3:CW env.length (ba+1) y.1:=by
  rw[<-hy]
  split
  ·exact(ha env s).cast _ _ _ _ _
  ·exact(ha env s).less (by omega)
 rw[hy]
 split
 ·exact h3.less (by omega)
 split
 ·exact(h3.cast _ _ _ _ _).less (by omega)
 ·exact(h3.n1 (by decide) (by decide) (by decide) (fun _=>rfl)).less (by omega)
def c_op(n a b:Nod){ba bb:Nat}{ia ib:Inf}(ha:WInf ba ia)(hb:WInf bb ib):WInf (ba+bb+4) (opC n a b ia ib):=fun env s=>by
 unfold opC
 simp only
 split
 ·exact(CW.n3 (zfb a ha _ env s) (CW.n0 _ 2 1 _ (by decide) (by decide) (by decide) (by decide)) (zfb b hb _ env _) (by decide) (by decide) (by decide) (by decide) (by decide)).less (by omega)
 split
 ·exact(CW.n3 (zfb a ha _ env s) (zfb b hb _ env _) (CW.n0 _ 2 0 _ (by decide) (by decide) (by decide) (by decide)) (by decide) (by decide) (by decide) (by decide) (by decide)).less (by omega)
 split
 ·exact(CW.n2 (ha env s) (hb env _) (by decide) (by decide) (by decide) (by decide) (by decide)).less (by omega)
 split
 ·exact(CW.n2 (zfb a ha _ env s) (zfb b hb _ env _) (by decide) (by decide) (by decide) (by decide) (by decide)).less (by omega)
 ·exact(CW.n2 (zfb a ha _ env s) (zfb b hb _ env _) (by decide) (by decide) (by decide) (by decide) (by decide)).less (by omega)
def zGE(n a:Nod){ba:Nat}{ia:Inf}(ha:WInf ba ia):WInf (ba+4) (oneC n a ia):=fun env s=>by
 unfold oneC
 split
 ·exact(CW.n1 (zfb a ha _ env s) (by decide) (by decide) (by decide) (by decide)).less (by omega)
 split
 ·exact(CW.n1 (zfb a ha _ env s) (by decide) (by decide) (by decide) (by decide)).less (by omega)
 split
 ·exact(CW.n1 (ha env s) (by decide) (by decide) (by decide) (by decide)).less (by omega)
 ·exact(CW.n1 (ha env s) (by decide) (by decide) (by decide) (by decide)).less (by omega)
def zuR:∀(l:List Nod),(∀x,x∈l->WInf (4*nsz x) (zan L x))->∀env s,(∀c,c∈(za0 L l env s).1.1->wfC env.length c)/\cszs (za0 L l env s).1.1<=4*nszs l
 |[],_,env,s=>by rw[za0];exact⟨fun c h=>(by cases h),by simp[cszs]⟩
 |n::l,h,env,s=>by
  rw[za0]
  simp only
  have h1:=h n (by simp) env s
  have h2:=zuR l (fun x hx=>h x (by simp[hx])) env (zan L n env s).2
  have:=h1.2
  have:=h2.2
  refine⟨fun c hc=>?_,by rw[cszs,nszs];omega⟩
  rcases aM.1 hc with e|hc
  ·rw[e];exact h1.1
  ·exact h2.1 c hc
def zGF(n:Nod)(h:∀x,x∈n.kids->WInf (4*nsz x) (zan L x)):WInf (4*nsz n) (recC n (za0 L n.kids)):=fun env s=>by
 unfold recC
 simp only
 have h1:=zuR L n.kids h env (if dupS [] n.names=true then zaW n.line n.col 8 s else s)
 have:=h1.2
 have:=zbC n
 refine⟨?_,by simp only[csz];omega⟩
 simp only[wfC,true_and]
 exact⟨by decide,fun h=>absurd h (by decide),fun h=>absurd h (by decide),fun h=>absurd h (by decide),fun h=>absurd h (by decide),zvm (by decide) (by decide) h1.1⟩
def zqs{b:Nat}{j:Inf}(h:WInf b j)(hb:1<=b):WInf b (zaO j):=fun env s=>by
 unfold zaO
 split
 ·exact(CW.noC _).less hb
 ·exact h env s
def zqt(n:Nod){rest:Inf}(hr:WInf (4*nsz n) rest)(h:∀x,x∈n.kids->WInf (4*nsz x) (zan L x)):WInf (4*nsz n) (zbK L n rest):=fun env s=>by
 have:=zbC n
 unfold zbK
 split
 ·exact(CW.n0 _ 0 _ _ (by decide) (by decide) (by decide) (by decide)).less (by omega)
 split
 ·exact(CW.n0 _ 1 _ _ (by decide) (by decide) (by decide) (by decide)).less (by omega)
 split
 ·exact(CW.n0 _ 2 _ _ (by decide) (by decide) (by decide) (by decide)).less (by omega)
 split
 ·exact(CW.n0 _ 3 _ _ (by decide) (by decide) (by decide) (by decide)).less (by omega)
 split
 ·exact(CW.n0 _ 20 _ _ (by decide) (by decide) (by decide) (by decide)).less (by omega)
 split
 ·exact(zEL L n env s).less (by omega)
 split
 ·exact zGF L n h env s
 ·exact hr env s
def zCU(n:Nod)(h:∀x,x∈n.kids->WInf (4*nsz x) (zan L x)):WInf (4*nsz n) (zan L n):=by
 obtain⟨k,tx,nn,ln,cl,ts,ns,ks⟩:=n
 match ks,h with
 |[],h=>
  rw[eq0]
  exact zqs (zqt L _ (fun env s=>(CW.noC _).less (by rw[zbC];omega)) h) (by rw[zbC];omega)
 |[a],h=>
  have ha:=h a (by simp[Nod.kids])
  have e:4*nsz (Nod.mk k tx nn ln cl ts ns [a])=4*nsz a+4:=by simp only[nsz,nszs];omega
  rw[eq1]
  refine zqs (zqt L _ (fun env s=>?_) h) (by omega)
  rw[e]
  unfold ziX
  split
  ·exact c_fn _ _ ha env s
  split
  ·exact zGD _ ha env s
  split
  ·exact c_as _ ha env s
  ·exact zGE _ _ ha env s
 |[a,b],h=>
  have ha:=h a (by simp[Nod.kids])
  have hb:=h b (by simp[Nod.kids])
  have e:4*nsz (Nod.mk k tx nn ln cl ts ns [a,b])=4*nsz a+4*nsz b+4:=by simp only[nsz,nszs];omega
  rw[eq2]
  refine zqs (zqt L _ (fun env s=>?_) h) (by omega)
  rw[e]
  unfold ziY
  split
  ·exact zGC _ _ ha hb env s
  split
  ·exact c_call _ _ ha hb env s
  split
  ·exact zFP _ ha hb env s
  ·exact c_op _ _ _ ha hb env s
 |a::b::c::l,h=>
  have e:4*nsz a+4*nsz b+4*nsz c+4<=4*nsz (Nod.mk k tx nn ln cl ts ns (a::b::c::l)):=by simp only[nsz,nszs];omega
  rw[eq3]
  exact zqs (zqt L _ ((c_if a b c (h a (by simp[Nod.kids])) (h b (by simp[Nod.kids])) (h c (by simp[Nod.kids]))).less e) h) (by omega)
mutual
def zxA:∀n:Nod,WInf (4*nsz n) (zan L n)
 |.mk k tx nn ln cl ts ns ks=>zCU L _ (zuS ks)
def zuS:∀l:List Nod,∀x,x∈l->WInf (4*nsz x) (zan L x)
 |[],x,hx=>by cases hx
 |n::l,x,hx=>by
  rcases aM.1 hx with e|hx
  ·rw[e];exact zxA n
  ·exact zuS l x hx
end
end
def FunG(f:Fun):Prop:=CW 1 120005 f.body/\f.name.size<=30000000000
def zqu:∀(l:List Typ) (i:Nat) (s:fC),(zdp l i s).size<=s.size+l.length*20010
 |[],i,s=>by rw[zdp];omega
 |t::l,i,s=>by
  have h:=zqu l (i+1) (s++(if i=0 then bs [91]else bs [44,32])++zfj t)
  have h2:=zkx t
  have h3:(if i=0 then bs [91]else bs [44,32]).size<=2:=by split<;>decide
  rw[zdp,length_cons]
  rw[ax,ax]at h
  omega
theorem zCV{L:Lnk}(hG:LinkG L){x:Ist}(hx:EntOk L ⟨bs [],x.module,x.decl⟩)(hxt:x.types.length<=1000000)(s:CS)(hs:∀f,f∈s.funs->FunG f):∀f,f∈(funC L x s).funs->FunG f:=by
 have hd:=(zgg hG hx).1
 have hdn:=(zgg hG hx).2
 have hmn:(L.names.getD x.module.toNat (bs [])).size<=32:=by
  rw[aH]
  cases q:L.names[x.module.toNat]? with
  |none=>decide
  |some z=>exact hG.modNames z (af q)
 have f0:fb (zdq L x s)=fb s:=rfl
 unfold funC
 unfold zdq at f0
 simp only
 generalize zdV L x.module x.decl=d at*
 generalize ({s with module:=x.module,vars:=d.vars.map (·.1),wth:=x.types,e:=0}:CS)=s0 at*
 have f1:=zeO (d.types.getD 0 noT) d.line d.col s0
 generalize zar (d.types.getD 0 noT) d.line d.col s0=r1 at*
 have f2:=zeO (d.types.getD 1 noT) d.line d.col r1.2
 generalize zar (d.types.getD 1 noT) d.line d.col r1.2=r2 at*
 obtain⟨T,hT⟩:∃T,(if r2.2.e=0 then zbN (fnT r1.1 r2.1) d.line d.col r2.2 else(fnT r1.1 r2.1,r2.2))=T:=⟨_,rfl⟩
 have p3:fb T.2=fb r2.2:=by
  rw[<-hT]
  split
  ·exact znF _ _ _ _
  ·rfl
 rw[hT]
 clear hT
 obtain⟨S,hS⟩:∃S,(if x.module=L.main.module/\x.decl=L.main.decl/\zhR (bT 1) r1.1=false then zaW d.line d.col 14 T.2 else T.2)=S:=⟨_,rfl⟩
 have p4:fb S=fb T.2:=by
  rw[<-hS]
  split
  ·exact zrx _ _ _ _
  ·rfl
 rw[hS]
 clear hS
 have p5:=zxA L d.body [(d.param,r1.1)] S
 have f5:=znG L d.body [(d.param,r1.1)] S
 generalize zan L d.body [(d.param,r1.1)] S=y at*
 have p6:=p5.coerce y.1.2 r2.1 d.body.line d.body.col y.2
 have f6:=zmY y.1.1 y.1.2 r2.1 d.body.line d.body.col y.2
 generalize zaF y.1.1 y.1.2 r2.1 d.body.line d.body.col y.2=z at*
 have f:fb z.2=fb s:=by rw[f6,f5,p4,p3,f2,f1,f0]
 have g1:z.2.funs=s.funs:=dL (·.1) f
 have hsz:CW 1 120005 z.1:=p6.less (by have:=hd.size;omega)
 have key:∀nm:fC,nm.size<=30000000000->∀f,f∈z.2.funs++[(⟨nm,T.1,z.1⟩:Fun)]->FunG f:=fun nm hnm f hf=>by
  rw[g1]at hf
  rcases aQ.1 hf with hf|hf
  ·exact hs f hf
  ·rw[aL.1 hf]
   exact⟨hsz,hnm⟩
 have hn1:=zqu x.types 0 (L.names.getD x.module.toNat (bs [])++bs [46]++d.name)
 have hb1:(bs [46]).size=1:=rfl
 have hb2:(bs [93]).size=1:=rfl
 have hn2:(if 0<x.types.length then zdp x.types 0 (L.names.getD x.module.toNat (bs [])++bs [46]++d.name)++bs [93]else zdp x.types 0 (L.names.getD x.module.toNat (bs [])++bs [46]++d.name)).size<=30000000000:=by
  rw[ax,ax]at hn1
  split
  ·rw[ax];omega
  ·omega
 split
 ·exact key _ hn2
 ·exact key _ hn2
def zsp{L:Lnk}(hG:LinkG L):∀(n i:Nat) (s:CS),i+n<=257->TOk L s i->(∀f,f∈s.funs->FunG f)->(∀f,f∈(zbI L n i s).funs->FunG f)/\(zbI L n i s).funs.length<=257
 |0,i,s,hi,h,hf=>by rw[zbI];exact⟨hf,by have:=h.funs;omega⟩
 | n+1,i,s,hi,h,hf=>by
  rw[zbI]
  split
  ·rename_i q
   have hm:s.tab.getD i ⟨0,0,[]⟩∈s.tab:=by
    rw[aH,aA q]
    exact aS q
   have h1:=h.ist _ hm
   exact zsp hG n (i+1) _ (by omega) (zk6 hG h1.1 h1.2 (by omega) h) (zCV hG h1.1 h1.2 s hf)
  ·exact⟨hf,by have:=h.funs;omega⟩
def zhN(L:Lnk)(i:Nat):∀(l:List Dec) (k:Nat) (s:CS),(zdF L i l k s).1.funs=s.funs
 |[],k,s=>by rw[zdF]
 | d::l,k,s=>by
  rw[zdF]
  split
  ·exact zhN L i l (k+1) s
  ·simp only
   split
   ·rfl
   ·rw[zhN L i l (k+1)]
def zkO(L:Lnk):∀(l:List Mdl) (i:Nat) (s:CS),(zcz L l i s).1.funs=s.funs
 |[],i,s=>by rw[zcz]
 |m::l,i,s=>by
  rw[zcz]
  split
  ·exact zhN L i m.decs 0 s
  ·rw[zkO L l,zhN]
def zAO(L:Lnk):TOk L cs0 0:=⟨by simp[cs0],by simp[cs0],by simp[cs0],by simp[cs0],by simp[cs0]⟩
def PrgG(p:Prg):Prop:=(∀f,f∈p.funs->FunG f)/\p.funs.length<=257
def zwJ{L:Lnk}(hG:LinkG L):PrgG (zge L).1:=by
 have n0:PrgG zfl:=⟨fun f h=>(by cases h),by decide⟩
 unfold zge
 simp only
 split
 ·exact n0
 split
 ·exact n0
 ·have h0:=zpr L.mods 0 cs0 (by simp) (zAO L)
  have h:=zsp hG 257 0 (zcz L L.mods 0 cs0).1 (by omega) h0 (by rw[zkO];intro f hf;cases hf)
  exact h
def ztg(l:List (fC × fC)):PrgG (zbU l).1:=by
 have n0:PrgG zfl:=⟨fun f h=>(by cases h),by decide⟩
 unfold zbU
 split
 ·exact n0
 simp only
 split
 ·exact n0
 ·exact zwJ (zl3 l (by omega))
end Go.Gr
namespace Go.Gr
open Go.Abs Go.Proofs
def zcU:MC:=(fun x(_:x=gC tt [(7,0)] [] [] (gB Tryz.f39))=>x) _ (by dsimp[Tryz.f39])
def ze8:WM Pg 39 8 zcU [.tmp 2]:=wM zaa Tryz.func39 (by kernel_rfl)
def zc8:MC:=(fun x(_:x=gC tt [(7,0)] [] [] (gB Tryz.f18))=>x) _ (by dsimp[Tryz.f18])
def zfM:WM Pg 18 8 zc8 [.tmp 2]:=wM zaa Tryz.func18 (by kernel_rfl)
end Go.Gr
