/- Texts of ours, joined and written short by a program of ours. -/
import Derived.Test.YtlfjlokfciejnaaGreatDoorJ11
import Derived.Test.YtlfjlokfciejnaaGreatDoorJ06
set_option maxRecDepth 20000
set_option maxHeartbeats 4000000
set_option linter.all false
namespace Go.Gr
open Go.Abs Go.Proofs List
section
variable (L:Lnk)
def opAt(s:fC):Nat->Int
 |0=>0
 |i+1=>if zc4[i]?=some s then(i:Int)else opAt s i
def zB3(s:fC):opAt s 11=opZ s:=by
 by_cases h:s∈zc4
 ·simp only[zc4,aM,cz,eQ]at h
  rcases h with h|h|h|h|h|h|h|h|h|h|h<;>subst h<;>decide
 ·have h2:∀i,zc4[i]?≠some s:=fun i z=>h (af z)
  have h3:∀i,opAt s i=0:=fun i=>by
   induction i with
   |zero=>rfl
   |succ i ih=>rw[opAt,aB (h2 i),ih]
  have h4:∀(l:List fC) (j:Nat),s∉l->fi (fun x=>decide (x=s)) j l= -1:=fun l=>by
   induction l with
   |nil=>intro j _;rfl
   |cons x l ih=>
    intro j hx
    have q:¬x=s:=fun z=>hx (by simp[z])
    rw[fi,aB (by simp[q]),ih _ (fun z=>hx (by simp[z]))]
  rw[h3,opZ,h4 _ _ h];try rfl
def op_p(n a b:Nod)(hk:n.kids=[a,b])(ia ib:Inf)(ha:PInf L a ia)(hb:PInf L b ib):PInf L n (opC n a b ia ib):=fun env s k he hs=>by
 have hn:nsz n=nsz a+(nsz b+1):=by rw[zbC,hk];simp[nszs];omega
 have w2:=fun t0 t1=>ziR L b ib hb t1 env (zbl a ia t0 env s).2 k (he.less (by omega)) (ziR L a ia ha t0 env s (8*nsz b+1+k) (he.less (by omega)) (hs.less (by omega)))
 have i1:=ha env s (8*nsz b+k) (he.less (by omega)) (hs.less (by omega))
 have i2:=hb env (ia env s).2 k (he.less (by omega)) i1.1
 unfold opC
 split
 ·exact⟨w2 _ _,zcp 2 (by omega) (by omega)⟩
 split
 ·exact⟨w2 _ _,zcp 2 (by omega) (by omega)⟩
 split
 ·exact⟨i2.1,zcp 2 (by omega) (by omega)⟩
 split
 ·exact⟨w2 _ _,zcp 4 (by omega) (by omega)⟩
 ·refine⟨w2 _ _,?_⟩
  simp only
  split
  ·exact zcp 2 (by omega) (by omega)
  ·exact zcp 3 (by omega) (by omega)
def zFq(n a b:Nod)(hk:n.kids=[a,b])(ia ib:Inf)(ha:zcm L a ia)(hb:zcm L b ib):MInf L 90 n (opC n a b ia ib):=fun env s k he hs=>by
 refine zDv MS1 fun ts hts ok hbk c hN hp=>?_
 obtain⟨t,u,v,w,x,y,rfl⟩:=zbb hts
 have hn:nsz n=nsz a+(nsz b+1):=by rw[zbC,hk];simp[nszs];omega
 have d21:¬bs [97,110,100]=bs [111,114]:=by decide
 have d31:¬bs [61,61]=bs [111,114]:=by decide
 have d32:¬bs [61,61]=bs [97,110,100]:=by decide
 have d41:¬bs [43,43]=bs [111,114]:=by decide
 have d42:¬bs [43,43]=bs [97,110,100]:=by decide
 have d43:¬bs [43,43]=bs [61,61]:=by decide
 unfold opC
 unfold zvO
 by_cases c1:n.text=bs [111,114]
 ·rw[aC c1]
  have m1:=zdA L a ia ha (bT 2) env s (8*nsz b+1+k) (he.less (by omega)) (hs.less (by omega))
  have p1:=ziR L a ia ha.2 (bT 2) env s (8*nsz b+1+k) (he.less (by omega)) (hs.less (by omega))
  simp only
  generalize zbl a ia (bT 2) env s=r1 at*
  have m2:=zdA L b ib hb (bT 2) env r1.2 k (he.less (by omega)) (p1.less (by omega))
  generalize zbl b ib (bT 2) env r1.2=r2 at*
  simp[c1,hk]
  refine gN (zaG 2) ?_
  simp[c1,hk]
  refine gK [0,1,2,3,4,5] m1 ?_
  simp[hk]
  refine⟨by decide,?_⟩
  refine gK [0,1,2,15,4,16] m2 ?_
  simp
  refine⟨by decide,by decide,?_⟩
  exact fH [0,1,2,9,4,11,18,19] [6,7,8,9,10,11]
 rw[aB c1]
 by_cases c2:n.text=bs [97,110,100]
 ·rw[aC c2]
  have m1:=zdA L a ia ha (bT 2) env s (8*nsz b+1+k) (he.less (by omega)) (hs.less (by omega))
  have p1:=ziR L a ia ha.2 (bT 2) env s (8*nsz b+1+k) (he.less (by omega)) (hs.less (by omega))
  simp only
  generalize zbl a ia (bT 2) env s=r1 at*
  have m2:=zdA L b ib hb (bT 2) env r1.2 k (he.less (by omega)) (p1.less (by omega))
  generalize zbl b ib (bT 2) env r1.2=r2 at*
  simp[c2,d21,hk]
  refine gN (zaG 2) ?_
  simp[c2,d21,hk]
  refine gK [0,1,2,3,4,5] m1 ?_
  simp[hk]
  refine⟨by decide,?_⟩
  refine gK [0,1,2,15,4,16] m2 ?_
  simp
  refine⟨by decide,by decide,?_⟩
  exact fH [0,1,2,9,4,11,18,19] [6,7,8,9,10,11]
 rw[aB c2]
 by_cases c3:n.text=bs [61,61]
 ·rw[aC c3]
  have m1:=ha.1 env s (8*nsz b+k) (he.less (by omega)) (hs.less (by omega))
  have p1:=ha.2 env s (8*nsz b+k) (he.less (by omega)) (hs.less (by omega))
  simp only
  generalize ia env s=r1 at*
  have m2:=hb.1 env r1.2 k (he.less (by omega)) (p1.1.less (by omega))
  generalize ib env r1.2=r2 at*
  simp[c3,d31,d32,hk]
  refine gN (zaG 2) ?_
  simp[c3,d31,d32,hk]
  refine gK [0,1,2,3,4,5] m1 ?_
  simp[hk]
  refine gK [0,1,2,15,4,16] m2 ?_
  simp
  refine⟨by decide,?_⟩
  exact fH [0,1,2,9,4,11,19,20] [6,7,8,9,10,11]
 rw[aB c3]
 by_cases c4:n.text=bs [43,43]
 ·rw[aC c4]
  have m1:=zdA L a ia ha (bT 4) env s (8*nsz b+1+k) (he.less (by omega)) (hs.less (by omega))
  have p1:=ziR L a ia ha.2 (bT 4) env s (8*nsz b+1+k) (he.less (by omega)) (hs.less (by omega))
  simp only
  generalize zbl a ia (bT 4) env s=r1 at*
  have m2:=zdA L b ib hb (bT 4) env r1.2 k (he.less (by omega)) (p1.less (by omega))
  generalize zbl b ib (bT 4) env r1.2=r2 at*
  simp[c4,d41,d42,d43,hk]
  refine gN (zaG 2) ?_
  simp[c4,d41,d42,d43,hk]
  refine gN (zaG 4) ?_
  simp[hk]
  refine gK [0,1,2,3,4,5] m1 ?_
  simp[hk]
  refine⟨by decide,?_⟩
  refine gN (zaG 4) ?_
  simp[hk]
  refine gK [0,1,2,15,4,16] m2 ?_
  simp
  refine⟨by decide,?_⟩
  refine gN (zaG 4) ?_
  simp[hk]
  refine⟨by decide,?_⟩
  exact fH [0,1,2,9,4,11,18,19] [6,7,8,9,10,11]
 rw[aB c4]
 have m1:=zdA L a ia ha (bT 3) env s (8*nsz b+1+k) (he.less (by omega)) (hs.less (by omega))
 have p1:=ziR L a ia ha.2 (bT 3) env s (8*nsz b+1+k) (he.less (by omega)) (hs.less (by omega))
 simp only
 generalize zbl a ia (bT 3) env s=r1 at*
 have m2:=zdA L b ib hb (bT 3) env r1.2 k (he.less (by omega)) (p1.less (by omega))
 generalize zbl b ib (bT 3) env r1.2=r2 at*
 obtain⟨R,hR⟩:∃R,opZ n.text=R:=⟨_,rfl⟩
 have hR2:=zB3 n.text
 rw[hR]at hR2⊢
 simp[c1,c2,c3,c4,hk]
 refine gN (zaG 2) ?_
 simp[c1,c2,c3,c4,hk]
 refine fK zaa hp (fun j:Nat=>j<=11) (fun j=>[(21,.c (.d (.int .i64 j))),(20,.c (.d (.int .i64 (opAt n.text j)))),(19,.c (.d (.sl true 1 (encS zc4)))),(8,.c (.ptr 14 0)),(7,.c (.ptr 13 0)),(6,.c (.ptr 12 0)),(4,.c (.d (.rp n.enc 0))),(2,.c (.d (.sl false 5 (env.map encV)))),(0,.c (.ptr 0 0))]) (fun _=>[ckBx L s 2 3 4,tbB 256 s.tab.length 5,funA s.funs,sitA s.sites,diaA s.bad,tabA s.tab,.pin t 0,.pin u 1,.pin v 2,.pin w 3,.pin x 4,.pin y 5,.box [.d (.int .i64 0),.d (.int .i64 0),.d (.str (bs [])),.d (.sl true 1 []),.d (.sl true 1 []),.d (.sl true 4 []),.d (.sl true 5 []),.d (.sl true 8 [])],.box [.d (.int .i64 0),.d (.str (bs [])),.d (.sl true 1 []),.d (.sl true 4 [])],.box ((bT 2).enc.map .d)]) (fun j=>11-j) 0 [0,1,2,3,4,5,6,7,8,9,10,11,12,13,14] (by simp) (by simp[encS,zc4,opAt]) fun j h1=>?_
 unfold zqR
 simp
 apply gI<;>intro h
 ·have hj:j<11:=by simpa[zc4]using h
  have hj2:j<zc4.length:=by simpa[zc4]using hj
  obtain⟨z,hz⟩:∃z,zc4[j]=z:=⟨_,rfl⟩
  have hz2:zc4[j]?=some z:=by rw[aA hj2,hz]
  have hw:=wI (n:=(j:Int)+1)
  simp[hj2,hz]
  refine⟨by decide,?_⟩
  apply gI<;>intro h
  ·have e:opAt n.text (j+1)=(j:Int):=by rw[opAt,hz2];simp at h;rw[aC (by rw[h])]
   try simp
   refine fD (j+1) [0,1,2,3,4,5,6,7,8,9,10,11,12,13,14] (by omega) (by omega) ?_
   simp[hw,e]
  ·have e:opAt n.text (j+1)=opAt n.text j:=by rw[opAt,hz2];simp at h;rw[aB (fun q=>h (by simpa using q))]
   try simp
   refine fD (j+1) [0,1,2,3,4,5,6,7,8,9,10,11,12,13,14] (by omega) (by omega) ?_
   simp[hw,e]
 have hj:j=11:=by simp[zc4]at h;omega
 subst hj
 rw[hR2]
 simp[hk]
 refine gN (zaG 3) ?_
 simp[hk]
 refine gK [0,1,2,3,4,5] m1 ?_
 simp[hk]
 refine⟨by decide,?_⟩
 refine gN (zaG 3) ?_
 simp[hk]
 refine gK [0,1,2,15,4,16] m2 ?_
 simp
 refine⟨by decide,?_⟩
 refine gN (zaG 3) ?_
 simp
 by_cases c9:9<=R
 ·rw[aC c9]
  simp[c9]
  refine⟨by decide,?_⟩
  exact fH [0,1,2,9,4,11,18,19] [6,7,8,9,10,11]
 ·rw[aB c9]
  simp[c9]
  refine⟨by decide,?_⟩
  exact fH [0,1,2,9,4,11,18,19] [6,7,8,9,10,11]
end
end Go.Gr
namespace Go.Gr
open Go.Abs Go.Proofs List
section
variable (L:Lnk)
def zk3(x a:fC)(b:Typ):∀(l:List fC) (m:List Typ),l.length=m.length->zcy x (l++[a]) (m++[b])=zcy x l m++(if a=x then []else [(a,b)])
 |[],[],_=>by simp only[nil_append,zcy]
 |n::l,k::m,h=>by
  simp only[cons_append,zcy]
  rw[zk3 x a b l m (by simpa using h)]
  split<;>simp
def zmZ(x:fC):∀(l:List fC) (m:List Typ),(zcy x l m).length<=l.length
 |[],_=>by simp[zcy]
 |_::_,[]=>by simp[zcy]
 |n::l,k::m=>by
  have:=zmZ x l m
  rw[zcy]
  split<;>simp<;>omega
def zzb:wfT (bT 5):=by
 refine(zaQ _).2 ⟨rfl,fun x h=>(by cases h),.inr (.inl ⟨rfl,rfl,by decide,fun x h=>(by cases h)⟩)⟩
def zGc(n a b:Nod)(hk:n.kids=[a,b])(ia ib:Inf)(ha:PInf L a ia)(hb:PInf L b ib):PInf L n (zeQ n ia ib):=fun env s k he hs=>by
 have hn:nsz n=nsz a+nsz b+1:=by rw[zbC,hk];simp[nszs]
 have h1:=ha env s (2+8*nsz b+k) (he.less (by omega)) (hs.less (by omega))
 have h2:=zrv (b:=8*nsz b+1+k) (bT 5) (zzb) n.line n.col (ia env s) (h1.1.less (by omega)) h1.2
 unfold zeQ
 simp only
 generalize anyC (bT 5) n.line n.col (ia env s)=r at*
 by_cases q:r.1.2.kind≠5
 ·rw[aC q]
  exact⟨zb0 (h2.1.less (by omega)) _ _ _,zbP⟩
 ·rw[aB q]
  have h3:=hb env r.2 k (he.less (by omega)) (h2.1.less (by omega))
  exact zir h3.1 _ _ _
def zBr{t:Typ}(h:wfT t)(k:t.kind=5):t.names.length=t.kids.length:=by
 rcases((zaQ t).1 h).2.2 with⟨_,q,_,_⟩|⟨_,q,_⟩|⟨q,_,_⟩|⟨q,_,_⟩<;>omega
abbrev fldT(n:Nod)(j:Nat):List (Nat × AV):=[(14,.c (.d (.int .i64 j))),(13,.c (.ptr 19 0)),(11,.c (.ptr 18 0)),(9,.c (.ptr 17 0)),(8,.c (.ptr 16 0)),(7,.c (.ptr 13 0)),(6,.c (.ptr 12 0)),(4,.c (.d (.rp n.enc 0))),(0,.c (.ptr 0 0))]
abbrev fldB(s:CS)(P:List Blk)(x y:Cor)(xt:Typ)(A:List (fC × Typ)):List Blk:=[ckBx L s 2 14 4,tbB 256 s.tab.length 15,funA s.funs,.dead,diaA s.bad,.dead]++(P++[.box [.d (.int .i64 0),.d (.int .i64 0),.d (.str (bs [])),.d (.sl true 1 []),.d (.sl true 1 []),.d (.sl true 4 []),.d (.sl true 5 []),.d (.sl true 8 [])],.box [.d (.int .i64 0),.d (.str (bs [])),.d (.sl true 1 []),.d (.sl true 4 [])],sitA s.sites,tabA s.tab,.box (x.enc.map .d),.box (xt.enc.map .d),.box (y.enc.map .d),.box [.d (.int .i64 5),.d (.str (bs [])),.msl 1 20 0 A.length,.msl 4 21 0 A.length],strA (A.map (·.1)),arrT (A.map (·.2))])
def zbT{α:Type}(l:List α)(n:Nat)(h:l.length=n):take n l=l:=aF (by omega)
theorem zBs(n a b:Nod)(hk:n.kids=[a,b])(ia ib:Inf)(ha:zcm L a ia)(hb:zcm L b ib):MInf L 87 n (zeQ n ia ib):=fun env s k he hs=>by
 refine zwX MS1 fun ts hts ok hbk c hN hp=>?_
 obtain⟨t,u,v,w,x,y,rfl⟩:=zbb hts
 have hn:nsz n=nsz a+nsz b+1:=by rw[zbC,hk];simp[nszs]
 have hb0:=zaG 0
 have hb5:=zaG 5
 have m1:=ha.1 env s (2+8*nsz b+k) (he.less (by omega)) (hs.less (by omega))
 have p1:=ha.2 env s (2+8*nsz b+k) (he.less (by omega)) (hs.less (by omega))
 unfold zeQ
 simp only
 generalize ia env s=r1 at*
 unfold zoz
 by_cases t0:r1.1.2.kind=0
 ·obtain⟨X,eX⟩:∃X,anyC (bT 5) n.line n.col r1=X:=⟨_,rfl⟩
  have p2:=zrv (b:=8*nsz b+1+k) (bT 5) (zzb) n.line n.col r1 (p1.1.less (by omega)) p1.2
  rw[eX]at p2⊢
  have m2:=zgv L r1.1.1 r1.1.2 (bT 5) n r1.2 (by have:=p1.1.sites;omega)
  unfold anyC at eX
  rw[aC t0]at eX
  have eX1:(za8 r1.1.1 r1.1.2 (bT 5) n.line n.col r1.2).1=X.1.1:=by rw[<-eX]
  have eX2:(za8 r1.1.1 r1.1.2 (bT 5) n.line n.col r1.2).2=X.2:=by rw[<-eX]
  have eX3:X.1.2=bT 5:=by rw[<-eX]
  rw[eX1,eX2]at m2
  clear eX eX1 eX2
  have k5:¬X.1.2.kind≠5:=by rw[eX3];decide
  rw[aB k5]
  have m3:=hb.1 env X.2 k (he.less (by omega)) (p2.1.less (by omega))
  have p3:=hb.2 env X.2 k (he.less (by omega)) (p2.1.less (by omega))
  generalize ib env X.2=r3 at*
  rw[<-eX3]at hb5
  rw[<-eX3]at m2
  have k5:X.1.2.kind=5:=by rw[eX3];try rfl
  have hl:=zBr p2.2 k5
  have hl2:=zeI p2.2
  simp[hk]
  refine gK [0,1,2,3,4,5] m1 ?_
  simp[t0]
  refine gN hb5 ?_
  simp
  refine gK [0,1,2,14,4,15] m2 ?_
  simp[k5,hk]
  refine gK [0,1,2,19,4,15] m3 ?_
  simp[hk]
  have e0:zcy n.text (X.1.2.names.take 0) (X.1.2.kids.take 0)=[]:=rfl
  refine fK zaa hp (fun j:Nat=>j<=X.1.2.names.length) (fldT n) (fun j=>fldB L r3.2 [.pin t 0,.pin u 1,.pin v 2,.pin w 3,.pin x 4,.pin y 5] X.1.1 r3.1.1 X.1.2 ((n.text,r3.1.2)::zcy n.text (X.1.2.names.take j) (X.1.2.kids.take j))) (fun j=>X.1.2.names.length-j) 0 [0,1,2,3,4,5,6,7,8,9,10,11,12,13,20,21,16,17,22,26,24,25] (by simp) (by simp[encS,zcy]) fun j h1=>?_
  unfold zhw
  simp
  apply gI<;>intro h
  ·have hj:j<X.1.2.names.length:=by simpa using h
   have hj2:j<X.1.2.kids.length:=by omega
   obtain⟨z,hz⟩:∃z,X.1.2.names[j]=z:=⟨_,rfl⟩
   obtain⟨q,hq⟩:∃q,X.1.2.kids[j]=q:=⟨_,rfl⟩
   have tk1:X.1.2.names.take (j+1)=X.1.2.names.take j++[z]:=by rw[aJ hj,hz]
   have tk2:X.1.2.kids.take (j+1)=X.1.2.kids.take j++[q]:=by rw[aJ hj2,hq]
   have rs:=zk3 n.text z q (X.1.2.names.take j) (X.1.2.kids.take j) (by rw[bI,bI];omega)
   rw[<-tk1,<-tk2]at rs
   have rl:=zmZ n.text (X.1.2.names.take j) (X.1.2.kids.take j)
   rw[bI]at rl
   have hw:=wI (n:=(j:Int)+1)
   simp[hj,hz]
   refine⟨by decide,?_⟩
   by_cases e:z=n.text
   ·rw[aC e,bL]at rs
    simp[e]
    refine fD (j+1) [0,1,2,3,4,5,6,7,8,9,10,11,12,13,14,15,16,17,18,19,20,21] (by omega) (by omega) ?_
    simp only[fldB,rs]
    simp[hw]
   ·rw[aB e]at rs
    generalize hA:zcy n.text (X.1.2.names.take j) (X.1.2.kids.take j)=A at*
    simp[e,hj,hz,hj2,hq]
    refine⟨by omega,by decide,by omega,by decide,?_⟩
    refine fD (j+1) [0,1,2,3,4,5,6,7,8,9,10,11,12,13,14,15,16,17,18,19,22,23] (by omega) (by omega) ?_
    simp[hw,rs]
    refine⟨?_,?_⟩
    ·rw[zbT _ _ (by simp[encS])];simp[encS]
    ·rw[zbT _ _ (by simp)]
  have hj:j=X.1.2.names.length:=by simp at h;omega
  subst hj
  rw[bS,hl,bS]
  generalize zcy n.text X.1.2.names X.1.2.kids=B at*
  have z1:take (B.length+1) (encS (n.text::List.map (fun x=>x.1) B))=encS (n.text::List.map (fun x=>x.1) B):=zbT _ _ (by simp[encS])
  have z2:take B.length (List.map (Typ.enc∘fun x=>x.2) B)=List.map (Typ.enc∘fun x=>x.2) B:=zbT _ _ (by simp)
  have m4:=zfp L (.mk 5 (bs []) (((n.text,r3.1.2)::B).map (·.1)) (((n.text,r3.1.2)::B).map (·.2))) n r3.2
  generalize zbN (.mk 5 (bs []) (((n.text,r3.1.2)::B).map (·.1)) (((n.text,r3.1.2)::B).map (·.2))) n.line n.col r3.2=r4 at*
  simp[hk]
  refine fP [20,21] ?_
  simp[zah,z1,z2]
  refine gM [0,1,2,14,4,15] m4 (by simp[zcc]) ?_
  simp
  refine⟨by decide,?_⟩
  exact fH [0,1,2,9,4,11,14,15] [6,7,8,9,10,11]
 have eX:anyC (bT 5) n.line n.col r1=r1:=by unfold anyC;rw[aB t0]
 have p2:SOk L r1.2 (8*nsz b+1+k)/\wfT r1.1.2:=⟨p1.1.less (by omega),p1.2⟩
 rw[eX]
 by_cases k5:r1.1.2.kind=5
 rotate_left
 ·rw[aC k5]
  have m2:=zc0 L n 17 r1.2
  generalize zaW n.line n.col 17 r1.2=r2 at*
  simp[hk]
  refine gK [0,1,2,3,4,5] m1 ?_
  simp[t0,k5]
  refine gK [0,1,2,14,4,15] m2 ?_
  simp
  refine gN hb0 ?_
  simp
  exact fH [0,1,2,9,4,11,14,15] [6,7,8,9,10,11]
 rw[aB (fun z=>z k5)]
 obtain⟨X,hX⟩:∃X,X=r1:=⟨_,rfl⟩
 subst hX
 have m3:=hb.1 env X.2 k (he.less (by omega)) (p2.1.less (by omega))
 have p3:=hb.2 env X.2 k (he.less (by omega)) (p2.1.less (by omega))
 generalize ib env X.2=r3 at*
 have hl:=zBr p2.2 k5
 have hl2:=zeI p2.2
 simp[hk]
 refine gK [0,1,2,3,4,5] m1 ?_
 simp[t0,k5,hk]
 refine gK [0,1,2,14,4,15] m3 ?_
 simp[hk]
 have e0:zcy n.text (X.1.2.names.take 0) (X.1.2.kids.take 0)=[]:=rfl
 refine fK zaa hp (fun j:Nat=>j<=X.1.2.names.length) (fldT n) (fun j=>fldB L r3.2 [.pin t 0,.pin u 1,.pin v 2,.pin w 3,.pin x 4,.pin y 5] X.1.1 r3.1.1 X.1.2 ((n.text,r3.1.2)::zcy n.text (X.1.2.names.take j) (X.1.2.kids.take j))) (fun j=>X.1.2.names.length-j) 0 [0,1,2,3,4,5,6,7,8,9,10,11,12,13,18,19,16,17,20,24,22,23] (by simp) (by simp[encS,zcy]) fun j h1=>?_
 unfold zhw
 simp
 apply gI<;>intro h
 ·have hj:j<X.1.2.names.length:=by simpa using h
  have hj2:j<X.1.2.kids.length:=by omega
  obtain⟨z,hz⟩:∃z,X.1.2.names[j]=z:=⟨_,rfl⟩
  obtain⟨q,hq⟩:∃q,X.1.2.kids[j]=q:=⟨_,rfl⟩
  have tk1:X.1.2.names.take (j+1)=X.1.2.names.take j++[z]:=by rw[aJ hj,hz]
  have tk2:X.1.2.kids.take (j+1)=X.1.2.kids.take j++[q]:=by rw[aJ hj2,hq]
  have rs:=zk3 n.text z q (X.1.2.names.take j) (X.1.2.kids.take j) (by rw[bI,bI];omega)
  rw[<-tk1,<-tk2]at rs
  have rl:=zmZ n.text (X.1.2.names.take j) (X.1.2.kids.take j)
  rw[bI]at rl
  have hw:=wI (n:=(j:Int)+1)
  simp[hj,hz]
  refine⟨by decide,?_⟩
  by_cases e:z=n.text
  ·rw[aC e,bL]at rs
   simp[e]
   refine fD (j+1) [0,1,2,3,4,5,6,7,8,9,10,11,12,13,14,15,16,17,18,19,20,21] (by omega) (by omega) ?_
   simp only[fldB,rs]
   simp[hw]
  ·rw[aB e]at rs
   generalize hA:zcy n.text (X.1.2.names.take j) (X.1.2.kids.take j)=A at*
   simp[e,hj,hz,hj2,hq]
   refine⟨by omega,by decide,by omega,by decide,?_⟩
   refine fD (j+1) [0,1,2,3,4,5,6,7,8,9,10,11,12,13,14,15,16,17,18,19,22,23] (by omega) (by omega) ?_
   simp[hw,rs]
   refine⟨?_,?_⟩
   ·rw[zbT _ _ (by simp[encS])];simp[encS]
   ·rw[zbT _ _ (by simp)]
 have hj:j=X.1.2.names.length:=by simp at h;omega
 subst hj
 rw[bS,hl,bS]
 generalize zcy n.text X.1.2.names X.1.2.kids=B at*
 have z1:take (B.length+1) (encS (n.text::List.map (fun x=>x.1) B))=encS (n.text::List.map (fun x=>x.1) B):=zbT _ _ (by simp[encS])
 have z2:take B.length (List.map (Typ.enc∘fun x=>x.2) B)=List.map (Typ.enc∘fun x=>x.2) B:=zbT _ _ (by simp)
 have m4:=zfp L (.mk 5 (bs []) (((n.text,r3.1.2)::B).map (·.1)) (((n.text,r3.1.2)::B).map (·.2))) n r3.2
 generalize zbN (.mk 5 (bs []) (((n.text,r3.1.2)::B).map (·.1)) (((n.text,r3.1.2)::B).map (·.2))) n.line n.col r3.2=r4 at*
 simp[hk]
 refine fP [20,21] ?_
 simp[zah,z1,z2]
 refine gM [0,1,2,14,4,15] m4 (by simp[zcc]) ?_
 simp
 refine⟨by decide,?_⟩
 exact fH [0,1,2,9,4,11,14,15] [6,7,8,9,10,11]
end
end Go.Gr
namespace Go.Gr
open Go.Abs Go.Proofs List
section
variable (L:Lnk)
def zhO(l:List fC):Nat->Bool
 |0=>false
 |i+1=>zhO l i||(l.take i).any (fun m=>decide (some m=l[i]?))
def zgS(l:List fC)(i j:Nat):Bool:=zhO l i||(l.take j).any (fun m=>decide (some m=l[i]?))
def zxF(l:List fC):∀i,i<=l.length->(zhO l i||dupS (l.take i) (l.drop i))=dupS [] l
 |0,_=>by simp[zhO]
 |i+1,h=>by
  have hi:i<l.length:=by omega
  rw[<-zxF l i (by omega),aG hi,dupS,zhO,aJ hi]
  simp[Bool.or_assoc,hi]
def zAX(l:List fC):zhO l l.length=dupS [] l:=by
 have:=zxF l l.length (by omega)
 rw[aO]at this
 simpa[dupS]using this
def dupC(n:Nod)(s:CS)(q:Bool):CS:=if q=true then zaW n.line n.col 8 s else s
def zAY(n:Nod)(s:CS)(q:Bool):zaW n.line n.col 8 (dupC n s q)=dupC n s true:=by
 unfold dupC
 cases q with
 |false=>simp
 |true=>
  simp only[aC]
  unfold zaW
  by_cases h:s.e=0
  ·rw[aC h];try rfl
  ·rw[aB h,aB h]
def zxG{L:Lnk}{n:Nod}{s:CS}{b:Nat}(h:SOk L s b)(q:Bool):SOk L (dupC n s q) b:=by
 unfold dupC
 split
 ·exact zb0 h _ _ _
 ·exact h
theorem zxH(n:Nod)(ks:Env->CS->(List Cor × List Typ) × CS)(env:Env)(s:CS):recC n ks env s=((.mk 8 0 (bs []) [] n.names [] [] (ks env (dupC n s (dupS [] n.names))).1.1,(zbN (.mk 5 (bs []) n.names (ks env (dupC n s (dupS [] n.names))).1.2) n.line n.col (ks env (dupC n s (dupS [] n.names))).2).1),(zbN (.mk 5 (bs []) n.names (ks env (dupC n s (dupS [] n.names))).1.2) n.line n.col (ks env (dupC n s (dupS [] n.names))).2).2):=rfl
def zu4:∀l:List Nod,l.length<=nszs l
 |[]=>by simp
 |n::l=>by
  have:=zu4 l
  have:=zbC n
  rw[nszs,length_cons];omega
def zsu:∀(l:List Nod) (j:Nat),nszs (l.drop j)<=nszs l
 |[],j=>by simp
 |n::l,0=>by simp
 |n::l,j+1=>by
  have:=zsu l j
  rw[drop_succ_cons,nszs];omega
def zu5(env:Env):∀(l:List Nod),(∀x,x∈l->PInf L x (zan L x))->EOk env (nszs l)->∀(s:CS) (b:Nat),SOk L s (8*nszs l+b)->SOk L (za0 L l env s).2 b
 |[],_,_,s,b,h=>by rw[za0];exact h.less (by omega)
 |n::l,hl,he,s,b,h=>by
  rw[nszs]at he h
  have h1:=hl n (by simp) env s (8*nszs l+b) (he.less (by omega)) (h.less (by omega))
  rw[za0]
  exact zu5 env l (fun x hx=>hl x (by simp[hx])) (he.less (by omega)) _ b h1.1
def zGH(n:Nod)(hks:∀x,x∈n.kids->PInf L x (zan L x)):PInf L n (recC n (za0 L n.kids)):=fun env s k he hs=>by
 rw[zbC]at he hs
 have h1:=zu5 L env n.kids hks (he.less (by omega)) (dupC n s (dupS [] n.names)) k (zxG (hs.less (by omega)) _)
 rw[zxH]
 exact zir h1 _ _ _
abbrev arrC(l:List Cor):Blk:=.arr 8 ((l.map Cor.enc).map (·.map .d))
abbrev rcT0(n:Nod)(env:Env)(i:Nat):List (Nat × AV):=[(8,.c (.d (.int .i64 i))),(7,.c (.ptr 13 0)),(6,.c (.ptr 12 0)),(4,.c (.d (.rp n.enc 0))),(2,.c (.d (.sl false 5 (env.map encV)))),(0,.c (.ptr 0 0))]
abbrev rcB0(P:List Blk)(S:CS):List Blk:=ck6 L S++(P++[.box [.d (.int .i64 0),.d (.int .i64 0),.d (.str (bs [])),.d (.sl true 1 []),.d (.sl true 1 []),.d (.sl true 4 []),.d (.sl true 5 []),.d (.sl true 8 [])],.box [.d (.int .i64 0),.d (.str (bs [])),.d (.sl true 1 []),.d (.sl true 4 [])]])
abbrev rcT(n:Nod)(env:Env)(j:Nat):List (Nat × AV):=[(12,.c (.d (.int .i64 j))),(11,.c (.ptr 11 0)),(10,.c (.ptr 10 0)),(7,.c (.ptr 9 0)),(6,.c (.ptr 8 0)),(4,.c (.d (.rp n.enc 0))),(2,.c (.d (.sl false 5 (env.map encV)))),(0,.c (.ptr 0 0))]
abbrev rcB(n:Nod)(P:List Blk)(S:CS)(cs:List Cor)(ts:List Typ):List Blk:=[ckBx L S 2 12 3,tbB 256 S.tab.length 13,funA S.funs,diaA S.bad]++(P++[.box [.d (.int .i64 0),.d (.int .i64 0),.d (.str (bs [])),.d (.sl true 1 []),.d (.sl true 1 []),.d (.sl true 4 []),.d (.sl true 5 []),.d (.sl true 8 [])],.box [.d (.int .i64 0),.d (.str (bs [])),.d (.sl true 1 []),.d (.sl true 4 [])],.box [.d (.int .i64 8),.d (.int .i64 0),.d (.str (bs [])),.d (.sl true 1 []),.d (.sl false 1 (encS n.names)),.d (.sl true 4 []),.d (.sl true 5 []),.msl 8 14 0 cs.length],.box [.d (.int .i64 5),.d (.str (bs [])),.d (.sl false 1 (encS n.names)),.msl 4 15 0 ts.length],sitA S.sites,tabA S.tab,arrC cs,arrT ts])
theorem zy1(n:Nod)(hnm:n.names.length<=1000000)(hks:∀x,x∈n.kids->zcm L x (zan L x)):MInf L 85 n (recC n (za0 L n.kids)):=fun env s k he hs=>by
 refine zvL MS1 fun ts hts ok hbk c hN hp=>?_
 obtain⟨t,u,v,w,x,y,rfl⟩:=zbb hts
 have hn:=zbC n
 rw[zxH]
 unfold zm4
 simp
 refine fK zaa hp (fun i:Nat=>i<=n.names.length) (rcT0 n env) (fun i=>rcB0 L [.pin t 0,.pin u 1,.pin v 2,.pin w 3,.pin x 4,.pin y 5] (dupC n s (zhO n.names i))) (fun i=>n.names.length-i) 0 [0,1,2,3,4,5,6,7,8,9,10,11,12,13] (by simp) (by simp[zhO,dupC]) fun i h1=>?_
 unfold zkn
 simp
 apply gI<;>intro h
 ·have hi:i<n.names.length:=by simpa using h
  obtain⟨z,hz⟩:∃z,n.names[i]=z:=⟨_,rfl⟩
  have hz2:n.names[i]?=some z:=by rw[aA hi,hz]
  try simp
  refine fK zaa hp (fun j:Nat=>j<=i) (fun j=>(9,.c (.d (.int .i64 j)))::rcT0 n env i) (fun j=>rcB0 L [.pin t 0,.pin u 1,.pin v 2,.pin w 3,.pin x 4,.pin y 5] (dupC n s (zgS n.names i j))) (fun j=>i-j) 0 [0,1,2,3,4,5,6,7,8,9,10,11,12,13] (by simp) (by simp[zgS]) fun j h2=>?_
  unfold zkm
  simp
  apply gI<;>intro h
  ·have hj:j<i:=by simpa using h
   have hj2:j<n.names.length:=by omega
   obtain⟨q,hq⟩:∃q,n.names[j]=q:=⟨_,rfl⟩
   have hw:=wI (n:=(j:Int)+1)
   have m:=zc0 L n 8 (dupC n s (zgS n.names i j))
   rw[zAY]at m
   have e:zgS n.names i (j+1)=(zgS n.names i j||decide (q=z)):=by
    unfold zgS
    rw[aJ hj2,hz2,hq]
    simp[Bool.or_assoc]
   by_cases c0:q=z
   ·have e2:zgS n.names i (j+1)=true:=by rw[e];simp[c0]
    simp[hj2,hq,hz,hi,c0]
    refine⟨by decide,?_⟩
    refine gK [0,1,2,3,4,5] m ?_
    simp
    refine fD (j+1) [0,1,2,3,4,5,6,7,8,9,10,11,12,13] (by omega) (by omega) ?_
    simp[hw,e2]
   ·have e2:zgS n.names i (j+1)=zgS n.names i j:=by rw[e];simp[c0]
    simp[hj2,hq,hz,hi,c0]
    refine⟨by decide,?_⟩
    refine fD (j+1) [0,1,2,3,4,5,6,7,8,9,10,11,12,13] (by omega) (by omega) ?_
    simp[hw,e2]
  ·have hj:j=i:=by simp at h;omega
   subst hj
   have hw:=wI (n:=(j:Int)+1)
   have e:zgS n.names j j=zhO n.names (j+1):=rfl
   simp
   refine fD (j+1) [0,1,2,3,4,5,6,7,8,9,10,11,12,13] (by omega) (by omega) ?_
   simp[hw,e]
 have hi:i=n.names.length:=by simp at h;omega
 subst hi
 rw[zAX]
 have s1:=zxG (n:=n) (b:=8*nszs n.kids+k) (hs.less (by omega)) (dupS [] n.names)
 generalize dupC n s (dupS [] n.names)=s1' at*
 obtain⟨R,hR⟩:∃R,za0 L n.kids env s1'=R:=⟨_,rfl⟩
 rw[hR]
 have hkl:=zu4 n.kids
 have hel:=he.len
 simp
 refine fQ [.c 14 7,.c 15 3] ?_
 simp
 refine fK zaa hp (fun Y:Nat × CS × List Cor × List Typ=>Y.1<=n.kids.length/\SOk L Y.2.1 (8*nszs (n.kids.drop Y.1)+k)/\Y.2.2.1.length=Y.1/\Y.2.2.2.length=Y.1/\((Y.2.2.1++(za0 L (n.kids.drop Y.1) env Y.2.1).1.1,Y.2.2.2++(za0 L (n.kids.drop Y.1) env Y.2.1).1.2),(za0 L (n.kids.drop Y.1) env Y.2.1).2)=R) (fun Y=>rcT n env Y.1) (fun Y=>rcB L n [.pin t 0,.pin u 1,.pin v 2,.pin x 3] Y.2.1 Y.2.2.1 Y.2.2.2) (fun Y=>n.kids.length-Y.1) (0,s1',[],[]) [0,1,2,4,6,7,8,10,12,13,14,15,3,5,16,17] ⟨by simp,by simpa using s1,by simp,by simp,by simpa using hR⟩ (by simp) fun⟨j,S,cs,ts⟩ ⟨i1,i2,i3,i4,i5⟩=>?_
 unfold zko
 simp only at i1 i2 i3 i4 i5
 simp
 apply gI<;>intro h
 ·have hj:j<n.kids.length:=by simpa using h
  obtain⟨q,hq⟩:∃q,n.kids[j]=q:=⟨_,rfl⟩
  have hqm:q∈n.kids:=by rw[<-hq];exact aS hj
  have hd:=zsu n.kids j
  rw[aG hj,hq]at i2 i5 hd
  rw[za0]at i5
  rw[nszs]at i2 hd
  have m:=(hks q hqm).1 env S (8*nszs (n.kids.drop (j+1))+k) (he.less (by omega)) (i2.less (by omega))
  have p:=(hks q hqm).2 env S (8*nszs (n.kids.drop (j+1))+k) (he.less (by omega)) (i2.less (by omega))
  simp only at i5
  generalize zan L q env S=r at*
  have hw:=wI (n:=(j:Int)+1)
  simp[hj,hq]
  refine gK [0,1,2,12,3,13] m ?_
  simp
  refine⟨by omega,by omega,?_⟩
  refine fD (j+1,r.2,cs++[r.1.1],ts++[r.1.2]) [0,1,2,3,4,5,6,7,8,9,10,11,16,17,20,21] ⟨by simp only;omega,p.1,by simp;omega,by simp;omega,by simpa using i5⟩ (by simp only;omega) ?_
  simp[hw]
  refine⟨?_,?_⟩
  ·rw[zbT _ _ (by simp)]
  ·rw[zbT _ _ (by simp)]
 have hj:j=n.kids.length:=by simp at h;omega
 subst hj
 rw[aO,za0]at i5
 simp only[bL]at i5
 subst i5
 simp only
 have m4:=zfp L (.mk 5 (bs []) n.names ts) n S
 generalize zbN (.mk 5 (bs []) n.names ts) n.line n.col S=r4 at*
 simp
 refine fP [14,15] ?_
 have z1:=zbT (cs.map Cor.enc) cs.length (by simp)
 have z2:=zbT (ts.map Typ.enc) ts.length (by simp)
 simp[zah,z1,z2]
 refine gM [0,1,2,12,3,13] m4 (by simp[zcc]) ?_
 simp
 refine⟨by decide,?_⟩
 exact fG [0,1,2,8,3,9,12,13] [4,5,6,4,7,4] (by simp[z1,zjO,zdJ,zcc,encI,AV.erds,AV.erd,D.erdL,D.erd,D.erdE,kid0,kid1])
end
end Go.Gr
namespace Go.Gr
open Go.Abs Go.Proofs List
section
variable (L:Lnk)
def zo7{L:Lnk}(ln cl:Int):∀(ts l:List Typ) (s:CS) (b:Nat),SOk L s b->SOk L (zcM ln cl ts l s).2 b
 |[],_,_,_,h=>h
 |t::ts,l,s,b,h=>by
  rw[zcM]
  split
  ·exact h
  ·exact zo7 ln cl ts _ _ b (zbt h t ln cl).1
def zmT(x:fC):∀l:List Ent,(zcf l x).2=true->(zcf l x).1∈l
 |[],h=>by simp[zcf]at h
 |e::l,h=>by
  rw[zcf]at h⊢
  split at h
  ·rename_i q;rw[aC q];simp
  ·rename_i q;rw[aB q];exact mem_cons_of_mem _ (zmT x l h)
def zxz{env:Env}{b:Nat}(he:EOk env b)(k:Nat):wfT (env.getD k (bs [],noT)).2:=by
 rw[aH]
 cases h:env[k]? with
 |none=>exact zbP
 |some v=>exact he.wf v (af h)
def zsn(ln cl:Int):∀(ts l:List Typ) (s:CS),(zcM ln cl ts l s).1.length<=l.length+ts.length
 |[],l,_=>by rw[zcM];simp
 | t::ts,l,s=>by
  rw[zcM]
  split
  ·simp only[length_cons];omega
  ·refine ak (zsn ln cl ts _ _) ?_
   simp only[aX,length_cons,length_nil];omega
def zFO{L:Lnk}(hL:GoodL L)(i:Nat)(x:fC)(h:(zcf (L.scopes.getD i []) x).2=true):EntOk L ⟨bs [],(zcf (L.scopes.getD i []) x).1.module,(zcf (L.scopes.getD i []) x).1.decl⟩:=by
 have hm:=zmT x _ h
 have:L.scopes.getD i []∈L.scopes:=by
  rw[aH]at hm⊢
  cases q:L.scopes[i]? with
  |none=>rw[q]at hm;simp at hm
  |some sc=>exact af q
 have r:=hL.ents _ this _ hm
 exact⟨r.m0,r.m1,r.d0,r.d1⟩
def zEK(hL:GoodL L)(n:Nod)(hty:n.types.length<=1000000):PInf L n (zdO L n):=fun env s k he hs=>by
 have hs:=hs.less (c:=k) (by omega)
 have ent:=zFO hL s.module.toNat n.text
 unfold zdO
 simp only
 split
 ·exact⟨hs,zxz he _⟩
 rename_i c1
 split
 ·exact⟨zb0 hs _ _ _,zbP⟩
 rename_i c2
 split
 ·exact⟨zb0 hs _ _ _,zbP⟩
 rename_i c3
 have ent:=ent (by
  by_cases q:(zcf (L.scopes.getD s.module.toNat []) n.text).2=true
  ·exact q
  ·exact absurd ⟨by omega,by simpa using q⟩ c2)
 split
 ·exact⟨zb0 hs _ _ _,zbP⟩
 split
 ·exact zpS hs _ _ _ _ ent (by simp)
 have h2:=zo7 n.line n.col n.types [] s k hs
 have h3:=zsn n.line n.col n.types [] s
 split
 ·exact⟨h2,zbP⟩
 split
 ·exact⟨zb0 h2 _ _ _,zbP⟩
 ·exact zpS h2 _ _ _ _ ent (by simp at h3;omega)
abbrev nmT(n:Nod)(j m:Nat):List (Nat × AV):=[(14,.c (.d (.int .i64 j))),(13,.c (.msl 4 17 0 m)),(12,.c (.ptr 16 0)),(11,.c (.ptr 15 0)),(9,.c (.ptr 14 0)),(7,.c (.ptr 13 0)),(6,.c (.ptr 12 0)),(4,.c (.d (.rp n.enc 0))),(0,.c (.ptr 0 0))]
abbrev nmB(P:List Blk)(e:Ent)(d:Dec)(S:CS)(ts:List Typ):List Blk:=ck6 L S++(P++[.box [.d (.int .i64 0),.d (.int .i64 0),.d (.str (bs [])),.d (.sl true 1 []),.d (.sl true 1 []),.d (.sl true 4 []),.d (.sl true 5 []),.d (.sl true 8 [])],.box [.d (.int .i64 0),.d (.str (bs [])),.d (.sl true 1 []),.d (.sl true 4 [])],.box (e.enc.map .d),.box [.d (.int .i64 0),.d (.int .i64 0),.d (.str (bs [])),.d (.sl true 1 []),.d (.sl true 1 []),.d (.sl true 4 []),.d (.sl true 5 []),.d (.sl true 8 [])],.box (d.enc.map .d),arrT ts])
def zAN(hL:GoodL L)(n:Nod)(hty:n.types.length<=1000000):MInf L 81 n (zdO L n):=fun env s k he hs=>by
 refine zwW MS1 fun ts hts ok hbk c hN hp=>?_
 obtain⟨t,u,v,w,x,y,rfl⟩:=zbb hts
 have hb0:=zaG 0
 have hel:=he.len
 have hfi:=find_ok env (by omega) n.text
 have hfl:=zps env n.text
 obtain⟨sc,hsc⟩:∃sc,L.scopes.getD s.module.toNat []=sc:=⟨_,rfl⟩
 obtain⟨mn,hmn⟩:∃mn:Nat,s.module=mn:=⟨s.module.toNat,by have:=hs.m0;omega⟩
 have hml:mn<L.scopes.length:=by have:=hs.m1;have:=hL.scopes;omega
 have hsc2:L.scopes[mn]?=some sc:=by rw[hmn]at hsc;simp only[az]at hsc;rw[<-hsc,aH,aA hml];try rfl
 have hfe:=zxV sc n.text
 have hem:=zmT n.text sc
 unfold zdO
 simp only
 rw[hsc]
 generalize zcf sc n.text=e at*
 generalize zcn env n.text=z at*
 have hse:∀q:e.2=true,EntOk L e.1:=fun q=>hL.ents sc (af hsc2) _ (hem q)
 unfold zoy
 simp[hmn,hsc2]
 refine gN hfi ?_
 simp[hmn,hsc2]
 refine gN hfe ?_
 have ge1:∀h,e.1.enc[1]'h=D.int .i64 e.1.module:=fun _=>rfl
 have ge2:∀h,e.1.enc[2]'h=D.int .i64 e.1.decl:=fun _=>rfl
 by_cases z0:0<=z
 ·obtain⟨zn,hzn⟩:∃zn:Nat,z=zn:=⟨z.toNat,by omega⟩
  have hzl:zn<env.length:=by omega
  obtain⟨v,hv⟩:∃v,env[zn]=v:=⟨_,rfl⟩
  have hv2:env.getD z.toNat (bs [],noT)=v:=by rw[hzn];simp only[az];rw[aH,aA hzl,hv];try rfl
  by_cases k4:n.kind=4
  ·rw[aC ⟨z0,k4⟩,hv2]
   subst hzn
   simp[k4,hzl,hv]
   refine⟨by decide,by decide,?_⟩
   exact fH [0,1,2,9,4,11,3,5] [6,7,8,9,10,11]
  ·rw[aB (fun q=>k4 q.2),aB (fun q=>by omega),aC z0]
   have m:=zc0 L n 18 s
   generalize zaW n.line n.col 18 s=s2 at*
   have z1:¬z<0:=by omega
   simp[k4,z0,z1]
   refine⟨by decide,?_⟩
   refine gK [0,1,2,3,4,5] m ?_
   simp
   refine gN hb0 ?_
   simp
   refine⟨by decide,?_⟩
   exact fH [0,1,2,9,4,11,3,5] [6,7,8,9,10,11]
 have z1:z<0:=by omega
 rw[aB (fun q=>z0 q.1)]
 by_cases e2:e.2=true
 rotate_left
 ·rw[aC ⟨z1,by simpa using e2⟩]
  have m:=zc0 L n 10 s
  generalize zaW n.line n.col 10 s=s2 at*
  simp[z0,z1,e2]
  refine⟨by decide,?_⟩
  refine gK [0,1,2,3,4,5] m ?_
  simp
  refine gN hb0 ?_
  simp
  refine⟨by decide,?_⟩
  exact fH [0,1,2,9,4,11,3,5] [6,7,8,9,10,11]
 rw[aB (fun q=>by simp[e2]at q),aB z0]
 have hen:=hse e2
 have hen2:EntOk L ⟨bs [],e.1.module,e.1.decl⟩:=⟨hen.m0,hen.m1,hen.d0,hen.d1⟩
 obtain⟨mn2,kn,M,e1,e3,g1,g2,hd⟩:=zhk hL hen2
 generalize hdd:zdV L e.1.module e.1.decl=d at*
 by_cases c9:decide (0<d.vars.length)=decide (n.kind=19)
 rotate_left
 ·rw[aC c9]
  have m:=zc0 L n 18 s
  generalize zaW n.line n.col 18 s=s2 at*
  simp[z0,z1,e2,ge1,ge2,e1,e3,g1,g2]
  refine⟨by decide,by decide,?_⟩
  by_cases c0:0<d.vars.length
  ·have c1:¬n.kind=19:=fun q=>c9 (by simp[c0,q])
   simp[c0,c1]
   refine gK [0,1,2,3,4,5] m ?_
   simp
   refine gN hb0 ?_
   simp
   refine⟨by decide,?_⟩
   exact fH [0,1,2,9,4,11,3,5] [6,7,8,9,10,11]
  ·have c1:n.kind=19:=by
    by_cases q:n.kind=19
    ·exact q
    ·exact absurd (by simp[c0,q]) c9
   simp[c0,c1]
   refine gK [0,1,2,3,4,5] m ?_
   simp
   refine gN hb0 ?_
   simp
   refine⟨by decide,?_⟩
   exact fH [0,1,2,9,4,11,3,5] [6,7,8,9,10,11]
 rw[aB (fun q=>q c9)]
 by_cases k4:n.kind=4
 ·rw[aC k4]
  have c0:¬0<d.vars.length:=fun q=>by simp[q,k4]at c9
  have m:=MCall.erd (args:=[.c (.ptr 0 0),.ag (n.enc.map .d),.ag (e.1.enc.map .d),.c (.d (.sl true 4 []))]) (zpT L hL n e.1 hen2 [] (by simp) s hs.tab) (by simp[AV.erds,AV.erd,AC.erd,D.erd,D.erdL,D.erdE,Ent.enc])
  generalize zbO L n.line n.col e.1 [] s=r at*
  simp[z0,z1,e2,ge1,ge2,e1,e3,g1,g2]
  refine⟨by decide,by decide,?_⟩
  simp[c0,k4]
  refine gK [0,1,2,3,4,5] m ?_
  simp
  exact fH [0,1,2,9,4,11,17,18] [6,7,8,9,10,11]
 rw[aB k4]
 obtain⟨R,hR⟩:∃R,zcM n.line n.col n.types [] s=R:=⟨_,rfl⟩
 have pR:=zo7 n.line n.col n.types [] s k (hs.less (by omega))
 rw[hR]at pR⊢
 simp[z0,z1,e2,ge1,ge2,e1,e3,g1,g2]
 refine⟨by decide,by decide,?_⟩
 have c9':(decide (0<d.vars.length) !=decide (n.kind=19))=false:=by rw[c9];simp
 apply gI<;>intro h
 ·exfalso
  simp_all
 simp[k4]
 refine fQ [.t 13] ?_
 simp
 refine fK zaa hp (fun Y:Nat × CS × List Typ=>Y.1<=n.types.length/\SOk L Y.2.1 k/\Y.2.2.length=Y.1/\zcM n.line n.col (n.types.drop Y.1) Y.2.2 Y.2.1=R) (fun Y=>nmT n Y.1 Y.2.2.length) (fun Y=>nmB L [.pin t 0,.pin u 1,.pin v 2,.pin w 3,.pin x 4,.pin y 5] e.1 d Y.2.1 Y.2.2) (fun Y=>n.types.length-Y.1) (0,s,[]) [0,1,2,3,4,5,6,7,8,9,10,11,12,13,14,15,16,17] ⟨by simp,hs.less (by omega),by simp,by simpa using hR⟩ (by simp) fun⟨j,S,ts⟩ ⟨i1,i2,i3,i4⟩=>?_
 unfold zlZ
 simp only at i1 i2 i3 i4
 simp
 by_cases hj:j<n.types.length
 ·by_cases q0:S.e=0
  ·obtain⟨q,hq⟩:∃q,n.types[j]=q:=⟨_,rfl⟩
   rw[aG hj,hq,zcM,aB (fun z=>z q0)]at i4
   have m:=zdx L q n.line n.col S i2.wth
   have p:=zbt i2 q n.line n.col
   generalize zar q n.line n.col S=r at*
   have hw:=wI (n:=(j:Int)+1)
   simp[hj,q0,hq]
   refine gK [0,1,2,3,4,5] m ?_
   simp
   refine⟨by decide,by omega,?_⟩
   refine fD (j+1,r.2,ts++[r.1]) [0,1,2,3,4,5,6,7,8,9,10,11,12,13,14,15,16,19] ⟨by simp only;omega,p.1,by simp;omega,i4⟩ (by simp only;omega) ?_
   simp[hw]
   rw[zbT _ _ (by simp)]
  ·have i5:(ts,S)=R:=by rw[aG hj,zcM,aC q0]at i4;exact i4
   subst i5
   rw[aC q0]
   simp[hj,q0]
   refine gN hb0 ?_
   simp
   refine⟨by decide,?_⟩
   exact fH [0,1,2,9,4,11,3,5] [6,7,8,9,10,11]
 have hj2:j=n.types.length:=by omega
 rw[hj2,aO,zcM]at i4
 subst i4
 by_cases q0:S.e=0
 rotate_left
 ·rw[aC q0]
  simp[hj,q0]
  refine gN hb0 ?_
  simp
  refine⟨by decide,?_⟩
  exact fH [0,1,2,9,4,11,3,5] [6,7,8,9,10,11]
 rw[aB (fun z=>z q0)]
 have hbi:=zEP d.vars ts (by omega)
 simp only
 generalize znL d.vars ts=B at*
 have z3:=zbT (ts.map Typ.enc) ts.length (by simp)
 simp[hj,q0]
 refine fP [17] ?_
 simp[zah,z3]
 refine gN hbi ?_
 by_cases b0:B=0
 rotate_left
 ·rw[aC b0]
  have m:=zc0 L n B S
  generalize zaW n.line n.col B S=s2 at*
  simp[b0]
  refine gK [0,1,2,3,4,5] m ?_
  simp
  refine gN hb0 ?_
  simp
  refine⟨by decide,?_⟩
  exact fH [0,1,2,9,4,11,3,5] [6,7,8,9,10,11]
 rw[aB (fun z=>z b0)]
 have m:=zpT L hL n e.1 hen2 ts (by omega) S i2.tab
 generalize zbO L n.line n.col e.1 ts S=r at*
 simp[b0,zah,z3]
 refine gK [0,1,2,3,4,5] m ?_
 simp
 exact fH [0,1,2,9,4,11,18,19] [6,7,8,9,10,11]
end
end Go.Gr
namespace Go.Gr
open Go.Abs Go.Proofs List
section
variable (L:Lnk)
def zE4(v:fC × Typ)(t:Typ):put ((encV v).map AC.d) 1 (t.enc.map AC.d)=(encV (v.1,t)).map AC.d:=by
 obtain⟨x,k⟩:=v
 cases k;cases t;rfl
def zDq{a b:Typ}(ha:wfT a)(hb:wfT b):wfT (zgc a b):=by
 unfold zgc
 split
 ·exact hb
 split
 ·exact ha
 split
 ·exact zbP
 split
 ·exact zbP
 split
 ·exact zjQ _
 ·exact zbP
def zzd{t:Typ}(ht:wfT t)(tag:Int):wfT (zcs t tag).1/\wfT (zcs t tag).2:=by
 unfold zcs
 split
 ·exact⟨ht,ht⟩
 split
 ·split
  ·exact⟨ht,ht⟩
  ·rename_i q1 q2 q3
   refine⟨?_,ht⟩
   by_cases h:tag=4
   ·rw[h];exact zzb
   ·exact zcp _ (by omega) (by omega)
 split
 ·exact⟨ht,ht⟩
 split
 ·exact⟨ht,ht⟩
 rename_i q1 q2 q3 q4
 have p2:(zaM (zaL t) tag).2=true:=by simpa using q3
 have k7:t.kind=7:=by simpa using q4
 have h1:wfT (zaM (zaL t) tag).1.t:=(zg6 ht q2 (zfF p2).1).1
 have hm:∀x,x∈(t.kids.filter fun k=>decide (zaj k≠tag))->x∈t.kids:=fun x hx=>(bC.1 hx).1
 have hl:(t.kids.filter fun k=>decide (zaj k≠tag)).length<=t.kids.length:=bV _ _
 have h7:t.kids.length<=6/\∀x,x∈t.kids->1<=x.kind/\x.kind<=6:=by
  rcases((zaQ t).1 ht).2.2 with⟨_,q,_,_⟩|⟨q,_⟩|⟨q,_,_⟩|⟨_,_,q,r⟩
  ·omega
  ·omega
  ·omega
  ·exact⟨q,r⟩
 generalize (t.kids.filter fun k=>decide (zaj k≠tag))=F at*
 split
 ·rename_i r
  exact⟨h1,zdZ ht (hm r (by simp))⟩
 ·exact⟨h1,(zaQ _).2 ⟨rfl,fun x hx=>zdZ ht (hm x hx),.inr (.inr (.inr ⟨rfl,rfl,by show F.length<=6;omega,fun x hx=>h7.2 x (hm x hx)⟩))⟩⟩
def EOk.set{env:Env}{b:Nat}(h:EOk env b)(k:Nat)(x:fC){t:Typ}(ht:wfT t):EOk (env.set k (x,t)) b:=⟨by simpa using h.len,fun v hv=>by
 rcases mem_or_eq_of_mem_set hv with hv|hv
 ·exact h.wf v hv
 ·subst hv;exact ht⟩
def zqK{env:Env}{b:Nat}(h:EOk env b)(q:Nod):EOk (za1 q env).1 b/\EOk (za1 q env).2 b:=by
 unfold za1
 split
 ·have hw:=zzd (zxz h (zcn env (q.kids.getD 0 noN).text).toNat) q.n
  exact⟨h.set _ _ hw.1,h.set _ _ hw.2⟩
 ·exact⟨h,h⟩
def if_p(n q a b:Nod)(hk:n.kids=[q,a,b])(iq ia ib:Inf)(hq:PInf L q iq)(ha:PInf L a ia)(hb:PInf L b ib):PInf L n (ifC q a b iq ia ib):=fun env s k he hs=>by
 have hn:nsz n=nsz q+(nsz a+nsz b)+1:=by rw[zbC,hk];simp[nszs]
 have h1:=hq env s (3+8*nsz a+8*nsz b+k) (he.less (by omega)) (hs.less (by omega))
 have hne:=zqK he q
 unfold ifC
 simp only
 generalize iq env s=r1 at*
 have h2:=zbL (b:=2+8*nsz a+8*nsz b+k) (h1.1.less (by omega)) r1.1.1 r1.1.2 (bT 2) q.line q.col
 generalize zaF r1.1.1 r1.1.2 (bT 2) q.line q.col r1.2=r2 at*
 have h3:=ha (za1 q env).1 r2.2 (2+8*nsz b+k) (hne.1.less (by omega)) (h2.less (by omega))
 generalize ia (za1 q env).1 r2.2=r3 at*
 have h4:=hb (za1 q env).2 r3.2 (2+k) (hne.2.less (by omega)) (h3.1.less (by omega))
 generalize ib (za1 q env).2 r3.2=r4 at*
 have h5:=zbL (b:=1+k) (h4.1.less (by omega)) r3.1.1 r3.1.2 (zgc r3.1.2 r4.1.2) a.line a.col
 generalize zaF r3.1.1 r3.1.2 (zgc r3.1.2 r4.1.2) a.line a.col r4.2=r5 at*
 exact⟨zbL (h5.less (by omega)) _ _ _ _ _,zDq h3.2 h4.2⟩
def zze(n q a b:Nod)(hk:n.kids=[q,a,b])(hqk:q.kind=12->∃w,q.kids=[w])(iq ia ib:Inf)(hq:zcm L q iq)(ha:zcm L a ia)(hb:zcm L b ib):MInf L 88 n (ifC q a b iq ia ib):=fun env s k he hs=>by
 refine zvM MS1 fun ts hts ok hbk c hN hp=>?_
 obtain⟨t,u,v,w,x,y,rfl⟩:=zbb hts
 have hn:nsz n=nsz q+(nsz a+nsz b)+1:=by rw[zbC,hk];simp[nszs]
 have hel:=he.len
 have hb2:=zaG 2
 have m1:=hq.1 env s (3+8*nsz a+8*nsz b+k) (he.less (by omega)) (hs.less (by omega))
 have h1:=hq.2 env s (3+8*nsz a+8*nsz b+k) (he.less (by omega)) (hs.less (by omega))
 have hne:=zqK he q
 unfold ifC
 simp only
 generalize iq env s=r1 at*
 have m2:=zb6 L r1.1.1 r1.1.2 (bT 2) q r1.2 (by have:=h1.1.sites;omega)
 have h2:=zbL (b:=2+8*nsz a+8*nsz b+k) (h1.1.less (by omega)) r1.1.1 r1.1.2 (bT 2) q.line q.col
 generalize zaF r1.1.1 r1.1.2 (bT 2) q.line q.col r1.2=r2 at*
 obtain⟨ea,hea⟩:∃ea,(za1 q env).1=ea:=⟨_,rfl⟩
 obtain⟨eb,heb⟩:∃eb,(za1 q env).2=eb:=⟨_,rfl⟩
 rw[hea,heb]at hne⊢
 have m3:=ha.1 ea r2.2 (2+8*nsz b+k) (hne.1.less (by omega)) (h2.less (by omega))
 have h3:=ha.2 ea r2.2 (2+8*nsz b+k) (hne.1.less (by omega)) (h2.less (by omega))
 generalize ia ea r2.2=r3 at*
 have m4:=hb.1 eb r3.2 (2+k) (hne.2.less (by omega)) (h3.1.less (by omega))
 have h4:=hb.2 eb r3.2 (2+k) (hne.2.less (by omega)) (h3.1.less (by omega))
 generalize ib eb r3.2=r4 at*
 have hj:=zEk r3.1.2 r4.1.2
 generalize zgc r3.1.2 r4.1.2=J at*
 have m5:=zb6 L r3.1.1 r3.1.2 J a r4.2 (by have:=h4.1.sites;omega)
 have h5:=zbL (b:=1+k) (h4.1.less (by omega)) r3.1.1 r3.1.2 J a.line a.col
 generalize zaF r3.1.1 r3.1.2 J a.line a.col r4.2=r5 at*
 have m6:=zb6 L r4.1.1 r4.1.2 J b r5.2 (by have:=h5.sites;omega)
 generalize zaF r4.1.1 r4.1.2 J b.line b.col r5.2=r6 at*
 have zA:=zbT (ea.map encV) env.length
 have zB:=zbT (eb.map encV) env.length
 unfold zm5
 simp[hk]
 refine gK [0,1,2,3,4,5] m1 ?_
 simp
 refine gN hb2 ?_
 simp
 refine gK [0,1,2,15,4,16] m2 ?_
 simp
 refine⟨by decide,by omega,?_⟩
 by_cases c12:q.kind=12
 rotate_left
 ·have e:za1 q env=(env,env):=by unfold za1;rw[aB (fun z=>c12 z.1)]
  rw[e]at hea heb
  simp only at hea heb
  subst hea
  subst heb
  have zA:=zA (by simp)
  have zB:=zA
  simp[c12]
  refine fP [20,21] ?_
  simp[zah,hk,zA,zB, -map_set]
  refine gK [0,1,2,19,4,16] m3 ?_
  simp[zah,hk,zA,zB, -map_set]
  refine gK [0,1,2,22,4,23] m4 ?_
  simp[hk]
  refine gN hj ?_
  simp[hk]
  refine gK [0,1,2,26,4,27] m5 ?_
  simp[hk]
  refine⟨by decide,?_⟩
  refine gK [0,1,2,31,4,27] m6 ?_
  simp
  refine⟨by decide,by decide,?_⟩
  exact fH [0,1,2,9,4,11,32,27] [6,7,8,9,10,11]
 obtain⟨w',hw'⟩:=hqk c12
 have g0:q.kids.getD 0 noN=w':=by rw[hw'];try rfl
 by_cases c4:w'.kind=4
 rotate_left
 ·have e:za1 q env=(env,env):=by unfold za1;rw[g0,aB (fun z=>c4 z.2.1)]
  rw[e]at hea heb
  simp only at hea heb
  subst hea
  subst heb
  have zA:=zA (by simp)
  have zB:=zA
  simp[c12,hw',c4]
  refine fP [20,21] ?_
  simp[zah,hk,zA,zB, -map_set]
  refine gK [0,1,2,19,4,16] m3 ?_
  simp[zah,hk,zA,zB, -map_set]
  refine gK [0,1,2,22,4,23] m4 ?_
  simp[hk]
  refine gN hj ?_
  simp[hk]
  refine gK [0,1,2,26,4,27] m5 ?_
  simp[hk]
  refine⟨by decide,?_⟩
  refine gK [0,1,2,31,4,27] m6 ?_
  simp
  refine⟨by decide,by decide,?_⟩
  exact fH [0,1,2,9,4,11,32,27] [6,7,8,9,10,11]
 have hfi:=find_ok env (by omega) w'.text
 have hfl:=zps env w'.text
 have e:za1 q env=if 0<=zcn env w'.text then(env.set (zcn env w'.text).toNat ((env.getD (zcn env w'.text).toNat (bs [],noT)).1,(zcs (env.getD (zcn env w'.text).toNat (bs [],noT)).2 q.n).1),env.set (zcn env w'.text).toNat ((env.getD (zcn env w'.text).toNat (bs [],noT)).1,(zcs (env.getD (zcn env w'.text).toNat (bs [],noT)).2 q.n).2))else(env,env):=by
  unfold za1
  rw[g0]
  by_cases z:0<=zcn env w'.text
  ·rw[aC ⟨c12,c4,z⟩,aC z]
  ·rw[aB (fun p=>z p.2.2),aB z]
 generalize zcn env w'.text=z at*
 by_cases z0:0<=z
 rotate_left
 ·rw[aB z0]at e
  rw[e]at hea heb
  simp only at hea heb
  subst hea
  subst heb
  have zA:=zA (by simp)
  have zB:=zA
  simp[c12,hw',c4]
  refine gN hfi ?_
  simp[z0]
  refine fP [20,21] ?_
  simp[zah,hk,zA,zB, -map_set]
  refine gK [0,1,2,19,4,16] m3 ?_
  simp[zah,hk,zA,zB, -map_set]
  refine gK [0,1,2,22,4,23] m4 ?_
  simp[hk]
  refine gN hj ?_
  simp[hk]
  refine gK [0,1,2,26,4,27] m5 ?_
  simp[hk]
  refine⟨by decide,?_⟩
  refine gK [0,1,2,31,4,27] m6 ?_
  simp
  refine⟨by decide,by decide,?_⟩
  exact fH [0,1,2,9,4,11,32,27] [6,7,8,9,10,11]
 rw[aC z0]at e
 obtain⟨zn,hzn⟩:∃zn:Nat,z=zn:=⟨z.toNat,by omega⟩
 have hzl:zn<env.length:=by omega
 obtain⟨v',hv⟩:∃v',env[zn]=v':=⟨_,rfl⟩
 subst hzn
 have hv2:env.getD (zn:Int).toNat (bs [],noT)=v':=by simp only[az];rw[aH,aA hzl,hv];try rfl
 rw[hv2]at e
 simp only[az]at e
 have hnr:=zzW v'.2 q.n
 generalize zcs v'.2 q.n=N at*
 rw[e]at hea heb
 simp only at hea heb
 subst hea
 subst heb
 have zA:=zA (by simp)
 have zB:=zB (by simp)
 simp[c12,hw',c4]
 refine gN hfi ?_
 simp[z0,hzl,hv]
 refine gN hnr ?_
 simp[hzl,hv]
 refine⟨by decide,?_⟩
 have ps:∀t1:Typ,(List.map ((fun x=>List.map AC.d x)∘encV) env).set zn (put (List.map AC.d (encV v')) 1 (List.map AC.d t1.enc))=List.map ((fun x=>List.map AC.d x)∘encV) (env.set zn (v'.1,t1)):=fun t1=>by
  rw[zE4,fB];try rfl
 simp only[ps]
 refine fP [20,21] ?_
 simp[zah,hk,zA,zB, -map_set]
 refine gK [0,1,2,19,4,16] m3 ?_
 simp[zah,hk,zA,zB, -map_set]
 refine gK [0,1,2,24,4,25] m4 ?_
 simp[hk]
 refine gN hj ?_
 simp[hk]
 refine gK [0,1,2,28,4,29] m5 ?_
 simp[hk]
 refine⟨by decide,?_⟩
 refine gK [0,1,2,33,4,29] m6 ?_
 simp
 refine⟨by decide,by decide,?_⟩
 exact fH [0,1,2,9,4,11,34,29] [6,7,8,9,10,11]
end
end Go.Gr
namespace Go.Gr
open Go.Abs Go.Proofs
def shN(k:Int)(ts:List Typ)(ns:List fC)(ks:List Nod):Prop:=
 (k=0\/k=1\/k=2\/k=3\/k=18)\/((k=4\/k=19)/\ts.length<=1000000)\/(k=8/\ns.length<=1000000)\/(k=6/\ks.length=1/\1<=ts.length)\/(k=13/\ks.length=1/\1<=ts.length)\/(k=9/\ks.length=1)\/((k=12\/k=15\/k=16\/k=17)/\ks.length=1)\/(k=5/\ks.length=2)\/(k=7/\ks.length=2)\/(k=10/\ks.length=2)\/(k=14/\ks.length=2)\/(k=11/\ks.length=3)
mutual
def wfN:Nod->Prop
 |.mk k _ _ _ _ ts ns ks=>wfNs ks/\shN k ts ns ks
def wfNs:List Nod->Prop
 |[]=>True
 |n::l=>wfN n/\wfNs l
end
def zh3:∀l:List Nod,wfNs l↔∀x,x∈l->wfN x
 |[]=>by simp[wfNs]
 |n::l=>by simp[wfNs,zh3 l]
def zw3(n:Nod):wfN n↔(∀x,x∈n.kids->wfN x)/\shN n.kind n.types n.names n.kids:=by
 cases n;rw[wfN,zh3];try rfl
def zaO(j:Inf):Inf:=fun env s=>if s.e≠0 then((noC,noT),s)else j env s
section
variable (L:Lnk)
def zdY{n:Nod}{j:Inf}(h:PInf L n j):PInf L n (zaO j):=fun env s k he hs=>by
 unfold zaO
 split
 ·exact⟨hs.less (by omega),zbP⟩
 ·exact h env s k he hs
def zzA(n:Nod)(K:n.kind=4\/n.kind=19)(j:Inf)(h:MInf L 81 n j):MInf L 58 n (zaO j):=fun env s k he hs=>by
 refine zbe MS1 fun ts hts ok hbk c hN hp=>?_
 obtain⟨t,u,v,w,x,y,rfl⟩:=zbb hts
 have hb0:=zaG 0
 have m:=h env s k he hs
 unfold zaO
 by_cases q0:s.e=0
 rotate_left
 ·rw[aC q0]
  unfold zaC
  simp[q0]
  refine gN hb0 ?_
  simp
  exact fH [0,1,2,9,4,11,3,5] [6,7,8,9,10,11]
 rw[aB (fun z=>z q0)]
 generalize j env s=r at*
 unfold zaC
 rcases K with K|K
 ·simp[q0,K]
  refine gK [0,1,2,3,4,5] m ?_
  simp
  exact fH [0,1,2,9,4,11,14,15] [6,7,8,9,10,11]
 ·simp[q0,K]
  refine gK [0,1,2,3,4,5] m ?_
  simp
  exact fH [0,1,2,9,4,11,14,15] [6,7,8,9,10,11]
def zD7(n:Nod)(K:n.kind=5)(j:Inf)(h:MInf L 82 n j):MInf L 58 n (zaO j):=fun env s k he hs=>by
 refine zbe MS1 fun ts hts ok hbk c hN hp=>?_
 obtain⟨t,u,v,w,x,y,rfl⟩:=zbb hts
 have hb0:=zaG 0
 have m:=h env s k he hs
 unfold zaO
 by_cases q0:s.e=0
 rotate_left
 ·rw[aC q0]
  unfold zaC
  simp[q0]
  refine gN hb0 ?_
  simp
  exact fH [0,1,2,9,4,11,3,5] [6,7,8,9,10,11]
 rw[aB (fun z=>z q0)]
 generalize j env s=r at*
 unfold zaC
 skip
 ·simp[q0,K]
  refine gK [0,1,2,3,4,5] m ?_
  simp
  exact fH [0,1,2,9,4,11,14,15] [6,7,8,9,10,11]
def zFm(n:Nod)(K:n.kind=6)(j:Inf)(h:MInf L 83 n j):MInf L 58 n (zaO j):=fun env s k he hs=>by
 refine zbe MS1 fun ts hts ok hbk c hN hp=>?_
 obtain⟨t,u,v,w,x,y,rfl⟩:=zbb hts
 have hb0:=zaG 0
 have m:=h env s k he hs
 unfold zaO
 by_cases q0:s.e=0
 rotate_left
 ·rw[aC q0]
  unfold zaC
  simp[q0]
  refine gN hb0 ?_
  simp
  exact fH [0,1,2,9,4,11,3,5] [6,7,8,9,10,11]
 rw[aB (fun z=>z q0)]
 generalize j env s=r at*
 unfold zaC
 skip
 ·simp[q0,K]
  refine gK [0,1,2,3,4,5] m ?_
  simp
  exact fH [0,1,2,9,4,11,14,15] [6,7,8,9,10,11]
def zBV(n:Nod)(K:n.kind=7)(j:Inf)(h:MInf L 84 n j):MInf L 58 n (zaO j):=fun env s k he hs=>by
 refine zbe MS1 fun ts hts ok hbk c hN hp=>?_
 obtain⟨t,u,v,w,x,y,rfl⟩:=zbb hts
 have hb0:=zaG 0
 have m:=h env s k he hs
 unfold zaO
 by_cases q0:s.e=0
 rotate_left
 ·rw[aC q0]
  unfold zaC
  simp[q0]
  refine gN hb0 ?_
  simp
  exact fH [0,1,2,9,4,11,3,5] [6,7,8,9,10,11]
 rw[aB (fun z=>z q0)]
 generalize j env s=r at*
 unfold zaC
 skip
 ·simp[q0,K]
  refine gK [0,1,2,3,4,5] m ?_
  simp
  exact fH [0,1,2,9,4,11,14,15] [6,7,8,9,10,11]
def zx6(n:Nod)(K:n.kind=8)(j:Inf)(h:MInf L 85 n j):MInf L 58 n (zaO j):=fun env s k he hs=>by
 refine zbe MS1 fun ts hts ok hbk c hN hp=>?_
 obtain⟨t,u,v,w,x,y,rfl⟩:=zbb hts
 have hb0:=zaG 0
 have m:=h env s k he hs
 unfold zaO
 by_cases q0:s.e=0
 rotate_left
 ·rw[aC q0]
  unfold zaC
  simp[q0]
  refine gN hb0 ?_
  simp
  exact fH [0,1,2,9,4,11,3,5] [6,7,8,9,10,11]
 rw[aB (fun z=>z q0)]
 generalize j env s=r at*
 unfold zaC
 skip
 ·simp[q0,K]
  refine gK [0,1,2,3,4,5] m ?_
  simp
  exact fH [0,1,2,9,4,11,14,15] [6,7,8,9,10,11]
def zD8(n:Nod)(K:n.kind=9)(j:Inf)(h:MInf L 86 n j):MInf L 58 n (zaO j):=fun env s k he hs=>by
 refine zbe MS1 fun ts hts ok hbk c hN hp=>?_
 obtain⟨t,u,v,w,x,y,rfl⟩:=zbb hts
 have hb0:=zaG 0
 have m:=h env s k he hs
 unfold zaO
 by_cases q0:s.e=0
 rotate_left
 ·rw[aC q0]
  unfold zaC
  simp[q0]
  refine gN hb0 ?_
  simp
  exact fH [0,1,2,9,4,11,3,5] [6,7,8,9,10,11]
 rw[aB (fun z=>z q0)]
 generalize j env s=r at*
 unfold zaC
 skip
 ·simp[q0,K]
  refine gK [0,1,2,3,4,5] m ?_
  simp
  exact fH [0,1,2,9,4,11,14,15] [6,7,8,9,10,11]
def zzB(n:Nod)(K:n.kind=10)(j:Inf)(h:MInf L 87 n j):MInf L 58 n (zaO j):=fun env s k he hs=>by
 refine zbe MS1 fun ts hts ok hbk c hN hp=>?_
 obtain⟨t,u,v,w,x,y,rfl⟩:=zbb hts
 have hb0:=zaG 0
 have m:=h env s k he hs
 unfold zaO
 by_cases q0:s.e=0
 rotate_left
 ·rw[aC q0]
  unfold zaC
  simp[q0]
  refine gN hb0 ?_
  simp
  exact fH [0,1,2,9,4,11,3,5] [6,7,8,9,10,11]
 rw[aB (fun z=>z q0)]
 generalize j env s=r at*
 unfold zaC
 skip
 ·simp[q0,K]
  refine gK [0,1,2,3,4,5] m ?_
  simp
  exact fH [0,1,2,9,4,11,14,15] [6,7,8,9,10,11]
def zx7(n:Nod)(K:n.kind=11)(j:Inf)(h:MInf L 88 n j):MInf L 58 n (zaO j):=fun env s k he hs=>by
 refine zbe MS1 fun ts hts ok hbk c hN hp=>?_
 obtain⟨t,u,v,w,x,y,rfl⟩:=zbb hts
 have hb0:=zaG 0
 have m:=h env s k he hs
 unfold zaO
 by_cases q0:s.e=0
 rotate_left
 ·rw[aC q0]
  unfold zaC
  simp[q0]
  refine gN hb0 ?_
  simp
  exact fH [0,1,2,9,4,11,3,5] [6,7,8,9,10,11]
 rw[aB (fun z=>z q0)]
 generalize j env s=r at*
 unfold zaC
 skip
 ·simp[q0,K]
  refine gK [0,1,2,3,4,5] m ?_
  simp
  exact fH [0,1,2,9,4,11,14,15] [6,7,8,9,10,11]
def zFn(n:Nod)(K:n.kind=13)(j:Inf)(h:MInf L 89 n j):MInf L 58 n (zaO j):=fun env s k he hs=>by
 refine zbe MS1 fun ts hts ok hbk c hN hp=>?_
 obtain⟨t,u,v,w,x,y,rfl⟩:=zbb hts
 have hb0:=zaG 0
 have m:=h env s k he hs
 unfold zaO
 by_cases q0:s.e=0
 rotate_left
 ·rw[aC q0]
  unfold zaC
  simp[q0]
  refine gN hb0 ?_
  simp
  exact fH [0,1,2,9,4,11,3,5] [6,7,8,9,10,11]
 rw[aB (fun z=>z q0)]
 generalize j env s=r at*
 unfold zaC
 skip
 ·simp[q0,K]
  refine gK [0,1,2,3,4,5] m ?_
  simp
  exact fH [0,1,2,9,4,11,14,15] [6,7,8,9,10,11]
def zFo(n:Nod)(K:n.kind=14)(j:Inf)(h:MInf L 90 n j):MInf L 58 n (zaO j):=fun env s k he hs=>by
 refine zbe MS1 fun ts hts ok hbk c hN hp=>?_
 obtain⟨t,u,v,w,x,y,rfl⟩:=zbb hts
 have hb0:=zaG 0
 have m:=h env s k he hs
 unfold zaO
 by_cases q0:s.e=0
 rotate_left
 ·rw[aC q0]
  unfold zaC
  simp[q0]
  refine gN hb0 ?_
  simp
  exact fH [0,1,2,9,4,11,3,5] [6,7,8,9,10,11]
 rw[aB (fun z=>z q0)]
 generalize j env s=r at*
 unfold zaC
 skip
 ·simp[q0,K]
  refine gK [0,1,2,3,4,5] m ?_
  simp
  exact fH [0,1,2,9,4,11,14,15] [6,7,8,9,10,11]
def zD9(n:Nod)(K:n.kind=12\/n.kind=15\/n.kind=16\/n.kind=17)(j:Inf)(h:MInf L 91 n j):MInf L 58 n (zaO j):=fun env s k he hs=>by
 refine zbe MS1 fun ts hts ok hbk c hN hp=>?_
 obtain⟨t,u,v,w,x,y,rfl⟩:=zbb hts
 have hb0:=zaG 0
 have m:=h env s k he hs
 unfold zaO
 by_cases q0:s.e=0
 rotate_left
 ·rw[aC q0]
  unfold zaC
  simp[q0]
  refine gN hb0 ?_
  simp
  exact fH [0,1,2,9,4,11,3,5] [6,7,8,9,10,11]
 rw[aB (fun z=>z q0)]
 generalize j env s=r at*
 unfold zaC
 rcases K with K|K|K|K
 ·simp[q0,K]
  refine gK [0,1,2,3,4,5] m ?_
  simp
  exact fH [0,1,2,9,4,11,14,15] [6,7,8,9,10,11]
 ·simp[q0,K]
  refine gK [0,1,2,3,4,5] m ?_
  simp
  exact fH [0,1,2,9,4,11,14,15] [6,7,8,9,10,11]
 ·simp[q0,K]
  refine gK [0,1,2,3,4,5] m ?_
  simp
  exact fH [0,1,2,9,4,11,14,15] [6,7,8,9,10,11]
 ·simp[q0,K]
  refine gK [0,1,2,3,4,5] m ?_
  simp
  exact fH [0,1,2,9,4,11,14,15] [6,7,8,9,10,11]
def zEa(n:Nod)(K:n.kind=0):MInf L 58 n (zaO fun env s=>((cN 0 n.n,bT 3),s)):=fun env s k he hs=>by
 refine zbe MS1 fun ts hts ok hbk c hN hp=>?_
 obtain⟨t,u,v,w,x,y,rfl⟩:=zbb hts
 have hb0:=zaG 0
 have hbK:=zaG 3
 unfold zaO
 by_cases q0:s.e=0
 rotate_left
 ·rw[aC q0]
  unfold zaC
  simp[q0]
  refine gN hb0 ?_
  simp
  exact fH [0,1,2,9,4,11,3,5] [6,7,8,9,10,11]
 rw[aB (fun z=>z q0)]
 unfold zaC
 simp[q0,K]
 refine gN hbK ?_
 simp
 refine⟨by decide,?_⟩
 exact fH [0,1,2,9,4,11,3,5] [6,7,8,9,10,11]
def zEb(n:Nod)(K:n.kind=1):MInf L 58 n (zaO fun env s=>((cT 1 n.text [],bT 4),s)):=fun env s k he hs=>by
 refine zbe MS1 fun ts hts ok hbk c hN hp=>?_
 obtain⟨t,u,v,w,x,y,rfl⟩:=zbb hts
 have hb0:=zaG 0
 have hbK:=zaG 4
 unfold zaO
 by_cases q0:s.e=0
 rotate_left
 ·rw[aC q0]
  unfold zaC
  simp[q0]
  refine gN hb0 ?_
  simp
  exact fH [0,1,2,9,4,11,3,5] [6,7,8,9,10,11]
 rw[aB (fun z=>z q0)]
 unfold zaC
 simp[q0,K]
 refine gN hbK ?_
 simp
 refine⟨by decide,?_⟩
 exact fH [0,1,2,9,4,11,3,5] [6,7,8,9,10,11]
def zBW(n:Nod)(K:n.kind=2):MInf L 58 n (zaO fun env s=>((cN 2 n.n,bT 2),s)):=fun env s k he hs=>by
 refine zbe MS1 fun ts hts ok hbk c hN hp=>?_
 obtain⟨t,u,v,w,x,y,rfl⟩:=zbb hts
 have hb0:=zaG 0
 have hbK:=zaG 2
 unfold zaO
 by_cases q0:s.e=0
 rotate_left
 ·rw[aC q0]
  unfold zaC
  simp[q0]
  refine gN hb0 ?_
  simp
  exact fH [0,1,2,9,4,11,3,5] [6,7,8,9,10,11]
 rw[aB (fun z=>z q0)]
 unfold zaC
 simp[q0,K]
 refine gN hbK ?_
 simp
 refine⟨by decide,?_⟩
 exact fH [0,1,2,9,4,11,3,5] [6,7,8,9,10,11]
def zEc(n:Nod)(K:n.kind=3):MInf L 58 n (zaO fun env s=>((cN 3 0,bT 1),s)):=fun env s k he hs=>by
 refine zbe MS1 fun ts hts ok hbk c hN hp=>?_
 obtain⟨t,u,v,w,x,y,rfl⟩:=zbb hts
 have hb0:=zaG 0
 have hbK:=zaG 1
 unfold zaO
 by_cases q0:s.e=0
 rotate_left
 ·rw[aC q0]
  unfold zaC
  simp[q0]
  refine gN hb0 ?_
  simp
  exact fH [0,1,2,9,4,11,3,5] [6,7,8,9,10,11]
 rw[aB (fun z=>z q0)]
 unfold zaC
 simp[q0,K]
 refine gN hbK ?_
 simp
 exact fH [0,1,2,9,4,11,3,5] [6,7,8,9,10,11]
def zBX(n:Nod)(K:n.kind=18):MInf L 58 n (zaO fun env s=>((cN 20 0,bT 3),s)):=fun env s k he hs=>by
 refine zbe MS1 fun ts hts ok hbk c hN hp=>?_
 obtain⟨t,u,v,w,x,y,rfl⟩:=zbb hts
 have hb0:=zaG 0
 have hbK:=zaG 3
 unfold zaO
 by_cases q0:s.e=0
 rotate_left
 ·rw[aC q0]
  unfold zaC
  simp[q0]
  refine gN hb0 ?_
  simp
  exact fH [0,1,2,9,4,11,3,5] [6,7,8,9,10,11]
 rw[aB (fun z=>z q0)]
 unfold zaC
 simp[q0,K]
 refine gN hbK ?_
 simp
 exact fH [0,1,2,9,4,11,3,5] [6,7,8,9,10,11]
def zl1{n:Nod}{c:Env->CS->Cor}{b:Int}(h0:0<=b)(h4:b<=4):PInf L n (zaO fun env s=>((c env s,bT b),s)):=zdY L fun env s k he hs=>⟨hs.less (by omega),zcp b h0 h4⟩
def zh4{l:List Nod}(h:l.length=1):∃a,l=[a]:=by
 match l,h with
 |[a],_=>exact⟨a,rfl⟩
def ziW{l:List Nod}(h:l.length=2):∃a b,l=[a,b]:=by
 match l,h with
 |[a,b],_=>exact⟨a,b,rfl⟩
def zwc{l:List Nod}(h:l.length=3):∃a b c,l=[a,b,c]:=by
 match l,h with
 |[a,b,c],_=>exact⟨a,b,c,rfl⟩
def zbK(n:Nod)(rest:Inf):Inf:=fun env s=>
 if n.kind=0 then((cN 0 n.n,bT 3),s)
 else if n.kind=1 then((cT 1 n.text [],bT 4),s)
 else if n.kind=2 then((cN 2 n.n,bT 2),s)
 else if n.kind=3 then((cN 3 0,bT 1),s)
 else if n.kind=18 then((cN 20 0,bT 3),s)
 else if n.kind=4\/n.kind=19 then zdO L n env s
 else if n.kind=8 then recC n (za0 L n.kids) env s
 else rest env s
def ziX(n a:Nod):Inf:=fun env s=>
 if n.kind=6 then fnC n a (zan L a) env s
 else if n.kind=9 then selC n (zan L a) env s
 else if n.kind=13 then asC n (zan L a) env s
 else oneC n a (zan L a) env s
def ziY(n a b:Nod):Inf:=fun env s=>
 if n.kind=5 then letC n a (zan L a) (zan L b) env s
 else if n.kind=7 then zeP n b (zan L a) (zan L b) env s
 else if n.kind=10 then zeQ n (zan L a) (zan L b) env s
 else opC n a b (zan L a) (zan L b) env s
def eq0(k:Int)(tx:fC)(nn ln cl:Int)(ts:List Typ)(ns:List fC):zan L (.mk k tx nn ln cl ts ns [])=zaO (zbK L (.mk k tx nn ln cl ts ns []) fun env s=>((noC,noT),s)):=by with_unfolding_all rfl
def eq1(k:Int)(tx:fC)(nn ln cl:Int)(ts:List Typ)(ns:List fC)(a:Nod):zan L (.mk k tx nn ln cl ts ns [a])=zaO (zbK L (.mk k tx nn ln cl ts ns [a]) (ziX L (.mk k tx nn ln cl ts ns [a]) a)):=by with_unfolding_all rfl
def eq2(k:Int)(tx:fC)(nn ln cl:Int)(ts:List Typ)(ns:List fC)(a b:Nod):zan L (.mk k tx nn ln cl ts ns [a,b])=zaO (zbK L (.mk k tx nn ln cl ts ns [a,b]) (ziY L (.mk k tx nn ln cl ts ns [a,b]) a b)):=by with_unfolding_all rfl
def eq3(k:Int)(tx:fC)(nn ln cl:Int)(ts:List Typ)(ns:List fC)(a b c:Nod)(l:List Nod):zan L (.mk k tx nn ln cl ts ns (a::b::c::l))=zaO (zbK L (.mk k tx nn ln cl ts ns (a::b::c::l)) (ifC a b c (zan L a) (zan L b) (zan L c))):=by with_unfolding_all rfl
def zdR(n:Nod)(j:Inf)(h:∀rest,zbK L n rest=j):zan L n=zaO j:=by
 obtain⟨k,tx,nn,ln,cl,ts,ns,ks⟩:=n
 match ks,h with
 |[],h=>rw[eq0,h]
 |[a],h=>rw[eq1,h]
 |[a,b],h=>rw[eq2,h]
 |a::b::c::l,h=>rw[eq3,h]
def zzC(hL:GoodL L)(n:Nod)(hw:wfN n)(ih:∀x,x∈n.kids->zcm L x (zan L x)):zcm L n (zan L n):=by
 obtain⟨hws,hs⟩:=(zw3 n).1 hw
 obtain⟨k,tx,nn,ln,cl,ts,ns,ks⟩:=n
 simp only[Nod.kind,Nod.kids,Nod.types,Nod.names]at hws hs ih
 have go:∀j:Inf,zan L (.mk k tx nn ln cl ts ns ks)=zaO j->MInf L 58 (.mk k tx nn ln cl ts ns ks) (zaO j)->PInf L (.mk k tx nn ln cl ts ns ks) (zaO j)->zcm L (.mk k tx nn ln cl ts ns ks) (zan L (.mk k tx nn ln cl ts ns ks)):=fun j e m p=>by rw[e];exact⟨m,p⟩
 rcases hs with(K|K|K|K|K)|⟨K,t1⟩|⟨K,t1⟩|⟨K,l1,t1⟩|⟨K,l1,t1⟩|⟨K,l1⟩|⟨K,l1⟩|⟨K,l1⟩|⟨K,l1⟩|⟨K,l1⟩|⟨K,l1⟩|⟨K,l1⟩
 ·exact go _ (zdR L _ _ fun rest=>by funext env s;simp[zbK,Nod.kind,Nod.n,Nod.text,K]) (zEa L _ (by exact K)) (zl1 L (by omega) (by omega))
 ·exact go _ (zdR L _ _ fun rest=>by funext env s;simp[zbK,Nod.kind,Nod.n,Nod.text,K]) (zEb L _ (by exact K)) (zl1 L (by omega) (by omega))
 ·exact go _ (zdR L _ _ fun rest=>by funext env s;simp[zbK,Nod.kind,Nod.n,Nod.text,K]) (zBW L _ (by exact K)) (zl1 L (by omega) (by omega))
 ·exact go _ (zdR L _ _ fun rest=>by funext env s;simp[zbK,Nod.kind,Nod.n,Nod.text,K]) (zEc L _ (by exact K)) (zl1 L (by omega) (by omega))
 ·exact go _ (zdR L _ _ fun rest=>by funext env s;simp[zbK,Nod.kind,Nod.n,Nod.text,K]) (zBX L _ (by exact K)) (zl1 L (by omega) (by omega))
 ·exact go (zdO L (.mk k tx nn ln cl ts ns ks)) (zdR L _ _ fun rest=>by funext env s;rcases K with K|K<;>simp[zbK,Nod.kind,K]) (zzA L _ (by exact K) _ (zAN L hL _ (by exact t1))) (zdY L (zEK L hL _ (by exact t1)))
 ·exact go (recC (.mk k tx nn ln cl ts ns ks) (za0 L ks)) (zdR L _ _ fun rest=>by funext env s;simp[zbK,Nod.kind,Nod.kids,K]) (zx6 L _ (by exact K) _ (zy1 L _ (by exact t1) (by exact ih))) (zdY L (zGH L _ fun x hx=>(ih x hx).2))
 ·obtain⟨a,rfl⟩:=zh4 l1
  have ia:=ih a (by simp)
  exact go (fnC (.mk k tx nn ln cl ts ns [a]) a (zan L a)) (by rw[eq1];funext env s;simp[zaO,zbK,ziX,Nod.kind,K]) (zFm L _ (by exact K) _ (zF5 L _ a rfl (by exact t1) _ ia)) (zdY L (fn_p L _ a rfl _ ia.2))
 ·obtain⟨a,rfl⟩:=zh4 l1
  have ia:=ih a (by simp)
  exact go (asC (.mk k tx nn ln cl ts ns [a]) (zan L a)) (by rw[eq1];funext env s;simp[zaO,zbK,ziX,Nod.kind,K]) (zFn L _ (by exact K) _ (zFN L _ a rfl (by exact t1) _ ia)) (zdY L (as_p L _ a rfl _ ia.2))
 ·obtain⟨a,rfl⟩:=zh4 l1
  have ia:=ih a (by simp)
  exact go (selC (.mk k tx nn ln cl ts ns [a]) (zan L a)) (by rw[eq1];funext env s;simp[zaO,zbK,ziX,Nod.kind,K]) (zD8 L _ (by exact K) _ (zE0 L _ a rfl _ ia)) (zdY L (zGO L _ a rfl _ ia.2))
 ·obtain⟨a,rfl⟩:=zh4 l1
  have ia:=ih a (by simp)
  exact go (oneC (.mk k tx nn ln cl ts ns [a]) a (zan L a)) (by rw[eq1];funext env s;rcases K with K|K|K|K<;>simp[zaO,zbK,ziX,Nod.kind,K]) (zD9 L _ (by exact K) _ (zEJ L _ a rfl _ ia)) (zdY L (zGB L _ a rfl _ ia.2))
 ·obtain⟨a,b,rfl⟩:=ziW l1
  have ia:=ih a (by simp)
  have ib:=ih b (by simp)
  exact go (letC (.mk k tx nn ln cl ts ns [a,b]) a (zan L a) (zan L b)) (by rw[eq2];funext env s;simp[zaO,zbK,ziY,Nod.kind,K]) (zD7 L _ (by exact K) _ (zEW L _ a b rfl _ _ ia ib)) (zdY L (zGM L _ a b rfl _ _ ia.2 ib.2))
 ·obtain⟨a,b,rfl⟩:=ziW l1
  have ia:=ih a (by simp)
  have ib:=ih b (by simp)
  exact go (zeP (.mk k tx nn ln cl ts ns [a,b]) b (zan L a) (zan L b)) (by rw[eq2];funext env s;simp[zaO,zbK,ziY,Nod.kind,K]) (zBV L _ (by exact K) _ (zDl L _ a b rfl _ _ ia ib)) (zdY L (zF7 L _ a b rfl _ _ ia.2 ib.2))
 ·obtain⟨a,b,rfl⟩:=ziW l1
  have ia:=ih a (by simp)
  have ib:=ih b (by simp)
  exact go (zeQ (.mk k tx nn ln cl ts ns [a,b]) (zan L a) (zan L b)) (by rw[eq2];funext env s;simp[zaO,zbK,ziY,Nod.kind,K]) (zzB L _ (by exact K) _ (zBs L _ a b rfl _ _ ia ib)) (zdY L (zGc L _ a b rfl _ _ ia.2 ib.2))
 ·obtain⟨a,b,rfl⟩:=ziW l1
  have ia:=ih a (by simp)
  have ib:=ih b (by simp)
  exact go (opC (.mk k tx nn ln cl ts ns [a,b]) a b (zan L a) (zan L b)) (by rw[eq2];funext env s;simp[zaO,zbK,ziY,Nod.kind,K]) (zFo L _ (by exact K) _ (zFq L _ a b rfl _ _ ia ib)) (zdY L (op_p L _ a b rfl _ _ ia.2 ib.2))
 ·obtain⟨q,a,b,rfl⟩:=zwc l1
  have iq:=ih q (by simp)
  have ia:=ih a (by simp)
  have ib:=ih b (by simp)
  have hq:q.kind=12->∃w,q.kids=[w]:=fun k12=>by
   have:=((zw3 q).1 (hws q (by simp))).2
   unfold shN at this
   rw[k12]at this
   exact zh4 (by omega)
  exact go (ifC q a b (zan L q) (zan L a) (zan L b)) (by rw[eq3];funext env s;simp[zaO,zbK,Nod.kind,K]) (zx7 L _ (by exact K) _ (zze L _ q a b rfl hq _ _ _ iq ia ib)) (zdY L (if_p L _ q a b rfl _ _ _ iq.2 ia.2 ib.2))
mutual
def zoB(hL:GoodL L):∀n:Nod,wfN n->zcm L n (zan L n)
 |.mk k tx nn ln cl ts ns ks,hw=>zzC L hL _ hw (zrI hL ks (by rw[wfN]at hw;exact hw.1))
def zrI(hL:GoodL L):∀l:List Nod,wfNs l->∀x,x∈l->zcm L x (zan L x)
 |[],_,x,hx=>by cases hx
 |n::l,hw,x,hx=>by
  rw[wfNs]at hw
  rcases aM.1 hx with e|hx
  ·rw[e];exact zoB hL n hw.1
  ·exact zrI hL l hw.2 x hx
end
end
end Go.Gr
namespace Go.Gr
open Go.Abs Go.Proofs List
def zpx:∀l m:List Nod,nszs (l++m)=nszs l+nszs m
 |[],m=>by simp[nszs]
 |n::l,m=>by rw[cons_append,nszs,nszs,zpx l m];omega
def zDF{l m:List Nod}(h:wfNs l)(k:wfNs m):wfNs (l++m):=(zh3 _).2 fun x hx=>by
 rcases aQ.1 hx with hx|hx
 ·exact(zh3 _).1 h x hx
 ·exact(zh3 _).1 k x hx
section
variable {L:List Tok}
def zcG(p:PS)(k:Int)(t:fC)(n:Int)(ts:List Typ)(ns:List fC)(ks:List Nod):nsz (mkN L p k t n ts ns ks)=nszs ks+1:=by unfold mkN;rw[nsz]
def zdv(p:PS)(k:Int)(t:fC)(n:Int)(ts:List Typ)(ns:List fC)(ks:List Nod)(h:wfNs ks)(s:shN k ts ns ks):wfN (mkN L p k t n ts ns ks):=by unfold mkN;rw[wfN];exact⟨h,s⟩
def ks1{a:Nod}(h:wfN a):wfNs [a]:=⟨h,trivial⟩
def ks2{a b:Nod}(h:wfN a)(k:wfN b):wfNs [a,b]:=⟨h,k,trivial⟩
def ks3{a b c:Nod}(h:wfN a)(k:wfN b)(l:wfN c):wfNs [a,b,c]:=⟨h,k,l,trivial⟩
def z1(a:Nod):nszs [a]=nsz a:=by simp[nszs]
def z2(a b:Nod):nszs [a,b]=nsz a+nsz b:=by simp[nszs]
def z3(a b c:Nod):nszs [a,b,c]=nsz a+nsz b+nsz c:=by simp[nszs];omega
def Nice(L:List Tok)(f:PS->Nod × PS):Prop:=∀p,p.at'<L.length->wfN (f p).1/\nsz (f p).1+3*p.at'<=3*(f p).2.at'+1
def zv2{ki:PS->Typ × PS}(p:PS):(zbW L ki p).1.length<=1:=by
 unfold zbW
 split<;>simp
def zv3{ki:PS->Typ × PS}(p:PS):1<=(zcB L ki p).1.2.length/\(zcB L ki p).1.2.length<=2:=by
 unfold zcB
 simp only
 have a:=zv2 (L:=L) (ki:=ki) (zaw L (zaA L (bs [40]) p)).2
 have b:=zv2 (L:=L) (ki:=ki) (zaA L (bs [41]) (zbW L ki (zaw L (zaA L (bs [40]) p)).2).2)
 rw[aX]
 split
 ·simp only[length_cons,length_nil];omega
 ·omega
def zv4:wfN noN:=⟨trivial,.inl (.inl rfl)⟩
def zBK(hL:OkL L){ki:PS->Typ × PS}{ex rk:PS->Nod × PS}(hk:Tame L ki)(he:Tame L ex)(ne:Nice L ex)(nr:Nice L rk):Nice L (zg0 L ki ex rk):=fun p hp=>by
 unfold zg0
 split
 ·rename_i c
  have h1:=zai hL hp (s:=wLet)
  have h2:=h1.trans (zaR hL h1.lt)
  have h3:=h2.trans (zeb hL hk _ h2.lt)
  have h4:=(zaR hL h1.lt).trans ((zeb hL hk _ h2.lt).trans (zam hL h3.lt (s:=bs [61])))
  have n5:=ne _ h4.lt
  have h5:=he _ h4.lt
  have h6:=zam hL h5.lt (s:=bs [59])
  have n7:=ne _ h6.lt
  have t:=(take_at c).1
  refine⟨zdv _ _ _ _ _ _ _ (ks2 n5.1 n7.1) (by simp[shN]),?_⟩
  rw[zcG,z2]
  have:=h4.le
  have:=h6.le
  simp only at*
  omega
 split
 ·rename_i c
  have h1:=zai hL hp (s:=wIf)
  have n2:=ne _ h1.lt
  have h2:=he _ h1.lt
  have h3:=zam hL h2.lt (s:=zk9)
  have n4:=ne _ h3.lt
  have h4:=he _ h3.lt
  have h5:=zam hL h4.lt (s:=zla)
  have n6:=ne _ h5.lt
  have t:=(take_at c).1
  refine⟨zdv _ _ _ _ _ _ _ (ks3 n2.1 n4.1 n6.1) (by simp[shN]),?_⟩
  rw[zcG,z3]
  have:=h3.le
  have:=h5.le
  simp only at*
  omega
 split
 ·rename_i c
  have h1:=zai hL hp (s:=wFn)
  have h2:=zfJ hL hk _ h1.lt
  have h3:=h2.trans (zam hL h2.lt (s:=bs [61,62]))
  have n4:=ne _ h3.lt
  have t:=(take_at c).1
  have hh:=(zv3 (L:=L) (ki:=ki) (zad L wFn p).2).1
  refine⟨zdv _ _ _ _ _ _ _ (ks1 n4.1) (by simp[shN];simpa using hh),?_⟩
  rw[zcG,z1]
  have:=h3.le
  simp only at*
  omega
 ·exact nr p hp
def zv5(hL:OkL L){rk:PS->Nod × PS}(hr:Tame L rk)(nr:Nice L rk)(signs:List fC):∀(n:Nat) (a:Nod) (p:PS),p.at'<L.length->wfN a->wfN (opsP L rk signs n a p).1/\nsz (opsP L rk signs n a p).1+3*p.at'<=3*(opsP L rk signs n a p).2.at'+nsz a
 |0,a,p,hp,ha=>by rw[opsP];exact⟨ha,by show nsz a+3*p.at'<=3*p.at'+nsz a;omega⟩
 | n+1,a,p,hp,ha=>by
  rw[opsP]
  split
  ·exact⟨ha,by show nsz a+3*p.at'<=3*p.at'+nsz a;omega⟩
  ·rename_i s q h
   have h1:=zgI hL _ hp h
   have h2:=hr _ h1.1.lt
   have n2:=nr _ h1.1.lt
   have r:=zv5 hL hr nr signs n (mkN L p 14 s 0 [] [] [a,(rk q).1]) (rk q).2 h2.lt (zdv _ _ _ _ _ _ _ (ks2 ha n2.1) (by simp[shN]))
   rw[zcG,z2]at r
   refine⟨r.1,?_⟩
   have:=h1.2.1
   omega
def zDG(hL:OkL L){ki:PS->Typ × PS}{rk:PS->Nod × PS}(hk:Tame L ki)(hr:Tame L rk)(nr:Nice L rk):Nice L (cmpP L ki rk):=fun p hp=>by
 have h1:=hr p hp
 have n1:=nr p hp
 unfold cmpP
 simp only
 split
 ·rename_i s q h
  have h2:=zgI hL _ h1.lt h
  have n3:=nr _ h2.1.lt
  refine⟨zdv _ _ _ _ _ _ _ (ks2 n1.1 n3.1) (by simp[shN]),?_⟩
  rw[zcG,z2]
  have:=h2.2.1
  simp only at*
  omega
 split
 ·rename_i c
  have t:=(take_at c).1
  have h2:=zai hL h1.lt (s:=bs [97,115])
  have h3:=hk _ h2.lt
  refine⟨zdv _ _ _ _ _ _ _ (ks1 n1.1) (by simp[shN]),?_⟩
  rw[zcG,z1]
  have:=h3.le
  simp only at*
  omega
 split
 ·rename_i c
  have t:=(take_at c).1
  have h2:=zai hL h1.lt (s:=bs [105,115])
  split
  ·rename_i i q h
   have h3:=zj6 hL _ _ h2.lt h
   refine⟨zdv _ _ _ _ _ _ _ (ks1 n1.1) (by simp[shN]),?_⟩
   rw[zcG,z1]
   have:=h3.2.1
   simp only at*
   omega
  ·have h3:=zh2 (L:=L) (e:=7) h2.lt
   refine⟨zdv _ _ _ _ _ _ _ (ks1 n1.1) (by simp[shN]),?_⟩
   rw[zcG,z1]
   have:=h3.le
   simp only at*
   omega
 ·exact n1
def zBL(hL:OkL L){ki:PS->Typ × PS}{un:PS->Nod × PS}(hk:Tame L ki)(hu:Tame L un)(nu:Nice L un):Nice L (zq0 L ki un):=by
 obtain⟨t5,t4,t3,t2,t1,t0⟩:=zj9 hL hk hu
 have op:∀(f:PS->Nod × PS) (signs:List fC),Tame L f->Nice L f->Nice L (fun p=>opsP L f signs (L.length+1) (f p).1 (f p).2):=fun f signs tf nf p hp=>by
  have a:=nf p hp
  have r:=zv5 hL tf nf signs (L.length+1) (f p).1 (f p).2 (tf p hp).lt a.1
  exact⟨r.1,by simp only;omega⟩
 have n5:Nice L (zlb L un):=op un (zbY 5) hu nu
 have n4:Nice L (zlc L un):=op _ (zbY 4) t5 n5
 have n3:Nice L (zqZ L un):=op _ (zbY 3) t4 n4
 have n2:Nice L (zld L ki un):=zDG hL hk t3 n3
 have n1:Nice L (zle L ki un):=op _ (zbY 1) t2 n2
 exact op _ (zbY 0) t1 n1
def zsZ{ki:PS->Typ × PS}:∀(n:Nat) (l:List Typ) (p:PS),(zdt L ki n l p).1.length<=l.length+n
 |0,l,p=>by rw[zdt];exact aN _
 | n+1,l,p=>by
  rw[zdt]
  split
  ·have:=zsZ (ki:=ki) n (l++[(ki p).1]) (zad L (bs [44]) (ki p).2).2
   rw[aX]at this
   simp only[length_cons,length_nil]at this
   omega
  ·simp only[aX,length_cons,length_nil];omega
def zs1(hL:OkL L){ex:PS->Nod × PS}(he:Tame L ex)(ne:Nice L ex):∀(n:Nat) (ns:List fC) (ks:List Nod) (p:PS),p.at'<L.length->wfNs ks->wfNs (zdu L ex n ns ks p).1.2/\nszs (zdu L ex n ns ks p).1.2+3*p.at'<=3*(zdu L ex n ns ks p).2.at'+nszs ks+1/\(zdu L ex n ns ks p).1.1.length<=ns.length+n
 |0,ns,ks,p,hp,hk=>by rw[zdu];exact⟨hk,by simp only;omega,by simp⟩
 | n+1,ns,ks,p,hp,hk=>by
  have h1:=zaR hL hp
  have h2:=h1.trans (zam hL h1.lt (s:=bs [58]))
  have h3:=he _ h2.lt
  have n3:=ne _ h2.lt
  have h4:=zai hL h3.lt (s:=bs [44])
  have e2:=h2.le
  have w:=zDF hk (ks1 n3.1)
  rw[zdu]
  split
  ·rename_i c
   have t:=(take_at c).1
   have r:=zs1 hL he ne n (ns++[(zaw L p).1]) (ks++[(ex (zaA L (bs [58]) (zaw L p).2)).1]) _ h4.lt w
   rw[zpx,z1,aX]at r
   simp only[length_cons,length_nil]at r
   refine⟨r.1,?_,by omega⟩
   omega
  ·refine⟨w,?_,by simp only[aX,length_cons,length_nil];omega⟩
   rw[zpx,z1]
   have:=h4.le
   have:=n3.2
   try simp only at*
   omega
theorem zw1(hL:OkL L)(hl:L.length<=10000){ex:PS->Nod × PS}(he:Tame L ex)(ne:Nice L ex)(q p:PS)(hp:p.at'<L.length):wfN (zct L ex q p).1/\nsz (zct L ex q p).1+3*p.at'<=3*(zct L ex q p).2.at'+4:=by
 unfold zct
 split
 ·have h1:=zai hL hp (s:=bs [125])
  refine⟨zdv _ _ _ _ _ _ _ trivial (by simp[shN]),?_⟩
  rw[zcG]
  have:=h1.le
  simp only[nszs]
  omega
 split
 ·have h1:=he p hp
  have n1:=ne p hp
  have h2:=zam hL h1.lt (s:=zlf)
  have h3:=h2.trans (zaR hL h2.lt)
  have h4:=h3.trans (zam hL h3.lt (s:=bs [58]))
  have h5:=he _ h4.lt
  have n5:=ne _ h4.lt
  have h6:=zam hL h5.lt (s:=bs [125])
  refine⟨zdv _ _ _ _ _ _ _ (ks2 n1.1 n5.1) (by simp[shN]),?_⟩
  rw[zcG,z2]
  have:=h4.le
  have:=h6.le
  simp only at*
  omega
 ·have h1:=zka hL he (L.length+1) [] [] p hp
  have n1:=zs1 hL he ne (L.length+1) [] [] p hp trivial
  have h2:=zam hL h1.lt (s:=bs [125])
  have e0:nszs []=0:=rfl
  rw[e0]at n1
  refine⟨zdv _ _ _ _ _ _ _ n1.1 (by have:=n1.2.2;simp only[length_nil]at this;simp[shN];omega),?_⟩
  rw[zcG]
  have:=h2.le
  have:=n1.2.1
  simp only at*
  omega
def zhm{p q:PS}{k:Int}{t:fC}{n:Int}{ts:List Typ}{ns:List fC}(hs:shN k ts ns [])(h:p.at'<=q.at'):wfN (mkN L p k t n ts ns [])/\nsz (mkN L p k t n ts ns [])+3*p.at'<=3*q.at'+1:=by
 refine⟨zdv _ _ _ _ _ _ _ trivial hs,?_⟩
 rw[zcG]
 simp only[nszs]
 omega
def zBM(hL:OkL L)(hl:L.length<=10000){ki:PS->Typ × PS}{ex:PS->Nod × PS}(hk:Tame L ki)(he:Tame L ex)(ne:Nice L ex):Nice L (zeY L ki ex):=fun p hp=>by
 unfold zeY
 by_cases c1:p.e=0/\(curT L p).kind=3
 ·rw[aC c1];exact zhm (by simp[shN]) (by simp only;omega)
 rw[aB c1]
 by_cases c2:p.e=0/\(curT L p).kind=4
 ·rw[aC c2];exact zhm (by simp[shN]) (by simp only;omega)
 rw[aB c2]
 by_cases c3:(zad L zlg p).1=true
 ·rw[aC c3];exact zhm (by simp[shN]) (zai hL hp).le
 rw[aB c3]
 by_cases c4:(zad L ziV p).1=true
 ·rw[aC c4];exact zhm (by simp[shN]) (zai hL hp).le
 rw[aB c4]
 by_cases c5:(zad L zlh p).1=true
 ·rw[aC c5];exact zhm (by simp[shN]) (zai hL hp).le
 rw[aB c5]
 by_cases c6:(zad L zgn p).1=true
 ·rw[aC c6]
  have h1:=zai hL hp (s:=zgn)
  have h2:=h1.trans (zam hL h1.lt (s:=bs [40]))
  exact zhm (by simp[shN]) (h2.trans (zam hL h2.lt)).le
 rw[aB c6]
 by_cases c7:(zad L zd3 p).1=true
 ·rw[aC c7]
  have h1:=zai hL hp (s:=zd3)
  have h2:=zam hL h1.lt (s:=bs [40])
  have h3:=he _ h2.lt
  have n3:=ne _ h2.lt
  have h4:=zam hL h3.lt (s:=bs [41])
  have t:=(take_at c7).1
  refine⟨zdv _ _ _ _ _ _ _ (ks1 n3.1) (by simp[shN]),?_⟩
  rw[zcG,z1]
  have:=h2.le
  have:=h4.le
  simp only at*
  omega
 rw[aB c7]
 by_cases c8:(zad L (bs [40]) p).1=true
 ·rw[aC c8]
  have h1:=zai hL hp (s:=bs [40])
  have h2:=he _ h1.lt
  have n2:=ne _ h1.lt
  have h3:=zam hL h2.lt (s:=bs [41])
  have t:=(take_at c8).1
  refine⟨n2.1,?_⟩
  have:=n2.2
  have:=h3.le
  show nsz (ex (zad L (bs [40]) p).2).1+3*p.at'<=3*(zaA L (bs [41]) (ex (zad L (bs [40]) p).2).2).at'+1
  omega
 rw[aB c8]
 by_cases c9:(zad L (bs [123]) p).1=true
 ·rw[aC c9]
  have h1:=zai hL hp (s:=bs [123])
  have r:=zw1 hL hl he ne p _ h1.lt
  have t:=(take_at c9).1
  exact⟨r.1,by omega⟩
 rw[aB c9]
 have h1:=zaR hL hp
 by_cases c10:(zad L (bs [91]) (zaw L p).2).1=true
 ·have h2:=h1.trans (zai hL h1.lt (s:=bs [91]))
  have h3:=h2.trans (zo9 hL hk (L.length+1) [] _ h2.lt)
  have tl:=zsZ (L:=L) (ki:=ki) (L.length+1) [] (zad L (bs [91]) (zaw L p).2).2
  show wfN (if(zad L (bs [91]) (zaw L p).2).1=true then _ else _:Nod × PS).1/\nsz (if(zad L (bs [91]) (zaw L p).2).1=true then _ else _:Nod × PS).1+3*p.at'<=3*(if(zad L (bs [91]) (zaw L p).2).1=true then _ else _:Nod × PS).2.at'+1
  rw[aC c10]
  exact zhm (by simp only[length_nil]at tl;simp[shN];omega) h3.le
 ·show wfN (if(zad L (bs [91]) (zaw L p).2).1=true then _ else _:Nod × PS).1/\nsz (if(zad L (bs [91]) (zaw L p).2).1=true then _ else _:Nod × PS).1+3*p.at'<=3*(if(zad L (bs [91]) (zaw L p).2).1=true then _ else _:Nod × PS).2.at'+1
  rw[aB c10]
  exact zhm (by simp[shN]) h1.le
def zll(hL:OkL L){ex:PS->Nod × PS}(he:Tame L ex)(ne:Nice L ex):∀(n:Nat) (a:Nod) (p:PS),p.at'<L.length->wfN a->wfN (zcT L ex n a p).1/\nsz (zcT L ex n a p).1+3*p.at'<=3*(zcT L ex n a p).2.at'+nsz a
 |0,a,p,hp,ha=>by rw[zcT];exact⟨ha,by show nsz a+3*p.at'<=3*p.at'+nsz a;omega⟩
 | n+1,a,p,hp,ha=>by
  rw[zcT]
  split
  ·rename_i c
   have t:=(take_at c).1
   have h1:=zai hL hp (s:=bs [40])
   have h2:=he _ h1.lt
   have n2:=ne _ h1.lt
   have h3:=zam hL h2.lt (s:=bs [41])
   have r:=zll hL he ne n (mkN L p 7 (bs []) 0 [] [] [a,(ex (zad L (bs [40]) p).2).1]) _ h3.lt (zdv _ _ _ _ _ _ _ (ks2 ha n2.1) (by simp[shN]))
   rw[zcG,z2]at r
   refine⟨r.1,?_⟩
   have:=h3.le
   have:=n2.2
   have:=r.2
   simp only at*
   omega
  split
  ·rename_i c
   have t:=(take_at c).1
   have h1:=zai hL hp (s:=bs [46])
   have h2:=zaR hL h1.lt
   have r:=zll hL he ne n (mkN L p 9 (zaw L (zad L (bs [46]) p).2).1 0 [] [] [a]) _ h2.lt (zdv _ _ _ _ _ _ _ (ks1 ha) (by simp[shN]))
   rw[zcG,z1]at r
   refine⟨r.1,?_⟩
   have:=h2.le
   have:=r.2
   simp only at*
   omega
  ·exact⟨ha,by show nsz a+3*p.at'<=3*p.at'+nsz a;omega⟩
def zzx(hL:OkL L)(hl:L.length<=10000){ki:PS->Typ × PS}{ex un:PS->Nod × PS}(hk:Tame L ki)(he:Tame L ex)(ne:Nice L ex)(nu:Nice L un):Nice L (zff L ki ex un):=fun p hp=>by
 unfold zff
 split
 ·rename_i c
  have t:=(take_at c).1
  have h1:=zai hL hp (s:=bs [45])
  have n2:=nu _ h1.lt
  refine⟨zdv _ _ _ _ _ _ _ (ks1 n2.1) (by simp[shN]),?_⟩
  rw[zcG,z1]
  have:=n2.2
  simp only at*
  omega
 split
 ·rename_i c
  have t:=(take_at c).1
  have h1:=zai hL hp (s:=wNot)
  have n2:=nu _ h1.lt
  refine⟨zdv _ _ _ _ _ _ _ (ks1 n2.1) (by simp[shN]),?_⟩
  rw[zcG,z1]
  have:=n2.2
  simp only at*
  omega
 ·have a:=zBM hL hl hk he ne p hp
  have ta:=znv hL hk he p hp
  have r:=zll hL he ne (L.length+1) (zeY L ki ex p).1 (zeY L ki ex p).2 ta.lt a.1
  unfold zli
  exact⟨r.1,by simp only;omega⟩
def zFi(hL:OkL L)(hl:L.length<=10000){ki:PS->Typ × PS}(hk:Tame L ki)(d:Nat):Nice L (euP L ki d).1/\Nice L (euP L ki d).2:=by
 induction d with
 |zero=>exact⟨fun p hp=>⟨zv4,by show 1+3*p.at'<=3*p.at'+1;omega⟩,fun p hp=>⟨zv4,by show 1+3*p.at'<=3*p.at'+1;omega⟩⟩
 | succ d ih=>
  have tm:=zqw hL hk d
  have dn:∀p:PS,p.at'<L.length->¬(zau L p).1=true->wfN noN/\nsz noN+3*p.at'<=3*(zau L p).2.at'+1:=fun p hp c=>by
   have:=(znN (L:=L) hp).le
   rw[zkQ c]
   exact⟨zv4,by show 1+3*p.at'<=3*(zgm L p).at'+1;omega⟩
  have up:∀(f:PS->Nod × PS),Nice L f->∀p:PS,p.at'<L.length->(zau L p).1=true->wfN (zds (f (zau L p).2)).1/\nsz (zds (f (zau L p).2)).1+3*p.at'<=3*(zds (f (zau L p).2)).2.at'+1:=fun f nf p hp c=>by
   have hp':(zau L p).2.at'<L.length:=by rw[(zcX c).1];exact hp
   have r:=nf _ hp'
   have e:(zau L p).2.at'=p.at':=by rw[(zcX c).1]
   rw[e]at r
   exact r
  rw[euP]
  refine⟨fun p hp=>?_,fun p hp=>?_⟩
  ·show wfN (if(zau L p).1=true then _ else _:Nod × PS).1/\nsz (if(zau L p).1=true then _ else _:Nod × PS).1+3*p.at'<=3*(if(zau L p).1=true then _ else _:Nod × PS).2.at'+1
   by_cases c:(zau L p).1=true
   ·rw[aC c]
    exact up _ (zBK hL hk tm.1 ih.1 (zBL hL hk tm.2 ih.2)) p hp c
   ·rw[aB c];exact dn p hp c
  ·show wfN (if(zau L p).1=true then _ else _:Nod × PS).1/\nsz (if(zau L p).1=true then _ else _:Nod × PS).1+3*p.at'<=3*(if(zau L p).1=true then _ else _:Nod × PS).2.at'+1
   by_cases c:(zau L p).1=true
   ·rw[aC c]
    exact up _ (zzx hL hl hk tm.1 ih.1 ih.2) p hp c
   ·rw[aB c];exact dn p hp c
structure DecG (d:Dec):Prop where
 types:d.types.length=2
 vars:d.vars.length<=10001
 body:wfN d.body
 size:nsz d.body<=30001
def zs2:∀(n:Nat) (l:List (fC × Typ)) (p:PS),(zgo L n l p).1.length<=l.length+n
 |0,l,p=>by rw[zgo];exact aN _
 | n+1,l,p=>by
  rw[zgo]
  split<;>split<;>first
   |(refine ak (zs2 n _ _) ?_;simp only[aX,length_cons,length_nil];omega)
   |(simp only[aX,length_cons,length_nil];omega)
def zDH(hl:L.length<=10000)(p:PS):(zgp L p).1.length<=10001:=by
 unfold zgp
 split
 ·have:=zs2 (L:=L) (L.length+1) [] (zad L (bs [91]) p).2
  simp only[length_nil]at this
  omega
 ·simp
def zDI(hL:OkL L)(hl:L.length<=10000)(p:PS)(hp:p.at'<L.length):DecG (decP L p).1:=by
 have h1:=zai hL hp (s:=zeZ)
 have h2:=h1.trans (zam hL h1.lt (s:=wFn))
 have h3:=h2.trans (zaR hL h2.lt)
 have h4:=h3.trans (znl hL _ h3.lt)
 have h5:=h4.trans (zfJ hL (zdH hL) _ h4.lt)
 have h6:=h5.trans (zam hL h5.lt (s:=bs [61]))
 have n7:=(zFi hL hl (zdH hL) 102).1 _ h6.lt
 have h7:=znk hL _ h6.lt
 have hh:=zv3 (L:=L) (ki:=kiP L) (zgp L (zaw L (zaA L wFn (zad L zeZ p).2)).2).2
 unfold decP
 refine⟨?_,zDH hl _,n7.1,?_⟩
 ·simp only
  split
  ·simp only[aX,length_cons,length_nil];omega
  ·omega
 ·have:=n7.2
  have:=h7.lt
  simp only[exP]at*
  omega
def zs3(hL:OkL L)(hl:L.length<=10000):∀(n:Nat) (l:List Dec) (p:PS),p.at'<L.length->(∀d,d∈l->DecG d)->∀d,d∈(zcC L n l p).1->DecG d
 |0,l,p,hp,h,d,hd=>by rw[zcC]at hd;exact h d hd
 | n+1,l,p,hp,h,d,hd=>by
  rw[zcC]at hd
  split at hd
  ·refine zs3 hL hl n _ _ (ztS hL p hp).lt (fun x hx=>?_) d hd
   rcases aQ.1 hx with hx|hx
   ·exact h x hx
   ·simp only[aL]at hx;subst hx;exact zDI hL hl p hp
  ·exact h d hd
end
def zzy(s:fC):∀d,d∈(zbE s).1.decs->DecG d:=fun d hd=>by
 unfold zbE at hd
 simp only at hd
 by_cases q1:(lexP s).2.e=0
 ·obtain⟨hL,hl⟩:=znp q1
  rw[aB (fun z=>z q1)]at hd
  split at hd
  ·cases hd
  ·have h0:ps0.at'<(lexP s).1.length:=hL.pos
   exact zs3 hL hl _ _ _ (zjM hL _ _ _ h0).lt (fun x hx=>by cases hx) d hd
 ·rw[aC q1]at hd;cases hd
end Go.Gr
