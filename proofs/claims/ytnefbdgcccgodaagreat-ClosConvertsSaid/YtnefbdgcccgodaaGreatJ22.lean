/- Texts of ours, joined and written short by a program of ours. -/
import Derived.Test.YtnefbdgcccgodaaGreatJ21
import Derived.Test.YtnefbdgcccgodaaGreatJ19
import Derived.Test.YtnefbdgcccgodaaGreatJ18
set_option linter.unusedVariables false
set_option linter.unusedSimpArgs false
namespace Go.Gr
open Go.Abs Go.Proofs
set_option maxHeartbeats 1000000 in
theorem zwG{a b:Typ}{n:Int}(ha:isNR a=true)(hb:isNR b=true)(h0:0<=n)(h1:n<=1000000000):PCall Pg 30 [.agg a.enc,.agg b.enc,.one (.int .i64 (2*n+2))] (.agg (zc6 32 a b (2*n+2)).enc):=by
 refine zt7 (by simp) fun o c hN hp=>?_
 have hm:=zhH 32 a b (2*n+2) (zeP ha) (zeP hb) (by have:=zio ha;have:=zio hb;omega) (by omega) (by omega)
 have na:=zbP a
 have nb:=zbP b
 rw[ha]at na
 rw[hb]at nb
 have hx:=zsI (lb:=2*n+2) (by omega) (by omega)
 have hf:flp (2*n+2)≠0:=by unfold flp;rw[if_pos (by omega)];omega
 have h2:¬2*n+2=0:=by omega
 generalize zc6 32 a b (2*n+2)=R at*
 generalize 2*n+2=lb at*
 unfold mc_g10_Make
 simp
 refine zac.mk na ?_
 simp
 refine zac.mk nb ?_
 simp[h2,hx,hf]
 refine zac.mk hm ?_
 simp
abbrev zga:Blk:=.box [.d (.int .i64 0),.d (.int .i64 0),.d (.str (bs [])),.d (.sl true 1 []),.d (.sl true 1 []),.d (.sl true 4 []),.d (.sl true 5 []),.d (.sl true 8 [])]
def PlOk(M G:Nat)(c:Cor):Prop:=okC M G c->csz c<=1000000000->PCall Pg 18 [.agg c.enc] (.agg (zbi c).enc)
set_option maxRecDepth 20000 in
set_option maxHeartbeats 4000000 in
theorem zuN{M G:Nat}(hM:M<=1000000000)(c:Cor)(ih:∀x,x∈c.kids->PlOk M G x):PlOk M G c:=fun ho hs=>by
 refine zr4 (by simp) fun o cx hN hp=>?_
 have hsz:=zbZ c
 have hkl:=zdi c.kids
 rw[zu2]
 unfold zj1
 simp
 refine owK.mk [.t 3] ?_
 simp
 refine W.loop zab hp (fun Y:Nat × List Cor=>Y.1<=c.kids.length/\Y.2=(c.kids.take Y.1).map zbi) (fun Y=>[(4,.c (.d (.int .i64 Y.1))),(3,.c (.msl 8 2 0 Y.2.length)),(2,.c (.ptr 1 0)),(1,.c (.ptr 0 0))]) (fun Y=>[.box (c.enc.map .d),zga,.arr 8 ((Y.2.map Cor.enc).map (·.map .d))]) (fun Y=>c.kids.length-Y.1) (0,[]) [0,1,2] (by simp) (by simp) fun⟨j,K⟩ ⟨hj,hK⟩=>?_
 unfold lp_g12_plain_0
 simp only at hj hK
 simp
 have hl:K.length=j:=by rw[hK];simp;omega
 refine gd.mk (fun h=>?_) (fun h=>?_)
 ·have hj:j<c.kids.length:=by simpa using h
  have hw:=wrap_i64 (n:=(j:Int)+1) (by omega) (by omega)
  have hx:=ih _ (List.getElem_mem hj)
  have hsj:=zec hj
  have hok:okC M G c.kids[j]:=by
   obtain⟨k,n,t,is,ns,ts,cs,ks⟩:=c
   rw[okC]at ho
   exact zp8.1 ho.2 _ (List.getElem_mem hj)
  have htK:List.take K.length (List.map ((fun x=>List.map AC.d x)∘Cor.enc) K)=List.map ((fun x=>List.map AC.d x)∘Cor.enc) K:=List.take_of_length_le (by simp)
  have hn:K++[zbi c.kids[j]]=(c.kids.take (j+1)).map zbi:=by rw[List.take_succ_eq_append_getElem hj,hK,List.map_append];try rfl
  simp[hj]
  refine zac.mk (hx hok (by omega)) ?_
  simp
  refine⟨by omega,?_⟩
  refine Abs.Next.mk (j+1,K++[zbi c.kids[j]]) [0,1,3] ⟨by simp only;omega,hn⟩ (by simp only;omega) ?_
  simp[hw,htK]
 ·have hj:j=c.kids.length:=by simp at h;omega
  subst hj
  rw[List.take_length]at hK
  rw[<-hK]
  have hT:List.take K.length (List.map Cor.enc K)=List.map Cor.enc K:=List.take_of_length_le (by simp)
  refine fzK.mk [2] ?_
  simp only[zd8,zfc,zfb,zfa,if_pos,if_neg,reduceIte,Nat.reduceEqDiff,zcJ,zb8,Blk.fz_arr,zcP,zeS]
  refine St.cut7 (F:=w_ Pg cx _ _ _) [(1,.c (.ptr 0 0)),(2,.c (.ptr 1 0)),(3,.c (.d (.sl false 8 (K.map Cor.enc))))] [.box (row7 c (.d (.sl false 8 (c.kids.map Cor.enc)))),zga,.dead] ?_ ?_ fun T hT=>?_
  ·simp[zak,hT]
  ·intro i
   rw[c.enc_eq]
   rcases(show i=0\/i=1\/i=2\/3<=i from by omega)with rfl|rfl|rfl|q
   ·simp[zak]
   ·simp[zak]
   ·simp[zak]
   ·simp[zak,zbe (show [Blk.box (row7 c (.d (.sl false 8 (c.kids.map Cor.enc)))),zga,.dead].length<=i from q),show i≠2 from by omega]
    rw[zbe (by exact q)]
    try rfl
  simp only[List.forall_mem_cons,List.not_mem_nil,false_implies,implies_true,and_true]at hT
  obtain⟨k1,k2,k3⟩:=hT
  by_cases k:c.kind=21
  ·obtain⟨h1,h2,h3,a,b,e,na,nb⟩:c.kids.length=1/\0<=c.n/\c.n<M/\∃a b,c.types=[a,b]/\isNR a=true/\isNR b=true:=by
    obtain⟨k',n,t,is,ns,ts,cs,ks⟩:=c
    rw[okC]at ho
    have k:k'=21:=k
    subst k
    exact ho.1.inv
   have hm:=zwG na nb h2 (by omega)
   rw[if_pos k,e]
   have w1:=wrap_i64 (n:=2*c.n) (by omega) (by omega)
   have w2:=wrap_i64 (n:=2*c.n+2) (by omega) (by omega)
   simp[k1,k2,k3,k,e,w1,w2]
   refine zac.mk hm ?_
   simp[k1,k2,k3]
   exact⟨by decide,by rw[Cor.enc_eq];rfl⟩
  ·rw[if_neg k]
   simp[k1,k2,k3,k]
   rw[Cor.enc_eq]
   try rfl
mutual
theorem zpB{M G:Nat}(hM:M<=1000000000):∀c:Cor,PlOk M G c
 |.mk k n t is ns ts cs ks=>zuN hM _ (zn4 hM ks)
theorem zn4{M G:Nat}(hM:M<=1000000000):∀l:List Cor,∀x,x∈l->PlOk M G x
 |[],x,hx=>by cases hx
 |c::l,x,hx=>by
  rcases List.mem_cons.1 hx with e|e
  ·rw[e];exact zpB hM c
  ·exact zn4 hM l x e
end
set_option maxRecDepth 20000 in
theorem zzy(c:Cor):PCall Pg 32 [.agg c.enc] (.one (.int .i64 (tagK c))):=by
 refine zv4 (by simp) fun o cx hN hp=>?_
 obtain⟨R,hR⟩:∃R,tagK c=R:=⟨_,rfl⟩
 rw[hR]
 unfold tagK at hR
 unfold mc_g12_tag
 by_cases k0:c.kind=0
 ·simp[k0]at hR⊢;exact hR
 by_cases k1:c.kind=20
 ·simp[k1]at hR⊢;exact hR
 by_cases k2:c.kind=1
 ·simp[k2]at hR⊢;exact hR
 by_cases k3:c.kind=2
 ·simp[k3]at hR⊢;exact hR
 by_cases k4:c.kind=3
 ·simp[k4]at hR⊢;exact hR
 by_cases k5:c.kind=5
 ·simp[k5]at hR⊢;exact hR
 by_cases k6:c.kind=6
 ·simp[k6]at hR⊢;exact hR
 simp[k0,k1,k2,k3,k4,k5,k6]at hR⊢
 exact hR
@[simp] theorem Cor.enc_g6(c:Cor)(h:6<c.enc.length):c.enc[6]=.sl false 5 (c.cos.map Coe.enc):=by simp only[c.enc_eq];rfl
@[simp] theorem Coe.enc_g0(c:Coe)(h:0<c.enc.length):c.enc[0]=.sl false 1 (encI c.tags):=by simp only[c.enc_eq];rfl
@[simp] theorem Coe.enc_g4(c:Coe)(h:4<c.enc.length):c.enc[4]=.sl false 5 (c.fn.map Coe.enc):=by simp only[c.enc_eq];rfl
def TrOk(c:Cor):Prop:=∀m,pcC c->wfC m c->csz c<=10000000->PCall Pg 19 [.agg c.enc] (.agg (zbU c).enc)
set_option maxRecDepth 20000 in
set_option maxHeartbeats 4000000 in
theorem zwH(c:Cor)(ih:∀x,x∈c.kids->TrOk x):TrOk c:=fun m hpc hwf hs=>by
 refine zpf (by simp) fun o cx hN hp=>?_
 have hsz:=zbZ c
 have hkl:=zdi c.kids
 rw[zwZ]
 unfold zhT
 simp
 refine owK.mk [.t 3] ?_
 simp
 refine W.loop zab hp (fun Y:Nat × List Cor=>Y.1<=c.kids.length/\Y.2=(c.kids.take Y.1).map zbU) (fun Y=>[(4,.c (.d (.int .i64 Y.1))),(3,.c (.msl 8 2 0 Y.2.length)),(2,.c (.ptr 1 0)),(1,.c (.ptr 0 0))]) (fun Y=>[.box (c.enc.map .d),zga,.arr 8 ((Y.2.map Cor.enc).map (·.map .d))]) (fun Y=>c.kids.length-Y.1) (0,[]) [0,1,2] (by simp) (by simp) fun⟨j,K⟩ ⟨hj,hK⟩=>?_
 unfold lp_g12_trimmed_0
 simp only at hj hK
 simp
 have hl:K.length=j:=by rw[hK];simp;omega
 refine gd.mk (fun h=>?_) (fun h=>?_)
 ·have hj:j<c.kids.length:=by simpa using h
  have hw:=wrap_i64 (n:=(j:Int)+1) (by omega) (by omega)
  have hx:=ih _ (List.getElem_mem hj)
  have hsj:=zec hj
  obtain⟨m',hok,hwk⟩:∃m',pcC c.kids[j]/\wfC m' c.kids[j]:=by
   obtain⟨k,n,t,is,ns,ts,cs,ks⟩:=c
   rw[pcC]at hpc
   rw[wfC]at hwf
   have h1:=zih.1 hpc.2.2 _ (List.getElem_mem hj)
   by_cases q5:k=5
   ·subst q5
    have hl:=hwf.2.2.2.2.1 rfl
    match ks,hl,hwf,j,hj,h1 with
    |[x],_,hw,0,_,h1=>exact⟨m+1,h1,by have:=hw.2.2.2.2.2;rw[wfCs]at this;show wfC (m+1) x;simpa using this.1⟩
   ·exact⟨_,h1,zfW q5 hj hwf.2.2.2.2.2⟩
  have htK:List.take K.length (List.map ((fun x=>List.map AC.d x)∘Cor.enc) K)=List.map ((fun x=>List.map AC.d x)∘Cor.enc) K:=List.take_of_length_le (by simp)
  have hn:K++[zbU c.kids[j]]=(c.kids.take (j+1)).map zbU:=by rw[List.take_succ_eq_append_getElem hj,hK,List.map_append];try rfl
  simp[hj]
  refine zac.mk (hx m' hok hwk (by omega)) ?_
  simp
  refine⟨by omega,?_⟩
  refine Abs.Next.mk (j+1,K++[zbU c.kids[j]]) [0,1,3] ⟨by simp only;omega,hn⟩ (by simp only;omega) ?_
  simp[hw,htK]
 ·have hj:j=c.kids.length:=by simp at h;omega
  subst hj
  rw[List.take_length]at hK
  have hT:List.take K.length (List.map Cor.enc K)=List.map Cor.enc K:=List.take_of_length_le (by simp)
  refine fzK.mk [2] ?_
  simp only[zd8,zfc,zfb,zfa,if_pos,if_neg,reduceIte,Nat.reduceEqDiff,zcJ,zb8,Blk.fz_arr,zcP,zeS]
  refine St.cut7 (F:=w_ Pg cx _ _ _) [(1,.c (.ptr 0 0)),(2,.c (.ptr 1 0)),(3,.c (.d (.sl false 8 (K.map Cor.enc))))] [.box (row7 c (.d (.sl false 8 (c.kids.map Cor.enc)))),zga,.dead] ?_ ?_ fun T hT=>?_
  ·simp[zak,hT]
  ·intro i
   rw[c.enc_eq]
   rcases(show i=0\/i=1\/i=2\/3<=i from by omega)with rfl|rfl|rfl|q
   ·simp[zak]
   ·simp[zak]
   ·simp[zak]
   ·simp[zak,zbe (show [Blk.box (row7 c (.d (.sl false 8 (c.kids.map Cor.enc)))),zga,.dead].length<=i from q),show i≠2 from by omega]
    rw[zbe (by exact q)]
    try rfl
  simp only[List.forall_mem_cons,List.not_mem_nil,false_implies,implies_true,and_true]at hT
  obtain⟨k1,k2,k3⟩:=hT
  by_cases k:c.kind=22
  rotate_left
  ·rw[if_neg k,<-hK]
   simp[k1,k2,k3,k]
   rw[Cor.enc_eq]
   try rfl
  have ht:=zkn (csz c) c m (Nat.le_refl _) hpc hwf
  obtain⟨d,x,e1,e2,gd,hpx,hsx⟩:∃d x,c.cos=[d]/\K=[zbU x]/\zch 16 d/\(pcC x/\wfC m x)/\csz x<=csz c:=by
   obtain⟨k',n,t,is,ns,ts,cs,ks⟩:=c
   have k:k'=22:=k
   subst k
   rw[pcC]at hpc
   obtain⟨⟨d,e,g⟩,h1⟩:=hpc.2.1 rfl
   match ks,h1 with
   |[x],_=>
    rw[wfC,wfCs]at hwf
    exact⟨d,x,e,hK,g,⟨zih.1 hpc.2.2 x (by simp),by simpa using hwf.2.2.2.2.2.1⟩,by simp only[csz,cszs];omega⟩
  rw[if_pos k,<-hK,e1,e2]
  have hx:=zkn (csz x) x m (Nat.le_refl _) hpx.1 hpx.2
  have hbig:16*csz x<=199999984:=by omega
  generalize zbU x=x' at*
  obtain⟨R,hR⟩:∃R,zif d x'=R:=⟨_,rfl⟩
  rw[show zif ([d].getD 0 idC) ([x'].getD 0 noC)=R from hR]
  unfold zif at hR
  simp only at hR
  obtain⟨d',hd'⟩:∃d',(if x'.kind=22 then compN 32 (x'.cos.getD 0 idC) d else d)=d':=⟨_,rfl⟩
  obtain⟨k',hk'⟩:∃k',(if x'.kind=22 then x'.kids.getD 0 noC else x')=k':=⟨_,rfl⟩
  rw[hd',hk']at hR
  have hx0:x'.kind=22->∃e y,x'.cos=[e]/\x'.kids=[y]/\y.kind≠22/\zch 200000000 e:=fun q=>by
   obtain⟨k0,n,t,is,ns,ts,cs,ks⟩:=x'
   have q:k0=22:=q
   subst q
   have:=hx.tc
   rw[tcC]at this
   obtain⟨e,y,h1,h2,h3,h4⟩:=this.2.1 rfl
   exact⟨e,y,h1,h2,h3,h4.le (by omega)⟩
  simp[k1,k2,k3,k,e1,e2]
  refine W.loop zab hp (fun Y:Coe × Cor=>(Y.2.kind=22->∃e y,Y.2.cos=[e]/\Y.2.kids=[y]/\y.kind≠22/\zch 200000000 e)/\zch (if Y.2.kind=22 then 200000000 else 400000000) Y.1/\(if Y.2.kind=22 then compN 32 (Y.2.cos.getD 0 idC) Y.1 else Y.1)=d'/\(if Y.2.kind=22 then Y.2.kids.getD 0 noC else Y.2)=k') (fun Y=>[(6,.c (.ptr 4 0)),(5,.c (.ptr 3 0)),(2,.c (.ptr 1 0))]) (fun Y=>[.box (row7 c (.d (.sl false 8 [x'.enc]))),zga,.dead,.box (Y.1.enc.map .d),.box (Y.2.enc.map .d)]) (fun Y=>if Y.2.kind=22 then 1 else 0) (d,x') [0,1,2,3,4] ⟨hx0,by split<;>exact gd.le (by omega),hd',hk'⟩ (by simp[k2,k,e1]) fun⟨D,X⟩ ⟨i1,i2,i3,i4⟩=>?_
  unfold zgy
  simp only at i1 i2 i3 i4
  simp
  by_cases q:X.kind=22
  ·obtain⟨e,y,h1,h2,h3,h4⟩:=i1 q
   rw[if_pos q]at i2 i3 i4
   rw[h1]at i3
   rw[h2]at i4
   simp only[List.getD_cons_zero]at i3 i4
   have hc:=zrC 32 h4.2.2 i2.2.2 (h4.le (B:=536870912) (by omega)).2.1 (i2.le (B:=536870912) (by omega)).2.1
   have ec:zpl 32 e D=d':=by unfold zpl;rw[h4.1,i2.1,i3];try rfl
   rw[ec]at hc
   have gd':zch 400000000 d':=by rw[<-i3];exact h4.comp (by omega) i2
   simp[q,h1,h2]
   refine zac.mk hc ?_
   simp[q,h1,h2]
   refine⟨by decide,?_⟩
   refine Abs.Next.mk (d',y) [0,1,2,3,4] ⟨fun z=>absurd z h3,by rw[if_neg h3];exact gd',by rw[if_neg h3],by rw[if_neg h3];exact i4⟩ (by simp[q,h3]) ?_
   simp[k,e1]
  ·rw [if_neg q]at i3 i4 i2
   subst i3
   subst i4
   simp[q]
   refine zac.mk (zzy X) ?_
   simp
   refine zac.mk (zdH D) ?_
   have hlen:D.tags.length=6:=((zbw _).1 i2.1).tags
   unfold idleC at hR
   have ht:tagK X= -1\/∃n:Nat,tagK X=n/\n<6:=by
    unfold tagK
    repeat' split
    ·exact .inr ⟨2,rfl,by omega⟩
    ·exact .inr ⟨3,rfl,by omega⟩
    ·exact .inr ⟨1,rfl,by omega⟩
    ·exact .inr ⟨0,rfl,by omega⟩
    ·exact .inr ⟨5,rfl,by omega⟩
    ·exact .inl rfl
   generalize tagK X=t at*
   by_cases b1:zaM D idC=true
   ·rw[b1]at hR⊢
    rw[if_pos (by rfl)]at hR
    subst hR
    simp
   rw[Bool.not_eq_true]at b1
   rw[b1]at hR⊢
   rcases ht with ht|⟨n,ht,hn⟩
   ·subst ht
    simp at hR
    subst hR
    simp
    exact(Cor.enc_eq (coK D X)).symm
   ·subst ht
    have hg:D.tags[n]?=some (tagZ D n):=zkk hlen hn
    simp only[Int.toNat_natCast]at hR
    obtain⟨z,hz0⟩:∃z,tagZ D n=z:=⟨_,rfl⟩
    simp only[hz0]at hR hg
    have hz:=(Cor.enc_eq (coK D X)).symm
    have h5:((n:Int)=5)=(n=5):=by rw[eq_iff_iff];omega
    by_cases b2:z=0
    ·by_cases b3:n=5
     ·subst b3
      by_cases b4:D.fn=[]
      ·have hR:X=R:=by simpa[b2,b4]using hR
       simp[encI,hg,b2,b4]
       rw[hR]
      ·have hR:coK D X=R:=by simpa[b2,b4]using hR
       simp[encI,hg,b2,b4]
       rw[<-hR]
       exact hz
     ·have hR:X=R:=by simpa[b2,b3,h5]using hR
      simp[encI,hg,b2,b3,h5]
      rw[hR]
    ·have hR:coK D X=R:=by simpa[b2]using hR
     simp[encI,hg,b2]
     rw[<-hR]
     exact hz
mutual
theorem zsi:∀c:Cor,TrOk c
 |.mk k n t is ns ts cs ks=>zwH _ (zpC ks)
theorem zpC:∀l:List Cor,∀x,x∈l->TrOk x
 |[],x,hx=>by cases hx
 |c::l,x,hx=>by
  rcases List.mem_cons.1 hx with e|e
  ·rw[e];exact zsi c
  ·exact zpC l x e
end
@[simp] theorem Fun.put_body(f:Fun)(b:Cor):put (f.enc.map AC.d) 5 (b.enc.map AC.d)=(Fun.enc ⟨f.name,f.type,b⟩).map .d:=by unfold Fun.enc;rw[f.type.enc_eq,f.body.enc_eq,b.enc_eq];try rfl
set_option maxRecDepth 20000 in
set_option maxHeartbeats 4000000 in
theorem zn5(p:Prg)(hp:PrgK p)(trim:Bool):PCall Pg 8 [.agg p.enc,.one (.bool trim)] (.agg (zmi trim p).enc):=by
 have e:p.enc=[.sl false 13 (p.funs.map Fun.enc),.int .i64 p.main,.sl false 3 (p.sites.map Site.enc)]:=rfl
 rw[e]
 refine zt8 (by simp) fun o cx hN hpp=>?_
 have h257:=hp.good.2
 unfold zla
 simp
 refine owK.mk [.c 1 0] ?_
 simp
 refine W.loop zab hpp (fun Y:Nat × List Fun=>Y.1<=p.funs.length/\Y.2=(p.funs.take Y.1).map fun f=>⟨f.name,f.type,ze1 trim f.body⟩) (fun Y=>[(6,.c (.d (.int .i64 Y.1))),(5,.c (.ptr 1 0)),(4,.c (.ptr 0 0)),(2,.c (.d (.rp p.enc 0))),(1,.c (.d (.bool trim)))]) (fun Y=>[.box [.d (.sl true 13 []),.d (.int .i64 0),.d (.sl true 3 [])],.box [.msl 13 2 0 Y.2.length,.d (.int .i64 p.main),.d (.sl false 3 (p.sites.map Site.enc))],funA Y.2]) (fun Y=>p.funs.length-Y.1) (0,[]) [0,1,2] (by simp) (by simp[e]) fun⟨j,K⟩ ⟨hj,hK⟩=>?_
 unfold lp_g12_Norm_0
 simp only at hj hK
 have hl:K.length=j:=by rw[hK];simp;omega
 simp[e]
 refine gd.mk (fun h=>?_) (fun h=>?_)
 ·have hj:j<p.funs.length:=by simpa using h
  have hw:=wrap_i64 (n:=(j:Int)+1) (by omega) (by omega)
  obtain⟨f,hf⟩:∃f,p.funs[j]=f:=⟨_,rfl⟩
  have hm:f∈p.funs:=by rw[<-hf];exact List.getElem_mem hj
  have hg:=(hp.good.1 f hm).1
  have hok:=hp.ok f hm
  have h1:=zpB (M:=p.sites.length) (G:=p.funs.length) hp.sites f.body hok (by have:=hg.2;omega)
  have h2:=zsi (zbi f.body) 1 (zlu _ hok) (zlv _ _ hg.1) (by rw[zjr];have:=hg.2;omega)
  have hn:K++[⟨f.name,f.type,ze1 trim f.body⟩]=(p.funs.take (j+1)).map fun f=>⟨f.name,f.type,ze1 trim f.body⟩:=by rw[List.take_succ_eq_append_getElem hj,hf,hK,List.map_append];try rfl
  have htK:List.take K.length (List.map ((fun x=>List.map AC.d x)∘Fun.enc) K)=List.map ((fun x=>List.map AC.d x)∘Fun.enc) K:=List.take_of_length_le (by simp)
  simp[hj,hf]
  refine zac.mk h1 ?_
  simp
  cases trim with
  |false=>
   simp
   refine⟨by omega,?_⟩
   refine Abs.Next.mk (j+1,K++[⟨f.name,f.type,ze1 false f.body⟩]) [0,1,4] ⟨by simp only;omega,hn⟩ (by simp only;omega) ?_
   simp[hw,htK,ze1]
   exact e.symm
  |true=>
   simp
   refine zac.mk h2 ?_
   simp
   refine⟨by omega,?_⟩
   refine Abs.Next.mk (j+1,K++[⟨f.name,f.type,ze1 true f.body⟩]) [0,1,4] ⟨by simp only;omega,hn⟩ (by simp only;omega) ?_
   simp[hw,htK,ze1]
   exact e.symm
 ·have hj:j=p.funs.length:=by simp at h;omega
  subst hj
  rw[List.take_length]at hK
  have hT:List.take K.length (List.map Fun.enc K)=List.map Fun.enc K:=List.take_of_length_le (by simp)
  have e2:(zmi trim p).enc=[.sl false 13 (K.map Fun.enc),.int .i64 p.main,.sl false 3 (p.sites.map Site.enc)]:=by rw[hK];try rfl
  rw[e2]
  refine fzK.mk [2] ?_
  simp[zak,hT]
end Go.Gr
namespace Go.Gr
open Go.Abs Go.Proofs
theorem ztb{M G m b:Nat}{c:Cor}(ho:okC M G c)(h:CW m b c)(trim:Bool):CW m b (ze1 trim c):=by
 have hp:=zlv c m h.1
 have hz:=zjr c
 unfold ze1
 split
 ·have:=zkn (csz (zbi c)) (zbi c) m (Nat.le_refl _) (zlu c ho) hp
  exact⟨this.wf,by have:=this.sz;have:=h.2;omega⟩
 ·exact⟨hp,by have:=h.2;omega⟩
theorem zl4{p:Prg}(h:PrgK p)(trim:Bool):PrgG (zmi trim p):=by
 refine⟨fun f hf=>?_,by have:=h.good.2;unfold zmi;simpa using this⟩
 unfold zmi at hf
 obtain⟨g,hg,rfl⟩:=List.mem_map.1 hf
 exact⟨ztb (h.ok g hg) (h.good.1 g hg).1 trim,(h.good.1 g hg).2⟩
set_option maxRecDepth 20000 in
set_option maxHeartbeats 4000000 in
theorem ClosConverts_ok(l:List (ByteArray × ByteArray))(how:Int):PCall Pg 3 [.one (.sl false 2 (l.map srcE)),.one (.int .i64 how)] (.one (.bool true)):=by
 refine zjX (by simp) fun o cx hN hp=>?_
 have hpr:=zni l
 have hk:=zrv (l:=l)
 generalize programP l=r at*
 obtain⟨p,ok⟩:=r
 simp only at hk
 unfold mc_w13_ClosConverts
 simp
 refine zac.mk ztV ?_
 simp
 refine zac.mk hpr ?_
 simp
 by_cases hok:ok=true
 rotate_left
 ·simp[hok]
 have hk:=hk hok
 have fin:∀q:Prg,PrgG q->PCall Pg 9 [.agg q.enc] (fltV (ze3 q))/\PCall Pg 11 [.agg q.enc] (fltV (ze3 q)):=fun q hq=>⟨zsa q hq,zm6 q hq⟩
 by_cases h1:how=1
 ·have hn:=zn5 p hk false
  obtain⟨a,b⟩:=fin _ (zl4 hk false)
  simp[hok,h1]
  refine zac.mk hn ?_
  simp
  refine zac.mk a ?_
  simp
  refine zac.mk b ?_
  simp
  refine zac.mk (zdq _) ?_
  simp
  refine zac.mk b ?_
  simp
  refine zac.mk (zdq _) ?_
  simp
 by_cases h2:how=2
 ·have hn:=zn5 p hk true
  obtain⟨a,b⟩:=fin _ (zl4 hk true)
  simp[hok,h2]
  refine zac.mk hn ?_
  simp
  refine zac.mk a ?_
  simp
  refine zac.mk b ?_
  simp
  refine zac.mk (zdq _) ?_
  simp
  refine zac.mk b ?_
  simp
  refine zac.mk (zdq _) ?_
  simp
 obtain⟨a,b⟩:=fin p hk.good
 simp[hok,h1,h2]
 refine zac.mk a ?_
 simp
 refine zac.mk b ?_
 simp
 refine zac.mk (zdq _) ?_
 simp
 refine zac.mk b ?_
 simp
 refine zac.mk (zdq _) ?_
 simp
end Go.Gr
namespace Go.Gr
open Go.Abs Go.Proofs
theorem zzA{n:Nat}{ds:List D}(h:zaY Tryz.prog n 53 ds):∃x:ByteArray × ByteArray,ds=srcE x:=by
 obtain⟨m,_,h⟩:=zq1 Tryz.underlying53 h
 obtain⟨a,b,rfl,ha,h⟩:=zmV h
 obtain⟨c,d,rfl,hc,h⟩:=zmV h
 obtain rfl:=zvY h
 obtain⟨s,rfl⟩:=zoU Tryz.underlying9 ha
 obtain⟨i,rfl⟩:=zoU Tryz.underlying9 hc
 exact⟨(s,i),rfl⟩
theorem zyL{n:Nat}{ds:List D}(h:zaY Tryz.prog n 22 ds):∃l:List (ByteArray × ByteArray),ds=[.sl false 2 (l.map srcE)]:=
 zrY (enc:=srcE) Tryz.underlying22 (by kernel_rfl) (fun m _ x hx=>zzA hx) h
def types:List TypeId:=[3,4,9,22,53]
theorem own:ownKnob Tryz.prog.godebug=none:=by kernel_rfl
theorem laidOut:laidOutB Tryz.prog=true:=by kernel_rfl
theorem typesOk:(types.all fun t=>ziC Tryz.prog types t&&Tryz.prog.readableRec t&&decide (t<Tryz.prog.types.size))=true:=by kernel_rfl
theorem noGnd : Tryz.prog.globalNamed "strings.asciiSpace" = none := by kernel_rfl
theorem zAk:Abs.isAgg Tryz.prog 22=false:=by kernel_rfl
theorem agg3:Abs.isAgg Tryz.prog 3=false:=by kernel_rfl
end Go.Gr
namespace Go.Gr
open Go.Abs Go.Proofs
theorem args223{dvs:List DV}(h:zhO Tryz.prog [22,3] dvs):∃(l:List (ByteArray × ByteArray)) (k:Int),dvs=[.one (.sl false 2 (l.map srcE)),.one (.int .i64 k)]:=by
 match dvs,h with
 | a::r,h=>
  simp only[zhO,zAk,dvOf]at h
  obtain⟨⟨n,x,h1,rfl⟩,h⟩:=h
  obtain⟨l,rfl⟩:=zyL h1
  match r,h with
  |b::r,h=>
   simp only[zhO,agg3,dvOf]at h
   obtain⟨⟨n,x,h1,rfl⟩,rfl⟩:=h
   obtain⟨k,rfl⟩:=zvX Tryz.underlying3 h1
   exact⟨l,k,rfl⟩
end Go.Gr
