/- Texts of ours, joined and written short by a program of ours. -/
import Derived.Test.YtnefbdgcccgodaaGreatJ18
set_option linter.unusedVariables false
set_option linter.unusedSimpArgs false
namespace Go.Gr
open Go.Abs Go.Proofs
theorem zuu{c:Cor}{b b' x:Int}(hb:b<=b')(h:x∈rawV c b')(hx:x<b):x∈rawV c b:=by
 have key:∀n,∀c:Cor,csz c<=n->x∈rawV c b'->x∈rawV c b:=fun n=>by
  induction n with
  |zero=>intro c hc;have:=zbZ c;omega
  | succ n ih=>
   intro c hc h
   rw[zhI]at h⊢
   rcases List.mem_append.1 h with h|h
   ·refine List.mem_append_left _ ?_
    unfold zbr at h⊢
    split at h
    ·rename_i q
     rw[List.mem_singleton]at h
     subst h
     rw[if_pos ⟨q.1,hx⟩]
     simp
    ·cases h
   ·refine List.mem_append_right _ ?_
    have hk:cszs c.kids<=n:=by have:=zbZ c;omega
    have key2:∀l:List Cor,cszs l<=n->x∈za3 l b'->x∈za3 l b:=fun l=>by
     induction l with
     |nil=>intro _ h;rw[za3]at h;cases h
     |cons d l ihl=>
      intro hl h
      rw[cszs]at hl
      rw[za3]at h⊢
      rcases List.mem_append.1 h with h|h
      ·exact List.mem_append_left _ (ih d (by omega) h)
      ·exact List.mem_append_right _ (ihl (by omega) h)
    exact key2 _ hk h
 exact key _ c (Nat.le_refl _) h
theorem zj9(t:Todo)(c:Cor)(m:Int)(l:List Todo){h:Nat}(hh:h<l.length)(ht:l[h]=t):∃hh':h<(convC t c m l).2.length,(convC t c m l).2[h]=t:=by
 rw[zgQ]
 refine⟨by rw[List.length_append];omega,?_⟩
 rw[List.getElem_append_left hh]
 exact ht
theorem St.cut7{F:St->Prop}{t:List (Nat × AV)}{m:Hp}{n:Nat}(ts:List (Nat × AV))(bs:List Blk)(ht:∀p,p∈ts->Abs.look t p.1=p.2)(hm:∀i,m i=hpOf bs i)(h:∀T,(∀p,p∈ts->Abs.look T p.1=p.2)->F ⟨T,hpOf bs,n⟩):F ⟨t,m,n⟩:=by
 have e:m=hpOf bs:=funext hm
 subst e
 exact h t ht
abbrev zero8:Blk:=.box [.d (.int .i64 0),.d (.int .i64 0),.d (.str (bs [])),.d (.sl true 1 []),.d (.sl true 1 []),.d (.sl true 4 []),.d (.sl true 5 []),.d (.sl true 8 [])]
def zkJ(c:Cor):Prop:=∀(t:Todo) (D m h:Nat) (l:List Todo),TodS t->t.deep=D->(∀x,x∈t.caps->0<=x/\x<D)->D<=m->(∀x,x∈rawV c D->x∈t.caps)->wfC m c->m+csz c<=1000000000->l.length+csz c<=1000000000->(∃hh:h<l.length,l[h]=t)->
 MCall Pg 20 [.c (.ptr 0 0),.ag (c.enc.map .d),.c (.d (.int .i64 m))] (cwB h l) (.ag ((convC t c m l).1.enc.map .d)) (cwB' h (convC t c m l).2)
set_option maxRecDepth 20000 in
set_option maxHeartbeats 4000000 in
theorem zwg(c:Cor)(ih:∀x,x∈c.kids->zkJ x):zkJ c:=fun t D m h l hT hD hcp hDm hv hc hm hl ⟨hh,ht⟩=>by
 refine zi9 ⟨by simp,by simp,by simp,by simp,by simp,by simp,by simp[live]⟩ fun ts hts ok hbk cx hN hp=>?_
 obtain⟨u,v,rfl⟩:=zpn hts
 have hsz:=zbZ c
 have hkl:=zdi c.kids
 have hwf:c.kind≠23/\(c.kind=18->c.kids.length<=2)/\(c.kind=21->c.kids.length=1/\c.types.length=2)/\(c.kind=4->0<=c.n/\c.n<m/\c.kids=[])/\(c.kind=5->c.kids.length=1)/\wfCs m c.kind c.kids 0:=by
  cases c;rw[wfC]at hc;exact hc
 rw[zhI]at hv
 rw[zpy]
 unfold zeI
 simp
 by_cases c4:c.kind=4
 ·rw[if_pos c4]
  have hn:=hwf.2.2.2.1 c4
  have hnum:numR t c.n=numT t c.n:=zn7 hD hcp (by
   by_cases q:c.n<D
   ·exact .inl (hv _ (List.mem_append_left _ (by unfold zbr;rw[if_pos ⟨c4,q⟩];simp)))
   ·exact .inr (by omega))
  have mn:=zmb t h l hh ht c.n ⟨hT.d0,hT.d1⟩ (by omega) hT.caps
  rw[hnum]at mn
  simp[c4]
  refine zaa.mk [0,1] mn (by simp) ?_
  simp[zyo]
  refine fzK.mk [] ?_
  simp
  exact EndM.mkE [0,4,1] [2,2] (by simp[AV.erds,AV.erd,c4])
 rw[if_neg c4]
 by_cases c5:c.kind=5
 ·rw[if_pos c5]
  obtain⟨a,ha⟩:∃a,c.kids=[a]:=by
   have:=hwf.2.2.2.2.1 c5
   match h:c.kids,this with
   |[a],_=>exact⟨a,rfl⟩
  have e00:c.kids.getD 0 noC=a:=by rw[ha];try rfl
  rw[e00]
  have hsa:cszs c.kids=csz a:=by rw[ha];simp[cszs]
  have hwa:wfC (m+1) a:=by
   have:=hwf.2.2.2.2.2
   rw[ha,c5,wfCs]at this
   simpa using this.1
  have hcl:=zje a m
  have hcm:∀x,x∈zcj a m->0<=x/\x<m:=fun x hx=>zhi a _ _ x hwa (zeb.1 hx)
  have hcn:∀x,x∈zcj a m->numR t x=numT t x:=fun x hx=>zn7 hD hcp (by
   by_cases q:x<D
   ·exact .inl (hv x (List.mem_append_right _ (by rw[ha,za3,za3,List.append_nil];exact zuu (by omega) (zeb.1 hx) q)))
   ·exact .inr (by omega))
  have hfr:=zwL a m (by omega)
  rw[ztq]at hfr
  simp[c4,c5,ha]
  generalize zcj a m=C at*
  refine zaa.mk [] hfr (by simp) ?_
  simp
  refine fzK.mk [6] ?_
  simp only[zd8,zfa,if_pos,if_neg,reduceIte,Nat.reduceEqDiff,zcJ,zb8,Blk.fz_arr,zcP,zeS]
  refine St.cut7 (F:=w_ Pg cx _ _ _) [(0,.c (.ptr 0 0)),(2,.c (.d (.int .i64 m))),(4,.c (.ptr 4 0)),(6,.c (.ptr 5 0)),(7,.c (.d (.sl false 1 (encI C))))] [.box [.msl 11 1 0 l.length,.d (.int .i64 h)],todA l,.pin u 0,.pin v 1,.box (c.enc.map .d),zero8,.dead] ?_ ?_ fun T' hT'=>?_
  ·simp[zak,encI]
   exact List.take_of_length_le (by simp)
  ·intro i
   by_cases q:i<7
   ·rcases(show i=0\/i=1\/i=2\/i=3\/i=4\/i=5\/i=6 from by omega)with rfl|rfl|rfl|rfl|rfl|rfl|rfl<;>simp[zak]
   ·refine Eq.trans (b:=Blk.non) ?_ (zbe (by simp;omega)).symm
    try simp[show i≠0 from by omega,show i≠1 from by omega,show i≠4 from by omega,show i≠5 from by omega,show i≠6 from by omega]
    rw[zbe (show 4<=i from by omega)]
    try rfl
  simp only[List.forall_mem_cons,List.not_mem_nil,false_implies,implies_true,and_true]at hT'
  obtain⟨k0,k2,k4,k6,k7⟩:=hT'
  simp[k0,k2,k4,k6,k7,hh,ht,ha,zpz,zn3,zpA]
  have hwl:=wrap_i64 (n:=(l.length:Int)) (by omega) (by omega)
  refine⟨by unfold zah;have:=hT.name;omega,by omega,by decide,?_⟩
  refine owK.mk [.c 8 3] ?_
  simp[hwl]
  obtain⟨l',hl'⟩:∃l',l++[(⟨t.name++bs [39],a,C,m,false⟩:Todo)]=l':=⟨_,rfl⟩
  have hll:l'.length=l.length+1:=by rw[<-hl'];simp
  have hh':h<l'.length:=by omega
  have ht':l'[h]=t:=by simp only[<-hl'];rw[List.getElem_append_left hh];exact ht
  have hla:List.map ((fun x=>List.map AC.d x)∘Todo.enc) l++[List.map AC.d (Todo.enc ⟨t.name++bs [39],a,C,m,false⟩)]=(l'.map Todo.enc).map (·.map .d):=by rw[<-hl'];simp
  have htl:List.take l.length (List.map ((fun x=>List.map AC.d x)∘Todo.enc) l)=List.map ((fun x=>List.map AC.d x)∘Todo.enc) l:=List.take_of_length_le (by simp)
  rw[hl']
  refine W.loop zab hp (fun j:Nat=>j<=C.length) (fun j=>[(9,.c (.d (.int .i64 j))),(8,.c (.ptr 4 0)),(7,.c (.d (.sl false 1 (encI C)))),(6,.c (.ptr 3 0)),(0,.c (.ptr 0 0))]) (fun j=>[.box [.msl 11 1 0 l'.length,.d (.int .i64 h)],todA l',.pin u 0,zero8,.box [.d (.int .i64 23),.d (.int .i64 l.length),.d (.str (bs [])),.msl 1 5 0 j,.d (.sl true 1 []),.d (.sl true 4 []),.d (.sl true 5 []),.d (.sl true 8 [])],inA ((C.take j).map (numT t))]) (fun j=>C.length-j) 0 [0,7,2,5,8,9] (by simp) (by simp[k0,k6,k7,encI,hll,htl,<-hl']) fun j h1=>?_
  unfold lp_g13_Work_convert_1
  simp
  refine gd.mk (fun h=>?_) (fun h=>?_)
  ·have hj:j<C.length:=by simpa[encI]using h
   have hw:=wrap_i64 (n:=(j:Int)+1) (by omega) (by omega)
   have hx:=hcm _ (List.getElem_mem hj)
   have mn:=zmb t _ l' hh' ht' C[j] ⟨hT.d0,hT.d1⟩ (by omega) hT.caps
   rw[hcn _ (List.getElem_mem hj)]at mn
   simp[encI,hj]
   refine zaa.mk [0,1] mn (by simp) ?_
   simp[encI]
   refine⟨by omega,by omega,by decide,?_⟩
   refine Abs.Next.mk (j+1) [0,1,2,3,4,6] (by omega) (by omega) ?_
   simp[hw,encI]
   refine⟨?_,fun x hx=>?_⟩
   ·rw[List.take_take,Nat.min_self,List.take_succ_eq_append_getElem (by simpa using hj)];simp
   ·obtain⟨y,_,e⟩:=List.mem_map.1 (List.mem_of_mem_take hx)
    subst e
    simp
  ·have hj:j=C.length:=by simp[encI]at h;omega
   subst hj
   simp
   refine fzK.mk [5] ?_
   simp
   have htC:List.take C.length (List.map ((fun i=>[Abs.D.int .i64 i])∘numT t) C)=List.map ((fun i=>[Abs.D.int .i64 i])∘numT t) C:=List.take_of_length_le (by simp)
   exact EndM.mkE [0,3,1] [2,2] (by simp[AV.erds,AV.erd,AC.erd,Abs.D.erdL,Abs.D.erd,Abs.D.erdE,Cor.enc,Cor.encs,encI,encS,htC,zln])
 rw[if_neg c5]
 simp[c4,c5]
 refine owK.mk [.t 10] ?_
 simp
 obtain⟨R,hR⟩:∃R,zbd t c.kind c.kids 0 m l=R:=⟨_,rfl⟩
 rw[hR]
 have hvk:∀x,x∈za3 c.kids D->x∈t.caps:=fun x hx=>hv x (List.mem_append_right _ hx)
 refine W.loop zab hp (fun Y:Nat × List Cor × List Todo=>Y.1<=c.kids.length/\Y.2.1.length=Y.1/\(Y.2.1++(zbd t c.kind (c.kids.drop Y.1) Y.1 m Y.2.2).1,(zbd t c.kind (c.kids.drop Y.1) Y.1 m Y.2.2).2)=R/\Y.2.2.length+cszs (c.kids.drop Y.1)<=1000000000/\(∃hh:h<Y.2.2.length,Y.2.2[h]=t)/\∀x,x∈za3 (c.kids.drop Y.1) D->x∈t.caps) (fun Y=>[(11,.c (.d (.int .i64 Y.1))),(10,.c (.msl 8 5 0 Y.2.1.length)),(6,.c (.ptr 3 0)),(4,.c (.ptr 2 0)),(2,.c (.d (.int .i64 m))),(0,.c (.ptr 0 0))]) (fun Y=>[.box [.msl 11 4 0 Y.2.2.length,.d (.int .i64 h)],.pin u 0,.box (c.enc.map .d),zero8,todA Y.2.2,.arr 8 ((Y.2.1.map Cor.enc).map (·.map .d))]) (fun Y=>c.kids.length-Y.1) (0,[],l) [0,2,4,5,1,6] ⟨by simp,rfl,by simpa using hR,by simp;omega,⟨hh,ht⟩,by simpa using hvk⟩ (by simp) fun⟨j,K,q⟩ ⟨i1,i2,i3,i4,i5,i6⟩=>?_
 unfold zek
 simp only at i1 i2 i3 i4 i5 i6
 simp
 refine gd.mk (fun h=>?_) (fun h=>?_)
 ·have hj:j<c.kids.length:=by simpa using h
  have hw:=wrap_i64 (n:=(j:Int)+1) (by omega) (by omega)
  have hwj:=zfW c5 hj hwf.2.2.2.2.2
  have hsj:=zec hj
  have hdj:cszs (c.kids.drop j)=csz c.kids[j]+cszs (c.kids.drop (j+1)):=by rw[List.drop_eq_getElem_cons hj,cszs]
  have hco:=ih _ (List.getElem_mem hj)
  rw[zfO hj]at i6
  rw[zkQ t c.kind hj]at i3
  obtain⟨d,hd⟩:∃d,c.kids[j]=d:=⟨_,rfl⟩
  rw[hd]at hwj hsj hdj hco i3 i6
  have htK:List.take K.length (List.map ((fun x=>List.map AC.d x)∘Cor.enc) K)=List.map ((fun x=>List.map AC.d x)∘Cor.enc) K:=List.take_of_length_le (by simp)
  by_cases c18:c.kind=18
  ·have hk2:=hwf.2.1 c18
   rw[if_pos c18]at hwj
   simp only[if_pos c18]at i3
   by_cases j1:j=1
   ·subst j1
    have hwd:=wrap_i64 (n:=(m:Int)+1) (by omega) (by omega)
    have mc:=hco t D (m+1) _ q hT hD hcp (by omega) (fun x hx=>i6 x (List.mem_append_left _ hx)) (by simpa using hwj) (by omega) (by omega) i5
    have hlen:=zed t d (m+1) q
    have hpre:=zj9 t d (m+1) q i5.1 i5.2
    have em:((m+1:Nat):Int)=(m:Int)+1:=by omega
    rw[em]at mc
    have e1:((1:Nat):Int)=1:=rfl
    rw[e1]at i3
    generalize convC t d ((m:Int)+1) q=r at*
    simp[hj,hd,c18,hwd]
    refine zaa.mk [0,4] mc (by simp) ?_
    simp
    refine⟨by omega,?_⟩
    refine Abs.Next.mk (1+1,K++[r.1],r.2) [0,1,2,3,6,8] ⟨by simp only;omega,by simp[i2],by simpa using i3,by simp only;omega,hpre,fun x hx=>i6 x (List.mem_append_right _ hx)⟩ (by simp only;omega) ?_
    simp[hw,htK,show IntKind.i64.wrap 2=2 from by decide,show IntKind.i64.wrap 1=1 from by decide]
   ·have j0:j=0:=by omega
    subst j0
    have mc:=hco t D m _ q hT hD hcp hDm (fun x hx=>i6 x (List.mem_append_left _ hx)) (by simpa using hwj) (by omega) (by omega) i5
    have hlen:=zed t d m q
    have hpre:=zj9 t d m q i5.1 i5.2
    have e1:(m:Int)+((0:Nat):Int)=m:=by omega
    rw[e1]at i3
    generalize convC t d m q=r at*
    simp[hj,hd,c18]
    refine zaa.mk [0,4] mc (by simp) ?_
    simp
    refine⟨by omega,?_⟩
    refine Abs.Next.mk (0+1,K++[r.1],r.2) [0,1,2,3,6,8] ⟨by simp only;omega,by simp[i2],by simpa using i3,by simp only;omega,hpre,fun x hx=>i6 x (List.mem_append_right _ hx)⟩ (by simp only;omega) ?_
    simp[hw,htK,show IntKind.i64.wrap 2=2 from by decide,show IntKind.i64.wrap 1=1 from by decide]
  ·rw[if_neg c18]at hwj
   simp only[if_neg c18]at i3
   have mc:=hco t D m _ q hT hD hcp hDm (fun x hx=>i6 x (List.mem_append_left _ hx)) (by simpa using hwj) (by omega) (by omega) i5
   have hlen:=zed t d m q
   have hpre:=zj9 t d m q i5.1 i5.2
   generalize convC t d m q=r at*
   simp[hj,hd,c18]
   refine zaa.mk [0,4] mc (by simp) ?_
   simp
   refine⟨by omega,?_⟩
   refine Abs.Next.mk (j+1,K++[r.1],r.2) [0,1,2,3,6,8] ⟨by simp only;omega,by simp[i2],by simpa using i3,by simp only;omega,hpre,fun x hx=>i6 x (List.mem_append_right _ hx)⟩ (by simp only;omega) ?_
   simp[hw,htK]
 ·have hj:j=c.kids.length:=by simp at h;omega
  subst hj
  rw[List.drop_length,zbd]at i3
  subst i3
  simp[zyp]
  refine fzK.mk [5] ?_
  simp
  have htk:List.take c.kids.length (List.map Cor.enc K)=List.map Cor.enc K:=List.take_of_length_le (by simp[i2])
  exact EndM.mkE [0,2,4] [1,1] (by simp[AV.erds,AV.erd,AC.erd,i2,htk,Cor.enc,Cor.encs_map,zhs,Coe.erdE_map,Cor.erdE_map])
mutual
theorem zrj:∀c:Cor,zkJ c
 |.mk k n t is ns ts cs ks=>zwg _ (zoZ ks)
theorem zoZ:∀(l:List Cor) (x:Cor),x∈l->zkJ x
 |[],x,hx=>by cases hx
 |c::l,x,hx=>by
  rcases List.mem_cons.1 hx with e|hx
  ·rw[e];exact zrj c
  ·exact zoZ l x hx
end
@[simp] theorem Prg.g0(p:Prg)(h:0<p.enc.length):p.enc[0]=.sl false 13 (p.funs.map Fun.enc):=rfl
@[simp] theorem Fun.cut_bodyE(f:Fun):cut f.enc 5 8=f.body.enc:=by unfold Fun.enc;rw[f.type.enc_eq,f.body.enc_eq];try rfl
set_option maxRecDepth 20000 in
set_option maxHeartbeats 4000000 in
theorem zsa(p:Prg)(hp0:PrgG p):PCall Pg 9 [.agg p.enc] (fltV (ze3 p)):=by
 refine zpc (by simp) fun o cx hN hp=>?_
 obtain⟨R,hR⟩:∃R,ze3 p=R:=⟨_,rfl⟩
 rw[hR]
 have hpl:=hp0.2
 have pe0:p.enc[0]?=some (.sl false 13 (p.funs.map Fun.enc)):=rfl
 unfold zhP
 simp
 refine owK.mk [.c 0 0] ?_
 simp
 refine W.loop zab hp (fun j:Nat=>j<=p.funs.length) (fun j=>[(4,.c (.d (.int .i64 j))),(3,.c (.ptr 0 0)),(1,.c (.d (.rp p.enc 0)))]) (fun j=>[.box [.msl 11 1 0 j,.d (.int .i64 (0:Nat))],todA ((p.funs.take j).map todo0)]) (fun j=>p.funs.length-j) 0 [0,1] (by simp) (by simp) fun j h1=>?_
 unfold zgu
 simp[pe0]
 refine gd.mk (fun h=>?_) (fun h=>?_)
 ·have hj:j<p.funs.length:=by simpa using h
  have hw:=wrap_i64 (n:=(j:Int)+1) (by omega) (by omega)
  obtain⟨f,hf⟩:∃f,p.funs[j]=f:=⟨_,rfl⟩
  have htk:p.funs.take (j+1)=p.funs.take j++[f]:=by rw[List.take_succ_eq_append_getElem hj,hf]
  simp[pe0,hj,hf,zoW]
  refine⟨by omega,by omega,by decide,?_⟩
  refine Abs.Next.mk (j+1) [0,2] (by omega) (by omega) ?_
  simp[hw]
  refine⟨?_,fun x hx=>?_⟩
  ·rw[List.take_take,Nat.min_self,List.take_succ_eq_append_getElem (by simpa using hj)]
   simp[hf,todo0]
  ·obtain⟨y,_,e⟩:=List.mem_map.1 (List.mem_of_mem_take hx)
   subst e
   simp
 ·have hj:j=p.funs.length:=by simp at h;omega
  subst hj
  simp
  refine owK.mk [.t 5] ?_
  simp
  have hst:=CvI.start hp0
  have hpf:p.funs.length+nfns (p.funs.map (·.body))=psi (p.funs.map todo0) 0:=by
   unfold psi sumT
   have key:∀l:List Fun,nfns (l.map (·.body))=((l.map todo0).map fun t=>nfn t.body).sum:=fun l=>by
    induction l with
    |nil=>simp[nfns]
    |cons f l ih=>simp only[List.map_cons,nfns,ih,List.sum_cons];rfl
   rw[key];simp
  unfold ze3 nfnF at hR
  rw[hpf]at hR
  refine W.loop zab hp (fun Y:Nat × List Todo × List Flt=>CvI Y.2.1 Y.1/\Y.2.2.length=Y.1/\zgV (psi Y.2.1 Y.1+1) Y.1 Y.2.1 Y.2.2=R) (fun Y=>[(5,.c (.msl 10 2 0 Y.2.2.length)),(3,.c (.ptr 0 0))]) (fun Y=>[.box [.msl 11 1 0 Y.2.1.length,.d (.int .i64 Y.1)],todA Y.2.1,fltA Y.2.2]) (fun Y=>psi Y.2.1 Y.1) (0,p.funs.map todo0,[]) [0,1,2] ⟨hst,rfl,hR⟩ (by simp;exact List.take_of_length_le (by simp)) fun⟨i,l,o⟩ ⟨i1,i2,i3⟩=>?_
  unfold zgv
  simp only at i1 i2 i3
  by_cases hi:i<l.length
  ·have h500:=i1.2.2
   have hw:=wrap_i64 (n:=(i:Int)+1) (by omega) (by omega)
   have htg:=i1.2.1 _ (List.getElem_mem hi)
   obtain⟨D,hD,hwf,hb,hcp,hv⟩:=htg.ex
   have hst2:=i1.step hi hD hwf hb
   have hps:=zrb hi hD hwf
   rw[zg0 csz hi]at h500
   obtain⟨t,ht⟩:∃t,l[i]=t:=⟨_,rfl⟩
   rw[<-hps]at i3
   rw[zgV,List.getElem?_eq_getElem hi]at i3
   simp only at i3
   rw[ht]at htg hD hwf hb hst2 hps i3 h500 hcp hv
   have mc:=zrj t.body t D (D+1) i l htg.S hD hcp (by omega) hv hwf (by omega) (by omega) ⟨hi,ht⟩
   have em:((D+1:Nat):Int)=t.deep+1:=by rw[hD];omega
   rw[em]at mc
   have hwd:=wrap_i64 (n:=t.deep+1) (by omega) (by omega)
   have hTn:t.caps.length<=1000000000:=htg.caps
   generalize convC t t.body (t.deep+1) l=r at*
   simp[hi,ht,hwd]
   refine⟨by decide,by decide,?_⟩
   refine zaa.mk [0,1] mc (by simp) ?_
   simp[zsW,zsX]
   refine⟨by omega,?_⟩
   have hto:List.take o.length (List.map ((fun x=>List.map AC.d x)∘Flt.enc) o)=List.map ((fun x=>List.map AC.d x)∘Flt.enc) o:=List.take_of_length_le (by simp)
   refine Abs.Next.mk (i+1,r.2,o++[⟨t.name,t.caps.length,r.1⟩]) [0,4,6] ⟨hst2,by simp[i2],i3⟩ (by simp only;omega) ?_
   simp[hw,hto]
  ·have hi:i=l.length:=by have:=i1.1;omega
   subst hi
   have e0:psi l l.length=0:=by simp[psi]
   rw[e0,zgV,List.getElem?_eq_none (Nat.le_refl _)]at i3
   simp only at i3
   subst i3
   simp
   refine⟨by decide,?_⟩
   refine fzK.mk [2] ?_
   simp
   exact List.take_of_length_le (by simp)
end Go.Gr
namespace Go.Gr
open Go.Abs Go.Proofs
mutual
def zaM:Coe->Coe->Bool
  |.mk t n s f g,.mk t' n' s' f' g'=>decide (t=t')&&(decide (n=n')&&(decide (s=s')&&(zcH f f'&&zcH g g')))
def zcH:List Coe->List Coe->Bool
  |[],[]=>true
  |a::l,b::k=>zaM a b&&zcH l k
  |_,_=>false
end
def idC:Coe:=.mk [0,0,0,0,0,0] [] [] [] []
theorem zcr:PCall Pg 62 [] (.agg idC.enc):=by
  refine zxW (by simp) fun o c hN hp=>?_
  unfold mc_g10_Id
  simp[idC,Coe.enc,encI,encN,encS,Coe.encs]
def eqFZ{α:Type}(q:α->α->Bool):List α->List α->Bool
  |[],[]=>true
  |a::l,b::k=>q a b&&eqFZ q l k
  |_,_=>false
theorem zlU{α:Type}(q:α->α->Bool):∀{a b:List α},a.length≠b.length->eqFZ q a b=false
  |[],[],h=>by simp at h
  |[],_::_,h=>rfl
  |_::_,[],h=>rfl
  |a::l,b::k,h=>by simp only[eqFZ];rw[zlU q (a:=l) (b:=k) (by simpa using h)];simp
theorem zo4:∀(a b:List Coe),zcH a b=eqFZ zaM a b
  |[],[]=>by simp[zcH,eqFZ]
  |[],_::_=>by simp[zcH,eqFZ]
  |_::_,[]=>by simp[zcH,eqFZ]
  |a::l,b::k=>by simp[zcH,eqFZ,zo4 l k]
theorem zyf(a b:Coe):zaM a b=(decide (a.tags=b.tags)&&(decide (a.needs=b.needs)&&(decide (a.names=b.names)&&(eqFZ zaM a.fields b.fields&&eqFZ zaM a.fn b.fn)))):=by
  cases a;cases b
  simp only[zaM,zo4]
  rfl
end Go.Gr
namespace Go.Gr
open Go.Abs Go.Proofs
theorem zka{α:Type}{a b:List α}{j:Nat}(ha:j<a.length)(hb:j<b.length)(h:a.take j=b.take j)(e:a[j]=b[j]):a.take (j+1)=b.take (j+1):=by
  rw[List.take_succ_eq_append_getElem ha,List.take_succ_eq_append_getElem hb,h,e]
theorem zlV{α:Type}{a b:List α}{j:Nat}(ha:j=a.length)(hb:a.length=b.length)(h:a.take j=b.take j):a=b:=by
  subst ha
  rw[List.take_length,List.take_of_length_le (by omega)]at h
  exact h
theorem zs2{α:Type}(q:α->α->Bool):∀{a b:List α} {j:Nat},a.length<=j->a.length=b.length->eqFZ q (a.drop j) (b.drop j)=true
  |a,b,j,h,e=>by rw[List.drop_of_length_le h,List.drop_of_length_le (by omega)];try rfl
set_option maxRecDepth 20000 in
theorem zwk (a b:Coe) (ih:∀x,x∈a.fields\/x∈a.fn->∀y,PCall Pg 37 [.agg x.enc,.agg y.enc] (.one (.bool (zaM x y)))):PCall Pg 37 [.agg a.enc,.agg b.enc] (.one (.bool (zaM a b))):=by
  have e:=zyf a b
  rw[Coe.enc_eq a,Coe.enc_eq b]
  refine zmY (by simp) fun o c hN hp=>?_
  have hl:a.tags.length<=zah/\a.needs.length<=zah/\a.names.length<=zah/\a.fields.length<=zah/\a.fn.length<=zah:=by
    have:=o.1;simp only[DV.ok,D.okL,D.ok,zg7,zg8,zdQ,List.length_map]at this;exact⟨this.1.1,this.2.1.1,this.2.2.1.1,this.2.2.2.1.1,this.2.2.2.2.1.1⟩
  unfold zah at hl
  obtain⟨l1,l2,l3,l4,l5⟩:=hl
  unfold zha
  simp
  have f1:a.tags.length≠b.tags.length->decide (a.tags=b.tags)=false:=fun h=>decide_eq_false fun e=>h (by rw[e])
  have f2:a.needs.length≠b.needs.length->decide (a.needs=b.needs)=false:=fun h=>decide_eq_false fun e=>h (by rw[e])
  have f3:a.names.length≠b.names.length->decide (a.names=b.names)=false:=fun h=>decide_eq_false fun e=>h (by rw[e])
  have f4:a.fields.length≠b.fields.length->eqFZ zaM a.fields b.fields=false:=zlU _
  have f5:a.fn.length≠b.fn.length->eqFZ zaM a.fn b.fn=false:=zlU _
  refine gd.mk (fun h1=>?_) (fun h1=>?_)
  rotate_left
  · have h1:a.tags.length≠b.tags.length:=by simp at h1;omega
    simp[e,f1 h1]
  have h1:a.tags.length=b.tags.length:=by simp at h1;omega
  refine gd.mk (fun h2=>?_) (fun h2=>?_)
  rotate_left
  · have h2:a.needs.length≠b.needs.length:=by simp at h2;omega
    simp[e,f2 h2]
  have h2:a.needs.length=b.needs.length:=by simp at h2;omega
  refine gd.mk (fun h3=>?_) (fun h3=>?_)
  rotate_left
  · have h3:a.names.length≠b.names.length:=by simp at h3;omega
    simp[e,f3 h3]
  have h3:a.names.length=b.names.length:=by simp at h3;omega
  refine gd.mk (fun h4=>?_) (fun h4=>?_)
  rotate_left
  · have h4:a.fields.length≠b.fields.length:=by simp at h4;omega
    simp[e,f4 h4]
  have h4:a.fields.length=b.fields.length:=by simp at h4;omega
  refine gd.mk (fun h5=>?_) (fun h5=>?_)
  · have h5:a.fn.length≠b.fn.length:=by simp at h5;omega
    simp[e,f5 h5]
  have h5:a.fn.length=b.fn.length:=by simp at h5;omega
  refine W.loopL zab hp lv_g10_Same_0 [5] (fun j:Nat=>j<=a.tags.length/\a.tags.take j=b.tags.take j) (fun j=>[.c (.d (.int .i64 j))]) (fun _=>[]) (fun j=>a.tags.length-j) 0 [] (by simp) (by simp[lv_g10_Same_0]) fun j ⟨g1,g2⟩=>?_
  unfold zfr lv_g10_Same_0
  simp
  refine gd.mk (fun h=>?_) (fun h=>?_)
  · have hj:j<a.tags.length:=by simpa using h
    have hj':j<b.tags.length:=by omega
    simp[List.getElem?_eq_getElem hj,List.getElem?_eq_getElem hj']
    refine⟨by decide,gd.mk (fun h=>?_) (fun h=>?_)⟩
    · simp at h
      have:decide (a.tags=b.tags)=false:=decide_eq_false fun e=>h (List.getElem_of_eq e _)
      rw[e,this];try rfl
    · simp at h
      exact Abs.Next.mk (j+1) [] ⟨by omega,zka hj hj' g2 h⟩ (by omega) (by simp;exact wrap_i64 (by omega) (by omega))
  have hj:j=a.tags.length:=by simp at h;omega
  have d1:=zlV hj h1 g2
  refine W.loopL zab hp zfs [6] (fun j:Nat=>j<=a.needs.length/\a.needs.take j=b.needs.take j) (fun j=>[.c (.d (.int .i64 j))]) (fun _=>[]) (fun j=>a.needs.length-j) 0 [] (by simp) (by simp[zfs]) fun j ⟨g1,g2⟩=>?_
  unfold zft zfs
  simp
  refine gd.mk (fun h=>?_) (fun h=>?_)
  · have hj:j<a.needs.length:=by simpa using h
    have hj':j<b.needs.length:=by omega
    simp[encN,List.getElem?_eq_getElem hj,List.getElem?_eq_getElem hj']
    refine⟨by decide,gd.mk (fun h=>?_) (fun h=>?_)⟩
    · have:decide (a.needs=b.needs)=false:=decide_eq_false fun e=>by
        have:=List.getElem_of_eq e hj
        rw[this]at h
        simp at h
      rw[e,this,Bool.false_and,Bool.and_false]
    · simp at h
      exact Abs.Next.mk (j+1) [] ⟨by omega,zka hj hj' g2 (Prod.ext h.1 h.2)⟩ (by omega) (by simp;exact wrap_i64 (by omega) (by omega))
  have hj:j=a.needs.length:=by simp at h;omega
  have d2:=zlV hj h2 g2
  refine W.loopL zab hp zfu [7] (fun j:Nat=>j<=a.names.length/\a.names.take j=b.names.take j) (fun j=>[.c (.d (.int .i64 j))]) (fun _=>[]) (fun j=>a.names.length-j) 0 [] (by simp) (by simp[zfu]) fun j ⟨g1,g2⟩=>?_
  unfold zfv zfu
  simp
  refine gd.mk (fun h=>?_) (fun h=>?_)
  · have hj:j<a.names.length:=by simpa using h
    have hj':j<b.names.length:=by omega
    simp[List.getElem?_eq_getElem hj,List.getElem?_eq_getElem hj']
    refine⟨by decide,gd.mk (fun h=>?_) (fun h=>?_)⟩
    · simp at h
      have:decide (a.names=b.names)=false:=decide_eq_false fun e=>h (List.getElem_of_eq e _)
      rw[e,this,Bool.false_and,Bool.and_false,Bool.and_false]
    · simp at h
      exact Abs.Next.mk (j+1) [] ⟨by omega,zka hj hj' g2 h⟩ (by omega) (by simp;exact wrap_i64 (by omega) (by omega))
  have hj:j=a.names.length:=by simp at h;omega
  have d3:=zlV hj h3 g2
  have e:zaM a b=(eqFZ zaM a.fields b.fields&&eqFZ zaM a.fn b.fn):=by rw[e,decide_eq_true d1,decide_eq_true d2,decide_eq_true d3];try rfl
  refine W.loopL zab hp zfw [8] (fun j:Nat=>j<=a.fields.length/\eqFZ zaM (a.fields.drop j) (b.fields.drop j)=eqFZ zaM a.fields b.fields) (fun j=>[.c (.d (.int .i64 j))]) (fun _=>[]) (fun j=>a.fields.length-j) 0 [] (by simp) (by simp[zfw]) fun j ⟨g1,g2⟩=>?_
  unfold zfx zfw
  simp
  refine gd.mk (fun h=>?_) (fun h=>?_)
  · have hj:j<a.fields.length:=by simpa using h
    have hj':j<b.fields.length:=by omega
    rw[List.drop_eq_getElem_cons hj,List.drop_eq_getElem_cons hj',eqFZ]at g2
    simp[List.getElem?_eq_getElem hj,List.getElem?_eq_getElem hj']
    refine zac.mk (ih _ (.inl (List.getElem_mem hj)) _) ?_
    simp
    refine⟨by decide,gd.mk (fun h=>?_) (fun h=>?_)⟩
    · simp at h
      rw[h,Bool.false_and]at g2
      rw[e,<-g2];try rfl
    · simp at h
      rw[h,Bool.true_and]at g2
      exact Abs.Next.mk (j+1) [] ⟨by omega,g2⟩ (by omega) (by simp;exact wrap_i64 (by omega) (by omega))
  have hj:j=a.fields.length:=by simp at h;omega
  have e:zaM a b=eqFZ zaM a.fn b.fn:=by rw[e,<-g2,zs2 zaM (by omega) h4];try rfl
  refine W.loopL zab hp zfy [10] (fun j:Nat=>j<=a.fn.length/\eqFZ zaM (a.fn.drop j) (b.fn.drop j)=eqFZ zaM a.fn b.fn) (fun j=>[.c (.d (.int .i64 j))]) (fun _=>[]) (fun j=>a.fn.length-j) 0 [] (by simp) (by simp[zfy]) fun j ⟨g1,g2⟩=>?_
  unfold zfz zfy
  simp
  refine gd.mk (fun h=>?_) (fun h=>?_)
  · have hj:j<a.fn.length:=by simpa using h
    have hj':j<b.fn.length:=by omega
    rw[List.drop_eq_getElem_cons hj,List.drop_eq_getElem_cons hj',eqFZ]at g2
    simp[List.getElem?_eq_getElem hj,List.getElem?_eq_getElem hj']
    refine zac.mk (ih _ (.inr (List.getElem_mem hj)) _) ?_
    simp
    refine⟨by decide,gd.mk (fun h=>?_) (fun h=>?_)⟩
    · simp at h
      rw[h,Bool.false_and]at g2
      rw[e,<-g2]
    · simp at h
      rw[h,Bool.true_and]at g2
      exact Abs.Next.mk (j+1) [] ⟨by omega,g2⟩ (by omega) (by simp;exact wrap_i64 (by omega) (by omega))
  have hj:j=a.fn.length:=by simp at h;omega
  have e:zaM a b=true:=by rw[e,<-g2,zs2 zaM (by omega) h5]
  simp[e]
mutual
theorem zro:∀(a b:Coe),PCall Pg 37 [.agg a.enc,.agg b.enc] (.one (.bool (zaM a b)))
  |.mk t n s f g,b=>zwk _ b fun x hx y=>hx.elim (fun h=>zkb f x h y) (fun h=>zkb g x h y)
theorem zkb:∀(l:List Coe) (x:Coe),x∈l->∀y,PCall Pg 37 [.agg x.enc,.agg y.enc] (.one (.bool (zaM x y)))
  | c::l,x,h,y=>by
    cases List.mem_cons.1 h with
    |inl e=>rw[e];exact zro c y
    |inr e=>exact zkb l x e y
end
theorem zdH(a:Coe):PCall Pg 33 [.agg a.enc] (.one (.bool (zaM a idC))):=by
  refine zt5 (by simp) fun o c hN hp=>?_
  unfold mc_g10_IsId
  simp
  refine zac.mk zcr ?_
  simp
  refine zac.mk (zro a idC) ?_
  simp
  decide
end Go.Gr
namespace Go.Gr
open Go.Abs Go.Proofs
def leS(a b:ByteArray):Bool:=Op.bytesLess a.data.toList b.data.toList||decide (a=b)
def zcs:List ByteArray->Bool
  |a::b::l=> !leS b a&&zcs (b::l)
  |_=>true
theorem zo5:∀{l:List ByteArray} {i:Nat} (h:i+1<l.length),leS l[i+1] l[i]=true->zcs l=false
  | a::b::l,0,h,e=>by
    simp only[List.getElem_cons_succ,List.getElem_cons_zero]at e
    simp[zcs,e]
  | a::b::l,i+1,h,e=>by
    have:=zo5 (l:=b::l) (i:=i) (by simpa using h) (by simpa using e)
    simp[zcs,this]
  |[],_,h,_=>by simp at h
  |[_],_,h,_=>by simp at h
theorem zne:∀{l:List ByteArray},(∀i (h:i+1<l.length),leS l[i+1] l[i]=false)->zcs l=true
  |[],_=>rfl
  |[_],_=>rfl
  | a ::b::l,H=>by
    have h0:=H 0 (by simp)
    simp only[List.getElem_cons_succ,List.getElem_cons_zero]at h0
    have:=zne (l:=b::l) fun i h=>by
      have:=H (i+1) (by simpa using h)
      simpa only[List.getElem_cons_succ]using this
    simp[zcs,h0,this]
def zkc(l:List (ByteArray × Int))(j:Nat):Prop:=∀i (h:i<l.length),i<j->l[i].2≠0/\∀k (hk:k<i),l[k].1≠l[i].1
def zbK:List ByteArray->List (ByteArray × Int)->Bool
  |_,[]=>true
  |seen,x::l=>decide (x.2≠0)&&(!(seen.any fun y=>decide (y=x.1))&&zbK (x.1::seen) l)
theorem zhc:∀(l:List (ByteArray × Int)) (seen:List ByteArray),zbK seen l=true↔(∀i (h:i<l.length),l[i].1∉seen)/\zkc l l.length
  |[],seen=>by simp[zbK,zkc]
  | x ::l,seen=>by
    have hm:(!(seen.any fun y=>decide (y=x.1)))=true↔x.1∉seen:=by
      simp
      exact⟨fun h hx=>h _ hx rfl,fun h y hy e=>h (e▸hy)⟩
    simp only[zbK,Bool.and_eq_true,decide_eq_true_eq]
    rw[zhc l (x.1::seen),hm]
    constructor
    · rintro⟨h1,h2,h3,h4⟩
      refine⟨fun i h=>?_,fun i h hj=>?_⟩
      · cases i with
        |zero=>exact h2
        |succ i=>have:=h3 i (by simpa using h);simp only[List.mem_cons,not_or]at this;exact this.2
      · cases i with
        |zero=>exact⟨h1,fun k hk=>by omega⟩
        | succ i=>
          have h':i<l.length:=by simpa using h
          have:=h4 i h' h'
          refine⟨this.1,fun k hk=>?_⟩
          cases k with
          |zero=>have:=h3 i h';simp only[List.mem_cons,not_or]at this;exact fun e=>this.1 e.symm
          |succ k=>exact this.2 k (by omega)
    · rintro⟨h1,h2⟩
      refine⟨(h2 0 (by simp) (by simp)).1,h1 0 (by simp),fun i h=>?_,fun i h hj=>?_⟩
      · simp only[List.mem_cons,not_or]
        exact⟨fun e=>(h2 (i+1) (by simpa using h) (by simpa using h)).2 0 (by omega) e.symm,h1 (i+1) (by simpa using h)⟩
      · have:=h2 (i+1) (by simpa using h) (by simpa using h)
        exact⟨this.1,fun k hk=>this.2 (k+1) (by omega)⟩
theorem zrp{l:List (ByteArray × Int)}(h:zkc l l.length):zbK [] l=true:=(zhc l []).2 ⟨fun _ _=>by simp,h⟩
theorem zi8{l:List (ByteArray × Int)}(h:¬zkc l l.length):zbK [] l=false:=by
  cases e:zbK [] l with
  |false=>rfl
  |true=>exact absurd ((zhc l []).1 e).2 h
def tagZ(d:Coe)(k:Nat):Int:=d.tags.getD k 0
def ownC(d:Coe):Bool:=
  decide (d.tags.length=6/\d.names.length=d.fields.length/\(d.fn.length=0\/d.fn.length=2))&&
  (decide (¬(tagZ d 4≠0/\0<d.names.length\/tagZ d 5≠0/\0<d.fn.length))&&(zbK [] d.needs&&zcs d.names))
theorem own2{c:Ctx}(hp:c.pure)(d:Coe){i:Nat}(hi:i<d.needs.length)(hl:d.needs.length<=zah){Q:Exit->St->Prop}{S:St}{g}
    (h0:Match [] S [(4,.c (.d (.int .i64 0))),(1,.c (.d (.rp d.enc 0))),(3,.c (.d (.int .i64 i)))] [])
    (hQ:∀T x,(∀k (hk:k<i),d.needs[k].1≠d.needs[i].1)->Abs.look T 1=.c (.d (.rp d.enc 0))->Abs.look T 3=.c (.d (.int .i64 i))->Q (.exit 2) ⟨T,hpOf [],x⟩)
    (hR:∀T x,¬(∀k (hk:k<i),d.needs[k].1≠d.needs[i].1)->Abs.look T 2=.c (.d (.bool false))->Q .ret ⟨T,hpOf [],x⟩):lw_ Pg c lp_g10_own_2 Q g S:=by
  unfold zah at hl
  rw[Coe.enc_eq]at h0 hQ
  refine W.loop zab hp (fun k:Nat=>k<=i/\∀m (hm:m<i),m<k->d.needs[m].1≠d.needs[i].1) (fun k=>[(4,.c (.d (.int .i64 k))),(1,.c (.d (.rp _ 0))),(3,.c (.d (.int .i64 i)))]) (fun _=>[]) (fun k=>i-k) 0 [] (by simp) h0 fun k ⟨g1,g2⟩=>?_
  unfold lp_g10_own_2
  simp
  refine gd.mk (fun h=>?_) (fun h=>?_)
  · have hk:k<i:=by simpa using h
    simp[encN,List.getElem?_eq_getElem hi,List.getElem?_eq_getElem (show k<d.needs.length by omega)]
    refine⟨by decide,gd.mk (fun h=>?_) (fun h=>?_)⟩
    · simp at h
      exact hR _ _ (fun H=>H k hk h) (by simp)
    · simp at h
      refine Abs.Next.mk (k+1) [] ⟨by omega,fun m hm hmk=>?_⟩ (by omega) (by simp;exact wrap_i64 (by omega) (by omega))
      by_cases e:m=k
      · subst e;exact h
      · exact g2 m hm (by omega)
  · have hk:k=i:=by simp at h;omega
    exact hQ _ _ (fun m hm=>g2 m hm (by omega)) (by simp) (by simp)
theorem own0 {c:Ctx} (hp:c.pure) (d:Coe) (hl:d.needs.length<=zah) {Q:Exit->St->Prop} {S:St} {g}
    (h0:Match [] S [(3,.c (.d (.int .i64 0))),(1,.c (.d (.rp d.enc 0)))] [])
    (hQ:∀T x,zbK [] d.needs=true->Abs.look T 1=.c (.d (.rp d.enc 0))->Q (.exit 0) ⟨T,hpOf [],x⟩)
    (hR:∀T x,zbK [] d.needs=false->Abs.look T 2=.c (.d (.bool false))->Q .ret ⟨T,hpOf [],x⟩):lw_ Pg c zgw Q g S:=by
  have hl':=hl
  unfold zah at hl
  refine W.loop zab hp (fun j:Nat=>j<=d.needs.length/\zkc d.needs j) (fun j=>[(3,.c (.d (.int .i64 j))),(1,.c (.d (.rp d.enc 0)))]) (fun _=>[]) (fun j=>d.needs.length-j) 0 [] ⟨by simp,fun i h hj=>by omega⟩ h0 fun j ⟨g1,g2⟩=>?_
  unfold zgw
  have hd1:d.enc[1]?=some (.sl false 2 (encN d.needs)):=by rw[Coe.enc_eq];try rfl
  simp[hd1]
  refine gd.mk (fun h=>?_) (fun h=>?_)
  · have hj:j<d.needs.length:=by simpa using h
    simp[encN,List.getElem?_eq_getElem hj]
    refine gd.mk (fun h=>?_) (fun h=>?_)
    · simp at h
      exact hR _ _ (zi8 fun H=>(H j hj hj).1 h) (by simp)
    · simp at h
      refine own2 hp d hj hl' (by simp) (fun T x H e1 e3=>?_) (fun T x H e2=>?_)
      · simp
        simp[e3]
        refine Abs.Next.mk (j+1) [] ⟨by omega,fun i hi hij=>?_⟩ (by omega) (by simp[e1];exact wrap_i64 (by omega) (by omega))
        by_cases e:i=j
        · subst e;exact⟨h,H⟩
        · exact g2 i hi (by omega)
      · exact hR _ _ (zi8 fun H'=>H (H' j hj hj).2) e2
  · have hj:j=d.needs.length:=by simp at h;omega
    subst hj
    exact hQ _ _ (zrp g2) (by simp)
theorem own4{c:Ctx}(hp:c.pure)(d:Coe)(hl:d.names.length<=zah){Q:Exit->St->Prop}{S:St}{g}
    (h0:Match [] S [(5,.c (.d (.int .i64 1))),(1,.c (.d (.rp d.enc 0)))] [])
    (hQ:∀T x,zcs d.names=true->Q (.exit 4) ⟨T,hpOf [],x⟩)
    (hR:∀T x,zcs d.names=false->Abs.look T 2=.c (.d (.bool false))->Q .ret ⟨T,hpOf [],x⟩):lw_ Pg c zgx Q g S:=by
  unfold zah at hl
  refine W.loop zab hp (fun j:Nat=>1<=j/\(j<=d.names.length\/j=1)/\∀i (h:i+1<d.names.length),i+1<j->leS d.names[i+1] d.names[i]=false) (fun j=>[(5,.c (.d (.int .i64 j))),(1,.c (.d (.rp d.enc 0)))]) (fun _=>[]) (fun j=>d.names.length-j) 1 [] ⟨by simp,by simp,fun i h hj=>by omega⟩ h0 fun j ⟨g0,g1,g2⟩=>?_
  unfold zgx
  have hd1:d.enc[2]?=some (.sl false 1 (encS d.names)):=by rw[Coe.enc_eq];try rfl
  simp[hd1]
  refine gd.mk (fun h=>?_) (fun h=>?_)
  · have hj:j<d.names.length:=by simpa using h
    obtain⟨j,rfl⟩:∃k,j=k+1:=⟨j-1,by omega⟩
    have hw:IntKind.i64.wrap (j:Int)=j:=wrap_i64 (by omega) (by omega)
    simp[List.getElem?_eq_getElem hj,hw,List.getElem?_eq_getElem (show j<d.names.length by omega)]
    refine⟨by decide,gd.mk (fun h=>?_) (fun h=>?_)⟩
    · exact hR _ _ (zo5 hj (by unfold leS;exact h)) (by simp)
    · refine Abs.Next.mk (j+2) [] ⟨by omega,by omega,fun i hi hij=>?_⟩ (by omega) (by simp;rw[wrap_i64 (by omega) (by omega)];omega)
      by_cases e:i=j
      · subst e;unfold leS;exact h
      · exact g2 i hi (by omega)
  · have hj:d.names.length<=j:=by simp at h;omega
    exact hQ _ _ (zne fun i hi=>g2 i hi (by omega))
set_option maxRecDepth 20000 in
theorem zz9 (d : Coe):PCall Pg 95 [.agg d.enc] (.one (.bool (ownC d))):=by
  refine zv3 (by simp) fun o c hN hp=>?_
  have hl:d.needs.length<=zah/\d.names.length<=zah:=by
    have:=o.1;rw[Coe.enc_eq]at this;simp only[DV.ok,D.okL,D.ok,zg7,zg8,zdQ,List.length_map]at this;exact⟨this.2.1.1,this.2.2.1.1⟩
  unfold zm0
  have e0:d.enc[0]?=some (.sl false 1 (encI d.tags)):=by rw[Coe.enc_eq];try rfl
  have e2:d.enc[2]?=some (.sl false 1 (encS d.names)):=by rw[Coe.enc_eq];try rfl
  have e3:d.enc[3]?=some (.sl false 5 (d.fields.map Coe.enc)):=by rw[Coe.enc_eq];try rfl
  have e4:d.enc[4]?=some (.sl false 5 (d.fn.map Coe.enc)):=by rw[Coe.enc_eq];try rfl
  by_cases k1:d.tags.length=6
  rotate_left
  · simp[e0,show¬((d.tags.length:Int)=6) by omega,ownC,k1]
  by_cases k2:d.names.length=d.fields.length
  rotate_left
  · simp[e0,e2,e3,k1,show¬((d.names.length:Int)=(d.fields.length:Int)) by omega,ownC,k2]
  have k2i:((d.names.length:Int)=(d.fields.length:Int))=True:=eq_true (by omega)
  have k1i:(d.tags.length:Int)=6:=by omega
  have ht4:d.tags[4]?=some (tagZ d 4):=by unfold tagZ;rw[List.getD,List.getElem?_eq_getElem (by omega)];try rfl
  have ht5:d.tags[5]?=some (tagZ d 5):=by unfold tagZ;rw[List.getD,List.getElem?_eq_getElem (by omega)];try rfl
  have fin:(d.fn.length=0\/d.fn.length=2)->¬(tagZ d 4≠0/\0<d.names.length\/tagZ d 5≠0/\0<d.fn.length)->ownC d=(zbK [] d.needs&&zcs d.names):=fun h h'=>by
    unfold ownC;rw[decide_eq_true ⟨k1,k2,h⟩,decide_eq_true h'];simp
  have fon:¬(d.fn.length=0\/d.fn.length=2)\/(tagZ d 4≠0/\0<d.names.length\/tagZ d 5≠0/\0<d.fn.length)->ownC d=false:=fun h=>by
    unfold ownC
    rcases h with h|h
    · rw[decide_eq_false (fun x=>h x.2.2)];try rfl
    · rw[decide_eq_false (p:=¬_) (fun x=>x h)];simp
  have kn:d.names.length=0\/0<d.names.length:=by omega
  have kf:d.fn.length=0\/d.fn.length=2\/¬(d.fn.length=0\/d.fn.length=2):=by omega
  rcases kf with k3|k3|k3
  rotate_right
  · have a1:¬(d.fn.length:Int)=0:=by omega
    have a2:¬(d.fn.length:Int)=2:=by omega
    have a3:d.fn≠[]:=fun e=>a1 (by rw[e];rfl)
    simp[e0,e2,e3,e4,k1i,k2i,a2,a3,fon (.inl k3)]
  all_goals
    have k3':(d.fn.length:Int)=(d.fn.length:Int):=rfl
    rw[k3]at k3'
    by_cases k4:tagZ d 4=0
    rotate_left
    · rcases kn with kn|kn
      rotate_left
      · simp[e0,e2,e3,e4,k1i,k2i,k3,ht4,ht5,k4,kn,show(0:Int)<d.names.length by omega,fon (.inr (.inl ⟨k4,kn⟩))]
      · by_cases k5:tagZ d 5=0
        all_goals
          first
            | (have hf:=fin (by omega) (by omega)
               simp[e0,e2,e3,e4,k1i,k2i,k3,ht4,ht5,k4,kn,k5,show((0:Int)=d.fields.length)=True from eq_true (by omega)]
               refine own0 hp d hl.1 (by simp) (fun T x H e1=>?_) (fun T x H e2=>?_)
               · simp
                 refine own4 hp d hl.2 (by simp[e1]) (fun T x H'=>?_) (fun T x H' e2=>?_)
                 · simp[hf,H,H']
                 · simp[e2,hf,H,H']
               · simp[e2,hf,H])
            | (have hf:=fon (.inr (.inr ⟨k5,by omega⟩))
               simp[e0,e2,e3,e4,k1i,k2i,k3,ht4,ht5,k4,kn,k5,show((0:Int)=d.fields.length)=True from eq_true (by omega),hf])
    · by_cases k5:tagZ d 5=0
      all_goals
        first
          | (have hf:=fin (by omega) (by omega)
             simp[e0,e2,e3,e4,k1i,k2i,k3,ht4,ht5,k4,k5]
             refine own0 hp d hl.1 (by simp) (fun T x H e1=>?_) (fun T x H e2=>?_)
             · simp
               refine own4 hp d hl.2 (by simp[e1]) (fun T x H'=>?_) (fun T x H' e2=>?_)
               · simp[hf,H,H']
               · simp[e2,hf,H,H']
             · simp[e2,hf,H])
          | (have hf:=fon (.inr (.inr ⟨k5,by omega⟩))
             simp[e0,e2,e3,e4,k1i,k2i,k3,ht4,ht5,k4,k5,hf])
end Go.Gr
namespace Go.Gr
open Go.Abs Go.Proofs
mutual
def mayC:Coe->Bool
  |.mk t n s f g=>ownC (.mk t n s f g)&&(znf f&&zkK g)
def znf:List Coe->Bool
  |[]=>true
  |c::l=>(mayC c&& !zaM c idC)&&znf l
def zkK:List Coe->Bool
  |a::b::_=>mayC a&&(mayC b&& !(zaM a idC&&zaM b idC))
  |_=>true
end
theorem zo6:∀l:List Coe,znf l=l.all fun c=>mayC c&& !zaM c idC
  |[]=>by simp[znf]
  |c::l=>by simp[znf,zo6 l]
theorem zs3(d:Coe):mayC d=(ownC d&&((d.fields.all fun c=>mayC c&& !zaM c idC)&&zkK d.fn)):=by
  cases d;simp only[mayC,zo6,Coe.fields,Coe.fn]
theorem zyg (d:Coe) (ih:∀x,x∈d.fields\/x∈d.fn->PCall Pg 60 [.agg x.enc] (.one (.bool (mayC x)))):PCall Pg 60 [.agg d.enc] (.one (.bool (mayC d))):=by
  have e:=zs3 d
  refine zv2 (by simp) fun o c hN hp=>?_
  have hl:d.fields.length<=zah:=by
    have:=o.1;rw[Coe.enc_eq]at this;simp only[DV.ok,D.okL,D.ok,zg7,zg8,zdQ,List.length_map]at this;exact this.2.2.2.1.1
  unfold zah at hl
  have e3:d.enc[3]?=some (.sl false 5 (d.fields.map Coe.enc)):=by rw[Coe.enc_eq];try rfl
  have e4:d.enc[4]?=some (.sl false 5 (d.fn.map Coe.enc)):=by rw[Coe.enc_eq];try rfl
  have e5:∀x:Coe,x.enc.length=5:=fun x=>by rw[Coe.enc_eq];try rfl
  unfold zmZ
  simp[e5]
  refine zac.mk (zz9 d) ?_
  simp
  refine gd.mk (fun h=>?_) (fun h=>?_)
  · simp at h
    rw[e,h];try rfl
  · simp at h
    rw[h,Bool.true_and]at e
    refine W.loopL zab hp lv_g10_May_0 [4] (fun j:Nat=>j<=d.fields.length/\((d.fields.drop j).all fun c=>mayC c&& !zaM c idC)=d.fields.all fun c=>mayC c&& !zaM c idC) (fun j=>[.c (.d (.int .i64 j))]) (fun _=>[]) (fun j=>d.fields.length-j) 0 [] (by simp) (by simp[lv_g10_May_0]) fun j ⟨g1,g2⟩=>?_
    unfold zjY lv_g10_May_0
    simp[e3,e5]
    refine gd.mk (fun h=>?_) (fun h=>?_)
    · have hj:j<d.fields.length:=by simpa using h
      rw[List.drop_eq_getElem_cons hj,List.all_cons]at g2
      simp[List.getElem?_eq_getElem hj,e5]
      refine zac.mk (ih _ (.inl (List.getElem_mem hj))) ?_
      simp[e3,List.getElem?_eq_getElem hj,e5]
      refine zac.mk (zdH _) ?_
      simp
      refine gd.mk (fun h1=>?_) (fun h1=>?_)
      · simp at h1
        rw[h1]at g2
        refine gd.mk (fun h2=>?_) (fun h2=>?_)
        · rw[h2]at g2
          rw[e,<-g2];try rfl
        · simp at h2
          rw[h2]at g2
          exact Abs.Next.mk (j+1) [] ⟨by omega,by simpa using g2⟩ (by omega) (by simp;exact wrap_i64 (by omega) (by omega))
      · simp at h1
        rw[h1]at g2
        rw[e,<-g2];try rfl
    · have hj:j=d.fields.length:=by simp at h;omega
      have:(d.fields.all fun c=>mayC c&& !zaM c idC)=true:=by rw[<-g2,hj,List.drop_length];try rfl
      rw[this,Bool.true_and]at e
      refine gd.mk (fun h=>?_) (fun h=>?_)
      · have h0:d.fn=[]:=by simpa using h
        simp[e,h0,zkK]
      · have h0:d.fn≠[]:=by simpa using h
        have h2:d.fn.length=2:=by
          have hown:=‹ownC d=true›
          simp only[ownC,Bool.and_eq_true,decide_eq_true_eq]at hown
          have:=hown.1.2.2
          have:d.fn.length≠0:=fun e=>h0 (List.length_eq_zero_iff.1 e)
          omega
        obtain⟨x,y,hxy⟩:∃x y,d.fn=[x,y]:=by
          match d.fn,h2 with
          |[x,y],_=>exact⟨x,y,rfl⟩
        rw[hxy]at e4
        have hx:=ih x (.inr (by rw[hxy];simp))
        have hy:=ih y (.inr (by rw[hxy];simp))
        rw[hxy,zkK]at e
        rw[hxy]
        simp[hxy]
        refine zac.mk hx ?_
        simp[hxy]
        refine zac.mk hy ?_
        simp[hxy]
        refine zac.mk (zdH _) ?_
        simp[hxy]
        refine zac.mk (zdH _) ?_
        simp
        cases m1:mayC x<;>cases m2:mayC y<;>cases m3:zaM x idC<;>cases m4:zaM y idC<;>simp[e,m1,m2,m3,m4]
mutual
theorem znS:∀(a:Coe),PCall Pg 60 [.agg a.enc] (.one (.bool (mayC a)))
  |.mk t n s f g=>zyg _ fun x hx=>hx.elim (fun h=>zlW f x h) (fun h=>zlW g x h)
theorem zlW:∀(l:List Coe) (x:Coe),x∈l->PCall Pg 60 [.agg x.enc] (.one (.bool (mayC x)))
  | c::l,x,h=>by
    cases List.mem_cons.1 h with
    |inl e=>rw[e];exact znS c
    |inr e=>exact zlW l x e
end
end Go.Gr
namespace Go.Gr
open Go.Abs Go.Proofs
end Go.Gr
namespace Go.Gr
open Go.Abs Go.Proofs
@[simp] theorem Coe.er_map(d:Coe):d.enc.map D.er=d.enc:=by rw[Coe.enc_eq];try rfl
def six0:List Int:=[0,0,0,0,0,0]
theorem zvG{ts:List (Nat × Nat)}{b c:Blk}(h:ts.length=[b,c].length):∃t u,ts=[t,u]:=by
 match ts,h with
 |[t,u],_=>exact⟨t,u,rfl⟩
theorem rIdM:MCall Pg 62 [] [] (.ag [.msl 1 0 0 6,.d (.sl true 2 []),.d (.sl true 1 []),.d (.sl true 5 []),.d (.sl true 5 [])]) [.arr 1 ((encI six0).map (·.map .d))]:=by
 refine wm_g10_Id ⟨by simp,by simp,by simp,by simp,by simp,by simp[encI,six0,live],by simp[encI,six0]⟩ fun ts hts ok hb c hN hp=>?_
 obtain rfl:=noTs hts
 unfold mc_g10_Id
 simp
 exact EndM.mk [1] [] (by simp[encI,six0])
def zdT(a b:List (ByteArray × Int)):List (ByteArray × Int):=a++b.filter fun n=> !a.any fun m=>decide (m.1=n.1)
def pairC(c:Coe):Coe × Coe:=match c.fn with
 |f::g::_=>(f,g)
 |_=>(idC,idC)
def funCZ(f g:Coe):List Coe:=if(zaM f idC&&zaM g idC)=true then []else [f,g]
end Go.Gr
namespace Go.Gr
open Go.Abs Go.Proofs Go.RowKit
end Go.Gr
namespace Go.Gr
open Go.Abs Go.Proofs
def noCZ:Coe:=.mk [] [] [] [] []
theorem zoN{l:List ByteArray}{k:ByteArray}:k∈zeW l↔k∈l:=by
 unfold zeW
 simp only[List.mem_map,List.mem_mergeSort]
 constructor
 ·rintro⟨x,⟨s,hs,rfl⟩,rfl⟩
  simpa using hs
 ·intro h
  exact⟨_,⟨k,h,rfl⟩,by simp⟩
end Go.Gr
namespace Go.Gr
open Go.Abs
def ltB(a b:ByteArray):Prop:=a.data.toList<b.data.toList
instance ltBDec (a b:ByteArray):Decidable (ltB a b):=inferInstanceAs (Decidable (a.data.toList<b.data.toList))
theorem ziz:∀(x y:List UInt8),Op.bytesLess x y=decide (x<y)
 |[],[]=>by simp[Op.bytesLess]
 |_::_,[]=>by simp[Op.bytesLess]
 |[],_::_=>by simp[Op.bytesLess]
 | a::x,b::y=>by
  rw[Op.bytesLess,ziz x y]
  by_cases h1:a<b
  ·simp[h1,List.cons_lt_cons_iff]
  ·by_cases h2:b<a
   ·have:¬a=b:=fun e=>by rw[e]at h2;exact UInt8.lt_irrefl _ h2
    simp[h1,h2,this,List.cons_lt_cons_iff]
   ·have:a=b:=UInt8.le_antisymm (UInt8.not_lt.1 h2) (UInt8.not_lt.1 h1)
    simp[this,List.cons_lt_cons_iff,UInt8.lt_irrefl]
theorem zcN(a:ByteArray):¬ltB a a:=List.lt_irrefl _
theorem zck{a b c:ByteArray}(h:ltB a b)(k:ltB b c):ltB a c:=List.lt_trans h k
theorem zgW{a b:ByteArray}(h:a≠b):ltB a b\/ltB b a:=by
 by_cases h1:ltB a b
 ·exact .inl h1
 ·by_cases h2:ltB b a
  ·exact .inr h2
  ·have:a.data.toList=b.data.toList:=List.le_antisymm h2 h1
   exact absurd (Go.WideShapes.bytes_inj this) h
theorem zzZ(a b:ByteArray):(!leS b a)=decide (ltB a b):=by
 unfold leS ltB
 rw[ziz]
 by_cases h:a=b
 ·subst h;simp[List.lt_irrefl]
 ·have h':¬b=a:=fun e=>h e.symm
  rcases zgW h with q|q
  ·have:¬ltB b a:=fun e=>zcN _ (zck q e)
   unfold ltB at q this
   simp[h',q,this]
  ·have:¬ltB a b:=fun e=>zcN _ (zck q e)
   unfold ltB at q this
   simp[h',q,this]
theorem zmR:∀{l:List ByteArray},zcs l=true↔l.Pairwise ltB
 |[]=>by simp[zcs]
 |[a]=>by simp[zcs]
 | a::b::l=>by
  rw[zcs,zzZ,Bool.and_eq_true,decide_eq_true_eq,zmR (l:=b::l)]
  constructor
  ·rintro⟨h1,h2⟩
   refine List.Pairwise.cons (fun c hc=>?_) h2
   cases List.mem_cons.1 hc with
   |inl e=>rw[e];exact h1
   |inr e=>exact zck h1 (List.rel_of_pairwise_cons h2 e)
  ·intro h
   exact⟨List.rel_of_pairwise_cons h (by simp),h.of_cons⟩
theorem zei{l:List ByteArray}(h:l.Pairwise ltB):l.Nodup:=h.imp fun h e=>by rw[e]at h;exact zcN _ h
theorem zvI{l k:List ByteArray}(h1:l.Pairwise ltB)(h2:k.Pairwise ltB)(h:∀x,x∈l↔x∈k):l=k:=
 List.Perm.eq_of_pairwise (le:=ltB) (fun a b _ _ p q=>absurd (zck p q) (zcN _)) h1 h2 ((List.perm_ext_iff_of_nodup (zei h1) (zei h2)).2 h)
theorem zk8{l:List ByteArray}(hn:l.Nodup):(zeW l).Pairwise ltB:=by
 have tr:∀a b c:List UInt8,decide (a<=b)=true->decide (b<=c)=true->decide (a<=c)=true:=fun a b c h1 h2=>by simp only[decide_eq_true_eq]at*;exact List.le_trans h1 h2
 have to:∀a b:List UInt8,(decide (a<=b)||decide (b<=a))=true:=fun a b=>by simp only[Bool.or_eq_true,decide_eq_true_eq];exact List.le_total a b
 have h1:=List.pairwise_mergeSort tr to (l.map fun s=>s.data.toList)
 have h2:((l.map fun s=>s.data.toList).mergeSort fun x y=>decide (x<=y)).Nodup:=by
  refine(List.mergeSort_perm _ _).nodup_iff.2 ?_
  refine List.pairwise_map.2 (hn.imp fun h e=>h (Go.WideShapes.bytes_inj e))
 unfold zeW
 rw[List.pairwise_map]
 refine(h1.and h2).imp fun {a b} ⟨p,q⟩=>?_
 simp only[decide_eq_true_eq]at p
 unfold ltB
 simp only
 rcases zgW (a:=⟨a.toArray⟩) (b:=⟨b.toArray⟩) (fun e=>q (by simpa using congrArg (fun x:ByteArray=>x.data.toList) e))with r|r
 ·exact r
 ·exact absurd r p
mutual
theorem zfh:∀(a b:Coe),zaM a b=true↔a=b
 |.mk t n s f g,.mk t' n' s' f' g'=>by
  simp only[zaM,Bool.and_eq_true,decide_eq_true_eq,Coe.mk.injEq]
  rw[ziA f f',ziA g g']
theorem ziA:∀(a b:List Coe),zcH a b=true↔a=b
 |[],[]=>by simp[zcH]
 |[],_::_=>by simp[zcH]
 |_::_,[]=>by simp[zcH]
 |a::l,b::k=>by
  simp only[zcH,Bool.and_eq_true,List.cons.injEq]
  rw[zfh a b,ziA l k]
end
theorem zgn{a b:Coe}:zaM a b=false↔a≠b:=by
 rw[<-Bool.not_eq_true,zfh]
theorem sameC_rfl(a:Coe):zaM a a=true:=(zfh a a).2 rfl
theorem ztZ(l:List (ByteArray × Int)):zbK [] l=true↔(∀x,x∈l->x.2≠0)/\(l.map (·.1)).Nodup:=by
 have key:∀(l:List (ByteArray × Int)) (seen:List ByteArray),zbK seen l=true↔(∀x,x∈l->x.2≠0/\x.1∉seen)/\(l.map (·.1)).Nodup:=by
  intro l
  induction l with
  |nil=>intro seen;simp[zbK]
  | cons x l ih=>
   intro seen
   have hm:(!(seen.any fun y=>decide (y=x.1)))=true↔x.1∉seen:=by
    simp
    exact⟨fun h hx=>h _ hx rfl,fun h y hy e=>h (e▸hy)⟩
   simp only[zbK,Bool.and_eq_true,decide_eq_true_eq]
   rw[ih,hm]
   simp only[List.map_cons,List.nodup_cons,List.mem_cons,not_or]
   constructor
   ·rintro⟨h1,h2,h3,h4⟩
    refine⟨fun y hy=>?_,fun h=>?_,h4⟩
    ·rcases hy with rfl|hy
     ·exact⟨h1,h2⟩
     ·exact⟨(h3 y hy).1,(h3 y hy).2.2⟩
    ·obtain⟨y,hy,e⟩:=List.mem_map.1 h
     exact(h3 y hy).2.1 e
   ·rintro⟨h1,h2,h3⟩
    refine⟨(h1 x (.inl rfl)).1,(h1 x (.inl rfl)).2,fun y hy=>⟨(h1 y (.inr hy)).1,fun e=>h2 ?_,(h1 y (.inr hy)).2⟩,h3⟩
    exact List.mem_map.2 ⟨y,hy,e⟩
 rw[key]
 simp
structure May (d:Coe):Prop where
 tags:d.tags.length=6
 len:d.names.length=d.fields.length
 fn:d.fn=[]\/∃f g,d.fn=[f,g]/\mayC f=true/\mayC g=true/\¬(f=idC/\g=idC)
 t4:tagZ d 4≠0->d.names=[]
 t5:tagZ d 5≠0->d.fn=[]
 needs:(∀x,x∈d.needs->x.2≠0)/\(d.needs.map (·.1)).Nodup
 names:d.names.Pairwise ltB
 fields:∀x,x∈d.fields->mayC x=true/\x≠idC
theorem zbw(d:Coe):mayC d=true↔May d:=by
 rw[zs3]
 unfold ownC
 simp only[Bool.and_eq_true,decide_eq_true_eq]
 rw[ztZ,zmR,List.all_eq_true]
 constructor
 ·rintro⟨⟨⟨h1,h2,h3⟩,h4,h5,h6⟩,h7,h8⟩
  refine⟨h1,h2,?_,fun h=>?_,fun h=>?_,h5,h6,fun x hx=>?_⟩
  ·rcases h3 with h3|h3
   ·exact .inl (List.length_eq_zero_iff.1 h3)
   ·obtain⟨x,y,hxy⟩:∃x y,d.fn=[x,y]:=by
     match d.fn,h3 with
     |[x,y],_=>exact⟨x,y,rfl⟩
    rw[hxy,zkK]at h8
    simp only[Bool.and_eq_true,Bool.not_eq_true',Bool.and_eq_false_iff,zgn]at h8
    exact .inr ⟨x,y,hxy,h8.1,h8.2.1,fun⟨e1,e2⟩=>h8.2.2.elim (fun q=>q e1) (fun q=>q e2)⟩
  ·refine List.length_eq_zero_iff.1 ?_
   omega
  ·refine List.length_eq_zero_iff.1 ?_
   omega
  ·have:=h7 x hx
   simp only[Bool.and_eq_true,Bool.not_eq_true',zgn]at this
   exact this
 ·rintro⟨h1,h2,h3,h4,h5,h6,h7,h8⟩
  refine⟨⟨⟨h1,h2,?_⟩,?_,h6,h7⟩,fun x hx=>?_,?_⟩
  ·rcases h3 with h3|⟨f,g,h3,_⟩<;>rw[h3]<;>simp
  ·rintro(⟨q,r⟩|⟨q,r⟩)
   ·rw[h4 q]at r;simp at r
   ·rw[h5 q]at r;simp at r
  ·simp only[Bool.and_eq_true,Bool.not_eq_true',zgn]
   exact h8 x hx
  ·rcases h3 with h3|⟨f,g,h3,q1,q2,q3⟩
   ·rw[h3];try rfl
   ·rw[h3,zkK]
    simp only[Bool.and_eq_true,Bool.not_eq_true',Bool.and_eq_false_iff,zgn]
    refine⟨q1,q2,?_⟩
    by_cases e:f=idC
    ·exact .inr fun e'=>q3 ⟨e,e'⟩
    ·exact .inl e
end Go.Gr
namespace Go.Gr
open Go.Abs
instance memBDec (k:ByteArray) (l:List ByteArray):Decidable (k∈l):=decidable_of_iff (l.any (fun x=>decide (x=k))=true) (by simp)
def atN:List ByteArray->List Coe->ByteArray->Coe
 |n::ns,f::fs,k=>if k=n then f else atN ns fs k
 |_,_,_=>idC
def za7(c:Coe)(k:ByteArray):Coe:=atN c.names c.fields k
theorem zkw:∀{ns:List ByteArray} {fs:List Coe} {k:ByteArray},k∉ns->atN ns fs k=idC
 |[],fs,k,h=>by simp[atN]
 |n::ns,[],k,h=>by simp[atN]
 |n::ns,f::fs,k,h=>by
  simp only[List.mem_cons,not_or]at h
  rw[atN,if_neg h.1,zkw h.2]
theorem zkx:∀{ns:List ByteArray} {fs:List Coe} {k:ByteArray},ns.length=fs.length->k∈ns->atN ns fs k∈fs
 | n::ns,f::fs,k,e,h=>by
  rw[atN]
  split
  ·simp
  ·rename_i q
   have:=zkx (ns:=ns) (fs:=fs) (k:=k) (by simpa using e) ((List.mem_cons.1 h).resolve_left q)
   simp[this]
 |_::_,[],_,e,_=>by simp at e
theorem zgo:mayC idC=true:=by decide
theorem May.idC:May idC:=(zbw _).1 zgo
theorem May.field{c:Coe}(h:May c)(k:ByteArray):mayC (za7 c k)=true:=by
 unfold za7
 by_cases q:k∈c.names
 ·exact(h.fields _ (zkx h.len q)).1
 ·rw[zkw q];exact zgo
theorem May.pair{c:Coe}(h:May c):mayC (pairC c).1=true/\mayC (pairC c).2=true:=by
 unfold pairC
 rcases h.fn with e|⟨f,g,e,h1,h2,_⟩<;>rw[e]
 ·exact⟨zgo,zgo⟩
 ·exact⟨h1,h2⟩
def zbc(a b:List Int):List Int:=List.zipWith (fun x y=>if x=0 then y else x) a b
def zcO(a b:Coe):List (ByteArray × Int):=if tagZ a 4=0 then zdT a.needs b.needs else a.needs
def zd0(a b:Coe):List ByteArray:=zeW (a.names++b.names.filter fun k=> !decide (k∈a.names))
def busy(l:List (ByteArray × Coe)):List (ByteArray × Coe):=l.filter fun x=> !zaM x.2 idC
def fsC(v:Coe->Coe->Coe)(a b:Coe):List (ByteArray × Coe):=busy ((zd0 a b).map fun k=>(k,v (za7 a k) (za7 b k)))
def nodeC(v:Coe->Coe->Coe)(a b:Coe):Coe:=
 .mk (zbc a.tags b.tags) (zcO a b) (if(zbc a.tags b.tags).getD 4 0=0 then(fsC v a b).map (·.1)else []) (if(zbc a.tags b.tags).getD 4 0=0 then(fsC v a b).map (·.2)else [])
  (if(zbc a.tags b.tags).getD 5 0=0 then funCZ (v (pairC b).1 (pairC a).1) (v (pairC a).2 (pairC b).2)else [])
def compN:Nat->Coe->Coe->Coe
 |0,_,_=>idC
 |n+1,a,b=>nodeC (compN n) a b
theorem zjO{a b:List Int}(ha:a.length=6)(hb:b.length=6):(zbc a b).length=6:=by simp[zbc,ha,hb]
theorem zvJ{a b:Coe}{k:ByteArray}:k∈zd0 a b↔k∈a.names\/k∈b.names:=by
 unfold zd0
 rw[zoN]
 simp only[List.mem_append,List.mem_filter,Bool.not_eq_true',decide_eq_false_iff_not]
 by_cases h:k∈a.names<;>simp[h]
theorem zrS{a b:Coe}(ha:a.names.Nodup)(hb:b.names.Nodup):(a.names++b.names.filter fun k=> !decide (k∈a.names)).Nodup:=by
 refine List.nodup_append.2 ⟨ha,hb.filter _,fun x hx y hy e=>?_⟩
 simp only[List.mem_filter,Bool.not_eq_true',decide_eq_false_iff_not]at hy
 exact hy.2 (e▸hx)
theorem zrT{a b:Coe}(ha:May a)(hb:May b):(zd0 a b).Pairwise ltB:=zk8 (zrS (zei ha.names) (zei hb.names))
section
variable {v:Coe->Coe->Coe} {a b:Coe}
theorem zrU{a b:List (ByteArray × Int)}(ha:(a.map (·.1)).Nodup)(hb:(b.map (·.1)).Nodup):((zdT a b).map (·.1)).Nodup:=by
 unfold zdT
 rw[List.map_append]
 refine List.nodup_append.2 ⟨ha,?_,fun x hx y hy e=>?_⟩
 ·exact List.Sublist.nodup (List.filter_sublist.map _) hb
 ·obtain⟨z,hz,rfl⟩:=List.mem_map.1 hy
  simp only[List.mem_filter,Bool.not_eq_true',List.any_eq_false,decide_eq_true_eq]at hz
  obtain⟨u,hu,rfl⟩:=List.mem_map.1 hx
  exact hz.2 u hu e
theorem zxM(ha:May a)(hb:May b)(hv:∀x y,mayC x=true->mayC y=true->mayC (v x y)=true):May (nodeC v a b) where
 tags:=zjO ha.tags hb.tags
 len:=by
  unfold nodeC;simp only[Coe.names,Coe.fields]
  split<;>simp
 fn :=by
  unfold nodeC;simp only[Coe.fn]
  split
  ·unfold funCZ
   split
   ·exact .inl rfl
   ·rename_i q
    simp only[Bool.and_eq_true,zfh]at q
    exact .inr ⟨_,_,rfl,hv _ _ hb.pair.1 ha.pair.1,hv _ _ ha.pair.2 hb.pair.2,q⟩
  ·exact .inl rfl
 t4:=fun h=>by
  have ht:tagZ (nodeC v a b) 4=(zbc a.tags b.tags).getD 4 0:=rfl
  rw[ht]at h
  unfold nodeC;simp only[Coe.names,h,if_false]
 t5:=fun h=>by
  have ht:tagZ (nodeC v a b) 5=(zbc a.tags b.tags).getD 5 0:=rfl
  rw[ht]at h
  unfold nodeC;simp only[Coe.fn,h,if_false]
 needs:=by
  show(∀x,x∈zcO a b->x.2≠0)/\((zcO a b).map (·.1)).Nodup
  unfold zcO
  split
  ·refine⟨fun x hx=>?_,zrU ha.needs.2 hb.needs.2⟩
   unfold zdT at hx
   simp only[List.mem_append,List.mem_filter]at hx
   exact hx.elim (ha.needs.1 x) (fun h=>hb.needs.1 x h.1)
  ·exact ha.needs
 names:=by
  unfold nodeC;simp only[Coe.names]
  split
  ·unfold fsC busy
   refine List.Pairwise.sublist (List.filter_sublist.map _) ?_
   rw[List.map_map]
   have:((fun x:ByteArray × Coe=>x.1)∘fun k=>(k,v (za7 a k) (za7 b k)))=id:=rfl
   rw[this,List.map_id]
   exact zrT ha hb
  ·exact List.Pairwise.nil
 fields:=by
  unfold nodeC;simp only[Coe.fields]
  split
  ·intro x hx
   unfold fsC busy at hx
   simp only[List.mem_map,List.mem_filter,Bool.not_eq_true',zgn]at hx
   obtain⟨y,⟨⟨k,_,rfl⟩,h2⟩,rfl⟩:=hx
   exact⟨hv _ _ (ha.field k) (hb.field k),h2⟩
  ·intro x hx;cases hx
end
end Go.Gr
namespace Go.Gr
open Go.Abs
def inN:Nat->Coe->Prop
 |0,c=>c=idC
 |n+1,c=>(∀x,x∈c.fields->inN n x)/\∀x,x∈c.fn->inN n x
theorem zmS:∀n,inN n idC
 |0=>rfl
 |n+1=>⟨(fun x hx=>by cases hx),(fun x hx=>by cases hx)⟩
theorem zej{n:Nat}{c:Coe}(h:inN (n+1) c)(hl:c.names.length=c.fields.length)(k:ByteArray):inN n (za7 c k):=by
 unfold za7
 by_cases q:k∈c.names
 ·exact h.1 _ (zkx hl q)
 ·rw[zkw q];exact zmS n
theorem zbY{n:Nat}{c:Coe}(h:inN (n+1) c):inN n (pairC c).1/\inN n (pairC c).2:=by
 unfold pairC
 split
 ·rename_i f g l e
  exact⟨h.2 f (by rw[e];simp),h.2 g (by rw[e];simp)⟩
 ·exact⟨zmS n,zmS n⟩
theorem znF:∀n,compN n idC idC=idC
 |0=>rfl
 |n+1=>by
  have ih:=znF n
  simp[compN,nodeC,zbc,zcO,zdT,fsC,busy,zd0,zeW,pairC,idC,Coe.tags,Coe.needs,Coe.names,Coe.fields,Coe.fn,tagZ,funCZ]at ih⊢
  rw[ih]
  simp[sameC_rfl]
theorem comp_may:∀(n:Nat) (a b:Coe),mayC a=true->mayC b=true->mayC (compN n a b)=true
 |0,_,_,_,_=>zgo
 |n+1,a,b,ha,hb=>(zbw _).2 (zxM ((zbw _).1 ha) ((zbw _).1 hb) (comp_may n))
theorem zky:∀(n:Nat) {a b:Coe},mayC a=true->mayC b=true->inN n a->inN n b->inN n (compN n a b)
 |0,_,_,_,_,_,_=>rfl
 | n +1,a,b,ma,mb,ha,hb=>by
  have Ma:=(zbw _).1 ma
  have Mb:=(zbw _).1 mb
  refine⟨fun x hx=>?_,fun x hx=>?_⟩
  ·unfold compN nodeC at hx
   simp only[Coe.fields]at hx
   split at hx
   ·unfold fsC busy at hx
    simp only[List.mem_map,List.mem_filter]at hx
    obtain⟨y,⟨⟨k,_,rfl⟩,h2⟩,rfl⟩:=hx
    exact zky n (Ma.field k) (Mb.field k) (zej ha Ma.len k) (zej hb Mb.len k)
   ·cases hx
  ·unfold compN nodeC at hx
   simp only[Coe.fn]at hx
   split at hx
   ·unfold funCZ at hx
    split at hx
    ·cases hx
    ·simp only[List.mem_cons,List.not_mem_nil,or_false]at hx
     rcases hx with rfl|rfl
     ·exact zky n Mb.pair.1 Ma.pair.1 (zbY hb).1 (zbY ha).1
     ·exact zky n Ma.pair.2 Mb.pair.2 (zbY ha).2 (zbY hb).2
   ·cases hx
section
variable {a b c:Coe}
end
theorem zvK(i:Nat):tagZ idC i=0:=by
 unfold tagZ idC
 simp only[Coe.tags,List.getD_eq_getElem?_getD]
 match i with
 |0|1|2|3|4|5=>rfl
 |i+6=>simp
end Go.Gr
namespace Go.Gr
open Go.Abs Go.Proofs
theorem six{l:List Int}(h:l.length=6):∃a b c d e f,l=[a,b,c,d,e,f]:=by
 match l,h with
 |[a,b,c,d,e,f],_=>exact⟨a,b,c,d,e,f,rfl⟩
def upT(L:List Int)(j:Nat):List Int:=L.take j++List.replicate (6-j) 0
theorem zyN{L:List Int}(hL:L.length=6){j:Nat}(h:j<6):(upT L j).set j L[j]=upT L (j+1):=by
 obtain⟨a,b,c,d,e,f,rfl⟩:=six hL
 match j,h with
 |0,_|1,_|2,_|3,_|4,_|5,_=>rfl
theorem zpW(l:List Int)(j:Nat)(x:Int):encI (l.set j x)=(encI l).set j [.int .i64 x]:=by simp[encI,List.map_set]
end Go.Gr
namespace Go.Gr
open Go.Abs Go.Proofs
structure Small1 (B:Nat) (d:Coe):Prop where
 needs:d.needs.length<=B
 fields:d.fields.length<=B
 fn:d.fn.length<=B
theorem zkk{l:List Int}(h:l.length=6){i:Nat}(hi:i<6):l[i]?=some (l.getD i 0):=by
 rw[List.getD_eq_getElem?_getD,List.getElem?_eq_getElem (by omega)];try rfl
theorem zib{α:Type}{l:List α}{j:Nat}(hj:j<l.length){k:α}:k∈l.take (j+1)↔k∈l.take j\/k=l[j]:=by
 rw[List.take_succ_eq_append_getElem hj,List.mem_append,List.mem_singleton]
abbrev box5:Blk:=.box [.d (.sl true 1 []),.d (.sl true 2 []),.d (.sl true 1 []),.d (.sl true 5 []),.d (.sl true 5 [])]
abbrev zfH(a b:Coe):List (Nat × AV):=[(2,.c (.d (.rp a.enc 0))),(3,.c (.d (.rp b.enc 0))),(4,.c (.ptr 0 0)),(5,.c (.ptr 2 0))]
end Go.Gr
namespace Go.Gr
open Go.Abs Go.Proofs
@[simp] theorem zAZ:encN []=[]:=rfl
@[simp] theorem zA0:encI []=[]:=rfl
theorem St.forget{F:St->Prop}{t:List (Nat × AV)}{m:Hp}{n:Nat}(R:List (Nat × AV)->Hp->Prop)(hr:R t m)(h:∀T M,R T M->F ⟨T,M,n⟩):F ⟨t,m,n⟩:=h t m hr
theorem May.fn_len{c:Coe}(h:May c):c.fn.length=0\/c.fn.length=2:=by
 rcases h.fn with e|⟨f,g,e,_⟩<;>rw[e]<;>simp
end Go.Gr
namespace Go.Gr
open Go.Abs Go.Proofs
mutual
def smC(B:Nat):Coe->Prop
 |.mk t n s f g=>n.length<=B/\f.length<=B/\g.length<=B/\smCs B f/\smCs B g
def smCs(B:Nat):List Coe->Prop
 |[]=>True
 |c::l=>smC B c/\smCs B l
end
theorem zpX(B:Nat):∀l:List Coe,smCs B l↔∀x,x∈l->smC B x
 |[]=>by simp[smCs]
 |c::l=>by simp[smCs,zpX B l]
theorem zcC(B:Nat)(d:Coe):smC B d↔d.needs.length<=B/\d.fields.length<=B/\d.fn.length<=B/\(∀x,x∈d.fields->smC B x)/\∀x,x∈d.fn->smC B x:=by
 cases d
 simp only[smC,zpX,Coe.needs,Coe.fields,Coe.fn]
theorem zeo(B:Nat):smC B idC:=by simp[smC,idC,smCs]
theorem zgN{B:Nat}{c:Coe}(h:smC B c)(hl:c.names.length=c.fields.length)(k:ByteArray):smC B (za7 c k):=by
 unfold za7
 by_cases q:k∈c.names
 ·exact((zcC B c).1 h).2.2.2.1 _ (zkx hl q)
 ·rw[zkw q];exact zeo B
theorem zdc{B:Nat}{c:Coe}(h:smC B c):smC B (pairC c).1/\smC B (pairC c).2:=by
 have h':=((zcC B c).1 h).2.2.2.2
 unfold pairC
 split
 ·rename_i f g l e
  rw[e]at h'
  exact⟨h' f (by simp),h' g (by simp)⟩
 ·exact⟨zeo B,zeo B⟩
theorem zgO{B:Nat}{c:Coe}(h:smC B c):Small1 B c:=by
 have:=(zcC B c).1 h
 exact⟨this.1,this.2.1,this.2.2.1⟩
theorem zpY{B B':Nat}(hB:B<=B'):∀(n:Nat) {c:Coe},inN n c->smC B c->smC B' c
 |0,c,hn,h=>by
  have:c=idC:=hn
  rw[this];exact zeo B'
 |n+1,c,hn,h=>by
  rw[zcC]at h⊢
  exact⟨by omega,by omega,by omega,fun x hx=>zpY hB n (hn.1 x hx) (h.2.2.2.1 x hx),fun x hx=>zpY hB n (hn.2 x hx) (h.2.2.2.2 x hx)⟩
theorem zmf(a b:List (ByteArray × Int)):(zdT a b).length<=a.length+b.length:=by
 unfold zdT
 have:=List.length_filter_le (fun n:ByteArray × Int=> !a.any fun m=>decide (m.1=n.1)) b
 rw[List.length_append];omega
theorem zod(a b:Coe):(zd0 a b).length<=a.names.length+b.names.length:=by
 unfold zd0 zeW
 have:=List.length_filter_le (fun k=> !decide (k∈a.names)) b.names
 simp only[List.length_map,List.length_mergeSort,List.length_append];omega
theorem zic{A B:Nat}(hAB:2<=A+B):∀(n:Nat) {a b:Coe},inN n a->inN n b->mayC a=true->mayC b=true->smC A a->smC B b->smC (A+B) (compN n a b)/\smC (A+B) (compN n b a)
 |0,_,_,_,_,_,_,_,_=>⟨zeo _,zeo _⟩
 | n +1,a,b,ia,ib,ma,mb,sa,sb=>by
  have Ma:=(zbw _).1 ma
  have Mb:=(zbw _).1 mb
  have ta:=(zcC A a).1 sa
  have tb:=(zcC B b).1 sb
  have la:=Ma.len
  have lb:=Mb.len
  have ihf:=fun k=>zic hAB n (zej ia Ma.len k) (zej ib Mb.len k) (Ma.field k) (Mb.field k) (zgN sa Ma.len k) (zgN sb Mb.len k)
  have ih1:=zic hAB n (zbY ia).1 (zbY ib).1 Ma.pair.1 Mb.pair.1 (zdc sa).1 (zdc sb).1
  have ih2:=zic hAB n (zbY ia).2 (zbY ib).2 Ma.pair.2 Mb.pair.2 (zdc sa).2 (zdc sb).2
  have key:∀(c d:Coe),c.needs.length+d.needs.length<=A+B->c.names.length+d.names.length<=A+B->(∀k,smC (A+B) (compN n (za7 c k) (za7 d k)))->smC (A+B) (compN n (pairC d).1 (pairC c).1)->smC (A+B) (compN n (pairC c).2 (pairC d).2)->smC (A+B) (nodeC (compN n) c d):=fun c d h1 h2 h3 h4 h5=>by
   rw[zcC]
   have hb:(fsC (compN n) c d).length<=A+B:=by
    unfold fsC busy
    refine Nat.le_trans (List.length_filter_le _ _) ?_
    rw[List.length_map]
    exact Nat.le_trans (zod c d) h2
   refine⟨?_,?_,?_,?_,?_⟩
   ·show(zcO c d).length<=A+B
    unfold zcO
    split
    ·exact Nat.le_trans (zmf _ _) h1
    ·omega
   ·unfold nodeC;simp only[Coe.fields]
    split
    ·rw[List.length_map];exact hb
    ·simp
   ·unfold nodeC;simp only[Coe.fn]
    split
    ·unfold funCZ;split
     ·simp
     ·simpa using hAB
    ·simp
   ·intro x hx
    unfold nodeC at hx;simp only[Coe.fields]at hx
    split at hx
    ·unfold fsC busy at hx
     simp only[List.mem_map,List.mem_filter]at hx
     obtain⟨y,⟨⟨k,_,rfl⟩,_⟩,rfl⟩:=hx
     exact h3 k
    ·cases hx
   ·intro x hx
    unfold nodeC at hx;simp only[Coe.fn]at hx
    split at hx
    ·unfold funCZ at hx
     split at hx
     ·cases hx
     ·simp only[List.mem_cons,List.not_mem_nil,or_false]at hx
      rcases hx with rfl|rfl
      ·exact h4
      ·exact h5
    ·cases hx
  exact⟨key a b (by omega) (by omega) (fun k=>(ihf k).1) ih1.2 ih2.1,key b a (by omega) (by omega) (fun k=>(ihf k).2) ih1.1 ih2.2⟩
def zpl(n:Nat)(a b:Coe):Coe:=if(mayC a&&mayC b)=true then compN n a b else noCZ
end Go.Gr
