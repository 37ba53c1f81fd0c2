/- Texts of ours, joined and written short by a program of ours. -/
import Derived.Test.YtlfjlokfciejnaaGreatDoorJ15
import Derived.Test.YtlfjlokfciejnaaGreatDoorJ12
import Derived.Test.YtlfjlokfciejnaaGreatDoorJ08
import Derived.Test.YtlfjlokfciejnaaGreatDoorJ13
set_option maxRecDepth 20000
set_option maxHeartbeats 4000000
set_option linter.all false
namespace Go.Gr
open Go.Abs Go.Proofs List
def zrh(a b:fC):ltS a b=true↔ltB a b:=by unfold ltS;rw[zuh];exact decide_eq_true_iff
def zuv{s:fC}:∀{ns:List fC},(∀n,n∈ns->ltB n s)->posR s ns=ns.length
 |[],_=>rfl
 |n::l,h=>by rw[posR,aC ((zrh _ _).2 (h n (by simp))),zuv fun x hx=>h x (by simp[hx])];rfl
def zuw{s:fC}:∀{ns:List fC},ns.Pairwise ltB->ns[posR s ns]?≠some s->(∀x,x∈ns.take (posR s ns)->ltB x s)/\∀x,x∈ns.drop (posR s ns)->ltB s x
 |[],_,_=>by simp[posR]
 | n::l,hp,h=>by
  have hp':=bN.1 hp
  rw[posR]at h⊢
  by_cases q:ltS n s=true
  ·rw[aC q]at h⊢
   have i:=zuw hp'.2 (by simpa using h)
   refine⟨fun x hx=>?_,fun x hx=>i.2 x (by simpa using hx)⟩
   rw[take_succ_cons]at hx
   rcases aM.1 hx with rfl|hx
   ·exact(zrh _ _).1 q
   ·exact i.1 x hx
  ·rw[aB q]at h⊢
   have hne:n≠s:=fun e=>h (by simp[e])
   have hs:ltB s n:=(zhe hne).resolve_left fun e=>q ((zrh _ _).2 e)
   refine⟨fun x hx=>(by simp at hx),fun x hx=>?_⟩
   rw[drop_zero]at hx
   rcases aM.1 hx with rfl|hx
   ·exact hs
   ·exact zdP hs (hp'.1 x hx)
def zAC{s:fC}{ns:List fC}(hp:ns.Pairwise ltB)(h:ns[posR s ns]?≠some s):(ns.take (posR s ns)++s::ns.drop (posR s ns)).Pairwise ltB:=by
 have i:=zuw hp h
 have hp':=hp
 rw[<-take_append_drop (posR s ns) ns]at hp'
 have hp':=dA.1 hp'
 refine dA.2 ⟨hp'.1,bN.2 ⟨i.2,hp'.2.1⟩,fun x hx y hy=>?_⟩
 rcases aM.1 hy with rfl|hy
 ·exact i.1 x hx
 ·exact zdP (i.1 x hx) (i.2 y hy)
def zqg:∀(ss:List fC) (ts:List Typ) (ns:List fC) (ks:List Typ),ns.Pairwise ltB->(recR ss ts ns ks).1.1.Pairwise ltB
 |[],ts,ns,ks,h=>by rw[recR];exact h;all_goals (intros;contradiction)
 |s::ss,[],ns,ks,h=>by rw[recR];exact h;all_goals (intros;contradiction)
 | s::ss,t::ts,ns,ks,h=>by
  rw[recR]
  split
  ·exact h
  ·rename_i q
   exact zqg ss ts _ _ (zAC h fun e=>q (.inr e))
def zg8:∀a b:List Typ,zay (a++b)=zay a+zay b
 |[],b=>by simp[zay]
 |t::a,b=>by rw[cons_append,zay,zay,zg8 a b];omega
def zux:∀(ss:List fC) (ts:List Typ) (ns:List fC) (ks:List Typ),zay (recR ss ts ns ks).1.2<=zay ks+zay ts
 |[],ts,ns,ks=>by rw[recR];exact eH _ _;all_goals (intros;contradiction)
 |s::ss,[],ns,ks=>by rw[recR];exact eH _ _;all_goals (intros;contradiction)
 | s::ss,t::ts,ns,ks=>by
  rw[recR]
  split
  ·exact eH _ _
  ·have i:=zux ss ts (ns.take (posR s ns)++s::ns.drop (posR s ns)) (ks.take (posR s ns)++t::ks.drop (posR s ns))
   have e:=zg8 (ks.take (posR s ns)) (ks.drop (posR s ns))
   rw[take_append_drop]at e
   rw[zg8,zay]at i
   rw[zay]
   omega
def zsd:∀(ss:List fC) (ts:List Typ) (ns:List fC) (ks:List Typ),ss.length=ts.length->ns.length=ks.length->(ns++ss).Pairwise ltB->(∀x,x∈ss->zbg x=true)->recR ss ts ns ks=((ns++ss,ks++ts),true)
 |[],ts,ns,ks,h0,_,_,_=>by
  cases ts with
  |nil=>rw[recR,bL,bL];all_goals (intros;contradiction)
  |cons _ _=>simp at h0
 |s::ss,[],ns,ks,h0,_,_,_=>by simp at h0
 | s::ss,t::ts,ns,ks,h0,h1,h2,h3=>by
  have hp:=zuv (s:=s) (ns:=ns) fun n hn=>(dA.1 h2).2.2 n hn s (by simp)
  rw[recR,hp,aB]
  ·rw[bS,aO,h1,bS,aO,zsd ss ts _ _ (by simpa using h0) (by simp[h1]) (by simpa using h2) fun x hx=>h3 x (by simp[hx])]
   simp
  ·rw[h3 s (by simp)]
   simp
def zri{l:List Typ}{B:Nat}(h:∀x,x∈l->dpt x<=B):dpts l<=B:=by
 induction l with
 |nil=>simp[dpts]
 |cons t l ih=>
  rw[dpts]
  have:=h t (by simp)
  have:=ih fun x hx=>h x (by simp[hx])
  omega
def zse(tag:Int)(l:List Typ)(ks:List Typ):(tagR tag l false ks).1.2=ks\/∃x,x∈l/\zaj x=tag/\(tagR tag l false ks).1.2=ks++[x]:=by
 have hT:∀(l:List Typ) (ks:List Typ),(tagR tag l true ks).1.2=ks:=fun l=>by
  induction l with
  |nil=>intro ks;rfl
  | cons x l ih=>
   intro ks
   rw[tagR]
   split
   ·rfl
   split
   ·exact ih ks
   ·simp only[if_true]
    split
    ·exact ih ks
    ·rfl
 induction l with
 |nil=>exact .inl rfl
 | cons x l ih=>
  rw[tagR]
  split
  ·exact .inl rfl
  split
  ·rcases ih with h|⟨y,h1,h2,h3⟩
   ·exact .inl h
   ·exact .inr ⟨y,by simp[h1],h2,h3⟩
  ·rename_i q
   refine .inr ⟨x,by simp,Decidable.not_not.1 q,?_⟩
   simp only[ae,if_false]
   split
   ·exact hT l _
   ·rfl
def zuy(p q:Typ->Bool)(h:∀x,¬(p x=true/\q x=true)):∀l:List Typ,zay (l.filter p)+zay (l.filter q)<=zay (l.filter fun x=>p x||q x)
 |[]=>by simp[zay]
 |x::l=>by
  have i:=zuy p q h l
  have hx:=h x
  simp only[dQ]
  cases hp:p x<;>cases hq:q x
  ·simpa using i
  ·simp[zay];omega
  ·simp[zay];omega
  ·exact absurd ⟨hp,hq⟩ hx
def zrj(p:Typ->Bool):∀l:List Typ,zay (l.filter p)<=zay l
 |[]=>by simp[zay]
 |x::l=>by
  have i:=zrj p l
  simp only[dQ]
  split
  ·rw[zay,zay];omega
  ·rw[zay];omega
def zsf(all:List Typ):∀(l:List Int) (ks:List Typ),l.Nodup->zay (zb4 all l ks).1<=zay ks+zay (all.filter fun x=>decide (zaj x∈l))
 |[],ks,_=>by rw[zb4];exact eH _ _
 | tag::l,ks,hn=>by
  have hn':=bf.1 hn
  have hf:=zuy (fun x=>decide (zaj x=tag)) (fun x=>decide (zaj x∈l)) (fun x ⟨a,b⟩=>hn'.1 (by simp only[aI]at a b;rw[<-a];exact b)) all
  have he:(fun x=>decide (zaj x=tag)||decide (zaj x∈l))=fun x:Typ=>decide (zaj x∈tag::l):=by
   funext x
   rw[<-Bool.decide_or]
   simp only[aM]
  rw[he]at hf
  have h1:zay (tagR tag all false ks).1.2<=zay ks+zay (all.filter fun x=>decide (zaj x=tag)):=by
   rcases zse tag all ks with h|⟨x,h1,h2,h3⟩
   ·rw[h];omega
   ·rw[h3,zg8]
    have:=zmi (l:=all.filter fun x=>decide (zaj x=tag)) (x:=x) (bC.2 ⟨h1,by simpa using h2⟩)
    simp only[zay];omega
  rw[zb4]
  split
  ·have i:=zsf all l (tagR tag all false ks).1.2 hn'.2
   omega
  ·simp only;omega
def zol(all:List Typ):∀(l:List Int) (ks:List Typ),l.Pairwise (· < ·)->(ks.map zaj).Pairwise (· < ·)->(∀x,x∈ks->∀t,t∈l->zaj x<t)->((zb4 all l ks).1.map zaj).Pairwise (· < ·)
 |[],ks,_,h,_=>by rw[zb4];exact h
 | tag::l,ks,hl,h,hk=>by
  have hl':=bN.1 hl
  have h1:((tagR tag all false ks).1.2.map zaj).Pairwise (· < ·)/\∀x,x∈(tagR tag all false ks).1.2->∀t,t∈l->zaj x<t:=by
   rcases zse tag all ks with e|⟨x,h1,h2,h3⟩
   ·rw[e];exact⟨h,fun x hx t ht=>hk x hx t (by simp[ht])⟩
   ·rw[h3]
    refine⟨?_,fun y hy t ht=>?_⟩
    ·rw[map_append]
     refine dA.2 ⟨h,by simp,fun a ha b hb=>?_⟩
     obtain⟨z,hz,rfl⟩:=ai.1 ha
     simp only[map_cons,map_nil,aL]at hb
     rw[hb,h2]
     exact hk z hz tag (by simp)
    ·rcases aQ.1 hy with hy|hy
     ·exact hk y hy t (by simp[ht])
     ·rw[aL.1 hy,h2];exact hl'.1 t ht
  rw[zb4]
  split
  ·exact zol all l _ hl'.2 h1.1 h1.2
  ·exact h1.1
def zuz:∀l:List Typ,zay (l.flatMap mems)<=zay l
 |[]=>by simp[zay]
 | t::l=>by
  rw[flatMap_cons,zg8,zay]
  have:=zuz l
  have:zay (mems t)<=cntT t:=by
   unfold mems
   split
   ·cases t;rw[cntT];simp only[Typ.kids];omega
   ·simp[zay]
  omega
def zCF{l:List Typ}{x:Typ}(h:x∈l.flatMap mems):dpt x<=dpts l:=by
 obtain⟨t,ht,hx⟩:=eO.1 h
 have h1:=zev ht
 unfold mems at hx
 split at hx
 ·have:=zcH hx;omega
 ·rw[aL.1 hx];exact h1
def zED(k:Int)(s:List fC)(l:List Typ)(hl:∀x,x∈l->ordT x)(hk:5<=k/\k<=7)(h:(finR k s l).2=true):ordT (finR k s l).1/\cntT (finR k s l).1<=zay l+1/\dpt (finR k s l).1<=dpts l+1:=by
 unfold finR at h⊢
 by_cases k5:k=5
 ·rw[aC k5]at h⊢
  unfold zdM at h⊢
  by_cases q:s.length≠l.length\/16<s.length
  ·rw[aC q]at h;cases h
  rw[aB q]at h⊢
  have i:=zrf s l [] [] (by omega) rfl (by simp) h
  have hc:=zux s l [] []
  have hmem:∀x,x∈(recR s l [] []).1.2->x∈l:=fun x hx=>by
   rcases i.2.2.2 x hx with hx|hx
   ·cases hx
   ·exact hx
  refine⟨(zcb _).2 ⟨zqg _ _ _ _ (by simp),fun e=>absurd e (by simp only[Typ.kind];decide),fun x hx=>hl x (hmem x hx)⟩,?_,?_⟩
  ·rw[cntT];simp only[zay]at hc;omega
  ·rw[dpt]
   have:=zri (l:=(recR s l [] []).1.2) (B:=dpts l) fun x hx=>zev (hmem x hx)
   omega
 rw[aB k5]at h⊢
 by_cases k6:k=6
 ·rw[aC k6]at h⊢
  exact⟨(zcb _).2 ⟨by simp[Typ.names],fun e=>absurd e (by simp only[Typ.kind];decide),hl⟩,by rw[cntT];omega,by rw[dpt];omega⟩
 rw[aB k6]at h⊢
 unfold zfc at h⊢
 have hm:=zjd (l.flatMap mems) [0,1,2,3,4,5] []
 have hr:=zol (l.flatMap mems) [0,1,2,3,4,5] [] (by decide) (by simp) (by simp)
 have hc:=zsf (l.flatMap mems) [0,1,2,3,4,5] [] (by decide)
 have hc2:=zrj (fun x=>decide (zaj x∈([0,1,2,3,4,5]:List Int))) (l.flatMap mems)
 have hc3:=zuz l
 simp only at h⊢
 generalize zb4 (l.flatMap mems) [0,1,2,3,4,5] []=r at*
 have hw:∀y,y∈r.1->ordT y/\dpt y<=dpts l:=fun y hy=>by
  rcases hm y hy with q|⟨q1,q2⟩
  ·cases q
  ·refine⟨?_,zCF q1⟩
   obtain⟨t,ht,hx⟩:=eO.1 q1
   unfold mems at hx
   split at hx
   ·exact((zcb t).1 (hl t ht)).2.2 y hx
   ·rw[aL.1 hx];exact hl t ht
 have hcnt:zay r.1<=zay l:=by simp only[zay]at hc;omega
 by_cases q:r.2=true
 ·rw [aC q]at h⊢
  split
  ·rename_i x e
   have:=hw x (by rw[e];simp)
   refine⟨this.1,?_,by simp only;omega⟩
   rw[e]at hcnt
   simp only[zay]at hcnt⊢;omega
  ·rename_i L e
   have hlen:2<=r.1.length:=by
    split at h
    ·rename_i x e';exact absurd e' (e x)
    ·simp only[aI]at h
     match hr1:r.1,h,e with
     |[],h,_=>simp at h
     |[x],_,e=>exact absurd rfl (e x)
     |_::_::_,_,_=>simp
   refine⟨(zcb _).2 ⟨by simp[Typ.names],fun _=>⟨hr,hlen⟩,fun x hx=>(hw x hx).1⟩,by simp only;rw[cntT];omega,?_⟩
   simp only
   rw[dpt]
   have:=zri (l:=r.1) (B:=dpts l) fun x hx=>(hw x hx).2
   omega
 ·rw[aB q]at h;cases h
mutual
def zoZ:∀t:Typ,(za2 t).2=true->ordT (za2 t).1/\cntT (za2 t).1<=cntT t/\dpt (za2 t).1<=dpt t
 | .mk k n s l,h=>by
  rw[za2]at h⊢
  by_cases q:5<=k/\k<=7
  ·rw[aC q]at h⊢
   by_cases q2:(zaI l).2=true
   ·rw[aC q2]at h⊢
    have i:=zsg l q2
    have f:=zED k s _ i.1 q h
    rw[cntT,dpt]
    exact⟨f.1,by omega,by omega⟩
   ·rw[aB q2]at h;cases h
  ·rw[aB q]at h⊢
   by_cases q2:0<=k/\k<=4
   ·rw[aC q2]
    exact⟨(NF.base k q2.1 q2.2).2,by rw[cntT];simp[bT,cntT,zay],by rw[dpt];simp[bT,dpt,dpts]⟩
   ·rw[aB q2]at h;cases h
def zsg:∀l:List Typ,(zaI l).2=true->(∀x,x∈(zaI l).1->ordT x)/\zay (zaI l).1<=zay l/\dpts (zaI l).1<=dpts l
 |[],_=>by rw[zaI];exact⟨fun x hx=>(by cases hx),aN _,aN _⟩
 | t::l,h=>by
  rw[zaI]at h⊢
  by_cases q:(za2 t).2=true
  ·rw[aC q]at h⊢
   have a:=zoZ t q
   have b:=zsg l h
   refine⟨fun x hx=>?_,by rw[zay,zay];omega,by rw[dpts,dpts];omega⟩
   rcases aM.1 hx with rfl|hx
   ·exact a.1
   ·exact b.1 x hx
  ·rw[aB q]at h;cases h
end
def zfH{t:Typ}(h:isNR t=true):NF t:=by
 have e:=zil.1 h
 have f:=zfX e.1
 refine⟨zd6 h,?_⟩
 rw[<-e.2,f.2.2.2]
 exact(zoZ t f.1).1
mutual
def zxw:∀(t:Typ) (m:Int),zbo t m<=cntT t
 |.mk k n s l,m=>by
  rw[zbo,cntT]
  have:=zuM l m 1
  omega
def zuM:∀(l:List Typ) (m n:Int),zbD l m n<=n+zay l
 |[],m,n=>by rw[zbD,zay];omega
 | t::l,m,n=>by
  rw[zbD,zay]
  split
  ·have a:=zxw t (m-n)
   have b:=zuM l m (n+zbo t (m-n))
   omega
  ·omega
end
def zsk(f:Typ->Int)(B:Int):∀(l:List Typ) (h:Int),0<=h->h<=B->(∀x,x∈l->f x=min B (dpt x))->l.foldl (fun h k=>if h<f k then f k else h) h=max h (min B (dpts l))
 |[],h,h0,hB,_=>by simp only[foldl_nil,dpts];omega
 |t::l,h,h0,hB,hf=>by
  have ht:=hf t (by simp)
  rw[foldl_cons,zsk f B l _ (by split<;>omega) (by split<;>omega) fun x hx=>hf x (by simp[hx]),ht,dpts]
  split<;>omega
def zxx:∀(n:Nat) (t:Typ),zby (n+1) t=min ((n:Int)+1) (dpt t)
 |0,t=>by rw[zby];have:=zd7 t;omega
 |n+1,t=>by
  rw[zby,zsk _ ((n:Int)+1) t.kids 0 (by omega) (by omega) fun x _=>zxx n x]
  have:dpt t=dpts t.kids+1:=by cases t;rw[dpt];try rfl
  rw[this]
  omega
def zuN(t:Typ):zby 17 t=min (17:Int) (dpt t):=by rw[zxx 16 t];try rfl
def zAM{l:List Typ}(h:∀x,x∈l->x.kind≠7):l.flatMap mems=l:=by
 induction l with
 |nil=>rfl
 |cons t l ih=>rw[flatMap_cons,ih fun x hx=>h x (by simp[hx])];unfold mems;rw[aB (h t (by simp))];try rfl
def zsl(tag:Int):∀(l:List Typ) (had:Bool) (ks:List Typ),(∀x,x∈l->x.kind≠0/\zaj x≠tag)->tagR tag l had ks=((had,ks),true)
 |[],had,ks,_=>rfl
 |x::l,had,ks,h=>by
  rw[tagR,aB (h x (by simp)).1,aC (h x (by simp)).2]
  exact zsl tag l had ks fun y hy=>h y (by simp[hy])
def zsm(tag:Int):∀(l:List Typ) (ks:List Typ),(l.map zaj).Pairwise (· < ·)->(∀x,x∈l->x.kind≠0)->(tagR tag l false ks).1.2=ks++l.filter (fun x=>decide (zaj x=tag))/\(tagR tag l false ks).2=true
 |[],ks,_,_=>⟨by simp[tagR],rfl⟩
 | x::l,ks,hp,h0=>by
  rw[map_cons]at hp
  have hp':=bN.1 hp
  rw[tagR,aB (h0 x (by simp))]
  by_cases q:zaj x=tag
  ·have hno:∀y,y∈l->y.kind≠0/\zaj y≠tag:=fun y hy=>⟨h0 y (by simp[hy]),fun e=>by have:=hp'.1 (zaj y) (ai.2 ⟨y,hy,rfl⟩);omega⟩
   have hf:l.filter (fun x=>decide (zaj x=tag))=[]:=dh.2 fun y hy=>by simpa using (hno y hy).2
   rw[aB (by simpa using q)]
   have hs:zaV x ((ks++[x]).getLastD noT)=true:=by
    rw[getLastD_concat];exact zkA x
   simp only[ae,if_false]
   rw[aC hs,zsl tag l true _ hno]
   simp[q,hf]
  ·rw[aC q]
   have i:=zsm tag l ks hp'.2 fun y hy=>h0 y (by simp[hy])
   rw[i.1]
   exact⟨by simp[q],i.2⟩
def zqq(all:List Typ)(hp:(all.map zaj).Pairwise (· < ·))(h0:∀x,x∈all->x.kind≠0):∀(l:List Int) (ks:List Typ),zb4 all l ks=(ks++l.flatMap fun t=>all.filter fun x=>decide (zaj x=t),true)
 |[],ks=>by rw[zb4];simp
 |t::l,ks=>by
  have i:=zsm t all ks hp h0
  rw[zb4,aC i.2,zqq all hp h0 l,i.1]
  simp
def zhM:∀(l:List Int) (all:List Typ),l.Pairwise (· < ·)->(all.map zaj).Pairwise (· < ·)->(∀x,x∈all->zaj x∈l)->(l.flatMap fun t=>all.filter fun x=>decide (zaj x=t))=all
 |[],all,_,_,h=>by
  cases all with
  |nil=>rfl
  |cons x l=>exact absurd (h x (by simp)) (by simp)
 | t ::l,all,hl,hp,h=>by
  have hl':=bN.1 hl
  have skip:∀x:Typ,zaj x=t->∀r:List Typ,(l.flatMap fun t=>(x::r).filter fun y=>decide (zaj y=t))=l.flatMap fun t=>r.filter fun y=>decide (zaj y=t):=fun x hx r=>by
   rw[flatMap_def,flatMap_def]
   congr 1
   refine bO fun u hu=>?_
   have:=hl'.1 u hu
   rw[dQ,aB (by simp only[aI];omega)]
  rw[flatMap_cons]
  cases all with
  |nil=>rw[zhM l [] hl'.2 (by simp) (by simp)];rfl
  | cons x r=>
   rw[map_cons]at hp
   have hp':=bN.1 hp
   have gt:∀y,y∈r->zaj x<zaj y:=fun y hy=>hp'.1 _ (ai.2 ⟨y,hy,rfl⟩)
   by_cases q:zaj x=t
   ·have hf:r.filter (fun x=>decide (zaj x=t))=[]:=dh.2 fun y hy=>by have:=gt y hy;simp only[aI];omega
    rw[dQ,aC (by simpa using q),hf,skip x q r,zhM l r hl'.2 hp'.2 fun y hy=>?_]
    ·rfl
    ·have:=gt y hy
     rcases aM.1 (h y (by simp[hy]))with e|e
     ·omega
     ·exact e
   ·have hx:zaj x∈l:=(aM.1 (h x (by simp))).resolve_left q
    have hxt:=hl'.1 _ hx
    have hf:(x::r).filter (fun x=>decide (zaj x=t))=[]:=dh.2 fun y hy=>by
     simp only[aI]
     rcases aM.1 hy with rfl|hy
     ·exact q
     ·have:=gt y hy;omega
    rw[hf,zhM l (x::r) hl'.2 (by rw[map_cons];exact hp) fun y hy=>?_]
    ·rfl
    ·refine(aM.1 (h y hy)).resolve_left fun e=>?_
     rcases aM.1 hy with rfl|hy
     ·exact q e
     ·have:=gt y hy;omega
def zCP{t:Typ}(h:NF t)(hk:5<=t.kind/\t.kind<=7):finR t.kind t.names t.kids=(t,true):=by
 have ho:=(zcb t).1 h.2
 have hw:=(zaQ t).1 h.1
 have eta:∀t:Typ,t=.mk t.kind t.name t.names t.kids:=fun t=>by cases t;rfl
 have e:=eta t
 rw[hw.1]at e
 unfold finR
 rcases hw.2.2 with⟨a,b,_⟩|⟨a,b,c,d⟩|⟨a,b,c⟩|⟨a,b,c,d⟩
 ·omega
 ·rw[aC a]
  unfold zdM
  rw[aB (by omega),zsd t.names t.kids [] [] b rfl (by simpa using ho.1) d]
  simp only[nil_append]
  rw[<-a,<-e]
 ·rw[aB (by omega),aC a,c]
  rw[a,b]at e
  rw[<-e];try rfl
 ·rw[aB (by omega),aB (by omega)]
  have h2:=ho.2.1 a
  have hm:=zAM (l:=t.kids) fun x hx=>by have:=d x hx;omega
  have h0:∀x,x∈t.kids->x.kind≠0:=fun x hx=>by have:=d x hx;omega
  have ht:∀x,x∈t.kids->zaj x∈([0,1,2,3,4,5]:List Int):=fun x hx=>by
   have:=d x hx
   have:=(zu6 (h.kid hx).1 (by omega) (by omega)).1
   simp only[aM,cz,eQ]
   omega
  unfold zfc
  rw[hm,zqq t.kids h2.1 h0,nil_append,zhM _ _ (by decide) h2.1 ht]
  simp only[if_true]
  rw[a,b]at e
  split
  ·rename_i x q
   rw[q]at h2
   exact absurd h2.2 (by simp)
  ·rw[<-e]
   simp;omega
mutual
def zxy:∀t:Typ,NF t->za2 t=(t,true)
 | .mk k n s l,h=>by
  have hl:=zuO l fun x hx=>h.kid hx
  rw[za2]
  by_cases q:5<=k/\k<=7
  ·rw[aC q,hl,aC rfl]
   exact zCP h q
  ·rw[aB q]
   rcases((zaQ _).1 h.1).2.2 with⟨a,b,c,d⟩|⟨a,_⟩|⟨a,_⟩|⟨a,_⟩
   ·have hn:=((zaQ _).1 h.1).1
    simp only[Typ.kind,Typ.names,Typ.kids,Typ.name]at a b c d hn
    rw[aC ⟨a,b⟩,c,d,hn];try rfl
   all_goals simp only[Typ.kind]at a;omega
def zuO:∀l:List Typ,(∀x,x∈l->NF x)->zaI l=(l,true)
 |[],_=>by rw[zaI]
 |t::l,h=>by
  have a:=zxy t (h t (by simp))
  have b:=zuO l fun x hx=>h x (by simp[hx])
  rw[zaI,a,b,aC rfl]
end
def zgH{t:Typ}(h:NF t)(hc:cntT t<=200)(hd:dpt t<=16):isNR t=true:=by
 have a:=zxw t 201
 have b:=zuN t
 rw[zil]
 unfold za7
 rw[aB (by omega),zxy t h,aC rfl]
 exact⟨rfl,rfl⟩
def ziJ{t:Typ}(h:isNR t=true):dpt t<=16:=by
 have e:=(zfX (zil.1 h).1).2.2.1
 have b:=zuN t
 omega
def zjj{t:Typ}(h:(za7 t).2=0):isNR (za7 t).1=true:=by
 have f:=zfX h
 have o:=zoZ t f.1
 have b:=zuN t
 have c:=zoP t 201 (by omega)
 rw[f.2.2.2]
 exact zgH ⟨zrg t f.1,o.1⟩ (by omega) (by omega)
def zkN{t x:Typ}(h:isNR t=true)(hx:x∈t.kids):isNR x=true:=by
 have a:=zim h
 have b:=ziJ h
 have c:=zcH hx
 have d:cntT x<cntT t:=by
  cases t
  rw[cntT]
  have:=zmi hx
  simp only[Typ.kids]at this
  omega
 exact zgH ((zfH h).kid hx) (by omega) (by omega)
def zcJ(k:Int)(h0:0<=k)(h4:k<=4):isNR (bT k)=true:=zgH (NF.base k h0 h4) (by simp[bT,cntT,zay]) (by simp[bT,dpt,dpts])
def zea:isNR noT=true:=zcJ 0 (by omega) (by omega)
def zuP:isNR (bT 5)=true:=zgH NF.bt5 (by simp[bT,cntT,zay]) (by simp[bT,dpt,dpts])
def zCQ:isNR (fnT noT noT)=true:=zgH (NF.fn NF.no NF.no) (by decide) (by decide)
def zCR{s:fC}(h:zbg s=true):isNR (.mk 5 (bs []) [s] [noT])=true:=
 zgH ⟨(zaQ _).2 ⟨rfl,fun x hx=>by rw[aL.1 hx];exact zbP,.inr (.inl ⟨rfl,rfl,by simp[Typ.names],fun x hx=>by rw[aL.1 hx];exact h⟩)⟩,by simp[ordT,zhP];exact NF.no.2⟩ (by simp[cntT,zay,noT]) (by simp[dpt,dpts,noT])
def zyV{t:Typ}(h:isNR t=true)(k:fC):isNR (zaD t k).1=true:=by
 rcases((zfH h).field k).2 with e|e
 ·exact zkN h e
 ·rw[e];exact zea
def zCS{a b:Typ}(ha:isNR a=true)(hb:isNR b=true):isNR (zgc a b)=true:=by
 unfold zgc
 split
 ·exact hb
 split
 ·exact ha
 split
 ·exact zea
 split
 ·exact zea
 ·split
  ·rename_i h;exact zjj h
  ·exact zea
def zyW(p:Typ->Bool)(l:List Typ):zay (l.filter p)<=zay l:=zrj p l
def zyX{t:Typ}(h:isNR t=true)(tag:Int):isNR (zcs t tag).1=true/\isNR (zcs t tag).2=true:=by
 unfold zcs
 split
 ·exact⟨h,h⟩
 rename_i q
 split
 ·split
  ·exact⟨h,h⟩
  ·rename_i q5
   by_cases q4:tag=4
   ·subst q4
    exact⟨zuP,h⟩
   ·exact⟨zcJ _ (by omega) (by omega),h⟩
 rename_i h0
 split
 ·exact⟨h,h⟩
 rename_i hp
 split
 ·exact⟨h,h⟩
 rename_i h7
 have h7:t.kind=7:=by omega
 have hm:=(zfF (l:=zaL t) (tag:=tag) (by simpa using hp)).1
 have hk:(zaM (zaL t) tag).1.t∈t.kids:=by
  unfold zaL at hm⊢
  rw[aB h0,aB (by omega)]at hm⊢
  obtain⟨x,hx,e⟩:=ai.1 hm
  rw[<-e];exact hx
 have n1:=zkN h hk
 have hsub:∀x,x∈t.kids.filter (fun k=>decide (zaj k≠tag))->x∈t.kids:=fun x hx=>(bC.1 hx).1
 split
 ·rename_i r e
  exact⟨n1,zkN h (hsub r (by rw[e];simp))⟩
 ·rename_i L e
  refine⟨n1,?_⟩
  have nf:=zfH h
  have hw:=(zaQ t).1 nf.1
  have ho:=((zcb t).1 nf.2).2.1 h7
  have hw7:t.kids.length<=6/\∀x,x∈t.kids->1<=x.kind/\x.kind<=6:=by
   rcases hw.2.2 with⟨_,a,_⟩|⟨a,_⟩|⟨a,_⟩|⟨_,_,a,b⟩
   ·omega
   ·omega
   ·omega
   ·exact⟨a,b⟩
  have hlen:2<=(t.kids.filter fun k=>decide (zaj k≠tag)).length:=by
   have hpos:0<(t.kids.filter fun k=>decide (zaj k≠tag)).length:=by
    match hl:t.kids,ho with
    |[],ho=>exact absurd ho.2 (by simp)
    |[_],ho=>exact absurd ho.2 (by simp)
    |a::b::r,ho=>
     have hab:=(bN.1 ho.1).1 (zaj b) (by simp)
     by_cases qa:zaj a=tag
     ·exact length_pos_of_mem (a:=b) (bC.2 ⟨by simp,by simp only[aI];omega⟩)
     ·exact length_pos_of_mem (a:=a) (bC.2 ⟨by simp,by simpa using qa⟩)
   match hf:t.kids.filter (fun k=>decide (zaj k≠tag)),hpos,e with
   |[],hp,_=>simp at hp
   |[x],_,e=>exact absurd rfl (e x)
   |_::_::_,_,_=>simp
  have hc:=zyW (fun k=>decide (zaj k≠tag)) t.kids
  have hle:=bV (fun k=>decide (zaj k≠tag)) t.kids
  have c1:=zim h
  have c2:=ziJ h
  have e1:cntT t=zay t.kids+1:=by cases t;rw[cntT];try rfl
  have e2:dpt t=dpts t.kids+1:=by cases t;rw[dpt];try rfl
  have hd:=zri (l:=t.kids.filter fun k=>decide (zaj k≠tag)) (B:=dpts t.kids) fun x hx=>zev (hsub x hx)
  refine zgH ⟨(zaQ _).2 ⟨rfl,fun x hx=>(nf.kid (hsub x hx)).1,.inr (.inr (.inr ⟨rfl,rfl,?_,fun x hx=>hw7.2 x (hsub x hx)⟩))⟩,(zcb _).2 ⟨by simp[Typ.names],fun _=>⟨?_,hlen⟩,fun x hx=>(nf.kid (hsub x hx)).2⟩⟩ (by simp only;rw[cntT];omega) (by simp only;rw[dpt];omega)
  ·show(t.kids.filter _).length<=6
   omega
  ·show((t.kids.filter _).map zaj).Pairwise _
   exact ho.1.sublist (List.filter_sublist.map zaj)
def zwI{t:Typ}{vars:List fC}{wth:List Typ}(h:(zba t vars wth).2=0):isNR (zba t vars wth).1=true:=by
 unfold zba at h⊢
 split
 ·rename_i q;rw[aC q]at h;cases h
 rename_i q
 rw[aB q]at h
 split
 ·rename_i q;rw[aC q]at h;cases h
 rename_i q
 rw[aB q]at h
 split
 ·rename_i q;rw[aC q]at h;exact zjj h
 ·rename_i q;rw[aB q]at h;cases h
mutual
def selN:Nod->Prop
 |.mk k tx n _ _ _ _ ks=>(k=9->zbg tx=true)/\(k=2->n=0\/n=1)/\(k=12->0<=n/\n<6)/\zek ks
def zek:List Nod->Prop
 |[]=>True
 |n::l=>selN n/\zek l
end
def zmQ:∀l:List Nod,zek l↔∀x,x∈l->selN x
 |[]=>by simp[zek]
 |n::l=>by simp[zek,zmQ l]
def zuJ:∀l:List UInt8,(l.take (runL false l)).all (fun b=>letU b||digU b)=true
 |[]=>by simp[runL]
 | b::l=>by
  rw[runL]
  split
  ·rename_i h
   rw[take_succ_cons,all_cons,zuJ l]
   simpa[Bool.or_comm]using h
  ·simp
def zCI{c:UInt8}(h:letU c=true):digU c=false:=by
 unfold letU letV at h
 unfold digU digV
 simp only[aI,bY]at*
 omega
def zCJ:∀{l:List UInt8},(tokL l).e=0->(tokL l).kind=1->zbg (bA (tokL l).text)=true
 |[],h,_=>absurd h (by decide)
 | c::r,h,k=>by
  unfold tokL at h k⊢
  simp only at h k⊢
  by_cases c1:letU c=true
  ·rw[aC c1]at h k⊢
   by_cases c2:32<runL false (c::r)
   ·rw[aC c2]at h;exact absurd h (by decide)
   rw[aB c2]at h k⊢
   simp only at h k⊢
   have hw:¬zk4 (bA ((c::r).take (runL false (c::r))))=true:=fun z=>by rw[aC z]at k;exact absurd k (by decide)
   have ha:=zuJ (c::r)
   have e:runL false (c::r)=runL false r+1:=by rw[runL,aC (by simp[c1])]
   rw[e,take_succ_cons]at hw ha⊢
   rw[aK]at hw
   have hs:(bA (c::r.take (runL false r))).size<=32:=by
    show(c::r.take (runL false r)).toArray.size<=32
    simp only[List.size_toArray,length_cons,bI]
    omega
   unfold zbg
   show(decide ((bA (c::r.take (runL false r))).size<=32)&&(!zk4 (bA (c::r.take (runL false r)))&&(!digU c&&(c::r.take (runL false r)).all fun b=>letU b||digU b)))=true
   rw[hw,zCI c1,ha]
   simpa using hs
  rw[aB c1]at h k⊢
  exfalso
  revert h k
  repeat' split
  all_goals (intro h k;first|exact absurd k (by simp)|exact absurd h (by simp[badR]))
def NmL(L:List Tok):Prop:=∀i,(L.getD i zfi).kind=1->zbg (L.getD i zfi).text=true
def zxt{L:List Tok}{t:Tok}(h:NmL L)(ht:t.kind=1->zbg t.text=true):NmL (L++[t]):=fun i hk=>by
 rw[aH,List.getElem?_append]at hk⊢
 split at hk
 ·rename_i q
  rw[aC q,<-aH]
  rw[<-aH]at hk
  exact h i hk
 ·rename_i q
  rw[aB q]
  by_cases z:i-L.length=0
  ·rw[z]at hk⊢
   exact ht hk
  ·rw[aR (by simp;omega)]at hk
   exact absurd hk (by decide)
def zxu:∀(n:Nat) (l:List UInt8) (a b:Int) (ts:List Tok),NmL ts->NmL (lexL n l a b ts).1
 |0,l,a,b,ts,h=>by rw[lexL];exact h
 | n+1,l,a,b,ts,h=>by
  rw[lexL]
  simp only
  split
  ·exact zxt h fun k=>absurd (show(0:Int)=1 from k) (by decide)
  have ht:=zCJ (l:=l.drop (blkL false l))
  generalize tokL (l.drop (blkL false l))=t at*
  obtain⟨e,he⟩:∃e,(if t.e=0/\ts.length=8192 then 19 else t.e)=e:=⟨_,rfl⟩
  rw[he]
  split
  ·exact fun i k=>absurd k (by simp[zfi])
  ·rename_i q
   have e0:t.e=0:=by
    apply bB
    intro z
    rw[aB (fun y=>z y.1)]at he
    omega
   exact zxu n _ _ _ _ (zxt h fun k=>ht e0 k)
def zEF(s:fC):NmL (lexP s).1:=by
 unfold lexP
 split
 ·exact fun i k=>absurd k (by simp[zfi])
 ·exact zxu _ _ _ _ _ fun i k=>absurd k (by simp[zfi])
section
variable {L:List Tok}
def Tm.z{p q:PS}(h:Tm L p q)(e:q.e=0):p.e=0:=bB fun z=>h.bad z e
def zCK(hN:NmL L){p:PS}(h:(zaw L p).2.e=0):zbg (zaw L p).1=true:=by
 unfold zaw at h⊢
 split
 ·rename_i q;exact hN _ q.2
 ·rename_i q;rw[aB q]at h;exact absurd h (znc (by decide))
def zca{p:PS}{k:Int}{t:fC}{n:Int}{ts:List Typ}{ns:List fC}{ks:List Nod}(h:zek ks)(s:k≠9/\k≠2/\k≠12):selN (mkN L p k t n ts ns ks):=by
 unfold mkN;rw[selN];exact⟨fun z=>absurd z s.1,fun z=>absurd z s.2.1,fun z=>absurd z s.2.2,h⟩
def s1{a:Nod}(h:selN a):zek [a]:=⟨h,trivial⟩
def s2{a b:Nod}(h:selN a)(k:selN b):zek [a,b]:=⟨h,k,trivial⟩
def Sel(L:List Tok)(f:PS->Nod × PS):Prop:=∀p,p.at'<L.length->(f p).2.e=0->selN (f p).1
def zCL(hL:OkL L){ki:PS->Typ × PS}{ex rk:PS->Nod × PS}(hk:Tame L ki)(he:Tame L ex)(ne:Sel L ex)(nr:Sel L rk):Sel L (zg0 L ki ex rk):=fun p hp=>by
 unfold zg0
 split
 ·have h1:=zai hL hp (s:=wLet)
  have h2:=h1.trans (zaR hL h1.lt)
  have h3:=h2.trans (zeb hL hk _ h2.lt)
  have h4:=(zaR hL h1.lt).trans ((zeb hL hk _ h2.lt).trans (zam hL h3.lt (s:=bs [61])))
  have h5:=he _ h4.lt
  have h6:=zam hL h5.lt (s:=bs [59])
  have h7:=he _ h6.lt
  intro e
  exact zca (s2 (ne _ h4.lt (h6.z (h7.z e))) (ne _ h6.lt e)) (by decide)
 split
 ·have h1:=zai hL hp (s:=wIf)
  have h2:=he _ h1.lt
  have h3:=zam hL h2.lt (s:=zk9)
  have h4:=he _ h3.lt
  have h5:=zam hL h4.lt (s:=zla)
  have h6:=he _ h5.lt
  intro e
  have e4:=h5.z (h6.z e)
  exact zca ⟨ne _ h1.lt (h3.z (h4.z e4)),ne _ h3.lt e4,ne _ h5.lt e,trivial⟩ (by decide)
 split
 ·have h1:=zai hL hp (s:=wFn)
  have h2:=zfJ hL hk _ h1.lt
  have h3:=h2.trans (zam hL h2.lt (s:=bs [61,62]))
  intro e
  exact zca (s1 (ne _ h3.lt e)) (by decide)
 ·exact nr p hp
def zxv(hL:OkL L){rk:PS->Nod × PS}(hr:Tame L rk)(nr:Sel L rk)(signs:List fC):∀(n:Nat) (a:Nod) (p:PS),p.at'<L.length->Tm L p (opsP L rk signs n a p).2/\(selN a->(opsP L rk signs n a p).2.e=0->selN (opsP L rk signs n a p).1)
 |0,a,p,hp=>by rw[opsP];exact⟨Tm.refl hp,fun ha _=>ha⟩
 | n+1,a,p,hp=>by
  rw[opsP]
  split
  ·exact⟨Tm.refl hp,fun ha _=>ha⟩
  ·rename_i s q h
   have h1:=zgI hL _ hp h
   have h2:=hr _ h1.1.lt
   have r:=zxv hL hr nr signs n (mkN L p 14 s 0 [] [] [a,(rk q).1]) (rk q).2 h2.lt
   exact⟨(h1.1.trans h2).trans r.1,fun ha e=>r.2 (zca (s2 ha (nr _ h1.1.lt (r.1.z e))) (by decide)) e⟩
theorem zEG(hL:OkL L){ki:PS->Typ × PS}{rk:PS->Nod × PS}(hk:Tame L ki)(hr:Tame L rk)(nr:Sel L rk):Sel L (cmpP L ki rk):=fun p hp=>by
 have h1:=hr p hp
 have n1:=nr p hp
 unfold cmpP
 simp only
 split
 ·rename_i s q h
  have h2:=zgI hL _ h1.lt h
  have h3:=hr _ h2.1.lt
  intro e
  exact zca (s2 (n1 (h2.1.z (h3.z e))) (nr _ h2.1.lt e)) (by decide)
 split
 ·have h2:=zai hL h1.lt (s:=bs [97,115])
  have h3:=hk _ h2.lt
  intro e
  exact zca (s1 (n1 (h2.z (h3.z e)))) (by decide)
 split
 ·have h2:=zai hL h1.lt (s:=bs [105,115])
  split
  ·rename_i i q h
   have h3:=zj6 hL _ _ h2.lt h
   intro e
   have:zeX.length=6:=rfl
   unfold mkN
   rw[selN]
   exact⟨fun z=>absurd z (by decide),fun z=>absurd z (by decide),fun _=>by omega,s1 (n1 (h2.z h3.2.2.1))⟩
  ·intro e
   exact absurd e (znc (by decide))
 ·exact n1
def zCM(hL:OkL L){ki:PS->Typ × PS}{un:PS->Nod × PS}(hk:Tame L ki)(hu:Tame L un)(nu:Sel L un):Sel L (zq0 L ki un):=by
 obtain⟨t5,t4,t3,t2,t1,t0⟩:=zj9 hL hk hu
 have op:∀(f:PS->Nod × PS) (signs:List fC),Tame L f->Sel L f->Sel L (fun p=>opsP L f signs (L.length+1) (f p).1 (f p).2):=fun f signs tf nf p hp e=>by
  have r:=zxv hL tf nf signs (L.length+1) (f p).1 (f p).2 (tf p hp).lt
  exact r.2 (nf p hp (r.1.z e)) e
 have n5:Sel L (zlb L un):=op un (zbY 5) hu nu
 have n4:Sel L (zlc L un):=op _ (zbY 4) t5 n5
 have n3:Sel L (zqZ L un):=op _ (zbY 3) t4 n4
 have n2:Sel L (zld L ki un):=zEG hL hk t3 n3
 have n1:Sel L (zle L ki un):=op _ (zbY 1) t2 n2
 exact op _ (zbY 0) t1 n1
def zuK(hL:OkL L){ex:PS->Nod × PS}(he:Tame L ex)(ne:Sel L ex):∀(n:Nat) (ns:List fC) (ks:List Nod) (p:PS),p.at'<L.length->zek ks->(zdu L ex n ns ks p).2.e=0->zek (zdu L ex n ns ks p).1.2
 |0,ns,ks,p,hp,hk,e=>by rw[zdu];exact hk
 | n+1,ns,ks,p,hp,hk,e=>by
  have h1:=zaR hL hp
  have h2:=h1.trans (zam hL h1.lt (s:=bs [58]))
  have h3:=he _ h2.lt
  have h4:=zai hL h3.lt (s:=bs [44])
  have w:(ex (zaA L (bs [58]) (zaw L p).2)).2.e=0->zek (ks++[(ex (zaA L (bs [58]) (zaw L p).2)).1]):=fun e=>(zmQ _).2 fun x hx=>by
   rcases aQ.1 hx with hx|hx
   ·exact(zmQ _).1 hk x hx
   ·rw[aL.1 hx];exact ne _ h2.lt e
  rw[zdu]at e⊢
  split
  ·rename_i c
   rw[aC c]at e
   exact zuK hL he ne n _ _ _ h4.lt (w (h4.z ((zka hL he n _ _ _ h4.lt).z e))) e
  ·rename_i c
   rw[aB c]at e
   exact w (h4.z e)
def zyT(hL:OkL L){ex:PS->Nod × PS}(he:Tame L ex)(ne:Sel L ex)(q p:PS)(hp:p.at'<L.length):(zct L ex q p).2.e=0->selN (zct L ex q p).1:=by
 unfold zct
 split
 ·exact fun _=>zca trivial (by decide)
 split
 ·have h1:=he p hp
  have h2:=zam hL h1.lt (s:=zlf)
  have h3:=h2.trans (zaR hL h2.lt)
  have h4:=h3.trans (zam hL h3.lt (s:=bs [58]))
  have h5:=he _ h4.lt
  have h6:=zam hL h5.lt (s:=bs [125])
  intro e
  have e5:=h6.z e
  exact zca (s2 (ne _ hp (h4.z (h5.z e5))) (ne _ h4.lt e5)) (by decide)
 ·have h1:=zka hL he (L.length+1) [] [] p hp
  have h2:=zam hL h1.lt (s:=bs [125])
  intro e
  exact zca (zuK hL he ne (L.length+1) [] [] p hp trivial (h2.z e)) (by decide)
def zCN(hL:OkL L){ki:PS->Typ × PS}{ex:PS->Nod × PS}(hk:Tame L ki)(he:Tame L ex)(ne:Sel L ex):Sel L (zeY L ki ex):=fun p hp=>by
 unfold zeY
 by_cases c0:p.e=0/\(curT L p).kind=3
 ·rw[aC c0];exact fun _=>zca trivial (by decide)
 rw[aB c0]
 by_cases c1:p.e=0/\(curT L p).kind=4
 ·rw[aC c1];exact fun _=>zca trivial (by decide)
 rw[aB c1]
 by_cases c2:(zad L zlg p).1=true
 ·rw[aC c2];exact fun _=>by unfold mkN;rw[selN];exact⟨fun z=>absurd z (by decide),fun _=>by omega,fun z=>absurd z (by decide),trivial⟩
 rw[aB c2]
 by_cases c3:(zad L ziV p).1=true
 ·rw[aC c3];exact fun _=>by unfold mkN;rw[selN];exact⟨fun z=>absurd z (by decide),fun _=>by omega,fun z=>absurd z (by decide),trivial⟩
 rw[aB c3]
 by_cases c4:(zad L zlh p).1=true
 ·rw[aC c4];exact fun _=>zca trivial (by decide)
 rw[aB c4]
 by_cases c5:(zad L zgn p).1=true
 ·rw[aC c5];exact fun _=>zca trivial (by decide)
 rw[aB c5]
 by_cases c6:(zad L zd3 p).1=true
 ·rw[aC c6]
  have h1:=zai hL hp (s:=zd3)
  have h2:=zam hL h1.lt (s:=bs [40])
  have h3:=he _ h2.lt
  exact fun e=>zca (s1 (ne _ h2.lt ((zam hL h3.lt (s:=bs [41])).z e))) (by decide)
 rw[aB c6]
 by_cases c7:(zad L (bs [40]) p).1=true
 ·rw[aC c7]
  have h1:=zai hL hp (s:=bs [40])
  exact fun e=>ne _ h1.lt ((zam hL (he _ h1.lt).lt (s:=bs [41])).z e)
 rw[aB c7]
 by_cases c8:(zad L (bs [123]) p).1=true
 ·rw[aC c8];exact zyT hL he ne p _ (zai hL hp (s:=bs [123])).lt
 rw[aB c8]
 intro _
 show selN (if(zad L (bs [91]) (zaw L p).2).1=true then _ else _:Nod × PS).1
 split
 ·exact zca trivial (by decide)
 ·exact zca trivial (by decide)
def zmR(hL:OkL L)(hN:NmL L){ex:PS->Nod × PS}(he:Tame L ex)(ne:Sel L ex):∀(n:Nat) (a:Nod) (p:PS),p.at'<L.length->Tm L p (zcT L ex n a p).2/\(selN a->(zcT L ex n a p).2.e=0->selN (zcT L ex n a p).1)
 |0,a,p,hp=>by rw[zcT];exact⟨Tm.refl hp,fun ha _=>ha⟩
 | n+1,a,p,hp=>by
  rw[zcT]
  split
  ·have h1:=zai hL hp (s:=bs [40])
   have h2:=he _ h1.lt
   have h3:=zam hL h2.lt (s:=bs [41])
   have r:=zmR hL hN he ne n (mkN L p 7 (bs []) 0 [] [] [a,(ex (zad L (bs [40]) p).2).1]) _ h3.lt
   exact⟨((h1.trans h2).trans h3).trans r.1,fun ha e=>r.2 (zca (s2 ha (ne _ h1.lt (h3.z (r.1.z e)))) (by decide)) e⟩
  split
  ·have h1:=zai hL hp (s:=bs [46])
   have h2:=zaR hL h1.lt
   have r:=zmR hL hN he ne n (mkN L p 9 (zaw L (zad L (bs [46]) p).2).1 0 [] [] [a]) _ h2.lt
   exact⟨(h1.trans h2).trans r.1,fun ha e=>r.2 (by unfold mkN;rw[selN];exact⟨fun _=>zCK hN (r.1.z e),fun z=>absurd z (by decide),fun z=>absurd z (by decide),s1 ha⟩) e⟩
  ·exact⟨Tm.refl hp,fun ha _=>ha⟩
def zAJ(hL:OkL L)(hN:NmL L){ki:PS->Typ × PS}{ex un:PS->Nod × PS}(hk:Tame L ki)(he:Tame L ex)(ne:Sel L ex)(nu:Sel L un):Sel L (zff L ki ex un):=fun p hp=>by
 unfold zff
 split
 ·exact fun e=>zca (s1 (nu _ (zai hL hp (s:=bs [45])).lt e)) (by decide)
 split
 ·exact fun e=>zca (s1 (nu _ (zai hL hp (s:=wNot)).lt e)) (by decide)
 ·have ta:=znv hL hk he p hp
  have r:=zmR hL hN he ne (L.length+1) (zeY L ki ex p).1 (zeY L ki ex p).2 ta.lt
  exact fun e=>r.2 (zCN hL hk he ne p hp (r.1.z e)) e
def zFM(hL:OkL L)(hN:NmL L){ki:PS->Typ × PS}(hk:Tame L ki)(d:Nat):Sel L (euP L ki d).1/\Sel L (euP L ki d).2:=by
 have n0:selN noN:=by simp[selN,noN,zek]
 induction d with
 |zero=>exact⟨fun p hp _=>n0,fun p hp _=>n0⟩
 | succ d ih=>
  have tm:=zqw hL hk d
  have up:∀(f:PS->Nod × PS),Sel L f->Sel L (fun p=>if(zau L p).1=true then zds (f (zau L p).2)else(noN,(zau L p).2)):=fun f nf p hp=>by
   show(if(zau L p).1=true then _ else _:Nod × PS).2.e=0->selN (if(zau L p).1=true then _ else _:Nod × PS).1
   by_cases c:(zau L p).1=true
   ·have hp':(zau L p).2.at'<L.length:=by rw[(zcX c).1];exact hp
    rw[aC c]
    exact fun e=>nf _ hp' e
   ·rw[aB c];exact fun _=>n0
  rw[euP]
  exact⟨up _ (zCL hL hk tm.1 ih.1 (zCM hL hk tm.2 ih.2)),up _ (zAJ hL hN hk tm.1 ih.1 ih.2)⟩
def zuL(hL:OkL L)(hN:NmL L):∀(n:Nat) (l:List Dec) (p:PS),p.at'<L.length->(zcC L n l p).2.e=0->(∀d,d∈l->selN d.body)->∀d,d∈(zcC L n l p).1->selN d.body
 |0,l,p,hp,e,h,d,hd=>by rw[zcC]at hd;exact h d hd
 | n+1,l,p,hp,e,h,d,hd=>by
  rw[zcC]at hd e
  split at hd
  ·rename_i c
   rw[aC c]at e
   have h1:=ztS hL p hp
   have e1:=(znm hL n (l++[(decP L p).1]) _ h1.lt).z e
   refine zuL hL hN n _ _ h1.lt e (fun x hx=>?_) d hd
   rcases aQ.1 hx with hx|hx
   ·exact h x hx
   ·rw[aL.1 hx]
    have h1:=zai hL hp (s:=zeZ)
    have h2:=h1.trans (zam hL h1.lt (s:=wFn))
    have h3:=h2.trans (zaR hL h2.lt)
    have h4:=h3.trans (znl hL _ h3.lt)
    have h5:=h4.trans (zfJ hL (zdH hL) _ h4.lt)
    have h6:=h5.trans (zam hL h5.lt (s:=bs [61]))
    have h7:=znk hL _ h6.lt
    exact(zFM hL hN (zdH hL) 102).1 _ h6.lt ((zam hL h7.lt (s:=bs [59])).z e1)
  ·exact h d hd
end
def zAK(s:fC):∀d,d∈(zbE s).1.decs->selN d.body:=fun d hd=>by
 unfold zbE at hd
 simp only at hd
 by_cases q1:(lexP s).2.e=0
 ·obtain⟨hL,hl⟩:=znp q1
  rw[aB (fun z=>z q1)]at hd
  split at hd
  ·cases hd
  ·rename_i q2
   have h0:ps0.at'<(lexP s).1.length:=hL.pos
   refine zuL hL (zEF s) _ _ _ (zjM hL _ _ _ h0).lt ?_ (fun x hx=>by cases hx) d hd
   apply bB
   intro z
   refine q2 ?_
   unfold endP
   rw[aB (fun y=>z y.1)]
   exact z
 ·rw[aC q1]at hd;cases hd
end Go.Gr
namespace Go.Gr
open Go.Abs Go.Proofs List
def shC(M G:Nat)(k n:Int)(ns:List fC)(ts:List Typ)(q:Nat):Prop:=
 ((k=0\/k=1\/k=3\/k=4\/k=20)/\q=0)\/(k=2/\q=0/\(n=0\/n=1))\/(k=6/\q=0/\0<=n/\n<G)\/((k=5\/k=9\/k=16\/k=17\/k=19)/\q=1)\/(k=12/\q=1/\0<=n/\n<6)\/((k=7\/k=10\/k=14\/k=15\/k=18)/\q=2)\/(k=13/\q=2/\0<=n/\n<11)\/(k=11/\q=3)\/(k=8/\ns.length=q/\ns.Nodup)\/(k=21/\q=1/\0<=n/\n<M/\∃a b,ts=[a,b]/\isNR a=true/\isNR b=true)
def shC.cast{M G:Nat}{n:Int}{ns:List fC}{a b:Typ}(h0:0<=n)(h1:n<M)(ha:isNR a=true)(hb:isNR b=true):shC M G 21 n ns [a,b] 1:=by
 simp[shC]
 exact⟨h0,h1,a,b,⟨rfl,rfl⟩,ha,hb⟩
mutual
def okC(M G:Nat):Cor->Prop
 |.mk k n _ _ ns ts _ ks=>shC M G k n ns ts ks.length/\okCs M G ks
def okCs(M G:Nat):List Cor->Prop
 |[]=>True
 |c::l=>okC M G c/\okCs M G l
end
structure Keep (s s':CS):Prop where
 e:s'.e=0->s.e=0
 sites:s.sites.length<=s'.sites.length
 tab:s.tab.length<=s'.tab.length
def Keep.refl(s:CS):Keep s s:=⟨id,aN _,aN _⟩
def Keep.trans{a b c:CS}(h:Keep a b)(k:Keep b c):Keep a c:=⟨fun e=>h.e (k.e e),ak h.sites k.sites,ak h.tab k.tab⟩
def zjR(a b e:Int)(s:CS):Keep s (zaW a b e s):=by
 unfold zaW
 split
 ·rename_i q;exact⟨fun _=>q,aN _,aN _⟩
 ·exact Keep.refl s
def zjS{a b e:Int}{s:CS}(h:e≠0):(zaW a b e s).e≠0:=by
 unfold zaW
 split
 ·exact h
 ·rename_i q;exact q
section
variable (M G:Nat)
def Res(s:CS)(P:Prop)(s':CS):Prop:=Keep s s'/\(s'.e=0->s'.sites.length<=M->s'.tab.length<=G->P)
variable {M G}
def Res.ret{s:CS}{P:Prop}(h:P):Res M G s P s:=⟨Keep.refl s,fun _ _ _=>h⟩
def Res.bind{s t u:CS}{P Q:Prop}(h:Res M G s P t)(k:Res M G t Q u):Res M G s (P/\Q) u:=
 ⟨h.1.trans k.1,fun e a b=>⟨h.2 (k.1.e e) (ak k.1.sites a) (ak k.1.tab b),k.2 e a b⟩⟩
def Res.imp{s t:CS}{P Q:Prop}(h:Res M G s P t)(f:P->Q):Res M G s Q t:=⟨h.1,fun e a b=>f (h.2 e a b)⟩
def Res.fail{s:CS}{P:Prop}{a b e:Int}(h:e≠0):Res M G s P (zaW a b e s):=⟨zjR a b e s,fun z=>absurd z (zjS h)⟩
def zet(t:Typ)(a b:Int)(s:CS):Res M G s (isNR (zar t a b s).1=true) (zar t a b s).2:=by
 unfold zar
 simp only
 split
 ·exact .fail (by decide)
 ·rename_i q;exact .ret (zwI (by simpa using q))
def zpU(t:Typ)(a b:Int)(s:CS):Res M G s (isNR (zbN t a b s).1=true/\(za7 t).2=0) (zbN t a b s).2:=by
 unfold zbN
 simp only
 split
 ·exact .fail (by decide)
 ·rename_i q
  have q:(za7 t).2=0:=by simpa using q
  exact .ret ⟨zjj q,q⟩
def zmm(x:Cor)(t u:Typ)(a b:Int)(s:CS):Res M G s (okC M G x->isNR t=true->isNR u=true->okC M G (za8 x t u a b s).1) (za8 x t u a b s).2:=by
 unfold za8
 split
 ·exact .ret fun h _ _=>h
 ·rename_i q
  have q:s.e=0:=by simpa using q
  refine⟨⟨fun _=>q,by simp,aN _⟩,fun _ h _ hx ht hu=>?_⟩
  simp only[aX,length_cons,length_nil]at h
  simp only[okC,okCs,and_true]
  exact⟨.cast (by omega) (by omega) ht hu,hx⟩
def zeu(x:Cor)(t u:Typ)(a b:Int)(s:CS):Res M G s (okC M G x->isNR t=true->isNR u=true->okC M G (zaF x t u a b s).1) (zaF x t u a b s).2:=by
 unfold zaF
 split
 ·exact .ret fun h _ _=>h
 split
 ·exact .ret fun h _ _=>h
 split
 ·exact zmm x t u a b s
 ·exact .fail (by decide)
def zDZ(u:Typ)(hu:isNR u=true)(a b:Int)(x:(Cor × Typ) × CS):Res M G x.2 (okC M G x.1.1/\isNR x.1.2=true->okC M G (anyC u a b x).1.1/\isNR (anyC u a b x).1.2=true) (anyC u a b x).2:=by
 unfold anyC
 split
 ·exact(zmm _ _ _ _ _ _).imp fun h k=>⟨h k.1 k.2 hu,hu⟩
 ·exact .ret id
def zpV(a b:Int):∀(ts l:List Typ) (s:CS),Keep s (zcM a b ts l s).2
 |[],l,s=>by rw[zcM];exact Keep.refl s
 |t::ts,l,s=>by
  rw[zcM]
  split
  ·exact Keep.refl s
  ·exact(zet (M:=0) (G:=0) t a b s).1.trans (zpV a b ts _ _)
def zEz{l:List Ist}{x:Ist}:l.length<=(addR 256 l x).2.length/\((addR 256 l x).1.2=0->0<=(addR 256 l x).1.1/\(addR 256 l x).1.1<(addR 256 l x).2.length):=by
 have h:=znf (fun y=>zhU y x) l
 unfold addR
 split
 ·exact⟨aN _,fun z=>absurd z (by simp)⟩
 split
 ·rename_i q
  refine⟨aN _,fun _=>⟨q,?_⟩⟩
  simp only
  omega
 split
 ·exact⟨aN _,fun z=>absurd z (by simp)⟩
 ·exact⟨by simp,fun _=>by simp;omega⟩
def EnvN(env:Env):Prop:=∀v,v∈env->isNR v.2=true
def EnvN.more{env:Env}(h:EnvN env)(x:fC){t:Typ}(ht:isNR t=true):EnvN (env++[(x,t)]):=fun v hv=>by
 rcases aQ.1 hv with hv|hv
 ·exact h v hv
 ·rw[aL.1 hv];exact ht
def EnvN.get{env:Env}(h:EnvN env)(k:Nat):isNR (env.getD k (bs [],noT)).2=true:=by
 rw[aH]
 cases e:env[k]? with
 |none=>exact zea
 |some v=>exact h v (af e)
variable (M G)
def GInf(i:Inf):Prop:=∀env s,Res M G s (EnvN env->okC M G (i env s).1.1/\isNR (i env s).1.2=true) (i env s).2
variable {M G}
section
variable (L:Lnk)
def zua(a b:Int)(e:Ent)(l:List Typ)(s:CS):Res M G s (okC M G (zbO L a b e l s).1.1/\isNR (zbO L a b e l s).1.2=true) (zbO L a b e l s).2:=by
 unfold zbO
 split
 ·exact .fail (by decide)
 ·rename_i q
  simp only
  have h:=zEz (l:=s.tab) (x:=⟨e.module,e.decl,l⟩)
  generalize addR 256 s.tab ⟨e.module,e.decl,l⟩=r at*
  have k:Keep s {s with tab:=r.2}:=⟨id,aN _,h.1⟩
  split
  ·rename_i q2
   exact⟨k.trans (zjR _ _ _ _),fun z=>absurd z (zjS q2)⟩
  ·rename_i q2
   have q2:=h.2 (by simpa using q2)
   refine⟨k,fun _ _ hG=>⟨?_,?_⟩⟩
   ·simp only[cN,okC,okCs,and_true]
    simp[shC]
    simp only at hG
    omega
   ·have q:(sigR L e l).2=true:=by simpa using q
    unfold sigR at q⊢
    simp only[aD,aI]at q
    exact zjj q.2.2
def zEA(n:Nod):GInf M G (zdO L n):=fun env s=>by
 unfold zdO
 simp only
 split
 ·exact .ret fun he=>⟨by simp[cN,okC,okCs,shC],he.get _⟩
 split
 ·exact .fail (by decide)
 split
 ·exact .fail (by decide)
 split
 ·exact .fail (by decide)
 split
 ·exact(zua L _ _ _ _ _).imp fun h _=>h
 split
 ·rename_i q
  exact⟨zpV _ _ _ _ _,fun z=>absurd z q⟩
 split
 ·rename_i q
  exact⟨(zpV _ _ _ _ _).trans (zjR _ _ _ _),fun z=>absurd z (zjS q)⟩
 ·have h:=zua (M:=M) (G:=G) L n.line n.col (zcf (L.scopes.getD s.module.toNat []) n.text).1 (zcM n.line n.col n.types [] s).1 (zcM n.line n.col n.types [] s).2
  exact⟨(zpV _ _ _ _ _).trans h.1,fun e a b _=>h.2 e a b⟩
def zGw(n a:Nod){ia ib:Inf}(ha:GInf M G ia)(hb:GInf M G ib):GInf M G (letC n a ia ib):=fun env s=>by
 unfold letC
 simp only
 have h1:=ha env s
 generalize ia env s=x at*
 obtain⟨y,hy⟩:∃y,(if 0<n.types.length/\x.2.e=0 then(((zaF x.1.1 x.1.2 (zar (n.types.getD 0 noT) n.line n.col x.2).1 a.line a.col (zar (n.types.getD 0 noT) n.line n.col x.2).2).1,(zar (n.types.getD 0 noT) n.line n.col x.2).1),(zaF x.1.1 x.1.2 (zar (n.types.getD 0 noT) n.line n.col x.2).1 a.line a.col (zar (n.types.getD 0 noT) n.line n.col x.2).2).2)else x)=y:=⟨_,rfl⟩
 have h2:Res M G x.2 (okC M G x.1.1/\isNR x.1.2=true->okC M G y.1.1/\isNR y.1.2=true) y.2:=by
  rw[<-hy]
  split
  ·exact((zet _ _ _ _).bind (zeu _ _ _ _ _ _)).imp fun h k=>⟨h.2 k.1 k.2 h.1,h.1⟩
  ·exact .ret id
 rw[hy]
 refine(h1.bind (h2.bind (hb (env++[(n.text,y.1.2)]) y.2))).imp fun h he=>?_
 have y1:=h.2.1 (h.1 he)
 have z1:=h.2.2 (he.more _ y1.2)
 exact⟨by simp only[cK,okC,okCs,and_true];exact⟨by simp[shC],y1.1,z1.1⟩,z1.2⟩
def g_fn(n a:Nod){ia:Inf}(ha:GInf M G ia):GInf M G (fnC n a ia):=fun env s=>by
 unfold fnC
 simp only
 have h1:=zet (M:=M) (G:=G) (n.types.getD 0 noT) n.line n.col s
 generalize zar (n.types.getD 0 noT) n.line n.col s=p at*
 obtain⟨q,hq⟩:∃q,(if 1<n.types.length/\p.2.e=0 then zar (n.types.getD 1 noT) n.line n.col p.2 else(noT,p.2))=q:=⟨_,rfl⟩
 have h2:Res M G p.2 (isNR q.1=true) q.2:=by
  rw[<-hq]
  split
  ·exact zet _ _ _ _
  ·exact .ret zea
 rw[hq]
 have h3:=ha (env++[(n.text,p.1)]) q.2
 generalize ia (env++[(n.text,p.1)]) q.2=x at*
 obtain⟨y,hy⟩:∃y,(if 1<n.types.length then(((zaF x.1.1 x.1.2 q.1 a.line a.col x.2).1,q.1),(zaF x.1.1 x.1.2 q.1 a.line a.col x.2).2)else x)=y:=⟨_,rfl⟩
 have h4:Res M G x.2 (okC M G x.1.1/\isNR x.1.2=true->isNR q.1=true->okC M G y.1.1) y.2:=by
  rw[<-hy]
  split
  ·exact(zeu _ _ _ _ _ _).imp fun h k kq=>h k.1 k.2 kq
  ·exact .ret fun k _=>k.1
 rw[hy]
 refine(((h1.bind h2).bind h3).bind (h4.bind (zpU _ _ _ _))).imp fun h he=>?_
 exact⟨by simp only[cK,okC,okCs,and_true];exact⟨by simp[shC],h.2.1 (h.1.2 (he.more _ h.1.1.1)) h.1.1.2⟩,h.2.2.1⟩
def zAp{t:Typ}(h:isNR t=true)(i:Nat):isNR (t.kids.getD i noT)=true:=by
 rw[aH]
 cases e:t.kids[i]? with
 |none=>exact zea
 |some v=>exact zkN h (af e)
def g_call(n b:Nod){ia ib:Inf}(ha:GInf M G ia)(hb:GInf M G ib):GInf M G (zeP n b ia ib):=fun env s=>by
 unfold zeP
 simp only
 have h1:=(ha env s).bind (zDZ (fnT noT noT) zCQ n.line n.col (ia env s))
 generalize anyC (fnT noT noT) n.line n.col (ia env s)=x at*
 split
 ·exact⟨h1.1.trans (zjR _ _ _ _),fun z=>absurd z (zjS (by decide))⟩
 ·refine(h1.bind ((hb env x.2).bind (zeu _ _ _ _ _ _))).imp fun h he=>?_
  have x1:=h.1.2 (h.1.1 he)
  have y1:=h.2.1 he
  exact⟨by simp only[cK,okC,okCs,and_true];exact⟨by simp[shC],x1.1,h.2.2 y1.1 y1.2 (zAp x1.2 0)⟩,zAp x1.2 1⟩
def zGx(n:Nod)(hn:zbg n.text=true){ia:Inf}(ha:GInf M G ia):GInf M G (selC n ia):=fun env s=>by
 unfold selC
 simp only
 have h1:=ha env s
 generalize ia env s=x at*
 obtain⟨y,hy⟩:∃y,(if x.1.2.kind=0 then za8 x.1.1 x.1.2 (.mk 5 (bs []) [n.text] [noT]) n.line n.col x.2 else(x.1.1,x.2))=y:=⟨_,rfl⟩
 have h2:Res M G x.2 (okC M G x.1.1/\isNR x.1.2=true->okC M G y.1) y.2:=by
  rw[<-hy]
  split
  ·exact(zmm _ _ _ _ _ _).imp fun h k=>h k.1 k.2 (zCR hn)
  ·exact .ret fun k=>k.1
 rw[hy]
 have key:(EnvN env->okC M G x.1.1/\isNR x.1.2=true)/\(okC M G x.1.1/\isNR x.1.2=true->okC M G y.1)->EnvN env->okC M G (cT 9 n.text [y.1])/\isNR (zaD x.1.2 n.text).1=true:=fun h he=>
  ⟨by simp only[cT,okC,okCs,and_true];exact⟨by simp[shC],h.2 (h.1 he)⟩,zyV (h.1 he).2 _⟩
 split
 ·exact(h1.bind h2).imp key
 ·exact⟨(h1.bind h2).1.trans (zjR _ _ _ _),fun z=>absurd z (zjS (by decide))⟩
def zFE(n:Nod){ia ib:Inf}(ha:GInf M G ia)(hb:GInf M G ib):GInf M G (zeQ n ia ib):=fun env s=>by
 unfold zeQ
 simp only
 have h1:=(ha env s).bind (zDZ (bT 5) zuP n.line n.col (ia env s))
 generalize anyC (bT 5) n.line n.col (ia env s)=x at*
 split
 ·exact⟨h1.1.trans (zjR _ _ _ _),fun z=>absurd z (zjS (by decide))⟩
 ·refine(h1.bind ((hb env x.2).bind (zpU _ _ _ _))).imp fun h he=>?_
  exact⟨by simp only[cT,okC,okCs,and_true];exact⟨by simp[shC],(h.1.2 (h.1.1 he)).1,(h.2.1 he).1⟩,h.2.2.1⟩
def zue(q:Nod){env:Env}(h:EnvN env):EnvN (za1 q env).1/\EnvN (za1 q env).2:=by
 unfold za1
 split
 ·simp only
  have k:=zyX (h.get (zcn env (q.kids.getD 0 noN).text).toNat) q.n
  exact⟨fun v hv=>(mem_or_eq_of_mem_set hv).elim (h v) fun e=>by rw[e];exact k.1,fun v hv=>(mem_or_eq_of_mem_set hv).elim (h v) fun e=>by rw[e];exact k.2⟩
 ·exact⟨h,h⟩
def g_if(q a b:Nod){iq ia ib:Inf}(hq:GInf M G iq)(ha:GInf M G ia)(hb:GInf M G ib):GInf M G (ifC q a b iq ia ib):=fun env s=>by
 unfold ifC
 simp only
 have h1:=(hq env s).bind (zeu (iq env s).1.1 (iq env s).1.2 (bT 2) q.line q.col (iq env s).2)
 generalize zaF (iq env s).1.1 (iq env s).1.2 (bT 2) q.line q.col (iq env s).2=x at*
 have h2:=ha (za1 q env).1 x.2
 generalize ia (za1 q env).1 x.2=y at*
 have h3:=hb (za1 q env).2 y.2
 generalize ib (za1 q env).2 y.2=z at*
 refine(h1.bind (h2.bind (h3.bind ((zeu _ _ _ _ _ _).bind (zeu _ _ _ _ _ _))))).imp fun h he=>?_
 have q1:=h.1.1 he
 have y1:=h.2.1 (zue q he).1
 have z1:=h.2.2.1 (zue q he).2
 have j:=zCS y1.2 z1.2
 exact⟨by simp only[cK,okC,okCs,and_true];exact⟨by simp[shC],h.1.2 q1.1 q1.2 (zcJ 2 (by omega) (by omega)),h.2.2.2.1 y1.1 y1.2 j,h.2.2.2.2 z1.1 z1.2 j⟩,j⟩
def g_as(n:Nod){ia:Inf}(ha:GInf M G ia):GInf M G (asC n ia):=fun env s=>by
 unfold asC
 simp only
 have h1:=ha env s
 generalize ia env s=x at*
 split
 ·exact h1
 have h2:=h1.bind (zet (M:=M) (G:=G) (n.types.getD 0 noT) n.line n.col x.2)
 generalize zar (n.types.getD 0 noT) n.line n.col x.2=u at*
 split
 ·exact h2.imp fun h he=>⟨(h.1 he).1,h.2⟩
 rename_i q
 have e0:u.2.e=0:=bB fun z=>q (.inl z)
 obtain⟨y,hy⟩:∃y,(if x.1.2.kind≠0 then za8 x.1.1 x.1.2 noT n.line n.col u.2 else(x.1.1,u.2))=y:=⟨_,rfl⟩
 have h3:Res M G u.2 (okC M G x.1.1/\isNR x.1.2=true->okC M G y.1) y.2:=by
  rw[<-hy]
  split
  ·exact(zmm _ _ _ _ _ _).imp fun h k=>h k.1 k.2 zea
  ·exact .ret fun k=>k.1
 have h4:x.1.2.kind≠0->Res M G y.2 (0<=y.1.n/\y.1.n<M) y.2:=fun k=>by
  rw[aC k]at hy
  unfold za8 at hy
  rw[aB (fun z=>z e0)]at hy
  rw[<-hy]
  exact⟨Keep.refl _,fun _ a _=>by simp only[aX,length_cons,length_nil]at a;simp only[Cor.n];omega⟩
 rw[hy]
 split
 ·exact(h2.bind h3).imp fun h he=>⟨h.2 (h.1.1 he),h.1.2⟩
 split
 ·exact(h2.bind (h3.bind (zmm _ _ _ _ _ _))).imp fun h he=>⟨h.2.2 (h.2.1 (h.1.1 he)) (h.1.1 he).2 h.1.2,h.1.2⟩
 ·rename_i k0
  refine(h2.bind (h3.bind (h4 k0))).imp fun h he=>⟨?_,h.1.2⟩
  simp only[okC,okCs,and_true]
  exact⟨.cast h.2.2.1 h.2.2.2 zea h.1.2,h.2.1 (h.1.1 he)⟩
def ze7(n:Nod){i:Inf}(hi:GInf M G i)(t:Typ)(ht:isNR t=true)(env:Env)(s:CS):Res M G s (EnvN env->okC M G (zbl n i t env s).1) (zbl n i t env s).2:=by
 unfold zbl
 exact((hi env s).bind (zeu _ _ _ _ _ _)).imp fun h he=>h.2 (h.1 he).1 (h.1 he).2 ht
theorem g_op(n a b:Nod){ia ib:Inf}(ha:GInf M G ia)(hb:GInf M G ib):GInf M G (opC n a b ia ib):=fun env s=>by
 have b2:=zcJ 2 (by omega) (by omega)
 have b3:=zcJ 3 (by omega) (by omega)
 have b4:=zcJ 4 (by omega) (by omega)
 unfold opC
 simp only
 split
 ·exact((ze7 a ha _ b2 env s).bind (ze7 b hb _ b2 env _)).imp fun h he=>⟨by simp only[cK,okC,okCs,and_true];exact⟨by simp[shC],h.1 he,by simp[cN,okC,okCs,shC],h.2 he⟩,b2⟩
 split
 ·exact((ze7 a ha _ b2 env s).bind (ze7 b hb _ b2 env _)).imp fun h he=>⟨by simp only[cK,okC,okCs,and_true];exact⟨by simp[shC],h.1 he,h.2 he,by simp[cN,okC,okCs,shC]⟩,b2⟩
 split
 ·exact((ha env s).bind (hb env _)).imp fun h he=>⟨by simp only[cK,okC,okCs,and_true];exact⟨by simp[shC],(h.1 he).1,(h.2 he).1⟩,b2⟩
 split
 ·exact((ze7 a ha _ b4 env s).bind (ze7 b hb _ b4 env _)).imp fun h he=>⟨by simp only[cK,okC,okCs,and_true];exact⟨by simp[shC],h.1 he,h.2 he⟩,b4⟩
 ·refine((ze7 a ha _ b3 env s).bind (ze7 b hb _ b3 env _)).imp fun h he=>⟨?_,by split<;>assumption⟩
  simp only[okC,okCs,and_true]
  have o:0<=opZ n.text/\opZ n.text<11:=by
   have:=znf (fun x=>decide (x=n.text)) zc4
   have e:zc4.length=11:=rfl
   unfold opZ
   omega
  exact⟨by simp[shC];exact o,h.1 he,h.2 he⟩
def zGy(n a:Nod)(hn:n.kind=12->0<=n.n/\n.n<6){ia:Inf}(ha:GInf M G ia):GInf M G (oneC n a ia):=fun env s=>by
 have b2:=zcJ 2 (by omega) (by omega)
 have b3:=zcJ 3 (by omega) (by omega)
 unfold oneC
 split
 ·exact(ze7 a ha _ b2 env s).imp fun h he=>⟨by simp only[cK,okC,okCs,and_true];exact⟨by simp[shC],h he⟩,b2⟩
 split
 ·exact(ze7 a ha _ b3 env s).imp fun h he=>⟨by simp only[cK,okC,okCs,and_true];exact⟨by simp[shC],h he⟩,b3⟩
 split
 ·rename_i k
  exact(ha env s).imp fun h he=>⟨by simp only[okC,okCs,and_true];exact⟨by simp[shC];exact hn k,(h he).1⟩,b2⟩
 ·exact(ha env s).imp fun h he=>⟨by simp only[cK,okC,okCs,and_true];exact⟨by simp[shC],(h he).1⟩,zcJ 1 (by omega) (by omega)⟩
def zoU:∀{l:List Cor},okCs M G l↔∀x,x∈l->okC M G x
 |[]=>by simp[okCs]
 |c::l=>by simp[okCs,zoU (l:=l)]
def zuf:∀(l:List Nod),(∀x,x∈l->GInf M G (zan L x))->∀env s,Res M G s (EnvN env->okCs M G (za0 L l env s).1.1/\(za0 L l env s).1.1.length=(za0 L l env s).1.2.length) (za0 L l env s).2
 |[],_,env,s=>by rw[za0];exact .ret fun _=>⟨trivial,rfl⟩
 |n::l,h,env,s=>by
  rw[za0]
  exact((h n (by simp) env s).bind (zuf l (fun x hx=>h x (by simp[hx])) env _)).imp fun h he=>⟨⟨(h.1 he).1,(h.2 he).1⟩,by simp[(h.2 he).2]⟩
def zAq:∀(l had:List fC),dupS had l=false->had.Nodup->(had++l).Nodup
 |[],had,_,h=>by simpa using h
 | n::l,had,e,h=>by
  rw[dupS,Bool.or_eq_false_iff]at e
  have:=zAq l (had++[n]) e.2 (bn.2 ⟨h,by simp,fun a ha b hb z=>by
   rw[aL]at hb
   have:=e.1
   rw[dE]at this
   exact this a ha (by simp[z,hb])⟩)
  simpa using this
def zr4:∀l:List Typ,(zaI l).2=true->(zaI l).1.length=l.length
 |[],_=>rfl
 | t::l,h=>by
  rw[zaI]at h⊢
  split at h
  ·rename_i q
   rw[aC q,length_cons,length_cons,zr4 l h]
  ·cases h
def zEB{ns:List fC}{ts:List Typ}(h:(za7 (.mk 5 (bs []) ns ts)).2=0):ns.length=ts.length:=by
 have f:=(zfX h).1
 rw[za2,aC (by omega)]at f
 split at f
 ·rename_i q
  have e:(zaI ts).1.length=ts.length:=zr4 ts q
  rw[finR,aC rfl]at f
  unfold zdM at f
  split at f
  ·cases f
  ·rename_i z;omega
 ·cases f
def zGz(n:Nod)(h:∀x,x∈n.kids->GInf M G (zan L x)):GInf M G (recC n (za0 L n.kids)):=fun env s=>by
 unfold recC
 simp only
 obtain⟨s1,e1⟩:∃s1,(if dupS [] n.names=true then zaW n.line n.col 8 s else s)=s1:=⟨_,rfl⟩
 have h1:Res M G s (n.names.Nodup) s1:=by
  rw[<-e1]
  split
  ·exact .fail (by decide)
  ·rename_i q
   exact .ret (by simpa using zAq n.names [] (by simpa using q) (by simp))
 rw[e1]
 refine(h1.bind ((zuf L n.kids h env s1).bind (zpU _ _ _ _))).imp fun h he=>?_
 have k:=h.2.1 he
 have e:=zEB h.2.2.2
 exact⟨by simp only[okC];exact⟨by simp[shC,k.2,e];exact h.1,k.1⟩,h.2.2.1⟩
def zpW{j:Inf}(h:GInf M G j):GInf M G (zaO j):=fun env s=>by
 unfold zaO
 split
 ·rename_i q;exact⟨Keep.refl s,fun z=>absurd z q⟩
 ·exact h env s
def zpX(n:Nod)(hn:n.kind=2->n.n=0\/n.n=1){rest:Inf}(hr:GInf M G rest)(h:∀x,x∈n.kids->GInf M G (zan L x)):GInf M G (zbK L n rest):=fun env s=>by
 unfold zbK
 split
 ·exact .ret fun _=>⟨by simp[cN,okC,okCs,shC],zcJ 3 (by omega) (by omega)⟩
 split
 ·exact .ret fun _=>⟨by simp[cT,okC,okCs,shC],zcJ 4 (by omega) (by omega)⟩
 split
 ·rename_i k
  exact .ret fun _=>⟨by simp[cN,okC,okCs,shC,hn k],zcJ 2 (by omega) (by omega)⟩
 split
 ·exact .ret fun _=>⟨by simp[cN,okC,okCs,shC],zcJ 1 (by omega) (by omega)⟩
 split
 ·exact .ret fun _=>⟨by simp[cN,okC,okCs,shC],zcJ 3 (by omega) (by omega)⟩
 split
 ·exact zEA L n env s
 split
 ·exact zGz L n h env s
 ·exact hr env s
def zCy(n:Nod)(hn:selN n)(h:∀x,x∈n.kids->GInf M G (zan L x)):GInf M G (zan L n):=by
 obtain⟨k,tx,nn,ln,cl,ts,ns,ks⟩:=n
 rw[selN]at hn
 obtain⟨n9,n2,n12,_⟩:=hn
 match ks,h with
 |[],h=>
  rw[eq0]
  exact zpW (zpX L (.mk k tx nn ln cl ts ns []) n2 (fun env s=>.ret fun _=>⟨by simp[noC,cN,okC,okCs,shC],zea⟩) h)
 |[a],h=>
  have ha:=h a (by simp[Nod.kids])
  rw[eq1]
  refine zpW (zpX L (.mk k tx nn ln cl ts ns [a]) n2 (fun env s=>?_) h)
  unfold ziX
  split
  ·exact g_fn _ _ ha env s
  split
  ·rename_i k9;exact zGx (.mk k tx nn ln cl ts ns [a]) (n9 k9) ha env s
  split
  ·exact g_as _ ha env s
  ·exact zGy (.mk k tx nn ln cl ts ns [a]) _ n12 ha env s
 |[a,b],h=>
  have ha:=h a (by simp[Nod.kids])
  have hb:=h b (by simp[Nod.kids])
  rw[eq2]
  refine zpW (zpX L (.mk k tx nn ln cl ts ns [a,b]) n2 (fun env s=>?_) h)
  unfold ziY
  split
  ·exact zGw _ _ ha hb env s
  split
  ·exact g_call _ _ ha hb env s
  split
  ·exact zFE _ ha hb env s
  ·exact g_op _ _ _ ha hb env s
 |a::b::c::l,h=>
  rw[eq3]
  exact zpW (zpX L (.mk k tx nn ln cl ts ns (a::b::c::l)) n2 (g_if a b c (h a (by simp[Nod.kids])) (h b (by simp[Nod.kids])) (h c (by simp[Nod.kids]))) h)
mutual
def zxp:∀n:Nod,selN n->GInf M G (zan L n)
 |.mk k tx nn ln cl ts ns ks,h=>zCy L _ h (zug ks (by rw[selN]at h;exact h.2.2.2))
def zug:∀l:List Nod,zek l->∀x,x∈l->GInf M G (zan L x)
 |[],_,x,hx=>by cases hx
 |n::l,h,x,hx=>by
  rw[zek]at h
  rcases aM.1 hx with e|e
  ·rw[e];exact zxp n h.1
  ·exact zug l h.2 x e
end
end
end
end Go.Gr
namespace Go.Gr
open Go.Abs Go.Proofs List
def SelM(l:List Mdl):Prop:=∀m,m∈l->∀d,d∈m.decs->selN d.body
def zpH:∀(l:List (fC × fC)) (i:Nat) (ns:List fC) (ms:List Mdl) (bad:List Dia),SelM ms->SelM (zbQ l i ns ms bad).1.2
 |[],i,ns,ms,bad,h=>by rw[zbQ];exact h
 |s::l,i,ns,ms,bad,h=>by
  rw[zbQ]
  refine zpH l _ _ _ _ fun m hm=>?_
  rcases aQ.1 hm with hm|hm
  ·exact h m hm
  ·rw[aL.1 hm];exact zAK s.2
def zCd(l:List (fC × fC)):SelM (zgk l).1.mods:=by
 have h0:SelM noL.mods:=fun m hm=>by cases hm
 have hg:SelM (zcE l).1.2:=by
  unfold zcE
  split
  ·intro m hm;cases hm
  ·exact zpH l 0 [] [] [] fun m hm=>by cases hm
 unfold zgk
 simp only
 repeat' split
 all_goals first|exact h0|exact hg
def zz1{L:Lnk}(hG:LinkG L)(hs:SelM L.mods){m k:Int}(h:EntOk L ⟨bs [],m,k⟩):selN (zdV L m k).body:=by
 obtain⟨mn,kn,M,e1,e2,g1,g2,_⟩:=zhk hG.good h
 exact hs M (af g1) _ (af g2)
section
variable {M G:Nat}
theorem zGp{L:Lnk}(hG:LinkG L)(hs:SelM L.mods){x:Ist}(hx:EntOk L ⟨bs [],x.module,x.decl⟩)(s:CS):
  (s.sites.length<=(funC L x s).sites.length/\s.tab.length<=(funC L x s).tab.length/\(funC L x s).funs.length=s.funs.length+1)/\
  ((funC L x s).bad=[]->s.bad=[]/\((funC L x s).sites.length<=M->(funC L x s).tab.length<=G->(∀f,f∈s.funs->okC M G f.body)->∀f,f∈(funC L x s).funs->okC M G f.body)):=by
 have hd:=zz1 hG hs hx
 have f0:fb (zdq L x s)=fb s:=rfl
 have k0:(zdq L x s).sites=s.sites/\(zdq L x s).tab=s.tab:=⟨rfl,rfl⟩
 unfold funC
 unfold zdq at f0 k0
 simp only
 generalize zdV L x.module x.decl=d at*
 generalize ({s with module:=x.module,vars:=d.vars.map (·.1),wth:=x.types,e:=0}:CS)=s0 at*
 have f1:=zeO (d.types.getD 0 noT) d.line d.col s0
 have r1:=zet (M:=M) (G:=G) (d.types.getD 0 noT) d.line d.col s0
 generalize zar (d.types.getD 0 noT) d.line d.col s0=a at*
 have f2:=zeO (d.types.getD 1 noT) d.line d.col a.2
 have r2:=zet (M:=M) (G:=G) (d.types.getD 1 noT) d.line d.col a.2
 generalize zar (d.types.getD 1 noT) d.line d.col a.2=b at*
 obtain⟨T,hT⟩:∃T,(if b.2.e=0 then zbN (fnT a.1 b.1) d.line d.col b.2 else(fnT a.1 b.1,b.2))=T:=⟨_,rfl⟩
 have p3:fb T.2=fb b.2/\Res M G b.2 True T.2:=by
  rw[<-hT]
  split
  ·exact⟨znF _ _ _ _,(zpU _ _ _ _).imp fun _=>trivial⟩
  ·exact⟨rfl,.ret trivial⟩
 rw[hT]
 clear hT
 obtain⟨S,hS⟩:∃S,(if x.module=L.main.module/\x.decl=L.main.decl/\zhR (bT 1) a.1=false then zaW d.line d.col 14 T.2 else T.2)=S:=⟨_,rfl⟩
 have p4:fb S=fb T.2/\Res M G T.2 True S:=by
  rw[<-hS]
  split
  ·exact⟨zrx _ _ _ _,.fail (by decide)⟩
  ·exact⟨rfl,.ret trivial⟩
 rw[hS]
 clear hS
 have f5:=znG L d.body [(d.param,a.1)] S
 have r5:=zxp (M:=M) (G:=G) L d.body hd [(d.param,a.1)] S
 generalize zan L d.body [(d.param,a.1)] S=y at*
 have f6:=zmY y.1.1 y.1.2 b.1 d.body.line d.body.col y.2
 have r6:=zeu (M:=M) (G:=G) y.1.1 y.1.2 b.1 d.body.line d.body.col y.2
 generalize zaF y.1.1 y.1.2 b.1 d.body.line d.body.col y.2=z at*
 have f:fb z.2=fb s:=by rw[f6,f5,p4.1,p3.1,f2,f1,f0]
 have g1:z.2.funs=s.funs:=dL (·.1) f
 have g2:z.2.bad=s.bad:=dL (·.2) f
 have r:=((r1.bind r2).bind (p3.2.bind p4.2)).bind (r5.bind r6)
 have r:=r.imp fun h=>h.2.2 (h.2.1 fun v hv=>by rw[aL.1 hv];exact h.1.1.1).1 (h.2.1 fun v hv=>by rw[aL.1 hv];exact h.1.1.1).2 h.1.1.2
 rw[<-k0.1,<-k0.2]
 generalize (if 0<x.types.length then zdp x.types 0 (L.names.getD x.module.toNat (bs [])++bs [46]++d.name)++bs [93]else zdp x.types 0 (L.names.getD x.module.toNat (bs [])++bs [46]++d.name))=nm
 split
 ·exact⟨⟨r.1.sites,r.1.tab,by simp[g1]⟩,fun h=>absurd h (by simp)⟩
 ·rename_i q
  refine⟨⟨r.1.sites,r.1.tab,by simp[g1]⟩,fun h=>⟨by rw[<-g2];exact h,fun h1 h2 h3 f hf=>?_⟩⟩
  have hf:f∈z.2.funs++[(⟨nm,T.1,z.1⟩:Fun)]:=hf
  rw[g1]at hf
  rcases aQ.1 hf with hf|hf
  ·exact h3 f hf
  ·rw[aL.1 hf]
   exact r.2 (by simpa using q) h1 h2
def zz2{L:Lnk}(hG:LinkG L)(hs:SelM L.mods):∀(n i:Nat) (s:CS),i+n<=257->TOk L s i->
  (s.sites.length<=(zbI L n i s).sites.length/\s.tab.length<=(zbI L n i s).tab.length)/\
  ((zbI L n i s).bad=[]->s.bad=[]/\((zbI L n i s).sites.length<=M->(zbI L n i s).tab.length<=G->(∀f,f∈s.funs->okC M G f.body)->∀f,f∈(zbI L n i s).funs->okC M G f.body))/\
  (i+n=257->s.funs.length=i->(zbI L n i s).tab.length<=(zbI L n i s).funs.length)
 |0,i,s,hi,h=>by
  rw[zbI]
  exact⟨⟨aN _,aN _⟩,fun e=>⟨e,fun _ _ h=>h⟩,fun e1 e2=>by have:=h.tab;omega⟩
 | n+1,i,s,hi,h=>by
  rw[zbI]
  split
  ·rename_i q
   have hm:s.tab.getD i ⟨0,0,[]⟩∈s.tab:=by
    rw[aH,aA q]
    exact aS q
   have h1:=h.ist _ hm
   have k:=zGp (M:=M) (G:=G) hG hs h1.1 s
   have r:=zz2 hG hs n (i+1) _ (by omega) (zk6 hG h1.1 h1.2 (by omega) h)
   refine⟨⟨ak k.1.1 r.1.1,ak k.1.2.1 r.1.2⟩,fun e=>?_,fun e1 e2=>r.2.2 (by omega) (by rw[k.1.2.2];omega)⟩
   have r2:=r.2.1 e
   have k2:=k.2 r2.1
   exact⟨k2.1,fun a b hf=>r2.2 a b (k2.2 (ak r.1.1 a) (ak r.1.2 b) hf)⟩
  ·rename_i q
   exact⟨⟨aN _,aN _⟩,fun e=>⟨e,fun _ _ h=>h⟩,fun e1 e2=>by omega⟩
end
def ztD{L:Lnk}(hG:LinkG L):∀(n i:Nat) (s:CS),i+n<=257->TOk L s i->(zbI L n i s).sites.length<=1000000000
 |0,i,s,hi,h=>by rw[zbI];have:=h.sites;omega
 | n+1,i,s,hi,h=>by
  rw[zbI]
  split
  ·rename_i q
   have hm:s.tab.getD i ⟨0,0,[]⟩∈s.tab:=by
    rw[aH,aA q]
    exact aS q
   have h1:=h.ist _ hm
   exact ztD hG n (i+1) _ (by omega) (zk6 hG h1.1 h1.2 (by omega) h)
  ·have:=h.sites;omega
structure PrgK (p:Prg):Prop where
 good:PrgG p
 ok:∀f,f∈p.funs->okC p.sites.length p.funs.length f.body
 sites:p.sites.length<=1000000000
def zz3{M G G':Nat}(h:G<=G'):∀(n:Nat) (c:Cor),csz c<=n->okC M G c->okC M G' c
 |0,.mk _ _ _ _ _ _ _ ks,e,_=>by rw[csz]at e;omega
 | n +1,.mk k _ _ _ ns ts _ ks,e,hc=>by
  rw[csz]at e
  rw[okC]at hc⊢
  refine⟨?_,?_⟩
  ·have:=hc.1
   unfold shC at this⊢
   rcases this with h|h|h|h|h|h|h|h|h|h
   ·exact .inl h
   ·exact .inr (.inl h)
   ·exact .inr (.inr (.inl (by omega)))
   ·exact .inr (.inr (.inr (.inl h)))
   ·exact .inr (.inr (.inr (.inr (.inl h))))
   ·exact .inr (.inr (.inr (.inr (.inr (.inl h)))))
   ·exact .inr (.inr (.inr (.inr (.inr (.inr (.inl h))))))
   ·exact .inr (.inr (.inr (.inr (.inr (.inr (.inr (.inl h)))))))
   ·exact .inr (.inr (.inr (.inr (.inr (.inr (.inr (.inr (.inl h))))))))
   ·exact .inr (.inr (.inr (.inr (.inr (.inr (.inr (.inr (.inr h))))))))
  ·have key:∀l:List Cor,cszs l<=n->okCs M G l->okCs M G' l:=fun l=>by
    induction l with
    |nil=>intro _ _;trivial
    |cons c l ih=>
     intro e h
     rw[cszs]at e
     rw[okCs]at h⊢
     exact⟨zz3 (by assumption) n c (by omega) h.1,ih (by omega) h.2⟩
   exact key ks (by omega) hc.2
def znW{l:List (fC × fC)}(h:(zbU l).2=true):PrgK (zbU l).1:=by
 have hg:=ztg l
 unfold zbU at h hg⊢
 split at h
 ·cases h
 rename_i q1
 rw[aB q1]at hg⊢
 simp only at h hg⊢
 split at h
 ·cases h
 rename_i q2
 rw[aB q2]at hg⊢
 have hG:=zl3 l (by omega)
 have hs:=zCd l
 generalize (zgk l).1=L at*
 have h0:=zpr L.mods 0 cs0 (by simp) (zAO L)
 have hf0:(zcz L L.mods 0 cs0).1.funs=[]:=by rw[zkO];try rfl
 unfold zge at h hg⊢
 simp only at h hg⊢
 by_cases q3:0<(zcz L L.mods 0 cs0).2.length
 ·rw[aC q3]at h;simp at h;rw[h]at q3;simp at q3
 rw[aB q3]at h hg⊢
 by_cases q4:0<(zbI L 257 0 (zcz L L.mods 0 cs0).1).bad.length
 ·rw[aC q4]at h;simp at h;rw[h]at q4;simp at q4
 rw[aB q4]at h hg⊢
 have hb:(zbI L 257 0 (zcz L L.mods 0 cs0).1).bad=[]:=aT.1 (by omega)
 have hk:=zz2 (M:=(zbI L 257 0 (zcz L L.mods 0 cs0).1).sites.length) (G:=(zbI L 257 0 (zcz L L.mods 0 cs0).1).tab.length) hG hs 257 0 _ (by omega) h0
 have ht:=ztD hG 257 0 _ (by omega) h0
 refine⟨hg,fun f hf=>?_,ht⟩
 have hl:=hk.2.2 (by omega) (by rw[hf0];rfl)
 exact zz3 hl _ _ (aN _) ((hk.2.1 hb).2 (aN _) (aN _) (fun f hf=>by rw[hf0]at hf;cases hf) f hf)
end Go.Gr
namespace Go.Gr
open Go.Abs Go.Proofs List
def inP(n:Nat)(C:Coe):Prop:=(∀x,x∈C.fields->inN n x)/\∀x,x∈C.fn->inN n x
def inP.put{n:Nat}{C:Coe}(h:inP n C)(k:fC){d:Coe}(hd:inN n d):inP n (putR C k d):=by
 unfold putR
 split
 ·exact h
 ·refine⟨fun x hx=>?_,h.2⟩
  rcases aQ.1 hx with hx|hx
  ·exact h.1 x hx
  ·rw[aL.1 hx];exact hd
section
variable {n:Nat} {v:Typ->Typ->Int->Coe} (hv:∀x y l,inN n (v x y l))
include hv
def zDW(lb:Int):∀(ns:List fC) (ks:List Typ) (C:Coe),inP n C->inP n (mkA v lb ns ks C)
 |[],_,C,h=>by rw[mkA];exact h;intros;contradiction
 |_::_,[],C,h=>by rw[mkA];exact h;intros;contradiction
 |k::ns,t::ks,C,h=>by rw[mkA];exact zDW lb ns ks _ (h.put k (hv _ _ _))
def zDX(m:Prt)(lb:Int):∀(ns:List fC) (ks:List Typ) (C:Coe),inP n C->inP n (mkB v m lb ns ks C)
 |[],_,C,h=>by rw[mkB];exact h;intros;contradiction
 |_::_,[],C,h=>by rw[mkB];exact h;intros;contradiction
 | k::ns,t::ks,C,h=>by
  rw[mkB]
  have h1:inP n (if(zaD m.t k).2=false then zbA C k lb else C):=by
   split
   ·exact h
   ·exact h
  refine zDX m lb ns ks _ ?_
  split
  ·exact h1.put k (hv _ _ _)
  ·exact h1
def zDY(R:List Prt)(lb:Int):∀(L:List Prt) (C:Coe),inP n C->inP n (zdE v R lb L C)
 |[],C,h=>by rw[zdE];exact h
 | m::L,C,h=>by
  rw[zdE]
  refine zDY R lb L _ ?_
  unfold zfh
  split
  ·exact h
  split
  ·refine⟨h.1,fun x hx=>?_⟩
   have hx:x∈zbj _ _:=hx
   unfold zbj at hx
   split at hx
   ·cases hx
   ·rcases aM.1 hx with e|hx
    ·rw[e];exact hv _ _ _
    ·rw[aL.1 hx];exact hv _ _ _
  split
  ·unfold mkR
   split
   ·split
    ·exact h
    ·exact zDW hv _ _ _ _ h
   ·exact zDX hv _ _ _ _ _ h
  ·exact h
end
def zxn:∀(n:Nat) (a b:Typ) (lb:Int),inN n (zc6 n a b lb)
 |0,a,b,lb=>rfl
 |n+1,a,b,lb=>by
  rw[zc6]
  split
  ·exact zqD _
  ·exact zDY (fun x y l=>zxn n x y l) _ _ _ _ ⟨fun x hx=>(by cases hx),fun x hx=>(by cases hx)⟩
def coK(d:Coe)(k:Cor):Cor:=.mk 22 0 (bs []) [] [] [] [d] [k]
mutual
def zbq:Cor->Cor
 |.mk k n t is ns ts cs ks=>if k=21 then .mk 22 0 (bs []) [] [] [] [zc6 32 (ts.getD 0 noT) (ts.getD 1 noT) (2*n+2)] (zbG ks)else .mk k n t is ns ts cs (zbG ks)
def zbG:List Cor->List Cor
 |[]=>[]
 |c::l=>zbq c::zbG l
end
def zgR:∀l:List Cor,zbG l=l.map zbq
 |[]=>rfl
 |c::l=>by rw[zbG,zgR l];try rfl
def tagK(c:Cor):Int:=if c.kind=0\/c.kind=20 then 2 else if c.kind=1 then 3 else if c.kind=2 then 1 else if c.kind=3 then 0 else if c.kind=5\/c.kind=6 then 5 else -1
def idleC(d:Coe)(k:Cor):Bool:=za9 d idC||(decide (0<=tagK k)&&decide (tagZ d (tagK k).toNat=0)&&(decide (tagK k≠5)||decide (d.fn.length=0)))
def zeH(d:Coe)(k:Cor):Cor:=
 let d':=if k.kind=22 then zbx 32 (k.cos.getD 0 idC) d else d
 let k':=if k.kind=22 then k.kids.getD 0 noC else k
 if idleC d' k'=true then k' else coK d' k'
mutual
def zbZ:Cor->Cor
 |.mk k n t is ns ts cs ks=>if k=22 then zeH (cs.getD 0 idC) ((zes ks).getD 0 noC)else .mk k n t is ns ts cs (zes ks)
def zes:List Cor->List Cor
 |[]=>[]
 |c::l=>zbZ c::zes l
end
def zhI:∀l:List Cor,zes l=l.map zbZ
 |[]=>rfl
 |c::l=>by rw[zes,zhI l];try rfl
def zyx(trim:Bool)(c:Cor):Cor:=if trim=true then zbZ (zbq c)else zbq c
def zaS(trim:Bool)(p:Prg):Prg:=⟨p.funs.map fun f=>⟨f.name,f.type,zyx trim f.body⟩,p.main,p.sites⟩
def zeh(B:Nat)(d:Coe):Prop:=mayC d=true/\smC B d/\inN 32 d
mutual
def pcC:Cor->Prop
 |.mk k _ _ _ _ _ cs ks=>k≠21/\(k=22->(∃d,cs=[d]/\zeh 16 d)/\ks.length=1)/\pcCs ks
def pcCs:List Cor->Prop
 |[]=>True
 |c::l=>pcC c/\pcCs l
end
mutual
def tcC(B:Nat):Cor->Prop
 |.mk k _ _ _ _ _ cs ks=>k≠21/\(k=22->∃d x,cs=[d]/\ks=[x]/\x.kind≠22/\zeh B d)/\tcCs B ks
def tcCs(B:Nat):List Cor->Prop
 |[]=>True
 |c::l=>tcC B c/\tcCs B l
end
def zoQ:∀{l:List Cor},pcCs l↔∀x,x∈l->pcC x
 |[]=>by simp[pcCs]
 |c::l=>by simp[pcCs,zoQ (l:=l)]
def zin{B:Nat}:∀{l:List Cor},tcCs B l↔∀x,x∈l->tcC B x
 |[]=>by simp[tcCs]
 |c::l=>by simp[tcCs,zin (l:=l)]
def zr2{a b:Typ}{n:Int}(ha:isNR a=true)(hb:isNR b=true)(hn:0<=n):zeh 16 (zc6 32 a b (2*n+2)):=by
 have h:=zvc 32 a b (2*n+2) (by omega) (zfH ha) (zfH hb)
 exact⟨h.1,h.2,zxn _ _ _ _⟩
def zeh.le{A B:Nat}(hAB:A<=B){d:Coe}(h:zeh A d):zeh B d:=⟨h.1,ztY hAB 32 h.2.2 h.2.1,h.2.2⟩
def zeh.comp{A B:Nat}(hAB:2<=A+B){c d:Coe}(h:zeh A c)(k:zeh B d):zeh (A+B) (zbx 32 c d):=⟨zkY _ _ _ h.1 k.1,(zkG hAB 32 h.2.2 k.2.2 h.1 k.1 h.2.1 k.2.1).1,znC _ h.1 k.1 h.2.2 k.2.2⟩
variable {M G:Nat}
def shC.inv{n:Int}{ns:List fC}{ts:List Typ}{q:Nat}(h:shC M G 21 n ns ts q):q=1/\0<=n/\n<M/\∃a b,ts=[a,b]/\isNR a=true/\isNR b=true:=by
 simpa[shC]using h
def shC.n22{n:Int}{ns:List fC}{ts:List Typ}{q:Nat}(h:shC M G 22 n ns ts q):False:=by
 simp[shC]at h
mutual
def zio:∀c:Cor,okC M G c->pcC (zbq c)
 | .mk k n t is ns ts cs ks,h=>by
  rw[okC]at h
  have hk:=zr3 ks h.2
  have hl:(zbG ks).length=ks.length:=by rw[zgR];simp
  rw[zbq]
  split
  ·rename_i q
   subst q
   obtain⟨h2,h3,h4,a,b,e,na,nb⟩:=h.1.inv
   subst e
   rw[pcC]
   exact⟨by decide,fun _=>⟨⟨_,rfl,zr2 na nb h3⟩,by omega⟩,hk⟩
  ·rename_i q
   rw[pcC]
   refine⟨q,fun e=>?_,hk⟩
   subst e
   exact h.1.n22.elim
def zr3:∀l:List Cor,okCs M G l->pcCs (zbG l)
 |[],_=>trivial
 |c::l,h=>by rw[okCs]at h;rw[zbG,pcCs];exact⟨zio c h.1,zr3 l h.2⟩
end
mutual
def zmk:∀c:Cor,csz (zbq c)=csz c
 |.mk k n t is ns ts cs ks=>by
  have:=zpR ks
  rw[zbq]
  split<;>simp only[csz]<;>omega
def zpR:∀l:List Cor,cszs (zbG l)=cszs l
 |[]=>rfl
 |c::l=>by rw[zbG,cszs,cszs,zmk c,zpR l]
end
mutual
def ziq:∀(c:Cor) (m:Nat),wfC m c->wfC m (zbq c)
 | .mk k n t is ns ts cs ks,m,h=>by
  rw[wfC]at h
  obtain⟨h23,h18,h21,h4,h5,hk⟩:=h
  have hs:=zml ks m k 0 hk
  have hl:(zbG ks).length=ks.length:=by rw[zgR];simp
  rw[zbq]
  split
  ·rename_i q
   subst q
   have hs:wfCs m 22 (zbG ks) 0:=by
    have:=zml ks m 22 0 (by
     have hl1:=(h21 rfl).1
     match ks,hl1,hk with
     |[x],_,hk=>simpa[wfCs]using hk)
    exact this
   rw[wfC]
   exact⟨by decide,fun e=>absurd e (by decide),fun e=>absurd e (by decide),fun e=>absurd e (by decide),fun e=>absurd e (by decide),hs⟩
  ·rw[wfC]
   refine⟨h23,fun e=>by rw[hl];exact h18 e,fun e=>by rw[hl];exact h21 e,fun e=>?_,fun e=>by rw[hl];exact h5 e,hs⟩
   obtain⟨a,b,c⟩:=h4 e
   subst c
   exact⟨a,b,rfl⟩
def zml:∀(l:List Cor) (m:Nat) (k:Int) (i:Nat),wfCs m k l i->wfCs m k (zbG l) i
 |[],m,k,i,_=>trivial
 |c::l,m,k,i,h=>by
  rw[wfCs]at h
  rw[zbG,wfCs]
  exact⟨ziq c _ h.1,zml l m k (i+1) h.2⟩
end
structure TK (B m:Nat) (s:Nat) (c:Cor):Prop where
 tc:tcC B c
 wf:wfC m c
 sz:csz c<=s
def zt8{A B:Nat}(hAB:A<=B):∀(n:Nat) (c:Cor),csz c<=n->tcC A c->tcC B c
 |0,c,h,_=>by have:=zf9 c;omega
 | n+1,.mk k _ _ _ _ _ cs ks,h,hc=>by
  rw[tcC]at hc⊢
  rw[csz]at h
  refine⟨hc.1,fun e=>?_,zin.2 fun x hx=>?_⟩
  ·obtain⟨d,x,h1,h2,h3,h4⟩:=hc.2.1 e
   exact⟨d,x,h1,h2,h3,h4.le hAB⟩
  ·obtain⟨j,hj,rfl⟩:=bM hx
   have:=zfK hj
   exact zt8 hAB n _ (by omega) (zin.1 hc.2.2 _ (aS hj))
def zCu{B m s:Nat}{d:Coe}{k:Cor}(hd:zeh 16 d)(h:TK B m s k):TK (B+16) m (s+1) (zeH d k):=by
 have key:∀(d':Coe) (k':Cor),zeh (B+16) d'->k'.kind≠22->TK (B+16) m s k'->TK (B+16) m (s+1) (if idleC d' k'=true then k' else coK d' k'):=fun d' k' gd nk tk=>by
  split
  ·exact⟨tk.tc,tk.wf,by have:=tk.sz;omega⟩
  ·refine⟨?_,?_,?_⟩
   ·unfold coK
    rw[tcC]
    exact⟨by decide,fun _=>⟨d',k',rfl,rfl,nk,gd⟩,tk.tc,trivial⟩
   ·unfold coK
    rw[wfC]
    exact⟨by decide,fun e=>absurd e (by decide),fun e=>absurd e (by decide),fun e=>absurd e (by decide),fun e=>absurd e (by decide),by simpa[wfCs]using tk.wf⟩
   ·have:=tk.sz
    simp only[coK,csz,cszs];omega
 have h':TK (B+16) m s k:=⟨zt8 (by omega) _ k (aN _) h.tc,h.wf,h.sz⟩
 unfold zeH
 simp only
 by_cases q:k.kind=22
 ·rw[aC q,aC q]
  obtain⟨k0,n,t,is,ns,ts,cs,ks⟩:=k
  have q:k0=22:=q
  subst q
  have ht:=h.tc
  rw[tcC]at ht
  obtain⟨e,x,h1,h2,h3,h4⟩:=ht.2.1 rfl
  subst h1;subst h2
  refine key _ _ (h4.comp (by omega) hd) h3 ⟨?_,?_,?_⟩
  ·have:=h'.tc
   rw[tcC,tcCs]at this
   exact this.2.2.1
  ·have:=h.wf
   rw[wfC,wfCs]at this
   show wfC m x
   simpa using this.2.2.2.2.2.1
  ·have:=h.sz
   rw[csz,cszs]at this
   show csz x<=s
   omega
 ·rw[aB q,aB q]
  exact key _ _ (hd.le (by omega)) q h'
def znq:∀(n:Nat) (c:Cor) (m:Nat),csz c<=n->pcC c->wfC m c->TK (16*csz c) m (csz c) (zbZ c)
 |0,c,m,h,_,_=>by have:=zf9 c;omega
 | n + 1,c,m,h,hp,hw=>by
  have hz:=zf9 c
  obtain⟨k,nn,t,is,ns,ts,cs,ks⟩:=c
  rw[pcC]at hp
  rw[wfC]at hw
  simp only[Cor.kids]at hz
  have hk:∀(j:Nat) (hj:j<ks.length) (m':Nat),wfC m' ks[j]->TK (16*csz ks[j]) m' (csz ks[j]) (zbZ ks[j]):=fun j hj m' hw'=>by
   have:=zfK hj
   exact znq n _ m' (by omega) (zoQ.1 hp.2.2 _ (aS hj)) hw'
  rw[zbZ]
  by_cases q:k=22
  ·rw[aC q]
   subst q
   obtain⟨⟨d,h1,h2⟩,h3⟩:=hp.2.1 rfl
   subst h1
   match ks,h3,hk,hw,hz with
   |[x],_,hk,hw,hz=>
    have hx:=hk 0 (by simp) m (by have:=hw.2.2.2.2.2;rw[wfCs]at this;simpa using this.1)
    simp only[getElem_cons_zero]at hx
    have hz:csz (Cor.mk 22 nn t is ns ts [d] [x])=csz x+1:=by simp only[csz,cszs];omega
    rw[hz]
    have:=zCu h2 hx
    exact⟨by rw[Nat.mul_add];exact this.tc,this.wf,this.sz⟩
  ·rw [aB q,zhI]
   refine⟨?_,?_,?_⟩
   ·rw[tcC]
    refine⟨hp.1,fun e=>absurd e q,zin.2 fun x hx=>?_⟩
    obtain⟨y,hy,rfl⟩:=ai.1 hx
    obtain⟨j,hj,rfl⟩:=bM hy
    have:=zfK hj
    obtain⟨m',hw'⟩:∃m',wfC m' ks[j]:=by
     by_cases q5:k=5
     ·subst q5
      have hl:=hw.2.2.2.2.1 rfl
      match ks,hl,hw,j,hj with
      |[x],_,hw,0,_=>exact⟨m+1,by have:=hw.2.2.2.2.2;rw[wfCs]at this;simpa using this.1⟩
     ·exact⟨_,zkb q5 hj hw.2.2.2.2.2⟩
    exact zt8 (by rw[hz];omega) _ _ (aN _) (hk j hj m' hw').tc
   ·have hs:∀(l:List Cor) (i j:Nat),ks.drop j=l->wfCs m k l i->wfCs m k (l.map zbZ) i:=fun l=>by
     induction l with
     |nil=>intro i j _ _;trivial
     | cons y l ih=>
      intro i j e hw
      have hj:j<ks.length:=by
       rcases aW j ks.length with z|z
       ·exact z
       ·rw[d9 z]at e;cases e
      rw[aG hj]at e
      injection e with e1 e2
      rw[wfCs]at hw
      rw[map_cons,wfCs]
      refine⟨?_,ih (i+1) (j+1) e2 hw.2⟩
      rw[<-e1]at hw⊢
      exact(hk j hj _ hw.1).wf
    rw[wfC]
    refine⟨hw.1,fun e=>by simpa using hw.2.1 e,fun e=>absurd e hp.1,fun e=>?_,fun e=>by simpa using hw.2.2.2.2.1 e,hs ks 0 0 (by simp) hw.2.2.2.2.2⟩
    obtain⟨a,b,c⟩:=hw.2.2.2.1 e
    subst c
    exact⟨a,b,rfl⟩
   ·have hs:∀(l:List Cor) (j:Nat),ks.drop j=l->cszs (l.map zbZ)<=cszs l:=fun l=>by
     induction l with
     |nil=>intro j _;exact aN _
     | cons y l ih=>
      intro j e
      have hj:j<ks.length:=by
       rcases aW j ks.length with z|z
       ·exact z
       ·rw[d9 z]at e;cases e
      rw[aG hj]at e
      injection e with e1 e2
      have:=ih (j+1) e2
      have h2:csz (zbZ y)<=csz y:=by
       rw[<-e1]
       obtain⟨m',hw'⟩:∃m',wfC m' ks[j]:=by
        by_cases q5:k=5
        ·subst q5
         have hl:=hw.2.2.2.2.1 rfl
         match ks,hl,hw,j,hj with
         |[x],_,hw,0,_=>exact⟨m+1,by have:=hw.2.2.2.2.2;rw[wfCs]at this;simpa using this.1⟩
        ·exact⟨_,zkb q5 hj hw.2.2.2.2.2⟩
       exact(hk j hj m' hw').sz
      rw[map_cons,cszs,cszs];omega
    have:=hs ks 0 (by simp)
    simp only[csz]
    omega
end Go.Gr
