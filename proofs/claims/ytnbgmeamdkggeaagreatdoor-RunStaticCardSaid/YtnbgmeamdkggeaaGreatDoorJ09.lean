/- Texts of ours, joined and written short by a program of ours. -/
import Derived.Test.YtnbgmeamdkggeaaGreatDoorJ08
set_option maxRecDepth 20000
set_option maxHeartbeats 4000000
set_option linter.unusedVariables false
set_option linter.unusedSectionVars false
set_option linter.unusedSimpArgs false
set_option linter.defProp false
set_option linter.unnecessarySimpa false
namespace Go.Gr
open Go.Abs Go.Proofs List
def M9(s:di):∀l,jD s l<=l.length
|[]=>aK _
|n::l=>by have:=M9 s l;unfold jD;split<;>simp<;>omega
abbrev sU:Blk:=.box [.d (.int .i64 0),.d (.str (bs [])),.d (.sl true 1 []),.d (.sl true 4 [])]
abbrev CB(ns:List di)(ts:List fZ)(i:Nat):List (Nat × AV):=[(7,.c (.d (.int .i64 i))),(6,.c (.ptr 1 0)),(4,.c (.ptr 0 0)),(1,.c (.d (.sl false 4 (ts.map fZ.enc)))),(0,.c (.d (.sl false 1 (encS ns))))]
abbrev zb(ns:List di)(ks:List fZ):List Blk:=[sU,.box [.d (.int .i64 5),.d (.str (bs [])),.msl 1 2 0 ns.length,.msl 4 3 0 ks.length],.arr 1 ((encS ns).map (·.map .d)),.arr 4 ((ks.map fZ.enc).map (·.map .d))]
def zE9{c:Ctx}(hp:c.pure)(ns:List di)(ts:List fZ)(i:Nat)(hi:i<ns.length)(ok:Bool)(ms:List di)(ks:List fZ)(hms:ms.length<=100){Q:Exit->St->Prop}{S:St}{g}{l:List Nat}
  (h0:iU l S ((9,.c (.d (.int .i64 0)))::(8,.c (.d (.bool ok)))::CB ns ts i) (zb ms ks))
  (hQ:∀T,Abs.look T 9=.c (.d (.int .i64 (jD ns[i] ms)))->Abs.look T 8=.c (.d (.bool ok))->Abs.look T 7=.c (.d (.int .i64 i))->Abs.look T 6=.c (.ptr 1 0)->Abs.look T 4=.c (.ptr 0 0)->Abs.look T 1=.c (.d (.sl false 4 (ts.map fZ.enc)))->Abs.look T 0=.c (.d (.sl false 1 (encS ns)))->Q (.exit 2) ⟨T,hpOf (zb ms ks),4⟩):qO Pg c Lx Q g S:=by
 refine eP gD hp (λk:Nat=>k<=ms.length/\k+jD ns[i] (ms.drop k)=jD ns[i] ms) (λk=>(9,.c (.d (.int .i64 k)))::(8,.c (.d (.bool ok)))::CB ns ts i) (λ_=>zb ms ks) (λk=>ms.length-k) 0 l ⟨by simp,by simp⟩ h0 λk ⟨h1,h2⟩=>?_;unfold Lx;simp;apply fM<;>intro h
 ·have hk:k<ms.length:=by simpa using h
  rw[aG hk,jD]at h2;simp[aD hk,aD hi];refine⟨hk,by decide,?_⟩;apply fM<;>intro h
  ·rw[aB (by unfold Dp;exact h)]at h2;refine dm (k+1) [0,1,2,3] ⟨by omega,by omega⟩ (by omega) ?_;simp;exact wI
  ·rw[aA (by unfold Dp;simpa using h)]at h2;exact hQ _ (by simp;omega) (by simp) (by simp) (by simp) (by simp) (by simp) (by simp)
 ·have hk:k=ms.length:=by simp at h;omega
  subst hk;rw[aQ,jD]at h2;simp;exact⟨by decide,hQ _ (by simp;omega) (by simp) (by simp) (by simp) (by simp) (by simp) (by simp)⟩
def Ma(ms:List di)(ks:List fZ):fZ.enc (.mk 5 (bs []) ms ks)=[.int .i64 5,.str (bs []),.sl false 1 (encS ms),.sl false 4 (ks.map fZ.enc)]:=by rw[fZ.enc_eq];try rfl
def uw(ks:List fZ):take ks.length (List.map ((λx=>List.map AC.d x)∘fZ.enc) ks)=List.map ((λx=>List.map AC.d x)∘fZ.enc) ks:=aH (by simp)
def zFa(ms:List di):take ms.length (List.map (λx=>List.map AC.d x) (encS ms))=List.map (λx=>List.map AC.d x) (encS ms):=aH (by simp)
def mid{α:Type}{l:List α}{k n:Nat}(hn:n=l.length)(hk:k<=l.length)(x:α):take (k+1) (take k (take k l)++[x])++take (n-k) (drop k l)=take k l++x::drop k l:=by
 subst hn;rw[aH (l:=take k (take k l)++[x]) (by simp;omega),aH (l:=drop k l) (by simp),take_take,Nat.min_self,dI];rfl
def Ir{ks:List fZ}{L:List (List AC)}(h:∀x,x∈L->x∈List.map ((λx=>List.map AC.d x)∘fZ.enc) ks)(n:Nat):∀x,x∈L->AC.lts n x=true:=λx hx=>by
 obtain⟨t,_,rfl⟩:=bI.1 (h x hx);simp
theorem zBQ(ns:List di)(ts:List fZ):fu Pg 168 [.one (.sl false 1 (encS ns)),.one (.sl false 4 (ts.map fZ.enc))] (.tup [.agg (xB ns ts).1.enc,.one (.bool (xB ns ts).2)]):=by
 refine zwK (by simp) λo c hN hp=>?_;have hb:fZ.enc (.mk 5 (bs []) [] [])=[.int .i64 5,.str (bs []),.sl false 1 [],.sl false 4 []]:=rfl;obtain⟨R,hR⟩:∃R,xB ns ts=R:=⟨_,rfl⟩
 rw[hR];unfold xB at hR;unfold U3;by_cases h1:ns.length=ts.length;rotate_left
 ·have h1':¬(ns.length:Int)=ts.length:=by omega
  rw[aB (.inl h1)]at hR;subst hR;simp[h1,h1',hb]
 by_cases h2:16<ns.length
 ·have h2':(16:Int)<ns.length:=by omega
  have h2'':(16:Int)<ts.length:=by omega
  rw[aB (.inr h2)]at hR;subst hR;simp[h1,h2',h2'',hb]
 have h2':¬(16:Int)<ns.length:=by omega
 have h2'':¬(16:Int)<ts.length:=by omega
 rw[aA (by omega)]at hR;simp[h1,h2',h2''];refine eY [.c 1 2,.c 1 3] ?_;simp;refine eP gD hp (λx:Nat × List di × List fZ=>x.1<=ns.length/\x.2.1.length=x.2.2.length/\x.2.1.length<=x.1/\jI (ns.drop x.1) (ts.drop x.1) x.2.1 x.2.2=jI ns ts [] []) (λx=>CB ns ts x.1) (λx=>zb x.2.1 x.2.2) (λx=>ns.length-x.1) (0,[],[]) [0,1,2,3] ⟨by simp,rfl,by simp,by simp⟩ (by simp[encS]) λ⟨i,ms,ks⟩ ⟨i1,i2,i3,i4⟩=>?_;unfold U2;simp only at i1 i2 i3 i4;simp;apply fM<;>intro h
 ·have hi:i<ns.length:=by simpa using h
  have ht:i<ts.length:=by omega
  rw[aG hi,aG ht,jI]at i4;simp[aD hi];refine fU (VI _) ?_;simp;refine zE9 hp ns ts i hi (mJ ns[i]) ms ks (by omega) (l:=[0,1,2,3]) (by simp) λT t9 t8 t7 t6 t4 t1 t0=>?_;have hpl:=M9 ns[i] ms;generalize jD ns[i] ms=k at*
  simp (maxSteps:=400000) [t9,t8,t7,t6];by_cases hn:mJ ns[i]=true;rotate_left
  ·rw[aB (.inl (by simpa using hn))]at i4;rw[<-i4]at hR;subst hR;have z1:take ms.length (encS ms)=encS ms:=aH (by simp);have z2:take ks.length (List.map fZ.enc ks)=List.map fZ.enc ks:=aH (by simp);simp[hn,t4];refine⟨by decide,?_⟩;simp[z1,z2,Ma]
  have hks:k<=ks.length:=by omega
  have hmin:min k ms.length=k:=by omega
  have hmin2:min k ks.length=k:=by omega
  by_cases hk:k<ms.length
  ·by_cases he:ms[k]=ns[i]
   ·rw[aB (.inr (by rw[aD hk,he]))]at i4;rw[<-i4]at hR;subst hR;have z1:take ms.length (encS ms)=encS ms:=aH (by simp);have z2:take ks.length (List.map fZ.enc ks)=List.map fZ.enc ks:=aH (by simp);simp[hn,t4,t0,hk,aD hk,aD hi,he];refine⟨by decide,?_⟩;simp[z1,z2,Ma]
   ·rw[aA (by rw[aD hk];simp[hn,he])]at i4;simp[hn,t4,t0,t1,hk,aD hk,aD hi,aD ht,he,hmin,hmin2,hpl,hks];refine⟨by decide,by omega,by omega,by omega,by omega,by omega,by omega,?_⟩;refine dm (i+1,ms.take k++ns[i]::ms.drop k,ks.take k++ts[i]::ks.drop k) [0,1,6,9] ⟨by simp only;omega,by simp;omega,by simp;omega,i4⟩ (by simp only;omega) ?_;simp[t0,t1,t4,t6,t7];refine⟨wI,⟨by omega,by omega⟩,?_,mid (by simp) (by simp;omega) _,Ir (λx hx=>cZ hx) 4,Ir (λx hx=>d9 hx) 4⟩;rw[mid (l:=List.map (λx=>List.map AC.d x) (encS ms)) (by simp) (by simp;omega)];simp[encS,map_take,map_drop]
  ·have hk2:k=ms.length:=by omega
   rw[aA (by rw[aM (by omega)];simp[hn])]at i4;simp[hn,t4,t0,t1,hk,aD hi,aD ht,hmin,hmin2,hpl,hks];refine⟨by decide,by omega,by omega,by omega,by omega,by omega,by omega,?_⟩;refine dm (i+1,ms.take k++ns[i]::ms.drop k,ks.take k++ts[i]::ks.drop k) [0,1,6,9] ⟨by simp only;omega,by simp;omega,by simp;omega,i4⟩ (by simp only;omega) ?_;simp[t0,t1,t4,t6,t7];refine⟨wI,⟨by omega,by omega⟩,?_,mid (by simp) (by simp;omega) _,Ir (λx hx=>cZ hx) 4,Ir (λx hx=>d9 hx) 4⟩;rw[mid (l:=List.map (λx=>List.map AC.d x) (encS ms)) (by simp) (by simp;omega)];simp[encS,map_take,map_drop]
 ·have hi:i=ns.length:=by simp at h;omega
  subst hi;rw[aQ,jI]at i4;rotate_left
  ·intros;contradiction
  rw[<-i4]at hR;subst hR;have z1:take ms.length (List.map (λx=>List.map AC.d x) (encS ms))=List.map (λx=>List.map AC.d x) (encS ms):=zFa ms;have z3:take ms.length (encS ms)=encS ms:=aH (by simp);have z4:take ks.length (List.map fZ.enc ks)=List.map fZ.enc ks:=aH (by simp);simp[z1,uw,Ma,z3,z4]
def Du(ks:List fZ):fZ.enc (.mk 7 (bs []) [] ks)=[.int .i64 7,.str (bs []),.sl false 1 [],.sl false 4 (ks.map fZ.enc)]:=by rw[fZ.enc_eq];try rfl
mutual
def Mc:∀t:fZ,nA t t=true
|.mk k n s l=>by rw[nA];simp[fZ.kind,fZ.name,fZ.names,fZ.kids,VX l]
def VX:∀l:List fZ,xm l l=true
|[]=>rfl
|t::l=>by rw[xm,Mc t,VX l];try rfl
end
abbrev nU(l:List fZ):Blk:=.arr 4 ((l.map fZ.enc).map (·.map .d))
abbrev ze(all ks:List fZ):List Blk:=[sU,nU all,.box [.d (.int .i64 7),.d (.str (bs [])),.d (.sl true 1 []),.msl 4 3 0 ks.length],nU ks]
abbrev CF(all:List fZ)(tag:Nat):List (Nat × AV):=[(7,.c (.d (.int .i64 tag))),(6,.c (.ptr 2 0)),(4,.c (.msl 4 1 0 all.length)),(2,.c (.ptr 0 0))]
def Md(tag:Int):∀(l:List fZ) (had:Bool) (ks:List fZ),(jE tag l had ks).1.2.length<=ks.length+l.length
|[],had,ks=>by simp[jE]
| x::l,had,ks=>by
 have h:(if had=true then ks else ks++[x]).length<=ks.length+1:=by split<;>simp
 rw[jE];by_cases h0:x.kind=0
 ·rw[aB h0];simp
 rw[aA h0];by_cases h1:iD x≠tag
 ·rw[aB h1];have:=Md tag l had ks;rw[length_cons];omega
 rw[aA h1];simp only;generalize (if had=true then ks else ks++[x])=k2 at*
 split
 ·have:=Md tag l true k2;rw[length_cons];omega
 ·rw[length_cons];simp only;omega
def tag_in{c:Ctx}(hp:c.pure)(all:List fZ)(hall:all.length<=1000000)(tag:Nat)(htag:tag<6)(ks:List fZ)(hks:ks.length<=10000000)(F0:(Bool × List fZ) × Bool)(hF:jE tag all false ks=F0){Q:Exit->St->Prop}{S:St}{g}{ms:List Nat}
  (h0:iU ms S ((9,.c (.d (.int .i64 0)))::(8,.c (.d (.bool false)))::CF all tag) (ze all ks))
  (hN:F0.2=false->∀T M n,Abs.look T 2=.c (.ptr 0 0)->Abs.look T 3=.c (.d (.bool false))->M 0=.box [.d (.int .i64 7),.d (.str (bs [])),.d (.sl true 1 []),.msl 4 3 0 F0.1.2.length]->M 3=nU F0.1.2->Q .ret ⟨T,M,n⟩)
  (hQ:F0.2=true->∀T,Abs.look T 7=.c (.d (.int .i64 tag))->Abs.look T 6=.c (.ptr 2 0)->Abs.look T 4=.c (.msl 4 1 0 all.length)->Abs.look T 2=.c (.ptr 0 0)->Q (.exit 4) ⟨T,hpOf (ze all F0.1.2),4⟩):qO Pg c MB Q g S:=by
 refine eP gD hp (λx:Nat × Bool × List fZ=>x.1<=all.length/\x.2.2.length<=ks.length+x.1/\(x.2.1=true->x.2.2≠[])/\jE tag (all.drop x.1) x.2.1 x.2.2=F0) (λx=>(9,.c (.d (.int .i64 x.1)))::(8,.c (.d (.bool x.2.1)))::CF all tag) (λx=>ze all x.2.2) (λx=>all.length-x.1) (0,false,ks) ms ⟨by simp,by simp,by simp,by simpa using hF⟩ h0 λ⟨i,had,l⟩ ⟨h1,h2,h3,h4⟩=>?_;unfold MB;simp only at h1 h2 h3 h4;simp;apply fM<;>intro h
 ·have hi:i<all.length:=by simpa using h
  rw[aG hi,jE]at h4;obtain⟨x,hx⟩:∃x,all[i]=x:=⟨_,rfl⟩
  have hg:all[i]?=some x:=by rw[aD hi,hx]
  rw[hx]at h4;simp[hi,hx,hg];by_cases k0:x.kind=0
  ·rw[aB k0]at h4;subst h4;simp[k0];exact hN rfl _ _ _ (by simp) (by simp) (by simp) (by simp)
  rw[aA k0]at h4;simp[k0,hi,hx,hg];refine fU (Iq x) ?_;by_cases kt:iD x=tag;rotate_left
  ·rw[aB kt]at h4;simp[kt];refine dm (i+1,had,l) [0,1,2,3] ⟨by simp only;omega,by simp only;omega,h3,h4⟩ (by simp only;omega) ?_;simp;exact wI
  rw[aA (λz=>z kt)]at h4;cases had with
  |false=>
   simp only[au,if_false,getLastD_concat]at h4;have hw:IntKind.i64.wrap ((l.length:Int)+1-1)=(l.length:Int):=by rw[wI];omega
   have z:take l.length (List.map ((λx=>List.map AC.d x)∘fZ.enc) l)=List.map ((λx=>List.map AC.d x)∘fZ.enc) l:=uw l;have hwl:IntKind.i64.wrap (l.length:Int)=(l.length:Int):=wI;have g:(List.map ((λx=>List.map AC.d x)∘fZ.enc) l++[List.map AC.d x.enc])[l.length]?=some (List.map AC.d x.enc):=by simp
   simp[kt,hi,hx,hg,hwl,z,g];refine⟨by omega,by decide,by omega,?_⟩;refine fU (Dt _ _) ?_;have hs:=Mc x;rw[aB hs]at h4;simp[hs];refine⟨by decide,?_⟩;refine dm (i+1,true,l++[x]) [0,1,2,4] ⟨by simp only;omega,by simp;omega,by simp,h4⟩ (by simp only;omega) ?_;simp;exact wI
  | true=>
   have hne:=h3 rfl;simp only[if_true]at h4;have hlp:0<l.length:=List.length_pos_iff.2 hne;have hw:IntKind.i64.wrap ((l.length:Int)-1)=((l.length-1:Nat):Int):=by rw[wI];omega
   have hlast:l.getLastD noT=l[l.length-1]:=by
    rw[getLastD_eq_getLast?,getLast?_eq_getElem?,aD (by omega)];try rfl
   rw[hlast]at h4;have hlt:l.length-1<l.length:=by omega
   simp[kt,hi,hx,hg,hw,aD hlt,hlt];refine fU (Dt _ _) ?_;by_cases hs:nA x l[l.length-1]=true
   ·rw[aB hs]at h4;simp[hs];refine⟨by decide,?_⟩;refine dm (i+1,true,l) [0,1,2,3] ⟨by simp only;omega,by simp only;omega,λ_=>hne,h4⟩ (by simp only;omega) ?_;simp;exact wI
   ·rw[aA hs]at h4;subst h4;simp[hs];refine⟨by decide,?_⟩;exact hN rfl _ _ _ (by simp) (by simp) (by simp) (by simp)
 ·have hi:i=all.length:=by simp at h;omega
  subst hi;rw[aQ,jE]at h4;subst h4;exact hQ rfl _ (by simp) (by simp) (by simp) (by simp)
def Am(i:Nat):List Int:=[0,1,2,3,4,5].drop i
def VY{i:Nat}(h:i<6):Am i=(i:Int)::Am (i+1):=by
 have:∀i:Fin 6,Am i.val=((i.val:Nat):Int)::Am (i.val+1):=by decide
 exact this ⟨i,h⟩
def zCS(kids:List fZ)(hk:(kids.flatMap jJ).length<=1000000)(hkl:kids.length<=1000000):fu Pg 169 [.one (.sl false 4 (kids.map fZ.enc))] (.tup [.agg (yc kids).1.enc,.one (.bool (yc kids).2)]):=by
 refine zyz (by simp) λo c hN hp=>?_;obtain⟨R,hR⟩:∃R,yc kids=R:=⟨_,rfl⟩
 rw[hR];unfold yc at hR;simp only at hR;obtain⟨all,hal⟩:∃all,kids.flatMap jJ=all:=⟨_,rfl⟩
 rw[hal]at hR hk;unfold U6;simp;refine eY [.t 4] ?_;simp;refine eP gD hp (λx:Nat × List fZ=>x.1<=kids.length/\x.2++(kids.drop x.1).flatMap jJ=all) (λx=>[(5,.c (.d (.int .i64 x.1))),(4,.c (.msl 4 1 0 x.2.length)),(2,.c (.ptr 0 0)),(0,.c (.d (.sl false 4 (kids.map fZ.enc))))]) (λx=>[sU,nU x.2]) (λx=>kids.length-x.1) (0,[]) [0,1] ⟨by simp,by simpa using hal⟩ (by simp) λ⟨j,l⟩ ⟨h1,h2⟩=>?_;unfold U4;simp only at h1 h2;simp;apply fM<;>intro h
 ·have hj:j<kids.length:=by simpa using h
  obtain⟨x,hx⟩:∃x,kids[j]=x:=⟨_,rfl⟩
  have hg:kids[j]?=some x:=by rw[aD hj,hx]
  rw[aG hj,hx,flatMap_cons,<-dI]at h2;have hll:=bu length h2;rw[aR,aR]at hll;by_cases k7:x.kind=7
  ·have hm:jJ x=x.kids:=by unfold jJ;rw[aB k7]
   rw[hm]at h2 hll;simp[hj,hx,hg,k7];refine⟨by omega,?_⟩;refine dm (j+1,l++x.kids) [0,2] ⟨by simp only;omega,h2⟩ (by simp only;omega) ?_;simp;exact⟨wI,uw l⟩
  ·have hm:jJ x=[x]:=by unfold jJ;rw[aA k7]
   rw[hm]at h2 hll;simp only[length_singleton]at hll;simp[hj,hx,hg,k7];refine⟨by omega,?_⟩;refine dm (j+1,l++[x]) [0,2] ⟨by simp only;omega,h2⟩ (by simp only;omega) ?_;simp;exact⟨wI,uw l⟩
 ·have hj:j=kids.length:=by simp at h;omega
  subst hj;rw[aQ,flatMap_nil,bQ]at h2;subst h2;simp;refine eY [.c 2 3] ?_;simp;refine eP gD hp (λx:Nat × List fZ=>x.1<=6/\x.2.length<=x.1*l.length/\pX l (Am x.1) x.2=pX l [0,1,2,3,4,5] []) (λx=>CF l x.1) (λx=>ze l x.2) (λx=>6-x.1) (0,[]) [0,1,2,3] ⟨by simp,by simp,rfl⟩ (by simp) λ⟨t,ks⟩ ⟨i1,i2,i3⟩=>?_;unfold U5;simp only at i1 i2 i3;simp;have hmul:t*l.length<=6*1000000:=Nat.mul_le_mul i1 hk;have htl:=Md t l false ks;apply fM<;>intro h
  ·have ht:t<6:=by simp at h;omega
   rw[VY ht,pX]at i3;refine tag_in hp l hk t ht ks (by omega) _ rfl (ms:=[0,1,2,3]) (by simp) (λhf T M n t2 t3 m0 m3=>?_) (λhf T t7 t6 t4 t2=>?_)
   ·rw[aA (by rw[hf];simp)]at i3;rw[<-i3]at hR;simp at hR;subst hR;simp[t2,t3,m0,m3,Du];exact aH (by simp)
   ·rw[aB hf]at i3;simp[t7];refine dm (t+1,(jE t l false ks).1.2) [0,1,2,3] ⟨by simp only;omega,by simp only;rw[bD];omega,i3⟩ (by simp only;omega) ?_;simp[t7,t6,t4,t2];exact wI
  ·have ht:t=6:=by simp at h;omega
   subst ht;rw[show Am 6=[]from rfl,pX]at i3;rw[<-i3]at hR;simp only[if_true]at hR;have z4:take ks.length (List.map fZ.enc ks)=List.map fZ.enc ks:=aH (by simp)
   match ks,i2,hR,z4 with
   |[],i2,hR,z4=>
    simp at hR;subst hR;simp;exact⟨by decide,by rw[Du];rfl⟩
   |[x],i2,hR,z4=>
    simp at hR;subst hR;simp;rw[fZ.enc_eq];try rfl
   |x::y::l2,i2,hR,z4=>
    simp at hR;subst hR;have h1:¬((l2.length:Int)+1+1=1):=by omega
    have h2:¬(l2.length+1+1=1):=by omega
    have h3:(0:Int)<(l2.length:Int)+1+1:=by omega
    simp[h1,h2,h3];exact⟨by decide,by rw[Du,aH (by simp)];rfl⟩
mutual
def qE:fZ->Prop
|.mk _ _ _ l=>l.length<=200/\xH l
def xH:List fZ->Prop
|[]=>True
|t::l=>qE t/\xH l
end
mutual
def FT:∀(t:fZ) (m:Int),m<=201->mq t m<m->qE t
|.mk k n s l,m,h1,h2=>by
 rw[mq]at h2;have:=VZ l m 1 h1 (by omega) h2;rw[qE];exact⟨by omega,this.2⟩
def VZ:∀(l:List fZ) (m n:Int),m<=201->1<=n->oz l m n<m->n+l.length<=oz l m n/\xH l
|[],m,n,_,_,h=>by rw[oz]at*;exact⟨by simp,trivial⟩
| t::l,m,n,h1,h2,h3=>by
 have hle:=Io t (m-n);rw[oz]at h3⊢;split
 ·rename_i q;rw[aB q]at h3;have i:=VZ l m (n+mq t (m-n)) h1 (by omega) h3;have hle2:=Ip l m (n+mq t (m-n)) (by omega);rw[length_cons];exact⟨by omega,FT t (m-n) (by omega) (by omega),i.2⟩
 ·rename_i q;rw[aA q]at h3;omega
end
def zBG:∀l:List fZ,xH l↔∀x,x∈l->qE x
|[]=>by simp[xH]
|t::l=>by simp[xH,zBG l]
def Me(tag:Int):∀(l:List fZ) (had:Bool) (ks:List fZ),(jE tag l had ks).1.2.length<=ks.length+(if had=true then 0 else 1)
|[],had,ks=>by simp[jE]
| x::l,had,ks=>by
 have h:(if had=true then ks else ks++[x]).length<=ks.length+(if had=true then 0 else 1):=by cases had<;>simp
 rw[jE];by_cases h0:x.kind=0
 ·rw[aB h0];simp
 rw[aA h0];by_cases h1:iD x≠tag
 ·rw[aB h1];exact Me tag l had ks
 rw[aA h1];simp only;generalize (if had=true then ks else ks++[x])=k2 at*
 split
 ·have:=Me tag l true k2;simp only[if_true]at this;omega
 ·exact h
def Mf(tag:Int):∀(l:List fZ) (had:Bool) (ks:List fZ) (y:fZ),y∈(jE tag l had ks).1.2->y∈ks\/(y∈l/\iD y=tag)
|[],had,ks,y,h=>by simp[jE]at h;exact .inl h
| x::l,had,ks,y,h=>by
 have h2:∀z,z∈(if had=true then ks else ks++[x])->z∈ks\/z=x:=λz hz=>by cases had<;>simp at hz<;>simp[hz]
 rw[jE]at h;by_cases h0:x.kind=0
 ·rw[aB h0]at h;exact .inl h
 rw[aA h0]at h;by_cases h1:iD x≠tag
 ·rw[aB h1]at h;rcases Mf tag l had ks y h with q|⟨q,r⟩
  ·exact .inl q
  ·exact .inr ⟨by simp[q],r⟩
 rw[aA h1]at h;have hx:iD x=tag:=ae h1;simp only at h;generalize (if had=true then ks else ks++[x])=k2 at*
 have fin:y∈k2->y∈ks\/(y∈x::l/\iD y=tag):=λhy=>by
  rcases h2 y hy with q|rfl
  ·exact .inl q
  ·exact .inr ⟨by simp,hx⟩
 split at h
 ·rcases Mf tag l true k2 y h with q|⟨q,r⟩
  ·exact fin q
  ·exact .inr ⟨by simp[q],r⟩
 ·exact fin h
def Mg(all:List fZ):∀(l:List Int) (ks:List fZ),(pX all l ks).1.length<=ks.length+l.length
|[],ks=>by simp[pX]
| t::l,ks=>by
 have h1:=Me t all false ks;simp only[au,if_false]at h1;rw[pX,length_cons];split
 ·have:=Mg all l (jE t all false ks).1.2;omega
 ·simp only;omega
def Iu(all:List fZ):∀(l:List Int) (ks:List fZ) (y:fZ),y∈(pX all l ks).1->y∈ks\/(y∈all/\iD y∈l)
|[],ks,y,h=>by simp[pX]at h;exact .inl h
| t::l,ks,y,h=>by
 rw[pX]at h;have fin:y∈(jE t all false ks).1.2->y∈ks\/(y∈all/\iD y∈t::l):=λhy=>by
  rcases Mf t all false ks y hy with q|⟨q,r⟩
  ·exact .inl q
  ·exact .inr ⟨q,by simp[r]⟩
 split at h
 ·rcases Iu all l _ y h with q|⟨q,r⟩
  ·exact fin q
  ·exact .inr ⟨q,by simp[r]⟩
 ·exact fin h
def zBH(t:fZ):(jJ (ky t).1).length<=6:=by
 have one:∀x:fZ,x.kind≠7->(jJ x).length<=6:=λx h=>by unfold jJ;rw[aA h];simp
 cases t with
 |mk k n s l=>
 rw[ky];split
 ·split
  ·unfold lc;split
   ·refine one _ ?_;unfold xB;split<;>simp[fZ.kind]
   split
   ·exact one _ (by simp[fZ.kind])
   ·unfold yc;have hl:=Mg ((kD l).1.flatMap jJ) [0,1,2,3,4,5] [];have hm:=Iu ((kD l).1.flatMap jJ) [0,1,2,3,4,5] [];simp only;generalize pX ((kD l).1.flatMap jJ) [0,1,2,3,4,5] []=r at*
    have seven:∀l:List fZ,l.length<=6->(jJ (.mk 7 (bs []) [] l)).length<=6:=λl h=>by unfold jJ;exact h
    split
    ·split
     ·rename_i x e;have:=hm x (by rw[e];simp);refine one _ λh7=>?_;have h7:x.kind=7:=h7;have hb:iD x= -1:=by unfold iD;rw[aB (by omega)]
      rw[hb]at this;simp at this
     ·rename_i e;exact seven _ (by simpa using hl)
    ·exact seven _ (by simpa using hl)
  ·exact one _ (by simp[noT,fZ.kind])
 ·split
  ·refine one _ ?_;show k≠7;omega
  ·exact one _ (by simp[noT,fZ.kind])
def V3:∀l:List fZ,(kD l).1.length<=l.length
|[]=>by simp[kD]
|t::l=>by
 have:=V3 l;rw[kD];split<;>simp;omega
def V4:∀l:List fZ,((kD l).1.flatMap jJ).length<=6*l.length
|[]=>by simp[kD]
|t::l=>by
 have h1:=V4 l;have h2:=zBH t;rw[kD];split
 ·rw[flatMap_cons,aR,length_cons];omega
 ·simp
def zDj(t:fZ):ky t=if 5<=t.kind/\t.kind<=7 then(if(kD t.kids).2=true then lc t.kind t.names (kD t.kids).1 else(noT,false))else if 0<=t.kind/\t.kind<=4 then(bT t.kind,true)else(noT,false):=by
 cases t;rw[ky];try rfl
def pJ(a:List fZ)(l:List fZ):List fZ × Bool:=if(kD l).2=true then(a++(kD l).1,true)else([],false)
def zBI(a:List fZ)(t:fZ)(l:List fZ):pJ a (t::l)=if(ky t).2=true then pJ (a++[(ky t).1]) l else([],false):=by
 unfold pJ;rw[kD];by_cases h:(ky t).2=true
 ·rw[aB h,aB h];by_cases h2:(kD l).2=true
  ·simp[h2]
  ·simp[h2]
 ·rw[aA h,aA h];simp
@[simp] theorem fZ.er_map(t:fZ):t.enc.map D.er=t.enc:=by rw[fZ.enc_eq];try rfl
def uy(k:Int):(bT k).enc=[.int .i64 k,.str (bs []),.sl false 1 [],.sl false 4 []]:=by rw[fZ.enc_eq];try rfl
theorem mW:noT.enc=[.int .i64 0,.str (bs []),.sl false 1 [],.sl false 4 []]:=rfl
abbrev FU(t:fZ)(j n:Nat):List (Nat × AV):=[(5,.c (.d (.int .i64 j))),(4,.c (.msl 4 1 0 n)),(2,.c (.ptr 0 0)),(1,.c (.d (.rp t.enc 0)))]
theorem Mh{c:Ctx}(hp:c.pure)(t:fZ)(hl:t.kids.length<=200)(ih:∀e,e∈t.kids->fu Pg 122 [.agg e.enc] (.tup [.agg (ky e).1.enc,.one (.bool (ky e).2)])){Q:Exit->St->Prop}{S:St}{g}{ms:List Nat}
  (h0:iU ms S (FU t 0 0) [sU,nU []])
  (hN:(kD t.kids).2=false->∀T M n,Abs.look T 2=.c (.ptr 0 0)->Abs.look T 3=.c (.d (.bool false))->M 0=sU->Q .ret ⟨T,M,n⟩)
  (hQ:(kD t.kids).2=true->∀T,Abs.look T 4=.c (.msl 4 1 0 (kD t.kids).1.length)->Abs.look T 2=.c (.ptr 0 0)->Abs.look T 1=.c (.d (.rp t.enc 0))->Q (.exit 1) ⟨T,hpOf [sU,nU (kD t.kids).1],2⟩):qO Pg c Lv Q g S:=by
 have hA:pJ [] t.kids=if(kD t.kids).2=true then((kD t.kids).1,true)else([],false):=rfl;have hN:(pJ [] t.kids).2=false->∀T M n,Abs.look T 2=.c (.ptr 0 0)->Abs.look T 3=.c (.d (.bool false))->M 0=sU->Q .ret ⟨T,M,n⟩:=λh=>hN (by
  rw[hA]at h;cases e:(kD t.kids).2 with
  |false=>rfl
  |true=>rw[aB e]at h;cases h)
 have hQ:(pJ [] t.kids).2=true->∀T,Abs.look T 4=.c (.msl 4 1 0 (pJ [] t.kids).1.length)->Abs.look T 2=.c (.ptr 0 0)->Abs.look T 1=.c (.d (.rp t.enc 0))->Q (.exit 1) ⟨T,hpOf [sU,nU (pJ [] t.kids).1],2⟩:=λh=>by
  rw[hA]at h⊢;cases e:(kD t.kids).2 with
  |false=>rw[e]at h;cases h
  |true=>rw[aB rfl];exact hQ e
 obtain⟨F0,hF⟩:∃F0,pJ [] t.kids=F0:=⟨_,rfl⟩
 rw[hF]at hN hQ;refine eP gD hp (λx:Nat × List fZ=>x.1<=t.kids.length/\x.2.length<=x.1/\pJ x.2 (t.kids.drop x.1)=F0) (λx=>FU t x.1 x.2.length) (λx=>[sU,nU x.2]) (λx=>t.kids.length-x.1) (0,[]) ms ⟨by simp,by simp,by simpa using hF⟩ h0 λ⟨j,a⟩ ⟨h1,h2,h3⟩=>?_;unfold Lv;simp only at h1 h2 h3;simp;apply fM<;>intro h
 ·have hj:j<t.kids.length:=by simpa using h
  rw[aG hj,zBI]at h3;obtain⟨x,hx⟩:∃x,t.kids[j]=x:=⟨_,rfl⟩
  have hm:=ai hj;rw[hx]at h3 hm;simp[hj,hx];refine fU (ih x hm) ?_;simp;by_cases q:(ky x).2=true
  ·rw[aB q]at h3;simp[q];refine⟨by omega,?_⟩;refine dm (j+1,a++[(ky x).1]) [0,3] ⟨by simp only;omega,by simp;omega,h3⟩ (by simp only;omega) ?_;simp;exact⟨wI,uw a⟩
  ·rw[aA q]at h3;subst h3;simp[q];exact hN rfl _ _ _ (by simp) (by simp) (by simp)
 ·have hj:j=t.kids.length:=by simp at h;omega
  subst hj;rw[aQ]at h3;have e:pJ a []=(a,true):=by unfold pJ;simp[kD]
  rw[e]at h3;subst h3;exact hQ rfl _ (by simp) (by simp) (by simp)
def zDk(t:fZ)(hl:t.kids.length<=200)(ih:∀e,e∈t.kids->fu Pg 122 [.agg e.enc] (.tup [.agg (ky e).1.enc,.one (.bool (ky e).2)])):
  fu Pg 122 [.agg t.enc] (.tup [.agg (ky t).1.enc,.one (.bool (ky t).2)]):=by
 refine zz5 (by simp) λo c hN hp=>?_;obtain⟨R,hR⟩:∃R,ky t=R:=⟨_,rfl⟩
 rw[hR];rw[zDj]at hR;unfold U1;by_cases k1:0<=t.kind/\t.kind<=4
 ·rw[aA (by omega),aB k1]at hR;subst hR;have hc:t.kind=0\/t.kind=1\/t.kind=2\/t.kind=3\/t.kind=4:=by omega
  rcases hc with k|k|k|k|k<;>simp[k,uy]
 by_cases k2:5<=t.kind/\t.kind<=7;rotate_left
 ·rw[aA k2,aA k1]at hR;subst hR;have a0:¬t.kind=0:=by omega
  have a1:¬t.kind=1:=by omega
  have a2:¬t.kind=2:=by omega
  have a3:¬t.kind=3:=by omega
  have a4:¬t.kind=4:=by omega
  have a5:¬t.kind=5:=by omega
  have a6:¬t.kind=6:=by omega
  have a7:¬t.kind=7:=by omega
  simp[a0,a1,a2,a3,a4,a5,a6,a7,mW]
 rw[aB k2]at hR;have hnl:=V3 t.kids;have hnm:=V4 t.kids;have hk:∀K:Int,t.kind=K->(if(kD t.kids).2=true then lc K t.names (kD t.kids).1 else(noT,false))=R:=λK e=>by rw[<-e];exact hR
 have a0:¬t.kind=0:=by omega
 have a1:¬t.kind=1:=by omega
 have a2:¬t.kind=2:=by omega
 have a3:¬t.kind=3:=by omega
 have a4:¬t.kind=4:=by omega
 have hc:t.kind=5\/t.kind=6\/t.kind=7:=by omega
 rcases hc with k|k|k
 ·have hR:=hk 5 k;simp[k];refine eY [.t 4] ?_;simp;refine Mh hp t hl ih (ms:=[0,1]) (by simp) (λhf T M n t2 t3 m0=>?_) (λhf T t4 t2 t1=>?_)
  ·rw[aA (by rw[hf];simp)]at hR;subst hR;simp[t2,t3,m0,mW]
  ·rw[aB hf]at hR;generalize (kD t.kids).1=l at*
   simp[t1,k];refine eU [1] ?_;have z:take l.length (List.map fZ.enc l)=List.map fZ.enc l:=aH (by simp);simp[jT,t4,t1,uw,z];refine fU (zBQ _ _) ?_;rw[show xB t.names l=R by rw[<-hR];rfl];simp[jT,t2]
 ·have hR:=hk 6 k;simp[k];refine eY [.t 4] ?_;simp;refine Mh hp t hl ih (ms:=[0,1]) (by simp) (λhf T M n t2 t3 m0=>?_) (λhf T t4 t2 t1=>?_)
  ·rw[aA (by rw[hf];simp)]at hR;subst hR;simp[t2,t3,m0,mW]
  ·rw[aB hf]at hR;generalize (kD t.kids).1=l at*
   have hR:(fZ.mk 6 (bs []) [] l,decide (l.length=2))=R:=by rw[<-hR];try rfl
   subst hR;have z:take l.length (List.map fZ.enc l)=List.map fZ.enc l:=aH (by simp);have hd:decide ((l.length:Int)=2)=decide (l.length=2):=by
    by_cases h:l.length=2
    ·simp[h]
    ·have h':¬(l.length:Int)=2:=by omega
     simp[h,h']
   simp[t1,k,t4,t2];exact⟨by rw[z,fZ.enc_eq];rfl,by omega⟩
 ·have hR:=hk 7 k;simp[k];refine eY [.t 4] ?_;simp;refine Mh hp t hl ih (ms:=[0,1]) (by simp) (λhf T M n t2 t3 m0=>?_) (λhf T t4 t2 t1=>?_)
  ·rw[aA (by rw[hf];simp)]at hR;subst hR;simp[t2,t3,m0,mW]
  ·rw[aB hf]at hR;have hu:=zCS (kD t.kids).1 (by omega) (by omega);generalize (kD t.kids).1=l at*
   have z:take l.length (List.map fZ.enc l)=List.map fZ.enc l:=aH (by simp);simp[t1,k];refine eU [1] ?_;simp[jT,t4,t1,uw,z];refine fU hu ?_;rw[show yc l=R by rw[<-hR];rfl];simp[jT,t2]
mutual
def V5:∀t:fZ,qE t->fu Pg 122 [.agg t.enc] (.tup [.agg (ky t).1.enc,.one (.bool (ky t).2)])
|.mk k n s l,h=>by
 rw[qE]at h;exact zDk (.mk k n s l) h.1 (λe he=>V6 l h.2 e he)
def V6:∀l:List fZ,xH l->∀e,e∈l->fu Pg 122 [.agg e.enc] (.tup [.agg (ky e).1.enc,.one (.bool (ky e).2)])
|[],_,e,h=>by cases h
|d::l,hf,e,h=>by
 rw[xH]at hf;cases h with
 |head=>exact V5 d hf.1
 |tail _ h=>exact V6 l hf.2 e h
end
def CG(t:fZ):fu Pg 76 [.agg t.enc] (.tup [.agg (kS t).1.enc,.one (.int .i64 (kS t).2)]):=by
 refine zz4 (by simp) λo c hN hp=>?_;obtain⟨R,hR⟩:∃R,kS t=R:=⟨_,rfl⟩
 rw[hR];unfold kS at hR;unfold U0;simp;refine fU (M7 t) ?_;by_cases h1:16<nK 17 t
 ·rw[aB (.inl h1)]at hR;subst hR;simp[h1,mW]
 simp[h1];refine fU (M5 t) ?_;by_cases h2:200<mq t 201
 ·rw[aB (.inr h2)]at hR;subst hR;simp[h2,mW]
 rw[aA (by omega)]at hR;have hf:=FT t 201 (by omega) (by omega);simp[h2];refine fU (V5 t hf) ?_;by_cases h3:(ky t).2=true
 ·rw[aB h3]at hR;subst hR;simp[h3]
 ·rw[aA h3]at hR;subst hR;simp[h3,mW]
def zf(t:fZ):fu Pg 37 [.agg t.enc] (.one (.bool (gI t))):=by
 refine zwL (by simp) λo c hN hp=>?_;unfold Ua gI;simp;refine fU (CG t) ?_;generalize kS t=R;simp;refine fU (Dt _ _) ?_;by_cases h:R.2=0
 ·simp[h]
 ·simp[h]
mutual
def Mi:∀(a b:fZ),nA a b=true↔a=b
|.mk k n s l,.mk k' n' s' l'=>by
 rw[nA,aC,aC,aC,aI,aI,aI,V7,fZ.mk.injEq];exact Iff.rfl
def V7:∀(a b:List fZ),xm a b=true↔a=b
|[],[]=>by simp[xm]
|[],_::_=>by simp[xm]
|_::_,[]=>by simp[xm]
|a::l,b::k=>by
 simp only[xm,aC,List.cons.injEq];rw[Mi a b,V7 l k]
end
mutual
def jW:fZ->Prop
|.mk k n s l=>n=bs []/\nV l/\((0<=k/\k<=4/\s=[]/\l=[])\/(k=5/\s.length=l.length/\s.length<=16/\∀x,x∈s->mJ x=true)\/(k=6/\s=[]/\l.length=2)\/(k=7/\s=[]/\l.length<=6/\∀x,x∈l->1<=x.kind/\x.kind<=6))
def nV:List fZ->Prop
|[]=>True
|t::l=>jW t/\nV l
end
def CJ:∀l:List fZ,nV l↔∀x,x∈l->jW x
|[]=>by simp[nV]
|t::l=>by simp[nV,CJ l]
def og(t:fZ):jW t↔t.name=bs []/\(∀x,x∈t.kids->jW x)/\((0<=t.kind/\t.kind<=4/\t.names=[]/\t.kids=[])\/(t.kind=5/\t.names.length=t.kids.length/\t.names.length<=16/\∀x,x∈t.names->mJ x=true)\/(t.kind=6/\t.names=[]/\t.kids.length=2)\/(t.kind=7/\t.names=[]/\t.kids.length<=6/\∀x,x∈t.kids->1<=x.kind/\x.kind<=6)):=by
 cases t;rw[jW,CJ];try rfl
def uz(k:Int)(h0:0<=k)(h4:k<=4):jW (bT k):=(og _).2 ⟨rfl,λx h=>(by cases h),.inl ⟨h0,h4,rfl,rfl⟩⟩
def qR:jW noT:=uz 0 (by omega) (by omega)
def Mj:∀(ss:List di) (ts:List fZ) (ns:List di) (ks:List fZ),ss.length=ts.length->ns.length=ks.length->(∀x,x∈ns->mJ x=true)->(jI ss ts ns ks).2=true->
 (jI ss ts ns ks).1.1.length=(jI ss ts ns ks).1.2.length/\(jI ss ts ns ks).1.1.length=ns.length+ss.length/\(∀x,x∈(jI ss ts ns ks).1.1->mJ x=true)/\∀x,x∈(jI ss ts ns ks).1.2->x∈ks\/x∈ts
|[],ts,ns,ks,h0,h1,h2,h=>by
 cases ts with
 |nil=>rw[jI];exact⟨h1,rfl,h2,λx hx=>.inl hx⟩;all_goals (intros;contradiction)
 |cons _ _=>simp at h0
|s::ss,[],ns,ks,h0,h1,h2,h=>by simp at h0
| s ::ss,t::ts,ns,ks,h0,h1,h2,h=>by
 have hp:=M9 s ns;rw[jI]at h⊢;by_cases q:mJ s=false\/ns[jD s ns]?=some s
 ·rw[aB q]at h;cases h
 rw[aA q]at h⊢;have hs:mJ s=true:=by
  cases e:mJ s with
  |true=>rfl
  |false=>exact absurd (.inl e) q
 have i:=Mj ss ts (ns.take (jD s ns)++s::ns.drop (jD s ns)) (ks.take (jD s ns)++t::ks.drop (jD s ns)) (by simpa using h0) (by simp;omega) (λx hx=>by
  rcases aU.1 hx with hx|hx
  ·exact h2 x (cZ hx)
  ·rcases aS.1 hx with rfl|hx
   ·exact hs
   ·exact h2 x (d9 hx)) h
 refine⟨i.1,?_,i.2.2.1,λx hx=>?_⟩
 ·rw[i.2.1];simp;omega
 ·rcases i.2.2.2 x hx with hx|hx
  ·rcases aU.1 hx with hx|hx
   ·exact .inl (cZ hx)
   ·rcases aS.1 hx with rfl|hx
    ·exact .inr (by simp)
    ·exact .inl (d9 hx)
  ·exact .inr (by simp[hx])
def zEU{l:List fZ}(h:∀x,x∈l->jW x):∀y,y∈l.flatMap jJ->jW y:=λy hy=>by
 obtain⟨x,hx,hy⟩:=List.mem_flatMap.1 hy;unfold jJ at hy;split at hy
 ·exact((og x).1 (h x hx)).2.1 y hy
 ·simp at hy;subst hy;exact h y hx
def zDb{y:fZ}(h:iD y∈([0,1,2,3,4,5]:List Int)):1<=y.kind/\y.kind<=6:=by
 unfold iD at h;split at h
 ·simp at h
 ·omega
def zGc(k:Int)(s:List di)(l:List fZ)(hl:∀x,x∈l->jW x)(hk:5<=k/\k<=7)(h:(lc k s l).2=true):jW (lc k s l).1:=by
 unfold lc at h⊢;by_cases k5:k=5
 ·rw[aB k5]at h⊢;unfold xB at h⊢;by_cases q:s.length≠l.length\/16<s.length
  ·rw[aB q]at h;cases h
  rw[aA q]at h⊢;have i:=Mj s l [] [] (by omega) rfl (by simp) h;refine(og _).2 ⟨rfl,λx hx=>?_,.inr (.inl ⟨rfl,i.1,?_,i.2.2.1⟩)⟩
  ·rcases i.2.2.2 x hx with hx|hx
   ·cases hx
   ·exact hl x hx
  ·show(jI s l [] []).1.1.length<=16;rw[i.2.1];simp;omega
 rw[aA k5]at h⊢;by_cases k6:k=6
 ·rw[aB k6]at h⊢;simp only[aI]at h;exact(og _).2 ⟨rfl,hl,.inr (.inr (.inl ⟨rfl,rfl,h⟩))⟩
 rw[aA k6]at h⊢;unfold yc at h⊢;have hm:=Iu (l.flatMap jJ) [0,1,2,3,4,5] [];have hlen:=Mg (l.flatMap jJ) [0,1,2,3,4,5] [];simp only at h⊢;generalize pX (l.flatMap jJ) [0,1,2,3,4,5] []=r at*
 have hw:∀y,y∈r.1->jW y/\1<=y.kind/\y.kind<=6:=λy hy=>by
  rcases hm y hy with q|⟨q1,q2⟩
  ·cases q
  ·exact⟨zEU hl y q1,zDb q2⟩
 have seven:∀L:List fZ,L.length<=6->(∀y,y∈L->jW y/\1<=y.kind/\y.kind<=6)->jW (.mk 7 (bs []) [] L):=λL hn hL=>(og _).2 ⟨rfl,λx hx=>(hL x hx).1,.inr (.inr (.inr ⟨rfl,rfl,hn,λx hx=>(hL x hx).2⟩))⟩;by_cases q:r.2=true
 ·rw[aB q]at h⊢;split
  ·rename_i x e;exact(hw x (by rw[e];simp)).1
  ·exact seven _ (by simpa using hlen) hw
 ·rw[aA q]at h;cases h
mutual
def Mk:∀t:fZ,(ky t).2=true->jW (ky t).1
| .mk k n s l,h=>by
 rw[ky]at h⊢;by_cases q:5<=k/\k<=7
 ·rw[aB q]at h⊢;by_cases q2:(kD l).2=true
  ·rw[aB q2]at h⊢;exact zGc k s _ (V8 l q2) q h
  ·rw[aA q2]at h;cases h
 ·rw[aA q]at h⊢;by_cases q2:0<=k/\k<=4
  ·rw[aB q2];exact uz k q2.1 q2.2
  ·rw[aA q2]at h;cases h
def V8:∀l:List fZ,(kD l).2=true->∀x,x∈(kD l).1->jW x
|[],_,x,hx=>by rw[kD]at hx;cases hx
| t::l,h,x,hx=>by
 rw[kD]at h hx;by_cases q:(ky t).2=true
 ·rw[aB q]at h hx;rcases aS.1 hx with rfl|hx
  ·exact Mk t q
  ·exact V8 l h x hx
 ·rw[aA q]at h;cases h
end
def FV(t:fZ):jW (kS t).1:=by
 unfold kS;split
 ·exact qR
 split
 ·rename_i h;exact Mk t h
 ·exact qR
def Ao{t:fZ}(h:(kS t).2=0):(ky t).2=true/\mq t 201<=200/\nK 17 t<=16/\(kS t).1=(ky t).1:=by
 unfold kS at h⊢;by_cases q:16<nK 17 t\/200<mq t 201
 ·rw[aB q]at h;cases h
 rw[aA q]at h⊢;by_cases q2:(ky t).2=true
 ·rw[aB q2];exact⟨q2,by omega,by omega,rfl⟩
 ·rw[aA q2]at h;cases h
def Dv{t:fZ}:gI t=true↔(kS t).2=0/\(kS t).1=t:=by
 unfold gI;rw[aC,aI,Mi]
def xy{t:fZ}(h:gI t=true):jW t:=by
 have h:=Dv.1 h;rw[<-h.2];exact FV t
def zDc{t:fZ}(h:gI t=true):qE t/\mq t 201<=200:=by
 have h:=Ao (Dv.1 h).1;exact⟨FT t 201 (by omega) (by omega),h.2.1⟩
mutual
def iw:fZ->Nat
|.mk _ _ _ l=>iX l+1
def iX:List fZ->Nat
|[]=>0
|t::l=>iw t+iX l
end
mutual
def Ml:∀(t:fZ) (m:Int),mq t m<m->mq t m=iw t
|.mk k n s l,m,h=>by
 rw[mq]at h⊢;have:=V9 l m 1 (by omega) h;rw[iw];omega
def V9:∀(l:List fZ) (m n:Int),1<=n->oz l m n<m->oz l m n=n+iX l
|[],m,n,h1,h=>by rw[oz,iX];omega
| t::l,m,n,h1,h=>by
 have hle:=Io t (m-n);rw[oz]at h⊢;by_cases q:n<m
 ·rw[aB q]at h⊢;have hle2:=Ip l m (n+mq t (m-n)) (by omega);have i1:=V9 l m (n+mq t (m-n)) (by omega) h;have i2:=Ml t (m-n) (by omega);rw[iX];omega
 ·rw[aA q]at h;omega
end
def zEV(t:fZ):1<=iw t:=by cases t;rw[iw];omega
def Mm:∀{l:List fZ} {x:fZ},x∈l->iw x<=iX l
|t::l,x,h=>by
 rw[iX];rcases aS.1 h with rfl|h
 ·omega
 ·have:=Mm h;omega
def Iw{t:fZ}(h:gI t=true):iw t<=200:=by
 have h:=(zDc h).2;have:=Ml t 201 (by omega);omega
def Mo{s:di}(h:mJ s=true):s.size<=32:=by
 unfold mJ at h;split at h
 ·cases h
 ·simp at h;exact h.1
@[simp] theorem zg(l:List Nat):(bs l).size=l.length:=by
 show(bs l).data.size=_;simp[bs]
def Va(k:Int)(n:di)(s:List di)(l:List fZ)(br:Bool):qx (.mk k n s l) br=
 if k=0 then bs [97,110,121]else if k=1 then bs [110,117,108,108]else if k=2 then bs [98,111,111,108]else if k=3 then bs [105,110,116]else if k=4 then bs [115,116,114]
 else if k=5 then bs [123]++xC s l (bs []) 0++bs [125]
 else if k=6 then(match l with
  |a::b::_=>if br=true then bs [40]++(qx a true++bs [32,45,62,32]++qx b false)++bs [41]else qx a true++bs [32,45,62,32]++qx b false
  |_=>bs [])
 else yf l (bs []) 0:=by rw[qx.eq_def];try rfl
mutual
def zh:∀(t:fZ) (br:Bool),jW t->(qx t br).size+60<=100*iw t
| .mk k n s l,br,h=>by
 have hw:=h;rw[jW,CJ]at h;obtain⟨_,hl,hc⟩:=h;have hl':=(CJ l).2 hl;rw[Va,iw];split
 ·simp;omega
 split
 ·simp;omega
 split
 ·simp;omega
 split
 ·simp;omega
 split
 ·simp;omega
 split
 ·rename_i k5;subst k5;have hc:s.length=l.length/\s.length<=16/\∀x,x∈s->mJ x=true:=by
   rcases hc with⟨_,q,_⟩|⟨_,q⟩|⟨q,_⟩|⟨q,_⟩
   ·omega
   ·exact q
   ·omega
   ·omega
  have:=Mq s l (bs []) 0 hl' hc.2.2;simp at this⊢;omega
 split
 ·rename_i k6;subst k6;have hc:l.length=2:=by
   rcases hc with⟨_,q,_⟩|⟨q,_⟩|⟨_,_,q⟩|⟨q,_⟩
   ·omega
   ·omega
   ·exact q
   ·omega
  match l,hc,hl' with
  |[a,b],_,hl'=>
   rw[nV,nV]at hl';have ha:=zh a true hl'.1;have hb:=zh b false hl'.2.1;simp only[iX];split
   ·simp;omega
   ·simp;omega
 ·have:=Vb l (bs []) 0 hl';simp at this;omega
def Mq:∀(s:List di) (l:List fZ) (out:di) (i:Nat),nV l->(∀x,x∈s->mJ x=true)->(xC s l out i).size<=out.size+100*iX l
|[],l,out,i,h,hn=>by rw[xC];omega;all_goals (intros;contradiction)
|_::_,[],out,i,h,hn=>by rw[xC];omega;all_goals (intros;contradiction)
|s::ss,t::ts,out,i,h,hn=>by
 rw[nV]at h;have h1:=zh t false h.1;have h3:=Mo (hn s (by simp));rw[xC,iX];have h2:=Mq ss ts ((if 0<i then out++bs [44,32]else out)++s++bs [58,32]++qx t false) (i+1) h.2 (λx hx=>hn x (by simp[hx]));refine aj h2 ?_;split<;>simp<;>omega
def Vb:∀(l:List fZ) (out:di) (i:Nat),nV l->(yf l out i).size<=out.size+100*iX l
|[],out,i,h=>by rw[yf];omega
|t::ts,out,i,h=>by
 rw[nV]at h;have h1:=zh t true h.1;rw[yf,iX];have h2:=Vb ts ((if 0<i then out++bs [32,124,32]else out)++qx t true) (i+1) h.2;refine aj h2 ?_;split<;>simp<;>omega
end
abbrev CK(e:fZ):Prop:=∀br:Bool,fu Pg 94 [.agg e.enc,.one (.bool br)] (.one (.str (qx e br)))
def zC5{c:Ctx}(hp:c.pure)(t:fZ)(hw:nV t.kids)(hn:t.names.length=t.kids.length)(hnm:∀x,x∈t.names->mJ x=true)(hc:iX t.kids<=1000)(hl:t.names.length<=1000)(ih:∀e,e∈t.kids->CK e)(R:di)(hR:xC t.names t.kids (bs []) 0=R){Q:Exit->St->Prop}{S:St}{g}{ms:List Nat}
  (h0:iU ms S [(6,.c (.d (.int .i64 0))),(5,.c (.d (.str (bs [])))),(2,.c (.d (.rp t.enc 0)))] [])
  (hQ:∀T M n,Abs.look T 5=.c (.d (.str R))->Q (.exit 1) ⟨T,M,n⟩):qO Pg c ME Q g S:=by
 refine eP gD hp (λx:Nat × di=>x.1<=t.names.length/\x.2.size+100*iX (t.kids.drop x.1)<=100*iX t.kids/\xC (t.names.drop x.1) (t.kids.drop x.1) x.2 x.1=R) (λx=>[(6,.c (.d (.int .i64 x.1))),(5,.c (.d (.str x.2))),(2,.c (.d (.rp t.enc 0)))]) (λ_=>[]) (λx=>t.names.length-x.1) (0,bs []) ms ⟨by simp,by simp,by simpa using hR⟩ h0 λ⟨j,out⟩ ⟨h1,h2,h3⟩=>?_;unfold ME;simp only at h1 h2 h3;simp;apply fM<;>intro h
 ·have hj:j<t.names.length:=by simpa using h
  have hj2:j<t.kids.length:=by omega
  rw[aG hj,aG hj2,xC]at h3;rw[aG hj2,iX]at h2;have hnx:=Mo (hnm _ (ai hj));have hsx:=zh t.kids[j] false ((CJ _).1 hw _ (ai hj2));have hix:=ih _ (ai hj2) false;by_cases h0:j=0
  ·subst h0;simp only[Nat.lt_irrefl,if_false]at h3;simp[hj,hj2,zao];refine⟨by omega,by omega,?_⟩;refine fU hix ?_;simp[zao];refine⟨by omega,by decide,?_⟩;refine dm (0+1,_) [] ⟨by simp only;omega,?_,h3⟩ (by simp only;omega) ?_
   ·simp only[aY,zg,length_cons,length_nil];omega
   ·simp;decide
  ·have h0':(0:Int)<j:=by omega
   have h0'':0<j:=by omega
   rw[aB h0'']at h3;simp[h0',h0'',hj,hj2,zao];refine⟨by omega,by omega,by omega,?_⟩;refine fU hix ?_;simp[zao];refine⟨by omega,by decide,?_⟩;refine dm (j+1,_) [] ⟨by simp only;omega,?_,h3⟩ (by simp only;omega) ?_
   ·simp;omega
   ·simp;exact wI
 ·have hj:j=t.names.length:=by simp at h;omega
  subst hj;rw[aQ,xC]at h3
  ·subst h3;exact hQ _ _ _ (by simp)
  ·intros;contradiction
def zC6{c:Ctx}(hp:c.pure)(t:fZ)(hw:nV t.kids)(hc:iX t.kids<=1000)(hl:t.kids.length<=1000)(ih:∀e,e∈t.kids->CK e)(R:di)(hR:yf t.kids (bs []) 0=R){Q:Exit->St->Prop}{S:St}{g}{ms:List Nat}
  (h0:iU ms S [(7,.c (.d (.int .i64 0))),(5,.c (.d (.str (bs [])))),(2,.c (.d (.rp t.enc 0)))] [])
  (hQ:∀T M n,Abs.look T 5=.c (.d (.str R))->Q (.exit 3) ⟨T,M,n⟩):qO Pg c MF Q g S:=by
 refine eP gD hp (λx:Nat × di=>x.1<=t.kids.length/\x.2.size+100*iX (t.kids.drop x.1)<=100*iX t.kids/\yf (t.kids.drop x.1) x.2 x.1=R) (λx=>[(7,.c (.d (.int .i64 x.1))),(5,.c (.d (.str x.2))),(2,.c (.d (.rp t.enc 0)))]) (λ_=>[]) (λx=>t.kids.length-x.1) (0,bs []) ms ⟨by simp,by simp,by simpa using hR⟩ h0 λ⟨j,out⟩ ⟨h1,h2,h3⟩=>?_;unfold MF;simp only at h1 h2 h3;simp;apply fM<;>intro h
 ·have hj2:j<t.kids.length:=by simpa using h
  rw[aG hj2,yf]at h3;rw[aG hj2,iX]at h2;have hsx:=zh t.kids[j] true ((CJ _).1 hw _ (ai hj2));have hix:=ih _ (ai hj2) true;by_cases h0:j=0
  ·subst h0;simp only[Nat.lt_irrefl,if_false]at h3;simp[hj2,zao];refine fU hix ?_;simp[zao];refine⟨by omega,?_⟩;refine dm (0+1,_) [] ⟨by simp only;omega,?_,h3⟩ (by simp only;omega) ?_
   ·simp only[aY,zg,length_cons,length_nil];omega
   ·simp;decide
  ·have h0':(0:Int)<j:=by omega
   have h0'':0<j:=by omega
   rw[aB h0'']at h3;simp[h0',h0'',hj2,zao];refine⟨by omega,?_⟩;refine fU hix ?_;simp[zao];refine⟨by omega,?_⟩;refine dm (j+1,_) [] ⟨by simp only;omega,?_,h3⟩ (by simp only;omega) ?_
   ·simp;omega
   ·simp;exact wI
 ·have hj:j=t.kids.length:=by simp at h;omega
  subst hj;rw[aQ,yf]at h3;subst h3;exact hQ _ _ _ (by simp)
def zC7(t:fZ)(hw:jW t)(hc:iw t<=1000)(ih:∀e,e∈t.kids->CK e):CK t:=by
 intro br;refine zz7 (by simp) λo c hN hp=>?_;obtain⟨R,hR⟩:∃R,qx t br=R:=⟨_,rfl⟩
 rw[hR];have hwf:=(og t).1 hw;have hws:=(CJ t.kids).2 hwf.2.1;have hcs:iw t=iX t.kids+1:=by cases t;rw[iw];try rfl
 have hd:=Va t.kind t.name t.names t.kids br;rw[show fZ.mk t.kind t.name t.names t.kids=t by cases t;rfl,hR]at hd;have hll:∀l:List fZ,l.length<=iX l:=by
  intro l
  induction l with
  |nil=>simp
  |cons x l ih=>have:=zEV x;simp[iX];omega
 have hkl:=hll t.kids;unfold U9;by_cases k0:t.kind=0
 ·simp[k0]at hd;simp[k0,hd]
 by_cases k1:t.kind=1
 ·simp[k1]at hd;simp[k1,hd]
 by_cases k2:t.kind=2
 ·simp[k2]at hd;simp[k2,hd]
 by_cases k3:t.kind=3
 ·simp[k3]at hd;simp[k3,hd]
 by_cases k4:t.kind=4
 ·simp[k4]at hd;simp[k4,hd]
 by_cases k5:t.kind=5
 ·simp[k5]at hd;have hn:t.names.length=t.kids.length/\t.names.length<=16/\∀x,x∈t.names->mJ x=true:=by
   rcases hwf.2.2 with⟨_,q,_⟩|⟨_,q⟩|⟨q,_⟩|⟨q,_⟩
   ·omega
   ·exact q
   ·omega
   ·omega
  have hfs:=Mq t.names t.kids (bs []) 0 hws hn.2.2;simp only[zg,length_nil,Nat.zero_add]at hfs;simp[k5];refine zC5 hp t hws hn.1 hn.2.2 (by omega) (by omega) ih _ rfl (ms:=[]) (by simp) λT M n t5=>?_;generalize xC t.names t.kids (bs []) 0=f at*
  simp[t5,zao];refine⟨by omega,by omega,?_⟩;rw[hd]
 by_cases k6:t.kind=6
 ·have hn:t.kids.length=2:=by
   rcases hwf.2.2 with⟨_,q,_⟩|⟨q,_⟩|⟨_,_,q⟩|⟨q,_⟩
   ·omega
   ·omega
   ·exact q
   ·omega
  obtain⟨a,b,hab⟩:∃a b,t.kids=[a,b]:=by
   match t.kids,hn with
   |[a,b],_=>exact⟨a,b,rfl⟩
  have hia:=ih a (by rw[hab];simp) true;have hib:=ih b (by rw[hab];simp) false;have hsa:=zh a true (hwf.2.1 a (by rw[hab];simp));have hsb:=zh b false (hwf.2.1 b (by rw[hab];simp));rw[hab]at hcs hd;simp only[iX]at hcs;simp[k6]at hd;simp[k6,hab,zao];refine fU hia ?_;simp[hab,zao];refine⟨by omega,?_⟩;refine fU hib ?_;generalize qx a true=sa at*
  generalize qx b false=sb at*
  simp[zao];refine⟨by omega,by decide,?_⟩;cases br with
  |true=>
   simp at hd;simp[zao];refine⟨by omega,by omega,?_⟩;rw[hd]
  |false=>
   simp at hd;simp[hd]
 ·simp[k0,k1,k2,k3,k4,k5,k6]at hd;simp[k0,k1,k2,k3,k4,k5,k6];refine zC6 hp t hws (by omega) (by omega) ih R hd.symm (ms:=[]) (by simp) λT M n t5=>?_;simp[t5]
mutual
def Vd:∀t:fZ,jW t->iw t<=1000->CK t
|.mk k n s l,hw,hc=>by
 have hws:=hw;rw[jW]at hws;rw[iw]at hc;exact zC7 (.mk k n s l) hw (by rw[iw];omega) (λe he=>Ve l hws.2.1 (by omega) e he)
def Ve:∀l:List fZ,nV l->iX l<=1000->∀e,e∈l->CK e
|[],_,_,e,h=>by cases h
|d::l,hw,hc,e,h=>by
 rw[nV]at hw;rw[iX]at hc;cases h with
 |head=>exact Vd d hw.1 (by omega)
 |tail _ h=>exact Ve l hw.2 (by omega) e h
end
theorem Iy(t:fZ):fu Pg 47 [.agg t.enc] (.one (.str (xD t))):=by
 refine zz6 (by simp) λo c hN hp=>?_;obtain⟨R,hR⟩:∃R,xD t=R:=⟨_,rfl⟩
 rw[hR];unfold xD at hR;have hi:gI t=(decide ((kS t).2=0)&&nA (kS t).1 t):=rfl;have hsh:gI t=true->CK t:=λh=>Vd t (xy h) (by have:=Iw h;omega);unfold U8;simp;refine fU (CG t) ?_;generalize kS t=N at*
 simp;refine fU (Dt _ _) ?_;by_cases h:N.2=0
 ·by_cases h2:nA N.1 t=true
  ·have hx:gI t=true:=by rw[hi];simp[h,h2]
   rw[aB hx]at hR;simp[h,h2];refine fU (hsh hx false) ?_;simp[hR]
  ·have hx:¬gI t=true:=by rw[hi];simp[h,h2]
   rw[aA hx]at hR;subst hR;simp[h,h2]
 ·have hx:¬gI t=true:=by rw[hi];simp[h]
  rw[aA hx]at hR;subst hR;simp[h]
def fu.erdV{P:Program}{f:FuncId}{args:List DV}{v v':DV}(h:fu P f args v)(e:v.erd=v'):fu P f args v':=by
 subst e;refine⟨h.1,λph w us hp hG hS r=>(h.2 ph w us hp hG hS r).mono λe w' q=>?_⟩;obtain⟨vC,h',q1,q2,q3,q4,q5,q6,q7,q8⟩:=q;exact⟨vC,h',q1,q2,q3,q4,q5,q6,q7,jZ.erd q8⟩
@[simp] theorem jk.enc_length(p:jk):p.enc.length=6:=by simp[jk.enc]
@[simp] theorem jk.enc_0(p:jk):p.enc[0]?=some (.int .i64 p.tag):=rfl
@[simp] theorem jk.enc_g0(p:jk)(h:0<p.enc.length):p.enc[0]=.int .i64 p.tag:=rfl
@[simp] theorem jk.cut_t(p:jk):cut p.enc 2 4=p.t.enc:=by unfold jk.enc;rw[fZ.enc_eq];try rfl
@[simp] theorem jk.cut_tM(p:jk):cut (p.enc.map AC.d) 2 4=p.t.enc.map .d:=by unfold jk.enc;rw[fZ.enc_eq];try rfl
@[simp] theorem jk.er_map(p:jk):p.enc.map D.er=p.enc:=by unfold jk.enc;rw[fZ.enc_eq];try rfl
theorem zDh(a b c d e f:AC)(T:fZ):splice [a,b,c,d,e,f] 2 (T.enc.map AC.d)=a::b::T.enc.map .d:=by rw[T.enc_eq];try rfl
theorem zHd(a b:AC)(T:fZ):cut (a::b::T.enc.map AC.d) 0 6=a::b::T.enc.map .d:=by rw[T.enc_eq];try rfl
attribute [simp] zDh zHd
@[simp] theorem jk.enc_4(p:jk):p.enc[4]?=some (.sl false 1 (encS p.t.names)):=by unfold jk.enc;rw[fZ.enc_eq];try rfl
@[simp] theorem jk.enc_5(p:jk):p.enc[5]?=some (.sl false 4 (p.t.kids.map fZ.enc)):=by unfold jk.enc;rw[fZ.enc_eq];try rfl
@[simp] theorem jk.enc_g4(p:jk)(h:4<p.enc.length):p.enc[4]=.sl false 1 (encS p.t.names):=by have:=p.enc_4;rw[aD h]at this;exact bV this
@[simp] theorem jk.enc_g5(p:jk)(h:5<p.enc.length):p.enc[5]=.sl false 4 (p.t.kids.map fZ.enc):=by have:=p.enc_5;rw[aD h]at this;exact bV this
def nM{α β:Type}(f:α->β)(v:List α):take v.length (v.map f)=v.map f:=aH (by rw[ah];exact aK _)
def Iz(l:List jk)(tag:Int):fu Pg 125 [.one (.sl false 6 (l.map jk.enc)),.one (.int .i64 tag)] (.tup [.agg (kT l tag).1.enc,.one (.bool (kT l tag).2)]):=by
 refine zz8 (by simp) λo c hN hp=>?_;have hl:l.length<=zao:=by have:=o.1;simp only[DV.ok,D.ok,ah]at this;exact this.1
 unfold zao at hl;obtain⟨R,hR⟩:∃R,kT l tag=R:=⟨_,rfl⟩
 rw[hR];unfold kT at hR;unfold Uf;simp;refine eP gD hp (λj:Nat=>j<=l.length/\(l.drop j).find? (λp=>decide (p.tag=tag))=l.find? λp=>decide (p.tag=tag)) (λj=>[(6,.c (.d (.int .i64 j))),(4,.c (.ptr 0 0)),(1,.c (.d (.int .i64 tag))),(0,.c (.d (.sl false 6 (l.map jk.enc))))]) (λ_=>[.box [.d (.int .i64 0),.d (.bool false),.d (.int .i64 0),.d (.str (bs [])),.d (.sl true 1 []),.d (.sl true 4 [])]]) (λj=>l.length-j) 0 [0] ⟨by simp,by simp⟩ (by simp) λj ⟨h1,h2⟩=>?_;unfold Ue;simp;apply fM<;>intro h
 ·have hj:j<l.length:=by simpa using h
  rw[aG hj,find?_cons]at h2;obtain⟨x,hx⟩:∃x,l[j]=x:=⟨_,rfl⟩
  rw[hx]at h2;by_cases q:x.tag=tag
  ·simp[q]at h2;rw[<-h2]at hR;subst hR;simp[hj,hx,q]
  ·simp[q]at h2;simp[hj,hx,q];refine dm (j+1) [0] ⟨by omega,by simpa using h2⟩ (by omega) ?_;simp;exact wI
 ·have hj:j=l.length:=by simp at h;omega
  subst hj;rw[aQ,find?_nil]at h2;rw[<-h2]at hR;subst hR;simp;rfl
def Vf(t:fZ)(s:di)(hn:t.names.length<=t.kids.length):fu Pg 126 [.agg t.enc,.one (.str s)] (.tup [.agg (oO t s).1.enc,.one (.bool (oO t s).2)]):=by
 refine zyA (by simp) λo c hN hp=>?_;have hf:=FR o.1;unfold zao at hf;obtain⟨R,hR⟩:∃R,oO t s=R:=⟨_,rfl⟩
 rw[hR];unfold oO at hR;unfold Uh;simp;refine eP gD hp (λj:Nat=>j<=t.names.length/\qC (t.names.drop j) (t.kids.drop j) s=R) (λj=>[(6,.c (.d (.int .i64 j))),(4,.c (.ptr 0 0)),(2,.c (.d (.rp t.enc 0))),(1,.c (.d (.str s)))]) (λ_=>[sU]) (λj=>t.names.length-j) 0 [0] ⟨by simp,by simpa using hR⟩ (by simp) λj ⟨h1,h2⟩=>?_;unfold Ug;simp;apply fM<;>intro h
 ·have hj:j<t.names.length:=by simpa using h
  have hj2:j<t.kids.length:=by omega
  rw[aG hj,aG hj2,qC]at h2;by_cases q:t.names[j]=s
  ·rw[aB q]at h2;subst h2;simp[hj,hj2,q]
  ·rw[aA q]at h2;simp[hj,hj2,q];refine dm (j+1) [0] ⟨by omega,h2⟩ (by omega) ?_;simp;exact wI
 ·have hj:j=t.names.length:=by simp at h;omega
  subst hj;rw[aQ,qC]at h2
  ·subst h2;simp[mW]
  ·intros;contradiction
def lK(k:Int):List D:=[.int .i64 k,.str (bs []),.sl true 1 [],.sl true 4 []]
def nD:List (List D):=[
.int .i64 0::.bool false::lK 1,.int .i64 1::.bool false::lK 2,.int .i64 2::.bool false::lK 3,.int .i64 3::.bool false::lK 4,
.int .i64 4::.bool true::lK 5,[.int .i64 5,.bool false,.int .i64 6,.str (bs []),.sl true 1 [],.sl true 4 [lK 0,lK 0]]]
abbrev FW(es:List (List D)):Blk:=.arr 6 (es.map (·.map .d))
def zBD(t:fZ)(h0:t.kind=0):fu Pg 124 [.agg t.enc] (.one (.sl false 6 nD)):=by
 refine Ud (by simp) λo c hN hp=>?_;unfold MG;simp[h0];refine eY [.t 3] ?_;simp;refine eP gD hp (λj:Nat=>j<=6) (λj=>[(4,.c (.d (.int .i64 j))),(3,.c (.msl 6 0 0 j))]) (λj=>[FW (nD.take j)]) (λj=>6-j) 0 [0] (by simp) (by simp[nD]) λj h1=>?_;unfold Ub;have w1:IntKind.i64.wrap 1=1:=by decide
 have w2:IntKind.i64.wrap 2=2:=by decide
 have w3:IntKind.i64.wrap 3=3:=by decide
 have w4:IntKind.i64.wrap 4=4:=by decide
 have w5:IntKind.i64.wrap 5=5:=by decide
 have w6:IntKind.i64.wrap 6=6:=by decide
 have hc:j=0\/j=1\/j=2\/j=3\/j=4\/j=5\/j=6:=by omega
 rcases hc with rfl|rfl|rfl|rfl|rfl|rfl|rfl
 ·simp[nD,lK,w1,w2,w3,w4,w5,w6];refine dm 1 [2] (by omega) (by omega) ?_;simp[nD,lK,w1,w2,w3,w4,w5,w6]
 ·simp[nD,lK,w1,w2,w3,w4,w5,w6];refine dm 2 [2] (by omega) (by omega) ?_;simp[nD,lK,w1,w2,w3,w4,w5,w6]
 ·simp[nD,lK,w1,w2,w3,w4,w5,w6];refine dm 3 [2] (by omega) (by omega) ?_;simp[nD,lK,w1,w2,w3,w4,w5,w6]
 ·simp[nD,lK,w1,w2,w3,w4,w5,w6];refine dm 4 [2] (by omega) (by omega) ?_;simp[nD,lK,w1,w2,w3,w4,w5,w6]
 ·simp[nD,lK,w1,w2,w3,w4,w5,w6];refine dm 5 [2] (by omega) (by omega) ?_;simp[nD,lK,w1,w2,w3,w4,w5,w6]
 ·simp[nD,lK,w1,w2,w3,w4,w5,w6];refine dm 6 [2] (by omega) (by omega) ?_;simp[nD,lK,w1,w2,w3,w4,w5,w6]
 ·simp[nD,lK]
def FX(t:fZ)(hk:t.kids.length<=1000):fu Pg 124 [.agg t.enc] (.one (.sl false 6 ((kG t).map jk.enc))):=by
 by_cases h0:t.kind=0
 ·refine fu.erdV (zBD t h0) ?_;unfold kG;rw[aB h0];try rfl
 refine Ud (by simp) λo c hN hp=>?_;have hf:=FR o.1;unfold zao at hf;obtain⟨R,hR⟩:∃R,kG t=R:=⟨_,rfl⟩
 rw[hR];unfold kG at hR;rw[aA h0]at hR;unfold MG;by_cases h7:t.kind=7;rotate_left
 ·rw[aB h7]at hR;subst hR;simp[h0,h7];refine fU (Iq t) ?_;simp[jk.enc];decide
 rw[aA (λz=>z h7)]at hR;simp[h0,h7];refine eY [.t 3] ?_;simp;subst hR;refine eP gD hp (λj:Nat=>j<=t.kids.length) (λj=>[(6,.c (.d (.int .i64 j))),(3,.c (.msl 6 0 0 j)),(1,.c (.d (.rp t.enc 0)))]) (λj=>[FW (((t.kids.take j).map λk=>(⟨iD k,false,k⟩:jk)).map jk.enc)]) (λj=>t.kids.length-j) 0 [0] (by simp) (by simp) λj h1=>?_;unfold Uc;simp;apply fM<;>intro h
 ·have hj:j<t.kids.length:=by simpa using h
  obtain⟨x,hx⟩:∃x,t.kids[j]=x:=⟨_,rfl⟩
  simp[hj,hx];refine fU (Iq x) ?_;have hmn:min j t.kids.length=j:=by omega
  simp[jk.enc,hj,hx,hmn];refine⟨by omega,by decide,?_⟩;refine dm (j+1) [1] (by omega) (by omega) ?_;rw[ak hj,hx];simp[jk.enc,hmn];refine⟨wI,by rw[take_take,Nat.min_self],λx hx=>?_⟩;obtain⟨y,_,rfl⟩:=bI.1 (cZ hx);simp
 ·have hj:j=t.kids.length:=by simp at h;omega
  subst hj;simp[nM];try trace_state
def FY:∀{l:List fZ} {x:fZ},x∈l->ko x<=kE l
|t::l,x,h=>by
 rw[kE];rcases aS.1 h with rfl|h
 ·omega
 ·have:=FY h;omega
def FZ{t x:fZ}(h:x∈t.kids):ko x<ko t:=by
 cases t with
 |mk k n s l=>rw[ko];have:=FY (l:=l) h;omega
def JA:∀(ns:List di) (ks:List fZ) (s:di),(qC ns ks s).2=true->(qC ns ks s).1∈ks
|[],ks,s,h=>by rw[qC]at h;cases h;all_goals (intros;contradiction)
|_::_,[],s,h=>by rw[qC]at h;cases h;all_goals (intros;contradiction)
| n::ns,k::ks,s,h=>by
 rw[qC]at h⊢;by_cases q:n=s
 ·rw[aB q];simp
 ·rw[aA q]at h⊢;exact mem_cons_of_mem _ (JA ns ks s h)
def Mr{t:fZ}(h:jW t):t.names.length<=t.kids.length:=by
 rcases((og t).1 h).2.2 with⟨_,_,q,_⟩|⟨_,q,_⟩|⟨_,q,_⟩|⟨_,q,_⟩
 ·rw[q];simp
 ·omega
 ·rw[q];simp
 ·rw[q];simp
def xI{t x:fZ}(h:jW t)(hx:x∈t.kids):jW x:=((og t).1 h).2.1 x hx
def JB{t:fZ}(h:jW t)(hk:t.kind=6):t.kids.length=2:=by
 rcases((og t).1 h).2.2 with⟨_,q,_⟩|⟨q,_⟩|⟨_,_,q⟩|⟨q,_⟩
 ·omega
 ·omega
 ·exact q
 ·omega
def F3{t:fZ}(h:iD t=5):t.kind=6:=by
 unfold iD at h;split at h
 ·omega
 ·omega
def F4{t:fZ}(h:jW t)(h0:t.kind≠0){p:jk}(hp:p∈kG t):jW p.t/\p.tag=iD p.t/\(∀x,x∈p.t.kids->ko x<ko t)/\p.opn=false:=by
 unfold kG at hp;rw[aA h0]at hp;split at hp
 ·simp at hp;subst hp;exact⟨h,rfl,λx hx=>FZ hx,rfl⟩
 ·obtain⟨k,hk,rfl⟩:=bI.1 hp;exact⟨xI h hk,rfl,λx hx=>Nat.lt_trans (FZ hx) (FZ hk),rfl⟩
def F5{l:List jk}{tag:Int}(h:(kT l tag).2=true):(kT l tag).1∈l/\(kT l tag).1.tag=tag:=by
 unfold kT at h⊢;cases e:l.find? λp=>decide (p.tag=tag)with
 |none=>rw[e]at h;cases h
 |some p=>
  have h1:=mem_of_find?_eq_some e;have h2:=find?_some e;exact⟨h1,by simpa using h2⟩
abbrev CL(lo:Bool)(L R:List jk)(i:Nat):List (Nat × AV):=[(9,.c (.d (.int .i64 i))),(8,.c (.d (.sl false 6 (R.map jk.enc)))),(7,.c (.d (.sl false 6 (L.map jk.enc)))),(2,.c (.d (.bool lo)))]
abbrev F6(lo:Bool)(rc:fZ->fZ->Bool)(a b:fZ):Prop:=fu Pg 80 [.agg a.enc,.agg b.enc,.one (.bool lo)] (.one (.bool (rc a b)))
theorem zBE{c:Ctx}(hp:c.pure)(lo:Bool)(L R:List jk)(i:Nat)(q:jk)(m:fZ)(rc:fZ->fZ->Bool)(hm:jW m)(hq:jW q.t)(hl:q.t.names.length<=1000)(ih:∀x,x∈m.kids->∀y,y∈q.t.kids->F6 lo rc x y){Q:Exit->St->Prop}{S:St}{g}{ms:List Nat}
  (h0:iU ms S ((13,.c (.d (.int .i64 0)))::(12,.c (.ptr 1 0))::(10,.c (.ptr 0 0))::CL lo L R i) [.box (q.enc.map .d),.box (m.enc.map .d)])
  (hN:xE rc m q.t.names q.t.kids=false->∀T M n,Abs.look T 6=.c (.d (.bool false))->Q .ret ⟨T,M,n⟩)
  (hQ:xE rc m q.t.names q.t.kids=true->∀T,Abs.look T 12=.c (.ptr 1 0)->Abs.look T 10=.c (.ptr 0 0)->Abs.look T 9=.c (.d (.int .i64 i))->Abs.look T 8=.c (.d (.sl false 6 (R.map jk.enc)))->Abs.look T 7=.c (.d (.sl false 6 (L.map jk.enc)))->Abs.look T 2=.c (.d (.bool lo))->Q (.exit 2) ⟨T,hpOf [.box (q.enc.map .d),.box (m.enc.map .d)],2⟩):qO Pg c MH Q g S:=by
 have hnk:=Mr hq;obtain⟨F0,hF⟩:∃F0,xE rc m q.t.names q.t.kids=F0:=⟨_,rfl⟩
 rw[hF]at hN hQ;refine eP gD hp (λj:Nat=>j<=q.t.names.length/\xE rc m (q.t.names.drop j) (q.t.kids.drop j)=F0) (λj=>(13,.c (.d (.int .i64 j)))::(12,.c (.ptr 1 0))::(10,.c (.ptr 0 0))::CL lo L R i) (λ_=>[.box (q.enc.map .d),.box (m.enc.map .d)]) (λj=>q.t.names.length-j) 0 ms ⟨by simp,by simpa using hF⟩ h0 λj ⟨h1,h2⟩=>?_;unfold MH;simp;apply fM<;>intro h
 ·have hj:j<q.t.names.length:=by simpa using h
  have hj2:j<q.t.kids.length:=by omega
  rw[aG hj,aG hj2,xE]at h2;have hfm:=JA m.names m.kids q.t.names[j];have hff:qC m.names m.kids q.t.names[j]=oO m q.t.names[j]:=rfl;rw[hff]at hfm;simp[hj,hj2];refine fU (Vf m _ (Mr hm)) ?_;generalize oO m q.t.names[j]=f at*
  by_cases hf:f.2=true
  ·have hix:=ih _ (hfm hf) _ (ai hj2);simp only[hf,Bool.true_and]at h2;simp[hf,hj,hj2];refine⟨by decide,?_⟩;refine fU hix ?_;generalize rc f.1 q.t.kids[j]=z at*
   cases z with
   |true=>
    simp only[Bool.true_and]at h2;simp;refine⟨by decide,?_⟩;refine dm (j+1) [0,1] ⟨by omega,h2⟩ (by omega) ?_;simp;exact wI
   |false=>
    simp only[Bool.false_and]at h2;simp;exact⟨by decide,hN h2.symm _ _ _ (by simp)⟩
  ·simp only[hf,Bool.false_and]at h2;simp[hf,hj,hj2];exact⟨by decide,by decide,hN h2.symm _ _ _ (by simp)⟩
 ·have hj:j=q.t.names.length:=by simp at h;omega
  subst hj;rw[aQ,xE]at h2
  ·exact hQ h2.symm _ (by simp) (by simp) (by simp) (by simp) (by simp) (by simp)
  ·intros;contradiction
def Vg(t:fZ):1<=ko t:=by cases t;rw[ko];omega
def zDi{t:fZ}(h:jW t):t.names.length<=16:=by
 rcases((og t).1 h).2.2 with⟨_,_,q,_⟩|⟨_,_,q,_⟩|⟨_,q,_⟩|⟨_,q,_⟩
 ·rw[q];simp
 ·omega
 ·rw[q];simp
 ·rw[q];simp
def zi{t:fZ}(h:jW t):t.kids.length<=16:=by
 rcases((og t).1 h).2.2 with⟨_,_,_,q⟩|⟨_,q,r,_⟩|⟨_,_,q⟩|⟨_,_,q,_⟩
 ·rw[q];simp
 ·omega
 ·omega
 ·omega
def zBF(t:fZ):(kG t).length<=6+t.kids.length:=by
 unfold kG;split
 ·simp
 split
 ·simp;omega
 ·simp
def Vh{t:fZ}(h:t.kids.length=2):jg t∈t.kids/\t.kids[0]?=some (jg t):=by
 unfold jg
 match t.kids,h with
 |[a,b],_=>simp
def Ms{t:fZ}(h:t.kids.length=2):jh t∈t.kids/\t.kids[1]?=some (jh t):=by
 unfold jh
 match t.kids,h with
 |[a,b],_=>simp
def JC(lo:Bool):∀(n:Nat) (a b:fZ),jW a->jW b->ko a+ko b<=n->F6 lo (qP lo n) a b
|0,a,b,_,_,h=>by have:=Vg a;omega
| n + 1,a,b,wa,wb,hn=>by
 refine zyB (by simp) λo c hN hp=>?_;obtain⟨F0,hF⟩:∃F0,qP lo (n+1) a b=F0:=⟨_,rfl⟩
 rw[hF];rw[qP]at hF;unfold Uj;by_cases a0:a.kind=0
 ·rw[aB (.inl a0)]at hF;cases lo with
  |true=>
   simp at hF;simp[a0,hF]
  |false=>
   simp[a0]at hF;simp[a0,hF]
 by_cases b0:b.kind=0
 ·rw[aB (.inr b0)]at hF;cases lo with
  |true=>
   simp at hF;simp[a0,b0,hF]
  |false=>
   rw[<-hF];simp[a0,b0]
 rw[aA (by omega)]at hF;have hpa:=λp hp=>F4 (p:=p) wa a0 hp;have hpb:=λp hp=>F4 (p:=p) wb b0 hp;simp[a0,b0];refine fU (FX a (by have:=zi wa;omega)) ?_;simp;refine fU (FX b (by have:=zi wb;omega)) ?_;have hL:(kG a).length<=1000:=by have:=zi wa;have:=zBF a;omega
 generalize kG a=L at*
 generalize kG b=R at*
 simp;refine eP gD hp (λi:Nat=>i<=L.length/\((L.drop i).all λp=>(kT R p.tag).2&&(xE (qP lo n) p.t (kT R p.tag).1.t.names (kT R p.tag).1.t.kids&&(!decide ((kT R p.tag).1.tag=5)||(qP lo n (jg (kT R p.tag).1.t) (jg p.t)&&qP lo n (jh p.t) (jh (kT R p.tag).1.t)))))=F0) (λi=>CL lo L R i) (λ_=>[]) (λi=>L.length-i) 0 [] ⟨by simp,by simpa using hF⟩ (by simp) λi ⟨i1,i2⟩=>?_;unfold Ui;simp;apply fM<;>intro h
 ·have hi:i<L.length:=by simpa using h
  rw[aG hi,all_cons]at i2;obtain⟨p,hx⟩:∃p,L[i]=p:=⟨_,rfl⟩
  have hpm:=hpa p (by rw[<-hx];exact ai hi);rw[hx]at i2;simp[hi,hx];refine fU (Iz R p.tag) ?_;have hq:=λh=>F5 (l:=R) (tag:=p.tag) h;generalize kT R p.tag=q at*
  by_cases q2:q.2=true;rotate_left
  ·simp only[q2,Bool.false_and]at i2;simp[q2];simpa using i2
  obtain⟨qm,qt⟩:=hq q2;have hqm:=hpb q.1 qm;simp only[q2,Bool.true_and]at i2;simp[q2,hi,hx];refine zBE hp lo L R i q.1 p.t (qP lo n) hpm.1 hqm.1 (by have:=zDi hqm.1;omega) (λx hx y hy=>JC lo n x y (xI hpm.1 hx) (xI hqm.1 hy) (by have:=hpm.2.2.1 x hx;have:=hqm.2.2.1 y hy;omega)) (ms:=[0,1]) (by simp) (λhf T M n' t6=>?_) (λhf T t12 t10 t9 t8 t7 t2=>?_)
  ·rw[hf]at i2;simp only[Bool.false_and]at i2;simp[t6,i2]
  ·rw [hf]at i2;simp only[Bool.true_and]at i2;by_cases g5:q.1.tag=5
   ·have hk1:=JB hqm.1 (F3 (by rw[<-hqm.2.1];exact g5));have hk2:=JB hpm.1 (F3 (by rw[<-hpm.2.1,<-qt];exact g5));have m0:=Vh hk1;have m1:=Ms hk1;have n0:=Vh hk2;have n1:=Ms hk2;have e1:fu Pg 80 [.agg (jg q.1.t).enc,.agg (jg p.t).enc,.one (.bool lo)] (.one (.bool (qP lo n (jg q.1.t) (jg p.t)))):=JC lo n (jg q.1.t) (jg p.t) (xI hqm.1 m0.1) (xI hpm.1 n0.1) (by have:=hpm.2.2.1 _ n0.1;have:=hqm.2.2.1 _ m0.1;omega);have e2:fu Pg 80 [.agg (jh p.t).enc,.agg (jh q.1.t).enc,.one (.bool lo)] (.one (.bool (qP lo n (jh p.t) (jh q.1.t)))):=JC lo n (jh p.t) (jh q.1.t) (xI hpm.1 n1.1) (xI hqm.1 m1.1) (by have:=hpm.2.2.1 _ n1.1;have:=hqm.2.2.1 _ m1.1;omega);simp only[g5,decide_true,Bool.not_true,Bool.false_or]at i2;generalize qP lo n (jg q.1.t) (jg p.t)=z1 at*
    generalize qP lo n (jh p.t) (jh q.1.t)=z2 at*
    simp[t10,t12,t2,g5,m0.2,n0.2];refine fU e1 ?_;cases z1 with
    |false=>
     simp only[Bool.false_and]at i2;simp;exact⟨by decide,i2.symm⟩
    | true=>
     simp only[Bool.true_and]at i2;simp[t10,t12,t2,m1.2,n1.2,t9];refine fU e2 ?_;cases z2 with
     |false=>
      simp only[Bool.false_and]at i2;simp;exact⟨by decide,i2.symm⟩
     |true=>
      simp only[Bool.true_and]at i2;simp[t9];refine⟨by decide,?_⟩;refine dm (i+1) [] ⟨by omega,i2⟩ (by omega) ?_;simp[t9,t8,t7,t2];exact wI
   ·simp only[g5,decide_false,Bool.not_false,Bool.true_or,Bool.true_and]at i2;simp[t10,t12,t2,g5,t9];refine⟨by decide,?_⟩;refine dm (i+1) [] ⟨by omega,i2⟩ (by omega) ?_;simp[t9,t8,t7,t2];exact wI
 ·have hi:i=L.length:=by simp at h;omega
  subst hi;rw[aQ,all_nil]at i2;simp[i2]
def JD(lo:Bool)(a b:fZ)(wa:jW a)(wb:jW b):F6 lo (pE lo) a b:=JC lo (ko a+ko b) a b wa wb (aK _)
def F7(a b:fZ):fu Pg 92 [.agg a.enc,.agg b.enc] (.one (.bool (lU a b))):=by
 refine zBn (by simp) λo c hN hp=>?_;unfold Uk lU;have H:gI a=true->gI b=true->F6 false (pE false) a b:=λh k=>JD false a b (xy h) (xy k);simp;refine fU (zf a) ?_;simp;refine fU (zf b) ?_;generalize gI a=x at*
 generalize gI b=y at*
 cases x<;>cases y<;>simp;refine fU (H rfl rfl) ?_;simp
def Vi(a b:fZ):fu Pg 42 [.agg a.enc,.agg b.enc] (.one (.bool (uj a b))):=by
 refine zz9 (by simp) λo c hN hp=>?_;unfold Ul uj;have H:gI a=true->gI b=true->F6 true (pE true) a b:=λh k=>JD true a b (xy h) (xy k);simp;refine fU (zf a) ?_;simp;refine fU (zf b) ?_;generalize gI a=x at*
 generalize gI b=y at*
 cases x<;>cases y<;>simp;refine fU (H rfl rfl) ?_;simp
abbrev Mt(a b:fZ)(i:Nat):List (Nat × AV):=[(9,.c (.d (.int .i64 i))),(8,.c (.ptr 2 0)),(7,.c (.ptr 1 0)),(4,.c (.ptr 0 0)),(3,.c (.d (.rp b.enc 0))),(2,.c (.d (.rp a.enc 0)))]
abbrev Mv(ks:List fZ):List Blk:=[sU,sU,.box [.d (.int .i64 7),.d (.str (bs [])),.d (.sl true 1 []),.msl 4 3 0 ks.length],nU ks]
def zEE(a b:fZ):fu Pg 132 [.agg a.enc,.agg b.enc] (.agg (vR a b).enc):=by
 refine zAa (by simp) λo c hN hp=>?_;obtain⟨R,hR⟩:∃R,vR a b=R:=⟨_,rfl⟩
 rw[hR];unfold vR at hR;unfold Un;simp;refine fU (F7 a b) ?_;by_cases s1:lU a b=true
 ·rw[aB s1]at hR;subst hR;simp[s1]
 rw[aA s1]at hR;simp[s1];refine fU (F7 b a) ?_;by_cases s2:lU b a=true
 ·rw[aB s2]at hR;subst hR;simp[s2]
 rw[aA s2]at hR;simp[s2];refine fU (zf a) ?_;simp;refine fU (zf b) ?_;by_cases na:gI a=true;rotate_left
 ·rw[aB (.inl (by simpa using na))]at hR;subst hR;simp[na,mW]
 by_cases nb:gI b=true;rotate_left
 ·rw[aB (.inr (.inl (by simpa using nb)))]at hR;subst hR;simp[na,nb,mW]
 by_cases a0:a.kind=0
 ·rw[aB (.inr (.inr (.inl a0)))]at hR;subst hR;simp[na,nb,a0,mW]
 by_cases b0:b.kind=0
 ·rw[aB (.inr (.inr (.inr b0)))]at hR;subst hR;simp[na,nb,a0,b0,mW]
 rw[aA (by simp[na,nb,a0,b0])]at hR;have wa:=xy na;have wb:=xy nb;simp[na,nb,a0,b0];refine eY [.c 2 3] ?_;simp;obtain⟨F0,hF⟩:∃F0,yg a b [0,1,2,3,4,5] []=F0:=⟨_,rfl⟩
 rw[hF]at hR;refine eP gD hp (λx:Nat × List fZ=>x.1<=6/\x.2.length<=x.1/\yg a b (Am x.1) x.2=F0) (λx=>Mt a b x.1) (λx=>Mv x.2) (λx=>6-x.1) (0,[]) [0,1,2,3] ⟨by simp,by simp,hF⟩ (by simp) λ⟨t,ks⟩ ⟨i1,i2,i3⟩=>?_;unfold Um;simp only at i1 i2 i3;simp;apply fM<;>intro h
 ·have ht:t<6:=by simp at h;omega
  rw[VY ht,yg]at i3;refine fU (FX a (by have:=zi wa;omega)) ?_;simp;refine fU (Iz _ _) ?_;simp;refine fU (FX b (by have:=zi wb;omega)) ?_;simp;refine fU (Iz _ _) ?_;have hm:=λh=>F4 (p:=(kT (kG a) t).1) wa a0 (F5 h).1;have hn:=λh=>F4 (p:=(kT (kG b) t).1) wb b0 (F5 h).1;generalize kT (kG a) t=m at*
  generalize kT (kG b) t=n at*
  have hw:=wI (n:=(t:Int)+1);by_cases m2:m.2=true
  ·by_cases n2:n.2=true
   ·rw[aB ⟨m2,n2⟩]at i3;have e1:fu Pg 80 [.agg m.1.t.enc,.agg n.1.t.enc,.one (.bool false)] (.one (.bool (pE false m.1.t n.1.t))):=JD false _ _ (hm m2).1 (hn n2).1;have e2:fu Pg 80 [.agg n.1.t.enc,.agg m.1.t.enc,.one (.bool false)] (.one (.bool (pE false n.1.t m.1.t))):=JD false _ _ (hn n2).1 (hm m2).1;simp[m2,n2];refine fU e1 ?_;by_cases z1:pE false m.1.t n.1.t=true
    ·rw[aB z1]at i3;simp[z1];refine⟨by omega,?_⟩;refine dm (t+1,ks++[n.1.t]) [0,1,2,6] ⟨by simp only;omega,by simp;omega,i3⟩ (by simp only;omega) ?_;simp[hw];exact uw ks
    rw[aA z1]at i3;simp[z1,m2,n2];refine fU e2 ?_;by_cases z2:pE false n.1.t m.1.t=true
    ·rw[aB z2]at i3;simp[z2];refine⟨by omega,?_⟩;refine dm (t+1,ks++[m.1.t]) [0,1,2,6] ⟨by simp only;omega,by simp;omega,i3⟩ (by simp only;omega) ?_;simp[hw];exact uw ks
    rw[aA z2]at i3;rw[<-i3]at hR;simp only at hR;subst hR;simp[z2,m2,n2,mW]
   ·rw[aA (λz=>n2 z.2),aB m2]at i3;simp[m2,n2];refine⟨by omega,?_⟩;refine dm (t+1,ks++[m.1.t]) [0,1,2,6] ⟨by simp only;omega,by simp;omega,i3⟩ (by simp only;omega) ?_;simp[hw];exact uw ks
  ·rw[aA (λz=>m2 z.1),aA m2]at i3;by_cases n2:n.2=true
   ·rw[aB n2]at i3;simp[m2,n2];refine⟨by omega,?_⟩;refine dm (t+1,ks++[n.1.t]) [0,1,2,6] ⟨by simp only;omega,by simp;omega,i3⟩ (by simp only;omega) ?_;simp[hw];exact uw ks
   ·rw[aA n2]at i3;simp[m2,n2];refine dm (t+1,ks) [0,1,2,3] ⟨by simp only;omega,by simp only;omega,i3⟩ (by simp only;omega) ?_;simp[hw]
 ·have ht:t=6:=by simp at h;omega
  subst ht;rw[show Am 6=[]from rfl,yg]at i3;rw[<-i3]at hR;simp only at hR;have hNm:fu Pg 76 [.agg [.int .i64 7,.str (bs []),.sl true 1 [],.sl false 4 (ks.map fZ.enc)]] (.tup [.agg (kS (.mk 7 (bs []) [] ks)).1.enc,.one (.int .i64 (kS (.mk 7 (bs []) [] ks)).2)]):=fu.erd (CG (.mk 7 (bs []) [] ks)) (by simp[Du,DV.erds,DV.erd,D.erdL,D.erd]);have z:take ks.length (List.map fZ.enc ks)=List.map fZ.enc ks:=aH (by simp);simp;refine eU [3] ?_;simp[jT,uw,z];refine fU hNm ?_;generalize kS (.mk 7 (bs []) [] ks)=N at*
  by_cases n0:N.2=0
  ·rw[aB n0]at hR;subst hR;simp[jT,n0]
  ·rw[aA n0]at hR;subst hR;simp[jT,n0,mW]
abbrev Mw(t:fZ)(tag:Int)(i:Nat):List (Nat × AV):=[(10,.c (.d (.int .i64 i))),(9,.c (.ptr 3 0)),(7,.c (.ptr 2 0)),(5,.c (.ptr 1 0)),(4,.c (.ptr 0 0)),(2,.c (.d (.rp t.enc 0))),(1,.c (.d (.int .i64 tag)))]
abbrev Mx(p:jk)(ks:List fZ):List Blk:=[sU,sU,.box (p.enc.map .d),.box [.d (.int .i64 7),.d (.str (bs [])),.d (.sl true 1 []),.msl 4 4 0 ks.length],nU ks]
def zBi(t:fZ)(tag:Int):fu Pg 131 [.agg t.enc,.one (.int .i64 tag)] (.tup [.agg (qy t tag).1.enc,.agg (qy t tag).2.enc]):=by
 refine zwM (by simp) λo c hN hp=>?_;obtain⟨R,hR⟩:∃R,qy t tag=R:=⟨_,rfl⟩
 rw[hR];unfold qy at hR;unfold Uq;simp;refine fU (zf t) ?_;by_cases na:gI t=true;rotate_left
 ·rw[aB (.inl (by simpa using na))]at hR;subst hR;simp[na];try decide
 by_cases t1:tag<0
 ·rw[aB (.inr (.inl t1))]at hR;subst hR;simp[na,t1];try decide
 by_cases t2:6<=tag
 ·rw[aB (.inr (.inr t2))]at hR;subst hR;simp[na,t1,t2];try decide
 rw[aA (by simp[na];omega)]at hR;have wt:=xy na;by_cases k0:t.kind=0
 ·rw[aB k0]at hR;by_cases t5:tag=5
  ·rw[aB t5]at hR;subst hR;simp[na,t1,t2,k0,t5];try decide
  ·rw[aA t5]at hR;subst hR;have hw:=wI (n:=1+tag);simp[na,t1,t2,k0,t5,hw];exact⟨by decide,by rw[uy]⟩
 rw[aA k0]at hR;simp[na,t1,t2,k0];refine fU (FX t (by have:=zi wt;omega)) ?_;simp;refine fU (Iz _ _) ?_;generalize kT (kG t) tag=p at*
 by_cases p2:p.2=true;rotate_left
 ·rw[aB (by simpa using p2)]at hR;subst hR;simp[p2];try decide
 rw[aA (by simp[p2])]at hR;by_cases k7:t.kind=7;rotate_left
 ·rw[aB k7]at hR;subst hR;simp[p2,k7];try decide
 rw[aA (λz=>z k7)]at hR;simp[p2,k7];refine eY [.c 3 3] ?_;simp;have hkl:=zi wt;obtain⟨F0,hF⟩:∃F0,t.kids.filter (λk=>decide (iD k≠tag))=F0:=⟨_,rfl⟩
 rw[hF]at hR;refine eP gD hp (λx:Nat × List fZ=>x.1<=t.kids.length/\x.2.length<=x.1/\x.2++(t.kids.drop x.1).filter (λk=>decide (iD k≠tag))=F0) (λx=>Mw t tag x.1) (λx=>Mx p.1 x.2) (λx=>t.kids.length-x.1) (0,[]) [0,1,2,3,4] ⟨by simp,by simp,by simpa using hF⟩ (by simp) λ⟨j,ks⟩ ⟨i1,i2,i3⟩=>?_;unfold Uo;simp only at i1 i2 i3;simp;apply fM<;>intro h
 ·have hj:j<t.kids.length:=by simpa using h
  rw[aG hj,dh]at i3;obtain⟨x,hx⟩:∃x,t.kids[j]=x:=⟨_,rfl⟩
  rw[hx]at i3;have hw:=wI (n:=(j:Int)+1);simp[hj,hx];refine fU (Iq x) ?_;by_cases q:iD x=tag
  ·rw[aA (by simp[q])]at i3;simp[q];refine dm (j+1,ks) [0,1,2,3,4] ⟨by simp only;omega,by simp only;omega,i3⟩ (by simp only;omega) ?_;simp[hw]
  ·rw[aB (by simp[q])]at i3;simp[q,hj,hx];refine⟨by omega,by decide,?_⟩;refine dm (j+1,ks++[x]) [0,1,2,3,5] ⟨by simp only;omega,by simp;omega,by simpa using i3⟩ (by simp only;omega) ?_;simp[hw];exact uw ks
 ·have hj:j=t.kids.length:=by simp at h;omega
  subst hj;rw[aQ,filter_nil,bQ]at i3;subst i3;have z:take ks.length (List.map fZ.enc ks)=List.map fZ.enc ks:=aH (by simp)
  match ks,i2,hR,z with
  |[x],i2,hR,z=>
   simp only at hR;subst hR;simp;decide
  |[],i2,hR,z=>
   simp only at hR;subst hR;simp[Du];decide
  |x::y::l2,i2,hR,z=>
   simp only at hR;subst hR;have h1:¬((l2.length:Int)+1+1=1):=by omega
   simp[h1,Du,nM];decide
def zHo(x:D)(l:List fZ):Prop:=(x=.sl false 4 (l.map fZ.enc)/\l.length=2)\/∃row t,x=.sl true 4 [row]/\D.erdL row=t.enc/\row.length=4/\l=[t]
theorem zDM(a b c d e f g h i j k l m n o:AC)(N:fo):splice [a,b,c,d,e,f,g,h,i,j,k,l,m,n,o] 5 (N.enc.map AC.d)=a::b::c::d::e::(N.enc.map .d++[n,o]):=by rw[N.enc_eq];try rfl
theorem zHp(a b c d e n o:AC)(N:fo):cut (a::b::c::d::e::(N.enc.map .d++[n,o])) 0 15=a::b::c::d::e::(N.enc.map .d++[n,o]):=by rw[N.enc_eq];try rfl
theorem zGu(a b c d e n o:D)(N:fo):cut (a::b::c::d::e::(N.enc++[n,o])) 0 15=a::b::c::d::e::(N.enc++[n,o]):=by rw[N.enc_eq];try rfl
theorem zGv(N:fo)(a b:D):jC (N.enc.map AC.d++[.d a,.d b])=some (N.enc++[a,b]):=by
 have e:N.enc.map AC.d++[.d a,.d b]=(N.enc++[a,b]).map .d:=by simp
 rw[e];exact QU _
theorem zGw(f:Nat->Nat)(N:fo)(a b:D):AC.rens f (N.enc.map AC.d++[.d a,.d b])=N.enc.map AC.d++[.d a,.d b]:=by
 have e:N.enc.map AC.d++[.d a,.d b]=(N.enc++[a,b]).map .d:=by simp
 rw[e];exact AC.rens_D _ _
theorem zHq(n:Nat)(N:fo)(a b:D):AC.lts n (N.enc.map AC.d++[.d a,.d b])=true:=by
 have e:N.enc.map AC.d++[.d a,.d b]=(N.enc++[a,b]).map .d:=by simp
 rw[e];exact AC.lts_D _ _
def NA{α β:Type}(f:α->β)(v:List α):take v.length (v.map f)=v.map f:=aH (by rw[ah];exact aK _)
attribute [simp] zDM zHp zGu zGv zGw zHq
section
variable {L:List Tok}
theorem zCd(hL:iR L)(hl:L.length<=10000){d:Nat}{ki:PS->fZ × PS}(hk:gF L ki)(Hk:ow L d ki)(p:PS)(h:p.at'<L.length)(hd:p.deep=d):
  ∃x,zHo x (qZ L ki p).1.2/\MCall Pg 117 [.c (.ptr 0 0)] [jb L p] (.tup [.c (.d (.str (qZ L ki p).1.1)),.c (.d x)]) [jb L (qZ L ki p).2]:=by
 have t1:=iP hL h (s:=bs [40]);have t2:=t1.trans (lS hL t1.lt);have t3:=t2.trans (y8 hL hk _ t2.lt);have t4:=t3.trans (iP hL t3.lt (s:=bs [41]));have c1:=nQ hL (bs [40]) p h hl;have c2:=wO _ t1.lt hl;have c3:=FH hL hl Hk _ t2.lt (by rw[t2.deep,hd]);have c4:=nQ hL (bs [41]) _ t3.lt hl;have c5:=FH hL hl Hk _ t4.lt (by rw[t4.deep,hd]);have n1:=I9 (L:=L) ki (iN L (iV L (bs [40]) p)).2;have n2:=I9 (L:=L) ki (iV L (bs [41]) (o9 L ki (iN L (iV L (bs [40]) p)).2).2);unfold qZ;simp only;generalize iV L (bs [40]) p=p1 at*
 generalize (iN L p1).1=s1 at*
 generalize (iN L p1).2=p2 at*
 generalize (o9 L ki p2).1=A at*
 generalize (o9 L ki p2).2=p3 at*
 generalize iV L (bs [41]) p3=p4 at*
 generalize (o9 L ki p4).1=B at*
 generalize (o9 L ki p4).2=p5 at*
 have hn:noT.enc=[.int .i64 0,.str (bs []),.sl false 1 [],.sl false 4 []]:=rfl;rcases n1 with rfl|⟨T,rfl⟩<;>rcases n2 with rfl|⟨U,rfl⟩
 ·refine⟨.sl true 4 [[.int .i64 0,.str (bs []),.sl true 1 [],.sl true 4 []]],.inr ⟨_,noT,rfl,rfl,rfl,rfl⟩,?_⟩;refine Er mU λts hts ok hb c hN hp=>?_;obtain⟨t,rfl⟩:=mV hts;unfold Dh;simp;refine fO [0] c1 ?_;simp;refine fO [0] c2 ?_;simp;refine fO [0] c3 ?_;simp;refine fO [0] c4 ?_;simp;refine fO [0] c5 ?_;simp;refine eU [] ?_;simp;exact eH [0] [1]
 ·refine⟨.sl false 4 [noT.enc,U.enc],.inl ⟨rfl,rfl⟩,?_⟩;refine Er mU λts hts ok hb c hN hp=>?_;obtain⟨t,rfl⟩:=mV hts;unfold Dh;simp;refine fO [0] c1 ?_;simp;refine fO [0] c2 ?_;simp;refine fO [0] c3 ?_;simp;refine fO [0] c4 ?_;simp;refine fO [0] c5 ?_;simp;refine eU [2] ?_;simp[jT];exact eF [0] [1] (by simp[hn,AV.erds])
 ·refine⟨.sl true 4 [T.enc],.inr ⟨_,T,rfl,by simp,by simp,rfl⟩,?_⟩;refine Er mU λts hts ok hb c hN hp=>?_;obtain⟨t,rfl⟩:=mV hts;unfold Dh;simp;refine fO [0] c1 ?_;simp;refine fO [0] c2 ?_;simp;refine fO [0] c3 ?_;simp;refine fO [0] c4 ?_;simp;refine fO [0] c5 ?_;simp;refine eU [] ?_;simp;exact eH [0] [1]
 ·refine⟨.sl false 4 [T.enc,U.enc],.inl ⟨rfl,rfl⟩,?_⟩;refine Er mU λts hts ok hb c hN hp=>?_;obtain⟨t,rfl⟩:=mV hts;unfold Dh;simp;refine fO [0] c1 ?_;simp;refine fO [0] c2 ?_;simp;refine fO [0] c3 ?_;simp;refine fO [0] c4 ?_;simp;refine fO [0] c5 ?_;simp;refine eU [2] ?_;simp[jT];exact eF [0] [1] (by simp[hn,AV.erds])
abbrev mB(p:PS)(t:Nat × Nat)(b2:Blk)(is:List jO)(v:List (List D)):List Blk:=[jb L p,.pin t 0,b2,.box [.msl 4 4 0 is.length,.msl 15 5 0 v.length],.arr 4 ((is.map jO.enc).map (·.map .d)),.arr 15 (v.map (·.map .d))]
abbrev mT:List (Nat × AV):=[(0,.c (.ptr 0 0)),(2,.c (.ptr 2 0)),(3,.c (.ptr 3 0))]
theorem zFj(hL:iR L)(hl:L.length<=10000){c:Ctx}(hp:c.pure)(t:Nat × Nat)(b2:Blk)(hb2:b2=.box [.d (.sl true 4 []),.d (.sl true 15 [])])(is:List jO)(p0:PS)(hd0:p0.deep=0)(h:p0.at'<L.length)(F0:List ik × PS)(hF:qf L (L.length+1) [] p0=F0){Q:Exit->St->Prop}{S:St}{g}{ms:List Nat}
  (h0:iU ms S mT (mB (L:=L) p0 t b2 is []))
  (hQ:∀T v,Abs.look T 0=.c (.ptr 0 0)->Abs.look T 2=.c (.ptr 2 0)->Abs.look T 3=.c (.ptr 3 0)->D.erdE v=F0.1.map ik.enc->Q (.exit 2) ⟨T,hpOf (mB (L:=L) F0.2 t b2 is v),6⟩):qO Pg c Lb Q g S:=by
 refine eP gD hp (λx:Nat × List ik × List (List D) × PS=>qf L x.1 x.2.1 x.2.2.2=F0/\Tm L p0 x.2.2.2/\(0<x.1/\(x.2.2.2.e≠0\/L.length<x.1+x.2.2.2.at'))/\x.2.1.length+x.1<=L.length+1/\D.erdE x.2.2.1=x.2.1.map ik.enc)
  (λx=>mT) (λx=>mB (L:=L) x.2.2.2 t b2 is x.2.2.1) (λx=>x.1) (L.length+1,[],[],p0) ms ⟨hF,Tm.refl h,⟨by simp,.inr (by simp only;omega)⟩,by simp,rfl⟩ h0 λ⟨n,l,v,q⟩ ⟨i1,i2,i3,i4,i5⟩=>?_
 subst hb2;unfold Lb;simp only at i1 i2 i4 i5;have i3:0<n/\(q.e≠0\/L.length<n+q.at'):=i3;have hvl:v.length=l.length:=by rw[<-Lp,i5,ah]
 have hlt:=i2.lt;obtain⟨n,rfl⟩:∃m,n=m+1:=⟨n-1,by omega⟩
 have hg:=y9 hlt;rw[qf]at i1;by_cases x:q.e=0
 ·by_cases k:(gU L q).kind=0
  ·rw[aA (by simp[k])]at i1;subst i1;simp[hg,x,k];refine⟨by decide,?_⟩;exact hQ _ v (by simp) (by simp) (by simp) i5
  ·rw[aB ⟨x,k⟩]at i1;have e1:=iF hL hlt (s:=zZ);have e2:=e1.trans (iP hL e1.lt (s:=sP));have e3:=e2.trans (lS hL e2.lt);have e4:=e3.trans (Ie hL _ e3.lt);have e5:=e4.trans (Ai hL (xk hL) _ e4.lt);have e6:=e5.trans (iP hL e5.lt (s:=bs [61]));have e7:=e6.trans (Ic hL _ e6.lt);have e8:=e7.trans (iP hL e7.lt (s:=bs [59]));have c1:=lT zZ q hlt hl;have c2:=nQ hL sP _ e1.lt hl;have c3:=wO _ e2.lt hl;have c4:=zC1 hL hl _ e3.lt (by rw[e3.deep,i2.deep,hd0]);obtain⟨hx,hxd,c5⟩:=zCd hL hl (xk hL) (UQ hL hl) _ e4.lt (by rw[e4.deep,i2.deep,hd0]);have c6:=nQ hL (bs [61]) _ e5.lt hl;have c7:=zG3 hL hl _ e6.lt (by rw[e6.deep,i2.deep,hd0]);have c8:=nQ hL (bs [59]) _ e7.lt hl;have hg1:=y9 e1.lt;unfold qd at i1;simp only at i1;generalize (gG L zZ q).1=ex at*
   generalize (gG L zZ q).2=q1 at*
   generalize iV L sP q1=q2 at*
   generalize (iN L q2).1=nm at*
   generalize (iN L q2).2=q3 at*
   generalize (xf L q3).1=vs at*
   generalize (xf L q3).2=q4 at*
   generalize (qZ L (uP L) q4).1.1=pm at*
   generalize (qZ L (uP L) q4).1.2=ty at*
   generalize (qZ L (uP L) q4).2=q5 at*
   generalize iV L (bs [61]) q5=q6 at*
   generalize (Dj L q6).1=bd at*
   generalize (Dj L q6).2=q7 at*
   have hlt8:=e8.lt;have hon:(iV L (bs [59]) q7).e≠0\/(iV L (bs [59]) q7).at'=q7.at'+1:=zFF;have hle7:=e7.le;have hle8:=e8.le;have hlen:L.length<n+1+q.at':=i3.2.resolve_left (by simp[x]);have hn0:0<n:=by omega
   generalize iV L (bs [59]) q7=q8 at*
   have hon':q8.e≠0\/L.length<n+q8.at':=by
    rcases hon with r|r
    ·exact .inl r
    ·exact .inr (by omega)
   simp[hg,x,k];refine⟨by decide,?_⟩;refine fP [0] c1 (by simp[x]) ?_;simp[hg1];refine⟨by decide,?_⟩;refine fO [0] c2 ?_;simp;refine fO [0] c3 ?_;simp;refine fO [0] c4 ?_;simp;refine fO [0] c5 ?_;rcases hxd with⟨rfl,hty⟩|⟨row,T,rfl,hrow,hrl,rfl⟩
   ·simp[hty];refine eU [] ?_;simp;refine fO [0] c6 ?_;simp;refine fO [0] c7 ?_;simp;refine fO [0] c8 ?_;simp;refine⟨by omega,?_⟩;rw[aA (by omega)]at i1;refine dm (n,l++[⟨nm,ex,vs,pm,ty,bd,(gU L q1).line,(gU L q1).col⟩],v++[[.str nm,.bool ex,.sl false 5 (vs.map iI),.str pm,.sl false 4 (ty.map fZ.enc)]++bd.enc++[.int .i64 (gU L q1).line,.int .i64 (gU L q1).col]],q8) [0,1,2,3,4,7] ⟨i1,i2.trans e8,⟨hn0,hon'⟩,by simp;omega,by simp[i5,ik.enc]⟩ (by simp) ?_;simp;exact NA _ _
   ·simp;refine eU [7] ?_;simp[jT];refine fO [0] c6 ?_;simp[jT];refine fO [0] c7 ?_;simp[jT];refine fO [0] c8 ?_;simp[jT];refine⟨by omega,?_⟩;rw[aB (by simp)]at i1;have hn:noT.enc=[.int .i64 0,.str (bs []),.sl false 1 [],.sl false 4 []]:=rfl;refine dm (n,l++[⟨nm,ex,vs,pm,[T]++[noT],bd,(gU L q1).line,(gU L q1).col⟩],v++[[.str nm,.bool ex,.sl false 5 (vs.map iI),.str pm,.sl false 4 [row,[.int .i64 0,.str (bs []),.sl true 1 [],.sl true 4 []]]]++bd.enc++[.int .i64 (gU L q1).line,.int .i64 (gU L q1).col]],q8) [0,1,2,3,4,8] ⟨i1,i2.trans e8,⟨hn0,hon'⟩,by simp;omega,by simp[i5,ik.enc,hrow,hn]⟩ (by simp) ?_;simp[jT];exact NA _ _
 ·rw[aA (by simp[x])]at i1;subst i1;simp[hg,x];refine⟨by decide,?_⟩;exact hQ _ v (by simp) (by simp) (by simp) i5
def zFk(hL:iR L)(hl:L.length<=10000){c:Ctx}(hp:c.pure)(t:Nat × Nat)(b2:Blk)(hb2:b2=.box [.d (.sl true 4 []),.d (.sl true 15 [])])(p0:PS)(h:p0.at'<L.length)(F0:List jO × PS)(hF:wL L (L.length+1) [] p0=F0){Q:Exit->St->Prop}{S:St}{g}{ms:List Nat}
  (h0:iU ms S mT (mB (L:=L) p0 t b2 [] []))
  (hQ:∀T M n,Abs.look T 0=.c (.ptr 0 0)->Abs.look T 2=.c (.ptr 2 0)->Abs.look T 3=.c (.ptr 3 0)->M 0=jb L F0.2->M 1=.pin t 0->M 2=b2->M 3=.box [.msl 4 4 0 F0.1.length,.msl 15 5 0 0]->M 4=.arr 4 ((F0.1.map jO.enc).map (·.map .d))->M 5=.arr 15 []->Q (.exit 0) ⟨T,M,n⟩):qO Pg c La Q g S:=by
 refine eP gD hp (λx:Nat × List jO × PS=>wL L x.1 x.2.1 x.2.2=F0/\Tm L p0 x.2.2/\L.length<x.1+x.2.2.at'/\x.2.1.length<=x.2.2.at')
  (λx=>mT) (λx=>mB (L:=L) x.2.2 t b2 x.2.1 []) (λx=>x.1) (L.length+1,[],p0) ms ⟨hF,Tm.refl h,by simp only;omega,by simp⟩ h0 λ⟨n,l,q⟩ ⟨i1,i2,i3,i4⟩=>?_
 subst hb2;unfold La;simp only at i1 i2 i4;have i3:L.length<n+q.at':=i3;have hlt:=i2.lt;obtain⟨n,rfl⟩:∃m,n=m+1:=⟨n-1,by omega⟩
 have hg:=y9 hlt;rw[wL]at i1;have c1:=lT wK q hlt hl;by_cases x:q.e=0
 ·by_cases k:(gG L wK q).1=true
  ·rw[aB ⟨x,k⟩]at i1;simp only at i1;have e1:=iF hL hlt (s:=wK);have e2:=e1.trans (lS hL e1.lt);have e3:=e2.trans (iP hL e2.lt (s:=bs [58]));have e4:=e3.trans (Ib hL (L.length+1) [] _ e3.lt);have e5:=e4.trans (iP hL e4.lt (s:=bs [59]));have c2:=wO _ e1.lt hl;have c3:=nQ hL (bs [58]) _ e2.lt hl;have c4:=zBr hL hl _ e3.lt;have c5:=nQ hL (bs [59]) _ e4.lt hl;have ha:=(take_at k).1;have hle:(gG L wK q).2.at'<=(iV L (bs [59]) (tO L (L.length+1) [] (iV L (bs [58]) (iN L (gG L wK q).2).2)).2).at':=by
    have h1:=(lS hL e1.lt).le;have h2:=(iP hL e2.lt (s:=bs [58])).le;have h3:=(Ib hL (L.length+1) [] _ e3.lt).le;have h4:=(iP hL e4.lt (s:=bs [59])).le;omega
   generalize (gG L wK q).2=q1 at*
   generalize (iN L q1).1=nm at*
   generalize (iN L q1).2=q2 at*
   generalize iV L (bs [58]) q2=q3 at*
   generalize (tO L (L.length+1) [] q3).1=ns at*
   generalize (tO L (L.length+1) [] q3).2=q4 at*
   generalize iV L (bs [59]) q4=q5 at*
   simp[hg,x];refine⟨by decide,?_⟩;refine fP [0] c1 (by simp[x]) ?_;simp[k];refine fO [0] c2 ?_;simp;refine fO [0] c3 ?_;simp;refine fO [0] c4 ?_;simp;refine fO [0] c5 ?_;simp;refine⟨by omega,?_⟩;refine dm (n,l++[⟨nm,ns,(gU L q).line,(gU L q).col⟩],q5) [0,1,2,3,7,5] ⟨i1,i2.trans e5,by simp only;omega,by simp;omega⟩ (by simp) ?_;simp[jO.enc];exact NA _ _
  ·rw[aA (λz=>k z.2)]at i1;subst i1;rw[kg k]at c1;rw[aN]at k;simp[hg,x];refine⟨by decide,?_⟩;refine fP [0] c1 (by simp[x]) ?_;simp[k];refine hQ _ _ _ (by simp) (by simp) (by simp) (by simp) (by simp) (by simp) (by simp) (by simp) (by simp)
 ·rw[aA (by simp[x])]at i1;subst i1;simp[hg,x];refine hQ _ _ _ (by simp) (by simp) (by simp) (by simp) (by simp) (by simp) (by simp) (by simp) (by simp)
def zAK(hL:iR L)(hl:L.length<=10000)(p:PS)(h:p.at'<L.length)(hd:p.deep=0):
  MCall Pg 74 [.c (.ptr 0 0)] [jb L p] (.ag ((Ah L p).1.enc.map .d)) [jb L (Ah L p).2]:=by
 refine zxm mU λts hts ok hb c hN hp=>?_;obtain⟨t,rfl⟩:=mV hts;have k1:=FJ hL (L.length+1) [] _ h;have k2:=Ig hL (L.length+1) [] _ k1.lt;obtain⟨I0,hI0⟩:∃F0,wL L (L.length+1) [] p=F0:=⟨_,rfl⟩
 unfold Ti Ah;simp only;rw[hI0]at k1 k2⊢;obtain⟨D0,hD0⟩:∃F0,qf L (L.length+1) [] I0.2=F0:=⟨_,rfl⟩
 rw[hD0];simp;refine eY [.c 3 0,.c 3 1] ?_;simp;refine zFk hL hl hp t _ rfl p h I0 hI0 (ms:=[0,1,2,3,4,5]) (by simp) λT M n t0 t2 t3 m0 m1 m2 m3 m4 m5=>?_;simp;refine zFj hL hl hp t _ rfl I0.1 I0.2 (by rw[k1.deep,hd]) k1.lt D0 hD0 (ms:=[0,1,2,3,4,5]) (by simp[t0,t2,t3,m0,m1,m2,m3,m4,m5]) λT v t0 t2 t3 hv=>?_;simp[t0,t2,t3];refine eU [4,5] ?_;have z:take I0.1.length (List.map jO.enc I0.1)=List.map jO.enc I0.1:=aH (by simp);simp[jT,t2,z, -map_map];exact eF [0] [1] (by simp[jT,ig.enc,hv, -map_map])
end
def zC8{l:List UInt8}(h:(iK l).e=0):(iK l).kind≠0:=by
 cases l with
 |nil=>simp[iK,kF]at h
 |cons c r=>
  rw[iK]at h⊢;repeat' split
  all_goals simp_all[kF]
  all_goals (split<;>simp)
def Vj:∀(n:Nat) (l:List UInt8) (a b:Int) (ts:List Tok),l.length<n->ts.length<=8192->(∀t,t∈ts->t.kind≠0)->(oF n l a b ts).2.e=0->
 ∃us x,(oF n l a b ts).1=us++[x]/\x.kind=0/\(∀t,t∈us->t.kind≠0)/\us.length<=8192
|0,l,_,_,_,h,_,_,_=>by omega
| n+1,l,a,b,ts,h,hl,hk,he=>by
 rw[VP]at he⊢;by_cases q:l.drop (iB false l)=[]
 ·rw[aB q];exact⟨ts,_,rfl,rfl,hk,hl⟩
 rw[aA q]at he⊢;by_cases q2:(if(iK (l.drop (iB false l))).e=0/\ts.length=8192 then(19:Int)else(iK (l.drop (iB false l))).e)≠0
 ·rw[aB q2]at he;exact absurd he q2
 rw[aA q2]at he⊢;have q3:¬((iK (l.drop (iB false l))).e=0/\ts.length=8192):=λz=>by rw[aB z]at q2;exact q2 (by decide)
 rw[aA q3]at q2;have e0:(iK (l.drop (iB false l))).e=0:=ae λz=>q2 z;have htl:=VM e0;refine Vj n _ _ _ _ ?_ ?_ ?_ he
 ·rw[dD,dD]at*;omega
 ·have:ts.length≠8192:=λz=>q3 ⟨e0,z⟩;simp;omega
 ·intro t ht;rcases aU.1 ht with ht|ht
  ·exact hk t ht
  ·simp at ht;subst ht;exact zC8 e0
def JE{s:di}(h:(kX s).2.e=0):iR (kX s).1/\(kX s).1.length<=10000:=by
 unfold kX at h⊢;split
 ·rename_i q;rw[aB q]at h;simp at h
 rename_i q;rw[aA q]at h;obtain⟨us,x,e,hx,hu,hl⟩:=Vj (s.size+1) s.data.toList 1 1 [] (by rw[tQ];omega) (by simp) (by simp) h;rw[e];refine⟨⟨by simp,λi hi hk=>?_⟩,by simp;omega⟩;simp only[aR,length_singleton]at hi⊢;rcases aX i us.length with h|h
 ·omega
 ·have:i=us.length:=by omega
  subst this;exfalso;apply hk;rw[aF,bC (aK _)];simpa using hx
def zC9(s:di):MCall Pg 73 [.c (.d (.str s))] [] (.tup [.c (.ptr 0 0),.ag ((kX s).2.enc.map .d)]) [jb (kX s).1 ps0]:=by
 refine zxn ⟨by simp,by simp,by simp,by simp,by simp,by simp[iA.enc];rfl,by simp⟩ λts hts ok hb c hN hp=>?_;have hts:ts=[]:=aa.1 hts;subst hts;unfold Tk;simp;refine fU (zF0 s) ?_;simp;exact⟨by decide,eO [2] [] (by simp[ps0])⟩
def zES{L:List Tok}(hL:iR L)(hl:L.length<=10000)(p:PS)(h:p.at'<L.length):MCall Pg 75 [.c (.ptr 0 0)] [jb L p] (.ag ((⟨0,(tV L p).line,(tV L p).col,(tV L p).e⟩:iA).enc.map .d)) [jb L (tV L p)]:=by
 refine zBM ⟨by simp,by simp,by simp,by simp,by simp,by simp[iA.enc],by simp⟩ λts hts ok hb c hN hp=>?_;obtain⟨t,rfl⟩:=mV hts;have hg:=y9 h;have hf:=FF (L:=L) 7 p h;unfold Tj tV;generalize gU L p=T at*
 by_cases h0:p.e=0<;>by_cases h1:T.kind=0
 ·simp[hg,h0,h1];exact⟨by decide,by decide,eO [0] [1] (by simp[iA.enc,h0,h1])⟩
 ·simp[hg,h0,h1];refine⟨by decide,?_⟩;refine fP [0] hf (by simp[h0]) ?_;simp;exact⟨by decide,eO [0] [1] (by simp[iA.enc,h0,h1])⟩
 all_goals
  simp[hg,h0,h1];exact⟨by decide,by decide,eO [0] [1] (by simp[iA.enc,h0,h1])⟩
@[simp] theorem zH7(d:iA):cut d.enc 0 4=d.enc:=rfl
@[simp] theorem zHU(d:iA):cut (d.enc.map AC.d) 0 4=d.enc.map .d:=rfl
@[simp] theorem iA.enc_3(d:iA):d.enc[3]?=some (.int .i64 d.e):=rfl
@[simp] theorem iA.enc_g3(d:iA)(h:3<d.enc.length):d.enc[3]=.int .i64 d.e:=rfl
@[simp] theorem iA.er_map(d:iA):d.enc.map D.er=d.enc:=rfl
@[simp] theorem ig.er_map(d:ig):d.enc.map D.er=d.enc:=rfl
@[simp] theorem zH8(d:ig):cut d.enc 0 2=d.enc:=rfl
@[simp] theorem zHV(d:ig):cut (d.enc.map AC.d) 0 2=d.enc.map .d:=rfl
def zDa(s:di):fu Pg 33 [.one (.str s)] (.tup [.agg (pW s).1.enc,.agg (pW s).2.enc]):=by
 refine zyQ (by simp) λo c' hN hp=>?_;have hb:=zC9 s;have hk:=JE (s:=s);obtain⟨F0,hF0⟩:∃F0,pW s=F0:=⟨_,rfl⟩
 rw[hF0];unfold pW at hF0;simp only at hF0;generalize (kX s).1=L at*
 generalize (kX s).2=d at*
 unfold Tn;simp;refine fO [] hb ?_;simp;by_cases h0:d.e=0;rotate_left
 ·rw[aB h0]at hF0;subst hF0;simp[h0];exact⟨by decide,rfl⟩
 rw[aA (by simp[h0])]at hF0;obtain⟨hL,hl⟩:=hk h0;have c1:=zAK hL hl ps0 hL.pos rfl;have t1:=zBq hL ps0 hL.pos;generalize (Ah L ps0).1=M at*
 generalize (Ah L ps0).2=p at*
 have c2:=zES hL hl p t1.lt;generalize tV L p=q at*
 simp[h0];refine fP [2] c1 (by simp[ps0]) ?_;simp;refine fO [2] c2 ?_;simp;by_cases h1:q.e=0
 ·rw[aA (by simp[h1])]at hF0;subst hF0;simp[h1];decide
 ·rw[aB h1]at hF0;subst hF0;simp[h1];exact⟨by decide,rfl⟩
end Go.Gr
