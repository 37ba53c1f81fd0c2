/- Of ours. -/
import Derived.Test.YtlfjlokfciejnaaGreatJ09
set_option maxRecDepth 20000
set_option maxHeartbeats 4000000
set_option linter.unusedVariables false
set_option linter.unusedSectionVars false
set_option linter.unusedSimpArgs false
set_option linter.defProp false
set_option linter.unnecessarySimpa false
open List renaming length->lN
open Bool renaming true->tT,false->oK
open Option renaming some->sS,none->nN
namespace Go.Gr
open Go.Abs Go.Proofs List
@[simp] theorem zNj(l:oN)(j:Nat)(h:j<(encS l).length):(encS l)[j]=[.str (l[j]'(uM h))]:=by simp[encS]
structure kL (m:X?):Prop where
 z?:lN m.z?<=10001
 a_:∀x,x∈m.z?->lN x.a_<=10001
 T_:lN m.T_<=10001
def Du(p:f?):Prop:=lN p.u_<=16/\lN p.a_=lN p.u_/\∀m,m∈p.u_->kL m
abbrev Dv(sc:sI):A_:=.arr 3 ((sc.map iO.enc).map (·.map .d))
def zyL(m:X?)(s:fD):wV m s= -1\/(0<=wV m s/\wV m s<lN m.T_):=by
 have:=KP (λd:P?=>decide (d.name=s)) 0 m.T_;unfold wV;omega
def NB(ns:oN)(s:fD):iX ns s= -1\/(0<=iX ns s/\iX ns s<lN ns):=by
 have:=KP (λn=>decide (n=s)) 0 ns;unfold iX;omega
def getD_in{α:Type}(l:List α)(d:α){z:Int}{n:Int}(hn:n=lN l)(h0:0<=z)(h1:z<n):l[z.toNat]?=sS (l.getD z.toNat d)/\l.getD z.toNat d∈l:=by
 have h:z.toNat<lN l:=oM;rw[aH,aA h];exact⟨rfl,aO h⟩
def NC(M:X?)(m i:Int)(x:iW):∀(l:List fD) (sc:List iO) (bad:List l?),(pQ M m i x l sc bad).1.length<=lN sc+lN l/\(pQ M m i x l sc bad).2.length<=lN bad+lN l
|[],sc,bad=>by simp[pQ]
|s::l,sc,bad=>by
 rw[pQ];split
 .have:=NC M m i x l sc (bad++[⟨i,x.line,x.t_,12⟩]);simp at this⊢;omega
 split
 .have:=NC M m i x l sc (bad++[⟨i,x.line,x.t_,8⟩]);simp at this⊢;omega
 .have:=NC M m i x l (sc++[⟨s,m,wV M s⟩]) bad;simp at this⊢;omega
def zyM(ns:oN)(ms:sP)(i:Int)(x:iW)(sc:sI):(Am ns ms i x sc).1.length<=lN sc+lN x.a_/\(Am ns ms i x sc).2.length<=1+lN x.a_:=by
 unfold Am;split
 .simp
 .have:=NC (ms.getD (iX ns x.from_).toNat pO) (iX ns x.from_) i x x.a_ sc [];simp only[length_nil,Nat.zero_add]at this;exact⟨this.1,oM⟩
abbrev Rs(p:f?)(x:iW)(m j n nb:Nat):oZ:=[(13,.c (.d (.int .i64 j))),(12,.c (.d (.int .i64 m))),(11,.c (.ptr 1 0)),(10,.c (.x_ 4 2 0 nb)),(6,.c (.d (.rp x.enc 0))),(4,.c (.d (.rp p.enc 0))),(3,.c (.x_ 3 0 0 n))]
abbrev dBx(i:Int)(x:iW)(e:Int):A_:=.box [.d (.int .i64 i),.d (.int .i64 x.line),.d (.int .i64 x.t_),.d (.int .i64 e)]
def zzS(p:f?)(_C:Du p)(i:Int)(x:iW)(hx:lN x.a_<=10001)(sc:sI)(hsc:lN sc<=1000000000):
  q_ Pg 57 [.ag (p.enc.map .d),.c (.d (.int .i64 i)),.ag (x.enc.map .d),.c (.x_ 3 0 0 (lN sc))] [Dv sc]
   (.a? [.c (.x_ 3 1 0 (Am p.a_ p.u_ i x sc).1.length),.c (.d (.sl oK 4 ((Am p.a_ p.u_ i x sc).2.map l?.enc)))]) [.dead,Dv (Am p.a_ p.u_ i x sc).1]:=by
 refine zrG ⟨oC,oC,oC,oC,oC,by simp;rfl,oC⟩ λts _e ok hb c hN hp=>?_;obtain⟨t,rfl⟩:=lK _e;let⟨R,hR⟩:=oJ (Am p.a_ p.u_ i x sc);rw[hR];unfold Am at hR;have hmz:=KQ p.a_ x.from_;have hml:=NB p.a_ x.from_;unfold ZK;simp;refine gQ hmz ?_;generalize iX p.a_ x.from_=z at*
 by_cases z0:z<0
 .rw[aC z0]at hR;subst hR;simp[z0];refine oG ?_;refine fQ [] ?_;simp;exact fH [1,0] [1] (by simp[l?.enc,AV.R_,AV.K_])
 rw[aB z0]at hR;let⟨g1,g2⟩:=getD_in p.u_ pO (z:=z) (n:=lN p.a_) (by rw[_C.2.1]) oM oM;generalize p.u_.getD z.toNat pO=M at*
 have hM:=_C.2.2 M g2;have h16:=_C.1;have hnm:=_C.2.1;obtain⟨zn,rfl⟩:∃zn:Nat,z=zn:=⟨z.toNat,oM⟩
 simp only[bC]at g1;simp[z0];refine fT [.t 10] ?_;simp;refine fM gm hp (λy:Nat × List iO × List l? × Int=>y.1<=lN x.a_/\lN y.2.1<=lN sc+y.1/\lN y.2.2.1<=y.1/\pQ M zn i x (x.a_.drop y.1) y.2.1 y.2.2.1=R) (λy=>Rs p x zn y.1 (lN y.2.1) (lN y.2.2.1)) (λy=>[Dv y.2.1,dBx i x y.2.2.2,kg y.2.2.1]) (λy=>lN x.a_-y.1) (0,sc,[],11) [0,2,3] ⟨oC,oC,oC,uM hR⟩ oC λ⟨j,s,bad,e⟩ ⟨i1,i2,i3,i4⟩=>?_;unfold ZJ;simp only at i1 i2 i3 i4;simp;apply gM<;>intro h
 .have hj:j<lN x.a_:=uM h;let⟨n,hn⟩:=oJ (x.a_[j]);rw[aF hj,hn,pQ]at i4;have hw:=wI (n:=(j:Int)+1);have hdl:=zyL M n;have hfm:=zyy s n;simp[hj,hn,g1];refine gQ (zAW M n (by have:=hM.T_;omega)) ?_;simp[hj,hn];refine oG ?_;refine gN [0] hfm ?_;generalize uF s n=f at*
  generalize wV M n=k at*
  simp;by_cases k0:k<0
  .rw[aC (.inl k0)]at i4;simp[k0];refine jV ?_;refine fE (j+1,s,bad++[⟨i,x.line,x.t_,12⟩],12) [0,1,4] ⟨qM,qM,by simp;omega,i4⟩ qM ?_;simp[hw,l?.enc];exact nH _ _
  let⟨g3,g4⟩:=getD_in M.T_ En (z:=k) (n:=lN M.T_) rfl oM oM;generalize M.T_.getD k.toNat En=d at*
  obtain⟨kn,rfl⟩:∃kn:Nat,k=kn:=⟨k.toNat,oM⟩
  simp only[bC]at g3;by_cases ex:d.exp=tT;rotate_left
  .rw[aC (.inr (uM ex))]at i4;simp[k0,g1,g3,ex];refine jV ?_;refine fE (j+1,s,bad++[⟨i,x.line,x.t_,12⟩],12) [0,1,4] ⟨qM,qM,by simp;omega,i4⟩ qM ?_;simp[hw,l?.enc];exact nH _ _
  by_cases f2:f.2=tT
  .rw[aB (by simp[k0,ex]),aC f2]at i4;simp[k0,g1,g3,ex,f2];refine jV ?_;refine fE (j+1,s,bad++[⟨i,x.line,x.t_,8⟩],8) [0,1,4] ⟨qM,qM,by simp;omega,i4⟩ qM ?_;simp[hw,l?.enc];exact nH _ _
  .rw[aB (by simp[k0,ex]),aB f2]at i4;simp[k0,g1,g3,ex,f2,hj,hn];refine jV ?_;refine fE (j+1,s++[⟨n,zn,kn⟩],bad,e) [4,1,2] ⟨qM,by simp;omega,qM,i4⟩ qM ?_;simp[hw,iO.enc];exact nH _ _
 .have hj:j=lN x.a_:=oI h;subst hj;rw[aS,pQ]at i4;subst i4;simp;refine fQ [2] ?_;simp[iE,nH];exact fK [1,0] [1] (by simp[iE])
variable {c:Ctx}{Q:Exit->St->Prop}{S:St}{ms:List Nat}
abbrev allA(all:sZ):A_:=.arr 1 ((all.map uJ).map (·.map .d))
abbrev Dw(p:f?)(i na nb n:Nat):oZ:=[(8,.c (.ptr 2 0)),(7,.c (.x_ 3 3 0 n)),(6,.c (.d (.int .i64 i))),(5,.c (.x_ 4 1 0 nb)),(4,.c (.x_ 1 0 0 na)),(1,.c (.d (.rp p.enc 0)))]
abbrev AB(all:sZ)(bad:sW)(m:X?)(sc:sI):oV:=[allA all,kg bad,.box (m.enc.map .d),Dv sc]
def zB8(hp:c.pure)(p:f?)(_C:Du p)(i:Nat)(m:X?)(hm:kL m)(all:sZ)(b0:sW)(_u:lN b0<=10000000000)(F0:sI × List l?)(hF:Ch p.a_ p.u_ i m.z? [] b0=F0){g}{ms:oO}
  (h0:gy ms S ((9,.c (.d (.int .i64 0)))::Dw p i (lN all) (lN b0) 0) (AB all b0 m []))
  (hQ:F0.1.length<=100020001->F0.2.length<=lN b0+100030002->∀T,Abs.look T 8=.c (.ptr 2 0)->Abs.look T 7=.c (.x_ 3 3 0 F0.1.length)->Abs.look T 6=.c (.d (.int .i64 i))->Abs.look T 5=.c (.x_ 4 1 0 F0.2.length)->Abs.look T 4=.c (.x_ 1 0 0 (lN all))->Abs.look T 1=.c (.d (.rp p.enc 0))->Q (.exit 2) ⟨T,r_ (AB all F0.2 m F0.1),4⟩):mI Pg c QY Q g S:=by
 have hmi:=hm.z?;refine fM gm hp (λy:Nat × List iO × List l?=>y.1<=lN m.z?/\lN y.2.1<=y.1*10001/\lN y.2.2<=lN b0+y.1*10002/\Ch p.a_ p.u_ i (m.z?.drop y.1) y.2.1 y.2.2=F0) (λy=>(9,.c (.d (.int .i64 y.1)))::Dw p i (lN all) (lN y.2.2) (lN y.2.1)) (λy=>AB all y.2.2 m y.2.1) (λy=>lN m.z?-y.1) (0,[],b0) ms ⟨oC,oC,oC,uM hF⟩ h0 λ⟨k,sc,bad⟩ ⟨i1,i2,i3,i4⟩=>?_;unfold QY;simp only at i1 i2 i3 i4;simp;have hk1:k*10001<=10001*10001:=Nat.mul_le_mul oM (aJ _);have hk2:k*10002<=10001*10002:=Nat.mul_le_mul oM (aJ _);apply gM<;>intro h
 .have hk:k<lN m.z?:=uM h;let⟨x,hx⟩:=oJ (m.z?[k]);have hxm:=hm.a_ x (by rw[<-hx];exact aO hk);rw[aF hk,hx,Ch]at i4;have hw:=wI (n:=(k:Int)+1);have him:=zzS p _C i x hxm sc oM;have hil:=zyM p.a_ p.u_ i x sc;generalize Am p.a_ p.u_ i x sc=r at*
  simp[hk,hx];apply gN [3] him;simp;refine⟨oD,oM,?_⟩;refine fE (k+1,r.1,bad++r.2) [0,5,2,4] ⟨qM,qM,by simp;omega,i4⟩ qM ?_;simp[hw];exact nH _ _
 .have hk:k=lN m.z?:=oI h;subst hk;rw[aS,Ch]at i4;subst i4;exact hQ qM qM _ oC oC oC oC oC oC
def zB9(hp:c.pure)(p:f?)(i:Nat)(m:X?)(hm:kL m)(all:sZ)(s0:sI)(hs0:lN s0<=100020001)(b0:sW)(_u:lN b0<=100000000000)(F0:sI × List l?)(hF:Be i m.T_ 0 s0 b0=F0){g}{ms:oO}
  (h0:gy ms S ((12,.c (.d (.int .i64 0)))::Dw p i (lN all) (lN b0) (lN s0)) (AB all b0 m s0))
  (hQ:F0.2.length<=lN b0+10001->∀T,Abs.look T 7=.c (.x_ 3 3 0 F0.1.length)->Abs.look T 6=.c (.d (.int .i64 i))->Abs.look T 5=.c (.x_ 4 1 0 F0.2.length)->Abs.look T 4=.c (.x_ 1 0 0 (lN all))->Abs.look T 1=.c (.d (.rp p.enc 0))->Q (.exit 4) ⟨T,r_ (AB all F0.2 m F0.1),4⟩):mI Pg c QZ Q g S:=by
 have hmd:=hm.T_;refine fM gm hp (λy:Nat × List iO × List l?=>y.1<=lN m.T_/\lN y.2.1<=lN s0+y.1/\lN y.2.2<=lN b0+y.1/\Be i (m.T_.drop y.1) y.1 y.2.1 y.2.2=F0) (λy=>(12,.c (.d (.int .i64 y.1)))::Dw p i (lN all) (lN y.2.2) (lN y.2.1)) (λy=>AB all y.2.2 m y.2.1) (λy=>lN m.T_-y.1) (0,s0,b0) ms ⟨oC,oC,oC,uM hF⟩ h0 λ⟨k,sc,bad⟩ ⟨i1,i2,i3,i4⟩=>?_;unfold QZ;simp only at i1 i2 i3 i4;simp;apply gM<;>intro h
 .have hk:k<lN m.T_:=uM h;let⟨d,hd⟩:=oJ (m.T_[k]);rw[aF hk,hd,Be]at i4;have hw:=wI (n:=(k:Int)+1);have hfm:=zyy sc d.name;simp[hk,hd];refine gN [3] hfm ?_;generalize uF sc d.name=f at*
  simp;by_cases f2:f.2=tT
  .rw[aC f2]at i4;simp[f2,hk,hd];refine⟨oM,oD,?_⟩;refine fE (k+1,sc,bad++[⟨i,d.line,d.t_,8⟩]) [0,5,2,3] ⟨qM,qM,by simp;omega,i4⟩ qM ?_;simp[hw,l?.enc];exact nH _ _
  .rw[aB f2]at i4;simp[f2,hk,hd];refine jV ?_;refine fE (k+1,sc++[⟨d.name,i,k⟩],bad) [0,1,2,5] ⟨qM,by simp;omega,qM,i4⟩ qM ?_;simp[hw,iO.enc];exact nH _ _
 .have hk:k=lN m.T_:=oI h;subst hk;rw[aS,Be]at i4;subst i4;exact hQ qM _ oC oC oC oC oC
def zEr(p:f?)(_C:Du p):h_ Pg 35 [.agg p.enc] (.a? [.one (.sl oK 1 ((xy p.a_ p.u_ p.u_ 0 [] []).1.map uJ)),.one (.sl oK 4 ((xy p.a_ p.u_ p.u_ 0 [] []).2.map l?.enc))]):=by
 refine zwE oC λo c hN hp=>?_;let⟨R,hR⟩:=oJ (xy p.a_ p.u_ p.u_ 0 [] []);rw[hR];have h16:=_C.1;unfold ZM;simp;refine fT [.t 4,.t 5] ?_;simp;refine fM gm hp (λy:Nat × List sI × List l?=>y.1<=lN p.u_/\lN y.2.1=y.1/\lN y.2.2<=y.1*200000000/\xy p.a_ p.u_ (p.u_.drop y.1) y.1 y.2.1 y.2.2=R) (λy=>[(6,.c (.d (.int .i64 y.1))),(5,.c (.x_ 4 1 0 (lN y.2.2))),(4,.c (.x_ 1 0 0 (lN y.2.1))),(1,.c (.d (.rp p.enc 0)))]) (λy=>[allA y.2.1,kg y.2.2]) (λy=>lN p.u_-y.1) (0,[],[]) [0,1] ⟨oC,rfl,oC,uM hR⟩ oC λ⟨i,all,bad⟩ ⟨i1,i2,i3,i4⟩=>?_;unfold ZL;simp only at i1 i2 i3 i4;simp;apply gM<;>intro h
 .have hi:i<lN p.u_:=uM h;let⟨m,hm⟩:=oJ (p.u_[i]);have hsm:=_C.2.2 m (by rw[<-hm];exact aO hi);rw[aF hi,hm,xy]at i4;have hw:=wI (n:=(i:Int)+1);simp[hi,hm];refine fT [.t 7] ?_;simp;refine zB8 hp p _C i m hsm all bad oM _ rfl (ms:=[0,1,2,3]) oC λq1 q2 T t8 t7 t6 t5 t4 t1=>?_;generalize Ch p.a_ p.u_ i m.z? [] bad=a at*
  simp;refine zB9 hp p i m hsm all a.1 q1 a.2 oM _ rfl (ms:=[0,1,2,3]) (by simp[t8,t7,t6,t5,t4,t1]) λq3 T t7 t6 t5 t4 t1=>?_;generalize Be i m.T_ 0 a.1 a.2=b at*
  simp;refine fQ [3] ?_;simp[iE,t7,t6,t5,t4,t1,nH];refine jV ?_;refine fE (i+1,all++[b.1],b.2) [4,1] ⟨qM,by simp[i2],qM,i4⟩ qM ?_;simp[iE,t7,t6,t5,t4,t1,nH,hw,uJ];try trace_state
 .have hi:i=lN p.u_:=oI h;subst hi;rw[aS,xy]at i4;subst i4;simp[nH];try trace_state
def xR(l:sw):o5:=l.map λb=>[.bool b]
@[simp] theorem zJP(l:sw):(xR l).length=lN l:=by simp[xR]
@[simp] theorem zLI(l:sw)(k:Nat):(xR l)[k]?=(l[k]?).map λb=>[.bool b]:=by simp[xR]
@[simp] theorem zLZ(l:sw)(j:Nat)(h:j<(xR l).length):(xR l)[j]=[.bool (l[j]'(uM h))]:=by simp[xR]
def zDn(l:sw)(k:Nat)(b:Bool):(xR l).set k [.bool b]=xR (l.set k b):=by simp[xR,map_set]
abbrev GV(l:sw):A_:=.arr 1 ((xR l).map (·.map .d))
def zuq(l:sw)(k:Nat)(b:Bool):((xR l).map λx=>x.map AC.d).set k [.d (.bool b)]=(xR (l.set k b)).map λx=>x.map AC.d:=by rw[<-zDn,map_set];try rfl
def Rt(ns:List fD):∀(l:List iW) (seen:List Bool),(Ci ns l seen).length=lN seen
|[],seen=>rfl
|x::l,seen=>by rw[Ci,Rt ns l];split<;>simp
def zur(ns:List fD):∀(l:List X?) (i:Nat) (seen:List Bool),(Dk ns l i seen).length=lN seen
|[],i,seen=>rfl
|m::l,i,seen=>by rw[Dk,zur ns l];split;exact Rt ns _ _;rfl
def zFS{l:sw}{i z:Nat}(h:l.getD i oK=tT):(l.set z tT).getD i oK=tT:=by
 rw[aH]at h⊢;rw[getElem?_set];split
 .split
  .rfl
  next h1 h2=>
   subst h1;rw[aR oM]at h;exact h
 .exact h
abbrev Dx(p:f?)(to n nn i:Nat):oZ:=[(9,.c (.d (.int .i64 i))),(8,.c (.d (.int .i64 nn))),(7,.c (.x_ 1 0 0 n)),(3,.c (.d (.rp p.enc 0))),(2,.c (.d (.int .i64 to)))]
def zDo(hp:c.pure)(p:f?)(_C:Du p)(to nn i:Nat)(hi:i<lN p.u_)(m:X?)(hm:kL m)(s0:sw)(hs0:lN s0=lN p.u_)(F0:sw)(hF:(if s0.getD i oK=tT then Ci p.a_ m.z? s0 else s0)=F0){g}{ms:oO}
  (h0:gy ms S ((11,.c (.d (.int .i64 0)))::(10,.c (.d (.sl oK 4 (m.z?.map iW.enc))))::Dx p to (lN p.u_) nn i) [GV s0])
  (hQ:∀T,Abs.look T 9=.c (.d (.int .i64 i))->Abs.look T 8=.c (.d (.int .i64 nn))->Abs.look T 7=.c (.x_ 1 0 0 (lN p.u_))->Abs.look T 3=.c (.d (.rp p.enc 0))->Abs.look T 2=.c (.d (.int .i64 to))->Q (.exit 4) ⟨T,r_ [GV F0],1⟩):mI Pg c Q0 Q g S:=by
 have hmi:=hm.z?;have h16:=_C.1;have hnn:=_C.2.1;refine fM gm hp (λy:Nat × List Bool=>y.1<=lN m.z?/\lN y.2=lN p.u_/\(if y.2.getD i oK=tT then Ci p.a_ (m.z?.drop y.1) y.2 else y.2)=F0) (λy=>(11,.c (.d (.int .i64 y.1)))::(10,.c (.d (.sl oK 4 (m.z?.map iW.enc))))::Dx p to (lN p.u_) nn i) (λy=>[GV y.2]) (λy=>lN m.z?-y.1) (0,s0) ms ⟨oC,hs0,uM hF⟩ h0 λ⟨k,s⟩ ⟨i1,i2,i3⟩=>?_;unfold Q0;simp only at i1 i2 i3;have his:i<lN s:=oM;have hgi:s.getD i oK=s[i]:=by rw[aH,aA his];try rfl
 simp;apply gM<;>intro h
 .have hk:k<lN m.z?:=uM h;let⟨x,hx⟩:=oJ (m.z?[k]);have hw:=wI (n:=(k:Int)+1);by_cases b:s.getD i oK=tT
  .rw[aC b,aF hk,hx,Ci]at i3;have b':s[i]=tT:=by rw[<-hgi];exact b
   have hml:=NB p.a_ x.from_;have hmk:=KQ p.a_ x.from_;generalize iX p.a_ x.from_=z at*
   simp[his,hi,b',hk,hx];refine gQ hmk ?_;by_cases z0:0<=z
   .rw[aC z0]at i3;obtain⟨zn,rfl⟩:∃zn:Nat,z=zn:=⟨z.toNat,oM⟩
    have hzn:zn<lN p.u_:=oM;have hzs:zn<lN s:=oM;simp only[bC]at i3;simp[hzn,hzs,zuq];refine oG ?_;refine fE (k+1,s.set zn tT) [0] ⟨qM,uM i2,by simp only;rw[aC (zFS b)];exact i3⟩ qM ?_;simp[hw]
   .rw[aB z0]at i3;simp[z0];refine oG ?_;refine fE (k+1,s) [0] ⟨qM,i2,by simp only;rw[aC b];exact i3⟩ qM ?_;simp[hw]
  .rw[aB b]at i3;subst i3;have b':s[i]=oK:=by rw[hgi]at b;simpa using b
   simp[his,hi,b'];exact hQ _ oC oC oC oC oC
 .have hk:k=lN m.z?:=oI h;subst hk;rw[aS,Ci,ite_self]at i3;subst i3;simp;exact hQ _ oC oC oC oC oC
def zDp(hp:c.pure)(p:f?)(_C:Du p)(to nn:Nat)(s0:sw)(hs0:lN s0=lN p.u_)(F0:sw)(hF:Dk p.a_ p.u_ 0 s0=F0){g}{ms:oO}
  (h0:gy ms S (Dx p to (lN p.u_) nn 0) [GV s0])
  (hQ:∀T,Abs.look T 8=.c (.d (.int .i64 nn))->Abs.look T 7=.c (.x_ 1 0 0 (lN p.u_))->Abs.look T 3=.c (.d (.rp p.enc 0))->Abs.look T 2=.c (.d (.int .i64 to))->Q (.exit 2) ⟨T,r_ [GV F0],1⟩):mI Pg c Q3 Q g S:=by
 have h16:=_C.1;refine fM gm hp (λy:Nat × List Bool=>y.1<=lN p.u_/\lN y.2=lN p.u_/\Dk p.a_ (p.u_.drop y.1) y.1 y.2=F0) (λy=>Dx p to (lN p.u_) nn y.1) (λy=>[GV y.2]) (λy=>lN p.u_-y.1) (0,s0) ms ⟨oC,hs0,uM hF⟩ h0 λ⟨i,s⟩ ⟨i1,i2,i3⟩=>?_;unfold Q3;simp only at i1 i2 i3;simp;apply gM<;>intro h
 .have hi:i<lN p.u_:=uM h;let⟨m,hm⟩:=oJ (p.u_[i]);have hsm:=_C.2.2 m (by rw[<-hm];exact aO hi);rw[aF hi,hm,Dk]at i3;have hw:=wI (n:=(i:Int)+1);have hle:(if s.getD i oK=tT then Ci p.a_ m.z? s else s).length=lN p.u_:=by
   split
   .rw[Rt,i2]
   .exact i2
  simp[hi,hm];refine zDo hp p _C to nn i hi m hsm s i2 _ rfl (ms:=[0]) oC λT t9 t8 t7 t3 t2=>?_;generalize (if s.getD i oK=tT then Ci p.a_ m.z? s else s)=s2 at*
  simp[t9];apply fE (i+1,s2) [0] ⟨qM,hle,i3⟩ qM;simp[t9,t8,t7,t3,t2,hw]
 .have hi:i=lN p.u_:=oI h;subst hi;rw[aS,Dk]at i3;subst i3;exact hQ _ oC oC oC oC
def zBg(p:f?)(_C:Du p)(f t:Nat)(hf:f<lN p.u_)(ht:t<lN p.u_):h_ Pg 59 [.agg p.enc,.one (.int .i64 f),.one (.int .i64 t)] (.one (.bool (I1 p.a_ p.u_ f t))):=by
 refine zvO oC λo c hN hp=>?_;let⟨R,hR⟩:=oJ (I1 p.a_ p.u_ f t);rw[hR];unfold I1 at hR;have h16:=_C.1;have _U:∀n:Nat,(replicate n [D.bool oK]).map (λx=>x.map AC.d)=(xR (replicate n oK)).map (λx=>x.map AC.d):=λn=>by simp[xR]
 let⟨s0,hs⟩:=oJ ((replicate (lN p.u_) oK).set f tT);have hs0:lN s0=lN p.u_:=by rw[<-hs];simp
 rw[hs]at hR;unfold ZO;simp[hf];refine jV ?_;have e0:(replicate (lN p.u_) [AC.d (D.bool oK)]).set f [AC.d (D.bool tT)]=(xR s0).map λx=>x.map AC.d:=by
  rw[<-hs,<-zuq];simp[xR]
 rw[e0];refine fM gm hp (λy:Nat × List Bool=>y.1<=lN p.u_/\lN y.2=lN p.u_/\(Js p.a_ p.u_ (lN p.u_-y.1) y.2).getD t oK=R) (λy=>[(8,.c (.d (.int .i64 y.1))),(7,.c (.x_ 1 0 0 (lN p.u_))),(3,.c (.d (.rp p.enc 0))),(2,.c (.d (.int .i64 t)))]) (λy=>[GV y.2]) (λy=>lN p.u_-y.1) (0,s0) [0] ⟨oC,hs0,hR⟩ oC λ⟨nn,s⟩ ⟨i1,i2,i3⟩=>?_;unfold ZN;simp only at i1 i2 i3;simp;apply gM<;>intro h
 .have hn:nn<lN p.u_:=uM h;rw[show lN p.u_-nn=(lN p.u_-(nn+1))+1 by omega,Js]at i3;have hw:=wI (n:=(nn:Int)+1);refine zDp hp p _C t nn s i2 _ rfl (ms:=[0]) oC λT t8 t7 t3 t2=>?_;have hl:=zur p.a_ p.u_ 0 s;generalize Dk p.a_ p.u_ 0 s=s2 at*
  simp[t8];refine fE (nn+1,s2) [0] ⟨qM,qM,i3⟩ qM ?_;simp[t8,t7,t3,t2,hw]
 .have hn:nn=lN p.u_:=oI h;subst hn;rw[Nat.sub_self,Js,aH,aA oM]at i3;have _e:t<lN s:=oM;simp at i3;simp[ht,_e,i3]
def zry(ns:List fD)(ms:List X?)(i:Nat):∀(l:List iW) (bad:List l?),(Cj ns ms i l bad).length<=lN bad+lN l
|[],bad=>by simp[Cj]
|x::l,bad=>by
 rw[Cj];have:=zry ns ms i l (if 0<=iX ns x.from_/\I1 ns ms (iX ns x.from_).toNat i=tT then bad++[⟨i,x.line,x.t_,13⟩]else bad);apply aX this;split<;>simp<;>omega
abbrev GX(p:f?)(i nb:Nat):oZ:=[(4,.c (.d (.int .i64 i))),(3,.c (.x_ 4 0 0 nb)),(1,.c (.d (.rp p.enc 0)))]
def zDq(hp:c.pure)(p:f?)(_C:Du p)(i:Nat)(hi:i<lN p.u_)(m:X?)(hm:kL m)(b0:sW)(_u:lN b0<=10000000)(F0:sW)(hF:Cj p.a_ p.u_ i m.z? b0=F0){g}{ms:oO}
  (h0:gy ms S ((6,.c (.d (.int .i64 0)))::(5,.c (.d (.sl oK 4 (m.z?.map iW.enc))))::GX p i (lN b0)) [kg b0])
  (hQ:∀T,Abs.look T 4=.c (.d (.int .i64 i))->Abs.look T 3=.c (.x_ 4 0 0 (lN F0))->Abs.look T 1=.c (.d (.rp p.enc 0))->Q (.exit 2) ⟨T,r_ [kg F0],1⟩):mI Pg c Q4 Q g S:=by
 have hmi:=hm.z?;have h16:=_C.1;have hnn:=_C.2.1;refine fM gm hp (λy:Nat × List l?=>y.1<=lN m.z?/\lN y.2<=lN b0+y.1/\Cj p.a_ p.u_ i (m.z?.drop y.1) y.2=F0) (λy=>(6,.c (.d (.int .i64 y.1)))::(5,.c (.d (.sl oK 4 (m.z?.map iW.enc))))::GX p i (lN y.2)) (λy=>[kg y.2]) (λy=>lN m.z?-y.1) (0,b0) ms ⟨oC,oC,uM hF⟩ h0 λ⟨k,bad⟩ ⟨i1,i2,i3⟩=>?_;unfold Q4;simp only at i1 i2 i3;simp;apply gM<;>intro h
 .have hk:k<lN m.z?:=uM h;let⟨x,hx⟩:=oJ (m.z?[k]);have hw:=wI (n:=(k:Int)+1);rw[aF hk,hx,Cj]at i3;have hml:=NB p.a_ x.from_;have hmk:=KQ p.a_ x.from_;generalize iX p.a_ x.from_=z at*
  simp[hk,hx];refine gQ hmk ?_;by_cases z0:0<=z
  .obtain⟨zn,rfl⟩:∃zn:Nat,z=zn:=⟨z.toNat,oM⟩
   simp only[bC]at i3;have hro:=zBg p _C zn i oM hi;let⟨r,hr⟩:=oJ (I1 p.a_ p.u_ zn i);simp only[hr]at i3 hro;simp;refine oG ?_;refine gQ hro ?_;cases r with
   |true=>
    rw[aC ⟨z0,rfl⟩]at i3;simp[hk,hx];refine⟨oM,oD,?_⟩;refine fE (k+1,bad++[⟨i,x.line,x.t_,13⟩]) [1] ⟨qM,by simp;omega,i3⟩ qM ?_;simp[hw,l?.enc];exact nH _ _
   |false=>
    rw[aB (λq=>by cases q.2)]at i3;simp;refine fE (k+1,bad) [0] ⟨qM,qM,i3⟩ qM ?_;simp[hw]
  .rw[aB (λq=>z0 q.1)]at i3;simp[z0];refine oG ?_;refine fE (k+1,bad) [0] ⟨qM,qM,i3⟩ qM ?_;simp[hw]
 .have hk:k=lN m.z?:=oI h;subst hk;rw[aS,Cj]at i3;subst i3;exact hQ _ oC oC oC
def zFT(p:f?)(_C:Du p):h_ Pg 36 [.agg p.enc] (.one (.sl oK 4 ((Ck p.a_ p.u_ p.u_ 0 []).map l?.enc))):=by
 refine zzb oC λo c hN hp=>?_;let⟨R,hR⟩:=oJ (Ck p.a_ p.u_ p.u_ 0 []);rw[hR];have h16:=_C.1;simp[ZQ];apply fT [.t 3];simp;refine fM gm hp (λy:Nat × List l?=>y.1<=lN p.u_/\lN y.2<=y.1*10001/\Ck p.a_ p.u_ (p.u_.drop y.1) y.1 y.2=R) (λy=>GX p y.1 (lN y.2)) (λy=>[kg y.2]) (λy=>lN p.u_-y.1) (0,[]) [0] ⟨oC,oC,uM hR⟩ oC λ⟨i,bad⟩ ⟨i1,i2,i3⟩=>?_;unfold ZP;simp only at i1 i2 i3;simp;apply gM<;>intro h
 .have hi:i<lN p.u_:=uM h;let⟨m,hm⟩:=oJ (p.u_[i]);have hsm:=_C.2.2 m (by rw[<-hm];exact aO hi);have hmi:=hsm.z?;rw[aF hi,hm,Ck]at i3;have hw:=wI (n:=(i:Int)+1);have htl:=zry p.a_ p.u_ i m.z? bad;simp[hi,hm];refine zDq hp p _C i hi m hsm bad oM _ rfl (ms:=[0]) oC λT t4 t3 t1=>?_;generalize Cj p.a_ p.u_ i m.z? bad=b2 at*
  simp[t4];apply fE (i+1,b2) [0] ⟨qM,qM,i3⟩ qM;simp[t4,t3,t1,hw]
 .have hi:i=lN p.u_:=oI h;subst hi;rw[aS,Ck]at i3;subst i3;simp[nH]
def zrz(L:List Tok):∀(n:Nat) (l:List fD) (p:PS),(xJ L n l p).1.length<=lN l+n
|0,l,p=>by simp[xJ]
| n+1,l,p=>by
 rw[xJ];split
 .have:=zrz L n (l++[(iG L p).1]) (gU L (bs [44]) (iG L p).2).2;simp at this⊢;omega
 .simp
def zus(L:List Tok)(hL:lN L<=10000):∀(n:Nat) (l:List iW) (p:PS),(∀x,x∈l->lN x.a_<=10001)->(zm L n l p).1.length<=lN l+n/\∀x,x∈(zm L n l p).1->lN x.a_<=10001
|0,l,p,h=>by simp[zm];exact h
| n+1,l,p,h=>by
 rw[zm];split
 .simp only;have hn:=zrz L (lN L+1) [] (iH L (bs [58]) (iG L (gU L zl p).2).2);have:=zus L hL n (l++[⟨(iG L (gU L zl p).2).1,(xJ L (lN L+1) [] (iH L (bs [58]) (iG L (gU L zl p).2).2)).1,(U_ L p).line,(U_ L p).t_⟩]) (iH L (bs [59]) (xJ L (lN L+1) [] (iH L (bs [58]) (iG L (gU L zl p).2).2)).2) (λx hx=>by
   rcases aL.1 hx with hx|hx
   .exact h x hx
   .simp at hx;subst hx;simp at hn⊢;omega)
  refine⟨?_,this.2⟩;have h1:=this.1;simp at h1⊢;omega
 .exact⟨oC,h⟩
def zut(L:List Tok):∀(n:Nat) (l:List P?) (p:PS),(uy L n l p).1.length<=lN l+n
|0,l,p=>by simp[uy]
| n+1,l,p=>by
 rw[uy];split
 .have:=zut L n (l++[(uw L p).1]) (uw L p).2;simp at this⊢;omega
 .simp
def zy4(s:fD):kL (tN s).1:=by
 have h0:kL pO:=⟨by simp[pO],by simp[pO],by simp[pO]⟩
 have hk:=NA (s:=s);unfold tN;simp only;split
 .exact h0
 split
 .exact h0
 next h1 h2=>
  let⟨hL,hl⟩:=hk (uM h1);unfold Ej;simp only;generalize (kE s).1=L at*
  have a:=zus L hl (lN L+1) [] ps0 oC;have b:=zut L (lN L+1) [] (zm L (lN L+1) [] ps0).2;exact⟨by have:=a.1;simp at this;simp only;omega,a.2,by simp at b;simp only;omega⟩
def znr:∀(l:List (fD × fD)) (i:Nat) (ns:List fD) (ms:List X?) (bad:List l?),lN ns=lN ms->(∀m,m∈ms->kL m)->
 (u6 l i ns ms bad).1.1.length=(u6 l i ns ms bad).1.2.length/\(u6 l i ns ms bad).1.2.length=lN ms+lN l/\∀m,m∈(u6 l i ns ms bad).1.2->kL m
|[],i,ns,ms,bad,h1,h2=>by rw[u6];exact⟨h1,oC,h2⟩
| s::l,i,ns,ms,bad,h1,h2=>by
 rw[u6];have:=znr l (i+1) (ns++[s.1]) (ms++[(tN s.2).1]) (if mP s.1=oK then bad++[⟨i,1,1,10⟩]else if 0<=iX ns s.1 then bad++[⟨i,1,1,8⟩]else if(tN s.2).2.e≠0 then bad++[⟨i,(tN s.2).2.line,(tN s.2).2.t_,(tN s.2).2.e⟩]else bad) (by simp[h1]) (λm hm=>by
  rcases aL.1 hm with hm|hm
  .exact h2 m hm
  .simp at hm;subst hm;exact zy4 _)
 refine⟨this.1,?_,this.2.2⟩;have h3:=this.2.1;simp at h3⊢;omega
def zpH(l:ow)(sc:sZ):Du ⟨(xN l).1.1,(xN l).1.2,sc,Dj⟩:=by
 unfold xN;split
 .exact⟨oC,rfl,oC⟩
 .have:=znr l 0 [] [] [] rfl oC;exact⟨by have:=this.2.1;simp at this;simp only;omega,this.1,this.2.2⟩
abbrev Ru(r:f? × List l?):DV:=.a? [.agg r.1.enc,.one (.sl oK 4 (r.2.map l?.enc))]
theorem zIq(x:oN × List X?)(s:sZ):put ((Bl x).enc.map AC.d) 2 [.d (.sl oK 1 (s.map uJ))]=(⟨x.1,x.2,s,Dj⟩:f?).enc.map .d:=rfl
theorem zFU(a:oN)(b:sP)(s:sZ)(n:fD)(m k:Int):z_ ((⟨a,b,s,Dj⟩:f?).enc.map AC.d) 3 [.d (.str n),.d (.int .i64 m),.d (.int .i64 k)]=(⟨a,b,s,⟨n,m,k⟩⟩:f?).enc.map .d:=rfl
theorem zDr(a:oN)(b:sP)(s:sZ)(n:fD)(m k:Int):put ((⟨a,b,s,Dj⟩:f?).enc.map AC.d) 3 [.d (.str n),.d (.int .i64 m),.d (.int .i64 k)]=(⟨a,b,s,⟨n,m,k⟩⟩:f?).enc.map .d:=rfl
attribute [simp] zIq zFU zDr
theorem I9:Em.enc=[.sl oK 1 [],.sl oK 2 [],.sl oK 1 [],.str (bs []),.int .i64 0,.int .i64 0]:=rfl
def zIr(l:ow):h_ Pg 19 [.one (.sl oK 2 (l.map jg))] (Ru (vN l)):=by
 refine zBw oC λo c hN hp=>?_;let⟨R,hR⟩:=oJ (vN l);rw[hR];unfold vN at hR;simp only at hR;have hfs:=zpH l;have hf:=zHz l;generalize xN l=f at*
 simp[ZR];apply gQ hf;by_cases f0:0<lN f.2
 .rw[aC f0]at hR;subst hR;simp[f0,I9]
 rw[aB f0]at hR;have hsec:h_ Pg 35 [.agg (Bl f.1).enc] (.a? [.one (.sl oK 1 ((xy f.1.1 f.1.2 f.1.2 0 [] []).1.map uJ)),.one (.sl oK 4 ((xy f.1.1 f.1.2 f.1.2 0 [] []).2.map l?.enc))]):=zEr (Bl f.1) (hfs []);generalize xy f.1.1 f.1.2 f.1.2 0 [] []=s at*
 simp[f0];apply gQ hsec;by_cases s0:0<lN s.2
 .rw[aC s0]at hR;subst hR;simp[s0,I9]
 rw[aB s0]at hR;have hthi:h_ Pg 36 [.agg (⟨f.1.1,f.1.2,s.1,Dj⟩:f?).enc] (.one (.sl oK 4 ((Ck f.1.1 f.1.2 f.1.2 0 []).map l?.enc))):=zFT ⟨f.1.1,f.1.2,s.1,Dj⟩ (hfs s.1);generalize Ck f.1.1 f.1.2 f.1.2 0 []=t at*
 simp[s0];apply gQ hthi;by_cases t0:0<lN t
 .rw[aC t0]at hR;subst hR;simp[t0,I9]
 rw[aB t0]at hR;have hmk:=KQ f.1.1 yO;have hml:=NB f.1.1 yO;have hsm:=hfs s.1;have hnn:lN f.1.1=lN f.1.2:=hsm.2.1;generalize iX f.1.1 yO=z at*
 simp[t0];apply gQ hmk;by_cases z0:z<0
 .rw[aC z0]at hR;subst hR;simp[z0,I9,l?.enc]
 rw[aB z0]at hR;let⟨g1,g2⟩:=getD_in f.1.2 pO (z:=z) (n:=lN f.1.1) (by rw[hnn]) oM oM;generalize f.1.2.getD z.toNat pO=M at*
 have hM:=hsm.2.2 M g2;have hMd:=hM.T_;obtain⟨zn,rfl⟩:∃zn:Nat,z=zn:=⟨z.toNat,oM⟩
 simp only[bC]at g1;have hdk:=zAW M yO oM;have hdl:=zyL M yO;generalize wV M yO=k at*
 simp[z0,g1];apply gQ hdk;by_cases k0:k<0
 .rw[aC k0]at hR;subst hR;simp[k0,I9,l?.enc]
 rw[aB k0]at hR;let⟨g3,g4⟩:=getD_in M.T_ En (z:=k) (n:=lN M.T_) rfl oM oM;generalize M.T_.getD k.toNat En=d at*
 obtain⟨kn,rfl⟩:∃kn:Nat,k=kn:=⟨k.toNat,oM⟩
 simp only[bC]at g3;by_cases v0:0<lN d.vars
 .rw[aC v0]at hR;subst hR;simp[k0,g1,g3,v0,I9,l?.enc];decide
 .rw[aB v0]at hR;subst hR;simp[k0,g1,g3,v0]
abbrev vw(l:oN):A_:=.arr 1 ((encS l).map (·.map .d))
def pU(vs:oN)(V_:oL)(a:oL)(l:oL):oL × Bool:=if(Bg vs V_ l).2=tT then(a++(Bg vs V_ l).1,tT)else([],oK)
def zvj(vs:oN)(V_:oL)(a:oL)(t:f_)(l:oL):pU vs V_ a (t::l)=if(ve vs V_ t).2=tT then pU vs V_ (a++[(ve vs V_ t).1]) l else([],oK):=by
 unfold pU;rw[Bg];by_cases h:(ve vs V_ t).2=tT
 .rw[aC h,aC h];by_cases h2:(Bg vs V_ l).2=tT
  .simp[h2]
  .simp[h2]
 .rw[aB h,aB h];simp
def zye(vs:oN)(V_:oL)(t:f_):ve vs V_ t=if t.d_=8 then(if 0<lN t.a_\/0<lN t.b_ then(t,oK)else match Bf vs V_ t.name with
   |some u=>(u,tT)
   |none=>(t,oK))
  else if(pU vs V_ [] t.b_).2=tT then(.mk t.d_ t.name t.a_ (pU vs V_ [] t.b_).1,tT)else(t,oK):=by
 cases t with
 | mk k n s l=>
  unfold pU;rw[ve];simp only[f_.d_,f_.name,f_.a_,f_.b_,nil_append];by_cases h:(Bg vs V_ l).2=tT
  .simp[h];rfl
  .simp[h];rfl
def vz(k:Int)(n:fD)(s:oN)(l:oL):f_.enc (.mk k n s l)=[.int .i64 k,.str n,.sl oK 1 (encS s),.sl oK 4 (l.map f_.enc)]:=by rw[f_.l_];try rfl
def zvk(t:f_)(b n:Nat):put (t.enc.map AC.d) 3 [.x_ 4 b 0 n]=[.d (.int .i64 t.d_),.d (.str t.name),.d (.sl oK 1 (encS t.a_)),.x_ 4 b 0 n]:=by rw[f_.l_];try rfl
def zES{ts:o6}(h:lN ts=([]:oV).length):ts=[]:=aW.1 h
abbrev RepD(vs:oN)(V_:oL)(u:f_):Prop:=q_ Pg 153 [.ag (u.enc.map .d),.c (.d (.sl oK 1 (encS vs))),.c (.d (.sl oK 4 (V_.map f_.enc)))] [] (.a? [.ag ((ve vs V_ u).1.enc.map .d),.c (.d (.bool (ve vs V_ u).2))]) []
abbrev KR(vs:oN)(V_:oL):oZ:=[(6,.c (.ptr 1 0)),(3,.c (.ptr 0 0)),(2,.c (.d (.sl oK 4 (V_.map f_.enc)))),(1,.c (.d (.sl oK 1 (encS vs))))]
def zET(vs:oN)(V_:oL)(hv:lN vs=lN V_)(hl:lN V_<=1000000)(u:f_)(hk:lN u.b_<=200)(ih:∀e,e∈u.b_->RepD vs V_ e):RepD vs V_ u:=by
 refine ZT mD λts _e ok hb c hN hp=>?_;have _e:=zES _e;subst _e;let⟨R,hR⟩:=oJ (ve vs V_ u);rw[hR];rw[zye]at hR;unfold Q7;by_cases k8:u.d_=8
 .rw[aC k8]at hR;by_cases n0:0<lN u.a_
  .rw[aC (.inl n0)]at hR;subst hR;simp[k8,n0];refine fQ [] ?_;simp;exact fJ [] []
  by_cases c0:0<lN u.b_
  .rw[aC (.inr c0)]at hR;subst hR;simp[k8,n0,c0];refine fQ [] ?_;simp;exact fJ [] []
  rw[aB oM]at hR;simp[k8,n0,c0];refine fM gm hp (λj:Nat=>j<=lN vs/\Bf (vs.drop j) (V_.drop j) u.name=Bf vs V_ u.name) (λj=>(8,.c (.d (.int .i64 j)))::KR vs V_) (λ_=>[.box (u.enc.map .d),wW]) (λj=>lN vs-j) 0 [0,1] ⟨oC,oC⟩ oC λj ⟨h1,h2⟩=>?_;unfold Q5;simp;apply gM<;>intro h
  .have hj:j<lN vs:=uM h;have _x:j<lN V_:=oM;rw[aF hj,aF _x,Bf]at h2;have hw:=wI (n:=(j:Int)+1);by_cases q:vs[j]=u.name
   .rw[aC q]at h2;rw[<-h2]at hR;simp only at hR;subst hR;simp[hj,_x,q];refine oG ?_;refine fQ [] ?_;simp;exact fJ [] []
   .rw[aB q]at h2;simp[hj,_x,q];refine oG ?_;refine fE (j+1) [0,1] ⟨oM,h2⟩ oM ?_;simp[hw]
  .have hj:j=lN vs:=oI h;subst hj;rw[aS,Bf]at h2;rotate_left
   .intros;contradiction
   rw[<-h2]at hR;simp only at hR;subst hR;simp;refine fQ [] ?_;simp;exact fJ [] []
 rw[aB k8]at hR;simp[k8];refine fT [.t 9] ?_;simp;let⟨F0,hF⟩:=oJ (pU vs V_ [] u.b_);rw[hF]at hR;refine fM gm hp (λx:Nat × List f_=>x.1<=lN u.b_/\lN x.2<=x.1/\pU vs V_ x.2 (u.b_.drop x.1)=F0) (λx=>(10,.c (.d (.int .i64 x.1)))::(9,.c (.x_ 4 2 0 (lN x.2)))::KR vs V_) (λx=>[.box (u.enc.map .d),wW,nQ x.2]) (λx=>lN u.b_-x.1) (0,[]) [0,1,2] ⟨oC,oC,uM hF⟩ oC λ⟨j,a⟩ ⟨h1,h2,h3⟩=>?_;unfold Q6;simp only at h1 h2 h3;simp;apply gM<;>intro h
 .have hj:j<lN u.b_:=uM h;rw[aF hj,zvj]at h3;let⟨x,hx⟩:=oJ (u.b_[j]);have hm:=aO hj;rw[hx]at h3 hm;have hix:=ih x hm;unfold RepD at hix;have hw:=wI (n:=(j:Int)+1);generalize ve vs V_ x=r at*
  simp[hj,hx];refine gN [] hix ?_;by_cases q:r.2=tT
  .rw[aC q]at h3;simp[q];refine jV ?_;refine fE (j+1,a++[r.1]) [0,1,4] ⟨qM,by simp;omega,h3⟩ qM ?_;simp[hw];exact yQ a
  .rw[aB q]at h3;subst h3;simp only[bD,if_false]at hR;subst hR;simp[q];refine fQ [] ?_;simp;exact fJ [] []
 .have hj:j=lN u.b_:=oI h;subst hj;rw[aS]at h3;have e:pU vs V_ a []=(a,tT):=by unfold pU;simp[Bg]
  rw[e]at h3;subst h3;simp only[if_true]at hR;subst hR;simp[zvk];refine fQ [2] ?_;simp[iE,nH];exact fK [] [] (by simp[iE,vz,nH])
mutual
def zyf(vs:List fD)(V_:List f_)(hv:lN vs=lN V_)(hl:lN V_<=1000000):∀t:f_,uI t->RepD vs V_ t
|.mk k n s l,h=>by
 rw[uI]at h;exact zET vs V_ hv hl (.mk k n s l) h.1 (λe he=>zvl vs V_ hv hl l h.2 e he)
def zvl(vs:List fD)(V_:List f_)(hv:lN vs=lN V_)(hl:lN V_<=1000000):∀l:List f_,Ap l->∀e,e∈l->RepD vs V_ e
|[],_,e,h=>by cases h
|d::l,hf,e,h=>by
 rw[Ap]at hf;cases h with
 |head=>exact zyf vs V_ hv hl d hf.1
 |tail _ h=>exact zvl vs V_ hv hl l hf.2 e h
end
def Rv(vs:oN)(V_:oL)(hl:lN V_<=1000000)(u:f_):
  q_ Pg 96 [.ag (u.enc.map .d),.c (.d (.sl oK 1 (encS vs))),.c (.d (.sl oK 4 (V_.map f_.enc)))] [] (.a? [.ag ((uG u vs V_).1.enc.map .d),.c (.d (.int .i64 (uG u vs V_).2))]) []:=by
 refine ZU mD λts _e ok hb c hN hp=>?_;have _e:=zES _e;subst _e;let⟨R,hR⟩:=oJ (uG u vs V_);rw[hR];unfold uG at hR;unfold Q8;by_cases hv:lN vs=lN V_;rotate_left
 .rw[aC hv]at hR;subst hR;have hv':¬(lN vs:Int)=lN V_:=oM;simp[hv,hv'];exact fH [] [] (by simp[mG,AV.R_,AV.K_])
 rw[aB (λz=>z hv)]at hR;have hv':(lN vs:Int)=lN V_:=oM;simp[hv'];apply gQ (RB u);by_cases s1:200<mR u 201
 .rw[aC (.inl s1)]at hR;subst hR;simp[s1];exact fH [] [] (by simp[mG,AV.R_,AV.K_])
 simp[s1];apply gQ (RF u);by_cases s2:16<nC 17 u
 .rw[aC (.inr s2)]at hR;subst hR;simp[s2];exact fH [] [] (by simp[mG,AV.R_,AV.K_])
 rw[aB oM]at hR;have hrp:=zyf vs V_ hv hl u (Jz u 201 oM oM);unfold RepD at hrp;generalize ve vs V_ u=r at*
 simp[s2];apply gN [] hrp;by_cases q:r.2=tT
 .rw[aC q]at hR;have hn:=GL r.1;generalize kz r.1=N at*
  subst hR;simp[q];apply gQ hn;simp;exact fJ [] []
 .rw[aB q]at hR;subst hR;simp[q];exact fH [] [] (by simp[mG,AV.R_,AV.K_])
abbrev AF(vs:oN)(V_:oL)(u:f_):Prop:=q_ Pg 153 [.ag (u.enc.map .d),.c (.x_ 1 0 0 (lN vs)),.c (.d (.sl oK 4 (V_.map f_.enc)))] [vw vs] (.a? [.ag ((ve vs V_ u).1.enc.map .d),.c (.d (.bool (ve vs V_ u).2))]) [vw vs]
abbrev KS(vs:oN)(V_:oL):oZ:=[(6,.c (.ptr 3 0)),(3,.c (.ptr 2 0)),(2,.c (.d (.sl oK 4 (V_.map f_.enc)))),(1,.c (.x_ 1 0 0 (lN vs)))]
def zEU(vs:oN)(V_:oL)(hv:lN vs=lN V_)(hl:lN V_<=1000000)(u:f_)(hk:lN u.b_<=200)(ih:∀e,e∈u.b_->AF vs V_ e):AF vs V_ u:=by
 refine ZT mD λts _e ok hb c hN hp=>?_;obtain⟨t,rfl⟩:=lK _e;let⟨R,hR⟩:=oJ (ve vs V_ u);rw[hR];rw[zye]at hR;unfold Q7;by_cases k8:u.d_=8
 .rw[aC k8]at hR;by_cases n0:0<lN u.a_
  .rw[aC (.inl n0)]at hR;subst hR;simp[k8,n0];refine fQ [] ?_;simp;exact fJ [0] [1]
  by_cases c0:0<lN u.b_
  .rw[aC (.inr c0)]at hR;subst hR;simp[k8,n0,c0];refine fQ [] ?_;simp;exact fJ [0] [1]
  rw[aB oM]at hR;simp[k8,n0,c0];refine fM gm hp (λj:Nat=>j<=lN vs/\Bf (vs.drop j) (V_.drop j) u.name=Bf vs V_ u.name) (λj=>(8,.c (.d (.int .i64 j)))::KS vs V_) (λ_=>[vw vs,.G_ t 0,.box (u.enc.map .d),wW]) (λj=>lN vs-j) 0 [0,1,2,3] ⟨oC,oC⟩ oC λj ⟨h1,h2⟩=>?_;unfold Q5;simp;apply gM<;>intro h
  .have hj:j<lN vs:=uM h;have _x:j<lN V_:=oM;rw[aF hj,aF _x,Bf]at h2;have hw:=wI (n:=(j:Int)+1);by_cases q:vs[j]=u.name
   .rw[aC q]at h2;rw[<-h2]at hR;simp only at hR;subst hR;simp[hj,_x,q];refine oG ?_;refine fQ [] ?_;simp;exact fJ [0] [1]
   .rw[aB q]at h2;simp[hj,_x,q];refine oG ?_;refine fE (j+1) [0,1,2,3] ⟨oM,h2⟩ oM ?_;simp[hw]
  .have hj:j=lN vs:=oI h;subst hj;rw[aS,Bf]at h2;rotate_left
   .intros;contradiction
   rw[<-h2]at hR;simp only at hR;subst hR;simp;refine fQ [] ?_;simp;exact fJ [0] [1]
 rw[aB k8]at hR;simp[k8];refine fT [.t 9] ?_;simp;let⟨F0,hF⟩:=oJ (pU vs V_ [] u.b_);rw[hF]at hR;refine fM gm hp (λx:Nat × List f_=>x.1<=lN u.b_/\lN x.2<=x.1/\pU vs V_ x.2 (u.b_.drop x.1)=F0) (λx=>(10,.c (.d (.int .i64 x.1)))::(9,.c (.x_ 4 4 0 (lN x.2)))::KS vs V_) (λx=>[vw vs,.G_ t 0,.box (u.enc.map .d),wW,nQ x.2]) (λx=>lN u.b_-x.1) (0,[]) [0,1,2,3,4] ⟨oC,oC,uM hF⟩ oC λ⟨j,a⟩ ⟨h1,h2,h3⟩=>?_;unfold Q6;simp only at h1 h2 h3;simp;apply gM<;>intro h
 .have hj:j<lN u.b_:=uM h;rw[aF hj,zvj]at h3;let⟨x,hx⟩:=oJ (u.b_[j]);have hm:=aO hj;rw[hx]at h3 hm;have hix:=ih x hm;unfold AF at hix;have hw:=wI (n:=(j:Int)+1);generalize ve vs V_ x=r at*
  simp[hj,hx];refine gN [0] hix ?_;by_cases q:r.2=tT
  .rw[aC q]at h3;simp[q];refine jV ?_;refine fE (j+1,a++[r.1]) [0,1,2,3,6] ⟨qM,by simp;omega,h3⟩ qM ?_;simp[hw];exact yQ a
  .rw[aB q]at h3;subst h3;simp only[bD,if_false]at hR;subst hR;simp[q];refine fQ [] ?_;simp;exact fJ [0] [1]
 .have hj:j=lN u.b_:=oI h;subst hj;rw[aS]at h3;have e:pU vs V_ a []=(a,tT):=by unfold pU;simp[Bg]
  rw[e]at h3;subst h3;simp only[if_true]at hR;subst hR;simp[zvk];refine fQ [4] ?_;simp[iE,nH];exact fK [0] [1] (by simp[iE,vz,nH])
mutual
def zyg(vs:List fD)(V_:List f_)(hv:lN vs=lN V_)(hl:lN V_<=1000000):∀t:f_,uI t->AF vs V_ t
|.mk k n s l,h=>by
 rw[uI]at h;exact zEU vs V_ hv hl (.mk k n s l) h.1 (λe he=>zvm vs V_ hv hl l h.2 e he)
def zvm(vs:List fD)(V_:List f_)(hv:lN vs=lN V_)(hl:lN V_<=1000000):∀l:List f_,Ap l->∀e,e∈l->AF vs V_ e
|[],_,e,h=>by cases h
|d::l,hf,e,h=>by
 rw[Ap]at hf;cases h with
 |head=>exact zyg vs V_ hv hl d hf.1
 |tail _ h=>exact zvm vs V_ hv hl l hf.2 e h
end
def zzC(vs:oN)(V_:oL)(hl:lN V_<=1000000)(u:f_):
  q_ Pg 96 [.ag (u.enc.map .d),.c (.x_ 1 0 0 (lN vs)),.c (.d (.sl oK 4 (V_.map f_.enc)))] [vw vs] (.a? [.ag ((uG u vs V_).1.enc.map .d),.c (.d (.int .i64 (uG u vs V_).2))]) [vw vs]:=by
 refine ZU mD λts _e ok hb c hN hp=>?_;obtain⟨t,rfl⟩:=lK _e;let⟨R,hR⟩:=oJ (uG u vs V_);rw[hR];unfold uG at hR;unfold Q8;by_cases hv:lN vs=lN V_;rotate_left
 .rw[aC hv]at hR;subst hR;have hv':¬(lN vs:Int)=lN V_:=oM;simp[hv,hv'];exact fH [0] [1] (by simp[mG,AV.R_,AV.K_])
 rw[aB (λz=>z hv)]at hR;have hv':(lN vs:Int)=lN V_:=oM;simp[hv'];apply gQ (RB u);by_cases s1:200<mR u 201
 .rw[aC (.inl s1)]at hR;subst hR;simp[s1];exact fH [0] [1] (by simp[mG,AV.R_,AV.K_])
 simp[s1];apply gQ (RF u);by_cases s2:16<nC 17 u
 .rw[aC (.inr s2)]at hR;subst hR;simp[s2];exact fH [0] [1] (by simp[mG,AV.R_,AV.K_])
 rw[aB oM]at hR;have hrp:=zyg vs V_ hv hl u (Jz u 201 oM oM);unfold AF at hrp;generalize ve vs V_ u=r at*
 simp[s2];apply gN [0] hrp;by_cases q:r.2=tT
 .rw[aC q]at hR;have hn:=GL r.1;generalize kz r.1=N at*
  subst hR;simp[q];apply gQ hn;simp;exact fJ [0] [1]
 .rw[aB q]at hR;subst hR;simp[q];exact fH [0] [1] (by simp[mG,AV.R_,AV.K_])
@[simp] theorem zNz(v:fD × f_):(p? v)[0]?=sS (.str v.1):=rfl
@[simp] theorem zKi(v:fD × f_):(p? v)[1]?=sS (.int .i64 v.2.d_):=by unfold p?;rw[f_.l_];try rfl
@[simp] theorem zNd(v:fD × f_)(h:0<(p? v).length):(p? v)[0]=.str v.1:=rfl
@[simp] theorem zNe(v:fD × f_)(h:1<(p? v).length):(p? v)[1]=.int .i64 v.2.d_:=by have:=zKi v;rw[aA h]at this;exact bu this
@[simp] theorem zMA(v:fD × f_):cut (p? v) 1 4=v.2.enc:=by unfold p?;rw[f_.l_];try rfl
def zI5(vars:sV)(l:oL)(hl:lN l<=1000000):h_ Pg 158 [.one (.sl oK 5 (vars.map p?)),.one (.sl oK 4 (l.map f_.enc))] (.one (.int .i64 (I4 vars l))):=by
 refine zCA oC λo c hN hp=>?_;let⟨R,hR⟩:=oJ (I4 vars l);rw[hR];unfold I4 at hR;unfold ZW;by_cases hv:lN vars=lN l;rotate_left
 .rw[aC hv]at hR;subst hR;have hv':¬(lN vars:Int)=lN l:=oM;simp[hv']
 rw[aB (λz=>z hv)]at hR;have hv':(lN vars:Int)=lN l:=oM;simp[hv'];refine fT [.t 5] ?_;simp;refine fM gm hp (λi:Nat=>i<=lN l/\Jt (vars.drop i) (l.drop i) ((vars.take i).map (·.1)) (l.take i)=R) (λi=>[(6,.c (.d (.int .i64 i))),(5,.c (.x_ 1 0 0 i)),(1,.c (.d (.sl oK 4 (l.map f_.enc)))),(0,.c (.d (.sl oK 5 (vars.map p?))))]) (λi=>[vw ((vars.take i).map (·.1))]) (λi=>lN l-i) 0 [0] ⟨oC,uM hR⟩ (by simp[encS]) λi ⟨h1,h2⟩=>?_;unfold ZV;simp;apply gM<;>intro h
 .have hi:i<lN l:=uM h;have hi2:i<lN vars:=oM;rw[aF hi,aF hi2,Jt]at h2;let⟨x,hx⟩:=oJ (l[i]);let⟨v,hv3⟩:=oJ (vars[i]);rw[hx,hv3]at h2;have hw:=wI (n:=(i:Int)+1);have tk1:(vars.take (i+1)).map (·.1)=(vars.take i).map (·.1)++[v.1]:=by rw[aN hi2,dO,hv3];try rfl
  have tk2:l.take (i+1)=l.take i++[x]:=by rw[aN hi,hx]
  have _k:(l.take i).length=i:=by rw[bz];omega
  have hvt:((vars.take i).map (·.1)).length=i:=by rw[aa,bz];omega
  simp[hi,hx];refine gQ (Bi x) ?_;by_cases n:H_ x=tT;rotate_left
  .rw[aC (uM n)]at h2;subst h2;simp[n]
  rw[aB (by simp[n])]at h2;by_cases k0:v.2.d_=0
  .rw[aB (λz=>z.1 k0)]at h2;simp[n,hi2,hv3,k0];refine⟨oM,oM,?_⟩;refine fE (i+1) [1] ⟨oM,by rw[tk1,tk2];exact h2⟩ oM ?_;rw[tk1];simp[hw,hvt];exact aD (by simp;omega)
  .have hro:=zzC ((vars.take i).map (·.1)) (l.take i) (by rw[_k];omega) v.2;rw[hvt]at hro;have hsb:=KO x (uG v.2 ((vars.take i).map (·.1)) (l.take i)).1;generalize uG v.2 ((vars.take i).map (·.1)) (l.take i)=r at*
   simp[n,hi2,hv3,k0,h1];refine gN [0] hro ?_;simp[hi,hx];refine oG ?_;refine gQ hsb ?_;by_cases e0:r.2=0
   .by_cases s0:qg x r.1=tT
    .rw[aB (by simp[e0,s0])]at h2;simp[e0,s0,hi2,hv3];refine⟨oD,oM,oM,?_⟩;refine fE (i+1) [2] ⟨oM,by rw[tk1,tk2];exact h2⟩ oM ?_;rw[tk1];simp[hw,hvt];exact aD (by simp;omega)
    .rw[aC ⟨k0,.inr (uM s0)⟩]at h2;subst h2;simp[e0,s0];try decide
   .rw[aC ⟨k0,.inl e0⟩]at h2;subst h2;simp[e0];try decide
 .have hi:i=lN l:=oI h;subst hi;rw[aS,Jt]at h2
  .subst h2;simp
  .intros;contradiction
@[simp] theorem jc.F_(x:jc):lN x.enc=3:=rfl
@[simp] theorem jc.enc_0(x:jc):x.enc[0]?=sS (.int .i64 x.module):=rfl
@[simp] theorem jc.enc_1(x:jc):x.enc[1]?=sS (.int .i64 x.decl):=rfl
@[simp] theorem jc.enc_2(x:jc):x.enc[2]?=sS (.sl oK 4 (x.types.map f_.enc)):=rfl
@[simp] theorem jc.enc_g0(x:jc)(h:0<lN x.enc):x.enc[0]=.int .i64 x.module:=rfl
@[simp] theorem jc.enc_g1(x:jc)(h:1<lN x.enc):x.enc[1]=.int .i64 x.decl:=rfl
@[simp] theorem jc.enc_g2(x:jc)(h:2<lN x.enc):x.enc[2]=.sl oK 4 (x.types.map f_.enc):=rfl
@[simp] theorem jc.cut_enc(x:jc):cut x.enc 0 3=x.enc:=rfl
@[simp] theorem jc.cut_map(x:jc):cut (x.enc.map AC.d) 0 3=x.enc.map .d:=rfl
def zG1(a b:jc):h_ Pg 61 [.agg a.enc,.agg b.enc] (.one (.bool (Dl a b))):=by
 refine zCB oC λo c hN hp=>?_;have hl:lN a.types<=zaf:=by
  have:=o.1;simp only[DV.ok,jc.enc,D.okL,D.ok,aa]at this;exact this.2.2.1.1
 unfold zaf at hl;let⟨R,hR⟩:=oJ (Dl a b);rw[hR];unfold Dl at hR;unfold ZY;by_cases q1:a.module=b.module;rotate_left
 .simp[q1]at hR;simp[q1,hR]
 by_cases q2:a.decl=b.decl;rotate_left
 .simp[q2]at hR;simp[q1,q2,hR]
 by_cases q3:lN a.types=lN b.types;rotate_left
 .have:vY nD a.types b.types=oK:=by
   cases h:vY nD a.types b.types with
   |false=>rfl
   |true=>exact absurd (RG h) q3
  have q3':¬(lN a.types:Int)=lN b.types:=oM;simp[this]at hR;simp[q1,q2,q3,q3',hR]
 simp[q1,q2]at hR;simp[q1,q2,q3];refine fM gm hp (λj:Nat=>j<=lN a.types/\vY nD (a.types.drop j) (b.types.drop j)=R) (λj=>[(5,.c (.d (.int .i64 j))),(3,.c (.d (.rp b.enc 0))),(2,.c (.d (.rp a.enc 0)))]) (λ_=>[]) (λj=>lN a.types-j) 0 [] ⟨oC,uM hR⟩ oC λj ⟨h1,h2⟩=>?_;unfold ZX;simp;apply gM<;>intro h
 .have hj:j<lN a.types:=uM h;have _x:j<lN b.types:=oM;rw[aF hj,aF _x,vY]at h2;simp[hj,_x];refine gQ (I5 _ _) ?_;generalize nD a.types[j] b.types[j]=q at*
  cases q with
  |true=>
   simp at h2;simp;refine oG ?_;refine fE (j+1) [] ⟨oM,h2⟩ oM ?_;simp;exact wI
  |false=>
   simp at h2;simp[h2];try decide
 .have hj:j=lN a.types:=oI h;subst hj;rw[aS,q3,aS]at h2;simp[vY]at h2;simp[h2]
abbrev nS(l:List jc):A_:=.arr 3 ((l.map jc.enc).map (·.map .d))
abbrev AJ(most:Int)(n b:Nat):A_:=.box [.d (.int .i64 most),.x_ 3 b 0 n]
def Rw{ts:o6}{a b:A_}(h:lN ts=[a,b].length):∃t u,ts=[t,u]:=by
 match ts,h with
 |[t,u],_=>exact⟨t,u,rfl⟩
def zEv(most:Int)(l:List jc)(hl:lN l<=100000)(x:jc)(hx:lN x.types<=1000000):
  q_ Pg 39 [.c (.ptr 0 0),.ag (x.enc.map .d)] [AJ most (lN l) 1,nS l] (.a? [.c (.d (.int .i64 (jf most l x).1.1)),.c (.d (.int .i64 (jf most l x).1.2))]) [AJ most (jf most l x).2.length 2,.dead,nS (jf most l x).2]:=by
 refine zrb ⟨oC,oC,oC,oC,oC,oC,by simp;rfl⟩ λts _e ok hb c hN hp=>?_;obtain⟨t,u,rfl⟩:=Rw _e;let⟨R,hR⟩:=oJ (jf most l x);rw[hR];unfold jf at hR;unfold Z4;simp;refine fM gm hp (λj:Nat=>j<=lN x.types/\(x.types.drop j).all H_=x.types.all H_) (λj=>[(6,.c (.d (.int .i64 j))),(3,.c (.d (.rp x.enc 0))),(0,.c (.ptr 0 0))]) (λ_=>[AJ most (lN l) 1,nS l,.G_ t 0,.G_ u 1]) (λj=>lN x.types-j) 0 [0,1,2,3] ⟨oC,oC⟩ oC λj ⟨h1,h2⟩=>?_;unfold ZZ;simp;apply gM<;>intro h
 .have hj:j<lN x.types:=uM h;rw[aF hj,all_cons]at h2;simp[hj];refine gQ (Bi _) ?_;have hw:=wI (n:=(j:Int)+1);generalize H_ x.types[j]=q at*
  cases q with
  |false=>
   simp only[Bool.false_and]at h2;rw[aC h2.symm]at hR;subst hR;simp;exact fJ [0,3,1] [2,3]
  |true=>
   simp only[Bool.true_and]at h2;simp;refine fE (j+1) [0,1,2,3] ⟨oM,h2⟩ oM ?_;simp[hw]
 .have hj:j=lN x.types:=oI h;subst hj;rw[aS,all_nil]at h2;rw[aB (by rw[<-h2];simp)]at hR;simp;refine fM gm hp (λi:Nat=>i<=lN l/\fi (λy=>Dl y x) i (l.drop i)=fi (λy=>Dl y x) 0 l) (λi=>[(8,.c (.d (.int .i64 i))),(3,.c (.d (.rp x.enc 0))),(0,.c (.ptr 0 0))]) (λ_=>[AJ most (lN l) 1,nS l,.G_ t 0,.G_ u 1]) (λi=>lN l-i) 0 [0,1,2,3] ⟨oC,oC⟩ oC λi ⟨h3,h4⟩=>?_;unfold Z0;simp;apply gM<;>intro h
  .have hi:i<lN l:=uM h;rw[aF hi,fi]at h4;have hw:=wI (n:=(i:Int)+1);simp[hi];refine gQ (zG1 _ _) ?_;by_cases q:Dl l[i] x=tT
   .rw[aC q]at h4;rw[<-h4,aC oM]at hR;subst hR;simp[q];refine oG ?_;exact fJ [0,3,1] [2,3]
   .rw[aB q]at h4;simp[q];refine oG ?_;refine fE (i+1) [0,1,2,3] ⟨oM,h4⟩ oM ?_;simp[hw]
  .have hi:i=lN l:=oI h;subst hi;rw[aS,fi]at h4;rw[<-h4,aB oD]at hR;simp;by_cases m:most<=lN l
   .rw[aC m]at hR;subst hR;simp[m];refine oG ?_;exact fJ [0,3,1] [2,3]
   .rw[aB m]at hR;subst hR;have hw:IntKind.i64.wrap (lN l:Int)=(lN l:Int):=wI;simp[m];refine⟨oD,oM,oD,?_⟩;exact fK [0,1,4] [2,3] (by simp[hw,nH])
@[simp] def qL:List Nat:=[0,1,2,3,4,5,6,7,8,9,10,11,12,13]
@[simp] def qK:List Nat:=[0,1,2,9,4,11,18,19]
@[simp] def qJ:List Nat:=[0,1,2,14,4,15]
@[simp] def qI:List Nat:=[0,1,2,9,4,11,14,15]
@[simp] def qH:List Nat:=[0,1,2,9,4,11,3,5]
@[simp] def qG:List Nat:=[6,7,8,9,10,11]
@[simp] theorem jN.F_(f:jN):lN f.enc=13:=by simp[jN.enc]
@[simp] theorem Site.F_(f:Site):lN f.enc=3:=rfl
abbrev r9(l:List jN):A_:=.arr 13 ((l.map jN.enc).map (·.map .d))
abbrev uK(l:List Site):A_:=.arr 3 ((l.map Site.enc).map (·.map .d))
abbrev xS(L:f?)(s:CS)(a b d:Nat):A_:=.box [.d (.sl oK 1 (encS L.a_)),.d (.sl oK 2 (L.u_.map X?.enc)),.d (.sl oK 1 (L.scopes.map uJ)),.d (.str L.main.name),.d (.int .i64 L.main.module),.d (.int .i64 L.main.decl),.ptr 1 0,.x_ 13 a 0 (lN s.v_),.d (.int .i64 s.main),.x_ 3 b 0 (lN s.sites),.x_ 4 d 0 (lN s.bad),.d (.int .i64 s.module),.d (.sl oK 1 (encS s.vars)),.d (.sl oK 4 (s.V_.map f_.enc)),.d (.int .i64 s.e),.d (.int .i64 s.line),.d (.int .i64 s.t_)]
abbrev uL(L:f?)(s:CS):oV:=[xS L s 2 3 4,AJ 256 (lN s.n?) 5,r9 s.v_,uK s.sites,kg s.bad,nS s.n?]
abbrev ck7(L:f?)(s:CS):oV:=[xS L s 2 6 4,AJ 256 (lN s.n?) 5,r9 s.v_,.dead,kg s.bad,nS s.n?,uK s.sites]
abbrev ND(L:f?)(s:CS):oV:=[xS L s 2 6 4,AJ 256 (lN s.n?) 7,r9 s.v_,.dead,kg s.bad,.dead,uK s.sites,nS s.n?]
def lM{ts:o6}{a b c d e f:A_}(h:lN ts=[a,b,c,d,e,f].length):∃t u v w x y,ts=[t,u,v,w,x,y]:=by
 match ts,h with
 |[t,u,v,w,x,y],_=>exact⟨t,u,v,w,x,y,rfl⟩
section
variable (L:f?)
def zw0(ln cl e:Int)(s:CS):q_ Pg 97 [.c (.ptr 0 0),.c (.d (.int .i64 ln)),.c (.d (.int .i64 cl)),.c (.d (.int .i64 e))] (uL L s) (.a? []) (uL L (jw ln cl e s)):=by
 refine zCG kW λts _e ok hb c hN hp=>?_;obtain⟨t,u,v,w,x,y,rfl⟩:=lM _e;unfold Zb jw;by_cases h0:s.e=0
 .rw[aC h0];simp[h0];exact fJ [0,1,2,3,4,5] qG
 .rw[aB h0];simp[h0];exact fJ [0,1,2,3,4,5] qG
def Co{α:Type}{l:List α}{i:Nat}{d:α}(e:l[i]?=sS d)(h:i<lN l):l[i]=d:=by rw[aA h]at e;exact bu e
@[simp] theorem o_.enc_0(n:o_):n.enc[0]?=sS (.int .i64 n.d_):=by rw[n.l_];try rfl
@[simp] theorem o_.enc_g0(n:o_)(h:0<lN n.enc):n.enc[0]=.int .i64 n.d_:=Co n.enc_0 h
@[simp] theorem o_.enc_1(n:o_):n.enc[1]?=sS (.str n.text):=by rw[n.l_];try rfl
@[simp] theorem o_.enc_g1(n:o_)(h:1<lN n.enc):n.enc[1]=.str n.text:=Co n.enc_1 h
@[simp] theorem o_.enc_2(n:o_):n.enc[2]?=sS (.int .i64 n.n):=by rw[n.l_];try rfl
@[simp] theorem o_.enc_g2(n:o_)(h:2<lN n.enc):n.enc[2]=.int .i64 n.n:=Co n.enc_2 h
@[simp] theorem o_.enc_3(n:o_):n.enc[3]?=sS (.int .i64 n.line):=by rw[n.l_];try rfl
@[simp] theorem o_.enc_g3(n:o_)(h:3<lN n.enc):n.enc[3]=.int .i64 n.line:=Co n.enc_3 h
@[simp] theorem o_.enc_4(n:o_):n.enc[4]?=sS (.int .i64 n.t_):=by rw[n.l_];try rfl
@[simp] theorem o_.enc_g4(n:o_)(h:4<lN n.enc):n.enc[4]=.int .i64 n.t_:=Co n.enc_4 h
@[simp] theorem o_.enc_5(n:o_):n.enc[5]?=sS (.sl oK 4 (n.types.map f_.enc)):=by rw[n.l_];try rfl
@[simp] theorem o_.enc_g5(n:o_)(h:5<lN n.enc):n.enc[5]=.sl oK 4 (n.types.map f_.enc):=Co n.enc_5 h
@[simp] theorem o_.enc_6(n:o_):n.enc[6]?=sS (.sl oK 1 (encS n.a_)):=by rw[n.l_];try rfl
@[simp] theorem o_.enc_g6(n:o_)(h:6<lN n.enc):n.enc[6]=.sl oK 1 (encS n.a_):=Co n.enc_6 h
@[simp] theorem o_.enc_7(n:o_):n.enc[7]?=sS (.sl oK 8 (n.b_.map o_.enc)):=by rw[n.l_];try rfl
@[simp] theorem o_.enc_g7(n:o_)(h:7<lN n.enc):n.enc[7]=.sl oK 8 (n.b_.map o_.enc):=Co n.enc_7 h
def yD(n:o_)(e:Int)(s:CS):q_ Pg 67 [.c (.ptr 0 0),.ag (n.enc.map .d),.c (.d (.int .i64 e))] (uL L s) (.a? []) (uL L (jw n.line n.t_ e s)):=by
 refine zHu kW λts _e ok hb c hN hp=>?_;obtain⟨t,u,v,w,x,y,rfl⟩:=lM _e;have hf:=zw0 L n.line n.t_ e s;simp[Zc];apply gN [0,1,2,3,4,5] hf;simp;exact fJ [0,1,2,3,4,5] qG
def GY(t0:f_)(ln cl:Int)(s:CS)(hw:lN s.V_<=1000000):q_ Pg 63 [.c (.ptr 0 0),.ag (t0.enc.map .d),.c (.d (.int .i64 ln)),.c (.d (.int .i64 cl))] (uL L s) (.ag ((ig t0 ln cl s).1.enc.map .d)) (uL L (ig t0 ln cl s).2):=by
 refine zvX kW λts _e ok hb c hN hp=>?_;obtain⟨t,u,v,w,x,y,rfl⟩:=lM _e;have hr:=Rv s.vars s.V_ hw t0;have hf:=zw0 L ln cl 9 s;unfold ig;simp only;generalize uG t0 s.vars s.V_=r at*
 unfold Zd;simp;refine gN [] hr ?_;by_cases h0:r.2=0
 .rw[aB (by simp[h0])];simp[h0];refine oG ?_;exact fJ [0,1,2,3,4,5] qG
 .rw[aC h0];simp[h0];refine oG ?_;refine gN [0,1,2,3,4,5] hf ?_;simp;exact fJ [0,1,2,3,4,5] qG
def GZ(t0:f_)(n:o_)(s:CS):q_ Pg 64 [.c (.ptr 0 0),.ag (t0.enc.map .d),.ag (n.enc.map .d)] (uL L s) (.ag ((qh t0 n.line n.t_ s).1.enc.map .d)) (uL L (qh t0 n.line n.t_ s).2):=by
 refine zCH kW λts _e ok hb c hN hp=>?_;obtain⟨t,u,v,w,x,y,rfl⟩:=lM _e;have hr:=GL t0;have hf:=yD L n 9 s;unfold qh;generalize kz t0=r at*
 simp[Ze];apply gQ hr;by_cases h0:r.2=0
 .rw[aB (by simp[h0])];simp[h0];exact fJ [0,1,2,3,4,5] qG
 .rw[aC h0];simp[h0];apply gN [0,1,2,3,4,5] hf;simp;exact fJ [0,1,2,3,4,5] qG
@[simp] theorem n_.er_map(c:n_):c.enc.map D.er=c.enc:=by rw[n_.l_];try rfl
def NE:∀l:List Int,D.O_ (encI l)=encI l
|[]=>rfl
|i::l=>by have:=NE l;unfold encI at*;simp only[map_cons,D.O_,D.W_,D.K_,this]
def KT:∀l:List fD,D.O_ (encS l)=encS l
|[]=>rfl
|i::l=>by have:=KT l;unfold encS at*;simp only[map_cons,D.O_,D.W_,D.K_,this]
def zAg:∀l:List (fD × Int),D.O_ (u? l)=u? l
|[]=>rfl
|i::l=>by have:=zAg l;unfold u? at*;simp only[map_cons,D.O_,D.W_,D.K_,this]
mutual
def f_.erdLL:∀c:f_,D.W_ c.enc=c.enc
|.mk k n s l=>by rw[f_.enc];simp only[D.W_,D.K_,KT,f_.erdEE l]
def f_.erdEE:∀l:List f_,D.O_ (f_.j? l)=f_.j? l
|[]=>rfl
|c::l=>by rw[f_.j?,D.O_,f_.erdLL c,f_.erdEE l]
end
mutual
def gT.erdLL:∀c:gT,D.W_ c.enc=c.enc
|.mk t n s f g=>by rw[gT.enc];simp only[D.W_,D.K_,NE,zAg,KT,gT.erdEE f,gT.erdEE g]
def gT.erdEE:∀l:List gT,D.O_ (gT.j? l)=gT.j? l
|[]=>rfl
|c::l=>by rw[gT.j?,D.O_,gT.erdLL c,gT.erdEE l]
end
def f_.erdE_map(l:oL):D.O_ (l.map f_.enc)=l.map f_.enc:=by rw[<-f_.q?];exact f_.erdEE l
def gT.erdE_map(l:sN):D.O_ (l.map gT.enc)=l.map gT.enc:=by rw[<-gT.q?];exact gT.erdEE l
mutual
theorem n_.erdLL:∀c:n_,D.W_ c.enc=c.enc
|.mk k n t is ns ts cs ks=>by rw[n_.enc];simp only[D.W_,D.K_,NE,KT,f_.erdE_map,gT.erdE_map,n_.erdEE ks]
theorem n_.erdEE:∀l:List n_,D.O_ (n_.j? l)=n_.j? l
|[]=>rfl
|c::l=>by rw[n_.j?,D.O_,n_.erdLL c,n_.erdEE l]
end
theorem n_.erdE_map(l:o8):D.O_ (l.map n_.enc)=l.map n_.enc:=by rw[<-n_.q?];exact n_.erdEE l
attribute [simp] n_.erdLL n_.erdE_map
def Bn(k n:Int)(t:fD)(is:oW)(ns:oN)(ts:oL)(cs:sN)(ks:o8):(n_.mk k n t is ns ts cs ks).enc=[.int .i64 k,.int .i64 n,.str t,.sl oK 1 (encI is),.sl oK 1 (encS ns),.sl oK 4 (ts.map f_.enc),.sl oK 5 (cs.map gT.enc),.sl oK 8 (ks.map n_.enc)]:=by
 rw[n_.l_];try rfl
def kD.mkC{v:AV}{_d:oV}{ts:o6}{vs:oo}{S:St}(l qs:oO)(h:l.Nodup/\(one? vs).K_=v.N_ (Z' l)/\mJ S l l _d/\kV S l l qs ts _d:=by simp[cK,cN,cT,Bn,vz,jO,yR,mG,noC,encI,encS,AV.R_,AV.K_,D.W_,D.K_,D.O_,R?,Q?]):kD v _d ts vs S:=fH l qs h
def Ia(z:n_)(a b:f_)(n:o_)(s:CS)(hs:lN s.sites<=1000000000):q_ Pg 111 [.c (.ptr 0 0),.ag (z.enc.map .d),.ag (a.enc.map .d),.ag (b.enc.map .d),.ag (n.enc.map .d)] (uL L s) (.ag ((lD z a b n.line n.t_ s).1.enc.map .d)) (ck7 L (lD z a b n.line n.t_ s).2):=by
 refine zCI kW λts _e ok hb c hN hp=>?_;obtain⟨t,u,v,w,x,y,rfl⟩:=lM _e;unfold lD;unfold Zf;by_cases h0:s.e=0
 .rw[aB (by simp[h0])];have hw:IntKind.i64.wrap (lN s.sites:Int)=(lN s.sites:Int):=wI;simp[h0];refine⟨oM,oD,oD,?_⟩;exact fH [0,1,2,3,4,5,13] qG (by simp[hw,nH,Bn,Site.enc,h0,encI,encS,AV.K_,AC.K_])
 .rw[aC h0];simp[h0];exact fJ [0,1,2,9,4,5,3] qG
def Bo(z:n_)(a b:f_)(n:o_)(s:CS)(hs:lN s.sites<=1000000000):q_ Pg 69 [.c (.ptr 0 0),.ag (z.enc.map .d),.ag (a.enc.map .d),.ag (b.enc.map .d),.ag (n.enc.map .d)] (uL L s) (.ag ((jq z a b n.line n.t_ s).1.enc.map .d)) (ck7 L (jq z a b n.line n.t_ s).2):=by
 refine zyr kW λts _e ok hb c hN hp=>?_;obtain⟨t,u,v,w,x,y,rfl⟩:=lM _e;have hc:=Ia L z a b n s hs;have hf:=yD L n 15 s;unfold jq;unfold Zg;by_cases h0:s.e=0;rotate_left
 .rw[aC h0];simp[h0];exact fJ [0,1,2,9,4,5,3] qG
 rw[aB (by simp[h0])];simp[h0];apply gQ (KO a b);by_cases h1:qg a b=tT
 .rw[aC h1];simp[h1];exact fK [0,1,2,9,4,5,3] qG (by simp[h0])
 rw[aB h1];simp[h1];apply gQ (zAp a b);by_cases h2:Di a b=tT
 .rw[aC h2];generalize lD z a b n.line n.t_ s=r at*
  simp[h2];apply gP [0,1,2,3,4,5] hc (by simp[h0]);simp;exact fJ [0,1,2,3,4,5,13] qG
 .rw[aB h2];generalize jw n.line n.t_ 15 s=r at*
  simp[h2];apply gP [0,1,2,3,4,5] hf (by simp[h0]);simp;exact fJ [0,1,2,9,4,5,3] qG
end
abbrev fI:=@kD.mkC
def jr(k:Int):h_ Pg 66 [.one (.int .i64 k)] (.agg (bT k).enc):=by
 refine zCC oC λo c hN hp=>?_;unfold Z5;simp[yR]
def zA3(d:P?)(hd:lN d.vars<=1000000):h_ Pg 62 [.agg d.enc] (.one (.sl oK 1 (encS (d.vars.map (·.1))))):=by
 refine zCD oC λo c hN hp=>?_;simp[Z7];apply fT [.t 3];simp;refine fM gm hp (λj:Nat=>j<=lN d.vars) (λj=>[(4,.c (.d (.int .i64 j))),(3,.c (.x_ 1 0 0 j)),(1,.c (.d (.rp d.enc 0)))]) (λj=>[vw ((d.vars.take j).map (·.1))]) (λj=>lN d.vars-j) 0 [0] oC (by simp[encS]) λj h1=>?_;simp[Z6];apply gM<;>intro h
 .have hj:j<lN d.vars:=uM h;let⟨v,hv⟩:=oJ (d.vars[j]);have hw:=wI (n:=(j:Int)+1);have tk1:(d.vars.take (j+1)).map (·.1)=(d.vars.take j).map (·.1)++[v.1]:=by rw[aN hj,dO,hv];try rfl
  simp[hj,hv];refine⟨oM,oM,?_⟩;apply fE (j+1) [1] oM oM;rw[tk1];simp[hw];exact aD (by simp;omega)
 .have hj:j=lN d.vars:=oI h;subst hj;have z:take (lN d.vars) (encS (take (lN d.vars) (List.map (λx=>x.1) d.vars)))=encS (List.map (λx=>x.1) d.vars):=by
   rw[aD oC,aD oC]
  simp[z]
def Rx(env:Env)(hl:lN env<=1000000)(s:fD)(t:f_):h_ Pg 159 [.one (.sl oK 5 (env.map p?)),.one (.str s),.agg t.enc] (.one (.sl oK 5 ((env++[(s,t)]).map p?))):=by
 refine zCF oC λo c hN hp=>?_;unfold Za;have z:take (length env+1) (List.map p? env++[.str s::t.enc])=List.map p? env++[.str s::t.enc]:=aD oC;simp[nH];refine⟨oM,oM,oD,?_⟩
 first
  |exact z
  |(rw[z];rfl)
  |trace_state
def Ry(env:Env)(x:fD):u7 env x= -1\/(0<=u7 env x/\u7 env x<lN env):=by
 have:=KP (λb:fD × f_=>decide (b.1=x)) 0 env.reverse;unfold u7;rw[length_reverse]at this;simp only;split<;>omega
def find_ok(env:Env)(hl:lN env<=1000000)(x:fD):h_ Pg 156 [.one (.sl oK 5 (env.map p?)),.one (.str x)] (.one (.int .i64 (u7 env x))):=by
 refine zCE oC λo c hN hp=>?_;let⟨R,hR⟩:=oJ (u7 env x);rw[hR];unfold u7 at hR;unfold Z9;have _B:IntKind.i64.wrap ((lN env:Int)-1)=(lN env:Int)-1:=wI;simp[_B];refine fM gm hp (λj:Nat=>j<=lN env/\fi (λb:fD × f_=>decide (b.1=x)) j (env.reverse.drop j)=fi (λb:fD × f_=>decide (b.1=x)) 0 env.reverse) (λj=>[(5,.c (.d (.int .i64 ((lN env:Int)-1-j)))),(1,.c (.d (.str x))),(0,.c (.d (.sl oK 5 (env.map p?))))]) (λ_=>[]) (λj=>lN env-j) 0 [] ⟨oC,oC⟩ oC λj ⟨h1,h2⟩=>?_;unfold Z8;have hw:=wI (n:=(lN env:Int)-1-j-1);simp;apply gM<;>intro h
 .have hj:j<lN env:=oI h;have _x:j<lN env.reverse:=uM hj;rw[aF _x,fi,getElem_reverse]at h2;let⟨k,hk⟩:=oJ (lN env-1-j);have hkl:k<lN env:=oM;have hki:(lN env:Int)-1-j=(k:Int):=oM;simp only[hk]at h2;rw[hki]at hw;let⟨v,hv⟩:=oJ (env[k]);have hg:env[lN env-1-j]?=sS v:=by rw[hk,aA hkl,hv]
  have hg2:env[k]?=sS v:=by rw[aA hkl,hv]
  have hjl:(j:Int)<=(lN env:Int)-1:=oM;rw[hv]at h2;simp[hki,hg,hg2,hjl,hk];by_cases q:v.1=x
  .rw[aC (uM q)]at h2;rw[<-h2]at hR;have hR:(if(j:Int)<0 then -1 else(lN env:Int)-1-j)=R:=hR;rw[aB oM]at hR;simp[q];omega
  .rw[aB (uM q)]at h2;simp[q];apply fE (j+1) [] ⟨oM,h2⟩ oM;simp[hw];omega
 .have hj:j=lN env:=oI h;subst hj;rw[bR oC,fi]at h2;rw[<-h2]at hR;simp at hR;simp[hR]
@[simp] theorem P?.enc_g3(d:P?)(h:3<lN d.enc):d.enc[3]=.str d.param:=rfl
@[simp] theorem P?.enc_g4(d:P?)(h:4<lN d.enc):d.enc[4]=.sl oK 4 (d.types.map f_.enc):=rfl
structure Es (d:P?):Prop where
 types:lN d.types=2
 vars:lN d.vars<=1000000
structure ik (L:f?) (e:iO):Prop where
 m0:0<=e.module
 m1:e.module<lN L.u_
 d0:0<=e.decl
 d1:e.decl<(L.u_.getD e.module.toNat pO).T_.length
structure nI (L:f?):Prop where
 few:lN L.u_<=16
 a_:lN L.a_=lN L.u_
 scopes:lN L.scopes=lN L.u_
 T_:∀m,m∈L.u_->∀d,d∈m.T_->Es d
 ents:∀sc,sc∈L.scopes->∀e,e∈sc->ik L e
def Ib{L:f?}(hL:nI L){m k:Int}(h:ik L ⟨bs [],m,k⟩):∃(mn kn:Nat) (M:X?),m=mn/\k=kn/\L.u_[mn]?=sS M/\M.T_[kn]?=sS (xO L m k)/\Es (xO L m k):=by
 let⟨a1,a2,a3,a4⟩:=h;simp only at a1 a2 a3 a4;let⟨g1,g2⟩:=getD_in L.u_ pO (z:=m) (n:=lN L.u_) rfl a1 a2;let⟨g3,g4⟩:=getD_in (L.u_.getD m.toNat pO).T_ En (z:=k) rfl a3 a4;exact⟨m.toNat,k.toNat,_,oM,oM,g1,g3,hL.T_ _ g2 _ g4⟩
def Rz{l:oL}(h:lN l=2):∃a b,l=[a,b]:=by
 match l,h with
 |[a,b],_=>exact⟨a,b,rfl⟩
section
variable (L:f?)
def zJC(hL:nI L)(e:iO)(he:ik L ⟨bs [],e.module,e.decl⟩)(l:oL)(hl:lN l<=1000000)(s:CS):
  q_ Pg 188 [.c (.ptr 0 0),.ag (e.enc.map .d),.c (.d (.sl oK 4 (l.map f_.enc)))] (uL L s) (.a? [.ag ((vg L e l).1.enc.map .d),.c (.d (.bool (vg L e l).2))]) (uL L s):=by
 refine zs7 kW λts _e ok hb c hN hp=>?_;obtain⟨t,u,v,w,x,y,rfl⟩:=lM _e;let⟨mn,kn,M,e1,e2,g1,g2,hd⟩:=Ib hL he;unfold vg;simp only;generalize xO L e.module e.decl=d at*
 let⟨ta,tb,_J⟩:=Rz hd.types;have e3:d.types.getD 0 C_=ta:=by rw[_J];try rfl
 have e4:d.types.getD 1 C_=tb:=by rw[_J];try rfl
 rw[e3,e4];have hv:=zA3 d hd.vars;have r1:=Rv (d.vars.map (·.1)) l hl ta;have r2:=Rv (d.vars.map (·.1)) l hl tb;generalize uG ta (d.vars.map (·.1)) l=a at*
 generalize uG tb (d.vars.map (·.1)) l=b at*
 have hn:h_ Pg 94 [.agg [.int .i64 6,.str (bs []),.sl tT 1 [],.sl tT 4 [a.1.enc,b.1.enc]]] (.a? [.agg (kz (jO a.1 b.1)).1.enc,.one (.int .i64 (kz (jO a.1 b.1)).2)]):=h_.K_ (GL (jO a.1 b.1)) (by simp[jO,vz,DV.R_,DV.K_,D.W_,D.K_,D.O_,encS]);generalize kz (jO a.1 b.1)=r at*
 unfold Zh;simp[e1,e2,g1,g2];refine oG ?_;refine gQ hv ?_;simp[_J];refine gN [] r1 ?_;simp[_J];refine gN [] r2 ?_;simp;refine gQ hn ?_;by_cases q1:a.2=0
 .by_cases q2:b.2=0
  .by_cases q3:r.2=0
   .simp[q1,q2,q3];exact fH [0,1,2,3,4,5] qG (by simp[q1,q2,q3,AV.R_,AV.K_])
   .simp[q1,q2,q3];exact fH [0,1,2,3,4,5] qG (by simp[q1,q2,q3,AV.R_,AV.K_])
  .simp[q1,q2];exact fH [0,1,2,3,4,5] qG (by simp[q1,q2,AV.R_,AV.K_])
 .simp[q1];exact fH [0,1,2,3,4,5] qG (by simp[q1,AV.R_,AV.K_])
end
end Go.Gr
namespace Go.Gr
open Go.Abs Go.Proofs
variable {b c:Nat}{s:CS}{env:Env}{l:List jc}
structure jy (L:f?) (s:CS) (b:Nat):Prop where
 V_:lN s.V_<=1000000
 sites:lN s.sites+b<=1000000000
 n?:lN s.n?<=256
 m0:0<=s.module
 m1:s.module<lN L.u_
 few:lN s.v_<=1000/\lN s.bad<=1000
 ist:∀x,x∈s.n?->ik L ⟨bs [],x.module,x.decl⟩/\lN x.types<=1000000
structure vF (env:Env) (b:Nat):Prop where
 len:lN env+b<=1000000
 wf:∀v,v∈env->iU v.2
def yU{L:f?}(h:jy L s b)(ln cl e:Int):jy L (jw ln cl e s) b:=by
 unfold jw;split
 .exact⟨h.V_,h.sites,h.n?,h.m0,h.m1,h.few,h.ist⟩
 .exact h
def jy.less{L:f?}(h:jy L s b)(k:c<=b):jy L s c:=⟨h.V_,by have:=h.sites;omega,h.n?,h.m0,h.m1,h.few,h.ist⟩
def vF.less(h:vF env b)(k:c<=b):vF env c:=⟨by have:=h.len;omega,h.wf⟩
def vF.more(h:vF env (b+1))(x:fD){t:f_}(ht:iU t):vF (env++[(x,t)]) b:=⟨by have:=h.len;simp;omega,λv hv=>by
 rcases aL.1 hv with hv|hv
 .exact h.wf v hv
 .simp at hv;subst hv;exact ht⟩
def zzf(t:f_)(vs:oN)(w:oL):iU (uG t vs w).1:=by
 unfold uG;split
 .exact uf
 split
 .exact uf
 split
 .exact KD _
 .exact uf
def yx{L:f?}(h:jy L s b)(t:f_)(ln cl:Int):jy L (ig t ln cl s).2 b/\iU (ig t ln cl s).1:=by
 refine⟨?_,zzf _ _ _⟩;unfold ig;simp only;split
 .exact yU h _ _ _
 .exact h
def KU{L:f?}(h:jy L s b)(t:f_)(ln cl:Int):jy L (qh t ln cl s).2 b/\iU (qh t ln cl s).1:=by
 refine⟨?_,KD _⟩;unfold qh;simp only;split
 .exact yU h _ _ _
 .exact h
def Ic{L:f?}(h:jy L s (b+1))(z:n_)(t u:f_)(ln cl:Int):jy L (lD z t u ln cl s).2 b:=by
 unfold lD;split
 .exact h.less oM
 .exact⟨h.V_,by have:=h.sites;simp;omega,h.n?,h.m0,h.m1,h.few,h.ist⟩
def AL{L:f?}(h:jy L s (b+1))(z:n_)(t u:f_)(ln cl:Int):jy L (jq z t u ln cl s).2 b:=by
 unfold jq;split
 .exact h.less oM
 split
 .exact h.less oM
 split
 .exact Ic h _ _ _ _ _
 .exact yU (h.less oM) _ _ _
def NG(h:lN l<=256)(x:jc):(jf 256 l x).2.length<=256:=by
 unfold jf;split
 .exact h
 split
 .exact h
 split
 .exact h
 .simp;omega
def SA{m:Int}{x y:jc}(h:y∈(jf m l x).2):y∈l\/y=x:=by
 unfold jf at h;split at h
 .exact .inl h
 split at h
 .exact .inl h
 split at h
 .exact .inl h
 .rcases aL.1 h with h|h
  .exact .inl h
  .exact .inr (uM h)
def zrV{L:f?}(h:jy L s b)(ln cl:Int)(e:iO)(l:oL)(he:ik L ⟨bs [],e.module,e.decl⟩)(hl:lN l<=1000000):jy L (vk L ln cl e l s).2 b/\iU (vk L ln cl e l s).1.2:=by
 unfold vk;by_cases q:(vg L e l).2=oK
 .rw[aC q];exact⟨yU h _ _ _,uf⟩
 .rw[aB q];simp only;have h2:jy L {s with n?:=(jf 256 s.n? ⟨e.module,e.decl,l⟩).2} b:=⟨h.V_,h.sites,NG h.n? _,h.m0,h.m1,h.few,λx hx=>by
   rcases SA hx with hx|hx
   .exact h.ist x hx
   .subst hx;exact⟨he,hl⟩⟩
  refine⟨?_,KD _⟩;split
  .exact yU h2 _ _ _
  .exact h2
section
variable (L:f?)
def zrW(hL:nI L)(n:o_)(e:iO)(he:ik L ⟨bs [],e.module,e.decl⟩)(l:oL)(hl:lN l<=1000000)(s:CS)(ht:lN s.n?<=256):
  q_ Pg 157 [.c (.ptr 0 0),.ag (n.enc.map .d),.ag (e.enc.map .d),.c (.d (.sl oK 4 (l.map f_.enc)))] (uL L s) (.a? [.ag ((vk L n.line n.t_ e l s).1.1.enc.map .d),.ag ((vk L n.line n.t_ e l s).1.2.enc.map .d)]) (ND L (vk L n.line n.t_ e l s).2):=by
 refine zys kW λts _e ok hb c hN hp=>?_;obtain⟨t,u,v,w,x,y,rfl⟩:=lM _e;have hs:=zJC L hL e he l hl s;have hf:=yD L n 9 s;have ha:=zEv 256 s.n? oM ⟨e.module,e.decl,l⟩ hl;have _u:=jr 0;unfold vk;generalize vg L e l=g at*
 unfold Zi;simp;refine gN [0,1,2,3,4,5] hs ?_;by_cases g0:g.2=oK
 .rw[aC g0];simp[g0];refine gN [0,1,2,3,4,5] hf ?_;simp;refine gQ _u ?_;simp;exact fH qH qG (by simp[noC,cN,Bn,yR,mG,encI,encS,AV.R_,AV.K_])
 .rw[aB g0];simp only;generalize hr:jf 256 s.n? ⟨e.module,e.decl,l⟩=r at*
  have hf2:=yD L n r.1.2 {s with n?:=r.2};rw[Bool.not_eq_false]at g0;simp[g0];refine gP [1,5] ha (by simp[jc.enc]) ?_;by_cases r0:r.1.2=0
  .rw[aB (by simp[r0])];simp[r0];refine⟨oD,oD,?_⟩;exact fH [0,1,2,9,4,11,3,15] qG (by simp[cN,Bn,encI,encS,AV.R_,AV.K_])
  .rw[aC r0];simp[r0];refine oG ?_;refine gN [0,1,2,3,4,15] hf2 ?_;simp;refine oG ?_;exact fH [0,1,2,9,4,11,3,15] qG (by simp[cN,Bn,encI,encS,AV.R_,AV.K_])
end
mutual
def P_:o_->Nat
|.mk _ _ _ _ _ _ _ l=>e? l+1
def e?:List o_->Nat
|[]=>0
|n::l=>P_ n+e? l
end
def rf(n:o_):P_ n=e? n.b_+1:=by cases n;rw[P_];try rfl
abbrev KV(c:n_)(t:f_):AV:=.a? [.ag (c.enc.map .d),.ag (t.enc.map .d)]
abbrev zKs(n:o_)(env:Env):oo:=[.c (.ptr 0 0),.ag (n.enc.map .d),.c (.d (.sl oK 5 (env.map p?)))]
section
variable (L:f?)
def H?(f:FuncId)(n:o_)(i:Inf):Prop:=∀env s b,vF env (P_ n)->jy L s (8*P_ n+b)->q_ Pg f (zKs n env) (uL L s) (KV (i env s).1.1 (i env s).1.2) (ND L (i env s).2)
def iP(n:o_)(i:Inf):Prop:=∀env s b,vF env (P_ n)->jy L s (8*P_ n+b)->jy L (i env s).2 b/\iU (i env s).1.2
abbrev ug(n:o_)(i:Inf):Prop:=H? L 68 n i/\iP L n i
def zLr(n a b:o_)(hk:n.b_=[a,b])(ia ib:Inf)(ha:iP L a ia)(hb:iP L b ib):iP L n (qi n a ia ib):=λenv s k he hs=>by
 have hn:P_ n=P_ a+P_ b+1:=by rw[rf,hk];simp[e?]
 have h1:=ha env s (1+8*P_ b+k) (he.less oM) (hs.less oM);unfold qi;simp only;by_cases q:0<lN n.types/\(ia env s).2.e=0
 .rw[aC q];have h2:=yx h1.1 (n.types.getD 0 C_) n.line n.t_;have h3:=AL (b:=8*P_ b+k) (h2.1.less oM) (ia env s).1.1 (ia env s).1.2 (ig (n.types.getD 0 C_) n.line n.t_ (ia env s).2).1 a.line a.t_;exact hb _ _ k ((he.less (c:=P_ b+1) oM).more _ h2.2) h3
 .rw[aB q];exact hb _ _ k ((he.less (c:=P_ b+1) oM).more _ h1.2) (h1.1.less oM)
def zJe(n a b:o_)(hk:n.b_=[a,b])(ia ib:Inf)(ha:ug L a ia)(hb:ug L b ib):H? L 100 n (qi n a ia ib):=λenv s k he hs=>by
 refine zE9 kW λts _e ok hbk c hN hp=>?_;obtain⟨t,u,v,w,x,y,rfl⟩:=lM _e;have hn:P_ n=P_ a+P_ b+1:=by rw[rf,hk];simp[e?]
 have m1:=ha.1 env s (1+8*P_ b+k) (he.less oM) (hs.less oM);have p1:=ha.2 env s (1+8*P_ b+k) (he.less oM) (hs.less oM);unfold qi;simp only;generalize ia env s=r1 at*
 have hel:=he.len;unfold Zl;simp[hk];refine gN [0,1,2,3,4,5] m1 ?_;by_cases q:0<lN n.types/\r1.2.e=0
 .rw[aC q];let⟨q1,q2⟩:=q;have q1':(0:Int)<lN n.types:=oM;let⟨ta,tr,_J⟩:∃ta tr,n.types=ta::tr:=by
   match h:n.types,q1 with
   |ta::tr,_=>exact⟨ta,tr,rfl⟩
  have e3:n.types.getD 0 C_=ta:=by rw[_J];try rfl
  rw[e3];have m2:=GY L ta n.line n.t_ r1.2 p1.1.V_;have p2:=yx p1.1 ta n.line n.t_;generalize ig ta n.line n.t_ r1.2=r2 at*
  have m3:=Bo L r1.1.1 r1.1.2 r2.1 a r2.2 (by have:=p2.1.sites;omega);have p3:=AL (b:=8*P_ b+k) (p2.1.less oM) r1.1.1 r1.1.2 r2.1 a.line a.t_;generalize jq r1.1.1 r1.1.2 r2.1 a.line a.t_ r2.2=r3 at*
  have hwi:=Rx env oM n.text r2.1;have m4:=hb.1 (env++[(n.text,r2.1)]) r3.2 k ((he.less (c:=P_ b+1) oM).more _ p2.2) p3;simp only;generalize ib (env++[(n.text,r2.1)]) r3.2=r4 at*
  simp[q1,q1',q2];simp[_J];refine gP qJ m2 (by simp[q2]) ?_;simp[hk];refine oG ?_;refine gN qJ m3 ?_;simp[hk];refine oG ?_;refine gQ hwi ?_;simp;refine gN [0,1,2,19,4,15] m4 ?_;simp;refine⟨oD,oD,?_⟩;exact fH [0,1,2,9,4,11,20,21] qG (by simp[cK,Bn,encI,encS,AV.R_,AV.K_])
 .rw[aB q];have hwi:=Rx env oM n.text r1.1.2;have m4:=hb.1 (env++[(n.text,r1.1.2)]) r1.2 k ((he.less (c:=P_ b+1) oM).more _ p1.2) (p1.1.less oM);generalize ib (env++[(n.text,r1.1.2)]) r1.2=r4 at*
  by_cases q1:0<lN n.types
  .have q2:¬r1.2.e=0:=λz=>q ⟨q1,z⟩;have q1':(0:Int)<lN n.types:=oM;simp[q1,q1',q2,hk];refine gQ hwi ?_;simp;refine gN qJ m4 ?_;simp;refine⟨oD,oD,?_⟩;exact fH qK qG (by simp[cK,Bn,encI,encS,AV.R_,AV.K_])
  .have q1':¬(0:Int)<lN n.types:=oM;simp[q1,q1',hk];refine gQ hwi ?_;simp;refine gN qJ m4 ?_;simp;refine⟨oD,oD,?_⟩;exact fH qK qG (by simp[cK,Bn,encI,encS,AV.R_,AV.K_])
end
end Go.Gr
namespace Go.Abs
def q_.K_{P:Program}{f:FuncId}{args args':oo}{bs:oV}{v:AV}{_d:oV}(hp:q_ P f args' bs v _d)(e:AV.R_ args=args'):q_ P f args bs v _d:=by
 subst e;exact⟨hp.1,hp.2.1,hp.2.2.1,hp.2.2.2.1,hp.2.2.2.2.1,λh ρ w us H hG hS r=>hp.2.2.2.2.2 h ρ w us H hG hS (iC.R_ r)⟩
end Go.Abs
namespace Go.Gr
open Go.Abs Go.Proofs
@[simp] theorem AV.erd_ag(l:oQ):AV.K_ (.ag (l.map .d))=.ag ((D.W_ l).map .d):=by
 induction l with
 |nil=>rfl
 |cons x l ih=>
  simp only[AV.K_,AV.ag.injEq,List.map_cons,D.W_,dP]at ih⊢;rw[eQ];exact⟨rfl,ih⟩
attribute [simp] f_.erdLL
section
variable (L:f?)
def G5(n:o_)(i:Inf)(hi:iP L n i)(t0:f_)(env:Env)(s:CS)(k:Nat)(he:vF env (P_ n))(hs:jy L s (8*P_ n+1+k)):jy L (mF n i t0 env s).2 k:=by
 have h1:=hi env s (1+k) (he.less oM) (hs.less oM);unfold mF;exact AL (h1.1.less oM) _ _ _ _ _
def Cq(n:o_)(i:Inf)(hi:ug L n i)(t0:f_)(env:Env)(s:CS)(k:Nat)(he:vF env (P_ n))(hs:jy L s (8*P_ n+1+k)):
  q_ Pg 162 [.c (.ptr 0 0),.ag (n.enc.map .d),.c (.d (.sl oK 5 (env.map p?))),.ag (t0.enc.map .d)] (uL L s) (.ag ((mF n i t0 env s).1.enc.map .d)) (ND L (mF n i t0 env s).2):=by
 refine zCK kW λts _e ok hbk c hN hp=>?_;obtain⟨t,u,v,w,x,y,rfl⟩:=lM _e;have m1:=hi.1 env s (1+k) (he.less oM) (hs.less oM);have p1:=hi.2 env s (1+k) (he.less oM) (hs.less oM);unfold mF;simp only;generalize i env s=r1 at*
 have m2:=Bo L r1.1.1 r1.1.2 t0 n r1.2 (by have:=p1.1.sites;omega);generalize jq r1.1.1 r1.1.2 t0 n.line n.t_ r1.2=r2 at*
 simp[Zx];apply gN [0,1,2,3,4,5] m1;simp;apply gN [0,1,2,13,4,14] m2;simp;exact fI [0,1,2,9,4,11,17,14] qG
def SB(n a:o_)(hk:n.b_=[a])(ia:Inf)(ha:iP L a ia):iP L n (zw n a ia):=λenv s k he hs=>by
 have hn:P_ n=P_ a+1:=by rw[rf,hk];simp[e?]
 have h1:=yx (b:=8*P_ a+1+k) (hs.less oM) (n.types.getD 0 C_) n.line n.t_;unfold zw;simp only;have h2:jy L (if 1<lN n.types/\(ig (n.types.getD 0 C_) n.line n.t_ s).2.e=0 then ig (n.types.getD 1 C_) n.line n.t_ (ig (n.types.getD 0 C_) n.line n.t_ s).2 else(C_,(ig (n.types.getD 0 C_) n.line n.t_ s).2)).2 (8*P_ a+1+k):=by
  split
  .exact(yx h1.1 _ _ _).1
  .exact h1.1
 generalize (if 1<lN n.types/\(ig (n.types.getD 0 C_) n.line n.t_ s).2.e=0 then ig (n.types.getD 1 C_) n.line n.t_ (ig (n.types.getD 0 C_) n.line n.t_ s).2 else(C_,(ig (n.types.getD 0 C_) n.line n.t_ s).2))=q at*
 have h3:=ha (env++[(n.text,(ig (n.types.getD 0 C_) n.line n.t_ s).1)]) q.2 (1+k) ((he.less (c:=P_ a+1) oM).more _ h1.2) (h2.less oM);refine(KU ?_ _ _ _);split
 .exact AL (h3.1.less oM) _ _ _ _ _
 .exact h3.1.less oM
def zKv(n a:o_)(hk:n.b_=[a])(hty0:1<=lN n.types)(ia:Inf)(ha:ug L a ia):H? L 101 n (zw n a ia):=λenv s k he hs=>by
 refine zHv kW λts _e ok hbk c hN hp=>?_;obtain⟨t,u,v,w,x,y,rfl⟩:=lM _e;have hn:P_ n=P_ a+1:=by rw[rf,hk];simp[e?]
 have hel:=he.len;have _u:=jr 0;let⟨ta,tr,_J⟩:∃ta tr,n.types=ta::tr:=by
  match h:n.types,hty0 with
  |ta::tr,_=>exact⟨ta,tr,rfl⟩
 have e3:n.types.getD 0 C_=ta:=by rw[_J];try rfl
 unfold zw;simp only;rw[e3];have m1:=GY L ta n.line n.t_ s hs.V_;have p1:=yx (b:=8*P_ a+1+k) (hs.less oM) ta n.line n.t_;generalize ig ta n.line n.t_ s=r1 at*
 have hwi:=Rx env oM n.text r1.1;have heo:vF (env++[(n.text,r1.1)]) (P_ a):=(he.less (c:=P_ a+1) oM).more _ p1.2;unfold Zm;cases tr with
 |nil=>
  have l1:lN n.types=1:=by rw[_J];try rfl
  rw[aB oM,aB oM];have m3:=ha.1 (env++[(n.text,r1.1)]) r1.2 (1+k) heo (p1.1.less oM);simp only;generalize ia (env++[(n.text,r1.1)]) r1.2=r3 at*
  have m4:=q_.K_ (args:=[.c (.ptr 0 0),.ag [.d (.int .i64 6),.d (.str (bs [])),.d (.sl tT 1 []),.d (.sl tT 4 [r1.1.enc,r3.1.2.enc])],.ag (n.enc.map .d)]) (GZ L (jO r1.1 r3.1.2) n r3.2) (by simp[AV.R_,AV.K_,AC.K_,D.K_,D.W_,D.O_,jO,vz,mG,yR,encS]);generalize qh (jO r1.1 r3.1.2) n.line n.t_ r3.2=r4 at*
  simp[_J];refine gN [0,1,2,3,4,5] m1 ?_;simp;refine oG ?_;refine gQ _u ?_;simp[_J,hk];refine gQ hwi ?_;simp;refine gN [0,1,2,3,4,5] m3 ?_;simp[_J];refine oG ?_;refine gN [0,1,2,16,4,17] m4 ?_;simp;refine oG ?_;exact fI [0,1,2,9,4,11,16,17] qG
 | cons tb tr=>
  have l1:1<lN n.types:=by rw[_J];simp
  have l1':(1:Int)<(lN tr:Int)+1+1:=oM;have e4:n.types.getD 1 C_=tb:=by rw[_J];try rfl
  rw[e4,aC l1];by_cases q2:r1.2.e=0
  .rw[aC ⟨l1,q2⟩];have m2:=GY L tb n.line n.t_ r1.2 p1.1.V_;have p2:=yx p1.1 tb n.line n.t_;generalize ig tb n.line n.t_ r1.2=r2 at*
   have m3:=ha.1 (env++[(n.text,r1.1)]) r2.2 (1+k) heo (p2.1.less oM);have p3:=ha.2 (env++[(n.text,r1.1)]) r2.2 (1+k) heo (p2.1.less oM);generalize ia (env++[(n.text,r1.1)]) r2.2=r3 at*
   have m4:=Bo L r3.1.1 r3.1.2 r2.1 a r3.2 (by have:=p3.1.sites;omega);generalize jq r3.1.1 r3.1.2 r2.1 a.line a.t_ r3.2=r4 at*
   have m5:=q_.K_ (args:=[.c (.ptr 0 0),.ag [.d (.int .i64 6),.d (.str (bs [])),.d (.sl tT 1 []),.d (.sl tT 4 [r1.1.enc,r2.1.enc])],.ag (n.enc.map .d)]) (GZ L (jO r1.1 r2.1) n r4.2) (by simp[AV.R_,AV.K_,AC.K_,D.K_,D.W_,D.O_,jO,vz,mG,yR,encS]);simp only;generalize qh (jO r1.1 r2.1) n.line n.t_ r4.2=r5 at*
   simp[_J];refine gN [0,1,2,3,4,5] m1 ?_;simp;refine oG ?_;refine gQ _u ?_;simp[_J,q2,l1'];refine gP [0,1,2,3,4,5] m2 (by simp[q2]) ?_;simp[hk];refine oG ?_;refine gQ hwi ?_;simp;refine gN [0,1,2,3,4,5] m3 ?_;simp[_J,l1',hk];refine oG ?_;refine gN [0,1,2,16,4,17] m4 ?_;simp;refine oG ?_;refine gN [0,1,2,20,4,17] m5 ?_;simp;refine oG ?_;exact fI [0,1,2,9,4,11,20,17] qG
  .rw[aB (λz=>q2 z.2)];have m3:=ha.1 (env++[(n.text,r1.1)]) r1.2 (1+k) heo (p1.1.less oM);have p3:=ha.2 (env++[(n.text,r1.1)]) r1.2 (1+k) heo (p1.1.less oM);generalize ia (env++[(n.text,r1.1)]) r1.2=r3 at*
   have m4:=q_.K_ (args:=[.c (.ptr 0 0),.ag (r3.1.1.enc.map .d),.ag (r3.1.2.enc.map .d),.ag (C_.enc.map .d),.ag (a.enc.map .d)]) (Bo L r3.1.1 r3.1.2 C_ a r3.2 (by have:=p3.1.sites;omega)) (by simp[AV.R_,AV.K_,AC.K_,D.K_,D.W_,D.O_,jO,vz,mG,yR,encS]);generalize jq r3.1.1 r3.1.2 C_ a.line a.t_ r3.2=r4 at*
   have m5:=q_.K_ (args:=[.c (.ptr 0 0),.ag [.d (.int .i64 6),.d (.str (bs [])),.d (.sl tT 1 []),.d (.sl tT 4 [r1.1.enc,C_.enc])],.ag (n.enc.map .d)]) (GZ L (jO r1.1 C_) n r4.2) (by simp[AV.R_,AV.K_,AC.K_,D.K_,D.W_,D.O_,jO,vz,mG,yR,encS]);simp only;generalize qh (jO r1.1 C_) n.line n.t_ r4.2=r5 at*
   simp[_J];refine gN [0,1,2,3,4,5] m1 ?_;simp;refine oG ?_;refine gQ _u ?_;simp[_J,q2,l1',hk];refine gQ hwi ?_;simp;refine gN [0,1,2,3,4,5] m3 ?_;simp[_J,l1',hk];refine oG ?_;refine gP [0,1,2,16,4,17] m4 (by simp[C_,bT]) ?_;simp;refine oG ?_;refine gP [0,1,2,20,4,17] m5 (by simp[C_,bT]) ?_;simp;refine oG ?_;exact fI [0,1,2,9,4,11,20,17] qG
def SC{L:f?}{b:Nat}(t0:f_)(h0:iU t0)(ln cl:Int)(r:(n_ × f_) × CS)(hs:jy L r.2 (b+1))(ht:iU r.1.2):jy L (jZ t0 ln cl r).2 b/\iU (jZ t0 ln cl r).1.2:=by
 unfold jZ;split
 .exact⟨Ic hs _ _ _ _ _,h0⟩
 .exact⟨hs.less oM,ht⟩
def zKw{a b:f_}(ha:iU a)(hb:iU b):iU (jO a b):=(rP _).2 ⟨rfl,λx hx=>by
 have hx:x∈[a,b]:=hx;simp at hx;rcases hx with rfl|rfl
 .exact ha
 .exact hb,.inr (.inr (.inl ⟨rfl,rfl,rfl⟩))⟩
def zKx(n a b:o_)(hk:n.b_=[a,b])(ia ib:Inf)(ha:iP L a ia)(hb:iP L b ib):iP L n (zx n b ia ib):=λenv s k he hs=>by
 have hn:P_ n=P_ a+P_ b+1:=by rw[rf,hk];simp[e?]
 have h1:=ha env s (2+8*P_ b+k) (he.less oM) (hs.less oM);have h2:=SC (b:=8*P_ b+1+k) (jO C_ C_) (zKw uf uf) n.line n.t_ (ia env s) (h1.1.less oM) h1.2;unfold zx;simp only;generalize jZ (jO C_ C_) n.line n.t_ (ia env s)=r at*
 by_cases q:r.1.2.d_≠6
 .rw[aC q];exact⟨yU (h2.1.less oM) _ _ _,uf⟩
 .rw[aB q];have h3:=hb env r.2 (1+k) (he.less oM) (h2.1.less oM);have hl:=I7 h2.2 oM;exact⟨AL (h3.1.less oM) _ _ _ _ _,Aq h2.2 (Dt hl).1⟩
theorem zHm(n a b:o_)(hk:n.b_=[a,b])(ia ib:Inf)(ha:ug L a ia)(hb:ug L b ib):H? L 102 n (zx n b ia ib):=λenv s k he hs=>by
 refine zCJ kW λts _e ok hbk c hN hp=>?_;obtain⟨t,u,v,w,x,y,rfl⟩:=lM _e;have hn:P_ n=P_ a+P_ b+1:=by rw[rf,hk];simp[e?]
 have _u:=jr 0;have m1:=ha.1 env s (2+8*P_ b+k) (he.less oM) (hs.less oM);have p1:=ha.2 env s (2+8*P_ b+k) (he.less oM) (hs.less oM);unfold zx;simp only;generalize ia env s=r1 at*
 unfold Zn;by_cases t0:r1.1.2.d_=0
 .have e1:jZ (jO C_ C_) n.line n.t_ r1=(((lD r1.1.1 r1.1.2 (jO C_ C_) n.line n.t_ r1.2).1,jO C_ C_),(lD r1.1.1 r1.1.2 (jO C_ C_) n.line n.t_ r1.2).2):=by unfold jZ;rw[aC t0]
  rw[e1];have m2:=q_.K_ (args:=[.c (.ptr 0 0),.ag (r1.1.1.enc.map .d),.ag (r1.1.2.enc.map .d),.ag [.d (.int .i64 6),.d (.str (bs [])),.d (.sl tT 1 []),.d (.sl tT 4 [[.int .i64 0,.str (bs []),.sl tT 1 [],.sl tT 4 []],[.int .i64 0,.str (bs []),.sl tT 1 [],.sl tT 4 []]])],.ag (n.enc.map .d)]) (Ia L r1.1.1 r1.1.2 (jO C_ C_) n r1.2 (by have:=p1.1.sites;omega)) (by simp[AV.R_,AV.K_,AC.K_,D.K_,D.W_,D.O_,jO,vz,mG,yR,encS]);have p2:=Ic (b:=8*P_ b+1+k) (p1.1.less oM) r1.1.1 r1.1.2 (jO C_ C_) n.line n.t_;generalize lD r1.1.1 r1.1.2 (jO C_ C_) n.line n.t_ r1.2=r2 at*
  have m3:=hb.1 env r2.2 (1+k) (he.less oM) (p2.less oM);have p3:=hb.2 env r2.2 (1+k) (he.less oM) (p2.less oM);simp only;generalize ib env r2.2=r3 at*
  have k6:¬(jO C_ C_).d_≠6:=by decide
  rw[aB k6];have kk0:R? (jO C_ C_)=C_:=rfl;have kk1:Q? (jO C_ C_)=C_:=rfl;rw[kk0,kk1];have m4:=q_.K_ (args:=[.c (.ptr 0 0),.ag (r3.1.1.enc.map .d),.ag (r3.1.2.enc.map .d),.ag [.d (.int .i64 0),.d (.str (bs [])),.d (.sl tT 1 []),.d (.sl tT 4 [])],.ag (b.enc.map .d)]) (Bo L r3.1.1 r3.1.2 C_ b r3.2 (by have:=p3.1.sites;omega)) (by simp[AV.R_,AV.K_,AC.K_,D.K_,D.W_,D.O_,jO,vz,mG,yR,encS]);generalize jq r3.1.1 r3.1.2 C_ b.line b.t_ r3.2=r4 at*
  simp[hk];apply gN [0,1,2,3,4,5] m1;simp[t0];apply gN qJ m2;simp[hk];apply gN [0,1,2,19,4,15] m3;simp[hk];apply gN [0,1,2,20,4,21] m4;simp;refine⟨oD,oD,?_⟩;exact fI [0,1,2,9,4,11,24,21] qG
 have e1:jZ (jO C_ C_) n.line n.t_ r1=r1:=by unfold jZ;rw[aB t0]
 rw[e1];by_cases k6:r1.1.2.d_=6;rotate_left
 .rw[aC k6];have m2:=yD L n 16 r1.2;generalize jw n.line n.t_ 16 r1.2=r2 at*
  simp[hk];apply gN [0,1,2,3,4,5] m1;simp[t0,k6];apply gN qJ m2;simp;apply gQ _u;simp;exact fI qI qG
 rw[aB (λz=>z k6)];let⟨ta,tb,_J⟩:=Rz (I7 p1.2 k6);have kk0:R? r1.1.2=ta:=by unfold R?;rw[_J];try rfl
 have kk1:Q? r1.1.2=tb:=by unfold Q?;rw[_J];try rfl
 rw[kk0,kk1];have m3:=hb.1 env r1.2 (1+k) (he.less oM) (p1.1.less oM);have p3:=hb.2 env r1.2 (1+k) (he.less oM) (p1.1.less oM);generalize ib env r1.2=r3 at*
 have m4:=Bo L r3.1.1 r3.1.2 ta b r3.2 (by have:=p3.1.sites;omega);simp only;generalize jq r3.1.1 r3.1.2 ta b.line b.t_ r3.2=r4 at*
 simp[hk];apply gN [0,1,2,3,4,5] m1;simp[t0,k6,hk];apply gN qJ m3;simp[_J,hk];apply gN [0,1,2,18,4,19] m4;simp[_J];refine⟨oD,oD,?_⟩;exact fI [0,1,2,9,4,11,22,19] qG
def zLu(n a:o_)(hk:n.b_=[a])(ia:Inf)(ha:iP L a ia):iP L n (qj n ia):=λenv s k he hs=>by
 have hn:P_ n=P_ a+1:=by rw[rf,hk];simp[e?]
 have h1:=ha env s (1+k) (he.less oM) (hs.less oM);unfold qj;simp only;generalize ia env s=r at*
 have hf:iU (jC r.1.2 n.text).1:=by
  by_cases q:(jC r.1.2 n.text).2=tT
  .exact Aq h1.2 (Mv _ _ _ q)
  .have:(jC r.1.2 n.text).1=C_:=by
    unfold jC at q⊢;generalize r.1.2.a_=ns at*
    generalize r.1.2.b_=ks at*
    clear h1
    induction ns generalizing ks with
    |nil=>rw[vZ];all_goals (intros;contradiction)
    | cons x ns ih=>
     cases ks with
     |nil=>rw[vZ];all_goals (intros;contradiction)
     |cons y ks=>
      rw[vZ]at q⊢;by_cases e:x=n.text
      .rw[aC e]at q;exact absurd rfl q
      .rw[aB e]at q⊢;exact ih ks q
   rw[this];exact uf
 refine⟨?_,hf⟩;have h2:jy L (if r.1.2.d_=0 then lD r.1.1 r.1.2 (.mk 5 (bs []) [n.text] [C_]) n.line n.t_ r.2 else(r.1.1,r.2)).2 k:=by
  split
  .exact Ic (h1.1.less oM) _ _ _ _ _
  .exact h1.1.less oM
 split
 .exact h2
 .exact yU h2 _ _ _
def zJk(n a:o_)(hk:n.b_=[a])(ia:Inf)(ha:ug L a ia):H? L 104 n (qj n ia):=λenv s k he hs=>by
 refine zFa kW λts _e ok hbk c hN hp=>?_;obtain⟨t,u,v,w,x,y,rfl⟩:=lM _e;have hn:P_ n=P_ a+1:=by rw[rf,hk];simp[e?]
 have m1:=ha.1 env s (1+k) (he.less oM) (hs.less oM);have p1:=ha.2 env s (1+k) (he.less oM) (hs.less oM);unfold qj;simp only;generalize ia env s=r1 at*
 have hf:=R6 r1.1.2 n.text (KJ p1.2);generalize hfr:jC r1.1.2 n.text=f at*
 unfold Zt;by_cases t0:r1.1.2.d_=0
 .rw[aC t0,aC (.inr t0)];have m2:=q_.K_ (args:=[.c (.ptr 0 0),.ag (r1.1.1.enc.map .d),.ag (r1.1.2.enc.map .d),.ag [.d (.int .i64 5),.d (.str (bs [])),.d (.sl tT 1 [[.str n.text]]),.d (.sl tT 4 [[.int .i64 0,.str (bs []),.sl tT 1 [],.sl tT 4 []]])],.ag (n.enc.map .d)]) (Ia L r1.1.1 r1.1.2 (.mk 5 (bs []) [n.text] [C_]) n r1.2 (by have:=p1.1.sites;omega)) (by simp[AV.R_,AV.K_,AC.K_,D.K_,D.W_,D.O_,jO,vz,mG,yR,encS]);generalize lD r1.1.1 r1.1.2 (.mk 5 (bs []) [n.text] [C_]) n.line n.t_ r1.2=r2 at*
  simp[hk];refine gN [0,1,2,3,4,5] m1 ?_;simp;refine gQ hf ?_;simp[t0];refine gN qJ m2 ?_;simp;refine oG ?_;exact fI [0,1,2,9,4,11,20,15] qG
 .rw[aB t0];by_cases f2:f.2=tT
  .rw[aC (.inl f2)];simp[hk];refine gN [0,1,2,3,4,5] m1 ?_;simp;refine gQ hf ?_;simp[t0,f2];refine oG ?_;exact fI qI qG
  .rw[aB (by simp[f2,t0])];have m2:=yD L n 17 r1.2;simp only;generalize jw n.line n.t_ 17 r1.2=r2 at*
   simp[hk];refine gN [0,1,2,3,4,5] m1 ?_;simp;refine gQ hf ?_;simp[t0,f2];refine gN qJ m2 ?_;simp;refine oG ?_;exact fI qI qG
end
section
variable (L:f?)
def SE(n a:o_)(hk:n.b_=[a])(ia:Inf)(ha:iP L a ia):iP L n (AA n ia):=λenv s k he hs=>by
 have hn:P_ n=P_ a+1:=by rw[rf,hk];simp[e?]
 have h1:=ha env s (2+k) (he.less oM) (hs.less oM);unfold AA;simp only;generalize ia env s=r at*
 by_cases q1:r.2.e≠0
 .rw[aC q1];exact⟨h1.1.less oM,h1.2⟩
 rw[aB q1];have h2:=yx h1.1 (n.types.getD 0 C_) n.line n.t_;generalize ig (n.types.getD 0 C_) n.line n.t_ r.2=u at*
 by_cases q2:u.2.e≠0\/qg r.1.2 u.1=tT
 .rw[aC q2];exact⟨h2.1.less oM,h2.2⟩
 rw[aB q2];have h3:jy L (if r.1.2.d_≠0 then lD r.1.1 r.1.2 C_ n.line n.t_ u.2 else(r.1.1,u.2)).2 (1+k):=by
  split
  .exact Ic (h2.1.less oM) _ _ _ _ _
  .exact h2.1.less oM
 generalize (if r.1.2.d_≠0 then lD r.1.1 r.1.2 C_ n.line n.t_ u.2 else(r.1.1,u.2))=y at*
 split
 .exact⟨h3.less oM,h2.2⟩
 split
 .exact⟨Ic (h3.less oM) _ _ _ _ _,h2.2⟩
 .exact⟨h3.less oM,h2.2⟩
@[simp] theorem n_.enc_0(c:n_):c.enc[0]?=sS (.int .i64 c.d_):=by rw[c.l_];try rfl
@[simp] theorem n_.enc_1(c:n_):c.enc[1]?=sS (.int .i64 c.n):=by rw[c.l_];try rfl
@[simp] theorem n_.enc_g0(c:n_)(h:0<lN c.enc):c.enc[0]=.int .i64 c.d_:=Co c.enc_0 h
@[simp] theorem n_.enc_g1(c:n_)(h:1<lN c.enc):c.enc[1]=.int .i64 c.n:=Co c.enc_1 h
def zKc(n a:o_)(hk:n.b_=[a])(hty0:1<=lN n.types)(ia:Inf)(ha:ug L a ia):H? L 107 n (AA n ia):=λenv s k he hs=>by
 refine zHw kW λts _e ok hbk c hN hp=>?_;obtain⟨t,u,v,w,x,y,rfl⟩:=lM _e;have hn:P_ n=P_ a+1:=by rw[rf,hk];simp[e?]
 have _u:=jr 0;let⟨ta,tr,_J⟩:∃ta tr,n.types=ta::tr:=by
  match h:n.types,hty0 with
  |ta::tr,_=>exact⟨ta,tr,rfl⟩
 have e3:n.types.getD 0 C_=ta:=by rw[_J];try rfl
 have m1:=ha.1 env s (2+k) (he.less oM) (hs.less oM);have p1:=ha.2 env s (2+k) (he.less oM) (hs.less oM);unfold AA;simp only;rw[e3];generalize ia env s=r1 at*
 unfold Zw;by_cases q1:r1.2.e=0;rotate_left
 .rw[aC q1];simp[hk];refine gN [0,1,2,3,4,5] m1 ?_;simp[q1];refine oG ?_;exact fI qI qG
 rw[aB (by simp[q1])];have m2:=GY L ta n.line n.t_ r1.2 p1.1.V_;have p2:=yx p1.1 ta n.line n.t_;generalize ig ta n.line n.t_ r1.2=r2 at*
 have hsb:=KO r1.1.2 r2.1;by_cases q2:r2.2.e=0;rotate_left
 .rw[aC (.inl q2)];simp[hk];refine gN [0,1,2,3,4,5] m1 ?_;simp[q1,_J];refine gP qJ m2 (by simp[q1]) ?_;simp[q2];refine⟨oD,oD,?_⟩;exact fI qI qG
 by_cases q3:qg r1.1.2 r2.1=tT
 .rw[aC (.inr q3)];simp[hk];refine gN [0,1,2,3,4,5] m1 ?_;simp[q1,_J];refine gP qJ m2 (by simp[q1]) ?_;simp[q2];refine oG ?_;refine gQ hsb ?_;simp[q3];refine oG ?_;exact fH qI qG (by simp[q2,cK,cN,cT,Bn,vz,jO,yR,mG,noC,encI,encS,AV.R_,AV.K_,D.W_,D.K_,D.O_,R?,Q?])
 rw[aB (by simp[q2,q3])];by_cases t0:r1.1.2.d_=0
 .have ty0:(if r1.1.2.d_≠0 then lD r1.1.1 r1.1.2 C_ n.line n.t_ r2.2 else(r1.1.1,r2.2))=(r1.1.1,r2.2):=aB (λz=>z t0);rw[ty0];by_cases u0:r2.1.d_=0
  .rw[aC u0];simp[hk];refine gN [0,1,2,3,4,5] m1 ?_;simp[q1,_J];refine gP qJ m2 (by simp[q1]) ?_;simp[q2];refine oG ?_;refine gQ hsb ?_;simp[q3,t0,u0];refine oG ?_;exact fH qI qG (by simp[q2,cK,cN,cT,Bn,vz,jO,yR,mG,noC,encI,encS,AV.R_,AV.K_,D.W_,D.K_,D.O_,R?,Q?])
  .rw[aB u0,aC t0];have m3:=Ia L r1.1.1 r1.1.2 r2.1 n r2.2 (by have:=p2.1.sites;omega);simp only;generalize lD r1.1.1 r1.1.2 r2.1 n.line n.t_ r2.2=r3 at*
   simp[hk];refine gN [0,1,2,3,4,5] m1 ?_;simp[q1,_J];refine gP qJ m2 (by simp[q1]) ?_;simp[q2];refine oG ?_;refine gQ hsb ?_;simp[q3,t0,u0];refine gP qJ m3 (by simp[q2,t0]) ?_;simp;refine oG ?_;exact fI [0,1,2,9,4,11,20,15] qG
 .have ty0:(if r1.1.2.d_≠0 then lD r1.1.1 r1.1.2 C_ n.line n.t_ r2.2 else(r1.1.1,r2.2))=lD r1.1.1 r1.1.2 C_ n.line n.t_ r2.2:=aC t0;rw[ty0];have m3:=Ia L r1.1.1 r1.1.2 C_ n r2.2 (by have:=p2.1.sites;omega);generalize lD r1.1.1 r1.1.2 C_ n.line n.t_ r2.2=r3 at*
  by_cases u0:r2.1.d_=0
  .rw[aC u0];simp[hk];refine gN [0,1,2,3,4,5] m1 ?_;simp[q1,_J];refine gP qJ m2 (by simp[q1]) ?_;simp[q2];refine oG ?_;refine gQ hsb ?_;simp[q3,t0];refine gQ _u ?_;simp;refine gP qJ m3 (by simp[q2,C_,bT]) ?_;simp[u0];refine⟨oD,oD,?_⟩;exact fI [0,1,2,9,4,11,20,15] qG
  .rw[aB u0,aB t0];simp[hk];refine gN [0,1,2,3,4,5] m1 ?_;simp[q1,_J];refine gP qJ m2 (by simp[q1]) ?_;simp[q2];refine oG ?_;refine gQ hsb ?_;simp[q3,t0];refine gQ _u ?_;simp;refine gP qJ m3 (by simp[q2,C_,bT]) ?_;simp[u0,t0];refine⟨oD,oD,?_⟩;exact fI [0,1,2,9,4,11,20,15] qG
def zLc(n a:o_)(hk:n.b_=[a])(ia:Inf)(ha:iP L a ia):iP L n (ql n a ia):=λenv s k he hs=>by
 have hn:P_ n=P_ a+1:=by rw[rf,hk];simp[e?]
 have h1:=ha env s k (he.less oM) (hs.less oM);have hw:=λt0=>G5 L a ia ha t0 env s k (he.less oM) (hs.less oM);unfold ql;split
 .exact⟨hw _,yS 2 oM oM⟩
 split
 .exact⟨hw _,yS 3 oM oM⟩
 split
 .exact⟨h1.1,yS 2 oM oM⟩
 .exact⟨h1.1,yS 1 oM oM⟩
def zIY(n a:o_)(hk:n.b_=[a])(ia:Inf)(ha:ug L a ia):H? L 109 n (ql n a ia):=λenv s k he hs=>by
 refine zFb kW λts _e ok hbk c hN hp=>?_;obtain⟨t,u,v,w,x,y,rfl⟩:=lM _e;have hn:P_ n=P_ a+1:=by rw[rf,hk];simp[e?]
 unfold ql;unfold zvt;by_cases k15:n.d_=15
 .rw[aC k15];have m1:=Cq L a ia ha (bT 2) env s k (he.less oM) (hs.less oM);simp only;generalize mF a ia (bT 2) env s=r1 at*
  simp[k15,hk];refine gQ (jr 2) ?_;simp;refine gN [0,1,2,3,4,5] m1 ?_;simp;refine oG ?_;refine gQ (jr 2) ?_;simp;refine oG ?_;exact fI qI qG
 rw[aB k15];by_cases k16:n.d_=16
 .rw[aC k16];have m1:=Cq L a ia ha (bT 3) env s k (he.less oM) (hs.less oM);simp only;generalize mF a ia (bT 3) env s=r1 at*
  simp[k16,hk];refine gQ (jr 3) ?_;simp;refine gN [0,1,2,3,4,5] m1 ?_;simp;refine oG ?_;refine gQ (jr 3) ?_;simp;refine oG ?_;exact fI qI qG
 rw[aB k16];have m1:=ha.1 env s k (he.less oM) (hs.less oM);generalize ia env s=r1 at*
 by_cases k12:n.d_=12
 .rw[aC k12];simp[k12,hk];refine gN [0,1,2,3,4,5] m1 ?_;simp;refine gQ (jr 2) ?_;simp;refine oG ?_;exact fI qI qG
 .rw[aB k12];simp[k15,k16,k12,hk];refine gN [0,1,2,3,4,5] m1 ?_;simp;refine gQ (jr 1) ?_;simp;refine oG ?_;exact fI qI qG
end
end Go.Gr
