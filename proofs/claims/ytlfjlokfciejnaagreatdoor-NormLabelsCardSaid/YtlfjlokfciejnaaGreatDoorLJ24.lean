/- Texts of ours, joined and written short by a program of ours. -/
import Derived.Test.YtlfjlokfciejnaaGreatDoorLJ23
import Derived.Test.YtlfjlokfciejnaaGreatDoorLJ16
import Derived.Test.YtlfjlokfciejnaaGreatDoorLJ19
import Derived.Test.YtlfjlokfciejnaaGreatDoorLJ15
set_option maxRecDepth 20000
set_option maxHeartbeats 4000000
set_option linter.unusedVariables false
set_option linter.unusedSimpArgs false
namespace Go.Gr.P
open Go.Abs Go.Proofs List
def nM(i:Nat):gU:=.mk (i+1) (bs []) [] (if i=5 then [qB 0,qB 0]else [])
def rP(t:gU)(i:Nat):Option gU:=(if t.kind=7 then t.kids else [t]).find? λx=>decide (iJ x=i)
def kU(t:gU)(i:Nat):Option gU:=if t.kind=0 then some (nM i)else rP t i
def kd(t:gU)(j:Nat):gU:=t.kids.getD j (qB 0)
def oQ(p:Int):Int:=if p%2=0 then p+1 else p-1
theorem zH8(p:Int):oQ (oQ p)=p:=by unfold oQ;split<;>split<;>omega
def ut(lo op:Bool)(m k:gU):List fF:=if op=true then m.names else if lo=true then k.names else k.names.filter λs=>decide (s∈m.names)
def kidO(t:gU)(s:fF):gU:=(wL false t s).1
def qY(lb:Int)(m k:gU):List (fF × Int):=(k.names.filter λs=> !decide (s∈m.names)).map λs=>(s,lb)
def qC(v:gU->gU->Int->gp)(lo op:Bool)(m k:gU)(p:Int):List (fF × gp):=busy ((ut lo op m k).map λs=>(s,v (kidO m s) (kidO k s) p))
def sO(a b:gU)(p:Int)(i:Nat):Int:=match kU a i,kU b i with
|some _,none=>p
|_,_=>0
def xB(a b:gU)(p:Int):List (fF × Int):=match kU a 4,kU b 4 with
|some m,some k=>qY p m k
|_,_=>[]
def qi(v:gU->gU->Int->gp)(a b:gU)(p:Int):List (fF × gp):=match kU a 4,kU b 4 with
|some m,some k=>qC v (decide (a.kind=0)) (decide (b.kind=0)) m k p
|_,_=>[]
def wN(v:gU->gU->Int->gp)(a b:gU)(p:Int):List gp:=match kU a 5,kU b 5 with
|some m,some k=>mU (v (kd k 0) (kd m 0) (oQ p)) (v (kd m 1) (kd k 1) p)
|_,_=>[]
def kz(a b:gU)(p:Int):List Int:=[sO a b p 0,sO a b p 1,sO a b p 2,sO a b p 3,sO a b p 4,sO a b p 5]
def qZ(v:gU->gU->Int->gp)(a b:gU)(p:Int):gp:=
 if a.kind=0/\b.kind=0 then idC else .mk (kz a b p) (xB a b p) ((qi v a b p).map (·.1)) ((qi v a b p).map (·.2)) (wN v a b p)
def rQ:Nat->gU->gU->Int->gp
|0,_,_,_=>idC
|n+1,a,b,p=>qZ (rQ n) a b p
def nJ(t:gU):Prop:=jK t/\lG t
theorem Py:nJ (qB 0):=⟨zEQ,by rw[KA];exact⟨by simp[qB,gU.kids],λx hx=>by cases hx⟩⟩
theorem Pz{t x:gU}(h:nJ t)(hx:x∈t.kids):nJ x:=⟨((mH t).1 h.1).2.1 x hx,((KA t).1 h.2).2 x hx⟩
theorem zH9{t:gU}(h:nJ t){i:Nat}{k:gU}(hk:rP t i=some k):iJ k=i/\nJ k/\k.kind≠7/\∀x,x∈k.kids->jL x<jL t:=by
 unfold rP at hk;have h1:=find?_some hk;have h2:=eQ hk;simp only[aI]at h1;have h7:k.kind≠7:=λe=>by
  unfold iJ at h1;rw[aC (by omega)]at h1;omega
 split at h2
 ·exact⟨h1,Pz h h2,h7,λx hx=>Nat.lt_trans (wY hx) (wY h2)⟩
 ·rw[aL]at h2;subst h2;exact⟨h1,h,h7,λx hx=>wY hx⟩
theorem zIa{i:Nat}(hi:i<6):iJ (nM i)=i/\nJ (nM i)/\(nM i).kind≠7/\∀x,x∈(nM i).kids->x=qB 0:=by
 have hx:∀x,x∈(nM i).kids->x=qB 0:=λx hx=>by
  simp only[nM,gU.kids]at hx;split at hx<;>simp at hx;exact hx
 refine⟨?_,⟨?_,?_⟩,?_,hx⟩
 ·show(if((i:Int)+1<1\/6<(i:Int)+1)then(-1:Int)else(i:Int)+1-1)=i;rw[aB (by omega)];omega
 ·rw[mH];refine⟨rfl,λx h=>by rw[hx x h];exact zEQ,?_⟩;by_cases h5:i=5
  ·subst h5;exact .inr (.inr (.inl ⟨rfl,rfl,rfl⟩))
  ·by_cases h4:i=4
   ·subst h4;exact .inr (.inl ⟨rfl,rfl,by simp[nM,gU.names]⟩)
   ·refine .inl ⟨?_,?_,rfl,?_⟩
    ·simp only[nM,gU.kind];omega
    ·simp only[nM,gU.kind];omega
    ·simp[nM,gU.kids,h5]
 ·rw[KA];refine⟨?_,λx h=>by rw[hx x h];exact Py.2⟩;simp only[nM,gU.kids];split<;>simp
 ·simp only[nM,gU.kind];omega
theorem CB{t:gU}(h:nJ t){i:Nat}(hi:i<6){k:gU}(hk:kU t i=some k):iJ k=i/\nJ k/\k.kind≠7/\∀x,x∈k.kids->(t.kind=0/\x=qB 0)\/(t.kind≠0/\jL x<jL t):=by
 unfold kU at hk;split at hk
 ·rename_i h0;simp only[ai]at hk;subst hk;obtain⟨a1,a2,a3,a4⟩:=zIa hi;exact⟨a1,a2,a3,λx hx=>.inl ⟨h0,a4 x hx⟩⟩
 ·rename_i h0;obtain⟨a1,a2,a3,a4⟩:=zH9 h hk;exact⟨a1,a2,a3,λx hx=>.inr ⟨h0,a4 x hx⟩⟩
theorem zGY{k:gU}(s:fF):kidO k s∈k.kids\/kidO k s=qB 0:=by
 unfold kidO wL;split
 ·simp only;by_cases q:(fi (λx=>decide (s=x)) 0 k.names).toNat<k.kids.length
  ·rw[aH,aA q];exact .inl (aO q)
  ·rw[aH,aS (by omega)];exact .inr rfl
 ·exact .inr rfl
theorem zIX(k:gU)(j:Nat):kd k j∈k.kids\/kd k j=qB 0:=by
 unfold kd;by_cases q:j<k.kids.length
 ·exact .inl (KC q)
 ·rw[aH,aS (by omega)];exact .inr rfl
theorem zzB{k:gU}(h:nJ k)(s:fF):nJ (kidO k s):=by
 rcases zGY (k:=k) s with q|q
 ·exact Pz h q
 ·rw[q];exact Py
theorem KJ{k:gU}(h:nJ k)(j:Nat):nJ (kd k j):=by
 rcases zIX k j with q|q
 ·exact Pz h q
 ·rw[q];exact Py
theorem BH{k:gU}(h:nJ k):k.names.Pairwise jw/\k.names.length<=k.kids.length/\k.names.length<=200:=by
 have h2:=((KA k).1 h.2).1;rcases((mH k).1 h.1).2.2 with q|q|q|q
 ·rw[q.2.2.1];simp
 ·exact⟨q.2.2,by omega,by omega⟩
 ·rw[q.2.1];simp
 ·rw[q.2.1];simp
theorem zCk{lo op:Bool}{m k:gU}:(ut lo op m k).Sublist m.names\/(ut lo op m k).Sublist k.names:=by
 unfold ut;split
 ·exact .inl (List.Sublist.refl _)
 ·split
  ·exact .inr (List.Sublist.refl _)
  ·exact .inr filter_sublist
theorem zz9{lo op:Bool}{m k:gU}(hm:nJ m)(hk:nJ k):(ut lo op m k).Pairwise jw/\(ut lo op m k).length<=200:=by
 rcases zCk (lo:=lo) (op:=op) (m:=m) (k:=k)with q|q
 ·exact⟨(BH hm).1.sublist q,aj q.length_le (BH hm).2.2⟩
 ·exact⟨(BH hk).1.sublist q,aj q.length_le (BH hk).2.2⟩
theorem zGZ{v:gU->gU->Int->gp}{lo op:Bool}{m k:gU}{p:Int}{x:fF × gp}(h:x∈qC v lo op m k p):x.1∈ut lo op m k/\x.2=v (kidO m x.1) (kidO k x.1) p/\x.2≠idC:=by
 unfold qC busy at h;rw[au,aY]at h;obtain⟨⟨s,hs,rfl⟩,h2⟩:=h;simp only[bE,ER]at h2;exact⟨hs,rfl,h2⟩
theorem KL:∀(n:Nat) (a b:gU) (p:Int) {x:Int},x∈jS (rQ n a b p)->x=0\/x=p\/x=oQ p
|0,_,_,_,x,h=>.inl (Gq h)
| n + 1,a,b,p,x,h=>by
 rw[rQ,qZ]at h;split at h
 ·exact .inl (Gq h)
 ·rw [BG,zz]at h;simp only[aK,gp.tags,gp.needs,gp.fields,gp.fn]at h;rcases h with(h|h)|h|h
  ·have key:∀i,sO a b p i=0\/sO a b p i=p:=λi=>by
    unfold sO;split
    ·exact .inr rfl
    ·exact .inl rfl
   have:∃i,x=sO a b p i:=by
    simp only[kz,aN,bv,dR]at h;rcases h with h|h|h|h|h|h<;>exact⟨_,h⟩
   obtain⟨i,rfl⟩:=this;rcases key i with q|q
   ·exact .inl q
   ·exact .inr (.inl q)
  ·simp only[xB]at h;split at h
   ·unfold qY at h;rw[bn]at h;obtain⟨s,_,rfl⟩:=aY.1 h;exact .inr (.inl rfl)
   ·cases h
  ·obtain⟨c,hc,hx⟩:=yL.1 h;simp only[qi]at hc;split at hc
   ·obtain⟨y,hy,rfl⟩:=aY.1 hc;rw[(zGZ hy).2.1]at hx;exact KL n _ _ _ hx
   ·cases hc
  ·obtain⟨c,hc,hx⟩:=yL.1 h;simp only[wN]at hc;split at hc
   ·unfold mU at hc;split at hc
    ·cases hc
    ·simp only[aN,bv,dR]at hc;rcases hc with rfl|rfl
     ·rcases KL n _ _ _ hx with q|q|q
      ·exact .inl q
      ·exact .inr (.inr q)
      ·exact .inr (.inl (by rw[q,zH8]))
     ·exact KL n _ _ _ hx
   ·cases hc
theorem zBk{α:Type}(q:α->Bool):∀(l:List α) (i:Nat) {j:Nat} (hj:j<l.length),q l[j]=true->(∀j' (h:j'<l.length),j'<j->q l[j']=false)->fi q i l=(i+j:Nat)
|x::l,i,0,_,h,_=>by
 rw[fi,aC (by simpa using h)];try rfl
|x::l,i,j+1,hj,h,hb=>by
 have h0:=hb 0 (by simp) (by omega);simp only[getElem_cons_zero]at h0;rw[fi,aB (by simp[h0]),zBk q l (i+1) (j:=j) (by simpa using hj) (by simpa using h) λj' h' hlt=>by have:=hb (j'+1) (by simpa using h') (by omega);simpa only[getElem_cons_succ]using this];omega
theorem zIY{l:List fF}(hn:l.Nodup){j:Nat}(hj:j<l.length):fi (λx=>decide (l[j]=x)) 0 l=(j:Nat):=by
 have:=zBk (λx=>decide (l[j]=x)) l 0 hj (by simp) λj' h' hlt=>by
  simp only[bV];intro e;exact(bS.1 hn) j' j h' hj hlt e.symm
 simpa using this
theorem zBl{k:gU}(hn:k.names.Nodup){j:Nat}(hj:j<k.names.length)(hj':j<k.kids.length):kidO k k.names[j]=k.kids[j]:=by
 unfold kidO wL;rw[zIY hn hj,aC (by omega)];simp[aH,hj']
theorem QA{l:List fF}{s:fF}:0<=fi (λx=>decide (s=x)) 0 l↔s∈l:=by
 rw[<-decide_eq_true_iff (p:=0<=fi (λx=>decide (s=x)) 0 l),Pi,any_eq_true];constructor
 ·rintro⟨x,hx,e⟩
  simp only[aI]at e;rw[e];exact hx
 ·intro h;exact⟨s,h,by simp⟩
theorem KM{k:gU}{s:fF}(h:s∉k.names):kidO k s=qB 0:=by
 unfold kidO wL;rw[aB (λe=>h (QA.1 e))]
theorem zG0{k:gU}(h:k.names=[])(s:fF):kidO k s=qB 0:=KM (by rw[h];simp)
end Go.Gr.P
namespace Go.Gr.P
open Go.Abs Go.Proofs
theorem zCI{k:gU}(g:nJ k){s:fF}(h:s∈k.names):kidO k s∈k.kids:=by
 have h0:=QA.2 h;have h1:=Pw (λx=>decide (s=x)) k.names 0;have h2:=(BH g).2.1;unfold kidO wL;rw[aC h0];simp only;exact KC (by omega)
end Go.Gr.P
namespace Go.Gr.P
open Go.Abs Go.Proofs List
abbrev uJ(T:List Int):Blk:=.arr 1 ((encI T).map (·.map .d))
theorem zDy(b f:D)(T:List Int)(hT:T.length=6)(l:List (fF × gp))(hn:(l.map (·.1)).Nodup)(hl:l.length<=1073741824):
  MCall Pg 105 [.c (.ptr 0 0),.c (.map 1)] [.box [.msl 1 2 0 6,.d b,.d (.sl true 1 []),.d (.sl true 5 []),.d f],.map (iO l),uJ T] (.tup [])
   [.box [.msl 1 2 0 6,.d b,.msl 1 3 0 (kT l (zco (l.map (·.1)))).length,.msl 5 4 0 (kT l (zco (l.map (·.1)))).length,.d f],.map (iO l),uJ T,
    .arr 1 ((encS ((kT l (zco (l.map (·.1)))).map (·.1))).map (·.map .d)),.arr 5 (((kT l (zco (l.map (·.1)))).map (·.2.enc)).map (·.map .d))]:=by
 refine ZR ⟨by simp,by simp,by simp,by simp,by simp,by simp,by simp[live];exact Jr⟩ λts hts ok hb c hN hp=>?_;obtain⟨t0,t1,t2,rfl⟩:∃t u v,ts=[t,u,v]:=by
  match ts,hts with
  |[t,u,v],_=>exact⟨t,u,v,rfl⟩
 unfold PK;simp;refine fV [.c 0 2,.c 0 3] ?_;simp;refine gQ [1] (zAh l) (by simp;exactλa b h=>rJ h) ?_;simp;refine gQ [1,8] (zxK l hn hl) (by simp;exactλa b h=>rJ h) ?_;simp;have hks:(zco (l.map (·.1))).length<=1073741824:=by simpa[zco]using hl
 have hmem:∀k,k∈zco (l.map (·.1))->k∈l.map (·.1):=λk hk=>JQ.1 hk;generalize zco (l.map (·.1))=ks at*
 refine fQ gz hp EZ [11] (λj:Nat=>j<=ks.length) (λj=>[.c (.d (.int .i64 j))])
  (λj=>[.box [.msl 1 2 0 6,.d b,.msl 1 3 0 (kT l (ks.take j)).length,.msl 5 4 0 (kT l (ks.take j)).length,.d f],.map (iO l),uJ T,.arr 1 ((encS ((kT l (ks.take j)).map (·.1))).map (·.map .d)),.arr 5 (((kT l (ks.take j)).map (·.2.enc)).map (·.map .d)),.pin t0 0,.pin t1 1,.pin t2 2])
  (λj=>ks.length-j) 0 [0,1,2,6,7,3,4,5] (by simp) (by simp[EZ,kT,encS];exactλa b h=>rJ h) λj h1=>?_
 unfold PI EZ;simp;apply gN<;>intro h
 ·have hj:j<ks.length:=by simpa using h
  simp[aA hj];obtain⟨i,hi⟩:=Gd (l:=l) 0 (hmem _ (aO hj));simp[hi];refine gT (yK _) ?_;have hs:=X7 (l:=l) hj;have hlen:=X8 l (ks.take j);rw[bN]at hlen;generalize sI l ks[j]=d at hs⊢;simp;apply gN<;>intro h
  ·simp at h;rw[h]at hs;simp at hs;refine⟨by omega,by omega,by decide,?_⟩;refine fG (j+1) [0,1,2,9,10,5,6,7] (by omega) (by omega) ?_;simp[hs];refine⟨wI,λa b h=>rJ h,?_,?_⟩
   ·rw[aD (by simp)]<;>simp[encS]
   ·rw[aD (by simp)]
  ·simp at h;rw[h]at hs;simp at hs;refine fG (j+1) [0,1,2,3,4,5,6,7] (by omega) (by omega) ?_;simp[hs];exact⟨wI,λa b h=>rJ h⟩
 ·have hj:j=ks.length:=by simp at h;omega
  subst hj;simp;exact fM [0,1,2,3,4] [5,6,7]
theorem zHU(b s x:D)(T:List Int)(hT:T.length=6)(f g:gp):MCall Pg 99 [.c (.ptr 0 0),.ag (f.enc.map .d),.ag (g.enc.map .d)] [.box [.msl 1 1 0 6,.d b,.d s,.d x,.d (.sl true 5 [])],uJ T] (.tup []) [.box [.msl 1 1 0 6,.d b,.d s,.d x,.d (.sl true 5 ((mU f g).map gp.enc))],uJ T]:=by
 refine ZN mD λts hts ok hb c hN hp=>?_;obtain⟨t,u,rfl⟩:=Fs hts;unfold PE;simp;refine gT (yK f) ?_;simp;apply gN<;>intro h2
 ·simp at h2;refine gT (yK g) ?_;simp;apply gN<;>intro h3
  ·simp at h3;exact fO [0,1] [2,3] (by simp[mU,h2,h3])
  ·simp at h3;exact fO [0,1] [2,3] (by simp[mU,h2,h3])
 ·simp at h2;exact fO [0,1] [2,3] (by simp[mU,h2])
def nN(v:fF->gp)(ks:List fF):List (fF × gp):=ks.map λs=>(s,v s)
theorem KN(v:fF->gp)(ks:List fF):(nN v ks).map (·.1)=ks:=by simp[nN,Function.comp_def]
theorem QB(v:fF->gp)(a b:List fF):nN v (a++b)=nN v a++nN v b:=by simp[nN]
theorem zCK{v:fF->gp}:∀{ks:List fF} {s:fF},s∈ks->sI (nN v ks) s=v s
| x::ks,s,h=>by
 simp only[nN,map_cons,sI];split
 ·rename_i e;rw[e]
 ·rename_i e;exact zCK (v:=v) ((aN.1 h).resolve_left e)
theorem zGr{v:fF->gp}{ks:List fF}(h:ks.Pairwise jw):kT (nN v ks) (zco ((nN v ks).map (·.1)))=busy (nN v ks):=by
 rw[KN];have e:zco ks=ks:=Xa (Xb (sW h)) h λx=>JQ;rw[e];unfold kT busy;congr 1;exact bf λs hs=>by rw[zCK hs]
theorem QC(a b:List (fF × gp)):iO (a++b)=iO a++iO b:=by simp[iO]
theorem zGs{t:gU}{lb:Int}{d:gp}(h:gY Pg 62 [.agg t.enc,.agg (qB 0).enc,.one (.int .i64 lb)] (.agg d.enc)):gY Pg 62 [.agg t.enc,.agg [.int .i64 0,.str (bs []),.sl true 1 [],.sl true 4 []],.one (.int .i64 lb)] (.agg d.enc):=
 gY.erd h (by simp[DV.erds,DV.erd,gU.erdL,D.erdL,D.erd,D.erdE,qB,gU.enc,gU.encs,encS])
theorem zGt{t:gU}{lb:Int}{d:gp}(h:gY Pg 62 [.agg (qB 0).enc,.agg t.enc,.one (.int .i64 lb)] (.agg d.enc)):gY Pg 62 [.agg [.int .i64 0,.str (bs []),.sl true 1 [],.sl true 4 []],.agg t.enc,.one (.int .i64 lb)] (.agg d.enc):=
 gY.erd h (by simp[DV.erds,DV.erd,gU.erdL,D.erdL,D.erd,D.erdE,qB,gU.enc,gU.encs,encS])
abbrev KO(m k:gU)(lo:Bool)(p:Int):List (Nat × AV):=[(0,.c (.ptr 0 0)),(3,.c (.d (.bool lo))),(5,.c (.d (.int .i64 p))),(7,.c (.d (.rp m.enc 0))),(8,.c (.d (.rp k.enc 0))),(12,.c (.map 4))]
abbrev D5(nd:AC):Blk:=.box [.msl 1 1 0 6,nd,.d (.sl true 1 []),.d (.sl true 5 []),.d (.sl true 5 [])]
theorem QD{c:Ctx}(hp:c.pure)(V:fF->gp)(m k:gU)(hm:nJ m)(lo:Bool)(lb:Int)(T:List Int)(hT:T.length=6)(t0 t1:Nat × Nat)
  (H:∀s,s∈m.names->gY Pg 62 [.agg (kidO m s).enc,.agg (qB 0).enc,.one (.int .i64 lb)] (.agg (V s).enc)) {Q:Exit->St->Prop} {S:St} {g} {ms:List Nat}
  (h0:iM ms S ((23,.c (.d (.int .i64 0)))::(21,.c (.d (.sl false 1 (encS m.names))))::(22,.c (.d (.int .i64 m.names.length)))::KO m k lo lb) [D5 (.d (.sl true 2 [])),uJ T,.pin t0 0,.pin t1 1,.map (iO [])])
  (hQ:∀T',Abs.look T' 0=.c (.ptr 0 0)->Abs.look T' 3=.c (.d (.bool lo))->Abs.look T' 5=.c (.d (.int .i64 lb))->Abs.look T' 7=.c (.d (.rp m.enc 0))->Abs.look T' 8=.c (.d (.rp k.enc 0))->Abs.look T' 12=.c (.map 4)->
   Q (.exit 0) ⟨T',hpOf [D5 (.d (.sl true 2 [])),uJ T,.pin t0 0,.pin t1 1,.map (iO (nN V m.names))],5⟩):mV Pg c Ot Q g S:=by
 have hnm:=BH hm;have hnd:=sW hnm.1
 refine fP gz hp (λj:Nat=>j<=m.names.length) (λj=>(23,.c (.d (.int .i64 j)))::(21,.c (.d (.sl false 1 (encS m.names))))::(22,.c (.d (.int .i64 m.names.length)))::KO m k lo lb)
  (λj=>[D5 (.d (.sl true 2 [])),uJ T,.pin t0 0,.pin t1 1,.map (iO (nN V (m.names.take j)))])
  (λj=>m.names.length-j) 0 ms (by simp) (by simpa[nN]using h0) λj h1=>?_
 unfold Ot;simp;apply gN<;>intro h
 ·have hj:j<m.names.length:=by simpa using h
  have hj':j<m.kids.length:=by omega
  have hc:=H _ (aO hj);rw[zBl hnd hj hj']at hc;simp[aA hj,aA hj'];refine gT (zGs hc) ?_;have hk:m.names[j]∉(nN V (m.names.take j)).map (·.1):=by rw[KN];exact EU hnd hj
  simp[E8 0 hk];refine fG (j+1) [0,1,2,3,4] (by omega) (by omega) ?_;simp;refine⟨wI,?_,λa b h=>rJ h⟩;rw[aJ hj,QB,QC];simp[nN,iO]
 ·have hj:j=m.names.length:=by simp at h;omega
  subst hj;rw[bO];exact hQ _ (by simp) (by simp) (by simp) (by simp) (by simp) (by simp)
def uD(lo:Bool)(m:gU)(ks:List fF):List fF:=ks.filter λs=>lo||decide (s∈m.names)
def mM(m:gU)(ks:List fF):List fF:=ks.filter λs=> !decide (s∈m.names)
theorem Gs{c:Ctx}(hp:c.pure)(V:fF->gp)(m k:gU)(hm:nJ m)(hk:nJ k)(lo:Bool)(hlo:lo=true->m.names=[])(lb:Int)(T:List Int)(hT:T.length=6)(t0 t1:Nat × Nat)(l0:List (fF × gp))(hl0:k.names≠[]->l0=[])
  (H:∀s,s∈uD lo m k.names->gY Pg 62 [.agg (kidO m s).enc,.agg (kidO k s).enc,.one (.int .i64 lb)] (.agg (V s).enc)) {Q:Exit->St->Prop} {S:St} {g} {ms:List Nat}
  (h0:iM ms S ((42,.c (.d (.int .i64 0)))::(40,.c (.d (.sl false 1 (encS k.names))))::(41,.c (.d (.int .i64 k.names.length)))::KO m k lo lb) [D5 (.msl 2 5 0 0),uJ T,.pin t0 0,.pin t1 1,.map (iO l0),.arr 2 []])
  (hQ:∀T',Abs.look T' 0=.c (.ptr 0 0)->Abs.look T' 12=.c (.map 4)->
   Q (.exit 2) ⟨T',hpOf [D5 (.msl 2 5 0 (mM m k.names).length),uJ T,.pin t0 0,.pin t1 1,.map (iO (l0++nN V (uD lo m k.names))),.arr 2 ((iK ((mM m k.names).map λs=>(s,lb))).map (·.map .d))],6⟩):mV Pg c Ou Q g S:=by
 have hnm:=BH hm;have hnk:=BH hk;have hnd:=sW hnk.1
 refine fP gz hp (λj:Nat=>j<=k.names.length) (λj=>(42,.c (.d (.int .i64 j)))::(40,.c (.d (.sl false 1 (encS k.names))))::(41,.c (.d (.int .i64 k.names.length)))::KO m k lo lb)
  (λj=>[D5 (.msl 2 5 0 (mM m (k.names.take j)).length),uJ T,.pin t0 0,.pin t1 1,.map (iO (l0++nN V (uD lo m (k.names.take j)))),.arr 2 ((iK ((mM m (k.names.take j)).map λs=>(s,lb))).map (·.map .d))])
  (λj=>k.names.length-j) 0 ms (by simp) (by simpa[nN,uD,mM,iK]using h0) λj h1=>?_
 unfold Ou;simp;apply gN<;>intro h
 ·have hj:j<k.names.length:=by simpa using h
  have hj':j<k.kids.length:=by omega
  have e0:l0=[]:=hl0 λe=>by rw[e]at hj;simp at hj
  subst e0;have hc:=H k.names[j];rw[zBl hnd hj hj']at hc;have hidx:=zlP m.names k.names[j];have hmem:=QA (l:=m.names) (s:=k.names[j]);have hlt:=Pw (λx=>decide (k.names[j]=x)) m.names 0;have hkid:∀(n:Nat),fi (λx=>decide (k.names[j]=x)) 0 m.names=n->n<m.kids.length->kidO m k.names[j]=m.kids.getD n (qB 0):=λn e hn=>by
   unfold kidO wL;rw[e,aC (by omega)];try rfl
  have hnk:k.names[j]∉(nN V (uD lo m (k.names.take j))).map (·.1):=by
   rw[KN];exactλh=>EU hnd hj (au.1 h).1
  have htk:k.names.take (j+1)=k.names.take j++[k.names[j]]:=aJ hj;have hin:k.names[j]∈uD lo m k.names↔lo=true\/k.names[j]∈m.names:=by
   unfold uD;rw[au];simp[aO hj]
  have hol:(mM m (k.names.take j)).length<=200:=by
   unfold mM;have:=bP (λs=> !decide (s∈m.names)) (k.names.take j);simp only[bN]at this;omega
  simp[aA hj,aA hj'];refine gT hidx ?_;generalize hz:fi (λx=>decide (k.names[j]=x)) 0 m.names=z at*
  by_cases hs:k.names[j]∈m.names
  ·have hz0:=hmem.2 hs;obtain⟨n,rfl⟩:∃n:Nat,z=n:=⟨z.toNat,by omega⟩
   have hn:n<m.kids.length:=by omega
   have hc:=hc (hin.2 (.inr hs));rw[hkid n rfl hn,aH,aA hn]at hc;simp only[Option.getD_some]at hc;have ho:mM m (k.names.take (j+1))=mM m (k.names.take j):=by unfold mM;rw[htk,dJ];simp[hs]
   have hi:uD lo m (k.names.take (j+1))=uD lo m (k.names.take j)++[k.names[j]]:=by unfold uD;rw[htk,dJ];simp[hs]
   have hneg:¬((n:Int)<0):=by omega
   simp[hneg,aA hn,aA hj'];refine gT hc ?_;simp[E8 0 hnk];refine⟨by decide,?_⟩;refine fG (j+1) [0,1,2,3,4,5] (by omega) (by omega) ?_;rw[ho,hi,QB,QC];simp;exact⟨wI,by simp[nN,iO],λa b h=>rJ h,λa b h=>rJ h⟩
  ·have hz0:¬0<=z:=λe=>hs (hmem.1 e);have hneg:z<0:=by omega
   have hge:¬z≥0:=hz0;have ho:mM m (k.names.take (j+1))=mM m (k.names.take j)++[k.names[j]]:=by unfold mM;rw[htk,dJ];simp[hs]
   cases lo with
   |true=>
    have hc:=hc (hin.2 (.inl rfl));rw[KM hs]at hc;have hi:uD true m (k.names.take (j+1))=uD true m (k.names.take j)++[k.names[j]]:=by unfold uD;rw[htk,dJ];simp
    simp[hneg,hge,aA hj'];refine⟨by omega,?_⟩;refine gT (zGt hc) ?_;simp[E8 0 hnk];refine fG (j+1) [0,1,2,3,4,6] (by omega) (by omega) ?_;rw[ho,hi,QB,QC];simp;refine⟨wI,⟨by simp[nN,iO],λa b h=>rJ h,λa b h=>rJ h⟩,?_⟩;rw[aD (by simp[iK])];simp[iK]
   |false=>
    have hi:uD false m (k.names.take (j+1))=uD false m (k.names.take j):=by unfold uD;rw[htk,dJ];simp[hs]
    simp[hneg,hge];refine⟨by omega,?_⟩;refine fG (j+1) [0,1,2,3,4,6] (by omega) (by omega) ?_;rw[ho,hi];simp;refine⟨wI,λa b h=>rJ h,?_⟩;rw[aD (by simp[iK])];simp[iK]
 ·have hj:j=k.names.length:=by simp at h;omega
  subst hj;rw[bO];exact hQ _ (by simp) (by simp)
theorem zET(v:gU->gU->Int->gp)(lo op:Bool)(m k:gU)(p:Int):qC v lo op m k p=busy (nN (λs=>v (kidO m s) (kidO k s) p) (ut lo op m k)):=rfl
theorem zAE{c:Ctx}(V:fF->gp)(m k:gU)(ks:List fF)(hks:ks.Pairwise jw)(hkl:ks.length<=200)(nd:List (fF × Int))(hnd:nd.length<=200)(T:List Int)(hT:T.length=6)(t0 t1:Nat × Nat)(T':List (Nat × AV))(e0:Abs.look T' 0=.c (.ptr 0 0))(e12:Abs.look T' 12=.c (.map 4)):
  w_ Pg c (.fzq (.reg [⟨none,some 95,.mv (.t 0)⟩,⟨none,some 96,.mv (.t 12)⟩,⟨none,some 97,.callM 105 [(.t 95),(.t 96)]⟩]))
   (xI [] (.tup []) [.box [.msl 1 1 0 6,.d (.sl false 2 (iK nd)),.msl 1 2 0 (busy (nN V ks)).length,.msl 5 3 0 (busy (nN V ks)).length,.d (.sl true 5 [])],uJ T,.arr 1 ((encS ((busy (nN V ks)).map (·.1))).map (·.map .d)),.arr 5 (((busy (nN V ks)).map (·.2.enc)).map (·.map .d))] [t0,t1]) ⟨⟩
   ⟨T',hpOf [D5 (.msl 2 5 0 nd.length),uJ T,.pin t0 0,.pin t1 1,.map (iO (nN V ks)),.arr 2 ((iK nd).map (·.map .d))],6⟩:=by
 have hf:=zDy (.sl false 2 (iK nd)) (.sl true 5 []) T hT (nN V ks) (by rw[KN];exact sW hks) (by simp[nN];omega);rw[zGr hks]at hf;have htl:(iK nd).take nd.length=iK nd:=aD (by simp[iK]);simp;refine fU [5] ?_;simp[iZ,e0,e12,htl];refine gQ [0,4,1] hf (by simp;exact⟨λa b h=>rJ h,htl⟩) ?_;simp;exact fM [0,1,6,7] [2,3]
theorem zHV(v:gU->gU->Int->gp)(m k:gU)(hm:nJ m)(hk:nJ k)(lo op:Bool)(hop:op=true->k.names=[])(hlo:lo=true->m.names=[])(lb:Int)(T:List Int)(hT:T.length=6)
  (H:∀s,s∈ut lo op m k->gY Pg 62 [.agg (kidO m s).enc,.agg (kidO k s).enc,.one (.int .i64 lb)] (.agg (v (kidO m s) (kidO k s) lb).enc)):
  MCall Pg 100 [.c (.ptr 0 0),.ag (m.enc.map .d),.ag (k.enc.map .d),.c (.d (.bool lo)),.c (.d (.bool op)),.c (.d (.int .i64 lb))] [.box [.msl 1 1 0 6,.d (.sl true 2 []),.d (.sl true 1 []),.d (.sl true 5 []),.d (.sl true 5 [])],uJ T] (.tup [])
   [.box [.msl 1 1 0 6,.d (.sl false 2 (iK (qY lb m k))),.msl 1 2 0 (qC v lo op m k lb).length,.msl 5 3 0 (qC v lo op m k lb).length,.d (.sl true 5 [])],uJ T,.arr 1 ((encS ((qC v lo op m k lb).map (·.1))).map (·.map .d)),.arr 5 (((qC v lo op m k lb).map (·.2.enc)).map (·.map .d))]:=by
 refine zxk mD λts hts ok hb c hN hp=>?_;obtain⟨t0,t1,rfl⟩:=Fs hts;have hr:=zz9 (lo:=lo) (op:=op) hm hk;have hnk:=BH hk;have hns:qY lb m k=(mM m k.names).map λs=>(s,lb):=rfl;have hol:(mM m k.names).length<=200:=by
  unfold mM;have:=bP (λs=> !decide (s∈m.names)) k.names;omega
 rw[hns,zET];unfold ZH;simp;cases op with
 |true=>
  have hk0:=hop rfl;have hkid:∀s,kidO k s=qB 0:=λs=>zG0 hk0 s;have hkeys:ut lo true m k=m.names:=rfl;have hin:uD lo m k.names=[]:=by rw[hk0];try rfl
  have hou:mM m k.names=[]:=by rw[hk0];try rfl
  rw[hkeys]at H hr⊢;simp;refine QD hp (λs=>v (kidO m s) (kidO k s) lb) m k hm lo lb T hT t0 t1 (λs hs=>by have:=H s hs;rw[hkid s]at this;rw[hkid s];exact this) (ms:=[0,1,2,3,4]) (by simp[iO]) λT' e0 e3 e5 e7 e8 e12=>?_;simp[e0,e3,e5,e7,e8,e12];refine fV [.c 0 1] ?_;simp[e0,e3,e5,e7,e8,e12];refine Gs hp (λs=>v (kidO m s) (kidO k s) lb) m k hm hk lo hlo lb T hT t0 t1 (nN (λs=>v (kidO m s) (kidO k s) lb) m.names) (λe=>absurd hk0 e) (λs hs=>by rw[hin]at hs;cases hs) (ms:=[0,1,2,3,4,5]) (by simp[e0,e3,e5,e7,e8,e12];exactλa b h=>rJ h) λT2 f0 f12=>?_;rw[hin];have e:nN (λs=>v (kidO m s) (kidO k s) lb) m.names++nN (λs=>v (kidO m s) (kidO k s) lb) []=nN (λs=>v (kidO m s) (kidO k s) lb) m.names:=by simp[nN]
  rw[e];have:=zAE (c:=c) (λs=>v (kidO m s) (kidO k s) lb) m k m.names hr.1 hr.2 ((mM m k.names).map λs=>(s,lb)) (by simpa using hol) T hT t0 t1 T2 f0 f12;simpa using this
 | false=>
  have hin:uD lo m k.names=ut lo false m k:=by
   unfold uD ut;cases lo<;>simp
  simp;refine fV [.c 0 1] ?_;simp;refine Gs hp (λs=>v (kidO m s) (kidO k s) lb) m k hm hk lo hlo lb T hT t0 t1 [] (λ_=>rfl) (λs hs=>by rw[hin]at hs;exact H s hs) (ms:=[0,1,2,3,4,5]) (by simp[iO]) λT2 f0 f12=>?_;rw[hin,nil_append];have:=zAE (c:=c) (λs=>v (kidO m s) (kidO k s) lb) m k _ hr.1 hr.2 ((mM m k.names).map λs=>(s,lb)) (by simpa using hol) T hT t0 t1 T2 f0 f12;simpa using this
theorem QE{α:Type}(q:α->Bool):∀(l:List α) (i:Nat),(l.find? q=none/\fi q i l= -1)\/∃(n:Nat) (h:n<l.length),l.find? q=some l[n]/\fi q i l=(i+n:Nat)
|[],i=>.inl ⟨rfl,rfl⟩
| x::l,i=>by
 rw[find?_cons,fi];cases hq:q x with
 |true=>exact .inr ⟨0,by simp,by simp,by simp⟩
 | false=>
  simp only;rcases QE q l (i+1)with⟨h1,h2⟩|⟨n,hn,h1,h2⟩
  ·exact .inl ⟨h1,by simpa using h2⟩
  ·refine .inr ⟨n+1,by simpa using hn,by simpa using h1,?_⟩;simp only[af,if_false,h2];omega
theorem zmh(t:gU)(i:Nat):gY Pg 145 [.agg t.enc,.one (.int .i64 i)] (.tup [.agg ((rP t i).getD (qB 0)).enc,.one (.bool (rP t i).isSome)]):=by
 refine zhC (by simp) λo c hN hp=>?_;have he:(qB 0).enc=[.int .i64 0,.str (bs []),.sl false 1 [],.sl false 4 []]:=rfl;have hi0:¬((i:Int)<0):=by omega
 have hi:=λl=>zmg l 169 [.rp [.int .i64 i] 0] (λx=>decide (iJ x=i)) λx _=>zk5 x i;by_cases h7:t.kind=7
 ·have hm:rP t i=t.kids.find? λx=>decide (iJ x=i):=by unfold rP;rw[aC h7]
  have hi:=hi t.kids;rcases QE (λx=>decide (iJ x=i)) t.kids 0 with⟨h1,h2⟩|⟨n,hn,h1,h2⟩
  ·rw[hm,h1];rw[h2]at hi;unfold Gb;simp[h7];refine gT hi ?_;simp[he]
  ·rw[hm,h1];rw[h2]at hi;have hn0:¬((n:Int)<0):=by omega
   unfold Gb;simp[h7];simp at hi;refine gT hi ?_;simp[hn0,hi0,aA hn]
 ·have hm:rP t i=[t].find? λx=>decide (iJ x=i):=by unfold rP;rw[aB h7]
  have hl:gY Pg 168 [.one (.sl true 4 [t.enc]),.one (.fn (.func 169) [.rp [.int .i64 i] 0])] (.one (.int .i64 (fi (λx=>decide (iJ x=i)) 0 [t]))):=gY.erd (hi [t]) (by simp[DV.erds,DV.erd,D.erd,D.erdE,D.erdL,gU.erdL]);rcases QE (λx=>decide (iJ x=i)) [t] 0 with⟨h1,h2⟩|⟨n,hn,h1,h2⟩
  ·rw[hm,h1];rw[h2]at hl;unfold Gb;simp[h7];refine gT hl ?_;simp[he]
  ·have hn':n=0:=by simpa using hn
   subst hn';rw[hm,h1];rw[h2]at hl;unfold Gb;simp[h7];refine gT hl ?_;simp[hi0]
theorem zH(t:gU)(i:Nat)(h6:i<6):gY Pg 98 [.agg t.enc,.one (.int .i64 i)] (.tup [.agg ((kU t i).getD (qB 0)).enc,.one (.bool (decide (t.kind=0/\i=4))),.one (.bool (kU t i).isSome)]):=by
 by_cases q:t.kind=0
 ·have hw:IntKind.i64.wrap (1+(i:Int))=i+1:=by rw[wI];omega
  have hp:kU t i=some (nM i):=by unfold kU;rw[aC q]
  rw[hp];have h4:decide ((i:Int)=4)=decide (i=4):=by rw[decide_eq_decide];omega
  by_cases q5:i=5
  ·subst q5;refine gY.erdV (v:=.tup [.agg [.int .i64 6,.str (bs []),.sl false 1 [],.sl false 4 [[.int .i64 0,.str (bs []),.sl true 1 [],.sl true 4 []],[.int .i64 0,.str (bs []),.sl true 1 [],.sl true 4 []]]],.one (.bool false),.one (.bool true)]) ?_ (by simp[DV.erd,DV.erds,D.erd,D.erdL,D.erdE,nM,qB,gU.enc,gU.encs,encS]);refine Oq (by simp) λo c hN hp=>?_;unfold Jj;simp;refine gT (DW t) ?_;simp at hw;simp[q,hw]
  ·have hi5:¬((i:Int)=5):=by omega
   have he:(nM i).enc=[.int .i64 (i+1),.str (bs []),.sl false 1 [],.sl false 4 []]:=by simp[nM,q5,gU.enc,gU.encs,encS]
   refine Oq (by simp) λo c hN hp=>?_;unfold Jj;simp;refine gT (DW t) ?_;rw[he];simp[q,hw,hi5,h4]
 ·have hp:kU t i=rP t i:=by unfold kU;rw[aB q]
  rw[hp];refine Oq (by simp) λo c hN hp=>?_;unfold Jj;simp;refine gT (DW t) ?_;simp[q];refine gT (zmh t i) ?_;simp[q]
theorem zhI(n:Nat):((n^^^1:Nat):Int)=oQ n:=by
 have h1:(n^^^1)/2=n/2:=by rw[Nat.xor_div_two];simp
 have h2:(n^^^1)%2=(n+1)%2:=by
  have:=Nat.xor_mod_two_pow (a:=n) (b:=1) (n:=1);simp only[Nat.pow_one]at this;rw[this];have h:n%2=0\/n%2=1:=by omega
  rcases h with h|h<;>rw[h]<;>simp<;>omega
 unfold oQ;split<;>omega
theorem zhJ{lb:Int}(h0:0<=lb)(h1:lb<=9223372036854775807):IntKind.i64.wrap (((lb%2^IntKind.i64.bits).toNat^^^1%2^IntKind.i64.bits:Nat):Int)=oQ lb:=by
 obtain⟨n,rfl⟩:∃n:Nat,lb=n:=⟨lb.toNat,by omega⟩
 have e1:(((n:Int)%2^IntKind.i64.bits).toNat)=n:=by
  show((n:Int)%18446744073709551616).toNat=n;omega
 have e2:1%2^IntKind.i64.bits=1:=rfl;rw[e1,e2,zhI];have h2:oQ (n:Int)<=9223372036854775807/\0<=oQ (n:Int):=by unfold oQ;split<;>omega
 exact wI
theorem zil{lb:Int}(h0:0<=lb)(h1:lb<=9223372036854775807):0<=oQ lb/\oQ lb<=9223372036854775807:=by unfold oQ;split<;>omega
def BI(a b:gU)(i:Nat):Prop:=(kU a i).isSome=true/\(kU b i).isSome=true
instance (a b:gU) (i:Nat):Decidable (BI a b i):=inferInstanceAs (Decidable (_/\_))
def pI(i:Nat)(a b:gU)(j:Nat)(x y:D):D:=if i<j/\BI a b i then x else y
theorem D6{i:Nat}{a b:gU}{j:Nat}(h:j≠i\/¬BI a b i)(x y:D):pI i a b (j+1) x y=pI i a b j x y:=by
 unfold pI;by_cases q:BI a b i
 ·have hj:=h.resolve_right (λn=>n q);by_cases r:i<j
  ·rw[aC ⟨by omega,q⟩,aC ⟨r,q⟩]
  ·rw[aB (λe=>by omega),aB (λe=>by omega)]
 ·rw[aB (λe=>q e.2),aB (λe=>q e.2)]
theorem D7{i:Nat}{a b:gU}{j:Nat}(h:j<=i)(x y:D):pI i a b j x y=y:=by
 unfold pI;rw[aB (λe=>by omega)]
theorem KP{i:Nat}{a b:gU}{j:Nat}(h:i<j)(q:BI a b i)(x y:D):pI i a b j x y=x:=by
 unfold pI;rw[aC ⟨h,q⟩]
section
variable (v:gU->gU->Int->gp) (a b:gU) (lb:Int)
abbrev CE(j:Nat):D:=pI 4 a b j (.sl false 2 (iK (xB a b lb))) (.sl true 2 [])
abbrev CF(j:Nat):D:=pI 4 a b j (.sl false 1 (encS ((qi v a b lb).map (·.1)))) (.sl true 1 [])
abbrev CG(j:Nat):D:=pI 4 a b j (.sl false 5 ((qi v a b lb).map (·.2.enc))) (.sl true 5 [])
abbrev D8(j:Nat):D:=pI 5 a b j (.sl true 5 ((wN v a b lb).map gp.enc)) (.sl true 5 [])
abbrev Gt(j:Nat):Blk:=.box [.msl 1 1 0 6,.d (CE a b lb j),.d (CF v a b lb j),.d (CG v a b lb j),.d (D8 v a b lb j)]
end
theorem zBE(a b:gU)(lb:Int){j:Nat}(h:j<6):(kz a b lb)[j]'(by simpa[kz]using h)=sO a b lb j:=by
 match j,h with
 |0,_|1,_|2,_|3,_|4,_|5,_=>rfl
theorem zHa{L:List Int}(hL:L.length=6){j:Nat}(h:j<6)(h0:L[j]=0):qV L (j+1)=qV L j:=by
 obtain⟨a,b,c,d,e,f,rfl⟩:=six hL
 match j,h with
 |0,_|1,_|2,_|3,_|4,_|5,_=>simp at h0;subst h0;rfl
abbrev Gu(a b:gU)(lb:Int):List (Nat × AV):=[(2,.c (.d (.int .i64 lb))),(3,.c (.d (.rp a.enc 0))),(4,.c (.d (.rp b.enc 0))),(6,.c (.ptr 0 0)),(7,.c (.ptr 2 0))]
theorem zHA{c:Ctx}(hp:c.pure)(v:gU->gU->Int->gp)(a b:gU)(lb:Int)(ga:nJ a)(gb:nJ b)(hne:¬(a.kind=0/\b.kind=0))(l0:0<=lb)(l1:lb<=9223372036854775807)
  (H4:∀m k,kU a 4=some m->kU b 4=some k->∀s,s∈ut (decide (a.kind=0)) (decide (b.kind=0)) m k->gY Pg 62 [.agg (kidO m s).enc,.agg (kidO k s).enc,.one (.int .i64 lb)] (.agg (v (kidO m s) (kidO k s) lb).enc))
  (H5:∀m k,kU a 5=some m->kU b 5=some k->gY Pg 62 [.agg (kd k 0).enc,.agg (kd m 0).enc,.one (.int .i64 (oQ lb))] (.agg (v (kd k 0) (kd m 0) (oQ lb)).enc)/\gY Pg 62 [.agg (kd m 1).enc,.agg (kd k 1).enc,.one (.int .i64 lb)] (.agg (v (kd m 1) (kd k 1) lb).enc))
  {Q:Exit->St->Prop} {S:St} {g}
  (h0:iM [0,1,2] S ((23,.c (.d (.int .i64 0)))::Gu a b lb) [mg,uJ rF,Pv])
  (hQ:∀T,Abs.look T 6=.c (.ptr 0 0)->Abs.look T 7=.c (.ptr 2 0)->Q (.exit 0) ⟨T,hpOf [mg,uJ (kz a b lb),Gt v a b lb 6],3⟩):mV Pg c Om Q g S:=by
 have hL:(kz a b lb).length=6:=rfl
 refine fP gz hp (λj:Nat=>j<=6) (λj=>(23,.c (.d (.int .i64 j)))::Gu a b lb) (λj=>[mg,uJ (qV (kz a b lb) j),Gt v a b lb j]) (λj=>6-j) 0 [0,1,2] (by simp)
  (by simpa[D7,qV,rF]using h0) λj h1=>?_
 unfold Om;simp;apply gN<;>intro h
 ·have hj:j<6:=by simp at h;omega
  have hup:(qV (kz a b lb) j).length=6:=by simp[qV,hL];omega
  have hju:j<(qV (kz a b lb) j).length:=by omega
  have hset:∀x,x=sO a b lb j->(encI (qV (kz a b lb) j)).set j [.int .i64 x]=encI (qV (kz a b lb) (j+1)):=λx e=>by
   rw[e,<-Xq,<-zBE a b lb hj,Xp hL hj]
  have hsame:sO a b lb j=0->qV (kz a b lb) (j+1)=qV (kz a b lb) j:=λe=>zHa hL hj (by rw[zBE a b lb hj,e]);refine gT (zH a j hj) ?_;simp;refine gT (zH b j hj) ?_;simp;cases ha:kU a j with
  |none=>
   have ht:sO a b lb j=0:=by unfold sO;rw[ha]
   have hb:¬BI a b j:=λe=>by have:=e.1;rw[ha]at this;cases this
   have hs4:∀x y,pI 4 a b (j+1) x y=pI 4 a b j x y:=λx y=>D6 (by by_cases q:j=4;exact .inr (q▸hb);exact .inl q) x y;have hs5:∀x y,pI 5 a b (j+1) x y=pI 5 a b j x y:=λx y=>D6 (by by_cases q:j=5;exact .inr (q▸hb);exact .inl q) x y;simp;refine fU [] ?_;simp only[zJ];simp;refine fG (j+1) [0,1,2] (by omega) (by omega) ?_;simp[hsame ht,hs4,hs5];exact wI
  | some m=>
   cases hbk:kU b j with
   |none=>
    have ht:sO a b lb j=lb:=by unfold sO;rw[ha,hbk]
    have hb:¬BI a b j:=λe=>by have:=e.2;rw[hbk]at this;cases this
    have hs4:∀x y,pI 4 a b (j+1) x y=pI 4 a b j x y:=λx y=>D6 (by by_cases q:j=4;exact .inr (q▸hb);exact .inl q) x y;have hs5:∀x y,pI 5 a b (j+1) x y=pI 5 a b j x y:=λx y=>D6 (by by_cases q:j=5;exact .inr (q▸hb);exact .inl q) x y;simp[aA hju];refine⟨by omega,?_⟩;refine fU [] ?_;simp only[zJ];simp;refine fG (j+1) [0,1,2] (by omega) (by omega) ?_;simp[hs4,hs5];refine⟨wI,?_⟩;rw[<-hset lb ht.symm];simp[fE]
   | some k=>
    have ht:sO a b lb j=0:=by unfold sO;rw[ha,hbk]
    have hb:BI a b j:=⟨by rw[ha];rfl,by rw[hbk];rfl⟩
    by_cases j5:j=5
    ·subst j5;obtain⟨tm,gm,nm7,_⟩:=CB ga (by omega) ha;obtain⟨tk,gk,nk7,_⟩:=CB gb (by omega) hbk;have lm:=(Bg gm.1 nm7).2.2 (by omega);have lk:=(Bg gk.1 nk7).2.2 (by omega);have g0:∀{t:gU},t.kids.length=2->t.kids[0]?=some (kd t 0)/\t.kids[1]?=some (kd t 1):=λ{t} hl=>by
      unfold kd
      match t.kids,hl with
      |[a,b],_=>exact⟨rfl,rfl⟩
     obtain⟨m0,m1⟩:=g0 lm;obtain⟨k0,k1⟩:=g0 lk;obtain⟨c0,c1⟩:=H5 m k ha hbk;have hfn:wN v a b lb=mU (v (kd k 0) (kd m 0) (oQ lb)) (v (kd m 1) (kd k 1) lb):=by unfold wN;rw[ha,hbk]
     have hx:=zhJ l0 l1;have e4:∀x y,pI 4 a b 6 x y=pI 4 a b 5 x y:=λx y=>D6 (.inl (by decide)) x y;have f5:D8 v a b lb 5=.sl true 5 []:=D7 (by omega) _ _;have f6:D8 v a b lb 6=.sl true 5 ((mU (v (kd k 0) (kd m 0) (oQ lb)) (v (kd m 1) (kd k 1) lb)).map gp.enc):=by rw[<-hfn];exact KP (by omega) hb _ _
     have g2:CE a b lb 6=CE a b lb 5:=e4 _ _;have g3:CF v a b lb 6=CF v a b lb 5:=e4 _ _;have g4:CG v a b lb 6=CG v a b lb 5:=e4 _ _;have hf:=zHU (CE a b lb 5) (CF v a b lb 5) (CG v a b lb 5) (qV (kz a b lb) 5) hup (v (kd k 0) (kd m 0) (oQ lb)) (v (kd m 1) (kd k 1) lb);clear hfn e4;generalize kd m 0=M0 at*
     generalize kd m 1=M1 at*
     generalize kd k 0=K0 at*
     generalize kd k 1=K1 at*
     simp[m0,m1,k0,k1];rw[hx];refine gT c0 ?_;simp[m0,m1,k0,k1];refine gT c1 ?_;simp;refine gQ [2,1] hf (by simp[f5]) ?_;simp;refine⟨by decide,?_⟩;refine fU [] ?_;simp only[zJ];simp;refine fG 6 [0,1,2] (by omega) (by omega) ?_;simp[hsame ht,f6,g2,g3,g4];exact wI
    ·by_cases j4:j=4
     ·subst j4;obtain⟨tm,gm,nm7,_⟩:=CB ga (by omega) ha;obtain⟨tk,gk,nk7,_⟩:=CB gb (by omega) hbk;have hc:=zHV v m k gm gk (decide (a.kind=0)) (decide (b.kind=0)) (λe=>by
       simp only[aI]at e;unfold kU at hbk;rw[aC e]at hbk
       simp only[ai]at hbk;rw[<-hbk];rfl) (λe=>by
       simp only[aI]at e;unfold kU at ha;rw[aC e]at ha
       simp only[ai]at ha;rw[<-ha];rfl) lb (qV (kz a b lb) 4) hup (H4 m k ha hbk)
      have hnd:xB a b lb=qY lb m k:=by unfold xB;rw[ha,hbk]
      have hfd:qi v a b lb=qC v (decide (a.kind=0)) (decide (b.kind=0)) m k lb:=by unfold qi;rw[ha,hbk]
      rw[<-hnd,<-hfd]at hc;have g4:CE a b lb 4=.sl true 2 []/\CF v a b lb 4=.sl true 1 []/\CG v a b lb 4=.sl true 5 []/\D8 v a b lb 4=.sl true 5 []:=⟨D7 (by omega) _ _,D7 (by omega) _ _,D7 (by omega) _ _,D7 (by omega) _ _⟩
      have g5:CE a b lb 5=.sl false 2 (iK (xB a b lb))/\CF v a b lb 5=.sl false 1 (encS ((qi v a b lb).map (·.1)))/\CG v a b lb 5=.sl false 5 ((qi v a b lb).map (·.2.enc))/\D8 v a b lb 5=.sl true 5 []:=⟨KP (by omega) hb _ _,KP (by omega) hb _ _,KP (by omega) hb _ _,D7 (by omega) _ _⟩
      clear hnd hfd;generalize qi v a b lb=L at*
      generalize xB a b lb=N at*
      have ht1:(encS (L.map (·.1))).take L.length=encS (L.map (·.1)):=aD (by simp);have ht2:(L.map λx=>x.2.enc).take L.length=L.map λx=>x.2.enc:=aD (by simp);simp;refine gQ [2,1] hc (by simp[g4]) ?_;simp;refine fU [5,6] ?_;simp[iZ,ht1,ht2];refine fG 5 [0,1,2] (by omega) (by omega) ?_;simp[hsame ht,g5,iZ,ht1,ht2];exact wI
     ·have j5':¬((j:Int)=5):=by omega
      have j4':¬((j:Int)=4):=by omega
      have hs4:∀x y,pI 4 a b (j+1) x y=pI 4 a b j x y:=λx y=>D6 (.inl j4) x y;have hs5:∀x y,pI 5 a b (j+1) x y=pI 5 a b j x y:=λx y=>D6 (.inl j5) x y;simp[j5',j4'];refine fU [] ?_;simp only[zJ];simp;refine fG (j+1) [0,1,2] (by omega) (by omega) ?_;simp[hsame ht,hs4,hs5];exact wI
 ·have hj:j=6:=by simp at h;omega
  subst hj;have hup:qV (kz a b lb) 6=kz a b lb:=by unfold qV;rw[aD (by omega)];simp
  rw[hup];exact hQ _ (by simp) (by simp)
theorem zHb(v:gU->gU->Int->gp)(a b:gU)(lb:Int)(ga:nJ a)(gb:nJ b)(l0:0<=lb)(l1:lb<=9223372036854775807)
  (H4:¬(a.kind=0/\b.kind=0)->∀m k,kU a 4=some m->kU b 4=some k->∀s,s∈ut (decide (a.kind=0)) (decide (b.kind=0)) m k->gY Pg 62 [.agg (kidO m s).enc,.agg (kidO k s).enc,.one (.int .i64 lb)] (.agg (v (kidO m s) (kidO k s) lb).enc))
  (H5:¬(a.kind=0/\b.kind=0)->∀m k,kU a 5=some m->kU b 5=some k->gY Pg 62 [.agg (kd k 0).enc,.agg (kd m 0).enc,.one (.int .i64 (oQ lb))] (.agg (v (kd k 0) (kd m 0) (oQ lb)).enc)/\gY Pg 62 [.agg (kd m 1).enc,.agg (kd k 1).enc,.one (.int .i64 lb)] (.agg (v (kd m 1) (kd k 1) lb).enc)):
  gY Pg 62 [.agg a.enc,.agg b.enc,.one (.int .i64 lb)] (.agg (qZ v a b lb).enc):=by
 refine zz3 (by simp) λo c hN hp=>?_;by_cases hd:a.kind=0/\b.kind=0
 ·have e:qZ v a b lb=idC:=by unfold qZ;rw[aC hd]
  have hE:idC.enc=[.sl false 1 (encI rF),.sl false 2 [],.sl false 1 [],.sl false 5 [],.sl false 5 []]:=rfl;have htk:(encI rF).take 6=encI rF:=rfl;have hl6:rF.length=6:=rfl;rw[e,hE];unfold Oo;simp;refine gP [] Gc ?_;simp;refine gT (DW a) ?_;simp[hd.1];refine gT (DW b) ?_;simp[hd.2,htk,hl6]
 ·have e:qZ v a b lb=.mk (kz a b lb) (xB a b lb) ((qi v a b lb).map (·.1)) ((qi v a b lb).map (·.2)) (wN v a b lb):=by unfold qZ;rw[aB hd]
  have hE:(qZ v a b lb).enc=[.sl false 1 (encI (kz a b lb)),.sl false 2 (iK (xB a b lb)),.sl false 1 (encS ((qi v a b lb).map (·.1))),.sl false 5 ((qi v a b lb).map (·.2.enc)),.sl false 5 ((wN v a b lb).map gp.enc)]:=by
   rw[e,gp.enc_eq];simp only[gp.tags,gp.needs,gp.names,gp.fields,gp.fn,bn,Function.comp_def]
  have htk:(encI (kz a b lb)).take 6=encI (kz a b lb):=rfl;have hl6:(kz a b lb).length=6:=rfl;have e2:(CE a b lb 6).er=.sl false 2 (iK (xB a b lb)):=by
   unfold CE pI;split
   ·rfl
   ·rename_i q;have:xB a b lb=[]:=by
     unfold xB;cases h1:kU a 4 with
     |none=>rfl
     |some m=>
      cases h2:kU b 4 with
      |none=>rfl
      |some k=>exact absurd ⟨by omega,by rw[h1];rfl,by rw[h2];rfl⟩ q
    rw[this];try rfl
  have e34:BI a b 4\/qi v a b lb=[]:=by
   unfold qi;cases h1:kU a 4 with
   |none=>exact .inr rfl
   |some m=>
    cases h2:kU b 4 with
    |none=>exact .inr rfl
    |some k=>exact .inl ⟨by rw[h1];rfl,by rw[h2];rfl⟩
  have e3:(CF v a b lb 6).er=.sl false 1 (encS ((qi v a b lb).map (·.1))):=by
   unfold CF pI;split
   ·rfl
   ·rename_i q;rw[e34.resolve_left λh=>q ⟨by omega,h⟩];try rfl
  have e4:(CG v a b lb 6).er=.sl false 5 ((qi v a b lb).map (·.2.enc)):=by
   unfold CG pI;split
   ·rfl
   ·rename_i q;rw[e34.resolve_left λh=>q ⟨by omega,h⟩];try rfl
  have e5:(D8 v a b lb 6).er=.sl false 5 ((wN v a b lb).map gp.enc):=by
   unfold D8 pI;split
   ·rfl
   ·rename_i q;have:wN v a b lb=[]:=by
     unfold wN;cases h1:kU a 5 with
     |none=>rfl
     |some m=>
      cases h2:kU b 5 with
      |none=>rfl
      |some k=>exact absurd ⟨by omega,by rw[h1];rfl,by rw[h2];rfl⟩ q
    rw[this];try rfl
  rw[hE];unfold Oo;simp;refine gP [] Gc ?_;simp;refine gT (DW a) ?_;simp;apply gN<;>intro h
  ·refine gT (DW b) ?_;have hm:¬b.kind=0:=λe=>hd ⟨of_decide_eq_true h,e⟩;simp[hm];refine zHA hp v a b lb ga gb hd l0 l1 (H4 hd) (H5 hd) (by simp) λT e6 e7=>?_;simp[e6,e7,htk,hl6,e2,e3,e4,e5]
  ·refine zHA hp v a b lb ga gb hd l0 l1 (H4 hd) (H5 hd) (by simp) λT e6 e7=>?_;simp[e6,e7,htk,hl6,e2,e3,e4,e5]
theorem KQ:∀(n:Nat) (a b:gU) (lb:Int),nJ a->nJ b->jL a+jL b<=n+1->0<=lb->lb<=9223372036854775807->gY Pg 62 [.agg a.enc,.agg b.enc,.one (.int .i64 lb)] (.agg (rQ n a b lb).enc)
|0,a,b,lb,ga,gb,hd,_,_=>by have:=za a;have:=za b;omega
| n +1,a,b,lb,ga,gb,hd,l0,l1=>by
 rw[rQ];have hfl:=zil l0 l1;have ha1:=za a;have hb1:=za b;refine zHb (rQ n) a b lb ga gb l0 l1 (λhne m k h1 h2 s hs=>?_) λhne m k h1 h2=>?_
 ·obtain⟨_,gm,_,dm⟩:=CB ga (by omega) h1;obtain⟨_,gk,_,dk⟩:=CB gb (by omega) h2;have hm:s∈m.names->(a.kind=0/\jL (kidO m s)=1)\/(a.kind≠0/\jL (kidO m s)<jL a):=λh=>(dm _ (zCI gm h)).imp (λq=>⟨q.1,by rw[q.2];rfl⟩) λq=>q;have hk:s∈k.names->(b.kind=0/\jL (kidO k s)=1)\/(b.kind≠0/\jL (kidO k s)<jL b):=λh=>(dk _ (zCI gk h)).imp (λq=>⟨q.1,by rw[q.2];rfl⟩) λq=>q;have am:a.kind=0->jL (kidO m s)=1:=λe=>by
   by_cases q:s∈m.names
   ·rcases hm q with r|r
    ·exact r.2
    ·exact absurd e r.1
   ·rw[KM q];try rfl
  have bk:b.kind=0->jL (kidO k s)=1:=λe=>by
   by_cases q:s∈k.names
   ·rcases hk q with r|r
    ·exact r.2
    ·exact absurd e r.1
   ·rw[KM q];try rfl
  refine KQ n _ _ lb (zzB gm s) (zzB gk s) ?_ l0 l1;unfold ut at hs;split at hs
  ·rename_i e;simp only[aI]at e;have:=bk e;have ha0:a.kind≠0:=λq=>hne ⟨q,e⟩;rcases hm hs with r|r
   ·exact absurd r.1 ha0
   ·omega
  ·rename_i e;simp only[aI]at e;split at hs
   ·rename_i e';simp only[aI]at e';have:=am e';rcases hk hs with r|r
    ·exact absurd r.1 e
    ·omega
   ·rename_i e';simp only[aI]at e';rw[au,aI]at hs;rcases hm hs.2 with r|r
    ·exact absurd r.1 e'
    ·rcases hk hs.1 with r'|r'
     ·exact absurd r'.1 e
     ·omega
 ·obtain⟨tm,gm,nm7,dm⟩:=CB ga (by omega) h1;obtain⟨tk,gk,nk7,dk⟩:=CB gb (by omega) h2;have lm:=(Bg gm.1 nm7).2.2 (by omega);have lk:=(Bg gk.1 nk7).2.2 (by omega);have hm:∀j,j<2->(a.kind=0/\jL (kd m j)=1)\/(a.kind≠0/\jL (kd m j)<jL a):=λj hj=>(dm _ (KC (by omega))).imp (λq=>⟨q.1,by unfold kd;rw[q.2];rfl⟩) λq=>q;have hk:∀j,j<2->(b.kind=0/\jL (kd k j)=1)\/(b.kind≠0/\jL (kd k j)<jL b):=λj hj=>(dk _ (KC (by omega))).imp (λq=>⟨q.1,by unfold kd;rw[q.2];rfl⟩) λq=>q;have hsum:∀i j,i<2->j<2->jL (kd m i)+jL (kd k j)<=n+1:=λi j hi hj=>by
   rcases hm i hi with r|r<;>rcases hk j hj with r'|r'
   ·exact absurd ⟨r.1,r'.1⟩ hne
   ·omega
   ·omega
   ·omega
  refine⟨KQ n _ _ _ (KJ gk 0) (KJ gm 0) ?_ hfl.1 hfl.2,KQ n _ _ _ (KJ gm 1) (KJ gk 1) (hsum 1 1 (by omega) (by omega)) l0 l1⟩;have:=hsum 0 0 (by omega) (by omega);omega
theorem KR:xm.enc=[.sl false 1 [],.sl false 2 [],.sl false 1 [],.sl false 5 [],.sl false 5 []]:=rfl
end Go.Gr.P
namespace Go.Gr.P
open Go.Abs Go.Proofs
def KS(N:Nat)(a b:gU)(lb:Int):gp:=if lb=0\/lb=1\/zy a=false\/zy b=false then xm else rQ N a b lb
theorem zKC(N:Nat)(a b:gU)(lb:Int)(hd:jL a+jL b<=N+1)(l0:0<=lb)(l1:lb<=9223372036854775807):
  gY Pg 36 [.agg a.enc,.agg b.enc,.one (.int .i64 lb)] (.agg (KS N a b lb).enc):=by
 refine zz2 (by simp) λo c hN hp=>?_;unfold ZE KS;by_cases e0:lb=0
 ·rw[aC (.inl e0),KR];simp[e0]
 by_cases e1:lb=1
 ·rw[aC (.inr (.inl e1)),KR];simp[e1]
 simp[e0,e1];refine gT (zzM a) ?_;cases ha:zy a with
 |false=>
  simp[KR]
 | true=>
  simp;refine gT (zzM b) ?_;cases hb:zy b with
  |false=>
   simp[KR]
  |true=>
   simp;refine gT (KQ N a b lb (zBa ha) (zBa hb) hd l0 l1) ?_;simp[e0,e1]
end Go.Gr.P
namespace Go.Gr
open Go.Abs Go.Proofs List
theorem zFJ{α:Type}(q:α->Bool):∀(l:List α) (j:Nat),P.fi q j l= -1\/(j:Int)<=P.fi q j l
|[],j=>.inl rfl
| x::l,j=>by
 rw[P.fi];split
 ·exact .inr (by omega)
 ·rcases zFJ q l (j+1)with h|h
  ·exact .inl h
  ·exact .inr (by omega)
theorem zzS(s:fF):∀(ns:List fF) (ks:List gU) (j:Nat),ns.length<=ks.length->
 (if 0<=P.fi (λx=>decide (s=x)) j ns then ks.getD ((P.fi (λx=>decide (s=x)) j ns).toNat-j) noT else noT)=(oF ns ks s).1/\((oF ns ks s).2=true↔s∈ns)
|[],ks,j,_=>by
 rw[P.fi,aB (by omega),oF]
 ·simp
 ·intros;contradiction
|n::ns,[],j,h=>by simp at h
| n::ns,k::ks,j,h=>by
 have ih:=zzS s ns ks (j+1) (by simpa using h);rw[P.fi,oF];by_cases e:n=s
 ·subst e;simp
 ·have e':¬s=n:=λx=>e x.symm;simp only[e',decide_false,af,if_false,aB e,aN,false_or];refine⟨?_,ih.2⟩;rw[<-ih.1];rcases zFJ (λx=>decide (s=x)) ns (j+1)with q|q
  ·rw[q];simp
  ·have h1:(P.fi (λx=>decide (s=x)) (j+1) ns).toNat-j=((P.fi (λx=>decide (s=x)) (j+1) ns).toNat-(j+1))+1:=by omega
   rw[h1,getD_cons_succ]
theorem zzT{k:gU}(hl:k.names.length<=k.kids.length)(s:fF):P.kidO k s=(kM k s).1/\((kM k s).2=true↔s∈k.names):=by
 have h:=zzS s k.names k.kids 0 hl;refine⟨?_,h.2⟩;rw[kM,<-h.1];unfold P.kidO P.wL;simp only[dh];split<;>rfl
theorem QF:∀(ns:List fF) (ks:List gU),ns.Nodup->ns.length=ks.length->ns.zip ks=ns.map λs=>(s,(oF ns ks s).1)
|[],[],_,_=>rfl
|[],_::_,_,h=>by simp at h
|_::_,[],_,h=>by simp at h
| n::ns,k::ks,hn,h=>by
 have hn':=bZ.1 hn;have ih:=QF ns ks hn'.2 (by simpa using h);rw[zip_cons_cons,ih,map_cons];have e:∀s,s∈ns->(oF (n::ns) (k::ks) s).1=(oF ns ks s).1:=λs hs=>by
  rw[oF,aB (λe=>hn'.1 (by rw[e];exact hs))]
 rw[show(oF (n::ns) (k::ks) n).1=k from by rw[oF,aC rfl]];congr 1;exact bf λs hs=>by rw[e s hs]
theorem zFK(x:fF × gp)(l:List (fF × gp)):busy (x::l)=if lX x.2 idC=true then busy l else x::busy l:=by
 unfold busy;rw[dS];by_cases h:lX x.2 idC=true<;>simp[h]
def qD(C:gp)(l:List (fF × gp)):gp:=.mk C.tags C.needs (C.names++l.map (·.1)) (C.fields++l.map (·.2)) C.fn
def addN(C:gp)(l:List (fF × Int)):gp:=.mk C.tags (C.needs++l) C.names C.fields C.fn
theorem QG(C:gp):qD C []=C:=by cases C;simp[qD,gp.tags,gp.needs,gp.names,gp.fields,gp.fn]
theorem zBQ(C:gp):addN C []=C:=by cases C;simp[addN,gp.tags,gp.needs,gp.names,gp.fields,gp.fn]
theorem QH(C:gp)(k:fF)(d:gp)(l:List (fF × gp)):qD (jy C k d) (busy l)=qD C (busy ((k,d)::l)):=by
 rw[zFK];unfold jy;by_cases h:lX d idC=true
 ·simp[h]
 ·simp[h,qD,gp.tags,gp.needs,gp.names,gp.fields,gp.fn]
theorem zFL(v:gU->gU->Int->gp)(lb:Int):∀(ns:List fF) (ks:List gU) (C:gp),oz v lb ns ks C=qD C (busy ((ns.zip ks).map λx=>(x.1,v x.2 noT lb)))
|[],ks,C=>by rw[oz];simp[busy,QG];intros;contradiction
|_::_,[],C=>by rw[oz];simp[busy,QG];intros;contradiction
|n::ns,k::ks,C=>by
 rw[oz,zFL v lb ns ks,QH];try rfl
theorem zFM(C:gp)(k:fF)(d:gp)(lb:Int):jy (oP C k lb) k d=oP (jy C k d) k lb:=by
 unfold jy oP;split<;>rfl
theorem zzU(C:gp)(k:fF)(lb:Int)(m:List (fF × Int)):addN (oP C k lb) m=addN C ((k,lb)::m):=by
 simp[addN,oP,gp.tags,gp.needs,gp.names,gp.fields,gp.fn]
theorem zFN(v:gU->gU->Int->gp)(m:iw)(lb:Int):∀(ns:List fF) (ks:List gU) (C:gp),ns.length=ks.length->
 pE v m lb ns ks C=addN (qD C (busy (((ns.zip ks).filter λx=>(kM m.t x.1).2||m.opn).map λx=>(x.1,v (kM m.t x.1).1 x.2 lb)))) ((ns.filter λs=> !(kM m.t s).2).map λs=>(s,lb))
|[],ks,C,_=>by rw[pE];simp[busy,QG,zBQ];intros;contradiction
|_::_,[],C,h=>by simp at h
| n::ns,k::ks,C,h=>by
 have ih:=zFN v m lb ns ks;rw[pE,ih _ (by simpa using h)];rw[zip_cons_cons,dS,dS];by_cases h1:(kM m.t n).2=true
 ·simp only[h1,Bool.true_eq_false,if_false,true_or,if_true,fB,Bool.not_true,af,map_cons,QH]
 ·have h1':(kM m.t n).2=false:=by simpa using h1
  by_cases h2:m.opn=true
  ·simp only[h1',h2,af,false_or,if_true,eP,Bool.not_false,map_cons,zFM];rw[show∀(D:gp) (l:List (fF × gp)),qD (oP D n lb) l=oP (qD D l) n lb fromλD l=>rfl,QH,zzU]
  ·have h2':m.opn=false:=by simpa using h2
   simp only[h1',h2',af,or_self,if_false,if_true,Bool.or_self,Bool.not_false,map_cons];rw[show∀(D:gp) (l:List (fF × gp)),qD (oP D n lb) l=oP (qD D l) n lb fromλD l=>rfl,zzU]
theorem zJc(v:gU->gU->Int->gp)(m n:iw)(lb:Int)(C:gp)(hm:NF m.t)(hn:NF n.t)(lm:m.t.names.length=m.t.kids.length)(ln:n.t.names.length=n.t.kids.length)(hno:n.opn=true->m.opn=false/\n.t.names=[]):
  ul v m n lb C=addN (qD C (P.qC v m.opn n.opn m.t n.t lb)) (if n.opn=true then []else P.qY lb m.t n.t):=by
 have dm:m.t.names.Nodup:=sW ((wo _).1 hm.2).1;have dn:n.t.names.Nodup:=sW ((wo _).1 hn.2).1;have fm:=λs=>zzT (k:=m.t) (by omega) s;have fn:=λs=>zzT (k:=n.t) (by omega) s;unfold ul;by_cases ho:n.opn=true
 ·obtain⟨h1,h2⟩:=hno ho;rw[aC ho,aB (by rw[h1];simp),aC ho,zBQ,zFL,QF _ _ dm lm];unfold P.qC P.ut;rw[aC ho,bn];congr 2;refine bf λs hs=>?_;have e:P.kidO n.t s=noT:=by
   rw[(fn s).1,kM,h2,oF];intros;contradiction
  simp only[Function.comp_apply,e,(fm s).1];rfl
 ·rw[aB ho,aB ho,zFN _ _ _ _ _ _ ln,QF _ _ dn ln];have e1:(n.t.names.filter λs=> !(kM m.t s).2).map (λs=>(s,lb))=P.qY lb m.t n.t:=by
   unfold P.qY;congr 1;refine filter_congr λs _=>?_;rw[dP];have:=(fm s).2;cases q:(kM m.t s).2<;>simp[q]at this⊢<;>exact this
  rw[e1];congr 2;unfold P.qC P.ut;rw[aB ho];have e2:(filter (λx:fF × gU=>(kM m.t x.1).2||m.opn) (n.t.names.map λs=>(s,(oF n.t.names n.t.kids s).1)))=(if m.opn=true then n.t.names else n.t.names.filter λs=>decide (s∈m.t.names)).map λs=>(s,(oF n.t.names n.t.kids s).1):=by
   rw[filter_map];congr 1;by_cases q:m.opn=true
   ·rw[aC q];exact List.filter_eq_self.2 λs _=>by simp[q]
   ·rw[aB q];refine filter_congr λs _=>?_;have q':m.opn=false:=by simpa using q
    rw[dP];simp[q',(fm s).2]
  rw[e2,bn];congr 1;refine bf λs hs=>?_;simp only[Function.comp_apply,(fm s).1,(fn s).1];rfl
theorem Gv{a:gU}(h:NF a){i:Nat}(hi:i<6):((ko a).find? λp=>decide (p.tag=(i:Int)))=(P.kU a i).map λt=>(⟨(i:Int),decide (a.kind=0/\i=4),t⟩:iw):=by
 by_cases h0:a.kind=0
 ·unfold ko P.kU;rw[aC h0,aC h0]
  match i,hi with
  |0,_|1,_|2,_|3,_|4,_|5,_=>simp[h0];rfl
 ·have hz:decide (a.kind=0/\i=4)=false:=by simp[h0]
  unfold ko P.kU P.rP;rw[aB h0,aB h0,hz];have key:∀l:List gU,((l.map λk=>(⟨iJ k,false,k⟩:iw)).find? λp=>decide (p.tag=(i:Int)))=(l.find? λx=>decide (P.iJ x=(i:Int))).map λt=>(⟨(i:Int),false,t⟩:iw):=λl=>by
   rw[find?_map];have e:((λp:iw=>decide (p.tag=(i:Int)))∘λk=>(⟨iJ k,false,k⟩:iw))=λx=>decide (P.iJ x=(i:Int)):=rfl;rw[e];cases q:l.find? λx=>decide (P.iJ x=(i:Int))with
   |none=>rfl
   |some k=>
    have:=find?_some q;simp only[aI]at this;simp only[Option.map_some];rw[show iJ k=i from this]
  by_cases h7:a.kind=7
  ·rw[aB (by omega),aC h7];exact key _
  ·rw[aC h7,aB h7];exact key [a]
theorem QI{b:gU}(h:NF b){i:Nat}(hi:i<6):kH (ko b) i=match P.kU b i with
  |some t=>(⟨(i:Int),decide (b.kind=0/\i=4),t⟩,true)
  |none=>(Tp,false):=by
 unfold kH;rw[Gv h hi];cases P.kU b i<;>rfl
def nC(C:gp):List (fF × Int) × List fF × List gp:=(C.needs,C.names,C.fields)
theorem zDd{C D:gp}(h:nC C=nC D)(k:fF)(d:gp):nC (jy C k d)=nC (jy D k d):=by
 have h':=h;simp only[nC,bX]at h';unfold jy;split
 ·exact h
 ·simp[nC,gp.needs,gp.names,gp.fields,h'.1,h'.2.1,h'.2.2]at*
  simp[h'.1,h'.2.1,h'.2.2]
theorem zHk{C D:gp}(h:nC C=nC D)(k:fF)(lb:Int):nC (oP C k lb)=nC (oP D k lb):=by
 have h':=h;simp only[nC,bX]at h'⊢;simp only[DR,zhR,zhS,h'.1,h'.2.1,h'.2.2,and_self]
theorem zDe(v:gU->gU->Int->gp)(lb:Int):∀(ns:List fF) (ks:List gU) (C D:gp),nC C=nC D->nC (oz v lb ns ks C)=nC (oz v lb ns ks D)
|[],_,C,D,h=>by rw[oz,oz];exact h;all_goals (intros;contradiction)
|_::_,[],C,D,h=>by rw[oz,oz];exact h;all_goals (intros;contradiction)
|n::ns,k::ks,C,D,h=>by rw[oz,oz];exact zDe v lb ns ks _ _ (zDd h _ _)
theorem zDf(v:gU->gU->Int->gp)(m:iw)(lb:Int):∀(ns:List fF) (ks:List gU) (C D:gp),nC C=nC D->nC (pE v m lb ns ks C)=nC (pE v m lb ns ks D)
|[],_,C,D,h=>by rw[pE,pE];exact h;all_goals (intros;contradiction)
|_::_,[],C,D,h=>by rw[pE,pE];exact h;all_goals (intros;contradiction)
| n::ns,k::ks,C,D,h=>by
 rw[pE,pE];have h1:nC (if(kM m.t n).2=false then oP C n lb else C)=nC (if(kM m.t n).2=false then oP D n lb else D):=by
  split
  ·exact zHk h _ _
  ·exact h
 refine zDf v m lb ns ks _ _ ?_;split
 ·exact zDd h1 _ _
 ·exact h1
theorem zIs(v:gU->gU->Int->gp)(m n:iw)(lb:Int){C D:gp}(h:nC C=nC D):nC (ul v m n lb C)=nC (ul v m n lb D):=by
 unfold ul;split
 ·split
  ·exact h
  ·exact zDe v lb _ _ _ _ h
 ·exact zDf v m lb _ _ _ _ h
def QJ(v:gU->gU->Int->gp)(R:List iw)(lb:Int)(m:iw):List gp:=mU (v (je (kH R 5).1.t) (je m.t) (oQ lb)) (v (jf m.t) (jf (kH R 5).1.t) lb)
theorem zFO(v:gU->gU->Int->gp)(R:List iw)(lb:Int)(m:iw)(C:gp)(mt:0<=m.tag/\m.tag<6)(h6:C.tags.length=6):
  (yI v R lb m C).tags.length=6/\(∀i:Nat,i<6->iF (yI v R lb m C) i=if m.tag=i/\(kH R i).2=false then lb else iF C i)/\
  (yI v R lb m C).fn=(if m.tag=5/\(kH R 5).2=true then QJ v R lb m else C.fn)/\nC (yI v R lb m C)=(if m.tag=4/\(kH R 4).2=true then nC (ul v m (kH R 4).1 lb C)else nC C):=by
 unfold yI;by_cases q:(kH R m.tag).2=false
 ·rw[aC q];refine⟨by simpa[tq,gp.tags]using h6,λi hi=>?_,?_,?_⟩
  ·by_cases e:m.tag=i
   ·rw[aC ⟨e,by rw[<-e];exact q⟩];unfold iF tq;simp only[gp.tags];rw[show m.tag.toNat=i from by omega,aH,getElem?_set_self (by have:=h6;simp only[gp.tags]at this;omega)];try rfl
   ·rw[aB (λx=>e x.1)];exact O0 _ _ _ _ (by omega)
  ·rw[aB (λx=>by rw[x.1]at q;rw[q]at x;exact absurd x.2 (by simp))];try rfl
  ·rw[aB (λx=>by rw[x.1]at q;rw[q]at x;exact absurd x.2 (by simp))];try rfl
 ·rw[aB q];have q':(kH R m.tag).2=true:=by simpa using q
  have ht:∀i:Nat,i<6->¬(m.tag=i/\(kH R i).2=false):=λi hi x=>q (by rw[x.1];exact x.2);by_cases q5:m.tag=5
  ·rw[aC q5];refine⟨h6,λi hi=>?_,?_,?_⟩
   ·rw[aB (ht i hi)];try rfl
   ·rw[aC ⟨q5,by rw[<-q5];exact q'⟩];rfl
   ·rw[aB (λx=>by omega)];try rfl
  ·rw[aB q5];by_cases q4:m.tag=4
   ·rw[aC q4];have hk:=OY v m (kH R 4).1 lb C;refine⟨by rw[hk.1];exact h6,λi hi=>?_,?_,?_⟩
    ·rw[aB (ht i hi)];unfold iF;rw[hk.1]
    ·rw[aB (λx=>q5 x.1)];exact hk.2
    ·rw[aC ⟨q4,by rw[<-q4];exact q'⟩]
   ·rw[aB q4];exact⟨h6,λi hi=>by rw[aB (ht i hi)],by rw[aB (λx=>q5 x.1)],by rw[aB (λx=>q4 x.1)]⟩
theorem zzV(v:gU->gU->Int->gp)(R:List iw)(lb:Int):∀(L:List iw) (C:gp),(L.map (·.tag)).Nodup->(∀m,m∈L->0<=m.tag/\m.tag<6)->C.tags.length=6->
 (∀i:Nat,i<6->iF (vI v R lb L C) i=if(L.find? λp=>decide (p.tag=(i:Int))).isSome=true/\(kH R i).2=false then lb else iF C i)/\
 (vI v R lb L C).fn=(match L.find? λp=>decide (p.tag=5)with
  |some m=>if(kH R 5).2=true then QJ v R lb m else C.fn
  |none=>C.fn)/\nC (vI v R lb L C)=(match L.find? λp=>decide (p.tag=4)with
  |some m=>if(kH R 4).2=true then nC (ul v m (kH R 4).1 lb C)else nC C
  |none=>nC C)
|[],C,_,_,_=>⟨λi hi=>by simp[vI],rfl,rfl⟩
| m::l,C,hn,ht,h6=>by
 rw[map_cons,bZ]at hn;obtain⟨g0,g1,g2,g3⟩:=zFO v R lb m C (ht m (by simp)) h6;obtain⟨i1,i2,i3⟩:=zzV v R lb l (yI v R lb m C) hn.2 (λx hx=>ht x (by simp[hx])) g0;have none:∀i:Int,m.tag=i->(l.find? λp=>decide (p.tag=i))=none:=λi e=>List.find?_eq_none.2 λx hx=>by
  simp only[aI];intro e';exact hn.1 (by rw[e,<-e'];exact eU hx)
 rw[vI];refine⟨λi hi=>?_,?_,?_⟩
 ·rw[i1 i hi,g1 i hi,find?_cons];by_cases e:m.tag=i
  ·rw[none i e];simp[e]
  ·simp[e]
 ·rw[i2,g2,find?_cons];by_cases e:m.tag=5
  ·rw[none 5 e];simp[e]
  ·simp[e]
 ·rw[i3,g3,find?_cons];by_cases e:m.tag=4
  ·rw[none 4 e];simp[e]
  ·have hC:nC (yI v R lb m C)=nC C:=by rw[g3,aB (λx=>e x.1)]
   simp only[e,decide_false,false_and,if_false];cases l.find? λp=>decide (p.tag=4)with
   |none=>rfl
   |some x=>simp only[zIs v x (kH R 4).1 lb hC]
theorem wf4{t:gU}(h:NF t)(e:iJ t=4):t.names.length=t.kids.length:=by
 have hk:t.kind=5:=by unfold iJ at e;split at e<;>omega
 rcases((mH t).1 h.1).2.2 with q|q|q|q
 ·omega
 ·exact q.2.1
 ·omega
 ·omega
theorem E9{t:gU}(h:NF t){i:Nat}(hi:i<6){k:gU}(hk:P.kU t i=some k):NF k/\iJ k=i/\(i=4->k.names.length=k.kids.length):=by
 have hf:=Gv h hi;rw[hk]at hf;have hm:=eQ hf;obtain⟨_,_,h3,_⟩:=(J5 h).2 _ hm;have ht:iJ k=i:=by
  unfold P.kU at hk;split at hk
  ·simp only[ai]at hk;subst hk
   match i,hi with
   |0,_|1,_|2,_|3,_|4,_|5,_=>rfl
  ·have:=find?_some hk;simp only[aI]at this;exact this
 exact⟨h3,ht,λe=>wf4 h3 (by rw[ht,e];rfl)⟩
theorem zHl(v:gU->gU->Int->gp)(a b:gU)(lb:Int)(ha:NF a)(hb:NF b)(hne:¬(a.kind=0/\b.kind=0)):vI v (ko b) lb (ko a) idC=P.qZ v a b lb:=by
 obtain⟨pn,pt⟩:=J5 ha;obtain⟨h1,h2,h3⟩:=zzV v (ko b) lb (ko a) idC pn (λm hm=>⟨(pt m hm).1,(pt m hm).2.1⟩) rfl;have hl:=Xz v (ko b) lb (ko a) idC;generalize vI v (ko b) lb (ko a) idC=F0 at*
 unfold P.qZ;rw[aB hne];have e4:=Gv ha (i:=4) (by omega);have e5:=Gv ha (i:=5) (by omega);have r4:=QI hb (i:=4) (by omega);have r5:=QI hb (i:=5) (by omega);have e4':(find? (λp:iw=>decide (p.tag=4)) (ko a))=_:=e4;have e5':(find? (λp:iw=>decide (p.tag=5)) (ko a))=_:=e5;have r4':kH (ko b) 4=_:=r4;have r5':kH (ko b) 5=_:=r5;rw[e5',r5']at h2;rw[e4',r4']at h3;have tags:F0.tags=P.kz a b lb:=by
  obtain⟨x0,x1,x2,x3,x4,x5,e⟩:=six (l:=F0.tags) hl;have k:∀i:Nat,i<6->iF F0 i=P.sO a b lb i:=λi hi=>by
   rw[h1 i hi,Gv ha hi,QI hb hi];have hz:iF idC i=0:=by
    match i,hi with
    |0,_|1,_|2,_|3,_|4,_|5,_=>rfl
   unfold P.sO;cases P.kU a i<;>cases P.kU b i<;>simp[hz]
  unfold iF at k;rw[e]at k⊢;have k0:=k 0 (by omega);have k1:=k 1 (by omega);have k2:=k 2 (by omega);have k3:=k 3 (by omega);have k4:=k 4 (by omega);have k5:=k 5 (by omega);simp at k0 k1 k2 k3 k4 k5;unfold P.kz;rw[k0,k1,k2,k3,k4,k5]
 have fn:F0.fn=P.wN v a b lb:=by
  rw[h2];unfold P.wN;cases qa:P.kU a 5 with
  |none=>rfl
  | some m=>
   cases qb:P.kU b 5 with
   |none=>rfl
   |some k=>
    simp only[Option.map_some,if_true,QJ];rw[r5',qb];try rfl
 have tr:nC F0=(P.xB a b lb,(P.qi v a b lb).map (·.1),(P.qi v a b lb).map (·.2)):=by
  rw[h3];unfold P.xB P.qi;cases qa:P.kU a 4 with
  |none=>rfl
  | some m=>
   cases qb:P.kU b 4 with
   |none=>rfl
   | some k=>
    obtain⟨nm,_,lm⟩:=E9 ha (by omega) qa;obtain⟨nk,_,lk⟩:=E9 hb (by omega) qb;have hk0:b.kind=0->k.names=[]:=λh0=>by
     unfold P.kU at qb;rw[aC h0]at qb;cases qb;rfl
    simp only[Option.map_some,if_true];rw[zJc v _ _ lb idC nm nk (lm rfl) (lk rfl) (λho=>by
     simp only[aI]at ho
     exact⟨by simp only[bV];intro x;exact hne ⟨x.1,ho.1⟩,hk0 ho.1⟩)]
    have en:(if decide (b.kind=0/\4=4)=true then []else P.qY lb m k)=P.qY lb m k:=by
     split
     ·rename_i ho;simp only[aI]at ho;unfold P.qY;rw[hk0 ho.1];try rfl
     ·rfl
    simp only[en];simp[nC,addN,qD,idC,gp.needs,gp.names,gp.fields,gp.tags,gp.fn];intro h0;unfold P.qY;rw[hk0 h0];try rfl
 simp only[nC,bX]at tr;exact gp.ext' tags tr.1 tr.2.1 tr.2.2 fn
theorem NF.kidO{k:gU}(h:NF k)(s:fF):NF (P.kidO k s):=by
 rcases P.zGY (k:=k) s with q|q
 ·exact h.kid q
 ·rw[q];exact NF.no
theorem NF.kd{k:gU}(h:NF k)(j:Nat):NF (P.kd k j):=by
 rcases P.zIX k j with q|q
 ·exact h.kid q
 ·rw[q];exact NF.no
theorem Gw:∀(n:Nat) (a b:gU) (lb:Int),NF a->NF b->P.rQ n a b lb=sZ n a b lb
|0,_,_,_,_,_=>rfl
| n +1,a,b,lb,ha,hb=>by
 rw[P.rQ,sZ];by_cases h:a.kind=0/\b.kind=0
 ·rw[aC h];unfold P.qZ;rw[aC h]
 ·rw [aB h,zHl _ a b lb ha hb h];have e4:P.qi (P.rQ n) a b lb=P.qi (sZ n) a b lb:=by
   unfold P.qi;cases qa:P.kU a 4 with
   |none=>rfl
   | some m=>
    cases qb:P.kU b 4 with
    |none=>rfl
    |some k=>
     have nm:=(E9 ha (by omega) qa).1;have nk:=(E9 hb (by omega) qb).1;simp only;unfold P.qC;congr 1;exact bf λs _=>by rw[Gw n _ _ lb (nm.kidO s) (nk.kidO s)]
  have e5:P.wN (P.rQ n) a b lb=P.wN (sZ n) a b lb:=by
   unfold P.wN;cases qa:P.kU a 5 with
   |none=>rfl
   | some m=>
    cases qb:P.kU b 5 with
    |none=>rfl
    |some k=>
     have nm:=(E9 ha (by omega) qa).1;have nk:=(E9 hb (by omega) qb).1;simp only;rw[Gw n _ _ _ (nk.kd 0) (nm.kd 0),Gw n _ _ lb (nm.kd 1) (nk.kd 1)]
  unfold P.qZ;rw[aB h,aB h,e4,e5]
theorem zEl:∀x,x∈P.wH->x∈Ce:=by
 have h:(P.wH.all λx=>Ce.any λy=>decide (y=x))=true:=by decide+kernel
 intro x hx;have:=aa.1 h x hx;rw[any_eq_true]at this;obtain⟨y,hy,e⟩:=this;simp only[aI]at e;rw[<-e];exact hy
theorem zCu{q:Int->Bool}:∀l:List UInt8,(∀b,b∈l->q b.toNat=true)->P.sK q l=l.length
|[],_=>rfl
|b::l,h=>by
 rw[P.sK,aC (h b (by simp)),zCu l λc hc=>h c (by simp[hc])];rfl
theorem zHH{s:fF}(h:nE s=true):P.BF s=true:=by
 unfold nE at h;have hlen:s.data.toList.length=s.size:=by rw[cz];try rfl
 unfold P.BF;cases e:s.data.toList with
 |nil=>rw[e]at h;cases h
 | cons c l=>
  rw[e]at h hlen;simp only[aF,aI,bE]at h;obtain⟨h1,h2,h3,h4⟩:=h;have h4':=aa.1 h4;have hin:∀b,b∈c::l->P.BD b.toNat=true:=λb hb=>by
   have:=h4' b hb;unfold mX kF tF pU at this;unfold P.BD P.DX;exact this
  have hlet:P.DX c.toNat=true:=by
   have:=h4' c (by simp);rw[h3,Bool.or_false]at this;exact this
  have hrow:=zCu (c::l) hin;have hne:s≠bs []:=λq=>by rw[q]at e;cases e
  have hw:(P.wH.any λx=>decide (s=x))=false:=by
   rw[dV];intro x hx;simp only[aI];intro q;unfold zM at h2;rw[dV]at h2;exact h2 x (zEl x hx) (by simp[q])
  simp only[hne,ne_eq,not_false_eq_true,decide_true,Bool.true_and,aF,aI,hlet,hrow,hlen,hw,Bool.not_false,and_true,and_self,h1]
theorem zy8{α β:Type}:∀{l k:List (α × β)},l.Perm k->l.map (·.1)=k.map (·.1)->(k.map (·.1)).Nodup->l=k
|[],k,hp,_,_=>hp.nil_eq
|x::l,[],hp,_,_=>by simpa using hp.length_eq
| x::l,y::k,hp,he,hn=>by
 simp only[map_cons,dX]at he;rw[map_cons,bZ]at hn;have hx:x∈y::k:=hp.subset (by simp);have exy:x=y:=by
  rcases aN.1 hx with e|e
  ·exact e
  ·exact absurd (he.1▸eU (f:=(·.1)) e) hn.1
 subst exy;rw[zy8 ((perm_cons x).1 hp) he.2 hn.2]
theorem zEm{l k:List fF}(hp:l.Perm k)(hl:l.Pairwise λa b=>¬jw b a)(hk:k.Pairwise jw):l=k:=by
 have hk':k.Pairwise λa b=>¬jw b a:=hk.imp λ{a b} h q=>Br _ (zh h q);exact hp.eq_of_pairwise (λa b _ _ h1 h2=>by
  by_cases e:a=b
  ·exact e
  rcases EQ e with q|q
  ·exact absurd q h2
  ·exact absurd q h1) hl hk'
theorem zIA{ns:List fF}{ts:List gU}(hl:ns.length=ts.length)(h16:ns.length<=16)(hv:∀x,x∈ns->nE x=true)(ho:ns.Pairwise jw):P.nA ns ts=(.mk 5 (bs []) ns ts,true):=by
 have e1:(ns.zip ts).map (·.1)=ns:=map_fst_zip (by omega);have e2:(ns.zip ts).map (·.2)=ts:=map_snd_zip (by omega);have hp:=P.Ps (ns.zip ts);have hs:=P.zDU (ns.zip ts);have hn:(P.oC (ns.zip ts)).map (·.1)=ns:=zEm (by have:=hp.map (·.1);rwa[e1]at this) hs ho;have he:P.oC (ns.zip ts)=ns.zip ts:=zy8 hp (by rw[hn,e1]) (by rw[e1];exact sW ho);unfold P.nA;rw[aB (by omega),he,e1,e2,aC];refine⟨aa.2 λx hx=>zHH (hv x hx),?_⟩;unfold P.sM;rw[aa];intro j hj;have hj:j<ns.length:=by simpa using hj
 unfold P.rM;by_cases h0:j=0
 ·simp[h0]
 ·have h1:j-1<ns.length:=by omega
  have hne:ns[j-1]≠ns[j]:=λq=>by
   have:=(bS.1 ho) (j-1) j h1 hj (by omega);rw[q]at this;exact Br _ this
  simp[h0,aH,aA hj,aA h1,hne]
theorem zEn{k:gU}:∀(of:List (Option gU)) (g:Nat),g<of.length->(∀i,g<=i->i<of.length->of.getD i none=none)->(of.set g (some k)).filterMap id=of.filterMap id++[k]
|[],g,h,_=>by simp at h
| o::of,0,h,hn=>by
 have h0:=hn 0 (by omega) (by simp);simp only[fD]at h0;subst h0;have hz:of.filterMap id=[]:=by
  rw[filterMap_eq_nil_iff];intro a ha;obtain⟨i,hi,rfl⟩:=bF ha;have:=hn (i+1) (by omega) (by simpa using hi);rw[getD_cons_succ,aH,aA hi,Option.getD_some]at this;exact this
 simp[hz]
| o::of,g+1,h,hn=>by
 have ih:=zEn (k:=k) of g (by simpa using h) λi hi hl=>by
  have:=hn (i+1) (by omega) (by simpa using hl);simpa using this
 rw[set_cons_succ];cases o with
 |none=>simpa using ih
 |some x=>simpa using ih
theorem zEo:∀(l:List gU) (of:List (Option gU)) (m:Nat),of.length=6->(∀i,m<=i->i<6->of.getD i none=none)->(l.map iJ).Pairwise (· < ·)->(∀x,x∈l->(m:Int)<=iJ x/\iJ x<6)->
 (P.nz l of).1=true/\(P.nz l of).2.filterMap id=of.filterMap id++l
|[],of,m,_,_,_,_=>by simp[P.nz]
| t::l,of,m,h6,hn,hp,ht=>by
 rw[map_cons,bJ]at hp;obtain⟨a,b⟩:=ht t (by simp);have hg:(iJ t).toNat<6:=by omega
 have hz:=hn (iJ t).toNat (by omega) hg;have hput:P.qX of t=(true,of.set (iJ t).toNat (some t)):=by
  unfold P.qX;have e:P.iJ t=iJ t:=rfl;rw[e,aB (by omega),hz];simp only;rw[(P.Cx t t).2 rfl]
 rw[P.nz,hput];simp only[if_true];have ih:=zEo l (of.set (iJ t).toNat (some t)) ((iJ t).toNat+1) (by simpa using h6) (λi hi hl=>by
  rw[aH,getElem?_set_ne (by omega),<-aH];exact hn i (by omega) hl) hp.2 λx hx=>by
   have:=hp.1 (iJ x) (eU hx);have:=(ht x (by simp[hx])).2;omega
 refine⟨ih.1,?_⟩;rw[ih.2,zEn of _ (by omega) λi hi hl=>hn i (by omega) (by omega),bI];try rfl
theorem zFX{l:List gU}(h2:2<=l.length)(hp:(l.map iJ).Pairwise (· < ·))(hk:∀x,x∈l->1<=x.kind/\x.kind<=6):P.xA l=(.mk 7 (bs []) [] l,true):=by
 have hm:l.flatMap P.ik=l:=by
  have:∀k:List gU,(∀x,x∈k->1<=x.kind/\x.kind<=6)->k.flatMap P.ik=k:=λk=>by
   induction k with
   |nil=>intro _;rfl
   |cons x k ih=>
    intro h;rw[flatMap_cons,ih λy hy=>h y (by simp[hy])];have:=h x (by simp);unfold P.ik;rw[aB (by omega)];try rfl
  exact this l hk
 have ht:∀x,x∈l->((0:Nat):Int)<=iJ x/\iJ x<6:=λx hx=>by
  have:=hk x hx;unfold iJ;rw[aB (by omega)];omega
 have h:=zEo l P.zx 0 rfl (λi _ hi=>by match i,hi with|0,_|1,_|2,_|3,_|4,_|5,_=>rfl) hp ht;have hn:P.zx.filterMap id=([]:List gU):=rfl;rw[hn,nil_append]at h;unfold P.xA;rw[hm];obtain⟨b,of,hof⟩:∃b of,P.nz l P.zx=(b,of):=⟨_,_,rfl⟩
 rw[hof]at h⊢;obtain⟨e1,e2⟩:=h;simp only at e1 e2;subst e1;simp only[e2]
 match l,h2 with
 |x::y::l,_=>simp
mutual
theorem zCv:∀t:gU,NF t->P.lY t=(t,true)
| .mk k n s l,h=>by
 have hw:=(mH _).1 h.1;have ho:=(wo _).1 h.2;simp only[gU.kids,gU.kind,gU.names,gU.name]at hw ho;obtain⟨w1,w2,w3⟩:=hw;have hl:=zAf l λx hx=>⟨w2 x hx,ho.2.2 x hx⟩
 rw[P.lY,w1];rcases w3 with⟨a,b,c,d⟩|⟨a,b,c,d⟩|⟨a,b,c⟩|⟨a,b,c,d⟩
 ·rw[aB (by omega),aC ⟨a,b⟩,c,d]
 ·rw[aC (by omega),hl];simp only[if_true];unfold P.wK;rw[aC a,zIA b c d ho.1,a]
 ·rw[aC (by omega),hl];simp only[if_true];unfold P.wK;rw[aB (by omega),aC a,a,b];simp[c]
 ·rw[aC (by omega),hl];simp only[if_true];unfold P.wK;have h7:=ho.2.1 a;rw[aB (by omega),aB (by omega),zFX h7.2 h7.1 d,a,b]
theorem zAf:∀l:List gU,(∀x,x∈l->NF x)->P.mJ l=(l,true)
|[],_=>rfl
|t::l,h=>by
 rw[P.mJ,zCv t (h t (by simp)),zAf l λx hx=>h x (by simp[hx])];try rfl
end
mutual
theorem D9:∀t:gU,P.jL t=jL t
|.mk k n s l=>by rw[P.jL,jL,CJ l]
theorem CJ:∀l:List gU,P.jg l=jg l
|[]=>rfl
|t::l=>by rw[P.jg,jg,D9 t,CJ l]
end
theorem zEp:∀(n:Nat) (t:gU),P.hgt n t<=jL t
|0,t=>by have:=za t;rw[P.hgt];omega
| n+1,t=>by
 rw[P.hgt];have h:=P.Pj (P.hgt n) t.kids 0 (jL t-1) (by omega) λx hx=>by
  have:=zEp n x;have:=wY hx;omega
 have:=za t;omega
mutual
theorem zEq:∀t:gU,P.si t<=jT t
|.mk k n s l=>by
 have:=zCw l 1;rw[P.si,jT];omega
theorem zCw:∀(l:List gU) (n:Nat),P.mq l n<=n+jM l
|[],n=>by rw[P.mq,jM];omega
| t::l,n=>by
 rw[P.mq,jM];have:=zEq t;split
 ·omega
 ·have:=zCw l (n+P.si t);omega
end
theorem zEr{t:gU}(h:iE t=true):P.zy t=true:=by
 have h1:=zm h;have h2:=G8 h;have h3:=F7 h;have h4:=zEp 16 t;have h5:=zEq t;unfold P.zy P.DZ;rw[aB (by omega),zCv t h1];simp[(P.Cx t t).2 rfl]
theorem zFY{a b:gU}{n:Int}(ha:iE a=true)(hb:iE b=true)(h0:0<=n)(h1:n<=1000000000):gY Pg 36 [.agg a.enc,.agg b.enc,.one (.int .i64 (2*n+2))] (.agg (sZ 32 a b (2*n+2)).enc):=by
 have d1:=G8 ha;have d2:=G8 hb;have h:=P.zKC 32 a b (2*n+2) (by rw[D9,D9];omega) (by omega) (by omega);have e:P.KS 32 a b (2*n+2)=sZ 32 a b (2*n+2):=by
  unfold P.KS;rw[aB (by rw[zEr ha,zEr hb];simp;omega)];exact Gw 32 a b _ (zm ha) (zm hb)
 rw[e]at h;exact h
theorem QK(d:gp)(k:gy):gY Pg 35 [.agg d.enc,.agg k.enc] (.agg (wy d k).enc):=by
 refine zE3 (by simp) λo cx hN hp=>?_;unfold ZC;simp;exact(gy.enc_eq (wy d k)).symm
def o6(c:gy):gy:=if c.kind=21 then wy (sZ 32 (c.types.getD 0 noT) (c.types.getD 1 noT) (2*c.n+2)) (c.kids.getD 0 noC)else c
def AA(c:gy):Prop:=c.kind=21->0<=c.n/\c.n<=1000000000/\∃a b k,c.types=[a,b]/\c.kids=[k]/\iE a=true/\iE b=true
theorem zAM(c:gy)(h:AA c):gY Pg 19 [.agg c.enc] (.agg (o6 c).enc):=by
 refine zCd (by simp) λo cx hN hp=>?_;unfold Yy o6;by_cases q:c.kind=21
 ·obtain⟨h0,h1,a,b,k,e1,e2,na,nb⟩:=h q;have hm:=zFY na nb h0 h1;have w1:=wI (n:=2*c.n);have w2:=wI (n:=2*c.n+2);have hk:=QK (sZ 32 a b (2*c.n+2)) k;rw[aC q,e1,e2];simp[q,e1,e2,w1,w2];refine gT hm ?_;simp[e2];refine gT hk ?_;simp;decide
 ·rw[aB q];simp[q]
theorem Da{d:gp}{k:gy}{i:Nat}(hi:i<6)(ht:qA k=i):idleC d k=(decide (iF d i=0)&&(decide (i≠5)||decide (d.fn=[]))):=by
 have hs:lX d idC=true->iF d i=0/\d.fn=[]:=λh=>by
  have:=(Aw _ _).1 h;subst this;exact⟨by match i,hi with|0,_|1,_|2,_|3,_|4,_|5,_=>rfl,rfl⟩
 have h5:decide ((i:Int)≠5)=decide (i≠5):=by rw[decide_eq_decide];omega
 have hf:decide (d.fn.length=0)=decide (d.fn=[]):=by rw[decide_eq_decide];exact aU
 unfold idleC;rw[ht,h5,hf,bC];cases hc:lX d idC with
 |true=>obtain⟨a,b⟩:=hs hc;simp[a,b]
 |false=>simp
theorem zEX{d:gp}{k:gy}(ht:qA k= -1):idleC d k=lX d idC:=by
 unfold idleC;rw[ht];simp
theorem zAN(d:gp)(k:gy)(hd:d.tags.length=6):gY Pg 38 [.agg d.enc,.agg k.enc] (.one (.bool (idleC d k))):=by
 refine zCf (by simp) λo cx hN hp=>?_;have hg:∀i,i<6->d.tags[i]?=some (iF d i):=λi hi=>zl hd hi;have g0:=hg 0 (by omega);have g1:=hg 1 (by omega);have g2:=hg 2 (by omega);have g3:=hg 3 (by omega);have g5:=hg 5 (by omega);by_cases k3:k.kind=3
 ·rw[Da (i:=0) (by omega) (by unfold qA;simp[k3])];unfold BC;simp[k3,encI,g0]
 by_cases k0:k.kind=0
 ·rw[Da (i:=2) (by omega) (by unfold qA;simp[k0])];unfold BC;simp[k0,encI,g2]
 by_cases k20:k.kind=20
 ·rw[Da (i:=2) (by omega) (by unfold qA;simp[k20])];unfold BC;simp[k20,encI,g2]
 by_cases k1:k.kind=1
 ·rw[Da (i:=3) (by omega) (by unfold qA;simp[k1])];unfold BC;simp[k1,encI,g3]
 by_cases k2:k.kind=2
 ·rw[Da (i:=1) (by omega) (by unfold qA;simp[k2])];unfold BC;simp[k2,encI,g1]
 by_cases k5:k.kind=5
 ·rw[Da (i:=5) (by omega) (by unfold qA;simp[k5])];unfold BC;by_cases z:iF d 5=0
  ·simp[k5,encI,g5,z]
  ·simp[k5,encI,g5,z]
 by_cases k6:k.kind=6
 ·rw[Da (i:=5) (by omega) (by unfold qA;simp[k6])];unfold BC;by_cases z:iF d 5=0
  ·simp[k6,encI,g5,z]
  ·simp[k6,encI,g5,z]
 rw[zEX (by unfold qA;simp[k0,k1,k2,k3,k5,k6,k20])];have hI:=P.Jo;have hS:=P.P6 d idC;unfold BC;simp[k0,k1,k2,k3,k5,k6,k20];refine gT hI ?_;simp;refine gT hS ?_;simp;decide
def nO(c:gy):gy:=if(o6 c).kind=22 then yz ((o6 c).cos.getD 0 idC) ((o6 c).kids.getD 0 noC)else o6 c
def xu(c:gy):Prop:=AA c/\((o6 c).kind=22->∃d k,(o6 c).cos=[d]/\(o6 c).kids=[k]/\wF 200000000 d/\(k.kind=22->∃e y,k.cos=[e]/\k.kids=[y]/\wF 200000000 e))
theorem zEY(c:gy)(h:xu c):gY Pg 20 [.agg c.enc] (.agg (nO c).enc):=by
 obtain⟨h1,h2⟩:=h;have hc:=zAM c h1;unfold nO;generalize o6 c=x at*
 obtain⟨R,hR⟩:∃R,(if x.kind=22 then yz (x.cos.getD 0 idC) (x.kids.getD 0 noC)else x)=R:=⟨_,rfl⟩
 rw[hR];refine zAV (by simp) λo cx hN hp=>?_;unfold Yz;simp;refine gT hc ?_;by_cases q:x.kind=22
 ·obtain⟨d,k,e1,e2,gd,hk⟩:=h2 q;rw[aC q,e1,e2]at hR;simp only[fD]at hR;unfold yz at hR;by_cases r:k.kind=22
  ·obtain⟨e,y,f1,f2,ge⟩:=hk r;have hcc:=P.zJi 32 ge.2.2 gd.2.2 (ge.le (B:=536870912) (by omega)).2.1 (gd.le (B:=536870912) (by omega)).2.1;have ec:J4 32 e d=lc 32 e d:=by unfold J4;rw[ge.1,gd.1];try rfl
   rw[ec]at hcc;have g6:=ge.comp (by omega) gd;have hi:=zAN (lc 32 e d) y ((uI _).1 g6.1).tags;have hco:=QK (lc 32 e d) y;rw[aC r,aC r,f1,f2]at hR;simp only[fD]at hR;simp[q,e1,e2,r,f1,f2];refine⟨by decide,?_⟩;refine gT hcc ?_;simp[f2];refine⟨by decide,?_⟩;refine gT hi ?_;cases b:idleC (lc 32 e d) y with
   |true=>rw[b]at hR;simp at hR;subst hR;simp
   |false=>
    rw[b]at hR;simp at hR;subst hR;simp;refine gT hco ?_;simp
  ·have hi:=zAN d k ((uI _).1 gd.1).tags;have hco:=QK d k;simp only[aB r]at hR;simp[q,e1,e2,r];refine⟨by decide,?_⟩;refine gT hi ?_;cases b:idleC d k with
   |true=>rw[b]at hR;simp at hR;subst hR;simp
   |false=>
    rw[b]at hR;simp at hR;subst hR;simp;refine gT hco ?_;simp
 ·rw[aB q]at hR;subst hR;simp[q]
mutual
def qH(q:gy->gy):gy->gy
|.mk k n t is ns ts cs ks=>q (.mk k n t is ns ts cs (CK q ks))
def CK(q:gy->gy):List gy->List gy
|[]=>[]
|c::l=>qH q c::CK q l
end
mutual
def xw(R:gy->Prop)(q:gy->gy):gy->Prop
|.mk k n t is ns ts cs ks=>R (.mk k n t is ns ts cs (CK q ks))/\CL R q ks
def CL(R:gy->Prop)(q:gy->gy):List gy->Prop
|[]=>True
|c::l=>xw R q c/\CL R q l
end
theorem KT(q:gy->gy):∀l:List gy,CK q l=l.map (qH q)
|[]=>rfl
|c::l=>by rw[CK,KT q l];try rfl
theorem QL{R:gy->Prop}{q:gy->gy}:∀{l:List gy},CL R q l↔∀x,x∈l->xw R q x
|[]=>by simp[CL]
|c::l=>by simp[CL,QL (l:=l)]
theorem zGy(q:gy->gy)(c:gy):qH q c=q (.mk c.kind c.n c.text c.ints c.names c.types c.cos (c.kids.map (qH q))):=by
 cases c;rw[qH,KT];try rfl
end Go.Gr
