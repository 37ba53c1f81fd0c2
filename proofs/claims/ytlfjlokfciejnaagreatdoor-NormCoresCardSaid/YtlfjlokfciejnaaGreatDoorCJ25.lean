/- Texts of ours, joined and written short by a program of ours. -/
import Derived.Test.YtlfjlokfciejnaaGreatDoorCJ24
import Derived.Test.YtlfjlokfciejnaaGreatDoorCJ17
import Derived.Test.YtlfjlokfciejnaaGreatDoorCJ20
import Derived.Test.YtlfjlokfciejnaaGreatDoorCJ15
import Derived.Test.YtlfjlokfciejnaaGreatDoorCJ13
import Derived.Test.YtlfjlokfciejnaaGreatDoorCJ18
import Derived.Test.YtlfjlokfciejnaaGreatDoorRows
import Derived.Test.YtlfjlokfciejnaaGreatDoorCards
import Derived.Test.YtlfjlokfciejnaaGreatDoorTie
import Derived.WalkKit
import Derived.ProofKit
import Derived.OpenShut
import Derived.JoinedCond
import Derived.LaidMore
import Derived.Stop.Joined
import Derived.SevenTiedAt
import Derived.Stop.LaidErr
import Derived.Lib.LaidTab
import Derived.Lib.Space
set_option maxRecDepth 20000
set_option maxHeartbeats 4000000
set_option linter.unusedSectionVars false
set_option linter.unusedVariables false
set_option linter.unusedSimpArgs false
namespace Go.Gr.P
open Go.Abs Go.Proofs List
theorem RG{α:Type}(q:α->Bool):∀(l:List α) (i:Nat),(l.find? q=none/\fi q i l= -1)\/∃(n:Nat) (h:n<l.length),l.find? q=some l[n]/\fi q i l=(i+n:Nat)
|[],i=>.inl ⟨rfl,rfl⟩
| x::l,i=>by
 rw[find?_cons,fi];cases hq:q x with
 |true=>exact .inr ⟨0,by simp,by simp,by simp⟩
 | false=>
  simp only;rcases RG q l (i+1)with⟨h1,h2⟩|⟨n,hn,h1,h2⟩
  ·exact .inl ⟨h1,by simpa using h2⟩
  ·refine .inr ⟨n+1,by simpa using hn,by simpa using h1,?_⟩;simp only[ai,if_false,h2];omega
theorem zmh(t:gq)(i:Nat):gu Pg 145 [.agg t.enc,.one (.int .i64 i)] (.tup [.agg ((rE t i).getD (qA 0)).enc,.one (.bool (rE t i).isSome)]):=by
 refine zhC (by simp) λo c hN hp=>?_;have he:(qA 0).enc=[.int .i64 0,.str (bs []),.sl false 1 [],.sl false 4 []]:=rfl;have hi0:¬((i:Int)<0):=by omega
 have hi:=λl=>zmg l 169 [.rp [.int .i64 i] 0] (λx=>decide (iN x=i)) λx _=>zk5 x i;by_cases h7:t.kind=7
 ·have hm:rE t i=t.kids.find? λx=>decide (iN x=i):=by unfold rE;rw[aC h7]
  have hi:=hi t.kids;rcases RG (λx=>decide (iN x=i)) t.kids 0 with⟨h1,h2⟩|⟨n,hn,h1,h2⟩
  ·rw[hm,h1];rw[h2]at hi;unfold HZ;simp[h7];refine gp hi ?_;simp[he]
  ·rw[hm,h1];rw[h2]at hi;have hn0:¬((n:Int)<0):=by omega
   unfold HZ;simp[h7];simp at hi;refine gp hi ?_;simp[hn0,hi0,aA hn]
 ·have hm:rE t i=[t].find? λx=>decide (iN x=i):=by unfold rE;rw[aB h7]
  have hl:gu Pg 168 [.one (.sl true 4 [t.enc]),.one (.fn (.func 169) [.rp [.int .i64 i] 0])] (.one (.int .i64 (fi (λx=>decide (iN x=i)) 0 [t]))):=gu.erd (hi [t]) (by simp[DV.erds,DV.erd,D.erd,D.erdE,D.erdL,gq.erdL]);rcases RG (λx=>decide (iN x=i)) [t] 0 with⟨h1,h2⟩|⟨n,hn,h1,h2⟩
  ·rw[hm,h1];rw[h2]at hl;unfold HZ;simp[h7];refine gp hl ?_;simp[he]
  ·have hn':n=0:=by simpa using hn
   subst hn';rw[hm,h1];rw[h2]at hl;unfold HZ;simp[h7];refine gp hl ?_;simp[hi0]
theorem zK(t:gq)(i:Nat)(h6:i<6):gu Pg 98 [.agg t.enc,.one (.int .i64 i)] (.tup [.agg ((kU t i).getD (qA 0)).enc,.one (.bool (decide (t.kind=0/\i=4))),.one (.bool (kU t i).isSome)]):=by
 by_cases q:t.kind=0
 ·have hw:IntKind.i64.wrap (1+(i:Int))=i+1:=by rw[wI];omega
  have hp:kU t i=some (nM i):=by unfold kU;rw[aC q]
  rw[hp];have h4:decide ((i:Int)=4)=decide (i=4):=by rw[decide_eq_decide];omega
  by_cases q5:i=5
  ·subst q5;refine gu.erdV (v:=.tup [.agg [.int .i64 6,.str (bs []),.sl false 1 [],.sl false 4 [[.int .i64 0,.str (bs []),.sl true 1 [],.sl true 4 []],[.int .i64 0,.str (bs []),.sl true 1 [],.sl true 4 []]]],.one (.bool false),.one (.bool true)]) ?_ (by simp[DV.erd,DV.erds,D.erd,D.erdL,D.erdE,nM,qA,gq.enc,gq.encs,encS]);refine QN (by simp) λo c hN hp=>?_;unfold KS;simp;refine gp (Df t) ?_;simp at hw;simp[q,hw]
  ·have hi5:¬((i:Int)=5):=by omega
   have he:(nM i).enc=[.int .i64 (i+1),.str (bs []),.sl false 1 [],.sl false 4 []]:=by simp[nM,q5,gq.enc,gq.encs,encS]
   refine QN (by simp) λo c hN hp=>?_;unfold KS;simp;refine gp (Df t) ?_;rw[he];simp[q,hw,hi5,h4]
 ·have hp:kU t i=rE t i:=by unfold kU;rw[aB q]
  rw[hp];refine QN (by simp) λo c hN hp=>?_;unfold KS;simp;refine gp (Df t) ?_;simp[q];refine gp (zmh t i) ?_;simp[q]
theorem Pp(n:Nat):((n^^^1:Nat):Int)=mV n:=by
 have h1:(n^^^1)/2=n/2:=by rw[Nat.xor_div_two];simp
 have h2:(n^^^1)%2=(n+1)%2:=by
  have:=Nat.xor_mod_two_pow (a:=n) (b:=1) (n:=1);simp only[Nat.pow_one]at this;rw[this];have h:n%2=0\/n%2=1:=by omega
  rcases h with h|h<;>rw[h]<;>simp<;>omega
 unfold mV;split<;>omega
theorem Jz{lb:Int}(h0:0<=lb)(h1:lb<=9223372036854775807):IntKind.i64.wrap (((lb%2^IntKind.i64.bits).toNat^^^1%2^IntKind.i64.bits:Nat):Int)=mV lb:=by
 obtain⟨n,rfl⟩:∃n:Nat,lb=n:=⟨lb.toNat,by omega⟩
 have e1:(((n:Int)%2^IntKind.i64.bits).toNat)=n:=by
  show((n:Int)%18446744073709551616).toNat=n;omega
 have e2:1%2^IntKind.i64.bits=1:=rfl;rw[e1,e2,Pp];have h2:mV (n:Int)<=9223372036854775807/\0<=mV (n:Int):=by unfold mV;split<;>omega
 exact wI
theorem Pt{lb:Int}(h0:0<=lb)(h1:lb<=9223372036854775807):0<=mV lb/\mV lb<=9223372036854775807:=by unfold mV;split<;>omega
def BM(a b:gq)(i:Nat):Prop:=(kU a i).isSome=true/\(kU b i).isSome=true
instance (a b:gq) (i:Nat):Decidable (BM a b i):=inferInstanceAs (Decidable (_/\_))
def pF(i:Nat)(a b:gq)(j:Nat)(x y:D):D:=if i<j/\BM a b i then x else y
theorem Dk{i:Nat}{a b:gq}{j:Nat}(h:j≠i\/¬BM a b i)(x y:D):pF i a b (j+1) x y=pF i a b j x y:=by
 unfold pF;by_cases q:BM a b i
 ·have hj:=h.resolve_right (λn=>n q);by_cases r:i<j
  ·rw[aC ⟨by omega,q⟩,aC ⟨r,q⟩]
  ·rw[aB (λe=>by omega),aB (λe=>by omega)]
 ·rw[aB (λe=>q e.2),aB (λe=>q e.2)]
theorem Dl{i:Nat}{a b:gq}{j:Nat}(h:j<=i)(x y:D):pF i a b j x y=y:=by
 unfold pF;rw[aB (λe=>by omega)]
theorem Kj{i:Nat}{a b:gq}{j:Nat}(h:i<j)(q:BM a b i)(x y:D):pF i a b j x y=x:=by
 unfold pF;rw[aC ⟨h,q⟩]
section
variable (v:gq->gq->Int->gy) (a b:gq) (lb:Int)
abbrev CP(j:Nat):D:=pF 4 a b j (.sl false 2 (iF (xw a b lb))) (.sl true 2 [])
abbrev CQ(j:Nat):D:=pF 4 a b j (.sl false 1 (encS ((rH v a b lb).map (·.1)))) (.sl true 1 [])
abbrev CR(j:Nat):D:=pF 4 a b j (.sl false 5 ((rH v a b lb).map (·.2.enc))) (.sl true 5 [])
abbrev Dm(j:Nat):D:=pF 5 a b j (.sl true 5 ((xB v a b lb).map gy.enc)) (.sl true 5 [])
abbrev Hq(j:Nat):Blk:=.box [.msl 1 1 0 6,.d (CP a b lb j),.d (CQ v a b lb j),.d (CR v a b lb j),.d (Dm v a b lb j)]
end
theorem zBE(a b:gq)(lb:Int){j:Nat}(h:j<6):(lF a b lb)[j]'(by simpa[lF]using h)=ut a b lb j:=by
 match j,h with
 |0,_|1,_|2,_|3,_|4,_|5,_=>rfl
theorem zHa{L:List Int}(hL:L.length=6){j:Nat}(h:j<6)(h0:L[j]=0):nR L (j+1)=nR L j:=by
 obtain⟨a,b,c,d,e,f,rfl⟩:=six hL
 match j,h with
 |0,_|1,_|2,_|3,_|4,_|5,_=>simp at h0;subst h0;rfl
abbrev Ht(a b:gq)(lb:Int):List (Nat × AV):=[(2,.c (.d (.int .i64 lb))),(3,.c (.d (.rp a.enc 0))),(4,.c (.d (.rp b.enc 0))),(6,.c (.ptr 0 0)),(7,.c (.ptr 2 0))]
theorem zHA{c:Ctx}(hp:c.pure)(v:gq->gq->Int->gy)(a b:gq)(lb:Int)(ga:nJ a)(gb:nJ b)(hne:¬(a.kind=0/\b.kind=0))(l0:0<=lb)(l1:lb<=9223372036854775807)
  (H4:∀m k,kU a 4=some m->kU b 4=some k->∀s,s∈vI (decide (a.kind=0)) (decide (b.kind=0)) m k->gu Pg 62 [.agg (kidO m s).enc,.agg (kidO k s).enc,.one (.int .i64 lb)] (.agg (v (kidO m s) (kidO k s) lb).enc))
  (H5:∀m k,kU a 5=some m->kU b 5=some k->gu Pg 62 [.agg (kd k 0).enc,.agg (kd m 0).enc,.one (.int .i64 (mV lb))] (.agg (v (kd k 0) (kd m 0) (mV lb)).enc)/\gu Pg 62 [.agg (kd m 1).enc,.agg (kd k 1).enc,.one (.int .i64 lb)] (.agg (v (kd m 1) (kd k 1) lb).enc))
  {Q:Exit->St->Prop} {S:St} {g}
  (h0:iM [0,1,2] S ((23,.c (.d (.int .i64 0)))::Ht a b lb) [jq,uI lL,Qw])
  (hQ:∀T,Abs.look T 6=.c (.ptr 0 0)->Abs.look T 7=.c (.ptr 2 0)->Q (.exit 0) ⟨T,hpOf [jq,uI (lF a b lb),Hq v a b lb 6],3⟩):lU Pg c QL Q g S:=by
 have hL:(lF a b lb).length=6:=rfl
 refine fU iC hp (λj:Nat=>j<=6) (λj=>(23,.c (.d (.int .i64 j)))::Ht a b lb) (λj=>[jq,uI (nR (lF a b lb) j),Hq v a b lb j]) (λj=>6-j) 0 [0,1,2] (by simp)
  (by simpa[Dl,nR,lL]using h0) λj h1=>?_
 unfold QL;simp;apply gT<;>intro h
 ·have hj:j<6:=by simp at h;omega
  have hup:(nR (lF a b lb) j).length=6:=by simp[nR,hL];omega
  have hju:j<(nR (lF a b lb) j).length:=by omega
  have hset:∀x,x=ut a b lb j->(encI (nR (lF a b lb) j)).set j [.int .i64 x]=encI (nR (lF a b lb) (j+1)):=λx e=>by
   rw[e,<-Jk,<-zBE a b lb hj,Ph hL hj]
  have hsame:ut a b lb j=0->nR (lF a b lb) (j+1)=nR (lF a b lb) j:=λe=>zHa hL hj (by rw[zBE a b lb hj,e]);refine gp (zK a j hj) ?_;simp;refine gp (zK b j hj) ?_;simp;cases ha:kU a j with
  |none=>
   have ht:ut a b lb j=0:=by unfold ut;rw[ha]
   have hb:¬BM a b j:=λe=>by have:=e.1;rw[ha]at this;cases this
   have hs4:∀x y,pF 4 a b (j+1) x y=pF 4 a b j x y:=λx y=>Dk (by by_cases q:j=4;exact .inr (q▸hb);exact .inl q) x y;have hs5:∀x y,pF 5 a b (j+1) x y=pF 5 a b j x y:=λx y=>Dk (by by_cases q:j=5;exact .inr (q▸hb);exact .inl q) x y;simp;refine fe [] ?_;simp only[wQ];simp;refine fJ (j+1) [0,1,2] (by omega) (by omega) ?_;simp[hsame ht,hs4,hs5];exact wI
  | some m=>
   cases hbk:kU b j with
   |none=>
    have ht:ut a b lb j=lb:=by unfold ut;rw[ha,hbk]
    have hb:¬BM a b j:=λe=>by have:=e.2;rw[hbk]at this;cases this
    have hs4:∀x y,pF 4 a b (j+1) x y=pF 4 a b j x y:=λx y=>Dk (by by_cases q:j=4;exact .inr (q▸hb);exact .inl q) x y;have hs5:∀x y,pF 5 a b (j+1) x y=pF 5 a b j x y:=λx y=>Dk (by by_cases q:j=5;exact .inr (q▸hb);exact .inl q) x y;simp[aA hju];refine⟨by omega,?_⟩;refine fe [] ?_;simp only[wQ];simp;refine fJ (j+1) [0,1,2] (by omega) (by omega) ?_;simp[hs4,hs5];refine⟨wI,?_⟩;rw[<-hset lb ht.symm];simp[fA]
   | some k=>
    have ht:ut a b lb j=0:=by unfold ut;rw[ha,hbk]
    have hb:BM a b j:=⟨by rw[ha];rfl,by rw[hbk];rfl⟩
    by_cases j5:j=5
    ·subst j5;obtain⟨tm,gm,nm7,_⟩:=CO ga (by omega) ha;obtain⟨tk,gk,nk7,_⟩:=CO gb (by omega) hbk;have lm:=(Bo gm.1 nm7).2.2 (by omega);have lk:=(Bo gk.1 nk7).2.2 (by omega);have g0:∀{t:gq},t.kids.length=2->t.kids[0]?=some (kd t 0)/\t.kids[1]?=some (kd t 1):=λ{t} hl=>by
      unfold kd
      match t.kids,hl with
      |[a,b],_=>exact⟨rfl,rfl⟩
     obtain⟨m0,m1⟩:=g0 lm;obtain⟨k0,k1⟩:=g0 lk;obtain⟨c0,c1⟩:=H5 m k ha hbk;have hfn:xB v a b lb=lM (v (kd k 0) (kd m 0) (mV lb)) (v (kd m 1) (kd k 1) lb):=by unfold xB;rw[ha,hbk]
     have hx:=Jz l0 l1;have e4:∀x y,pF 4 a b 6 x y=pF 4 a b 5 x y:=λx y=>Dk (.inl (by decide)) x y;have f5:Dm v a b lb 5=.sl true 5 []:=Dl (by omega) _ _;have f6:Dm v a b lb 6=.sl true 5 ((lM (v (kd k 0) (kd m 0) (mV lb)) (v (kd m 1) (kd k 1) lb)).map gy.enc):=by rw[<-hfn];exact Kj (by omega) hb _ _
     have g2:CP a b lb 6=CP a b lb 5:=e4 _ _;have g3:CQ v a b lb 6=CQ v a b lb 5:=e4 _ _;have g4:CR v a b lb 6=CR v a b lb 5:=e4 _ _;have hf:=zHU (CP a b lb 5) (CQ v a b lb 5) (CR v a b lb 5) (nR (lF a b lb) 5) hup (v (kd k 0) (kd m 0) (mV lb)) (v (kd m 1) (kd k 1) lb);clear hfn e4;generalize kd m 0=M0 at*
     generalize kd m 1=M1 at*
     generalize kd k 0=K0 at*
     generalize kd k 1=K1 at*
     simp[m0,m1,k0,k1];rw[hx];refine gp c0 ?_;simp[m0,m1,k0,k1];refine gp c1 ?_;simp;refine gY [2,1] hf (by simp[f5]) ?_;simp;refine⟨by decide,?_⟩;refine fe [] ?_;simp only[wQ];simp;refine fJ 6 [0,1,2] (by omega) (by omega) ?_;simp[hsame ht,f6,g2,g3,g4];exact wI
    ·by_cases j4:j=4
     ·subst j4;obtain⟨tm,gm,nm7,_⟩:=CO ga (by omega) ha;obtain⟨tk,gk,nk7,_⟩:=CO gb (by omega) hbk;have hc:=zHV v m k gm gk (decide (a.kind=0)) (decide (b.kind=0)) (λe=>by
       simp only[aI]at e;unfold kU at hbk;rw[aC e]at hbk
       simp only[af]at hbk;rw[<-hbk];rfl) (λe=>by
       simp only[aI]at e;unfold kU at ha;rw[aC e]at ha
       simp only[af]at ha;rw[<-ha];rfl) lb (nR (lF a b lb) 4) hup (H4 m k ha hbk)
      have hnd:xw a b lb=rF lb m k:=by unfold xw;rw[ha,hbk]
      have hfd:rH v a b lb=rG v (decide (a.kind=0)) (decide (b.kind=0)) m k lb:=by unfold rH;rw[ha,hbk]
      rw[<-hnd,<-hfd]at hc;have g4:CP a b lb 4=.sl true 2 []/\CQ v a b lb 4=.sl true 1 []/\CR v a b lb 4=.sl true 5 []/\Dm v a b lb 4=.sl true 5 []:=⟨Dl (by omega) _ _,Dl (by omega) _ _,Dl (by omega) _ _,Dl (by omega) _ _⟩
      have g5:CP a b lb 5=.sl false 2 (iF (xw a b lb))/\CQ v a b lb 5=.sl false 1 (encS ((rH v a b lb).map (·.1)))/\CR v a b lb 5=.sl false 5 ((rH v a b lb).map (·.2.enc))/\Dm v a b lb 5=.sl true 5 []:=⟨Kj (by omega) hb _ _,Kj (by omega) hb _ _,Kj (by omega) hb _ _,Dl (by omega) _ _⟩
      clear hnd hfd;generalize rH v a b lb=L at*
      generalize xw a b lb=N at*
      have ht1:(encS (L.map (·.1))).take L.length=encS (L.map (·.1)):=aD (by simp);have ht2:(L.map λx=>x.2.enc).take L.length=L.map λx=>x.2.enc:=aD (by simp);simp;refine gY [2,1] hc (by simp[g4]) ?_;simp;refine fe [5,6] ?_;simp[iT,ht1,ht2];refine fJ 5 [0,1,2] (by omega) (by omega) ?_;simp[hsame ht,g5,iT,ht1,ht2];exact wI
     ·have j5':¬((j:Int)=5):=by omega
      have j4':¬((j:Int)=4):=by omega
      have hs4:∀x y,pF 4 a b (j+1) x y=pF 4 a b j x y:=λx y=>Dk (.inl j4) x y;have hs5:∀x y,pF 5 a b (j+1) x y=pF 5 a b j x y:=λx y=>Dk (.inl j5) x y;simp[j5',j4'];refine fe [] ?_;simp only[wQ];simp;refine fJ (j+1) [0,1,2] (by omega) (by omega) ?_;simp[hsame ht,hs4,hs5];exact wI
 ·have hj:j=6:=by simp at h;omega
  subst hj;have hup:nR (lF a b lb) 6=lF a b lb:=by unfold nR;rw[aD (by omega)];simp
  rw[hup];exact hQ _ (by simp) (by simp)
theorem zHb(v:gq->gq->Int->gy)(a b:gq)(lb:Int)(ga:nJ a)(gb:nJ b)(l0:0<=lb)(l1:lb<=9223372036854775807)
  (H4:¬(a.kind=0/\b.kind=0)->∀m k,kU a 4=some m->kU b 4=some k->∀s,s∈vI (decide (a.kind=0)) (decide (b.kind=0)) m k->gu Pg 62 [.agg (kidO m s).enc,.agg (kidO k s).enc,.one (.int .i64 lb)] (.agg (v (kidO m s) (kidO k s) lb).enc))
  (H5:¬(a.kind=0/\b.kind=0)->∀m k,kU a 5=some m->kU b 5=some k->gu Pg 62 [.agg (kd k 0).enc,.agg (kd m 0).enc,.one (.int .i64 (mV lb))] (.agg (v (kd k 0) (kd m 0) (mV lb)).enc)/\gu Pg 62 [.agg (kd m 1).enc,.agg (kd k 1).enc,.one (.int .i64 lb)] (.agg (v (kd m 1) (kd k 1) lb).enc)):
  gu Pg 62 [.agg a.enc,.agg b.enc,.one (.int .i64 lb)] (.agg (rJ v a b lb).enc):=by
 refine zz3 (by simp) λo c hN hp=>?_;by_cases hd:a.kind=0/\b.kind=0
 ·have e:rJ v a b lb=idC:=by unfold rJ;rw[aC hd]
  have hE:idC.enc=[.sl false 1 (encI lL),.sl false 2 [],.sl false 1 [],.sl false 5 [],.sl false 5 []]:=rfl;have htk:(encI lL).take 6=encI lL:=rfl;have hl6:lL.length=6:=rfl;rw[e,hE];unfold QM;simp;refine gU [] H7 ?_;simp;refine gp (Df a) ?_;simp[hd.1];refine gp (Df b) ?_;simp[hd.2,htk,hl6]
 ·have e:rJ v a b lb=.mk (lF a b lb) (xw a b lb) ((rH v a b lb).map (·.1)) ((rH v a b lb).map (·.2)) (xB v a b lb):=by unfold rJ;rw[aB hd]
  have hE:(rJ v a b lb).enc=[.sl false 1 (encI (lF a b lb)),.sl false 2 (iF (xw a b lb)),.sl false 1 (encS ((rH v a b lb).map (·.1))),.sl false 5 ((rH v a b lb).map (·.2.enc)),.sl false 5 ((xB v a b lb).map gy.enc)]:=by
   rw[e,gy.enc_eq];simp only[gy.tags,gy.needs,gy.names,gy.fields,gy.fn,bv,Function.comp_def]
  have htk:(encI (lF a b lb)).take 6=encI (lF a b lb):=rfl;have hl6:(lF a b lb).length=6:=rfl;have e2:(CP a b lb 6).er=.sl false 2 (iF (xw a b lb)):=by
   unfold CP pF;split
   ·rfl
   ·rename_i q;have:xw a b lb=[]:=by
     unfold xw;cases h1:kU a 4 with
     |none=>rfl
     |some m=>
      cases h2:kU b 4 with
      |none=>rfl
      |some k=>exact absurd ⟨by omega,by rw[h1];rfl,by rw[h2];rfl⟩ q
    rw[this];try rfl
  have e34:BM a b 4\/rH v a b lb=[]:=by
   unfold rH;cases h1:kU a 4 with
   |none=>exact .inr rfl
   |some m=>
    cases h2:kU b 4 with
    |none=>exact .inr rfl
    |some k=>exact .inl ⟨by rw[h1];rfl,by rw[h2];rfl⟩
  have e3:(CQ v a b lb 6).er=.sl false 1 (encS ((rH v a b lb).map (·.1))):=by
   unfold CQ pF;split
   ·rfl
   ·rename_i q;rw[e34.resolve_left λh=>q ⟨by omega,h⟩];try rfl
  have e4:(CR v a b lb 6).er=.sl false 5 ((rH v a b lb).map (·.2.enc)):=by
   unfold CR pF;split
   ·rfl
   ·rename_i q;rw[e34.resolve_left λh=>q ⟨by omega,h⟩];try rfl
  have e5:(Dm v a b lb 6).er=.sl false 5 ((xB v a b lb).map gy.enc):=by
   unfold Dm pF;split
   ·rfl
   ·rename_i q;have:xB v a b lb=[]:=by
     unfold xB;cases h1:kU a 5 with
     |none=>rfl
     |some m=>
      cases h2:kU b 5 with
      |none=>rfl
      |some k=>exact absurd ⟨by omega,by rw[h1];rfl,by rw[h2];rfl⟩ q
    rw[this];try rfl
  rw[hE];unfold QM;simp;refine gU [] H7 ?_;simp;refine gp (Df a) ?_;simp;apply gT<;>intro h
  ·refine gp (Df b) ?_;have hm:¬b.kind=0:=λe=>hd ⟨of_decide_eq_true h,e⟩;simp[hm];refine zHA hp v a b lb ga gb hd l0 l1 (H4 hd) (H5 hd) (by simp) λT e6 e7=>?_;simp[e6,e7,htk,hl6,e2,e3,e4,e5]
  ·refine zHA hp v a b lb ga gb hd l0 l1 (H4 hd) (H5 hd) (by simp) λT e6 e7=>?_;simp[e6,e7,htk,hl6,e2,e3,e4,e5]
theorem Kk:∀(n:Nat) (a b:gq) (lb:Int),nJ a->nJ b->jD a+jD b<=n+1->0<=lb->lb<=9223372036854775807->gu Pg 62 [.agg a.enc,.agg b.enc,.one (.int .i64 lb)] (.agg (uA n a b lb).enc)
|0,a,b,lb,ga,gb,hd,_,_=>by have:=x9 a;have:=x9 b;omega
| n +1,a,b,lb,ga,gb,hd,l0,l1=>by
 rw[uA];have hfl:=Pt l0 l1;have ha1:=x9 a;have hb1:=x9 b;refine zHb (uA n) a b lb ga gb l0 l1 (λhne m k h1 h2 s hs=>?_) λhne m k h1 h2=>?_
 ·obtain⟨_,gm,_,dm⟩:=CO ga (by omega) h1;obtain⟨_,gk,_,dk⟩:=CO gb (by omega) h2;have hm:s∈m.names->(a.kind=0/\jD (kidO m s)=1)\/(a.kind≠0/\jD (kidO m s)<jD a):=λh=>(dm _ (zCI gm h)).imp (λq=>⟨q.1,by rw[q.2];rfl⟩) λq=>q;have hk:s∈k.names->(b.kind=0/\jD (kidO k s)=1)\/(b.kind≠0/\jD (kidO k s)<jD b):=λh=>(dk _ (zCI gk h)).imp (λq=>⟨q.1,by rw[q.2];rfl⟩) λq=>q;have am:a.kind=0->jD (kidO m s)=1:=λe=>by
   by_cases q:s∈m.names
   ·rcases hm q with r|r
    ·exact r.2
    ·exact absurd e r.1
   ·rw[Kg q];try rfl
  have bk:b.kind=0->jD (kidO k s)=1:=λe=>by
   by_cases q:s∈k.names
   ·rcases hk q with r|r
    ·exact r.2
    ·exact absurd e r.1
   ·rw[Kg q];try rfl
  refine Kk n _ _ lb (zzB gm s) (zzB gk s) ?_ l0 l1;unfold vI at hs;split at hs
  ·rename_i e;simp only[aI]at e;have:=bk e;have ha0:a.kind≠0:=λq=>hne ⟨q,e⟩;rcases hm hs with r|r
   ·exact absurd r.1 ha0
   ·omega
  ·rename_i e;simp only[aI]at e;split at hs
   ·rename_i e';simp only[aI]at e';have:=am e';rcases hk hs with r|r
    ·exact absurd r.1 e
    ·omega
   ·rename_i e';simp only[aI]at e';rw[bB,aI]at hs;rcases hm hs.2 with r|r
    ·exact absurd r.1 e'
    ·rcases hk hs.1 with r'|r'
     ·exact absurd r'.1 e
     ·omega
 ·obtain⟨tm,gm,nm7,dm⟩:=CO ga (by omega) h1;obtain⟨tk,gk,nk7,dk⟩:=CO gb (by omega) h2;have lm:=(Bo gm.1 nm7).2.2 (by omega);have lk:=(Bo gk.1 nk7).2.2 (by omega);have hm:∀j,j<2->(a.kind=0/\jD (kd m j)=1)\/(a.kind≠0/\jD (kd m j)<jD a):=λj hj=>(dm _ (Kc (by omega))).imp (λq=>⟨q.1,by unfold kd;rw[q.2];rfl⟩) λq=>q;have hk:∀j,j<2->(b.kind=0/\jD (kd k j)=1)\/(b.kind≠0/\jD (kd k j)<jD b):=λj hj=>(dk _ (Kc (by omega))).imp (λq=>⟨q.1,by unfold kd;rw[q.2];rfl⟩) λq=>q;have hsum:∀i j,i<2->j<2->jD (kd m i)+jD (kd k j)<=n+1:=λi j hi hj=>by
   rcases hm i hi with r|r<;>rcases hk j hj with r'|r'
   ·exact absurd ⟨r.1,r'.1⟩ hne
   ·omega
   ·omega
   ·omega
  refine⟨Kk n _ _ _ (Ke gk 0) (Ke gm 0) ?_ hfl.1 hfl.2,Kk n _ _ _ (Ke gm 1) (Ke gk 1) (hsum 1 1 (by omega) (by omega)) l0 l1⟩;have:=hsum 0 0 (by omega) (by omega);omega
theorem Kl:ul.enc=[.sl false 1 [],.sl false 2 [],.sl false 1 [],.sl false 5 [],.sl false 5 []]:=rfl
end Go.Gr.P
namespace Go.Gr.P
open Go.Abs Go.Proofs
def Km(N:Nat)(a b:gq)(lb:Int):gy:=if lb=0\/lb=1\/zz a=false\/zz b=false then ul else uA N a b lb
theorem zKC(N:Nat)(a b:gq)(lb:Int)(hd:jD a+jD b<=N+1)(l0:0<=lb)(l1:lb<=9223372036854775807):
  gu Pg 36 [.agg a.enc,.agg b.enc,.one (.int .i64 lb)] (.agg (Km N a b lb).enc):=by
 refine zz2 (by simp) λo c hN hp=>?_;unfold zt2 Km;by_cases e0:lb=0
 ·rw[aC (.inl e0),Kl];simp[e0]
 by_cases e1:lb=1
 ·rw[aC (.inr (.inl e1)),Kl];simp[e1]
 simp[e0,e1];refine gp (zzM a) ?_;cases ha:zz a with
 |false=>
  simp[Kl]
 | true=>
  simp;refine gp (zzM b) ?_;cases hb:zz b with
  |false=>
   simp[Kl]
  |true=>
   simp;refine gp (Kk N a b lb (zBa ha) (zBa hb) hd l0 l1) ?_;simp[e0,e1]
end Go.Gr.P
namespace Go.Gr
open Go.Abs Go.Proofs List
theorem zFJ{α:Type}(q:α->Bool):∀(l:List α) (j:Nat),P.fi q j l= -1\/(j:Int)<=P.fi q j l
|[],j=>.inl rfl
| x::l,j=>by
 rw[P.fi];split
 ·exact .inr (by omega)
 ·rcases zFJ q l (j+1)with h|h
  ·exact .inl h
  ·exact .inr (by omega)
theorem zzS(s:fI):∀(ns:List fI) (ks:List gq) (j:Nat),ns.length<=ks.length->
 (if 0<=P.fi (λx=>decide (s=x)) j ns then ks.getD ((P.fi (λx=>decide (s=x)) j ns).toNat-j) noT else noT)=(oJ ns ks s).1/\((oJ ns ks s).2=true↔s∈ns)
|[],ks,j,_=>by
 rw[P.fi,aB (by omega),oJ]
 ·simp
 ·intros;contradiction
|n::ns,[],j,h=>by simp at h
| n::ns,k::ks,j,h=>by
 have ih:=zzS s ns ks (j+1) (by simpa using h);rw[P.fi,oJ];by_cases e:n=s
 ·subst e;simp
 ·have e':¬s=n:=λx=>e x.symm;simp only[e',decide_false,ai,if_false,aB e,aN,false_or];refine⟨?_,ih.2⟩;rw[<-ih.1];rcases zFJ (λx=>decide (s=x)) ns (j+1)with q|q
  ·rw[q];simp
  ·have h1:(P.fi (λx=>decide (s=x)) (j+1) ns).toNat-j=((P.fi (λx=>decide (s=x)) (j+1) ns).toNat-(j+1))+1:=by omega
   rw[h1,getD_cons_succ]
theorem zzT{k:gq}(hl:k.names.length<=k.kids.length)(s:fI):P.kidO k s=(je k s).1/\((je k s).2=true↔s∈k.names):=by
 have h:=zzS s k.names k.kids 0 hl;refine⟨?_,h.2⟩;rw[je,<-h.1];unfold P.kidO P.wJ;simp only[eP];split<;>rfl
theorem RH:∀(ns:List fI) (ks:List gq),ns.Nodup->ns.length=ks.length->ns.zip ks=ns.map λs=>(s,(oJ ns ks s).1)
|[],[],_,_=>rfl
|[],_::_,_,h=>by simp at h
|_::_,[],_,h=>by simp at h
| n::ns,k::ks,hn,h=>by
 have hn':=bf.1 hn;have ih:=RH ns ks hn'.2 (by simpa using h);rw[zip_cons_cons,ih,map_cons];have e:∀s,s∈ns->(oJ (n::ns) (k::ks) s).1=(oJ ns ks s).1:=λs hs=>by
  rw[oJ,aB (λe=>hn'.1 (by rw[e];exact hs))]
 rw[show(oJ (n::ns) (k::ks) n).1=k from by rw[oJ,aC rfl]];congr 1;exact bg λs hs=>by rw[e s hs]
theorem zFK(x:fI × gy)(l:List (fI × gy)):busy (x::l)=if jX x.2 idC=true then busy l else x::busy l:=by
 unfold busy;rw[dS];by_cases h:jX x.2 idC=true<;>simp[h]
def qB(C:gy)(l:List (fI × gy)):gy:=.mk C.tags C.needs (C.names++l.map (·.1)) (C.fields++l.map (·.2)) C.fn
def addN(C:gy)(l:List (fI × Int)):gy:=.mk C.tags (C.needs++l) C.names C.fields C.fn
theorem RJ(C:gy):qB C []=C:=by cases C;simp[qB,gy.tags,gy.needs,gy.names,gy.fields,gy.fn]
theorem zBQ(C:gy):addN C []=C:=by cases C;simp[addN,gy.tags,gy.needs,gy.names,gy.fields,gy.fn]
theorem RL(C:gy)(k:fI)(d:gy)(l:List (fI × gy)):qB (jB C k d) (busy l)=qB C (busy ((k,d)::l)):=by
 rw[zFK];unfold jB;by_cases h:jX d idC=true
 ·simp[h]
 ·simp[h,qB,gy.tags,gy.needs,gy.names,gy.fields,gy.fn]
theorem zFL(v:gq->gq->Int->gy)(lb:Int):∀(ns:List fI) (ks:List gq) (C:gy),nS v lb ns ks C=qB C (busy ((ns.zip ks).map λx=>(x.1,v x.2 noT lb)))
|[],ks,C=>by rw[nS];simp[busy,RJ];intros;contradiction
|_::_,[],C=>by rw[nS];simp[busy,RJ];intros;contradiction
|n::ns,k::ks,C=>by
 rw[nS,zFL v lb ns ks,RL];try rfl
theorem zFM(C:gy)(k:fI)(d:gy)(lb:Int):jB (mh C k lb) k d=mh (jB C k d) k lb:=by
 unfold jB mh;split<;>rfl
theorem zzU(C:gy)(k:fI)(lb:Int)(m:List (fI × Int)):addN (mh C k lb) m=addN C ((k,lb)::m):=by
 simp[addN,mh,gy.tags,gy.needs,gy.names,gy.fields,gy.fn]
theorem zFN(v:gq->gq->Int->gy)(m:ik)(lb:Int):∀(ns:List fI) (ks:List gq) (C:gy),ns.length=ks.length->
 nT v m lb ns ks C=addN (qB C (busy (((ns.zip ks).filter λx=>(je m.t x.1).2||m.opn).map λx=>(x.1,v (je m.t x.1).1 x.2 lb)))) ((ns.filter λs=> !(je m.t s).2).map λs=>(s,lb))
|[],ks,C,_=>by rw[nT];simp[busy,RJ,zBQ];intros;contradiction
|_::_,[],C,h=>by simp at h
| n::ns,k::ks,C,h=>by
 have ih:=zFN v m lb ns ks;rw[nT,ih _ (by simpa using h)];rw[zip_cons_cons,dS,dS];by_cases h1:(je m.t n).2=true
 ·simp only[h1,Bool.true_eq_false,if_false,true_or,if_true,eF,Bool.not_true,ai,map_cons,RL]
 ·have h1':(je m.t n).2=false:=by simpa using h1
  by_cases h2:m.opn=true
  ·simp only[h1',h2,ai,false_or,if_true,d9,Bool.not_false,map_cons,zFM];rw[show∀(D:gy) (l:List (fI × gy)),qB (mh D n lb) l=mh (qB D l) n lb fromλD l=>rfl,RL,zzU]
  ·have h2':m.opn=false:=by simpa using h2
   simp only[h1',h2',ai,or_self,if_false,if_true,Bool.or_self,Bool.not_false,map_cons];rw[show∀(D:gy) (l:List (fI × gy)),qB (mh D n lb) l=mh (qB D l) n lb fromλD l=>rfl,zzU]
theorem zJc(v:gq->gq->Int->gy)(m n:ik)(lb:Int)(C:gy)(hm:NF m.t)(hn:NF n.t)(lm:m.t.names.length=m.t.kids.length)(ln:n.t.names.length=n.t.kids.length)(hno:n.opn=true->m.opn=false/\n.t.names=[]):
  q9 v m n lb C=addN (qB C (P.rG v m.opn n.opn m.t n.t lb)) (if n.opn=true then []else P.rF lb m.t n.t):=by
 have dm:m.t.names.Nodup:=rT ((wu _).1 hm.2).1;have dn:n.t.names.Nodup:=rT ((wu _).1 hn.2).1;have fm:=λs=>zzT (k:=m.t) (by omega) s;have fn:=λs=>zzT (k:=n.t) (by omega) s;unfold q9;by_cases ho:n.opn=true
 ·obtain⟨h1,h2⟩:=hno ho;rw[aC ho,aB (by rw[h1];simp),aC ho,zBQ,zFL,RH _ _ dm lm];unfold P.rG P.vI;rw[aC ho,bv];congr 2;refine bg λs hs=>?_;have e:P.kidO n.t s=noT:=by
   rw[(fn s).1,je,h2,oJ];intros;contradiction
  simp only[Function.comp_apply,e,(fm s).1];rfl
 ·rw[aB ho,aB ho,zFN _ _ _ _ _ _ ln,RH _ _ dn ln];have e1:(n.t.names.filter λs=> !(je m.t s).2).map (λs=>(s,lb))=P.rF lb m.t n.t:=by
   unfold P.rF;congr 1;refine filter_congr λs _=>?_;rw[dO];have:=(fm s).2;cases q:(je m.t s).2<;>simp[q]at this⊢<;>exact this
  rw[e1];congr 2;unfold P.rG P.vI;rw[aB ho];have e2:(filter (λx:fI × gq=>(je m.t x.1).2||m.opn) (n.t.names.map λs=>(s,(oJ n.t.names n.t.kids s).1)))=(if m.opn=true then n.t.names else n.t.names.filter λs=>decide (s∈m.t.names)).map λs=>(s,(oJ n.t.names n.t.kids s).1):=by
   rw[filter_map];congr 1;by_cases q:m.opn=true
   ·rw[aC q];exact List.filter_eq_self.2 λs _=>by simp[q]
   ·rw[aB q];refine filter_congr λs _=>?_;have q':m.opn=false:=by simpa using q
    rw[dO];simp[q',(fm s).2]
  rw[e2,bv];congr 1;refine bg λs hs=>?_;simp only[Function.comp_apply,(fm s).1,(fn s).1];rfl
theorem Hw{a:gq}(h:NF a){i:Nat}(hi:i<6):((kF a).find? λp=>decide (p.tag=(i:Int)))=(P.kU a i).map λt=>(⟨(i:Int),decide (a.kind=0/\i=4),t⟩:ik):=by
 by_cases h0:a.kind=0
 ·unfold kF P.kU;rw[aC h0,aC h0]
  match i,hi with
  |0,_|1,_|2,_|3,_|4,_|5,_=>simp[h0];rfl
 ·have hz:decide (a.kind=0/\i=4)=false:=by simp[h0]
  unfold kF P.kU P.rE;rw[aB h0,aB h0,hz];have key:∀l:List gq,((l.map λk=>(⟨iN k,false,k⟩:ik)).find? λp=>decide (p.tag=(i:Int)))=(l.find? λx=>decide (P.iN x=(i:Int))).map λt=>(⟨(i:Int),false,t⟩:ik):=λl=>by
   rw[find?_map];have e:((λp:ik=>decide (p.tag=(i:Int)))∘λk=>(⟨iN k,false,k⟩:ik))=λx=>decide (P.iN x=(i:Int)):=rfl;rw[e];cases q:l.find? λx=>decide (P.iN x=(i:Int))with
   |none=>rfl
   |some k=>
    have:=find?_some q;simp only[aI]at this;simp only[Option.map_some];rw[show iN k=i from this]
  by_cases h7:a.kind=7
  ·rw[aB (by omega),aC h7];exact key _
  ·rw[aC h7,aB h7];exact key [a]
theorem RO{b:gq}(h:NF b){i:Nat}(hi:i<6):jv (kF b) i=match P.kU b i with
  |some t=>(⟨(i:Int),decide (b.kind=0/\i=4),t⟩,true)
  |none=>(JC,false):=by
 unfold jv;rw[Hw h hi];cases P.kU b i<;>rfl
def nD(C:gy):List (fI × Int) × List fI × List gy:=(C.needs,C.names,C.fields)
theorem zDd{C D:gy}(h:nD C=nD D)(k:fI)(d:gy):nD (jB C k d)=nD (jB D k d):=by
 have h':=h;simp only[nD,bV]at h';unfold jB;split
 ·exact h
 ·simp[nD,gy.needs,gy.names,gy.fields,h'.1,h'.2.1,h'.2.2]at*
  simp[h'.1,h'.2.1,h'.2.2]
theorem zHk{C D:gy}(h:nD C=nD D)(k:fI)(lb:Int):nD (mh C k lb)=nD (mh D k lb):=by
 have h':=h;simp only[nD,bV]at h'⊢;simp only[zm,Ju,Jv,h'.1,h'.2.1,h'.2.2,and_self]
theorem zDe(v:gq->gq->Int->gy)(lb:Int):∀(ns:List fI) (ks:List gq) (C D:gy),nD C=nD D->nD (nS v lb ns ks C)=nD (nS v lb ns ks D)
|[],_,C,D,h=>by rw[nS,nS];exact h;all_goals (intros;contradiction)
|_::_,[],C,D,h=>by rw[nS,nS];exact h;all_goals (intros;contradiction)
|n::ns,k::ks,C,D,h=>by rw[nS,nS];exact zDe v lb ns ks _ _ (zDd h _ _)
theorem zDf(v:gq->gq->Int->gy)(m:ik)(lb:Int):∀(ns:List fI) (ks:List gq) (C D:gy),nD C=nD D->nD (nT v m lb ns ks C)=nD (nT v m lb ns ks D)
|[],_,C,D,h=>by rw[nT,nT];exact h;all_goals (intros;contradiction)
|_::_,[],C,D,h=>by rw[nT,nT];exact h;all_goals (intros;contradiction)
| n::ns,k::ks,C,D,h=>by
 rw[nT,nT];have h1:nD (if(je m.t n).2=false then mh C n lb else C)=nD (if(je m.t n).2=false then mh D n lb else D):=by
  split
  ·exact zHk h _ _
  ·exact h
 refine zDf v m lb ns ks _ _ ?_;split
 ·exact zDd h1 _ _
 ·exact h1
theorem zIs(v:gq->gq->Int->gy)(m n:ik)(lb:Int){C D:gy}(h:nD C=nD D):nD (q9 v m n lb C)=nD (q9 v m n lb D):=by
 unfold q9;split
 ·split
  ·exact h
  ·exact zDe v lb _ _ _ _ h
 ·exact zDf v m lb _ _ _ _ h
def RP(v:gq->gq->Int->gy)(R:List ik)(lb:Int)(m:ik):List gy:=lM (v (jU (jv R 5).1.t) (jU m.t) (mV lb)) (v (jV m.t) (jV (jv R 5).1.t) lb)
theorem zFO(v:gq->gq->Int->gy)(R:List ik)(lb:Int)(m:ik)(C:gy)(mt:0<=m.tag/\m.tag<6)(h6:C.tags.length=6):
  (sU v R lb m C).tags.length=6/\(∀i:Nat,i<6->iE (sU v R lb m C) i=if m.tag=i/\(jv R i).2=false then lb else iE C i)/\
  (sU v R lb m C).fn=(if m.tag=5/\(jv R 5).2=true then RP v R lb m else C.fn)/\nD (sU v R lb m C)=(if m.tag=4/\(jv R 4).2=true then nD (q9 v m (jv R 4).1 lb C)else nD C):=by
 unfold sU;by_cases q:(jv R m.tag).2=false
 ·rw[aC q];refine⟨by simpa[pg,gy.tags]using h6,λi hi=>?_,?_,?_⟩
  ·by_cases e:m.tag=i
   ·rw[aC ⟨e,by rw[<-e];exact q⟩];unfold iE pg;simp only[gy.tags];rw[show m.tag.toNat=i from by omega,aH,getElem?_set_self (by have:=h6;simp only[gy.tags]at this;omega)];try rfl
   ·rw[aB (λx=>e x.1)];exact Pv _ _ _ _ (by omega)
  ·rw[aB (λx=>by rw[x.1]at q;rw[q]at x;exact absurd x.2 (by simp))];try rfl
  ·rw[aB (λx=>by rw[x.1]at q;rw[q]at x;exact absurd x.2 (by simp))];try rfl
 ·rw[aB q];have q':(jv R m.tag).2=true:=by simpa using q
  have ht:∀i:Nat,i<6->¬(m.tag=i/\(jv R i).2=false):=λi hi x=>q (by rw[x.1];exact x.2);by_cases q5:m.tag=5
  ·rw[aC q5];refine⟨h6,λi hi=>?_,?_,?_⟩
   ·rw[aB (ht i hi)];try rfl
   ·rw[aC ⟨q5,by rw[<-q5];exact q'⟩];rfl
   ·rw[aB (λx=>by omega)];try rfl
  ·rw[aB q5];by_cases q4:m.tag=4
   ·rw[aC q4];have hk:=KA v m (jv R 4).1 lb C;refine⟨by rw[hk.1];exact h6,λi hi=>?_,?_,?_⟩
    ·rw[aB (ht i hi)];unfold iE;rw[hk.1]
    ·rw[aB (λx=>q5 x.1)];exact hk.2
    ·rw[aC ⟨q4,by rw[<-q4];exact q'⟩]
   ·rw[aB q4];exact⟨h6,λi hi=>by rw[aB (ht i hi)],by rw[aB (λx=>q5 x.1)],by rw[aB (λx=>q4 x.1)]⟩
theorem zzV(v:gq->gq->Int->gy)(R:List ik)(lb:Int):∀(L:List ik) (C:gy),(L.map (·.tag)).Nodup->(∀m,m∈L->0<=m.tag/\m.tag<6)->C.tags.length=6->
 (∀i:Nat,i<6->iE (qc v R lb L C) i=if(L.find? λp=>decide (p.tag=(i:Int))).isSome=true/\(jv R i).2=false then lb else iE C i)/\
 (qc v R lb L C).fn=(match L.find? λp=>decide (p.tag=5)with
  |some m=>if(jv R 5).2=true then RP v R lb m else C.fn
  |none=>C.fn)/\nD (qc v R lb L C)=(match L.find? λp=>decide (p.tag=4)with
  |some m=>if(jv R 4).2=true then nD (q9 v m (jv R 4).1 lb C)else nD C
  |none=>nD C)
|[],C,_,_,_=>⟨λi hi=>by simp[qc],rfl,rfl⟩
| m::l,C,hn,ht,h6=>by
 rw[map_cons,bf]at hn;obtain⟨g0,g1,g2,g3⟩:=zFO v R lb m C (ht m (by simp)) h6;obtain⟨i1,i2,i3⟩:=zzV v R lb l (sU v R lb m C) hn.2 (λx hx=>ht x (by simp[hx])) g0;have none:∀i:Int,m.tag=i->(l.find? λp=>decide (p.tag=i))=none:=λi e=>List.find?_eq_none.2 λx hx=>by
  simp only[aI];intro e';exact hn.1 (by rw[e,<-e'];exact fD hx)
 rw[qc];refine⟨λi hi=>?_,?_,?_⟩
 ·rw[i1 i hi,g1 i hi,find?_cons];by_cases e:m.tag=i
  ·rw[none i e];simp[e]
  ·simp[e]
 ·rw[i2,g2,find?_cons];by_cases e:m.tag=5
  ·rw[none 5 e];simp[e]
  ·simp[e]
 ·rw[i3,g3,find?_cons];by_cases e:m.tag=4
  ·rw[none 4 e];simp[e]
  ·have hC:nD (sU v R lb m C)=nD C:=by rw[g3,aB (λx=>e x.1)]
   simp only[e,decide_false,false_and,if_false];cases l.find? λp=>decide (p.tag=4)with
   |none=>rfl
   |some x=>simp only[zIs v x (jv R 4).1 lb hC]
theorem wf4{t:gq}(h:NF t)(e:iN t=4):t.names.length=t.kids.length:=by
 have hk:t.kind=5:=by unfold iN at e;split at e<;>omega
 rcases((mI t).1 h.1).2.2 with q|q|q|q
 ·omega
 ·exact q.2.1
 ·omega
 ·omega
theorem Eo{t:gq}(h:NF t){i:Nat}(hi:i<6){k:gq}(hk:P.kU t i=some k):NF k/\iN k=i/\(i=4->k.names.length=k.kids.length):=by
 have hf:=Hw h hi;rw[hk]at hf;have hm:=fB hf;obtain⟨_,_,h3,_⟩:=(Eh h).2 _ hm;have ht:iN k=i:=by
  unfold P.kU at hk;split at hk
  ·simp only[af]at hk;subst hk
   match i,hi with
   |0,_|1,_|2,_|3,_|4,_|5,_=>rfl
  ·have:=find?_some hk;simp only[aI]at this;exact this
 exact⟨h3,ht,λe=>wf4 h3 (by rw[ht,e];rfl)⟩
theorem zHl(v:gq->gq->Int->gy)(a b:gq)(lb:Int)(ha:NF a)(hb:NF b)(hne:¬(a.kind=0/\b.kind=0)):qc v (kF b) lb (kF a) idC=P.rJ v a b lb:=by
 obtain⟨pn,pt⟩:=Eh ha;obtain⟨h1,h2,h3⟩:=zzV v (kF b) lb (kF a) idC pn (λm hm=>⟨(pt m hm).1,(pt m hm).2.1⟩) rfl;have hl:=Ps v (kF b) lb (kF a) idC;generalize qc v (kF b) lb (kF a) idC=F0 at*
 unfold P.rJ;rw[aB hne];have e4:=Hw ha (i:=4) (by omega);have e5:=Hw ha (i:=5) (by omega);have r4:=RO hb (i:=4) (by omega);have r5:=RO hb (i:=5) (by omega);have e4':(find? (λp:ik=>decide (p.tag=4)) (kF a))=_:=e4;have e5':(find? (λp:ik=>decide (p.tag=5)) (kF a))=_:=e5;have r4':jv (kF b) 4=_:=r4;have r5':jv (kF b) 5=_:=r5;rw[e5',r5']at h2;rw[e4',r4']at h3;have tags:F0.tags=P.lF a b lb:=by
  obtain⟨x0,x1,x2,x3,x4,x5,e⟩:=six (l:=F0.tags) hl;have k:∀i:Nat,i<6->iE F0 i=P.ut a b lb i:=λi hi=>by
   rw[h1 i hi,Hw ha hi,RO hb hi];have hz:iE idC i=0:=by
    match i,hi with
    |0,_|1,_|2,_|3,_|4,_|5,_=>rfl
   unfold P.ut;cases P.kU a i<;>cases P.kU b i<;>simp[hz]
  unfold iE at k;rw[e]at k⊢;have k0:=k 0 (by omega);have k1:=k 1 (by omega);have k2:=k 2 (by omega);have k3:=k 3 (by omega);have k4:=k 4 (by omega);have k5:=k 5 (by omega);simp at k0 k1 k2 k3 k4 k5;unfold P.lF;rw[k0,k1,k2,k3,k4,k5]
 have fn:F0.fn=P.xB v a b lb:=by
  rw[h2];unfold P.xB;cases qa:P.kU a 5 with
  |none=>rfl
  | some m=>
   cases qb:P.kU b 5 with
   |none=>rfl
   |some k=>
    simp only[Option.map_some,if_true,RP];rw[r5',qb];try rfl
 have tr:nD F0=(P.xw a b lb,(P.rH v a b lb).map (·.1),(P.rH v a b lb).map (·.2)):=by
  rw[h3];unfold P.xw P.rH;cases qa:P.kU a 4 with
  |none=>rfl
  | some m=>
   cases qb:P.kU b 4 with
   |none=>rfl
   | some k=>
    obtain⟨nm,_,lm⟩:=Eo ha (by omega) qa;obtain⟨nk,_,lk⟩:=Eo hb (by omega) qb;have hk0:b.kind=0->k.names=[]:=λh0=>by
     unfold P.kU at qb;rw[aC h0]at qb;cases qb;rfl
    simp only[Option.map_some,if_true];rw[zJc v _ _ lb idC nm nk (lm rfl) (lk rfl) (λho=>by
     simp only[aI]at ho
     exact⟨by simp only[bM];intro x;exact hne ⟨x.1,ho.1⟩,hk0 ho.1⟩)]
    have en:(if decide (b.kind=0/\4=4)=true then []else P.rF lb m k)=P.rF lb m k:=by
     split
     ·rename_i ho;simp only[aI]at ho;unfold P.rF;rw[hk0 ho.1];try rfl
     ·rfl
    simp only[en];simp[nD,addN,qB,idC,gy.needs,gy.names,gy.fields,gy.tags,gy.fn];intro h0;unfold P.rF;rw[hk0 h0];try rfl
 simp only[nD,bV]at tr;exact gy.ext' tags tr.1 tr.2.1 tr.2.2 fn
theorem NF.kidO{k:gq}(h:NF k)(s:fI):NF (P.kidO k s):=by
 rcases P.zGY (k:=k) s with q|q
 ·exact h.kid q
 ·rw[q];exact NF.no
theorem NF.kd{k:gq}(h:NF k)(j:Nat):NF (P.kd k j):=by
 rcases P.zIX k j with q|q
 ·exact h.kid q
 ·rw[q];exact NF.no
theorem Kn:∀(n:Nat) (a b:gq) (lb:Int),NF a->NF b->P.uA n a b lb=qd n a b lb
|0,_,_,_,_,_=>rfl
| n +1,a,b,lb,ha,hb=>by
 rw[P.uA,qd];by_cases h:a.kind=0/\b.kind=0
 ·rw[aC h];unfold P.rJ;rw[aC h]
 ·rw [aB h,zHl _ a b lb ha hb h];have e4:P.rH (P.uA n) a b lb=P.rH (qd n) a b lb:=by
   unfold P.rH;cases qa:P.kU a 4 with
   |none=>rfl
   | some m=>
    cases qb:P.kU b 4 with
    |none=>rfl
    |some k=>
     have nm:=(Eo ha (by omega) qa).1;have nk:=(Eo hb (by omega) qb).1;simp only;unfold P.rG;congr 1;exact bg λs _=>by rw[Kn n _ _ lb (nm.kidO s) (nk.kidO s)]
  have e5:P.xB (P.uA n) a b lb=P.xB (qd n) a b lb:=by
   unfold P.xB;cases qa:P.kU a 5 with
   |none=>rfl
   | some m=>
    cases qb:P.kU b 5 with
    |none=>rfl
    |some k=>
     have nm:=(Eo ha (by omega) qa).1;have nk:=(Eo hb (by omega) qb).1;simp only;rw[Kn n _ _ _ (nk.kd 0) (nm.kd 0),Kn n _ _ lb (nm.kd 1) (nk.kd 1)]
  unfold P.rJ;rw[aB h,aB h,e4,e5]
theorem zEl:∀x,x∈P.wF->x∈Cm:=by
 have h:(P.wF.all λx=>Cm.any λy=>decide (y=x))=true:=by decide+kernel
 intro x hx;have:=ah.1 h x hx;rw[any_eq_true]at this;obtain⟨y,hy,e⟩:=this;simp only[aI]at e;rw[<-e];exact hy
theorem zCu{q:Int->Bool}:∀l:List UInt8,(∀b,b∈l->q b.toNat=true)->P.sJ q l=l.length
|[],_=>rfl
|b::l,h=>by
 rw[P.sJ,aC (h b (by simp)),zCu l λc hc=>h c (by simp[hc])];rfl
theorem zHH{s:fI}(h:nG s=true):P.BK s=true:=by
 unfold nG at h;have hlen:s.data.toList.length=s.size:=by rw[cz];try rfl
 unfold P.BK;cases e:s.data.toList with
 |nil=>rw[e]at h;cases h
 | cons c l=>
  rw[e]at h hlen;simp only[aG,aI,bD]at h;obtain⟨h1,h2,h3,h4⟩:=h;have h4':=ah.1 h4;have hin:∀b,b∈c::l->P.BJ b.toNat=true:=λb hb=>by
   have:=h4' b hb;unfold mX kJ sw pQ at this;unfold P.BJ P.Dg;exact this
  have hlet:P.Dg c.toNat=true:=by
   have:=h4' c (by simp);rw[h3,Bool.or_false]at this;exact this
  have hrow:=zCu (c::l) hin;have hne:s≠bs []:=λq=>by rw[q]at e;cases e
  have hw:(P.wF.any λx=>decide (s=x))=false:=by
   rw[dX];intro x hx;simp only[aI];intro q;unfold zO at h2;rw[dX]at h2;exact h2 x (zEl x hx) (by simp[q])
  simp only[hne,ne_eq,not_false_eq_true,decide_true,Bool.true_and,aG,aI,hlet,hrow,hlen,hw,Bool.not_false,and_true,and_self,h1]
theorem zy8{α β:Type}:∀{l k:List (α × β)},l.Perm k->l.map (·.1)=k.map (·.1)->(k.map (·.1)).Nodup->l=k
|[],k,hp,_,_=>hp.nil_eq
|x::l,[],hp,_,_=>by simpa using hp.length_eq
| x::l,y::k,hp,he,hn=>by
 simp only[map_cons,dh]at he;rw[map_cons,bf]at hn;have hx:x∈y::k:=hp.subset (by simp);have exy:x=y:=by
  rcases aN.1 hx with e|e
  ·exact e
  ·exact absurd (he.1▸fD (f:=(·.1)) e) hn.1
 subst exy;rw[zy8 ((perm_cons x).1 hp) he.2 hn.2]
theorem zEm{l k:List fI}(hp:l.Perm k)(hl:l.Pairwise λa b=>¬jY b a)(hk:k.Pairwise jY):l=k:=by
 have hk':k.Pairwise λa b=>¬jY b a:=hk.imp λ{a b} h q=>zl _ (xm h q);exact hp.eq_of_pairwise (λa b _ _ h1 h2=>by
  by_cases e:a=b
  ·exact e
  rcases D6 e with q|q
  ·exact absurd q h2
  ·exact absurd q h1) hl hk'
theorem zIA{ns:List fI}{ts:List gq}(hl:ns.length=ts.length)(h16:ns.length<=16)(hv:∀x,x∈ns->nG x=true)(ho:ns.Pairwise jY):P.nC ns ts=(.mk 5 (bs []) ns ts,true):=by
 have e1:(ns.zip ts).map (·.1)=ns:=map_fst_zip (by omega);have e2:(ns.zip ts).map (·.2)=ts:=map_snd_zip (by omega);have hp:=P.Qu (ns.zip ts);have hs:=P.zDU (ns.zip ts);have hn:(P.oH (ns.zip ts)).map (·.1)=ns:=zEm (by have:=hp.map (·.1);rwa[e1]at this) hs ho;have he:P.oH (ns.zip ts)=ns.zip ts:=zy8 hp (by rw[hn,e1]) (by rw[e1];exact rT ho);unfold P.nC;rw[aB (by omega),he,e1,e2,aC];refine⟨ah.2 λx hx=>zHH (hv x hx),?_⟩;unfold P.sK;rw[ah];intro j hj;have hj:j<ns.length:=by simpa using hj
 unfold P.rC;by_cases h0:j=0
 ·simp[h0]
 ·have h1:j-1<ns.length:=by omega
  have hne:ns[j-1]≠ns[j]:=λq=>by
   have:=(bZ.1 ho) (j-1) j h1 hj (by omega);rw[q]at this;exact zl _ this
  simp[h0,aH,aA hj,aA h1,hne]
theorem zEn{k:gq}:∀(of:List (Option gq)) (g:Nat),g<of.length->(∀i,g<=i->i<of.length->of.getD i none=none)->(of.set g (some k)).filterMap id=of.filterMap id++[k]
|[],g,h,_=>by simp at h
| o::of,0,h,hn=>by
 have h0:=hn 0 (by omega) (by simp);simp only[fH]at h0;subst h0;have hz:of.filterMap id=[]:=by
  rw[filterMap_eq_nil_iff];intro a ha;obtain⟨i,hi,rfl⟩:=bW ha;have:=hn (i+1) (by omega) (by simpa using hi);rw[getD_cons_succ,aH,aA hi,Option.getD_some]at this;exact this
 simp[hz]
| o::of,g+1,h,hn=>by
 have ih:=zEn (k:=k) of g (by simpa using h) λi hi hl=>by
  have:=hn (i+1) (by omega) (by simpa using hl);simpa using this
 rw[set_cons_succ];cases o with
 |none=>simpa using ih
 |some x=>simpa using ih
theorem zEo:∀(l:List gq) (of:List (Option gq)) (m:Nat),of.length=6->(∀i,m<=i->i<6->of.getD i none=none)->(l.map iN).Pairwise (· < ·)->(∀x,x∈l->(m:Int)<=iN x/\iN x<6)->
 (P.oG l of).1=true/\(P.oG l of).2.filterMap id=of.filterMap id++l
|[],of,m,_,_,_,_=>by simp[P.oG]
| t::l,of,m,h6,hn,hp,ht=>by
 rw[map_cons,bL]at hp;obtain⟨a,b⟩:=ht t (by simp);have hg:(iN t).toNat<6:=by omega
 have hz:=hn (iN t).toNat (by omega) hg;have hput:P.qU of t=(true,of.set (iN t).toNat (some t)):=by
  unfold P.qU;have e:P.iN t=iN t:=rfl;rw[e,aB (by omega),hz];simp only;rw[(P.DJ t t).2 rfl]
 rw[P.oG,hput];simp only[if_true];have ih:=zEo l (of.set (iN t).toNat (some t)) ((iN t).toNat+1) (by simpa using h6) (λi hi hl=>by
  rw[aH,getElem?_set_ne (by omega),<-aH];exact hn i (by omega) hl) hp.2 λx hx=>by
   have:=hp.1 (iN x) (fD hx);have:=(ht x (by simp[hx])).2;omega
 refine⟨ih.1,?_⟩;rw[ih.2,zEn of _ (by omega) λi hi hl=>hn i (by omega) (by omega),dA];try rfl
theorem zFX{l:List gq}(h2:2<=l.length)(hp:(l.map iN).Pairwise (· < ·))(hk:∀x,x∈l->1<=x.kind/\x.kind<=6):P.xA l=(.mk 7 (bs []) [] l,true):=by
 have hm:l.flatMap P.iy=l:=by
  have:∀k:List gq,(∀x,x∈k->1<=x.kind/\x.kind<=6)->k.flatMap P.iy=k:=λk=>by
   induction k with
   |nil=>intro _;rfl
   |cons x k ih=>
    intro h;rw[flatMap_cons,ih λy hy=>h y (by simp[hy])];have:=h x (by simp);unfold P.iy;rw[aB (by omega)];try rfl
  exact this l hk
 have ht:∀x,x∈l->((0:Nat):Int)<=iN x/\iN x<6:=λx hx=>by
  have:=hk x hx;unfold iN;rw[aB (by omega)];omega
 have h:=zEo l P.zy 0 rfl (λi _ hi=>by match i,hi with|0,_|1,_|2,_|3,_|4,_|5,_=>rfl) hp ht;have hn:P.zy.filterMap id=([]:List gq):=rfl;rw[hn,nil_append]at h;unfold P.xA;rw[hm];obtain⟨b,of,hof⟩:∃b of,P.oG l P.zy=(b,of):=⟨_,_,rfl⟩
 rw[hof]at h⊢;obtain⟨e1,e2⟩:=h;simp only at e1 e2;subst e1;simp only[e2]
 match l,h2 with
 |x::y::l,_=>simp
mutual
theorem zCv:∀t:gq,NF t->P.lQ t=(t,true)
| .mk k n s l,h=>by
 have hw:=(mI _).1 h.1;have ho:=(wu _).1 h.2;simp only[gq.kids,gq.kind,gq.names,gq.name]at hw ho;obtain⟨w1,w2,w3⟩:=hw;have hl:=zAf l λx hx=>⟨w2 x hx,ho.2.2 x hx⟩
 rw[P.lQ,w1];rcases w3 with⟨a,b,c,d⟩|⟨a,b,c,d⟩|⟨a,b,c⟩|⟨a,b,c,d⟩
 ·rw[aB (by omega),aC ⟨a,b⟩,c,d]
 ·rw[aC (by omega),hl];simp only[if_true];unfold P.wH;rw[aC a,zIA b c d ho.1,a]
 ·rw[aC (by omega),hl];simp only[if_true];unfold P.wH;rw[aB (by omega),aC a,a,b];simp[c]
 ·rw[aC (by omega),hl];simp only[if_true];unfold P.wH;have h7:=ho.2.1 a;rw[aB (by omega),aB (by omega),zFX h7.2 h7.1 d,a,b]
theorem zAf:∀l:List gq,(∀x,x∈l->NF x)->P.mO l=(l,true)
|[],_=>rfl
|t::l,h=>by
 rw[P.mO,zCv t (h t (by simp)),zAf l λx hx=>h x (by simp[hx])];try rfl
end
mutual
theorem Dn:∀t:gq,P.jD t=jD t
|.mk k n s l=>by rw[P.jD,jD,CU l]
theorem CU:∀l:List gq,P.jk l=jk l
|[]=>rfl
|t::l=>by rw[P.jk,jk,Dn t,CU l]
end
theorem zEp:∀(n:Nat) (t:gq),P.hgt n t<=jD t
|0,t=>by have:=x9 t;rw[P.hgt];omega
| n+1,t=>by
 rw[P.hgt];have h:=P.Qn (P.hgt n) t.kids 0 (jD t-1) (by omega) λx hx=>by
  have:=zEp n x;have:=wV hx;omega
 have:=x9 t;omega
mutual
theorem zEq:∀t:gq,P.sW t<=jQ t
|.mk k n s l=>by
 have:=zCw l 1;rw[P.sW,jQ];omega
theorem zCw:∀(l:List gq) (n:Nat),P.mr l n<=n+jM l
|[],n=>by rw[P.mr,jM];omega
| t::l,n=>by
 rw[P.mr,jM];have:=zEq t;split
 ·omega
 ·have:=zCw l (n+P.sW t);omega
end
theorem zEr{t:gq}(h:iH t=true):P.zz t=true:=by
 have h1:=zo h;have h2:=Db h;have h3:=Fu h;have h4:=zEp 16 t;have h5:=zEq t;unfold P.zz P.Di;rw[aB (by omega),zCv t h1];simp[(P.DJ t t).2 rfl]
theorem zFY{a b:gq}{n:Int}(ha:iH a=true)(hb:iH b=true)(h0:0<=n)(h1:n<=1000000000):gu Pg 36 [.agg a.enc,.agg b.enc,.one (.int .i64 (2*n+2))] (.agg (qd 32 a b (2*n+2)).enc):=by
 have d1:=Db ha;have d2:=Db hb;have h:=P.zKC 32 a b (2*n+2) (by rw[Dn,Dn];omega) (by omega) (by omega);have e:P.Km 32 a b (2*n+2)=qd 32 a b (2*n+2):=by
  unfold P.Km;rw[aB (by rw[zEr ha,zEr hb];simp;omega)];exact Kn 32 a b _ (zo ha) (zo hb)
 rw[e]at h;exact h
theorem RQ(d:gy)(k:iB):gu Pg 35 [.agg d.enc,.agg k.enc] (.agg (wz d k).enc):=by
 refine zE3 (by simp) λo cx hN hp=>?_;unfold zyj;simp;exact(iB.enc_eq (wz d k)).symm
def o9(c:iB):iB:=if c.kind=21 then wz (qd 32 (c.types.getD 0 noT) (c.types.getD 1 noT) (2*c.n+2)) (c.kids.getD 0 noC)else c
def AA(c:iB):Prop:=c.kind=21->0<=c.n/\c.n<=1000000000/\∃a b k,c.types=[a,b]/\c.kids=[k]/\iH a=true/\iH b=true
theorem zAM(c:iB)(h:AA c):gu Pg 19 [.agg c.enc] (.agg (o9 c).enc):=by
 refine zCd (by simp) λo cx hN hp=>?_;unfold zvP o9;by_cases q:c.kind=21
 ·obtain⟨h0,h1,a,b,k,e1,e2,na,nb⟩:=h q;have hm:=zFY na nb h0 h1;have w1:=wI (n:=2*c.n);have w2:=wI (n:=2*c.n+2);have hk:=RQ (qd 32 a b (2*c.n+2)) k;rw[aC q,e1,e2];simp[q,e1,e2,w1,w2];refine gp hm ?_;simp[e2];refine gp hk ?_;simp;decide
 ·rw[aB q];simp[q]
theorem Dp{d:gy}{k:iB}{i:Nat}(hi:i<6)(ht:lq k=i):idleC d k=(decide (iE d i=0)&&(decide (i≠5)||decide (d.fn=[]))):=by
 have hs:jX d idC=true->iE d i=0/\d.fn=[]:=λh=>by
  have:=(Aw _ _).1 h;subst this;exact⟨by match i,hi with|0,_|1,_|2,_|3,_|4,_|5,_=>rfl,rfl⟩
 have h5:decide ((i:Int)≠5)=decide (i≠5):=by rw[decide_eq_decide];omega
 have hf:decide (d.fn.length=0)=decide (d.fn=[]):=by rw[decide_eq_decide];exact aT
 unfold idleC;rw[ht,h5,hf,az];cases hc:jX d idC with
 |true=>obtain⟨a,b⟩:=hs hc;simp[a,b]
 |false=>simp
theorem zEX{d:gy}{k:iB}(ht:lq k= -1):idleC d k=jX d idC:=by
 unfold idleC;rw[ht];simp
theorem zAN(d:gy)(k:iB)(hd:d.tags.length=6):gu Pg 38 [.agg d.enc,.agg k.enc] (.one (.bool (idleC d k))):=by
 refine zCf (by simp) λo cx hN hp=>?_;have hg:∀i,i<6->d.tags[i]?=some (iE d i):=λi hi=>wh hd hi;have g0:=hg 0 (by omega);have g1:=hg 1 (by omega);have g2:=hg 2 (by omega);have g3:=hg 3 (by omega);have g5:=hg 5 (by omega);by_cases k3:k.kind=3
 ·rw[Dp (i:=0) (by omega) (by unfold lq;simp[k3])];unfold BI;simp[k3,encI,g0]
 by_cases k0:k.kind=0
 ·rw[Dp (i:=2) (by omega) (by unfold lq;simp[k0])];unfold BI;simp[k0,encI,g2]
 by_cases k20:k.kind=20
 ·rw[Dp (i:=2) (by omega) (by unfold lq;simp[k20])];unfold BI;simp[k20,encI,g2]
 by_cases k1:k.kind=1
 ·rw[Dp (i:=3) (by omega) (by unfold lq;simp[k1])];unfold BI;simp[k1,encI,g3]
 by_cases k2:k.kind=2
 ·rw[Dp (i:=1) (by omega) (by unfold lq;simp[k2])];unfold BI;simp[k2,encI,g1]
 by_cases k5:k.kind=5
 ·rw[Dp (i:=5) (by omega) (by unfold lq;simp[k5])];unfold BI;by_cases z:iE d 5=0
  ·simp[k5,encI,g5,z]
  ·simp[k5,encI,g5,z]
 by_cases k6:k.kind=6
 ·rw[Dp (i:=5) (by omega) (by unfold lq;simp[k6])];unfold BI;by_cases z:iE d 5=0
  ·simp[k6,encI,g5,z]
  ·simp[k6,encI,g5,z]
 rw[zEX (by unfold lq;simp[k0,k1,k2,k3,k5,k6,k20])];have hI:=P.KX;have hS:=P.Qd d idC;unfold BI;simp[k0,k1,k2,k3,k5,k6,k20];refine gp hI ?_;simp;refine gp hS ?_;simp;decide
def nO(c:iB):iB:=if(o9 c).kind=22 then yM ((o9 c).cos.getD 0 idC) ((o9 c).kids.getD 0 noC)else o9 c
def xx(c:iB):Prop:=AA c/\((o9 c).kind=22->∃d k,(o9 c).cos=[d]/\(o9 c).kids=[k]/\tY 200000000 d/\(k.kind=22->∃e y,k.cos=[e]/\k.kids=[y]/\tY 200000000 e))
theorem zEY(c:iB)(h:xx c):gu Pg 20 [.agg c.enc] (.agg (nO c).enc):=by
 obtain⟨h1,h2⟩:=h;have hc:=zAM c h1;unfold nO;generalize o9 c=x at*
 obtain⟨R,hR⟩:∃R,(if x.kind=22 then yM (x.cos.getD 0 idC) (x.kids.getD 0 noC)else x)=R:=⟨_,rfl⟩
 rw[hR];refine zAV (by simp) λo cx hN hp=>?_;unfold zvb;simp;refine gp hc ?_;by_cases q:x.kind=22
 ·obtain⟨d,k,e1,e2,gd,hk⟩:=h2 q;rw[aC q,e1,e2]at hR;simp only[fH]at hR;unfold yM at hR;by_cases r:k.kind=22
  ·obtain⟨e,y,f1,f2,ge⟩:=hk r;have hcc:=P.zJi 32 ge.2.2 gd.2.2 (ge.le (B:=536870912) (by omega)).2.1 (gd.le (B:=536870912) (by omega)).2.1;have ec:CF 32 e d=mg 32 e d:=by unfold CF;rw[ge.1,gd.1];try rfl
   rw[ec]at hcc;have g6:=ge.comp (by omega) gd;have hi:=zAN (mg 32 e d) y ((sI _).1 g6.1).tags;have hco:=RQ (mg 32 e d) y;rw[aC r,aC r,f1,f2]at hR;simp only[fH]at hR;simp[q,e1,e2,r,f1,f2];refine⟨by decide,?_⟩;refine gp hcc ?_;simp[f2];refine⟨by decide,?_⟩;refine gp hi ?_;cases b:idleC (mg 32 e d) y with
   |true=>rw[b]at hR;simp at hR;subst hR;simp
   |false=>
    rw[b]at hR;simp at hR;subst hR;simp;refine gp hco ?_;simp
  ·have hi:=zAN d k ((sI _).1 gd.1).tags;have hco:=RQ d k;simp only[aB r]at hR;simp[q,e1,e2,r];refine⟨by decide,?_⟩;refine gp hi ?_;cases b:idleC d k with
   |true=>rw[b]at hR;simp at hR;subst hR;simp
   |false=>
    rw[b]at hR;simp at hR;subst hR;simp;refine gp hco ?_;simp
 ·rw[aB q]at hR;subst hR;simp[q]
mutual
def qE(q:iB->iB):iB->iB
|.mk k n t is ns ts cs ks=>q (.mk k n t is ns ts cs (CV q ks))
def CV(q:iB->iB):List iB->List iB
|[]=>[]
|c::l=>qE q c::CV q l
end
mutual
def xy(R:iB->Prop)(q:iB->iB):iB->Prop
|.mk k n t is ns ts cs ks=>R (.mk k n t is ns ts cs (CV q ks))/\CX R q ks
def CX(R:iB->Prop)(q:iB->iB):List iB->Prop
|[]=>True
|c::l=>xy R q c/\CX R q l
end
theorem Ko(q:iB->iB):∀l:List iB,CV q l=l.map (qE q)
|[]=>rfl
|c::l=>by rw[CV,Ko q l];try rfl
theorem RS{R:iB->Prop}{q:iB->iB}:∀{l:List iB},CX R q l↔∀x,x∈l->xy R q x
|[]=>by simp[CX]
|c::l=>by simp[CX,RS (l:=l)]
theorem zGy(q:iB->iB)(c:iB):qE q c=q (.mk c.kind c.n c.text c.ints c.names c.types c.cos (c.kids.map (qE q))):=by
 cases c;rw[qE,Ko];try rfl
def BN(g:FuncId)(R:iB->Prop)(q:iB->iB)(c:iB):Prop:=kX c<=1000000000->xy R q c->gu Pg 21 [.agg c.enc,.one (.fn (.func g) [])] (.agg (qE q c).enc)
abbrev RU:Blk:=.box [.d (.int .i64 0),.d (.int .i64 0),.d (.str (bs [])),.d (.sl true 1 []),.d (.sl true 1 []),.d (.sl true 4 []),.d (.sl true 5 []),.d (.sl true 8 [])]
abbrev RV(l:List iB):Blk:=.arr 8 ((l.map iB.enc).map (·.map .d))
theorem zHZ(a b:iB):put (a.enc.map AC.d) 0 (b.enc.map AC.d)=b.enc.map .d:=by rw[a.enc_eq,b.enc_eq];try rfl
theorem zAK{α:Type}{A B:List α}{j:Nat}(h:j<=A.length):(A.take j++B.drop j)[j]?=B[j]?:=by
 rw[bY (by simp;omega),bH,Nat.min_eq_left h,Nat.sub_self,ay];try rfl
theorem zzl{α:Type}{A B:List α}{j:Nat}(h:j<A.length)(hl:A.length=B.length):(A.take j++B.drop j).set j A[j]=A.take (j+1)++B.drop (j+1):=by
 rw[set_append_right _ _ (by simp;omega),bH,Nat.min_eq_left (by omega),Nat.sub_self,aF (l:=B) (by omega),set_cons_zero,aJ h,dA];try rfl
theorem zGx(g:FuncId)(R:iB->Prop)(q:iB->iB)(hq:∀x,R x->gu Pg g [.agg x.enc] (.agg (q x).enc))(c:iB)(ih:∀x,x∈c.kids->BN g R q x):BN g R q c:=λhs hR=>by
 refine zCe (by simp) λo cx hN hp=>?_;have hsz:=Au c;have hkl:=J7 c.kids;have hR':R (.mk c.kind c.n c.text c.ints c.names c.types c.cos (c.kids.map (qE q)))/\∀x,x∈c.kids->xy R q x:=by
  cases c;rw[xy,Ko,RS]at hR;exact hR
 have hfin:=hq _ hR'.1;rw[zGy];unfold zvQ;simp;refine gU [] (zGU c.kids (by omega)) ?_;simp[zJD];refine fU iC hp (λj:Nat=>j<=c.kids.length) (λj=>[(14,.c (.d (.int .i64 j))),(13,.c (.d (.int .i64 c.kids.length))),(12,.c (.msl 8 2 0 c.kids.length)),(4,.c (.ptr 1 0)),(2,.c (.ptr 0 0)),(1,.c (.d (.fn (.func g) [])))]) (λj=>[.box (sG c (.msl 8 2 0 c.kids.length)),RU,RV ((c.kids.take j).map (qE q)++c.kids.drop j)]) (λj=>c.kids.length-j) 0 [0,1,2] (by simp) (by simp[c.enc_eq]) λj hj=>?_;unfold zt1;simp;apply gT<;>intro h
 ·have hj:j<c.kids.length:=by simpa using h
  have hw:=wI (n:=(j:Int)+1);have hsj:=Bz hj;have hx:=ih _ (aP hj) (by omega) (hR'.2 _ (aP hj));have hat:=zAK (A:=c.kids.map ((λx=>List.map AC.d x)∘iB.enc∘qE q)) (B:=c.kids.map ((λx=>List.map AC.d x)∘iB.enc)) (j:=j) (by simp;omega);rw[getElem?_map,aA hj,Option.map_some]at hat;have hset:=zzl (A:=c.kids.map ((λx=>List.map AC.d x)∘iB.enc∘qE q)) (B:=c.kids.map ((λx=>List.map AC.d x)∘iB.enc)) (j:=j) (by simpa using hj) (by simp);rw[getElem_map]at hset;refine⟨hj,?_⟩;rw[hat];simp;refine gp hx ?_;simp;refine⟨hj,?_⟩;rw[hat];refine⟨by decide,?_⟩;refine fJ (j+1) [0,1,2] (by omega) (by omega) ?_;simp[hw,zHZ];have tr:=λ(F:iB->List AC) (hF:∀x,∃y:iB,F x=y.enc.map AC.d) (l:List iB) (k:Nat) (x:List AC) (hx:x∈l.map F)=>(show AC.lts 3 x=true from by
   obtain⟨y,_,rfl⟩:=aa.1 hx;obtain⟨z,hz⟩:=hF y
   rw[hz];simp)
  exact⟨hset,λx hx=>tr _ (λy=>⟨qE q y,rfl⟩) c.kids 0 x (bi hx),λx hx=>tr _ (λy=>⟨y,rfl⟩) c.kids 0 x (dQ hx)⟩
 ·have hj:j=c.kids.length:=by simp at h;omega
  subst hj;have hT:take c.kids.length (List.map (qE q) c.kids)=List.map (qE q) c.kids:=aD (by simp);rw[aO,bN,aD (by simp)];refine fe [2] ?_;simp only[BZ,EH,Ci,AQ,aC,aB,reduceIte,Nat.reduceEqDiff,AL,qH,Blk.fz_arr,BX,wQ];refine St.cut7 (F:=w_ Pg cx _ _ _) [(1,.c (.d (.fn (.func g) []))),(2,.c (.ptr 0 0)),(4,.c (.ptr 1 0))] [.box (sG c (.d (.sl false 8 ((c.kids.map (qE q)).map iB.enc)))),RU,.dead] ?_ ?_ λT hT=>?_
  ·simp[iT]
  ·intro i;rcases(show i=0\/i=1\/i=2\/3<=i from by omega)with rfl|rfl|rfl|q3
   ·simp[iT];exact aD (by simp)
   ·simp[iT]
   ·simp[iT]
   ·simp[iT,rW (show [Blk.box (sG c (.d (.sl false 8 ((c.kids.map (qE q)).map iB.enc)))),RU,.dead].length<=i from q3),show i≠2 from by omega];rw[rW (by exact q3),rW (by exact q3)];try rfl
  simp only[di,cO,false_implies,implies_true,and_true]at hT;obtain⟨k1,k2,k3⟩:=hT;have hrow:sG c (.d (.sl false 8 ((c.kids.map (qE q)).map iB.enc)))=(iB.mk c.kind c.n c.text c.ints c.names c.types c.cos (c.kids.map (qE q))).enc.map .d:=by rw[iB.enc_eq];try rfl
  rw[hrow];simp[k1,k2,k3];refine gp hfin ?_;simp[k1,k2,k3]
mutual
theorem RX(g:FuncId)(R:iB->Prop)(q:iB->iB)(hq:∀x,R x->gu Pg g [.agg x.enc] (.agg (q x).enc)):∀c:iB,BN g R q c
|.mk k n t is ns ts cs ks=>zGx g R q hq _ (zzm g R q hq ks)
theorem zzm(g:FuncId)(R:iB->Prop)(q:iB->iB)(hq:∀x,R x->gu Pg g [.agg x.enc] (.agg (q x).enc)):∀l:List iB,∀x,x∈l->BN g R q x
|[],x,hx=>by cases hx
|c::l,x,hx=>by
 rcases aN.1 hx with e|e
 ·rw[e];exact RX g R q hq c
 ·exact zzm g R q hq l x e
end
def qN(trim:Bool):iB->iB:=if trim=true then nO else o9
def RN(trim:Bool):iB->Prop:=if trim=true then xx else AA
def Hy(trim:Bool)(p:lZ):lZ:=⟨p.funs.map λf=>⟨f.name,f.type,qE (qN trim) f.body⟩,p.main,p.sites⟩
theorem zIu(f:jW)(b:iB):put (f.enc.map AC.d) 5 (b.enc.map AC.d)=(jW.enc ⟨f.name,f.type,b⟩).map .d:=by unfold jW.enc;rw[f.type.enc_eq,f.body.enc_eq,b.enc_eq];try rfl
def BO(q:iB->iB)(f:jW):jW:=⟨f.name,f.type,qE q f.body⟩
theorem zDg{c:Ctx}(hp:c.pure)(p:lZ)(g:FuncId)(q:iB->iB)(hl:p.funs.length<=1000000)(h:∀f,f∈p.funs->gu Pg 21 [.agg f.body.enc,.one (.fn (.func g) [])] (.agg (qE q f.body).enc)){Q:Exit->St->Prop}{S:St}{gg}{ms:List Nat}
  (h0:iM ms S [(15,.c (.d (.int .i64 (0:Nat)))),(14,.c (.d (.int .i64 p.funs.length))),(5,.c (.d (.fn (.func g) []))),(4,.c (.ptr 1 0)),(2,.c (.ptr 0 0))] [.box [.msl 13 2 0 p.funs.length,.d (.int .i64 p.main),.d (.sl false 3 (p.sites.map Site.enc))],.box [.d (.sl true 13 []),.d (.int .i64 0),.d (.sl true 3 [])],oV p.funs])
  (hQ:∀T,Abs.look T 4=.c (.ptr 1 0)->Abs.look T 2=.c (.ptr 0 0)->Q (.exit 0) ⟨T,hpOf [.box [.msl 13 2 0 p.funs.length,.d (.int .i64 p.main),.d (.sl false 3 (p.sites.map Site.enc))],.box [.d (.sl true 13 []),.d (.int .i64 0),.d (.sl true 3 [])],oV (p.funs.map (BO q))],3⟩):lU Pg c QK Q gg S:=by
 refine fU iC hp (λj:Nat=>j<=p.funs.length) (λj=>[(15,.c (.d (.int .i64 j))),(14,.c (.d (.int .i64 p.funs.length))),(5,.c (.d (.fn (.func g) []))),(4,.c (.ptr 1 0)),(2,.c (.ptr 0 0))]) (λj=>[.box [.msl 13 2 0 p.funs.length,.d (.int .i64 p.main),.d (.sl false 3 (p.sites.map Site.enc))],.box [.d (.sl true 13 []),.d (.int .i64 0),.d (.sl true 3 [])],oV ((p.funs.map (BO q)).take j++p.funs.drop j)]) (λj=>p.funs.length-j) 0 ms (by simp) (by simpa using h0) λj hj=>?_;unfold QK;simp;apply gT<;>intro hh
 ·have hj:j<p.funs.length:=by simpa using hh
  have hw:=wI (n:=(j:Int)+1);have hx:=h _ (aP hj);have hat:=zAK (A:=p.funs.map ((λx=>List.map AC.d x)∘jW.enc∘BO q)) (B:=p.funs.map ((λx=>List.map AC.d x)∘jW.enc)) (j:=j) (by simp;omega);rw[getElem?_map,aA hj,Option.map_some]at hat;have hset:=zzl (A:=p.funs.map ((λx=>List.map AC.d x)∘jW.enc∘BO q)) (B:=p.funs.map ((λx=>List.map AC.d x)∘jW.enc)) (j:=j) (by simpa using hj) (by simp);rw[getElem_map]at hset;refine⟨hj,?_⟩;rw[hat];simp;refine gp hx ?_;simp;refine⟨hj,?_⟩;rw[hat];simp;refine⟨by decide,?_⟩;refine fJ (j+1) [0,1,2] (by omega) (by omega) ?_;simp[hw,zIu];have tr:=λ(F:jW->List AC) (hF:∀x,∃y:jW,F x=y.enc.map AC.d) (l:List jW) (x:List AC) (hx:x∈l.map F)=>(show AC.lts 3 x=true from by
   obtain⟨y,_,rfl⟩:=aa.1 hx;obtain⟨z,hz⟩:=hF y
   rw[hz];simp)
  exact⟨hset,λx hx=>tr _ (λy=>⟨BO q y,rfl⟩) p.funs x (bi hx),λx hx=>tr _ (λy=>⟨y,rfl⟩) p.funs x (dQ hx)⟩
 ·have hj:j=p.funs.length:=by simp at hh;omega
  subst hj;rw[aO,bN,aD (by simp)];exact hQ _ (by simp) (by simp)
theorem zHq(p:lZ)(trim:Bool)(hl:p.funs.length<=1000000)(h:∀f,f∈p.funs->kX f.body<=1000000000/\xy (RN trim) (qN trim) f.body):gu Pg 9 [.agg p.enc,.one (.bool trim)] (.agg (Hy trim p).enc):=by
 have e:p.enc=[.sl false 13 (p.funs.map jW.enc),.int .i64 p.main,.sl false 3 (p.sites.map Site.enc)]:=rfl;have fin:∀(T:List (Nat × AV)) (c:Ctx),c.pure->Abs.look T 4=.c (.ptr 1 0)->Abs.look T 2=.c (.ptr 0 0)->True:=λ_ _ _ _ _=>trivial;rw[e];refine zCc (by simp) λo cx hN hp=>?_;unfold zvO;simp;refine gU [] (zFT p.funs (by omega)) ?_;cases trim with
 |false=>
  have hin:=λQ S gg ms=>zDg (c:=cx) (Q:=Q) (S:=S) (gg:=gg) (ms:=ms) hp p 19 o9 hl λf hf=>RX 19 AA o9 zAM f.body (h f hf).1 (h f hf).2;simp;refine hin _ _ _ [0,1,2] (by simp) λT h1 h2=>?_;have hT:take p.funs.length (List.map (jW.enc∘BO o9) p.funs)=List.map (jW.enc∘BO o9) p.funs:=aD (by simp);simp;refine fe [2] ?_;simp[iT,h1,h2,hT];unfold Hy lZ.enc qN;rw[bv];try rfl
 |true=>
  have hin:=λQ S gg ms=>zDg (c:=cx) (Q:=Q) (S:=S) (gg:=gg) (ms:=ms) hp p 20 nO hl λf hf=>RX 20 xx nO zEY f.body (h f hf).1 (h f hf).2;simp;refine hin _ _ _ [0,1,2] (by simp) λT h1 h2=>?_;have hT:take p.funs.length (List.map (jW.enc∘BO nO) p.funs)=List.map (jW.enc∘BO nO) p.funs:=aD (by simp);simp;refine fe [2] ?_;simp[iT,h1,h2,hT];unfold Hy lZ.enc qN;rw[bv];try rfl
theorem zBp{c:iB}(h:c.kind≠21):o9 c=c:=by unfold o9;rw[aB h]
theorem zzC{c:iB}(h:c.kind=21):o9 c=wz (qd 32 (c.types.getD 0 noT) (c.types.getD 1 noT) (2*c.n+2)) (c.kids.getD 0 noC):=by unfold o9;rw[aC h]
theorem zG2{c:iB}(h:(o9 c).kind=22):nO c=yM ((o9 c).cos.getD 0 idC) ((o9 c).kids.getD 0 noC):=by unfold nO;rw[aC h]
theorem zIe{c:iB}(h:(o9 c).kind≠22):nO c=o9 c:=by unfold nO;rw[aB h]
theorem zIf(d:gy)(x:iB):o5 (.mk 22 0 (bs []) [] [] [] [d] [x])=yM d (o5 x):=by rw[o5,aC rfl];try rfl
theorem zC0{k n:Int}{t:fI}{is:List Int}{ns:List fI}{ts:List gq}{cs:List gy}{ks:List iB}(h:k≠22):o5 (.mk k n t is ns ts cs ks)=.mk k n t is ns ts cs (zx ks):=by rw[o5,aB h]
theorem AA.no{c:iB}(h:c.kind≠21):AA c:=λe=>absurd e h
section
variable {M G:Nat} (hM:M<=1000000000)
include hM
mutual
theorem zzD:∀c:iB,jl M G c->qE o9 c=oF c/\xy AA o9 c
| .mk k n t is ns ts cs ks,h=>by
 rw[jl]at h;obtain⟨e1,e2⟩:=zyu ks h.2;rw[qE,xy,oF,e1];by_cases q:k=21
 ·subst q;obtain⟨h2,h3,h4,a,b,e,na,nb⟩:=h.1.1.inv;subst e;obtain⟨x,hx⟩:∃x,ks=[x]:=by
   match ks,h2 with
   |[x],_=>exact⟨x,rfl⟩
  subst hx;rw[aC rfl];refine⟨?_,?_,e2⟩
  ·rw[zzC rfl];try rfl
  ·intro _;exact⟨h3,by simp only[iB.n];omega,a,b,oF x,rfl,rfl,na,nb⟩
 ·rw[aB q];exact⟨zBp q,AA.no q,e2⟩
theorem zyu:∀l:List iB,jS M G l->CV o9 l=sV l/\CX AA o9 l
|[],_=>⟨rfl,trivial⟩
|c::l,h=>by
 rw[jS]at h;obtain⟨e1,e2⟩:=zzD c h.1;obtain⟨f1,f2⟩:=zyu l h.2;rw[CV,sV,CX,e1,f1];exact⟨rfl,e2,f2⟩
end
theorem zBq:∀(s:Nat) (c:iB) (m:Nat),kX c<=s->s<=10000000->jl M G c->mM m c->qE nO c=o5 (oF c)/\xy xx nO c
|0,c,_,h,_,_,_=>by have:=Au c;omega
| s +1,.mk k n t is ns ts cs ks,m,hs,h7,h,hw=>by
 have hok:=h;rw[jl]at h;rw[kX]at hs;have hpc:=KP _ hok;have hwp:=KQ _ _ hw;have kid:∀x,x∈ks->(qE nO x=o5 (oF x)/\xy xx nO x)/\∃m',mM m' x:=λx hx=>by
  obtain⟨j,hj,rfl⟩:=bW hx;have hsj:=Bz hj;have hw':=hw;rw[mM]at hw';obtain⟨m',hm'⟩:∃m',mM m' ks[j]:=by
   by_cases q5:k=5
   ·subst q5;have hl:=hw'.2.2.2.2.1 rfl
    match ks,hl,hw',j,hj with
    |[x],_,hw,0,_=>exact⟨m+1,by have:=hw.2.2.2.2.2;rw[jw]at this;show mM (m+1) x;simpa using this.1⟩
   ·exact⟨_,Gg q5 hj hw'.2.2.2.2.2⟩
  exact⟨zBq s ks[j] m' (by omega) (by omega) (KI.1 h.2 _ hx) hm',m',hm'⟩
 have e1:CV nO ks=zx (sV ks):=by
  rw[Ko,KM,Gz,bv];exact bg λx hx=>(kid x hx).1.1
 have e2:CX xx nO ks:=RS.2 λx hx=>(kid x hx).1.2;rw[qE,xy,oF,e1];by_cases q:k=21
 ·subst q;obtain⟨h2,h3,h4,a,b,e,na,nb⟩:=h.1.1.inv;subst e;obtain⟨x,hx⟩:∃x,ks=[x]:=by
   match ks,h2 with
   |[x],_=>exact⟨x,rfl⟩
  subst hx;obtain⟨_,m',hm'⟩:=kid x (by simp);have ox:jl M G x:=KI.1 h.2 x (by simp);have gd:=zlF na nb h3;have tk:=KR (kX (oF x)) (oF x) m' (aQ _) (KP x ox) (KQ x m' hm');rw[QH]at tk;have hsx:kX x<=s:=by rw[jo,jo]at hs;omega
  have hc:o9 (.mk 21 n t is ns [a,b] cs [o5 (oF x)])=wz (qd 32 a b (2*n+2)) (o5 (oF x)):=by
   rw[zzC rfl];try rfl
  rw[aC rfl];have ek:zx (sV [x])=[o5 (oF x)]:=rfl;rw[ek];refine⟨?_,⟨?_,?_⟩,e2⟩
  ·rw[zG2 (by rw[hc];rfl),hc];exact(zIf _ (oF x)).symm
  ·intro _;exact⟨h3,by simp only[iB.n];omega,a,b,_,rfl,rfl,na,nb⟩
  ·rw[hc];intro _;refine⟨_,_,rfl,rfl,gd.le (by omega),λq=>?_⟩;have ht:=tk.tc;generalize o5 (oF x)=y at*
   obtain⟨k0,n0,t0,is0,ns0,ts0,cs0,ks0⟩:=y;have q:k0=22:=q;subst q;rw[yO]at ht;obtain⟨d,z,g1,g2,g3,g4⟩:=ht.2.1 rfl;exact⟨d,z,g1,g2,g4.le (by omega)⟩
 ·rw[aB q];have q22:k≠22:=λe=>by subst e;exact h.1.1.n22.elim
  have hc:o9 (.mk k n t is ns ts cs (zx (sV ks)))=.mk k n t is ns ts cs (zx (sV ks)):=zBp q;refine⟨?_,⟨AA.no q,λe=>?_⟩,e2⟩
  ·rw[zIe (by rw[hc];exact q22),hc,zC0 q22]
  ·rw[hc]at e;exact absurd e q22
end
theorem zG3{p:lZ}(hp:BD p)(trim:Bool):Hy trim p=lQ trim p/\∀f,f∈p.funs->kX f.body<=1000000000/\xy (RN trim) (qN trim) f.body:=by
 have key:∀f,f∈p.funs->(qE (qN trim) f.body=BF trim f.body/\xy (RN trim) (qN trim) f.body)/\kX f.body<=1000000000:=λf hf=>by
  have hg:=(hp.good.1 f hf).1;have hok:=hp.ok f hf;have hz:=hg.2;refine⟨?_,by omega⟩;cases trim with
  |false=>exact zzD hp.sites f.body hok
  |true=>exact zBq hp.sites (kX f.body) f.body 1 (aQ _) (by omega) hok hg.1
 refine⟨?_,λf hf=>⟨(key f hf).2,(key f hf).1.2⟩⟩;unfold Hy lQ;congr 1;exact bg λf hf=>by rw[(key f hf).1.1]
theorem RY{p:lZ}(hp:BD p)(trim:Bool):gu Pg 9 [.agg p.enc,.one (.bool trim)] (.agg (lQ trim p).enc):=by
 obtain⟨h1,h2⟩:=zG3 hp trim;have h:=zHq p trim (by have:=hp.good.2;omega) h2;rw[h1]at h;exact h
end Go.Gr
namespace Go.Gr
open Go.Abs Go.Proofs
def sM:List (fI × fI):=[(bs [109,97,105,110],bs [102,110,32,109,97,105,110,40,120,41,32,61,32,49,59])]
def zHu:Bool:=(vE sM).2&&((match(lQ false (vE sM).1).funs with
|[f]=>decide (f.body.kind=22)&&decide (f.body.cos.length=1)
|_=>false)&&(match(lQ true (vE sM).1).funs with
|[g]=>decide (g.body.kind=0)
|_=>false))
set_option maxRecDepth 100000 in
theorem zDu:zHu=true:=by decide+kernel
theorem zGj:(vE sM).2=true/\∃f g:jW,(lQ false (vE sM).1).funs=[f]/\(lQ true (vE sM).1).funs=[g]/\f.body.kind=22/\f.body.cos.length=1/\g.body.kind=0:=by
 have h:=zDu;unfold zHu at h;rw[aG,aG]at h;obtain⟨h1,h2,h3⟩:=h;refine⟨h1,?_⟩;split at h2
 ·rename_i f e;split at h3
  ·rename_i g e';simp only[aG,aI]at h2 h3;exact⟨f,g,e,e',h2.1,h2.2,h3⟩
  ·cases h3
 ·cases h2
@[simp] theorem lZ.get0(p:lZ)(h:0<p.enc.length):p.enc[0]=.sl false 13 (p.funs.map jW.enc):=rfl
@[simp] theorem lZ.geq0(p:lZ):p.enc[0]?=some (.sl false 13 (p.funs.map jW.enc)):=rfl
@[simp] theorem lZ.get1(p:lZ)(h:1<p.enc.length):p.enc[1]=.int .i64 p.main:=rfl
@[simp] theorem lZ.get2(p:lZ)(h:2<p.enc.length):p.enc[2]=.sl false 3 (p.sites.map Site.enc):=rfl
theorem jW.enc13(f:jW):f.enc=[.str f.name,.int .i64 f.type.kind,.str f.type.name,.sl false 1 (encS f.type.names),.sl false 4 (f.type.kids.map gq.enc),.int .i64 f.body.kind,.int .i64 f.body.n,.str f.body.text,.sl false 1 (encI f.body.ints),.sl false 1 (encS f.body.names),.sl false 4 (f.body.types.map gq.enc),.sl false 5 (f.body.cos.map gy.enc),.sl false 8 (f.body.kids.map iB.enc)]:=by
 rw[jW.enc_eq,f.type.enc_eq,f.body.enc_eq];try rfl
@[simp] theorem jW.g5(f:jW)(h:5<f.enc.length):f.enc[5]=.int .i64 f.body.kind:=by simp only[f.enc13];rfl
@[simp] theorem jW.g0(f:jW)(h:0<f.enc.length):f.enc[0]=.str f.name:=rfl
@[simp] theorem jW.q0(f:jW):f.enc[0]?=some (.str f.name):=rfl
@[simp] theorem jW.g11(f:jW)(h:11<f.enc.length):f.enc[11]=.sl false 5 (f.body.cos.map gy.enc):=by simp only[f.enc13];rfl
theorem zDv:gu Pg 7 [] (.one (.bool true)):=by
 refine zCb (by simp) λo cx hN hp=>?_;obtain⟨h1,f,g,e1,e2,f1,f2,g1⟩:=zGj;have hpr:=YF sM;have hk:=zwE (l:=sM) h1;have hn1:=RY hk false;have hn2:=RY hk true;have ev:(sM.map lX)=[[.str (bs [109,97,105,110]),.str (bs [102,110,32,109,97,105,110,40,120,41,32,61,32,49,59])]]:=rfl;rw[ev]at hpr;generalize vE sM=r at*
 obtain⟨p,ok⟩:=r;simp only at h1 hk hn1 hn2 e1 e2;subst h1;generalize lQ false p=P1 at*
 generalize lQ true p=P2 at*
 unfold zvN;simp;refine gp (gu.erd hpr (by simp[DV.erds,DV.erd,D.erd,D.erdE,D.erdL])) ?_;simp;refine gp hn1 ?_;simp;refine gp hn2 ?_;simp[e1,e2,f1,f2,g1]
theorem NormCores_ok(l:List (fI × fI))(trim:Bool):gu Pg 3 [.one (.sl false 2 (l.map lX)),.one (.bool trim)] (.one (.bool true)):=by
 refine zLQ (by simp) λo cx hN hp=>?_;have hpr:=YF l;have hk:=zwE (l:=l);generalize vE l=r at*
 obtain⟨p,ok⟩:=r;simp only at hk;unfold zLG;simp;refine gp zDv ?_;simp;refine gp hpr ?_;simp;by_cases hok:ok=true;rotate_left
 ·simp[hok]
 have hk:=hk hok;have hn:=RY hk trim;have hn2:=zoq p hk trim;have hlen:(lQ trim p).funs.length<=1000000:=by have:=hk.good.2;unfold lQ;simp;omega
 generalize lQ trim p=q at*
 simp[hok];refine gp hn ?_;simp;refine gp hn2 ?_;simp;have zP:Blk:=.box [.d (.sl true 13 []),.d (.int .i64 0),.d (.sl true 3 [])];refine fU iC hp (λj:Nat=>j<=q.funs.length) (λj=>[(10,.c (.d (.int .i64 j))),(9,.c (.ptr 2 0)),(8,.c (.ptr 1 0)),(6,.c (.ptr 0 0)),(1,.c (.d (.bool trim)))]) (λ_=>[.box (p.enc.map .d),.box (q.enc.map .d),.box (q.enc.map .d)]) (λj=>q.funs.length-j) 0 [0,1,2] (by simp) (by simp) λj hj=>?_;unfold zLD;simp;apply gT<;>intro h
 ·have hj:j<q.funs.length:=by simpa using h
  have hw:=wI (n:=(j:Int)+1);simp[hj];refine gp (PP _) ?_;simp;refine⟨by decide,?_⟩;simp[hj];refine⟨by decide,?_⟩;refine fJ (j+1) [0,1,2] (by omega) (by omega) ?_;simp[hw]
 ·have hj:j=q.funs.length:=by simp at h;omega
  subst hj;refine gp hn ?_;simp;refine fU iC hp (λj:Nat=>j<=q.funs.length) (λj=>[(13,.c (.d (.int .i64 j))),(12,.c (.ptr 3 0)),(9,.c (.ptr 2 0))]) (λ_=>[.box (p.enc.map .d),.box (q.enc.map .d),.box (q.enc.map .d),.box (q.enc.map .d)]) (λj=>q.funs.length-j) 0 [0,1,2,3] (by simp) (by simp) λj hj=>?_;unfold zLE;simp;apply gT<;>intro h
  ·have hj:j<q.funs.length:=by simpa using h
   have hw:=wI (n:=(j:Int)+1);simp[hj];refine gp (PP _) ?_;simp;refine⟨by decide,?_⟩;refine fJ (j+1) [0,1,2,3] (by omega) (by omega) ?_;simp[hw]
  ·simp
theorem zI9{n:Nat}{ds:List D}(h:o7 Tryz.prog n 50 ds):∃x:fI × fI,ds=lX x:=by
 obtain⟨m,_,h⟩:=zBw Tryz.underlying50 h;obtain⟨a,b,rfl,ha,h⟩:=Sq h;obtain⟨c,d,rfl,hc,h⟩:=Sq h;obtain rfl:=zFs h;obtain⟨s,rfl⟩:=Sn Tryz.underlying9 ha;obtain⟨i,rfl⟩:=Sn Tryz.underlying9 hc;exact⟨(s,i),rfl⟩
theorem zIl{n:Nat}{ds:List D}(h:o7 Tryz.prog n 22 ds):∃l:List (fI × fI),ds=[.sl false 2 (l.map lX)]:=
 zCn (enc:=lX) Tryz.underlying22 (by kernel_rfl) (λm _ x hx=>zI9 hx) h
def types:List TypeId:=[4,9,22,50]
theorem own:ownKnob Tryz.prog.godebug=none:=by kernel_rfl
theorem laidOut:laidOutB Tryz.prog=true:=by kernel_rfl
theorem typesOk:(types.all λt=>nJ Tryz.prog types t&&Tryz.prog.readableRec t&&decide (t<Tryz.prog.types.size))=true:=by kernel_rfl
theorem zJO:Abs.isAgg Tryz.prog 22=false:=by kernel_rfl
theorem RZ:Abs.isAgg Tryz.prog 4=false:=by kernel_rfl
theorem args224{dvs:List DV}(h:EJ Tryz.prog [22,4] dvs):∃(l:List (fI × fI)) (k:Bool),dvs=[.one (.sl false 2 (l.map lX)),.one (.bool k)]:=by
 match dvs,h with
 | a::r,h=>
  simp only[EJ,zJO,uP]at h;obtain⟨⟨n,x,h1,rfl⟩,h⟩:=h;obtain⟨l,rfl⟩:=zIl h1
  match r,h with
  |b::r,h=>
   simp only[EJ,RZ,uP]at h;obtain⟨⟨n,x,h1,rfl⟩,rfl⟩:=h;obtain⟨k,rfl⟩:=zLX Tryz.underlying4 h1;exact⟨l,k,rfl⟩
end Go.Gr
namespace Go.Proofs.YtlfjlokfciejnaaGreatDoor
open Go.Abs Go.Gr
noncomputable def laid2 {H : Type} : List (String × DataW H) := [("unicode.White_Space", Rows.laid_unicode_White_Space), ("strings.asciiSpace", Rows.laid_strings_asciiSpace)]
noncomputable def doorW (os:Os):World:=World.doorLaid Tryz.prog 40 os
theorem door_met(os:Os)(args:Array Value):laidMetH Tryz.prog laid2 ((doorW os).forCall (λ_ _=>0) ⟨#[],args,[]⟩).memory:=
 laidMetH_of_parts3 (fuel:=8) (laidMet_of_run' 8 (by kernel_rfl) (by kernel_rfl)) (by kernel_rfl) (by kernel_rfl)
def emptySl:Value:=.slice none 0 0
theorem zIF:∀c,c<256->Kq c=if Lib.isSp (UInt8.ofNat c)then 1 else 0:=by decide+kernel
set_option maxRecDepth 100000 in
theorem gnd_of(w:World)(h:laidMetH Tryz.prog laid2 w):yR Tryz.prog λB=>w.heap[B]?:=by
 have h1:laidMet Tryz.prog laid2 w:=by
  have e:((laid2 (H:=Unit)).filter λx=>x.2.handleName?.isSome)=[]:=by kernel_rfl
  unfold laidMetH at h;rw[e]at h;exact h
 have h2 : laidMet Tryz.prog (("strings.asciiSpace", Lib.tabData .u8 Lib.asciiSpaceTab) :: []) w := laidMet.tail h1;have h3:=Lib.tabIs_of_head (g:=1) (t:=274) (e:=5) (n:=256) (by kernel_rfl) (by kernel_rfl) (by kernel_rfl) (by kernel_rfl) (by kernel_rfl) (by kernel_rfl) h2;intro g hg;have hv:=h3;unfold Lib.TabIs World.var? at hv;rw[hg]at hv;simp only[Option.bind_some]at hv;cases ho:w.heap[g]? with
 |none=>rw[ho]at hv;cases hv
 | some o=>
  refine⟨o,ho,λw' hw' c hc=>?_⟩;have h4 : Lib.TabIs Tryz.prog w' "strings.asciiSpace" .u8 Lib.asciiSpaceTab := by
   unfold Lib.TabIs World.var?;rw[hg];simp only[Option.bind_some];rw[ho]at hv;rw[hw'];exact hv
  rw[h4.cell hg c (by rw[Lib.asciiSpaceTab_length];exact hc),Lib.asciiSpaceTab_at c hc,zIF c hc]
end Go.Proofs.YtlfjlokfciejnaaGreatDoor
