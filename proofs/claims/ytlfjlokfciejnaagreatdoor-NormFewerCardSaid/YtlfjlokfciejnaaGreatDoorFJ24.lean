/- Texts of ours, joined and written short by a program of ours. -/
import Derived.Test.YtlfjlokfciejnaaGreatDoorFJ23
import Derived.Test.YtlfjlokfciejnaaGreatDoorFJ16
import Derived.Test.YtlfjlokfciejnaaGreatDoorFJ19
import Derived.Test.YtlfjlokfciejnaaGreatDoorFJ15
import Derived.Test.YtlfjlokfciejnaaGreatDoorFJ13
set_option maxRecDepth 20000
set_option maxHeartbeats 4000000
set_option linter.unusedSectionVars false
set_option linter.unusedVariables false
set_option linter.unusedSimpArgs false
namespace Go.Gr.P
open Go.Abs Go.Proofs List
theorem Pj{α:Type}(q:α->Bool):∀(l:List α) (i:Nat),(l.find? q=none/\fi q i l= -1)\/∃(n:Nat) (h:n<l.length),l.find? q=some l[n]/\fi q i l=(i+n:Nat)
|[],i=>.inl ⟨rfl,rfl⟩
| x::l,i=>by
 rw[find?_cons,fi];cases hq:q x with
 |true=>exact .inr ⟨0,by simp,by simp,by simp⟩
 | false=>
  simp only;rcases Pj q l (i+1)with⟨h1,h2⟩|⟨n,hn,h1,h2⟩
  ·exact .inl ⟨h1,by simpa using h2⟩
  ·refine .inr ⟨n+1,by simpa using hn,by simpa using h1,?_⟩;simp only[aa,if_false,h2];omega
theorem zmh(t:gT)(i:Nat):gU Pg 145 [.agg t.enc,.one (.int .i64 i)] (.tup [.agg ((qi t i).getD (pU 0)).enc,.one (.bool (qi t i).isSome)]):=by
 refine zhC (by simp) λo c hN hp=>?_;have he:(pU 0).enc=[.int .i64 0,.str (bs []),.sl false 1 [],.sl false 4 []]:=rfl;have hi0:¬((i:Int)<0):=by omega
 have hi:=λl=>zmg l 169 [.rp [.int .i64 i] 0] (λx=>decide (iH x=i)) λx _=>zk5 x i;by_cases h7:t.kind=7
 ·have hm:qi t i=t.kids.find? λx=>decide (iH x=i):=by unfold qi;rw[aC h7]
  have hi:=hi t.kids;rcases Pj (λx=>decide (iH x=i)) t.kids 0 with⟨h1,h2⟩|⟨n,hn,h1,h2⟩
  ·rw[hm,h1];rw[h2]at hi;unfold GV;simp[h7];refine gQ hi ?_;simp[he]
  ·rw[hm,h1];rw[h2]at hi;have hn0:¬((n:Int)<0):=by omega
   unfold GV;simp[h7];simp at hi;refine gQ hi ?_;simp[hn0,hi0,aA hn]
 ·have hm:qi t i=[t].find? λx=>decide (iH x=i):=by unfold qi;rw[aB h7]
  have hl:gU Pg 168 [.one (.sl true 4 [t.enc]),.one (.fn (.func 169) [.rp [.int .i64 i] 0])] (.one (.int .i64 (fi (λx=>decide (iH x=i)) 0 [t]))):=gU.erd (hi [t]) (by simp[DV.erds,DV.erd,D.erd,D.erdE,D.erdL,gT.erdL]);rcases Pj (λx=>decide (iH x=i)) [t] 0 with⟨h1,h2⟩|⟨n,hn,h1,h2⟩
  ·rw[hm,h1];rw[h2]at hl;unfold GV;simp[h7];refine gQ hl ?_;simp[he]
  ·have hn':n=0:=by simpa using hn
   subst hn';rw[hm,h1];rw[h2]at hl;unfold GV;simp[h7];refine gQ hl ?_;simp[hi0]
theorem yt(t:gT)(i:Nat)(h6:i<6):gU Pg 98 [.agg t.enc,.one (.int .i64 i)] (.tup [.agg ((kP t i).getD (pU 0)).enc,.one (.bool (decide (t.kind=0/\i=4))),.one (.bool (kP t i).isSome)]):=by
 by_cases q:t.kind=0
 ·have hw:IntKind.i64.wrap (1+(i:Int))=i+1:=by rw[wI];omega
  have hp:kP t i=some (nE i):=by unfold kP;rw[aC q]
  rw[hp];have h4:decide ((i:Int)=4)=decide (i=4):=by rw[decide_eq_decide];omega
  by_cases q5:i=5
  ·subst q5;refine gU.erdV (v:=.tup [.agg [.int .i64 6,.str (bs []),.sl false 1 [],.sl false 4 [[.int .i64 0,.str (bs []),.sl true 1 [],.sl true 4 []],[.int .i64 0,.str (bs []),.sl true 1 [],.sl true 4 []]]],.one (.bool false),.one (.bool true)]) ?_ (by simp[DV.erd,DV.erds,D.erd,D.erdL,D.erdE,nE,pU,gT.enc,gT.encs,encS]);refine O8 (by simp) λo c hN hp=>?_;unfold J4;simp;refine gQ (Cx t) ?_;simp at hw;simp[q,hw]
  ·have hi5:¬((i:Int)=5):=by omega
   have he:(nE i).enc=[.int .i64 (i+1),.str (bs []),.sl false 1 [],.sl false 4 []]:=by simp[nE,q5,gT.enc,gT.encs,encS]
   refine O8 (by simp) λo c hN hp=>?_;unfold J4;simp;refine gQ (Cx t) ?_;rw[he];simp[q,hw,hi5,h4]
 ·have hp:kP t i=qi t i:=by unfold kP;rw[aB q]
  rw[hp];refine O8 (by simp) λo c hN hp=>?_;unfold J4;simp;refine gQ (Cx t) ?_;simp[q];refine gQ (zmh t i) ?_;simp[q]
theorem zhI(n:Nat):((n^^^1:Nat):Int)=qH n:=by
 have h1:(n^^^1)/2=n/2:=by rw[Nat.xor_div_two];simp
 have h2:(n^^^1)%2=(n+1)%2:=by
  have:=Nat.xor_mod_two_pow (a:=n) (b:=1) (n:=1);simp only[Nat.pow_one]at this;rw[this];have h:n%2=0\/n%2=1:=by omega
  rcases h with h|h<;>rw[h]<;>simp<;>omega
 unfold qH;split<;>omega
theorem zhJ{lb:Int}(h0:0<=lb)(h1:lb<=9223372036854775807):IntKind.i64.wrap (((lb%2^IntKind.i64.bits).toNat^^^1%2^IntKind.i64.bits:Nat):Int)=qH lb:=by
 obtain⟨n,rfl⟩:∃n:Nat,lb=n:=⟨lb.toNat,by omega⟩
 have e1:(((n:Int)%2^IntKind.i64.bits).toNat)=n:=by
  show((n:Int)%18446744073709551616).toNat=n;omega
 have e2:1%2^IntKind.i64.bits=1:=rfl;rw[e1,e2,zhI];have h2:qH (n:Int)<=9223372036854775807/\0<=qH (n:Int):=by unfold qH;split<;>omega
 exact wI
theorem zil{lb:Int}(h0:0<=lb)(h1:lb<=9223372036854775807):0<=qH lb/\qH lb<=9223372036854775807:=by unfold qH;split<;>omega
def Ar(a b:gT)(i:Nat):Prop:=(kP a i).isSome=true/\(kP b i).isSome=true
instance (a b:gT) (i:Nat):Decidable (Ar a b i):=inferInstanceAs (Decidable (_/\_))
def o9(i:Nat)(a b:gT)(j:Nat)(x y:D):D:=if i<j/\Ar a b i then x else y
theorem DF{i:Nat}{a b:gT}{j:Nat}(h:j≠i\/¬Ar a b i)(x y:D):o9 i a b (j+1) x y=o9 i a b j x y:=by
 unfold o9;by_cases q:Ar a b i
 ·have hj:=h.resolve_right (λn=>n q);by_cases r:i<j
  ·rw[aC ⟨by omega,q⟩,aC ⟨r,q⟩]
  ·rw[aB (λe=>by omega),aB (λe=>by omega)]
 ·rw[aB (λe=>q e.2),aB (λe=>q e.2)]
theorem DI{i:Nat}{a b:gT}{j:Nat}(h:j<=i)(x y:D):o9 i a b j x y=y:=by
 unfold o9;rw[aB (λe=>by omega)]
theorem Jq{i:Nat}{a b:gT}{j:Nat}(h:i<j)(q:Ar a b i)(x y:D):o9 i a b j x y=x:=by
 unfold o9;rw[aC ⟨h,q⟩]
section
variable (v:gT->gT->Int->gY) (a b:gT) (lb:Int)
abbrev Bj(j:Nat):D:=o9 4 a b j (.sl false 2 (iI (x9 a b lb))) (.sl true 2 [])
abbrev Bl(j:Nat):D:=o9 4 a b j (.sl false 1 (encS ((qo v a b lb).map (·.1)))) (.sl true 1 [])
abbrev Bn(j:Nat):D:=o9 4 a b j (.sl false 5 ((qo v a b lb).map (·.2.enc))) (.sl true 5 [])
abbrev DJ(j:Nat):D:=o9 5 a b j (.sl true 5 ((wh v a b lb).map gY.enc)) (.sl true 5 [])
abbrev Gb(j:Nat):Blk:=.box [.msl 1 1 0 6,.d (Bj a b lb j),.d (Bl v a b lb j),.d (Bn v a b lb j),.d (DJ v a b lb j)]
end
theorem zBE(a b:gT)(lb:Int){j:Nat}(h:j<6):(kw a b lb)[j]'(by simpa[kw]using h)=uf a b lb j:=by
 match j,h with
 |0,_|1,_|2,_|3,_|4,_|5,_=>rfl
theorem zHa{L:List Int}(hL:L.length=6){j:Nat}(h:j<6)(h0:L[j]=0):qG L (j+1)=qG L j:=by
 obtain⟨a,b,c,d,e,f,rfl⟩:=six hL
 match j,h with
 |0,_|1,_|2,_|3,_|4,_|5,_=>simp at h0;subst h0;rfl
abbrev Gc(a b:gT)(lb:Int):List (Nat × AV):=[(2,.c (.d (.int .i64 lb))),(3,.c (.d (.rp a.enc 0))),(4,.c (.d (.rp b.enc 0))),(6,.c (.ptr 0 0)),(7,.c (.ptr 2 0))]
theorem zHA{c:Ctx}(hp:c.pure)(v:gT->gT->Int->gY)(a b:gT)(lb:Int)(ga:mq a)(gb:mq b)(hne:¬(a.kind=0/\b.kind=0))(l0:0<=lb)(l1:lb<=9223372036854775807)
  (H4:∀m k,kP a 4=some m->kP b 4=some k->∀s,s∈uz (decide (a.kind=0)) (decide (b.kind=0)) m k->gU Pg 62 [.agg (kidO m s).enc,.agg (kidO k s).enc,.one (.int .i64 lb)] (.agg (v (kidO m s) (kidO k s) lb).enc))
  (H5:∀m k,kP a 5=some m->kP b 5=some k->gU Pg 62 [.agg (kd k 0).enc,.agg (kd m 0).enc,.one (.int .i64 (qH lb))] (.agg (v (kd k 0) (kd m 0) (qH lb)).enc)/\gU Pg 62 [.agg (kd m 1).enc,.agg (kd k 1).enc,.one (.int .i64 lb)] (.agg (v (kd m 1) (kd k 1) lb).enc))
  {Q:Exit->St->Prop} {S:St} {g}
  (h0:iM [0,1,2] S ((23,.c (.d (.int .i64 0)))::Gc a b lb) [mO,tq qd,P8])
  (hQ:∀T,Abs.look T 6=.c (.ptr 0 0)->Abs.look T 7=.c (.ptr 2 0)->Q (.exit 0) ⟨T,hpOf [mO,tq (kw a b lb),Gb v a b lb 6],3⟩):mW Pg c O6 Q g S:=by
 have hL:(kw a b lb).length=6:=rfl
 refine fO gy hp (λj:Nat=>j<=6) (λj=>(23,.c (.d (.int .i64 j)))::Gc a b lb) (λj=>[mO,tq (qG (kw a b lb) j),Gb v a b lb j]) (λj=>6-j) 0 [0,1,2] (by simp)
  (by simpa[DI,qG,qd]using h0) λj h1=>?_
 unfold O6;simp;apply gM<;>intro h
 ·have hj:j<6:=by simp at h;omega
  have hup:(qG (kw a b lb) j).length=6:=by simp[qG,hL];omega
  have hju:j<(qG (kw a b lb) j).length:=by omega
  have hset:∀x,x=uf a b lb j->(encI (qG (kw a b lb) j)).set j [.int .i64 x]=encI (qG (kw a b lb) (j+1)):=λx e=>by
   rw[e,<-Xk,<-zBE a b lb hj,Xj hL hj]
  have hsame:uf a b lb j=0->qG (kw a b lb) (j+1)=qG (kw a b lb) j:=λe=>zHa hL hj (by rw[zBE a b lb hj,e]);refine gQ (yt a j hj) ?_;simp;refine gQ (yt b j hj) ?_;simp;cases ha:kP a j with
  |none=>
   have ht:uf a b lb j=0:=by unfold uf;rw[ha]
   have hb:¬Ar a b j:=λe=>by have:=e.1;rw[ha]at this;cases this
   have hs4:∀x y,o9 4 a b (j+1) x y=o9 4 a b j x y:=λx y=>DF (by by_cases q:j=4;exact .inr (q▸hb);exact .inl q) x y;have hs5:∀x y,o9 5 a b (j+1) x y=o9 5 a b j x y:=λx y=>DF (by by_cases q:j=5;exact .inr (q▸hb);exact .inl q) x y;simp;refine fT [] ?_;simp only[yw];simp;refine fF (j+1) [0,1,2] (by omega) (by omega) ?_;simp[hsame ht,hs4,hs5];exact wI
  | some m=>
   cases hbk:kP b j with
   |none=>
    have ht:uf a b lb j=lb:=by unfold uf;rw[ha,hbk]
    have hb:¬Ar a b j:=λe=>by have:=e.2;rw[hbk]at this;cases this
    have hs4:∀x y,o9 4 a b (j+1) x y=o9 4 a b j x y:=λx y=>DF (by by_cases q:j=4;exact .inr (q▸hb);exact .inl q) x y;have hs5:∀x y,o9 5 a b (j+1) x y=o9 5 a b j x y:=λx y=>DF (by by_cases q:j=5;exact .inr (q▸hb);exact .inl q) x y;simp[aA hju];refine⟨by omega,?_⟩;refine fT [] ?_;simp only[yw];simp;refine fF (j+1) [0,1,2] (by omega) (by omega) ?_;simp[hs4,hs5];refine⟨wI,?_⟩;rw[<-hset lb ht.symm];simp[fD]
   | some k=>
    have ht:uf a b lb j=0:=by unfold uf;rw[ha,hbk]
    have hb:Ar a b j:=⟨by rw[ha];rfl,by rw[hbk];rfl⟩
    by_cases j5:j=5
    ·subst j5;obtain⟨tm,gm,nm7,_⟩:=Bi ga (by omega) ha;obtain⟨tk,gk,nk7,_⟩:=Bi gb (by omega) hbk;have lm:=(BR gm.1 nm7).2.2 (by omega);have lk:=(BR gk.1 nk7).2.2 (by omega);have g0:∀{t:gT},t.kids.length=2->t.kids[0]?=some (kd t 0)/\t.kids[1]?=some (kd t 1):=λ{t} hl=>by
      unfold kd
      match t.kids,hl with
      |[a,b],_=>exact⟨rfl,rfl⟩
     obtain⟨m0,m1⟩:=g0 lm;obtain⟨k0,k1⟩:=g0 lk;obtain⟨c0,c1⟩:=H5 m k ha hbk;have hfn:wh v a b lb=nC (v (kd k 0) (kd m 0) (qH lb)) (v (kd m 1) (kd k 1) lb):=by unfold wh;rw[ha,hbk]
     have hx:=zhJ l0 l1;have e4:∀x y,o9 4 a b 6 x y=o9 4 a b 5 x y:=λx y=>DF (.inl (by decide)) x y;have f5:DJ v a b lb 5=.sl true 5 []:=DI (by omega) _ _;have f6:DJ v a b lb 6=.sl true 5 ((nC (v (kd k 0) (kd m 0) (qH lb)) (v (kd m 1) (kd k 1) lb)).map gY.enc):=by rw[<-hfn];exact Jq (by omega) hb _ _
     have g2:Bj a b lb 6=Bj a b lb 5:=e4 _ _;have g3:Bl v a b lb 6=Bl v a b lb 5:=e4 _ _;have g4:Bn v a b lb 6=Bn v a b lb 5:=e4 _ _;have hf:=zHU (Bj a b lb 5) (Bl v a b lb 5) (Bn v a b lb 5) (qG (kw a b lb) 5) hup (v (kd k 0) (kd m 0) (qH lb)) (v (kd m 1) (kd k 1) lb);clear hfn e4;generalize kd m 0=M0 at*
     generalize kd m 1=M1 at*
     generalize kd k 0=K0 at*
     generalize kd k 1=K1 at*
     simp[m0,m1,k0,k1];rw[hx];refine gQ c0 ?_;simp[m0,m1,k0,k1];refine gQ c1 ?_;simp;refine gP [2,1] hf (by simp[f5]) ?_;simp;refine⟨by decide,?_⟩;refine fT [] ?_;simp only[yw];simp;refine fF 6 [0,1,2] (by omega) (by omega) ?_;simp[hsame ht,f6,g2,g3,g4];exact wI
    ·by_cases j4:j=4
     ·subst j4;obtain⟨tm,gm,nm7,_⟩:=Bi ga (by omega) ha;obtain⟨tk,gk,nk7,_⟩:=Bi gb (by omega) hbk;have hc:=zHV v m k gm gk (decide (a.kind=0)) (decide (b.kind=0)) (λe=>by
       simp only[aI]at e;unfold kP at hbk;rw[aC e]at hbk
       simp only[ah]at hbk;rw[<-hbk];rfl) (λe=>by
       simp only[aI]at e;unfold kP at ha;rw[aC e]at ha
       simp only[ah]at ha;rw[<-ha];rfl) lb (qG (kw a b lb) 4) hup (H4 m k ha hbk)
      have hnd:x9 a b lb=qj lb m k:=by unfold x9;rw[ha,hbk]
      have hfd:qo v a b lb=ql v (decide (a.kind=0)) (decide (b.kind=0)) m k lb:=by unfold qo;rw[ha,hbk]
      rw[<-hnd,<-hfd]at hc;have g4:Bj a b lb 4=.sl true 2 []/\Bl v a b lb 4=.sl true 1 []/\Bn v a b lb 4=.sl true 5 []/\DJ v a b lb 4=.sl true 5 []:=⟨DI (by omega) _ _,DI (by omega) _ _,DI (by omega) _ _,DI (by omega) _ _⟩
      have g5:Bj a b lb 5=.sl false 2 (iI (x9 a b lb))/\Bl v a b lb 5=.sl false 1 (encS ((qo v a b lb).map (·.1)))/\Bn v a b lb 5=.sl false 5 ((qo v a b lb).map (·.2.enc))/\DJ v a b lb 5=.sl true 5 []:=⟨Jq (by omega) hb _ _,Jq (by omega) hb _ _,Jq (by omega) hb _ _,DI (by omega) _ _⟩
      clear hnd hfd;generalize qo v a b lb=L at*
      generalize x9 a b lb=N at*
      have ht1:(encS (L.map (·.1))).take L.length=encS (L.map (·.1)):=aG (by simp);have ht2:(L.map λx=>x.2.enc).take L.length=L.map λx=>x.2.enc:=aG (by simp);simp;refine gP [2,1] hc (by simp[g4]) ?_;simp;refine fT [5,6] ?_;simp[iV,ht1,ht2];refine fF 5 [0,1,2] (by omega) (by omega) ?_;simp[hsame ht,g5,iV,ht1,ht2];exact wI
     ·have j5':¬((j:Int)=5):=by omega
      have j4':¬((j:Int)=4):=by omega
      have hs4:∀x y,o9 4 a b (j+1) x y=o9 4 a b j x y:=λx y=>DF (.inl j4) x y;have hs5:∀x y,o9 5 a b (j+1) x y=o9 5 a b j x y:=λx y=>DF (.inl j5) x y;simp[j5',j4'];refine fT [] ?_;simp only[yw];simp;refine fF (j+1) [0,1,2] (by omega) (by omega) ?_;simp[hsame ht,hs4,hs5];exact wI
 ·have hj:j=6:=by simp at h;omega
  subst hj;have hup:qG (kw a b lb) 6=kw a b lb:=by unfold qG;rw[aG (by omega)];simp
  rw[hup];exact hQ _ (by simp) (by simp)
theorem zHb(v:gT->gT->Int->gY)(a b:gT)(lb:Int)(ga:mq a)(gb:mq b)(l0:0<=lb)(l1:lb<=9223372036854775807)
  (H4:¬(a.kind=0/\b.kind=0)->∀m k,kP a 4=some m->kP b 4=some k->∀s,s∈uz (decide (a.kind=0)) (decide (b.kind=0)) m k->gU Pg 62 [.agg (kidO m s).enc,.agg (kidO k s).enc,.one (.int .i64 lb)] (.agg (v (kidO m s) (kidO k s) lb).enc))
  (H5:¬(a.kind=0/\b.kind=0)->∀m k,kP a 5=some m->kP b 5=some k->gU Pg 62 [.agg (kd k 0).enc,.agg (kd m 0).enc,.one (.int .i64 (qH lb))] (.agg (v (kd k 0) (kd m 0) (qH lb)).enc)/\gU Pg 62 [.agg (kd m 1).enc,.agg (kd k 1).enc,.one (.int .i64 lb)] (.agg (v (kd m 1) (kd k 1) lb).enc)):
  gU Pg 62 [.agg a.enc,.agg b.enc,.one (.int .i64 lb)] (.agg (qp v a b lb).enc):=by
 refine zz3 (by simp) λo c hN hp=>?_;by_cases hd:a.kind=0/\b.kind=0
 ·have e:qp v a b lb=idC:=by unfold qp;rw[aC hd]
  have hE:idC.enc=[.sl false 1 (encI qd),.sl false 2 [],.sl false 1 [],.sl false 5 [],.sl false 5 []]:=rfl;have htk:(encI qd).take 6=encI qd:=rfl;have hl6:qd.length=6:=rfl;rw[e,hE];unfold O7;simp;refine gN [] GX ?_;simp;refine gQ (Cx a) ?_;simp[hd.1];refine gQ (Cx b) ?_;simp[hd.2,htk,hl6]
 ·have e:qp v a b lb=.mk (kw a b lb) (x9 a b lb) ((qo v a b lb).map (·.1)) ((qo v a b lb).map (·.2)) (wh v a b lb):=by unfold qp;rw[aB hd]
  have hE:(qp v a b lb).enc=[.sl false 1 (encI (kw a b lb)),.sl false 2 (iI (x9 a b lb)),.sl false 1 (encS ((qo v a b lb).map (·.1))),.sl false 5 ((qo v a b lb).map (·.2.enc)),.sl false 5 ((wh v a b lb).map gY.enc)]:=by
   rw[e,gY.enc_eq];simp only[gY.tags,gY.needs,gY.names,gY.fields,gY.fn,bi,Function.comp_def]
  have htk:(encI (kw a b lb)).take 6=encI (kw a b lb):=rfl;have hl6:(kw a b lb).length=6:=rfl;have e2:(Bj a b lb 6).er=.sl false 2 (iI (x9 a b lb)):=by
   unfold Bj o9;split
   ·rfl
   ·rename_i q;have:x9 a b lb=[]:=by
     unfold x9;cases h1:kP a 4 with
     |none=>rfl
     |some m=>
      cases h2:kP b 4 with
      |none=>rfl
      |some k=>exact absurd ⟨by omega,by rw[h1];rfl,by rw[h2];rfl⟩ q
    rw[this];try rfl
  have e34:Ar a b 4\/qo v a b lb=[]:=by
   unfold qo;cases h1:kP a 4 with
   |none=>exact .inr rfl
   |some m=>
    cases h2:kP b 4 with
    |none=>exact .inr rfl
    |some k=>exact .inl ⟨by rw[h1];rfl,by rw[h2];rfl⟩
  have e3:(Bl v a b lb 6).er=.sl false 1 (encS ((qo v a b lb).map (·.1))):=by
   unfold Bl o9;split
   ·rfl
   ·rename_i q;rw[e34.resolve_left λh=>q ⟨by omega,h⟩];try rfl
  have e4:(Bn v a b lb 6).er=.sl false 5 ((qo v a b lb).map (·.2.enc)):=by
   unfold Bn o9;split
   ·rfl
   ·rename_i q;rw[e34.resolve_left λh=>q ⟨by omega,h⟩];try rfl
  have e5:(DJ v a b lb 6).er=.sl false 5 ((wh v a b lb).map gY.enc):=by
   unfold DJ o9;split
   ·rfl
   ·rename_i q;have:wh v a b lb=[]:=by
     unfold wh;cases h1:kP a 5 with
     |none=>rfl
     |some m=>
      cases h2:kP b 5 with
      |none=>rfl
      |some k=>exact absurd ⟨by omega,by rw[h1];rfl,by rw[h2];rfl⟩ q
    rw[this];try rfl
  rw[hE];unfold O7;simp;refine gN [] GX ?_;simp;refine gQ (Cx a) ?_;simp;apply gM<;>intro h
  ·refine gQ (Cx b) ?_;have hm:¬b.kind=0:=λe=>hd ⟨of_decide_eq_true h,e⟩;simp[hm];refine zHA hp v a b lb ga gb hd l0 l1 (H4 hd) (H5 hd) (by simp) λT e6 e7=>?_;simp[e6,e7,htk,hl6,e2,e3,e4,e5]
  ·refine zHA hp v a b lb ga gb hd l0 l1 (H4 hd) (H5 hd) (by simp) λT e6 e7=>?_;simp[e6,e7,htk,hl6,e2,e3,e4,e5]
theorem Jr:∀(n:Nat) (a b:gT) (lb:Int),mq a->mq b->jE a+jE b<=n+1->0<=lb->lb<=9223372036854775807->gU Pg 62 [.agg a.enc,.agg b.enc,.one (.int .i64 lb)] (.agg (tN n a b lb).enc)
|0,a,b,lb,ga,gb,hd,_,_=>by have:=zS a;have:=zS b;omega
| n +1,a,b,lb,ga,gb,hd,l0,l1=>by
 rw[tN];have hfl:=zil l0 l1;have ha1:=zS a;have hb1:=zS b;refine zHb (tN n) a b lb ga gb l0 l1 (λhne m k h1 h2 s hs=>?_) λhne m k h1 h2=>?_
 ·obtain⟨_,gm,_,dm⟩:=Bi ga (by omega) h1;obtain⟨_,gk,_,dk⟩:=Bi gb (by omega) h2;have hm:s∈m.names->(a.kind=0/\jE (kidO m s)=1)\/(a.kind≠0/\jE (kidO m s)<jE a):=λh=>(dm _ (zCI gm h)).imp (λq=>⟨q.1,by rw[q.2];rfl⟩) λq=>q;have hk:s∈k.names->(b.kind=0/\jE (kidO k s)=1)\/(b.kind≠0/\jE (kidO k s)<jE b):=λh=>(dk _ (zCI gk h)).imp (λq=>⟨q.1,by rw[q.2];rfl⟩) λq=>q;have am:a.kind=0->jE (kidO m s)=1:=λe=>by
   by_cases q:s∈m.names
   ·rcases hm q with r|r
    ·exact r.2
    ·exact absurd e r.1
   ·rw[Jn q];try rfl
  have bk:b.kind=0->jE (kidO k s)=1:=λe=>by
   by_cases q:s∈k.names
   ·rcases hk q with r|r
    ·exact r.2
    ·exact absurd e r.1
   ·rw[Jn q];try rfl
  refine Jr n _ _ lb (zzB gm s) (zzB gk s) ?_ l0 l1;unfold uz at hs;split at hs
  ·rename_i e;simp only[aI]at e;have:=bk e;have ha0:a.kind≠0:=λq=>hne ⟨q,e⟩;rcases hm hs with r|r
   ·exact absurd r.1 ha0
   ·omega
  ·rename_i e;simp only[aI]at e;split at hs
   ·rename_i e';simp only[aI]at e';have:=am e';rcases hk hs with r|r
    ·exact absurd r.1 e
    ·omega
   ·rename_i e';simp only[aI]at e';rw[bD,aI]at hs;rcases hm hs.2 with r|r
    ·exact absurd r.1 e'
    ·rcases hk hs.1 with r'|r'
     ·exact absurd r'.1 e
     ·omega
 ·obtain⟨tm,gm,nm7,dm⟩:=Bi ga (by omega) h1;obtain⟨tk,gk,nk7,dk⟩:=Bi gb (by omega) h2;have lm:=(BR gm.1 nm7).2.2 (by omega);have lk:=(BR gk.1 nk7).2.2 (by omega);have hm:∀j,j<2->(a.kind=0/\jE (kd m j)=1)\/(a.kind≠0/\jE (kd m j)<jE a):=λj hj=>(dm _ (Jl (by omega))).imp (λq=>⟨q.1,by unfold kd;rw[q.2];rfl⟩) λq=>q;have hk:∀j,j<2->(b.kind=0/\jE (kd k j)=1)\/(b.kind≠0/\jE (kd k j)<jE b):=λj hj=>(dk _ (Jl (by omega))).imp (λq=>⟨q.1,by unfold kd;rw[q.2];rfl⟩) λq=>q;have hsum:∀i j,i<2->j<2->jE (kd m i)+jE (kd k j)<=n+1:=λi j hi hj=>by
   rcases hm i hi with r|r<;>rcases hk j hj with r'|r'
   ·exact absurd ⟨r.1,r'.1⟩ hne
   ·omega
   ·omega
   ·omega
  refine⟨Jr n _ _ _ (Jm gk 0) (Jm gm 0) ?_ hfl.1 hfl.2,Jr n _ _ _ (Jm gm 1) (Jm gk 1) (hsum 1 1 (by omega) (by omega)) l0 l1⟩;have:=hsum 0 0 (by omega) (by omega);omega
theorem Js:xZ.enc=[.sl false 1 [],.sl false 2 [],.sl false 1 [],.sl false 5 [],.sl false 5 []]:=rfl
end Go.Gr.P
namespace Go.Gr.P
open Go.Abs Go.Proofs
def Jt(N:Nat)(a b:gT)(lb:Int):gY:=if lb=0\/lb=1\/zi a=false\/zi b=false then xZ else tN N a b lb
theorem zKC(N:Nat)(a b:gT)(lb:Int)(hd:jE a+jE b<=N+1)(l0:0<=lb)(l1:lb<=9223372036854775807):
  gU Pg 36 [.agg a.enc,.agg b.enc,.one (.int .i64 lb)] (.agg (Jt N a b lb).enc):=by
 refine zz2 (by simp) λo c hN hp=>?_;unfold Yw Jt;by_cases e0:lb=0
 ·rw[aC (.inl e0),Js];simp[e0]
 by_cases e1:lb=1
 ·rw[aC (.inr (.inl e1)),Js];simp[e1]
 simp[e0,e1];refine gQ (zzM a) ?_;cases ha:zi a with
 |false=>
  simp[Js]
 | true=>
  simp;refine gQ (zzM b) ?_;cases hb:zi b with
  |false=>
   simp[Js]
  |true=>
   simp;refine gQ (Jr N a b lb (zBa ha) (zBa hb) hd l0 l1) ?_;simp[e0,e1]
end Go.Gr.P
namespace Go.Gr
open Go.Abs Go.Proofs List
theorem zFJ{α:Type}(q:α->Bool):∀(l:List α) (j:Nat),P.fi q j l= -1\/(j:Int)<=P.fi q j l
|[],j=>.inl rfl
| x::l,j=>by
 rw[P.fi];split
 ·exact .inr (by omega)
 ·rcases zFJ q l (j+1)with h|h
  ·exact .inl h
  ·exact .inr (by omega)
theorem zzS(s:fE):∀(ns:List fE) (ks:List gT) (j:Nat),ns.length<=ks.length->
 (if 0<=P.fi (λx=>decide (s=x)) j ns then ks.getD ((P.fi (λx=>decide (s=x)) j ns).toNat-j) noT else noT)=(nX ns ks s).1/\((nX ns ks s).2=true↔s∈ns)
|[],ks,j,_=>by
 rw[P.fi,aB (by omega),nX]
 ·simp
 ·intros;contradiction
|n::ns,[],j,h=>by simp at h
| n::ns,k::ks,j,h=>by
 have ih:=zzS s ns ks (j+1) (by simpa using h);rw[P.fi,nX];by_cases e:n=s
 ·subst e;simp
 ·have e':¬s=n:=λx=>e x.symm;simp only[e',decide_false,aa,if_false,aB e,aN,false_or];refine⟨?_,ih.2⟩;rw[<-ih.1];rcases zFJ (λx=>decide (s=x)) ns (j+1)with q|q
  ·rw[q];simp
  ·have h1:(P.fi (λx=>decide (s=x)) (j+1) ns).toNat-j=((P.fi (λx=>decide (s=x)) (j+1) ns).toNat-(j+1))+1:=by omega
   rw[h1,getD_cons_succ]
theorem zzT{k:gT}(hl:k.names.length<=k.kids.length)(s:fE):P.kidO k s=(kH k s).1/\((kH k s).2=true↔s∈k.names):=by
 have h:=zzS s k.names k.kids 0 hl;refine⟨?_,h.2⟩;rw[kH,<-h.1];unfold P.kidO P.wC;simp only[dz];split<;>rfl
theorem Pk:∀(ns:List fE) (ks:List gT),ns.Nodup->ns.length=ks.length->ns.zip ks=ns.map λs=>(s,(nX ns ks s).1)
|[],[],_,_=>rfl
|[],_::_,_,h=>by simp at h
|_::_,[],_,h=>by simp at h
| n::ns,k::ks,hn,h=>by
 have hn':=bV.1 hn;have ih:=Pk ns ks hn'.2 (by simpa using h);rw[zip_cons_cons,ih,map_cons];have e:∀s,s∈ns->(nX (n::ns) (k::ks) s).1=(nX ns ks s).1:=λs hs=>by
  rw[nX,aB (λe=>hn'.1 (by rw[e];exact hs))]
 rw[show(nX (n::ns) (k::ks) n).1=k from by rw[nX,aC rfl]];congr 1;exact bW λs hs=>by rw[e s hs]
theorem zFK(x:fE × gY)(l:List (fE × gY)):busy (x::l)=if jW x.2 idC=true then busy l else x::busy l:=by
 unfold busy;rw[dS];by_cases h:jW x.2 idC=true<;>simp[h]
def pV(C:gY)(l:List (fE × gY)):gY:=.mk C.tags C.needs (C.names++l.map (·.1)) (C.fields++l.map (·.2)) C.fn
def addN(C:gY)(l:List (fE × Int)):gY:=.mk C.tags (C.needs++l) C.names C.fields C.fn
theorem Pm(C:gY):pV C []=C:=by cases C;simp[pV,gY.tags,gY.needs,gY.names,gY.fields,gY.fn]
theorem zBQ(C:gY):addN C []=C:=by cases C;simp[addN,gY.tags,gY.needs,gY.names,gY.fields,gY.fn]
theorem Pn(C:gY)(k:fE)(d:gY)(l:List (fE × gY)):pV (jm C k d) (busy l)=pV C (busy ((k,d)::l)):=by
 rw[zFK];unfold jm;by_cases h:jW d idC=true
 ·simp[h]
 ·simp[h,pV,gY.tags,gY.needs,gY.names,gY.fields,gY.fn]
theorem zFL(v:gT->gT->Int->gY)(lb:Int):∀(ns:List fE) (ks:List gT) (C:gY),o5 v lb ns ks C=pV C (busy ((ns.zip ks).map λx=>(x.1,v x.2 noT lb)))
|[],ks,C=>by rw[o5];simp[busy,Pm];intros;contradiction
|_::_,[],C=>by rw[o5];simp[busy,Pm];intros;contradiction
|n::ns,k::ks,C=>by
 rw[o5,zFL v lb ns ks,Pn];try rfl
theorem zFM(C:gY)(k:fE)(d:gY)(lb:Int):jm (oH C k lb) k d=oH (jm C k d) k lb:=by
 unfold jm oH;split<;>rfl
theorem zzU(C:gY)(k:fE)(lb:Int)(m:List (fE × Int)):addN (oH C k lb) m=addN C ((k,lb)::m):=by
 simp[addN,oH,gY.tags,gY.needs,gY.names,gY.fields,gY.fn]
theorem zFN(v:gT->gT->Int->gY)(m:ic)(lb:Int):∀(ns:List fE) (ks:List gT) (C:gY),ns.length=ks.length->
 o6 v m lb ns ks C=addN (pV C (busy (((ns.zip ks).filter λx=>(kH m.t x.1).2||m.opn).map λx=>(x.1,v (kH m.t x.1).1 x.2 lb)))) ((ns.filter λs=> !(kH m.t s).2).map λs=>(s,lb))
|[],ks,C,_=>by rw[o6];simp[busy,Pm,zBQ];intros;contradiction
|_::_,[],C,h=>by simp at h
| n::ns,k::ks,C,h=>by
 have ih:=zFN v m lb ns ks;rw[o6,ih _ (by simpa using h)];rw[zip_cons_cons,dS,dS];by_cases h1:(kH m.t n).2=true
 ·simp only[h1,Bool.true_eq_false,if_false,true_or,if_true,fC,Bool.not_true,aa,map_cons,Pn]
 ·have h1':(kH m.t n).2=false:=by simpa using h1
  by_cases h2:m.opn=true
  ·simp only[h1',h2,aa,false_or,if_true,eQ,Bool.not_false,map_cons,zFM];rw[show∀(D:gY) (l:List (fE × gY)),pV (oH D n lb) l=oH (pV D l) n lb fromλD l=>rfl,Pn,zzU]
  ·have h2':m.opn=false:=by simpa using h2
   simp only[h1',h2',aa,or_self,if_false,if_true,Bool.or_self,Bool.not_false,map_cons];rw[show∀(D:gY) (l:List (fE × gY)),pV (oH D n lb) l=oH (pV D l) n lb fromλD l=>rfl,zzU]
theorem zJc(v:gT->gT->Int->gY)(m n:ic)(lb:Int)(C:gY)(hm:NF m.t)(hn:NF n.t)(lm:m.t.names.length=m.t.kids.length)(ln:n.t.names.length=n.t.kids.length)(hno:n.opn=true->m.opn=false/\n.t.names=[]):
  uX v m n lb C=addN (pV C (P.ql v m.opn n.opn m.t n.t lb)) (if n.opn=true then []else P.qj lb m.t n.t):=by
 have dm:m.t.names.Nodup:=sG ((wV _).1 hm.2).1;have dn:n.t.names.Nodup:=sG ((wV _).1 hn.2).1;have fm:=λs=>zzT (k:=m.t) (by omega) s;have fn:=λs=>zzT (k:=n.t) (by omega) s;unfold uX;by_cases ho:n.opn=true
 ·obtain⟨h1,h2⟩:=hno ho;rw[aC ho,aB (by rw[h1];simp),aC ho,zBQ,zFL,Pk _ _ dm lm];unfold P.ql P.uz;rw[aC ho,bi];congr 2;refine bW λs hs=>?_;have e:P.kidO n.t s=noT:=by
   rw[(fn s).1,kH,h2,nX];intros;contradiction
  simp only[Function.comp_apply,e,(fm s).1];rfl
 ·rw[aB ho,aB ho,zFN _ _ _ _ _ _ ln,Pk _ _ dn ln];have e1:(n.t.names.filter λs=> !(kH m.t s).2).map (λs=>(s,lb))=P.qj lb m.t n.t:=by
   unfold P.qj;congr 1;refine filter_congr λs _=>?_;rw[dP];have:=(fm s).2;cases q:(kH m.t s).2<;>simp[q]at this⊢<;>exact this
  rw[e1];congr 2;unfold P.ql P.uz;rw[aB ho];have e2:(filter (λx:fE × gT=>(kH m.t x.1).2||m.opn) (n.t.names.map λs=>(s,(nX n.t.names n.t.kids s).1)))=(if m.opn=true then n.t.names else n.t.names.filter λs=>decide (s∈m.t.names)).map λs=>(s,(nX n.t.names n.t.kids s).1):=by
   rw[filter_map];congr 1;by_cases q:m.opn=true
   ·rw[aC q];exact List.filter_eq_self.2 λs _=>by simp[q]
   ·rw[aB q];refine filter_congr λs _=>?_;have q':m.opn=false:=by simpa using q
    rw[dP];simp[q',(fm s).2]
  rw[e2,bi];congr 1;refine bW λs hs=>?_;simp only[Function.comp_apply,(fm s).1,(fn s).1];rfl
theorem Gd{a:gT}(h:NF a){i:Nat}(hi:i<6):((kW a).find? λp=>decide (p.tag=(i:Int)))=(P.kP a i).map λt=>(⟨(i:Int),decide (a.kind=0/\i=4),t⟩:ic):=by
 by_cases h0:a.kind=0
 ·unfold kW P.kP;rw[aC h0,aC h0]
  match i,hi with
  |0,_|1,_|2,_|3,_|4,_|5,_=>simp[h0];rfl
 ·have hz:decide (a.kind=0/\i=4)=false:=by simp[h0]
  unfold kW P.kP P.qi;rw[aB h0,aB h0,hz];have key:∀l:List gT,((l.map λk=>(⟨iH k,false,k⟩:ic)).find? λp=>decide (p.tag=(i:Int)))=(l.find? λx=>decide (P.iH x=(i:Int))).map λt=>(⟨(i:Int),false,t⟩:ic):=λl=>by
   rw[find?_map];have e:((λp:ic=>decide (p.tag=(i:Int)))∘λk=>(⟨iH k,false,k⟩:ic))=λx=>decide (P.iH x=(i:Int)):=rfl;rw[e];cases q:l.find? λx=>decide (P.iH x=(i:Int))with
   |none=>rfl
   |some k=>
    have:=find?_some q;simp only[aI]at this;simp only[Option.map_some];rw[show iH k=i from this]
  by_cases h7:a.kind=7
  ·rw[aB (by omega),aC h7];exact key _
  ·rw[aC h7,aB h7];exact key [a]
theorem Po{b:gT}(h:NF b){i:Nat}(hi:i<6):jy (kW b) i=match P.kP b i with
  |some t=>(⟨(i:Int),decide (b.kind=0/\i=4),t⟩,true)
  |none=>(TQ,false):=by
 unfold jy;rw[Gd h hi];cases P.kP b i<;>rfl
def mV(C:gY):List (fE × Int) × List fE × List gY:=(C.needs,C.names,C.fields)
theorem zDd{C D:gY}(h:mV C=mV D)(k:fE)(d:gY):mV (jm C k d)=mV (jm D k d):=by
 have h':=h;simp only[mV,bR]at h';unfold jm;split
 ·exact h
 ·simp[mV,gY.needs,gY.names,gY.fields,h'.1,h'.2.1,h'.2.2]at*
  simp[h'.1,h'.2.1,h'.2.2]
theorem zHk{C D:gY}(h:mV C=mV D)(k:fE)(lb:Int):mV (oH C k lb)=mV (oH D k lb):=by
 have h':=h;simp only[mV,bR]at h'⊢;simp only[Cu,zhR,zhS,h'.1,h'.2.1,h'.2.2,and_self]
theorem zDe(v:gT->gT->Int->gY)(lb:Int):∀(ns:List fE) (ks:List gT) (C D:gY),mV C=mV D->mV (o5 v lb ns ks C)=mV (o5 v lb ns ks D)
|[],_,C,D,h=>by rw[o5,o5];exact h;all_goals (intros;contradiction)
|_::_,[],C,D,h=>by rw[o5,o5];exact h;all_goals (intros;contradiction)
|n::ns,k::ks,C,D,h=>by rw[o5,o5];exact zDe v lb ns ks _ _ (zDd h _ _)
theorem zDf(v:gT->gT->Int->gY)(m:ic)(lb:Int):∀(ns:List fE) (ks:List gT) (C D:gY),mV C=mV D->mV (o6 v m lb ns ks C)=mV (o6 v m lb ns ks D)
|[],_,C,D,h=>by rw[o6,o6];exact h;all_goals (intros;contradiction)
|_::_,[],C,D,h=>by rw[o6,o6];exact h;all_goals (intros;contradiction)
| n::ns,k::ks,C,D,h=>by
 rw[o6,o6];have h1:mV (if(kH m.t n).2=false then oH C n lb else C)=mV (if(kH m.t n).2=false then oH D n lb else D):=by
  split
  ·exact zHk h _ _
  ·exact h
 refine zDf v m lb ns ks _ _ ?_;split
 ·exact zDd h1 _ _
 ·exact h1
theorem zIs(v:gT->gT->Int->gY)(m n:ic)(lb:Int){C D:gY}(h:mV C=mV D):mV (uX v m n lb C)=mV (uX v m n lb D):=by
 unfold uX;split
 ·split
  ·exact h
  ·exact zDe v lb _ _ _ _ h
 ·exact zDf v m lb _ _ _ _ h
def Pp(v:gT->gT->Int->gY)(R:List ic)(lb:Int)(m:ic):List gY:=nC (v (jY (jy R 5).1.t) (jY m.t) (qH lb)) (v (jZ m.t) (jZ (jy R 5).1.t) lb)
theorem zFO(v:gT->gT->Int->gY)(R:List ic)(lb:Int)(m:ic)(C:gY)(mt:0<=m.tag/\m.tag<6)(h6:C.tags.length=6):
  (yC v R lb m C).tags.length=6/\(∀i:Nat,i<6->iE (yC v R lb m C) i=if m.tag=i/\(jy R i).2=false then lb else iE C i)/\
  (yC v R lb m C).fn=(if m.tag=5/\(jy R 5).2=true then Pp v R lb m else C.fn)/\mV (yC v R lb m C)=(if m.tag=4/\(jy R 4).2=true then mV (uX v m (jy R 4).1 lb C)else mV C):=by
 unfold yC;by_cases q:(jy R m.tag).2=false
 ·rw[aC q];refine⟨by simpa[tC,gY.tags]using h6,λi hi=>?_,?_,?_⟩
  ·by_cases e:m.tag=i
   ·rw[aC ⟨e,by rw[<-e];exact q⟩];unfold iE tC;simp only[gY.tags];rw[show m.tag.toNat=i from by omega,aH,getElem?_set_self (by have:=h6;simp only[gY.tags]at this;omega)];try rfl
   ·rw[aB (λx=>e x.1)];exact OL _ _ _ _ (by omega)
  ·rw[aB (λx=>by rw[x.1]at q;rw[q]at x;exact absurd x.2 (by simp))];try rfl
  ·rw[aB (λx=>by rw[x.1]at q;rw[q]at x;exact absurd x.2 (by simp))];try rfl
 ·rw[aB q];have q':(jy R m.tag).2=true:=by simpa using q
  have ht:∀i:Nat,i<6->¬(m.tag=i/\(jy R i).2=false):=λi hi x=>q (by rw[x.1];exact x.2);by_cases q5:m.tag=5
  ·rw[aC q5];refine⟨h6,λi hi=>?_,?_,?_⟩
   ·rw[aB (ht i hi)];try rfl
   ·rw[aC ⟨q5,by rw[<-q5];exact q'⟩];rfl
   ·rw[aB (λx=>by omega)];try rfl
  ·rw[aB q5];by_cases q4:m.tag=4
   ·rw[aC q4];have hk:=OI v m (jy R 4).1 lb C;refine⟨by rw[hk.1];exact h6,λi hi=>?_,?_,?_⟩
    ·rw[aB (ht i hi)];unfold iE;rw[hk.1]
    ·rw[aB (λx=>q5 x.1)];exact hk.2
    ·rw[aC ⟨q4,by rw[<-q4];exact q'⟩]
   ·rw[aB q4];exact⟨h6,λi hi=>by rw[aB (ht i hi)],by rw[aB (λx=>q5 x.1)],by rw[aB (λx=>q4 x.1)]⟩
theorem zzV(v:gT->gT->Int->gY)(R:List ic)(lb:Int):∀(L:List ic) (C:gY),(L.map (·.tag)).Nodup->(∀m,m∈L->0<=m.tag/\m.tag<6)->C.tags.length=6->
 (∀i:Nat,i<6->iE (uu v R lb L C) i=if(L.find? λp=>decide (p.tag=(i:Int))).isSome=true/\(jy R i).2=false then lb else iE C i)/\
 (uu v R lb L C).fn=(match L.find? λp=>decide (p.tag=5)with
  |some m=>if(jy R 5).2=true then Pp v R lb m else C.fn
  |none=>C.fn)/\mV (uu v R lb L C)=(match L.find? λp=>decide (p.tag=4)with
  |some m=>if(jy R 4).2=true then mV (uX v m (jy R 4).1 lb C)else mV C
  |none=>mV C)
|[],C,_,_,_=>⟨λi hi=>by simp[uu],rfl,rfl⟩
| m::l,C,hn,ht,h6=>by
 rw[map_cons,bV]at hn;obtain⟨g0,g1,g2,g3⟩:=zFO v R lb m C (ht m (by simp)) h6;obtain⟨i1,i2,i3⟩:=zzV v R lb l (yC v R lb m C) hn.2 (λx hx=>ht x (by simp[hx])) g0;have none:∀i:Int,m.tag=i->(l.find? λp=>decide (p.tag=i))=none:=λi e=>List.find?_eq_none.2 λx hx=>by
  simp only[aI];intro e';exact hn.1 (by rw[e,<-e'];exact eZ hx)
 rw[uu];refine⟨λi hi=>?_,?_,?_⟩
 ·rw[i1 i hi,g1 i hi,find?_cons];by_cases e:m.tag=i
  ·rw[none i e];simp[e]
  ·simp[e]
 ·rw[i2,g2,find?_cons];by_cases e:m.tag=5
  ·rw[none 5 e];simp[e]
  ·simp[e]
 ·rw[i3,g3,find?_cons];by_cases e:m.tag=4
  ·rw[none 4 e];simp[e]
  ·have hC:mV (yC v R lb m C)=mV C:=by rw[g3,aB (λx=>e x.1)]
   simp only[e,decide_false,false_and,if_false];cases l.find? λp=>decide (p.tag=4)with
   |none=>rfl
   |some x=>simp only[zIs v x (jy R 4).1 lb hC]
theorem wf4{t:gT}(h:NF t)(e:iH t=4):t.names.length=t.kids.length:=by
 have hk:t.kind=5:=by unfold iH at e;split at e<;>omega
 rcases((ll t).1 h.1).2.2 with q|q|q|q
 ·omega
 ·exact q.2.1
 ·omega
 ·omega
theorem EN{t:gT}(h:NF t){i:Nat}(hi:i<6){k:gT}(hk:P.kP t i=some k):NF k/\iH k=i/\(i=4->k.names.length=k.kids.length):=by
 have hf:=Gd h hi;rw[hk]at hf;have hm:=eU hf;obtain⟨_,_,h3,_⟩:=(JM h).2 _ hm;have ht:iH k=i:=by
  unfold P.kP at hk;split at hk
  ·simp only[ah]at hk;subst hk
   match i,hi with
   |0,_|1,_|2,_|3,_|4,_|5,_=>rfl
  ·have:=find?_some hk;simp only[aI]at this;exact this
 exact⟨h3,ht,λe=>wf4 h3 (by rw[ht,e];rfl)⟩
theorem zHl(v:gT->gT->Int->gY)(a b:gT)(lb:Int)(ha:NF a)(hb:NF b)(hne:¬(a.kind=0/\b.kind=0)):uu v (kW b) lb (kW a) idC=P.qp v a b lb:=by
 obtain⟨pn,pt⟩:=JM ha;obtain⟨h1,h2,h3⟩:=zzV v (kW b) lb (kW a) idC pn (λm hm=>⟨(pt m hm).1,(pt m hm).2.1⟩) rfl;have hl:=Xt v (kW b) lb (kW a) idC;generalize uu v (kW b) lb (kW a) idC=F0 at*
 unfold P.qp;rw[aB hne];have e4:=Gd ha (i:=4) (by omega);have e5:=Gd ha (i:=5) (by omega);have r4:=Po hb (i:=4) (by omega);have r5:=Po hb (i:=5) (by omega);have e4':(find? (λp:ic=>decide (p.tag=4)) (kW a))=_:=e4;have e5':(find? (λp:ic=>decide (p.tag=5)) (kW a))=_:=e5;have r4':jy (kW b) 4=_:=r4;have r5':jy (kW b) 5=_:=r5;rw[e5',r5']at h2;rw[e4',r4']at h3;have tags:F0.tags=P.kw a b lb:=by
  obtain⟨x0,x1,x2,x3,x4,x5,e⟩:=six (l:=F0.tags) hl;have k:∀i:Nat,i<6->iE F0 i=P.uf a b lb i:=λi hi=>by
   rw[h1 i hi,Gd ha hi,Po hb hi];have hz:iE idC i=0:=by
    match i,hi with
    |0,_|1,_|2,_|3,_|4,_|5,_=>rfl
   unfold P.uf;cases P.kP a i<;>cases P.kP b i<;>simp[hz]
  unfold iE at k;rw[e]at k⊢;have k0:=k 0 (by omega);have k1:=k 1 (by omega);have k2:=k 2 (by omega);have k3:=k 3 (by omega);have k4:=k 4 (by omega);have k5:=k 5 (by omega);simp at k0 k1 k2 k3 k4 k5;unfold P.kw;rw[k0,k1,k2,k3,k4,k5]
 have fn:F0.fn=P.wh v a b lb:=by
  rw[h2];unfold P.wh;cases qa:P.kP a 5 with
  |none=>rfl
  | some m=>
   cases qb:P.kP b 5 with
   |none=>rfl
   |some k=>
    simp only[Option.map_some,if_true,Pp];rw[r5',qb];try rfl
 have tr:mV F0=(P.x9 a b lb,(P.qo v a b lb).map (·.1),(P.qo v a b lb).map (·.2)):=by
  rw[h3];unfold P.x9 P.qo;cases qa:P.kP a 4 with
  |none=>rfl
  | some m=>
   cases qb:P.kP b 4 with
   |none=>rfl
   | some k=>
    obtain⟨nm,_,lm⟩:=EN ha (by omega) qa;obtain⟨nk,_,lk⟩:=EN hb (by omega) qb;have hk0:b.kind=0->k.names=[]:=λh0=>by
     unfold P.kP at qb;rw[aC h0]at qb;cases qb;rfl
    simp only[Option.map_some,if_true];rw[zJc v _ _ lb idC nm nk (lm rfl) (lk rfl) (λho=>by
     simp only[aI]at ho
     exact⟨by simp only[bf];intro x;exact hne ⟨x.1,ho.1⟩,hk0 ho.1⟩)]
    have en:(if decide (b.kind=0/\4=4)=true then []else P.qj lb m k)=P.qj lb m k:=by
     split
     ·rename_i ho;simp only[aI]at ho;unfold P.qj;rw[hk0 ho.1];try rfl
     ·rfl
    simp only[en];simp[mV,addN,pV,idC,gY.needs,gY.names,gY.fields,gY.tags,gY.fn];intro h0;unfold P.qj;rw[hk0 h0];try rfl
 simp only[mV,bR]at tr;exact gY.ext' tags tr.1 tr.2.1 tr.2.2 fn
theorem NF.kidO{k:gT}(h:NF k)(s:fE):NF (P.kidO k s):=by
 rcases P.zGY (k:=k) s with q|q
 ·exact h.kid q
 ·rw[q];exact NF.no
theorem NF.kd{k:gT}(h:NF k)(j:Nat):NF (P.kd k j):=by
 rcases P.zIX k j with q|q
 ·exact h.kid q
 ·rw[q];exact NF.no
theorem Ju:∀(n:Nat) (a b:gT) (lb:Int),NF a->NF b->P.tN n a b lb=tZ n a b lb
|0,_,_,_,_,_=>rfl
| n +1,a,b,lb,ha,hb=>by
 rw[P.tN,tZ];by_cases h:a.kind=0/\b.kind=0
 ·rw[aC h];unfold P.qp;rw[aC h]
 ·rw [aB h,zHl _ a b lb ha hb h];have e4:P.qo (P.tN n) a b lb=P.qo (tZ n) a b lb:=by
   unfold P.qo;cases qa:P.kP a 4 with
   |none=>rfl
   | some m=>
    cases qb:P.kP b 4 with
    |none=>rfl
    |some k=>
     have nm:=(EN ha (by omega) qa).1;have nk:=(EN hb (by omega) qb).1;simp only;unfold P.ql;congr 1;exact bW λs _=>by rw[Ju n _ _ lb (nm.kidO s) (nk.kidO s)]
  have e5:P.wh (P.tN n) a b lb=P.wh (tZ n) a b lb:=by
   unfold P.wh;cases qa:P.kP a 5 with
   |none=>rfl
   | some m=>
    cases qb:P.kP b 5 with
    |none=>rfl
    |some k=>
     have nm:=(EN ha (by omega) qa).1;have nk:=(EN hb (by omega) qb).1;simp only;rw[Ju n _ _ _ (nk.kd 0) (nm.kd 0),Ju n _ _ lb (nm.kd 1) (nk.kd 1)]
  unfold P.qp;rw[aB h,aB h,e4,e5]
theorem zEl:∀x,x∈P.vw->x∈CO:=by
 have h:(P.vw.all λx=>CO.any λy=>decide (y=x))=true:=by decide+kernel
 intro x hx;have:=ai.1 h x hx;rw[any_eq_true]at this;obtain⟨y,hy,e⟩:=this;simp only[aI]at e;rw[<-e];exact hy
theorem zCu{q:Int->Bool}:∀l:List UInt8,(∀b,b∈l->q b.toNat=true)->P.rq q l=l.length
|[],_=>rfl
|b::l,h=>by
 rw[P.rq,aC (h b (by simp)),zCu l λc hc=>h c (by simp[hc])];rfl
theorem zHH{s:fE}(h:mY s=true):P.Ap s=true:=by
 unfold mY at h;have hlen:s.data.toList.length=s.size:=by rw[cB];try rfl
 unfold P.Ap;cases e:s.data.toList with
 |nil=>rw[e]at h;cases h
 | cons c l=>
  rw[e]at h hlen;simp only[aF,aI,bF]at h;obtain⟨h1,h2,h3,h4⟩:=h;have h4':=ai.1 h4;have hin:∀b,b∈c::l->P.Ao b.toNat=true:=λb hb=>by
   have:=h4' b hb;unfold mI jv sO ow at this;unfold P.Ao P.Cy;exact this
  have hlet:P.Cy c.toNat=true:=by
   have:=h4' c (by simp);rw[h3,Bool.or_false]at this;exact this
  have hrow:=zCu (c::l) hin;have hne:s≠bs []:=λq=>by rw[q]at e;cases e
  have hw:(P.vw.any λx=>decide (s=x))=false:=by
   rw[dW];intro x hx;simp only[aI];intro q;unfold zC at h2;rw[dW]at h2;exact h2 x (zEl x hx) (by simp[q])
  simp only[hne,ne_eq,not_false_eq_true,decide_true,Bool.true_and,aF,aI,hlet,hrow,hlen,hw,Bool.not_false,and_true,and_self,h1]
theorem zy8{α β:Type}:∀{l k:List (α × β)},l.Perm k->l.map (·.1)=k.map (·.1)->(k.map (·.1)).Nodup->l=k
|[],k,hp,_,_=>hp.nil_eq
|x::l,[],hp,_,_=>by simpa using hp.length_eq
| x::l,y::k,hp,he,hn=>by
 simp only[map_cons,dZ]at he;rw[map_cons,bV]at hn;have hx:x∈y::k:=hp.subset (by simp);have exy:x=y:=by
  rcases aN.1 hx with e|e
  ·exact e
  ·exact absurd (he.1▸eZ (f:=(·.1)) e) hn.1
 subst exy;rw[zy8 ((perm_cons x).1 hp) he.2 hn.2]
theorem zEm{l k:List fE}(hp:l.Perm k)(hl:l.Pairwise λa b=>¬jl b a)(hk:k.Pairwise jl):l=k:=by
 have hk':k.Pairwise λa b=>¬jl b a:=hk.imp λ{a b} h q=>Bc _ (zY h q);exact hp.eq_of_pairwise (λa b _ _ h1 h2=>by
  by_cases e:a=b
  ·exact e
  rcases EF e with q|q
  ·exact absurd q h2
  ·exact absurd q h1) hl hk'
theorem zIA{ns:List fE}{ts:List gT}(hl:ns.length=ts.length)(h16:ns.length<=16)(hv:∀x,x∈ns->mY x=true)(ho:ns.Pairwise jl):P.mU ns ts=(.mk 5 (bs []) ns ts,true):=by
 have e1:(ns.zip ts).map (·.1)=ns:=map_fst_zip (by omega);have e2:(ns.zip ts).map (·.2)=ts:=map_snd_zip (by omega);have hp:=P.P6 (ns.zip ts);have hs:=P.zDU (ns.zip ts);have hn:(P.nV (ns.zip ts)).map (·.1)=ns:=zEm (by have:=hp.map (·.1);rwa[e1]at this) hs ho;have he:P.nV (ns.zip ts)=ns.zip ts:=zy8 hp (by rw[hn,e1]) (by rw[e1];exact sG ho);unfold P.mU;rw[aB (by omega),he,e1,e2,aC];refine⟨ai.2 λx hx=>zHH (hv x hx),?_⟩;unfold P.ru;rw[ai];intro j hj;have hj:j<ns.length:=by simpa using hj
 unfold P.qh;by_cases h0:j=0
 ·simp[h0]
 ·have h1:j-1<ns.length:=by omega
  have hne:ns[j-1]≠ns[j]:=λq=>by
   have:=(bn.1 ho) (j-1) j h1 hj (by omega);rw[q]at this;exact Bc _ this
  simp[h0,aH,aA hj,aA h1,hne]
theorem zEn{k:gT}:∀(of:List (Option gT)) (g:Nat),g<of.length->(∀i,g<=i->i<of.length->of.getD i none=none)->(of.set g (some k)).filterMap id=of.filterMap id++[k]
|[],g,h,_=>by simp at h
| o::of,0,h,hn=>by
 have h0:=hn 0 (by omega) (by simp);simp only[getD_cons_zero]at h0;subst h0;have hz:of.filterMap id=[]:=by
  rw[filterMap_eq_nil_iff];intro a ha;obtain⟨i,hi,rfl⟩:=bJ ha;have:=hn (i+1) (by omega) (by simpa using hi);rw[getD_cons_succ,aH,aA hi,Option.getD_some]at this;exact this
 simp[hz]
| o::of,g+1,h,hn=>by
 have ih:=zEn (k:=k) of g (by simpa using h) λi hi hl=>by
  have:=hn (i+1) (by omega) (by simpa using hl);simpa using this
 rw[set_cons_succ];cases o with
 |none=>simpa using ih
 |some x=>simpa using ih
theorem zEo:∀(l:List gT) (of:List (Option gT)) (m:Nat),of.length=6->(∀i,m<=i->i<6->of.getD i none=none)->(l.map iH).Pairwise (· < ·)->(∀x,x∈l->(m:Int)<=iH x/\iH x<6)->
 (P.nU l of).1=true/\(P.nU l of).2.filterMap id=of.filterMap id++l
|[],of,m,_,_,_,_=>by simp[P.nU]
| t::l,of,m,h6,hn,hp,ht=>by
 rw[map_cons,bK]at hp;obtain⟨a,b⟩:=ht t (by simp);have hg:(iH t).toNat<6:=by omega
 have hz:=hn (iH t).toNat (by omega) hg;have hput:P.qJ of t=(true,of.set (iH t).toNat (some t)):=by
  unfold P.qJ;have e:P.iH t=iH t:=rfl;rw[e,aB (by omega),hz];simp only;rw[(P.Ch t t).2 rfl]
 rw[P.nU,hput];simp only[if_true];have ih:=zEo l (of.set (iH t).toNat (some t)) ((iH t).toNat+1) (by simpa using h6) (λi hi hl=>by
  rw[aH,getElem?_set_ne (by omega),<-aH];exact hn i (by omega) hl) hp.2 λx hx=>by
   have:=hp.1 (iH x) (eZ hx);have:=(ht x (by simp[hx])).2;omega
 refine⟨ih.1,?_⟩;rw[ih.2,zEn of _ (by omega) λi hi hl=>hn i (by omega) (by omega),cO];try rfl
theorem zFX{l:List gT}(h2:2<=l.length)(hp:(l.map iH).Pairwise (· < ·))(hk:∀x,x∈l->1<=x.kind/\x.kind<=6):P.w9 l=(.mk 7 (bs []) [] l,true):=by
 have hm:l.flatMap P.iX=l:=by
  have:∀k:List gT,(∀x,x∈k->1<=x.kind/\x.kind<=6)->k.flatMap P.iX=k:=λk=>by
   induction k with
   |nil=>intro _;rfl
   |cons x k ih=>
    intro h;rw[flatMap_cons,ih λy hy=>h y (by simp[hy])];have:=h x (by simp);unfold P.iX;rw[aB (by omega)];try rfl
  exact this l hk
 have ht:∀x,x∈l->((0:Nat):Int)<=iH x/\iH x<6:=λx hx=>by
  have:=hk x hx;unfold iH;rw[aB (by omega)];omega
 have h:=zEo l P.zh 0 rfl (λi _ hi=>by match i,hi with|0,_|1,_|2,_|3,_|4,_|5,_=>rfl) hp ht;have hn:P.zh.filterMap id=([]:List gT):=rfl;rw[hn,nil_append]at h;unfold P.w9;rw[hm];obtain⟨b,of,hof⟩:∃b of,P.nU l P.zh=(b,of):=⟨_,_,rfl⟩
 rw[hof]at h⊢;obtain⟨e1,e2⟩:=h;simp only at e1 e2;subst e1;simp only[e2]
 match l,h2 with
 |x::y::l,_=>simp
mutual
theorem zCv:∀t:gT,NF t->P.lS t=(t,true)
| .mk k n s l,h=>by
 have hw:=(ll _).1 h.1;have ho:=(wV _).1 h.2;simp only[gT.kids,gT.kind,gT.names,gT.name]at hw ho;obtain⟨w1,w2,w3⟩:=hw;have hl:=zAf l λx hx=>⟨w2 x hx,ho.2.2 x hx⟩
 rw[P.lS,w1];rcases w3 with⟨a,b,c,d⟩|⟨a,b,c,d⟩|⟨a,b,c⟩|⟨a,b,c,d⟩
 ·rw[aB (by omega),aC ⟨a,b⟩,c,d]
 ·rw[aC (by omega),hl];simp only[if_true];unfold P.wB;rw[aC a,zIA b c d ho.1,a]
 ·rw[aC (by omega),hl];simp only[if_true];unfold P.wB;rw[aB (by omega),aC a,a,b];simp[c]
 ·rw[aC (by omega),hl];simp only[if_true];unfold P.wB;have h7:=ho.2.1 a;rw[aB (by omega),aB (by omega),zFX h7.2 h7.1 d,a,b]
theorem zAf:∀l:List gT,(∀x,x∈l->NF x)->P.lu l=(l,true)
|[],_=>rfl
|t::l,h=>by
 rw[P.lu,zCv t (h t (by simp)),zAf l λx hx=>h x (by simp[hx])];try rfl
end
mutual
theorem DK:∀t:gT,P.jE t=jE t
|.mk k n s l=>by rw[P.jE,jE,Bo l]
theorem Bo:∀l:List gT,P.ja l=ja l
|[]=>rfl
|t::l=>by rw[P.ja,ja,DK t,Bo l]
end
theorem zEp:∀(n:Nat) (t:gT),P.hgt n t<=jE t
|0,t=>by have:=zS t;rw[P.hgt];omega
| n+1,t=>by
 rw[P.hgt];have h:=P.PT (P.hgt n) t.kids 0 (jE t-1) (by omega) λx hx=>by
  have:=zEp n x;have:=wP hx;omega
 have:=zS t;omega
mutual
theorem zEq:∀t:gT,P.sI t<=jK t
|.mk k n s l=>by
 have:=zCw l 1;rw[P.sI,jK];omega
theorem zCw:∀(l:List gT) (n:Nat),P.mQ l n<=n+jF l
|[],n=>by rw[P.mQ,jF];omega
| t::l,n=>by
 rw[P.mQ,jF];have:=zEq t;split
 ·omega
 ·have:=zCw l (n+P.sI t);omega
end
theorem zEr{t:gT}(h:iC t=true):P.zi t=true:=by
 have h1:=Bf h;have h2:=GN h;have h3:=FN h;have h4:=zEp 16 t;have h5:=zEq t;unfold P.zi P.DC;rw[aB (by omega),zCv t h1];simp[(P.Ch t t).2 rfl]
theorem zFY{a b:gT}{n:Int}(ha:iC a=true)(hb:iC b=true)(h0:0<=n)(h1:n<=1000000000):gU Pg 36 [.agg a.enc,.agg b.enc,.one (.int .i64 (2*n+2))] (.agg (tZ 32 a b (2*n+2)).enc):=by
 have d1:=GN ha;have d2:=GN hb;have h:=P.zKC 32 a b (2*n+2) (by rw[DK,DK];omega) (by omega) (by omega);have e:P.Jt 32 a b (2*n+2)=tZ 32 a b (2*n+2):=by
  unfold P.Jt;rw[aB (by rw[zEr ha,zEr hb];simp;omega)];exact Ju 32 a b _ (Bf ha) (Bf hb)
 rw[e]at h;exact h
theorem Pq(d:gY)(k:gu):gU Pg 35 [.agg d.enc,.agg k.enc] (.agg (vk d k).enc):=by
 refine zE3 (by simp) λo cx hN hp=>?_;unfold Yv;simp;exact(gu.enc_eq (vk d k)).symm
def oM(c:gu):gu:=if c.kind=21 then vk (tZ 32 (c.types.getD 0 noT) (c.types.getD 1 noT) (2*c.n+2)) (c.kids.getD 0 noC)else c
def zk(c:gu):Prop:=c.kind=21->0<=c.n/\c.n<=1000000000/\∃a b k,c.types=[a,b]/\c.kids=[k]/\iC a=true/\iC b=true
theorem zAM(c:gu)(h:zk c):gU Pg 19 [.agg c.enc] (.agg (oM c).enc):=by
 refine zCd (by simp) λo cx hN hp=>?_;unfold Yq oM;by_cases q:c.kind=21
 ·obtain⟨h0,h1,a,b,k,e1,e2,na,nb⟩:=h q;have hm:=zFY na nb h0 h1;have w1:=wI (n:=2*c.n);have w2:=wI (n:=2*c.n+2);have hk:=Pq (tZ 32 a b (2*c.n+2)) k;rw[aC q,e1,e2];simp[q,e1,e2,w1,w2];refine gQ hm ?_;simp[e2];refine gQ hk ?_;simp;decide
 ·rw[aB q];simp[q]
theorem DL{d:gY}{k:gu}{i:Nat}(hi:i<6)(ht:pQ k=i):idleC d k=(decide (iE d i=0)&&(decide (i≠5)||decide (d.fn=[]))):=by
 have hs:jW d idC=true->iE d i=0/\d.fn=[]:=λh=>by
  have:=(Ah _ _).1 h;subst this;exact⟨by match i,hi with|0,_|1,_|2,_|3,_|4,_|5,_=>rfl,rfl⟩
 have h5:decide ((i:Int)≠5)=decide (i≠5):=by rw[decide_eq_decide];omega
 have hf:decide (d.fn.length=0)=decide (d.fn=[]):=by rw[decide_eq_decide];exact aT
 unfold idleC;rw[ht,h5,hf,bB];cases hc:jW d idC with
 |true=>obtain⟨a,b⟩:=hs hc;simp[a,b]
 |false=>simp
theorem zEX{d:gY}{k:gu}(ht:pQ k= -1):idleC d k=jW d idC:=by
 unfold idleC;rw[ht];simp
theorem zAN(d:gY)(k:gu)(hd:d.tags.length=6):gU Pg 38 [.agg d.enc,.agg k.enc] (.one (.bool (idleC d k))):=by
 refine zCf (by simp) λo cx hN hp=>?_;have hg:∀i,i<6->d.tags[i]?=some (iE d i):=λi hi=>za hd hi;have g0:=hg 0 (by omega);have g1:=hg 1 (by omega);have g2:=hg 2 (by omega);have g3:=hg 3 (by omega);have g5:=hg 5 (by omega);by_cases k3:k.kind=3
 ·rw[DL (i:=0) (by omega) (by unfold pQ;simp[k3])];unfold Am;simp[k3,encI,g0]
 by_cases k0:k.kind=0
 ·rw[DL (i:=2) (by omega) (by unfold pQ;simp[k0])];unfold Am;simp[k0,encI,g2]
 by_cases k20:k.kind=20
 ·rw[DL (i:=2) (by omega) (by unfold pQ;simp[k20])];unfold Am;simp[k20,encI,g2]
 by_cases k1:k.kind=1
 ·rw[DL (i:=3) (by omega) (by unfold pQ;simp[k1])];unfold Am;simp[k1,encI,g3]
 by_cases k2:k.kind=2
 ·rw[DL (i:=1) (by omega) (by unfold pQ;simp[k2])];unfold Am;simp[k2,encI,g1]
 by_cases k5:k.kind=5
 ·rw[DL (i:=5) (by omega) (by unfold pQ;simp[k5])];unfold Am;by_cases z:iE d 5=0
  ·simp[k5,encI,g5,z]
  ·simp[k5,encI,g5,z]
 by_cases k6:k.kind=6
 ·rw[DL (i:=5) (by omega) (by unfold pQ;simp[k6])];unfold Am;by_cases z:iE d 5=0
  ·simp[k6,encI,g5,z]
  ·simp[k6,encI,g5,z]
 rw[zEX (by unfold pQ;simp[k0,k1,k2,k3,k5,k6,k20])];have hI:=P.J9;have hS:=P.PG d idC;unfold Am;simp[k0,k1,k2,k3,k5,k6,k20];refine gQ hI ?_;simp;refine gQ hS ?_;simp;decide
def nH(c:gu):gu:=if(oM c).kind=22 then wY ((oM c).cos.getD 0 idC) ((oM c).kids.getD 0 noC)else oM c
def xc(c:gu):Prop:=zk c/\((oM c).kind=22->∃d k,(oM c).cos=[d]/\(oM c).kids=[k]/\wZ 200000000 d/\(k.kind=22->∃e y,k.cos=[e]/\k.kids=[y]/\wZ 200000000 e))
theorem zEY(c:gu)(h:xc c):gU Pg 20 [.agg c.enc] (.agg (nH c).enc):=by
 obtain⟨h1,h2⟩:=h;have hc:=zAM c h1;unfold nH;generalize oM c=x at*
 obtain⟨R,hR⟩:∃R,(if x.kind=22 then wY (x.cos.getD 0 idC) (x.kids.getD 0 noC)else x)=R:=⟨_,rfl⟩
 rw[hR];refine zAV (by simp) λo cx hN hp=>?_;unfold Yr;simp;refine gQ hc ?_;by_cases q:x.kind=22
 ·obtain⟨d,k,e1,e2,gd,hk⟩:=h2 q;rw[aC q,e1,e2]at hR;simp only[getD_cons_zero]at hR;unfold wY at hR;by_cases r:k.kind=22
  ·obtain⟨e,y,f1,f2,ge⟩:=hk r;have hcc:=P.zJi 32 ge.2.2 gd.2.2 (ge.le (B:=536870912) (by omega)).2.1 (gd.le (B:=536870912) (by omega)).2.1;have ec:JL 32 e d=nD 32 e d:=by unfold JL;rw[ge.1,gd.1];try rfl
   rw[ec]at hcc;have g6:=ge.comp (by omega) gd;have hi:=zAN (nD 32 e d) y ((uq _).1 g6.1).tags;have hco:=Pq (nD 32 e d) y;rw[aC r,aC r,f1,f2]at hR;simp only[getD_cons_zero]at hR;simp[q,e1,e2,r,f1,f2];refine⟨by decide,?_⟩;refine gQ hcc ?_;simp[f2];refine⟨by decide,?_⟩;refine gQ hi ?_;cases b:idleC (nD 32 e d) y with
   |true=>rw[b]at hR;simp at hR;subst hR;simp
   |false=>
    rw[b]at hR;simp at hR;subst hR;simp;refine gQ hco ?_;simp
  ·have hi:=zAN d k ((uq _).1 gd.1).tags;have hco:=Pq d k;simp only[aB r]at hR;simp[q,e1,e2,r];refine⟨by decide,?_⟩;refine gQ hi ?_;cases b:idleC d k with
   |true=>rw[b]at hR;simp at hR;subst hR;simp
   |false=>
    rw[b]at hR;simp at hR;subst hR;simp;refine gQ hco ?_;simp
 ·rw[aB q]at hR;subst hR;simp[q]
mutual
def p8(q:gu->gu):gu->gu
|.mk k n t is ns ts cs ks=>q (.mk k n t is ns ts cs (Bp q ks))
def Bp(q:gu->gu):List gu->List gu
|[]=>[]
|c::l=>p8 q c::Bp q l
end
mutual
def xe(R:gu->Prop)(q:gu->gu):gu->Prop
|.mk k n t is ns ts cs ks=>R (.mk k n t is ns ts cs (Bp q ks))/\Bq R q ks
def Bq(R:gu->Prop)(q:gu->gu):List gu->Prop
|[]=>True
|c::l=>xe R q c/\Bq R q l
end
theorem Jv(q:gu->gu):∀l:List gu,Bp q l=l.map (p8 q)
|[]=>rfl
|c::l=>by rw[Bp,Jv q l];try rfl
theorem Ps{R:gu->Prop}{q:gu->gu}:∀{l:List gu},Bq R q l↔∀x,x∈l->xe R q x
|[]=>by simp[Bq]
|c::l=>by simp[Bq,Ps (l:=l)]
theorem zGy(q:gu->gu)(c:gu):p8 q c=q (.mk c.kind c.n c.text c.ints c.names c.types c.cos (c.kids.map (p8 q))):=by
 cases c;rw[p8,Jv];try rfl
def Au(g:FuncId)(R:gu->Prop)(q:gu->gu)(c:gu):Prop:=kC c<=1000000000->xe R q c->gU Pg 21 [.agg c.enc,.one (.fn (.func g) [])] (.agg (p8 q c).enc)
abbrev Pt:Blk:=.box [.d (.int .i64 0),.d (.int .i64 0),.d (.str (bs [])),.d (.sl true 1 []),.d (.sl true 1 []),.d (.sl true 4 []),.d (.sl true 5 []),.d (.sl true 8 [])]
abbrev Pv(l:List gu):Blk:=.arr 8 ((l.map gu.enc).map (·.map .d))
theorem zHZ(a b:gu):put (a.enc.map AC.d) 0 (b.enc.map AC.d)=b.enc.map .d:=by rw[a.enc_eq,b.enc_eq];try rfl
theorem zAK{α:Type}{A B:List α}{j:Nat}(h:j<=A.length):(A.take j++B.drop j)[j]?=B[j]?:=by
 rw[bU (by simp;omega),bI,Nat.min_eq_left h,Nat.sub_self,ay];try rfl
theorem zzl{α:Type}{A B:List α}{j:Nat}(h:j<A.length)(hl:A.length=B.length):(A.take j++B.drop j).set j A[j]=A.take (j+1)++B.drop (j+1):=by
 rw[set_append_right _ _ (by simp;omega),bI,Nat.min_eq_left (by omega),Nat.sub_self,aD (l:=B) (by omega),set_cons_zero,aJ h,cO];try rfl
theorem zGx(g:FuncId)(R:gu->Prop)(q:gu->gu)(hq:∀x,R x->gU Pg g [.agg x.enc] (.agg (q x).enc))(c:gu)(ih:∀x,x∈c.kids->Au g R q x):Au g R q c:=λhs hR=>by
 refine zCe (by simp) λo cx hN hp=>?_;have hsz:=yA c;have hkl:=GA c.kids;have hR':R (.mk c.kind c.n c.text c.ints c.names c.types c.cos (c.kids.map (p8 q)))/\∀x,x∈c.kids->xe R q x:=by
  cases c;rw[xe,Jv,Ps]at hR;exact hR
 have hfin:=hq _ hR'.1;rw[zGy];unfold Yu;simp;refine gN [] (zGU c.kids (by omega)) ?_;simp[zJD];refine fO gy hp (λj:Nat=>j<=c.kids.length) (λj=>[(14,.c (.d (.int .i64 j))),(13,.c (.d (.int .i64 c.kids.length))),(12,.c (.msl 8 2 0 c.kids.length)),(4,.c (.ptr 1 0)),(2,.c (.ptr 0 0)),(1,.c (.d (.fn (.func g) [])))]) (λj=>[.box (yl c (.msl 8 2 0 c.kids.length)),Pt,Pv ((c.kids.take j).map (p8 q)++c.kids.drop j)]) (λj=>c.kids.length-j) 0 [0,1,2] (by simp) (by simp[c.enc_eq]) λj hj=>?_;unfold Yt;simp;apply gM<;>intro h
 ·have hj:j<c.kids.length:=by simpa using h
  have hw:=wI (n:=(j:Int)+1);have hsj:=zW hj;have hx:=ih _ (aR hj) (by omega) (hR'.2 _ (aR hj));have hat:=zAK (A:=c.kids.map ((λx=>List.map AC.d x)∘gu.enc∘p8 q)) (B:=c.kids.map ((λx=>List.map AC.d x)∘gu.enc)) (j:=j) (by simp;omega);rw[getElem?_map,aA hj,Option.map_some]at hat;have hset:=zzl (A:=c.kids.map ((λx=>List.map AC.d x)∘gu.enc∘p8 q)) (B:=c.kids.map ((λx=>List.map AC.d x)∘gu.enc)) (j:=j) (by simpa using hj) (by simp);rw[getElem_map]at hset;refine⟨hj,?_⟩;rw[hat];simp;refine gQ hx ?_;simp;refine⟨hj,?_⟩;rw[hat];refine⟨by decide,?_⟩;refine fF (j+1) [0,1,2] (by omega) (by omega) ?_;simp[hw,zHZ];have tr:=λ(F:gu->List AC) (hF:∀x,∃y:gu,F x=y.enc.map AC.d) (l:List gu) (k:Nat) (x:List AC) (hx:x∈l.map F)=>(show AC.lts 3 x=true from by
   obtain⟨y,_,rfl⟩:=ae.1 hx;obtain⟨z,hz⟩:=hF y
   rw[hz];simp)
  exact⟨hset,λx hx=>tr _ (λy=>⟨p8 q y,rfl⟩) c.kids 0 x (bY hx),λx hx=>tr _ (λy=>⟨y,rfl⟩) c.kids 0 x (dQ hx)⟩
 ·have hj:j=c.kids.length:=by simp at h;omega
  subst hj;have hT:take c.kids.length (List.map (p8 q) c.kids)=List.map (p8 q) c.kids:=aG (by simp);rw[aO,bL,aG (by simp)];refine fT [2] ?_;simp only[Hf,zcu,Qt,Hm,aC,aB,reduceIte,Nat.reduceEqDiff,E8,ww,Blk.fz_arr,Hd,yw];refine St.cut7 (F:=w_ Pg cx _ _ _) [(1,.c (.d (.fn (.func g) []))),(2,.c (.ptr 0 0)),(4,.c (.ptr 1 0))] [.box (yl c (.d (.sl false 8 ((c.kids.map (p8 q)).map gu.enc)))),Pt,.dead] ?_ ?_ λT hT=>?_
  ·simp[iV]
  ·intro i;rcases(show i=0\/i=1\/i=2\/3<=i from by omega)with rfl|rfl|rfl|q3
   ·simp[iV];exact aG (by simp)
   ·simp[iV]
   ·simp[iV]
   ·simp[iV,wK (show [Blk.box (yl c (.d (.sl false 8 ((c.kids.map (p8 q)).map gu.enc)))),Pt,.dead].length<=i from q3),show i≠2 from by omega];rw[wK (by exact q3),wK (by exact q3)];try rfl
  simp only[forall_mem_cons,dE,false_implies,implies_true,and_true]at hT;obtain⟨k1,k2,k3⟩:=hT;have hrow:yl c (.d (.sl false 8 ((c.kids.map (p8 q)).map gu.enc)))=(gu.mk c.kind c.n c.text c.ints c.names c.types c.cos (c.kids.map (p8 q))).enc.map .d:=by rw[gu.enc_eq];try rfl
  rw[hrow];simp[k1,k2,k3];refine gQ hfin ?_;simp[k1,k2,k3]
mutual
theorem Pw(g:FuncId)(R:gu->Prop)(q:gu->gu)(hq:∀x,R x->gU Pg g [.agg x.enc] (.agg (q x).enc)):∀c:gu,Au g R q c
|.mk k n t is ns ts cs ks=>zGx g R q hq _ (zzm g R q hq ks)
theorem zzm(g:FuncId)(R:gu->Prop)(q:gu->gu)(hq:∀x,R x->gU Pg g [.agg x.enc] (.agg (q x).enc)):∀l:List gu,∀x,x∈l->Au g R q x
|[],x,hx=>by cases hx
|c::l,x,hx=>by
 rcases aN.1 hx with e|e
 ·rw[e];exact Pw g R q hq c
 ·exact zzm g R q hq l x e
end
def qN(trim:Bool):gu->gu:=if trim=true then nH else oM
def RN(trim:Bool):gu->Prop:=if trim=true then xc else zk
def Gf(trim:Bool)(p:lT):lT:=⟨p.funs.map λf=>⟨f.name,f.type,p8 (qN trim) f.body⟩,p.main,p.sites⟩
theorem zIu(f:jb)(b:gu):put (f.enc.map AC.d) 5 (b.enc.map AC.d)=(jb.enc ⟨f.name,f.type,b⟩).map .d:=by unfold jb.enc;rw[f.type.enc_eq,f.body.enc_eq,b.enc_eq];try rfl
def Av(q:gu->gu)(f:jb):jb:=⟨f.name,f.type,p8 q f.body⟩
theorem zDg{c:Ctx}(hp:c.pure)(p:lT)(g:FuncId)(q:gu->gu)(hl:p.funs.length<=1000000)(h:∀f,f∈p.funs->gU Pg 21 [.agg f.body.enc,.one (.fn (.func g) [])] (.agg (p8 q f.body).enc)){Q:Exit->St->Prop}{S:St}{gg}{ms:List Nat}
  (h0:iM ms S [(15,.c (.d (.int .i64 (0:Nat)))),(14,.c (.d (.int .i64 p.funs.length))),(5,.c (.d (.fn (.func g) []))),(4,.c (.ptr 1 0)),(2,.c (.ptr 0 0))] [.box [.msl 13 2 0 p.funs.length,.d (.int .i64 p.main),.d (.sl false 3 (p.sites.map Site.enc))],.box [.d (.sl true 13 []),.d (.int .i64 0),.d (.sl true 3 [])],oV p.funs])
  (hQ:∀T,Abs.look T 4=.c (.ptr 1 0)->Abs.look T 2=.c (.ptr 0 0)->Q (.exit 0) ⟨T,hpOf [.box [.msl 13 2 0 p.funs.length,.d (.int .i64 p.main),.d (.sl false 3 (p.sites.map Site.enc))],.box [.d (.sl true 13 []),.d (.int .i64 0),.d (.sl true 3 [])],oV (p.funs.map (Av q))],3⟩):mW Pg c O5 Q gg S:=by
 refine fO gy hp (λj:Nat=>j<=p.funs.length) (λj=>[(15,.c (.d (.int .i64 j))),(14,.c (.d (.int .i64 p.funs.length))),(5,.c (.d (.fn (.func g) []))),(4,.c (.ptr 1 0)),(2,.c (.ptr 0 0))]) (λj=>[.box [.msl 13 2 0 p.funs.length,.d (.int .i64 p.main),.d (.sl false 3 (p.sites.map Site.enc))],.box [.d (.sl true 13 []),.d (.int .i64 0),.d (.sl true 3 [])],oV ((p.funs.map (Av q)).take j++p.funs.drop j)]) (λj=>p.funs.length-j) 0 ms (by simp) (by simpa using h0) λj hj=>?_;unfold O5;simp;apply gM<;>intro hh
 ·have hj:j<p.funs.length:=by simpa using hh
  have hw:=wI (n:=(j:Int)+1);have hx:=h _ (aR hj);have hat:=zAK (A:=p.funs.map ((λx=>List.map AC.d x)∘jb.enc∘Av q)) (B:=p.funs.map ((λx=>List.map AC.d x)∘jb.enc)) (j:=j) (by simp;omega);rw[getElem?_map,aA hj,Option.map_some]at hat;have hset:=zzl (A:=p.funs.map ((λx=>List.map AC.d x)∘jb.enc∘Av q)) (B:=p.funs.map ((λx=>List.map AC.d x)∘jb.enc)) (j:=j) (by simpa using hj) (by simp);rw[getElem_map]at hset;refine⟨hj,?_⟩;rw[hat];simp;refine gQ hx ?_;simp;refine⟨hj,?_⟩;rw[hat];simp;refine⟨by decide,?_⟩;refine fF (j+1) [0,1,2] (by omega) (by omega) ?_;simp[hw,zIu];have tr:=λ(F:jb->List AC) (hF:∀x,∃y:jb,F x=y.enc.map AC.d) (l:List jb) (x:List AC) (hx:x∈l.map F)=>(show AC.lts 3 x=true from by
   obtain⟨y,_,rfl⟩:=ae.1 hx;obtain⟨z,hz⟩:=hF y
   rw[hz];simp)
  exact⟨hset,λx hx=>tr _ (λy=>⟨Av q y,rfl⟩) p.funs x (bY hx),λx hx=>tr _ (λy=>⟨y,rfl⟩) p.funs x (dQ hx)⟩
 ·have hj:j=p.funs.length:=by simp at hh;omega
  subst hj;rw[aO,bL,aG (by simp)];exact hQ _ (by simp) (by simp)
theorem zHq(p:lT)(trim:Bool)(hl:p.funs.length<=1000000)(h:∀f,f∈p.funs->kC f.body<=1000000000/\xe (RN trim) (qN trim) f.body):gU Pg 9 [.agg p.enc,.one (.bool trim)] (.agg (Gf trim p).enc):=by
 have e:p.enc=[.sl false 13 (p.funs.map jb.enc),.int .i64 p.main,.sl false 3 (p.sites.map Site.enc)]:=rfl;have fin:∀(T:List (Nat × AV)) (c:Ctx),c.pure->Abs.look T 4=.c (.ptr 1 0)->Abs.look T 2=.c (.ptr 0 0)->True:=λ_ _ _ _ _=>trivial;rw[e];refine zCc (by simp) λo cx hN hp=>?_;unfold Yp;simp;refine gN [] (zFT p.funs (by omega)) ?_;cases trim with
 |false=>
  have hin:=λQ S gg ms=>zDg (c:=cx) (Q:=Q) (S:=S) (gg:=gg) (ms:=ms) hp p 19 oM hl λf hf=>Pw 19 zk oM zAM f.body (h f hf).1 (h f hf).2;simp;refine hin _ _ _ [0,1,2] (by simp) λT h1 h2=>?_;have hT:take p.funs.length (List.map (jb.enc∘Av oM) p.funs)=List.map (jb.enc∘Av oM) p.funs:=aG (by simp);simp;refine fT [2] ?_;simp[iV,h1,h2,hT];unfold Gf lT.enc qN;rw[bi];try rfl
 |true=>
  have hin:=λQ S gg ms=>zDg (c:=cx) (Q:=Q) (S:=S) (gg:=gg) (ms:=ms) hp p 20 nH hl λf hf=>Pw 20 xc nH zEY f.body (h f hf).1 (h f hf).2;simp;refine hin _ _ _ [0,1,2] (by simp) λT h1 h2=>?_;have hT:take p.funs.length (List.map (jb.enc∘Av nH) p.funs)=List.map (jb.enc∘Av nH) p.funs:=aG (by simp);simp;refine fT [2] ?_;simp[iV,h1,h2,hT];unfold Gf lT.enc qN;rw[bi];try rfl
theorem zBp{c:gu}(h:c.kind≠21):oM c=c:=by unfold oM;rw[aB h]
theorem zzC{c:gu}(h:c.kind=21):oM c=vk (tZ 32 (c.types.getD 0 noT) (c.types.getD 1 noT) (2*c.n+2)) (c.kids.getD 0 noC):=by unfold oM;rw[aC h]
theorem zG2{c:gu}(h:(oM c).kind=22):nH c=wY ((oM c).cos.getD 0 idC) ((oM c).kids.getD 0 noC):=by unfold nH;rw[aC h]
theorem zIe{c:gu}(h:(oM c).kind≠22):nH c=oM c:=by unfold nH;rw[aB h]
theorem zIf(d:gY)(x:gu):oJ (.mk 22 0 (bs []) [] [] [] [d] [x])=wY d (oJ x):=by rw[oJ,aC rfl];try rfl
theorem Px{k n:Int}{t:fE}{is:List Int}{ns:List fE}{ts:List gT}{cs:List gY}{ks:List gu}(h:k≠22):oJ (.mk k n t is ns ts cs ks)=.mk k n t is ns ts cs (x8 ks):=by rw[oJ,aB h]
theorem zk.no{c:gu}(h:c.kind≠21):zk c:=λe=>absurd e h
section
variable {M G:Nat} (hM:M<=1000000000)
include hM
mutual
theorem zzD:∀c:gu,jg M G c->p8 oM c=o8 c/\xe zk oM c
| .mk k n t is ns ts cs ks,h=>by
 rw[jg]at h;obtain⟨e1,e2⟩:=zyu ks h.2;rw[p8,xe,o8,e1];by_cases q:k=21
 ·subst q;obtain⟨h2,h3,h4,a,b,e,na,nb⟩:=h.1.1.inv;subst e;obtain⟨x,hx⟩:∃x,ks=[x]:=by
   match ks,h2 with
   |[x],_=>exact⟨x,rfl⟩
  subst hx;rw[aC rfl];refine⟨?_,?_,e2⟩
  ·rw[zzC rfl];try rfl
  ·intro _;exact⟨h3,by simp only[gu.n];omega,a,b,o8 x,rfl,rfl,na,nb⟩
 ·rw[aB q];exact⟨zBp q,zk.no q,e2⟩
theorem zyu:∀l:List gu,jM M G l->Bp oM l=sH l/\Bq zk oM l
|[],_=>⟨rfl,trivial⟩
|c::l,h=>by
 rw[jM]at h;obtain⟨e1,e2⟩:=zzD c h.1;obtain⟨f1,f2⟩:=zyu l h.2;rw[Bp,sH,Bq,e1,f1];exact⟨rfl,e2,f2⟩
end
theorem zBq:∀(s:Nat) (c:gu) (m:Nat),kC c<=s->s<=10000000->jg M G c->lQ m c->p8 nH c=oJ (o8 c)/\xe xc nH c
|0,c,_,h,_,_,_=>by have:=yA c;omega
| s +1,.mk k n t is ns ts cs ks,m,hs,h7,h,hw=>by
 have hok:=h;rw[jg]at h;rw[kC]at hs;have hpc:=JZ _ hok;have hwp:=J3 _ _ hw;have kid:∀x,x∈ks->(p8 nH x=oJ (o8 x)/\xe xc nH x)/\∃m',lQ m' x:=λx hx=>by
  obtain⟨j,hj,rfl⟩:=bJ hx;have hsj:=zW hj;have hw':=hw;rw[lQ]at hw';obtain⟨m',hm'⟩:∃m',lQ m' ks[j]:=by
   by_cases q5:k=5
   ·subst q5;have hl:=hw'.2.2.2.2.1 rfl
    match ks,hl,hw',j,hj with
    |[x],_,hw,0,_=>exact⟨m+1,by have:=hw.2.2.2.2.2;rw[jf]at this;show lQ (m+1) x;simpa using this.1⟩
   ·exact⟨_,EE q5 hj hw'.2.2.2.2.2⟩
  exact⟨zBq s ks[j] m' (by omega) (by omega) (O0.1 h.2 _ hx) hm',m',hm'⟩
 have e1:Bp nH ks=x8 (sH ks):=by
  rw[Jv,JW,JV,bi];exact bW λx hx=>(kid x hx).1.1
 have e2:Bq xc nH ks:=Ps.2 λx hx=>(kid x hx).1.2;rw[p8,xe,o8,e1];by_cases q:k=21
 ·subst q;obtain⟨h2,h3,h4,a,b,e,na,nb⟩:=h.1.1.inv;subst e;obtain⟨x,hx⟩:∃x,ks=[x]:=by
   match ks,h2 with
   |[x],_=>exact⟨x,rfl⟩
  subst hx;obtain⟨_,m',hm'⟩:=kid x (by simp);have ox:jg M G x:=O0.1 h.2 x (by simp);have gd:=Yg na nb h3;have tk:=GR (kC (o8 x)) (o8 x) m' (aM _) (JZ x ox) (J3 x m' hm');rw[J2]at tk;have hsx:kC x<=s:=by rw[jc,jc]at hs;omega
  have hc:oM (.mk 21 n t is ns [a,b] cs [oJ (o8 x)])=vk (tZ 32 a b (2*n+2)) (oJ (o8 x)):=by
   rw[zzC rfl];try rfl
  rw[aC rfl];have ek:x8 (sH [x])=[oJ (o8 x)]:=rfl;rw[ek];refine⟨?_,⟨?_,?_⟩,e2⟩
  ·rw[zG2 (by rw[hc];rfl),hc];exact(zIf _ (o8 x)).symm
  ·intro _;exact⟨h3,by simp only[gu.n];omega,a,b,_,rfl,rfl,na,nb⟩
  ·rw[hc];intro _;refine⟨_,_,rfl,rfl,gd.le (by omega),λq=>?_⟩;have ht:=tk.tc;generalize oJ (o8 x)=y at*
   obtain⟨k0,n0,t0,is0,ns0,ts0,cs0,ks0⟩:=y;have q:k0=22:=q;subst q;rw[vv]at ht;obtain⟨d,z,g1,g2,g3,g4⟩:=ht.2.1 rfl;exact⟨d,z,g1,g2,g4.le (by omega)⟩
 ·rw[aB q];have q22:k≠22:=λe=>by subst e;exact h.1.1.n22.elim
  have hc:oM (.mk k n t is ns ts cs (x8 (sH ks)))=.mk k n t is ns ts cs (x8 (sH ks)):=zBp q;refine⟨?_,⟨zk.no q,λe=>?_⟩,e2⟩
  ·rw[zIe (by rw[hc];exact q22),hc,Px q22]
  ·rw[hc]at e;exact absurd e q22
end
theorem zG3{p:lT}(hp:Al p)(trim:Bool):Gf trim p=lS trim p/\∀f,f∈p.funs->kC f.body<=1000000000/\xe (RN trim) (qN trim) f.body:=by
 have key:∀f,f∈p.funs->(p8 (qN trim) f.body=uw trim f.body/\xe (RN trim) (qN trim) f.body)/\kC f.body<=1000000000:=λf hf=>by
  have hg:=(hp.good.1 f hf).1;have hok:=hp.ok f hf;have hz:=hg.2;refine⟨?_,by omega⟩;cases trim with
  |false=>exact zzD hp.sites f.body hok
  |true=>exact zBq hp.sites (kC f.body) f.body 1 (aM _) (by omega) hok hg.1
 refine⟨?_,λf hf=>⟨(key f hf).2,(key f hf).1.2⟩⟩;unfold Gf lS;congr 1;exact bW λf hf=>by rw[(key f hf).1.1]
theorem Jw{p:lT}(hp:Al p)(trim:Bool):gU Pg 9 [.agg p.enc,.one (.bool trim)] (.agg (lS trim p).enc):=by
 obtain⟨h1,h2⟩:=zG3 hp trim;have h:=zHq p trim (by have:=hp.good.2;omega) h2;rw[h1]at h;exact h
end Go.Gr
namespace Go.Gr
open Go.Abs Go.Proofs
def ry:List (fE × fE):=[(bs [109,97,105,110],bs [102,110,32,109,97,105,110,40,120,41,32,61,32,49,59])]
def zHu:Bool:=(ul ry).2&&((match(lS false (ul ry).1).funs with
|[f]=>decide (f.body.kind=22)&&decide (f.body.cos.length=1)
|_=>false)&&(match(lS true (ul ry).1).funs with
|[g]=>decide (g.body.kind=0)
|_=>false))
set_option maxRecDepth 100000 in
theorem zDu:zHu=true:=by decide+kernel
theorem zGj:(ul ry).2=true/\∃f g:jb,(lS false (ul ry).1).funs=[f]/\(lS true (ul ry).1).funs=[g]/\f.body.kind=22/\f.body.cos.length=1/\g.body.kind=0:=by
 have h:=zDu;unfold zHu at h;rw[aF,aF]at h;obtain⟨h1,h2,h3⟩:=h;refine⟨h1,?_⟩;split at h2
 ·rename_i f e;split at h3
  ·rename_i g e';simp only[aF,aI]at h2 h3;exact⟨f,g,e,e',h2.1,h2.2,h3⟩
  ·cases h3
 ·cases h2
@[simp] theorem lT.get0(p:lT)(h:0<p.enc.length):p.enc[0]=.sl false 13 (p.funs.map jb.enc):=rfl
@[simp] theorem lT.geq0(p:lT):p.enc[0]?=some (.sl false 13 (p.funs.map jb.enc)):=rfl
@[simp] theorem lT.get1(p:lT)(h:1<p.enc.length):p.enc[1]=.int .i64 p.main:=rfl
@[simp] theorem lT.get2(p:lT)(h:2<p.enc.length):p.enc[2]=.sl false 3 (p.sites.map Site.enc):=rfl
theorem jb.enc13(f:jb):f.enc=[.str f.name,.int .i64 f.type.kind,.str f.type.name,.sl false 1 (encS f.type.names),.sl false 4 (f.type.kids.map gT.enc),.int .i64 f.body.kind,.int .i64 f.body.n,.str f.body.text,.sl false 1 (encI f.body.ints),.sl false 1 (encS f.body.names),.sl false 4 (f.body.types.map gT.enc),.sl false 5 (f.body.cos.map gY.enc),.sl false 8 (f.body.kids.map gu.enc)]:=by
 rw[jb.enc_eq,f.type.enc_eq,f.body.enc_eq];try rfl
@[simp] theorem jb.g5(f:jb)(h:5<f.enc.length):f.enc[5]=.int .i64 f.body.kind:=by simp only[f.enc13];rfl
@[simp] theorem jb.g0(f:jb)(h:0<f.enc.length):f.enc[0]=.str f.name:=rfl
@[simp] theorem jb.q0(f:jb):f.enc[0]?=some (.str f.name):=rfl
@[simp] theorem jb.g11(f:jb)(h:11<f.enc.length):f.enc[11]=.sl false 5 (f.body.cos.map gY.enc):=by simp only[f.enc13];rfl
theorem zDv:gU Pg 7 [] (.one (.bool true)):=by
 refine zCb (by simp) λo cx hN hp=>?_;obtain⟨h1,f,g,e1,e2,f1,f2,g1⟩:=zGj;have hpr:=Wq ry;have hk:=Yb (l:=ry) h1;have hn1:=Jw hk false;have hn2:=Jw hk true;have ev:(ry.map lM)=[[.str (bs [109,97,105,110]),.str (bs [102,110,32,109,97,105,110,40,120,41,32,61,32,49,59])]]:=rfl;rw[ev]at hpr;generalize ul ry=r at*
 obtain⟨p,ok⟩:=r;simp only at h1 hk hn1 hn2 e1 e2;subst h1;generalize lS false p=P1 at*
 generalize lS true p=P2 at*
 unfold Yj;simp;refine gQ (gU.erd hpr (by simp[DV.erds,DV.erd,D.erd,D.erdE,D.erdL])) ?_;simp;refine gQ hn1 ?_;simp;refine gQ hn2 ?_;simp[e1,e2,f1,f2,g1]
mutual
def xf:gu->Prop
|.mk k n t is ns ts cs ks=>(k=22->n=0/\t=bs []/\is=[]/\ns=[]/\ts=[]/\idleC (cs.getD 0 idC) (ks.getD 0 noC)=false)/\qw ks
def qw:List gu->Prop
|[]=>True
|c::l=>xf c/\qw l
end
theorem zMo:∀{l:List gu},qw l↔∀x,x∈l->xf x
|[]=>by simp[qw]
|c::l=>by simp[qw,zMo (l:=l)]
theorem zMB{B m s:Nat}{d:gY}{k:gu}(h:TK B m s k)(hn:xf k):xf (wY d k):=by
 have key:∀(d':gY) (k':gu),xf k'->xf (if idleC d' k'=true then k' else vk d' k'):=λd' k' h'=>by
  split
  ·exact h'
  ·rename_i q;unfold vk;rw[xf,qw,qw];exact⟨λ_=>⟨rfl,rfl,rfl,rfl,rfl,by simpa using q⟩,h',trivial⟩
 unfold wY;simp only;by_cases q:k.kind=22
 ·rw[aC q,aC q];obtain⟨k0,n,t,is,ns,ts,cs,ks⟩:=k;have q:k0=22:=q;subst q;have ht:=h.tc;rw[vv]at ht;obtain⟨e,x,h1,h2,h3,h4⟩:=ht.2.1 rfl;subst h1;subst h2;rw[xf,qw]at hn;exact key _ _ hn.2.1
 ·rw[aB q,aB q];exact key _ _ hn
theorem zMv:∀(s:Nat) (c:gu) (m:Nat),kC c<=s->vo c->lQ m c->xf (oJ c)
|0,c,m,h,_,_=>by have:=yA c;omega
| s +1,.mk k n t is ns ts cs ks,m,h,hp,hw=>by
 have hp':=hp;rw[vo]at hp;rw[kC]at h;have kid:∀x,x∈ks->xf (oJ x)/\∃m',vo x/\lQ m' x:=λx hx=>by
  obtain⟨j,hj,rfl⟩:=bJ hx;have hsj:=zW hj;have hw':=hw;rw[lQ]at hw';have h1:=JX.1 hp.2.2 _ hx;obtain⟨m',hm'⟩:∃m',lQ m' ks[j]:=by
   by_cases q5:k=5
   ·subst q5;have hl:=hw'.2.2.2.2.1 rfl
    match ks,hl,hw',j,hj with
    |[x],_,hw,0,_=>exact⟨m+1,by have:=hw.2.2.2.2.2;rw[jf]at this;show lQ (m+1) x;simpa using this.1⟩
   ·exact⟨_,EE q5 hj hw'.2.2.2.2.2⟩
  exact⟨zMv s ks[j] m' (by omega) h1 hm',m',h1,hm'⟩
 have all:qw (x8 ks):=zMo.2 λy hy=>by
  rw[JW]at hy;obtain⟨x,hx,rfl⟩:=ae.1 hy;exact(kid x hx).1
 by_cases q:k=22
 ·subst q;obtain⟨⟨d,e1,gd⟩,h1⟩:=hp.2.1 rfl;subst e1
  match ks,h1,all,kid with
  |[x],_,all,kid=>
   obtain⟨h2,m',px,wx⟩:=kid x (by simp);have tk:=GR (kC x) x m' (aM _) px wx;have e:oJ (.mk 22 n t is ns ts [d] [x])=wY d (oJ x):=by rw[oJ,aC rfl];try rfl
   rw[e];exact zMB tk h2
 ·rw[Px q,xf];exact⟨λe=>absurd e q,all⟩
end Go.Gr
namespace Go.Gr
open Go.Abs Go.Proofs List
mutual
def kF:gu->Nat
|.mk k _ _ _ _ _ _ ks=>(if k=22 then 1 else 0)+rE ks
def rE:List gu->Nat
|[]=>0
|c::l=>kF c+rE l
end
def DN(c:gu):Bool:= !decide (c.kind=22)||(!jW (c.cos.getD 0 idC) idC&& !decide ((c.kids.getD 0 noC).kind=22))
mutual
def Aw:gu->Bool
|.mk k n t is ns ts cs ks=>DN (.mk k n t is ns ts cs ks)&&yE ks
def yE:List gu->Bool
|[]=>true
|c::l=>Aw c&&yE l
end
theorem zME(c:gu):kF c=(if c.kind=22 then 1 else 0)+rE c.kids:=by cases c;rw[kF];try rfl
theorem zMA(c:gu):Aw c=(DN c&&yE c.kids):=by cases c;rw[Aw];try rfl
mutual
theorem zMI:∀c:gu,kF c<=kC c
|.mk k _ _ _ _ _ _ ks=>by
 have:=Py ks;rw[kF,kC];split<;>omega
theorem Py:∀l:List gu,rE l<=jc l
|[]=>aM _
|c::l=>by
 have:=zMI c;have:=Py l;rw[rE,jc];omega
end
def zMC(c:gu):Prop:=c.kind=22->∃d x,c.cos=[d]/\c.kids=[x]
mutual
def pW:gu->Prop
|.mk k n t is ns ts cs ks=>zMC (.mk k n t is ns ts cs ks)/\Ay ks
def Ay:List gu->Prop
|[]=>True
|c::l=>pW c/\Ay l
end
theorem zMi:∀{l:List gu},Ay l↔∀x,x∈l->pW x
|[]=>by simp[Ay]
|c::l=>by simp[Ay,zMi (l:=l)]
theorem zMF(c:gu):pW c↔zMC c/\∀x,x∈c.kids->pW x:=by cases c;rw[pW,zMi];try rfl
theorem zMw{l:List gu}{j:Nat}(h:j<l.length):rE (l.drop j)=kF l[j]+rE (l.drop (j+1)):=by
 rw[aD h,rE]
theorem zMr{l:List gu}{j:Nat}(h:j<l.length):yE (l.drop j)=(Aw l[j]&&yE (l.drop (j+1))):=by
 rw[aD h,yE]
def Gg(c:gu):Prop:=kC c<=1000000000->pW c->gU Pg 12 [.agg c.enc] (.tup [.one (.int .i64 (kF c)),.one (.bool (Aw c))])
theorem Pz{cx:Ctx}(hp:cx.pure)(c:gu)(hs:kC c<=1000000000)(ih:∀x,x∈c.kids->Gg x)(ho:∀x,x∈c.kids->pW x)(n0:Nat)(b0:Bool)(hn0:n0<=1){Q:Exit->St->Prop}{S:St}{g}{ms:List Nat}
  (h0:iM ms S [(7,.c (.d (.int .i64 (0:Nat)))),(5,.c (.d (.bool b0))),(4,.c (.d (.int .i64 n0))),(1,.c (.d (.rp c.enc 0)))] [])
  (hQ:∀T M n,Abs.look T 4=.c (.d (.int .i64 (n0+rE c.kids:Nat)))->Abs.look T 5=.c (.d (.bool (b0&&yE c.kids)))->Q (.exit 0) ⟨T,M,n⟩):mW Pg cx O4 Q g S:=by
 have hsz:=yA c;have hkl:=GA c.kids;have hcl:=Py c.kids;refine fO (Y:=Nat × Nat × Bool) gy hp (λy=>y.1<=c.kids.length/\y.2.1+rE (c.kids.drop y.1)=n0+rE c.kids/\(y.2.2&&yE (c.kids.drop y.1))=(b0&&yE c.kids)) (λy=>[(7,.c (.d (.int .i64 y.1))),(5,.c (.d (.bool y.2.2))),(4,.c (.d (.int .i64 y.2.1))),(1,.c (.d (.rp c.enc 0)))]) (λ_=>[]) (λy=>c.kids.length-y.1) (0,n0,b0) ms ⟨by simp,by simp,by simp⟩ (by simpa using h0) λ⟨j,n,b⟩ ⟨i1,i2,i3⟩=>?_;simp only at i1 i2 i3;unfold O4;simp;apply gM<;>intro h
 ·have hj:j<c.kids.length:=by simpa using h
  have hw:=wI (n:=(j:Int)+1);have hsj:=zW hj;have hx:=ih _ (aR hj) (by omega) (ho _ (aR hj));rw[zMw hj]at i2;rw[zMr hj]at i3;have hw2:=wI (n:=(n:Int)+(kF c.kids[j]:Nat));simp[hj];refine gQ hx ?_;simp;apply gM<;>intro hb
  ·subst hb;refine fF (j+1,n+kF c.kids[j],Aw c.kids[j]) [] ⟨by simp only;omega,by simp only;omega,by simpa using i3⟩ (by simp only;omega) ?_;simp[hw,hw2]
  ·subst hb;refine fF (j+1,n+kF c.kids[j],false) [] ⟨by simp only;omega,by simp only;omega,by simpa using i3⟩ (by simp only;omega) ?_;simp[hw,hw2]
 ·have hj:j=c.kids.length:=by simp at h;omega
  subst hj;rw[aO,rE]at i2;rw[aO,yE,Bool.and_true]at i3;exact hQ _ _ _ (by simp;omega) (by simp[i3])
theorem count_one(c:gu)(ih:∀x,x∈c.kids->Gg x):Gg c:=λhs ho=>by
 refine zMp (by simp) λo cx hN hp=>?_;have hsz:=yA c;have hkl:=GA c.kids;obtain⟨o1,o2⟩:=(zMF c).1 ho;rw[zME,zMA];unfold Ym;by_cases q:c.kind=22
 ·obtain⟨d,x,e1,e2⟩:=o1 q;simp[q,e1,e2];refine gQ (zbP d) ?_;have f1:DN c=(!jW d idC&& !decide (x.kind=22)):=by unfold DN;simp[q,e1,e2]
  rw[f1];simp[q,e1,e2];apply gM<;>intro hd
  ·refine Pz hp c hs ih o2 1 (!decide (x.kind=22)) (by omega) (ms:=[]) (by simp) λT M n h1 h2=>?_;have hd:jW d idC=false:=by simpa using hd
   simp[h1,h2,hd,q]
  ·refine Pz hp c hs ih o2 1 false (by omega) (ms:=[]) (by simp) λT M n h1 h2=>?_;have hd:jW d idC=true:=by simpa using hd
   simp[h1,h2,hd,q]
 ·simp[q];refine Pz hp c hs ih o2 0 true (by omega) (ms:=[]) (by simp) λT M n h1 h2=>?_;have f1:DN c=true:=by unfold DN;simp[q]
  simp[h1,h2,f1,q]
mutual
theorem QA:∀c:gu,Gg c
|.mk k n t is ns ts cs ks=>count_one _ (zMj ks)
theorem zMj:∀l:List gu,∀x,x∈l->Gg x
|[],x,hx=>by cases hx
|c::l,x,hx=>by
 rcases aN.1 hx with e|e
 ·rw[e];exact QA c
 ·exact zMj l x e
end
mutual
def qx:gu->Bool
|.mk k _ _ _ _ _ _ ks=>decide (k=21)||yF ks
def yF:List gu->Bool
|[]=>false
|c::l=>qx c||yF l
end
theorem zMG(c:gu):qx c=(decide (c.kind=21)||yF c.kids):=by cases c;rw[qx];try rfl
def Jy(c:gu):Prop:=kC c<=1000000000->gU Pg 13 [.agg c.enc] (.one (.bool (qx c)))
theorem zMH(c:gu)(ih:∀x,x∈c.kids->Jy x):Jy c:=λhs=>by
 refine zMq (by simp) λo cx hN hp=>?_;have hsz:=yA c;have hkl:=GA c.kids;rw[zMG];unfold Yo;by_cases q:c.kind=21
 ·simp[q]
 ·simp[q];refine fO gy hp (λj:Nat=>j<=c.kids.length/\yF (c.kids.drop j)=yF c.kids) (λj=>[(3,.c (.d (.int .i64 j))),(1,.c (.d (.rp c.enc 0)))]) (λ_=>[]) (λj=>c.kids.length-j) 0 [] (by simp) (by simp) λj ⟨h1,h2⟩=>?_;unfold Yn;simp;apply gM<;>intro h
  ·have hj:j<c.kids.length:=by simpa using h
   have hw:=wI (n:=(j:Int)+1);have hsj:=zW hj;have hx:=ih _ (aR hj) (by omega);rw[aD hj,yF]at h2;simp[hj];refine gQ hx ?_;cases hb:qx c.kids[j]with
   |true=>
    have h3:yF c.kids=true:=by rw[<-h2,hb];try rfl
    simp[h3]
   |false=>
    rw[hb]at h2;simp at h2;simp;refine fF (j+1) [] ⟨by omega,h2⟩ (by omega) ?_;simp[hw]
  ·have hj:j=c.kids.length:=by simp at h;omega
   subst hj;rw[aO,yF]at h2;simp[<-h2,q]
mutual
theorem QB:∀c:gu,Jy c
|.mk k n t is ns ts cs ks=>zMH _ (zMu ks)
theorem zMu:∀l:List gu,∀x,x∈l->Jy x
|[],x,hx=>by cases hx
|c::l,x,hx=>by
 rcases aN.1 hx with e|e
 ·rw[e];exact QB c
 ·exact zMu l x e
end
end Go.Gr
