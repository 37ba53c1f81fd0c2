/- Texts of ours, joined and written short by a program of ours. -/
import Derived.Test.YtlfjlokfciejnaaGreatDoorJ23
import Derived.Test.YtlfjlokfciejnaaGreatDoorJ16
import Derived.Test.YtlfjlokfciejnaaGreatDoorJ19
import Derived.Test.YtlfjlokfciejnaaGreatDoorJ15
import Derived.Test.YtlfjlokfciejnaaGreatDoorJ13
import Derived.Test.YtlfjlokfciejnaaGreatDoorRows
import Derived.Test.YtlfjlokfciejnaaGreatDoorCards
import Derived.Test.YtlfjlokfciejnaaGreatDoorTie
import Derived.WalkKit
import Derived.ProofKit
import Derived.OpenShut
import Derived.JoinedCond
import Derived.LaidMore
import Derived.Stop.Joined
import Derived.SevenTiedAt
import Derived.Stop.LaidErr
import Derived.Lib.LaidTab
import Derived.Lib.Space
set_option maxRecDepth 20000
set_option maxHeartbeats 4000000
set_option linter.all false
namespace Go.Gr.P
open Go.Abs Go.Proofs List
def zry{α:Type}(q:α->Bool):∀(l:List α) (i:Nat),(l.find? q=none/\fi q i l= -1)\/∃(n:Nat) (h:n<l.length),l.find? q=some l[n]/\fi q i l=(i+n:Nat)
 |[],i=>.inl ⟨rfl,rfl⟩
 | x::l,i=>by
  rw[find?_cons,fi]
  cases hq:q x with
  |true=>exact .inr ⟨0,by simp,by simp,by simp⟩
  | false=>
   simp only
   rcases zry q l (i+1)with⟨h1,h2⟩|⟨n,hn,h1,h2⟩
   ·exact .inl ⟨h1,by simpa using h2⟩
   ·refine .inr ⟨n+1,by simpa using hn,by simpa using h1,?_⟩
    simp only[ae,if_false,h2];omega
theorem zBq(t:Typ)(i:Nat):PCall Pg 145 [.agg t.enc,.one (.int .i64 i)] (.tup [.agg ((memO t i).getD (bT0 0)).enc,.one (.bool (memO t i).isSome)]):=by
 refine zrm (by simp) fun o c hN hp=>?_
 have he:(bT0 0).enc=[.int .i64 0,.str (bs []),.sl false 1 [],.sl false 4 []]:=rfl
 have hi0:¬((i:Int)<0):=by omega
 have hi:=fun l=>zBm l 169 [.rp [.int .i64 i] 0] (fun x=>decide (zaj x=i)) fun x _=>zza x i
 by_cases h7:t.kind=7
 ·have hm:memO t i=t.kids.find? fun x=>decide (zaj x=i):=by unfold memO;rw[aC h7]
  have hi:=hi t.kids
  rcases zry (fun x=>decide (zaj x=i)) t.kids 0 with⟨h1,h2⟩|⟨n,hn,h1,h2⟩
  ·rw[hm,h1]
   rw[h2]at hi
   unfold zdm
   simp[h7]
   refine gN hi ?_
   simp[he]
  ·rw[hm,h1]
   rw[h2]at hi
   have hn0:¬((n:Int)<0):=by omega
   unfold zdm
   simp[h7]
   simp at hi
   refine gN hi ?_
   simp[hn0,hi0,aA hn]
 ·have hm:memO t i=[t].find? fun x=>decide (zaj x=i):=by unfold memO;rw[aB h7]
  have hl:PCall Pg 168 [.one (.sl true 4 [t.enc]),.one (.fn (.func 169) [.rp [.int .i64 i] 0])] (.one (.int .i64 (fi (fun x=>decide (zaj x=i)) 0 [t]))):=PCall.erd (hi [t]) (by simp[DV.erds,DV.erd,D.erd,D.erdE,D.erdL,Typ.erdL])
  rcases zry (fun x=>decide (zaj x=i)) [t] 0 with⟨h1,h2⟩|⟨n,hn,h1,h2⟩
  ·rw[hm,h1]
   rw[h2]at hl
   unfold zdm
   simp[h7]
   refine gN hl ?_
   simp[he]
  ·have hn':n=0:=by simpa using hn
   subst hn'
   rw[hm,h1]
   rw[h2]at hl
   unfold zdm
   simp[h7]
   refine gN hl ?_
   simp[hi0]
def zd8(t:Typ)(i:Nat)(h6:i<6):PCall Pg 98 [.agg t.enc,.one (.int .i64 i)] (.tup [.agg ((zbf t i).getD (bT0 0)).enc,.one (.bool (decide (t.kind=0/\i=4))),.one (.bool (zbf t i).isSome)]):=by
 by_cases q:t.kind=0
 ·have hw:IntKind.i64.wrap (1+(i:Int))=i+1:=by rw[wI];omega
  have hp:zbf t i=some (anyP i):=by unfold zbf;rw[aC q]
  rw[hp]
  have h4:decide ((i:Int)=4)=decide (i=4):=by rw[decide_eq_decide];omega
  by_cases q5:i=5
  ·subst q5
   refine PCall.erdV (v:=.tup [.agg [.int .i64 6,.str (bs []),.sl false 1 [],.sl false 4 [[.int .i64 0,.str (bs []),.sl true 1 [],.sl true 4 []],[.int .i64 0,.str (bs []),.sl true 1 [],.sl true 4 []]]],.one (.bool false),.one (.bool true)]) ?_ (by simp[DV.erd,DV.erds,D.erd,D.erdL,D.erdE,anyP,bT0,Typ.enc,Typ.encs,encS])
   refine zhu (by simp) fun o c hN hp=>?_
   unfold zeL
   simp
   refine gN (zdT t) ?_
   simp at hw
   simp[q,hw]
  ·have hi5:¬((i:Int)=5):=by omega
   have he:(anyP i).enc=[.int .i64 (i+1),.str (bs []),.sl false 1 [],.sl false 4 []]:=by simp[anyP,q5,Typ.enc,Typ.encs,encS]
   refine zhu (by simp) fun o c hN hp=>?_
   unfold zeL
   simp
   refine gN (zdT t) ?_
   rw[he]
   simp[q,hw,hi5,h4]
 ·have hp:zbf t i=memO t i:=by unfold zbf;rw[aB q]
  rw[hp]
  refine zhu (by simp) fun o c hN hp=>?_
  unfold zeL
  simp
  refine gN (zdT t) ?_
  simp[q]
  refine gN (zBq t i) ?_
  simp[q]
def zrt(n:Nat):((n^^^1:Nat):Int)=flp n:=by
 have h1:(n^^^1)/2=n/2:=by rw[Nat.xor_div_two];simp
 have h2:(n^^^1)%2=(n+1)%2:=by
  have:=Nat.xor_mod_two_pow (a:=n) (b:=1) (n:=1)
  simp only[Nat.pow_one]at this
  rw[this]
  have h:n%2=0\/n%2=1:=by omega
  rcases h with h|h<;>rw[h]<;>simp<;>omega
 unfold flp
 split<;>omega
theorem zxE{lb:Int}(h0:0<=lb)(h1:lb<=9223372036854775807):IntKind.i64.wrap (((lb%2^IntKind.i64.bits).toNat^^^1%2^IntKind.i64.bits:Nat):Int)=flp lb:=by
 obtain⟨n,rfl⟩:∃n:Nat,lb=n:=⟨lb.toNat,by omega⟩
 have e1:(((n:Int)%2^IntKind.i64.bits).toNat)=n:=by
  show((n:Int)%18446744073709551616).toNat=n
  omega
 have e2:1%2^IntKind.i64.bits=1:=rfl
 rw[e1,e2,zrt]
 have h2:flp (n:Int)<=9223372036854775807/\0<=flp (n:Int):=by unfold flp;split<;>omega
 exact wI
def zsw{lb:Int}(h0:0<=lb)(h1:lb<=9223372036854775807):0<=flp lb/\flp lb<=9223372036854775807:=by unfold flp;split<;>omega
def zhS(a b:Typ)(i:Nat):Prop:=(zbf a i).isSome=true/\(zbf b i).isSome=true
instance (a b:Typ) (i:Nat):Decidable (zhS a b i):=inferInstanceAs (Decidable (_/\_))
def onD(i:Nat)(a b:Typ)(j:Nat)(x y:D):D:=if i<j/\zhS a b i then x else y
def zfz{i:Nat}{a b:Typ}{j:Nat}(h:j≠i\/¬zhS a b i)(x y:D):onD i a b (j+1) x y=onD i a b j x y:=by
 unfold onD
 by_cases q:zhS a b i
 ·have hj:=h.resolve_right (fun n=>n q)
  by_cases r:i<j
  ·rw[aC ⟨by omega,q⟩,aC ⟨r,q⟩]
  ·rw[aB (fun e=>by omega),aB (fun e=>by omega)]
 ·rw[aB (fun e=>q e.2),aB (fun e=>q e.2)]
def ziS{i:Nat}{a b:Typ}{j:Nat}(h:j<=i)(x y:D):onD i a b j x y=y:=by
 unfold onD;rw[aB (fun e=>by omega)]
def znH{i:Nat}{a b:Typ}{j:Nat}(h:i<j)(q:zhS a b i)(x y:D):onD i a b j x y=x:=by
 unfold onD;rw[aC ⟨h,q⟩]
section
variable (v:Typ->Typ->Int->Coe) (a b:Typ) (lb:Int)
abbrev ndD(j:Nat):D:=onD 4 a b j (.sl false 2 (encN (ndP a b lb))) (.sl true 2 [])
abbrev nmD(j:Nat):D:=onD 4 a b j (.sl false 1 (encS ((fdP v a b lb).map (·.1)))) (.sl true 1 [])
abbrev fdD(j:Nat):D:=onD 4 a b j (.sl false 5 ((fdP v a b lb).map (·.2.enc))) (.sl true 5 [])
abbrev fnD(j:Nat):D:=onD 5 a b j (.sl true 5 ((fnP v a b lb).map Coe.enc)) (.sl true 5 [])
abbrev boxJ(j:Nat):Blk:=.box [.msl 1 1 0 6,.d (ndD a b lb j),.d (nmD v a b lb j),.d (fdD v a b lb j),.d (fnD v a b lb j)]
end
def zvG(a b:Typ)(lb:Int){j:Nat}(h:j<6):(tgsP a b lb)[j]'(by simpa[tgsP]using h)=tgP a b lb j:=by
 match j,h with
 |0,_|1,_|2,_|3,_|4,_|5,_=>rfl
def zDo{L:List Int}(hL:L.length=6){j:Nat}(h:j<6)(h0:L[j]=0):upT L (j+1)=upT L j:=by
 obtain⟨a,b,c,d,e,f,rfl⟩:=six hL
 match j,h with
 |0,_|1,_|2,_|3,_|4,_|5,_=>simp at h0;subst h0;rfl
abbrev cstT(a b:Typ)(lb:Int):List (Nat × AV):=[(2,.c (.d (.int .i64 lb))),(3,.c (.d (.rp a.enc 0))),(4,.c (.d (.rp b.enc 0))),(6,.c (.ptr 0 0)),(7,.c (.ptr 2 0))]
theorem zD6{c:Ctx}(hp:c.pure)(v:Typ->Typ->Int->Coe)(a b:Typ)(lb:Int)(ga:zbk a)(gb:zbk b)(hne:¬(a.kind=0/\b.kind=0))(l0:0<=lb)(l1:lb<=9223372036854775807)
  (H4:∀m k,zbf a 4=some m->zbf b 4=some k->∀s,s∈zcK (decide (a.kind=0)) (decide (b.kind=0)) m k->PCall Pg 62 [.agg (kidO m s).enc,.agg (kidO k s).enc,.one (.int .i64 lb)] (.agg (v (kidO m s) (kidO k s) lb).enc))
  (H5:∀m k,zbf a 5=some m->zbf b 5=some k->PCall Pg 62 [.agg (kd k 0).enc,.agg (kd m 0).enc,.one (.int .i64 (flp lb))] (.agg (v (kd k 0) (kd m 0) (flp lb)).enc)/\PCall Pg 62 [.agg (kd m 1).enc,.agg (kd k 1).enc,.one (.int .i64 lb)] (.agg (v (kd m 1) (kd k 1) lb).enc))
  {Q:Exit->St->Prop} {S:St} {g}
  (h0:Match [0,1,2] S ((23,.c (.d (.int .i64 0)))::cstT a b lb) [box5,zc5 six0,boxI])
  (hQ:∀T,Abs.look T 6=.c (.ptr 0 0)->Abs.look T 7=.c (.ptr 2 0)->Q (.exit 0) ⟨T,hpOf [box5,zc5 (tgsP a b lb),boxJ v a b lb 6],3⟩):lw_ Pg c zfr Q g S:=by
 have hL:(tgsP a b lb).length=6:=rfl
 refine fK zaa hp (fun j:Nat=>j<=6) (fun j=>(23,.c (.d (.int .i64 j)))::cstT a b lb) (fun j=>[box5,zc5 (upT (tgsP a b lb) j),boxJ v a b lb j]) (fun j=>6-j) 0 [0,1,2] (by simp)
  (by simpa[ziS,upT,six0]using h0) fun j h1=>?_
 unfold zfr
 simp
 apply gI<;>intro h
 ·have hj:j<6:=by simp at h;omega
  have hup:(upT (tgsP a b lb) j).length=6:=by simp[upT,hL];omega
  have hju:j<(upT (tgsP a b lb) j).length:=by omega
  have hset:∀x,x=tgP a b lb j->(encI (upT (tgsP a b lb) j)).set j [.int .i64 x]=encI (upT (tgsP a b lb) (j+1)):=fun x e=>by
   rw[e,<-ztW,<-zvG a b lb hj,zxf hL hj]
  have hsame:tgP a b lb j=0->upT (tgsP a b lb) (j+1)=upT (tgsP a b lb) j:=fun e=>zDo hL hj (by rw[zvG a b lb hj,e])
  refine gN (zd8 a j hj) ?_
  simp
  refine gN (zd8 b j hj) ?_
  simp
  cases ha:zbf a j with
  |none=>
   have ht:tgP a b lb j=0:=by unfold tgP;rw[ha]
   have hb:¬zhS a b j:=fun e=>by have:=e.1;rw[ha]at this;cases this
   have hs4:∀x y,onD 4 a b (j+1) x y=onD 4 a b j x y:=fun x y=>zfz (by by_cases q:j=4;exact .inr (q▸hb);exact .inl q) x y
   have hs5:∀x y,onD 5 a b (j+1) x y=onD 5 a b j x y:=fun x y=>zfz (by by_cases q:j=5;exact .inr (q▸hb);exact .inl q) x y
   simp
   refine fP [] ?_
   simp only[zec]
   simp
   refine fD (j+1) [0,1,2] (by omega) (by omega) ?_
   simp[hsame ht,hs4,hs5]
   exact wI
  | some m=>
   cases hbk:zbf b j with
   |none=>
    have ht:tgP a b lb j=lb:=by unfold tgP;rw[ha,hbk]
    have hb:¬zhS a b j:=fun e=>by have:=e.2;rw[hbk]at this;cases this
    have hs4:∀x y,onD 4 a b (j+1) x y=onD 4 a b j x y:=fun x y=>zfz (by by_cases q:j=4;exact .inr (q▸hb);exact .inl q) x y
    have hs5:∀x y,onD 5 a b (j+1) x y=onD 5 a b j x y:=fun x y=>zfz (by by_cases q:j=5;exact .inr (q▸hb);exact .inl q) x y
    simp[aA hju]
    refine⟨by omega,?_⟩
    refine fP [] ?_
    simp only[zec]
    simp
    refine fD (j+1) [0,1,2] (by omega) (by omega) ?_
    simp[hs4,hs5]
    refine⟨wI,?_⟩
    rw[<-hset lb ht.symm]
    simp[fB]
   | some k=>
    have ht:tgP a b lb j=0:=by unfold tgP;rw[ha,hbk]
    have hb:zhS a b j:=⟨by rw[ha];rfl,by rw[hbk];rfl⟩
    by_cases j5:j=5
    ·subst j5
     obtain⟨tm,gm,nm7,_⟩:=zeB ga (by omega) ha
     obtain⟨tk,gk,nk7,_⟩:=zeB gb (by omega) hbk
     have lm:=(zer gm.1 nm7).2.2 (by omega)
     have lk:=(zer gk.1 nk7).2.2 (by omega)
     have g0:∀{t:Typ},t.kids.length=2->t.kids[0]?=some (kd t 0)/\t.kids[1]?=some (kd t 1):=fun {t} hl=>by
      unfold kd
      match t.kids,hl with
      |[a,b],_=>exact⟨rfl,rfl⟩
     obtain⟨m0,m1⟩:=g0 lm
     obtain⟨k0,k1⟩:=g0 lk
     obtain⟨c0,c1⟩:=H5 m k ha hbk
     have hfn:fnP v a b lb=zbj (v (kd k 0) (kd m 0) (flp lb)) (v (kd m 1) (kd k 1) lb):=by unfold fnP;rw[ha,hbk]
     have hx:=zxE l0 l1
     have e4:∀x y,onD 4 a b 6 x y=onD 4 a b 5 x y:=fun x y=>zfz (.inl (by decide)) x y
     have f5:fnD v a b lb 5=.sl true 5 []:=ziS (by omega) _ _
     have f6:fnD v a b lb 6=.sl true 5 ((zbj (v (kd k 0) (kd m 0) (flp lb)) (v (kd m 1) (kd k 1) lb)).map Coe.enc):=by rw[<-hfn];exact znH (by omega) hb _ _
     have g2:ndD a b lb 6=ndD a b lb 5:=e4 _ _
     have g3:nmD v a b lb 6=nmD v a b lb 5:=e4 _ _
     have g4:fdD v a b lb 6=fdD v a b lb 5:=e4 _ _
     have hf:=zEx (ndD a b lb 5) (nmD v a b lb 5) (fdD v a b lb 5) (upT (tgsP a b lb) 5) hup (v (kd k 0) (kd m 0) (flp lb)) (v (kd m 1) (kd k 1) lb)
     clear hfn e4
     generalize kd m 0=M0 at*
     generalize kd m 1=M1 at*
     generalize kd k 0=K0 at*
     generalize kd k 1=K1 at*
     simp[m0,m1,k0,k1]
     rw[hx]
     refine gN c0 ?_
     simp[m0,m1,k0,k1]
     refine gN c1 ?_
     simp
     refine gM [2,1] hf (by simp[f5]) ?_
     simp
     refine⟨by decide,?_⟩
     refine fP [] ?_
     simp only[zec]
     simp
     refine fD 6 [0,1,2] (by omega) (by omega) ?_
     simp[hsame ht,f6,g2,g3,g4]
     exact wI
    ·by_cases j4:j=4
     ·subst j4
      obtain⟨tm,gm,nm7,_⟩:=zeB ga (by omega) ha
      obtain⟨tk,gk,nk7,_⟩:=zeB gb (by omega) hbk
      have hc:=zEy v m k gm gk (decide (a.kind=0)) (decide (b.kind=0)) (fun e=>by
       simp only[aI]at e
       unfold zbf at hbk;rw[aC e]at hbk
       simp only[ah]at hbk;rw[<-hbk];rfl) (fun e=>by
       simp only[aI]at e
       unfold zbf at ha;rw[aC e]at ha
       simp only[ah]at ha;rw[<-ha];rfl) lb (upT (tgsP a b lb) 4) hup (H4 m k ha hbk)
      have hnd:ndP a b lb=ndsP lb m k:=by unfold ndP;rw[ha,hbk]
      have hfd:fdP v a b lb=recF v (decide (a.kind=0)) (decide (b.kind=0)) m k lb:=by unfold fdP;rw[ha,hbk]
      rw[<-hnd,<-hfd]at hc
      have g4:ndD a b lb 4=.sl true 2 []/\nmD v a b lb 4=.sl true 1 []/\fdD v a b lb 4=.sl true 5 []/\fnD v a b lb 4=.sl true 5 []:=⟨ziS (by omega) _ _,ziS (by omega) _ _,ziS (by omega) _ _,ziS (by omega) _ _⟩
      have g5:ndD a b lb 5=.sl false 2 (encN (ndP a b lb))/\nmD v a b lb 5=.sl false 1 (encS ((fdP v a b lb).map (·.1)))/\fdD v a b lb 5=.sl false 5 ((fdP v a b lb).map (·.2.enc))/\fnD v a b lb 5=.sl true 5 []:=⟨znH (by omega) hb _ _,znH (by omega) hb _ _,znH (by omega) hb _ _,ziS (by omega) _ _⟩
      clear hnd hfd
      generalize fdP v a b lb=L at*
      generalize ndP a b lb=N at*
      have ht1:(encS (L.map (·.1))).take L.length=encS (L.map (·.1)):=aF (by simp)
      have ht2:(L.map fun x=>x.2.enc).take L.length=L.map fun x=>x.2.enc:=aF (by simp)
      simp
      refine gM [2,1] hc (by simp[g4]) ?_
      simp
      refine fP [5,6] ?_
      simp[zah,ht1,ht2]
      refine fD 5 [0,1,2] (by omega) (by omega) ?_
      simp[hsame ht,g5,zah,ht1,ht2]
      exact wI
     ·have j5':¬((j:Int)=5):=by omega
      have j4':¬((j:Int)=4):=by omega
      have hs4:∀x y,onD 4 a b (j+1) x y=onD 4 a b j x y:=fun x y=>zfz (.inl j4) x y
      have hs5:∀x y,onD 5 a b (j+1) x y=onD 5 a b j x y:=fun x y=>zfz (.inl j5) x y
      simp[j5',j4']
      refine fP [] ?_
      simp only[zec]
      simp
      refine fD (j+1) [0,1,2] (by omega) (by omega) ?_
      simp[hsame ht,hs4,hs5]
      exact wI
 ·have hj:j=6:=by simp at h;omega
  subst hj
  have hup:upT (tgsP a b lb) 6=tgsP a b lb:=by unfold upT;rw[aF (by omega)];simp
  rw[hup]
  exact hQ _ (by simp) (by simp)
theorem zDp(v:Typ->Typ->Int->Coe)(a b:Typ)(lb:Int)(ga:zbk a)(gb:zbk b)(l0:0<=lb)(l1:lb<=9223372036854775807)
  (H4:¬(a.kind=0/\b.kind=0)->∀m k,zbf a 4=some m->zbf b 4=some k->∀s,s∈zcK (decide (a.kind=0)) (decide (b.kind=0)) m k->PCall Pg 62 [.agg (kidO m s).enc,.agg (kidO k s).enc,.one (.int .i64 lb)] (.agg (v (kidO m s) (kidO k s) lb).enc))
  (H5:¬(a.kind=0/\b.kind=0)->∀m k,zbf a 5=some m->zbf b 5=some k->PCall Pg 62 [.agg (kd k 0).enc,.agg (kd m 0).enc,.one (.int .i64 (flp lb))] (.agg (v (kd k 0) (kd m 0) (flp lb)).enc)/\PCall Pg 62 [.agg (kd m 1).enc,.agg (kd k 1).enc,.one (.int .i64 lb)] (.agg (v (kd m 1) (kd k 1) lb).enc)):
  PCall Pg 62 [.agg a.enc,.agg b.enc,.one (.int .i64 lb)] (.agg (cstV v a b lb).enc):=by
 refine ztb (by simp) fun o c hN hp=>?_
 by_cases hd:a.kind=0/\b.kind=0
 ·have e:cstV v a b lb=idC:=by unfold cstV;rw[aC hd]
  have hE:idC.enc=[.sl false 1 (encI six0),.sl false 2 [],.sl false 1 [],.sl false 5 [],.sl false 5 []]:=rfl
  have htk:(encI six0).take 6=encI six0:=rfl
  have hl6:six0.length=6:=rfl
  rw[e,hE]
  unfold zgE
  simp
  refine gK [] IdM ?_
  simp
  refine gN (zdT a) ?_
  simp[hd.1]
  refine gN (zdT b) ?_
  simp[hd.2,htk,hl6]
 ·have e:cstV v a b lb=.mk (tgsP a b lb) (ndP a b lb) ((fdP v a b lb).map (·.1)) ((fdP v a b lb).map (·.2)) (fnP v a b lb):=by unfold cstV;rw[aB hd]
  have hE:(cstV v a b lb).enc=[.sl false 1 (encI (tgsP a b lb)),.sl false 2 (encN (ndP a b lb)),.sl false 1 (encS ((fdP v a b lb).map (·.1))),.sl false 5 ((fdP v a b lb).map (·.2.enc)),.sl false 5 ((fnP v a b lb).map Coe.enc)]:=by
   rw[e,Coe.enc_eq]
   simp only[Coe.tags,Coe.needs,Coe.names,Coe.fields,Coe.fn,bJ,Function.comp_def]
  have htk:(encI (tgsP a b lb)).take 6=encI (tgsP a b lb):=rfl
  have hl6:(tgsP a b lb).length=6:=rfl
  have e2:(ndD a b lb 6).er=.sl false 2 (encN (ndP a b lb)):=by
   unfold ndD onD
   split
   ·rfl
   ·rename_i q
    have:ndP a b lb=[]:=by
     unfold ndP
     cases h1:zbf a 4 with
     |none=>rfl
     |some m=>
      cases h2:zbf b 4 with
      |none=>rfl
      |some k=>exact absurd ⟨by omega,by rw[h1];rfl,by rw[h2];rfl⟩ q
    rw[this];try rfl
  have e34:zhS a b 4\/fdP v a b lb=[]:=by
   unfold fdP
   cases h1:zbf a 4 with
   |none=>exact .inr rfl
   |some m=>
    cases h2:zbf b 4 with
    |none=>exact .inr rfl
    |some k=>exact .inl ⟨by rw[h1];rfl,by rw[h2];rfl⟩
  have e3:(nmD v a b lb 6).er=.sl false 1 (encS ((fdP v a b lb).map (·.1))):=by
   unfold nmD onD
   split
   ·rfl
   ·rename_i q
    rw[e34.resolve_left fun h=>q ⟨by omega,h⟩];try rfl
  have e4:(fdD v a b lb 6).er=.sl false 5 ((fdP v a b lb).map (·.2.enc)):=by
   unfold fdD onD
   split
   ·rfl
   ·rename_i q
    rw[e34.resolve_left fun h=>q ⟨by omega,h⟩];try rfl
  have e5:(fnD v a b lb 6).er=.sl false 5 ((fnP v a b lb).map Coe.enc):=by
   unfold fnD onD
   split
   ·rfl
   ·rename_i q
    have:fnP v a b lb=[]:=by
     unfold fnP
     cases h1:zbf a 5 with
     |none=>rfl
     |some m=>
      cases h2:zbf b 5 with
      |none=>rfl
      |some k=>exact absurd ⟨by omega,by rw[h1];rfl,by rw[h2];rfl⟩ q
    rw[this];try rfl
  rw[hE]
  unfold zgE
  simp
  refine gK [] IdM ?_
  simp
  refine gN (zdT a) ?_
  simp
  apply gI<;>intro h
  ·refine gN (zdT b) ?_
   have hm:¬b.kind=0:=fun e=>hd ⟨of_decide_eq_true h,e⟩
   simp[hm]
   refine zD6 hp v a b lb ga gb hd l0 l1 (H4 hd) (H5 hd) (by simp) fun T e6 e7=>?_
   simp[e6,e7,htk,hl6,e2,e3,e4,e5]
  ·refine zD6 hp v a b lb ga gb hd l0 l1 (H4 hd) (H5 hd) (by simp) fun T e6 e7=>?_
   simp[e6,e7,htk,hl6,e2,e3,e4,e5]
def znI:∀(n:Nat) (a b:Typ) (lb:Int),zbk a->zbk b->dpt a+dpt b<=n+1->0<=lb->lb<=9223372036854775807->PCall Pg 62 [.agg a.enc,.agg b.enc,.one (.int .i64 lb)] (.agg (cstN n a b lb).enc)
 |0,a,b,lb,ga,gb,hd,_,_=>by have:=zd7 a;have:=zd7 b;omega
 | n +1,a,b,lb,ga,gb,hd,l0,l1=>by
  rw[cstN]
  have hfl:=zsw l0 l1
  have ha1:=zd7 a
  have hb1:=zd7 b
  refine zDp (cstN n) a b lb ga gb l0 l1 (fun hne m k h1 h2 s hs=>?_) fun hne m k h1 h2=>?_
  ·obtain⟨_,gm,_,dm⟩:=zeB ga (by omega) h1
   obtain⟨_,gk,_,dk⟩:=zeB gb (by omega) h2
   have hm:s∈m.names->(a.kind=0/\dpt (kidO m s)=1)\/(a.kind≠0/\dpt (kidO m s)<dpt a):=fun h=>(dm _ (zxm gm h)).imp (fun q=>⟨q.1,by rw[q.2];rfl⟩) fun q=>q
   have hk:s∈k.names->(b.kind=0/\dpt (kidO k s)=1)\/(b.kind≠0/\dpt (kidO k s)<dpt b):=fun h=>(dk _ (zxm gk h)).imp (fun q=>⟨q.1,by rw[q.2];rfl⟩) fun q=>q
   have am:a.kind=0->dpt (kidO m s)=1:=fun e=>by
    by_cases q:s∈m.names
    ·rcases hm q with r|r
     ·exact r.2
     ·exact absurd e r.1
    ·rw[zkV q];try rfl
   have bk:b.kind=0->dpt (kidO k s)=1:=fun e=>by
    by_cases q:s∈k.names
    ·rcases hk q with r|r
     ·exact r.2
     ·exact absurd e r.1
    ·rw[zkV q];try rfl
   refine znI n _ _ lb (zsz gm s) (zsz gk s) ?_ l0 l1
   unfold zcK at hs
   split at hs
   ·rename_i e
    simp only[aI]at e
    have:=bk e
    have ha0:a.kind≠0:=fun q=>hne ⟨q,e⟩
    rcases hm hs with r|r
    ·exact absurd r.1 ha0
    ·omega
   ·rename_i e
    simp only[aI]at e
    split at hs
    ·rename_i e'
     simp only[aI]at e'
     have:=am e'
     rcases hk hs with r|r
     ·exact absurd r.1 e
     ·omega
    ·rename_i e'
     simp only[aI]at e'
     rw[bC,aI]at hs
     rcases hm hs.2 with r|r
     ·exact absurd r.1 e'
     ·rcases hk hs.1 with r'|r'
      ·exact absurd r'.1 e
      ·omega
  ·obtain⟨tm,gm,nm7,dm⟩:=zeB ga (by omega) h1
   obtain⟨tk,gk,nk7,dk⟩:=zeB gb (by omega) h2
   have lm:=(zer gm.1 nm7).2.2 (by omega)
   have lk:=(zer gk.1 nk7).2.2 (by omega)
   have hm:∀j,j<2->(a.kind=0/\dpt (kd m j)=1)\/(a.kind≠0/\dpt (kd m j)<dpt a):=fun j hj=>(dm _ (zkH (by omega))).imp (fun q=>⟨q.1,by unfold kd;rw[q.2];rfl⟩) fun q=>q
   have hk:∀j,j<2->(b.kind=0/\dpt (kd k j)=1)\/(b.kind≠0/\dpt (kd k j)<dpt b):=fun j hj=>(dk _ (zkH (by omega))).imp (fun q=>⟨q.1,by unfold kd;rw[q.2];rfl⟩) fun q=>q
   have hsum:∀i j,i<2->j<2->dpt (kd m i)+dpt (kd k j)<=n+1:=fun i j hi hj=>by
    rcases hm i hi with r|r<;>rcases hk j hj with r'|r'
    ·exact absurd ⟨r.1,r'.1⟩ hne
    ·omega
    ·omega
    ·omega
   refine⟨znI n _ _ _ (znA gk 0) (znA gm 0) ?_ hfl.1 hfl.2,znI n _ _ _ (znA gm 1) (znA gk 1) (hsum 1 1 (by omega) (by omega)) l0 l1⟩
   have:=hsum 0 0 (by omega) (by omega)
   omega
theorem znJ:noCZ.enc=[.sl false 1 [],.sl false 2 [],.sl false 1 [],.sl false 5 [],.sl false 5 []]:=rfl
end Go.Gr.P
namespace Go.Gr.P
open Go.Abs Go.Proofs
def zDS(N:Nat)(a b:Typ)(lb:Int):Coe:=if lb=0\/lb=1\/isN a=false\/isN b=false then noCZ else cstN N a b lb
def zHG(N:Nat)(a b:Typ)(lb:Int)(hd:dpt a+dpt b<=N+1)(l0:0<=lb)(l1:lb<=9223372036854775807):
  PCall Pg 36 [.agg a.enc,.agg b.enc,.one (.int .i64 lb)] (.agg (zDS N a b lb).enc):=by
 refine zta (by simp) fun o c hN hp=>?_
 unfold zj0 zDS
 by_cases e0:lb=0
 ·rw[aC (.inl e0),znJ]
  simp[e0]
 by_cases e1:lb=1
 ·rw[aC (.inr (.inl e1)),znJ]
  simp[e1]
 simp[e0,e1]
 refine gN (zsO a) ?_
 cases ha:isN a with
 |false=>
  simp[znJ]
 | true=>
  simp
  refine gN (zsO b) ?_
  cases hb:isN b with
  |false=>
   simp[znJ]
  |true=>
   simp
   refine gN (znI N a b lb (zuY ha) (zuY hb) hd l0 l1) ?_
   simp[e0,e1]
end Go.Gr.P
namespace Go.Gr
open Go.Abs Go.Proofs List
def zBE{α:Type}(q:α->Bool):∀(l:List α) (j:Nat),P.fi q j l= -1\/(j:Int)<=P.fi q j l
 |[],j=>.inl rfl
 | x::l,j=>by
  rw[P.fi]
  split
  ·exact .inr (by omega)
  ·rcases zBE q l (j+1)with h|h
   ·exact .inl h
   ·exact .inr (by omega)
def zsV(s:fC):∀(ns:List fC) (ks:List Typ) (j:Nat),ns.length<=ks.length->
  (if 0<=P.fi (fun x=>decide (s=x)) j ns then ks.getD ((P.fi (fun x=>decide (s=x)) j ns).toNat-j) noT else noT)=(za3 ns ks s).1/\((za3 ns ks s).2=true↔s∈ns)
 |[],ks,j,_=>by
  rw[P.fi,aB (by omega),za3]
  ·simp
  ·intros;contradiction
 |n::ns,[],j,h=>by simp at h
 | n::ns,k::ks,j,h=>by
  have ih:=zsV s ns ks (j+1) (by simpa using h)
  rw[P.fi,za3]
  by_cases e:n=s
  ·subst e
   simp
  ·have e':¬s=n:=fun x=>e x.symm
   simp only[e',decide_false,ae,if_false,aB e,aM,false_or]
   refine⟨?_,ih.2⟩
   rw[<-ih.1]
   rcases zBE (fun x=>decide (s=x)) ns (j+1)with q|q
   ·rw[q];simp
   ·have h1:(P.fi (fun x=>decide (s=x)) (j+1) ns).toNat-j=((P.fi (fun x=>decide (s=x)) (j+1) ns).toNat-(j+1))+1:=by omega
    rw[h1,getD_cons_succ]
def zsW{k:Typ}(hl:k.names.length<=k.kids.length)(s:fC):P.kidO k s=(zaD k s).1/\((zaD k s).2=true↔s∈k.names):=by
 have h:=zsV s k.names k.kids 0 hl
 refine⟨?_,h.2⟩
 rw[zaD,<-h.1]
 unfold P.kidO P.kidT
 simp only[di]
 split<;>rfl
def znd:∀(ns:List fC) (ks:List Typ),ns.Nodup->ns.length=ks.length->ns.zip ks=ns.map fun s=>(s,(za3 ns ks s).1)
 |[],[],_,_=>rfl
 |[],_::_,_,h=>by simp at h
 |_::_,[],_,h=>by simp at h
 | n::ns,k::ks,hn,h=>by
  have hn':=bf.1 hn
  have ih:=znd ns ks hn'.2 (by simpa using h)
  rw[zip_cons_cons,ih,map_cons]
  have e:∀s,s∈ns->(za3 (n::ns) (k::ks) s).1=(za3 ns ks s).1:=fun s hs=>by
   rw[za3,aB (fun e=>hn'.1 (by rw[e];exact hs))]
  rw[show(za3 (n::ns) (k::ks) n).1=k from by rw[za3,aC rfl]]
  congr 1
  exact bO fun s hs=>by rw[e s hs]
def zBF(x:fC × Coe)(l:List (fC × Coe)):busy (x::l)=if za9 x.2 idC=true then busy l else x::busy l:=by
 unfold busy
 rw[dQ]
 by_cases h:za9 x.2 idC=true<;>simp[h]
def addF(C:Coe)(l:List (fC × Coe)):Coe:=.mk C.tags C.needs (C.names++l.map (·.1)) (C.fields++l.map (·.2)) C.fn
def addN(C:Coe)(l:List (fC × Int)):Coe:=.mk C.tags (C.needs++l) C.names C.fields C.fn
def zpv(C:Coe):addF C []=C:=by cases C;simp[addF,Coe.tags,Coe.needs,Coe.names,Coe.fields,Coe.fn]
def zv0(C:Coe):addN C []=C:=by cases C;simp[addN,Coe.tags,Coe.needs,Coe.names,Coe.fields,Coe.fn]
def zpw(C:Coe)(k:fC)(d:Coe)(l:List (fC × Coe)):addF (putR C k d) (busy l)=addF C (busy ((k,d)::l)):=by
 rw[zBF]
 unfold putR
 by_cases h:za9 d idC=true
 ·simp[h]
 ·simp[h,addF,Coe.tags,Coe.needs,Coe.names,Coe.fields,Coe.fn]
def zBG(v:Typ->Typ->Int->Coe)(lb:Int):∀(ns:List fC) (ks:List Typ) (C:Coe),mkA v lb ns ks C=addF C (busy ((ns.zip ks).map fun x=>(x.1,v x.2 noT lb)))
 |[],ks,C=>by rw[mkA];simp[busy,zpv];intros;contradiction
 |_::_,[],C=>by rw[mkA];simp[busy,zpv];intros;contradiction
 |n::ns,k::ks,C=>by
  rw[mkA,zBG v lb ns ks,zpw]
  try rfl
def zBH(C:Coe)(k:fC)(d:Coe)(lb:Int):putR (zbA C k lb) k d=zbA (putR C k d) k lb:=by
 unfold putR zbA
 split<;>rfl
def zsX(C:Coe)(k:fC)(lb:Int)(m:List (fC × Int)):addN (zbA C k lb) m=addN C ((k,lb)::m):=by
 simp[addN,zbA,Coe.tags,Coe.needs,Coe.names,Coe.fields,Coe.fn]
def zBI(v:Typ->Typ->Int->Coe)(m:Prt)(lb:Int):∀(ns:List fC) (ks:List Typ) (C:Coe),ns.length=ks.length->
  mkB v m lb ns ks C=addN (addF C (busy (((ns.zip ks).filter fun x=>(zaD m.t x.1).2||m.opn).map fun x=>(x.1,v (zaD m.t x.1).1 x.2 lb)))) ((ns.filter fun s=> !(zaD m.t s).2).map fun s=>(s,lb))
 |[],ks,C,_=>by rw[mkB];simp[busy,zpv,zv0];intros;contradiction
 |_::_,[],C,h=>by simp at h
 | n::ns,k::ks,C,h=>by
  have ih:=zBI v m lb ns ks
  rw[mkB,ih _ (by simpa using h)]
  rw[zip_cons_cons,dQ,dQ]
  by_cases h1:(zaD m.t n).2=true
  ·simp only[h1,Bool.true_eq_false,if_false,true_or,if_true,eZ,Bool.not_true,ae,map_cons,zpw]
  ·have h1':(zaD m.t n).2=false:=by simpa using h1
   by_cases h2:m.opn=true
   ·simp only[h1',h2,ae,false_or,if_true,eP,Bool.not_false,map_cons,zBH]
    rw[show∀(D:Coe) (l:List (fC × Coe)),addF (zbA D n lb) l=zbA (addF D l) n lb from fun D l=>rfl,zpw,zsX]
   ·have h2':m.opn=false:=by simpa using h2
    simp only[h1',h2',ae,or_self,if_false,if_true,Bool.or_self,Bool.not_false,map_cons]
    rw[show∀(D:Coe) (l:List (fC × Coe)),addF (zbA D n lb) l=zbA (addF D l) n lb from fun D l=>rfl,zsX]
def zGg(v:Typ->Typ->Int->Coe)(m n:Prt)(lb:Int)(C:Coe)(hm:NF m.t)(hn:NF n.t)(lm:m.t.names.length=m.t.kids.length)(ln:n.t.names.length=n.t.kids.length)(hno:n.opn=true->m.opn=false/\n.t.names=[]):
  mkR v m n lb C=addN (addF C (P.recF v m.opn n.opn m.t n.t lb)) (if n.opn=true then []else P.ndsP lb m.t n.t):=by
 have dm:m.t.names.Nodup:=zbc ((zcb _).1 hm.2).1
 have dn:n.t.names.Nodup:=zbc ((zcb _).1 hn.2).1
 have fm:=fun s=>zsW (k:=m.t) (by omega) s
 have fn:=fun s=>zsW (k:=n.t) (by omega) s
 unfold mkR
 by_cases ho:n.opn=true
 ·obtain⟨h1,h2⟩:=hno ho
  rw[aC ho,aB (by rw[h1];simp),aC ho,zv0,zBG,znd _ _ dm lm]
  unfold P.recF P.zcK
  rw[aC ho,bJ]
  congr 2
  refine bO fun s hs=>?_
  have e:P.kidO n.t s=noT:=by
   rw[(fn s).1,zaD,h2,za3]
   intros;contradiction
  simp only[Function.comp_apply,e,(fm s).1]
  rfl
 ·rw[aB ho,aB ho,zBI _ _ _ _ _ _ ln,znd _ _ dn ln]
  have e1:(n.t.names.filter fun s=> !(zaD m.t s).2).map (fun s=>(s,lb))=P.ndsP lb m.t n.t:=by
   unfold P.ndsP
   congr 1
   refine filter_congr fun s _=>?_
   rw[dN]
   have:=(fm s).2
   cases q:(zaD m.t s).2<;>simp[q]at this⊢<;>exact this
  rw[e1]
  congr 2
  unfold P.recF P.zcK
  rw[aB ho]
  have e2:(filter (fun x:fC × Typ=>(zaD m.t x.1).2||m.opn) (n.t.names.map fun s=>(s,(za3 n.t.names n.t.kids s).1)))=(if m.opn=true then n.t.names else n.t.names.filter fun s=>decide (s∈m.t.names)).map fun s=>(s,(za3 n.t.names n.t.kids s).1):=by
   rw[List.filter_map]
   congr 1
   by_cases q:m.opn=true
   ·rw[aC q]
    exact List.filter_eq_self.2 fun s _=>by simp[q]
   ·rw[aB q]
    refine filter_congr fun s _=>?_
    have q':m.opn=false:=by simpa using q
    rw[dN]
    simp[q',(fm s).2]
  rw[e2,bJ]
  congr 1
  refine bO fun s hs=>?_
  simp only[Function.comp_apply,(fm s).1,(fn s).1]
  rfl
theorem zhl{a:Typ}(h:NF a){i:Nat}(hi:i<6):((zaL a).find? fun p=>decide (p.tag=(i:Int)))=(P.zbf a i).map fun t=>(⟨(i:Int),decide (a.kind=0/\i=4),t⟩:Prt):=by
 by_cases h0:a.kind=0
 ·unfold zaL P.zbf
  rw[aC h0,aC h0]
  match i,hi with
  |0,_|1,_|2,_|3,_|4,_|5,_=>simp[h0];rfl
 ·have hz:decide (a.kind=0/\i=4)=false:=by simp[h0]
  unfold zaL P.zbf P.memO
  rw[aB h0,aB h0,hz]
  have key:∀l:List Typ,((l.map fun k=>(⟨zaj k,false,k⟩:Prt)).find? fun p=>decide (p.tag=(i:Int)))=(l.find? fun x=>decide (P.zaj x=(i:Int))).map fun t=>(⟨(i:Int),false,t⟩:Prt):=fun l=>by
   rw[find?_map]
   have e:((fun p:Prt=>decide (p.tag=(i:Int)))∘fun k=>(⟨zaj k,false,k⟩:Prt))=fun x=>decide (P.zaj x=(i:Int)):=rfl
   rw[e]
   cases q:l.find? fun x=>decide (P.zaj x=(i:Int))with
   |none=>rfl
   |some k=>
    have:=find?_some q
    simp only[aI]at this
    simp only[Option.map_some]
    rw[show zaj k=i from this]
  by_cases h7:a.kind=7
  ·rw[aB (by omega),aC h7]
   exact key _
  ·rw[aC h7,aB h7]
   exact key [a]
def zv1{b:Typ}(h:NF b){i:Nat}(hi:i<6):zaM (zaL b) i=match P.zbf b i with
  |some t=>(⟨(i:Int),decide (b.kind=0/\i=4),t⟩,true)
  |none=>(noP,false):=by
 unfold zaM
 rw[zhl h hi]
 cases P.zbf b i<;>rfl
def tri(C:Coe):List (fC × Int) × List fC × List Coe:=(C.needs,C.names,C.fields)
def zx0{C D:Coe}(h:tri C=tri D)(k:fC)(d:Coe):tri (putR C k d)=tri (putR D k d):=by
 have h':=h
 simp only[tri,bU]at h'
 unfold putR
 split
 ·exact h
 ·simp[tri,Coe.needs,Coe.names,Coe.fields,h'.1,h'.2.1,h'.2.2]at*
  simp[h'.1,h'.2.1,h'.2.2]
def zDD{C D:Coe}(h:tri C=tri D)(k:fC)(lb:Int):tri (zbA C k lb)=tri (zbA D k lb):=by
 have h':=h
 simp only[tri,bU]at h'⊢
 simp only[zgM,zFd,zFe,h'.1,h'.2.1,h'.2.2,and_self]
def zx1(v:Typ->Typ->Int->Coe)(lb:Int):∀(ns:List fC) (ks:List Typ) (C D:Coe),tri C=tri D->tri (mkA v lb ns ks C)=tri (mkA v lb ns ks D)
 |[],_,C,D,h=>by rw[mkA,mkA];exact h;all_goals (intros;contradiction)
 |_::_,[],C,D,h=>by rw[mkA,mkA];exact h;all_goals (intros;contradiction)
 |n::ns,k::ks,C,D,h=>by rw[mkA,mkA];exact zx1 v lb ns ks _ _ (zx0 h _ _)
def zx2(v:Typ->Typ->Int->Coe)(m:Prt)(lb:Int):∀(ns:List fC) (ks:List Typ) (C D:Coe),tri C=tri D->tri (mkB v m lb ns ks C)=tri (mkB v m lb ns ks D)
 |[],_,C,D,h=>by rw[mkB,mkB];exact h;all_goals (intros;contradiction)
 |_::_,[],C,D,h=>by rw[mkB,mkB];exact h;all_goals (intros;contradiction)
 | n::ns,k::ks,C,D,h=>by
  rw[mkB,mkB]
  have h1:tri (if(zaD m.t n).2=false then zbA C n lb else C)=tri (if(zaD m.t n).2=false then zbA D n lb else D):=by
   split
   ·exact zDD h _ _
   ·exact h
  refine zx2 v m lb ns ks _ _ ?_
  split
  ·exact zx0 h1 _ _
  ·exact h1
def zFh(v:Typ->Typ->Int->Coe)(m n:Prt)(lb:Int){C D:Coe}(h:tri C=tri D):tri (mkR v m n lb C)=tri (mkR v m n lb D):=by
 unfold mkR
 split
 ·split
  ·exact h
  ·exact zx1 v lb _ _ _ _ h
 ·exact zx2 v m lb _ _ _ _ h
def fnQ(v:Typ->Typ->Int->Coe)(R:List Prt)(lb:Int)(m:Prt):List Coe:=zbj (v (kid0 (zaM R 5).1.t) (kid0 m.t) (flp lb)) (v (kid1 m.t) (kid1 (zaM R 5).1.t) lb)
def zBJ(v:Typ->Typ->Int->Coe)(R:List Prt)(lb:Int)(m:Prt)(C:Coe)(mt:0<=m.tag/\m.tag<6)(h6:C.tags.length=6):
  (zfh v R lb m C).tags.length=6/\(∀i:Nat,i<6->tagZ (zfh v R lb m C) i=if m.tag=i/\(zaM R i).2=false then lb else tagZ C i)/\
  (zfh v R lb m C).fn=(if m.tag=5/\(zaM R 5).2=true then fnQ v R lb m else C.fn)/\tri (zfh v R lb m C)=(if m.tag=4/\(zaM R 4).2=true then tri (mkR v m (zaM R 4).1 lb C)else tri C):=by
 unfold zfh
 by_cases q:(zaM R m.tag).2=false
 ·rw[aC q]
  refine⟨by simpa[setT,Coe.tags]using h6,fun i hi=>?_,?_,?_⟩
  ·by_cases e:m.tag=i
   ·rw[aC ⟨e,by rw[<-e];exact q⟩]
    unfold tagZ setT
    simp only[Coe.tags]
    rw[show m.tag.toNat=i from by omega,aH,getElem?_set_self (by have:=h6;simp only[Coe.tags]at this;omega)]
    try rfl
   ·rw[aB (fun x=>e x.1)]
    exact zpd _ _ _ _ (by omega)
  ·rw[aB (fun x=>by rw[x.1]at q;rw[q]at x;exact absurd x.2 (by simp))]
   try rfl
  ·rw[aB (fun x=>by rw[x.1]at q;rw[q]at x;exact absurd x.2 (by simp))]
   try rfl
 ·rw[aB q]
  have q':(zaM R m.tag).2=true:=by simpa using q
  have ht:∀i:Nat,i<6->¬(m.tag=i/\(zaM R i).2=false):=fun i hi x=>q (by rw[x.1];exact x.2)
  by_cases q5:m.tag=5
  ·rw[aC q5]
   refine⟨h6,fun i hi=>?_,?_,?_⟩
   ·rw[aB (ht i hi)];try rfl
   ·rw[aC ⟨q5,by rw[<-q5];exact q'⟩];rfl
   ·rw[aB (fun x=>by omega)];try rfl
  ·rw[aB q5]
   by_cases q4:m.tag=4
   ·rw[aC q4]
    have hk:=zpb v m (zaM R 4).1 lb C
    refine⟨by rw[hk.1];exact h6,fun i hi=>?_,?_,?_⟩
    ·rw[aB (ht i hi)];unfold tagZ;rw[hk.1]
    ·rw[aB (fun x=>q5 x.1)];exact hk.2
    ·rw[aC ⟨q4,by rw[<-q4];exact q'⟩]
   ·rw[aB q4]
    exact⟨h6,fun i hi=>by rw[aB (ht i hi)],by rw[aB (fun x=>q5 x.1)],by rw[aB (fun x=>q4 x.1)]⟩
def zsY(v:Typ->Typ->Int->Coe)(R:List Prt)(lb:Int):∀(L:List Prt) (C:Coe),(L.map (·.tag)).Nodup->(∀m,m∈L->0<=m.tag/\m.tag<6)->C.tags.length=6->
  (∀i:Nat,i<6->tagZ (zdE v R lb L C) i=if(L.find? fun p=>decide (p.tag=(i:Int))).isSome=true/\(zaM R i).2=false then lb else tagZ C i)/\
  (zdE v R lb L C).fn=(match L.find? fun p=>decide (p.tag=5)with
   |some m=>if(zaM R 5).2=true then fnQ v R lb m else C.fn
   |none=>C.fn)/\tri (zdE v R lb L C)=(match L.find? fun p=>decide (p.tag=4)with
   |some m=>if(zaM R 4).2=true then tri (mkR v m (zaM R 4).1 lb C)else tri C
   |none=>tri C)
 |[],C,_,_,_=>⟨fun i hi=>by simp[zdE],rfl,rfl⟩
 | m::l,C,hn,ht,h6=>by
  rw[map_cons,nodup_cons]at hn
  obtain⟨g0,g1,g2,g3⟩:=zBJ v R lb m C (ht m (by simp)) h6
  obtain⟨i1,i2,i3⟩:=zsY v R lb l (zfh v R lb m C) hn.2 (fun x hx=>ht x (by simp[hx])) g0
  have none:∀i:Int,m.tag=i->(l.find? fun p=>decide (p.tag=i))=none:=fun i e=>List.find?_eq_none.2 fun x hx=>by
   simp only[aI]
   intro e'
   exact hn.1 (by rw[e,<-e'];exact dU hx)
  rw[zdE]
  refine⟨fun i hi=>?_,?_,?_⟩
  ·rw[i1 i hi,g1 i hi,find?_cons]
   by_cases e:m.tag=i
   ·rw[none i e]
    simp[e]
   ·simp[e]
  ·rw[i2,g2,find?_cons]
   by_cases e:m.tag=5
   ·rw[none 5 e]
    simp[e]
   ·simp[e]
  ·rw[i3,g3,find?_cons]
   by_cases e:m.tag=4
   ·rw[none 4 e]
    simp[e]
   ·have hC:tri (zfh v R lb m C)=tri C:=by rw[g3,aB (fun x=>e x.1)]
    simp only[e,decide_false,false_and,if_false]
    cases l.find? fun p=>decide (p.tag=4)with
    |none=>rfl
    |some x=>simp only[zFh v x (zaM R 4).1 lb hC]
def wf4{t:Typ}(h:NF t)(e:zaj t=4):t.names.length=t.kids.length:=by
 have hk:t.kind=5:=by unfold zaj at e;split at e<;>omega
 rcases((zaQ t).1 h.1).2.2 with q|q|q|q
 ·omega
 ·exact q.2.1
 ·omega
 ·omega
def zgO{t:Typ}(h:NF t){i:Nat}(hi:i<6){k:Typ}(hk:P.zbf t i=some k):NF k/\zaj k=i/\(i=4->k.names.length=k.kids.length):=by
 have hf:=zhl h hi
 rw[hk]at hf
 have hm:=mem_of_find?_eq_some hf
 obtain⟨_,_,h3,_⟩:=(zkR h).2 _ hm
 have ht:zaj k=i:=by
  unfold P.zbf at hk
  split at hk
  ·simp only[ah]at hk
   subst hk
   match i,hi with
   |0,_|1,_|2,_|3,_|4,_|5,_=>rfl
  ·have:=find?_some hk
   simp only[aI]at this
   exact this
 exact⟨h3,ht,fun e=>wf4 h3 (by rw[ht,e];rfl)⟩
def zDE(v:Typ->Typ->Int->Coe)(a b:Typ)(lb:Int)(ha:NF a)(hb:NF b)(hne:¬(a.kind=0/\b.kind=0)):zdE v (zaL b) lb (zaL a) idC=P.cstV v a b lb:=by
 obtain⟨pn,pt⟩:=zkR ha
 obtain⟨h1,h2,h3⟩:=zsY v (zaL b) lb (zaL a) idC pn (fun m hm=>⟨(pt m hm).1,(pt m hm).2.1⟩) rfl
 have hl:=zqz v (zaL b) lb (zaL a) idC
 generalize zdE v (zaL b) lb (zaL a) idC=F0 at*
 unfold P.cstV
 rw[aB hne]
 have e4:=zhl ha (i:=4) (by omega)
 have e5:=zhl ha (i:=5) (by omega)
 have r4:=zv1 hb (i:=4) (by omega)
 have r5:=zv1 hb (i:=5) (by omega)
 have e4':(find? (fun p:Prt=>decide (p.tag=4)) (zaL a))=_:=e4
 have e5':(find? (fun p:Prt=>decide (p.tag=5)) (zaL a))=_:=e5
 have r4':zaM (zaL b) 4=_:=r4
 have r5':zaM (zaL b) 5=_:=r5
 rw[e5',r5']at h2
 rw[e4',r4']at h3
 have tags:F0.tags=P.tgsP a b lb:=by
  obtain⟨x0,x1,x2,x3,x4,x5,e⟩:=six (l:=F0.tags) hl
  have k:∀i:Nat,i<6->tagZ F0 i=P.tgP a b lb i:=fun i hi=>by
   rw[h1 i hi,zhl ha hi,zv1 hb hi]
   have hz:tagZ idC i=0:=by
    match i,hi with
    |0,_|1,_|2,_|3,_|4,_|5,_=>rfl
   unfold P.tgP
   cases P.zbf a i<;>cases P.zbf b i<;>simp[hz]
  unfold tagZ at k
  rw[e]at k⊢
  have k0:=k 0 (by omega);have k1:=k 1 (by omega);have k2:=k 2 (by omega);have k3:=k 3 (by omega);have k4:=k 4 (by omega);have k5:=k 5 (by omega)
  simp at k0 k1 k2 k3 k4 k5
  unfold P.tgsP
  rw[k0,k1,k2,k3,k4,k5]
 have fn:F0.fn=P.fnP v a b lb:=by
  rw[h2]
  unfold P.fnP
  cases qa:P.zbf a 5 with
  |none=>rfl
  | some m=>
   cases qb:P.zbf b 5 with
   |none=>rfl
   |some k=>
    simp only[Option.map_some,if_true,fnQ]
    rw[r5',qb]
    try rfl
 have tr:tri F0=(P.ndP a b lb,(P.fdP v a b lb).map (·.1),(P.fdP v a b lb).map (·.2)):=by
  rw[h3]
  unfold P.ndP P.fdP
  cases qa:P.zbf a 4 with
  |none=>rfl
  | some m=>
   cases qb:P.zbf b 4 with
   |none=>rfl
   | some k=>
    obtain⟨nm,_,lm⟩:=zgO ha (by omega) qa
    obtain⟨nk,_,lk⟩:=zgO hb (by omega) qb
    have hk0:b.kind=0->k.names=[]:=fun h0=>by
     unfold P.zbf at qb
     rw[aC h0]at qb
     cases qb
     rfl
    simp only[Option.map_some,if_true]
    rw[zGg v _ _ lb idC nm nk (lm rfl) (lk rfl) (fun ho=>by
     simp only[aI]at ho
     exact⟨by simp only[bY];intro x;exact hne ⟨x.1,ho.1⟩,hk0 ho.1⟩)]
    have en:(if decide (b.kind=0/\4=4)=true then []else P.ndsP lb m k)=P.ndsP lb m k:=by
     split
     ·rename_i ho
      simp only[aI]at ho
      unfold P.ndsP
      rw[hk0 ho.1];try rfl
     ·rfl
    simp only[en]
    simp[tri,addN,addF,idC,Coe.needs,Coe.names,Coe.fields,Coe.tags,Coe.fn]
    intro h0
    unfold P.ndsP
    rw[hk0 h0];try rfl
 simp only[tri,bU]at tr
 exact Coe.ext' tags tr.1 tr.2.1 tr.2.2 fn
def NF.kidO{k:Typ}(h:NF k)(s:fC):NF (P.kidO k s):=by
 rcases P.zDa (k:=k) s with q|q
 ·exact h.kid q
 ·rw[q];exact NF.no
def NF.kd{k:Typ}(h:NF k)(j:Nat):NF (P.kd k j):=by
 rcases P.zFX k j with q|q
 ·exact h.kid q
 ·rw[q];exact NF.no
def zlk:∀(n:Nat) (a b:Typ) (lb:Int),NF a->NF b->P.cstN n a b lb=zc6 n a b lb
 |0,_,_,_,_,_=>rfl
 | n +1,a,b,lb,ha,hb=>by
  rw[P.cstN,zc6]
  by_cases h:a.kind=0/\b.kind=0
  ·rw[aC h];unfold P.cstV;rw[aC h]
  ·rw [aB h,zDE _ a b lb ha hb h]
   have e4:P.fdP (P.cstN n) a b lb=P.fdP (zc6 n) a b lb:=by
    unfold P.fdP
    cases qa:P.zbf a 4 with
    |none=>rfl
    | some m=>
     cases qb:P.zbf b 4 with
     |none=>rfl
     |some k=>
      have nm:=(zgO ha (by omega) qa).1
      have nk:=(zgO hb (by omega) qb).1
      simp only
      unfold P.recF
      congr 1
      exact bO fun s _=>by rw[zlk n _ _ lb (nm.kidO s) (nk.kidO s)]
   have e5:P.fnP (P.cstN n) a b lb=P.fnP (zc6 n) a b lb:=by
    unfold P.fnP
    cases qa:P.zbf a 5 with
    |none=>rfl
    | some m=>
     cases qb:P.zbf b 5 with
     |none=>rfl
     |some k=>
      have nm:=(zgO ha (by omega) qa).1
      have nk:=(zgO hb (by omega) qb).1
      simp only
      rw[zlk n _ _ _ (nk.kd 0) (nm.kd 0),zlk n _ _ lb (nm.kd 1) (nk.kd 1)]
   unfold P.cstV
   rw[aB h,aB h,e4,e5]
def zzD:∀x,x∈P.zeC->x∈ziT:=by
 have h:(P.zeC.all fun x=>ziT.any fun y=>decide (y=x))=true:=by decide+kernel
 intro x hx
 have:=aa.1 h x hx
 rw[List.any_eq_true]at this
 obtain⟨y,hy,e⟩:=this
 simp only[aI]at e
 rw[<-e];exact hy
def zw4{q:Int->Bool}:∀l:List UInt8,(∀b,b∈l->q b.toNat=true)->P.rowB q l=l.length
 |[],_=>rfl
 |b::l,h=>by
  rw[P.rowB,aC (h b (by simp)),zw4 l fun c hc=>h c (by simp[hc])];rfl
def zEd{s:fC}(h:zbg s=true):P.zkM s=true:=by
 unfold zbg at h
 have hlen:s.data.toList.length=s.size:=by rw[bu];try rfl
 unfold P.zkM
 cases e:s.data.toList with
 |nil=>rw[e]at h;cases h
 | cons c l=>
  rw[e]at h hlen
  simp only[aD,aI,bE]at h
  obtain⟨h1,h2,h3,h4⟩:=h
  have h4':=aa.1 h4
  have hin:∀b,b∈c::l->P.ziA b.toNat=true:=fun b hb=>by
   have:=h4' b hb
   unfold letU digU letV digV at this
   unfold P.ziA P.zjY
   exact this
  have hlet:P.zjY c.toNat=true:=by
   have:=h4' c (by simp)
   rw[h3,Bool.or_false]at this
   exact this
  have hrow:=zw4 (c::l) hin
  have hne:s≠bs []:=fun q=>by rw[q]at e;cases e
  have hw:(P.zeC.any fun x=>decide (s=x))=false:=by
   rw[dE]
   intro x hx
   simp only[aI]
   intro q
   unfold zk4 at h2
   rw[dE]at h2
   exact h2 x (zzD x hx) (by simp[q])
  simp only[hne,ne_eq,not_false_eq_true,decide_true,Bool.true_and,aD,aI,hlet,hrow,hlen,hw,Bool.not_false,and_true,and_self,h1]
def zrJ{α β:Type}:∀{l k:List (α × β)},l.Perm k->l.map (·.1)=k.map (·.1)->(k.map (·.1)).Nodup->l=k
 |[],k,hp,_,_=>hp.nil_eq
 |x::l,[],hp,_,_=>by simpa using hp.length_eq
 | x::l,y::k,hp,he,hn=>by
  simp only[map_cons,dV]at he
  rw[map_cons,nodup_cons]at hn
  have hx:x∈y::k:=hp.subset (by simp)
  have exy:x=y:=by
   rcases aM.1 hx with e|e
   ·exact e
   ·exact absurd (he.1▸dU (f:=(·.1)) e) hn.1
  subst exy
  rw[zrJ ((perm_cons x).1 hp) he.2 hn.2]
def zzE{l k:List fC}(hp:l.Perm k)(hl:l.Pairwise fun a b=>¬ltB b a)(hk:k.Pairwise ltB):l=k:=by
 have hk':k.Pairwise fun a b=>¬ltB b a:=hk.imp fun {a b} h q=>zdU _ (zdP h q)
 exact hp.eq_of_pairwise (fun a b _ _ h1 h2=>by
  by_cases e:a=b
  ·exact e
  rcases zhe e with q|q
  ·exact absurd q h2
  ·exact absurd q h1) hl hk'
def zFp{ns:List fC}{ts:List Typ}(hl:ns.length=ts.length)(h16:ns.length<=16)(hv:∀x,x∈ns->zbg x=true)(ho:ns.Pairwise ltB):P.recP ns ts=(.mk 5 (bs []) ns ts,true):=by
 have e1:(ns.zip ts).map (·.1)=ns:=map_fst_zip (by omega)
 have e2:(ns.zip ts).map (·.2)=ts:=map_snd_zip (by omega)
 have hp:=P.zsj (ns.zip ts)
 have hs:=P.zy0 (ns.zip ts)
 have hn:(P.srtT (ns.zip ts)).map (·.1)=ns:=zzE (by have:=hp.map (·.1);rwa[e1]at this) hs ho
 have he:P.srtT (ns.zip ts)=ns.zip ts:=zrJ hp (by rw[hn,e1]) (by rw[e1];exact zbc ho)
 unfold P.recP
 rw[aB (by omega),he,e1,e2,aC]
 refine⟨aa.2 fun x hx=>zEd (hv x hx),?_⟩
 unfold P.adjB
 rw[aa]
 intro j hj
 have hj:j<ns.length:=by simpa using hj
 unfold P.unlk
 by_cases h0:j=0
 ·simp[h0]
 ·have h1:j-1<ns.length:=by omega
  have hne:ns[j-1]≠ns[j]:=fun q=>by
   have:=(cZ.1 ho) (j-1) j h1 hj (by omega)
   rw[q]at this
   exact zdU _ this
  simp[h0,aH,aA hj,aA h1,hne]
def zzF{k:Typ}:∀(of:List (Option Typ)) (g:Nat),g<of.length->(∀i,g<=i->i<of.length->of.getD i none=none)->(of.set g (some k)).filterMap id=of.filterMap id++[k]
 |[],g,h,_=>by simp at h
 | o::of,0,h,hn=>by
  have h0:=hn 0 (by omega) (by simp)
  simp only[getD_cons_zero]at h0
  subst h0
  have hz:of.filterMap id=[]:=by
   rw[filterMap_eq_nil_iff]
   intro a ha
   obtain⟨i,hi,rfl⟩:=bM ha
   have:=hn (i+1) (by omega) (by simpa using hi)
   rw[getD_cons_succ,aH,aA hi,Option.getD_some]at this
   exact this
  simp[hz]
 | o::of,g+1,h,hn=>by
  have ih:=zzF (k:=k) of g (by simpa using h) fun i hi hl=>by
   have:=hn (i+1) (by omega) (by simpa using hl)
   simpa using this
  rw[set_cons_succ]
  cases o with
  |none=>simpa using ih
  |some x=>simpa using ih
theorem zzG:∀(l:List Typ) (of:List (Option Typ)) (m:Nat),of.length=6->(∀i,m<=i->i<6->of.getD i none=none)->(l.map zaj).Pairwise (· < ·)->(∀x,x∈l->(m:Int)<=zaj x/\zaj x<6)->
  (P.zbm l of).1=true/\(P.zbm l of).2.filterMap id=of.filterMap id++l
 |[],of,m,_,_,_,_=>by simp[P.zbm]
 | t::l,of,m,h6,hn,hp,ht=>by
  rw[map_cons,pairwise_cons]at hp
  obtain⟨a,b⟩:=ht t (by simp)
  have hg:(zaj t).toNat<6:=by omega
  have hz:=hn (zaj t).toNat (by omega) hg
  have hput:P.putU of t=(true,of.set (zaj t).toNat (some t)):=by
   unfold P.putU
   have e:P.zaj t=zaj t:=rfl
   rw[e,aB (by omega),hz]
   simp only
   rw[(P.zg4 t t).2 rfl]
  rw[P.zbm,hput]
  simp only[if_true]
  have ih:=zzG l (of.set (zaj t).toNat (some t)) ((zaj t).toNat+1) (by simpa using h6) (fun i hi hl=>by
   rw[aH,getElem?_set_ne (by omega),<-aH]
   exact hn i (by omega) hl) hp.2 fun x hx=>by
    have:=hp.1 (zaj x) (dU hx)
    have:=(ht x (by simp[hx])).2
    omega
  refine⟨ih.1,?_⟩
  rw[ih.2,zzF of _ (by omega) fun i hi hl=>hn i (by omega) (by omega),append_assoc]
  try rfl
theorem zBY{l:List Typ}(h2:2<=l.length)(hp:(l.map zaj).Pairwise (· < ·))(hk:∀x,x∈l->1<=x.kind/\x.kind<=6):P.zd2 l=(.mk 7 (bs []) [] l,true):=by
 have hm:l.flatMap P.mems=l:=by
  have:∀k:List Typ,(∀x,x∈k->1<=x.kind/\x.kind<=6)->k.flatMap P.mems=k:=fun k=>by
   induction k with
   |nil=>intro _;rfl
   |cons x k ih=>
    intro h
    rw[flatMap_cons,ih fun y hy=>h y (by simp[hy])]
    have:=h x (by simp)
    unfold P.mems
    rw[aB (by omega)]
    try rfl
  exact this l hk
 have ht:∀x,x∈l->((0:Nat):Int)<=zaj x/\zaj x<6:=fun x hx=>by
  have:=hk x hx
  unfold zaj
  rw[aB (by omega)]
  omega
 have h:=zzG l P.noU 0 rfl (fun i _ hi=>by match i,hi with|0,_|1,_|2,_|3,_|4,_|5,_=>rfl) hp ht
 have hn:P.noU.filterMap id=([]:List Typ):=rfl
 rw[hn,nil_append]at h
 unfold P.zd2
 rw[hm]
 obtain⟨b,of,hof⟩:∃b of,P.zbm l P.noU=(b,of):=⟨_,_,rfl⟩
 rw[hof]at h⊢
 obtain⟨e1,e2⟩:=h
 simp only at e1 e2
 subst e1
 simp only[e2]
 match l,h2 with
 |x::y::l,_=>simp
mutual
def zw5:∀t:Typ,NF t->P.zaS t=(t,true)
 | .mk k n s l,h=>by
  have hw:=(zaQ _).1 h.1
  have ho:=(zcb _).1 h.2
  simp only[Typ.kids,Typ.kind,Typ.names,Typ.name]at hw ho
  obtain⟨w1,w2,w3⟩:=hw
  have hl:=ztt l fun x hx=>⟨w2 x hx,ho.2.2 x hx⟩
  rw[P.zaS,w1]
  rcases w3 with⟨a,b,c,d⟩|⟨a,b,c,d⟩|⟨a,b,c⟩|⟨a,b,c,d⟩
  ·rw[aB (by omega),aC ⟨a,b⟩,c,d]
  ·rw[aC (by omega),hl]
   simp only[if_true]
   unfold P.finP
   rw[aC a,zFp b c d ho.1,a]
  ·rw[aC (by omega),hl]
   simp only[if_true]
   unfold P.finP
   rw[aB (by omega),aC a,a,b]
   simp[c]
  ·rw[aC (by omega),hl]
   simp only[if_true]
   unfold P.finP
   have h7:=ho.2.1 a
   rw[aB (by omega),aB (by omega),zBY h7.2 h7.1 d,a,b]
def ztt:∀l:List Typ,(∀x,x∈l->NF x)->P.zaY l=(l,true)
 |[],_=>rfl
 |t::l,h=>by
  rw[P.zaY,zw5 t (h t (by simp)),ztt l fun x hx=>h x (by simp[hx])]
  try rfl
end
mutual
def pdpt:∀t:Typ,P.dpt t=dpt t
 |.mk k n s l=>by rw[P.dpt,dpt,pdpts l]
def pdpts:∀l:List Typ,P.dpts l=dpts l
 |[]=>rfl
 |t::l=>by rw[P.dpts,dpts,pdpt t,pdpts l]
end
def zzH:∀(n:Nat) (t:Typ),P.hgt n t<=dpt t
 |0,t=>by have:=zd7 t;rw[P.hgt];omega
 | n+1,t=>by
  rw[P.hgt]
  have h:=P.zt7 (P.hgt n) t.kids 0 (dpt t-1) (by omega) fun x hx=>by
   have:=zzH n x
   have:=zcH hx
   omega
  have:=zd7 t
  omega
mutual
def zzI:∀t:Typ,P.tsz t<=cntT t
 |.mk k n s l=>by
  have:=zw6 l 1
  rw[P.tsz,cntT];omega
def zw6:∀(l:List Typ) (n:Nat),P.tszs l n<=n+zay l
 |[],n=>by rw[P.tszs,zay];omega
 | t::l,n=>by
  rw[P.tszs,zay]
  have:=zzI t
  split
  ·omega
  ·have:=zw6 l (n+P.tsz t)
   omega
end
def zzJ{t:Typ}(h:isNR t=true):P.isN t=true:=by
 have h1:=zfH h
 have h2:=ziJ h
 have h3:=zim h
 have h4:=zzH 16 t
 have h5:=zzI t
 unfold P.isN P.znE
 rw[aB (by omega),zw5 t h1]
 simp[(P.zg4 t t).2 rfl]
def zBZ{a b:Typ}{n:Int}(ha:isNR a=true)(hb:isNR b=true)(h0:0<=n)(h1:n<=1000000000):PCall Pg 36 [.agg a.enc,.agg b.enc,.one (.int .i64 (2*n+2))] (.agg (zc6 32 a b (2*n+2)).enc):=by
 have d1:=ziJ ha
 have d2:=ziJ hb
 have h:=P.zHG 32 a b (2*n+2) (by rw[pdpt,pdpt];omega) (by omega) (by omega)
 have e:P.zDS 32 a b (2*n+2)=zc6 32 a b (2*n+2):=by
  unfold P.zDS
  rw[aB (by rw[zzJ ha,zzJ hb];simp;omega)]
  exact zlk 32 a b _ (zfH ha) (zfH hb)
 rw[e]at h
 exact h
def zul(d:Coe)(k:Cor):PCall Pg 35 [.agg d.enc,.agg k.enc] (.agg (coK d k).enc):=by
 refine zAF (by simp) fun o cx hN hp=>?_
 unfold zqj
 simp
 exact(Cor.enc_eq (coK d k)).symm
def zbz(c:Cor):Cor:=if c.kind=21 then coK (zc6 32 (c.types.getD 0 noT) (c.types.getD 1 noT) (2*c.n+2)) (c.kids.getD 0 noC)else c
def zfg(c:Cor):Prop:=c.kind=21->0<=c.n/\c.n<=1000000000/\∃a b k,c.types=[a,b]/\c.kids=[k]/\isNR a=true/\isNR b=true
def zum(c:Cor)(h:zfg c):PCall Pg 19 [.agg c.enc] (.agg (zbz c).enc):=by
 refine zwA (by simp) fun o cx hN hp=>?_
 unfold zmI zbz
 by_cases q:c.kind=21
 ·obtain⟨h0,h1,a,b,k,e1,e2,na,nb⟩:=h q
  have hm:=zBZ na nb h0 h1
  have w1:=wI (n:=2*c.n)
  have w2:=wI (n:=2*c.n+2)
  have hk:=zul (zc6 32 a b (2*c.n+2)) k
  rw[aC q,e1,e2]
  simp[q,e1,e2,w1,w2]
  refine gN hm ?_
  simp[e2]
  refine gN hk ?_
  simp
  decide
 ·rw[aB q]
  simp[q]
def zfq{d:Coe}{k:Cor}{i:Nat}(hi:i<6)(ht:tagK k=i):idleC d k=(decide (tagZ d i=0)&&(decide (i≠5)||decide (d.fn=[]))):=by
 have hs:za9 d idC=true->tagZ d i=0/\d.fn=[]:=fun h=>by
  have:=(zdn _ _).1 h
  subst this
  exact⟨by match i,hi with|0,_|1,_|2,_|3,_|4,_|5,_=>rfl,rfl⟩
 have h5:decide ((i:Int)≠5)=decide (i≠5):=by rw[decide_eq_decide];omega
 have hf:decide (d.fn.length=0)=decide (d.fn=[]):=by rw[decide_eq_decide];exact length_eq_zero_iff
 unfold idleC
 rw[ht,h5,hf,az]
 cases hc:za9 d idC with
 |true=>obtain⟨a,b⟩:=hs hc;simp[a,b]
 |false=>simp
def zAw{d:Coe}{k:Cor}(ht:tagK k= -1):idleC d k=za9 d idC:=by
 unfold idleC
 rw[ht]
 simp
def zun(d:Coe)(k:Cor)(hd:d.tags.length=6):PCall Pg 38 [.agg d.enc,.agg k.enc] (.one (.bool (idleC d k))):=by
 refine zwC (by simp) fun o cx hN hp=>?_
 have hg:∀i,i<6->d.tags[i]?=some (tagZ d i):=fun i hi=>zd5 hd hi
 have g0:=hg 0 (by omega);have g1:=hg 1 (by omega);have g2:=hg 2 (by omega);have g3:=hg 3 (by omega);have g5:=hg 5 (by omega)
 by_cases k3:k.kind=3
 ·rw[zfq (i:=0) (by omega) (by unfold tagK;simp[k3])]
  unfold zb8
  simp[k3,encI,g0]
 by_cases k0:k.kind=0
 ·rw[zfq (i:=2) (by omega) (by unfold tagK;simp[k0])]
  unfold zb8
  simp[k0,encI,g2]
 by_cases k20:k.kind=20
 ·rw[zfq (i:=2) (by omega) (by unfold tagK;simp[k20])]
  unfold zb8
  simp[k20,encI,g2]
 by_cases k1:k.kind=1
 ·rw[zfq (i:=3) (by omega) (by unfold tagK;simp[k1])]
  unfold zb8
  simp[k1,encI,g3]
 by_cases k2:k.kind=2
 ·rw[zfq (i:=1) (by omega) (by unfold tagK;simp[k2])]
  unfold zb8
  simp[k2,encI,g1]
 by_cases k5:k.kind=5
 ·rw[zfq (i:=5) (by omega) (by unfold tagK;simp[k5])]
  unfold zb8
  by_cases z:tagZ d 5=0
  ·simp[k5,encI,g5,z]
  ·simp[k5,encI,g5,z]
 by_cases k6:k.kind=6
 ·rw[zfq (i:=5) (by omega) (by unfold tagK;simp[k6])]
  unfold zb8
  by_cases z:tagZ d 5=0
  ·simp[k6,encI,g5,z]
  ·simp[k6,encI,g5,z]
 rw[zAw (by unfold tagK;simp[k0,k1,k2,k3,k5,k6,k20])]
 have hI:=P.zyw
 have hS:=P.zxl d idC
 unfold zb8
 simp[k0,k1,k2,k3,k5,k6,k20]
 refine gN hI ?_
 simp
 refine gN hS ?_
 simp
 decide
def fewK(c:Cor):Cor:=if(zbz c).kind=22 then zeH ((zbz c).cos.getD 0 idC) ((zbz c).kids.getD 0 noC)else zbz c
def FewR(c:Cor):Prop:=zfg c/\((zbz c).kind=22->∃d k,(zbz c).cos=[d]/\(zbz c).kids=[k]/\zeh 200000000 d/\(k.kind=22->∃e y,k.cos=[e]/\k.kids=[y]/\zeh 200000000 e))
def zAx(c:Cor)(h:FewR c):PCall Pg 20 [.agg c.enc] (.agg (fewK c).enc):=by
 obtain⟨h1,h2⟩:=h
 have hc:=zum c h1
 unfold fewK
 generalize zbz c=x at*
 obtain⟨R,hR⟩:∃R,(if x.kind=22 then zeH (x.cos.getD 0 idC) (x.kids.getD 0 noC)else x)=R:=⟨_,rfl⟩
 rw[hR]
 refine zuB (by simp) fun o cx hN hp=>?_
 unfold zlH
 simp
 refine gN hc ?_
 by_cases q:x.kind=22
 ·obtain⟨d,k,e1,e2,gd,hk⟩:=h2 q
  rw[aC q,e1,e2]at hR
  simp only[getD_cons_zero]at hR
  unfold zeH at hR
  by_cases r:k.kind=22
  ·obtain⟨e,y,f1,f2,ge⟩:=hk r
   have hcc:=P.zGn 32 ge.2.2 gd.2.2 (ge.le (B:=536870912) (by omega)).2.1 (gd.le (B:=536870912) (by omega)).2.1
   have ec:ztp 32 e d=zbx 32 e d:=by unfold ztp;rw[ge.1,gd.1];try rfl
   rw[ec]at hcc
   have g6:=ge.comp (by omega) gd
   have hi:=zun (zbx 32 e d) y ((zbR _).1 g6.1).tags
   have hco:=zul (zbx 32 e d) y
   rw[aC r,aC r,f1,f2]at hR
   simp only[getD_cons_zero]at hR
   simp[q,e1,e2,r,f1,f2]
   refine⟨by decide,?_⟩
   refine gN hcc ?_
   simp[f2]
   refine⟨by decide,?_⟩
   refine gN hi ?_
   cases b:idleC (zbx 32 e d) y with
   |true=>rw[b]at hR;simp at hR;subst hR;simp
   |false=>
    rw[b]at hR;simp at hR;subst hR
    simp
    refine gN hco ?_
    simp
  ·have hi:=zun d k ((zbR _).1 gd.1).tags
   have hco:=zul d k
   simp only[aB r]at hR
   simp[q,e1,e2,r]
   refine⟨by decide,?_⟩
   refine gN hi ?_
   cases b:idleC d k with
   |true=>rw[b]at hR;simp at hR;subst hR;simp
   |false=>
    rw[b]at hR;simp at hR;subst hR
    simp
    refine gN hco ?_
    simp
 ·rw[aB q]at hR
  subst hR
  simp[q]
mutual
def zbu(q:Cor->Cor):Cor->Cor
 |.mk k n t is ns ts cs ks=>q (.mk k n t is ns ts cs (zfY q ks))
def zfY(q:Cor->Cor):List Cor->List Cor
 |[]=>[]
 |c::l=>zbu q c::zfY q l
end
mutual
def zdl(R:Cor->Prop)(q:Cor->Cor):Cor->Prop
 |.mk k n t is ns ts cs ks=>R (.mk k n t is ns ts cs (zfY q ks))/\zfZ R q ks
def zfZ(R:Cor->Prop)(q:Cor->Cor):List Cor->Prop
 |[]=>True
 |c::l=>zdl R q c/\zfZ R q l
end
def zf0(q:Cor->Cor):∀l:List Cor,zfY q l=l.map (zbu q)
 |[]=>rfl
 |c::l=>by rw[zfY,zf0 q l];try rfl
def zhK{R:Cor->Prop}{q:Cor->Cor}:∀{l:List Cor},zfZ R q l↔∀x,x∈l->zdl R q x
 |[]=>by simp[zfZ]
 |c::l=>by simp[zfZ,zhK (l:=l)]
def zCD(q:Cor->Cor)(c:Cor):zbu q c=q (.mk c.kind c.n c.text c.ints c.names c.types c.cos (c.kids.map (zbu q))):=by
 cases c;rw[zbu,zf0];try rfl
def EaOk(g:FuncId)(R:Cor->Prop)(q:Cor->Cor)(c:Cor):Prop:=csz c<=1000000000->zdl R q c->PCall Pg 21 [.agg c.enc,.one (.fn (.func g) [])] (.agg (zbu q c).enc)
abbrev zuj:Blk:=.box [.d (.int .i64 0),.d (.int .i64 0),.d (.str (bs [])),.d (.sl true 1 []),.d (.sl true 1 []),.d (.sl true 4 []),.d (.sl true 5 []),.d (.sl true 8 [])]
abbrev corA(l:List Cor):Blk:=.arr 8 ((l.map Cor.enc).map (·.map .d))
def zEC(a b:Cor):put (a.enc.map AC.d) 0 (b.enc.map AC.d)=b.enc.map .d:=by rw[a.enc_eq,b.enc_eq];try rfl
def zuk{α:Type}{A B:List α}{j:Nat}(h:j<=A.length):(A.take j++B.drop j)[j]?=B[j]?:=by
 rw[getElem?_append_right (by simp;omega),bI,Nat.min_eq_left h,Nat.sub_self,getElem?_drop];try rfl
def zr7{α:Type}{A B:List α}{j:Nat}(h:j<A.length)(hl:A.length=B.length):(A.take j++B.drop j).set j A[j]=A.take (j+1)++B.drop (j+1):=by
 rw[set_append_right _ _ (by simp;omega),bI,Nat.min_eq_left (by omega),Nat.sub_self,aG (l:=B) (by omega),set_cons_zero,aJ h,append_assoc];try rfl
def zCC(g:FuncId)(R:Cor->Prop)(q:Cor->Cor)(hq:∀x,R x->PCall Pg g [.agg x.enc] (.agg (q x).enc))(c:Cor)(ih:∀x,x∈c.kids->EaOk g R q x):EaOk g R q c:=fun hs hR=>by
 refine zwB (by simp) fun o cx hN hp=>?_
 have hsz:=zf9 c
 have hkl:=zu7 c.kids
 have hR':R (.mk c.kind c.n c.text c.ints c.names c.types c.cos (c.kids.map (zbu q)))/\∀x,x∈c.kids->zdl R q x:=by
  cases c
  rw[zdl,zf0,zhK]at hR
  exact hR
 have hfin:=hq _ hR'.1
 rw[zCD]
 unfold zmJ
 simp
 refine gK [] (zC3 c.kids (by omega)) ?_
 simp[zGI]
 refine fK zaa hp (fun j:Nat=>j<=c.kids.length) (fun j=>[(14,.c (.d (.int .i64 j))),(13,.c (.d (.int .i64 c.kids.length))),(12,.c (.msl 8 2 0 c.kids.length)),(4,.c (.ptr 1 0)),(2,.c (.ptr 0 0)),(1,.c (.d (.fn (.func g) [])))]) (fun j=>[.box (row7 c (.msl 8 2 0 c.kids.length)),zuj,corA ((c.kids.take j).map (zbu q)++c.kids.drop j)]) (fun j=>c.kids.length-j) 0 [0,1,2] (by simp) (by simp[c.enc_eq]) fun j hj=>?_
 unfold zjZ
 simp
 apply gI<;>intro h
 ·have hj:j<c.kids.length:=by simpa using h
  have hw:=wI (n:=(j:Int)+1)
  have hsj:=zfK hj
  have hx:=ih _ (aS hj) (by omega) (hR'.2 _ (aS hj))
  have hat:=zuk (A:=c.kids.map ((fun x=>List.map AC.d x)∘Cor.enc∘zbu q)) (B:=c.kids.map ((fun x=>List.map AC.d x)∘Cor.enc)) (j:=j) (by simp;omega)
  rw[getElem?_map,aA hj,Option.map_some]at hat
  have hset:=zr7 (A:=c.kids.map ((fun x=>List.map AC.d x)∘Cor.enc∘zbu q)) (B:=c.kids.map ((fun x=>List.map AC.d x)∘Cor.enc)) (j:=j) (by simpa using hj) (by simp)
  rw[getElem_map]at hset
  refine⟨hj,?_⟩
  rw[hat]
  simp
  refine gN hx ?_
  simp
  refine⟨hj,?_⟩
  rw[hat]
  refine⟨by decide,?_⟩
  refine fD (j+1) [0,1,2] (by omega) (by omega) ?_
  simp[hw,zEC]
  have tr:=fun(F:Cor->List AC) (hF:∀x,∃y:Cor,F x=y.enc.map AC.d) (l:List Cor) (k:Nat) (x:List AC) (hx:x∈l.map F)=>(show AC.lts 3 x=true from by
   obtain⟨y,_,rfl⟩:=ai.1 hx
   obtain⟨z,hz⟩:=hF y
   rw[hz];simp)
  exact⟨hset,fun x hx=>tr _ (fun y=>⟨zbu q y,rfl⟩) c.kids 0 x (bW hx),fun x hx=>tr _ (fun y=>⟨y,rfl⟩) c.kids 0 x (dM hx)⟩
 ·have hj:j=c.kids.length:=by simp at h;omega
  subst hj
  have hT:take c.kids.length (List.map (zbu q) c.kids)=List.map (zbu q) c.kids:=aF (by simp)
  rw[aO,bL,aF (by simp)]
  refine fP [2] ?_
  simp only[zkZ,zAf,zrY,zpP,aC,aB,reduceIte,Nat.reduceEqDiff,zhd,zdL,Blk.fz_arr,zhQ,zec]
  refine St.cut7 (F:=w_ Pg cx _ _ _) [(1,.c (.d (.fn (.func g) []))),(2,.c (.ptr 0 0)),(4,.c (.ptr 1 0))] [.box (row7 c (.d (.sl false 8 ((c.kids.map (zbu q)).map Cor.enc)))),zuj,.dead] ?_ ?_ fun T hT=>?_
  ·simp[zah]
  ·intro i
   rcases(show i=0\/i=1\/i=2\/3<=i from by omega)with rfl|rfl|rfl|q3
   ·simp[zah]
    exact aF (by simp)
   ·simp[zah]
   ·simp[zah]
   ·simp[zah,zce (show [Blk.box (row7 c (.d (.sl false 8 ((c.kids.map (zbu q)).map Cor.enc)))),zuj,.dead].length<=i from q3),show i≠2 from by omega]
    rw[zce (by exact q3),zce (by exact q3)]
    try rfl
  simp only[forall_mem_cons,cz,false_implies,implies_true,and_true]at hT
  obtain⟨k1,k2,k3⟩:=hT
  have hrow:row7 c (.d (.sl false 8 ((c.kids.map (zbu q)).map Cor.enc)))=(Cor.mk c.kind c.n c.text c.ints c.names c.types c.cos (c.kids.map (zbu q))).enc.map .d:=by rw[Cor.enc_eq];try rfl
  rw[hrow]
  simp[k1,k2,k3]
  refine gN hfin ?_
  simp[k1,k2,k3]
mutual
def zoY(g:FuncId)(R:Cor->Prop)(q:Cor->Cor)(hq:∀x,R x->PCall Pg g [.agg x.enc] (.agg (q x).enc)):∀c:Cor,EaOk g R q c
 |.mk k n t is ns ts cs ks=>zCC g R q hq _ (zr8 g R q hq ks)
def zr8(g:FuncId)(R:Cor->Prop)(q:Cor->Cor)(hq:∀x,R x->PCall Pg g [.agg x.enc] (.agg (q x).enc)):∀l:List Cor,∀x,x∈l->EaOk g R q x
 |[],x,hx=>by cases hx
 |c::l,x,hx=>by
  rcases aM.1 hx with e|e
  ·rw[e];exact zoY g R q hq c
  ·exact zr8 g R q hq l x e
end
def qN(trim:Bool):Cor->Cor:=if trim=true then fewK else zbz
def RN(trim:Bool):Cor->Prop:=if trim=true then FewR else zfg
def zlm(trim:Bool)(p:Prg):Prg:=⟨p.funs.map fun f=>⟨f.name,f.type,zbu (qN trim) f.body⟩,p.main,p.sites⟩
def zFj(f:Fun)(b:Cor):put (f.enc.map AC.d) 5 (b.enc.map AC.d)=(Fun.enc ⟨f.name,f.type,b⟩).map .d:=by unfold Fun.enc;rw[f.type.enc_eq,f.body.enc_eq,b.enc_eq];try rfl
def fnF(q:Cor->Cor)(f:Fun):Fun:=⟨f.name,f.type,zbu q f.body⟩
def zx3{c:Ctx}(hp:c.pure)(p:Prg)(g:FuncId)(q:Cor->Cor)(hl:p.funs.length<=1000000)(h:∀f,f∈p.funs->PCall Pg 21 [.agg f.body.enc,.one (.fn (.func g) [])] (.agg (zbu q f.body).enc)){Q:Exit->St->Prop}{S:St}{gg}{ms:List Nat}
  (h0:Match ms S [(15,.c (.d (.int .i64 (0:Nat)))),(14,.c (.d (.int .i64 p.funs.length))),(5,.c (.d (.fn (.func g) []))),(4,.c (.ptr 1 0)),(2,.c (.ptr 0 0))] [.box [.msl 13 2 0 p.funs.length,.d (.int .i64 p.main),.d (.sl false 3 (p.sites.map Site.enc))],.box [.d (.sl true 13 []),.d (.int .i64 0),.d (.sl true 3 [])],funA p.funs])
  (hQ:∀T,Abs.look T 4=.c (.ptr 1 0)->Abs.look T 2=.c (.ptr 0 0)->Q (.exit 0) ⟨T,hpOf [.box [.msl 13 2 0 p.funs.length,.d (.int .i64 p.main),.d (.sl false 3 (p.sites.map Site.enc))],.box [.d (.sl true 13 []),.d (.int .i64 0),.d (.sl true 3 [])],funA (p.funs.map (fnF q))],3⟩):lw_ Pg c zgD Q gg S:=by
 refine fK zaa hp (fun j:Nat=>j<=p.funs.length) (fun j=>[(15,.c (.d (.int .i64 j))),(14,.c (.d (.int .i64 p.funs.length))),(5,.c (.d (.fn (.func g) []))),(4,.c (.ptr 1 0)),(2,.c (.ptr 0 0))]) (fun j=>[.box [.msl 13 2 0 p.funs.length,.d (.int .i64 p.main),.d (.sl false 3 (p.sites.map Site.enc))],.box [.d (.sl true 13 []),.d (.int .i64 0),.d (.sl true 3 [])],funA ((p.funs.map (fnF q)).take j++p.funs.drop j)]) (fun j=>p.funs.length-j) 0 ms (by simp) (by simpa using h0) fun j hj=>?_
 unfold zgD
 simp
 apply gI<;>intro hh
 ·have hj:j<p.funs.length:=by simpa using hh
  have hw:=wI (n:=(j:Int)+1)
  have hx:=h _ (aS hj)
  have hat:=zuk (A:=p.funs.map ((fun x=>List.map AC.d x)∘Fun.enc∘fnF q)) (B:=p.funs.map ((fun x=>List.map AC.d x)∘Fun.enc)) (j:=j) (by simp;omega)
  rw[getElem?_map,aA hj,Option.map_some]at hat
  have hset:=zr7 (A:=p.funs.map ((fun x=>List.map AC.d x)∘Fun.enc∘fnF q)) (B:=p.funs.map ((fun x=>List.map AC.d x)∘Fun.enc)) (j:=j) (by simpa using hj) (by simp)
  rw[getElem_map]at hset
  refine⟨hj,?_⟩
  rw[hat]
  simp
  refine gN hx ?_
  simp
  refine⟨hj,?_⟩
  rw[hat]
  simp
  refine⟨by decide,?_⟩
  refine fD (j+1) [0,1,2] (by omega) (by omega) ?_
  simp[hw,zFj]
  have tr:=fun(F:Fun->List AC) (hF:∀x,∃y:Fun,F x=y.enc.map AC.d) (l:List Fun) (x:List AC) (hx:x∈l.map F)=>(show AC.lts 3 x=true from by
   obtain⟨y,_,rfl⟩:=ai.1 hx
   obtain⟨z,hz⟩:=hF y
   rw[hz];simp)
  exact⟨hset,fun x hx=>tr _ (fun y=>⟨fnF q y,rfl⟩) p.funs x (bW hx),fun x hx=>tr _ (fun y=>⟨y,rfl⟩) p.funs x (dM hx)⟩
 ·have hj:j=p.funs.length:=by simp at hh;omega
  subst hj
  rw[aO,bL,aF (by simp)]
  exact hQ _ (by simp) (by simp)
theorem zv6(p:Prg)(trim:Bool)(hl:p.funs.length<=1000000)(h:∀f,f∈p.funs->csz f.body<=1000000000/\zdl (RN trim) (qN trim) f.body):PCall Pg 9 [.agg p.enc,.one (.bool trim)] (.agg (zlm trim p).enc):=by
 have e:p.enc=[.sl false 13 (p.funs.map Fun.enc),.int .i64 p.main,.sl false 3 (p.sites.map Site.enc)]:=rfl
 have fin:∀(T:List (Nat × AV)) (c:Ctx),c.pure->Abs.look T 4=.c (.ptr 1 0)->Abs.look T 2=.c (.ptr 0 0)->True:=fun _ _ _ _ _=>trivial
 rw[e]
 refine zwz (by simp) fun o cx hN hp=>?_
 unfold zmH
 simp
 refine gK [] (zBU p.funs (by omega)) ?_
 cases trim with
 |false=>
  have hin:=fun Q S gg ms=>zx3 (c:=cx) (Q:=Q) (S:=S) (gg:=gg) (ms:=ms) hp p 19 zbz hl fun f hf=>zoY 19 zfg zbz zum f.body (h f hf).1 (h f hf).2
  simp
  refine hin _ _ _ [0,1,2] (by simp) fun T h1 h2=>?_
  have hT:take p.funs.length (List.map (Fun.enc∘fnF zbz) p.funs)=List.map (Fun.enc∘fnF zbz) p.funs:=aF (by simp)
  simp
  refine fP [2] ?_
  simp[zah,h1,h2,hT]
  unfold zlm Prg.enc qN
  rw[bJ]
  try rfl
 |true=>
  have hin:=fun Q S gg ms=>zx3 (c:=cx) (Q:=Q) (S:=S) (gg:=gg) (ms:=ms) hp p 20 fewK hl fun f hf=>zoY 20 FewR fewK zAx f.body (h f hf).1 (h f hf).2
  simp
  refine hin _ _ _ [0,1,2] (by simp) fun T h1 h2=>?_
  have hT:take p.funs.length (List.map (Fun.enc∘fnF fewK) p.funs)=List.map (Fun.enc∘fnF fewK) p.funs:=aF (by simp)
  simp
  refine fP [2] ?_
  simp[zah,h1,h2,hT]
  unfold zlm Prg.enc qN
  rw[bJ]
  try rfl
def zpj{c:Cor}(h:c.kind≠21):zbz c=c:=by unfold zbz;rw[aB h]
def zsA{c:Cor}(h:c.kind=21):zbz c=coK (zc6 32 (c.types.getD 0 noT) (c.types.getD 1 noT) (2*c.n+2)) (c.kids.getD 0 noC):=by unfold zbz;rw[aC h]
def zvn{c:Cor}(h:(zbz c).kind=22):fewK c=zeH ((zbz c).cos.getD 0 idC) ((zbz c).kids.getD 0 noC):=by unfold fewK;rw[aC h]
def zxN{c:Cor}(h:(zbz c).kind≠22):fewK c=zbz c:=by unfold fewK;rw[aB h]
def zEX(d:Coe)(x:Cor):zbZ (.mk 22 0 (bs []) [] [] [] [d] [x])=zeH d (zbZ x):=by rw[zbZ,aC rfl];try rfl
def zxO{k n:Int}{t:fC}{is:List Int}{ns:List fC}{ts:List Typ}{cs:List Coe}{ks:List Cor}(h:k≠22):zbZ (.mk k n t is ns ts cs ks)=.mk k n t is ns ts cs (zes ks):=by rw[zbZ,aB h]
def zfg.no{c:Cor}(h:c.kind≠21):zfg c:=fun e=>absurd e h
section
variable {M G:Nat} (hM:M<=1000000000)
include hM
mutual
def zsB:∀c:Cor,okC M G c->zbu zbz c=zbq c/\zdl zfg zbz c
 | .mk k n t is ns ts cs ks,h=>by
  rw[okC]at h
  obtain⟨e1,e2⟩:=zqA ks h.2
  rw[zbu,zdl,zbq,e1]
  by_cases q:k=21
  ·subst q
   obtain⟨h2,h3,h4,a,b,e,na,nb⟩:=h.1.inv
   subst e
   obtain⟨x,hx⟩:∃x,ks=[x]:=by
    match ks,h2 with
    |[x],_=>exact⟨x,rfl⟩
   subst hx
   rw[aC rfl]
   refine⟨?_,?_,e2⟩
   ·rw[zsA rfl]
    try rfl
   ·intro _
    exact⟨h3,by simp only[Cor.n];omega,a,b,zbq x,rfl,rfl,na,nb⟩
  ·rw[aB q]
   exact⟨zpj q,zfg.no q,e2⟩
def zqA:∀l:List Cor,okCs M G l->zfY zbz l=zbG l/\zfZ zfg zbz l
 |[],_=>⟨rfl,trivial⟩
 |c::l,h=>by
  rw[okCs]at h
  obtain⟨e1,e2⟩:=zsB c h.1
  obtain⟨f1,f2⟩:=zqA l h.2
  rw[zfY,zbG,zfZ,e1,f1]
  exact⟨rfl,e2,f2⟩
end
theorem zvo:∀(s:Nat) (c:Cor) (m:Nat),csz c<=s->s<=10000000->okC M G c->wfC m c->zbu fewK c=zbZ (zbq c)/\zdl FewR fewK c
 |0,c,_,h,_,_,_=>by have:=zf9 c;omega
 | s +1,.mk k n t is ns ts cs ks,m,hs,h7,h,hw=>by
  have hok:=h
  rw[okC]at h
  rw[csz]at hs
  have hpc:=zio _ hok
  have hwp:=ziq _ _ hw
  have kid:∀x,x∈ks->(zbu fewK x=zbZ (zbq x)/\zdl FewR fewK x)/\∃m',wfC m' x:=fun x hx=>by
   obtain⟨j,hj,rfl⟩:=bM hx
   have hsj:=zfK hj
   have hw':=hw
   rw[wfC]at hw'
   obtain⟨m',hm'⟩:∃m',wfC m' ks[j]:=by
    by_cases q5:k=5
    ·subst q5
     have hl:=hw'.2.2.2.2.1 rfl
     match ks,hl,hw',j,hj with
     |[x],_,hw,0,_=>exact⟨m+1,by have:=hw.2.2.2.2.2;rw[wfCs]at this;show wfC (m+1) x;simpa using this.1⟩
    ·exact⟨_,zkb q5 hj hw'.2.2.2.2.2⟩
   exact⟨zvo s ks[j] m' (by omega) (by omega) (zoU.1 h.2 _ hx) hm',m',hm'⟩
  have e1:zfY fewK ks=zes (zbG ks):=by
   rw[zf0,zhI,zgR,bJ]
   exact bO fun x hx=>(kid x hx).1.1
  have e2:zfZ FewR fewK ks:=zhK.2 fun x hx=>(kid x hx).1.2
  rw[zbu,zdl,zbq,e1]
  by_cases q:k=21
  ·subst q
   obtain⟨h2,h3,h4,a,b,e,na,nb⟩:=h.1.inv
   subst e
   obtain⟨x,hx⟩:∃x,ks=[x]:=by
    match ks,h2 with
    |[x],_=>exact⟨x,rfl⟩
   subst hx
   obtain⟨_,m',hm'⟩:=kid x (by simp)
   have ox:okC M G x:=zoU.1 h.2 x (by simp)
   have gd:=zr2 na nb h3
   have tk:=znq (csz (zbq x)) (zbq x) m' (aN _) (zio x ox) (ziq x m' hm')
   rw[zmk]at tk
   have hsx:csz x<=s:=by rw[cszs,cszs]at hs;omega
   have hc:zbz (.mk 21 n t is ns [a,b] cs [zbZ (zbq x)])=coK (zc6 32 a b (2*n+2)) (zbZ (zbq x)):=by
    rw[zsA rfl]
    try rfl
   rw[aC rfl]
   have ek:zes (zbG [x])=[zbZ (zbq x)]:=rfl
   rw[ek]
   refine⟨?_,⟨?_,?_⟩,e2⟩
   ·rw[zvn (by rw[hc];rfl),hc]
    exact(zEX _ (zbq x)).symm
   ·intro _
    exact⟨h3,by simp only[Cor.n];omega,a,b,_,rfl,rfl,na,nb⟩
   ·rw[hc]
    intro _
    refine⟨_,_,rfl,rfl,gd.le (by omega),fun q=>?_⟩
    have ht:=tk.tc
    generalize zbZ (zbq x)=y at*
    obtain⟨k0,n0,t0,is0,ns0,ts0,cs0,ks0⟩:=y
    have q:k0=22:=q
    subst q
    rw[tcC]at ht
    obtain⟨d,z,g1,g2,g3,g4⟩:=ht.2.1 rfl
    exact⟨d,z,g1,g2,g4.le (by omega)⟩
  ·rw[aB q]
   have q22:k≠22:=fun e=>by subst e;exact h.1.n22.elim
   have hc:zbz (.mk k n t is ns ts cs (zes (zbG ks)))=.mk k n t is ns ts cs (zes (zbG ks)):=zpj q
   refine⟨?_,⟨zfg.no q,fun e=>?_⟩,e2⟩
   ·rw[zxN (by rw[hc];exact q22),hc,zxO q22]
   ·rw[hc]at e
    exact absurd e q22
end
def zDd{p:Prg}(hp:PrgK p)(trim:Bool):zlm trim p=zaS trim p/\∀f,f∈p.funs->csz f.body<=1000000000/\zdl (RN trim) (qN trim) f.body:=by
 have key:∀f,f∈p.funs->(zbu (qN trim) f.body=zyx trim f.body/\zdl (RN trim) (qN trim) f.body)/\csz f.body<=1000000000:=fun f hf=>by
  have hg:=(hp.good.1 f hf).1
  have hok:=hp.ok f hf
  have hz:=hg.2
  refine⟨?_,by omega⟩
  cases trim with
  |false=>exact zsB hp.sites f.body hok
  |true=>exact zvo hp.sites (csz f.body) f.body 1 (aN _) (by omega) hok hg.1
 refine⟨?_,fun f hf=>⟨(key f hf).2,(key f hf).1.2⟩⟩
 unfold zlm zaS
 congr 1
 exact bO fun f hf=>by rw[(key f hf).1.1]
def zpk{p:Prg}(hp:PrgK p)(trim:Bool):PCall Pg 9 [.agg p.enc,.one (.bool trim)] (.agg (zaS trim p).enc):=by
 obtain⟨h1,h2⟩:=zDd hp trim
 have h:=zv6 p trim (by have:=hp.good.2;omega) h2
 rw[h1]at h
 exact h
end Go.Gr
namespace Go.Gr
open Go.Abs Go.Proofs
def awkN:List (fC × fC):=[(bs [109,97,105,110],bs [102,110,32,109,97,105,110,40,120,41,32,61,32,49,59])]
def zDU:Bool:=(zbU awkN).2&&((match(zaS false (zbU awkN).1).funs with
 |[f]=>decide (f.body.kind=22)&&decide (f.body.cos.length=1)
 |_=>false)&&(match(zaS true (zbU awkN).1).funs with
 |[g]=>decide (g.body.kind=0)
 |_=>false))
set_option maxRecDepth 100000 in
def zyt:zDU=true:=by decide+kernel
def zCn:(zbU awkN).2=true/\∃f g:Fun,(zaS false (zbU awkN).1).funs=[f]/\(zaS true (zbU awkN).1).funs=[g]/\f.body.kind=22/\f.body.cos.length=1/\g.body.kind=0:=by
 have h:=zyt
 unfold zDU at h
 rw[aD,aD]at h
 obtain⟨h1,h2,h3⟩:=h
 refine⟨h1,?_⟩
 split at h2
 ·rename_i f e
  split at h3
  ·rename_i g e'
   simp only[aD,aI]at h2 h3
   exact⟨f,g,e,e',h2.1,h2.2,h3⟩
  ·cases h3
 ·cases h2
@[simp] theorem Prg.get0(p:Prg)(h:0<p.enc.length):p.enc[0]=.sl false 13 (p.funs.map Fun.enc):=rfl
@[simp] theorem Prg.geq0(p:Prg):p.enc[0]?=some (.sl false 13 (p.funs.map Fun.enc)):=rfl
@[simp] theorem Prg.get1(p:Prg)(h:1<p.enc.length):p.enc[1]=.int .i64 p.main:=rfl
@[simp] theorem Prg.get2(p:Prg)(h:2<p.enc.length):p.enc[2]=.sl false 3 (p.sites.map Site.enc):=rfl
def Fun.enc13(f:Fun):f.enc=[.str f.name,.int .i64 f.type.kind,.str f.type.name,.sl false 1 (encS f.type.names),.sl false 4 (f.type.kids.map Typ.enc),.int .i64 f.body.kind,.int .i64 f.body.n,.str f.body.text,.sl false 1 (encI f.body.ints),.sl false 1 (encS f.body.names),.sl false 4 (f.body.types.map Typ.enc),.sl false 5 (f.body.cos.map Coe.enc),.sl false 8 (f.body.kids.map Cor.enc)]:=by
 rw[Fun.enc_eq,f.type.enc_eq,f.body.enc_eq];try rfl
@[simp] theorem Fun.g5(f:Fun)(h:5<f.enc.length):f.enc[5]=.int .i64 f.body.kind:=by simp only[f.enc13];rfl
@[simp] theorem Fun.g0(f:Fun)(h:0<f.enc.length):f.enc[0]=.str f.name:=rfl
@[simp] theorem Fun.q0(f:Fun):f.enc[0]?=some (.str f.name):=rfl
@[simp] theorem Fun.g11(f:Fun)(h:11<f.enc.length):f.enc[11]=.sl false 5 (f.body.cos.map Coe.enc):=by simp only[f.enc13];rfl
theorem zyu:PCall Pg 7 [] (.one (.bool true)):=by
 refine zwy (by simp) fun o cx hN hp=>?_
 obtain⟨h1,f,g,e1,e2,f1,f2,g1⟩:=zCn
 have hpr:=zq5 awkN
 have hk:=znW (l:=awkN) h1
 have hn1:=zpk hk false
 have hn2:=zpk hk true
 have ev:(awkN.map srcE)=[[.str (bs [109,97,105,110]),.str (bs [102,110,32,109,97,105,110,40,120,41,32,61,32,49,59])]]:=rfl
 rw[ev]at hpr
 generalize zbU awkN=r at*
 obtain⟨p,ok⟩:=r
 simp only at h1 hk hn1 hn2 e1 e2
 subst h1
 generalize zaS false p=P1 at*
 generalize zaS true p=P2 at*
 unfold zmG
 simp
 refine gN (PCall.erd hpr (by simp[DV.erds,DV.erd,D.erd,D.erdE,D.erdL])) ?_
 simp
 refine gN hn1 ?_
 simp
 refine gN hn2 ?_
 simp[e1,e2,f1,f2,g1]
end Go.Gr
namespace Go.Gr
open Go.Abs Go.Proofs List
mutual
def niC:Cor->Prop
 |.mk k n t is ns ts cs ks=>(k=22->n=0/\t=bs []/\is=[]/\ns=[]/\ts=[]/\idleC (cs.getD 0 idC) (ks.getD 0 noC)=false)/\niCs ks
def niCs:List Cor->Prop
 |[]=>True
 |c::l=>niC c/\niCs l
end
def zpz:∀{l:List Cor},niCs l↔∀x,x∈l->niC x
 |[]=>by simp[niCs]
 |c::l=>by simp[niCs,zpz (l:=l)]
def zDP{B m s:Nat}{d:Coe}{k:Cor}(h:TK B m s k)(hn:niC k):niC (zeH d k):=by
 have key:∀(d':Coe) (k':Cor),niC k'->niC (if idleC d' k'=true then k' else coK d' k'):=fun d' k' h'=>by
  split
  ·exact h'
  ·rename_i q
   unfold coK
   rw[niC,niCs,niCs]
   exact⟨fun _=>⟨rfl,rfl,rfl,rfl,rfl,by simpa using q⟩,h',trivial⟩
 unfold zeH
 simp only
 by_cases q:k.kind=22
 ·rw[aC q,aC q]
  obtain⟨k0,n,t,is,ns,ts,cs,ks⟩:=k
  have q:k0=22:=q
  subst q
  have ht:=h.tc
  rw[tcC]at ht
  obtain⟨e,x,h1,h2,h3,h4⟩:=ht.2.1 rfl
  subst h1;subst h2
  rw[niC,niCs]at hn
  exact key _ _ hn.2.1
 ·rw[aB q,aB q]
  exact key _ _ hn
def zx5:∀(s:Nat) (c:Cor) (m:Nat),csz c<=s->pcC c->wfC m c->niC (zbZ c)
 |0,c,m,h,_,_=>by have:=zf9 c;omega
 | s +1,.mk k n t is ns ts cs ks,m,h,hp,hw=>by
  have hp':=hp
  rw[pcC]at hp
  rw[csz]at h
  have kid:∀x,x∈ks->niC (zbZ x)/\∃m',pcC x/\wfC m' x:=fun x hx=>by
   obtain⟨j,hj,rfl⟩:=bM hx
   have hsj:=zfK hj
   have hw':=hw
   rw[wfC]at hw'
   have h1:=zoQ.1 hp.2.2 _ hx
   obtain⟨m',hm'⟩:∃m',wfC m' ks[j]:=by
    by_cases q5:k=5
    ·subst q5
     have hl:=hw'.2.2.2.2.1 rfl
     match ks,hl,hw',j,hj with
     |[x],_,hw,0,_=>exact⟨m+1,by have:=hw.2.2.2.2.2;rw[wfCs]at this;show wfC (m+1) x;simpa using this.1⟩
    ·exact⟨_,zkb q5 hj hw'.2.2.2.2.2⟩
   exact⟨zx5 s ks[j] m' (by omega) h1 hm',m',h1,hm'⟩
  have all:niCs (zes ks):=zpz.2 fun y hy=>by
   rw[zhI]at hy
   obtain⟨x,hx,rfl⟩:=ai.1 hy
   exact(kid x hx).1
  by_cases q:k=22
  ·subst q
   obtain⟨⟨d,e1,gd⟩,h1⟩:=hp.2.1 rfl
   subst e1
   match ks,h1,all,kid with
   |[x],_,all,kid=>
    obtain⟨h2,m',px,wx⟩:=kid x (by simp)
    have tk:=znq (csz x) x m' (aN _) px wx
    have e:zbZ (.mk 22 n t is ns ts [d] [x])=zeH d (zbZ x):=by rw[zbZ,aC rfl];try rfl
    rw[e]
    exact zDP tk h2
  ·rw[zxO q,niC]
   exact⟨fun e=>absurd e q,all⟩
def zwb{B:Nat}(hB:B<=200000000):∀(s:Nat) (c:Cor),csz c<=s->tcC B c->niC c->zbu fewK c=c/\zdl FewR fewK c
 |0,c,h,_,_=>by have:=zf9 c;omega
 | s+1,.mk k n t is ns ts cs ks,h,ht,hn=>by
  rw[csz]at h
  rw[tcC]at ht
  rw[niC]at hn
  have kid:∀x,x∈ks->zbu fewK x=x/\zdl FewR fewK x:=fun x hx=>by
   obtain⟨j,hj,rfl⟩:=bM hx
   have hsj:=zfK hj
   exact zwb hB s ks[j] (by omega) (zin.1 ht.2.2 _ hx) (zpz.1 hn.2 _ hx)
  have e1:zfY fewK ks=ks:=by
   rw[zf0]
   conv=>rhs;rw[<-List.map_id ks]
   exact bO fun x hx=>(kid x hx).1
  have e2:zfZ FewR fewK ks:=zhK.2 fun x hx=>(kid x hx).2
  rw[zbu,zdl,e1]
  have hc:zbz (.mk k n t is ns ts cs ks)=.mk k n t is ns ts cs ks:=zpj ht.1
  by_cases q:k=22
  ·subst q
   obtain⟨d,x,h1,h2,h3,h4⟩:=ht.2.1 rfl
   subst h1;subst h2
   obtain⟨n1,n2,n3,n4,n5,n6⟩:=hn.1 rfl
   subst n1 n2 n3 n4 n5
   refine⟨?_,⟨zfg.no ht.1,?_⟩,e2⟩
   ·rw[zvn (by rw[hc];rfl),hc]
    show zeH d x=_
    have n6:idleC d x=false:=n6
    unfold zeH
    simp only[aB h3,n6,ae,if_false]
    rfl
   ·rw[hc]
    intro _
    exact⟨d,x,rfl,rfl,h4.le (by omega),fun e=>absurd e h3⟩
  ·refine⟨?_,⟨zfg.no ht.1,fun e=>?_⟩,e2⟩
   ·rw[zxN (by rw[hc];exact q),hc]
   ·rw[hc]at e
    exact absurd e q
def zDQ{p:Prg}(hp:PrgK p):PCall Pg 9 [.agg (zaS true p).enc,.one (.bool true)] (.agg (zaS true p).enc):=by
 have key:∀f,f∈(zaS true p).funs->(zbu fewK f.body=f.body/\zdl FewR fewK f.body)/\csz f.body<=1000000000:=fun f hf=>by
  unfold zaS at hf
  obtain⟨g,hg,rfl⟩:=ai.1 hf
  have hgg:=(hp.good.1 g hg).1
  have hok:=hp.ok g hg
  have hz:=hgg.2
  have tk:=znq (csz (zbq g.body)) (zbq g.body) 1 (aN _) (zio _ hok) (ziq _ _ hgg.1)
  have ni:=zx5 (csz (zbq g.body)) (zbq g.body) 1 (aN _) (zio _ hok) (ziq _ _ hgg.1)
  rw[zmk]at tk
  have hs:=tk.sz
  refine⟨zwb (B:=16*csz g.body) (by omega) _ _ (aN _) tk.tc ni,by simp only[zyx,if_true];omega⟩
 have h:=zv6 (zaS true p) true (by have:=hp.good.2;unfold zaS;simp;omega) fun f hf=>⟨(key f hf).2,(key f hf).1.2⟩
 have e:zlm true (zaS true p)=zaS true p:=by
  unfold zlm
  have:(zaS true p).funs.map (fun f=>(⟨f.name,f.type,zbu (qN true) f.body⟩:Fun))=(zaS true p).funs:=by
   conv=>rhs;rw[<-List.map_id (zaS true p).funs]
   exact bO fun f hf=>by
    have:=(key f hf).1.1
    show(⟨f.name,f.type,zbu fewK f.body⟩:Fun)=f
    rw[this]
  rw[this]
 rw[e]at h
 exact h
end Go.Gr
namespace Go.Gr
open Go.Abs Go.Proofs
def NormTwice_ok(l:List (fC × fC)):PCall Pg 5 [.one (.sl false 2 (l.map srcE))] (.one (.bool true)):=by
 refine zqi (by simp) fun o cx hN hp=>?_
 have hpr:=zq5 l
 have hk:=znW (l:=l)
 generalize zbU l=r at*
 obtain⟨p,ok⟩:=r
 simp only at hk
 unfold ziB
 simp
 refine gN zyu ?_
 simp
 refine gN hpr ?_
 simp
 by_cases hok:ok=true
 rotate_left
 ·simp[hok]
 have hk:=hk hok
 have hn:=zpk hk true
 have hn2:=zDQ hk
 have hlen:(zaS true p).funs.length<=1000000:=by have:=hk.good.2;unfold zaS;simp;omega
 have hpl:(zaS true p).funs.length=p.funs.length:=by unfold zaS;simp
 generalize zaS true p=q at*
 simp[hok]
 refine gN hn ?_
 simp
 refine gN hn2 ?_
 simp[hpl]
 refine fK zaa hp (fun j:Nat=>j<=q.funs.length) (fun j=>[(8,.c (.d (.int .i64 j))),(7,.c (.ptr 2 0)),(6,.c (.ptr 1 0))]) (fun _=>[.box (p.enc.map .d),.box (q.enc.map .d),.box (q.enc.map .d)]) (fun j=>q.funs.length-j) 0 [0,1,2] (by simp) (by simp) fun j hj=>?_
 unfold zg9
 simp
 apply gI<;>intro h
 ·have hj:j<q.funs.length:=by simpa using h
  have hw:=wI (n:=(j:Int)+1)
  simp[hj]
  refine gN (zqo _) ?_
  simp
  refine⟨by decide,?_⟩
  refine fD (j+1) [0,1,2] (by omega) (by omega) ?_
  simp[hw]
 ·simp
def zGd{n:Nat}{ds:List D}(h:zbr Tryz.prog n 50 ds):∃x:fC × fC,ds=srcE x:=by
 obtain⟨m,_,h⟩:=zvy Tryz.underlying50 h
 obtain⟨a,b,rfl,ha,h⟩:=zqH h
 obtain⟨c,d,rfl,hc,h⟩:=zqH h
 obtain rfl:=zBj h
 obtain⟨s,rfl⟩:=zsL Tryz.underlying9 ha
 obtain⟨i,rfl⟩:=zsL Tryz.underlying9 hc
 exact⟨(s,i),rfl⟩
def zE5{n:Nat}{ds:List D}(h:zbr Tryz.prog n 22 ds):∃l:List (fC × fC),ds=[.sl false 2 (l.map srcE)]:=
 zwT (enc:=srcE) Tryz.underlying22 (by kernel_rfl) (fun m _ x hx=>zGd hx) h
def types:List TypeId:=[4,9,22,50]
theorem own:ownKnob Tryz.prog.godebug=none:=by kernel_rfl
theorem laidOut:laidOutB Tryz.prog=true:=by kernel_rfl
theorem typesOk:(types.all fun t=>zbk Tryz.prog types t&&Tryz.prog.readableRec t&&decide (t<Tryz.prog.types.size))=true:=by kernel_rfl
theorem zGT:Abs.isAgg Tryz.prog 22=false:=by kernel_rfl
def args22{dvs:List DV}(h:zmX Tryz.prog [22] dvs):∃l:List (fC × fC),dvs=[.one (.sl false 2 (l.map srcE))]:=by
 match dvs,h with
 |a::r,h=>
  simp only[zmX,zGT,dvOf]at h
  obtain⟨⟨n,x,h1,rfl⟩,rfl⟩:=h
  obtain⟨l,rfl⟩:=zE5 h1
  exact⟨l,rfl⟩
end Go.Gr
set_option linter.unusedVariables false
namespace Go.Proofs.YtlfjlokfciejnaaGreatDoor
open Go.Abs Go.Gr
noncomputable def laid2 {H : Type} : List (String × DataW H) := [("unicode.White_Space", Rows.laid_unicode_White_Space), ("strings.asciiSpace", Rows.laid_strings_asciiSpace)]
noncomputable def doorW (os:Os):World:=World.doorLaid Tryz.prog 40 os
theorem door_met(os:Os)(args:Array Value):laidMetH Tryz.prog laid2 ((doorW os).forCall (fun _ _=>0) ⟨#[],args,[]⟩).memory:=
 laidMetH_of_parts3 (fuel:=8) (laidMet_of_run' 8 (by kernel_rfl) (by kernel_rfl)) (by kernel_rfl) (by kernel_rfl)
def emptySl:Value:=.slice none 0 0
theorem zFv:∀c,c<256->spN c=if Lib.isSp (UInt8.ofNat c)then 1 else 0:=by decide+kernel
set_option maxRecDepth 100000 in
theorem gnd_of(w:World)(h:laidMetH Tryz.prog laid2 w):Gnd Tryz.prog fun B=>w.heap[B]?:=by
 have h1:laidMet Tryz.prog laid2 w:=by
  have e:((laid2 (H:=Unit)).filter fun x=>x.2.handleName?.isSome)=[]:=by kernel_rfl
  unfold laidMetH at h
  rw[e]at h
  exact h
 have h2 : laidMet Tryz.prog (("strings.asciiSpace", Lib.tabData .u8 Lib.asciiSpaceTab) :: []) w := laidMet.tail h1
 have h3:=Lib.tabIs_of_head (g:=1) (t:=274) (e:=5) (n:=256) (by kernel_rfl) (by kernel_rfl) (by kernel_rfl) (by kernel_rfl) (by kernel_rfl) (by kernel_rfl) h2
 intro g hg
 have hv:=h3
 unfold Lib.TabIs World.var? at hv
 rw[hg]at hv
 simp only[Option.bind_some]at hv
 cases ho:w.heap[g]? with
 |none=>rw[ho]at hv;cases hv
 | some o=>
  refine⟨o,ho,fun w' hw' c hc=>?_⟩
  have h4 : Lib.TabIs Tryz.prog w' "strings.asciiSpace" .u8 Lib.asciiSpaceTab := by
   unfold Lib.TabIs World.var?
   rw[hg]
   simp only[Option.bind_some]
   rw[ho]at hv
   rw[hw']
   exact hv
  rw[h4.cell hg c (by rw[Lib.asciiSpaceTab_length];exact hc),Lib.asciiSpaceTab_at c hc,zFv c hc]
end Go.Proofs.YtlfjlokfciejnaaGreatDoor
