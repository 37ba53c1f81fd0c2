/- Texts of ours, joined and written short by a program of ours. -/
import Derived.Test.YtlfjlokfciejnaaGreatDoorFJ09
import Derived.Test.YtlfjlokfciejnaaGreatDoorFJ08
set_option maxRecDepth 20000
set_option maxHeartbeats 4000000
set_option linter.unusedVariables false
set_option linter.unusedSimpArgs false
namespace Go.Gr
open Go.Abs Go.Proofs List
theorem gU.erdV{P:Program}{f:FuncId}{args:List DV}{v v':DV}(h:gU P f args v)(e:v.erd=v'):gU P f args v':=by
 subst e;refine⟨h.1,λph w us hp hG r=>(h.2 ph w us hp hG r).mono λe w' q=>?_⟩;obtain⟨vC,h',q1,q2,q3,q4,q5,q6,q7,q8⟩:=q;exact⟨vC,h',q1,q2,q3,q4,q5,q6,q7,kL.erd q8⟩
@[simp] theorem ic.enc_length(p:ic):p.enc.length=6:=by simp[ic.enc]
@[simp] theorem ic.enc_0(p:ic):p.enc[0]?=some (.int .i64 p.tag):=rfl
@[simp] theorem ic.enc_g0(p:ic)(h:0<p.enc.length):p.enc[0]=.int .i64 p.tag:=rfl
@[simp] theorem ic.cut_t(p:ic):cut p.enc 2 4=p.t.enc:=by unfold ic.enc;rw[gT.enc_eq];try rfl
@[simp] theorem ic.cut_tM(p:ic):cut (p.enc.map AC.d) 2 4=p.t.enc.map .d:=by unfold ic.enc;rw[gT.enc_eq];try rfl
@[simp] theorem ic.er_map(p:ic):p.enc.map D.er=p.enc:=by unfold ic.enc;rw[gT.enc_eq];try rfl
theorem zGw(a b c d e f:AC)(T:gT):splice [a,b,c,d,e,f] 2 (T.enc.map AC.d)=a::b::T.enc.map .d:=by rw[T.enc_eq];try rfl
theorem zJv(a b:AC)(T:gT):cut (a::b::T.enc.map AC.d) 0 6=a::b::T.enc.map .d:=by rw[T.enc_eq];try rfl
attribute [simp] zGw zJv
@[simp] theorem ic.enc_4(p:ic):p.enc[4]?=some (.sl false 1 (encS p.t.names)):=by unfold ic.enc;rw[gT.enc_eq];try rfl
@[simp] theorem ic.enc_5(p:ic):p.enc[5]?=some (.sl false 4 (p.t.kids.map gT.enc)):=by unfold ic.enc;rw[gT.enc_eq];try rfl
@[simp] theorem ic.enc_g4(p:ic)(h:4<p.enc.length):p.enc[4]=.sl false 1 (encS p.t.names):=by have:=p.enc_4;rw[aA h]at this;exact bN this
@[simp] theorem ic.enc_g5(p:ic)(h:5<p.enc.length):p.enc[5]=.sl false 4 (p.t.kids.map gT.enc):=by have:=p.enc_5;rw[aA h]at this;exact bN this
theorem nY{α β:Type}(f:α->β)(v:List α):take v.length (v.map f)=v.map f:=aG (by rw[aU];exact aM _)
theorem yt(l:List ic)(tag:Int):gU Pg 132 [.one (.sl false 6 (l.map ic.enc)),.one (.int .i64 tag)] (.tup [.agg (jy l tag).1.enc,.one (.bool (jy l tag).2)]):=by
 refine zkR (by simp) λo c hN hp=>?_;have hl:l.length<=zah:=by have:=o.1;simp only[DV.ok,D.ok,aU]at this;exact this.1
 unfold zah at hl;obtain⟨R,hR⟩:∃R,jy l tag=R:=⟨_,rfl⟩
 rw[hR];unfold jy at hR;unfold Tw;simp;refine fO gy hp (λj:Nat=>j<=l.length/\(l.drop j).find? (λp=>decide (p.tag=tag))=l.find? λp=>decide (p.tag=tag)) (λj=>[(6,.c (.d (.int .i64 j))),(4,.c (.ptr 0 0)),(1,.c (.d (.int .i64 tag))),(0,.c (.d (.sl false 6 (l.map ic.enc))))]) (λ_=>[.box [.d (.int .i64 0),.d (.bool false),.d (.int .i64 0),.d (.str (bs [])),.d (.sl true 1 []),.d (.sl true 4 [])]]) (λj=>l.length-j) 0 [0] ⟨by simp,by simp⟩ (by simp) λj ⟨h1,h2⟩=>?_;unfold Tv;simp;apply gM<;>intro h
 ·have hj:j<l.length:=by simpa using h
  rw[aD hj,find?_cons]at h2;obtain⟨x,hx⟩:∃x,l[j]=x:=⟨_,rfl⟩
  rw[hx]at h2;by_cases q:x.tag=tag
  ·simp[q]at h2;rw[<-h2]at hR;subst hR;simp[hj,hx,q]
  ·simp[q]at h2;simp[hj,hx,q];refine fF (j+1) [0] ⟨by omega,by simpa using h2⟩ (by omega) ?_;simp;exact wI
 ·have hj:j=l.length:=by simp at h;omega
  subst hj;rw[aO,find?_nil]at h2;rw[<-h2]at hR;subst hR;simp;rfl
theorem Uh(t:gT)(s:fE)(hn:t.names.length<=t.kids.length):gU Pg 133 [.agg t.enc,.one (.str s)] (.tup [.agg (kH t s).1.enc,.one (.bool (kH t s).2)]):=by
 refine zj0 (by simp) λo c hN hp=>?_;have hf:=BO o.1;unfold zah at hf;obtain⟨R,hR⟩:∃R,kH t s=R:=⟨_,rfl⟩
 rw[hR];unfold kH at hR;unfold Tz;simp;refine fO gy hp (λj:Nat=>j<=t.names.length/\nX (t.names.drop j) (t.kids.drop j) s=R) (λj=>[(6,.c (.d (.int .i64 j))),(4,.c (.ptr 0 0)),(2,.c (.d (.rp t.enc 0))),(1,.c (.d (.str s)))]) (λ_=>[tX]) (λj=>t.names.length-j) 0 [0] ⟨by simp,by simpa using hR⟩ (by simp) λj ⟨h1,h2⟩=>?_;unfold Tx;simp;apply gM<;>intro h
 ·have hj:j<t.names.length:=by simpa using h
  have hj2:j<t.kids.length:=by omega
  rw[aD hj,aD hj2,nX]at h2;by_cases q:t.names[j]=s
  ·rw[aC q]at h2;subst h2;simp[hj,hj2,q]
  ·rw[aB q]at h2;simp[hj,hj2,q];refine fF (j+1) [0] ⟨by omega,h2⟩ (by omega) ?_;simp;exact wI
 ·have hj:j=t.names.length:=by simp at h;omega
  subst hj;rw[aO,nX]at h2
  ·subst h2;simp[nJ]
  ·intros;contradiction
def lX(k:Int):List D:=[.int .i64 k,.str (bs []),.sl true 1 [],.sl true 4 []]
def nO:List (List D):=[
.int .i64 0::.bool false::lX 1,.int .i64 1::.bool false::lX 2,.int .i64 2::.bool false::lX 3,.int .i64 3::.bool false::lX 4,
.int .i64 4::.bool true::lX 5,[.int .i64 5,.bool false,.int .i64 6,.str (bs []),.sl true 1 [],.sl true 4 [lX 0,lX 0]]]
abbrev FO(es:List (List D)):Blk:=.arr 6 (es.map (·.map .d))
theorem zlJ(t:gT)(h0:t.kind=0):gU Pg 111 [.agg t.enc] (.one (.sl false 6 nO)):=by
 refine Tu (by simp) λo c hN hp=>?_;unfold Lr;simp[h0];refine fU [.t 3] ?_;simp;refine fO gy hp (λj:Nat=>j<=6) (λj=>[(4,.c (.d (.int .i64 j))),(3,.c (.msl 6 0 0 j))]) (λj=>[FO (nO.take j)]) (λj=>6-j) 0 [0] (by simp) (by simp[nO]) λj h1=>?_;unfold Tq;have w1:IntKind.i64.wrap 1=1:=by decide
 have w2:IntKind.i64.wrap 2=2:=by decide
 have w3:IntKind.i64.wrap 3=3:=by decide
 have w4:IntKind.i64.wrap 4=4:=by decide
 have w5:IntKind.i64.wrap 5=5:=by decide
 have w6:IntKind.i64.wrap 6=6:=by decide
 have hc:j=0\/j=1\/j=2\/j=3\/j=4\/j=5\/j=6:=by omega
 rcases hc with rfl|rfl|rfl|rfl|rfl|rfl|rfl
 ·simp[nO,lX,w1,w2,w3,w4,w5,w6];refine fF 1 [2] (by omega) (by omega) ?_;simp[nO,lX,w1,w2,w3,w4,w5,w6]
 ·simp[nO,lX,w1,w2,w3,w4,w5,w6];refine fF 2 [2] (by omega) (by omega) ?_;simp[nO,lX,w1,w2,w3,w4,w5,w6]
 ·simp[nO,lX,w1,w2,w3,w4,w5,w6];refine fF 3 [2] (by omega) (by omega) ?_;simp[nO,lX,w1,w2,w3,w4,w5,w6]
 ·simp[nO,lX,w1,w2,w3,w4,w5,w6];refine fF 4 [2] (by omega) (by omega) ?_;simp[nO,lX,w1,w2,w3,w4,w5,w6]
 ·simp[nO,lX,w1,w2,w3,w4,w5,w6];refine fF 5 [2] (by omega) (by omega) ?_;simp[nO,lX,w1,w2,w3,w4,w5,w6]
 ·simp[nO,lX,w1,w2,w3,w4,w5,w6];refine fF 6 [2] (by omega) (by omega) ?_;simp[nO,lX,w1,w2,w3,w4,w5,w6]
 ·simp[nO,lX]
theorem FQ(t:gT)(hk:t.kids.length<=1000):gU Pg 111 [.agg t.enc] (.one (.sl false 6 ((kW t).map ic.enc))):=by
 by_cases h0:t.kind=0
 ·refine gU.erdV (zlJ t h0) ?_;unfold kW;rw[aC h0];try rfl
 refine Tu (by simp) λo c hN hp=>?_;have hf:=BO o.1;unfold zah at hf;obtain⟨R,hR⟩:∃R,kW t=R:=⟨_,rfl⟩
 rw[hR];unfold kW at hR;rw[aB h0]at hR;unfold Lr;by_cases h7:t.kind=7;rotate_left
 ·rw[aC h7]at hR;subst hR;simp[h0,h7];refine gQ (Ce t) ?_;simp[ic.enc];decide
 rw[aB (λz=>z h7)]at hR;simp[h0,h7];refine fU [.t 3] ?_;simp;subst hR;refine fO gy hp (λj:Nat=>j<=t.kids.length) (λj=>[(6,.c (.d (.int .i64 j))),(3,.c (.msl 6 0 0 j)),(1,.c (.d (.rp t.enc 0)))]) (λj=>[FO (((t.kids.take j).map λk=>(⟨iH k,false,k⟩:ic)).map ic.enc)]) (λj=>t.kids.length-j) 0 [0] (by simp) (by simp) λj h1=>?_;unfold Tt;simp;apply gM<;>intro h
 ·have hj:j<t.kids.length:=by simpa using h
  obtain⟨x,hx⟩:∃x,t.kids[j]=x:=⟨_,rfl⟩
  simp[hj,hx];refine gQ (Ce x) ?_;have hmn:min j t.kids.length=j:=by omega
  simp[ic.enc,hj,hx,hmn];refine⟨by omega,by decide,?_⟩;refine fF (j+1) [1] (by omega) (by omega) ?_;rw[aJ hj,hx];simp[ic.enc,hmn];refine⟨wI,by rw[take_take,eB],λx hx=>?_⟩;obtain⟨y,_,rfl⟩:=ae.1 (bY hx);simp
 ·have hj:j=t.kids.length:=by simp at h;omega
  subst hj;simp[nY];try trace_state
theorem BQ:∀{l:List gT} {x:gT},x∈l->jE x<=ja l
|t::l,x,h=>by
 rw[ja];rcases aN.1 h with rfl|h
 ·omega
 ·have:=BQ h;omega
theorem wP{t x:gT}(h:x∈t.kids):jE x<jE t:=by
 cases t with
 |mk k n s l=>rw[jE];have:=BQ (l:=l) h;omega
theorem I8:∀(ns:List fE) (ks:List gT) (s:fE),(nX ns ks s).2=true->(nX ns ks s).1∈ks
|[],ks,s,h=>by rw[nX]at h;cases h;all_goals (intros;contradiction)
|_::_,[],s,h=>by rw[nX]at h;cases h;all_goals (intros;contradiction)
| n::ns,k::ks,s,h=>by
 rw[nX]at h⊢;by_cases q:n=s
 ·rw[aC q];simp
 ·rw[aB q]at h⊢;exact mem_cons_of_mem _ (I8 ns ks s h)
theorem M6{t:gT}(h:jD t):t.names.length<=t.kids.length:=by
 rcases((ll t).1 h).2.2 with⟨_,_,q,_⟩|⟨_,q,_⟩|⟨_,q,_⟩|⟨_,q,_⟩
 ·rw[q];simp
 ·omega
 ·rw[q];simp
 ·rw[q];simp
theorem xy{t x:gT}(h:jD t)(hx:x∈t.kids):jD x:=((ll t).1 h).2.1 x hx
theorem Dx{t:gT}(h:jD t)(hk:t.kind=6):t.kids.length=2:=by
 rcases((ll t).1 h).2.2 with⟨_,q,_⟩|⟨q,_⟩|⟨_,_,q⟩|⟨q,_⟩
 ·omega
 ·omega
 ·exact q
 ·omega
theorem FR{t:gT}(h:iH t=5):t.kind=6:=by
 unfold iH at h;split at h
 ·omega
 ·omega
theorem FT{t:gT}(h:jD t)(h0:t.kind≠0){p:ic}(hp:p∈kW t):jD p.t/\p.tag=iH p.t/\(∀x,x∈p.t.kids->jE x<jE t)/\p.opn=false:=by
 unfold kW at hp;rw[aB h0]at hp;split at hp
 ·simp at hp;subst hp;exact⟨h,rfl,λx hx=>wP hx,rfl⟩
 ·obtain⟨k,hk,rfl⟩:=ae.1 hp;exact⟨xy h hk,rfl,λx hx=>Nat.lt_trans (wP hx) (wP hk),rfl⟩
theorem Dy{l:List ic}{tag:Int}(h:(jy l tag).2=true):(jy l tag).1∈l/\(jy l tag).1.tag=tag:=by
 unfold jy at h⊢;cases e:l.find? λp=>decide (p.tag=tag)with
 |none=>rw[e]at h;cases h
 |some p=>
  have h1:=eU e;have h2:=find?_some e;exact⟨h1,by simpa using h2⟩
abbrev Cj(lo:Bool)(L R:List ic)(i:Nat):List (Nat × AV):=[(9,.c (.d (.int .i64 i))),(8,.c (.d (.sl false 6 (R.map ic.enc)))),(7,.c (.d (.sl false 6 (L.map ic.enc)))),(2,.c (.d (.bool lo)))]
abbrev FU(lo:Bool)(rc:gT->gT->Bool)(a b:gT):Prop:=gU Pg 80 [.agg a.enc,.agg b.enc,.one (.bool lo)] (.one (.bool (rc a b)))
theorem zEW{c:Ctx}(hp:c.pure)(lo:Bool)(L R:List ic)(i:Nat)(q:ic)(m:gT)(rc:gT->gT->Bool)(hm:jD m)(hq:jD q.t)(hl:q.t.names.length<=1000)(ih:∀x,x∈m.kids->∀y,y∈q.t.kids->FU lo rc x y){Q:Exit->St->Prop}{S:St}{g}{ms:List Nat}
  (h0:iM ms S ((13,.c (.d (.int .i64 0)))::(12,.c (.ptr 1 0))::(10,.c (.ptr 0 0))::Cj lo L R i) [.box (q.enc.map .d),.box (m.enc.map .d)])
  (hN:AF rc m q.t.names q.t.kids=false->∀T M n,Abs.look T 6=.c (.d (.bool false))->Q .ret ⟨T,M,n⟩)
  (hQ:AF rc m q.t.names q.t.kids=true->∀T,Abs.look T 12=.c (.ptr 1 0)->Abs.look T 10=.c (.ptr 0 0)->Abs.look T 9=.c (.d (.int .i64 i))->Abs.look T 8=.c (.d (.sl false 6 (R.map ic.enc)))->Abs.look T 7=.c (.d (.sl false 6 (L.map ic.enc)))->Abs.look T 2=.c (.d (.bool lo))->Q (.exit 2) ⟨T,hpOf [.box (q.enc.map .d),.box (m.enc.map .d)],2⟩):mW Pg c Ls Q g S:=by
 have hnk:=M6 hq;obtain⟨F0,hF⟩:∃F0,AF rc m q.t.names q.t.kids=F0:=⟨_,rfl⟩
 rw[hF]at hN hQ;refine fO gy hp (λj:Nat=>j<=q.t.names.length/\AF rc m (q.t.names.drop j) (q.t.kids.drop j)=F0) (λj=>(13,.c (.d (.int .i64 j)))::(12,.c (.ptr 1 0))::(10,.c (.ptr 0 0))::Cj lo L R i) (λ_=>[.box (q.enc.map .d),.box (m.enc.map .d)]) (λj=>q.t.names.length-j) 0 ms ⟨by simp,by simpa using hF⟩ h0 λj ⟨h1,h2⟩=>?_;unfold Ls;simp;apply gM<;>intro h
 ·have hj:j<q.t.names.length:=by simpa using h
  have hj2:j<q.t.kids.length:=by omega
  rw[aD hj,aD hj2,AF]at h2;have hfm:=I8 m.names m.kids q.t.names[j];have hff:nX m.names m.kids q.t.names[j]=kH m q.t.names[j]:=rfl;rw[hff]at hfm;simp[hj,hj2];refine gQ (Uh m _ (M6 hm)) ?_;generalize kH m q.t.names[j]=f at*
  by_cases hf:f.2=true
  ·have hix:=ih _ (hfm hf) _ (aR hj2);simp only[hf,Bool.true_and]at h2;simp[hf,hj,hj2];refine⟨by decide,?_⟩;refine gQ hix ?_;generalize rc f.1 q.t.kids[j]=z at*
   cases z with
   |true=>
    simp only[Bool.true_and]at h2;simp;refine⟨by decide,?_⟩;refine fF (j+1) [0,1] ⟨by omega,h2⟩ (by omega) ?_;simp;exact wI
   |false=>
    simp only[Bool.false_and]at h2;simp;exact⟨by decide,hN h2.symm _ _ _ (by simp)⟩
  ·simp only[hf,Bool.false_and]at h2;simp[hf,hj,hj2];exact⟨by decide,by decide,hN h2.symm _ _ _ (by simp)⟩
 ·have hj:j=q.t.names.length:=by simp at h;omega
  subst hj;rw[aO,AF]at h2
  ·exact hQ h2.symm _ (by simp) (by simp) (by simp) (by simp) (by simp) (by simp)
  ·intros;contradiction
theorem zS(t:gT):1<=jE t:=by cases t;rw[jE];omega
theorem BR{t:gT}(h:jD t):t.names.length<=16:=by
 rcases((ll t).1 h).2.2 with⟨_,_,q,_⟩|⟨_,_,q,_⟩|⟨_,q,_⟩|⟨_,q,_⟩
 ·rw[q];simp
 ·omega
 ·rw[q];simp
 ·rw[q];simp
theorem A7{t:gT}(h:jD t):t.kids.length<=16:=by
 rcases((ll t).1 h).2.2 with⟨_,_,_,q⟩|⟨_,q,r,_⟩|⟨_,_,q⟩|⟨_,_,q,_⟩
 ·rw[q];simp
 ·omega
 ·omega
 ·omega
theorem zh8(t:gT):(kW t).length<=6+t.kids.length:=by
 unfold kW;split
 ·simp
 split
 ·simp;omega
 ·simp
theorem I9{t:gT}(h:t.kids.length=2):jY t∈t.kids/\t.kids[0]?=some (jY t):=by
 unfold jY
 match t.kids,h with
 |[a,b],_=>simp
theorem FV{t:gT}(h:t.kids.length=2):jZ t∈t.kids/\t.kids[1]?=some (jZ t):=by
 unfold jZ
 match t.kids,h with
 |[a,b],_=>simp
theorem Ia(lo:Bool):∀(n:Nat) (a b:gT),jD a->jD b->jE a+jE b<=n->FU lo (vM lo n) a b
|0,a,b,_,_,h=>by have:=zS a;omega
| n + 1,a,b,wa,wb,hn=>by
 refine zBY (by simp) λo c hN hp=>?_;obtain⟨F0,hF⟩:∃F0,vM lo (n+1) a b=F0:=⟨_,rfl⟩
 rw[hF];rw[vM]at hF;unfold UB;by_cases a0:a.kind=0
 ·rw[aC (.inl a0)]at hF;cases lo with
  |true=>
   simp at hF;simp[a0,hF]
  |false=>
   simp[a0]at hF;simp[a0,hF]
 by_cases b0:b.kind=0
 ·rw[aC (.inr b0)]at hF;cases lo with
  |true=>
   simp at hF;simp[a0,b0,hF]
  |false=>
   rw[<-hF];simp[a0,b0]
 rw[aB (by omega)]at hF;have hpa:=λp hp=>FT (p:=p) wa a0 hp;have hpb:=λp hp=>FT (p:=p) wb b0 hp;simp[a0,b0];refine gQ (FQ a (by have:=A7 wa;omega)) ?_;simp;refine gQ (FQ b (by have:=A7 wb;omega)) ?_;have hL:(kW a).length<=1000:=by have:=A7 wa;have:=zh8 a;omega
 generalize kW a=L at*
 generalize kW b=R at*
 simp;refine fO gy hp (λi:Nat=>i<=L.length/\((L.drop i).all λp=>(jy R p.tag).2&&(AF (vM lo n) p.t (jy R p.tag).1.t.names (jy R p.tag).1.t.kids&&(!decide ((jy R p.tag).1.tag=5)||(vM lo n (jY (jy R p.tag).1.t) (jY p.t)&&vM lo n (jZ p.t) (jZ (jy R p.tag).1.t)))))=F0) (λi=>Cj lo L R i) (λ_=>[]) (λi=>L.length-i) 0 [] ⟨by simp,by simpa using hF⟩ (by simp) λi ⟨i1,i2⟩=>?_;unfold UA;simp;apply gM<;>intro h
 ·have hi:i<L.length:=by simpa using h
  rw[aD hi,all_cons]at i2;obtain⟨p,hx⟩:∃p,L[i]=p:=⟨_,rfl⟩
  have hpm:=hpa p (by rw[<-hx];exact aR hi);rw[hx]at i2;simp[hi,hx];refine gQ (yt R p.tag) ?_;have hq:=λh=>Dy (l:=R) (tag:=p.tag) h;generalize jy R p.tag=q at*
  by_cases q2:q.2=true;rotate_left
  ·simp only[q2,Bool.false_and]at i2;simp[q2];simpa using i2
  obtain⟨qm,qt⟩:=hq q2;have hqm:=hpb q.1 qm;simp only[q2,Bool.true_and]at i2;simp[q2,hi,hx];refine zEW hp lo L R i q.1 p.t (vM lo n) hpm.1 hqm.1 (by have:=BR hqm.1;omega) (λx hx y hy=>Ia lo n x y (xy hpm.1 hx) (xy hqm.1 hy) (by have:=hpm.2.2.1 x hx;have:=hqm.2.2.1 y hy;omega)) (ms:=[0,1]) (by simp) (λhf T M n' t6=>?_) (λhf T t12 t10 t9 t8 t7 t2=>?_)
  ·rw[hf]at i2;simp only[Bool.false_and]at i2;simp[t6,i2]
  ·rw [hf]at i2;simp only[Bool.true_and]at i2;by_cases g5:q.1.tag=5
   ·have hk1:=Dx hqm.1 (FR (by rw[<-hqm.2.1];exact g5));have hk2:=Dx hpm.1 (FR (by rw[<-hpm.2.1,<-qt];exact g5));have m0:=I9 hk1;have m1:=FV hk1;have n0:=I9 hk2;have n1:=FV hk2;have e1:gU Pg 80 [.agg (jY q.1.t).enc,.agg (jY p.t).enc,.one (.bool lo)] (.one (.bool (vM lo n (jY q.1.t) (jY p.t)))):=Ia lo n (jY q.1.t) (jY p.t) (xy hqm.1 m0.1) (xy hpm.1 n0.1) (by have:=hpm.2.2.1 _ n0.1;have:=hqm.2.2.1 _ m0.1;omega);have e2:gU Pg 80 [.agg (jZ p.t).enc,.agg (jZ q.1.t).enc,.one (.bool lo)] (.one (.bool (vM lo n (jZ p.t) (jZ q.1.t)))):=Ia lo n (jZ p.t) (jZ q.1.t) (xy hpm.1 n1.1) (xy hqm.1 m1.1) (by have:=hpm.2.2.1 _ n1.1;have:=hqm.2.2.1 _ m1.1;omega);simp only[g5,decide_true,Bool.not_true,eQ]at i2;generalize vM lo n (jY q.1.t) (jY p.t)=z1 at*
    generalize vM lo n (jZ p.t) (jZ q.1.t)=z2 at*
    simp[t10,t12,t2,g5,m0.2,n0.2];refine gQ e1 ?_;cases z1 with
    |false=>
     simp only[Bool.false_and]at i2;simp;exact⟨by decide,i2.symm⟩
    | true=>
     simp only[Bool.true_and]at i2;simp[t10,t12,t2,m1.2,n1.2,t9];refine gQ e2 ?_;cases z2 with
     |false=>
      simp only[Bool.false_and]at i2;simp;exact⟨by decide,i2.symm⟩
     |true=>
      simp only[Bool.true_and]at i2;simp[t9];refine⟨by decide,?_⟩;refine fF (i+1) [] ⟨by omega,i2⟩ (by omega) ?_;simp[t9,t8,t7,t2];exact wI
   ·simp only[g5,decide_false,Bool.not_false,fC,Bool.true_and]at i2;simp[t10,t12,t2,g5,t9];refine⟨by decide,?_⟩;refine fF (i+1) [] ⟨by omega,i2⟩ (by omega) ?_;simp[t9,t8,t7,t2];exact wI
 ·have hi:i=L.length:=by simp at h;omega
  subst hi;rw[aO,all_nil]at i2;simp[i2]
theorem Ib(lo:Bool)(a b:gT)(wa:jD a)(wb:jD b):FU lo (qV lo) a b:=Ia lo (jE a+jE b) a b wa wb (aM _)
theorem FW(a b:gT):gU Pg 92 [.agg a.enc,.agg b.enc] (.one (.bool (pE a b))):=by
 refine zEG (by simp) λo c hN hp=>?_;unfold UC pE;have H:iC a=true->iC b=true->FU false (qV false) a b:=λh k=>Ib false a b (zR h) (zR k);simp;refine gQ (AX a) ?_;simp;refine gQ (AX b) ?_;generalize iC a=x at*
 generalize iC b=y at*
 cases x<;>cases y<;>simp;refine gQ (H rfl rfl) ?_;simp
theorem Ui(a b:gT):gU Pg 55 [.agg a.enc,.agg b.enc] (.one (.bool (AJ a b))):=by
 refine zDn (by simp) λo c hN hp=>?_;unfold UD AJ;have H:iC a=true->iC b=true->FU true (qV true) a b:=λh k=>Ib true a b (zR h) (zR k);simp;refine gQ (AX a) ?_;simp;refine gQ (AX b) ?_;generalize iC a=x at*
 generalize iC b=y at*
 cases x<;>cases y<;>simp;refine gQ (H rfl rfl) ?_;simp
abbrev M7(a b:gT)(i:Nat):List (Nat × AV):=[(9,.c (.d (.int .i64 i))),(8,.c (.ptr 2 0)),(7,.c (.ptr 1 0)),(4,.c (.ptr 0 0)),(3,.c (.d (.rp b.enc 0))),(2,.c (.d (.rp a.enc 0)))]
abbrev M8(ks:List gT):List Blk:=[tX,tX,.box [.d (.int .i64 7),.d (.str (bs [])),.d (.sl true 1 []),.msl 4 3 0 ks.length],oD ks]
theorem zHL(a b:gT):gU Pg 139 [.agg a.enc,.agg b.enc] (.agg (yX a b).enc):=by
 refine zDo (by simp) λo c hN hp=>?_;obtain⟨R,hR⟩:∃R,yX a b=R:=⟨_,rfl⟩
 rw[hR];unfold yX at hR;unfold UF;simp;refine gQ (FW a b) ?_;by_cases s1:pE a b=true
 ·rw[aC s1]at hR;subst hR;simp[s1]
 rw[aB s1]at hR;simp[s1];refine gQ (FW b a) ?_;by_cases s2:pE b a=true
 ·rw[aC s2]at hR;subst hR;simp[s2]
 rw[aB s2]at hR;simp[s2];refine gQ (AX a) ?_;simp;refine gQ (AX b) ?_;by_cases na:iC a=true;rotate_left
 ·rw[aC (.inl (by simpa using na))]at hR;subst hR;simp[na,nJ]
 by_cases nb:iC b=true;rotate_left
 ·rw[aC (.inr (.inl (by simpa using nb)))]at hR;subst hR;simp[na,nb,nJ]
 by_cases a0:a.kind=0
 ·rw[aC (.inr (.inr (.inl a0)))]at hR;subst hR;simp[na,nb,a0,nJ]
 by_cases b0:b.kind=0
 ·rw[aC (.inr (.inr (.inr b0)))]at hR;subst hR;simp[na,nb,a0,b0,nJ]
 rw[aB (by simp[na,nb,a0,b0])]at hR;have wa:=zR na;have wb:=zR nb;simp[na,nb,a0,b0];refine fU [.c 2 3] ?_;simp;obtain⟨F0,hF⟩:∃F0,zL a b [0,1,2,3,4,5] []=F0:=⟨_,rfl⟩
 rw[hF]at hR;refine fO gy hp (λx:Nat × List gT=>x.1<=6/\x.2.length<=x.1/\zL a b (BP x.1) x.2=F0) (λx=>M7 a b x.1) (λx=>M8 x.2) (λx=>6-x.1) (0,[]) [0,1,2,3] ⟨by simp,by simp,hF⟩ (by simp) λ⟨t,ks⟩ ⟨i1,i2,i3⟩=>?_;unfold UE;simp only at i1 i2 i3;simp;apply gM<;>intro h
 ·have ht:t<6:=by simp at h;omega
  rw[U7 ht,zL]at i3;refine gQ (FQ a (by have:=A7 wa;omega)) ?_;simp;refine gQ (yt _ _) ?_;simp;refine gQ (FQ b (by have:=A7 wb;omega)) ?_;simp;refine gQ (yt _ _) ?_;have hm:=λh=>FT (p:=(jy (kW a) t).1) wa a0 (Dy h).1;have hn:=λh=>FT (p:=(jy (kW b) t).1) wb b0 (Dy h).1;generalize jy (kW a) t=m at*
  generalize jy (kW b) t=n at*
  have hw:=wI (n:=(t:Int)+1);by_cases m2:m.2=true
  ·by_cases n2:n.2=true
   ·rw[aC ⟨m2,n2⟩]at i3;have e1:gU Pg 80 [.agg m.1.t.enc,.agg n.1.t.enc,.one (.bool false)] (.one (.bool (qV false m.1.t n.1.t))):=Ib false _ _ (hm m2).1 (hn n2).1;have e2:gU Pg 80 [.agg n.1.t.enc,.agg m.1.t.enc,.one (.bool false)] (.one (.bool (qV false n.1.t m.1.t))):=Ib false _ _ (hn n2).1 (hm m2).1;simp[m2,n2];refine gQ e1 ?_;by_cases z1:qV false m.1.t n.1.t=true
    ·rw[aC z1]at i3;simp[z1];refine⟨by omega,?_⟩;refine fF (t+1,ks++[n.1.t]) [0,1,2,6] ⟨by simp only;omega,by simp;omega,i3⟩ (by simp only;omega) ?_;simp[hw];exact vR ks
    rw[aB z1]at i3;simp[z1,m2,n2];refine gQ e2 ?_;by_cases z2:qV false n.1.t m.1.t=true
    ·rw[aC z2]at i3;simp[z2];refine⟨by omega,?_⟩;refine fF (t+1,ks++[m.1.t]) [0,1,2,6] ⟨by simp only;omega,by simp;omega,i3⟩ (by simp only;omega) ?_;simp[hw];exact vR ks
    rw[aB z2]at i3;rw[<-i3]at hR;simp only at hR;subst hR;simp[z2,m2,n2,nJ]
   ·rw[aB (λz=>n2 z.2),aC m2]at i3;simp[m2,n2];refine⟨by omega,?_⟩;refine fF (t+1,ks++[m.1.t]) [0,1,2,6] ⟨by simp only;omega,by simp;omega,i3⟩ (by simp only;omega) ?_;simp[hw];exact vR ks
  ·rw[aB (λz=>m2 z.1),aB m2]at i3;by_cases n2:n.2=true
   ·rw[aC n2]at i3;simp[m2,n2];refine⟨by omega,?_⟩;refine fF (t+1,ks++[n.1.t]) [0,1,2,6] ⟨by simp only;omega,by simp;omega,i3⟩ (by simp only;omega) ?_;simp[hw];exact vR ks
   ·rw[aB n2]at i3;simp[m2,n2];refine fF (t+1,ks) [0,1,2,3] ⟨by simp only;omega,by simp only;omega,i3⟩ (by simp only;omega) ?_;simp[hw]
 ·have ht:t=6:=by simp at h;omega
  subst ht;rw[show BP 6=[]from rfl,zL]at i3;rw[<-i3]at hR;simp only at hR;have hNm:gU Pg 76 [.agg [.int .i64 7,.str (bs []),.sl true 1 [],.sl false 4 (ks.map gT.enc)]] (.tup [.agg (mE (.mk 7 (bs []) [] ks)).1.enc,.one (.int .i64 (mE (.mk 7 (bs []) [] ks)).2)]):=gU.erd (AU (.mk 7 (bs []) [] ks)) (by simp[Dw,DV.erds,DV.erd,D.erdL,D.erd]);have z:take ks.length (List.map gT.enc ks)=List.map gT.enc ks:=aG (by simp);simp;refine fT [3] ?_;simp[iV,vR,z];refine gQ hNm ?_;generalize mE (.mk 7 (bs []) [] ks)=N at*
  by_cases n0:N.2=0
  ·rw[aC n0]at hR;subst hR;simp[iV,n0]
  ·rw[aB n0]at hR;subst hR;simp[iV,n0,nJ]
abbrev M9(t:gT)(tag:Int)(i:Nat):List (Nat × AV):=[(10,.c (.d (.int .i64 i))),(9,.c (.ptr 3 0)),(7,.c (.ptr 2 0)),(5,.c (.ptr 1 0)),(4,.c (.ptr 0 0)),(2,.c (.d (.rp t.enc 0))),(1,.c (.d (.int .i64 tag)))]
abbrev Mc(p:ic)(ks:List gT):List Blk:=[tX,tX,.box (p.enc.map .d),.box [.d (.int .i64 7),.d (.str (bs [])),.d (.sl true 1 []),.msl 4 4 0 ks.length],oD ks]
theorem zEz(t:gT)(tag:Int):gU Pg 138 [.agg t.enc,.one (.int .i64 tag)] (.tup [.agg (vN t tag).1.enc,.agg (vN t tag).2.enc]):=by
 refine zAn (by simp) λo c hN hp=>?_;obtain⟨R,hR⟩:∃R,vN t tag=R:=⟨_,rfl⟩
 rw[hR];unfold vN at hR;unfold UH;simp;refine gQ (AX t) ?_;by_cases na:iC t=true;rotate_left
 ·rw[aC (.inl (by simpa using na))]at hR;subst hR;simp[na];try decide
 by_cases t1:tag<0
 ·rw[aC (.inr (.inl t1))]at hR;subst hR;simp[na,t1];try decide
 by_cases t2:6<=tag
 ·rw[aC (.inr (.inr t2))]at hR;subst hR;simp[na,t1,t2];try decide
 rw[aB (by simp[na];omega)]at hR;have wt:=zR na;by_cases k0:t.kind=0
 ·rw[aC k0]at hR;by_cases t5:tag=5
  ·rw[aC t5]at hR;subst hR;simp[na,t1,t2,k0,t5];try decide
  ·rw[aB t5]at hR;subst hR;have hw:=wI (n:=1+tag);simp[na,t1,t2,k0,t5,hw];exact⟨by decide,by rw[vT]⟩
 rw[aB k0]at hR;simp[na,t1,t2,k0];refine gQ (FQ t (by have:=A7 wt;omega)) ?_;simp;refine gQ (yt _ _) ?_;generalize jy (kW t) tag=p at*
 by_cases p2:p.2=true;rotate_left
 ·rw[aC (by simpa using p2)]at hR;subst hR;simp[p2];try decide
 rw[aB (by simp[p2])]at hR;by_cases k7:t.kind=7;rotate_left
 ·rw[aC k7]at hR;subst hR;simp[p2,k7];try decide
 rw[aB (λz=>z k7)]at hR;simp[p2,k7];refine fU [.c 3 3] ?_;simp;have hkl:=A7 wt;obtain⟨F0,hF⟩:∃F0,t.kids.filter (λk=>decide (iH k≠tag))=F0:=⟨_,rfl⟩
 rw[hF]at hR;refine fO gy hp (λx:Nat × List gT=>x.1<=t.kids.length/\x.2.length<=x.1/\x.2++(t.kids.drop x.1).filter (λk=>decide (iH k≠tag))=F0) (λx=>M9 t tag x.1) (λx=>Mc p.1 x.2) (λx=>t.kids.length-x.1) (0,[]) [0,1,2,3,4] ⟨by simp,by simp,by simpa using hF⟩ (by simp) λ⟨j,ks⟩ ⟨i1,i2,i3⟩=>?_;unfold UG;simp only at i1 i2 i3;simp;apply gM<;>intro h
 ·have hj:j<t.kids.length:=by simpa using h
  rw[aD hj,dS]at i3;obtain⟨x,hx⟩:∃x,t.kids[j]=x:=⟨_,rfl⟩
  rw[hx]at i3;have hw:=wI (n:=(j:Int)+1);simp[hj,hx];refine gQ (Ce x) ?_;by_cases q:iH x=tag
  ·rw[aB (by simp[q])]at i3;simp[q];refine fF (j+1,ks) [0,1,2,3,4] ⟨by simp only;omega,by simp only;omega,i3⟩ (by simp only;omega) ?_;simp[hw]
  ·rw[aC (by simp[q])]at i3;simp[q,hj,hx];refine⟨by omega,by decide,?_⟩;refine fF (j+1,ks++[x]) [0,1,2,3,5] ⟨by simp only;omega,by simp;omega,by simpa using i3⟩ (by simp only;omega) ?_;simp[hw];exact vR ks
 ·have hj:j=t.kids.length:=by simp at h;omega
  subst hj;rw[aO,filter_nil,bL]at i3;subst i3;have z:take ks.length (List.map gT.enc ks)=List.map gT.enc ks:=aG (by simp)
  match ks,i2,hR,z with
  |[x],i2,hR,z=>
   simp only at hR;subst hR;simp;decide
  |[],i2,hR,z=>
   simp only at hR;subst hR;simp[Dw];decide
  |x::y::l2,i2,hR,z=>
   simp only at hR;subst hR;have h1:¬((l2.length:Int)+1+1=1):=by omega
   simp[h1,Dw,nY];decide
end Go.Gr
namespace Go.Abs
theorem MCall.frzV{P:Program}{f:FuncId}{args:List AV}{bs:List Blk}{ds:List DV}{V:DV}(hp:gU P f ds V)(hd:∀(h h':PH) (v:Value),kL h V v->kL h' V v)(e:yu (hpOf bs) args=some ds)
  (h1:(bs.all λb=>b.tag !=0)=true) (h2:(bs.all λb=>b.lv (live bs))=true) (h3:V.av.lv (live bs)=true):MCall P f args bs V.av bs:=by
 refine⟨hp.1,aM _,BG h1,h3,λb hb=>ai.1 h2 b hb,λh ρ w argsC H hG r=>?_⟩;have k:=H9 (n:=0) H (λ_ _ _ _=>dL _) args ds argsC e r;refine(hp.2 (uB h 0 w.heap) w argsC (Ki H) (hG.mono (E9 H)) k).mono λe w' hh=>?_;obtain⟨vC,h',e1,e2,e3,e4,e5,e6,e7,e8⟩:=hh;have hx:∀B,B<w.heap.size->w'.heap[B]?=w.heap[B]?:=e6;have hP:∀B o,h B=some o->w'.heap[B]?=some o:=λB o he=>by
  rw[e6 B (H.lt he)];exact H.pers B o he
 exact⟨vC,h,ρ,e1,⟨λ_ _ he=>he,λB hB _=>rfl,e5,λB hB _=>e6 B hB,λb p hp hr=>.inr ⟨b,p,hp,hr,rfl⟩⟩,H.grow (λ_ _ he=>he) hP (λB hB _=>⟨e6 B hB,rfl⟩),e7,kL.av (hd _ _ _ e8),λ_ _=>rfl⟩
end Go.Abs
namespace Go.Gr
open Go.Abs Go.Proofs
@[simp] theorem iy.enc_length(e:iy):e.enc.length=3:=rfl
@[simp] theorem iy.enc_0(e:iy):e.enc[0]?=some (.str e.name):=rfl
@[simp] theorem iy.enc_1(e:iy):e.enc[1]?=some (.int .i64 e.module):=rfl
@[simp] theorem iy.enc_2(e:iy):e.enc[2]?=some (.int .i64 e.decl):=rfl
@[simp] theorem iy.enc_g0(e:iy)(h:0<e.enc.length):e.enc[0]=.str e.name:=rfl
@[simp] theorem iy.cut_enc(e:iy):cut e.enc 0 3=e.enc:=rfl
@[simp] theorem iy.cut_map(e:iy):cut (e.enc.map AC.d) 0 3=e.enc.map .d:=rfl
@[simp] theorem iy.er_map(e:iy):e.enc.map D.er=e.enc:=rfl
@[simp] theorem jP.enc_0(m:jP):m.enc[0]?=some (.sl false 4 (m.imps.map je.enc)):=rfl
@[simp] theorem jP.enc_1(m:jP):m.enc[1]?=some (.sl false 15 (m.decs.map jS.enc)):=rfl
@[simp] theorem jP.enc_g0(m:jP)(h:0<m.enc.length):m.enc[0]=.sl false 4 (m.imps.map je.enc):=rfl
@[simp] theorem jP.enc_g1(m:jP)(h:1<m.enc.length):m.enc[1]=.sl false 15 (m.decs.map jS.enc):=rfl
@[simp] theorem jS.enc_0(d:jS):d.enc[0]?=some (.str d.name):=rfl
@[simp] theorem jS.enc_1(d:jS):d.enc[1]?=some (.bool d.exp):=rfl
@[simp] theorem jS.enc_2(d:jS):d.enc[2]?=some (.sl false 5 (d.vars.map iZ)):=rfl
@[simp] theorem jS.enc_3(d:jS):d.enc[3]?=some (.str d.param):=rfl
@[simp] theorem jS.enc_4(d:jS):d.enc[4]?=some (.sl false 4 (d.types.map gT.enc)):=rfl
theorem jS.enc_13(d:jS):d.enc[13]?=some (.int .i64 d.line):=by unfold jS.enc;rw[gp.enc_eq];try rfl
theorem jS.enc_14(d:jS):d.enc[14]?=some (.int .i64 d.col):=by unfold jS.enc;rw[gp.enc_eq];try rfl
attribute [simp] jS.enc_13 jS.enc_14
@[simp] theorem jS.enc_g0(d:jS)(h:0<d.enc.length):d.enc[0]=.str d.name:=rfl
@[simp] theorem jS.enc_g1(d:jS)(h:1<d.enc.length):d.enc[1]=.bool d.exp:=rfl
@[simp] theorem jS.enc_g2(d:jS)(h:2<d.enc.length):d.enc[2]=.sl false 5 (d.vars.map iZ):=rfl
@[simp] theorem jS.enc_g13(d:jS)(h:13<d.enc.length):d.enc[13]=.int .i64 d.line:=by have:=d.enc_13;rw[aA h]at this;exact bN this
@[simp] theorem jS.enc_g14(d:jS)(h:14<d.enc.length):d.enc[14]=.int .i64 d.col:=by have:=d.enc_14;rw[aA h]at this;exact bN this
@[simp] theorem je.enc_0(x:je):x.enc[0]?=some (.str x.from_):=rfl
@[simp] theorem je.enc_1(x:je):x.enc[1]?=some (.sl false 1 (encS x.names)):=rfl
@[simp] theorem je.enc_2(x:je):x.enc[2]?=some (.int .i64 x.line):=rfl
@[simp] theorem je.enc_3(x:je):x.enc[3]?=some (.int .i64 x.col):=rfl
@[simp] theorem je.enc_g0(x:je)(h:0<x.enc.length):x.enc[0]=.str x.from_:=rfl
@[simp] theorem je.enc_g1(x:je)(h:1<x.enc.length):x.enc[1]=.sl false 1 (encS x.names):=rfl
@[simp] theorem je.enc_g2(x:je)(h:2<x.enc.length):x.enc[2]=.int .i64 x.line:=rfl
@[simp] theorem je.enc_g3(x:je)(h:3<x.enc.length):x.enc[3]=.int .i64 x.col:=rfl
@[simp] theorem je.cut_enc(x:je):cut x.enc 0 4=x.enc:=rfl
@[simp] theorem je.cut_map(x:je):cut (x.enc.map AC.d) 0 4=x.enc.map .d:=rfl
def qZ(s:List iy):List D:=[.sl false 3 (s.map iy.enc)]
theorem iN.enc_eq(l:iN):l.enc=[.sl false 1 (encS l.names),.sl false 2 (l.mods.map jP.enc),.sl false 1 (l.scopes.map qZ),.str l.main.name,.int .i64 l.main.module,.int .i64 l.main.decl]:=rfl
@[simp] theorem iN.enc_length(l:iN):l.enc.length=6:=rfl
@[simp] theorem iN.enc_0(l:iN):l.enc[0]?=some (.sl false 1 (encS l.names)):=rfl
@[simp] theorem iN.enc_1(l:iN):l.enc[1]?=some (.sl false 2 (l.mods.map jP.enc)):=rfl
@[simp] theorem iN.enc_2(l:iN):l.enc[2]?=some (.sl false 1 (l.scopes.map qZ)):=rfl
@[simp] theorem iN.enc_g0(l:iN)(h:0<l.enc.length):l.enc[0]=.sl false 1 (encS l.names):=rfl
@[simp] theorem iN.enc_g1(l:iN)(h:1<l.enc.length):l.enc[1]=.sl false 2 (l.mods.map jP.enc):=rfl
@[simp] theorem iN.enc_g2(l:iN)(h:2<l.enc.length):l.enc[2]=.sl false 1 (l.scopes.map qZ):=rfl
@[simp] theorem iN.cut_enc(l:iN):cut l.enc 0 6=l.enc:=rfl
@[simp] theorem iN.cut_map(l:iN):cut (l.enc.map AC.d) 0 6=l.enc.map .d:=rfl
@[simp] theorem iN.er_map(l:iN):l.enc.map D.er=l.enc:=rfl
theorem FX{α:Type}(q:α->Bool):∀(j:Nat) (l:List α),fi q j l= -1\/((j:Int)<=fi q j l/\fi q j l<j+l.length)
|j,[]=>.inl rfl
| j,x::l=>by
 unfold fi;split
 ·exact .inr ⟨Int.le_refl _,by simp;omega⟩
 ·rcases FX q (j+1) l with h|h
  ·exact .inl h
  ·exact .inr ⟨by omega,by simp;omega⟩
theorem FY(names:List fE)(s:fE):gU Pg 31 [.one (.sl false 1 (encS names)),.one (.str s)] (.one (.int .i64 (ji names s))):=by
 refine zAo (by simp) λo c hN hp=>?_;have hl:names.length<=zah:=by have:=o.1;simp only[DV.ok,D.ok,Di]at this;exact this.1
 unfold zah at hl;unfold UJ ji;obtain⟨R,hR⟩:∃R,fi (λn=>decide (n=s)) 0 names=R:=⟨_,rfl⟩
 rw[hR];simp;refine fO gy hp (λj:Nat=>j<=names.length/\fi (λn=>decide (n=s)) j (names.drop j)=R) (λj=>[(5,.c (.d (.int .i64 j))),(1,.c (.d (.str s))),(0,.c (.d (.sl false 1 (encS names))))]) (λ_=>[]) (λj=>names.length-j) 0 [] ⟨by simp,by simpa using hR⟩ (by simp) λj ⟨h1,h2⟩=>?_;unfold UI;simp;apply gM<;>intro h
 ·have hj:j<names.length:=by simpa using h
  rw[aD hj,fi]at h2;by_cases q:names[j]=s
  ·rw[aC (by simpa using q)]at h2;subst h2;simp[hj,q]
  ·rw[aB (by simpa using q)]at h2;simp[hj,q];refine fF (j+1) [] ⟨by omega,h2⟩ (by omega) ?_;simp;exact wI
 ·have hj:j=names.length:=by simp at h;omega
  subst hj;rw[aO,fi]at h2;subst h2;simp
theorem Uj(m:jP)(s:fE)(hm:m.decs.length<=100000):gU Pg 32 [.agg m.enc,.one (.str s)] (.one (.int .i64 (tV m s))):=by
 refine zDq (by simp) λo c hN hp=>?_;unfold UQ tV;obtain⟨R,hR⟩:∃R,fi (λd:jS=>decide (d.name=s)) 0 m.decs=R:=⟨_,rfl⟩
 rw[hR];simp;refine fO gy hp (λj:Nat=>j<=m.decs.length/\fi (λd:jS=>decide (d.name=s)) j (m.decs.drop j)=R) (λj=>[(5,.c (.d (.int .i64 j))),(2,.c (.d (.rp m.enc 0))),(1,.c (.d (.str s)))]) (λ_=>[]) (λj=>m.decs.length-j) 0 [] ⟨by simp,by simpa using hR⟩ (by simp) λj ⟨h1,h2⟩=>?_;unfold UO;simp;apply gM<;>intro h
 ·have hj:j<m.decs.length:=by simpa using h
  rw[aD hj,fi]at h2;by_cases q:m.decs[j].name=s
  ·rw[aC (by simpa using q)]at h2;subst h2;simp[hj,q]
  ·rw[aB (by simpa using q)]at h2;simp[hj,q];refine fF (j+1) [] ⟨by omega,h2⟩ (by omega) ?_;simp;exact wI
 ·have hj:j=m.decs.length:=by simp at h;omega
  subst hj;rw[aO,fi]at h2;subst h2;simp
abbrev y9(r:iy × Bool):DV:=.tup [.agg r.1.enc,.one (.bool r.2)]
theorem Uk(l:List iy)(s:fE):gU Pg 48 [.one (.sl false 3 (l.map iy.enc)),.one (.str s)] (y9 (qW l s)):=by
 refine zDp (by simp) λo c hN hp=>?_;have hl:l.length<=zah:=by have:=o.1;simp only[DV.ok,D.ok,aU]at this;exact this.1
 unfold zah at hl;obtain⟨R,hR⟩:∃R,qW l s=R:=⟨_,rfl⟩
 rw[hR];unfold UN;simp;refine fO gy hp (λj:Nat=>j<=l.length/\qW (l.drop j) s=R) (λj=>[(6,.c (.d (.int .i64 j))),(4,.c (.ptr 0 0)),(1,.c (.d (.str s))),(0,.c (.d (.sl false 3 (l.map iy.enc))))]) (λ_=>[.box [.d (.str (bs [])),.d (.int .i64 0),.d (.int .i64 0)]]) (λj=>l.length-j) 0 [0] ⟨by simp,by simpa using hR⟩ (by simp) λj ⟨h1,h2⟩=>?_;unfold UM;simp;apply gM<;>intro h
 ·have hj:j<l.length:=by simpa using h
  rw[aD hj,qW]at h2;by_cases q:l[j].name=s
  ·rw[aC q]at h2;subst h2;simp[hj,q]
  ·rw[aB q]at h2;simp[hj,q];refine fF (j+1) [0] ⟨by omega,h2⟩ (by omega) ?_;simp;exact wI
 ·have hj:j=l.length:=by simp at h;omega
  subst hj;rw[aO,qW]at h2;subst h2;simp;rfl
theorem zFG(r:iy × Bool):∀(h h':PH) (v:Value),kL h (y9 r) v->kL h' (y9 r) v:=λh h' v q=>by
 simp only[y9,kL]at q⊢;obtain⟨vs,e,r⟩:=q;refine⟨vs,e,?_⟩;rcases vs with _|⟨v1,_|⟨v2,vs⟩⟩
 ·simp[jX]at r
 ·simp[jX]at r
 ·simp only[jX]at r⊢;refine⟨?_,by simpa[kL,RepD]using r.2.1,r.2.2⟩;have r1:=r.1;simp only[kL]at r1⊢;obtain⟨us,e1,e2,e3⟩:=r1;refine⟨us,e1,e2,?_⟩;rcases us with _|⟨u1,_|⟨u2,_|⟨u3,us⟩⟩⟩
  ·simp at e2
  ·simp at e2
  ·simp at e2
  ·simpa[iy.enc,RepL,RepD]using e3
theorem Ul(l:List iy)(s:fE):MCall Pg 48 [.c (.msl 3 0 0 l.length),.c (.d (.str s))] [.arr 3 ((l.map iy.enc).map (·.map .d))] (.tup [.ag ((qW l s).1.enc.map .d),.c (.d (.bool (qW l s).2))]) [.arr 3 ((l.map iy.enc).map (·.map .d))]:=by
 have:=MCall.frzV (bs:=[.arr 3 ((l.map iy.enc).map (·.map .d))]) (args:=[.c (.msl 3 0 0 l.length),.c (.d (.str s))]) (Uk l s) (zFG _) (by simp[nY]) (by simp) (by simp) (by simp[iy.enc]);simpa[y9,DV.av,DV.avs]using this
theorem zEd(names:List fE)(s:fE):MCall Pg 31 [.c (.msl 1 0 0 names.length),.c (.d (.str s))] [.arr 1 ((encS names).map (·.map .d))] (.c (.d (.int .i64 (ji names s)))) [.arr 1 ((encS names).map (·.map .d))]:=
 MCall.frzI (FY names s) (by simp[nY,aG]) (by simp) (by simp)
theorem zIp(d:iR)(i:Int):put (d.enc.map AC.d) 0 [.d (.int .i64 i)]=(⟨i,d.line,d.col,d.e⟩:iR).enc.map .d:=rfl
def lM(s:fE × fE):List D:=[.str s.1,.str s.2]
@[simp] theorem zJg(s:fE × fE):(lM s).length=2:=rfl
@[simp] theorem zLo(s:fE × fE):(lM s)[0]?=some (.str s.1):=rfl
@[simp] theorem zLp(s:fE × fE):(lM s)[1]?=some (.str s.2):=rfl
@[simp] theorem zK8(s:fE × fE)(h:0<(lM s).length):(lM s)[0]=.str s.1:=rfl
@[simp] theorem zK9(s:fE × fE)(h:1<(lM s).length):(lM s)[1]=.str s.2:=rfl
def yc(x:List fE × List jP):iN:=⟨x.1,x.2,[],AL⟩
abbrev lkZ:Blk:=.box [.d (.sl true 1 []),.d (.sl true 2 []),.d (.sl true 1 []),.d (.str (bs [])),.d (.int .i64 0),.d (.int .i64 0)]
abbrev Md(l:List (fE × fE))(i nb:Nat):List (Nat × AV):=[(6,.c (.d (.int .i64 i))),(5,.c (.msl 4 4 0 nb)),(4,.c (.ptr 1 0)),(2,.c (.ptr 0 0)),(0,.c (.d (.sl false 2 (l.map lM))))]
abbrev lq(bad:List iR):Blk:=.arr 4 ((bad.map iR.enc).map (·.map .d))
abbrev Me(ns:List fE)(ms:List jP)(bad:List iR):List Blk:=[lkZ,.box [.msl 1 2 0 ns.length,.msl 2 3 0 ms.length,.d (.sl true 1 []),.d (.str (bs [])),.d (.int .i64 0),.d (.int .i64 0)],.arr 1 ((encS ns).map (·.map .d)),.arr 2 ((ms.map jP.enc).map (·.map .d)),lq bad]
theorem zHi(l:List (fE × fE)):gU Pg 28 [.one (.sl false 2 (l.map lM))] (.tup [.agg (yc (uP l).1).enc,.one (.sl false 4 ((uP l).2.map iR.enc))]):=by
 refine zBZ (by simp) λo c hN hp=>?_;obtain⟨R,hR⟩:∃R,uP l=R:=⟨_,rfl⟩
 rw[hR];unfold uP at hR;unfold UL;by_cases h16:16<l.length
 ·have h16':(16:Int)<l.length:=by omega
  rw[aC h16]at hR;subst hR;simp[h16'];exact⟨rfl,rfl⟩
 have h16':¬(16:Int)<l.length:=by omega
 rw[aB h16]at hR;simp[h16,h16'];refine fU [.c 1 0,.c 1 1,.t 5] ?_;simp;refine fO gy hp (λx:Nat × List fE × List jP × List iR=>x.1<=l.length/\x.2.1.length=x.1/\x.2.2.1.length=x.1/\x.2.2.2.length<=x.1/\qy (l.drop x.1) x.1 x.2.1 x.2.2.1 x.2.2.2=R) (λx=>Md l x.1 x.2.2.2.length) (λx=>Me x.2.1 x.2.2.1 x.2.2.2) (λx=>l.length-x.1) (0,[],[],[]) [0,1,2,3,4] ⟨by simp,rfl,rfl,by simp,by simpa using hR⟩ (by simp[encS]) λ⟨i,ns,ms,bad⟩ ⟨i1,i2,i3,i4,i5⟩=>?_;unfold UK;simp only at i1 i2 i3 i4 i5;simp;apply gM<;>intro h
 ·have hi:i<l.length:=by simpa using h
  obtain⟨s,hs⟩:∃s,l[i]=s:=⟨_,rfl⟩
  rw[aD hi,hs,qy]at i5;have hw:=wI (n:=(i:Int)+1);have hmz:=zEd ns s.1;simp[hi,hs];refine gQ (IR s.1) ?_;simp[hi,hs];refine gQ (zGm s.2) ?_;generalize qL s.2=m at*
  simp[hi,hs];refine gN [2] hmz ?_;generalize ji ns s.1=z at*
  simp[hi,hs];refine⟨by decide,by omega,by decide,by omega,?_⟩;by_cases n1:mY s.1=true;rotate_left
  ·rw[aC (by simpa using n1)]at i5;simp[n1];refine⟨by omega,?_⟩;refine fF (i+1,ns++[s.1],ms++[m.1],bad++[⟨i,1,1,10⟩]) [0,1,7,8,9] ⟨by simp only;omega,by simp[i2],by simp[i3],by simp;omega,i5⟩ (by simp only;omega) ?_;simp[hw,iR.enc];exact⟨aG (by simp),nY _ _,nY _ _⟩
  rw[aB (by simpa using n1)]at i5;by_cases z1:0<=z
  ·rw[aC z1]at i5;simp[n1,z1];refine⟨by omega,?_⟩;refine fF (i+1,ns++[s.1],ms++[m.1],bad++[⟨i,1,1,8⟩]) [0,1,7,8,9] ⟨by simp only;omega,by simp[i2],by simp[i3],by simp;omega,i5⟩ (by simp only;omega) ?_;simp[hw,iR.enc];exact⟨aG (by simp),nY _ _,nY _ _⟩
  rw[aB z1]at i5;by_cases e0:m.2.e=0
  ·rw[aB (by simp[e0])]at i5;simp[n1,z1,e0];refine fF (i+1,ns++[s.1],ms++[m.1],bad) [0,1,7,8,4] ⟨by simp only;omega,by simp[i2],by simp[i3],by simp only;omega,i5⟩ (by simp only;omega) ?_;simp[hw,iR.enc];exact⟨aG (by simp),nY _ _⟩
  ·rw[aC e0]at i5;simp[n1,z1,e0,zIp];refine⟨by omega,?_⟩;refine fF (i+1,ns++[s.1],ms++[m.1],bad++[⟨i,m.2.line,m.2.col,m.2.e⟩]) [0,1,7,8,9] ⟨by simp only;omega,by simp[i2],by simp[i3],by simp;omega,i5⟩ (by simp only;omega) ?_;simp[hw];exact⟨aG (by simp),nY _ _,nY _ _⟩
 ·have hi:i=l.length:=by simp at h;omega
  subst hi;rw[aO,qy]at i5;subst i5;simp[nY,yc,iN.enc_eq];exact⟨aG (by simp),rfl,rfl,rfl⟩
end Go.Gr
namespace Go.Gr
open Go.Abs Go.Proofs List
@[simp] theorem zLa(l:List fE)(j:Nat)(h:j<(encS l).length):(encS l)[j]=[.str (l[j]'(by simpa using h))]:=by simp[encS]
structure lN (m:jP):Prop where
 imps:m.imps.length<=10001
 names:∀x,x∈m.imps->x.names.length<=10001
 decs:m.decs.length<=10001
def A8(p:iN):Prop:=p.mods.length<=16/\p.names.length=p.mods.length/\∀m,m∈p.mods->lN m
abbrev A9(sc:List iy):Blk:=.arr 3 ((sc.map iy.enc).map (·.map .d))
theorem Um(m:jP)(s:fE):tV m s= -1\/(0<=tV m s/\tV m s<m.decs.length):=by
 have:=FX (λd:jS=>decide (d.name=s)) 0 m.decs;unfold tV;omega
theorem Ic(ns:List fE)(s:fE):ji ns s= -1\/(0<=ji ns s/\ji ns s<ns.length):=by
 have:=FX (λn=>decide (n=s)) 0 ns;unfold ji;omega
theorem getD_in{α:Type}(l:List α)(d:α){z:Int}{n:Int}(hn:n=l.length)(h0:0<=z)(h1:z<n):l[z.toNat]?=some (l.getD z.toNat d)/\l.getD z.toNat d∈l:=by
 have h:z.toNat<l.length:=by omega
 rw[aH,aA h];exact⟨rfl,aR h⟩
theorem Ie(M:jP)(m i:Int)(x:je):∀(l:List fE) (sc:List iy) (bad:List iR),(oQ M m i x l sc bad).1.length<=sc.length+l.length/\(oQ M m i x l sc bad).2.length<=bad.length+l.length
|[],sc,bad=>by simp[oQ]
|s::l,sc,bad=>by
 rw[oQ];split
 ·have:=Ie M m i x l sc (bad++[⟨i,x.line,x.col,12⟩]);simp at this⊢;omega
 split
 ·have:=Ie M m i x l sc (bad++[⟨i,x.line,x.col,8⟩]);simp at this⊢;omega
 ·have:=Ie M m i x l (sc++[⟨s,m,tV M s⟩]) bad;simp at this⊢;omega
theorem zBP(ns:List fE)(ms:List jP)(i:Int)(x:je)(sc:List iy):(xw ns ms i x sc).1.length<=sc.length+x.names.length/\(xw ns ms i x sc).2.length<=1+x.names.length:=by
 unfold xw;split
 ·simp
 ·have:=Ie (ms.getD (ji ns x.from_).toNat oP) (ji ns x.from_) i x x.names sc [];simp only[length_nil,Nat.zero_add]at this;exact⟨this.1,by omega⟩
abbrev Mf(p:iN)(x:je)(m j n nb:Nat):List (Nat × AV):=[(13,.c (.d (.int .i64 j))),(12,.c (.d (.int .i64 m))),(11,.c (.ptr 1 0)),(10,.c (.msl 4 2 0 nb)),(6,.c (.d (.rp x.enc 0))),(4,.c (.d (.rp p.enc 0))),(3,.c (.msl 3 0 0 n))]
abbrev dBx(i:Int)(x:je)(e:Int):Blk:=.box [.d (.int .i64 i),.d (.int .i64 x.line),.d (.int .i64 x.col),.d (.int .i64 e)]
theorem zCr(p:iN)(hp':A8 p)(i:Int)(x:je)(hx:x.names.length<=10001)(sc:List iy)(hsc:sc.length<=1000000000):
  MCall Pg 47 [.ag (p.enc.map .d),.c (.d (.int .i64 i)),.ag (x.enc.map .d),.c (.msl 3 0 0 sc.length)] [A9 sc]
   (.tup [.c (.msl 3 1 0 (xw p.names p.mods i x sc).1.length),.c (.d (.sl false 4 ((xw p.names p.mods i x sc).2.map iR.enc)))]) [.dead,A9 (xw p.names p.mods i x sc).1]:=by
 refine zxT ⟨by simp,by simp,by simp,by simp,by simp,by simp;rfl,by simp⟩ λts hts ok hb c hN hp=>?_;obtain⟨t,rfl⟩:=mD hts;obtain⟨R,hR⟩:∃R,xw p.names p.mods i x sc=R:=⟨_,rfl⟩
 rw[hR];unfold xw at hR;have hmz:=FY p.names x.from_;have hml:=Ic p.names x.from_;unfold UT;simp;refine gQ hmz ?_;generalize ji p.names x.from_=z at*
 by_cases z0:z<0
 ·rw[aC z0]at hR;subst hR;simp[z0];refine⟨by decide,?_⟩;refine fT [] ?_;simp;exact fI [1,0] [1] (by simp[iR.enc,AV.erds,AV.erd])
 rw[aB z0]at hR;obtain⟨g1,g2⟩:=getD_in p.mods oP (z:=z) (n:=p.names.length) (by rw[hp'.2.1]) (by omega) (by omega);generalize p.mods.getD z.toNat oP=M at*
 have hM:=hp'.2.2 M g2;have h16:=hp'.1;have hnm:=hp'.2.1;obtain⟨zn,rfl⟩:∃zn:Nat,z=zn:=⟨z.toNat,by omega⟩
 simp only[bB]at g1;simp[z0];refine fU [.t 10] ?_;simp;refine fO gy hp (λy:Nat × List iy × List iR × Int=>y.1<=x.names.length/\y.2.1.length<=sc.length+y.1/\y.2.2.1.length<=y.1/\oQ M zn i x (x.names.drop y.1) y.2.1 y.2.2.1=R) (λy=>Mf p x zn y.1 y.2.1.length y.2.2.1.length) (λy=>[A9 y.2.1,dBx i x y.2.2.2,lq y.2.2.1]) (λy=>x.names.length-y.1) (0,sc,[],11) [0,2,3] ⟨by simp,by simp,by simp,by simpa using hR⟩ (by simp) λ⟨j,s,bad,e⟩ ⟨i1,i2,i3,i4⟩=>?_;unfold UR;simp only at i1 i2 i3 i4;simp;apply gM<;>intro h
 ·have hj:j<x.names.length:=by simpa using h
  obtain⟨n,hn⟩:∃n,x.names[j]=n:=⟨_,rfl⟩
  rw[aD hj,hn,oQ]at i4;have hw:=wI (n:=(j:Int)+1);have hdl:=Um M n;have hfm:=Ul s n;simp[hj,hn,g1];refine gQ (Uj M n (by have:=hM.decs;omega)) ?_;simp[hj,hn];refine⟨by decide,?_⟩;refine gN [0] hfm ?_;generalize qW s n=f at*
  generalize tV M n=k at*
  simp;by_cases k0:k<0
  ·rw[aC (.inl k0)]at i4;simp[k0];refine⟨by omega,?_⟩;refine fF (j+1,s,bad++[⟨i,x.line,x.col,12⟩],12) [0,1,4] ⟨by simp only;omega,by simp only;omega,by simp;omega,i4⟩ (by simp only;omega) ?_;simp[hw,iR.enc];exact nY _ _
  obtain⟨g3,g4⟩:=getD_in M.decs BM (z:=k) (n:=M.decs.length) rfl (by omega) (by omega);generalize M.decs.getD k.toNat BM=d at*
  obtain⟨kn,rfl⟩:∃kn:Nat,k=kn:=⟨k.toNat,by omega⟩
  simp only[bB]at g3;by_cases ex:d.exp=true;rotate_left
  ·rw[aC (.inr (by simpa using ex))]at i4;simp[k0,g1,g3,ex];refine⟨by omega,?_⟩;refine fF (j+1,s,bad++[⟨i,x.line,x.col,12⟩],12) [0,1,4] ⟨by simp only;omega,by simp only;omega,by simp;omega,i4⟩ (by simp only;omega) ?_;simp[hw,iR.enc];exact nY _ _
  by_cases f2:f.2=true
  ·rw[aB (by simp[k0,ex]),aC f2]at i4;simp[k0,g1,g3,ex,f2];refine⟨by omega,?_⟩;refine fF (j+1,s,bad++[⟨i,x.line,x.col,8⟩],8) [0,1,4] ⟨by simp only;omega,by simp only;omega,by simp;omega,i4⟩ (by simp only;omega) ?_;simp[hw,iR.enc];exact nY _ _
  ·rw[aB (by simp[k0,ex]),aB f2]at i4;simp[k0,g1,g3,ex,f2,hj,hn];refine⟨by omega,?_⟩;refine fF (j+1,s++[⟨n,zn,kn⟩],bad,e) [4,1,2] ⟨by simp only;omega,by simp;omega,by simp only;omega,i4⟩ (by simp only;omega) ?_;simp[hw,iy.enc];exact nY _ _
 ·have hj:j=x.names.length:=by simp at h;omega
  subst hj;rw[aO,oQ]at i4;subst i4;simp;refine fT [2] ?_;simp[iV,nY];exact fM [1,0] [1] (by simp[iV])
abbrev allA(all:List (List iy)):Blk:=.arr 1 ((all.map qZ).map (·.map .d))
abbrev Aa(p:iN)(i na nb n:Nat):List (Nat × AV):=[(8,.c (.ptr 2 0)),(7,.c (.msl 3 3 0 n)),(6,.c (.d (.int .i64 i))),(5,.c (.msl 4 1 0 nb)),(4,.c (.msl 1 0 0 na)),(1,.c (.d (.rp p.enc 0)))]
abbrev xU(all:List (List iy))(bad:List iR)(m:jP)(sc:List iy):List Blk:=[allA all,lq bad,.box (m.enc.map .d),A9 sc]
theorem zDS{c:Ctx}(hp:c.pure)(p:iN)(hp':A8 p)(i:Nat)(m:jP)(hm:lN m)(all:List (List iy))(b0:List iR)(hb0:b0.length<=10000000000)(F0:List iy × List iR)(hF:zM p.names p.mods i m.imps [] b0=F0){Q:Exit->St->Prop}{S:St}{g}{ms:List Nat}
  (h0:iM ms S ((9,.c (.d (.int .i64 0)))::Aa p i all.length b0.length 0) (xU all b0 m []))
  (hQ:F0.1.length<=100020001->F0.2.length<=b0.length+100030002->∀T,Abs.look T 8=.c (.ptr 2 0)->Abs.look T 7=.c (.msl 3 3 0 F0.1.length)->Abs.look T 6=.c (.d (.int .i64 i))->Abs.look T 5=.c (.msl 4 1 0 F0.2.length)->Abs.look T 4=.c (.msl 1 0 0 all.length)->Abs.look T 1=.c (.d (.rp p.enc 0))->Q (.exit 2) ⟨T,hpOf (xU all F0.2 m F0.1),4⟩):mW Pg c Lt Q g S:=by
 have hmi:=hm.imps;refine fO gy hp (λy:Nat × List iy × List iR=>y.1<=m.imps.length/\y.2.1.length<=y.1*10001/\y.2.2.length<=b0.length+y.1*10002/\zM p.names p.mods i (m.imps.drop y.1) y.2.1 y.2.2=F0) (λy=>(9,.c (.d (.int .i64 y.1)))::Aa p i all.length y.2.2.length y.2.1.length) (λy=>xU all y.2.2 m y.2.1) (λy=>m.imps.length-y.1) (0,[],b0) ms ⟨by simp,by simp,by simp,by simpa using hF⟩ h0 λ⟨k,sc,bad⟩ ⟨i1,i2,i3,i4⟩=>?_;unfold Lt;simp only at i1 i2 i3 i4;simp;have hk1:k*10001<=10001*10001:=Nat.mul_le_mul (by omega) (aM _);have hk2:k*10002<=10001*10002:=Nat.mul_le_mul (by omega) (aM _);apply gM<;>intro h
 ·have hk:k<m.imps.length:=by simpa using h
  obtain⟨x,hx⟩:∃x,m.imps[k]=x:=⟨_,rfl⟩
  have hxm:=hm.names x (by rw[<-hx];exact aR hk);rw[aD hk,hx,zM]at i4;have hw:=wI (n:=(k:Int)+1);have him:=zCr p hp' i x hxm sc (by omega);have hil:=zBP p.names p.mods i x sc;generalize xw p.names p.mods i x sc=r at*
  simp[hk,hx];refine gN [3] him ?_;simp;refine⟨by decide,by omega,?_⟩;refine fF (k+1,r.1,bad++r.2) [0,5,2,4] ⟨by simp only;omega,by simp only;omega,by simp;omega,i4⟩ (by simp only;omega) ?_;simp[hw];exact nY _ _
 ·have hk:k=m.imps.length:=by simp at h;omega
  subst hk;rw[aO,zM]at i4;subst i4;exact hQ (by simp only;omega) (by simp only;omega) _ (by simp) (by simp) (by simp) (by simp) (by simp) (by simp)
theorem zDT{c:Ctx}(hp:c.pure)(p:iN)(i:Nat)(m:jP)(hm:lN m)(all:List (List iy))(s0:List iy)(hs0:s0.length<=100020001)(b0:List iR)(hb0:b0.length<=100000000000)(F0:List iy × List iR)(hF:yY i m.decs 0 s0 b0=F0){Q:Exit->St->Prop}{S:St}{g}{ms:List Nat}
  (h0:iM ms S ((12,.c (.d (.int .i64 0)))::Aa p i all.length b0.length s0.length) (xU all b0 m s0))
  (hQ:F0.2.length<=b0.length+10001->∀T,Abs.look T 7=.c (.msl 3 3 0 F0.1.length)->Abs.look T 6=.c (.d (.int .i64 i))->Abs.look T 5=.c (.msl 4 1 0 F0.2.length)->Abs.look T 4=.c (.msl 1 0 0 all.length)->Abs.look T 1=.c (.d (.rp p.enc 0))->Q (.exit 4) ⟨T,hpOf (xU all F0.2 m F0.1),4⟩):mW Pg c Lu Q g S:=by
 have hmd:=hm.decs;refine fO gy hp (λy:Nat × List iy × List iR=>y.1<=m.decs.length/\y.2.1.length<=s0.length+y.1/\y.2.2.length<=b0.length+y.1/\yY i (m.decs.drop y.1) y.1 y.2.1 y.2.2=F0) (λy=>(12,.c (.d (.int .i64 y.1)))::Aa p i all.length y.2.2.length y.2.1.length) (λy=>xU all y.2.2 m y.2.1) (λy=>m.decs.length-y.1) (0,s0,b0) ms ⟨by simp,by simp,by simp,by simpa using hF⟩ h0 λ⟨k,sc,bad⟩ ⟨i1,i2,i3,i4⟩=>?_;unfold Lu;simp only at i1 i2 i3 i4;simp;apply gM<;>intro h
 ·have hk:k<m.decs.length:=by simpa using h
  obtain⟨d,hd⟩:∃d,m.decs[k]=d:=⟨_,rfl⟩
  rw[aD hk,hd,yY]at i4;have hw:=wI (n:=(k:Int)+1);have hfm:=Ul sc d.name;simp[hk,hd];refine gN [3] hfm ?_;generalize qW sc d.name=f at*
  simp;by_cases f2:f.2=true
  ·rw[aC f2]at i4;simp[f2,hk,hd];refine⟨by omega,by decide,?_⟩;refine fF (k+1,sc,bad++[⟨i,d.line,d.col,8⟩]) [0,5,2,3] ⟨by simp only;omega,by simp only;omega,by simp;omega,i4⟩ (by simp only;omega) ?_;simp[hw,iR.enc];exact nY _ _
  ·rw[aB f2]at i4;simp[f2,hk,hd];refine⟨by omega,?_⟩;refine fF (k+1,sc++[⟨d.name,i,k⟩],bad) [0,1,2,5] ⟨by simp only;omega,by simp;omega,by simp only;omega,i4⟩ (by simp only;omega) ?_;simp[hw,iy.enc];exact nY _ _
 ·have hk:k=m.decs.length:=by simp at h;omega
  subst hk;rw[aO,yY]at i4;subst i4;exact hQ (by simp only;omega) _ (by simp) (by simp) (by simp) (by simp) (by simp)
theorem zFd(p:iN)(hp':A8 p):gU Pg 29 [.agg p.enc] (.tup [.one (.sl false 1 ((uj p.names p.mods p.mods 0 [] []).1.map qZ)),.one (.sl false 4 ((uj p.names p.mods p.mods 0 [] []).2.map iR.enc))]):=by
 refine zAp (by simp) λo c hN hp=>?_;obtain⟨R,hR⟩:∃R,uj p.names p.mods p.mods 0 [] []=R:=⟨_,rfl⟩
 rw[hR];have h16:=hp'.1;unfold UV;simp;refine fU [.t 4,.t 5] ?_;simp;refine fO gy hp (λy:Nat × List (List iy) × List iR=>y.1<=p.mods.length/\y.2.1.length=y.1/\y.2.2.length<=y.1*200000000/\uj p.names p.mods (p.mods.drop y.1) y.1 y.2.1 y.2.2=R) (λy=>[(6,.c (.d (.int .i64 y.1))),(5,.c (.msl 4 1 0 y.2.2.length)),(4,.c (.msl 1 0 0 y.2.1.length)),(1,.c (.d (.rp p.enc 0)))]) (λy=>[allA y.2.1,lq y.2.2]) (λy=>p.mods.length-y.1) (0,[],[]) [0,1] ⟨by simp,rfl,by simp,by simpa using hR⟩ (by simp) λ⟨i,all,bad⟩ ⟨i1,i2,i3,i4⟩=>?_;unfold UU;simp only at i1 i2 i3 i4;simp;apply gM<;>intro h
 ·have hi:i<p.mods.length:=by simpa using h
  obtain⟨m,hm⟩:∃m,p.mods[i]=m:=⟨_,rfl⟩
  have hsm:=hp'.2.2 m (by rw[<-hm];exact aR hi);rw[aD hi,hm,uj]at i4;have hw:=wI (n:=(i:Int)+1);simp[hi,hm];refine fU [.t 7] ?_;simp;refine zDS hp p hp' i m hsm all bad (by omega) _ rfl (ms:=[0,1,2,3]) (by simp) λq1 q2 T t8 t7 t6 t5 t4 t1=>?_;generalize zM p.names p.mods i m.imps [] bad=a at*
  simp;refine zDT hp p i m hsm all a.1 q1 a.2 (by omega) _ rfl (ms:=[0,1,2,3]) (by simp[t8,t7,t6,t5,t4,t1]) λq3 T t7 t6 t5 t4 t1=>?_;generalize yY i m.decs 0 a.1 a.2=b at*
  simp;refine fT [3] ?_;simp[iV,t7,t6,t5,t4,t1,nY];refine⟨by omega,?_⟩;refine fF (i+1,all++[b.1],b.2) [4,1] ⟨by simp only;omega,by simp[i2],by simp only;omega,i4⟩ (by simp only;omega) ?_;simp[iV,t7,t6,t5,t4,t1,nY,hw,qZ];try trace_state
 ·have hi:i=p.mods.length:=by simp at h;omega
  subst hi;rw[aO,uj]at i4;subst i4;simp[nY];try trace_state
def uS(l:List Bool):List (List D):=l.map λb=>[.bool b]
@[simp] theorem zIC(l:List Bool):(uS l).length=l.length:=by simp[uS]
@[simp] theorem zJQ(l:List Bool)(k:Nat):(uS l)[k]?=(l[k]?).map λb=>[.bool b]:=by simp[uS]
@[simp] theorem zJ3(l:List Bool)(j:Nat)(h:j<(uS l).length):(uS l)[j]=[.bool (l[j]'(by simpa using h))]:=by simp[uS]
theorem zEu(l:List Bool)(k:Nat)(b:Bool):(uS l).set k [.bool b]=uS (l.set k b):=by simp[uS,fD]
abbrev Ck(l:List Bool):Blk:=.arr 1 ((uS l).map (·.map .d))
theorem Un(l:List Bool)(k:Nat)(b:Bool):((uS l).map λx=>x.map AC.d).set k [.d (.bool b)]=(uS (l.set k b)).map λx=>x.map AC.d:=by rw[<-zEu,fD];try rfl
theorem Mg(ns:List fE):∀(l:List je) (seen:List Bool),(zN ns l seen).length=seen.length
|[],seen=>rfl
|x::l,seen=>by rw[zN,Mg ns l];split<;>simp
theorem Uo(ns:List fE):∀(l:List jP) (i:Nat) (seen:List Bool),(AO ns l i seen).length=seen.length
|[],i,seen=>rfl
|m::l,i,seen=>by rw[AO,Uo ns l];split;exact Mg ns _ _;rfl
theorem zF5{l:List Bool}{i z:Nat}(h:l.getD i false=true):(l.set z true).getD i false=true:=by
 rw[aH]at h⊢;rw[getElem?_set];split
 ·split
  ·rfl
  ·rename_i h1 h2;subst h1;rw[aS (by omega)]at h;exact h
 ·exact h
abbrev Ab(p:iN)(to n nn i:Nat):List (Nat × AV):=[(9,.c (.d (.int .i64 i))),(8,.c (.d (.int .i64 nn))),(7,.c (.msl 1 0 0 n)),(3,.c (.d (.rp p.enc 0))),(2,.c (.d (.int .i64 to)))]
theorem zEv{c:Ctx}(hp:c.pure)(p:iN)(hp':A8 p)(to nn i:Nat)(hi:i<p.mods.length)(m:jP)(hm:lN m)(s0:List Bool)(hs0:s0.length=p.mods.length)(F0:List Bool)(hF:(if s0.getD i false=true then zN p.names m.imps s0 else s0)=F0){Q:Exit->St->Prop}{S:St}{g}{ms:List Nat}
  (h0:iM ms S ((11,.c (.d (.int .i64 0)))::(10,.c (.d (.sl false 4 (m.imps.map je.enc))))::Ab p to p.mods.length nn i) [Ck s0])
  (hQ:∀T,Abs.look T 9=.c (.d (.int .i64 i))->Abs.look T 8=.c (.d (.int .i64 nn))->Abs.look T 7=.c (.msl 1 0 0 p.mods.length)->Abs.look T 3=.c (.d (.rp p.enc 0))->Abs.look T 2=.c (.d (.int .i64 to))->Q (.exit 4) ⟨T,hpOf [Ck F0],1⟩):mW Pg c Lv Q g S:=by
 have hmi:=hm.imps;have h16:=hp'.1;have hnn:=hp'.2.1;refine fO gy hp (λy:Nat × List Bool=>y.1<=m.imps.length/\y.2.length=p.mods.length/\(if y.2.getD i false=true then zN p.names (m.imps.drop y.1) y.2 else y.2)=F0) (λy=>(11,.c (.d (.int .i64 y.1)))::(10,.c (.d (.sl false 4 (m.imps.map je.enc))))::Ab p to p.mods.length nn i) (λy=>[Ck y.2]) (λy=>m.imps.length-y.1) (0,s0) ms ⟨by simp,hs0,by simpa using hF⟩ h0 λ⟨k,s⟩ ⟨i1,i2,i3⟩=>?_;unfold Lv;simp only at i1 i2 i3;have his:i<s.length:=by omega
 have hgi:s.getD i false=s[i]:=by rw[aH,aA his];try rfl
 simp;apply gM<;>intro h
 ·have hk:k<m.imps.length:=by simpa using h
  obtain⟨x,hx⟩:∃x,m.imps[k]=x:=⟨_,rfl⟩
  have hw:=wI (n:=(k:Int)+1);by_cases b:s.getD i false=true
  ·rw[aC b,aD hk,hx,zN]at i3;have b':s[i]=true:=by rw[<-hgi];exact b
   have hml:=Ic p.names x.from_;have hmk:=FY p.names x.from_;generalize ji p.names x.from_=z at*
   simp[his,hi,b',hk,hx];refine gQ hmk ?_;by_cases z0:0<=z
   ·rw[aC z0]at i3;obtain⟨zn,rfl⟩:∃zn:Nat,z=zn:=⟨z.toNat,by omega⟩
    have hzn:zn<p.mods.length:=by omega
    have hzs:zn<s.length:=by omega
    simp only[bB]at i3;simp[hzn,hzs,Un];refine⟨by decide,?_⟩;refine fF (k+1,s.set zn true) [0] ⟨by simp only;omega,by simpa using i2,by simp only;rw[aC (zF5 b)];exact i3⟩ (by simp only;omega) ?_;simp[hw]
   ·rw[aB z0]at i3;simp[z0];refine⟨by decide,?_⟩;refine fF (k+1,s) [0] ⟨by simp only;omega,i2,by simp only;rw[aC b];exact i3⟩ (by simp only;omega) ?_;simp[hw]
  ·rw[aB b]at i3;subst i3;have b':s[i]=false:=by rw[hgi]at b;simpa using b
   simp[his,hi,b'];exact hQ _ (by simp) (by simp) (by simp) (by simp) (by simp)
 ·have hk:k=m.imps.length:=by simp at h;omega
  subst hk;rw[aO,zN,ite_self]at i3;subst i3;simp;exact hQ _ (by simp) (by simp) (by simp) (by simp) (by simp)
theorem zEw{c:Ctx}(hp:c.pure)(p:iN)(hp':A8 p)(to nn:Nat)(s0:List Bool)(hs0:s0.length=p.mods.length)(F0:List Bool)(hF:AO p.names p.mods 0 s0=F0){Q:Exit->St->Prop}{S:St}{g}{ms:List Nat}
  (h0:iM ms S (Ab p to p.mods.length nn 0) [Ck s0])
  (hQ:∀T,Abs.look T 8=.c (.d (.int .i64 nn))->Abs.look T 7=.c (.msl 1 0 0 p.mods.length)->Abs.look T 3=.c (.d (.rp p.enc 0))->Abs.look T 2=.c (.d (.int .i64 to))->Q (.exit 2) ⟨T,hpOf [Ck F0],1⟩):mW Pg c Lx Q g S:=by
 have h16:=hp'.1;refine fO gy hp (λy:Nat × List Bool=>y.1<=p.mods.length/\y.2.length=p.mods.length/\AO p.names (p.mods.drop y.1) y.1 y.2=F0) (λy=>Ab p to p.mods.length nn y.1) (λy=>[Ck y.2]) (λy=>p.mods.length-y.1) (0,s0) ms ⟨by simp,hs0,by simpa using hF⟩ h0 λ⟨i,s⟩ ⟨i1,i2,i3⟩=>?_;unfold Lx;simp only at i1 i2 i3;simp;apply gM<;>intro h
 ·have hi:i<p.mods.length:=by simpa using h
  obtain⟨m,hm⟩:∃m,p.mods[i]=m:=⟨_,rfl⟩
  have hsm:=hp'.2.2 m (by rw[<-hm];exact aR hi);rw[aD hi,hm,AO]at i3;have hw:=wI (n:=(i:Int)+1);have hle:(if s.getD i false=true then zN p.names m.imps s else s).length=p.mods.length:=by
   split
   ·rw[Mg,i2]
   ·exact i2
  simp[hi,hm];refine zEv hp p hp' to nn i hi m hsm s i2 _ rfl (ms:=[0]) (by simp) λT t9 t8 t7 t3 t2=>?_;generalize (if s.getD i false=true then zN p.names m.imps s else s)=s2 at*
  simp[t9];refine fF (i+1,s2) [0] ⟨by simp only;omega,hle,i3⟩ (by simp only;omega) ?_;simp[t9,t8,t7,t3,t2,hw]
 ·have hi:i=p.mods.length:=by simp at h;omega
  subst hi;rw[aO,AO]at i3;subst i3;exact hQ _ (by simp) (by simp) (by simp) (by simp)
theorem zDk(p:iN)(hp':A8 p)(f t:Nat)(hf:f<p.mods.length)(ht:t<p.mods.length):gU Pg 49 [.agg p.enc,.one (.int .i64 f),.one (.int .i64 t)] (.one (.bool (Dt p.names p.mods f t))):=by
 refine zz0 (by simp) λo c hN hp=>?_;obtain⟨R,hR⟩:∃R,Dt p.names p.mods f t=R:=⟨_,rfl⟩
 rw[hR];unfold Dt at hR;have h16:=hp'.1;have hrep:∀n:Nat,(replicate n [D.bool false]).map (λx=>x.map AC.d)=(uS (replicate n false)).map (λx=>x.map AC.d):=λn=>by simp[uS]
 obtain⟨s0,hs⟩:∃s0,(replicate p.mods.length false).set f true=s0:=⟨_,rfl⟩
 have hs0:s0.length=p.mods.length:=by rw[<-hs];simp
 rw[hs]at hR;unfold UX;simp[hf];refine⟨by omega,?_⟩;have e0:(replicate p.mods.length [AC.d (D.bool false)]).set f [AC.d (D.bool true)]=(uS s0).map λx=>x.map AC.d:=by
  rw[<-hs,<-Un];simp[uS]
 rw[e0];refine fO gy hp (λy:Nat × List Bool=>y.1<=p.mods.length/\y.2.length=p.mods.length/\(FB p.names p.mods (p.mods.length-y.1) y.2).getD t false=R) (λy=>[(8,.c (.d (.int .i64 y.1))),(7,.c (.msl 1 0 0 p.mods.length)),(3,.c (.d (.rp p.enc 0))),(2,.c (.d (.int .i64 t)))]) (λy=>[Ck y.2]) (λy=>p.mods.length-y.1) (0,s0) [0] ⟨by simp,hs0,hR⟩ (by simp) λ⟨nn,s⟩ ⟨i1,i2,i3⟩=>?_;unfold UW;simp only at i1 i2 i3;simp;apply gM<;>intro h
 ·have hn:nn<p.mods.length:=by simpa using h
  rw[show p.mods.length-nn=(p.mods.length-(nn+1))+1 by omega,FB]at i3;have hw:=wI (n:=(nn:Int)+1);refine zEw hp p hp' t nn s i2 _ rfl (ms:=[0]) (by simp) λT t8 t7 t3 t2=>?_;have hl:=Uo p.names p.mods 0 s;generalize AO p.names p.mods 0 s=s2 at*
  simp[t8];refine fF (nn+1,s2) [0] ⟨by simp only;omega,by simp only;omega,i3⟩ (by simp only;omega) ?_;simp[t8,t7,t3,t2,hw]
 ·have hn:nn=p.mods.length:=by simp at h;omega
  subst hn;rw[Nat.sub_self,FB,aH,aA (by omega)]at i3;have hts:t<s.length:=by omega
  simp at i3;simp[ht,hts,i3]
theorem Uq(ns:List fE)(ms:List jP)(i:Nat):∀(l:List je) (bad:List iR),(zO ns ms i l bad).length<=bad.length+l.length
|[],bad=>by simp[zO]
|x::l,bad=>by
 rw[zO];have:=Uq ns ms i l (if 0<=ji ns x.from_/\Dt ns ms (ji ns x.from_).toNat i=true then bad++[⟨i,x.line,x.col,13⟩]else bad);refine ak this ?_;split<;>simp<;>omega
abbrev Cm(p:iN)(i nb:Nat):List (Nat × AV):=[(4,.c (.d (.int .i64 i))),(3,.c (.msl 4 0 0 nb)),(1,.c (.d (.rp p.enc 0)))]
theorem zEx{c:Ctx}(hp:c.pure)(p:iN)(hp':A8 p)(i:Nat)(hi:i<p.mods.length)(m:jP)(hm:lN m)(b0:List iR)(hb0:b0.length<=10000000)(F0:List iR)(hF:zO p.names p.mods i m.imps b0=F0){Q:Exit->St->Prop}{S:St}{g}{ms:List Nat}
  (h0:iM ms S ((6,.c (.d (.int .i64 0)))::(5,.c (.d (.sl false 4 (m.imps.map je.enc))))::Cm p i b0.length) [lq b0])
  (hQ:∀T,Abs.look T 4=.c (.d (.int .i64 i))->Abs.look T 3=.c (.msl 4 0 0 F0.length)->Abs.look T 1=.c (.d (.rp p.enc 0))->Q (.exit 2) ⟨T,hpOf [lq F0],1⟩):mW Pg c MB Q g S:=by
 have hmi:=hm.imps;have h16:=hp'.1;have hnn:=hp'.2.1;refine fO gy hp (λy:Nat × List iR=>y.1<=m.imps.length/\y.2.length<=b0.length+y.1/\zO p.names p.mods i (m.imps.drop y.1) y.2=F0) (λy=>(6,.c (.d (.int .i64 y.1)))::(5,.c (.d (.sl false 4 (m.imps.map je.enc))))::Cm p i y.2.length) (λy=>[lq y.2]) (λy=>m.imps.length-y.1) (0,b0) ms ⟨by simp,by simp,by simpa using hF⟩ h0 λ⟨k,bad⟩ ⟨i1,i2,i3⟩=>?_;unfold MB;simp only at i1 i2 i3;simp;apply gM<;>intro h
 ·have hk:k<m.imps.length:=by simpa using h
  obtain⟨x,hx⟩:∃x,m.imps[k]=x:=⟨_,rfl⟩
  have hw:=wI (n:=(k:Int)+1);rw[aD hk,hx,zO]at i3;have hml:=Ic p.names x.from_;have hmk:=FY p.names x.from_;generalize ji p.names x.from_=z at*
  simp[hk,hx];refine gQ hmk ?_;by_cases z0:0<=z
  ·obtain⟨zn,rfl⟩:∃zn:Nat,z=zn:=⟨z.toNat,by omega⟩
   simp only[bB]at i3;have hro:=zDk p hp' zn i (by omega) hi;obtain⟨r,hr⟩:∃r,Dt p.names p.mods zn i=r:=⟨_,rfl⟩
   simp only[hr]at i3 hro;simp;refine⟨by decide,?_⟩;refine gQ hro ?_;cases r with
   |true=>
    rw[aC ⟨z0,rfl⟩]at i3;simp[hk,hx];refine⟨by omega,by decide,?_⟩;refine fF (k+1,bad++[⟨i,x.line,x.col,13⟩]) [1] ⟨by simp only;omega,by simp;omega,i3⟩ (by simp only;omega) ?_;simp[hw,iR.enc];exact nY _ _
   |false=>
    rw[aB (λq=>by cases q.2)]at i3;simp;refine fF (k+1,bad) [0] ⟨by simp only;omega,by simp only;omega,i3⟩ (by simp only;omega) ?_;simp[hw]
  ·rw[aB (λq=>z0 q.1)]at i3;simp[z0];refine⟨by decide,?_⟩;refine fF (k+1,bad) [0] ⟨by simp only;omega,by simp only;omega,i3⟩ (by simp only;omega) ?_;simp[hw]
 ·have hk:k=m.imps.length:=by simp at h;omega
  subst hk;rw[aO,zO]at i3;subst i3;exact hQ _ (by simp) (by simp) (by simp)
theorem zF6(p:iN)(hp':A8 p):gU Pg 30 [.agg p.enc] (.one (.sl false 4 ((zP p.names p.mods p.mods 0 []).map iR.enc))):=by
 refine zB0 (by simp) λo c hN hp=>?_;obtain⟨R,hR⟩:∃R,zP p.names p.mods p.mods 0 []=R:=⟨_,rfl⟩
 rw[hR];have h16:=hp'.1;unfold UZ;simp;refine fU [.t 3] ?_;simp;refine fO gy hp (λy:Nat × List iR=>y.1<=p.mods.length/\y.2.length<=y.1*10001/\zP p.names p.mods (p.mods.drop y.1) y.1 y.2=R) (λy=>Cm p y.1 y.2.length) (λy=>[lq y.2]) (λy=>p.mods.length-y.1) (0,[]) [0] ⟨by simp,by simp,by simpa using hR⟩ (by simp) λ⟨i,bad⟩ ⟨i1,i2,i3⟩=>?_;unfold UY;simp only at i1 i2 i3;simp;apply gM<;>intro h
 ·have hi:i<p.mods.length:=by simpa using h
  obtain⟨m,hm⟩:∃m,p.mods[i]=m:=⟨_,rfl⟩
  have hsm:=hp'.2.2 m (by rw[<-hm];exact aR hi);have hmi:=hsm.imps;rw[aD hi,hm,zP]at i3;have hw:=wI (n:=(i:Int)+1);have htl:=Uq p.names p.mods i m.imps bad;simp[hi,hm];refine zEx hp p hp' i hi m hsm bad (by omega) _ rfl (ms:=[0]) (by simp) λT t4 t3 t1=>?_;generalize zO p.names p.mods i m.imps bad=b2 at*
  simp[t4];refine fF (i+1,b2) [0] ⟨by simp only;omega,by simp only;omega,i3⟩ (by simp only;omega) ?_;simp[t4,t3,t1,hw]
 ·have hi:i=p.mods.length:=by simp at h;omega
  subst hi;rw[aO,zP]at i3;subst i3;simp[nY]
theorem Ur(L:List Tok):∀(n:Nat) (l:List fE) (p:PS),(uK L n l p).1.length<=l.length+n
|0,l,p=>by simp[uK]
| n+1,l,p=>by
 rw[uK];split
 ·have:=Ur L n (l++[(jB L p).1]) (iA L (bs [44]) (jB L p).2).2;simp at this⊢;omega
 ·simp
theorem Us(L:List Tok)(hL:L.length<=10000):∀(n:Nat) (l:List je) (p:PS),(∀x,x∈l->x.names.length<=10001)->(xI L n l p).1.length<=l.length+n/\∀x,x∈(xI L n l p).1->x.names.length<=10001
|0,l,p,h=>by simp[xI];exact h
| n+1,l,p,h=>by
 rw[xI];split
 ·simp only;have hn:=Ur L (L.length+1) [] (jI L (bs [58]) (jB L (iA L xH p).2).2);have:=Us L hL n (l++[⟨(jB L (iA L xH p).2).1,(uK L (L.length+1) [] (jI L (bs [58]) (jB L (iA L xH p).2).2)).1,(iG L p).line,(iG L p).col⟩]) (jI L (bs [59]) (uK L (L.length+1) [] (jI L (bs [58]) (jB L (iA L xH p).2).2)).2) (λx hx=>by
   rcases aQ.1 hx with hx|hx
   ·exact h x hx
   ·simp at hx;subst hx;simp at hn⊢;omega)
  refine⟨?_,this.2⟩;have h1:=this.1;simp at h1⊢;omega
 ·exact⟨by simp,h⟩
theorem Ut(L:List Tok):∀(n:Nat) (l:List jS) (p:PS),(rU L n l p).1.length<=l.length+n
|0,l,p=>by simp[rU]
| n+1,l,p=>by
 rw[rU];split
 ·have:=Ut L n (l++[(rT L p).1]) (rT L p).2;simp at this⊢;omega
 ·simp
theorem zBX(s:fE):lN (qL s).1:=by
 have h0:lN oP:=⟨by simp[oP],by simp[oP],by simp[oP]⟩
 have hk:=IX (s:=s);unfold qL;simp only;split
 ·exact h0
 split
 ·exact h0
 ·rename_i h1 h2;obtain⟨hL,hl⟩:=hk (by simpa using h1);unfold BJ;simp only;generalize (lC s).1=L at*
  have a:=Us L hl (L.length+1) [] ps0 (by simp);have b:=Ut L (L.length+1) [] (xI L (L.length+1) [] ps0).2;exact⟨by have:=a.1;simp at this;simp only;omega,a.2,by simp at b;simp only;omega⟩
theorem Uu:∀(l:List (fE × fE)) (i:Nat) (ns:List fE) (ms:List jP) (bad:List iR),ns.length=ms.length->(∀m,m∈ms->lN m)->
 (qy l i ns ms bad).1.1.length=(qy l i ns ms bad).1.2.length/\(qy l i ns ms bad).1.2.length=ms.length+l.length/\∀m,m∈(qy l i ns ms bad).1.2->lN m
|[],i,ns,ms,bad,h1,h2=>by rw[qy];exact⟨h1,by simp,h2⟩
| s::l,i,ns,ms,bad,h1,h2=>by
 rw[qy];have:=Uu l (i+1) (ns++[s.1]) (ms++[(qL s.2).1]) (if mY s.1=false then bad++[⟨i,1,1,10⟩]else if 0<=ji ns s.1 then bad++[⟨i,1,1,8⟩]else if(qL s.2).2.e≠0 then bad++[⟨i,(qL s.2).2.line,(qL s.2).2.col,(qL s.2).2.e⟩]else bad) (by simp[h1]) (λm hm=>by
  rcases aQ.1 hm with hm|hm
  ·exact h2 m hm
  ·simp at hm;subst hm;exact zBX _)
 refine⟨this.1,?_,this.2.2⟩;have h3:=this.2.1;simp at h3⊢;omega
theorem Uv(l:List (fE × fE))(sc:List (List iy)):A8 ⟨(uP l).1.1,(uP l).1.2,sc,AL⟩:=by
 unfold uP;split
 ·exact⟨by simp,rfl,by simp⟩
 ·have:=Uu l 0 [] [] [] rfl (by simp);exact⟨by have:=this.2.1;simp at this;simp only;omega,this.1,this.2.2⟩
abbrev Mh(r:iN × List iR):DV:=.tup [.agg r.1.enc,.one (.sl false 4 (r.2.map iR.enc))]
theorem zHJ(x:List fE × List jP)(s:List (List iy)):put ((yc x).enc.map AC.d) 2 [.d (.sl false 1 (s.map qZ))]=(⟨x.1,x.2,s,AL⟩:iN).enc.map .d:=rfl
theorem zF7(a:List fE)(b:List jP)(s:List (List iy))(n:fE)(m k:Int):splice ((⟨a,b,s,AL⟩:iN).enc.map AC.d) 3 [.d (.str n),.d (.int .i64 m),.d (.int .i64 k)]=(⟨a,b,s,⟨n,m,k⟩⟩:iN).enc.map .d:=rfl
theorem zEy(a:List fE)(b:List jP)(s:List (List iy))(n:fE)(m k:Int):put ((⟨a,b,s,AL⟩:iN).enc.map AC.d) 3 [.d (.str n),.d (.int .i64 m),.d (.int .i64 k)]=(⟨a,b,s,⟨n,m,k⟩⟩:iN).enc.map .d:=rfl
attribute [simp] zHJ zF7 zEy
theorem Dz:BL.enc=[.sl false 1 [],.sl false 2 [],.sl false 1 [],.str (bs []),.int .i64 0,.int .i64 0]:=rfl
theorem zHK(l:List (fE × fE)):gU Pg 16 [.one (.sl false 2 (l.map lM))] (Mh (yZ l)):=by
 refine zDr (by simp) λo c hN hp=>?_;obtain⟨R,hR⟩:∃R,yZ l=R:=⟨_,rfl⟩
 rw[hR];unfold yZ at hR;simp only at hR;have hfs:=Uv l;have hf:=zHi l;generalize uP l=f at*
 unfold U0;simp;refine gQ hf ?_;by_cases f0:0<f.2.length
 ·rw[aC f0]at hR;subst hR;simp[f0,Dz]
 rw[aB f0]at hR;have hsec:gU Pg 29 [.agg (yc f.1).enc] (.tup [.one (.sl false 1 ((uj f.1.1 f.1.2 f.1.2 0 [] []).1.map qZ)),.one (.sl false 4 ((uj f.1.1 f.1.2 f.1.2 0 [] []).2.map iR.enc))]):=zFd (yc f.1) (hfs []);generalize uj f.1.1 f.1.2 f.1.2 0 [] []=s at*
 simp[f0];refine gQ hsec ?_;by_cases s0:0<s.2.length
 ·rw[aC s0]at hR;subst hR;simp[s0,Dz]
 rw[aB s0]at hR;have hthi:gU Pg 30 [.agg (⟨f.1.1,f.1.2,s.1,AL⟩:iN).enc] (.one (.sl false 4 ((zP f.1.1 f.1.2 f.1.2 0 []).map iR.enc))):=zF6 ⟨f.1.1,f.1.2,s.1,AL⟩ (hfs s.1);generalize zP f.1.1 f.1.2 f.1.2 0 []=t at*
 simp[s0];refine gQ hthi ?_;by_cases t0:0<t.length
 ·rw[aC t0]at hR;subst hR;simp[t0,Dz]
 rw[aB t0]at hR;have hmk:=FY f.1.1 vO;have hml:=Ic f.1.1 vO;have hsm:=hfs s.1;have hnn:f.1.1.length=f.1.2.length:=hsm.2.1;generalize ji f.1.1 vO=z at*
 simp[t0];refine gQ hmk ?_;by_cases z0:z<0
 ·rw[aC z0]at hR;subst hR;simp[z0,Dz,iR.enc]
 rw[aB z0]at hR;obtain⟨g1,g2⟩:=getD_in f.1.2 oP (z:=z) (n:=f.1.1.length) (by rw[hnn]) (by omega) (by omega);generalize f.1.2.getD z.toNat oP=M at*
 have hM:=hsm.2.2 M g2;have hMd:=hM.decs;obtain⟨zn,rfl⟩:∃zn:Nat,z=zn:=⟨z.toNat,by omega⟩
 simp only[bB]at g1;have hdk:=Uj M vO (by omega);have hdl:=Um M vO;generalize tV M vO=k at*
 simp[z0,g1];refine gQ hdk ?_;by_cases k0:k<0
 ·rw[aC k0]at hR;subst hR;simp[k0,Dz,iR.enc]
 rw[aB k0]at hR;obtain⟨g3,g4⟩:=getD_in M.decs BM (z:=k) (n:=M.decs.length) rfl (by omega) (by omega);generalize M.decs.getD k.toNat BM=d at*
 obtain⟨kn,rfl⟩:∃kn:Nat,k=kn:=⟨k.toNat,by omega⟩
 simp only[bB]at g3;by_cases v0:0<d.vars.length
 ·rw[aC v0]at hR;subst hR;simp[k0,g1,g3,v0,Dz,iR.enc];decide
 ·rw[aB v0]at hR;subst hR;simp[k0,g1,g3,v0]
end Go.Gr
