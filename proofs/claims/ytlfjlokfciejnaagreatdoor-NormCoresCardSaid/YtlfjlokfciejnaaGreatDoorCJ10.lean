/- Texts of ours, joined and written short by a program of ours. -/
import Derived.Test.YtlfjlokfciejnaaGreatDoorCJ09
import Derived.Test.YtlfjlokfciejnaaGreatDoorCJ08
set_option maxRecDepth 20000
set_option maxHeartbeats 4000000
set_option linter.unusedVariables false
set_option linter.unusedSimpArgs false
namespace Go.Gr
open Go.Abs Go.Proofs List
theorem gu.erdV{P:Program}{f:FuncId}{args:List DV}{v v':DV}(h:gu P f args v)(e:v.erd=v'):gu P f args v':=by
 subst e;refine⟨h.1,λph w us hp hG r=>(h.2 ph w us hp hG r).mono λe w' q=>?_⟩;obtain⟨vC,h',q1,q2,q3,q4,q5,q6,q7,q8⟩:=q;exact⟨vC,h',q1,q2,q3,q4,q5,q6,q7,kR.erd q8⟩
@[simp] theorem ik.enc_length(p:ik):p.enc.length=6:=by simp[ik.enc]
@[simp] theorem ik.enc_0(p:ik):p.enc[0]?=some (.int .i64 p.tag):=rfl
@[simp] theorem ik.enc_g0(p:ik)(h:0<p.enc.length):p.enc[0]=.int .i64 p.tag:=rfl
@[simp] theorem ik.cut_t(p:ik):cut p.enc 2 4=p.t.enc:=by unfold ik.enc;rw[gq.enc_eq];try rfl
@[simp] theorem ik.cut_tM(p:ik):cut (p.enc.map AC.d) 2 4=p.t.enc.map .d:=by unfold ik.enc;rw[gq.enc_eq];try rfl
@[simp] theorem ik.er_map(p:ik):p.enc.map D.er=p.enc:=by unfold ik.enc;rw[gq.enc_eq];try rfl
theorem zGw(a b c d e f:AC)(T:gq):splice [a,b,c,d,e,f] 2 (T.enc.map AC.d)=a::b::T.enc.map .d:=by rw[T.enc_eq];try rfl
theorem zJv(a b:AC)(T:gq):cut (a::b::T.enc.map AC.d) 0 6=a::b::T.enc.map .d:=by rw[T.enc_eq];try rfl
attribute [simp] zGw zJv
@[simp] theorem ik.enc_4(p:ik):p.enc[4]?=some (.sl false 1 (encS p.t.names)):=by unfold ik.enc;rw[gq.enc_eq];try rfl
@[simp] theorem ik.enc_5(p:ik):p.enc[5]?=some (.sl false 4 (p.t.kids.map gq.enc)):=by unfold ik.enc;rw[gq.enc_eq];try rfl
@[simp] theorem ik.enc_g4(p:ik)(h:4<p.enc.length):p.enc[4]=.sl false 1 (encS p.t.names):=by have:=p.enc_4;rw[aA h]at this;exact bP this
@[simp] theorem ik.enc_g5(p:ik)(h:5<p.enc.length):p.enc[5]=.sl false 4 (p.t.kids.map gq.enc):=by have:=p.enc_5;rw[aA h]at this;exact bP this
theorem oK{α β:Type}(f:α->β)(v:List α):take v.length (v.map f)=v.map f:=aD (by rw[aU];exact aQ _)
theorem zK(l:List ik)(tag:Int):gu Pg 132 [.one (.sl false 6 (l.map ik.enc)),.one (.int .i64 tag)] (.tup [.agg (jv l tag).1.enc,.one (.bool (jv l tag).2)]):=by
 refine zkR (by simp) λo c hN hp=>?_;have hl:l.length<=zah:=by have:=o.1;simp only[DV.ok,D.ok,aU]at this;exact this.1
 unfold zah at hl;obtain⟨R,hR⟩:∃R,jv l tag=R:=⟨_,rfl⟩
 rw[hR];unfold jv at hR;unfold VL;simp;refine fU iC hp (λj:Nat=>j<=l.length/\(l.drop j).find? (λp=>decide (p.tag=tag))=l.find? λp=>decide (p.tag=tag)) (λj=>[(6,.c (.d (.int .i64 j))),(4,.c (.ptr 0 0)),(1,.c (.d (.int .i64 tag))),(0,.c (.d (.sl false 6 (l.map ik.enc))))]) (λ_=>[.box [.d (.int .i64 0),.d (.bool false),.d (.int .i64 0),.d (.str (bs [])),.d (.sl true 1 []),.d (.sl true 4 [])]]) (λj=>l.length-j) 0 [0] ⟨by simp,by simp⟩ (by simp) λj ⟨h1,h2⟩=>?_;unfold VK;simp;apply gT<;>intro h
 ·have hj:j<l.length:=by simpa using h
  rw[aF hj,find?_cons]at h2;obtain⟨x,hx⟩:∃x,l[j]=x:=⟨_,rfl⟩
  rw[hx]at h2;by_cases q:x.tag=tag
  ·simp[q]at h2;rw[<-h2]at hR;subst hR;simp[hj,hx,q]
  ·simp[q]at h2;simp[hj,hx,q];refine fJ (j+1) [0] ⟨by omega,by simpa using h2⟩ (by omega) ?_;simp;exact wI
 ·have hj:j=l.length:=by simp at h;omega
  subst hj;rw[aO,find?_nil]at h2;rw[<-h2]at hR;subst hR;simp;rfl
theorem NZ(t:gq)(s:fI)(hn:t.names.length<=t.kids.length):gu Pg 133 [.agg t.enc,.one (.str s)] (.tup [.agg (je t s).1.enc,.one (.bool (je t s).2)]):=by
 refine zj0 (by simp) λo c hN hp=>?_;have hf:=Bj o.1;unfold zah at hf;obtain⟨R,hR⟩:∃R,je t s=R:=⟨_,rfl⟩
 rw[hR];unfold je at hR;unfold VN;simp;refine fU iC hp (λj:Nat=>j<=t.names.length/\oJ (t.names.drop j) (t.kids.drop j) s=R) (λj=>[(6,.c (.d (.int .i64 j))),(4,.c (.ptr 0 0)),(2,.c (.d (.rp t.enc 0))),(1,.c (.d (.str s)))]) (λ_=>[uF]) (λj=>t.names.length-j) 0 [0] ⟨by simp,by simpa using hR⟩ (by simp) λj ⟨h1,h2⟩=>?_;unfold VM;simp;apply gT<;>intro h
 ·have hj:j<t.names.length:=by simpa using h
  have hj2:j<t.kids.length:=by omega
  rw[aF hj,aF hj2,oJ]at h2;by_cases q:t.names[j]=s
  ·rw[aC q]at h2;subst h2;simp[hj,hj2,q]
  ·rw[aB q]at h2;simp[hj,hj2,q];refine fJ (j+1) [0] ⟨by omega,h2⟩ (by omega) ?_;simp;exact wI
 ·have hj:j=t.names.length:=by simp at h;omega
  subst hj;rw[aO,oJ]at h2
  ·subst h2;simp[nQ]
  ·intros;contradiction
def ll(k:Int):List D:=[.int .i64 k,.str (bs []),.sl true 1 [],.sl true 4 []]
def nY:List (List D):=[
.int .i64 0::.bool false::ll 1,.int .i64 1::.bool false::ll 2,.int .i64 2::.bool false::ll 3,.int .i64 3::.bool false::ll 4,
.int .i64 4::.bool true::ll 5,[.int .i64 5,.bool false,.int .i64 6,.str (bs []),.sl true 1 [],.sl true 4 [ll 0,ll 0]]]
abbrev Fv(es:List (List D)):Blk:=.arr 6 (es.map (·.map .d))
theorem zlJ(t:gq)(h0:t.kind=0):gu Pg 111 [.agg t.enc] (.one (.sl false 6 nY)):=by
 refine VJ (by simp) λo c hN hp=>?_;unfold Mt;simp[h0];refine fo [.t 3] ?_;simp;refine fU iC hp (λj:Nat=>j<=6) (λj=>[(4,.c (.d (.int .i64 j))),(3,.c (.msl 6 0 0 j))]) (λj=>[Fv (nY.take j)]) (λj=>6-j) 0 [0] (by simp) (by simp[nY]) λj h1=>?_;unfold VH;have w1:IntKind.i64.wrap 1=1:=by decide
 have w2:IntKind.i64.wrap 2=2:=by decide
 have w3:IntKind.i64.wrap 3=3:=by decide
 have w4:IntKind.i64.wrap 4=4:=by decide
 have w5:IntKind.i64.wrap 5=5:=by decide
 have w6:IntKind.i64.wrap 6=6:=by decide
 have hc:j=0\/j=1\/j=2\/j=3\/j=4\/j=5\/j=6:=by omega
 rcases hc with rfl|rfl|rfl|rfl|rfl|rfl|rfl
 ·simp[nY,ll,w1,w2,w3,w4,w5,w6];refine fJ 1 [2] (by omega) (by omega) ?_;simp[nY,ll,w1,w2,w3,w4,w5,w6]
 ·simp[nY,ll,w1,w2,w3,w4,w5,w6];refine fJ 2 [2] (by omega) (by omega) ?_;simp[nY,ll,w1,w2,w3,w4,w5,w6]
 ·simp[nY,ll,w1,w2,w3,w4,w5,w6];refine fJ 3 [2] (by omega) (by omega) ?_;simp[nY,ll,w1,w2,w3,w4,w5,w6]
 ·simp[nY,ll,w1,w2,w3,w4,w5,w6];refine fJ 4 [2] (by omega) (by omega) ?_;simp[nY,ll,w1,w2,w3,w4,w5,w6]
 ·simp[nY,ll,w1,w2,w3,w4,w5,w6];refine fJ 5 [2] (by omega) (by omega) ?_;simp[nY,ll,w1,w2,w3,w4,w5,w6]
 ·simp[nY,ll,w1,w2,w3,w4,w5,w6];refine fJ 6 [2] (by omega) (by omega) ?_;simp[nY,ll,w1,w2,w3,w4,w5,w6]
 ·simp[nY,ll]
theorem DL(t:gq)(hk:t.kids.length<=1000):gu Pg 111 [.agg t.enc] (.one (.sl false 6 ((kF t).map ik.enc))):=by
 by_cases h0:t.kind=0
 ·refine gu.erdV (zlJ t h0) ?_;unfold kF;rw[aC h0];try rfl
 refine VJ (by simp) λo c hN hp=>?_;have hf:=Bj o.1;unfold zah at hf;obtain⟨R,hR⟩:∃R,kF t=R:=⟨_,rfl⟩
 rw[hR];unfold kF at hR;rw[aB h0]at hR;unfold Mt;by_cases h7:t.kind=7;rotate_left
 ·rw[aC h7]at hR;subst hR;simp[h0,h7];refine gp (DD t) ?_;simp[ik.enc];decide
 rw[aB (λz=>z h7)]at hR;simp[h0,h7];refine fo [.t 3] ?_;simp;subst hR;refine fU iC hp (λj:Nat=>j<=t.kids.length) (λj=>[(6,.c (.d (.int .i64 j))),(3,.c (.msl 6 0 0 j)),(1,.c (.d (.rp t.enc 0)))]) (λj=>[Fv (((t.kids.take j).map λk=>(⟨iN k,false,k⟩:ik)).map ik.enc)]) (λj=>t.kids.length-j) 0 [0] (by simp) (by simp) λj h1=>?_;unfold VI;simp;apply gT<;>intro h
 ·have hj:j<t.kids.length:=by simpa using h
  obtain⟨x,hx⟩:∃x,t.kids[j]=x:=⟨_,rfl⟩
  simp[hj,hx];refine gp (DD x) ?_;have hmn:min j t.kids.length=j:=by omega
  simp[ik.enc,hj,hx,hmn];refine⟨by omega,by decide,?_⟩;refine fJ (j+1) [1] (by omega) (by omega) ?_;rw[aJ hj,hx];simp[ik.enc,hmn];refine⟨wI,by rw[take_take,eO],λx hx=>?_⟩;obtain⟨y,_,rfl⟩:=aa.1 (bi hx);simp
 ·have hj:j=t.kids.length:=by simp at h;omega
  subst hj;simp[oK];try trace_state
theorem Bn:∀{l:List gq} {x:gq},x∈l->jD x<=jk l
|t::l,x,h=>by
 rw[jk];rcases aN.1 h with rfl|h
 ·omega
 ·have:=Bn h;omega
theorem wV{t x:gq}(h:x∈t.kids):jD x<jD t:=by
 cases t with
 |mk k n s l=>rw[jD];have:=Bn (l:=l) h;omega
theorem JK:∀(ns:List fI) (ks:List gq) (s:fI),(oJ ns ks s).2=true->(oJ ns ks s).1∈ks
|[],ks,s,h=>by rw[oJ]at h;cases h;all_goals (intros;contradiction)
|_::_,[],s,h=>by rw[oJ]at h;cases h;all_goals (intros;contradiction)
| n::ns,k::ks,s,h=>by
 rw[oJ]at h⊢;by_cases q:n=s
 ·rw[aC q];simp
 ·rw[aB q]at h⊢;exact mem_cons_of_mem _ (JK ns ks s h)
theorem Fw{t:gq}(h:jG t):t.names.length<=t.kids.length:=by
 rcases((mI t).1 h).2.2 with⟨_,_,q,_⟩|⟨_,q,_⟩|⟨_,q,_⟩|⟨_,q,_⟩
 ·rw[q];simp
 ·omega
 ·rw[q];simp
 ·rw[q];simp
theorem yH{t x:gq}(h:jG t)(hx:x∈t.kids):jG x:=((mI t).1 h).2.1 x hx
theorem EZ{t:gq}(h:jG t)(hk:t.kind=6):t.kids.length=2:=by
 rcases((mI t).1 h).2.2 with⟨_,q,_⟩|⟨q,_⟩|⟨_,_,q⟩|⟨q,_⟩
 ·omega
 ·omega
 ·exact q
 ·omega
theorem Fx{t:gq}(h:iN t=5):t.kind=6:=by
 unfold iN at h;split at h
 ·omega
 ·omega
theorem Fy{t:gq}(h:jG t)(h0:t.kind≠0){p:ik}(hp:p∈kF t):jG p.t/\p.tag=iN p.t/\(∀x,x∈p.t.kids->jD x<jD t)/\p.opn=false:=by
 unfold kF at hp;rw[aB h0]at hp;split at hp
 ·simp at hp;subst hp;exact⟨h,rfl,λx hx=>wV hx,rfl⟩
 ·obtain⟨k,hk,rfl⟩:=aa.1 hp;exact⟨yH h hk,rfl,λx hx=>Nat.lt_trans (wV hx) (wV hk),rfl⟩
theorem DN{l:List ik}{tag:Int}(h:(jv l tag).2=true):(jv l tag).1∈l/\(jv l tag).1.tag=tag:=by
 unfold jv at h⊢;cases e:l.find? λp=>decide (p.tag=tag)with
 |none=>rw[e]at h;cases h
 |some p=>
  have h1:=fB e;have h2:=find?_some e;exact⟨h1,by simpa using h2⟩
abbrev DR(lo:Bool)(L R:List ik)(i:Nat):List (Nat × AV):=[(9,.c (.d (.int .i64 i))),(8,.c (.d (.sl false 6 (R.map ik.enc)))),(7,.c (.d (.sl false 6 (L.map ik.enc)))),(2,.c (.d (.bool lo)))]
abbrev Fz(lo:Bool)(rc:gq->gq->Bool)(a b:gq):Prop:=gu Pg 80 [.agg a.enc,.agg b.enc,.one (.bool lo)] (.one (.bool (rc a b)))
theorem zEW{c:Ctx}(hp:c.pure)(lo:Bool)(L R:List ik)(i:Nat)(q:ik)(m:gq)(rc:gq->gq->Bool)(hm:jG m)(hq:jG q.t)(hl:q.t.names.length<=1000)(ih:∀x,x∈m.kids->∀y,y∈q.t.kids->Fz lo rc x y){Q:Exit->St->Prop}{S:St}{g}{ms:List Nat}
  (h0:iM ms S ((13,.c (.d (.int .i64 0)))::(12,.c (.ptr 1 0))::(10,.c (.ptr 0 0))::DR lo L R i) [.box (q.enc.map .d),.box (m.enc.map .d)])
  (hN:A9 rc m q.t.names q.t.kids=false->∀T M n,Abs.look T 6=.c (.d (.bool false))->Q .ret ⟨T,M,n⟩)
  (hQ:A9 rc m q.t.names q.t.kids=true->∀T,Abs.look T 12=.c (.ptr 1 0)->Abs.look T 10=.c (.ptr 0 0)->Abs.look T 9=.c (.d (.int .i64 i))->Abs.look T 8=.c (.d (.sl false 6 (R.map ik.enc)))->Abs.look T 7=.c (.d (.sl false 6 (L.map ik.enc)))->Abs.look T 2=.c (.d (.bool lo))->Q (.exit 2) ⟨T,hpOf [.box (q.enc.map .d),.box (m.enc.map .d)],2⟩):lU Pg c Mv Q g S:=by
 have hnk:=Fw hq;obtain⟨F0,hF⟩:∃F0,A9 rc m q.t.names q.t.kids=F0:=⟨_,rfl⟩
 rw[hF]at hN hQ;refine fU iC hp (λj:Nat=>j<=q.t.names.length/\A9 rc m (q.t.names.drop j) (q.t.kids.drop j)=F0) (λj=>(13,.c (.d (.int .i64 j)))::(12,.c (.ptr 1 0))::(10,.c (.ptr 0 0))::DR lo L R i) (λ_=>[.box (q.enc.map .d),.box (m.enc.map .d)]) (λj=>q.t.names.length-j) 0 ms ⟨by simp,by simpa using hF⟩ h0 λj ⟨h1,h2⟩=>?_;unfold Mv;simp;apply gT<;>intro h
 ·have hj:j<q.t.names.length:=by simpa using h
  have hj2:j<q.t.kids.length:=by omega
  rw[aF hj,aF hj2,A9]at h2;have hfm:=JK m.names m.kids q.t.names[j];have hff:oJ m.names m.kids q.t.names[j]=je m q.t.names[j]:=rfl;rw[hff]at hfm;simp[hj,hj2];refine gp (NZ m _ (Fw hm)) ?_;generalize je m q.t.names[j]=f at*
  by_cases hf:f.2=true
  ·have hix:=ih _ (hfm hf) _ (aP hj2);simp only[hf,Bool.true_and]at h2;simp[hf,hj,hj2];refine⟨by decide,?_⟩;refine gp hix ?_;generalize rc f.1 q.t.kids[j]=z at*
   cases z with
   |true=>
    simp only[Bool.true_and]at h2;simp;refine⟨by decide,?_⟩;refine fJ (j+1) [0,1] ⟨by omega,h2⟩ (by omega) ?_;simp;exact wI
   |false=>
    simp only[Bool.false_and]at h2;simp;exact⟨by decide,hN h2.symm _ _ _ (by simp)⟩
  ·simp only[hf,Bool.false_and]at h2;simp[hf,hj,hj2];exact⟨by decide,by decide,hN h2.symm _ _ _ (by simp)⟩
 ·have hj:j=q.t.names.length:=by simp at h;omega
  subst hj;rw[aO,A9]at h2
  ·exact hQ h2.symm _ (by simp) (by simp) (by simp) (by simp) (by simp) (by simp)
  ·intros;contradiction
theorem x9(t:gq):1<=jD t:=by cases t;rw[jD];omega
theorem Bo{t:gq}(h:jG t):t.names.length<=16:=by
 rcases((mI t).1 h).2.2 with⟨_,_,q,_⟩|⟨_,_,q,_⟩|⟨_,q,_⟩|⟨_,q,_⟩
 ·rw[q];simp
 ·omega
 ·rw[q];simp
 ·rw[q];simp
theorem ve{t:gq}(h:jG t):t.kids.length<=16:=by
 rcases((mI t).1 h).2.2 with⟨_,_,_,q⟩|⟨_,q,r,_⟩|⟨_,_,q⟩|⟨_,_,q,_⟩
 ·rw[q];simp
 ·omega
 ·omega
 ·omega
theorem N7(t:gq):(kF t).length<=6+t.kids.length:=by
 unfold kF;split
 ·simp
 split
 ·simp;omega
 ·simp
theorem Bp{t:gq}(h:t.kids.length=2):jU t∈t.kids/\t.kids[0]?=some (jU t):=by
 unfold jU
 match t.kids,h with
 |[a,b],_=>simp
theorem Aj{t:gq}(h:t.kids.length=2):jV t∈t.kids/\t.kids[1]?=some (jV t):=by
 unfold jV
 match t.kids,h with
 |[a,b],_=>simp
theorem JL(lo:Bool):∀(n:Nat) (a b:gq),jG a->jG b->jD a+jD b<=n->Fz lo (vR lo n) a b
|0,a,b,_,_,h=>by have:=x9 a;omega
| n + 1,a,b,wa,wb,hn=>by
 refine zBY (by simp) λo c hN hp=>?_;obtain⟨F0,hF⟩:∃F0,vR lo (n+1) a b=F0:=⟨_,rfl⟩
 rw[hF];rw[vR]at hF;unfold VP;by_cases a0:a.kind=0
 ·rw[aC (.inl a0)]at hF;cases lo with
  |true=>
   simp at hF;simp[a0,hF]
  |false=>
   simp[a0]at hF;simp[a0,hF]
 by_cases b0:b.kind=0
 ·rw[aC (.inr b0)]at hF;cases lo with
  |true=>
   simp at hF;simp[a0,b0,hF]
  |false=>
   rw[<-hF];simp[a0,b0]
 rw[aB (by omega)]at hF;have hpa:=λp hp=>Fy (p:=p) wa a0 hp;have hpb:=λp hp=>Fy (p:=p) wb b0 hp;simp[a0,b0];refine gp (DL a (by have:=ve wa;omega)) ?_;simp;refine gp (DL b (by have:=ve wb;omega)) ?_;have hL:(kF a).length<=1000:=by have:=ve wa;have:=N7 a;omega
 generalize kF a=L at*
 generalize kF b=R at*
 simp;refine fU iC hp (λi:Nat=>i<=L.length/\((L.drop i).all λp=>(jv R p.tag).2&&(A9 (vR lo n) p.t (jv R p.tag).1.t.names (jv R p.tag).1.t.kids&&(!decide ((jv R p.tag).1.tag=5)||(vR lo n (jU (jv R p.tag).1.t) (jU p.t)&&vR lo n (jV p.t) (jV (jv R p.tag).1.t)))))=F0) (λi=>DR lo L R i) (λ_=>[]) (λi=>L.length-i) 0 [] ⟨by simp,by simpa using hF⟩ (by simp) λi ⟨i1,i2⟩=>?_;unfold VO;simp;apply gT<;>intro h
 ·have hi:i<L.length:=by simpa using h
  rw[aF hi,all_cons]at i2;obtain⟨p,hx⟩:∃p,L[i]=p:=⟨_,rfl⟩
  have hpm:=hpa p (by rw[<-hx];exact aP hi);rw[hx]at i2;simp[hi,hx];refine gp (zK R p.tag) ?_;have hq:=λh=>DN (l:=R) (tag:=p.tag) h;generalize jv R p.tag=q at*
  by_cases q2:q.2=true;rotate_left
  ·simp only[q2,Bool.false_and]at i2;simp[q2];simpa using i2
  obtain⟨qm,qt⟩:=hq q2;have hqm:=hpb q.1 qm;simp only[q2,Bool.true_and]at i2;simp[q2,hi,hx];refine zEW hp lo L R i q.1 p.t (vR lo n) hpm.1 hqm.1 (by have:=Bo hqm.1;omega) (λx hx y hy=>JL lo n x y (yH hpm.1 hx) (yH hqm.1 hy) (by have:=hpm.2.2.1 x hx;have:=hqm.2.2.1 y hy;omega)) (ms:=[0,1]) (by simp) (λhf T M n' t6=>?_) (λhf T t12 t10 t9 t8 t7 t2=>?_)
  ·rw[hf]at i2;simp only[Bool.false_and]at i2;simp[t6,i2]
  ·rw [hf]at i2;simp only[Bool.true_and]at i2;by_cases g5:q.1.tag=5
   ·have hk1:=EZ hqm.1 (Fx (by rw[<-hqm.2.1];exact g5));have hk2:=EZ hpm.1 (Fx (by rw[<-hpm.2.1,<-qt];exact g5));have m0:=Bp hk1;have m1:=Aj hk1;have n0:=Bp hk2;have n1:=Aj hk2;have e1:gu Pg 80 [.agg (jU q.1.t).enc,.agg (jU p.t).enc,.one (.bool lo)] (.one (.bool (vR lo n (jU q.1.t) (jU p.t)))):=JL lo n (jU q.1.t) (jU p.t) (yH hqm.1 m0.1) (yH hpm.1 n0.1) (by have:=hpm.2.2.1 _ n0.1;have:=hqm.2.2.1 _ m0.1;omega);have e2:gu Pg 80 [.agg (jV p.t).enc,.agg (jV q.1.t).enc,.one (.bool lo)] (.one (.bool (vR lo n (jV p.t) (jV q.1.t)))):=JL lo n (jV p.t) (jV q.1.t) (yH hpm.1 n1.1) (yH hqm.1 m1.1) (by have:=hpm.2.2.1 _ n1.1;have:=hqm.2.2.1 _ m1.1;omega);simp only[g5,decide_true,Bool.not_true,d9]at i2;generalize vR lo n (jU q.1.t) (jU p.t)=z1 at*
    generalize vR lo n (jV p.t) (jV q.1.t)=z2 at*
    simp[t10,t12,t2,g5,m0.2,n0.2];refine gp e1 ?_;cases z1 with
    |false=>
     simp only[Bool.false_and]at i2;simp;exact⟨by decide,i2.symm⟩
    | true=>
     simp only[Bool.true_and]at i2;simp[t10,t12,t2,m1.2,n1.2,t9];refine gp e2 ?_;cases z2 with
     |false=>
      simp only[Bool.false_and]at i2;simp;exact⟨by decide,i2.symm⟩
     |true=>
      simp only[Bool.true_and]at i2;simp[t9];refine⟨by decide,?_⟩;refine fJ (i+1) [] ⟨by omega,i2⟩ (by omega) ?_;simp[t9,t8,t7,t2];exact wI
   ·simp only[g5,decide_false,Bool.not_false,eF,Bool.true_and]at i2;simp[t10,t12,t2,g5,t9];refine⟨by decide,?_⟩;refine fJ (i+1) [] ⟨by omega,i2⟩ (by omega) ?_;simp[t9,t8,t7,t2];exact wI
 ·have hi:i=L.length:=by simp at h;omega
  subst hi;rw[aO,all_nil]at i2;simp[i2]
theorem JM(lo:Bool)(a b:gq)(wa:jG a)(wb:jG b):Fz lo (qj lo) a b:=JL lo (jD a+jD b) a b wa wb (aQ _)
theorem GA(a b:gq):gu Pg 92 [.agg a.enc,.agg b.enc] (.one (.bool (pV a b))):=by
 refine zEG (by simp) λo c hN hp=>?_;unfold VQ pV;have H:iH a=true->iH b=true->Fz false (qj false) a b:=λh k=>JM false a b (ze h) (ze k);simp;refine gp (yt a) ?_;simp;refine gp (yt b) ?_;generalize iH a=x at*
 generalize iH b=y at*
 cases x<;>cases y<;>simp;refine gp (H rfl rfl) ?_;simp
theorem Vx(a b:gq):gu Pg 55 [.agg a.enc,.agg b.enc] (.one (.bool (Aa a b))):=by
 refine zDn (by simp) λo c hN hp=>?_;unfold VR Aa;have H:iH a=true->iH b=true->Fz true (qj true) a b:=λh k=>JM true a b (ze h) (ze k);simp;refine gp (yt a) ?_;simp;refine gp (yt b) ?_;generalize iH a=x at*
 generalize iH b=y at*
 cases x<;>cases y<;>simp;refine gp (H rfl rfl) ?_;simp
abbrev N8(a b:gq)(i:Nat):List (Nat × AV):=[(9,.c (.d (.int .i64 i))),(8,.c (.ptr 2 0)),(7,.c (.ptr 1 0)),(4,.c (.ptr 0 0)),(3,.c (.d (.rp b.enc 0))),(2,.c (.d (.rp a.enc 0)))]
abbrev N9(ks:List gq):List Blk:=[uF,uF,.box [.d (.int .i64 7),.d (.str (bs [])),.d (.sl true 1 []),.msl 4 3 0 ks.length],oQ ks]
theorem zHL(a b:gq):gu Pg 139 [.agg a.enc,.agg b.enc] (.agg (yh a b).enc):=by
 refine zDo (by simp) λo c hN hp=>?_;obtain⟨R,hR⟩:∃R,yh a b=R:=⟨_,rfl⟩
 rw[hR];unfold yh at hR;unfold VT;simp;refine gp (GA a b) ?_;by_cases s1:pV a b=true
 ·rw[aC s1]at hR;subst hR;simp[s1]
 rw[aB s1]at hR;simp[s1];refine gp (GA b a) ?_;by_cases s2:pV b a=true
 ·rw[aC s2]at hR;subst hR;simp[s2]
 rw[aB s2]at hR;simp[s2];refine gp (yt a) ?_;simp;refine gp (yt b) ?_;by_cases na:iH a=true;rotate_left
 ·rw[aC (.inl (by simpa using na))]at hR;subst hR;simp[na,nQ]
 by_cases nb:iH b=true;rotate_left
 ·rw[aC (.inr (.inl (by simpa using nb)))]at hR;subst hR;simp[na,nb,nQ]
 by_cases a0:a.kind=0
 ·rw[aC (.inr (.inr (.inl a0)))]at hR;subst hR;simp[na,nb,a0,nQ]
 by_cases b0:b.kind=0
 ·rw[aC (.inr (.inr (.inr b0)))]at hR;subst hR;simp[na,nb,a0,b0,nQ]
 rw[aB (by simp[na,nb,a0,b0])]at hR;have wa:=ze na;have wb:=ze nb;simp[na,nb,a0,b0];refine fo [.c 2 3] ?_;simp;obtain⟨F0,hF⟩:∃F0,zX a b [0,1,2,3,4,5] []=F0:=⟨_,rfl⟩
 rw[hF]at hR;refine fU iC hp (λx:Nat × List gq=>x.1<=6/\x.2.length<=x.1/\zX a b (Bl x.1) x.2=F0) (λx=>N8 a b x.1) (λx=>N9 x.2) (λx=>6-x.1) (0,[]) [0,1,2,3] ⟨by simp,by simp,hF⟩ (by simp) λ⟨t,ks⟩ ⟨i1,i2,i3⟩=>?_;unfold VS;simp only at i1 i2 i3;simp;apply gT<;>intro h
 ·have ht:t<6:=by simp at h;omega
  rw[Vn ht,zX]at i3;refine gp (DL a (by have:=ve wa;omega)) ?_;simp;refine gp (zK _ _) ?_;simp;refine gp (DL b (by have:=ve wb;omega)) ?_;simp;refine gp (zK _ _) ?_;have hm:=λh=>Fy (p:=(jv (kF a) t).1) wa a0 (DN h).1;have hn:=λh=>Fy (p:=(jv (kF b) t).1) wb b0 (DN h).1;generalize jv (kF a) t=m at*
  generalize jv (kF b) t=n at*
  have hw:=wI (n:=(t:Int)+1);by_cases m2:m.2=true
  ·by_cases n2:n.2=true
   ·rw[aC ⟨m2,n2⟩]at i3;have e1:gu Pg 80 [.agg m.1.t.enc,.agg n.1.t.enc,.one (.bool false)] (.one (.bool (qj false m.1.t n.1.t))):=JM false _ _ (hm m2).1 (hn n2).1;have e2:gu Pg 80 [.agg n.1.t.enc,.agg m.1.t.enc,.one (.bool false)] (.one (.bool (qj false n.1.t m.1.t))):=JM false _ _ (hn n2).1 (hm m2).1;simp[m2,n2];refine gp e1 ?_;by_cases z1:qj false m.1.t n.1.t=true
    ·rw[aC z1]at i3;simp[z1];refine⟨by omega,?_⟩;refine fJ (t+1,ks++[n.1.t]) [0,1,2,6] ⟨by simp only;omega,by simp;omega,i3⟩ (by simp only;omega) ?_;simp[hw];exact vW ks
    rw[aB z1]at i3;simp[z1,m2,n2];refine gp e2 ?_;by_cases z2:qj false n.1.t m.1.t=true
    ·rw[aC z2]at i3;simp[z2];refine⟨by omega,?_⟩;refine fJ (t+1,ks++[m.1.t]) [0,1,2,6] ⟨by simp only;omega,by simp;omega,i3⟩ (by simp only;omega) ?_;simp[hw];exact vW ks
    rw[aB z2]at i3;rw[<-i3]at hR;simp only at hR;subst hR;simp[z2,m2,n2,nQ]
   ·rw[aB (λz=>n2 z.2),aC m2]at i3;simp[m2,n2];refine⟨by omega,?_⟩;refine fJ (t+1,ks++[m.1.t]) [0,1,2,6] ⟨by simp only;omega,by simp;omega,i3⟩ (by simp only;omega) ?_;simp[hw];exact vW ks
  ·rw[aB (λz=>m2 z.1),aB m2]at i3;by_cases n2:n.2=true
   ·rw[aC n2]at i3;simp[m2,n2];refine⟨by omega,?_⟩;refine fJ (t+1,ks++[n.1.t]) [0,1,2,6] ⟨by simp only;omega,by simp;omega,i3⟩ (by simp only;omega) ?_;simp[hw];exact vW ks
   ·rw[aB n2]at i3;simp[m2,n2];refine fJ (t+1,ks) [0,1,2,3] ⟨by simp only;omega,by simp only;omega,i3⟩ (by simp only;omega) ?_;simp[hw]
 ·have ht:t=6:=by simp at h;omega
  subst ht;rw[show Bl 6=[]from rfl,zX]at i3;rw[<-i3]at hR;simp only at hR;have hNm:gu Pg 76 [.agg [.int .i64 7,.str (bs []),.sl true 1 [],.sl false 4 (ks.map gq.enc)]] (.tup [.agg (mQ (.mk 7 (bs []) [] ks)).1.enc,.one (.int .i64 (mQ (.mk 7 (bs []) [] ks)).2)]):=gu.erd (Ag (.mk 7 (bs []) [] ks)) (by simp[EY,DV.erds,DV.erd,D.erdL,D.erd]);have z:take ks.length (List.map gq.enc ks)=List.map gq.enc ks:=aD (by simp);simp;refine fe [3] ?_;simp[iT,vW,z];refine gp hNm ?_;generalize mQ (.mk 7 (bs []) [] ks)=N at*
  by_cases n0:N.2=0
  ·rw[aC n0]at hR;subst hR;simp[iT,n0]
  ·rw[aB n0]at hR;subst hR;simp[iT,n0,nQ]
abbrev Na(t:gq)(tag:Int)(i:Nat):List (Nat × AV):=[(10,.c (.d (.int .i64 i))),(9,.c (.ptr 3 0)),(7,.c (.ptr 2 0)),(5,.c (.ptr 1 0)),(4,.c (.ptr 0 0)),(2,.c (.d (.rp t.enc 0))),(1,.c (.d (.int .i64 tag)))]
abbrev Nb(p:ik)(ks:List gq):List Blk:=[uF,uF,.box (p.enc.map .d),.box [.d (.int .i64 7),.d (.str (bs [])),.d (.sl true 1 []),.msl 4 4 0 ks.length],oQ ks]
theorem zEz(t:gq)(tag:Int):gu Pg 138 [.agg t.enc,.one (.int .i64 tag)] (.tup [.agg (vS t tag).1.enc,.agg (vS t tag).2.enc]):=by
 refine zAn (by simp) λo c hN hp=>?_;obtain⟨R,hR⟩:∃R,vS t tag=R:=⟨_,rfl⟩
 rw[hR];unfold vS at hR;unfold VV;simp;refine gp (yt t) ?_;by_cases na:iH t=true;rotate_left
 ·rw[aC (.inl (by simpa using na))]at hR;subst hR;simp[na];try decide
 by_cases t1:tag<0
 ·rw[aC (.inr (.inl t1))]at hR;subst hR;simp[na,t1];try decide
 by_cases t2:6<=tag
 ·rw[aC (.inr (.inr t2))]at hR;subst hR;simp[na,t1,t2];try decide
 rw[aB (by simp[na];omega)]at hR;have wt:=ze na;by_cases k0:t.kind=0
 ·rw[aC k0]at hR;by_cases t5:tag=5
  ·rw[aC t5]at hR;subst hR;simp[na,t1,t2,k0,t5];try decide
  ·rw[aB t5]at hR;subst hR;have hw:=wI (n:=1+tag);simp[na,t1,t2,k0,t5,hw];exact⟨by decide,by rw[vY]⟩
 rw[aB k0]at hR;simp[na,t1,t2,k0];refine gp (DL t (by have:=ve wt;omega)) ?_;simp;refine gp (zK _ _) ?_;generalize jv (kF t) tag=p at*
 by_cases p2:p.2=true;rotate_left
 ·rw[aC (by simpa using p2)]at hR;subst hR;simp[p2];try decide
 rw[aB (by simp[p2])]at hR;by_cases k7:t.kind=7;rotate_left
 ·rw[aC k7]at hR;subst hR;simp[p2,k7];try decide
 rw[aB (λz=>z k7)]at hR;simp[p2,k7];refine fo [.c 3 3] ?_;simp;have hkl:=ve wt;obtain⟨F0,hF⟩:∃F0,t.kids.filter (λk=>decide (iN k≠tag))=F0:=⟨_,rfl⟩
 rw[hF]at hR;refine fU iC hp (λx:Nat × List gq=>x.1<=t.kids.length/\x.2.length<=x.1/\x.2++(t.kids.drop x.1).filter (λk=>decide (iN k≠tag))=F0) (λx=>Na t tag x.1) (λx=>Nb p.1 x.2) (λx=>t.kids.length-x.1) (0,[]) [0,1,2,3,4] ⟨by simp,by simp,by simpa using hF⟩ (by simp) λ⟨j,ks⟩ ⟨i1,i2,i3⟩=>?_;unfold VU;simp only at i1 i2 i3;simp;apply gT<;>intro h
 ·have hj:j<t.kids.length:=by simpa using h
  rw[aF hj,dS]at i3;obtain⟨x,hx⟩:∃x,t.kids[j]=x:=⟨_,rfl⟩
  rw[hx]at i3;have hw:=wI (n:=(j:Int)+1);simp[hj,hx];refine gp (DD x) ?_;by_cases q:iN x=tag
  ·rw[aB (by simp[q])]at i3;simp[q];refine fJ (j+1,ks) [0,1,2,3,4] ⟨by simp only;omega,by simp only;omega,i3⟩ (by simp only;omega) ?_;simp[hw]
  ·rw[aC (by simp[q])]at i3;simp[q,hj,hx];refine⟨by omega,by decide,?_⟩;refine fJ (j+1,ks++[x]) [0,1,2,3,5] ⟨by simp only;omega,by simp;omega,by simpa using i3⟩ (by simp only;omega) ?_;simp[hw];exact vW ks
 ·have hj:j=t.kids.length:=by simp at h;omega
  subst hj;rw[aO,filter_nil,bN]at i3;subst i3;have z:take ks.length (List.map gq.enc ks)=List.map gq.enc ks:=aD (by simp)
  match ks,i2,hR,z with
  |[x],i2,hR,z=>
   simp only at hR;subst hR;simp;decide
  |[],i2,hR,z=>
   simp only at hR;subst hR;simp[EY];decide
  |x::y::l2,i2,hR,z=>
   simp only at hR;subst hR;have h1:¬((l2.length:Int)+1+1=1):=by omega
   simp[h1,EY,oK];decide
end Go.Gr
namespace Go.Abs
theorem MCall.frzV{P:Program}{f:FuncId}{args:List AV}{bs:List Blk}{ds:List DV}{V:DV}(hp:gu P f ds V)(hd:∀(h h':PH) (v:Value),kR h V v->kR h' V v)(e:zL (hpOf bs) args=some ds)
  (h1:(bs.all λb=>b.tag !=0)=true) (h2:(bs.all λb=>b.lv (live bs))=true) (h3:V.av.lv (live bs)=true):MCall P f args bs V.av bs:=by
 refine⟨hp.1,aQ _,Ba h1,h3,λb hb=>ah.1 h2 b hb,λh ρ w argsC H hG r=>?_⟩;have k:=I1 (n:=0) H (λ_ _ _ _=>dL _) args ds argsC e r;refine(hp.2 (uL h 0 w.heap) w argsC (Lj H) (hG.mono (FD H)) k).mono λe w' hh=>?_;obtain⟨vC,h',e1,e2,e3,e4,e5,e6,e7,e8⟩:=hh;have hx:∀B,B<w.heap.size->w'.heap[B]?=w.heap[B]?:=e6;have hP:∀B o,h B=some o->w'.heap[B]?=some o:=λB o he=>by
  rw[e6 B (H.lt he)];exact H.pers B o he
 exact⟨vC,h,ρ,e1,⟨λ_ _ he=>he,λB hB _=>rfl,e5,λB hB _=>e6 B hB,λb p hp hr=>.inr ⟨b,p,hp,hr,rfl⟩⟩,H.grow (λ_ _ he=>he) hP (λB hB _=>⟨e6 B hB,rfl⟩),e7,kR.av (hd _ _ _ e8),λ_ _=>rfl⟩
end Go.Abs
namespace Go.Gr
open Go.Abs Go.Proofs
@[simp] theorem jI.enc_length(e:jI):e.enc.length=3:=rfl
@[simp] theorem jI.enc_0(e:jI):e.enc[0]?=some (.str e.name):=rfl
@[simp] theorem jI.enc_1(e:jI):e.enc[1]?=some (.int .i64 e.module):=rfl
@[simp] theorem jI.enc_2(e:jI):e.enc[2]?=some (.int .i64 e.decl):=rfl
@[simp] theorem jI.enc_g0(e:jI)(h:0<e.enc.length):e.enc[0]=.str e.name:=rfl
@[simp] theorem jI.cut_enc(e:jI):cut e.enc 0 3=e.enc:=rfl
@[simp] theorem jI.cut_map(e:jI):cut (e.enc.map AC.d) 0 3=e.enc.map .d:=rfl
@[simp] theorem jI.er_map(e:jI):e.enc.map D.er=e.enc:=rfl
@[simp] theorem jZ.enc_0(m:jZ):m.enc[0]?=some (.sl false 4 (m.imps.map jr.enc)):=rfl
@[simp] theorem jZ.enc_1(m:jZ):m.enc[1]?=some (.sl false 15 (m.decs.map jd.enc)):=rfl
@[simp] theorem jZ.enc_g0(m:jZ)(h:0<m.enc.length):m.enc[0]=.sl false 4 (m.imps.map jr.enc):=rfl
@[simp] theorem jZ.enc_g1(m:jZ)(h:1<m.enc.length):m.enc[1]=.sl false 15 (m.decs.map jd.enc):=rfl
@[simp] theorem jd.enc_0(d:jd):d.enc[0]?=some (.str d.name):=rfl
@[simp] theorem jd.enc_1(d:jd):d.enc[1]?=some (.bool d.exp):=rfl
@[simp] theorem jd.enc_2(d:jd):d.enc[2]?=some (.sl false 5 (d.vars.map jA)):=rfl
@[simp] theorem jd.enc_3(d:jd):d.enc[3]?=some (.str d.param):=rfl
@[simp] theorem jd.enc_4(d:jd):d.enc[4]?=some (.sl false 4 (d.types.map gq.enc)):=rfl
theorem jd.enc_13(d:jd):d.enc[13]?=some (.int .i64 d.line):=by unfold jd.enc;rw[gz.enc_eq];try rfl
theorem jd.enc_14(d:jd):d.enc[14]?=some (.int .i64 d.col):=by unfold jd.enc;rw[gz.enc_eq];try rfl
attribute [simp] jd.enc_13 jd.enc_14
@[simp] theorem jd.enc_g0(d:jd)(h:0<d.enc.length):d.enc[0]=.str d.name:=rfl
@[simp] theorem jd.enc_g1(d:jd)(h:1<d.enc.length):d.enc[1]=.bool d.exp:=rfl
@[simp] theorem jd.enc_g2(d:jd)(h:2<d.enc.length):d.enc[2]=.sl false 5 (d.vars.map jA):=rfl
@[simp] theorem jd.enc_g13(d:jd)(h:13<d.enc.length):d.enc[13]=.int .i64 d.line:=by have:=d.enc_13;rw[aA h]at this;exact bP this
@[simp] theorem jd.enc_g14(d:jd)(h:14<d.enc.length):d.enc[14]=.int .i64 d.col:=by have:=d.enc_14;rw[aA h]at this;exact bP this
@[simp] theorem jr.enc_0(x:jr):x.enc[0]?=some (.str x.from_):=rfl
@[simp] theorem jr.enc_1(x:jr):x.enc[1]?=some (.sl false 1 (encS x.names)):=rfl
@[simp] theorem jr.enc_2(x:jr):x.enc[2]?=some (.int .i64 x.line):=rfl
@[simp] theorem jr.enc_3(x:jr):x.enc[3]?=some (.int .i64 x.col):=rfl
@[simp] theorem jr.enc_g0(x:jr)(h:0<x.enc.length):x.enc[0]=.str x.from_:=rfl
@[simp] theorem jr.enc_g1(x:jr)(h:1<x.enc.length):x.enc[1]=.sl false 1 (encS x.names):=rfl
@[simp] theorem jr.enc_g2(x:jr)(h:2<x.enc.length):x.enc[2]=.int .i64 x.line:=rfl
@[simp] theorem jr.enc_g3(x:jr)(h:3<x.enc.length):x.enc[3]=.int .i64 x.col:=rfl
@[simp] theorem jr.cut_enc(x:jr):cut x.enc 0 4=x.enc:=rfl
@[simp] theorem jr.cut_map(x:jr):cut (x.enc.map AC.d) 0 4=x.enc.map .d:=rfl
def qw(s:List jI):List D:=[.sl false 3 (s.map jI.enc)]
theorem iV.enc_eq(l:iV):l.enc=[.sl false 1 (encS l.names),.sl false 2 (l.mods.map jZ.enc),.sl false 1 (l.scopes.map qw),.str l.main.name,.int .i64 l.main.module,.int .i64 l.main.decl]:=rfl
@[simp] theorem iV.enc_length(l:iV):l.enc.length=6:=rfl
@[simp] theorem iV.enc_0(l:iV):l.enc[0]?=some (.sl false 1 (encS l.names)):=rfl
@[simp] theorem iV.enc_1(l:iV):l.enc[1]?=some (.sl false 2 (l.mods.map jZ.enc)):=rfl
@[simp] theorem iV.enc_2(l:iV):l.enc[2]?=some (.sl false 1 (l.scopes.map qw)):=rfl
@[simp] theorem iV.enc_g0(l:iV)(h:0<l.enc.length):l.enc[0]=.sl false 1 (encS l.names):=rfl
@[simp] theorem iV.enc_g1(l:iV)(h:1<l.enc.length):l.enc[1]=.sl false 2 (l.mods.map jZ.enc):=rfl
@[simp] theorem iV.enc_g2(l:iV)(h:2<l.enc.length):l.enc[2]=.sl false 1 (l.scopes.map qw):=rfl
@[simp] theorem iV.cut_enc(l:iV):cut l.enc 0 6=l.enc:=rfl
@[simp] theorem iV.cut_map(l:iV):cut (l.enc.map AC.d) 0 6=l.enc.map .d:=rfl
@[simp] theorem iV.er_map(l:iV):l.enc.map D.er=l.enc:=rfl
theorem GD{α:Type}(q:α->Bool):∀(j:Nat) (l:List α),fi q j l= -1\/((j:Int)<=fi q j l/\fi q j l<j+l.length)
|j,[]=>.inl rfl
| j,x::l=>by
 unfold fi;split
 ·exact .inr ⟨Int.le_refl _,by simp;omega⟩
 ·rcases GD q (j+1) l with h|h
  ·exact .inl h
  ·exact .inr ⟨by omega,by simp;omega⟩
theorem GG(names:List fI)(s:fI):gu Pg 31 [.one (.sl false 1 (encS names)),.one (.str s)] (.one (.int .i64 (kD names s))):=by
 refine zAo (by simp) λo c hN hp=>?_;have hl:names.length<=zah:=by have:=o.1;simp only[DV.ok,D.ok,Bc]at this;exact this.1
 unfold zah at hl;unfold VX kD;obtain⟨R,hR⟩:∃R,fi (λn=>decide (n=s)) 0 names=R:=⟨_,rfl⟩
 rw[hR];simp;refine fU iC hp (λj:Nat=>j<=names.length/\fi (λn=>decide (n=s)) j (names.drop j)=R) (λj=>[(5,.c (.d (.int .i64 j))),(1,.c (.d (.str s))),(0,.c (.d (.sl false 1 (encS names))))]) (λ_=>[]) (λj=>names.length-j) 0 [] ⟨by simp,by simpa using hR⟩ (by simp) λj ⟨h1,h2⟩=>?_;unfold VW;simp;apply gT<;>intro h
 ·have hj:j<names.length:=by simpa using h
  rw[aF hj,fi]at h2;by_cases q:names[j]=s
  ·rw[aC (by simpa using q)]at h2;subst h2;simp[hj,q]
  ·rw[aB (by simpa using q)]at h2;simp[hj,q];refine fJ (j+1) [] ⟨by omega,h2⟩ (by omega) ?_;simp;exact wI
 ·have hj:j=names.length:=by simp at h;omega
  subst hj;rw[aO,fi]at h2;subst h2;simp
theorem Vy(m:jZ)(s:fI)(hm:m.decs.length<=100000):gu Pg 32 [.agg m.enc,.one (.str s)] (.one (.int .i64 (uE m s))):=by
 refine zDq (by simp) λo c hN hp=>?_;unfold V6 uE;obtain⟨R,hR⟩:∃R,fi (λd:jd=>decide (d.name=s)) 0 m.decs=R:=⟨_,rfl⟩
 rw[hR];simp;refine fU iC hp (λj:Nat=>j<=m.decs.length/\fi (λd:jd=>decide (d.name=s)) j (m.decs.drop j)=R) (λj=>[(5,.c (.d (.int .i64 j))),(2,.c (.d (.rp m.enc 0))),(1,.c (.d (.str s)))]) (λ_=>[]) (λj=>m.decs.length-j) 0 [] ⟨by simp,by simpa using hR⟩ (by simp) λj ⟨h1,h2⟩=>?_;unfold V5;simp;apply gT<;>intro h
 ·have hj:j<m.decs.length:=by simpa using h
  rw[aF hj,fi]at h2;by_cases q:m.decs[j].name=s
  ·rw[aC (by simpa using q)]at h2;subst h2;simp[hj,q]
  ·rw[aB (by simpa using q)]at h2;simp[hj,q];refine fJ (j+1) [] ⟨by omega,h2⟩ (by omega) ?_;simp;exact wI
 ·have hj:j=m.decs.length:=by simp at h;omega
  subst hj;rw[aO,fi]at h2;subst h2;simp
abbrev yu(r:jI × Bool):DV:=.tup [.agg r.1.enc,.one (.bool r.2)]
theorem Vz(l:List jI)(s:fI):gu Pg 48 [.one (.sl false 3 (l.map jI.enc)),.one (.str s)] (yu (ql l s)):=by
 refine zDp (by simp) λo c hN hp=>?_;have hl:l.length<=zah:=by have:=o.1;simp only[DV.ok,D.ok,aU]at this;exact this.1
 unfold zah at hl;obtain⟨R,hR⟩:∃R,ql l s=R:=⟨_,rfl⟩
 rw[hR];unfold V4;simp;refine fU iC hp (λj:Nat=>j<=l.length/\ql (l.drop j) s=R) (λj=>[(6,.c (.d (.int .i64 j))),(4,.c (.ptr 0 0)),(1,.c (.d (.str s))),(0,.c (.d (.sl false 3 (l.map jI.enc))))]) (λ_=>[.box [.d (.str (bs [])),.d (.int .i64 0),.d (.int .i64 0)]]) (λj=>l.length-j) 0 [0] ⟨by simp,by simpa using hR⟩ (by simp) λj ⟨h1,h2⟩=>?_;unfold V3;simp;apply gT<;>intro h
 ·have hj:j<l.length:=by simpa using h
  rw[aF hj,ql]at h2;by_cases q:l[j].name=s
  ·rw[aC q]at h2;subst h2;simp[hj,q]
  ·rw[aB q]at h2;simp[hj,q];refine fJ (j+1) [0] ⟨by omega,h2⟩ (by omega) ?_;simp;exact wI
 ·have hj:j=l.length:=by simp at h;omega
  subst hj;rw[aO,ql]at h2;subst h2;simp;rfl
theorem zFG(r:jI × Bool):∀(h h':PH) (v:Value),kR h (yu r) v->kR h' (yu r) v:=λh h' v q=>by
 simp only[yu,kR]at q⊢;obtain⟨vs,e,r⟩:=q;refine⟨vs,e,?_⟩;rcases vs with _|⟨v1,_|⟨v2,vs⟩⟩
 ·simp[ji]at r
 ·simp[ji]at r
 ·simp only[ji]at r⊢;refine⟨?_,by simpa[kR,RepD]using r.2.1,r.2.2⟩;have r1:=r.1;simp only[kR]at r1⊢;obtain⟨us,e1,e2,e3⟩:=r1;refine⟨us,e1,e2,?_⟩;rcases us with _|⟨u1,_|⟨u2,_|⟨u3,us⟩⟩⟩
  ·simp at e2
  ·simp at e2
  ·simp at e2
  ·simpa[jI.enc,RepL,RepD]using e3
theorem WA(l:List jI)(s:fI):MCall Pg 48 [.c (.msl 3 0 0 l.length),.c (.d (.str s))] [.arr 3 ((l.map jI.enc).map (·.map .d))] (.tup [.ag ((ql l s).1.enc.map .d),.c (.d (.bool (ql l s).2))]) [.arr 3 ((l.map jI.enc).map (·.map .d))]:=by
 have:=MCall.frzV (bs:=[.arr 3 ((l.map jI.enc).map (·.map .d))]) (args:=[.c (.msl 3 0 0 l.length),.c (.d (.str s))]) (Vz l s) (zFG _) (by simp[oK]) (by simp) (by simp) (by simp[jI.enc]);simpa[yu,DV.av,DV.avs]using this
theorem zEd(names:List fI)(s:fI):MCall Pg 31 [.c (.msl 1 0 0 names.length),.c (.d (.str s))] [.arr 1 ((encS names).map (·.map .d))] (.c (.d (.int .i64 (kD names s)))) [.arr 1 ((encS names).map (·.map .d))]:=
 MCall.frzI (GG names s) (by simp[oK,aD]) (by simp) (by simp)
theorem zIp(d:iY)(i:Int):put (d.enc.map AC.d) 0 [.d (.int .i64 i)]=(⟨i,d.line,d.col,d.e⟩:iY).enc.map .d:=rfl
def lX(s:fI × fI):List D:=[.str s.1,.str s.2]
@[simp] theorem zJg(s:fI × fI):(lX s).length=2:=rfl
@[simp] theorem zLo(s:fI × fI):(lX s)[0]?=some (.str s.1):=rfl
@[simp] theorem zLp(s:fI × fI):(lX s)[1]?=some (.str s.2):=rfl
@[simp] theorem zK8(s:fI × fI)(h:0<(lX s).length):(lX s)[0]=.str s.1:=rfl
@[simp] theorem zK9(s:fI × fI)(h:1<(lX s).length):(lX s)[1]=.str s.2:=rfl
def yw(x:List fI × List jZ):iV:=⟨x.1,x.2,[],Ab⟩
abbrev lkZ:Blk:=.box [.d (.sl true 1 []),.d (.sl true 2 []),.d (.sl true 1 []),.d (.str (bs [])),.d (.int .i64 0),.d (.int .i64 0)]
abbrev Nc(l:List (fI × fI))(i nb:Nat):List (Nat × AV):=[(6,.c (.d (.int .i64 i))),(5,.c (.msl 4 4 0 nb)),(4,.c (.ptr 1 0)),(2,.c (.ptr 0 0)),(0,.c (.d (.sl false 2 (l.map lX))))]
abbrev mJ(bad:List iY):Blk:=.arr 4 ((bad.map iY.enc).map (·.map .d))
abbrev Nf(ns:List fI)(ms:List jZ)(bad:List iY):List Blk:=[lkZ,.box [.msl 1 2 0 ns.length,.msl 2 3 0 ms.length,.d (.sl true 1 []),.d (.str (bs [])),.d (.int .i64 0),.d (.int .i64 0)],.arr 1 ((encS ns).map (·.map .d)),.arr 2 ((ms.map jZ.enc).map (·.map .d)),mJ bad]
theorem zHi(l:List (fI × fI)):gu Pg 28 [.one (.sl false 2 (l.map lX))] (.tup [.agg (yw (u6 l).1).enc,.one (.sl false 4 ((u6 l).2.map iY.enc))]):=by
 refine zBZ (by simp) λo c hN hp=>?_;obtain⟨R,hR⟩:∃R,u6 l=R:=⟨_,rfl⟩
 rw[hR];unfold u6 at hR;unfold VZ;by_cases h16:16<l.length
 ·have h16':(16:Int)<l.length:=by omega
  rw[aC h16]at hR;subst hR;simp[h16'];exact⟨rfl,rfl⟩
 have h16':¬(16:Int)<l.length:=by omega
 rw[aB h16]at hR;simp[h16,h16'];refine fo [.c 1 0,.c 1 1,.t 5] ?_;simp;refine fU iC hp (λx:Nat × List fI × List jZ × List iY=>x.1<=l.length/\x.2.1.length=x.1/\x.2.2.1.length=x.1/\x.2.2.2.length<=x.1/\rM (l.drop x.1) x.1 x.2.1 x.2.2.1 x.2.2.2=R) (λx=>Nc l x.1 x.2.2.2.length) (λx=>Nf x.2.1 x.2.2.1 x.2.2.2) (λx=>l.length-x.1) (0,[],[],[]) [0,1,2,3,4] ⟨by simp,rfl,rfl,by simp,by simpa using hR⟩ (by simp[encS]) λ⟨i,ns,ms,bad⟩ ⟨i1,i2,i3,i4,i5⟩=>?_;unfold VY;simp only at i1 i2 i3 i4 i5;simp;apply gT<;>intro h
 ·have hi:i<l.length:=by simpa using h
  obtain⟨s,hs⟩:∃s,l[i]=s:=⟨_,rfl⟩
  rw[aF hi,hs,rM]at i5;have hw:=wI (n:=(i:Int)+1);have hmz:=zEd ns s.1;simp[hi,hs];refine gp (Iw s.1) ?_;simp[hi,hs];refine gp (zGm s.2) ?_;generalize qW s.2=m at*
  simp[hi,hs];refine gU [2] hmz ?_;generalize kD ns s.1=z at*
  simp[hi,hs];refine⟨by decide,by omega,by decide,by omega,?_⟩;by_cases n1:nG s.1=true;rotate_left
  ·rw[aC (by simpa using n1)]at i5;simp[n1];refine⟨by omega,?_⟩;refine fJ (i+1,ns++[s.1],ms++[m.1],bad++[⟨i,1,1,10⟩]) [0,1,7,8,9] ⟨by simp only;omega,by simp[i2],by simp[i3],by simp;omega,i5⟩ (by simp only;omega) ?_;simp[hw,iY.enc];exact⟨aD (by simp),oK _ _,oK _ _⟩
  rw[aB (by simpa using n1)]at i5;by_cases z1:0<=z
  ·rw[aC z1]at i5;simp[n1,z1];refine⟨by omega,?_⟩;refine fJ (i+1,ns++[s.1],ms++[m.1],bad++[⟨i,1,1,8⟩]) [0,1,7,8,9] ⟨by simp only;omega,by simp[i2],by simp[i3],by simp;omega,i5⟩ (by simp only;omega) ?_;simp[hw,iY.enc];exact⟨aD (by simp),oK _ _,oK _ _⟩
  rw[aB z1]at i5;by_cases e0:m.2.e=0
  ·rw[aB (by simp[e0])]at i5;simp[n1,z1,e0];refine fJ (i+1,ns++[s.1],ms++[m.1],bad) [0,1,7,8,4] ⟨by simp only;omega,by simp[i2],by simp[i3],by simp only;omega,i5⟩ (by simp only;omega) ?_;simp[hw,iY.enc];exact⟨aD (by simp),oK _ _⟩
  ·rw[aC e0]at i5;simp[n1,z1,e0,zIp];refine⟨by omega,?_⟩;refine fJ (i+1,ns++[s.1],ms++[m.1],bad++[⟨i,m.2.line,m.2.col,m.2.e⟩]) [0,1,7,8,9] ⟨by simp only;omega,by simp[i2],by simp[i3],by simp;omega,i5⟩ (by simp only;omega) ?_;simp[hw];exact⟨aD (by simp),oK _ _,oK _ _⟩
 ·have hi:i=l.length:=by simp at h;omega
  subst hi;rw[aO,rM]at i5;subst i5;simp[oK,yw,iV.enc_eq];exact⟨aD (by simp),rfl,rfl,rfl⟩
end Go.Gr
namespace Go.Gr
open Go.Abs Go.Proofs List
@[simp] theorem zLa(l:List fI)(j:Nat)(h:j<(encS l).length):(encS l)[j]=[.str (l[j]'(by simpa using h))]:=by simp[encS]
structure lY (m:jZ):Prop where
 imps:m.imps.length<=10001
 names:∀x,x∈m.imps->x.names.length<=10001
 decs:m.decs.length<=10001
def Ak(p:iV):Prop:=p.mods.length<=16/\p.names.length=p.mods.length/\∀m,m∈p.mods->lY m
abbrev Al(sc:List jI):Blk:=.arr 3 ((sc.map jI.enc).map (·.map .d))
theorem WB(m:jZ)(s:fI):uE m s= -1\/(0<=uE m s/\uE m s<m.decs.length):=by
 have:=GD (λd:jd=>decide (d.name=s)) 0 m.decs;unfold uE;omega
theorem JN(ns:List fI)(s:fI):kD ns s= -1\/(0<=kD ns s/\kD ns s<ns.length):=by
 have:=GD (λn=>decide (n=s)) 0 ns;unfold kD;omega
theorem getD_in{α:Type}(l:List α)(d:α){z:Int}{n:Int}(hn:n=l.length)(h0:0<=z)(h1:z<n):l[z.toNat]?=some (l.getD z.toNat d)/\l.getD z.toNat d∈l:=by
 have h:z.toNat<l.length:=by omega
 rw[aH,aA h];exact⟨rfl,aP h⟩
theorem JO(M:jZ)(m i:Int)(x:jr):∀(l:List fI) (sc:List jI) (bad:List iY),(oo M m i x l sc bad).1.length<=sc.length+l.length/\(oo M m i x l sc bad).2.length<=bad.length+l.length
|[],sc,bad=>by simp[oo]
|s::l,sc,bad=>by
 rw[oo];split
 ·have:=JO M m i x l sc (bad++[⟨i,x.line,x.col,12⟩]);simp at this⊢;omega
 split
 ·have:=JO M m i x l sc (bad++[⟨i,x.line,x.col,8⟩]);simp at this⊢;omega
 ·have:=JO M m i x l (sc++[⟨s,m,uE M s⟩]) bad;simp at this⊢;omega
theorem zBP(ns:List fI)(ms:List jZ)(i:Int)(x:jr)(sc:List jI):(yF ns ms i x sc).1.length<=sc.length+x.names.length/\(yF ns ms i x sc).2.length<=1+x.names.length:=by
 unfold yF;split
 ·simp
 ·have:=JO (ms.getD (kD ns x.from_).toNat om) (kD ns x.from_) i x x.names sc [];simp only[length_nil,Nat.zero_add]at this;exact⟨this.1,by omega⟩
abbrev Ng(p:iV)(x:jr)(m j n nb:Nat):List (Nat × AV):=[(13,.c (.d (.int .i64 j))),(12,.c (.d (.int .i64 m))),(11,.c (.ptr 1 0)),(10,.c (.msl 4 2 0 nb)),(6,.c (.d (.rp x.enc 0))),(4,.c (.d (.rp p.enc 0))),(3,.c (.msl 3 0 0 n))]
abbrev dBx(i:Int)(x:jr)(e:Int):Blk:=.box [.d (.int .i64 i),.d (.int .i64 x.line),.d (.int .i64 x.col),.d (.int .i64 e)]
theorem zCr(p:iV)(hp':Ak p)(i:Int)(x:jr)(hx:x.names.length<=10001)(sc:List jI)(hsc:sc.length<=1000000000):
  MCall Pg 47 [.ag (p.enc.map .d),.c (.d (.int .i64 i)),.ag (x.enc.map .d),.c (.msl 3 0 0 sc.length)] [Al sc]
   (.tup [.c (.msl 3 1 0 (yF p.names p.mods i x sc).1.length),.c (.d (.sl false 4 ((yF p.names p.mods i x sc).2.map iY.enc)))]) [.dead,Al (yF p.names p.mods i x sc).1]:=by
 refine zxT ⟨by simp,by simp,by simp,by simp,by simp,by simp;rfl,by simp⟩ λts hts ok hb c hN hp=>?_;obtain⟨t,rfl⟩:=mF hts;obtain⟨R,hR⟩:∃R,yF p.names p.mods i x sc=R:=⟨_,rfl⟩
 rw[hR];unfold yF at hR;have hmz:=GG p.names x.from_;have hml:=JN p.names x.from_;unfold V8;simp;refine gp hmz ?_;generalize kD p.names x.from_=z at*
 by_cases z0:z<0
 ·rw[aC z0]at hR;subst hR;simp[z0];refine⟨by decide,?_⟩;refine fe [] ?_;simp;exact fO [1,0] [1] (by simp[iY.enc,AV.erds,AV.erd])
 rw[aB z0]at hR;obtain⟨g1,g2⟩:=getD_in p.mods om (z:=z) (n:=p.names.length) (by rw[hp'.2.1]) (by omega) (by omega);generalize p.mods.getD z.toNat om=M at*
 have hM:=hp'.2.2 M g2;have h16:=hp'.1;have hnm:=hp'.2.1;obtain⟨zn,rfl⟩:∃zn:Nat,z=zn:=⟨z.toNat,by omega⟩
 simp only[az]at g1;simp[z0];refine fo [.t 10] ?_;simp;refine fU iC hp (λy:Nat × List jI × List iY × Int=>y.1<=x.names.length/\y.2.1.length<=sc.length+y.1/\y.2.2.1.length<=y.1/\oo M zn i x (x.names.drop y.1) y.2.1 y.2.2.1=R) (λy=>Ng p x zn y.1 y.2.1.length y.2.2.1.length) (λy=>[Al y.2.1,dBx i x y.2.2.2,mJ y.2.2.1]) (λy=>x.names.length-y.1) (0,sc,[],11) [0,2,3] ⟨by simp,by simp,by simp,by simpa using hR⟩ (by simp) λ⟨j,s,bad,e⟩ ⟨i1,i2,i3,i4⟩=>?_;unfold V7;simp only at i1 i2 i3 i4;simp;apply gT<;>intro h
 ·have hj:j<x.names.length:=by simpa using h
  obtain⟨n,hn⟩:∃n,x.names[j]=n:=⟨_,rfl⟩
  rw[aF hj,hn,oo]at i4;have hw:=wI (n:=(j:Int)+1);have hdl:=WB M n;have hfm:=WA s n;simp[hj,hn,g1];refine gp (Vy M n (by have:=hM.decs;omega)) ?_;simp[hj,hn];refine⟨by decide,?_⟩;refine gU [0] hfm ?_;generalize ql s n=f at*
  generalize uE M n=k at*
  simp;by_cases k0:k<0
  ·rw[aC (.inl k0)]at i4;simp[k0];refine⟨by omega,?_⟩;refine fJ (j+1,s,bad++[⟨i,x.line,x.col,12⟩],12) [0,1,4] ⟨by simp only;omega,by simp only;omega,by simp;omega,i4⟩ (by simp only;omega) ?_;simp[hw,iY.enc];exact oK _ _
  obtain⟨g3,g4⟩:=getD_in M.decs Bh (z:=k) (n:=M.decs.length) rfl (by omega) (by omega);generalize M.decs.getD k.toNat Bh=d at*
  obtain⟨kn,rfl⟩:∃kn:Nat,k=kn:=⟨k.toNat,by omega⟩
  simp only[az]at g3;by_cases ex:d.exp=true;rotate_left
  ·rw[aC (.inr (by simpa using ex))]at i4;simp[k0,g1,g3,ex];refine⟨by omega,?_⟩;refine fJ (j+1,s,bad++[⟨i,x.line,x.col,12⟩],12) [0,1,4] ⟨by simp only;omega,by simp only;omega,by simp;omega,i4⟩ (by simp only;omega) ?_;simp[hw,iY.enc];exact oK _ _
  by_cases f2:f.2=true
  ·rw[aB (by simp[k0,ex]),aC f2]at i4;simp[k0,g1,g3,ex,f2];refine⟨by omega,?_⟩;refine fJ (j+1,s,bad++[⟨i,x.line,x.col,8⟩],8) [0,1,4] ⟨by simp only;omega,by simp only;omega,by simp;omega,i4⟩ (by simp only;omega) ?_;simp[hw,iY.enc];exact oK _ _
  ·rw[aB (by simp[k0,ex]),aB f2]at i4;simp[k0,g1,g3,ex,f2,hj,hn];refine⟨by omega,?_⟩;refine fJ (j+1,s++[⟨n,zn,kn⟩],bad,e) [4,1,2] ⟨by simp only;omega,by simp;omega,by simp only;omega,i4⟩ (by simp only;omega) ?_;simp[hw,jI.enc];exact oK _ _
 ·have hj:j=x.names.length:=by simp at h;omega
  subst hj;rw[aO,oo]at i4;subst i4;simp;refine fe [2] ?_;simp[iT,oK];exact fT [1,0] [1] (by simp[iT])
abbrev allA(all:List (List jI)):Blk:=.arr 1 ((all.map qw).map (·.map .d))
abbrev Am(p:iV)(i na nb n:Nat):List (Nat × AV):=[(8,.c (.ptr 2 0)),(7,.c (.msl 3 3 0 n)),(6,.c (.d (.int .i64 i))),(5,.c (.msl 4 1 0 nb)),(4,.c (.msl 1 0 0 na)),(1,.c (.d (.rp p.enc 0)))]
abbrev xc(all:List (List jI))(bad:List iY)(m:jZ)(sc:List jI):List Blk:=[allA all,mJ bad,.box (m.enc.map .d),Al sc]
theorem zDS{c:Ctx}(hp:c.pure)(p:iV)(hp':Ak p)(i:Nat)(m:jZ)(hm:lY m)(all:List (List jI))(b0:List iY)(hb0:b0.length<=10000000000)(F0:List jI × List iY)(hF:zY p.names p.mods i m.imps [] b0=F0){Q:Exit->St->Prop}{S:St}{g}{ms:List Nat}
  (h0:iM ms S ((9,.c (.d (.int .i64 0)))::Am p i all.length b0.length 0) (xc all b0 m []))
  (hQ:F0.1.length<=100020001->F0.2.length<=b0.length+100030002->∀T,Abs.look T 8=.c (.ptr 2 0)->Abs.look T 7=.c (.msl 3 3 0 F0.1.length)->Abs.look T 6=.c (.d (.int .i64 i))->Abs.look T 5=.c (.msl 4 1 0 F0.2.length)->Abs.look T 4=.c (.msl 1 0 0 all.length)->Abs.look T 1=.c (.d (.rp p.enc 0))->Q (.exit 2) ⟨T,hpOf (xc all F0.2 m F0.1),4⟩):lU Pg c Mw Q g S:=by
 have hmi:=hm.imps;refine fU iC hp (λy:Nat × List jI × List iY=>y.1<=m.imps.length/\y.2.1.length<=y.1*10001/\y.2.2.length<=b0.length+y.1*10002/\zY p.names p.mods i (m.imps.drop y.1) y.2.1 y.2.2=F0) (λy=>(9,.c (.d (.int .i64 y.1)))::Am p i all.length y.2.2.length y.2.1.length) (λy=>xc all y.2.2 m y.2.1) (λy=>m.imps.length-y.1) (0,[],b0) ms ⟨by simp,by simp,by simp,by simpa using hF⟩ h0 λ⟨k,sc,bad⟩ ⟨i1,i2,i3,i4⟩=>?_;unfold Mw;simp only at i1 i2 i3 i4;simp;have hk1:k*10001<=10001*10001:=Nat.mul_le_mul (by omega) (aQ _);have hk2:k*10002<=10001*10002:=Nat.mul_le_mul (by omega) (aQ _);apply gT<;>intro h
 ·have hk:k<m.imps.length:=by simpa using h
  obtain⟨x,hx⟩:∃x,m.imps[k]=x:=⟨_,rfl⟩
  have hxm:=hm.names x (by rw[<-hx];exact aP hk);rw[aF hk,hx,zY]at i4;have hw:=wI (n:=(k:Int)+1);have him:=zCr p hp' i x hxm sc (by omega);have hil:=zBP p.names p.mods i x sc;generalize yF p.names p.mods i x sc=r at*
  simp[hk,hx];refine gU [3] him ?_;simp;refine⟨by decide,by omega,?_⟩;refine fJ (k+1,r.1,bad++r.2) [0,5,2,4] ⟨by simp only;omega,by simp only;omega,by simp;omega,i4⟩ (by simp only;omega) ?_;simp[hw];exact oK _ _
 ·have hk:k=m.imps.length:=by simp at h;omega
  subst hk;rw[aO,zY]at i4;subst i4;exact hQ (by simp only;omega) (by simp only;omega) _ (by simp) (by simp) (by simp) (by simp) (by simp) (by simp)
theorem zDT{c:Ctx}(hp:c.pure)(p:iV)(i:Nat)(m:jZ)(hm:lY m)(all:List (List jI))(s0:List jI)(hs0:s0.length<=100020001)(b0:List iY)(hb0:b0.length<=100000000000)(F0:List jI × List iY)(hF:yj i m.decs 0 s0 b0=F0){Q:Exit->St->Prop}{S:St}{g}{ms:List Nat}
  (h0:iM ms S ((12,.c (.d (.int .i64 0)))::Am p i all.length b0.length s0.length) (xc all b0 m s0))
  (hQ:F0.2.length<=b0.length+10001->∀T,Abs.look T 7=.c (.msl 3 3 0 F0.1.length)->Abs.look T 6=.c (.d (.int .i64 i))->Abs.look T 5=.c (.msl 4 1 0 F0.2.length)->Abs.look T 4=.c (.msl 1 0 0 all.length)->Abs.look T 1=.c (.d (.rp p.enc 0))->Q (.exit 4) ⟨T,hpOf (xc all F0.2 m F0.1),4⟩):lU Pg c Mx Q g S:=by
 have hmd:=hm.decs;refine fU iC hp (λy:Nat × List jI × List iY=>y.1<=m.decs.length/\y.2.1.length<=s0.length+y.1/\y.2.2.length<=b0.length+y.1/\yj i (m.decs.drop y.1) y.1 y.2.1 y.2.2=F0) (λy=>(12,.c (.d (.int .i64 y.1)))::Am p i all.length y.2.2.length y.2.1.length) (λy=>xc all y.2.2 m y.2.1) (λy=>m.decs.length-y.1) (0,s0,b0) ms ⟨by simp,by simp,by simp,by simpa using hF⟩ h0 λ⟨k,sc,bad⟩ ⟨i1,i2,i3,i4⟩=>?_;unfold Mx;simp only at i1 i2 i3 i4;simp;apply gT<;>intro h
 ·have hk:k<m.decs.length:=by simpa using h
  obtain⟨d,hd⟩:∃d,m.decs[k]=d:=⟨_,rfl⟩
  rw[aF hk,hd,yj]at i4;have hw:=wI (n:=(k:Int)+1);have hfm:=WA sc d.name;simp[hk,hd];refine gU [3] hfm ?_;generalize ql sc d.name=f at*
  simp;by_cases f2:f.2=true
  ·rw[aC f2]at i4;simp[f2,hk,hd];refine⟨by omega,by decide,?_⟩;refine fJ (k+1,sc,bad++[⟨i,d.line,d.col,8⟩]) [0,5,2,3] ⟨by simp only;omega,by simp only;omega,by simp;omega,i4⟩ (by simp only;omega) ?_;simp[hw,iY.enc];exact oK _ _
  ·rw[aB f2]at i4;simp[f2,hk,hd];refine⟨by omega,?_⟩;refine fJ (k+1,sc++[⟨d.name,i,k⟩],bad) [0,1,2,5] ⟨by simp only;omega,by simp;omega,by simp only;omega,i4⟩ (by simp only;omega) ?_;simp[hw,jI.enc];exact oK _ _
 ·have hk:k=m.decs.length:=by simp at h;omega
  subst hk;rw[aO,yj]at i4;subst i4;exact hQ (by simp only;omega) _ (by simp) (by simp) (by simp) (by simp) (by simp)
theorem zFd(p:iV)(hp':Ak p):gu Pg 29 [.agg p.enc] (.tup [.one (.sl false 1 ((uz p.names p.mods p.mods 0 [] []).1.map qw)),.one (.sl false 4 ((uz p.names p.mods p.mods 0 [] []).2.map iY.enc))]):=by
 refine zAp (by simp) λo c hN hp=>?_;obtain⟨R,hR⟩:∃R,uz p.names p.mods p.mods 0 [] []=R:=⟨_,rfl⟩
 rw[hR];have h16:=hp'.1;unfold Va;simp;refine fo [.t 4,.t 5] ?_;simp;refine fU iC hp (λy:Nat × List (List jI) × List iY=>y.1<=p.mods.length/\y.2.1.length=y.1/\y.2.2.length<=y.1*200000000/\uz p.names p.mods (p.mods.drop y.1) y.1 y.2.1 y.2.2=R) (λy=>[(6,.c (.d (.int .i64 y.1))),(5,.c (.msl 4 1 0 y.2.2.length)),(4,.c (.msl 1 0 0 y.2.1.length)),(1,.c (.d (.rp p.enc 0)))]) (λy=>[allA y.2.1,mJ y.2.2]) (λy=>p.mods.length-y.1) (0,[],[]) [0,1] ⟨by simp,rfl,by simp,by simpa using hR⟩ (by simp) λ⟨i,all,bad⟩ ⟨i1,i2,i3,i4⟩=>?_;unfold V9;simp only at i1 i2 i3 i4;simp;apply gT<;>intro h
 ·have hi:i<p.mods.length:=by simpa using h
  obtain⟨m,hm⟩:∃m,p.mods[i]=m:=⟨_,rfl⟩
  have hsm:=hp'.2.2 m (by rw[<-hm];exact aP hi);rw[aF hi,hm,uz]at i4;have hw:=wI (n:=(i:Int)+1);simp[hi,hm];refine fo [.t 7] ?_;simp;refine zDS hp p hp' i m hsm all bad (by omega) _ rfl (ms:=[0,1,2,3]) (by simp) λq1 q2 T t8 t7 t6 t5 t4 t1=>?_;generalize zY p.names p.mods i m.imps [] bad=a at*
  simp;refine zDT hp p i m hsm all a.1 q1 a.2 (by omega) _ rfl (ms:=[0,1,2,3]) (by simp[t8,t7,t6,t5,t4,t1]) λq3 T t7 t6 t5 t4 t1=>?_;generalize yj i m.decs 0 a.1 a.2=b at*
  simp;refine fe [3] ?_;simp[iT,t7,t6,t5,t4,t1,oK];refine⟨by omega,?_⟩;refine fJ (i+1,all++[b.1],b.2) [4,1] ⟨by simp only;omega,by simp[i2],by simp only;omega,i4⟩ (by simp only;omega) ?_;simp[iT,t7,t6,t5,t4,t1,oK,hw,qw];try trace_state
 ·have hi:i=p.mods.length:=by simp at h;omega
  subst hi;rw[aO,uz]at i4;subst i4;simp[oK];try trace_state
def ug(l:List Bool):List (List D):=l.map λb=>[.bool b]
@[simp] theorem zIC(l:List Bool):(ug l).length=l.length:=by simp[ug]
@[simp] theorem zJQ(l:List Bool)(k:Nat):(ug l)[k]?=(l[k]?).map λb=>[.bool b]:=by simp[ug]
@[simp] theorem zJ3(l:List Bool)(j:Nat)(h:j<(ug l).length):(ug l)[j]=[.bool (l[j]'(by simpa using h))]:=by simp[ug]
theorem zEu(l:List Bool)(k:Nat)(b:Bool):(ug l).set k [.bool b]=ug (l.set k b):=by simp[ug,fA]
abbrev DT(l:List Bool):Blk:=.arr 1 ((ug l).map (·.map .d))
theorem WC(l:List Bool)(k:Nat)(b:Bool):((ug l).map λx=>x.map AC.d).set k [.d (.bool b)]=(ug (l.set k b)).map λx=>x.map AC.d:=by rw[<-zEu,fA];try rfl
theorem Nh(ns:List fI):∀(l:List jr) (seen:List Bool),(zZ ns l seen).length=seen.length
|[],seen=>rfl
|x::l,seen=>by rw[zZ,Nh ns l];split<;>simp
theorem WE(ns:List fI):∀(l:List jZ) (i:Nat) (seen:List Bool),(Ac ns l i seen).length=seen.length
|[],i,seen=>rfl
|m::l,i,seen=>by rw[Ac,WE ns l];split;exact Nh ns _ _;rfl
theorem zF5{l:List Bool}{i z:Nat}(h:l.getD i false=true):(l.set z true).getD i false=true:=by
 rw[aH]at h⊢;rw[getElem?_set];split
 ·split
  ·rfl
  ·rename_i h1 h2;subst h1;rw[aS (by omega)]at h;exact h
 ·exact h
abbrev Ao(p:iV)(to n nn i:Nat):List (Nat × AV):=[(9,.c (.d (.int .i64 i))),(8,.c (.d (.int .i64 nn))),(7,.c (.msl 1 0 0 n)),(3,.c (.d (.rp p.enc 0))),(2,.c (.d (.int .i64 to)))]
theorem zEv{c:Ctx}(hp:c.pure)(p:iV)(hp':Ak p)(to nn i:Nat)(hi:i<p.mods.length)(m:jZ)(hm:lY m)(s0:List Bool)(hs0:s0.length=p.mods.length)(F0:List Bool)(hF:(if s0.getD i false=true then zZ p.names m.imps s0 else s0)=F0){Q:Exit->St->Prop}{S:St}{g}{ms:List Nat}
  (h0:iM ms S ((11,.c (.d (.int .i64 0)))::(10,.c (.d (.sl false 4 (m.imps.map jr.enc))))::Ao p to p.mods.length nn i) [DT s0])
  (hQ:∀T,Abs.look T 9=.c (.d (.int .i64 i))->Abs.look T 8=.c (.d (.int .i64 nn))->Abs.look T 7=.c (.msl 1 0 0 p.mods.length)->Abs.look T 3=.c (.d (.rp p.enc 0))->Abs.look T 2=.c (.d (.int .i64 to))->Q (.exit 4) ⟨T,hpOf [DT F0],1⟩):lU Pg c NA Q g S:=by
 have hmi:=hm.imps;have h16:=hp'.1;have hnn:=hp'.2.1;refine fU iC hp (λy:Nat × List Bool=>y.1<=m.imps.length/\y.2.length=p.mods.length/\(if y.2.getD i false=true then zZ p.names (m.imps.drop y.1) y.2 else y.2)=F0) (λy=>(11,.c (.d (.int .i64 y.1)))::(10,.c (.d (.sl false 4 (m.imps.map jr.enc))))::Ao p to p.mods.length nn i) (λy=>[DT y.2]) (λy=>m.imps.length-y.1) (0,s0) ms ⟨by simp,hs0,by simpa using hF⟩ h0 λ⟨k,s⟩ ⟨i1,i2,i3⟩=>?_;unfold NA;simp only at i1 i2 i3;have his:i<s.length:=by omega
 have hgi:s.getD i false=s[i]:=by rw[aH,aA his];try rfl
 simp;apply gT<;>intro h
 ·have hk:k<m.imps.length:=by simpa using h
  obtain⟨x,hx⟩:∃x,m.imps[k]=x:=⟨_,rfl⟩
  have hw:=wI (n:=(k:Int)+1);by_cases b:s.getD i false=true
  ·rw[aC b,aF hk,hx,zZ]at i3;have b':s[i]=true:=by rw[<-hgi];exact b
   have hml:=JN p.names x.from_;have hmk:=GG p.names x.from_;generalize kD p.names x.from_=z at*
   simp[his,hi,b',hk,hx];refine gp hmk ?_;by_cases z0:0<=z
   ·rw[aC z0]at i3;obtain⟨zn,rfl⟩:∃zn:Nat,z=zn:=⟨z.toNat,by omega⟩
    have hzn:zn<p.mods.length:=by omega
    have hzs:zn<s.length:=by omega
    simp only[az]at i3;simp[hzn,hzs,WC];refine⟨by decide,?_⟩;refine fJ (k+1,s.set zn true) [0] ⟨by simp only;omega,by simpa using i2,by simp only;rw[aC (zF5 b)];exact i3⟩ (by simp only;omega) ?_;simp[hw]
   ·rw[aB z0]at i3;simp[z0];refine⟨by decide,?_⟩;refine fJ (k+1,s) [0] ⟨by simp only;omega,i2,by simp only;rw[aC b];exact i3⟩ (by simp only;omega) ?_;simp[hw]
  ·rw[aB b]at i3;subst i3;have b':s[i]=false:=by rw[hgi]at b;simpa using b
   simp[his,hi,b'];exact hQ _ (by simp) (by simp) (by simp) (by simp) (by simp)
 ·have hk:k=m.imps.length:=by simp at h;omega
  subst hk;rw[aO,zZ,ite_self]at i3;subst i3;simp;exact hQ _ (by simp) (by simp) (by simp) (by simp) (by simp)
theorem zEw{c:Ctx}(hp:c.pure)(p:iV)(hp':Ak p)(to nn:Nat)(s0:List Bool)(hs0:s0.length=p.mods.length)(F0:List Bool)(hF:Ac p.names p.mods 0 s0=F0){Q:Exit->St->Prop}{S:St}{g}{ms:List Nat}
  (h0:iM ms S (Ao p to p.mods.length nn 0) [DT s0])
  (hQ:∀T,Abs.look T 8=.c (.d (.int .i64 nn))->Abs.look T 7=.c (.msl 1 0 0 p.mods.length)->Abs.look T 3=.c (.d (.rp p.enc 0))->Abs.look T 2=.c (.d (.int .i64 to))->Q (.exit 2) ⟨T,hpOf [DT F0],1⟩):lU Pg c NB Q g S:=by
 have h16:=hp'.1;refine fU iC hp (λy:Nat × List Bool=>y.1<=p.mods.length/\y.2.length=p.mods.length/\Ac p.names (p.mods.drop y.1) y.1 y.2=F0) (λy=>Ao p to p.mods.length nn y.1) (λy=>[DT y.2]) (λy=>p.mods.length-y.1) (0,s0) ms ⟨by simp,hs0,by simpa using hF⟩ h0 λ⟨i,s⟩ ⟨i1,i2,i3⟩=>?_;unfold NB;simp only at i1 i2 i3;simp;apply gT<;>intro h
 ·have hi:i<p.mods.length:=by simpa using h
  obtain⟨m,hm⟩:∃m,p.mods[i]=m:=⟨_,rfl⟩
  have hsm:=hp'.2.2 m (by rw[<-hm];exact aP hi);rw[aF hi,hm,Ac]at i3;have hw:=wI (n:=(i:Int)+1);have hle:(if s.getD i false=true then zZ p.names m.imps s else s).length=p.mods.length:=by
   split
   ·rw[Nh,i2]
   ·exact i2
  simp[hi,hm];refine zEv hp p hp' to nn i hi m hsm s i2 _ rfl (ms:=[0]) (by simp) λT t9 t8 t7 t3 t2=>?_;generalize (if s.getD i false=true then zZ p.names m.imps s else s)=s2 at*
  simp[t9];refine fJ (i+1,s2) [0] ⟨by simp only;omega,hle,i3⟩ (by simp only;omega) ?_;simp[t9,t8,t7,t3,t2,hw]
 ·have hi:i=p.mods.length:=by simp at h;omega
  subst hi;rw[aO,Ac]at i3;subst i3;exact hQ _ (by simp) (by simp) (by simp) (by simp)
theorem zDk(p:iV)(hp':Ak p)(f t:Nat)(hf:f<p.mods.length)(ht:t<p.mods.length):gu Pg 49 [.agg p.enc,.one (.int .i64 f),.one (.int .i64 t)] (.one (.bool (EU p.names p.mods f t))):=by
 refine zz0 (by simp) λo c hN hp=>?_;obtain⟨R,hR⟩:∃R,EU p.names p.mods f t=R:=⟨_,rfl⟩
 rw[hR];unfold EU at hR;have h16:=hp'.1;have hrep:∀n:Nat,(replicate n [D.bool false]).map (λx=>x.map AC.d)=(ug (replicate n false)).map (λx=>x.map AC.d):=λn=>by simp[ug]
 obtain⟨s0,hs⟩:∃s0,(replicate p.mods.length false).set f true=s0:=⟨_,rfl⟩
 have hs0:s0.length=p.mods.length:=by rw[<-hs];simp
 rw[hs]at hR;unfold Vd;simp[hf];refine⟨by omega,?_⟩;have e0:(replicate p.mods.length [AC.d (D.bool false)]).set f [AC.d (D.bool true)]=(ug s0).map λx=>x.map AC.d:=by
  rw[<-hs,<-WC];simp[ug]
 rw[e0];refine fU iC hp (λy:Nat × List Bool=>y.1<=p.mods.length/\y.2.length=p.mods.length/\(F9 p.names p.mods (p.mods.length-y.1) y.2).getD t false=R) (λy=>[(8,.c (.d (.int .i64 y.1))),(7,.c (.msl 1 0 0 p.mods.length)),(3,.c (.d (.rp p.enc 0))),(2,.c (.d (.int .i64 t)))]) (λy=>[DT y.2]) (λy=>p.mods.length-y.1) (0,s0) [0] ⟨by simp,hs0,hR⟩ (by simp) λ⟨nn,s⟩ ⟨i1,i2,i3⟩=>?_;unfold Vb;simp only at i1 i2 i3;simp;apply gT<;>intro h
 ·have hn:nn<p.mods.length:=by simpa using h
  rw[show p.mods.length-nn=(p.mods.length-(nn+1))+1 by omega,F9]at i3;have hw:=wI (n:=(nn:Int)+1);refine zEw hp p hp' t nn s i2 _ rfl (ms:=[0]) (by simp) λT t8 t7 t3 t2=>?_;have hl:=WE p.names p.mods 0 s;generalize Ac p.names p.mods 0 s=s2 at*
  simp[t8];refine fJ (nn+1,s2) [0] ⟨by simp only;omega,by simp only;omega,i3⟩ (by simp only;omega) ?_;simp[t8,t7,t3,t2,hw]
 ·have hn:nn=p.mods.length:=by simp at h;omega
  subst hn;rw[Nat.sub_self,F9,aH,aA (by omega)]at i3;have hts:t<s.length:=by omega
  simp at i3;simp[ht,hts,i3]
theorem WF(ns:List fI)(ms:List jZ)(i:Nat):∀(l:List jr) (bad:List iY),(z8 ns ms i l bad).length<=bad.length+l.length
|[],bad=>by simp[z8]
|x::l,bad=>by
 rw[z8];have:=WF ns ms i l (if 0<=kD ns x.from_/\EU ns ms (kD ns x.from_).toNat i=true then bad++[⟨i,x.line,x.col,13⟩]else bad);refine ak this ?_;split<;>simp<;>omega
abbrev DU(p:iV)(i nb:Nat):List (Nat × AV):=[(4,.c (.d (.int .i64 i))),(3,.c (.msl 4 0 0 nb)),(1,.c (.d (.rp p.enc 0)))]
theorem zEx{c:Ctx}(hp:c.pure)(p:iV)(hp':Ak p)(i:Nat)(hi:i<p.mods.length)(m:jZ)(hm:lY m)(b0:List iY)(hb0:b0.length<=10000000)(F0:List iY)(hF:z8 p.names p.mods i m.imps b0=F0){Q:Exit->St->Prop}{S:St}{g}{ms:List Nat}
  (h0:iM ms S ((6,.c (.d (.int .i64 0)))::(5,.c (.d (.sl false 4 (m.imps.map jr.enc))))::DU p i b0.length) [mJ b0])
  (hQ:∀T,Abs.look T 4=.c (.d (.int .i64 i))->Abs.look T 3=.c (.msl 4 0 0 F0.length)->Abs.look T 1=.c (.d (.rp p.enc 0))->Q (.exit 2) ⟨T,hpOf [mJ F0],1⟩):lU Pg c NC Q g S:=by
 have hmi:=hm.imps;have h16:=hp'.1;have hnn:=hp'.2.1;refine fU iC hp (λy:Nat × List iY=>y.1<=m.imps.length/\y.2.length<=b0.length+y.1/\z8 p.names p.mods i (m.imps.drop y.1) y.2=F0) (λy=>(6,.c (.d (.int .i64 y.1)))::(5,.c (.d (.sl false 4 (m.imps.map jr.enc))))::DU p i y.2.length) (λy=>[mJ y.2]) (λy=>m.imps.length-y.1) (0,b0) ms ⟨by simp,by simp,by simpa using hF⟩ h0 λ⟨k,bad⟩ ⟨i1,i2,i3⟩=>?_;unfold NC;simp only at i1 i2 i3;simp;apply gT<;>intro h
 ·have hk:k<m.imps.length:=by simpa using h
  obtain⟨x,hx⟩:∃x,m.imps[k]=x:=⟨_,rfl⟩
  have hw:=wI (n:=(k:Int)+1);rw[aF hk,hx,z8]at i3;have hml:=JN p.names x.from_;have hmk:=GG p.names x.from_;generalize kD p.names x.from_=z at*
  simp[hk,hx];refine gp hmk ?_;by_cases z0:0<=z
  ·obtain⟨zn,rfl⟩:∃zn:Nat,z=zn:=⟨z.toNat,by omega⟩
   simp only[az]at i3;have hro:=zDk p hp' zn i (by omega) hi;obtain⟨r,hr⟩:∃r,EU p.names p.mods zn i=r:=⟨_,rfl⟩
   simp only[hr]at i3 hro;simp;refine⟨by decide,?_⟩;refine gp hro ?_;cases r with
   |true=>
    rw[aC ⟨z0,rfl⟩]at i3;simp[hk,hx];refine⟨by omega,by decide,?_⟩;refine fJ (k+1,bad++[⟨i,x.line,x.col,13⟩]) [1] ⟨by simp only;omega,by simp;omega,i3⟩ (by simp only;omega) ?_;simp[hw,iY.enc];exact oK _ _
   |false=>
    rw[aB (λq=>by cases q.2)]at i3;simp;refine fJ (k+1,bad) [0] ⟨by simp only;omega,by simp only;omega,i3⟩ (by simp only;omega) ?_;simp[hw]
  ·rw[aB (λq=>z0 q.1)]at i3;simp[z0];refine⟨by decide,?_⟩;refine fJ (k+1,bad) [0] ⟨by simp only;omega,by simp only;omega,i3⟩ (by simp only;omega) ?_;simp[hw]
 ·have hk:k=m.imps.length:=by simp at h;omega
  subst hk;rw[aO,z8]at i3;subst i3;exact hQ _ (by simp) (by simp) (by simp)
theorem zF6(p:iV)(hp':Ak p):gu Pg 30 [.agg p.enc] (.one (.sl false 4 ((za p.names p.mods p.mods 0 []).map iY.enc))):=by
 refine zB0 (by simp) λo c hN hp=>?_;obtain⟨R,hR⟩:∃R,za p.names p.mods p.mods 0 []=R:=⟨_,rfl⟩
 rw[hR];have h16:=hp'.1;unfold Vf;simp;refine fo [.t 3] ?_;simp;refine fU iC hp (λy:Nat × List iY=>y.1<=p.mods.length/\y.2.length<=y.1*10001/\za p.names p.mods (p.mods.drop y.1) y.1 y.2=R) (λy=>DU p y.1 y.2.length) (λy=>[mJ y.2]) (λy=>p.mods.length-y.1) (0,[]) [0] ⟨by simp,by simp,by simpa using hR⟩ (by simp) λ⟨i,bad⟩ ⟨i1,i2,i3⟩=>?_;unfold Ve;simp only at i1 i2 i3;simp;apply gT<;>intro h
 ·have hi:i<p.mods.length:=by simpa using h
  obtain⟨m,hm⟩:∃m,p.mods[i]=m:=⟨_,rfl⟩
  have hsm:=hp'.2.2 m (by rw[<-hm];exact aP hi);have hmi:=hsm.imps;rw[aF hi,hm,za]at i3;have hw:=wI (n:=(i:Int)+1);have htl:=WF p.names p.mods i m.imps bad;simp[hi,hm];refine zEx hp p hp' i hi m hsm bad (by omega) _ rfl (ms:=[0]) (by simp) λT t4 t3 t1=>?_;generalize z8 p.names p.mods i m.imps bad=b2 at*
  simp[t4];refine fJ (i+1,b2) [0] ⟨by simp only;omega,by simp only;omega,i3⟩ (by simp only;omega) ?_;simp[t4,t3,t1,hw]
 ·have hi:i=p.mods.length:=by simp at h;omega
  subst hi;rw[aO,za]at i3;subst i3;simp[oK]
theorem WG(L:List Tok):∀(n:Nat) (l:List fI) (p:PS),(uV L n l p).1.length<=l.length+n
|0,l,p=>by simp[uV]
| n+1,l,p=>by
 rw[uV];split
 ·have:=WG L n (l++[(jK L p).1]) (iG L (bs [44]) (jK L p).2).2;simp at this⊢;omega
 ·simp
theorem WH(L:List Tok)(hL:L.length<=10000):∀(n:Nat) (l:List jr) (p:PS),(∀x,x∈l->x.names.length<=10001)->(xP L n l p).1.length<=l.length+n/\∀x,x∈(xP L n l p).1->x.names.length<=10001
|0,l,p,h=>by simp[xP];exact h
| n+1,l,p,h=>by
 rw[xP];split
 ·simp only;have hn:=WG L (L.length+1) [] (jO L (bs [58]) (jK L (iG L xO p).2).2);have:=WH L hL n (l++[⟨(jK L (iG L xO p).2).1,(uV L (L.length+1) [] (jO L (bs [58]) (jK L (iG L xO p).2).2)).1,(iL L p).line,(iL L p).col⟩]) (jO L (bs [59]) (uV L (L.length+1) [] (jO L (bs [58]) (jK L (iG L xO p).2).2)).2) (λx hx=>by
   rcases aM.1 hx with hx|hx
   ·exact h x hx
   ·simp at hx;subst hx;simp at hn⊢;omega)
  refine⟨?_,this.2⟩;have h1:=this.1;simp at h1⊢;omega
 ·exact⟨by simp,h⟩
theorem WI(L:List Tok):∀(n:Nat) (l:List jd) (p:PS),(ru L n l p).1.length<=l.length+n
|0,l,p=>by simp[ru]
| n+1,l,p=>by
 rw[ru];split
 ·have:=WI L n (l++[(rq L p).1]) (rq L p).2;simp at this⊢;omega
 ·simp
theorem zBX(s:fI):lY (qW s).1:=by
 have h0:lY om:=⟨by simp[om],by simp[om],by simp[om]⟩
 have hk:=JB (s:=s);unfold qW;simp only;split
 ·exact h0
 split
 ·exact h0
 ·rename_i h1 h2;obtain⟨hL,hl⟩:=hk (by simpa using h1);unfold Be;simp only;generalize (lI s).1=L at*
  have a:=WH L hl (L.length+1) [] ps0 (by simp);have b:=WI L (L.length+1) [] (xP L (L.length+1) [] ps0).2;exact⟨by have:=a.1;simp at this;simp only;omega,a.2,by simp at b;simp only;omega⟩
theorem WJ:∀(l:List (fI × fI)) (i:Nat) (ns:List fI) (ms:List jZ) (bad:List iY),ns.length=ms.length->(∀m,m∈ms->lY m)->
 (rM l i ns ms bad).1.1.length=(rM l i ns ms bad).1.2.length/\(rM l i ns ms bad).1.2.length=ms.length+l.length/\∀m,m∈(rM l i ns ms bad).1.2->lY m
|[],i,ns,ms,bad,h1,h2=>by rw[rM];exact⟨h1,by simp,h2⟩
| s::l,i,ns,ms,bad,h1,h2=>by
 rw[rM];have:=WJ l (i+1) (ns++[s.1]) (ms++[(qW s.2).1]) (if nG s.1=false then bad++[⟨i,1,1,10⟩]else if 0<=kD ns s.1 then bad++[⟨i,1,1,8⟩]else if(qW s.2).2.e≠0 then bad++[⟨i,(qW s.2).2.line,(qW s.2).2.col,(qW s.2).2.e⟩]else bad) (by simp[h1]) (λm hm=>by
  rcases aM.1 hm with hm|hm
  ·exact h2 m hm
  ·simp at hm;subst hm;exact zBX _)
 refine⟨this.1,?_,this.2.2⟩;have h3:=this.2.1;simp at h3⊢;omega
theorem WK(l:List (fI × fI))(sc:List (List jI)):Ak ⟨(u6 l).1.1,(u6 l).1.2,sc,Ab⟩:=by
 unfold u6;split
 ·exact⟨by simp,rfl,by simp⟩
 ·have:=WJ l 0 [] [] [] rfl (by simp);exact⟨by have:=this.2.1;simp at this;simp only;omega,this.1,this.2.2⟩
abbrev Ni(r:iV × List iY):DV:=.tup [.agg r.1.enc,.one (.sl false 4 (r.2.map iY.enc))]
theorem zHJ(x:List fI × List jZ)(s:List (List jI)):put ((yw x).enc.map AC.d) 2 [.d (.sl false 1 (s.map qw))]=(⟨x.1,x.2,s,Ab⟩:iV).enc.map .d:=rfl
theorem zF7(a:List fI)(b:List jZ)(s:List (List jI))(n:fI)(m k:Int):splice ((⟨a,b,s,Ab⟩:iV).enc.map AC.d) 3 [.d (.str n),.d (.int .i64 m),.d (.int .i64 k)]=(⟨a,b,s,⟨n,m,k⟩⟩:iV).enc.map .d:=rfl
theorem zEy(a:List fI)(b:List jZ)(s:List (List jI))(n:fI)(m k:Int):put ((⟨a,b,s,Ab⟩:iV).enc.map AC.d) 3 [.d (.str n),.d (.int .i64 m),.d (.int .i64 k)]=(⟨a,b,s,⟨n,m,k⟩⟩:iV).enc.map .d:=rfl
attribute [simp] zHJ zF7 zEy
theorem E5:Bg.enc=[.sl false 1 [],.sl false 2 [],.sl false 1 [],.str (bs []),.int .i64 0,.int .i64 0]:=rfl
theorem zHK(l:List (fI × fI)):gu Pg 16 [.one (.sl false 2 (l.map lX))] (Ni (yl l)):=by
 refine zDr (by simp) λo c hN hp=>?_;obtain⟨R,hR⟩:∃R,yl l=R:=⟨_,rfl⟩
 rw[hR];unfold yl at hR;simp only at hR;have hfs:=WK l;have hf:=zHi l;generalize u6 l=f at*
 unfold Vg;simp;refine gp hf ?_;by_cases f0:0<f.2.length
 ·rw[aC f0]at hR;subst hR;simp[f0,E5]
 rw[aB f0]at hR;have hsec:gu Pg 29 [.agg (yw f.1).enc] (.tup [.one (.sl false 1 ((uz f.1.1 f.1.2 f.1.2 0 [] []).1.map qw)),.one (.sl false 4 ((uz f.1.1 f.1.2 f.1.2 0 [] []).2.map iY.enc))]):=zFd (yw f.1) (hfs []);generalize uz f.1.1 f.1.2 f.1.2 0 [] []=s at*
 simp[f0];refine gp hsec ?_;by_cases s0:0<s.2.length
 ·rw[aC s0]at hR;subst hR;simp[s0,E5]
 rw[aB s0]at hR;have hthi:gu Pg 30 [.agg (⟨f.1.1,f.1.2,s.1,Ab⟩:iV).enc] (.one (.sl false 4 ((za f.1.1 f.1.2 f.1.2 0 []).map iY.enc))):=zF6 ⟨f.1.1,f.1.2,s.1,Ab⟩ (hfs s.1);generalize za f.1.1 f.1.2 f.1.2 0 []=t at*
 simp[s0];refine gp hthi ?_;by_cases t0:0<t.length
 ·rw[aC t0]at hR;subst hR;simp[t0,E5]
 rw[aB t0]at hR;have hmk:=GG f.1.1 vT;have hml:=JN f.1.1 vT;have hsm:=hfs s.1;have hnn:f.1.1.length=f.1.2.length:=hsm.2.1;generalize kD f.1.1 vT=z at*
 simp[t0];refine gp hmk ?_;by_cases z0:z<0
 ·rw[aC z0]at hR;subst hR;simp[z0,E5,iY.enc]
 rw[aB z0]at hR;obtain⟨g1,g2⟩:=getD_in f.1.2 om (z:=z) (n:=f.1.1.length) (by rw[hnn]) (by omega) (by omega);generalize f.1.2.getD z.toNat om=M at*
 have hM:=hsm.2.2 M g2;have hMd:=hM.decs;obtain⟨zn,rfl⟩:∃zn:Nat,z=zn:=⟨z.toNat,by omega⟩
 simp only[az]at g1;have hdk:=Vy M vT (by omega);have hdl:=WB M vT;generalize uE M vT=k at*
 simp[z0,g1];refine gp hdk ?_;by_cases k0:k<0
 ·rw[aC k0]at hR;subst hR;simp[k0,E5,iY.enc]
 rw[aB k0]at hR;obtain⟨g3,g4⟩:=getD_in M.decs Bh (z:=k) (n:=M.decs.length) rfl (by omega) (by omega);generalize M.decs.getD k.toNat Bh=d at*
 obtain⟨kn,rfl⟩:∃kn:Nat,k=kn:=⟨k.toNat,by omega⟩
 simp only[az]at g3;by_cases v0:0<d.vars.length
 ·rw[aC v0]at hR;subst hR;simp[k0,g1,g3,v0,E5,iY.enc];decide
 ·rw[aB v0]at hR;subst hR;simp[k0,g1,g3,v0]
end Go.Gr
