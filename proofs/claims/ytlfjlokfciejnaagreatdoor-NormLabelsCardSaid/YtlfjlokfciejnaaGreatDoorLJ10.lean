/- Texts of ours, joined and written short by a program of ours. -/
import Derived.Test.YtlfjlokfciejnaaGreatDoorLJ09
import Derived.Test.YtlfjlokfciejnaaGreatDoorLJ08
set_option maxRecDepth 20000
set_option maxHeartbeats 4000000
set_option linter.unusedVariables false
set_option linter.unusedSimpArgs false
namespace Go.Gr
open Go.Abs Go.Proofs List
theorem gY.erdV{P:Program}{f:FuncId}{args:List DV}{v v':DV}(h:gY P f args v)(e:v.erd=v'):gY P f args v':=by
 subst e;refine⟨h.1,λph w us hp hG r=>(h.2 ph w us hp hG r).mono λe w' q=>?_⟩;obtain⟨vC,h',q1,q2,q3,q4,q5,q6,q7,q8⟩:=q;exact⟨vC,h',q1,q2,q3,q4,q5,q6,q7,kQ.erd q8⟩
@[simp] theorem iw.enc_length(p:iw):p.enc.length=6:=by simp[iw.enc]
@[simp] theorem iw.enc_0(p:iw):p.enc[0]?=some (.int .i64 p.tag):=rfl
@[simp] theorem iw.enc_g0(p:iw)(h:0<p.enc.length):p.enc[0]=.int .i64 p.tag:=rfl
@[simp] theorem iw.cut_t(p:iw):cut p.enc 2 4=p.t.enc:=by unfold iw.enc;rw[gU.enc_eq];try rfl
@[simp] theorem iw.cut_tM(p:iw):cut (p.enc.map AC.d) 2 4=p.t.enc.map .d:=by unfold iw.enc;rw[gU.enc_eq];try rfl
@[simp] theorem iw.er_map(p:iw):p.enc.map D.er=p.enc:=by unfold iw.enc;rw[gU.enc_eq];try rfl
theorem zGw(a b c d e f:AC)(T:gU):splice [a,b,c,d,e,f] 2 (T.enc.map AC.d)=a::b::T.enc.map .d:=by rw[T.enc_eq];try rfl
theorem zJv(a b:AC)(T:gU):cut (a::b::T.enc.map AC.d) 0 6=a::b::T.enc.map .d:=by rw[T.enc_eq];try rfl
attribute [simp] zGw zJv
@[simp] theorem iw.enc_4(p:iw):p.enc[4]?=some (.sl false 1 (encS p.t.names)):=by unfold iw.enc;rw[gU.enc_eq];try rfl
@[simp] theorem iw.enc_5(p:iw):p.enc[5]?=some (.sl false 4 (p.t.kids.map gU.enc)):=by unfold iw.enc;rw[gU.enc_eq];try rfl
@[simp] theorem iw.enc_g4(p:iw)(h:4<p.enc.length):p.enc[4]=.sl false 1 (encS p.t.names):=by have:=p.enc_4;rw[aA h]at this;exact bR this
@[simp] theorem iw.enc_g5(p:iw)(h:5<p.enc.length):p.enc[5]=.sl false 4 (p.t.kids.map gU.enc):=by have:=p.enc_5;rw[aA h]at this;exact bR this
theorem oG{α β:Type}(f:α->β)(v:List α):take v.length (v.map f)=v.map f:=aD (by rw[aV];exact aP _)
theorem zH(l:List iw)(tag:Int):gY Pg 132 [.one (.sl false 6 (l.map iw.enc)),.one (.int .i64 tag)] (.tup [.agg (kH l tag).1.enc,.one (.bool (kH l tag).2)]):=by
 refine zkR (by simp) λo c hN hp=>?_;have hl:l.length<=zah:=by have:=o.1;simp only[DV.ok,D.ok,aV]at this;exact this.1
 unfold zah at hl;obtain⟨R,hR⟩:∃R,kH l tag=R:=⟨_,rfl⟩
 rw[hR];unfold kH at hR;unfold UO;simp;refine fP gz hp (λj:Nat=>j<=l.length/\(l.drop j).find? (λp=>decide (p.tag=tag))=l.find? λp=>decide (p.tag=tag)) (λj=>[(6,.c (.d (.int .i64 j))),(4,.c (.ptr 0 0)),(1,.c (.d (.int .i64 tag))),(0,.c (.d (.sl false 6 (l.map iw.enc))))]) (λ_=>[.box [.d (.int .i64 0),.d (.bool false),.d (.int .i64 0),.d (.str (bs [])),.d (.sl true 1 []),.d (.sl true 4 [])]]) (λj=>l.length-j) 0 [0] ⟨by simp,by simp⟩ (by simp) λj ⟨h1,h2⟩=>?_;unfold UN;simp;apply gN<;>intro h
 ·have hj:j<l.length:=by simpa using h
  rw[aG hj,find?_cons]at h2;obtain⟨x,hx⟩:∃x,l[j]=x:=⟨_,rfl⟩
  rw[hx]at h2;by_cases q:x.tag=tag
  ·simp[q]at h2;rw[<-h2]at hR;subst hR;simp[hj,hx,q]
  ·simp[q]at h2;simp[hj,hx,q];refine fG (j+1) [0] ⟨by omega,by simpa using h2⟩ (by omega) ?_;simp;exact wI
 ·have hj:j=l.length:=by simp at h;omega
  subst hj;rw[aQ,find?_nil]at h2;rw[<-h2]at hR;subst hR;simp;rfl
theorem Uz(t:gU)(s:fF)(hn:t.names.length<=t.kids.length):gY Pg 133 [.agg t.enc,.one (.str s)] (.tup [.agg (kM t s).1.enc,.one (.bool (kM t s).2)]):=by
 refine zj0 (by simp) λo c hN hp=>?_;have hf:=Bd o.1;unfold zah at hf;obtain⟨R,hR⟩:∃R,kM t s=R:=⟨_,rfl⟩
 rw[hR];unfold kM at hR;unfold UR;simp;refine fP gz hp (λj:Nat=>j<=t.names.length/\oF (t.names.drop j) (t.kids.drop j) s=R) (λj=>[(6,.c (.d (.int .i64 j))),(4,.c (.ptr 0 0)),(2,.c (.d (.rp t.enc 0))),(1,.c (.d (.str s)))]) (λ_=>[uH]) (λj=>t.names.length-j) 0 [0] ⟨by simp,by simpa using hR⟩ (by simp) λj ⟨h1,h2⟩=>?_;unfold UQ;simp;apply gN<;>intro h
 ·have hj:j<t.names.length:=by simpa using h
  have hj2:j<t.kids.length:=by omega
  rw[aG hj,aG hj2,oF]at h2;by_cases q:t.names[j]=s
  ·rw[aC q]at h2;subst h2;simp[hj,hj2,q]
  ·rw[aB q]at h2;simp[hj,hj2,q];refine fG (j+1) [0] ⟨by omega,h2⟩ (by omega) ?_;simp;exact wI
 ·have hj:j=t.names.length:=by simp at h;omega
  subst hj;rw[aQ,oF]at h2
  ·subst h2;simp[nR]
  ·intros;contradiction
def lq(k:Int):List D:=[.int .i64 k,.str (bs []),.sl true 1 [],.sl true 4 []]
def nW:List (List D):=[
.int .i64 0::.bool false::lq 1,.int .i64 1::.bool false::lq 2,.int .i64 2::.bool false::lq 3,.int .i64 3::.bool false::lq 4,
.int .i64 4::.bool true::lq 5,[.int .i64 5,.bool false,.int .i64 6,.str (bs []),.sl true 1 [],.sl true 4 [lq 0,lq 0]]]
abbrev F8(es:List (List D)):Blk:=.arr 6 (es.map (·.map .d))
theorem zlJ(t:gU)(h0:t.kind=0):gY Pg 111 [.agg t.enc] (.one (.sl false 6 nW)):=by
 refine UM (by simp) λo c hN hp=>?_;unfold MZ;simp[h0];refine fV [.t 3] ?_;simp;refine fP gz hp (λj:Nat=>j<=6) (λj=>[(4,.c (.d (.int .i64 j))),(3,.c (.msl 6 0 0 j))]) (λj=>[F8 (nW.take j)]) (λj=>6-j) 0 [0] (by simp) (by simp[nW]) λj h1=>?_;unfold UK;have w1:IntKind.i64.wrap 1=1:=by decide
 have w2:IntKind.i64.wrap 2=2:=by decide
 have w3:IntKind.i64.wrap 3=3:=by decide
 have w4:IntKind.i64.wrap 4=4:=by decide
 have w5:IntKind.i64.wrap 5=5:=by decide
 have w6:IntKind.i64.wrap 6=6:=by decide
 have hc:j=0\/j=1\/j=2\/j=3\/j=4\/j=5\/j=6:=by omega
 rcases hc with rfl|rfl|rfl|rfl|rfl|rfl|rfl
 ·simp[nW,lq,w1,w2,w3,w4,w5,w6];refine fG 1 [2] (by omega) (by omega) ?_;simp[nW,lq,w1,w2,w3,w4,w5,w6]
 ·simp[nW,lq,w1,w2,w3,w4,w5,w6];refine fG 2 [2] (by omega) (by omega) ?_;simp[nW,lq,w1,w2,w3,w4,w5,w6]
 ·simp[nW,lq,w1,w2,w3,w4,w5,w6];refine fG 3 [2] (by omega) (by omega) ?_;simp[nW,lq,w1,w2,w3,w4,w5,w6]
 ·simp[nW,lq,w1,w2,w3,w4,w5,w6];refine fG 4 [2] (by omega) (by omega) ?_;simp[nW,lq,w1,w2,w3,w4,w5,w6]
 ·simp[nW,lq,w1,w2,w3,w4,w5,w6];refine fG 5 [2] (by omega) (by omega) ?_;simp[nW,lq,w1,w2,w3,w4,w5,w6]
 ·simp[nW,lq,w1,w2,w3,w4,w5,w6];refine fG 6 [2] (by omega) (by omega) ?_;simp[nW,lq,w1,w2,w3,w4,w5,w6]
 ·simp[nW,lq]
theorem F9(t:gU)(hk:t.kids.length<=1000):gY Pg 111 [.agg t.enc] (.one (.sl false 6 ((ko t).map iw.enc))):=by
 by_cases h0:t.kind=0
 ·refine gY.erdV (zlJ t h0) ?_;unfold ko;rw[aC h0];try rfl
 refine UM (by simp) λo c hN hp=>?_;have hf:=Bd o.1;unfold zah at hf;obtain⟨R,hR⟩:∃R,ko t=R:=⟨_,rfl⟩
 rw[hR];unfold ko at hR;rw[aB h0]at hR;unfold MZ;by_cases h7:t.kind=7;rotate_left
 ·rw[aC h7]at hR;subst hR;simp[h0,h7];refine gT (Cu t) ?_;simp[iw.enc];decide
 rw[aB (λz=>z h7)]at hR;simp[h0,h7];refine fV [.t 3] ?_;simp;subst hR;refine fP gz hp (λj:Nat=>j<=t.kids.length) (λj=>[(6,.c (.d (.int .i64 j))),(3,.c (.msl 6 0 0 j)),(1,.c (.d (.rp t.enc 0)))]) (λj=>[F8 (((t.kids.take j).map λk=>(⟨iJ k,false,k⟩:iw)).map iw.enc)]) (λj=>t.kids.length-j) 0 [0] (by simp) (by simp) λj h1=>?_;unfold UL;simp;apply gN<;>intro h
 ·have hj:j<t.kids.length:=by simpa using h
  obtain⟨x,hx⟩:∃x,t.kids[j]=x:=⟨_,rfl⟩
  simp[hj,hx];refine gT (Cu x) ?_;have hmn:min j t.kids.length=j:=by omega
  simp[iw.enc,hj,hx,hmn];refine⟨by omega,by decide,?_⟩;refine fG (j+1) [1] (by omega) (by omega) ?_;rw[aJ hj,hx];simp[iw.enc,hmn];refine⟨wI,by rw[take_take,dz],λx hx=>?_⟩;obtain⟨y,_,rfl⟩:=aY.1 (bL hx);simp
 ·have hj:j=t.kids.length:=by simp at h;omega
  subst hj;simp[oG];try trace_state
theorem Bf:∀{l:List gU} {x:gU},x∈l->jL x<=jg l
|t::l,x,h=>by
 rw[jg];rcases aN.1 h with rfl|h
 ·omega
 ·have:=Bf h;omega
theorem wY{t x:gU}(h:x∈t.kids):jL x<jL t:=by
 cases t with
 |mk k n s l=>rw[jL];have:=Bf (l:=l) h;omega
theorem Ir:∀(ns:List fF) (ks:List gU) (s:fF),(oF ns ks s).2=true->(oF ns ks s).1∈ks
|[],ks,s,h=>by rw[oF]at h;cases h;all_goals (intros;contradiction)
|_::_,[],s,h=>by rw[oF]at h;cases h;all_goals (intros;contradiction)
| n::ns,k::ks,s,h=>by
 rw[oF]at h⊢;by_cases q:n=s
 ·rw[aC q];simp
 ·rw[aB q]at h⊢;exact mem_cons_of_mem _ (Ir ns ks s h)
theorem Mx{t:gU}(h:jK t):t.names.length<=t.kids.length:=by
 rcases((mH t).1 h).2.2 with⟨_,_,q,_⟩|⟨_,q,_⟩|⟨_,q,_⟩|⟨_,q,_⟩
 ·rw[q];simp
 ·omega
 ·rw[q];simp
 ·rw[q];simp
theorem yG{t x:gU}(h:jK t)(hx:x∈t.kids):jK x:=((mH t).1 h).2.1 x hx
theorem EJ{t:gU}(h:jK t)(hk:t.kind=6):t.kids.length=2:=by
 rcases((mH t).1 h).2.2 with⟨_,q,_⟩|⟨q,_⟩|⟨_,_,q⟩|⟨q,_⟩
 ·omega
 ·omega
 ·exact q
 ·omega
theorem Fa{t:gU}(h:iJ t=5):t.kind=6:=by
 unfold iJ at h;split at h
 ·omega
 ·omega
theorem Fb{t:gU}(h:jK t)(h0:t.kind≠0){p:iw}(hp:p∈ko t):jK p.t/\p.tag=iJ p.t/\(∀x,x∈p.t.kids->jL x<jL t)/\p.opn=false:=by
 unfold ko at hp;rw[aB h0]at hp;split at hp
 ·simp at hp;subst hp;exact⟨h,rfl,λx hx=>wY hx,rfl⟩
 ·obtain⟨k,hk,rfl⟩:=aY.1 hp;exact⟨yG h hk,rfl,λx hx=>Nat.lt_trans (wY hx) (wY hk),rfl⟩
theorem EK{l:List iw}{tag:Int}(h:(kH l tag).2=true):(kH l tag).1∈l/\(kH l tag).1.tag=tag:=by
 unfold kH at h⊢;cases e:l.find? λp=>decide (p.tag=tag)with
 |none=>rw[e]at h;cases h
 |some p=>
  have h1:=eQ e;have h2:=find?_some e;exact⟨h1,by simpa using h2⟩
abbrev Cz(lo:Bool)(L R:List iw)(i:Nat):List (Nat × AV):=[(9,.c (.d (.int .i64 i))),(8,.c (.d (.sl false 6 (R.map iw.enc)))),(7,.c (.d (.sl false 6 (L.map iw.enc)))),(2,.c (.d (.bool lo)))]
abbrev Fe(lo:Bool)(rc:gU->gU->Bool)(a b:gU):Prop:=gY Pg 80 [.agg a.enc,.agg b.enc,.one (.bool lo)] (.one (.bool (rc a b)))
theorem zEW{c:Ctx}(hp:c.pure)(lo:Bool)(L R:List iw)(i:Nat)(q:iw)(m:gU)(rc:gU->gU->Bool)(hm:jK m)(hq:jK q.t)(hl:q.t.names.length<=1000)(ih:∀x,x∈m.kids->∀y,y∈q.t.kids->Fe lo rc x y){Q:Exit->St->Prop}{S:St}{g}{ms:List Nat}
  (h0:iM ms S ((13,.c (.d (.int .i64 0)))::(12,.c (.ptr 1 0))::(10,.c (.ptr 0 0))::Cz lo L R i) [.box (q.enc.map .d),.box (m.enc.map .d)])
  (hN:A7 rc m q.t.names q.t.kids=false->∀T M n,Abs.look T 6=.c (.d (.bool false))->Q .ret ⟨T,M,n⟩)
  (hQ:A7 rc m q.t.names q.t.kids=true->∀T,Abs.look T 12=.c (.ptr 1 0)->Abs.look T 10=.c (.ptr 0 0)->Abs.look T 9=.c (.d (.int .i64 i))->Abs.look T 8=.c (.d (.sl false 6 (R.map iw.enc)))->Abs.look T 7=.c (.d (.sl false 6 (L.map iw.enc)))->Abs.look T 2=.c (.d (.bool lo))->Q (.exit 2) ⟨T,hpOf [.box (q.enc.map .d),.box (m.enc.map .d)],2⟩):mV Pg c M3 Q g S:=by
 have hnk:=Mx hq;obtain⟨F0,hF⟩:∃F0,A7 rc m q.t.names q.t.kids=F0:=⟨_,rfl⟩
 rw[hF]at hN hQ;refine fP gz hp (λj:Nat=>j<=q.t.names.length/\A7 rc m (q.t.names.drop j) (q.t.kids.drop j)=F0) (λj=>(13,.c (.d (.int .i64 j)))::(12,.c (.ptr 1 0))::(10,.c (.ptr 0 0))::Cz lo L R i) (λ_=>[.box (q.enc.map .d),.box (m.enc.map .d)]) (λj=>q.t.names.length-j) 0 ms ⟨by simp,by simpa using hF⟩ h0 λj ⟨h1,h2⟩=>?_;unfold M3;simp;apply gN<;>intro h
 ·have hj:j<q.t.names.length:=by simpa using h
  have hj2:j<q.t.kids.length:=by omega
  rw[aG hj,aG hj2,A7]at h2;have hfm:=Ir m.names m.kids q.t.names[j];have hff:oF m.names m.kids q.t.names[j]=kM m q.t.names[j]:=rfl;rw[hff]at hfm;simp[hj,hj2];refine gT (Uz m _ (Mx hm)) ?_;generalize kM m q.t.names[j]=f at*
  by_cases hf:f.2=true
  ·have hix:=ih _ (hfm hf) _ (aO hj2);simp only[hf,Bool.true_and]at h2;simp[hf,hj,hj2];refine⟨by decide,?_⟩;refine gT hix ?_;generalize rc f.1 q.t.kids[j]=z at*
   cases z with
   |true=>
    simp only[Bool.true_and]at h2;simp;refine⟨by decide,?_⟩;refine fG (j+1) [0,1] ⟨by omega,h2⟩ (by omega) ?_;simp;exact wI
   |false=>
    simp only[Bool.false_and]at h2;simp;exact⟨by decide,hN h2.symm _ _ _ (by simp)⟩
  ·simp only[hf,Bool.false_and]at h2;simp[hf,hj,hj2];exact⟨by decide,by decide,hN h2.symm _ _ _ (by simp)⟩
 ·have hj:j=q.t.names.length:=by simp at h;omega
  subst hj;rw[aQ,A7]at h2
  ·exact hQ h2.symm _ (by simp) (by simp) (by simp) (by simp) (by simp) (by simp)
  ·intros;contradiction
theorem za(t:gU):1<=jL t:=by cases t;rw[jL];omega
theorem Bg{t:gU}(h:jK t):t.names.length<=16:=by
 rcases((mH t).1 h).2.2 with⟨_,_,q,_⟩|⟨_,_,q,_⟩|⟨_,q,_⟩|⟨_,q,_⟩
 ·rw[q];simp
 ·omega
 ·rw[q];simp
 ·rw[q];simp
theorem Ai{t:gU}(h:jK t):t.kids.length<=16:=by
 rcases((mH t).1 h).2.2 with⟨_,_,_,q⟩|⟨_,q,r,_⟩|⟨_,_,q⟩|⟨_,_,q,_⟩
 ·rw[q];simp
 ·omega
 ·omega
 ·omega
theorem zh8(t:gU):(ko t).length<=6+t.kids.length:=by
 unfold ko;split
 ·simp
 split
 ·simp;omega
 ·simp
theorem Iu{t:gU}(h:t.kids.length=2):je t∈t.kids/\t.kids[0]?=some (je t):=by
 unfold je
 match t.kids,h with
 |[a,b],_=>simp
theorem Ff{t:gU}(h:t.kids.length=2):jf t∈t.kids/\t.kids[1]?=some (jf t):=by
 unfold jf
 match t.kids,h with
 |[a,b],_=>simp
theorem Iw(lo:Bool):∀(n:Nat) (a b:gU),jK a->jK b->jL a+jL b<=n->Fe lo (vU lo n) a b
|0,a,b,_,_,h=>by have:=za a;omega
| n + 1,a,b,wa,wb,hn=>by
 refine zBY (by simp) λo c hN hp=>?_;obtain⟨F0,hF⟩:∃F0,vU lo (n+1) a b=F0:=⟨_,rfl⟩
 rw[hF];rw[vU]at hF;unfold UU;by_cases a0:a.kind=0
 ·rw[aC (.inl a0)]at hF;cases lo with
  |true=>
   simp at hF;simp[a0,hF]
  |false=>
   simp[a0]at hF;simp[a0,hF]
 by_cases b0:b.kind=0
 ·rw[aC (.inr b0)]at hF;cases lo with
  |true=>
   simp at hF;simp[a0,b0,hF]
  |false=>
   rw[<-hF];simp[a0,b0]
 rw[aB (by omega)]at hF;have hpa:=λp hp=>Fb (p:=p) wa a0 hp;have hpb:=λp hp=>Fb (p:=p) wb b0 hp;simp[a0,b0];refine gT (F9 a (by have:=Ai wa;omega)) ?_;simp;refine gT (F9 b (by have:=Ai wb;omega)) ?_;have hL:(ko a).length<=1000:=by have:=Ai wa;have:=zh8 a;omega
 generalize ko a=L at*
 generalize ko b=R at*
 simp;refine fP gz hp (λi:Nat=>i<=L.length/\((L.drop i).all λp=>(kH R p.tag).2&&(A7 (vU lo n) p.t (kH R p.tag).1.t.names (kH R p.tag).1.t.kids&&(!decide ((kH R p.tag).1.tag=5)||(vU lo n (je (kH R p.tag).1.t) (je p.t)&&vU lo n (jf p.t) (jf (kH R p.tag).1.t)))))=F0) (λi=>Cz lo L R i) (λ_=>[]) (λi=>L.length-i) 0 [] ⟨by simp,by simpa using hF⟩ (by simp) λi ⟨i1,i2⟩=>?_;unfold UT;simp;apply gN<;>intro h
 ·have hi:i<L.length:=by simpa using h
  rw[aG hi,all_cons]at i2;obtain⟨p,hx⟩:∃p,L[i]=p:=⟨_,rfl⟩
  have hpm:=hpa p (by rw[<-hx];exact aO hi);rw[hx]at i2;simp[hi,hx];refine gT (zH R p.tag) ?_;have hq:=λh=>EK (l:=R) (tag:=p.tag) h;generalize kH R p.tag=q at*
  by_cases q2:q.2=true;rotate_left
  ·simp only[q2,Bool.false_and]at i2;simp[q2];simpa using i2
  obtain⟨qm,qt⟩:=hq q2;have hqm:=hpb q.1 qm;simp only[q2,Bool.true_and]at i2;simp[q2,hi,hx];refine zEW hp lo L R i q.1 p.t (vU lo n) hpm.1 hqm.1 (by have:=Bg hqm.1;omega) (λx hx y hy=>Iw lo n x y (yG hpm.1 hx) (yG hqm.1 hy) (by have:=hpm.2.2.1 x hx;have:=hqm.2.2.1 y hy;omega)) (ms:=[0,1]) (by simp) (λhf T M n' t6=>?_) (λhf T t12 t10 t9 t8 t7 t2=>?_)
  ·rw[hf]at i2;simp only[Bool.false_and]at i2;simp[t6,i2]
  ·rw [hf]at i2;simp only[Bool.true_and]at i2;by_cases g5:q.1.tag=5
   ·have hk1:=EJ hqm.1 (Fa (by rw[<-hqm.2.1];exact g5));have hk2:=EJ hpm.1 (Fa (by rw[<-hpm.2.1,<-qt];exact g5));have m0:=Iu hk1;have m1:=Ff hk1;have n0:=Iu hk2;have n1:=Ff hk2;have e1:gY Pg 80 [.agg (je q.1.t).enc,.agg (je p.t).enc,.one (.bool lo)] (.one (.bool (vU lo n (je q.1.t) (je p.t)))):=Iw lo n (je q.1.t) (je p.t) (yG hqm.1 m0.1) (yG hpm.1 n0.1) (by have:=hpm.2.2.1 _ n0.1;have:=hqm.2.2.1 _ m0.1;omega);have e2:gY Pg 80 [.agg (jf p.t).enc,.agg (jf q.1.t).enc,.one (.bool lo)] (.one (.bool (vU lo n (jf p.t) (jf q.1.t)))):=Iw lo n (jf p.t) (jf q.1.t) (yG hpm.1 n1.1) (yG hqm.1 m1.1) (by have:=hpm.2.2.1 _ n1.1;have:=hqm.2.2.1 _ m1.1;omega);simp only[g5,decide_true,Bool.not_true,eP]at i2;generalize vU lo n (je q.1.t) (je p.t)=z1 at*
    generalize vU lo n (jf p.t) (jf q.1.t)=z2 at*
    simp[t10,t12,t2,g5,m0.2,n0.2];refine gT e1 ?_;cases z1 with
    |false=>
     simp only[Bool.false_and]at i2;simp;exact⟨by decide,i2.symm⟩
    | true=>
     simp only[Bool.true_and]at i2;simp[t10,t12,t2,m1.2,n1.2,t9];refine gT e2 ?_;cases z2 with
     |false=>
      simp only[Bool.false_and]at i2;simp;exact⟨by decide,i2.symm⟩
     |true=>
      simp only[Bool.true_and]at i2;simp[t9];refine⟨by decide,?_⟩;refine fG (i+1) [] ⟨by omega,i2⟩ (by omega) ?_;simp[t9,t8,t7,t2];exact wI
   ·simp only[g5,decide_false,Bool.not_false,fB,Bool.true_and]at i2;simp[t10,t12,t2,g5,t9];refine⟨by decide,?_⟩;refine fG (i+1) [] ⟨by omega,i2⟩ (by omega) ?_;simp[t9,t8,t7,t2];exact wI
 ·have hi:i=L.length:=by simp at h;omega
  subst hi;rw[aQ,all_nil]at i2;simp[i2]
theorem Iy(lo:Bool)(a b:gU)(wa:jK a)(wb:jK b):Fe lo (qw lo) a b:=Iw lo (jL a+jL b) a b wa wb (aP _)
theorem Fg(a b:gU):gY Pg 92 [.agg a.enc,.agg b.enc] (.one (.bool (pW a b))):=by
 refine zEG (by simp) λo c hN hp=>?_;unfold UV pW;have H:iE a=true->iE b=true->Fe false (qw false) a b:=λh k=>Iy false a b (z8 h) (z8 k);simp;refine gT (Af a) ?_;simp;refine gT (Af b) ?_;generalize iE a=x at*
 generalize iE b=y at*
 cases x<;>cases y<;>simp;refine gT (H rfl rfl) ?_;simp
theorem VA(a b:gU):gY Pg 55 [.agg a.enc,.agg b.enc] (.one (.bool (A8 a b))):=by
 refine zDn (by simp) λo c hN hp=>?_;unfold UW A8;have H:iE a=true->iE b=true->Fe true (qw true) a b:=λh k=>Iy true a b (z8 h) (z8 k);simp;refine gT (Af a) ?_;simp;refine gT (Af b) ?_;generalize iE a=x at*
 generalize iE b=y at*
 cases x<;>cases y<;>simp;refine gT (H rfl rfl) ?_;simp
abbrev NA(a b:gU)(i:Nat):List (Nat × AV):=[(9,.c (.d (.int .i64 i))),(8,.c (.ptr 2 0)),(7,.c (.ptr 1 0)),(4,.c (.ptr 0 0)),(3,.c (.d (.rp b.enc 0))),(2,.c (.d (.rp a.enc 0)))]
abbrev NB(ks:List gU):List Blk:=[uH,uH,.box [.d (.int .i64 7),.d (.str (bs [])),.d (.sl true 1 []),.msl 4 3 0 ks.length],oM ks]
theorem zHL(a b:gU):gY Pg 139 [.agg a.enc,.agg b.enc] (.agg (y9 a b).enc):=by
 refine zDo (by simp) λo c hN hp=>?_;obtain⟨R,hR⟩:∃R,y9 a b=R:=⟨_,rfl⟩
 rw[hR];unfold y9 at hR;unfold UY;simp;refine gT (Fg a b) ?_;by_cases s1:pW a b=true
 ·rw[aC s1]at hR;subst hR;simp[s1]
 rw[aB s1]at hR;simp[s1];refine gT (Fg b a) ?_;by_cases s2:pW b a=true
 ·rw[aC s2]at hR;subst hR;simp[s2]
 rw[aB s2]at hR;simp[s2];refine gT (Af a) ?_;simp;refine gT (Af b) ?_;by_cases na:iE a=true;rotate_left
 ·rw[aC (.inl (by simpa using na))]at hR;subst hR;simp[na,nR]
 by_cases nb:iE b=true;rotate_left
 ·rw[aC (.inr (.inl (by simpa using nb)))]at hR;subst hR;simp[na,nb,nR]
 by_cases a0:a.kind=0
 ·rw[aC (.inr (.inr (.inl a0)))]at hR;subst hR;simp[na,nb,a0,nR]
 by_cases b0:b.kind=0
 ·rw[aC (.inr (.inr (.inr b0)))]at hR;subst hR;simp[na,nb,a0,b0,nR]
 rw[aB (by simp[na,nb,a0,b0])]at hR;have wa:=z8 na;have wb:=z8 nb;simp[na,nb,a0,b0];refine fV [.c 2 3] ?_;simp;obtain⟨F0,hF⟩:∃F0,zU a b [0,1,2,3,4,5] []=F0:=⟨_,rfl⟩
 rw[hF]at hR;refine fP gz hp (λx:Nat × List gU=>x.1<=6/\x.2.length<=x.1/\zU a b (Be x.1) x.2=F0) (λx=>NA a b x.1) (λx=>NB x.2) (λx=>6-x.1) (0,[]) [0,1,2,3] ⟨by simp,by simp,hF⟩ (by simp) λ⟨t,ks⟩ ⟨i1,i2,i3⟩=>?_;unfold UX;simp only at i1 i2 i3;simp;apply gN<;>intro h
 ·have ht:t<6:=by simp at h;omega
  rw[Uo ht,zU]at i3;refine gT (F9 a (by have:=Ai wa;omega)) ?_;simp;refine gT (zH _ _) ?_;simp;refine gT (F9 b (by have:=Ai wb;omega)) ?_;simp;refine gT (zH _ _) ?_;have hm:=λh=>Fb (p:=(kH (ko a) t).1) wa a0 (EK h).1;have hn:=λh=>Fb (p:=(kH (ko b) t).1) wb b0 (EK h).1;generalize kH (ko a) t=m at*
  generalize kH (ko b) t=n at*
  have hw:=wI (n:=(t:Int)+1);by_cases m2:m.2=true
  ·by_cases n2:n.2=true
   ·rw[aC ⟨m2,n2⟩]at i3;have e1:gY Pg 80 [.agg m.1.t.enc,.agg n.1.t.enc,.one (.bool false)] (.one (.bool (qw false m.1.t n.1.t))):=Iy false _ _ (hm m2).1 (hn n2).1;have e2:gY Pg 80 [.agg n.1.t.enc,.agg m.1.t.enc,.one (.bool false)] (.one (.bool (qw false n.1.t m.1.t))):=Iy false _ _ (hn n2).1 (hm m2).1;simp[m2,n2];refine gT e1 ?_;by_cases z1:qw false m.1.t n.1.t=true
    ·rw[aC z1]at i3;simp[z1];refine⟨by omega,?_⟩;refine fG (t+1,ks++[n.1.t]) [0,1,2,6] ⟨by simp only;omega,by simp;omega,i3⟩ (by simp only;omega) ?_;simp[hw];exact vZ ks
    rw[aB z1]at i3;simp[z1,m2,n2];refine gT e2 ?_;by_cases z2:qw false n.1.t m.1.t=true
    ·rw[aC z2]at i3;simp[z2];refine⟨by omega,?_⟩;refine fG (t+1,ks++[m.1.t]) [0,1,2,6] ⟨by simp only;omega,by simp;omega,i3⟩ (by simp only;omega) ?_;simp[hw];exact vZ ks
    rw[aB z2]at i3;rw[<-i3]at hR;simp only at hR;subst hR;simp[z2,m2,n2,nR]
   ·rw[aB (λz=>n2 z.2),aC m2]at i3;simp[m2,n2];refine⟨by omega,?_⟩;refine fG (t+1,ks++[m.1.t]) [0,1,2,6] ⟨by simp only;omega,by simp;omega,i3⟩ (by simp only;omega) ?_;simp[hw];exact vZ ks
  ·rw[aB (λz=>m2 z.1),aB m2]at i3;by_cases n2:n.2=true
   ·rw[aC n2]at i3;simp[m2,n2];refine⟨by omega,?_⟩;refine fG (t+1,ks++[n.1.t]) [0,1,2,6] ⟨by simp only;omega,by simp;omega,i3⟩ (by simp only;omega) ?_;simp[hw];exact vZ ks
   ·rw[aB n2]at i3;simp[m2,n2];refine fG (t+1,ks) [0,1,2,3] ⟨by simp only;omega,by simp only;omega,i3⟩ (by simp only;omega) ?_;simp[hw]
 ·have ht:t=6:=by simp at h;omega
  subst ht;rw[show Be 6=[]from rfl,zU]at i3;rw[<-i3]at hR;simp only at hR;have hNm:gY Pg 76 [.agg [.int .i64 7,.str (bs []),.sl true 1 [],.sl false 4 (ks.map gU.enc)]] (.tup [.agg (mO (.mk 7 (bs []) [] ks)).1.enc,.one (.int .i64 (mO (.mk 7 (bs []) [] ks)).2)]):=gY.erd (Ae (.mk 7 (bs []) [] ks)) (by simp[EI,DV.erds,DV.erd,D.erdL,D.erd]);have z:take ks.length (List.map gU.enc ks)=List.map gU.enc ks:=aD (by simp);simp;refine fU [3] ?_;simp[iZ,vZ,z];refine gT hNm ?_;generalize mO (.mk 7 (bs []) [] ks)=N at*
  by_cases n0:N.2=0
  ·rw[aC n0]at hR;subst hR;simp[iZ,n0]
  ·rw[aB n0]at hR;subst hR;simp[iZ,n0,nR]
abbrev NC(t:gU)(tag:Int)(i:Nat):List (Nat × AV):=[(10,.c (.d (.int .i64 i))),(9,.c (.ptr 3 0)),(7,.c (.ptr 2 0)),(5,.c (.ptr 1 0)),(4,.c (.ptr 0 0)),(2,.c (.d (.rp t.enc 0))),(1,.c (.d (.int .i64 tag)))]
abbrev ND(p:iw)(ks:List gU):List Blk:=[uH,uH,.box (p.enc.map .d),.box [.d (.int .i64 7),.d (.str (bs [])),.d (.sl true 1 []),.msl 4 4 0 ks.length],oM ks]
theorem zEz(t:gU)(tag:Int):gY Pg 138 [.agg t.enc,.one (.int .i64 tag)] (.tup [.agg (vV t tag).1.enc,.agg (vV t tag).2.enc]):=by
 refine zAn (by simp) λo c hN hp=>?_;obtain⟨R,hR⟩:∃R,vV t tag=R:=⟨_,rfl⟩
 rw[hR];unfold vV at hR;unfold U0;simp;refine gT (Af t) ?_;by_cases na:iE t=true;rotate_left
 ·rw[aC (.inl (by simpa using na))]at hR;subst hR;simp[na];try decide
 by_cases t1:tag<0
 ·rw[aC (.inr (.inl t1))]at hR;subst hR;simp[na,t1];try decide
 by_cases t2:6<=tag
 ·rw[aC (.inr (.inr t2))]at hR;subst hR;simp[na,t1,t2];try decide
 rw[aB (by simp[na];omega)]at hR;have wt:=z8 na;by_cases k0:t.kind=0
 ·rw[aC k0]at hR;by_cases t5:tag=5
  ·rw[aC t5]at hR;subst hR;simp[na,t1,t2,k0,t5];try decide
  ·rw[aB t5]at hR;subst hR;have hw:=wI (n:=1+tag);simp[na,t1,t2,k0,t5,hw];exact⟨by decide,by rw[vg]⟩
 rw[aB k0]at hR;simp[na,t1,t2,k0];refine gT (F9 t (by have:=Ai wt;omega)) ?_;simp;refine gT (zH _ _) ?_;generalize kH (ko t) tag=p at*
 by_cases p2:p.2=true;rotate_left
 ·rw[aC (by simpa using p2)]at hR;subst hR;simp[p2];try decide
 rw[aB (by simp[p2])]at hR;by_cases k7:t.kind=7;rotate_left
 ·rw[aC k7]at hR;subst hR;simp[p2,k7];try decide
 rw[aB (λz=>z k7)]at hR;simp[p2,k7];refine fV [.c 3 3] ?_;simp;have hkl:=Ai wt;obtain⟨F0,hF⟩:∃F0,t.kids.filter (λk=>decide (iJ k≠tag))=F0:=⟨_,rfl⟩
 rw[hF]at hR;refine fP gz hp (λx:Nat × List gU=>x.1<=t.kids.length/\x.2.length<=x.1/\x.2++(t.kids.drop x.1).filter (λk=>decide (iJ k≠tag))=F0) (λx=>NC t tag x.1) (λx=>ND p.1 x.2) (λx=>t.kids.length-x.1) (0,[]) [0,1,2,3,4] ⟨by simp,by simp,by simpa using hF⟩ (by simp) λ⟨j,ks⟩ ⟨i1,i2,i3⟩=>?_;unfold UZ;simp only at i1 i2 i3;simp;apply gN<;>intro h
 ·have hj:j<t.kids.length:=by simpa using h
  rw[aG hj,dS]at i3;obtain⟨x,hx⟩:∃x,t.kids[j]=x:=⟨_,rfl⟩
  rw[hx]at i3;have hw:=wI (n:=(j:Int)+1);simp[hj,hx];refine gT (Cu x) ?_;by_cases q:iJ x=tag
  ·rw[aB (by simp[q])]at i3;simp[q];refine fG (j+1,ks) [0,1,2,3,4] ⟨by simp only;omega,by simp only;omega,i3⟩ (by simp only;omega) ?_;simp[hw]
  ·rw[aC (by simp[q])]at i3;simp[q,hj,hx];refine⟨by omega,by decide,?_⟩;refine fG (j+1,ks++[x]) [0,1,2,3,5] ⟨by simp only;omega,by simp;omega,by simpa using i3⟩ (by simp only;omega) ?_;simp[hw];exact vZ ks
 ·have hj:j=t.kids.length:=by simp at h;omega
  subst hj;rw[aQ,filter_nil,bM]at i3;subst i3;have z:take ks.length (List.map gU.enc ks)=List.map gU.enc ks:=aD (by simp)
  match ks,i2,hR,z with
  |[x],i2,hR,z=>
   simp only at hR;subst hR;simp;decide
  |[],i2,hR,z=>
   simp only at hR;subst hR;simp[EI];decide
  |x::y::l2,i2,hR,z=>
   simp only at hR;subst hR;have h1:¬((l2.length:Int)+1+1=1):=by omega
   simp[h1,EI,oG];decide
end Go.Gr
namespace Go.Abs
theorem MCall.frzV{P:Program}{f:FuncId}{args:List AV}{bs:List Blk}{ds:List DV}{V:DV}(hp:gY P f ds V)(hd:∀(h h':PH) (v:Value),kQ h V v->kQ h' V v)(e:zI (hpOf bs) args=some ds)
  (h1:(bs.all λb=>b.tag !=0)=true) (h2:(bs.all λb=>b.lv (live bs))=true) (h3:V.av.lv (live bs)=true):MCall P f args bs V.av bs:=by
 refine⟨hp.1,aP _,BS h1,h3,λb hb=>aa.1 h2 b hb,λh ρ w argsC H hG r=>?_⟩;have k:=IG (n:=0) H (λ_ _ _ _=>dH _) args ds argsC e r;refine(hp.2 (uN h 0 w.heap) w argsC (LH H) (hG.mono (Ep H)) k).mono λe w' hh=>?_;obtain⟨vC,h',e1,e2,e3,e4,e5,e6,e7,e8⟩:=hh;have hx:∀B,B<w.heap.size->w'.heap[B]?=w.heap[B]?:=e6;have hP:∀B o,h B=some o->w'.heap[B]?=some o:=λB o he=>by
  rw[e6 B (H.lt he)];exact H.pers B o he
 exact⟨vC,h,ρ,e1,⟨λ_ _ he=>he,λB hB _=>rfl,e5,λB hB _=>e6 B hB,λb p hp hr=>.inr ⟨b,p,hp,hr,rfl⟩⟩,H.grow (λ_ _ he=>he) hP (λB hB _=>⟨e6 B hB,rfl⟩),e7,kQ.av (hd _ _ _ e8),λ_ _=>rfl⟩
end Go.Abs
namespace Go.Gr
open Go.Abs Go.Proofs
@[simp] theorem jF.enc_length(e:jF):e.enc.length=3:=rfl
@[simp] theorem jF.enc_0(e:jF):e.enc[0]?=some (.str e.name):=rfl
@[simp] theorem jF.enc_1(e:jF):e.enc[1]?=some (.int .i64 e.module):=rfl
@[simp] theorem jF.enc_2(e:jF):e.enc[2]?=some (.int .i64 e.decl):=rfl
@[simp] theorem jF.enc_g0(e:jF)(h:0<e.enc.length):e.enc[0]=.str e.name:=rfl
@[simp] theorem jF.cut_enc(e:jF):cut e.enc 0 3=e.enc:=rfl
@[simp] theorem jF.cut_map(e:jF):cut (e.enc.map AC.d) 0 3=e.enc.map .d:=rfl
@[simp] theorem jF.er_map(e:jF):e.enc.map D.er=e.enc:=rfl
@[simp] theorem jW.enc_0(m:jW):m.enc[0]?=some (.sl false 4 (m.imps.map jl.enc)):=rfl
@[simp] theorem jW.enc_1(m:jW):m.enc[1]?=some (.sl false 15 (m.decs.map jZ.enc)):=rfl
@[simp] theorem jW.enc_g0(m:jW)(h:0<m.enc.length):m.enc[0]=.sl false 4 (m.imps.map jl.enc):=rfl
@[simp] theorem jW.enc_g1(m:jW)(h:1<m.enc.length):m.enc[1]=.sl false 15 (m.decs.map jZ.enc):=rfl
@[simp] theorem jZ.enc_0(d:jZ):d.enc[0]?=some (.str d.name):=rfl
@[simp] theorem jZ.enc_1(d:jZ):d.enc[1]?=some (.bool d.exp):=rfl
@[simp] theorem jZ.enc_2(d:jZ):d.enc[2]?=some (.sl false 5 (d.vars.map il)):=rfl
@[simp] theorem jZ.enc_3(d:jZ):d.enc[3]?=some (.str d.param):=rfl
@[simp] theorem jZ.enc_4(d:jZ):d.enc[4]?=some (.sl false 4 (d.types.map gU.enc)):=rfl
theorem jZ.enc_13(d:jZ):d.enc[13]?=some (.int .i64 d.line):=by unfold jZ.enc;rw[gq.enc_eq];try rfl
theorem jZ.enc_14(d:jZ):d.enc[14]?=some (.int .i64 d.col):=by unfold jZ.enc;rw[gq.enc_eq];try rfl
attribute [simp] jZ.enc_13 jZ.enc_14
@[simp] theorem jZ.enc_g0(d:jZ)(h:0<d.enc.length):d.enc[0]=.str d.name:=rfl
@[simp] theorem jZ.enc_g1(d:jZ)(h:1<d.enc.length):d.enc[1]=.bool d.exp:=rfl
@[simp] theorem jZ.enc_g2(d:jZ)(h:2<d.enc.length):d.enc[2]=.sl false 5 (d.vars.map il):=rfl
@[simp] theorem jZ.enc_g13(d:jZ)(h:13<d.enc.length):d.enc[13]=.int .i64 d.line:=by have:=d.enc_13;rw[aA h]at this;exact bR this
@[simp] theorem jZ.enc_g14(d:jZ)(h:14<d.enc.length):d.enc[14]=.int .i64 d.col:=by have:=d.enc_14;rw[aA h]at this;exact bR this
@[simp] theorem jl.enc_0(x:jl):x.enc[0]?=some (.str x.from_):=rfl
@[simp] theorem jl.enc_1(x:jl):x.enc[1]?=some (.sl false 1 (encS x.names)):=rfl
@[simp] theorem jl.enc_2(x:jl):x.enc[2]?=some (.int .i64 x.line):=rfl
@[simp] theorem jl.enc_3(x:jl):x.enc[3]?=some (.int .i64 x.col):=rfl
@[simp] theorem jl.enc_g0(x:jl)(h:0<x.enc.length):x.enc[0]=.str x.from_:=rfl
@[simp] theorem jl.enc_g1(x:jl)(h:1<x.enc.length):x.enc[1]=.sl false 1 (encS x.names):=rfl
@[simp] theorem jl.enc_g2(x:jl)(h:2<x.enc.length):x.enc[2]=.int .i64 x.line:=rfl
@[simp] theorem jl.enc_g3(x:jl)(h:3<x.enc.length):x.enc[3]=.int .i64 x.col:=rfl
@[simp] theorem jl.cut_enc(x:jl):cut x.enc 0 4=x.enc:=rfl
@[simp] theorem jl.cut_map(x:jl):cut (x.enc.map AC.d) 0 4=x.enc.map .d:=rfl
def rA(s:List jF):List D:=[.sl false 3 (s.map jF.enc)]
theorem iQ.enc_eq(l:iQ):l.enc=[.sl false 1 (encS l.names),.sl false 2 (l.mods.map jW.enc),.sl false 1 (l.scopes.map rA),.str l.main.name,.int .i64 l.main.module,.int .i64 l.main.decl]:=rfl
@[simp] theorem iQ.enc_length(l:iQ):l.enc.length=6:=rfl
@[simp] theorem iQ.enc_0(l:iQ):l.enc[0]?=some (.sl false 1 (encS l.names)):=rfl
@[simp] theorem iQ.enc_1(l:iQ):l.enc[1]?=some (.sl false 2 (l.mods.map jW.enc)):=rfl
@[simp] theorem iQ.enc_2(l:iQ):l.enc[2]?=some (.sl false 1 (l.scopes.map rA)):=rfl
@[simp] theorem iQ.enc_g0(l:iQ)(h:0<l.enc.length):l.enc[0]=.sl false 1 (encS l.names):=rfl
@[simp] theorem iQ.enc_g1(l:iQ)(h:1<l.enc.length):l.enc[1]=.sl false 2 (l.mods.map jW.enc):=rfl
@[simp] theorem iQ.enc_g2(l:iQ)(h:2<l.enc.length):l.enc[2]=.sl false 1 (l.scopes.map rA):=rfl
@[simp] theorem iQ.cut_enc(l:iQ):cut l.enc 0 6=l.enc:=rfl
@[simp] theorem iQ.cut_map(l:iQ):cut (l.enc.map AC.d) 0 6=l.enc.map .d:=rfl
@[simp] theorem iQ.er_map(l:iQ):l.enc.map D.er=l.enc:=rfl
theorem Fh{α:Type}(q:α->Bool):∀(j:Nat) (l:List α),fi q j l= -1\/((j:Int)<=fi q j l/\fi q j l<j+l.length)
|j,[]=>.inl rfl
| j,x::l=>by
 unfold fi;split
 ·exact .inr ⟨Int.le_refl _,by simp;omega⟩
 ·rcases Fh q (j+1) l with h|h
  ·exact .inl h
  ·exact .inr ⟨by omega,by simp;omega⟩
theorem Fj(names:List fF)(s:fF):gY Pg 31 [.one (.sl false 1 (encS names)),.one (.str s)] (.one (.int .i64 (jq names s))):=by
 refine zAo (by simp) λo c hN hp=>?_;have hl:names.length<=zah:=by have:=o.1;simp only[DV.ok,D.ok,Cc]at this;exact this.1
 unfold zah at hl;unfold U2 jq;obtain⟨R,hR⟩:∃R,fi (λn=>decide (n=s)) 0 names=R:=⟨_,rfl⟩
 rw[hR];simp;refine fP gz hp (λj:Nat=>j<=names.length/\fi (λn=>decide (n=s)) j (names.drop j)=R) (λj=>[(5,.c (.d (.int .i64 j))),(1,.c (.d (.str s))),(0,.c (.d (.sl false 1 (encS names))))]) (λ_=>[]) (λj=>names.length-j) 0 [] ⟨by simp,by simpa using hR⟩ (by simp) λj ⟨h1,h2⟩=>?_;unfold U1;simp;apply gN<;>intro h
 ·have hj:j<names.length:=by simpa using h
  rw[aG hj,fi]at h2;by_cases q:names[j]=s
  ·rw[aC (by simpa using q)]at h2;subst h2;simp[hj,q]
  ·rw[aB (by simpa using q)]at h2;simp[hj,q];refine fG (j+1) [] ⟨by omega,h2⟩ (by omega) ?_;simp;exact wI
 ·have hj:j=names.length:=by simp at h;omega
  subst hj;rw[aQ,fi]at h2;subst h2;simp
theorem VB(m:jW)(s:fF)(hm:m.decs.length<=100000):gY Pg 32 [.agg m.enc,.one (.str s)] (.one (.int .i64 (uG m s))):=by
 refine zDq (by simp) λo c hN hp=>?_;unfold U8 uG;obtain⟨R,hR⟩:∃R,fi (λd:jZ=>decide (d.name=s)) 0 m.decs=R:=⟨_,rfl⟩
 rw[hR];simp;refine fP gz hp (λj:Nat=>j<=m.decs.length/\fi (λd:jZ=>decide (d.name=s)) j (m.decs.drop j)=R) (λj=>[(5,.c (.d (.int .i64 j))),(2,.c (.d (.rp m.enc 0))),(1,.c (.d (.str s)))]) (λ_=>[]) (λj=>m.decs.length-j) 0 [] ⟨by simp,by simpa using hR⟩ (by simp) λj ⟨h1,h2⟩=>?_;unfold U7;simp;apply gN<;>intro h
 ·have hj:j<m.decs.length:=by simpa using h
  rw[aG hj,fi]at h2;by_cases q:m.decs[j].name=s
  ·rw[aC (by simpa using q)]at h2;subst h2;simp[hj,q]
  ·rw[aB (by simpa using q)]at h2;simp[hj,q];refine fG (j+1) [] ⟨by omega,h2⟩ (by omega) ?_;simp;exact wI
 ·have hj:j=m.decs.length:=by simp at h;omega
  subst hj;rw[aQ,fi]at h2;subst h2;simp
abbrev yl(r:jF × Bool):DV:=.tup [.agg r.1.enc,.one (.bool r.2)]
theorem VC(l:List jF)(s:fF):gY Pg 48 [.one (.sl false 3 (l.map jF.enc)),.one (.str s)] (yl (qx l s)):=by
 refine zDp (by simp) λo c hN hp=>?_;have hl:l.length<=zah:=by have:=o.1;simp only[DV.ok,D.ok,aV]at this;exact this.1
 unfold zah at hl;obtain⟨R,hR⟩:∃R,qx l s=R:=⟨_,rfl⟩
 rw[hR];unfold U6;simp;refine fP gz hp (λj:Nat=>j<=l.length/\qx (l.drop j) s=R) (λj=>[(6,.c (.d (.int .i64 j))),(4,.c (.ptr 0 0)),(1,.c (.d (.str s))),(0,.c (.d (.sl false 3 (l.map jF.enc))))]) (λ_=>[.box [.d (.str (bs [])),.d (.int .i64 0),.d (.int .i64 0)]]) (λj=>l.length-j) 0 [0] ⟨by simp,by simpa using hR⟩ (by simp) λj ⟨h1,h2⟩=>?_;unfold U5;simp;apply gN<;>intro h
 ·have hj:j<l.length:=by simpa using h
  rw[aG hj,qx]at h2;by_cases q:l[j].name=s
  ·rw[aC q]at h2;subst h2;simp[hj,q]
  ·rw[aB q]at h2;simp[hj,q];refine fG (j+1) [0] ⟨by omega,h2⟩ (by omega) ?_;simp;exact wI
 ·have hj:j=l.length:=by simp at h;omega
  subst hj;rw[aQ,qx]at h2;subst h2;simp;rfl
theorem zFG(r:jF × Bool):∀(h h':PH) (v:Value),kQ h (yl r) v->kQ h' (yl r) v:=λh h' v q=>by
 simp only[yl,kQ]at q⊢;obtain⟨vs,e,r⟩:=q;refine⟨vs,e,?_⟩;rcases vs with _|⟨v1,_|⟨v2,vs⟩⟩
 ·simp[jd]at r
 ·simp[jd]at r
 ·simp only[jd]at r⊢;refine⟨?_,by simpa[kQ,RepD]using r.2.1,r.2.2⟩;have r1:=r.1;simp only[kQ]at r1⊢;obtain⟨us,e1,e2,e3⟩:=r1;refine⟨us,e1,e2,?_⟩;rcases us with _|⟨u1,_|⟨u2,_|⟨u3,us⟩⟩⟩
  ·simp at e2
  ·simp at e2
  ·simp at e2
  ·simpa[jF.enc,RepL,RepD]using e3
theorem VD(l:List jF)(s:fF):MCall Pg 48 [.c (.msl 3 0 0 l.length),.c (.d (.str s))] [.arr 3 ((l.map jF.enc).map (·.map .d))] (.tup [.ag ((qx l s).1.enc.map .d),.c (.d (.bool (qx l s).2))]) [.arr 3 ((l.map jF.enc).map (·.map .d))]:=by
 have:=MCall.frzV (bs:=[.arr 3 ((l.map jF.enc).map (·.map .d))]) (args:=[.c (.msl 3 0 0 l.length),.c (.d (.str s))]) (VC l s) (zFG _) (by simp[oG]) (by simp) (by simp) (by simp[jF.enc]);simpa[yl,DV.av,DV.avs]using this
theorem zEd(names:List fF)(s:fF):MCall Pg 31 [.c (.msl 1 0 0 names.length),.c (.d (.str s))] [.arr 1 ((encS names).map (·.map .d))] (.c (.d (.int .i64 (jq names s)))) [.arr 1 ((encS names).map (·.map .d))]:=
 MCall.frzI (Fj names s) (by simp[oG,aD]) (by simp) (by simp)
theorem zIp(d:iV)(i:Int):put (d.enc.map AC.d) 0 [.d (.int .i64 i)]=(⟨i,d.line,d.col,d.e⟩:iV).enc.map .d:=rfl
def lV(s:fF × fF):List D:=[.str s.1,.str s.2]
@[simp] theorem zJg(s:fF × fF):(lV s).length=2:=rfl
@[simp] theorem zLo(s:fF × fF):(lV s)[0]?=some (.str s.1):=rfl
@[simp] theorem zLp(s:fF × fF):(lV s)[1]?=some (.str s.2):=rfl
@[simp] theorem zK8(s:fF × fF)(h:0<(lV s).length):(lV s)[0]=.str s.1:=rfl
@[simp] theorem zK9(s:fF × fF)(h:1<(lV s).length):(lV s)[1]=.str s.2:=rfl
def ym(x:List fF × List jW):iQ:=⟨x.1,x.2,[],A9⟩
abbrev lkZ:Blk:=.box [.d (.sl true 1 []),.d (.sl true 2 []),.d (.sl true 1 []),.d (.str (bs [])),.d (.int .i64 0),.d (.int .i64 0)]
abbrev NE(l:List (fF × fF))(i nb:Nat):List (Nat × AV):=[(6,.c (.d (.int .i64 i))),(5,.c (.msl 4 4 0 nb)),(4,.c (.ptr 1 0)),(2,.c (.ptr 0 0)),(0,.c (.d (.sl false 2 (l.map lV))))]
abbrev mI(bad:List iV):Blk:=.arr 4 ((bad.map iV.enc).map (·.map .d))
abbrev NG(ns:List fF)(ms:List jW)(bad:List iV):List Blk:=[lkZ,.box [.msl 1 2 0 ns.length,.msl 2 3 0 ms.length,.d (.sl true 1 []),.d (.str (bs [])),.d (.int .i64 0),.d (.int .i64 0)],.arr 1 ((encS ns).map (·.map .d)),.arr 2 ((ms.map jW.enc).map (·.map .d)),mI bad]
theorem zHi(l:List (fF × fF)):gY Pg 28 [.one (.sl false 2 (l.map lV))] (.tup [.agg (ym (u7 l).1).enc,.one (.sl false 4 ((u7 l).2.map iV.enc))]):=by
 refine zBZ (by simp) λo c hN hp=>?_;obtain⟨R,hR⟩:∃R,u7 l=R:=⟨_,rfl⟩
 rw[hR];unfold u7 at hR;unfold U4;by_cases h16:16<l.length
 ·have h16':(16:Int)<l.length:=by omega
  rw[aC h16]at hR;subst hR;simp[h16'];exact⟨rfl,rfl⟩
 have h16':¬(16:Int)<l.length:=by omega
 rw[aB h16]at hR;simp[h16,h16'];refine fV [.c 1 0,.c 1 1,.t 5] ?_;simp;refine fP gz hp (λx:Nat × List fF × List jW × List iV=>x.1<=l.length/\x.2.1.length=x.1/\x.2.2.1.length=x.1/\x.2.2.2.length<=x.1/\rR (l.drop x.1) x.1 x.2.1 x.2.2.1 x.2.2.2=R) (λx=>NE l x.1 x.2.2.2.length) (λx=>NG x.2.1 x.2.2.1 x.2.2.2) (λx=>l.length-x.1) (0,[],[],[]) [0,1,2,3,4] ⟨by simp,rfl,rfl,by simp,by simpa using hR⟩ (by simp[encS]) λ⟨i,ns,ms,bad⟩ ⟨i1,i2,i3,i4,i5⟩=>?_;unfold U3;simp only at i1 i2 i3 i4 i5;simp;apply gN<;>intro h
 ·have hi:i<l.length:=by simpa using h
  obtain⟨s,hs⟩:∃s,l[i]=s:=⟨_,rfl⟩
  rw[aG hi,hs,rR]at i5;have hw:=wI (n:=(i:Int)+1);have hmz:=zEd ns s.1;simp[hi,hs];refine gT (Ic s.1) ?_;simp[hi,hs];refine gT (zGm s.2) ?_;generalize qc s.2=m at*
  simp[hi,hs];refine gP [2] hmz ?_;generalize jq ns s.1=z at*
  simp[hi,hs];refine⟨by decide,by omega,by decide,by omega,?_⟩;by_cases n1:nE s.1=true;rotate_left
  ·rw[aC (by simpa using n1)]at i5;simp[n1];refine⟨by omega,?_⟩;refine fG (i+1,ns++[s.1],ms++[m.1],bad++[⟨i,1,1,10⟩]) [0,1,7,8,9] ⟨by simp only;omega,by simp[i2],by simp[i3],by simp;omega,i5⟩ (by simp only;omega) ?_;simp[hw,iV.enc];exact⟨aD (by simp),oG _ _,oG _ _⟩
  rw[aB (by simpa using n1)]at i5;by_cases z1:0<=z
  ·rw[aC z1]at i5;simp[n1,z1];refine⟨by omega,?_⟩;refine fG (i+1,ns++[s.1],ms++[m.1],bad++[⟨i,1,1,8⟩]) [0,1,7,8,9] ⟨by simp only;omega,by simp[i2],by simp[i3],by simp;omega,i5⟩ (by simp only;omega) ?_;simp[hw,iV.enc];exact⟨aD (by simp),oG _ _,oG _ _⟩
  rw[aB z1]at i5;by_cases e0:m.2.e=0
  ·rw[aB (by simp[e0])]at i5;simp[n1,z1,e0];refine fG (i+1,ns++[s.1],ms++[m.1],bad) [0,1,7,8,4] ⟨by simp only;omega,by simp[i2],by simp[i3],by simp only;omega,i5⟩ (by simp only;omega) ?_;simp[hw,iV.enc];exact⟨aD (by simp),oG _ _⟩
  ·rw[aC e0]at i5;simp[n1,z1,e0,zIp];refine⟨by omega,?_⟩;refine fG (i+1,ns++[s.1],ms++[m.1],bad++[⟨i,m.2.line,m.2.col,m.2.e⟩]) [0,1,7,8,9] ⟨by simp only;omega,by simp[i2],by simp[i3],by simp;omega,i5⟩ (by simp only;omega) ?_;simp[hw];exact⟨aD (by simp),oG _ _,oG _ _⟩
 ·have hi:i=l.length:=by simp at h;omega
  subst hi;rw[aQ,rR]at i5;subst i5;simp[oG,ym,iQ.enc_eq];exact⟨aD (by simp),rfl,rfl,rfl⟩
end Go.Gr
namespace Go.Gr
open Go.Abs Go.Proofs List
@[simp] theorem zLa(l:List fF)(j:Nat)(h:j<(encS l).length):(encS l)[j]=[.str (l[j]'(by simpa using h))]:=by simp[encS]
structure lW (m:jW):Prop where
 imps:m.imps.length<=10001
 names:∀x,x∈m.imps->x.names.length<=10001
 decs:m.decs.length<=10001
def Aj(p:iQ):Prop:=p.mods.length<=16/\p.names.length=p.mods.length/\∀m,m∈p.mods->lW m
abbrev Ak(sc:List jF):Blk:=.arr 3 ((sc.map jF.enc).map (·.map .d))
theorem VE(m:jW)(s:fF):uG m s= -1\/(0<=uG m s/\uG m s<m.decs.length):=by
 have:=Fh (λd:jZ=>decide (d.name=s)) 0 m.decs;unfold uG;omega
theorem Iz(ns:List fF)(s:fF):jq ns s= -1\/(0<=jq ns s/\jq ns s<ns.length):=by
 have:=Fh (λn=>decide (n=s)) 0 ns;unfold jq;omega
theorem getD_in{α:Type}(l:List α)(d:α){z:Int}{n:Int}(hn:n=l.length)(h0:0<=z)(h1:z<n):l[z.toNat]?=some (l.getD z.toNat d)/\l.getD z.toNat d∈l:=by
 have h:z.toNat<l.length:=by omega
 rw[aH,aA h];exact⟨rfl,aO h⟩
theorem JA(M:jW)(m i:Int)(x:jl):∀(l:List fF) (sc:List jF) (bad:List iV),(og M m i x l sc bad).1.length<=sc.length+l.length/\(og M m i x l sc bad).2.length<=bad.length+l.length
|[],sc,bad=>by simp[og]
|s::l,sc,bad=>by
 rw[og];split
 ·have:=JA M m i x l sc (bad++[⟨i,x.line,x.col,12⟩]);simp at this⊢;omega
 split
 ·have:=JA M m i x l sc (bad++[⟨i,x.line,x.col,8⟩]);simp at this⊢;omega
 ·have:=JA M m i x l (sc++[⟨s,m,uG M s⟩]) bad;simp at this⊢;omega
theorem zBP(ns:List fF)(ms:List jW)(i:Int)(x:jl)(sc:List jF):(yE ns ms i x sc).1.length<=sc.length+x.names.length/\(yE ns ms i x sc).2.length<=1+x.names.length:=by
 unfold yE;split
 ·simp
 ·have:=JA (ms.getD (jq ns x.from_).toNat o9) (jq ns x.from_) i x x.names sc [];simp only[length_nil,Nat.zero_add]at this;exact⟨this.1,by omega⟩
abbrev NH(p:iQ)(x:jl)(m j n nb:Nat):List (Nat × AV):=[(13,.c (.d (.int .i64 j))),(12,.c (.d (.int .i64 m))),(11,.c (.ptr 1 0)),(10,.c (.msl 4 2 0 nb)),(6,.c (.d (.rp x.enc 0))),(4,.c (.d (.rp p.enc 0))),(3,.c (.msl 3 0 0 n))]
abbrev dBx(i:Int)(x:jl)(e:Int):Blk:=.box [.d (.int .i64 i),.d (.int .i64 x.line),.d (.int .i64 x.col),.d (.int .i64 e)]
theorem zCr(p:iQ)(hp':Aj p)(i:Int)(x:jl)(hx:x.names.length<=10001)(sc:List jF)(hsc:sc.length<=1000000000):
  MCall Pg 47 [.ag (p.enc.map .d),.c (.d (.int .i64 i)),.ag (x.enc.map .d),.c (.msl 3 0 0 sc.length)] [Ak sc]
   (.tup [.c (.msl 3 1 0 (yE p.names p.mods i x sc).1.length),.c (.d (.sl false 4 ((yE p.names p.mods i x sc).2.map iV.enc)))]) [.dead,Ak (yE p.names p.mods i x sc).1]:=by
 refine zxT ⟨by simp,by simp,by simp,by simp,by simp,by simp;rfl,by simp⟩ λts hts ok hb c hN hp=>?_;obtain⟨t,rfl⟩:=lw hts;obtain⟨R,hR⟩:∃R,yE p.names p.mods i x sc=R:=⟨_,rfl⟩
 rw[hR];unfold yE at hR;have hmz:=Fj p.names x.from_;have hml:=Iz p.names x.from_;unfold Ua;simp;refine gT hmz ?_;generalize jq p.names x.from_=z at*
 by_cases z0:z<0
 ·rw[aC z0]at hR;subst hR;simp[z0];refine⟨by decide,?_⟩;refine fU [] ?_;simp;exact fJ [1,0] [1] (by simp[iV.enc,AV.erds,AV.erd])
 rw[aB z0]at hR;obtain⟨g1,g2⟩:=getD_in p.mods o9 (z:=z) (n:=p.names.length) (by rw[hp'.2.1]) (by omega) (by omega);generalize p.mods.getD z.toNat o9=M at*
 have hM:=hp'.2.2 M g2;have h16:=hp'.1;have hnm:=hp'.2.1;obtain⟨zn,rfl⟩:∃zn:Nat,z=zn:=⟨z.toNat,by omega⟩
 simp only[bC]at g1;simp[z0];refine fV [.t 10] ?_;simp;refine fP gz hp (λy:Nat × List jF × List iV × Int=>y.1<=x.names.length/\y.2.1.length<=sc.length+y.1/\y.2.2.1.length<=y.1/\og M zn i x (x.names.drop y.1) y.2.1 y.2.2.1=R) (λy=>NH p x zn y.1 y.2.1.length y.2.2.1.length) (λy=>[Ak y.2.1,dBx i x y.2.2.2,mI y.2.2.1]) (λy=>x.names.length-y.1) (0,sc,[],11) [0,2,3] ⟨by simp,by simp,by simp,by simpa using hR⟩ (by simp) λ⟨j,s,bad,e⟩ ⟨i1,i2,i3,i4⟩=>?_;unfold U9;simp only at i1 i2 i3 i4;simp;apply gN<;>intro h
 ·have hj:j<x.names.length:=by simpa using h
  obtain⟨n,hn⟩:∃n,x.names[j]=n:=⟨_,rfl⟩
  rw[aG hj,hn,og]at i4;have hw:=wI (n:=(j:Int)+1);have hdl:=VE M n;have hfm:=VD s n;simp[hj,hn,g1];refine gT (VB M n (by have:=hM.decs;omega)) ?_;simp[hj,hn];refine⟨by decide,?_⟩;refine gP [0] hfm ?_;generalize qx s n=f at*
  generalize uG M n=k at*
  simp;by_cases k0:k<0
  ·rw[aC (.inl k0)]at i4;simp[k0];refine⟨by omega,?_⟩;refine fG (j+1,s,bad++[⟨i,x.line,x.col,12⟩],12) [0,1,4] ⟨by simp only;omega,by simp only;omega,by simp;omega,i4⟩ (by simp only;omega) ?_;simp[hw,iV.enc];exact oG _ _
  obtain⟨g3,g4⟩:=getD_in M.decs Bb (z:=k) (n:=M.decs.length) rfl (by omega) (by omega);generalize M.decs.getD k.toNat Bb=d at*
  obtain⟨kn,rfl⟩:∃kn:Nat,k=kn:=⟨k.toNat,by omega⟩
  simp only[bC]at g3;by_cases ex:d.exp=true;rotate_left
  ·rw[aC (.inr (by simpa using ex))]at i4;simp[k0,g1,g3,ex];refine⟨by omega,?_⟩;refine fG (j+1,s,bad++[⟨i,x.line,x.col,12⟩],12) [0,1,4] ⟨by simp only;omega,by simp only;omega,by simp;omega,i4⟩ (by simp only;omega) ?_;simp[hw,iV.enc];exact oG _ _
  by_cases f2:f.2=true
  ·rw[aB (by simp[k0,ex]),aC f2]at i4;simp[k0,g1,g3,ex,f2];refine⟨by omega,?_⟩;refine fG (j+1,s,bad++[⟨i,x.line,x.col,8⟩],8) [0,1,4] ⟨by simp only;omega,by simp only;omega,by simp;omega,i4⟩ (by simp only;omega) ?_;simp[hw,iV.enc];exact oG _ _
  ·rw[aB (by simp[k0,ex]),aB f2]at i4;simp[k0,g1,g3,ex,f2,hj,hn];refine⟨by omega,?_⟩;refine fG (j+1,s++[⟨n,zn,kn⟩],bad,e) [4,1,2] ⟨by simp only;omega,by simp;omega,by simp only;omega,i4⟩ (by simp only;omega) ?_;simp[hw,jF.enc];exact oG _ _
 ·have hj:j=x.names.length:=by simp at h;omega
  subst hj;rw[aQ,og]at i4;subst i4;simp;refine fU [2] ?_;simp[iZ,oG];exact fO [1,0] [1] (by simp[iZ])
abbrev allA(all:List (List jF)):Blk:=.arr 1 ((all.map rA).map (·.map .d))
abbrev Al(p:iQ)(i na nb n:Nat):List (Nat × AV):=[(8,.c (.ptr 2 0)),(7,.c (.msl 3 3 0 n)),(6,.c (.d (.int .i64 i))),(5,.c (.msl 4 1 0 nb)),(4,.c (.msl 1 0 0 na)),(1,.c (.d (.rp p.enc 0)))]
abbrev xc(all:List (List jF))(bad:List iV)(m:jW)(sc:List jF):List Blk:=[allA all,mI bad,.box (m.enc.map .d),Ak sc]
theorem zDS{c:Ctx}(hp:c.pure)(p:iQ)(hp':Aj p)(i:Nat)(m:jW)(hm:lW m)(all:List (List jF))(b0:List iV)(hb0:b0.length<=10000000000)(F0:List jF × List iV)(hF:zV p.names p.mods i m.imps [] b0=F0){Q:Exit->St->Prop}{S:St}{g}{ms:List Nat}
  (h0:iM ms S ((9,.c (.d (.int .i64 0)))::Al p i all.length b0.length 0) (xc all b0 m []))
  (hQ:F0.1.length<=100020001->F0.2.length<=b0.length+100030002->∀T,Abs.look T 8=.c (.ptr 2 0)->Abs.look T 7=.c (.msl 3 3 0 F0.1.length)->Abs.look T 6=.c (.d (.int .i64 i))->Abs.look T 5=.c (.msl 4 1 0 F0.2.length)->Abs.look T 4=.c (.msl 1 0 0 all.length)->Abs.look T 1=.c (.d (.rp p.enc 0))->Q (.exit 2) ⟨T,hpOf (xc all F0.2 m F0.1),4⟩):mV Pg c M4 Q g S:=by
 have hmi:=hm.imps;refine fP gz hp (λy:Nat × List jF × List iV=>y.1<=m.imps.length/\y.2.1.length<=y.1*10001/\y.2.2.length<=b0.length+y.1*10002/\zV p.names p.mods i (m.imps.drop y.1) y.2.1 y.2.2=F0) (λy=>(9,.c (.d (.int .i64 y.1)))::Al p i all.length y.2.2.length y.2.1.length) (λy=>xc all y.2.2 m y.2.1) (λy=>m.imps.length-y.1) (0,[],b0) ms ⟨by simp,by simp,by simp,by simpa using hF⟩ h0 λ⟨k,sc,bad⟩ ⟨i1,i2,i3,i4⟩=>?_;unfold M4;simp only at i1 i2 i3 i4;simp;have hk1:k*10001<=10001*10001:=Nat.mul_le_mul (by omega) (aP _);have hk2:k*10002<=10001*10002:=Nat.mul_le_mul (by omega) (aP _);apply gN<;>intro h
 ·have hk:k<m.imps.length:=by simpa using h
  obtain⟨x,hx⟩:∃x,m.imps[k]=x:=⟨_,rfl⟩
  have hxm:=hm.names x (by rw[<-hx];exact aO hk);rw[aG hk,hx,zV]at i4;have hw:=wI (n:=(k:Int)+1);have him:=zCr p hp' i x hxm sc (by omega);have hil:=zBP p.names p.mods i x sc;generalize yE p.names p.mods i x sc=r at*
  simp[hk,hx];refine gP [3] him ?_;simp;refine⟨by decide,by omega,?_⟩;refine fG (k+1,r.1,bad++r.2) [0,5,2,4] ⟨by simp only;omega,by simp only;omega,by simp;omega,i4⟩ (by simp only;omega) ?_;simp[hw];exact oG _ _
 ·have hk:k=m.imps.length:=by simp at h;omega
  subst hk;rw[aQ,zV]at i4;subst i4;exact hQ (by simp only;omega) (by simp only;omega) _ (by simp) (by simp) (by simp) (by simp) (by simp) (by simp)
theorem zDT{c:Ctx}(hp:c.pure)(p:iQ)(i:Nat)(m:jW)(hm:lW m)(all:List (List jF))(s0:List jF)(hs0:s0.length<=100020001)(b0:List iV)(hb0:b0.length<=100000000000)(F0:List jF × List iV)(hF:yc i m.decs 0 s0 b0=F0){Q:Exit->St->Prop}{S:St}{g}{ms:List Nat}
  (h0:iM ms S ((12,.c (.d (.int .i64 0)))::Al p i all.length b0.length s0.length) (xc all b0 m s0))
  (hQ:F0.2.length<=b0.length+10001->∀T,Abs.look T 7=.c (.msl 3 3 0 F0.1.length)->Abs.look T 6=.c (.d (.int .i64 i))->Abs.look T 5=.c (.msl 4 1 0 F0.2.length)->Abs.look T 4=.c (.msl 1 0 0 all.length)->Abs.look T 1=.c (.d (.rp p.enc 0))->Q (.exit 4) ⟨T,hpOf (xc all F0.2 m F0.1),4⟩):mV Pg c M5 Q g S:=by
 have hmd:=hm.decs;refine fP gz hp (λy:Nat × List jF × List iV=>y.1<=m.decs.length/\y.2.1.length<=s0.length+y.1/\y.2.2.length<=b0.length+y.1/\yc i (m.decs.drop y.1) y.1 y.2.1 y.2.2=F0) (λy=>(12,.c (.d (.int .i64 y.1)))::Al p i all.length y.2.2.length y.2.1.length) (λy=>xc all y.2.2 m y.2.1) (λy=>m.decs.length-y.1) (0,s0,b0) ms ⟨by simp,by simp,by simp,by simpa using hF⟩ h0 λ⟨k,sc,bad⟩ ⟨i1,i2,i3,i4⟩=>?_;unfold M5;simp only at i1 i2 i3 i4;simp;apply gN<;>intro h
 ·have hk:k<m.decs.length:=by simpa using h
  obtain⟨d,hd⟩:∃d,m.decs[k]=d:=⟨_,rfl⟩
  rw[aG hk,hd,yc]at i4;have hw:=wI (n:=(k:Int)+1);have hfm:=VD sc d.name;simp[hk,hd];refine gP [3] hfm ?_;generalize qx sc d.name=f at*
  simp;by_cases f2:f.2=true
  ·rw[aC f2]at i4;simp[f2,hk,hd];refine⟨by omega,by decide,?_⟩;refine fG (k+1,sc,bad++[⟨i,d.line,d.col,8⟩]) [0,5,2,3] ⟨by simp only;omega,by simp only;omega,by simp;omega,i4⟩ (by simp only;omega) ?_;simp[hw,iV.enc];exact oG _ _
  ·rw[aB f2]at i4;simp[f2,hk,hd];refine⟨by omega,?_⟩;refine fG (k+1,sc++[⟨d.name,i,k⟩],bad) [0,1,2,5] ⟨by simp only;omega,by simp;omega,by simp only;omega,i4⟩ (by simp only;omega) ?_;simp[hw,jF.enc];exact oG _ _
 ·have hk:k=m.decs.length:=by simp at h;omega
  subst hk;rw[aQ,yc]at i4;subst i4;exact hQ (by simp only;omega) _ (by simp) (by simp) (by simp) (by simp) (by simp)
theorem zFd(p:iQ)(hp':Aj p):gY Pg 29 [.agg p.enc] (.tup [.one (.sl false 1 ((uz p.names p.mods p.mods 0 [] []).1.map rA)),.one (.sl false 4 ((uz p.names p.mods p.mods 0 [] []).2.map iV.enc))]):=by
 refine zAp (by simp) λo c hN hp=>?_;obtain⟨R,hR⟩:∃R,uz p.names p.mods p.mods 0 [] []=R:=⟨_,rfl⟩
 rw[hR];have h16:=hp'.1;unfold Uc;simp;refine fV [.t 4,.t 5] ?_;simp;refine fP gz hp (λy:Nat × List (List jF) × List iV=>y.1<=p.mods.length/\y.2.1.length=y.1/\y.2.2.length<=y.1*200000000/\uz p.names p.mods (p.mods.drop y.1) y.1 y.2.1 y.2.2=R) (λy=>[(6,.c (.d (.int .i64 y.1))),(5,.c (.msl 4 1 0 y.2.2.length)),(4,.c (.msl 1 0 0 y.2.1.length)),(1,.c (.d (.rp p.enc 0)))]) (λy=>[allA y.2.1,mI y.2.2]) (λy=>p.mods.length-y.1) (0,[],[]) [0,1] ⟨by simp,rfl,by simp,by simpa using hR⟩ (by simp) λ⟨i,all,bad⟩ ⟨i1,i2,i3,i4⟩=>?_;unfold Ub;simp only at i1 i2 i3 i4;simp;apply gN<;>intro h
 ·have hi:i<p.mods.length:=by simpa using h
  obtain⟨m,hm⟩:∃m,p.mods[i]=m:=⟨_,rfl⟩
  have hsm:=hp'.2.2 m (by rw[<-hm];exact aO hi);rw[aG hi,hm,uz]at i4;have hw:=wI (n:=(i:Int)+1);simp[hi,hm];refine fV [.t 7] ?_;simp;refine zDS hp p hp' i m hsm all bad (by omega) _ rfl (ms:=[0,1,2,3]) (by simp) λq1 q2 T t8 t7 t6 t5 t4 t1=>?_;generalize zV p.names p.mods i m.imps [] bad=a at*
  simp;refine zDT hp p i m hsm all a.1 q1 a.2 (by omega) _ rfl (ms:=[0,1,2,3]) (by simp[t8,t7,t6,t5,t4,t1]) λq3 T t7 t6 t5 t4 t1=>?_;generalize yc i m.decs 0 a.1 a.2=b at*
  simp;refine fU [3] ?_;simp[iZ,t7,t6,t5,t4,t1,oG];refine⟨by omega,?_⟩;refine fG (i+1,all++[b.1],b.2) [4,1] ⟨by simp only;omega,by simp[i2],by simp only;omega,i4⟩ (by simp only;omega) ?_;simp[iZ,t7,t6,t5,t4,t1,oG,hw,rA];try trace_state
 ·have hi:i=p.mods.length:=by simp at h;omega
  subst hi;rw[aQ,uz]at i4;subst i4;simp[oG];try trace_state
def uh(l:List Bool):List (List D):=l.map λb=>[.bool b]
@[simp] theorem zIC(l:List Bool):(uh l).length=l.length:=by simp[uh]
@[simp] theorem zJQ(l:List Bool)(k:Nat):(uh l)[k]?=(l[k]?).map λb=>[.bool b]:=by simp[uh]
@[simp] theorem zJ3(l:List Bool)(j:Nat)(h:j<(uh l).length):(uh l)[j]=[.bool (l[j]'(by simpa using h))]:=by simp[uh]
theorem zEu(l:List Bool)(k:Nat)(b:Bool):(uh l).set k [.bool b]=uh (l.set k b):=by simp[uh,fE]
abbrev DC(l:List Bool):Blk:=.arr 1 ((uh l).map (·.map .d))
theorem VF(l:List Bool)(k:Nat)(b:Bool):((uh l).map λx=>x.map AC.d).set k [.d (.bool b)]=(uh (l.set k b)).map λx=>x.map AC.d:=by rw[<-zEu,fE];try rfl
theorem NI(ns:List fF):∀(l:List jl) (seen:List Bool),(zW ns l seen).length=seen.length
|[],seen=>rfl
|x::l,seen=>by rw[zW,NI ns l];split<;>simp
theorem VG(ns:List fF):∀(l:List jW) (i:Nat) (seen:List Bool),(Aa ns l i seen).length=seen.length
|[],i,seen=>rfl
|m::l,i,seen=>by rw[Aa,VG ns l];split;exact NI ns _ _;rfl
theorem zF5{l:List Bool}{i z:Nat}(h:l.getD i false=true):(l.set z true).getD i false=true:=by
 rw[aH]at h⊢;rw[getElem?_set];split
 ·split
  ·rfl
  ·rename_i h1 h2;subst h1;rw[aS (by omega)]at h;exact h
 ·exact h
abbrev Am(p:iQ)(to n nn i:Nat):List (Nat × AV):=[(9,.c (.d (.int .i64 i))),(8,.c (.d (.int .i64 nn))),(7,.c (.msl 1 0 0 n)),(3,.c (.d (.rp p.enc 0))),(2,.c (.d (.int .i64 to)))]
theorem zEv{c:Ctx}(hp:c.pure)(p:iQ)(hp':Aj p)(to nn i:Nat)(hi:i<p.mods.length)(m:jW)(hm:lW m)(s0:List Bool)(hs0:s0.length=p.mods.length)(F0:List Bool)(hF:(if s0.getD i false=true then zW p.names m.imps s0 else s0)=F0){Q:Exit->St->Prop}{S:St}{g}{ms:List Nat}
  (h0:iM ms S ((11,.c (.d (.int .i64 0)))::(10,.c (.d (.sl false 4 (m.imps.map jl.enc))))::Am p to p.mods.length nn i) [DC s0])
  (hQ:∀T,Abs.look T 9=.c (.d (.int .i64 i))->Abs.look T 8=.c (.d (.int .i64 nn))->Abs.look T 7=.c (.msl 1 0 0 p.mods.length)->Abs.look T 3=.c (.d (.rp p.enc 0))->Abs.look T 2=.c (.d (.int .i64 to))->Q (.exit 4) ⟨T,hpOf [DC F0],1⟩):mV Pg c M6 Q g S:=by
 have hmi:=hm.imps;have h16:=hp'.1;have hnn:=hp'.2.1;refine fP gz hp (λy:Nat × List Bool=>y.1<=m.imps.length/\y.2.length=p.mods.length/\(if y.2.getD i false=true then zW p.names (m.imps.drop y.1) y.2 else y.2)=F0) (λy=>(11,.c (.d (.int .i64 y.1)))::(10,.c (.d (.sl false 4 (m.imps.map jl.enc))))::Am p to p.mods.length nn i) (λy=>[DC y.2]) (λy=>m.imps.length-y.1) (0,s0) ms ⟨by simp,hs0,by simpa using hF⟩ h0 λ⟨k,s⟩ ⟨i1,i2,i3⟩=>?_;unfold M6;simp only at i1 i2 i3;have his:i<s.length:=by omega
 have hgi:s.getD i false=s[i]:=by rw[aH,aA his];try rfl
 simp;apply gN<;>intro h
 ·have hk:k<m.imps.length:=by simpa using h
  obtain⟨x,hx⟩:∃x,m.imps[k]=x:=⟨_,rfl⟩
  have hw:=wI (n:=(k:Int)+1);by_cases b:s.getD i false=true
  ·rw[aC b,aG hk,hx,zW]at i3;have b':s[i]=true:=by rw[<-hgi];exact b
   have hml:=Iz p.names x.from_;have hmk:=Fj p.names x.from_;generalize jq p.names x.from_=z at*
   simp[his,hi,b',hk,hx];refine gT hmk ?_;by_cases z0:0<=z
   ·rw[aC z0]at i3;obtain⟨zn,rfl⟩:∃zn:Nat,z=zn:=⟨z.toNat,by omega⟩
    have hzn:zn<p.mods.length:=by omega
    have hzs:zn<s.length:=by omega
    simp only[bC]at i3;simp[hzn,hzs,VF];refine⟨by decide,?_⟩;refine fG (k+1,s.set zn true) [0] ⟨by simp only;omega,by simpa using i2,by simp only;rw[aC (zF5 b)];exact i3⟩ (by simp only;omega) ?_;simp[hw]
   ·rw[aB z0]at i3;simp[z0];refine⟨by decide,?_⟩;refine fG (k+1,s) [0] ⟨by simp only;omega,i2,by simp only;rw[aC b];exact i3⟩ (by simp only;omega) ?_;simp[hw]
  ·rw[aB b]at i3;subst i3;have b':s[i]=false:=by rw[hgi]at b;simpa using b
   simp[his,hi,b'];exact hQ _ (by simp) (by simp) (by simp) (by simp) (by simp)
 ·have hk:k=m.imps.length:=by simp at h;omega
  subst hk;rw[aQ,zW,ite_self]at i3;subst i3;simp;exact hQ _ (by simp) (by simp) (by simp) (by simp) (by simp)
theorem zEw{c:Ctx}(hp:c.pure)(p:iQ)(hp':Aj p)(to nn:Nat)(s0:List Bool)(hs0:s0.length=p.mods.length)(F0:List Bool)(hF:Aa p.names p.mods 0 s0=F0){Q:Exit->St->Prop}{S:St}{g}{ms:List Nat}
  (h0:iM ms S (Am p to p.mods.length nn 0) [DC s0])
  (hQ:∀T,Abs.look T 8=.c (.d (.int .i64 nn))->Abs.look T 7=.c (.msl 1 0 0 p.mods.length)->Abs.look T 3=.c (.d (.rp p.enc 0))->Abs.look T 2=.c (.d (.int .i64 to))->Q (.exit 2) ⟨T,hpOf [DC F0],1⟩):mV Pg c M7 Q g S:=by
 have h16:=hp'.1;refine fP gz hp (λy:Nat × List Bool=>y.1<=p.mods.length/\y.2.length=p.mods.length/\Aa p.names (p.mods.drop y.1) y.1 y.2=F0) (λy=>Am p to p.mods.length nn y.1) (λy=>[DC y.2]) (λy=>p.mods.length-y.1) (0,s0) ms ⟨by simp,hs0,by simpa using hF⟩ h0 λ⟨i,s⟩ ⟨i1,i2,i3⟩=>?_;unfold M7;simp only at i1 i2 i3;simp;apply gN<;>intro h
 ·have hi:i<p.mods.length:=by simpa using h
  obtain⟨m,hm⟩:∃m,p.mods[i]=m:=⟨_,rfl⟩
  have hsm:=hp'.2.2 m (by rw[<-hm];exact aO hi);rw[aG hi,hm,Aa]at i3;have hw:=wI (n:=(i:Int)+1);have hle:(if s.getD i false=true then zW p.names m.imps s else s).length=p.mods.length:=by
   split
   ·rw[NI,i2]
   ·exact i2
  simp[hi,hm];refine zEv hp p hp' to nn i hi m hsm s i2 _ rfl (ms:=[0]) (by simp) λT t9 t8 t7 t3 t2=>?_;generalize (if s.getD i false=true then zW p.names m.imps s else s)=s2 at*
  simp[t9];refine fG (i+1,s2) [0] ⟨by simp only;omega,hle,i3⟩ (by simp only;omega) ?_;simp[t9,t8,t7,t3,t2,hw]
 ·have hi:i=p.mods.length:=by simp at h;omega
  subst hi;rw[aQ,Aa]at i3;subst i3;exact hQ _ (by simp) (by simp) (by simp) (by simp)
theorem zDk(p:iQ)(hp':Aj p)(f t:Nat)(hf:f<p.mods.length)(ht:t<p.mods.length):gY Pg 49 [.agg p.enc,.one (.int .i64 f),.one (.int .i64 t)] (.one (.bool (EF p.names p.mods f t))):=by
 refine zz0 (by simp) λo c hN hp=>?_;obtain⟨R,hR⟩:∃R,EF p.names p.mods f t=R:=⟨_,rfl⟩
 rw[hR];unfold EF at hR;have h16:=hp'.1;have hrep:∀n:Nat,(replicate n [D.bool false]).map (λx=>x.map AC.d)=(uh (replicate n false)).map (λx=>x.map AC.d):=λn=>by simp[uh]
 obtain⟨s0,hs⟩:∃s0,(replicate p.mods.length false).set f true=s0:=⟨_,rfl⟩
 have hs0:s0.length=p.mods.length:=by rw[<-hs];simp
 rw[hs]at hR;unfold Ue;simp[hf];refine⟨by omega,?_⟩;have e0:(replicate p.mods.length [AC.d (D.bool false)]).set f [AC.d (D.bool true)]=(uh s0).map λx=>x.map AC.d:=by
  rw[<-hs,<-VF];simp[uh]
 rw[e0];refine fP gz hp (λy:Nat × List Bool=>y.1<=p.mods.length/\y.2.length=p.mods.length/\(FT p.names p.mods (p.mods.length-y.1) y.2).getD t false=R) (λy=>[(8,.c (.d (.int .i64 y.1))),(7,.c (.msl 1 0 0 p.mods.length)),(3,.c (.d (.rp p.enc 0))),(2,.c (.d (.int .i64 t)))]) (λy=>[DC y.2]) (λy=>p.mods.length-y.1) (0,s0) [0] ⟨by simp,hs0,hR⟩ (by simp) λ⟨nn,s⟩ ⟨i1,i2,i3⟩=>?_;unfold Ud;simp only at i1 i2 i3;simp;apply gN<;>intro h
 ·have hn:nn<p.mods.length:=by simpa using h
  rw[show p.mods.length-nn=(p.mods.length-(nn+1))+1 by omega,FT]at i3;have hw:=wI (n:=(nn:Int)+1);refine zEw hp p hp' t nn s i2 _ rfl (ms:=[0]) (by simp) λT t8 t7 t3 t2=>?_;have hl:=VG p.names p.mods 0 s;generalize Aa p.names p.mods 0 s=s2 at*
  simp[t8];refine fG (nn+1,s2) [0] ⟨by simp only;omega,by simp only;omega,i3⟩ (by simp only;omega) ?_;simp[t8,t7,t3,t2,hw]
 ·have hn:nn=p.mods.length:=by simp at h;omega
  subst hn;rw[Nat.sub_self,FT,aH,aA (by omega)]at i3;have hts:t<s.length:=by omega
  simp at i3;simp[ht,hts,i3]
theorem VH(ns:List fF)(ms:List jW)(i:Nat):∀(l:List jl) (bad:List iV),(zX ns ms i l bad).length<=bad.length+l.length
|[],bad=>by simp[zX]
|x::l,bad=>by
 rw[zX];have:=VH ns ms i l (if 0<=jq ns x.from_/\EF ns ms (jq ns x.from_).toNat i=true then bad++[⟨i,x.line,x.col,13⟩]else bad);refine aj this ?_;split<;>simp<;>omega
abbrev DD(p:iQ)(i nb:Nat):List (Nat × AV):=[(4,.c (.d (.int .i64 i))),(3,.c (.msl 4 0 0 nb)),(1,.c (.d (.rp p.enc 0)))]
theorem zEx{c:Ctx}(hp:c.pure)(p:iQ)(hp':Aj p)(i:Nat)(hi:i<p.mods.length)(m:jW)(hm:lW m)(b0:List iV)(hb0:b0.length<=10000000)(F0:List iV)(hF:zX p.names p.mods i m.imps b0=F0){Q:Exit->St->Prop}{S:St}{g}{ms:List Nat}
  (h0:iM ms S ((6,.c (.d (.int .i64 0)))::(5,.c (.d (.sl false 4 (m.imps.map jl.enc))))::DD p i b0.length) [mI b0])
  (hQ:∀T,Abs.look T 4=.c (.d (.int .i64 i))->Abs.look T 3=.c (.msl 4 0 0 F0.length)->Abs.look T 1=.c (.d (.rp p.enc 0))->Q (.exit 2) ⟨T,hpOf [mI F0],1⟩):mV Pg c M8 Q g S:=by
 have hmi:=hm.imps;have h16:=hp'.1;have hnn:=hp'.2.1;refine fP gz hp (λy:Nat × List iV=>y.1<=m.imps.length/\y.2.length<=b0.length+y.1/\zX p.names p.mods i (m.imps.drop y.1) y.2=F0) (λy=>(6,.c (.d (.int .i64 y.1)))::(5,.c (.d (.sl false 4 (m.imps.map jl.enc))))::DD p i y.2.length) (λy=>[mI y.2]) (λy=>m.imps.length-y.1) (0,b0) ms ⟨by simp,by simp,by simpa using hF⟩ h0 λ⟨k,bad⟩ ⟨i1,i2,i3⟩=>?_;unfold M8;simp only at i1 i2 i3;simp;apply gN<;>intro h
 ·have hk:k<m.imps.length:=by simpa using h
  obtain⟨x,hx⟩:∃x,m.imps[k]=x:=⟨_,rfl⟩
  have hw:=wI (n:=(k:Int)+1);rw[aG hk,hx,zX]at i3;have hml:=Iz p.names x.from_;have hmk:=Fj p.names x.from_;generalize jq p.names x.from_=z at*
  simp[hk,hx];refine gT hmk ?_;by_cases z0:0<=z
  ·obtain⟨zn,rfl⟩:∃zn:Nat,z=zn:=⟨z.toNat,by omega⟩
   simp only[bC]at i3;have hro:=zDk p hp' zn i (by omega) hi;obtain⟨r,hr⟩:∃r,EF p.names p.mods zn i=r:=⟨_,rfl⟩
   simp only[hr]at i3 hro;simp;refine⟨by decide,?_⟩;refine gT hro ?_;cases r with
   |true=>
    rw[aC ⟨z0,rfl⟩]at i3;simp[hk,hx];refine⟨by omega,by decide,?_⟩;refine fG (k+1,bad++[⟨i,x.line,x.col,13⟩]) [1] ⟨by simp only;omega,by simp;omega,i3⟩ (by simp only;omega) ?_;simp[hw,iV.enc];exact oG _ _
   |false=>
    rw[aB (λq=>by cases q.2)]at i3;simp;refine fG (k+1,bad) [0] ⟨by simp only;omega,by simp only;omega,i3⟩ (by simp only;omega) ?_;simp[hw]
  ·rw[aB (λq=>z0 q.1)]at i3;simp[z0];refine⟨by decide,?_⟩;refine fG (k+1,bad) [0] ⟨by simp only;omega,by simp only;omega,i3⟩ (by simp only;omega) ?_;simp[hw]
 ·have hk:k=m.imps.length:=by simp at h;omega
  subst hk;rw[aQ,zX]at i3;subst i3;exact hQ _ (by simp) (by simp) (by simp)
theorem zF6(p:iQ)(hp':Aj p):gY Pg 30 [.agg p.enc] (.one (.sl false 4 ((zY p.names p.mods p.mods 0 []).map iV.enc))):=by
 refine zB0 (by simp) λo c hN hp=>?_;obtain⟨R,hR⟩:∃R,zY p.names p.mods p.mods 0 []=R:=⟨_,rfl⟩
 rw[hR];have h16:=hp'.1;unfold Ug;simp;refine fV [.t 3] ?_;simp;refine fP gz hp (λy:Nat × List iV=>y.1<=p.mods.length/\y.2.length<=y.1*10001/\zY p.names p.mods (p.mods.drop y.1) y.1 y.2=R) (λy=>DD p y.1 y.2.length) (λy=>[mI y.2]) (λy=>p.mods.length-y.1) (0,[]) [0] ⟨by simp,by simp,by simpa using hR⟩ (by simp) λ⟨i,bad⟩ ⟨i1,i2,i3⟩=>?_;unfold Uf;simp only at i1 i2 i3;simp;apply gN<;>intro h
 ·have hi:i<p.mods.length:=by simpa using h
  obtain⟨m,hm⟩:∃m,p.mods[i]=m:=⟨_,rfl⟩
  have hsm:=hp'.2.2 m (by rw[<-hm];exact aO hi);have hmi:=hsm.imps;rw[aG hi,hm,zY]at i3;have hw:=wI (n:=(i:Int)+1);have htl:=VH p.names p.mods i m.imps bad;simp[hi,hm];refine zEx hp p hp' i hi m hsm bad (by omega) _ rfl (ms:=[0]) (by simp) λT t4 t3 t1=>?_;generalize zX p.names p.mods i m.imps bad=b2 at*
  simp[t4];refine fG (i+1,b2) [0] ⟨by simp only;omega,by simp only;omega,i3⟩ (by simp only;omega) ?_;simp[t4,t3,t1,hw]
 ·have hi:i=p.mods.length:=by simp at h;omega
  subst hi;rw[aQ,zY]at i3;subst i3;simp[oG]
theorem VI(L:List Tok):∀(n:Nat) (l:List fF) (p:PS),(uW L n l p).1.length<=l.length+n
|0,l,p=>by simp[uW]
| n+1,l,p=>by
 rw[uW];split
 ·have:=VI L n (l++[(jI L p).1]) (iC L (bs [44]) (jI L p).2).2;simp at this⊢;omega
 ·simp
theorem VJ(L:List Tok)(hL:L.length<=10000):∀(n:Nat) (l:List jl) (p:PS),(∀x,x∈l->x.names.length<=10001)->(xQ L n l p).1.length<=l.length+n/\∀x,x∈(xQ L n l p).1->x.names.length<=10001
|0,l,p,h=>by simp[xQ];exact h
| n+1,l,p,h=>by
 rw[xQ];split
 ·simp only;have hn:=VI L (L.length+1) [] (jQ L (bs [58]) (jI L (iC L xP p).2).2);have:=VJ L hL n (l++[⟨(jI L (iC L xP p).2).1,(uW L (L.length+1) [] (jQ L (bs [58]) (jI L (iC L xP p).2).2)).1,(iI L p).line,(iI L p).col⟩]) (jQ L (bs [59]) (uW L (L.length+1) [] (jQ L (bs [58]) (jI L (iC L xP p).2).2)).2) (λx hx=>by
   rcases aK.1 hx with hx|hx
   ·exact h x hx
   ·simp at hx;subst hx;simp at hn⊢;omega)
  refine⟨?_,this.2⟩;have h1:=this.1;simp at h1⊢;omega
 ·exact⟨by simp,h⟩
theorem VK(L:List Tok):∀(n:Nat) (l:List jZ) (p:PS),(rz L n l p).1.length<=l.length+n
|0,l,p=>by simp[rz]
| n+1,l,p=>by
 rw[rz];split
 ·have:=VK L n (l++[(ry L p).1]) (ry L p).2;simp at this⊢;omega
 ·simp
theorem zBX(s:fF):lW (qc s).1:=by
 have h0:lW o9:=⟨by simp[o9],by simp[o9],by simp[o9]⟩
 have hk:=Ii (s:=s);unfold qc;simp only;split
 ·exact h0
 split
 ·exact h0
 ·rename_i h1 h2;obtain⟨hL,hl⟩:=hk (by simpa using h1);unfold BX;simp only;generalize (lK s).1=L at*
  have a:=VJ L hl (L.length+1) [] ps0 (by simp);have b:=VK L (L.length+1) [] (xQ L (L.length+1) [] ps0).2;exact⟨by have:=a.1;simp at this;simp only;omega,a.2,by simp at b;simp only;omega⟩
theorem VL:∀(l:List (fF × fF)) (i:Nat) (ns:List fF) (ms:List jW) (bad:List iV),ns.length=ms.length->(∀m,m∈ms->lW m)->
 (rR l i ns ms bad).1.1.length=(rR l i ns ms bad).1.2.length/\(rR l i ns ms bad).1.2.length=ms.length+l.length/\∀m,m∈(rR l i ns ms bad).1.2->lW m
|[],i,ns,ms,bad,h1,h2=>by rw[rR];exact⟨h1,by simp,h2⟩
| s::l,i,ns,ms,bad,h1,h2=>by
 rw[rR];have:=VL l (i+1) (ns++[s.1]) (ms++[(qc s.2).1]) (if nE s.1=false then bad++[⟨i,1,1,10⟩]else if 0<=jq ns s.1 then bad++[⟨i,1,1,8⟩]else if(qc s.2).2.e≠0 then bad++[⟨i,(qc s.2).2.line,(qc s.2).2.col,(qc s.2).2.e⟩]else bad) (by simp[h1]) (λm hm=>by
  rcases aK.1 hm with hm|hm
  ·exact h2 m hm
  ·simp at hm;subst hm;exact zBX _)
 refine⟨this.1,?_,this.2.2⟩;have h3:=this.2.1;simp at h3⊢;omega
theorem VM(l:List (fF × fF))(sc:List (List jF)):Aj ⟨(u7 l).1.1,(u7 l).1.2,sc,A9⟩:=by
 unfold u7;split
 ·exact⟨by simp,rfl,by simp⟩
 ·have:=VL l 0 [] [] [] rfl (by simp);exact⟨by have:=this.2.1;simp at this;simp only;omega,this.1,this.2.2⟩
abbrev NJ(r:iQ × List iV):DV:=.tup [.agg r.1.enc,.one (.sl false 4 (r.2.map iV.enc))]
theorem zHJ(x:List fF × List jW)(s:List (List jF)):put ((ym x).enc.map AC.d) 2 [.d (.sl false 1 (s.map rA))]=(⟨x.1,x.2,s,A9⟩:iQ).enc.map .d:=rfl
theorem zF7(a:List fF)(b:List jW)(s:List (List jF))(n:fF)(m k:Int):splice ((⟨a,b,s,A9⟩:iQ).enc.map AC.d) 3 [.d (.str n),.d (.int .i64 m),.d (.int .i64 k)]=(⟨a,b,s,⟨n,m,k⟩⟩:iQ).enc.map .d:=rfl
theorem zEy(a:List fF)(b:List jW)(s:List (List jF))(n:fF)(m k:Int):put ((⟨a,b,s,A9⟩:iQ).enc.map AC.d) 3 [.d (.str n),.d (.int .i64 m),.d (.int .i64 k)]=(⟨a,b,s,⟨n,m,k⟩⟩:iQ).enc.map .d:=rfl
attribute [simp] zHJ zF7 zEy
theorem EL:Ba.enc=[.sl false 1 [],.sl false 2 [],.sl false 1 [],.str (bs []),.int .i64 0,.int .i64 0]:=rfl
theorem zHK(l:List (fF × fF)):gY Pg 16 [.one (.sl false 2 (l.map lV))] (NJ (yf l)):=by
 refine zDr (by simp) λo c hN hp=>?_;obtain⟨R,hR⟩:∃R,yf l=R:=⟨_,rfl⟩
 rw[hR];unfold yf at hR;simp only at hR;have hfs:=VM l;have hf:=zHi l;generalize u7 l=f at*
 unfold Uh;simp;refine gT hf ?_;by_cases f0:0<f.2.length
 ·rw[aC f0]at hR;subst hR;simp[f0,EL]
 rw[aB f0]at hR;have hsec:gY Pg 29 [.agg (ym f.1).enc] (.tup [.one (.sl false 1 ((uz f.1.1 f.1.2 f.1.2 0 [] []).1.map rA)),.one (.sl false 4 ((uz f.1.1 f.1.2 f.1.2 0 [] []).2.map iV.enc))]):=zFd (ym f.1) (hfs []);generalize uz f.1.1 f.1.2 f.1.2 0 [] []=s at*
 simp[f0];refine gT hsec ?_;by_cases s0:0<s.2.length
 ·rw[aC s0]at hR;subst hR;simp[s0,EL]
 rw[aB s0]at hR;have hthi:gY Pg 30 [.agg (⟨f.1.1,f.1.2,s.1,A9⟩:iQ).enc] (.one (.sl false 4 ((zY f.1.1 f.1.2 f.1.2 0 []).map iV.enc))):=zF6 ⟨f.1.1,f.1.2,s.1,A9⟩ (hfs s.1);generalize zY f.1.1 f.1.2 f.1.2 0 []=t at*
 simp[s0];refine gT hthi ?_;by_cases t0:0<t.length
 ·rw[aC t0]at hR;subst hR;simp[t0,EL]
 rw[aB t0]at hR;have hmk:=Fj f.1.1 vW;have hml:=Iz f.1.1 vW;have hsm:=hfs s.1;have hnn:f.1.1.length=f.1.2.length:=hsm.2.1;generalize jq f.1.1 vW=z at*
 simp[t0];refine gT hmk ?_;by_cases z0:z<0
 ·rw[aC z0]at hR;subst hR;simp[z0,EL,iV.enc]
 rw[aB z0]at hR;obtain⟨g1,g2⟩:=getD_in f.1.2 o9 (z:=z) (n:=f.1.1.length) (by rw[hnn]) (by omega) (by omega);generalize f.1.2.getD z.toNat o9=M at*
 have hM:=hsm.2.2 M g2;have hMd:=hM.decs;obtain⟨zn,rfl⟩:∃zn:Nat,z=zn:=⟨z.toNat,by omega⟩
 simp only[bC]at g1;have hdk:=VB M vW (by omega);have hdl:=VE M vW;generalize uG M vW=k at*
 simp[z0,g1];refine gT hdk ?_;by_cases k0:k<0
 ·rw[aC k0]at hR;subst hR;simp[k0,EL,iV.enc]
 rw[aB k0]at hR;obtain⟨g3,g4⟩:=getD_in M.decs Bb (z:=k) (n:=M.decs.length) rfl (by omega) (by omega);generalize M.decs.getD k.toNat Bb=d at*
 obtain⟨kn,rfl⟩:∃kn:Nat,k=kn:=⟨k.toNat,by omega⟩
 simp only[bC]at g3;by_cases v0:0<d.vars.length
 ·rw[aC v0]at hR;subst hR;simp[k0,g1,g3,v0,EL,iV.enc];decide
 ·rw[aB v0]at hR;subst hR;simp[k0,g1,g3,v0]
end Go.Gr
