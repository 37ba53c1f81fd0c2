/- Texts of ours, joined and written short by a program of ours. -/
import Derived.Test.YtlfjlokfciejnaaGreatDoorJ09
import Derived.Test.YtlfjlokfciejnaaGreatDoorJ08
set_option maxRecDepth 20000
set_option maxHeartbeats 4000000
set_option linter.all false
namespace Go.Gr
open Go.Abs Go.Proofs List
def PCall.erdV{P:Program}{f:FuncId}{args:List DV}{v v':DV}(h:PCall P f args v)(e:v.erd=v'):PCall P f args v':=by
 subst e
 refine⟨h.1,fun ph w us hp hG r=>(h.2 ph w us hp hG r).mono fun e w' q=>?_⟩
 obtain⟨vC,h',q1,q2,q3,q4,q5,q6,q7,q8⟩:=q
 exact⟨vC,h',q1,q2,q3,q4,q5,q6,q7,zaP.erd q8⟩
@[simp] theorem Prt.enc_length(p:Prt):p.enc.length=6:=by simp[Prt.enc]
@[simp] theorem Prt.enc_0(p:Prt):p.enc[0]?=some (.int .i64 p.tag):=rfl
@[simp] theorem Prt.enc_g0(p:Prt)(h:0<p.enc.length):p.enc[0]=.int .i64 p.tag:=rfl
@[simp] theorem Prt.cut_t(p:Prt):cut p.enc 2 4=p.t.enc:=by unfold Prt.enc;rw[Typ.enc_eq];try rfl
@[simp] theorem Prt.cut_tM(p:Prt):cut (p.enc.map AC.d) 2 4=p.t.enc.map .d:=by unfold Prt.enc;rw[Typ.enc_eq];try rfl
@[simp] theorem Prt.er_map(p:Prt):p.enc.map D.er=p.enc:=by unfold Prt.enc;rw[Typ.enc_eq];try rfl
theorem zCA(a b c d e f:AC)(T:Typ):splice [a,b,c,d,e,f] 2 (T.enc.map AC.d)=a::b::T.enc.map .d:=by rw[T.enc_eq];try rfl
theorem zGA(a b:AC)(T:Typ):cut (a::b::T.enc.map AC.d) 0 6=a::b::T.enc.map .d:=by rw[T.enc_eq];try rfl
attribute [simp] zCA zGA
@[simp] theorem Prt.enc_4(p:Prt):p.enc[4]?=some (.sl false 1 (encS p.t.names)):=by unfold Prt.enc;rw[Typ.enc_eq];try rfl
@[simp] theorem Prt.enc_5(p:Prt):p.enc[5]?=some (.sl false 4 (p.t.kids.map Typ.enc)):=by unfold Prt.enc;rw[Typ.enc_eq];try rfl
@[simp] theorem Prt.enc_g4(p:Prt)(h:4<p.enc.length):p.enc[4]=.sl false 1 (encS p.t.names):=by have:=p.enc_4;rw[aA h]at this;exact bK this
@[simp] theorem Prt.enc_g5(p:Prt)(h:5<p.enc.length):p.enc[5]=.sl false 4 (p.t.kids.map Typ.enc):=by have:=p.enc_5;rw[aA h]at this;exact bK this
def zaN{α β:Type}(f:α->β)(v:List α):take v.length (v.map f)=v.map f:=aF (by rw[aU];exact aN _)
def zd8(l:List Prt)(tag:Int):PCall Pg 132 [.one (.sl false 6 (l.map Prt.enc)),.one (.int .i64 tag)] (.tup [.agg (zaM l tag).1.enc,.one (.bool (zaM l tag).2)]):=by
 refine zyk (by simp) fun o c hN hp=>?_
 have hl:l.length<=zaf:=by have:=o.1;simp only[DV.ok,D.ok,aU]at this;exact this.1
 unfold zaf at hl
 obtain⟨R,hR⟩:∃R,zaM l tag=R:=⟨_,rfl⟩
 rw[hR]
 unfold zaM at hR
 unfold zn5
 simp
 refine fK zaa hp (fun j:Nat=>j<=l.length/\(l.drop j).find? (fun p=>decide (p.tag=tag))=l.find? fun p=>decide (p.tag=tag)) (fun j=>[(6,.c (.d (.int .i64 j))),(4,.c (.ptr 0 0)),(1,.c (.d (.int .i64 tag))),(0,.c (.d (.sl false 6 (l.map Prt.enc))))]) (fun _=>[.box [.d (.int .i64 0),.d (.bool false),.d (.int .i64 0),.d (.str (bs [])),.d (.sl true 1 []),.d (.sl true 4 [])]]) (fun j=>l.length-j) 0 [0] ⟨by simp,by simp⟩ (by simp) fun j ⟨h1,h2⟩=>?_
 unfold zlu
 simp
 apply gI<;>intro h
 ·have hj:j<l.length:=by simpa using h
  rw[aG hj,find?_cons]at h2
  obtain⟨x,hx⟩:∃x,l[j]=x:=⟨_,rfl⟩
  rw[hx]at h2
  by_cases q:x.tag=tag
  ·simp[q]at h2
   rw[<-h2]at hR
   subst hR
   simp[hj,hx,q]
  ·simp[q]at h2
   simp[hj,hx,q]
   refine fD (j+1) [0] ⟨by omega,by simpa using h2⟩ (by omega) ?_
   simp
   exact wI
 ·have hj:j=l.length:=by simp at h;omega
  subst hj
  rw[aO,find?_nil]at h2
  rw[<-h2]at hR
  subst hR
  simp
  rfl
def zui(t:Typ)(s:fC)(hn:t.names.length<=t.kids.length):PCall Pg 133 [.agg t.enc,.one (.str s)] (.tup [.agg (zaD t s).1.enc,.one (.bool (zaD t s).2)]):=by
 refine zwh (by simp) fun o c hN hp=>?_
 have hf:=zfE o.1
 unfold zaf at hf
 obtain⟨R,hR⟩:∃R,zaD t s=R:=⟨_,rfl⟩
 rw[hR]
 unfold zaD at hR
 unfold zl7
 simp
 refine fK zaa hp (fun j:Nat=>j<=t.names.length/\za3 (t.names.drop j) (t.kids.drop j) s=R) (fun j=>[(6,.c (.d (.int .i64 j))),(4,.c (.ptr 0 0)),(2,.c (.d (.rp t.enc 0))),(1,.c (.d (.str s)))]) (fun _=>[bx4]) (fun j=>t.names.length-j) 0 [0] ⟨by simp,by simpa using hR⟩ (by simp) fun j ⟨h1,h2⟩=>?_
 unfold zjH
 simp
 apply gI<;>intro h
 ·have hj:j<t.names.length:=by simpa using h
  have hj2:j<t.kids.length:=by omega
  rw[aG hj,aG hj2,za3]at h2
  by_cases q:t.names[j]=s
  ·rw[aC q]at h2
   subst h2
   simp[hj,hj2,q]
  ·rw[aB q]at h2
   simp[hj,hj2,q]
   refine fD (j+1) [0] ⟨by omega,h2⟩ (by omega) ?_
   simp
   exact wI
 ·have hj:j=t.names.length:=by simp at h;omega
  subst hj
  rw[aO,za3]at h2
  ·subst h2
   simp[zaU]
  ·intros;contradiction
def rawT(k:Int):List D:=[.int .i64 k,.str (bs []),.sl true 1 [],.sl true 4 []]
def rawA:List (List D):=[
 .int .i64 0::.bool false::rawT 1,.int .i64 1::.bool false::rawT 2,.int .i64 2::.bool false::rawT 3,.int .i64 3::.bool false::rawT 4,
 .int .i64 4::.bool true::rawT 5,[.int .i64 5,.bool false,.int .i64 6,.str (bs []),.sl true 1 [],.sl true 4 [rawT 0,rawT 0]]]
abbrev prtB(es:List (List D)):Blk:=.arr 6 (es.map (·.map .d))
def zAr(t:Typ)(h0:t.kind=0):PCall Pg 111 [.agg t.enc] (.one (.sl false 6 rawA)):=by
 refine zn4 (by simp) fun o c hN hp=>?_
 unfold zic
 simp[h0]
 refine fQ [.t 3] ?_
 simp
 refine fK zaa hp (fun j:Nat=>j<=6) (fun j=>[(4,.c (.d (.int .i64 j))),(3,.c (.msl 6 0 0 j))]) (fun j=>[prtB (rawA.take j)]) (fun j=>6-j) 0 [0] (by simp) (by simp[rawA]) fun j h1=>?_
 unfold zjF
 have w1:IntKind.i64.wrap 1=1:=by decide
 have w2:IntKind.i64.wrap 2=2:=by decide
 have w3:IntKind.i64.wrap 3=3:=by decide
 have w4:IntKind.i64.wrap 4=4:=by decide
 have w5:IntKind.i64.wrap 5=5:=by decide
 have w6:IntKind.i64.wrap 6=6:=by decide
 have hc:j=0\/j=1\/j=2\/j=3\/j=4\/j=5\/j=6:=by omega
 rcases hc with rfl|rfl|rfl|rfl|rfl|rfl|rfl
 ·simp[rawA,rawT,w1,w2,w3,w4,w5,w6]
  refine fD 1 [2] (by omega) (by omega) ?_
  simp[rawA,rawT,w1,w2,w3,w4,w5,w6]
 ·simp[rawA,rawT,w1,w2,w3,w4,w5,w6]
  refine fD 2 [2] (by omega) (by omega) ?_
  simp[rawA,rawT,w1,w2,w3,w4,w5,w6]
 ·simp[rawA,rawT,w1,w2,w3,w4,w5,w6]
  refine fD 3 [2] (by omega) (by omega) ?_
  simp[rawA,rawT,w1,w2,w3,w4,w5,w6]
 ·simp[rawA,rawT,w1,w2,w3,w4,w5,w6]
  refine fD 4 [2] (by omega) (by omega) ?_
  simp[rawA,rawT,w1,w2,w3,w4,w5,w6]
 ·simp[rawA,rawT,w1,w2,w3,w4,w5,w6]
  refine fD 5 [2] (by omega) (by omega) ?_
  simp[rawA,rawT,w1,w2,w3,w4,w5,w6]
 ·simp[rawA,rawT,w1,w2,w3,w4,w5,w6]
  refine fD 6 [2] (by omega) (by omega) ?_
  simp[rawA,rawT,w1,w2,w3,w4,w5,w6]
 ·simp[rawA,rawT]
def zis(t:Typ)(hk:t.kids.length<=1000):PCall Pg 111 [.agg t.enc] (.one (.sl false 6 ((zaL t).map Prt.enc))):=by
 by_cases h0:t.kind=0
 ·refine PCall.erdV (zAr t h0) ?_
  unfold zaL
  rw[aC h0]
  try rfl
 refine zn4 (by simp) fun o c hN hp=>?_
 have hf:=zfE o.1
 unfold zaf at hf
 obtain⟨R,hR⟩:∃R,zaL t=R:=⟨_,rfl⟩
 rw[hR]
 unfold zaL at hR
 rw[aB h0]at hR
 unfold zic
 by_cases h7:t.kind=7
 rotate_left
 ·rw[aC h7]at hR
  subst hR
  simp[h0,h7]
  refine gN (zij t) ?_
  simp[Prt.enc]
  decide
 rw[aB (fun z=>z h7)]at hR
 simp[h0,h7]
 refine fQ [.t 3] ?_
 simp
 subst hR
 refine fK zaa hp (fun j:Nat=>j<=t.kids.length) (fun j=>[(6,.c (.d (.int .i64 j))),(3,.c (.msl 6 0 0 j)),(1,.c (.d (.rp t.enc 0)))]) (fun j=>[prtB (((t.kids.take j).map fun k=>(⟨zaj k,false,k⟩:Prt)).map Prt.enc)]) (fun j=>t.kids.length-j) 0 [0] (by simp) (by simp) fun j h1=>?_
 unfold zjG
 simp
 apply gI<;>intro h
 ·have hj:j<t.kids.length:=by simpa using h
  obtain⟨x,hx⟩:∃x,t.kids[j]=x:=⟨_,rfl⟩
  simp[hj,hx]
  refine gN (zij x) ?_
  have hmn:min j t.kids.length=j:=by omega
  simp[Prt.enc,hj,hx,hmn]
  refine⟨by omega,by decide,?_⟩
  refine fD (j+1) [1] (by omega) (by omega) ?_
  rw[aJ hj,hx]
  simp[Prt.enc,hmn]
  refine⟨wI,by rw[take_take,dx],fun x hx=>?_⟩
  obtain⟨y,_,rfl⟩:=ai.1 (bW hx)
  simp
 ·have hj:j=t.kids.length:=by simp at h;omega
  subst hj
  simp[zaN]
  try trace_state
def zev:∀{l:List Typ} {x:Typ},x∈l->dpt x<=dpts l
 |t::l,x,h=>by
  rw[dpts]
  rcases aM.1 h with rfl|h
  ·omega
  ·have:=zev h;omega
def zcH{t x:Typ}(h:x∈t.kids):dpt x<dpt t:=by
 cases t with
 |mk k n s l=>rw[dpt];have:=zev (l:=l) h;omega
def zhJ:∀(ns:List fC) (ks:List Typ) (s:fC),(za3 ns ks s).2=true->(za3 ns ks s).1∈ks
 |[],ks,s,h=>by rw[za3]at h;cases h;all_goals (intros;contradiction)
 |_::_,[],s,h=>by rw[za3]at h;cases h;all_goals (intros;contradiction)
 | n::ns,k::ks,s,h=>by
  rw[za3]at h⊢
  by_cases q:n=s
  ·rw[aC q];simp
  ·rw[aB q]at h⊢
   exact mem_cons_of_mem _ (zhJ ns ks s h)
def zyz{t:Typ}(h:wfT t):t.names.length<=t.kids.length:=by
 rcases((zaQ t).1 h).2.2 with⟨_,_,q,_⟩|⟨_,q,_⟩|⟨_,q,_⟩|⟨_,q,_⟩
 ·rw[q];simp
 ·omega
 ·rw[q];simp
 ·rw[q];simp
def zdZ{t x:Typ}(h:wfT t)(hx:x∈t.kids):wfT x:=((zaQ t).1 h).2.1 x hx
def zjT{t:Typ}(h:wfT t)(hk:t.kind=6):t.kids.length=2:=by
 rcases((zaQ t).1 h).2.2 with⟨_,q,_⟩|⟨q,_⟩|⟨_,_,q⟩|⟨q,_⟩
 ·omega
 ·omega
 ·exact q
 ·omega
def tag5{t:Typ}(h:zaj t=5):t.kind=6:=by
 unfold zaj at h
 split at h
 ·omega
 ·omega
def zg6{t:Typ}(h:wfT t)(h0:t.kind≠0){p:Prt}(hp:p∈zaL t):wfT p.t/\p.tag=zaj p.t/\(∀x,x∈p.t.kids->dpt x<dpt t)/\p.opn=false:=by
 unfold zaL at hp
 rw[aB h0]at hp
 split at hp
 ·simp at hp
  subst hp
  exact⟨h,rfl,fun x hx=>zcH hx,rfl⟩
 ·obtain⟨k,hk,rfl⟩:=ai.1 hp
  exact⟨zdZ h hk,rfl,fun x hx=>Nat.lt_trans (zcH hx) (zcH hk),rfl⟩
def zfF{l:List Prt}{tag:Int}(h:(zaM l tag).2=true):(zaM l tag).1∈l/\(zaM l tag).1.tag=tag:=by
 unfold zaM at h⊢
 cases e:l.find? fun p=>decide (p.tag=tag)with
 |none=>rw[e]at h;cases h
 |some p=>
  have h1:=mem_of_find?_eq_some e
  have h2:=find?_some e
  exact⟨h1,by simpa using h2⟩
abbrev blwT(lo:Bool)(L R:List Prt)(i:Nat):List (Nat × AV):=[(9,.c (.d (.int .i64 i))),(8,.c (.d (.sl false 6 (R.map Prt.enc)))),(7,.c (.d (.sl false 6 (L.map Prt.enc)))),(2,.c (.d (.bool lo)))]
abbrev zpY(lo:Bool)(rc:Typ->Typ->Bool)(a b:Typ):Prop:=PCall Pg 80 [.agg a.enc,.agg b.enc,.one (.bool lo)] (.one (.bool (rc a b)))
theorem zAs{c:Ctx}(hp:c.pure)(lo:Bool)(L R:List Prt)(i:Nat)(q:Prt)(m:Typ)(rc:Typ->Typ->Bool)(hm:wfT m)(hq:wfT q.t)(hl:q.t.names.length<=1000)(ih:∀x,x∈m.kids->∀y,y∈q.t.kids->zpY lo rc x y){Q:Exit->St->Prop}{S:St}{g}{ms:List Nat}
  (h0:Match ms S ((13,.c (.d (.int .i64 0)))::(12,.c (.ptr 1 0))::(10,.c (.ptr 0 0))::blwT lo L R i) [.box (q.enc.map .d),.box (m.enc.map .d)])
  (hN:zeM rc m q.t.names q.t.kids=false->∀T M n,Abs.look T 6=.c (.d (.bool false))->Q .ret ⟨T,M,n⟩)
  (hQ:zeM rc m q.t.names q.t.kids=true->∀T,Abs.look T 12=.c (.ptr 1 0)->Abs.look T 10=.c (.ptr 0 0)->Abs.look T 9=.c (.d (.int .i64 i))->Abs.look T 8=.c (.d (.sl false 6 (R.map Prt.enc)))->Abs.look T 7=.c (.d (.sl false 6 (L.map Prt.enc)))->Abs.look T 2=.c (.d (.bool lo))->Q (.exit 2) ⟨T,hpOf [.box (q.enc.map .d),.box (m.enc.map .d)],2⟩):lw_ Pg c zgs Q g S:=by
 have hnk:=zyz hq
 obtain⟨F0,hF⟩:∃F0,zeM rc m q.t.names q.t.kids=F0:=⟨_,rfl⟩
 rw[hF]at hN hQ
 refine fK zaa hp (fun j:Nat=>j<=q.t.names.length/\zeM rc m (q.t.names.drop j) (q.t.kids.drop j)=F0) (fun j=>(13,.c (.d (.int .i64 j)))::(12,.c (.ptr 1 0))::(10,.c (.ptr 0 0))::blwT lo L R i) (fun _=>[.box (q.enc.map .d),.box (m.enc.map .d)]) (fun j=>q.t.names.length-j) 0 ms ⟨by simp,by simpa using hF⟩ h0 fun j ⟨h1,h2⟩=>?_
 unfold zgs
 simp
 apply gI<;>intro h
 ·have hj:j<q.t.names.length:=by simpa using h
  have hj2:j<q.t.kids.length:=by omega
  rw[aG hj,aG hj2,zeM]at h2
  have hfm:=zhJ m.names m.kids q.t.names[j]
  have hff:za3 m.names m.kids q.t.names[j]=zaD m q.t.names[j]:=rfl
  rw[hff]at hfm
  simp[hj,hj2]
  refine gN (zui m _ (zyz hm)) ?_
  generalize zaD m q.t.names[j]=f at*
  by_cases hf:f.2=true
  ·have hix:=ih _ (hfm hf) _ (aS hj2)
   simp only[hf,Bool.true_and]at h2
   simp[hf,hj,hj2]
   refine⟨by decide,?_⟩
   refine gN hix ?_
   generalize rc f.1 q.t.kids[j]=z at*
   cases z with
   |true=>
    simp only[Bool.true_and]at h2
    simp
    refine⟨by decide,?_⟩
    refine fD (j+1) [0,1] ⟨by omega,h2⟩ (by omega) ?_
    simp
    exact wI
   |false=>
    simp only[Bool.false_and]at h2
    simp
    exact⟨by decide,hN h2.symm _ _ _ (by simp)⟩
  ·simp only[hf,Bool.false_and]at h2
   simp[hf,hj,hj2]
   exact⟨by decide,by decide,hN h2.symm _ _ _ (by simp)⟩
 ·have hj:j=q.t.names.length:=by simp at h;omega
  subst hj
  rw[aO,zeM]at h2
  ·exact hQ h2.symm _ (by simp) (by simp) (by simp) (by simp) (by simp) (by simp)
  ·intros;contradiction
def zd7(t:Typ):1<=dpt t:=by cases t;rw[dpt];omega
def zer{t:Typ}(h:wfT t):t.names.length<=16:=by
 rcases((zaQ t).1 h).2.2 with⟨_,_,q,_⟩|⟨_,_,q,_⟩|⟨_,q,_⟩|⟨_,q,_⟩
 ·rw[q];simp
 ·omega
 ·rw[q];simp
 ·rw[q];simp
def zeI{t:Typ}(h:wfT t):t.kids.length<=16:=by
 rcases((zaQ t).1 h).2.2 with⟨_,_,_,q⟩|⟨_,q,r,_⟩|⟨_,_,q⟩|⟨_,_,q,_⟩
 ·rw[q];simp
 ·omega
 ·omega
 ·omega
def zAt(t:Typ):(zaL t).length<=6+t.kids.length:=by
 unfold zaL
 split
 ·simp
 split
 ·simp;omega
 ·simp
def zkJ{t:Typ}(h:t.kids.length=2):kid0 t∈t.kids/\t.kids[0]?=some (kid0 t):=by
 unfold kid0
 match t.kids,h with
 |[a,b],_=>simp
def zit{t:Typ}(h:t.kids.length=2):kid1 t∈t.kids/\t.kids[1]?=some (kid1 t):=by
 unfold kid1
 match t.kids,h with
 |[a,b],_=>simp
def zkK(lo:Bool):∀(n:Nat) (a b:Typ),wfT a->wfT b->dpt a+dpt b<=n->zpY lo (zc3 lo n) a b
 |0,a,b,_,_,h=>by have:=zd7 a;omega
 | n + 1,a,b,wa,wb,hn=>by
  refine zwi (by simp) fun o c hN hp=>?_
  obtain⟨F0,hF⟩:∃F0,zc3 lo (n+1) a b=F0:=⟨_,rfl⟩
  rw[hF]
  rw[zc3]at hF
  unfold zl8
  by_cases a0:a.kind=0
  ·rw[aC (.inl a0)]at hF
   cases lo with
   |true=>
    simp at hF
    simp[a0,hF]
   |false=>
    simp[a0]at hF
    simp[a0,hF]
  by_cases b0:b.kind=0
  ·rw[aC (.inr b0)]at hF
   cases lo with
   |true=>
    simp at hF
    simp[a0,b0,hF]
   |false=>
    rw[<-hF]
    simp[a0,b0]
  rw[aB (by omega)]at hF
  have hpa:=fun p hp=>zg6 (p:=p) wa a0 hp
  have hpb:=fun p hp=>zg6 (p:=p) wb b0 hp
  simp[a0,b0]
  refine gN (zis a (by have:=zeI wa;omega)) ?_
  simp
  refine gN (zis b (by have:=zeI wb;omega)) ?_
  have hL:(zaL a).length<=1000:=by have:=zeI wa;have:=zAt a;omega
  generalize zaL a=L at*
  generalize zaL b=R at*
  simp
  refine fK zaa hp (fun i:Nat=>i<=L.length/\((L.drop i).all fun p=>(zaM R p.tag).2&&(zeM (zc3 lo n) p.t (zaM R p.tag).1.t.names (zaM R p.tag).1.t.kids&&(!decide ((zaM R p.tag).1.tag=5)||(zc3 lo n (kid0 (zaM R p.tag).1.t) (kid0 p.t)&&zc3 lo n (kid1 p.t) (kid1 (zaM R p.tag).1.t)))))=F0) (fun i=>blwT lo L R i) (fun _=>[]) (fun i=>L.length-i) 0 [] ⟨by simp,by simpa using hF⟩ (by simp) fun i ⟨i1,i2⟩=>?_
  unfold zjI
  simp
  apply gI<;>intro h
  ·have hi:i<L.length:=by simpa using h
   rw[aG hi,all_cons]at i2
   obtain⟨p,hx⟩:∃p,L[i]=p:=⟨_,rfl⟩
   have hpm:=hpa p (by rw[<-hx];exact aS hi)
   rw[hx]at i2
   simp[hi,hx]
   refine gN (zd8 R p.tag) ?_
   have hq:=fun h=>zfF (l:=R) (tag:=p.tag) h
   generalize zaM R p.tag=q at*
   by_cases q2:q.2=true
   rotate_left
   ·simp only[q2,Bool.false_and]at i2
    simp[q2]
    simpa using i2
   obtain⟨qm,qt⟩:=hq q2
   have hqm:=hpb q.1 qm
   simp only[q2,Bool.true_and]at i2
   simp[q2,hi,hx]
   refine zAs hp lo L R i q.1 p.t (zc3 lo n) hpm.1 hqm.1 (by have:=zer hqm.1;omega) (fun x hx y hy=>zkK lo n x y (zdZ hpm.1 hx) (zdZ hqm.1 hy) (by have:=hpm.2.2.1 x hx;have:=hqm.2.2.1 y hy;omega)) (ms:=[0,1]) (by simp) (fun hf T M n' t6=>?_) (fun hf T t12 t10 t9 t8 t7 t2=>?_)
   ·rw[hf]at i2
    simp only[Bool.false_and]at i2
    simp[t6,i2]
   ·rw [hf]at i2
    simp only[Bool.true_and]at i2
    by_cases g5:q.1.tag=5
    ·have hk1:=zjT hqm.1 (tag5 (by rw[<-hqm.2.1];exact g5))
     have hk2:=zjT hpm.1 (tag5 (by rw[<-hpm.2.1,<-qt];exact g5))
     have m0:=zkJ hk1
     have m1:=zit hk1
     have n0:=zkJ hk2
     have n1:=zit hk2
     have e1:PCall Pg 80 [.agg (kid0 q.1.t).enc,.agg (kid0 p.t).enc,.one (.bool lo)] (.one (.bool (zc3 lo n (kid0 q.1.t) (kid0 p.t)))):=zkK lo n (kid0 q.1.t) (kid0 p.t) (zdZ hqm.1 m0.1) (zdZ hpm.1 n0.1) (by have:=hpm.2.2.1 _ n0.1;have:=hqm.2.2.1 _ m0.1;omega)
     have e2:PCall Pg 80 [.agg (kid1 p.t).enc,.agg (kid1 q.1.t).enc,.one (.bool lo)] (.one (.bool (zc3 lo n (kid1 p.t) (kid1 q.1.t)))):=zkK lo n (kid1 p.t) (kid1 q.1.t) (zdZ hpm.1 n1.1) (zdZ hqm.1 m1.1) (by have:=hpm.2.2.1 _ n1.1;have:=hqm.2.2.1 _ m1.1;omega)
     simp only[g5,decide_true,Bool.not_true,eP]at i2
     generalize zc3 lo n (kid0 q.1.t) (kid0 p.t)=z1 at*
     generalize zc3 lo n (kid1 p.t) (kid1 q.1.t)=z2 at*
     simp[t10,t12,t2,g5,m0.2,n0.2]
     refine gN e1 ?_
     cases z1 with
     |false=>
      simp only[Bool.false_and]at i2
      simp
      exact⟨by decide,i2.symm⟩
     | true=>
      simp only[Bool.true_and]at i2
      simp[t10,t12,t2,m1.2,n1.2,t9]
      refine gN e2 ?_
      cases z2 with
      |false=>
       simp only[Bool.false_and]at i2
       simp
       exact⟨by decide,i2.symm⟩
      |true=>
       simp only[Bool.true_and]at i2
       simp[t9]
       refine⟨by decide,?_⟩
       refine fD (i+1) [] ⟨by omega,i2⟩ (by omega) ?_
       simp[t9,t8,t7,t2]
       exact wI
    ·simp only[g5,decide_false,Bool.not_false,eZ,Bool.true_and]at i2
     simp[t10,t12,t2,g5,t9]
     refine⟨by decide,?_⟩
     refine fD (i+1) [] ⟨by omega,i2⟩ (by omega) ?_
     simp[t9,t8,t7,t2]
     exact wI
  ·have hi:i=L.length:=by simp at h;omega
   subst hi
   rw[aO,all_nil]at i2
   simp[i2]
def znr(lo:Bool)(a b:Typ)(wa:wfT a)(wb:wfT b):zpY lo (belR lo) a b:=zkK lo (dpt a+dpt b) a b wa wb (aN _)
def zmn(a b:Typ):PCall Pg 92 [.agg a.enc,.agg b.enc] (.one (.bool (SubR a b))):=by
 refine zz5 (by simp) fun o c hN hp=>?_
 unfold zpJ SubR
 have H:isNR a=true->isNR b=true->zpY false (belR false) a b:=fun h k=>znr false a b (zd6 h) (zd6 k)
 simp
 refine gN (zdk a) ?_
 simp
 refine gN (zdk b) ?_
 generalize isNR a=x at*
 generalize isNR b=y at*
 cases x<;>cases y<;>simp
 refine gN (H rfl rfl) ?_
 simp
def zxq(a b:Typ):PCall Pg 55 [.agg a.enc,.agg b.enc] (.one (.bool (zhR a b))):=by
 refine zyl (by simp) fun o c hN hp=>?_
 unfold zn6 zhR
 have H:isNR a=true->isNR b=true->zpY true (belR true) a b:=fun h k=>znr true a b (zd6 h) (zd6 k)
 simp
 refine gN (zdk a) ?_
 simp
 refine gN (zdk b) ?_
 generalize isNR a=x at*
 generalize isNR b=y at*
 cases x<;>cases y<;>simp
 refine gN (H rfl rfl) ?_
 simp
abbrev joiT(a b:Typ)(i:Nat):List (Nat × AV):=[(9,.c (.d (.int .i64 i))),(8,.c (.ptr 2 0)),(7,.c (.ptr 1 0)),(4,.c (.ptr 0 0)),(3,.c (.d (.rp b.enc 0))),(2,.c (.d (.rp a.enc 0)))]
abbrev joiB(ks:List Typ):List Blk:=[bx4,bx4,.box [.d (.int .i64 7),.d (.str (bs [])),.d (.sl true 1 []),.msl 4 3 0 ks.length],arrT ks]
def zEk(a b:Typ):PCall Pg 139 [.agg a.enc,.agg b.enc] (.agg (zgc a b).enc):=by
 refine zym (by simp) fun o c hN hp=>?_
 obtain⟨R,hR⟩:∃R,zgc a b=R:=⟨_,rfl⟩
 rw[hR]
 unfold zgc at hR
 unfold zn7
 simp
 refine gN (zmn a b) ?_
 by_cases s1:SubR a b=true
 ·rw[aC s1]at hR
  subst hR
  simp[s1]
 rw[aB s1]at hR
 simp[s1]
 refine gN (zmn b a) ?_
 by_cases s2:SubR b a=true
 ·rw[aC s2]at hR
  subst hR
  simp[s2]
 rw[aB s2]at hR
 simp[s2]
 refine gN (zdk a) ?_
 simp
 refine gN (zdk b) ?_
 by_cases na:isNR a=true
 rotate_left
 ·rw[aC (.inl (by simpa using na))]at hR
  subst hR
  simp[na,zaU]
 by_cases nb:isNR b=true
 rotate_left
 ·rw[aC (.inr (.inl (by simpa using nb)))]at hR
  subst hR
  simp[na,nb,zaU]
 by_cases a0:a.kind=0
 ·rw[aC (.inr (.inr (.inl a0)))]at hR
  subst hR
  simp[na,nb,a0,zaU]
 by_cases b0:b.kind=0
 ·rw[aC (.inr (.inr (.inr b0)))]at hR
  subst hR
  simp[na,nb,a0,b0,zaU]
 rw[aB (by simp[na,nb,a0,b0])]at hR
 have wa:=zd6 na
 have wb:=zd6 nb
 simp[na,nb,a0,b0]
 refine fQ [.c 2 3] ?_
 simp
 obtain⟨F0,hF⟩:∃F0,zgX a b [0,1,2,3,4,5] []=F0:=⟨_,rfl⟩
 rw[hF]at hR
 refine fK zaa hp (fun x:Nat × List Typ=>x.1<=6/\x.2.length<=x.1/\zgX a b (zi2 x.1) x.2=F0) (fun x=>joiT a b x.1) (fun x=>joiB x.2) (fun x=>6-x.1) (0,[]) [0,1,2,3] ⟨by simp,by simp,hF⟩ (by simp) fun⟨t,ks⟩ ⟨i1,i2,i3⟩=>?_
 unfold zlv
 simp only at i1 i2 i3
 simp
 apply gI<;>intro h
 ·have ht:t<6:=by simp at h;omega
  rw[ztC ht,zgX]at i3
  refine gN (zis a (by have:=zeI wa;omega)) ?_
  simp
  refine gN (zd8 _ _) ?_
  simp
  refine gN (zis b (by have:=zeI wb;omega)) ?_
  simp
  refine gN (zd8 _ _) ?_
  have hm:=fun h=>zg6 (p:=(zaM (zaL a) t).1) wa a0 (zfF h).1
  have hn:=fun h=>zg6 (p:=(zaM (zaL b) t).1) wb b0 (zfF h).1
  generalize zaM (zaL a) t=m at*
  generalize zaM (zaL b) t=n at*
  have hw:=wI (n:=(t:Int)+1)
  by_cases m2:m.2=true
  ·by_cases n2:n.2=true
   ·rw[aC ⟨m2,n2⟩]at i3
    have e1:PCall Pg 80 [.agg m.1.t.enc,.agg n.1.t.enc,.one (.bool false)] (.one (.bool (belR false m.1.t n.1.t))):=znr false _ _ (hm m2).1 (hn n2).1
    have e2:PCall Pg 80 [.agg n.1.t.enc,.agg m.1.t.enc,.one (.bool false)] (.one (.bool (belR false n.1.t m.1.t))):=znr false _ _ (hn n2).1 (hm m2).1
    simp[m2,n2]
    refine gN e1 ?_
    by_cases z1:belR false m.1.t n.1.t=true
    ·rw[aC z1]at i3
     simp[z1]
     refine⟨by omega,?_⟩
     refine fD (t+1,ks++[n.1.t]) [0,1,2,6] ⟨by simp only;omega,by simp;omega,i3⟩ (by simp only;omega) ?_
     simp[hw]
     exact zcr ks
    rw[aB z1]at i3
    simp[z1,m2,n2]
    refine gN e2 ?_
    by_cases z2:belR false n.1.t m.1.t=true
    ·rw[aC z2]at i3
     simp[z2]
     refine⟨by omega,?_⟩
     refine fD (t+1,ks++[m.1.t]) [0,1,2,6] ⟨by simp only;omega,by simp;omega,i3⟩ (by simp only;omega) ?_
     simp[hw]
     exact zcr ks
    rw[aB z2]at i3
    rw[<-i3]at hR
    simp only at hR
    subst hR
    simp[z2,m2,n2,zaU]
   ·rw[aB (fun z=>n2 z.2),aC m2]at i3
    simp[m2,n2]
    refine⟨by omega,?_⟩
    refine fD (t+1,ks++[m.1.t]) [0,1,2,6] ⟨by simp only;omega,by simp;omega,i3⟩ (by simp only;omega) ?_
    simp[hw]
    exact zcr ks
  ·rw[aB (fun z=>m2 z.1),aB m2]at i3
   by_cases n2:n.2=true
   ·rw[aC n2]at i3
    simp[m2,n2]
    refine⟨by omega,?_⟩
    refine fD (t+1,ks++[n.1.t]) [0,1,2,6] ⟨by simp only;omega,by simp;omega,i3⟩ (by simp only;omega) ?_
    simp[hw]
    exact zcr ks
   ·rw[aB n2]at i3
    simp[m2,n2]
    refine fD (t+1,ks) [0,1,2,3] ⟨by simp only;omega,by simp only;omega,i3⟩ (by simp only;omega) ?_
    simp[hw]
 ·have ht:t=6:=by simp at h;omega
  subst ht
  rw[show zi2 6=[]from rfl,zgX]at i3
  rw[<-i3]at hR
  simp only at hR
  have hNm:PCall Pg 76 [.agg [.int .i64 7,.str (bs []),.sl true 1 [],.sl false 4 (ks.map Typ.enc)]] (.tup [.agg (za7 (.mk 7 (bs []) [] ks)).1.enc,.one (.int .i64 (za7 (.mk 7 (bs []) [] ks)).2)]):=PCall.erd (zeJ (.mk 7 (bs []) [] ks)) (by simp[zhY,DV.erds,DV.erd,D.erdL,D.erd])
  have z:take ks.length (List.map Typ.enc ks)=List.map Typ.enc ks:=aF (by simp)
  simp
  refine fP [3] ?_
  simp[zah,zcr,z]
  refine gN hNm ?_
  generalize za7 (.mk 7 (bs []) [] ks)=N at*
  by_cases n0:N.2=0
  ·rw[aC n0]at hR
   subst hR
   simp[zah,n0]
  ·rw[aB n0]at hR
   subst hR
   simp[zah,n0,zaU]
abbrev narT(t:Typ)(tag:Int)(i:Nat):List (Nat × AV):=[(10,.c (.d (.int .i64 i))),(9,.c (.ptr 3 0)),(7,.c (.ptr 2 0)),(5,.c (.ptr 1 0)),(4,.c (.ptr 0 0)),(2,.c (.d (.rp t.enc 0))),(1,.c (.d (.int .i64 tag)))]
abbrev narB(p:Prt)(ks:List Typ):List Blk:=[bx4,bx4,.box (p.enc.map .d),.box [.d (.int .i64 7),.d (.str (bs [])),.d (.sl true 1 []),.msl 4 4 0 ks.length],arrT ks]
def zzW(t:Typ)(tag:Int):PCall Pg 138 [.agg t.enc,.one (.int .i64 tag)] (.tup [.agg (zcs t tag).1.enc,.agg (zcs t tag).2.enc]):=by
 refine ztH (by simp) fun o c hN hp=>?_
 obtain⟨R,hR⟩:∃R,zcs t tag=R:=⟨_,rfl⟩
 rw[hR]
 unfold zcs at hR
 unfold zlw
 simp
 refine gN (zdk t) ?_
 by_cases na:isNR t=true
 rotate_left
 ·rw[aC (.inl (by simpa using na))]at hR
  subst hR
  simp[na]
  try decide
 by_cases t1:tag<0
 ·rw[aC (.inr (.inl t1))]at hR
  subst hR
  simp[na,t1]
  try decide
 by_cases t2:6<=tag
 ·rw[aC (.inr (.inr t2))]at hR
  subst hR
  simp[na,t1,t2]
  try decide
 rw[aB (by simp[na];omega)]at hR
 have wt:=zd6 na
 by_cases k0:t.kind=0
 ·rw[aC k0]at hR
  by_cases t5:tag=5
  ·rw[aC t5]at hR
   subst hR
   simp[na,t1,t2,k0,t5]
   try decide
  ·rw[aB t5]at hR
   subst hR
   have hw:=wI (n:=1+tag)
   simp[na,t1,t2,k0,t5,hw]
   exact⟨by decide,by rw[zcN]⟩
 rw[aB k0]at hR
 simp[na,t1,t2,k0]
 refine gN (zis t (by have:=zeI wt;omega)) ?_
 simp
 refine gN (zd8 _ _) ?_
 generalize zaM (zaL t) tag=p at*
 by_cases p2:p.2=true
 rotate_left
 ·rw[aC (by simpa using p2)]at hR
  subst hR
  simp[p2]
  try decide
 rw[aB (by simp[p2])]at hR
 by_cases k7:t.kind=7
 rotate_left
 ·rw[aC k7]at hR
  subst hR
  simp[p2,k7]
  try decide
 rw[aB (fun z=>z k7)]at hR
 simp[p2,k7]
 refine fQ [.c 3 3] ?_
 simp
 have hkl:=zeI wt
 obtain⟨F0,hF⟩:∃F0,t.kids.filter (fun k=>decide (zaj k≠tag))=F0:=⟨_,rfl⟩
 rw[hF]at hR
 refine fK zaa hp (fun x:Nat × List Typ=>x.1<=t.kids.length/\x.2.length<=x.1/\x.2++(t.kids.drop x.1).filter (fun k=>decide (zaj k≠tag))=F0) (fun x=>narT t tag x.1) (fun x=>narB p.1 x.2) (fun x=>t.kids.length-x.1) (0,[]) [0,1,2,3,4] ⟨by simp,by simp,by simpa using hF⟩ (by simp) fun⟨j,ks⟩ ⟨i1,i2,i3⟩=>?_
 unfold zi4
 simp only at i1 i2 i3
 simp
 apply gI<;>intro h
 ·have hj:j<t.kids.length:=by simpa using h
  rw[aG hj,dQ]at i3
  obtain⟨x,hx⟩:∃x,t.kids[j]=x:=⟨_,rfl⟩
  rw[hx]at i3
  have hw:=wI (n:=(j:Int)+1)
  simp[hj,hx]
  refine gN (zij x) ?_
  by_cases q:zaj x=tag
  ·rw[aB (by simp[q])]at i3
   simp[q]
   refine fD (j+1,ks) [0,1,2,3,4] ⟨by simp only;omega,by simp only;omega,i3⟩ (by simp only;omega) ?_
   simp[hw]
  ·rw[aC (by simp[q])]at i3
   simp[q,hj,hx]
   refine⟨by omega,by decide,?_⟩
   refine fD (j+1,ks++[x]) [0,1,2,3,5] ⟨by simp only;omega,by simp;omega,by simpa using i3⟩ (by simp only;omega) ?_
   simp[hw]
   exact zcr ks
 ·have hj:j=t.kids.length:=by simp at h;omega
  subst hj
  rw[aO,filter_nil,bL]at i3
  subst i3
  have z:take ks.length (List.map Typ.enc ks)=List.map Typ.enc ks:=aF (by simp)
  match ks,i2,hR,z with
  |[x],i2,hR,z=>
   simp only at hR
   subst hR
   simp
   decide
  |[],i2,hR,z=>
   simp only at hR
   subst hR
   simp[zhY]
   decide
  |x::y::l2,i2,hR,z=>
   simp only at hR
   subst hR
   have h1:¬((l2.length:Int)+1+1=1):=by omega
   simp[h1,zhY,zaN]
   decide
end Go.Gr
namespace Go.Abs
def MCall.frzV{P:Program}{f:FuncId}{args:List AV}{bs:List Blk}{ds:List DV}{V:DV}(hp:PCall P f ds V)(hd:∀(h h':PH) (v:Value),zaP h V v->zaP h' V v)(e:zgT (hpOf bs) args=some ds)
  (h1:(bs.all fun b=>b.tag !=0)=true) (h2:(bs.all fun b=>b.lv (live bs))=true) (h3:V.av.lv (live bs)=true):MCall P f args bs V.av bs:=by
 refine⟨hp.1,aN _,zfC h1,h3,fun b hb=>aa.1 h2 b hb,fun h ρ w argsC H hG r=>?_⟩
 have k:=zkU (n:=0) H (fun _ _ _ _=>dK _) args ds argsC e r
 refine(hp.2 (zb2 h 0 w.heap) w argsC (ziK H) (hG.mono (zga H)) k).mono fun e w' hh=>?_
 obtain⟨vC,h',e1,e2,e3,e4,e5,e6,e7,e8⟩:=hh
 have hx:∀B,B<w.heap.size->w'.heap[B]?=w.heap[B]?:=e6
 have hP:∀B o,h B=some o->w'.heap[B]?=some o:=fun B o he=>by
  rw[e6 B (H.lt he)];exact H.pers B o he
 exact⟨vC,h,ρ,e1,⟨fun _ _ he=>he,fun B hB _=>rfl,e5,fun B hB _=>e6 B hB,fun b p hp hr=>.inr ⟨b,p,hp,hr,rfl⟩⟩,H.grow (fun _ _ he=>he) hP (fun B hB _=>⟨e6 B hB,rfl⟩),e7,zaP.av (hd _ _ _ e8),fun _ _=>rfl⟩
end Go.Abs
namespace Go.Gr
open Go.Abs Go.Proofs
@[simp] theorem Ent.enc_length(e:Ent):e.enc.length=3:=rfl
@[simp] theorem Ent.enc_0(e:Ent):e.enc[0]?=some (.str e.name):=rfl
@[simp] theorem Ent.enc_1(e:Ent):e.enc[1]?=some (.int .i64 e.module):=rfl
@[simp] theorem Ent.enc_2(e:Ent):e.enc[2]?=some (.int .i64 e.decl):=rfl
@[simp] theorem Ent.enc_g0(e:Ent)(h:0<e.enc.length):e.enc[0]=.str e.name:=rfl
@[simp] theorem Ent.cut_enc(e:Ent):cut e.enc 0 3=e.enc:=rfl
@[simp] theorem Ent.cut_map(e:Ent):cut (e.enc.map AC.d) 0 3=e.enc.map .d:=rfl
@[simp] theorem Ent.er_map(e:Ent):e.enc.map D.er=e.enc:=rfl
@[simp] theorem Mdl.enc_0(m:Mdl):m.enc[0]?=some (.sl false 4 (m.imps.map Imp.enc)):=rfl
@[simp] theorem Mdl.enc_1(m:Mdl):m.enc[1]?=some (.sl false 15 (m.decs.map Dec.enc)):=rfl
@[simp] theorem Mdl.enc_g0(m:Mdl)(h:0<m.enc.length):m.enc[0]=.sl false 4 (m.imps.map Imp.enc):=rfl
@[simp] theorem Mdl.enc_g1(m:Mdl)(h:1<m.enc.length):m.enc[1]=.sl false 15 (m.decs.map Dec.enc):=rfl
@[simp] theorem Dec.enc_0(d:Dec):d.enc[0]?=some (.str d.name):=rfl
@[simp] theorem Dec.enc_1(d:Dec):d.enc[1]?=some (.bool d.exp):=rfl
@[simp] theorem Dec.enc_2(d:Dec):d.enc[2]?=some (.sl false 5 (d.vars.map encV)):=rfl
@[simp] theorem Dec.enc_3(d:Dec):d.enc[3]?=some (.str d.param):=rfl
@[simp] theorem Dec.enc_4(d:Dec):d.enc[4]?=some (.sl false 4 (d.types.map Typ.enc)):=rfl
theorem Dec.enc_13(d:Dec):d.enc[13]?=some (.int .i64 d.line):=by unfold Dec.enc;rw[Nod.enc_eq];try rfl
theorem Dec.enc_14(d:Dec):d.enc[14]?=some (.int .i64 d.col):=by unfold Dec.enc;rw[Nod.enc_eq];try rfl
attribute [simp] Dec.enc_13 Dec.enc_14
@[simp] theorem Dec.enc_g0(d:Dec)(h:0<d.enc.length):d.enc[0]=.str d.name:=rfl
@[simp] theorem Dec.enc_g1(d:Dec)(h:1<d.enc.length):d.enc[1]=.bool d.exp:=rfl
@[simp] theorem Dec.enc_g2(d:Dec)(h:2<d.enc.length):d.enc[2]=.sl false 5 (d.vars.map encV):=rfl
@[simp] theorem Dec.enc_g13(d:Dec)(h:13<d.enc.length):d.enc[13]=.int .i64 d.line:=by have:=d.enc_13;rw[aA h]at this;exact bK this
@[simp] theorem Dec.enc_g14(d:Dec)(h:14<d.enc.length):d.enc[14]=.int .i64 d.col:=by have:=d.enc_14;rw[aA h]at this;exact bK this
@[simp] theorem Imp.enc_0(x:Imp):x.enc[0]?=some (.str x.from_):=rfl
@[simp] theorem Imp.enc_1(x:Imp):x.enc[1]?=some (.sl false 1 (encS x.names)):=rfl
@[simp] theorem Imp.enc_2(x:Imp):x.enc[2]?=some (.int .i64 x.line):=rfl
@[simp] theorem Imp.enc_3(x:Imp):x.enc[3]?=some (.int .i64 x.col):=rfl
@[simp] theorem Imp.enc_g0(x:Imp)(h:0<x.enc.length):x.enc[0]=.str x.from_:=rfl
@[simp] theorem Imp.enc_g1(x:Imp)(h:1<x.enc.length):x.enc[1]=.sl false 1 (encS x.names):=rfl
@[simp] theorem Imp.enc_g2(x:Imp)(h:2<x.enc.length):x.enc[2]=.int .i64 x.line:=rfl
@[simp] theorem Imp.enc_g3(x:Imp)(h:3<x.enc.length):x.enc[3]=.int .i64 x.col:=rfl
@[simp] theorem Imp.cut_enc(x:Imp):cut x.enc 0 4=x.enc:=rfl
@[simp] theorem Imp.cut_map(x:Imp):cut (x.enc.map AC.d) 0 4=x.enc.map .d:=rfl
def scpE(s:List Ent):List D:=[.sl false 3 (s.map Ent.enc)]
theorem Lnk.enc_eq(l:Lnk):l.enc=[.sl false 1 (encS l.names),.sl false 2 (l.mods.map Mdl.enc),.sl false 1 (l.scopes.map scpE),.str l.main.name,.int .i64 l.main.module,.int .i64 l.main.decl]:=rfl
@[simp] theorem Lnk.enc_length(l:Lnk):l.enc.length=6:=rfl
@[simp] theorem Lnk.enc_0(l:Lnk):l.enc[0]?=some (.sl false 1 (encS l.names)):=rfl
@[simp] theorem Lnk.enc_1(l:Lnk):l.enc[1]?=some (.sl false 2 (l.mods.map Mdl.enc)):=rfl
@[simp] theorem Lnk.enc_2(l:Lnk):l.enc[2]?=some (.sl false 1 (l.scopes.map scpE)):=rfl
@[simp] theorem Lnk.enc_g0(l:Lnk)(h:0<l.enc.length):l.enc[0]=.sl false 1 (encS l.names):=rfl
@[simp] theorem Lnk.enc_g1(l:Lnk)(h:1<l.enc.length):l.enc[1]=.sl false 2 (l.mods.map Mdl.enc):=rfl
@[simp] theorem Lnk.enc_g2(l:Lnk)(h:2<l.enc.length):l.enc[2]=.sl false 1 (l.scopes.map scpE):=rfl
@[simp] theorem Lnk.cut_enc(l:Lnk):cut l.enc 0 6=l.enc:=rfl
@[simp] theorem Lnk.cut_map(l:Lnk):cut (l.enc.map AC.d) 0 6=l.enc.map .d:=rfl
@[simp] theorem Lnk.er_map(l:Lnk):l.enc.map D.er=l.enc:=rfl
def zqU{α:Type}(q:α->Bool):∀(j:Nat) (l:List α),fi q j l= -1\/((j:Int)<=fi q j l/\fi q j l<j+l.length)
 |j,[]=>.inl rfl
 | j,x::l=>by
  unfold fi
  split
  ·exact .inr ⟨Int.le_refl _,by simp;omega⟩
  ·rcases zqU q (j+1) l with h|h
   ·exact .inl h
   ·exact .inr ⟨by omega,by simp;omega⟩
def zhj(names:List fC)(s:fC):PCall Pg 31 [.one (.sl false 1 (encS names)),.one (.str s)] (.one (.int .i64 (modZ names s))):=by
 refine ztI (by simp) fun o c hN hp=>?_
 have hl:names.length<=zaf:=by have:=o.1;simp only[DV.ok,D.ok,ze9]at this;exact this.1
 unfold zaf at hl
 unfold zlx modZ
 obtain⟨R,hR⟩:∃R,fi (fun n=>decide (n=s)) 0 names=R:=⟨_,rfl⟩
 rw[hR]
 simp
 refine fK zaa hp (fun j:Nat=>j<=names.length/\fi (fun n=>decide (n=s)) j (names.drop j)=R) (fun j=>[(5,.c (.d (.int .i64 j))),(1,.c (.d (.str s))),(0,.c (.d (.sl false 1 (encS names))))]) (fun _=>[]) (fun j=>names.length-j) 0 [] ⟨by simp,by simpa using hR⟩ (by simp) fun j ⟨h1,h2⟩=>?_
 unfold zi5
 simp
 apply gI<;>intro h
 ·have hj:j<names.length:=by simpa using h
  rw[aG hj,fi]at h2
  by_cases q:names[j]=s
  ·rw[aC (by simpa using q)]at h2
   subst h2
   simp[hj,q]
  ·rw[aB (by simpa using q)]at h2
   simp[hj,q]
   refine fD (j+1) [] ⟨by omega,h2⟩ (by omega) ?_
   simp
   exact wI
 ·have hj:j=names.length:=by simp at h;omega
  subst hj
  rw[aO,fi]at h2
  subst h2
  simp
def zxU(m:Mdl)(s:fC)(hm:m.decs.length<=100000):PCall Pg 32 [.agg m.enc,.one (.str s)] (.one (.int .i64 (zc7 m s))):=by
 refine zyo (by simp) fun o c hN hp=>?_
 unfold zn9 zc7
 obtain⟨R,hR⟩:∃R,fi (fun d:Dec=>decide (d.name=s)) 0 m.decs=R:=⟨_,rfl⟩
 rw[hR]
 simp
 refine fK zaa hp (fun j:Nat=>j<=m.decs.length/\fi (fun d:Dec=>decide (d.name=s)) j (m.decs.drop j)=R) (fun j=>[(5,.c (.d (.int .i64 j))),(2,.c (.d (.rp m.enc 0))),(1,.c (.d (.str s)))]) (fun _=>[]) (fun j=>m.decs.length-j) 0 [] ⟨by simp,by simpa using hR⟩ (by simp) fun j ⟨h1,h2⟩=>?_
 unfold zlz
 simp
 apply gI<;>intro h
 ·have hj:j<m.decs.length:=by simpa using h
  rw[aG hj,fi]at h2
  by_cases q:m.decs[j].name=s
  ·rw[aC (by simpa using q)]at h2
   subst h2
   simp[hj,q]
  ·rw[aB (by simpa using q)]at h2
   simp[hj,q]
   refine fD (j+1) [] ⟨by omega,h2⟩ (by omega) ?_
   simp
   exact wI
 ·have hj:j=m.decs.length:=by simp at h;omega
  subst hj
  rw[aO,fi]at h2
  subst h2
  simp
abbrev entV(r:Ent × Bool):DV:=.tup [.agg r.1.enc,.one (.bool r.2)]
def zxV(l:List Ent)(s:fC):PCall Pg 48 [.one (.sl false 3 (l.map Ent.enc)),.one (.str s)] (entV (zcf l s)):=by
 refine zyn (by simp) fun o c hN hp=>?_
 have hl:l.length<=zaf:=by have:=o.1;simp only[DV.ok,D.ok,aU]at this;exact this.1
 unfold zaf at hl
 obtain⟨R,hR⟩:∃R,zcf l s=R:=⟨_,rfl⟩
 rw[hR]
 unfold zn8
 simp
 refine fK zaa hp (fun j:Nat=>j<=l.length/\zcf (l.drop j) s=R) (fun j=>[(6,.c (.d (.int .i64 j))),(4,.c (.ptr 0 0)),(1,.c (.d (.str s))),(0,.c (.d (.sl false 3 (l.map Ent.enc))))]) (fun _=>[.box [.d (.str (bs [])),.d (.int .i64 0),.d (.int .i64 0)]]) (fun j=>l.length-j) 0 [0] ⟨by simp,by simpa using hR⟩ (by simp) fun j ⟨h1,h2⟩=>?_
 unfold zly
 simp
 apply gI<;>intro h
 ·have hj:j<l.length:=by simpa using h
  rw[aG hj,zcf]at h2
  by_cases q:l[j].name=s
  ·rw[aC q]at h2
   subst h2
   simp[hj,q]
  ·rw[aB q]at h2
   simp[hj,q]
   refine fD (j+1) [0] ⟨by omega,h2⟩ (by omega) ?_
   simp
   exact wI
 ·have hj:j=l.length:=by simp at h;omega
  subst hj
  rw[aO,zcf]at h2
  subst h2
  simp
  rfl
def zBy(r:Ent × Bool):∀(h h':PH) (v:Value),zaP h (entV r) v->zaP h' (entV r) v:=fun h h' v q=>by
 simp only[entV,zaP]at q⊢
 obtain⟨vs,e,r⟩:=q
 refine⟨vs,e,?_⟩
 rcases vs with _|⟨v1,_|⟨v2,vs⟩⟩
 ·simp[zax]at r
 ·simp[zax]at r
 ·simp only[zax]at r⊢
  refine⟨?_,by simpa[zaP,RepD]using r.2.1,r.2.2⟩
  have r1:=r.1
  simp only[zaP]at r1⊢
  obtain⟨us,e1,e2,e3⟩:=r1
  refine⟨us,e1,e2,?_⟩
  rcases us with _|⟨u1,_|⟨u2,_|⟨u3,us⟩⟩⟩
  ·simp at e2
  ·simp at e2
  ·simp at e2
  ·simpa[Ent.enc,RepL,RepD]using e3
def zvP(l:List Ent)(s:fC):MCall Pg 48 [.c (.msl 3 0 0 l.length),.c (.d (.str s))] [.arr 3 ((l.map Ent.enc).map (·.map .d))] (.tup [.ag ((zcf l s).1.enc.map .d),.c (.d (.bool (zcf l s).2))]) [.arr 3 ((l.map Ent.enc).map (·.map .d))]:=by
 have:=MCall.frzV (bs:=[.arr 3 ((l.map Ent.enc).map (·.map .d))]) (args:=[.c (.msl 3 0 0 l.length),.c (.d (.str s))]) (zxV l s) (zBy _) (by simp[zaN]) (by simp) (by simp) (by simp[Ent.enc])
 simpa[entV,DV.av,DV.avs]using this
def zzs(names:List fC)(s:fC):MCall Pg 31 [.c (.msl 1 0 0 names.length),.c (.d (.str s))] [.arr 1 ((encS names).map (·.map .d))] (.c (.d (.int .i64 (modZ names s)))) [.arr 1 ((encS names).map (·.map .d))]:=
 MCall.frzI (zhj names s) (by simp[zaN,aF]) (by simp) (by simp)
theorem zFa(d:Dia)(i:Int):put (d.enc.map AC.d) 0 [.d (.int .i64 i)]=(⟨i,d.line,d.col,d.e⟩:Dia).enc.map .d:=rfl
def srcE(s:fC × fC):List D:=[.str s.1,.str s.2]
@[simp] theorem zGl(s:fC × fC):(srcE s).length=2:=rfl
@[simp] theorem zIu(s:fC × fC):(srcE s)[0]?=some (.str s.1):=rfl
@[simp] theorem zIv(s:fC × fC):(srcE s)[1]?=some (.str s.2):=rfl
@[simp] theorem zIe(s:fC × fC)(h:0<(srcE s).length):(srcE s)[0]=.str s.1:=rfl
@[simp] theorem zIf(s:fC × fC)(h:1<(srcE s).length):(srcE s)[1]=.str s.2:=rfl
def lnk1(x:List fC × List Mdl):Lnk:=⟨x.1,x.2,[],noE⟩
abbrev lkZ:Blk:=.box [.d (.sl true 1 []),.d (.sl true 2 []),.d (.sl true 1 []),.d (.str (bs [])),.d (.int .i64 0),.d (.int .i64 0)]
abbrev fstT(l:List (fC × fC))(i nb:Nat):List (Nat × AV):=[(6,.c (.d (.int .i64 i))),(5,.c (.msl 4 4 0 nb)),(4,.c (.ptr 1 0)),(2,.c (.ptr 0 0)),(0,.c (.d (.sl false 2 (l.map srcE))))]
abbrev diaA(bad:List Dia):Blk:=.arr 4 ((bad.map Dia.enc).map (·.map .d))
abbrev fstB(ns:List fC)(ms:List Mdl)(bad:List Dia):List Blk:=[lkZ,.box [.msl 1 2 0 ns.length,.msl 2 3 0 ms.length,.d (.sl true 1 []),.d (.str (bs [])),.d (.int .i64 0),.d (.int .i64 0)],.arr 1 ((encS ns).map (·.map .d)),.arr 2 ((ms.map Mdl.enc).map (·.map .d)),diaA bad]
def zDx(l:List (fC × fC)):PCall Pg 28 [.one (.sl false 2 (l.map srcE))] (.tup [.agg (lnk1 (zcE l).1).enc,.one (.sl false 4 ((zcE l).2.map Dia.enc))]):=by
 refine zwj (by simp) fun o c hN hp=>?_
 obtain⟨R,hR⟩:∃R,zcE l=R:=⟨_,rfl⟩
 rw[hR]
 unfold zcE at hR
 unfold zl9
 by_cases h16:16<l.length
 ·have h16':(16:Int)<l.length:=by omega
  rw[aC h16]at hR
  subst hR
  simp[h16']
  exact⟨rfl,rfl⟩
 have h16':¬(16:Int)<l.length:=by omega
 rw[aB h16]at hR
 simp[h16,h16']
 refine fQ [.c 1 0,.c 1 1,.t 5] ?_
 simp
 refine fK zaa hp (fun x:Nat × List fC × List Mdl × List Dia=>x.1<=l.length/\x.2.1.length=x.1/\x.2.2.1.length=x.1/\x.2.2.2.length<=x.1/\zbQ (l.drop x.1) x.1 x.2.1 x.2.2.1 x.2.2.2=R) (fun x=>fstT l x.1 x.2.2.2.length) (fun x=>fstB x.2.1 x.2.2.1 x.2.2.2) (fun x=>l.length-x.1) (0,[],[],[]) [0,1,2,3,4] ⟨by simp,rfl,rfl,by simp,by simpa using hR⟩ (by simp[encS]) fun⟨i,ns,ms,bad⟩ ⟨i1,i2,i3,i4,i5⟩=>?_
 unfold zjJ
 simp only at i1 i2 i3 i4 i5
 simp
 apply gI<;>intro h
 ·have hi:i<l.length:=by simpa using h
  obtain⟨s,hs⟩:∃s,l[i]=s:=⟨_,rfl⟩
  rw[aG hi,hs,zbQ]at i5
  have hw:=wI (n:=(i:Int)+1)
  have hmz:=zzs ns s.1
  simp[hi,hs]
  refine gN (zns s.1) ?_
  simp[hi,hs]
  refine gN (zCq s.2) ?_
  generalize zbE s.2=m at*
  simp[hi,hs]
  refine gK [2] hmz ?_
  generalize modZ ns s.1=z at*
  simp[hi,hs]
  refine⟨by decide,by omega,by decide,by omega,?_⟩
  by_cases n1:zbg s.1=true
  rotate_left
  ·rw[aC (by simpa using n1)]at i5
   simp[n1]
   refine⟨by omega,?_⟩
   refine fD (i+1,ns++[s.1],ms++[m.1],bad++[⟨i,1,1,10⟩]) [0,1,7,8,9] ⟨by simp only;omega,by simp[i2],by simp[i3],by simp;omega,i5⟩ (by simp only;omega) ?_
   simp[hw,Dia.enc]
   exact⟨aF (by simp),zaN _ _,zaN _ _⟩
  rw[aB (by simpa using n1)]at i5
  by_cases z1:0<=z
  ·rw[aC z1]at i5
   simp[n1,z1]
   refine⟨by omega,?_⟩
   refine fD (i+1,ns++[s.1],ms++[m.1],bad++[⟨i,1,1,8⟩]) [0,1,7,8,9] ⟨by simp only;omega,by simp[i2],by simp[i3],by simp;omega,i5⟩ (by simp only;omega) ?_
   simp[hw,Dia.enc]
   exact⟨aF (by simp),zaN _ _,zaN _ _⟩
  rw[aB z1]at i5
  by_cases e0:m.2.e=0
  ·rw[aB (by simp[e0])]at i5
   simp[n1,z1,e0]
   refine fD (i+1,ns++[s.1],ms++[m.1],bad) [0,1,7,8,4] ⟨by simp only;omega,by simp[i2],by simp[i3],by simp only;omega,i5⟩ (by simp only;omega) ?_
   simp[hw,Dia.enc]
   exact⟨aF (by simp),zaN _ _⟩
  ·rw[aC e0]at i5
   simp[n1,z1,e0,zFa]
   refine⟨by omega,?_⟩
   refine fD (i+1,ns++[s.1],ms++[m.1],bad++[⟨i,m.2.line,m.2.col,m.2.e⟩]) [0,1,7,8,9] ⟨by simp only;omega,by simp[i2],by simp[i3],by simp;omega,i5⟩ (by simp only;omega) ?_
   simp[hw]
   exact⟨aF (by simp),zaN _ _,zaN _ _⟩
 ·have hi:i=l.length:=by simp at h;omega
  subst hi
  rw[aO,zbQ]at i5
  subst i5
  simp[zaN,lnk1,Lnk.enc_eq]
  exact⟨aF (by simp),rfl,rfl,rfl⟩
end Go.Gr
namespace Go.Gr
open Go.Abs Go.Proofs List
@[simp] theorem zIg(l:List fC)(j:Nat)(h:j<(encS l).length):(encS l)[j]=[.str (l[j]'(by simpa using h))]:=by simp[encS]
structure SmallM (m:Mdl):Prop where
 imps:m.imps.length<=10001
 names:∀x,x∈m.imps->x.names.length<=10001
 decs:m.decs.length<=10001
def zgq(p:Lnk):Prop:=p.mods.length<=16/\p.names.length=p.mods.length/\∀m,m∈p.mods->SmallM m
abbrev entA(sc:List Ent):Blk:=.arr 3 ((sc.map Ent.enc).map (·.map .d))
def zvX(m:Mdl)(s:fC):zc7 m s= -1\/(0<=zc7 m s/\zc7 m s<m.decs.length):=by
 have:=zqU (fun d:Dec=>decide (d.name=s)) 0 m.decs
 unfold zc7;omega
def znO(ns:List fC)(s:fC):modZ ns s= -1\/(0<=modZ ns s/\modZ ns s<ns.length):=by
 have:=zqU (fun n=>decide (n=s)) 0 ns
 unfold modZ;omega
def getD_in{α:Type}(l:List α)(d:α){z:Int}{n:Int}(hn:n=l.length)(h0:0<=z)(h1:z<n):l[z.toNat]?=some (l.getD z.toNat d)/\l.getD z.toNat d∈l:=by
 have h:z.toNat<l.length:=by omega
 rw[aH,aA h]
 exact⟨rfl,aS h⟩
def zlj(M:Mdl)(m i:Int)(x:Imp):∀(l:List fC) (sc:List Ent) (bad:List Dia),(impN M m i x l sc bad).1.length<=sc.length+l.length/\(impN M m i x l sc bad).2.length<=bad.length+l.length
 |[],sc,bad=>by simp[impN]
 |s::l,sc,bad=>by
  rw[impN]
  split
  ·have:=zlj M m i x l sc (bad++[⟨i,x.line,x.col,12⟩]);simp at this⊢;omega
  split
  ·have:=zlj M m i x l sc (bad++[⟨i,x.line,x.col,8⟩]);simp at this⊢;omega
  ·have:=zlj M m i x l (sc++[⟨s,m,zc7 M s⟩]) bad;simp at this⊢;omega
def zvY(ns:List fC)(ms:List Mdl)(i:Int)(x:Imp)(sc:List Ent):(zcl ns ms i x sc).1.length<=sc.length+x.names.length/\(zcl ns ms i x sc).2.length<=1+x.names.length:=by
 unfold zcl
 split
 ·simp
 ·have:=zlj (ms.getD (modZ ns x.from_).toNat noM) (modZ ns x.from_) i x x.names sc []
  simp only[length_nil,Nat.zero_add]at this
  exact⟨this.1,by omega⟩
abbrev impT(p:Lnk)(x:Imp)(m j n nb:Nat):List (Nat × AV):=[(13,.c (.d (.int .i64 j))),(12,.c (.d (.int .i64 m))),(11,.c (.ptr 1 0)),(10,.c (.msl 4 2 0 nb)),(6,.c (.d (.rp x.enc 0))),(4,.c (.d (.rp p.enc 0))),(3,.c (.msl 3 0 0 n))]
abbrev dBx(i:Int)(x:Imp)(e:Int):Blk:=.box [.d (.int .i64 i),.d (.int .i64 x.line),.d (.int .i64 x.col),.d (.int .i64 e)]
def zwZ(p:Lnk)(hp':zgq p)(i:Int)(x:Imp)(hx:x.names.length<=10001)(sc:List Ent)(hsc:sc.length<=1000000000):
  MCall Pg 47 [.ag (p.enc.map .d),.c (.d (.int .i64 i)),.ag (x.enc.map .d),.c (.msl 3 0 0 sc.length)] [entA sc]
   (.tup [.c (.msl 3 1 0 (zcl p.names p.mods i x sc).1.length),.c (.d (.sl false 4 ((zcl p.names p.mods i x sc).2.map Dia.enc)))]) [.dead,entA (zcl p.names p.mods i x sc).1]:=by
 refine zpK ⟨by simp,by simp,by simp,by simp,by simp,by simp;rfl,by simp⟩ fun ts hts ok hb c hN hp=>?_
 obtain⟨t,rfl⟩:=za6 hts
 obtain⟨R,hR⟩:∃R,zcl p.names p.mods i x sc=R:=⟨_,rfl⟩
 rw[hR]
 unfold zcl at hR
 have hmz:=zhj p.names x.from_
 have hml:=znO p.names x.from_
 unfold zi6
 simp
 refine gN hmz ?_
 generalize modZ p.names x.from_=z at*
 by_cases z0:z<0
 ·rw[aC z0]at hR
  subst hR
  simp[z0]
  refine⟨by decide,?_⟩
  refine fP [] ?_
  simp
  exact fG [1,0] [1] (by simp[Dia.enc,AV.erds,AV.erd])
 rw[aB z0]at hR
 obtain⟨g1,g2⟩:=getD_in p.mods noM (z:=z) (n:=p.names.length) (by rw[hp'.2.1]) (by omega) (by omega)
 generalize p.mods.getD z.toNat noM=M at*
 have hM:=hp'.2.2 M g2
 have h16:=hp'.1
 have hnm:=hp'.2.1
 obtain⟨zn,rfl⟩:∃zn:Nat,z=zn:=⟨z.toNat,by omega⟩
 simp only[az]at g1
 simp[z0]
 refine fQ [.t 10] ?_
 simp
 refine fK zaa hp (fun y:Nat × List Ent × List Dia × Int=>y.1<=x.names.length/\y.2.1.length<=sc.length+y.1/\y.2.2.1.length<=y.1/\impN M zn i x (x.names.drop y.1) y.2.1 y.2.2.1=R) (fun y=>impT p x zn y.1 y.2.1.length y.2.2.1.length) (fun y=>[entA y.2.1,dBx i x y.2.2.2,diaA y.2.2.1]) (fun y=>x.names.length-y.1) (0,sc,[],11) [0,2,3] ⟨by simp,by simp,by simp,by simpa using hR⟩ (by simp) fun⟨j,s,bad,e⟩ ⟨i1,i2,i3,i4⟩=>?_
 unfold zhy
 simp only at i1 i2 i3 i4
 simp
 apply gI<;>intro h
 ·have hj:j<x.names.length:=by simpa using h
  obtain⟨n,hn⟩:∃n,x.names[j]=n:=⟨_,rfl⟩
  rw[aG hj,hn,impN]at i4
  have hw:=wI (n:=(j:Int)+1)
  have hdl:=zvX M n
  have hfm:=zvP s n
  simp[hj,hn,g1]
  refine gN (zxU M n (by have:=hM.decs;omega)) ?_
  simp[hj,hn]
  refine⟨by decide,?_⟩
  refine gK [0] hfm ?_
  generalize zcf s n=f at*
  generalize zc7 M n=k at*
  simp
  by_cases k0:k<0
  ·rw[aC (.inl k0)]at i4
   simp[k0]
   refine⟨by omega,?_⟩
   refine fD (j+1,s,bad++[⟨i,x.line,x.col,12⟩],12) [0,1,4] ⟨by simp only;omega,by simp only;omega,by simp;omega,i4⟩ (by simp only;omega) ?_
   simp[hw,Dia.enc]
   exact zaN _ _
  obtain⟨g3,g4⟩:=getD_in M.decs zjs (z:=k) (n:=M.decs.length) rfl (by omega) (by omega)
  generalize M.decs.getD k.toNat zjs=d at*
  obtain⟨kn,rfl⟩:∃kn:Nat,k=kn:=⟨k.toNat,by omega⟩
  simp only[az]at g3
  by_cases ex:d.exp=true
  rotate_left
  ·rw[aC (.inr (by simpa using ex))]at i4
   simp[k0,g1,g3,ex]
   refine⟨by omega,?_⟩
   refine fD (j+1,s,bad++[⟨i,x.line,x.col,12⟩],12) [0,1,4] ⟨by simp only;omega,by simp only;omega,by simp;omega,i4⟩ (by simp only;omega) ?_
   simp[hw,Dia.enc]
   exact zaN _ _
  by_cases f2:f.2=true
  ·rw[aB (by simp[k0,ex]),aC f2]at i4
   simp[k0,g1,g3,ex,f2]
   refine⟨by omega,?_⟩
   refine fD (j+1,s,bad++[⟨i,x.line,x.col,8⟩],8) [0,1,4] ⟨by simp only;omega,by simp only;omega,by simp;omega,i4⟩ (by simp only;omega) ?_
   simp[hw,Dia.enc]
   exact zaN _ _
  ·rw[aB (by simp[k0,ex]),aB f2]at i4
   simp[k0,g1,g3,ex,f2,hj,hn]
   refine⟨by omega,?_⟩
   refine fD (j+1,s++[⟨n,zn,kn⟩],bad,e) [4,1,2] ⟨by simp only;omega,by simp;omega,by simp only;omega,i4⟩ (by simp only;omega) ?_
   simp[hw,Ent.enc]
   exact zaN _ _
 ·have hj:j=x.names.length:=by simp at h;omega
  subst hj
  rw[aO,impN]at i4
  subst i4
  simp
  refine fP [2] ?_
  simp[zah,zaN]
  exact fJ [1,0] [1] (by simp[zah])
abbrev allA(all:List (List Ent)):Blk:=.arr 1 ((all.map scpE).map (·.map .d))
abbrev secT(p:Lnk)(i na nb n:Nat):List (Nat × AV):=[(8,.c (.ptr 2 0)),(7,.c (.msl 3 3 0 n)),(6,.c (.d (.int .i64 i))),(5,.c (.msl 4 1 0 nb)),(4,.c (.msl 1 0 0 na)),(1,.c (.d (.rp p.enc 0)))]
abbrev secB(all:List (List Ent))(bad:List Dia)(m:Mdl)(sc:List Ent):List Blk:=[allA all,diaA bad,.box (m.enc.map .d),entA sc]
def zyY{c:Ctx}(hp:c.pure)(p:Lnk)(hp':zgq p)(i:Nat)(m:Mdl)(hm:SmallM m)(all:List (List Ent))(b0:List Dia)(hb0:b0.length<=10000000000)(F0:List Ent × List Dia)(hF:zgY p.names p.mods i m.imps [] b0=F0){Q:Exit->St->Prop}{S:St}{g}{ms:List Nat}
  (h0:Match ms S ((9,.c (.d (.int .i64 0)))::secT p i all.length b0.length 0) (secB all b0 m []))
  (hQ:F0.1.length<=100020001->F0.2.length<=b0.length+100030002->∀T,Abs.look T 8=.c (.ptr 2 0)->Abs.look T 7=.c (.msl 3 3 0 F0.1.length)->Abs.look T 6=.c (.d (.int .i64 i))->Abs.look T 5=.c (.msl 4 1 0 F0.2.length)->Abs.look T 4=.c (.msl 1 0 0 all.length)->Abs.look T 1=.c (.d (.rp p.enc 0))->Q (.exit 2) ⟨T,hpOf (secB all F0.2 m F0.1),4⟩):lw_ Pg c zfQ Q g S:=by
 have hmi:=hm.imps
 refine fK zaa hp (fun y:Nat × List Ent × List Dia=>y.1<=m.imps.length/\y.2.1.length<=y.1*10001/\y.2.2.length<=b0.length+y.1*10002/\zgY p.names p.mods i (m.imps.drop y.1) y.2.1 y.2.2=F0) (fun y=>(9,.c (.d (.int .i64 y.1)))::secT p i all.length y.2.2.length y.2.1.length) (fun y=>secB all y.2.2 m y.2.1) (fun y=>m.imps.length-y.1) (0,[],b0) ms ⟨by simp,by simp,by simp,by simpa using hF⟩ h0 fun⟨k,sc,bad⟩ ⟨i1,i2,i3,i4⟩=>?_
 unfold zfQ
 simp only at i1 i2 i3 i4
 simp
 have hk1:k*10001<=10001*10001:=Nat.mul_le_mul (by omega) (aN _)
 have hk2:k*10002<=10001*10002:=Nat.mul_le_mul (by omega) (aN _)
 apply gI<;>intro h
 ·have hk:k<m.imps.length:=by simpa using h
  obtain⟨x,hx⟩:∃x,m.imps[k]=x:=⟨_,rfl⟩
  have hxm:=hm.names x (by rw[<-hx];exact aS hk)
  rw[aG hk,hx,zgY]at i4
  have hw:=wI (n:=(k:Int)+1)
  have him:=zwZ p hp' i x hxm sc (by omega)
  have hil:=zvY p.names p.mods i x sc
  generalize zcl p.names p.mods i x sc=r at*
  simp[hk,hx]
  refine gK [3] him ?_
  simp
  refine⟨by decide,by omega,?_⟩
  refine fD (k+1,r.1,bad++r.2) [0,5,2,4] ⟨by simp only;omega,by simp only;omega,by simp;omega,i4⟩ (by simp only;omega) ?_
  simp[hw]
  exact zaN _ _
 ·have hk:k=m.imps.length:=by simp at h;omega
  subst hk
  rw[aO,zgY]at i4
  subst i4
  exact hQ (by simp only;omega) (by simp only;omega) _ (by simp) (by simp) (by simp) (by simp) (by simp) (by simp)
def zyZ{c:Ctx}(hp:c.pure)(p:Lnk)(i:Nat)(m:Mdl)(hm:SmallM m)(all:List (List Ent))(s0:List Ent)(hs0:s0.length<=100020001)(b0:List Dia)(hb0:b0.length<=100000000000)(F0:List Ent × List Dia)(hF:zgj i m.decs 0 s0 b0=F0){Q:Exit->St->Prop}{S:St}{g}{ms:List Nat}
  (h0:Match ms S ((12,.c (.d (.int .i64 0)))::secT p i all.length b0.length s0.length) (secB all b0 m s0))
  (hQ:F0.2.length<=b0.length+10001->∀T,Abs.look T 7=.c (.msl 3 3 0 F0.1.length)->Abs.look T 6=.c (.d (.int .i64 i))->Abs.look T 5=.c (.msl 4 1 0 F0.2.length)->Abs.look T 4=.c (.msl 1 0 0 all.length)->Abs.look T 1=.c (.d (.rp p.enc 0))->Q (.exit 4) ⟨T,hpOf (secB all F0.2 m F0.1),4⟩):lw_ Pg c zfR Q g S:=by
 have hmd:=hm.decs
 refine fK zaa hp (fun y:Nat × List Ent × List Dia=>y.1<=m.decs.length/\y.2.1.length<=s0.length+y.1/\y.2.2.length<=b0.length+y.1/\zgj i (m.decs.drop y.1) y.1 y.2.1 y.2.2=F0) (fun y=>(12,.c (.d (.int .i64 y.1)))::secT p i all.length y.2.2.length y.2.1.length) (fun y=>secB all y.2.2 m y.2.1) (fun y=>m.decs.length-y.1) (0,s0,b0) ms ⟨by simp,by simp,by simp,by simpa using hF⟩ h0 fun⟨k,sc,bad⟩ ⟨i1,i2,i3,i4⟩=>?_
 unfold zfR
 simp only at i1 i2 i3 i4
 simp
 apply gI<;>intro h
 ·have hk:k<m.decs.length:=by simpa using h
  obtain⟨d,hd⟩:∃d,m.decs[k]=d:=⟨_,rfl⟩
  rw[aG hk,hd,zgj]at i4
  have hw:=wI (n:=(k:Int)+1)
  have hfm:=zvP sc d.name
  simp[hk,hd]
  refine gK [3] hfm ?_
  generalize zcf sc d.name=f at*
  simp
  by_cases f2:f.2=true
  ·rw[aC f2]at i4
   simp[f2,hk,hd]
   refine⟨by omega,by decide,?_⟩
   refine fD (k+1,sc,bad++[⟨i,d.line,d.col,8⟩]) [0,5,2,3] ⟨by simp only;omega,by simp only;omega,by simp;omega,i4⟩ (by simp only;omega) ?_
   simp[hw,Dia.enc]
   exact zaN _ _
  ·rw[aB f2]at i4
   simp[f2,hk,hd]
   refine⟨by omega,?_⟩
   refine fD (k+1,sc++[⟨d.name,i,k⟩],bad) [0,1,2,5] ⟨by simp only;omega,by simp;omega,by simp only;omega,i4⟩ (by simp only;omega) ?_
   simp[hw,Ent.enc]
   exact zaN _ _
 ·have hk:k=m.decs.length:=by simp at h;omega
  subst hk
  rw[aO,zgj]at i4
  subst i4
  exact hQ (by simp only;omega) _ (by simp) (by simp) (by simp) (by simp) (by simp)
def zAT(p:Lnk)(hp':zgq p):PCall Pg 29 [.agg p.enc] (.tup [.one (.sl false 1 ((zcg p.names p.mods p.mods 0 [] []).1.map scpE)),.one (.sl false 4 ((zcg p.names p.mods p.mods 0 [] []).2.map Dia.enc))]):=by
 refine ztJ (by simp) fun o c hN hp=>?_
 obtain⟨R,hR⟩:∃R,zcg p.names p.mods p.mods 0 [] []=R:=⟨_,rfl⟩
 rw[hR]
 have h16:=hp'.1
 unfold zlA
 simp
 refine fQ [.t 4,.t 5] ?_
 simp
 refine fK zaa hp (fun y:Nat × List (List Ent) × List Dia=>y.1<=p.mods.length/\y.2.1.length=y.1/\y.2.2.length<=y.1*200000000/\zcg p.names p.mods (p.mods.drop y.1) y.1 y.2.1 y.2.2=R) (fun y=>[(6,.c (.d (.int .i64 y.1))),(5,.c (.msl 4 1 0 y.2.2.length)),(4,.c (.msl 1 0 0 y.2.1.length)),(1,.c (.d (.rp p.enc 0)))]) (fun y=>[allA y.2.1,diaA y.2.2]) (fun y=>p.mods.length-y.1) (0,[],[]) [0,1] ⟨by simp,rfl,by simp,by simpa using hR⟩ (by simp) fun⟨i,all,bad⟩ ⟨i1,i2,i3,i4⟩=>?_
 unfold zi7
 simp only at i1 i2 i3 i4
 simp
 apply gI<;>intro h
 ·have hi:i<p.mods.length:=by simpa using h
  obtain⟨m,hm⟩:∃m,p.mods[i]=m:=⟨_,rfl⟩
  have hsm:=hp'.2.2 m (by rw[<-hm];exact aS hi)
  rw[aG hi,hm,zcg]at i4
  have hw:=wI (n:=(i:Int)+1)
  simp[hi,hm]
  refine fQ [.t 7] ?_
  simp
  refine zyY hp p hp' i m hsm all bad (by omega) _ rfl (ms:=[0,1,2,3]) (by simp) fun q1 q2 T t8 t7 t6 t5 t4 t1=>?_
  generalize zgY p.names p.mods i m.imps [] bad=a at*
  simp
  refine zyZ hp p i m hsm all a.1 q1 a.2 (by omega) _ rfl (ms:=[0,1,2,3]) (by simp[t8,t7,t6,t5,t4,t1]) fun q3 T t7 t6 t5 t4 t1=>?_
  generalize zgj i m.decs 0 a.1 a.2=b at*
  simp
  refine fP [3] ?_
  simp[zah,t7,t6,t5,t4,t1,zaN]
  refine⟨by omega,?_⟩
  refine fD (i+1,all++[b.1],b.2) [4,1] ⟨by simp only;omega,by simp[i2],by simp only;omega,i4⟩ (by simp only;omega) ?_
  simp[zah,t7,t6,t5,t4,t1,zaN,hw,scpE]
  try trace_state
 ·have hi:i=p.mods.length:=by simp at h;omega
  subst hi
  rw[aO,zcg]at i4
  subst i4
  simp[zaN]
  try trace_state
def zdh(l:List Bool):List (List D):=l.map fun b=>[.bool b]
@[simp] theorem zFr(l:List Bool):(zdh l).length=l.length:=by simp[zdh]
@[simp] theorem zGV(l:List Bool)(k:Nat):(zdh l)[k]?=(l[k]?).map fun b=>[.bool b]:=by simp[zdh]
@[simp] theorem zG8(l:List Bool)(j:Nat)(h:j<(zdh l).length):(zdh l)[j]=[.bool (l[j]'(by simpa using h))]:=by simp[zdh]
def zzO(l:List Bool)(k:Nat)(b:Bool):(zdh l).set k [.bool b]=zdh (l.set k b):=by simp[zdh,fB]
abbrev zky(l:List Bool):Blk:=.arr 1 ((zdh l).map (·.map .d))
def zrN(l:List Bool)(k:Nat)(b:Bool):((zdh l).map fun x=>x.map AC.d).set k [.d (.bool b)]=(zdh (l.set k b)).map fun x=>x.map AC.d:=by rw[<-zzO,fB];try rfl
def zl4(ns:List fC):∀(l:List Imp) (seen:List Bool),(zgZ ns l seen).length=seen.length
 |[],seen=>rfl
 |x::l,seen=>by rw[zgZ,zl4 ns l];split<;>simp
def zrO(ns:List fC):∀(l:List Mdl) (i:Nat) (seen:List Bool),(zhT ns l i seen).length=seen.length
 |[],i,seen=>rfl
 |m::l,i,seen=>by rw[zhT,zrO ns l];split;exact zl4 ns _ _;rfl
def zB7{l:List Bool}{i z:Nat}(h:l.getD i false=true):(l.set z true).getD i false=true:=by
 rw[aH]at h⊢
 rw[getElem?_set]
 split
 ·split
  ·rfl
  ·rename_i h1 h2
   subst h1
   rw[aR (by omega)]at h;exact h
 ·exact h
abbrev rchT(p:Lnk)(to n nn i:Nat):List (Nat × AV):=[(9,.c (.d (.int .i64 i))),(8,.c (.d (.int .i64 nn))),(7,.c (.msl 1 0 0 n)),(3,.c (.d (.rp p.enc 0))),(2,.c (.d (.int .i64 to)))]
def zzP{c:Ctx}(hp:c.pure)(p:Lnk)(hp':zgq p)(to nn i:Nat)(hi:i<p.mods.length)(m:Mdl)(hm:SmallM m)(s0:List Bool)(hs0:s0.length=p.mods.length)(F0:List Bool)(hF:(if s0.getD i false=true then zgZ p.names m.imps s0 else s0)=F0){Q:Exit->St->Prop}{S:St}{g}{ms:List Nat}
  (h0:Match ms S ((11,.c (.d (.int .i64 0)))::(10,.c (.d (.sl false 4 (m.imps.map Imp.enc))))::rchT p to p.mods.length nn i) [zky s0])
  (hQ:∀T,Abs.look T 9=.c (.d (.int .i64 i))->Abs.look T 8=.c (.d (.int .i64 nn))->Abs.look T 7=.c (.msl 1 0 0 p.mods.length)->Abs.look T 3=.c (.d (.rp p.enc 0))->Abs.look T 2=.c (.d (.int .i64 to))->Q (.exit 4) ⟨T,hpOf [zky F0],1⟩):lw_ Pg c zfn Q g S:=by
 have hmi:=hm.imps
 have h16:=hp'.1
 have hnn:=hp'.2.1
 refine fK zaa hp (fun y:Nat × List Bool=>y.1<=m.imps.length/\y.2.length=p.mods.length/\(if y.2.getD i false=true then zgZ p.names (m.imps.drop y.1) y.2 else y.2)=F0) (fun y=>(11,.c (.d (.int .i64 y.1)))::(10,.c (.d (.sl false 4 (m.imps.map Imp.enc))))::rchT p to p.mods.length nn i) (fun y=>[zky y.2]) (fun y=>m.imps.length-y.1) (0,s0) ms ⟨by simp,hs0,by simpa using hF⟩ h0 fun⟨k,s⟩ ⟨i1,i2,i3⟩=>?_
 unfold zfn
 simp only at i1 i2 i3
 have his:i<s.length:=by omega
 have hgi:s.getD i false=s[i]:=by rw[aH,aA his];try rfl
 simp
 apply gI<;>intro h
 ·have hk:k<m.imps.length:=by simpa using h
  obtain⟨x,hx⟩:∃x,m.imps[k]=x:=⟨_,rfl⟩
  have hw:=wI (n:=(k:Int)+1)
  by_cases b:s.getD i false=true
  ·rw[aC b,aG hk,hx,zgZ]at i3
   have b':s[i]=true:=by rw[<-hgi];exact b
   have hml:=znO p.names x.from_
   have hmk:=zhj p.names x.from_
   generalize modZ p.names x.from_=z at*
   simp[his,hi,b',hk,hx]
   refine gN hmk ?_
   by_cases z0:0<=z
   ·rw[aC z0]at i3
    obtain⟨zn,rfl⟩:∃zn:Nat,z=zn:=⟨z.toNat,by omega⟩
    have hzn:zn<p.mods.length:=by omega
    have hzs:zn<s.length:=by omega
    simp only[az]at i3
    simp[hzn,hzs,zrN]
    refine⟨by decide,?_⟩
    refine fD (k+1,s.set zn true) [0] ⟨by simp only;omega,by simpa using i2,by simp only;rw[aC (zB7 b)];exact i3⟩ (by simp only;omega) ?_
    simp[hw]
   ·rw[aB z0]at i3
    simp[z0]
    refine⟨by decide,?_⟩
    refine fD (k+1,s) [0] ⟨by simp only;omega,i2,by simp only;rw[aC b];exact i3⟩ (by simp only;omega) ?_
    simp[hw]
  ·rw[aB b]at i3
   subst i3
   have b':s[i]=false:=by rw[hgi]at b;simpa using b
   simp[his,hi,b']
   exact hQ _ (by simp) (by simp) (by simp) (by simp) (by simp)
 ·have hk:k=m.imps.length:=by simp at h;omega
  subst hk
  rw[aO,zgZ,ite_self]at i3
  subst i3
  simp
  exact hQ _ (by simp) (by simp) (by simp) (by simp) (by simp)
def zzQ{c:Ctx}(hp:c.pure)(p:Lnk)(hp':zgq p)(to nn:Nat)(s0:List Bool)(hs0:s0.length=p.mods.length)(F0:List Bool)(hF:zhT p.names p.mods 0 s0=F0){Q:Exit->St->Prop}{S:St}{g}{ms:List Nat}
  (h0:Match ms S (rchT p to p.mods.length nn 0) [zky s0])
  (hQ:∀T,Abs.look T 8=.c (.d (.int .i64 nn))->Abs.look T 7=.c (.msl 1 0 0 p.mods.length)->Abs.look T 3=.c (.d (.rp p.enc 0))->Abs.look T 2=.c (.d (.int .i64 to))->Q (.exit 2) ⟨T,hpOf [zky F0],1⟩):lw_ Pg c zfo Q g S:=by
 have h16:=hp'.1
 refine fK zaa hp (fun y:Nat × List Bool=>y.1<=p.mods.length/\y.2.length=p.mods.length/\zhT p.names (p.mods.drop y.1) y.1 y.2=F0) (fun y=>rchT p to p.mods.length nn y.1) (fun y=>[zky y.2]) (fun y=>p.mods.length-y.1) (0,s0) ms ⟨by simp,hs0,by simpa using hF⟩ h0 fun⟨i,s⟩ ⟨i1,i2,i3⟩=>?_
 unfold zfo
 simp only at i1 i2 i3
 simp
 apply gI<;>intro h
 ·have hi:i<p.mods.length:=by simpa using h
  obtain⟨m,hm⟩:∃m,p.mods[i]=m:=⟨_,rfl⟩
  have hsm:=hp'.2.2 m (by rw[<-hm];exact aS hi)
  rw[aG hi,hm,zhT]at i3
  have hw:=wI (n:=(i:Int)+1)
  have hle:(if s.getD i false=true then zgZ p.names m.imps s else s).length=p.mods.length:=by
   split
   ·rw[zl4,i2]
   ·exact i2
  simp[hi,hm]
  refine zzP hp p hp' to nn i hi m hsm s i2 _ rfl (ms:=[0]) (by simp) fun T t9 t8 t7 t3 t2=>?_
  generalize (if s.getD i false=true then zgZ p.names m.imps s else s)=s2 at*
  simp[t9]
  refine fD (i+1,s2) [0] ⟨by simp only;omega,hle,i3⟩ (by simp only;omega) ?_
  simp[t9,t8,t7,t3,t2,hw]
 ·have hi:i=p.mods.length:=by simp at h;omega
  subst hi
  rw[aO,zhT]at i3
  subst i3
  exact hQ _ (by simp) (by simp) (by simp) (by simp)
def zya(p:Lnk)(hp':zgq p)(f t:Nat)(hf:f<p.mods.length)(ht:t<p.mods.length):PCall Pg 49 [.agg p.enc,.one (.int .i64 f),.one (.int .i64 t)] (.one (.bool (zgN p.names p.mods f t))):=by
 refine zs8 (by simp) fun o c hN hp=>?_
 obtain⟨R,hR⟩:∃R,zgN p.names p.mods f t=R:=⟨_,rfl⟩
 rw[hR]
 unfold zgN at hR
 have h16:=hp'.1
 have hrep:∀n:Nat,(List.replicate n [D.bool false]).map (fun x=>x.map AC.d)=(zdh (List.replicate n false)).map (fun x=>x.map AC.d):=fun n=>by simp[zdh]
 obtain⟨s0,hs⟩:∃s0,(List.replicate p.mods.length false).set f true=s0:=⟨_,rfl⟩
 have hs0:s0.length=p.mods.length:=by rw[<-hs];simp
 rw[hs]at hR
 unfold zjK
 simp[hf]
 refine⟨by omega,?_⟩
 have e0:(List.replicate p.mods.length [AC.d (D.bool false)]).set f [AC.d (D.bool true)]=(zdh s0).map fun x=>x.map AC.d:=by
  rw[<-hs,<-zrN]
  simp[zdh]
 rw[e0]
 refine fK zaa hp (fun y:Nat × List Bool=>y.1<=p.mods.length/\y.2.length=p.mods.length/\(zqV p.names p.mods (p.mods.length-y.1) y.2).getD t false=R) (fun y=>[(8,.c (.d (.int .i64 y.1))),(7,.c (.msl 1 0 0 p.mods.length)),(3,.c (.d (.rp p.enc 0))),(2,.c (.d (.int .i64 t)))]) (fun y=>[zky y.2]) (fun y=>p.mods.length-y.1) (0,s0) [0] ⟨by simp,hs0,hR⟩ (by simp) fun⟨nn,s⟩ ⟨i1,i2,i3⟩=>?_
 unfold zid
 simp only at i1 i2 i3
 simp
 apply gI<;>intro h
 ·have hn:nn<p.mods.length:=by simpa using h
  rw[show p.mods.length-nn=(p.mods.length-(nn+1))+1 by omega,zqV]at i3
  have hw:=wI (n:=(nn:Int)+1)
  refine zzQ hp p hp' t nn s i2 _ rfl (ms:=[0]) (by simp) fun T t8 t7 t3 t2=>?_
  have hl:=zrO p.names p.mods 0 s
  generalize zhT p.names p.mods 0 s=s2 at*
  simp[t8]
  refine fD (nn+1,s2) [0] ⟨by simp only;omega,by simp only;omega,i3⟩ (by simp only;omega) ?_
  simp[t8,t7,t3,t2,hw]
 ·have hn:nn=p.mods.length:=by simp at h;omega
  subst hn
  rw[Nat.sub_self,zqV,aH,aA (by omega)]at i3
  have hts:t<s.length:=by omega
  simp at i3
  simp[ht,hts,i3]
def zpE(ns:List fC)(ms:List Mdl)(i:Nat):∀(l:List Imp) (bad:List Dia),(zfd ns ms i l bad).length<=bad.length+l.length
 |[],bad=>by simp[zfd]
 |x::l,bad=>by
  rw[zfd]
  have:=zpE ns ms i l (if 0<=modZ ns x.from_/\zgN ns ms (modZ ns x.from_).toNat i=true then bad++[⟨i,x.line,x.col,13⟩]else bad)
  refine ak this ?_
  split<;>simp<;>omega
abbrev thiT(p:Lnk)(i nb:Nat):List (Nat × AV):=[(4,.c (.d (.int .i64 i))),(3,.c (.msl 4 0 0 nb)),(1,.c (.d (.rp p.enc 0)))]
def zzR{c:Ctx}(hp:c.pure)(p:Lnk)(hp':zgq p)(i:Nat)(hi:i<p.mods.length)(m:Mdl)(hm:SmallM m)(b0:List Dia)(hb0:b0.length<=10000000)(F0:List Dia)(hF:zfd p.names p.mods i m.imps b0=F0){Q:Exit->St->Prop}{S:St}{g}{ms:List Nat}
  (h0:Match ms S ((6,.c (.d (.int .i64 0)))::(5,.c (.d (.sl false 4 (m.imps.map Imp.enc))))::thiT p i b0.length) [diaA b0])
  (hQ:∀T,Abs.look T 4=.c (.d (.int .i64 i))->Abs.look T 3=.c (.msl 4 0 0 F0.length)->Abs.look T 1=.c (.d (.rp p.enc 0))->Q (.exit 2) ⟨T,hpOf [diaA F0],1⟩):lw_ Pg c zgt Q g S:=by
 have hmi:=hm.imps
 have h16:=hp'.1
 have hnn:=hp'.2.1
 refine fK zaa hp (fun y:Nat × List Dia=>y.1<=m.imps.length/\y.2.length<=b0.length+y.1/\zfd p.names p.mods i (m.imps.drop y.1) y.2=F0) (fun y=>(6,.c (.d (.int .i64 y.1)))::(5,.c (.d (.sl false 4 (m.imps.map Imp.enc))))::thiT p i y.2.length) (fun y=>[diaA y.2]) (fun y=>m.imps.length-y.1) (0,b0) ms ⟨by simp,by simp,by simpa using hF⟩ h0 fun⟨k,bad⟩ ⟨i1,i2,i3⟩=>?_
 unfold zgt
 simp only at i1 i2 i3
 simp
 apply gI<;>intro h
 ·have hk:k<m.imps.length:=by simpa using h
  obtain⟨x,hx⟩:∃x,m.imps[k]=x:=⟨_,rfl⟩
  have hw:=wI (n:=(k:Int)+1)
  rw[aG hk,hx,zfd]at i3
  have hml:=znO p.names x.from_
  have hmk:=zhj p.names x.from_
  generalize modZ p.names x.from_=z at*
  simp[hk,hx]
  refine gN hmk ?_
  by_cases z0:0<=z
  ·obtain⟨zn,rfl⟩:∃zn:Nat,z=zn:=⟨z.toNat,by omega⟩
   simp only[az]at i3
   have hro:=zya p hp' zn i (by omega) hi
   obtain⟨r,hr⟩:∃r,zgN p.names p.mods zn i=r:=⟨_,rfl⟩
   simp only[hr]at i3 hro
   simp
   refine⟨by decide,?_⟩
   refine gN hro ?_
   cases r with
   |true=>
    rw[aC ⟨z0,rfl⟩]at i3
    simp[hk,hx]
    refine⟨by omega,by decide,?_⟩
    refine fD (k+1,bad++[⟨i,x.line,x.col,13⟩]) [1] ⟨by simp only;omega,by simp;omega,i3⟩ (by simp only;omega) ?_
    simp[hw,Dia.enc]
    exact zaN _ _
   |false=>
    rw[aB (fun q=>by cases q.2)]at i3
    simp
    refine fD (k+1,bad) [0] ⟨by simp only;omega,by simp only;omega,i3⟩ (by simp only;omega) ?_
    simp[hw]
  ·rw[aB (fun q=>z0 q.1)]at i3
   simp[z0]
   refine⟨by decide,?_⟩
   refine fD (k+1,bad) [0] ⟨by simp only;omega,by simp only;omega,i3⟩ (by simp only;omega) ?_
   simp[hw]
 ·have hk:k=m.imps.length:=by simp at h;omega
  subst hk
  rw[aO,zfd]at i3
  subst i3
  exact hQ _ (by simp) (by simp) (by simp)
def zB8(p:Lnk)(hp':zgq p):PCall Pg 30 [.agg p.enc] (.one (.sl false 4 ((zfe p.names p.mods p.mods 0 []).map Dia.enc))):=by
 refine zwk (by simp) fun o c hN hp=>?_
 obtain⟨R,hR⟩:∃R,zfe p.names p.mods p.mods 0 []=R:=⟨_,rfl⟩
 rw[hR]
 have h16:=hp'.1
 unfold zma
 simp
 refine fQ [.t 3] ?_
 simp
 refine fK zaa hp (fun y:Nat × List Dia=>y.1<=p.mods.length/\y.2.length<=y.1*10001/\zfe p.names p.mods (p.mods.drop y.1) y.1 y.2=R) (fun y=>thiT p y.1 y.2.length) (fun y=>[diaA y.2]) (fun y=>p.mods.length-y.1) (0,[]) [0] ⟨by simp,by simp,by simpa using hR⟩ (by simp) fun⟨i,bad⟩ ⟨i1,i2,i3⟩=>?_
 unfold zjL
 simp only at i1 i2 i3
 simp
 apply gI<;>intro h
 ·have hi:i<p.mods.length:=by simpa using h
  obtain⟨m,hm⟩:∃m,p.mods[i]=m:=⟨_,rfl⟩
  have hsm:=hp'.2.2 m (by rw[<-hm];exact aS hi)
  have hmi:=hsm.imps
  rw[aG hi,hm,zfe]at i3
  have hw:=wI (n:=(i:Int)+1)
  have htl:=zpE p.names p.mods i m.imps bad
  simp[hi,hm]
  refine zzR hp p hp' i hi m hsm bad (by omega) _ rfl (ms:=[0]) (by simp) fun T t4 t3 t1=>?_
  generalize zfd p.names p.mods i m.imps bad=b2 at*
  simp[t4]
  refine fD (i+1,b2) [0] ⟨by simp only;omega,by simp only;omega,i3⟩ (by simp only;omega) ?_
  simp[t4,t3,t1,hw]
 ·have hi:i=p.mods.length:=by simp at h;omega
  subst hi
  rw[aO,zfe]at i3
  subst i3
  simp[zaN]
def zpF(L:List Tok):∀(n:Nat) (l:List fC) (p:PS),(zcF L n l p).1.length<=l.length+n
 |0,l,p=>by simp[zcF]
 | n+1,l,p=>by
  rw[zcF]
  split
  ·have:=zpF L n (l++[(zaw L p).1]) (zad L (bs [44]) (zaw L p).2).2
   simp at this⊢;omega
  ·simp
def zrP(L:List Tok)(hL:L.length<=10000):∀(n:Nat) (l:List Imp) (p:PS),(∀x,x∈l->x.names.length<=10001)->(ze0 L n l p).1.length<=l.length+n/\∀x,x∈(ze0 L n l p).1->x.names.length<=10001
 |0,l,p,h=>by simp[ze0];exact h
 | n+1,l,p,h=>by
  rw[ze0]
  split
  ·simp only
   have hn:=zpF L (L.length+1) [] (zaA L (bs [58]) (zaw L (zad L zcZ p).2).2)
   have:=zrP L hL n (l++[⟨(zaw L (zad L zcZ p).2).1,(zcF L (L.length+1) [] (zaA L (bs [58]) (zaw L (zad L zcZ p).2).2)).1,(curT L p).line,(curT L p).col⟩]) (zaA L (bs [59]) (zcF L (L.length+1) [] (zaA L (bs [58]) (zaw L (zad L zcZ p).2).2)).2) (fun x hx=>by
    rcases aQ.1 hx with hx|hx
    ·exact h x hx
    ·simp at hx;subst hx;simp at hn⊢;omega)
   refine⟨?_,this.2⟩
   have h1:=this.1
   simp at h1⊢;omega
  ·exact⟨by simp,h⟩
def zrQ(L:List Tok):∀(n:Nat) (l:List Dec) (p:PS),(zcC L n l p).1.length<=l.length+n
 |0,l,p=>by simp[zcC]
 | n+1,l,p=>by
  rw[zcC]
  split
  ·have:=zrQ L n (l++[(decP L p).1]) (decP L p).2
   simp at this⊢;omega
  ·simp
def zwf(s:fC):SmallM (zbE s).1:=by
 have h0:SmallM noM:=⟨by simp[noM],by simp[noM],by simp[noM]⟩
 have hk:=znp (s:=s)
 unfold zbE
 simp only
 split
 ·exact h0
 split
 ·exact h0
 ·rename_i h1 h2
  obtain⟨hL,hl⟩:=hk (by simpa using h1)
  unfold zfL
  simp only
  generalize (lexP s).1=L at*
  have a:=zrP L hl (L.length+1) [] ps0 (by simp)
  have b:=zrQ L (L.length+1) [] (ze0 L (L.length+1) [] ps0).2
  exact⟨by have:=a.1;simp at this;simp only;omega,a.2,by simp at b;simp only;omega⟩
def zl5:∀(l:List (fC × fC)) (i:Nat) (ns:List fC) (ms:List Mdl) (bad:List Dia),ns.length=ms.length->(∀m,m∈ms->SmallM m)->
  (zbQ l i ns ms bad).1.1.length=(zbQ l i ns ms bad).1.2.length/\(zbQ l i ns ms bad).1.2.length=ms.length+l.length/\∀m,m∈(zbQ l i ns ms bad).1.2->SmallM m
 |[],i,ns,ms,bad,h1,h2=>by rw[zbQ];exact⟨h1,by simp,h2⟩
 | s::l,i,ns,ms,bad,h1,h2=>by
  rw[zbQ]
  have:=zl5 l (i+1) (ns++[s.1]) (ms++[(zbE s.2).1]) (if zbg s.1=false then bad++[⟨i,1,1,10⟩]else if 0<=modZ ns s.1 then bad++[⟨i,1,1,8⟩]else if(zbE s.2).2.e≠0 then bad++[⟨i,(zbE s.2).2.line,(zbE s.2).2.col,(zbE s.2).2.e⟩]else bad) (by simp[h1]) (fun m hm=>by
   rcases aQ.1 hm with hm|hm
   ·exact h2 m hm
   ·simp at hm;subst hm;exact zwf _)
  refine⟨this.1,?_,this.2.2⟩
  have h3:=this.2.1
  simp at h3⊢;omega
def znT(l:List (fC × fC))(sc:List (List Ent)):zgq ⟨(zcE l).1.1,(zcE l).1.2,sc,noE⟩:=by
 unfold zcE
 split
 ·exact⟨by simp,rfl,by simp⟩
 ·have:=zl5 l 0 [] [] [] rfl (by simp)
  exact⟨by have:=this.2.1;simp at this;simp only;omega,this.1,this.2.2⟩
abbrev lnkV(r:Lnk × List Dia):DV:=.tup [.agg r.1.enc,.one (.sl false 4 (r.2.map Dia.enc))]
theorem zEh(x:List fC × List Mdl)(s:List (List Ent)):put ((lnk1 x).enc.map AC.d) 2 [.d (.sl false 1 (s.map scpE))]=(⟨x.1,x.2,s,noE⟩:Lnk).enc.map .d:=rfl
theorem zB9(a:List fC)(b:List Mdl)(s:List (List Ent))(n:fC)(m k:Int):splice ((⟨a,b,s,noE⟩:Lnk).enc.map AC.d) 3 [.d (.str n),.d (.int .i64 m),.d (.int .i64 k)]=(⟨a,b,s,⟨n,m,k⟩⟩:Lnk).enc.map .d:=rfl
theorem zzS(a:List fC)(b:List Mdl)(s:List (List Ent))(n:fC)(m k:Int):put ((⟨a,b,s,noE⟩:Lnk).enc.map AC.d) 3 [.d (.str n),.d (.int .i64 m),.d (.int .i64 k)]=(⟨a,b,s,⟨n,m,k⟩⟩:Lnk).enc.map .d:=rfl
attribute [simp] zEh zB9 zzS
theorem zhW:noL.enc=[.sl false 1 [],.sl false 2 [],.sl false 1 [],.str (bs []),.int .i64 0,.int .i64 0]:=rfl
def zEi(l:List (fC × fC)):PCall Pg 16 [.one (.sl false 2 (l.map srcE))] (lnkV (zgk l)):=by
 refine zyp (by simp) fun o c hN hp=>?_
 obtain⟨R,hR⟩:∃R,zgk l=R:=⟨_,rfl⟩
 rw[hR]
 unfold zgk at hR
 simp only at hR
 have hfs:=znT l
 have hf:=zDx l
 generalize zcE l=f at*
 unfold zoa
 simp
 refine gN hf ?_
 by_cases f0:0<f.2.length
 ·rw[aC f0]at hR
  subst hR
  simp[f0,zhW]
 rw[aB f0]at hR
 have hsec:PCall Pg 29 [.agg (lnk1 f.1).enc] (.tup [.one (.sl false 1 ((zcg f.1.1 f.1.2 f.1.2 0 [] []).1.map scpE)),.one (.sl false 4 ((zcg f.1.1 f.1.2 f.1.2 0 [] []).2.map Dia.enc))]):=zAT (lnk1 f.1) (hfs [])
 generalize zcg f.1.1 f.1.2 f.1.2 0 [] []=s at*
 simp[f0]
 refine gN hsec ?_
 by_cases s0:0<s.2.length
 ·rw[aC s0]at hR
  subst hR
  simp[s0,zhW]
 rw[aB s0]at hR
 have hthi:PCall Pg 30 [.agg (⟨f.1.1,f.1.2,s.1,noE⟩:Lnk).enc] (.one (.sl false 4 ((zfe f.1.1 f.1.2 f.1.2 0 []).map Dia.enc))):=zB8 ⟨f.1.1,f.1.2,s.1,noE⟩ (hfs s.1)
 generalize zfe f.1.1 f.1.2 f.1.2 0 []=t at*
 simp[s0]
 refine gN hthi ?_
 by_cases t0:0<t.length
 ·rw[aC t0]at hR
  subst hR
  simp[t0,zhW]
 rw[aB t0]at hR
 have hmk:=zhj f.1.1 zdW
 have hml:=znO f.1.1 zdW
 have hsm:=hfs s.1
 have hnn:f.1.1.length=f.1.2.length:=hsm.2.1
 generalize modZ f.1.1 zdW=z at*
 simp[t0]
 refine gN hmk ?_
 by_cases z0:z<0
 ·rw[aC z0]at hR
  subst hR
  simp[z0,zhW,Dia.enc]
 rw[aB z0]at hR
 obtain⟨g1,g2⟩:=getD_in f.1.2 noM (z:=z) (n:=f.1.1.length) (by rw[hnn]) (by omega) (by omega)
 generalize f.1.2.getD z.toNat noM=M at*
 have hM:=hsm.2.2 M g2
 have hMd:=hM.decs
 obtain⟨zn,rfl⟩:∃zn:Nat,z=zn:=⟨z.toNat,by omega⟩
 simp only[az]at g1
 have hdk:=zxU M zdW (by omega)
 have hdl:=zvX M zdW
 generalize zc7 M zdW=k at*
 simp[z0,g1]
 refine gN hdk ?_
 by_cases k0:k<0
 ·rw[aC k0]at hR
  subst hR
  simp[k0,zhW,Dia.enc]
 rw[aB k0]at hR
 obtain⟨g3,g4⟩:=getD_in M.decs zjs (z:=k) (n:=M.decs.length) rfl (by omega) (by omega)
 generalize M.decs.getD k.toNat zjs=d at*
 obtain⟨kn,rfl⟩:∃kn:Nat,k=kn:=⟨k.toNat,by omega⟩
 simp only[az]at g3
 by_cases v0:0<d.vars.length
 ·rw[aC v0]at hR
  subst hR
  simp[k0,g1,g3,v0,zhW,Dia.enc]
  decide
 ·rw[aB v0]at hR
  subst hR
  simp[k0,g1,g3,v0]
end Go.Gr
