/- Of ours. -/
import Derived.Test.YtlfjlokfciejnaaGreatJ23
set_option maxRecDepth 20000
set_option maxHeartbeats 4000000
set_option linter.unusedVariables false
set_option linter.unusedSectionVars false
set_option linter.unusedSimpArgs false
set_option linter.defProp false
set_option linter.unnecessarySimpa false
open List renaming length->lN
open Bool renaming true->tT,false->oK
open Option renaming some->sS,none->nN
namespace Go.Gr
open Go.Abs Go.Proofs List
variable {c:iN}{n:Int}{l:List Int}{x:Nat}
def hasB(a b:Int):Bool:=decide (0<=a)&&decide (a<b)
def wO{a b:Int}:hasB a b=tT↔0<=a/\a<b:=by simp[hasB]
def DN(a b:Int):h_ Pg 27 [.one (.int .i64 a),.one (.int .i64 b)] (.one (.bool (hasB a b))):=by
 unfold hasB;refine zHD oC λo c hN hp=>?_;simp[zvA];refine gM (λh=>?_) (λh=>?_)<;>simp_all<;>omega
def JD(i:Ins):Int:=if i.op<0\/33<=i.op\/i.op=23\/i.op=24\/i.op=25 then -1 else i.a
def zFH(i:Ins):h_ Pg 82 [.agg i.enc] (.one (.int .i64 (JD i))):=by
 refine zCW oC λo c hN hp=>?_;simp[zqv];have e:∀P:Prop,[Decidable P]->decide P= !true->¬P:=λP _ h=>uM h;repeat' (refine gM (λh=>?_) (λh=>?_))
 all_goals (simp only[bB,aI,bQ,Bool.not_false,Bool.not_true]at*)
 all_goals (unfold JD)
 all_goals (first|rw[aC oM]|rw[aB oM])
def yj(c:iN)(n:Int):Int:=if 0<=n then(match c.procs[n.toNat]? with|some p=>p.k_|none=> -1)else -1
def zrn(h:n<0\/lN c.procs<=n):yj c n= -1:=by
 unfold yj;split
 .rw[aR oM]
 .rfl
def Vd(c:iN)(n:Int):h_ Pg 126 [.agg c.enc,.one (.int .i64 n)] (.one (.int .i64 (yj c n))):=by
 refine zCU oC λo c' hN hp=>?_;simp[zqt];apply gM<;>intro h
 .simp at h;refine gM (λh'=>?_) (λh'=>?_)
  .simp at h';rw[zrn (.inr h')]
  .simp at h';have:n.toNat<lN c.procs:=oM;simp[aA this,yj,h]
 .simp at h;rw[zrn (.inl h)]
def fieldsOf(c:iN)(n:Int):Int:=if 0<=n then(match c.J_[n.toNat]? with|some p=>lN p|none=> -1)else -1
def zno(h:n<0\/lN c.J_<=n):fieldsOf c n= -1:=by
 unfold fieldsOf;split
 .rw[aR oM]
 .rfl
def zue(c:iN)(n:Int):h_ Pg 127 [.agg c.enc,.one (.int .i64 n)] (.one (.int .i64 (fieldsOf c n))):=by
 refine zyG oC λo c' hN hp=>?_;simp[znd];apply gM<;>intro h
 .simp at h;refine gM (λh'=>?_) (λh'=>?_)
  .simp at h';rw[zno (.inr h')]
  .simp at h';have:n.toNat<lN c.J_:=oM;simp[aA this,fieldsOf,h]
 .simp at h;rw[zno (.inl h)]
def vK(a:Int)(x:Nat):oW:=(range x).map λi:Nat=>IntKind.i64.wrap (a+(i:Int))
@[simp] theorem Ve(a:Int)(x:Nat):(vK a x).length=x:=by simp[vK]
@[simp] theorem zLF(a:Int):vK a 0=[]:=rfl
def zuf(a:Int)(x:Nat):vK a (x+1)=vK a x++[IntKind.i64.wrap (a+x)]:=by simp[vK,range_succ]
def zy3(l k:oW):encI (l++k)=encI l++encI k:=by simp[encI]
theorem zwb(n:Int):encI [n]=[[.int .i64 n]]:=rfl
def rowOf(a n:Int):oW:=if n<=256 then vK a n.toNat else []
def xm:Nat->AV
|0=>.c (.d (.sl tT 1 []))
|x+1=>.c (.x_ 1 0 0 (x+1))
@[simp] theorem zLG:xm 0=.c (.d (.sl tT 1 [])):=rfl
@[simp] theorem zug(x:Nat):xm (x+1)=.c (.x_ 1 0 0 (x+1)):=rfl
def tK(l:oW):oV:=match l with
|[]=>[]
|_=>[.arr 1 ((encI l).map (·.map .d))]
@[simp] theorem zLV:tK []=[]:=rfl
def EY{l:oW}(h:0<lN l):tK l=[.arr 1 ((encI l).map (·.map .d))]:=by
 cases l with
 |nil=>simp at h
 |cons=>rfl
def zuh(l:oW)(h:lN l=x):(tK l).all (λb=>b.tag !=0)=tT/\((tK l).all λb=>b.tag==2)=tT/\(xm x).lv (live (tK l))=tT/\((tK l).all λb=>b.lv (live (tK l)))=tT:=by
 cases l with
 |nil=>simp at h;subst h;simp
 |cons a l=>
  rw[EY oC];simp at h;subst h;simp[live]
def zIl{l:oW}(h:lN l=x){T:oZ}{n:Nat}:kD (xm x) (tK l) [] [xm x] ⟨T,r_ (tK l),n⟩:=by
 cases l with
 |nil=>simp at h;subst h;exact fJ [] []
 |cons a l=>
  simp at h;subst h;exact fK [0] [] (by simp[EY])
set_option maxHeartbeats 400000 in
def zzX(a n:Int):q_ Pg 128 [.c (.d (.int .i64 a)),.c (.d (.int .i64 n))] [] (xm (rowOf a n).length) (tK (rowOf a n)):=by
 have st:=zuh (rowOf a n) rfl;refine zCV ⟨oC,oC,oC,st.1,uM st.2.1,st.2.2.1,st.2.2.2⟩ λts _e ok hb c hN hp=>?_;have _e:ts=[]:=aW.1 _e;subst _e;simp[zte];refine fM gm hp (λx:Nat=>x=0\/(x<=n/\n<=256)) (λx=>[(6,.c (.d (.int .i64 x))),(5,xm x),(0,.c (.d (.int .i64 a))),(1,.c (.d (.int .i64 n)))]) (λx=>tK (vK a x)) (λx=>(n-x).toNat) 0 [] (.inl rfl) oC λx hx=>?_;simp[zoD];apply gM<;>intro h
 .simp at h;refine gM (λh'=>?_) (λh'=>?_)
  .simp at h';cases x with
   |zero=>
    simp;apply fE 1 [0] (.inr ⟨oM,h'⟩) oM;rw[EY oC,zug 0];simp[zuf,zwb];exact wI
   |succ x=>
    rw[EY oC];simp;refine⟨oM,fE (x+1+1) [1] (.inr ⟨oM,h'⟩) oM ?_⟩;rw[EY oC,zug (x+1)];simp[zuf a (x+1),zy3,zwb];rw[aD oC];exact⟨wI,rfl⟩
  .simp at h';have:x=0:=oM;subst this;simp[rowOf];rw[aB oM];exact fJ [] []
 .simp at h;have e:rowOf a n=vK a x:=by
   unfold rowOf;rcases hx with rfl|⟨h1,h2⟩
   .split
    .rw[show n.toNat=0 from by omega]
    .rfl
   .rw[aC h2,show n.toNat=x from by omega]
  rw[e,Ve a x];exact zIl (Ve a x)
def pY(c:iN)(i:Ins):oW:=
 if 0<=i.op/\i.op<11 then [i.b,i.c]
 else if i.op=15\/i.op=19\/i.op=21\/i.op=26\/i.op=29\/i.op=30\/i.op=31 then [i.b]
 else if i.op=20 then [i.a,i.b]
 else if i.op=22\/i.op=27\/i.op=28 then [i.b,i.c]
 else if i.op=23\/i.op=25 then [i.a]
 else if i.op=17 then rowOf i.c (yj c i.b)
 else if i.op=18 then rowOf i.c (fieldsOf c i.b)
 else []
def rH(c:iN)(i:Ins):AV:=if i.op=17\/i.op=18 then xm (pY c i).length else .c (.d (.sl tT 1 (encI (pY c i))))
def lu(c:iN)(i:Ins):oV:=if i.op=17\/i.op=18 then tK (pY c i)else []
def zFI(c:iN)(i:Ins):(lu c i).all (λb=>b.tag !=0)=tT/\((lu c i).all λb=>b.tag==2)=tT/\(rH c i).lv (live (lu c i))=tT/\((lu c i).all λb=>b.lv (live (lu c i)))=tT:=by
 unfold rH lu;split
 .exact zuh _ rfl
 .simp
def zFJ(c:iN)(i:Ins):q_ Pg 83 [.ag (c.enc.map .d),.ag (i.enc.map .d)] [] (rH c i) (lu c i):=by
 have st:=zFI c i;refine zzQ ⟨oC,oC,oC,st.1,uM st.2.1,st.2.2.1,st.2.2.2⟩ λts _e ok hb c' hN hp=>?_;have _e:ts=[]:=aW.1 _e;subst _e;clear st;simp[zqu];repeat' (refine gM (λh=>?_) (λh=>?_))
 all_goals (simp only[Bool.not_true,Bool.not_false,aI,bQ]at*)
 all_goals (first
  |(exfalso;omega)
  | (have e:pY c i=[i.b,i.c]:=by unfold pY;repeat (first|rw[aC oM]|rw[aB oM])
     unfold rH lu;rw[aB oM,aB oM,e];exact fK [] [] (by simp[encI]))
  | (have e:pY c i=[i.b]:=by unfold pY;repeat (first|rw[aC oM]|rw[aB oM])
     unfold rH lu;rw[aB oM,aB oM,e];exact fK [] [] (by simp[encI]))
  | (have e:pY c i=[i.a,i.b]:=by unfold pY;repeat (first|rw[aC oM]|rw[aB oM])
     unfold rH lu;rw[aB oM,aB oM,e];exact fK [] [] (by simp[encI]))
  | (have e:pY c i=[i.a]:=by unfold pY;repeat (first|rw[aC oM]|rw[aB oM])
     unfold rH lu;rw[aB oM,aB oM,e];exact fK [] [] (by simp[encI]))
  | (have e:pY c i=[]:=by unfold pY;repeat (first|rw[aC oM]|rw[aB oM])
     unfold rH lu;rw[aB oM,aB oM,e];exact fK [] [] (by simp[encI]))
  |skip)
 .have e:pY c i=rowOf i.c (yj c i.b):=by unfold pY;repeat (first|rw[aC oM]|rw[aB oM])
  have hm:=zzX i.c (yj c i.b);unfold rH lu;rw[aC oM,aC oM,e];apply gQ (Vd _ _);generalize rowOf i.c (yj c i.b)=L at hm⊢;generalize yj c i.b=q at hm⊢;simp;cases L with
  |nil=>
   apply gN [] hm;simp;exact⟨oD,fJ [] []⟩
  |cons a L=>
   apply gP [] hm (by simp[EY]);simp[EY];exact⟨oD,fJ [0] []⟩
 .have e:pY c i=rowOf i.c (fieldsOf c i.b):=by unfold pY;repeat (first|rw[aC oM]|rw[aB oM])
  have hm:=zzX i.c (fieldsOf c i.b);unfold rH lu;rw[aC oM,aC oM,e];apply gQ (zue _ _);generalize rowOf i.c (fieldsOf c i.b)=L at hm⊢;generalize fieldsOf c i.b=q at hm⊢;simp;cases L with
  |nil=>
   apply gN [] hm;simp;exact⟨oD,fJ [] []⟩
  |cons a L=>
   apply gP [] hm (by simp[EY]);simp[EY];exact⟨oD,fJ [0] []⟩
def zDc(c:iN)(i:Ins):(rH c i=.c (.d (.sl tT 1 (encI (pY c i))))/\lu c i=[])\/(0<(pY c i).length/\rH c i=.c (.x_ 1 0 0 (pY c i).length)/\lu c i=[.arr 1 ((encI (pY c i)).map (·.map .d))]):=by
 unfold rH lu;generalize pY c i=L;split
 .cases L with
  |nil=>exact .inl ⟨rfl,rfl⟩
  |cons a L=>exact .inr ⟨oC,rfl,rfl⟩
 .exact .inl ⟨rfl,rfl⟩
def Gy(c:iN)(p:jv)(i:Ins):Bool:=
 if i.op=11 then hasB i.b (lN c.ints)
 else if i.op=12 then hasB i.b (lN c.L?)
 else if i.op=13 then hasB i.b 2
 else if i.op=16 then decide (yj c i.b=0)
 else if i.op=17 then hasB i.b (lN c.procs)&&(hasB i.c (IntKind.i64.wrap (p.p_+1))&&decide (yj c i.b<=IntKind.i64.wrap (p.p_-i.c)))
 else if i.op=18 then hasB i.b (lN c.J_)&&(hasB i.c (IntKind.i64.wrap (p.p_+1))&&decide (fieldsOf c i.b<=IntKind.i64.wrap (p.p_-i.c)))
 else if i.op=19\/i.op=20 then hasB i.c (lN c.L?)
 else if i.op=21 then hasB i.c (lN c.cos)
 else if i.op=24\/i.op=25 then hasB i.b (lN p.code)
 else if i.op=26 then hasB i.c 6
 else hasB i.op 33
def zDd(c:iN)(p:jv)(i:Ins):h_ Pg 81 [.agg c.enc,.agg p.enc,.agg i.enc] (.one (.bool (Gy c p i))):=by
 refine zyH oC λo c' hN hp=>?_;simp[zne];repeat' (refine gM (λh=>?_) (λh=>?_))
 all_goals (simp only[Bool.not_true,Bool.not_false,aI,bQ]at*)
 all_goals (unfold Gy)
 all_goals (repeat (first|rw[aC oM]|rw[aB oM]))
 all_goals (first|done|skip)
 all_goals (try (apply gQ (DN _ _);simp;done))
 .apply gQ (Vd _ _);simp
 .apply gQ (DN _ _);generalize hasB i.b _=b1;simp;apply gM<;>intro h1
  .apply gQ (DN _ _);generalize hasB i.c _=b2;simp;apply gM<;>intro h2
   .apply gQ (Vd _ _);simp;exact⟨oD,by simp[h1,h2]⟩
   .simp at h2;exact⟨oD,by simp[h1,h2]⟩
  .simp at h1;exact⟨oD,by simp[h1]⟩
 .apply gQ (DN _ _);generalize hasB i.b _=b1;simp;apply gM<;>intro h1
  .apply gQ (DN _ _);generalize hasB i.c _=b2;simp;apply gM<;>intro h2
   .apply gQ (zue _ _);simp;exact⟨oD,by simp[h1,h2]⟩
   .simp at h2;exact⟨oD,by simp[h1,h2]⟩
  .simp at h1;exact⟨oD,by simp[h1]⟩
def zDg(a n:Int):(rowOf a n).length<=256:=by
 unfold rowOf;split
 .rw[Ve];omega
 .simp
def zDh(c:iN)(i:Ins):(pY c i).length<=256:=by
 unfold pY;repeat' split
 all_goals first|exact zDg _ _|simp
def writes(i:Ins):Bool:=decide (i.op≠23/\i.op≠24/\i.op≠25)
def JE(c:iN)(i:Ins):oW:=pY c i++(if writes i=tT then [JD i]else [])
def zDi{c:iN}{p:jv}{i:Ins}(h1:Gy c p i=tT)(h2:∀r,r∈JE c i->hasB r p.p_=tT):h_ Pg 50 [.agg c.enc,.agg p.enc,.agg i.enc] (.one (.bool tT)):=by
 refine zzR oC λo c' hN hp=>?_;have hco:=zDd c p i;rw[h1]at hco;unfold zoE;simp;refine gQ hco ?_;simp;refine gQ (zFH i) ?_;simp;have hm:=zFJ c i;have hlen:=zDh c i;have hw:((i.op=23\/i.op=24\/i.op=25)/\writes i=oK)\/((i.op≠23/\i.op≠24/\i.op≠25)/\writes i=tT):=by
  unfold writes;by_cases h1:i.op=23<;>by_cases h2:i.op=24<;>by_cases h3:i.op=25<;>simp_all
 unfold JE at h2;rcases zDc c i with⟨e1,e2⟩|⟨h0,e1,e2⟩
 .rw [e1,e2]at hm;generalize pY c i=l at*
  generalize JD i=s at*
  rcases hw with⟨w,w'⟩|⟨⟨w1,w2,w3⟩,w'⟩
  .rw[w']at h2;rcases w with w|w|w
   all_goals
    simp[w];refine gN [] hm ?_;simp[w];refine fO gm hp Au [11] (λj:Nat=>j<=lN l) (λj=>[.c (.d (.int .i64 j))]) (λ_=>[]) (λj=>lN l-j) 0 [] oC (by simp[Au]) λj g1=>?_;unfold Kg Au;simp;apply gM<;>intro h
    .simp at h;have hj:j<lN l:=oM;have hb:=DN l[j] p.p_;rw[h2 _ oC]at hb;simp[aA hj];refine gQ hb ?_;simp;exact⟨oD,fE (j+1) [] oM oM (by simp;exact wI)⟩
    .simp
  .rw[w',aC rfl]at h2;let⟨q,hq⟩:∃q,q=l++[s]:=⟨_,rfl⟩
   rw[<-hq]at h2;simp[w1,w2,w3];refine gN [] hm ?_;have hql:lN q<=1000:=by rw[hq];simp;omega
   cases l
   all_goals
    first|(rename_i x l;simp[w3,show encI (x::l)=[.int .i64 x]::encI l from rfl];refine⟨by simp at hlen⊢;omega,?_⟩)|simp[w3,show encI ([]:oW)=[]from rfl]
    refine fO gm hp Au [11,10] (λj:Nat=>j<=lN q) (λj=>[.c (.d (.int .i64 j)),.c (.x_ 1 0 0 (lN q))]) (λ_=>[.arr 1 ((encI q).map (·.map .d))]) (λj=>lN q-j) 0 [0] oC (by subst hq;simp[Au,encI,aD]) λj g1=>?_;unfold Kg Au;simp;apply gM<;>intro h
    .simp at h;have hj:j<lN q:=oM;have hb:=DN q[j] p.p_;rw[h2 _ oC]at hb;simp[aA hj];refine⟨hj,?_⟩;refine gQ hb ?_;simp;exact⟨oD,fE (j+1) [0] oM oM (by simp;exact wI)⟩
    .simp
 .rw [e1,e2]at hm;generalize pY c i=l at*
  generalize JD i=s at*
  let⟨q,hq⟩:∃q,q=l++(if writes i=tT then [s]else []):=⟨_,rfl⟩
  rw[<-hq]at h2;have hql:lN q<=1000:=by rw[hq];simp;split<;>simp<;>omega
  rcases hw with⟨w,w'⟩|⟨⟨w1,w2,w3⟩,w'⟩
  .rw[w']at hq;simp at hq;subst hq;rcases w with w|w|w
   all_goals
    simp[w];refine gN [] hm ?_;simp[w];refine fO gm hp Au [11,10] (λj:Nat=>j<=lN q) (λj=>[.c (.d (.int .i64 j)),.c (.x_ 1 0 0 (lN q))]) (λ_=>[.arr 1 ((encI q).map (·.map .d))]) (λj=>lN q-j) 0 [0] oC (by simp[Au,encI,aD]) λj g1=>?_;unfold Kg Au;simp;apply gM<;>intro h
    .simp at h;have hj:j<lN q:=oM;have hb:=DN q[j] p.p_;rw[h2 _ oC]at hb;simp[aA hj];refine⟨hj,?_⟩;refine gQ hb ?_;simp;exact⟨oD,fE (j+1) [0] oM oM (by simp;exact wI)⟩
    .simp
  .rw[w',aC rfl]at hq;simp[w1,w2,w3];refine gN [] hm ?_;simp[w3];refine jV ?_;refine fO gm hp Au [11,10] (λj:Nat=>j<=lN q) (λj=>[.c (.d (.int .i64 j)),.c (.x_ 1 0 0 (lN q))]) (λ_=>[.arr 1 ((encI q).map (·.map .d))]) (λj=>lN q-j) 0 [1] oC (by subst hq;simp[Au,encI,aD]) λj g1=>?_;unfold Kg Au;simp;apply gM<;>intro h
   .simp at h;have hj:j<lN q:=oM;have hb:=DN q[j] p.p_;rw[h2 _ oC]at hb;simp[aA hj];refine⟨hj,?_⟩;refine gQ hb ?_;simp;exact⟨oD,fE (j+1) [0] oM oM (by simp;exact wI)⟩
   .simp
structure Gz (c:iN) (p:jv):Prop where
 k_:0<=p.k_/\p.k_<p.p_/\p.p_<=256
 few:0<lN p.code/\lN p.code<=65536
 last:∀h:lN p.code-1<lN p.code,p.code[lN p.code-1].op=23
 ins:∀x,x∈p.code->Gy c p x=tT/\∀r,r∈JE c x->hasB r p.p_=tT
def zHC{p:jv}(h:Gz c p):h_ Pg 28 [.agg c.enc,.agg p.enc] (.one (.bool tT)):=by
 refine zCX oC λo c' hN hp=>?_;let⟨h1,h2,h3,h4⟩:=h;have hw:IntKind.i64.wrap ((lN p.code:Int)-1)=((lN p.code-1:Nat):Int):=by
  rw[wI];omega
 have hj:lN p.code-1<lN p.code:=oM;have h3:=h3 hj;simp[zqw];rw[hw];repeat' (refine gM (λh=>?_) (λh=>?_))
 all_goals (simp only[Bool.not_true,Bool.not_false,aI,bQ]at*)
 all_goals (try (exfalso;omega))
 simp[aA hj,h3];refine fO gm hp TQ [7] (λj:Nat=>j<=lN p.code) (λj=>[.c (.d (.int .i64 j))]) (λ_=>[]) (λj=>lN p.code-j) 0 [] oC (by simp[TQ]) λj g1=>?_;simp[znf,TQ];apply gM<;>intro h
 .simp at h;have hj:j<lN p.code:=oM;have hi:=h4 _ (aO hj);simp[aA hj];apply gQ (zDi hi.1 hi.2);simp;exact⟨oD,fE (j+1) [] oM oM (by simp;exact wI)⟩
 .simp
structure HY (c:iN):Prop where
 few:lN c.procs<=4096
 main:0<=c.main/\c.main<lN c.procs
 own:∀h:c.main.toNat<lN c.procs,c.procs[c.main.toNat].k_=0
 prc:∀p,p∈c.procs->Gz c p
 cos:∀d,d∈c.cos->i? d=tT
 rise:∀ns,ns∈c.J_->ns.Pairwise W?
def zyF:∀{l:List (List fD)},D.okE 1 (l.map λx=>[.sl oK 1 (encS x)])->∀x,x∈l->lN x<=zaf
|[],_,x,h=>by cases h
|y::l,o,x,h=>by
 simp only[map_cons,D.okE,D.okL,D.ok]at o;rcases aM.1 h with rfl|h
 .simpa using o.1.2.1.1
 .exact zyF o.2 x h
def zCT(h:HY c):h_ Pg 13 [.agg c.enc] (.one (.bool tT)):=by
 refine zyI oC λo c' hN hp=>?_;have hl:lN c.cos<=zaf/\lN c.J_<=zaf/\∀x,x∈c.J_->lN x<=zaf:=by
  have:=o.1;simp only[DV.ok,iN.enc,D.okL,D.ok]at this;exact⟨uM this.2.2.2.1.1,uM this.2.2.1.1,zyF this.2.2.1.2⟩
 unfold zaf at hl;let⟨hl2,hl3,hl4⟩:=hl;let⟨k1,k2,k3,k4,k5,k6⟩:=h;have hmm:c.main.toNat<lN c.procs:=oM;have k3:=k3 hmm;have hin:=DN c.main (lN c.procs);rw[wO.2 k2]at hin;have hbig:¬4096<(lN c.procs:Int):=oM;simp[zng];apply gQ hin;simp[hbig,aA hmm,k3];refine⟨k2.1,?_⟩;refine fO gm hp TR [4] (λj:Nat=>j<=lN c.procs) (λj=>[.c (.d (.int .i64 j))]) (λ_=>[]) (λj=>lN c.procs-j) 0 [] oC (by simp[TR]) λj g1=>?_;unfold zj7 TR;try simp
 apply gM<;>intro h
 .simp at h;have hj:j<lN c.procs:=oM;have hc:=(k4 _ (aO hj)).k_;have hc1:decide (0<=c.procs[j].k_)=tT:=by simp;omega
  have hc2:decide (c.procs[j].k_<256)=tT:=by simp;omega
  simp[aA hj,hc1,hc2];exact fE (j+1) [] oM oM (by simp;exact wI)
 try simp
 refine fO gm hp TS [6] (λj:Nat=>j<=lN c.procs) (λj=>[.c (.d (.int .i64 j))]) (λ_=>[]) (λj=>lN c.procs-j) 0 [] oC (by simp[TS]) λj g1=>?_;unfold zj8 TS;try simp
 apply gM<;>intro h
 .simp at h;have hj:j<lN c.procs:=oM;simp[aA hj];apply gQ (zHC (k4 _ (aO hj)));simp;exact⟨oD,fE (j+1) [] oM oM (by simp;exact wI)⟩
 try simp
 refine fO gm hp TU [8] (λj:Nat=>j<=lN c.cos) (λj=>[.c (.d (.int .i64 j))]) (λ_=>[]) (λj=>lN c.cos-j) 0 [] oC (by simp[TU]) λj g1=>?_;unfold zj9 TU;try simp
 apply gM<;>intro h
 .simp at h;have hj:j<lN c.cos:=oM;have hm:=Ns c.cos[j];rw[k5 _ (aO hj)]at hm;simp[aA hj];apply gQ hm;simp;exact fE (j+1) [] oM oM (by simp;exact wI)
 try simp
 refine fO gm hp TW [10] (λj:Nat=>j<=lN c.J_) (λj=>[.c (.d (.int .i64 j))]) (λ_=>[]) (λj=>lN c.J_-j) 0 [] oC (by simp[TW]) λj g1=>?_;unfold zkb TW;try simp
 apply gM<;>intro h
 .simp at h;have hj:j<lN c.J_:=oM;have hn:=hl4 _ (aO hj);have hr:=k6 _ (aO hj);let⟨L,hL⟩:∃L,L=c.J_[j]:=⟨_,rfl⟩
  rw[<-hL]at hn hr;refine fO gm hp TV [11] (λi:Nat=>True) (λi=>[.c (.d (.int .i64 (i+1:Nat)))]) (λ_=>[]) (λi=>lN L-i) 0 [] trivial (by simp[TV]) λi f2=>?_;unfold zka TV;simp[aA hj,<-hL];apply gM<;>intro h
  .simp at h;have hi:i+1<lN L:=oM;have hi':i<lN L:=oM;have hw:IntKind.i64.wrap (i:Int)=i:=wI;have _k:W? L[i] L[i+1]:=dL.1 hr i (i+1) hi' hi oM;have hle:(Op.bytesLess L[i+1].data.toList L[i].data.toList||decide (L[i+1]=L[i]))=oK:=by
    have:=zEI L[i] L[i+1];rw[bS _k]at this;unfold EG at this;simpa using this
   simp[hw,aA hi,aA hi',hle];refine⟨oM,oD,?_⟩;exact fE (i+1) [] trivial oM (by simp;rw[wI])
  .exact fE (j+1) [] oM oM (by simp;exact wI)
 .simp
def row_in{a n p_:Int}(h0:0<=a)(h1:0<=n)(h2:a+n<=p_)(h3:p_<=256):∀r,r∈rowOf a n->hasB r p_=tT:=λr hr=>by
 unfold rowOf at hr;split at hr
 .unfold vK at hr;obtain⟨i,hi,rfl⟩:=af.1 hr;rw[mem_range]at hi;rw[wI];exact wO.2 ⟨oM,oM⟩
 .cases hr
section
variable {l:List B?} {R:iT} {main:Int} {merge:Bool} (hl:∀f,f∈l->nX l True f) (hlen:R.procs.length=l.length) (hP:∀(j:Nat) (f:B?) (p:jv),l[j]?=some f->R.procs[j]?=some p->rz l True R f p)
include hlen hP
def zwX{n:Int}{f:B?}(h0:0<=n)(hf:l[n.toNat]?=sS f):n<lN R.procs/\yj (kw R main merge).1 n=f.k_:=by
 have h1:n.toNat<lN l:=(List.getElem?_eq_some_iff.1 hf).1;have h2:n.toNat<lN R.procs:=oM;have:=(hP _ _ _ hf (aA h2)).k_;refine jV ?_;unfold yj kw;simp only;rw[aC h0,aA h2];exact this
include hl
def zIC{p:jv}{k:Nat}{x:Ins}(hr:0<p.p_/\p.p_<=256)(h:ry l True 0 R p.p_ (lN p.code-1) k x)(hk:k+1<lN p.code):Gy (kw R main merge).1 p x=tT/\∀r,r∈JE (kw R main merge).1 x->hasB r p.p_=tT:=by
 let⟨o1,a1,b1,c1,k11,k12,k13,k16,k17,k18,kc,k21,k26,kj⟩:=h;have wr:IntKind.i64.wrap (p.p_+1)=p.p_+1:=wI;have hcp:∀f:B?,f∈l->0<=f.k_:=λf hf=>(hl f hf).2.2;have w17:x.op=17->0<=x.b/\x.b<lN R.procs/\0<=x.c/\0<=yj (kw R main merge).1 x.b/\x.c+yj (kw R main merge).1 x.b<=p.p_:=λh=>by
  let⟨e1,e2,f,e3,e4⟩:=k17 h;let⟨q1,q2⟩:=zwX (main:=main) (merge:=merge) hlen hP e1 e3;have:=hcp f (ah e3);rw[q2];exact⟨e1,q1,e2,this,oM⟩
 have w18:x.op=18->0<=x.b/\x.b<lN R.J_/\0<=x.c/\0<=fieldsOf (kw R main merge).1 x.b/\x.c+fieldsOf (kw R main merge).1 x.b<=p.p_:=λh=>by
  let⟨e1,e2,f,e3,e4⟩:=k18 h;have q1:x.b.toNat<lN R.J_:=(List.getElem?_eq_some_iff.1 e3).1;have q2:fieldsOf (kw R main merge).1 x.b=lN f:=by
   unfold fieldsOf kw;simp only;rw[aC e1,e3]
  rw[q2];exact⟨e1,oM,e2,oM,oM⟩
 refine⟨?_,λr hr'=>?_⟩
 .unfold Gy;repeat' split
  .exact wO.2 (k11 (by assumption))
  .exact wO.2 (k12 (by assumption))
  .exact wO.2 (k13 (by assumption))
  next h=>
   let⟨e1,f,e3,e4⟩:=k16 h;rw[(zwX (main:=main) (merge:=merge) hlen hP e1 e3).2,e4];try rfl
  next h=>
   let⟨e1,e2,e3,e4,e5⟩:=w17 h;rw[wr,wI (n:=p.p_-x.c)];simp only[aG,aI];exact⟨wO.2 ⟨e1,e2⟩,wO.2 ⟨e3,oM⟩,oM⟩
  next h=>
   let⟨e1,e2,e3,e4,e5⟩:=w18 h;rw[wr,wI (n:=p.p_-x.c)];simp only[aG,aI];exact⟨wO.2 ⟨e1,e2⟩,wO.2 ⟨e3,oM⟩,oM⟩
  .exact wO.2 (kc (by assumption))
  .exact wO.2 (k21 (by assumption)).2
  .have:=kj (by assumption);exact wO.2 ⟨oM,oM⟩
  .exact wO.2 (k26 (by assumption))
  .exact wO.2 ⟨o1.1,o1.2.1⟩
 .unfold JE at hr';rcases aL.1 hr' with hu|hs
  .unfold pY at hu;have two:∀a b:Int,r∈[a,b]->(0<=a/\a<p.p_)->(0<=b/\b<p.p_)->hasB r p.p_=tT:=λa b h ha hb=>by
    simp only[aM,bv,df]at h;rcases h with rfl|rfl
    .exact wO.2 ha
    .exact wO.2 hb
   have one:∀a:Int,r∈[a]->(0<=a/\a<p.p_)->hasB r p.p_=tT:=λa h ha=>by
    simp only[aM,bv,df]at h;subst h;exact wO.2 ha
   by_cases q1:0<=x.op/\x.op<11
   .rw[aC q1]at hu;exact two _ _ hu (b1 oM) (c1 oM)
   rw[aB q1]at hu;by_cases q2:x.op=15\/x.op=19\/x.op=21\/x.op=26\/x.op=29\/x.op=30\/x.op=31
   .rw[aC q2]at hu;exact one _ hu (b1 oM)
   rw[aB q2]at hu;by_cases q3:x.op=20
   .rw[aC q3]at hu;exact two _ _ hu (a1 oM) (b1 oM)
   rw[aB q3]at hu;by_cases q4:x.op=22\/x.op=27\/x.op=28
   .rw[aC q4]at hu;exact two _ _ hu (b1 oM) (c1 oM)
   rw[aB q4]at hu;by_cases q5:x.op=23\/x.op=25
   .rw[aC q5]at hu;exact one _ hu (a1 oM)
   rw[aB q5]at hu;by_cases q6:x.op=17
   .rw[aC q6]at hu;let⟨e1,e2,e3,e4,e5⟩:=w17 q6;exact row_in e3 e4 e5 hr.2 r hu
   rw[aB q6]at hu;by_cases q7:x.op=18
   .rw[aC q7]at hu;let⟨e1,e2,e3,e4,e5⟩:=w18 q7;exact row_in e3 e4 e5 hr.2 r hu
   rw[aB q7]at hu;cases hu
  .split at hs
   next hw=>
    unfold writes at hw;simp only[aI]at hw;simp only[aM,bv,df]at hs;subst hs;unfold JD;rw[aB oM];exact wO.2 (a1 hw.2.1)
   .cases hs
def zID{f:B?}{p:jv}(hf:0<=f.k_)(h:rz l True R f p):Gz (kw R main merge).1 p:=by
 have hc:=h.k_;have hr:=h.p_;have ht:=h.top;have hw:=h.few;let⟨xs,e1,e2⟩:=h.code;refine⟨⟨oM,oM,ht⟩,⟨by rw[e1];simp,hw⟩,λhn=>?_,λx hx=>?_⟩
 .rcases h.ins (aA hn)with⟨e,_⟩|⟨e,_⟩
  .rw[e]
  .omega
 .obtain⟨k,hk,rfl⟩:=bg hx;rcases h.ins (aA hk)with⟨e,_⟩|⟨e,hi⟩
  .rw[e];refine⟨by simp[Gy,hasB],λr hr'=>?_⟩;have:r=p.k_+1:=by simpa[JE,pY,writes]using hr'
   subst this;exact wO.2 ⟨oM,oM⟩
  .exact zIC hl hlen hP ⟨oM,ht⟩ hi e
def zIE(hG:GI R)(h4:lN l<=4096)(hm:0<=main/\∃f,l[main.toNat]?=sS f/\f.k_=0):HY (kw R main merge).1:=by
 let⟨m1,f,m2,m3⟩:=hm;have hml:main.toNat<lN l:=(List.getElem?_eq_some_iff.1 m2).1;refine⟨?_,⟨m1,?_⟩,λh=>?_,λp hp=>?_,hG.cos,hG.rise⟩
 .show lN R.procs<=_;omega
 .show main<lN R.procs;omega
 .have h':main.toNat<lN R.procs:=h;have:=(hP _ _ _ m2 (aA h')).k_;rw[m3]at this;exact this
 .have _C:p∈R.procs:=hp;obtain⟨k,hk,rfl⟩:=bg _C;have hkl:k<lN l:=oM;exact zID hl hlen hP (hl _ (aO hkl)).2.2 (hP k l[k] _ (aA hkl) (aA hk))
end
end Go.Gr
namespace Go.Gr
open Go.Abs Go.Proofs
variable {l:List (fD × fD)}
def MnL(L:f?):Prop:=0<=L.main.module/\0<=L.main.decl/\∃m d,L.u_[L.main.module.toNat]?=sS m/\m.T_[L.main.decl.toNat]?=sS d/\lN d.vars=0
def zGD{l:ow}(h:(vN l).2.length=0):(xO (vN l).1 (vN l).1.main.module (vN l).1.main.decl).vars.length=0:=by
 unfold vN at h⊢;simp only at h⊢;split at h
 .simp only at h;omega
 rename_i q1;rw[aB q1];split at h
 .simp only at h;omega
 rename_i q2;rw[aB q2];split at h
 .simp only at h;omega
 rename_i q3;rw[aB q3];split at h
 .simp at h
 rename_i q4;rw[aB q4];split at h
 .simp at h
 rename_i q5;rw[aB q5];split at h
 .simp at h
 rename_i q6;rw[aB q6];unfold xO;simp only;omega
def zD9{l:ow}(h:(vN l).2.length=0):MnL (vN l).1:=by
 have hG:=K7 l h;have hv:=zGD h;generalize (vN l).1=L at*
 let⟨mn,kn,M,a1,a2,a3,a4,_⟩:=Ib hG.good hG.main;refine⟨oM,oM,M,_,by rw[a1];simpa using a3,by rw[a2];simpa using a4,?_⟩;exact hv
def VM(s:CS):Prop:=0<=s.main/\s.main<lN s.n?
def Vf(L:f?)(i:Nat):∀(l:List P?) (k:Nat) (s:CS),(vE L i l k s).2.length=0->(VM s->VM (vE L i l k s).1)/\((i:Int)=L.main.module->∀(j:Nat) (d:P?),l[j]?=sS d->((k+j:Nat):Int)=L.main.decl->lN d.vars=0->VM (vE L i l k s).1)
|[],k,s,h=>by rw[vE];exact⟨id,λ_ j d e=>by simp at e⟩
| d ::l,k,s,h=>by
 rw[vE]at h⊢;split at h
 next q=>
  rw[aC q];have ih:=Vf L i l (k+1) s h;refine⟨ih.1,λhi j d' e hk hv=>?_⟩;cases j with
  |zero=>simp at e;subst e;omega
  |succ j=>exact ih.2 hi j d' (uM e) oM hv
 next q=>
  rw[aB q];simp only at h⊢;have ha:=zAn (l:=s.n?) (x:=⟨i,k,[]⟩);split at h
  .simp at h
  next q2=>
   rw[aB q2];have hx:=ha.2 (uM q2);have ih:=Vf L i l (k+1) _ h;refine⟨λhv=>ih.1 ?_,λhi j d' e hk hv=>?_⟩
   .unfold VM at hv⊢;simp only;split
    .exact hx
    .omega
   .cases j with
    |zero=>
     apply ih.1;unfold VM;simp only;rw[aC ⟨hi,uM hk⟩];exact hx
    |succ j=>exact ih.2 hi j d' (uM e) oM hv
def zsn(L:f?):∀(l:List X?) (i:Nat) (s:CS),(nE L l i s).2.length=0->(VM s->VM (nE L l i s).1)/\(∀(j:Nat) (m:X?),l[j]?=sS m->((i+j:Nat):Int)=L.main.module->∀(jd:Nat) (d:P?),m.T_[jd]?=sS d->(jd:Int)=L.main.decl->lN d.vars=0->VM (nE L l i s).1)
|[],i,s,h=>by rw[nE];exact⟨id,λj d e=>by simp at e⟩
| m::l,i,s,h=>by
 rw[nE]at h⊢;split at h
 .omega
 next q=>
  rw[aB q];have hd:=Vf L i m.T_ 0 s oM;have ih:=zsn L l (i+1) _ h;refine⟨λhv=>ih.1 (hd.1 hv),λj m' e hi jd d e2 hk hv=>?_⟩;cases j with
  |zero=>
   simp at e;subst e;exact ih.1 (hd.2 (uM hi) jd d e2 (uM hk) hv)
  |succ j=>exact ih.2 j m' (uM e) oM jd d e2 hk hv
def zvP{l:ow}(h:(uH l).2=tT):0<=(uH l).1.main/\(uH l).1.main<(uH l).1.v_.length:=by
 unfold uH at h⊢;split at h
 .cases h
 rename_i q1;rw[aB q1];simp only at h⊢;split at h
 .cases h
 rename_i q2;rw[aB q2];have hG:=K7 l oM;have hs:=zww l;have hM:=zD9 (l:=l) oM;generalize (vN l).1=L at*
 have h0:=NQ L.u_ 0 cs0 oC (Tj L);have hf0:(nE L L.u_ 0 cs0).1.v_=[]:=by rw[Ki];try rfl
 unfold Cm at h⊢;simp only at h⊢;by_cases q3:0<(nE L L.u_ 0 cs0).2.length
 .rw[aC q3]at h;simp at h;rw[h]at q3;simp at q3
 rw[aB q3]at h⊢;by_cases q4:0<(nG L 257 0 (nE L L.u_ 0 cs0).1).bad.length
 .rw[aC q4]at h;simp at h;rw[h]at q4;simp at q4
 rw[aB q4];have hk:=VC (M:=(nG L 257 0 (nE L L.u_ 0 cs0).1).sites.length) (G:=(nG L 257 0 (nE L L.u_ 0 cs0).1).n?.length) hG hs 257 0 _ oM h0;have hl:=hk.2.2 oM (by rw[hf0];rfl);have hf:=Ti hG 257 0 (nE L L.u_ 0 cs0).1 oM h0 (by rw[Ki];intro f hf;cases hf);let⟨m1,m2,m,d,e1,e2,e3⟩:=hM;have hv:=(zsn L L.u_ 0 cs0 oM).2 _ m e1 oM _ d e2 oM e3;unfold VM at hv;have:=hk.1.2;simp only;rw[hf.2.2];omega
end Go.Gr
namespace Go.Gr
open Go.Abs Go.Proofs List
variable {l:List B?}{main e:Int}{c:iN}
mutual
def zAs{all:List B?}{b:Prop}(h20:∀f,f∈all->f.k_<=20):∀c:n_,okF all b c->FH c
| .mk k n t is ns ts cs ks,h=>by
 rw[okF]at h;rw[FH];refine⟨λe=>?_,λe=>?_,zxt h20 ks h.2⟩
 .have:=h.1;unfold BF at this;subst e;simp at this;let⟨_,_,f,hf,hc⟩:=this;have:=h20 f (ah hf);omega
 .have:=h.1;unfold BF at this;subst e;simp at this;exact this.1
def zxt{all:List B?}{b:Prop}(h20:∀f,f∈all->f.k_<=20):∀l:List n_,jb all b l->lT l
|[],_=>by rw[lT];trivial
|c::l,h=>by
 rw[jb]at h;rw[lT];exact⟨zAs h20 c h.1,zxt h20 l h.2⟩
end
mutual
def zEb:∀c:n_,Q_ c<=wt c
|.mk k n t is ns ts cs ks=>by
 have:=zAt ks;rw[Q_,wt];omega
def zAt:∀l:List n_,B_ l<=kr l
|[]=>by simp[B_]
|c::l=>by
 have:=zEb c;have:=zAt l;rw[B_,kr];omega
end
def zEc(l:og):Prop:=lN l<=4096/\∀f,f∈l->Q_ f.body<=200/\f.k_<=20
def zEd{l:og}(H:∀f,f∈l->nX l True f){merge:Bool}(he:ji l main merge=(c,e))(h0:e≠0):c=yC/\e=19/\¬zEc l:=by
 unfold ji at he;split at he
 next q=>
  cases he;exact⟨rfl,rfl,λh=>by have:=h.1;omega⟩
 .cases e1:ll l G0 with
  |some R=>rw[e1]at he;cases he;exact absurd rfl h0
  |none=>
   rw[e1]at he;cases he;refine⟨rfl,rfl,λh=>?_⟩;let⟨R,hR⟩:=zyA (l:=l) (G:=G0) λf hf=>⟨zAs (λf hf=>(h.2 f hf).2) _ (H f hf).1,(H f hf).2.1,(H f hf).2.2,(h.2 f hf).2,(h.2 f hf).1⟩
   rw[hR]at e1;cases e1
def zGF{l:og}{f:B?}(h:f∈l):wt f.body<=ky l:=by
 induction l with
 |nil=>cases h
 | cons x l ih=>
  simp only[ky,map_cons,List.sum_cons]at ih⊢;rcases aM.1 h with rfl|h
  .omega
  .have:=ih h;omega
def zEe{l:og}(H:∀f,f∈l->nX l True f){merge:Bool}(he:ji l main merge=(c,e))(h0:e=0)(hm:0<=main/\∃f,l[main.toNat]?=sS f/\f.k_=0):HY c/\c.main=main/\c.merge=merge/\lN c.procs=lN l/\∀(j:Nat) (h1:j<lN c.procs) (h2:j<lN l),c.procs[j].k_=l[j].k_:=by
 let⟨R,h1,h2,h3,h4,h5,h6⟩:=V9 H h0 he;subst h3;have h5':lN R.procs=lN l:=h5;have h6':∀(j:Nat) (f:B?) (p:jv),l[j]?=sS f->R.procs[j]?=sS p->rz l True R f p:=h6;refine⟨zIE H h5' h6' h4 h2 hm,rfl,rfl,h5,λj g1 g2=>?_⟩;have g1':j<lN R.procs:=g1;exact(h6' j _ _ (aA g2) (aA g1')).k_
variable {F:List B?}
def BG(F:og)(i:Nat):Bool:=decide (lN F<=4096/\∀f,f∈F.take i->Q_ f.body<=200/\f.k_<=20)
def zLa(F:og):BG F 0=decide ((lN F:Int)<=4096):=by
 unfold BG;rw[dh,aI,aI];constructor
 .rintro⟨h,_⟩;omega
 .exactλh=>⟨oM,λf hf=>by cases hf⟩
def zGG{F:og}{i:Nat}(hi:i<lN F):BG F (i+1)=(BG F i&&(decide (((Q_ F[i].body:Nat):Int)<=200)&&decide (F[i].k_<=20))):=by
 unfold BG;rw[aN hi,dh,aG,aG,aI,aI,aI,aI];constructor
 .rintro⟨h1,h2⟩
  have:=h2 F[i] (bf _ (aK.2 rfl));exact⟨⟨h1,λf hf=>h2 f (bY _ hf)⟩,oM,this.2⟩
 .rintro⟨⟨h1,h2⟩,h3,h4⟩
  refine⟨h1,λf hf=>?_⟩;rcases aL.1 hf with hf|hf
  .exact h2 f hf
  .rw[aK.1 hf];exact⟨oM,h4⟩
def zIQ{F:og}(h:BG F (lN F)=tT):zEc F:=by
 unfold BG at h;rw[bJ,aI]at h;exact h
@[simp] theorem iN.get5(c:iN)(h:5<lN c.enc):c.enc[5]=.int .i64 c.main:=rfl
@[simp] theorem iN.get6(c:iN)(h:6<lN c.enc):c.enc[6]=.bool c.merge:=rfl
set_option maxHeartbeats 8000000 in
theorem EZ(l:ow)(trim:Bool):h_ Pg 3 [.one (.sl oK 2 (l.map jg)),.one (.bool trim)] (.one (.bool tT)):=by
 refine zss oC λo cx hN hp=>?_;have hpr:=Kc l;have hpk:=λh=>LK (l:=l) h;have hpm:=λh=>zvP (l:=l) h;generalize uH l=r at*
 let⟨p,ok⟩:=r;simp only at hpk hpm;unfold zi7;simp;refine gQ Oq ?_;simp;refine gQ hpr ?_;simp;by_cases hok:ok=tT;rotate_left
 .simp[hok]
 have h:=hpk hok;have hmn:=hpm hok;have F:=LW h trim;have hl:(t? trim p).length<=zaf:=by have:=F.len;unfold zaf;omega
 have hg:=VR hl (λh=>F.gh h) p.main trim;have hn:=Oi p h trim;have hc:=UC _ (JC h trim);have hm:(rC trim p).main=p.main:=rfl;have hown:=F.own p.main hmn.1 hmn.2;have hfn:=F.fns;have hlen:=F.len;have hcz:(t? trim p).length<=4096->∀f,f∈t? trim p->Q_ f.body<=900000000:=λh4 f hf=>by
  have:=(F.gen h4).1;have:=zGF hf;have:=zEb f.body;omega
 unfold t? at*
 have hcv:=λc e he h0=>zEe (c:=c) (e:=e) hfn (main:=p.main) (merge:=trim) he h0 ⟨hmn.1,hown⟩;have hmd:=λc e he h0=>zEd (c:=c) (e:=e) hfn (main:=p.main) (merge:=trim) he h0;generalize ji (Ct (rC trim p)) p.main trim=r at*
 let⟨c,e⟩:=r;have hcv:=hcv c e rfl;have hmd:=hmd c e rfl;generalize rC trim p=q at*
 generalize Ct q=fl at*
 clear hpk hpm;simp[hok];refine gQ hn ?_;simp;refine gQ hc ?_;simp[hm];refine gQ hg ?_;simp;refine fM gm hp (λi:Nat=>i<=lN fl) (λi=>[(13,.c (.d (.int .i64 i))),(12,.c (.d (.bool (BG fl i)))),(11,.c (.d (.int .i64 e))),(10,.c (.ptr 1 0)),(9,.c (.d (.sl oK 10 (fl.map B?.enc)))),(8,.c (.ptr 0 0)),(1,.c (.d (.bool trim)))]) (λ_=>[.box (q.enc.map .d),.box (c.enc.map .d)]) (λi=>lN fl-i) 0 [1,2] oC (by simp[zLa]) λi i1=>?_;unfold zhD;simp;apply gM<;>intro h
 .have hi:i<lN fl:=uM h;have hw:=wI (n:=(i:Int)+1);simp[hi];have hsc:=zGG hi;cases hsm:BG fl i with
  |false=>
   rw[hsm,Bool.false_and]at hsc;simp;refine fE (i+1) [0,1] oM oM ?_;simp[hsc,hw]
  | true=>
   rw[hsm,Bool.true_and]at hsc;simp;have h4:lN fl<=4096:=by unfold BG at hsm;rw[aI]at hsm;exact hsm.1
   have hz:=hcz h4 _ (aO hi);refine gQ (zAR _ fl[i].body (aJ _) oM) ?_;by_cases q2:((Q_ fl[i].body:Nat):Int)<=200
   .rw[bS q2,Bool.true_and]at hsc;simp[q2,hi];refine fE (i+1) [0,1] oM oM ?_;simp[hsc,hw]
   .rw[bL q2,Bool.false_and]at hsc;simp[q2];refine fE (i+1) [0,1] oM oM ?_;simp[hsc,hw]
 .simp at h;have hi:i=lN fl:=oM;subst hi;by_cases he:e=0
  .subst he;let⟨v1,v2,v3,v4,v5⟩:=hcv rfl;have v4':((lN c.procs:Nat):Int)=(lN fl:Nat):=oM;simp[v4',v2,hm,v3];refine fM gm hp (λi:Nat=>i<=lN fl) (λi=>[(14,.c (.d (.int .i64 i))),(10,.c (.ptr 0 0)),(9,.c (.d (.sl oK 10 (fl.map B?.enc))))]) (λ_=>[.box (c.enc.map .d)]) (λi=>lN fl-i) 0 [1] oC oC λi i1=>?_;unfold zhE;simp;apply gM<;>intro h
   .have hi:i<lN fl:=uM h;have hi2:i<lN c.procs:=oM;have hw:=wI (n:=(i:Int)+1);have hcaps:=v5 i hi2 hi;simp[hi,hi2,hcaps];refine oG ?_;refine fE (i+1) [0] oM oM ?_;simp[hw]
   .refine gQ (zCT v1) ?_;simp
  .let⟨v1,v2,v3⟩:=hmd he;have hsf:BG fl (lN fl)=oK:=by
    cases q3:BG fl (lN fl) with
    |false=>rfl
    |true=>exact absurd (zIQ q3) v3
   subst v1;subst v2;simp[hsf,yC]
end Go.Gr
