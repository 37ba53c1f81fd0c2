/- Texts of ours, joined and written short by a program of ours. -/
import Derived.Test.YtnbgmeamdkggeaaGreatDoorJ03
set_option maxRecDepth 20000
set_option maxHeartbeats 4000000
set_option linter.unusedVariables false
set_option linter.unusedSectionVars false
set_option linter.unusedSimpArgs false
set_option linter.defProp false
set_option linter.unnecessarySimpa false
namespace Go.Abs
variable [jQ]
def D5:D->Option Value
|.int k n=>some (.int k n)
|.bool b=>some (.bool b)
|.str s=>some (.string s)
|.sc v=>some v
|_=>none
def BZ:List D->Option (List Value)
|[]=>some []
|d::l=>match D5 d,BZ l with
 |some v,some vs=>some (v::vs)
 |_,_=>none
def Ba:D->Option (TypeId × Value)
|.ifc t true ds=>(BZ ds).map λvs=>(t,.agg vs.toArray)
|.ifc t false [d]=>(D5 d).map λv=>(t,v)
|_=>none
def RP{h:PH}{d:D}{v u:Value}(r:RepD h d v)(e:D5 d=some u):v=u:=by
 cases d<;>simp only[D5,aO]at e<;>first|(simp only[RepD]at r;subst e;first|exact r|exact r.1)|cases e
def RQ{h:PH}:∀{ds:List D} {vs us:List Value},RepL h ds vs->vs.length=ds.length->BZ ds=some us->vs=us
|[],[],us,_,_,e=>by simpa[BZ]using e
|[],_::_,us,_,l,e=>by simp at l
|_::_,[],us,_,l,e=>by simp at l
| d::ds,v::vs,us,r,l,e=>by
 simp only[RepL]at r;simp only[BZ]at e;split at e
 ·rename_i u us' e1 e2;simp only[aO]at e;subst e;rw[RP r.1.2 e1,RQ r.2 (by simpa using l) e2]
 ·cases e
def zfl{h:PH}{d:D}{v:Value}{u:TypeId × Value}(r:RepD h d v)(e:Ba d=some u):v=.iface u.1 u.2:=by
 cases d with
 | ifc t ag ds=>
  simp only[RepD]at r;obtain⟨vs,e1,e2,e3,e4⟩:=r;cases ag with
  |true=>
   simp only[Ba,aJ]at e;obtain⟨us,h1,rfl⟩:=e;rw[e1,RQ e4 e2 h1];rfl
  | false=>
   match ds,e3 rfl,e,e4,e2 with
   | [x],_,e,e4,e2=>
    simp only[Ba,aJ]at e;obtain⟨u',h1,rfl⟩:=e
    match vs,e2,e4,e1 with
    |[y],_,e4,e1=>
     simp only[RepL]at e4;rw[e1];simp only[List.headD_cons];rw[RP e4.1.2 h1];rfl
 |_=>cases e
def Aa(P:Program)(get:Nat->AV)(m:Hp)(n:Nat)(K:AV->List (Nat × Blk)->Nat->Prop)(Kp:Value->List (Nat × Blk)->Nat->Prop):mP->Prop
|.callX f xs=>vX P f (xs.map (X get)) m n (λv _ wr n'=>K v wr n')\/BQ P f (xs.map (X get)) m n Kp
|.calldX x xs=>match X get x with
 |.c (.d (.fn (.func f) caps))=>vX P f (xs.map (X get)++caps.map λc=>.c (.d c)) m n (λv _ wr n'=>K v wr n')\/BQ P f (xs.map (X get)++caps.map λc=>.c (.d c)) m n Kp
 |_=>False
| .panicX x=>match X get x with
 |.c (.d d)=>(match Ba d with
  |some u=>Kp (.iface u.1 u.2) [] n
  |none=>False)
 |_=>False
|op=>ev P get m n (λv _ wr n'=>K v wr n') op
def RU{ph:PH}{ρ:RM}:∀{ι:List AV} {us:List Value} {cs:List D} {ws:List Value},zad ph ρ ι us->ws.length=cs.length->RepL ph cs ws->zad ph ρ (ι++cs.map λc=>.c (.d c)) (us++ws)
| [],us,cs,ws,hu,hl,hr=>by
 simp only[zad]at hu;subst hu
 induction cs generalizing ws with
 |nil=>cases ws<;>simp_all[zad]
 | cons c cs ih=>
  cases ws with
  |nil=>simp at hl
  |cons w ws=>
   simp only[RepL]at hr;simp only[List.nil_append,List.map_cons,zad,RepV,RepC];exact⟨hr.1.2,by simpa using ih ws (by simpa using hl) hr.2⟩
|_::_,[],_,_,hu,_,_=>by simp[zad]at hu
|x::ι,u::us,cs,ws,hu,hl,hr=>by
 simp only[zad]at hu;simp only[List.cons_append,zad];exact⟨hu.1,RU hu.2 hl hr⟩
section
variable {P:Program} {get:Nat->AV} {m:Hp} {n:Nat}
def RV{K:AV->List (Nat × Blk)->Nat->Prop}{Kp:Value->List (Nat × Blk)->Nat->Prop}{mo:mP}{o:Oper}(hc:gY P mo o.op=true)(hK:Aa P get m n K Kp mo):
  (∃v rd wr n',gz P o get m rd wr v/\K v wr n')\/∃pv wr n',Hq P o get m wr pv/\Kp pv wr n':=by
 have base:ev P get m n (λv _ wr n'=>K v wr n') mo->(∃v rd wr n',gz P o get m rd wr v/\K v wr n')\/∃pv wr n',Hq P o get m wr pv/\Kp pv wr n':=λh=>by
  obtain⟨v,rd,wr,n',h1,h2⟩:=BV hc h;exact .inl ⟨v,rd,wr,n',h1,h2⟩
 cases mo with
 | callX f xs=>
  have hc':gY P (.callM f xs) o.op=true:=by
   cases ho:o.op<;>rw[ho]at hc<;>first|(simp[gY]at hc;done)|exact hc
  simp only[Aa]at hK;rcases hK with hK|hK
  ·obtain⟨v,rd,wr,n',h1,h2⟩:=BV (P:=P) (get:=get) (m:=m) (n:=n) (K:=λv _ wr n'=>K v wr n') (mo:=.callM f xs) hc' hK;exact .inl ⟨v,rd,wr,n',h1,h2⟩
  ·refine .inr ?_;cases ho:o.op<;>rw[ho]at hc<;>first|(simp[gY]at hc;done)|skip
   simp only[BQ]at hK;obtain⟨l,args,bs,pv,bs',hp,hnd,hln,hvs,hal,hlt,hat,hfr,hK⟩:=hK;refine⟨_,_,_,Qs hp hnd hln hal hlt hat hfr (λph ρ w a hg=>?_),hK⟩;simp only[gY,aC]at hc;obtain⟨c0,c1⟩:=hc;rename_i c;split at c0
   ·rename_i g hg';simp only[aV]at c0;subst c0;have rv:=Cx c1 (ph:=ph) (ρ:=ρ) (get:=get) (a:=a) λk hk=>hg k (by rw[ho];simp[Op.operands,Call.operands,hg'];simpa using hk);refine⟨_,hvs▸rv,?_⟩;unfold execOp;rw[ho];show fe P (do let d<-resolve a.eval c o.type;invoke d.target d.args) w _ w;unfold resolve;rw[hg'];refine(dx _).bind ?_;have e1:(c.args.toList.map a.eval).toArray=c.args.map a.eval:=by apply cu;simp
    rw[e1];simp only[invoke,dF,Array.append_empty];have:=DY (w:=w) (args:=c.args.map a.eval) hp.1;simpa using this
   ·cases c0
 | calldX x xs=>
  have hc':gY P (.calldM x xs) o.op=true:=by
   cases ho:o.op<;>rw[ho]at hc<;>first|(simp[gY]at hc;done)|exact hc
  simp only[Aa]at hK;split at hK
  ·rename_i f caps ex;rcases hK with hK|hK
   ·obtain⟨v,rd,wr,n',h1,h2⟩:=BV (P:=P) (get:=get) (m:=m) (n:=n) (K:=λv _ wr n'=>K v wr n') (mo:=.calldM x xs) hc' (by simp only[ev];rw[ex];exact hK);exact .inl ⟨v,rd,wr,n',h1,h2⟩
   ·refine .inr ?_;cases ho:o.op<;>rw[ho]at hc<;>first|(simp[gY]at hc;done)|skip
    rename_i c;simp only[BQ]at hK;obtain⟨l,args,bs,pv,bs',hp,hnd,hln,hvs,hal,hlt,hat,hfr,hK⟩:=hK;refine⟨_,_,_,Qs hp hnd hln hal hlt hat hfr (λph ρ w a hg=>?_),hK⟩;simp only[gY,aC]at hc;obtain⟨c0,c1⟩:=hc;split at c0
    ·rename_i ox hg';have rx:=jF c0 (ph:=ph) (ρ:=ρ) (get:=get) (a:=a) λk hk=>hg k (by rw[ho];simp[Op.operands,Call.operands,hg',hk]);have rv:=Cx c1 (ph:=ph) (ρ:=ρ) (get:=get) (a:=a) λk hk=>hg k (by rw[ho];simp[Op.operands,Call.operands,hg'];right;simpa using hk);rw[ex]at rx;simp only[RepV,RepC,RepD]at rx;obtain⟨vs,e1,e2,e3⟩:=rx;refine⟨c.args.toList.map a.eval++vs,hvs▸RU rv e2 e3,?_⟩;unfold execOp;rw[ho];show fe P (do let d<-resolve a.eval c o.type;invoke d.target d.args) w _ w;unfold resolve;rw[hg'];simp only;rw[e1];refine(dx _).bind ?_;have e4:(c.args.toList.map a.eval++vs).toArray=c.args.map a.eval++vs.toArray:=by apply cu;simp
     rw[e4];simp only[invoke,dF];exact DY (w:=w) (args:=c.args.map a.eval++vs.toArray) hp.1
    ·cases c0
  ·exact hK.elim
 | panicX x=>
  refine .inr ?_;cases ho:o.op<;>rw[ho]at hc<;>first|(simp[gY]at hc;done)|skip
  rename_i ox;simp only[gY]at hc;simp only[Aa]at hK;split at hK
  ·rename_i d ex;split at hK
   ·rename_i u eu;refine⟨_,_,_,λm' h2 ph ρ w a hr hG hS hg next Q hn=>?_,hK⟩;have r1:=jF hc (ph:=ph) (ρ:=ρ) (get:=get) (a:=a) λk hk=>hg k (by rw[ho];simp[Op.operands,hk]);rw[ex]at r1;simp only[RepV,RepC]at r1;have e1:=zfl r1 eu;unfold Oper.wp execOp;rw[ho];show o.upon P a next Q ((do let v<-Instr.panic (a.eval ox);pure (Next.value v):Sem Next).run P w);rw[e1];exact hn ph ρ w (Step.refl _ _ _ _) hr (fC w)
   ·exact hK.elim
  ·exact hK.elim
 |_=>exact base hK
end
def pg(P:Program):List MO->St->(St->Prop)->(Value->St->Prop)->Prop
|[],S,K,_=>K S
| o::os,S,K,Kp=>match o.g with
 |none=>Aa P S.get S.m S.n (λv wr n=>pg P os (S.put o.dst v wr n) K Kp) (λpv wr n=>Kp pv (S.put none kQ wr n)) o.op
 |some (t,want)=>match S.get t with
  |.c (.d (.bool b))=>(b=want->Aa P (S.know t want).get S.m S.n (λv wr n=>pg P os ((S.know t want).put o.dst v wr n) K Kp) (λpv wr n=>Kp pv ((S.know t want).put none kQ wr n)) o.op)/\(b=(!want)->pg P os ((S.know t (!want)).put o.dst kQ [] S.n) K Kp)
  |.c (.d (.sc (.tuple _)))=>pg P os (S.put o.dst kQ [] S.n) K Kp
  |_=>False
section
variable {P:Program} {c:Ctx}
def Kj{ops:Array Oper}{Q:Exit->Act->World->Prop}{K:St->Prop}{Kp:Value->St->Prop}(hQ:∀S a w,kR P c S.get S.m a w->K S->Q .normal a w)(hP:∀pv S a w,kR P c S.get S.m a w->Kp pv S->Q (.panic [{v:=pv,recovered:=false}]) a w):
 ∀{mos:List MO} {os:List Oper} {i:Nat} {S:St} {a:Act} {w:World},mR P c.N ops mos os=true->
 (∀j o,os[j]?=some o->ops[i+j]?=some o)->pg P mos S K Kp->kR P c S.get S.m a w->wpOps P ops Q (List.range' i os.length) a w
|[],[],i,S,a,w,_,_,h,r=>by simp only[List.length_nil,List.range'_zero,wpOps];exact hQ S a w r h
|[],_::_,_,_,_,_,h,_,_,_=>by simp[mR]at h
|_::_,[],_,_,_,_,h,_,_,_=>by simp[mR]at h
| mo::mos,o::os,i,S,a,w,hc,hi,h,r=>by
 simp only[mR,aC]at hc;obtain⟨hc0,hcs⟩:=hc;simp only[zM,aC,aV]at hc0;obtain⟨⟨⟨c1,c2⟩,c3⟩,c4⟩:=hc0;have hd:∀d,mo.dst=some d->d<c.N:=λd hd=>by rw[hd]at c3;simpa using c3
 have ho:=hi 0 o (by simp);simp only[Nat.add_zero]at ho;have hi':∀j o',os[j]?=some o'->ops[i+1+j]?=some o':=λj o' hj=>by
  have:=hi (j+1) o' (by simpa using hj);rwa[show i+(j+1)=i+1+j from by omega]at this
 simp only[List.length_cons,dA,wpOps,ho];have run:∀S₁:St,S₁.get=S.get->S₁.m=S.m->Aa P S.get S.m S.n (λv wr n=>pg P mos (S₁.put mo.dst v wr n) K Kp) (λpv wr n=>Kp pv (S₁.put none kQ wr n)) mo.op->o.wp P a w (wpOps P ops Q (List.range' (i+1) os.length)) Q:=by
  intro S₁ eg em he;obtain⟨ph,ρ,H,S0,e0,hg⟩:=r.ex;rcases RV c1 he with⟨v,rd,wr,n',hs,hk⟩|⟨pv,wr,n',hs,hk⟩
  ·refine hs S.m (λ_ _=>rfl) (λ_ _=>rfl) ph ρ w a H (r.gnd.mono S0.hle) (r.side S0) (λk _=>hg k) _ _ λh' ρ' w' vC st K' e rv=>?_;rw[<-c2];refine Kj hQ hP hcs hi' hk ?_;rw[St.put_get,eg];have e2:(S₁.put mo.dst v wr n').m=jc S.m wr:=by rw[<-em];rfl
   rw[e2];exact K3 r.gnd r.sd r.defers r.size hd S0 e0 hg st K' e rv
  ·refine hs S.m (λ_ _=>rfl) ph ρ w a H (r.gnd.mono S0.hle) (r.side S0) (λk _=>hg k) _ _ λh' ρ' w' st K' e=>?_;refine hP pv _ _ _ ?_ hk;have e1:(S₁.put none kQ wr n').get=S.get:=by rw[<-eg];funext k;rfl
   have e2:(S₁.put none kQ wr n').m=jc S.m wr:=by rw[<-em];rfl
   rw[e1,e2];exact RO r.gnd r.sd r.defers r.size S0 e0 hg st K' e
 have skip:∀S₁:St,S₁.get=S.get->S₁.m=S.m->pg P mos (S₁.put mo.dst kQ [] S.n) K Kp->wpOps P ops Q (List.range' (i+1) os.length) (a.put o.dst undef) w:=by
  intro S₁ eg em hk;rw[<-c2];refine Kj hQ hP hcs hi' hk ?_;rw[St.put_get,eg];have e2:(S₁.put mo.dst kQ [] S.n).m=S.m:=by rw[<-em];rfl
  rw[e2];exact K5 r hd
 obtain⟨ph,ρ,H,S0,e0,hg⟩:=r.ex;simp only[pg]at h;split at h
 ·rename_i hgm;rw[hgm]at c4;rw[aB (DZ c4 (λt b hh=>by cases hh))];exact .inl (run S rfl rfl h)
 ·rename_i t want hgm;rw[hgm]at c4;have rt:=hg t;split at h
  ·rename_i b et;rw[et]at rt;simp only[RepV,RepC,RepD]at rt;by_cases hb:b=want
   ·subst hb;rw[aB (DZ c4 (λt' b' hh=>by cases hh;exact rt))];have h1:=h.1 rfl;rw[fI et]at h1;exact .inl (run _ (fI et) rfl h1)
   ·have hb':b=(!want):=by cases b<;>cases want<;>simp_all
    rw[aA (by rw[E5 c4 (.inl (by rw[rt,hb']))];simp)];exact skip _ (fI (by rw[et,hb'])) rfl (h.2 hb')
  ·rename_i x et;rw[et]at rt;simp only[RepV,RepC,RepD]at rt;rw[aA (by rw[E5 c4 (.inr ⟨x,rt⟩)];simp)];exact skip S rfl rfl h
  ·exact h.elim
end
def uK(P:Program)(bef:List Nat)(pj:Nat):Nat->List MO->St->List FP->(List FP->Prop)->Prop
|_,[],_,fps,K=>K fps.reverse
| k,o::os,S,fps,K=>if(bef.getD k 0).testBit pj=true then uK P bef pj (k+1) os (S.put o.dst kQ [] S.n) (([],[])::fps) K else
 match o.g with
 |none=>ev P S.get S.m S.n (λv rd wr n=>uK P bef pj (k+1) os (S.put o.dst v wr n) ((rd,wr.map (·.1))::fps) K) o.op
 |some (t,want)=>match S.get t with
  |.c (.d (.bool b))=>(b=want->ev P (S.know t want).get S.m S.n (λv rd wr n=>uK P bef pj (k+1) os ((S.know t want).put o.dst v wr n) ((rd,wr.map (·.1))::fps) K) o.op)/\(b=(!want)->uK P bef pj (k+1) os ((S.know t (!want)).put o.dst kQ [] S.n) (([],[])::fps) K)
  |.c (.d (.sc (.tuple _)))=>uK P bef pj (k+1) os (S.put o.dst kQ [] S.n) (([],[])::fps) K
  |_=>False
def Kk(P:Program)(get:Nat->AV)(m:Hp)(n:Nat)(K:AV->List Nat->List (Nat × Blk)->Nat->Prop)(Kp:Value->List (Nat × Blk)->Nat->Prop):mP->Prop
|.callX f xs=>vX P f (xs.map (X get)) m n K\/BQ P f (xs.map (X get)) m n Kp
|op=>ev P get m n K op
def rR (P:Program) (bef:List Nat):Nat->List MO->St->List FP->(St->List FP->Prop)->(Value->St->Nat->List FP->Prop)->Prop
|_,[],S,fps,K,_=>K S fps.reverse
| k,o::os,S,fps,K,Kp=>match o.g with
 | none=>Kk P S.get S.m S.n (λv rd wr n=>rR P bef (k+1) os (S.put o.dst v wr n) ((rd,wr.map (·.1))::fps) K Kp)
   (λpv wr n=>uK P bef k (k+1) os (S.put o.dst kQ [] S.n) (([],[])::fps) λfps=>Kp pv ⟨[],jc S.m wr,n⟩ k fps) o.op
 |some (t,want)=>match S.get t with
  |.c (.d (.bool b))=>(b=want->ev P (S.know t want).get S.m S.n (λv rd wr n=>rR P bef (k+1) os ((S.know t want).put o.dst v wr n) ((rd,wr.map (·.1))::fps) K Kp) o.op)/\(b=(!want)->rR P bef (k+1) os ((S.know t (!want)).put o.dst kQ [] S.n) (([],[])::fps) K Kp)
  |.c (.d (.sc (.tuple _)))=>rR P bef (k+1) os (S.put o.dst kQ [] S.n) (([],[])::fps) K Kp
  |_=>False
def Hz(bef:List Nat)(pj:Nat)(fps:List FP):Bool:=
(List.range fps.length).all λi=>(fps.getD i ([],[])).2.isEmpty||((bef.getD pj 0).testBit i&&decide (i<pj))
def qo(P:Program)(N:Nat)(bef:List Nat)(pj:Nat)(pv:Value)(wrp:List (Nat × Blk)):Nat->(Nat->AV)->Hp->List MO->List Oper->List E->Prop
|_,_,_,[],[],[]=>True
|k,get,m,mo::mos,o::os,e::es=>Kg P N bef pj pv wrp get m mo o e k/\qo P N bef pj pv wrp (k+1) (mI get mo.dst e.v) (jc m e.wr) mos os es
|_,_,_,_,_,_=>False
def qo.len{P:Program}{N:Nat}{bef:List Nat}{pj:Nat}{pv:Value}{wrp:List (Nat × Blk)}:∀{mos:List MO} {os:List Oper} {es:List E} {get:Nat->AV} {m:Hp} {k:Nat},qo P N bef pj pv wrp k get m mos os es->es.length=os.length
|[],[],[],_,_,_,_=>rfl
|[],[],_::_,_,_,_,h=>by simp[qo]at h
|[],_::_,_,_,_,_,h=>by simp[qo]at h
|_::_,[],_,_,_,_,h=>by simp[qo]at h
|_::_,_::_,[],_,_,_,h=>by simp[qo]at h
|_::_,_::_,_::_,_,_,_,h=>by simp only[qo]at h;simp[qo.len h.2]
def qo.nth{P:Program}{N:Nat}{bef:List Nat}{pj:Nat}{pv:Value}{wrp:List (Nat × Blk)}:∀{mos:List MO} {os:List Oper} {es:List E} {get:Nat->AV} {m:Hp} {k j:Nat} {o:Oper},qo P N bef pj pv wrp k get m mos os es->os[j]?=some o->
 ∃mo e,mos[j]?=some mo/\es[j]?=some e/\Kg P N bef pj pv wrp (gM (λi=>decide (i<j)) 0 get ((mos.zip es).map λx=>dw x.1 x.2)) (gM (λi=>decide (i<j)) 0 m (es.map (·.wr))) mo o e (k+j)
|[],[],[],_,_,_,j,o,_,h=>by simp at h
|[],[],_::_,_,_,_,_,_,h,_=>by simp[qo]at h
|[],_::_,_,_,_,_,_,_,h,_=>by simp[qo]at h
|_::_,[],_,_,_,_,_,_,h,_=>by simp[qo]at h
|_::_,_::_,[],_,_,_,_,_,h,_=>by simp[qo]at h
| mo::mos,o'::os,e::es,get,m,k,0,o,h,ho=>by
 simp only[qo]at h;simp at ho;subst ho;have none:∀{β:Type} (l:List (List (Nat × β))) (i:Nat) (f:Nat->β),gM (λi=>decide (i<0)) i f l=f:=by
  intro β l
  induction l with
  |nil=>intro i f;rfl
  |cons x l ih=>intro i f;simp only[gM];simpa using ih _ _
 refine⟨mo,e,rfl,rfl,?_⟩;rw[none,none];exact h.1
| mo::mos,o'::os,e::es,get,m,k,j+1,o,h,ho=>by
 simp only[qo]at h;obtain⟨mo',e',h1,h2,h3⟩:=qo.nth h.2 (by simpa using ho);have shift:∀{β:Type} (l:List (List (Nat × β))) (i:Nat) (f:Nat->β),gM (λi=>decide (i<j+1)) (i+1) f l=gM (λi=>decide (i<j)) i f l:=by
  intro β l
  induction l with
  |nil=>intro i f;rfl
  |cons x l ih=>intro i f;simp only[gM];rw[ih];simp
 refine⟨mo',e',by simpa using h1,by simpa using h2,?_⟩;simp only[List.zip_cons_cons,List.map_cons,gM,Nat.zero_lt_succ,decide_true,if_true];rw[shift,shift,<-Ea,<-BX,show k+(j+1)=k+1+j by omega];exact h3
section
variable {P:Program} {N:Nat} {ops:Array Oper}
def RX{mo:MO}{o:Oper}{S:St}{R:St->FP->Prop}(c1:gY P mo.op o.op=true)
  (h:match mo.g with
  |none=>ev P S.get S.m S.n (λv rd wr n=>R (S.put mo.dst v wr n) (rd,wr.map (·.1))) mo.op
  |some (t,want)=>match S.get t with
   |.c (.d (.bool b))=>(b=want->ev P (S.know t want).get S.m S.n (λv rd wr n=>R ((S.know t want).put mo.dst v wr n) (rd,wr.map (·.1))) mo.op)/\(b=(!want)->R ((S.know t (!want)).put mo.dst kQ [] S.n) ([],[]))
   |.c (.d (.sc (.tuple _)))=>R (S.put mo.dst kQ [] S.n) ([],[])
   |_=>False):∃(S':St) (e:E),ve P S.get S.m mo o e/\S'.get=mI S.get mo.dst e.v/\S'.m=jc S.m e.wr/\R S' (e.rd,e.wr.map (·.1)):=by
 have fin:∀(S₁:St) (e:E) (n:Nat),S₁.get=S.get->S₁.m=S.m->ve P S.get S.m mo o e->R (S₁.put mo.dst e.v e.wr n) (e.rd,e.wr.map (·.1))->∃(S':St) (e:E),ve P S.get S.m mo o e/\S'.get=mI S.get mo.dst e.v/\S'.m=jc S.m e.wr/\R S' (e.rd,e.wr.map (·.1)):=by
  intro S₁ e n eg em hs hr;exact⟨_,e,hs,by rw[<-eg];exact St.put_get ..,by rw[<-em];rfl,hr⟩
 have run:∀S₁:St,S₁.get=S.get->S₁.m=S.m->vZ S.get mo.g->ev P S.get S.m S.n (λv rd wr n=>R (S₁.put mo.dst v wr n) (rd,wr.map (·.1))) mo.op->∃(S':St) (e:E),ve P S.get S.m mo o e/\S'.get=mI S.get mo.dst e.v/\S'.m=jc S.m e.wr/\R S' (e.rd,e.wr.map (·.1)):=by
  intro S₁ eg em hy he;obtain⟨v,rd,wr,n',hs,hk⟩:=BV c1 he;exact fin S₁ ⟨v,rd,wr⟩ n' eg em (.inl ⟨hy,hs⟩) hk
 split at h
 ·rename_i hg;exact run S rfl rfl (by rw[hg];trivial) h
 ·rename_i t want hg;split at h
  ·rename_i b et;by_cases hb:b=want
   ·subst hb;have h1:=h.1 rfl;rw[fI et]at h1;exact run _ (fI et) rfl (by rw[hg];exact et) h1
   ·have hb':b=(!want):=by cases b<;>cases want<;>simp_all
    exact fin _ ⟨kQ,[],[]⟩ S.n (fI (by rw[et,hb'])) rfl (.inr ⟨by rw[hg];exact .inl (by rw[et,hb']),rfl,rfl,rfl⟩) (h.2 hb')
  ·rename_i x et;exact fin S ⟨kQ,[],[]⟩ S.n rfl rfl (.inr ⟨by rw[hg];exact .inr ⟨x,et⟩,rfl,rfl,rfl⟩) h
  ·exact h.elim
def Bb{β:Type}:∀(l:List (List (Nat × β))) (i j:Nat) (f:Nat->β),gM (λ_=>true) i f l=gM (λ_=>true) j f l
|[],_,_,_=>rfl
|x::l,i,j,f=>by simp only[gM];exact Bb l _ _ _
def Kl{bef:List Nat}{pj:Nat}{pv:Value}{wrp:List (Nat × Blk)}{K:List FP->Prop}(hp:pj<ops.size):∀{mos:List MO} {os:List Oper} {k:Nat} {S:St} {fps:List FP},pj<k->mR P N ops mos os=true->uK P bef pj k mos S fps K->
 ∃es:List E,qo P ops.size bef pj pv wrp k S.get S.m mos os es/\K (fps.reverse++es.map λe=>(e.rd,e.wr.map (·.1)))
|[],[],k,S,fps,_,_,h=>⟨[],trivial,by simpa[uK]using h⟩
|[],_::_,_,_,_,_,h,_=>by simp[mR]at h
|_::_,[],_,_,_,_,h,_=>by simp[mR]at h
| mo::mos,o::os,k,S,fps,hk,hc,h=>by
 simp only[mR,aC]at hc;obtain⟨hc0,hcs⟩:=hc;simp only[zM,aC,aV]at hc0;obtain⟨⟨⟨c1,c2⟩,c3⟩,c4⟩:=hc0;simp only[uK]at h;split at h
 ·rename_i hb;obtain⟨es,t1,t2⟩:=Kl (pv:=pv) (wrp:=wrp) hp (by omega) hcs h;rw[St.put_get]at t1;exact⟨⟨kQ,[],[]⟩::es,⟨.inr (.inr ⟨hp,hb⟩),t1⟩,by simpa using t2⟩
 ·obtain⟨S',e,h1,h2,h3,h4⟩:=RX (R:=λS' fp=>uK P bef pj (k+1) mos S' (fp::fps) K) c1 h;obtain⟨es,t1,t2⟩:=Kl (pv:=pv) (wrp:=wrp) hp (by omega) hcs h4;rw[h2,h3]at t1;exact⟨e::es,⟨.inl ⟨by omega,h1⟩,t1⟩,by simpa using t2⟩
def Ab(P:Program)(ops:Array Oper)(bef:List Nat)(K:St->List FP->Prop)(Kp:Value->St->Nat->List FP->Prop)(k:Nat)(S:St)(fps:List FP)(mos:List MO)(os:List Oper):Prop:=
 (∃(es:List E) (S':St),kW P S.get S.m mos os es/\S'.get=gM (λ_=>true) 0 S.get ((mos.zip es).map λx=>dw x.1 x.2)/\S'.m=gM (λ_=>true) 0 S.m (es.map (·.wr))/\K S' (fps.reverse++es.map λe=>(e.rd,e.wr.map (·.1))))\/
 ∃(pj:Nat) (pv:Value) (wrp:List (Nat × Blk)) (n:Nat) (es:List E),k<=pj/\pj<ops.size/\qo P ops.size bef pj pv wrp k S.get S.m mos os es/\
  Kp pv ⟨[],jc (gM (λi=>decide (i<pj-k)) 0 S.m (es.map (·.wr))) wrp,n⟩ pj (fps.reverse++es.map λe=>(e.rd,e.wr.map (·.1)))
def Km {bef:List Nat} {K:St->List FP->Prop} {Kp:Value->St->Nat->List FP->Prop}:∀{mos:List MO} {os:List Oper} {k:Nat} {S:St} {fps:List FP},k+os.length=ops.size->mR P N ops mos os=true->rR P bef k mos S fps K Kp->
 Ab P ops bef K Kp k S fps mos os
|[],[],k,S,fps,_,_,h=>.inl ⟨[],S,trivial,rfl,rfl,by simpa[rR]using h⟩
|[],_::_,_,_,_,_,h,_=>by simp[mR]at h
|_::_,[],_,_,_,_,h,_=>by simp[mR]at h
| mo ::mos,o::os,k,S,fps,hk,hc,h=>by
 simp only[mR,aC]at hc;obtain⟨hc0,hcs⟩:=hc;simp only[zM,aC,aV]at hc0;obtain⟨⟨⟨c1,c2⟩,c3⟩,c4⟩:=hc0;simp only[List.length_cons]at hk;have fin:∀(S':St) (e:E),ve P S.get S.m mo o e->S'.get=mI S.get mo.dst e.v->S'.m=jc S.m e.wr->rR P bef (k+1) mos S' ((e.rd,e.wr.map (·.1))::fps) K Kp->Ab P ops bef K Kp k S fps (mo::mos) (o::os):=by
  intro S' e h1 h2 h3 h4;rcases Km (by omega) hcs h4 with⟨es,S'',t1,t2,t3,t4⟩|⟨pj,pv,wrp,n,es,t1,t2,t3,t4⟩
  ·rw[h2,h3]at t1;refine .inl ⟨e::es,S'',⟨h1,t1⟩,?_,?_,by simpa using t4⟩
   ·rw[t2,h2,Ea];simp only[List.zip_cons_cons,List.map_cons,gM,if_true];exact Bb _ _ _ _
   ·rw[t3,h3,BX];simp only[List.map_cons,gM,if_true];exact Bb _ _ _ _
  ·rw [h2,h3]at t3;refine .inr ⟨pj,pv,wrp,n,e::es,by omega,t2,⟨.inl ⟨by omega,h1⟩,t3⟩,?_⟩;have e1:gM (λi=>decide (i<pj-k)) 0 S.m ((e::es).map (·.wr))=gM (λi=>decide (i<pj-(k+1))) 0 S'.m (es.map (·.wr)):=by
    have shift:∀(l:List (List (Nat × Blk))) (i:Nat) (f:Hp),gM (λi=>decide (i<pj-k)) (i+1) f l=gM (λi=>decide (i<pj-(k+1))) i f l:=by
     intro l
     induction l with
     |nil=>intro i f;rfl
     | cons x l ih=>
      intro i f;simp only[gM];rw[ih];have:decide (i+1<pj-k)=decide (i<pj-(k+1)):=by
       by_cases hh:i+1<pj-k
       ·rw[dN hh,dN (by omega)]
       ·rw[dZ hh,dZ (by omega)]
      simp only[this]
    simp only[List.map_cons,gM];rw[shift,h3,dN (show 0<pj-k by omega),aB rfl,BX]
   rw[e1];simpa using t4
 by_cases hx:mo.g=none/\∃f xs,mo.op=.callX f xs
 ·obtain⟨hg,f,xs,hop⟩:=hx;simp only[rR,hg,hop,Kk]at h;rw[hop]at c1;have hc':gY P (.callM f xs) o.op=true:=by
   cases ho:o.op<;>rw[ho]at c1<;>first|(simp[gY]at c1;done)|exact c1
  rcases h with h|h
  ·obtain⟨v,rd,wr,n',hs,hk'⟩:=BV (P:=P) (get:=S.get) (m:=S.m) (n:=S.n) (K:=λ(v:AV) (rd:List Nat) (wr:List (Nat × Blk)) (n:Nat)=>rR P bef (k+1) mos (S.put mo.dst v wr n) ((rd,wr.map λ(x:Nat × Blk)=>x.1)::fps) K Kp) (mo:=.callM f xs) hc' h;exact fin _ ⟨v,rd,wr⟩ (.inl ⟨by rw[hg];trivial,hs⟩) (St.put_get ..) rfl hk'
  ·rcases RV (P:=P) (get:=S.get) (m:=S.m) (n:=S.n) (K:=λ_ _ _=>False) (mo:=.callX f xs) c1 (.inr h)with⟨_,_,_,_,_,hh⟩|⟨pv,wr,n',hs,hk'⟩
   ·exact hh.elim
   ·obtain⟨es,t1,t2⟩:=Kl (pv:=pv) (wrp:=wr) (by omega) (by omega) hcs hk';rw[St.put_get]at t1;refine .inr ⟨k,pv,wr,n',⟨kQ,[],[]⟩::es,aK _,by omega,⟨.inr (.inl ⟨rfl,rfl,by rw[hg];trivial,hs⟩),t1⟩,?_⟩;have none:∀(l:List (List (Nat × Blk))) (i:Nat) (f:Hp),gM (λi=>decide (i<k-k)) i f l=f:=by
     intro l
     induction l with
     |nil=>intro i f;rfl
     |cons x l ih=>intro i f;simp only[gM];simpa using ih _ _
    rw[none];simpa using t2
 ·have h':match mo.g with
   |none=>ev P S.get S.m S.n (λv rd wr n=>rR P bef (k+1) mos (S.put mo.dst v wr n) ((rd,wr.map (·.1))::fps) K Kp) mo.op
   |some (t,want)=>match S.get t with
    |.c (.d (.bool b))=>(b=want->ev P (S.know t want).get S.m S.n (λv rd wr n=>rR P bef (k+1) mos ((S.know t want).put mo.dst v wr n) ((rd,wr.map (·.1))::fps) K Kp) mo.op)/\(b=(!want)->rR P bef (k+1) mos ((S.know t (!want)).put mo.dst kQ [] S.n) (([],[])::fps) K Kp)
    |.c (.d (.sc (.tuple _)))=>rR P bef (k+1) mos (S.put mo.dst kQ [] S.n) (([],[])::fps) K Kp
    |_=>False:=by
   simp only[rR]at h;cases hg:mo.g with
   |none=>
    rw[hg]at h;simp only at h⊢;cases hop:mo.op with
    |callX f xs=>exact absurd ⟨hg,f,xs,hop⟩ hx
    |_=>rw[hop]at h;exact h
   |some p=>rw[hg]at h;exact h
  obtain⟨S',e,h1,h2,h3,h4⟩:=RX (R:=λS' fp=>rR P bef (k+1) mos S' (fp::fps) K Kp) c1 h';exact fin S' e h1 h2 h3 h4
end
end Go.Abs
namespace Go.Abs
variable [jQ]
inductive MC where
|skip
|reg (os:List MO)
|regd (bef:List Nat) (os:List MO)
|regx (os:List MO)
|regdx (bef:List Nat) (os:List MO)
|seq (a b:MC)
|cond (x:MX) (a b:MC)
|block (id:Nat) (b:MC)
|loop (b:MC)
|exit (id:Nat)
|ret
|fzq (a:MC)
|owq (a:MC)
def iH(P:Program)(N:Nat):MC->Code->Bool
|.skip,.skip=>true
|.reg os,.region _ ops d=> !d&&mR P N ops os ops.toList
|.regd bef os,.region _ ops d=>d&&mR P N ops os ops.toList&&E8 ops bef&&E9 ops bef
|.regx os,.region _ ops d=> !d&&mR P N ops os ops.toList
|.regdx bef os,.region _ ops d=>d&&mR P N ops os ops.toList&&E8 ops bef&&E9 ops bef
|.seq a b,.seq a' b'=>iH P N a a'&&iH P N b b'
|.cond x a b,.cond o a' b'=>gN x o&&iH P N a a'&&iH P N b b'
|.block i b,.block i' b'=>i==i'&&iH P N b b'
|.loop b,.loop b'=>iH P N b b'
|.exit i,.exit i'=>i==i'
|.ret,.ret=>true
|.fzq a,c=>iH P N a c
|.owq a,c=>iH P N a c
|_,_=>false
def AW(P:Program)(c:Ctx)(mc:MC)(Q:Exit->St->Prop)(S:St):Prop:=
∀code:Code,iH P c.N mc code=true->∀(a:Act) (w:World),kR P c S.get S.m a w->code.wp P (λe a' w'=>∃S':St,kR P c S'.get S'.m a' w'/\Q e S') a w
def vg(K:St->Prop)(Q:Exit->St->Prop):Exit->St->Prop
|.normal,S=>K S
|e,S=>Q e S
def yU(id:Nat)(Q:Exit->St->Prop):Exit->St->Prop
|.exit i,S=>if i=id then Q .normal S else Q (.exit i) S
|e,S=>Q e S
section
variable {P:Program} {c:Ctx} {Q:Exit->St->Prop} {S:St}
def AW.mono{mc:MC}{Q':Exit->St->Prop}(h:AW P c mc Q S)(hq:∀e S,Q e S->Q' e S):AW P c mc Q' S:=λcode hc a w r=>
 wp_mono (h code hc a w r) λe a' w' ⟨S',r',q⟩=>⟨S',r',hq e S' q⟩
def AW.skip(h:Q .normal S):AW P c .skip Q S:=by
 intro code hc a w r;cases code<;>simp[iH]at hc;exact wp_skip ⟨S,r,h⟩
def AW.exit{id:Nat}(h:Q (.exit id) S):AW P c (.exit id) Q S:=by
 intro code hc a w r;cases code<;>simp[iH]at hc;subst hc;exact wp_exit ⟨S,r,h⟩
def AW.ret(h:Q .ret S):AW P c .ret Q S:=by
 intro code hc a w r;cases code<;>simp[iH]at hc;exact wp_ret ⟨S,r,h⟩
def AW.seq{x y:MC}(h:AW P c x (vg (AW P c y Q) Q) S):AW P c (.seq x y) Q S:=by
 intro code hc a w r;cases code with
 |seq x' y'=>
  simp only[iH,aC]at hc;refine wp_seq (wp_mono (h x' hc.1 a w r) λe a' w' ⟨S',r',q⟩=>?_);cases e with
  |normal=>exact q y' hc.2 a' w' r'
  |_=>exact⟨S',r',q⟩
 |_=>simp[iH]at hc
def AW.cond{x:MX}{a b:MC}{t:Bool}(e:X S.get x=.c (.d (.bool t)))(h1:t=true->AW P c a Q S)(h2:t=false->AW P c b Q S):AW P c (.cond x a b) Q S:=by
 intro code hc ac w r;cases code with
 |cond o a' b'=>
  simp only[iH,aC]at hc;obtain⟨ph,ρ,H,S0,e0,hg⟩:=r.ex;have r1:=jF hc.1.1 (ph:=ph) (ρ:=ρ) (get:=S.get) (a:=ac) λk _=>hg k;rw[e]at r1;simp only[RepV,RepC,RepD]at r1;exact wp_cond_split r1 (λht=>h1 ht a' hc.1.2 ac w r) (λht=>h2 ht b' hc.2 ac w r)
 |_=>simp[iH]at hc
def AW.condU{x:MX}{a b:MC}{q:Value->Prop}(e:X S.get x=.c (.op q))(hq:∀v,q v->DI v)(h1:AW P c a Q S)(h2:AW P c b Q S):AW P c (.cond x a b) Q S:=by
 intro code hc ac w r;cases code with
 |cond o a' b'=>
  simp only[iH,aC]at hc;obtain⟨ph,ρ,H,S0,e0,hg⟩:=r.ex;have r1:=jF hc.1.1 (ph:=ph) (ρ:=ρ) (get:=S.get) (a:=ac) λk _=>hg k;rw[e]at r1;simp only[RepV,RepC]at r1;obtain⟨t,r1⟩:=hq _ r1;exact wp_cond_split r1 (λht=>h1 a' hc.1.2 ac w r) (λht=>h2 b' hc.2 ac w r)
 |_=>simp[iH]at hc
def AW.block{id:Nat}{b:MC}(h:AW P c b (yU id Q) S):AW P c (.block id b) Q S:=by
 intro code hc a w r;cases code with
 | block id' b'=>
  simp only[iH,aC,aV]at hc;obtain⟨h1,h2⟩:=hc;subst h1;refine wp_block (wp_mono (h b' h2 a w r) λe a' w' ⟨S',r',q⟩=>?_);cases e with
  |exit i=>
   simp only[yU]at q;simp only[Exit.inBlock];split
   ·rename_i hh;rw[aB hh]at q;exact⟨S',r',q⟩
   ·rename_i hh;rw[aA hh]at q;exact⟨S',r',q⟩
  |_=>exact⟨S',r',q⟩
 |_=>simp[iH]at hc
def AW.reg{os:List MO}(h:oP P os S (λS'=>Q .normal S')):AW P c (.reg os) Q S:=by
 intro code hc a w r;cases code with
 |region id ops d=>
  simp only[iH,aC,bg]at hc;obtain⟨h1,h2⟩:=hc;subst h1;refine wp_region ?_;have hl:=Hy h2;have:=K6 (Q:=λe a' w'=>∃S':St,kR P c S'.get S'.m a' w'/\Q e S') (K:=λS'=>Q .normal S') (λS a w r k=>⟨S,r,k⟩) (i:=0) h2 (λj o hj=>by simpa using hj) h r;rw[bf];simpa using this
 |_=>simp[iH]at hc
def AW.regx{os:List MO}(h:pg P os S (λS'=>Q .normal S') (λpv S'=>Q (.panic [{v:=pv,recovered:=false}]) S')):AW P c (.regx os) Q S:=by
 intro code hc a w r;cases code with
 |region id ops d=>
  simp only[iH,aC,bg]at hc;obtain⟨h1,h2⟩:=hc;subst h1;refine wp_region ?_;have hl:=Hy h2;have:=Kj (Q:=λe a' w'=>∃S':St,kR P c S'.get S'.m a' w'/\Q e S') (K:=λS'=>Q .normal S') (Kp:=λpv S'=>Q (.panic [{v:=pv,recovered:=false}]) S') (λS a w r k=>⟨S,r,k⟩) (λpv S a w r k=>⟨S,r,k⟩) (i:=0) h2 (λj o hj=>by simpa using hj) h r;rw[bf];simpa using this
 |_=>simp[iH]at hc
def AW.regd{bef:List Nat}{os:List MO}(hm:P.follows .mixedOrders=true)(h:lX P os S [] (λS' fps=>uY bef fps=true/\Q .normal S')):AW P c (.regd bef os) Q S:=by
 intro code hc a w r;cases code with
 | region id ops d=>
  simp only[iH,aC]at hc;obtain⟨⟨⟨h1,h2⟩,h3⟩,h4⟩:=hc;subst h1;obtain⟨es,S',t1,t2,t3,t4⟩:=RL h2 h;simp only[List.reverse_nil,List.nil_append]at t4;refine wp_region_any hm ?_;have none:∀{β:Type} (l:List (List (Nat × β))) (i:Nat) (f:Nat->β),gM (jy (Array.replicate ops.size false)) i f l=f:=by
   intro β l
   induction l with
   |nil=>intro i f;rfl
   | cons x l ih=>
    intro i f;have:jy (Array.replicate ops.size false) i=false:=by
     unfold jy;simp only[aT,bK];split<;>rfl
    simp only[gM,this];exact ih _ _
  refine Ki h2 t1 h3 h4 t4.1 (λa w r=>⟨S',by rw[t2,t3];exact r,t4.2⟩) ops.size _ a _ (by simp) ?_ (λj i hj _ _=>?_) ?_
  ·have:cnt (Array.replicate ops.size false)=0:=by
    unfold cnt;simp
   omega
  ·unfold jy at hj;simp only[aT,bK]at hj;split at hj<;>simp at hj
  ·rw[none,none];obtain⟨ph,ρ,H,S0,e0,hg⟩:=r.ex;exact⟨r.gnd,r.sd,r.defers,r.size,ph,ρ,H,S0,⟨e0.1,e0.2.1,e0.2.2⟩,hg⟩
 |_=>simp[iH]at hc
def AW.regdx{bef:List Nat}{os:List MO}(hm:P.follows .mixedOrders=true)(h:rR P bef 0 os S [] (λS' fps=>uY bef fps=true/\Q .normal S') (λpv S' pj fps=>uY bef fps=true/\Hz bef pj fps=true/\Q (.panic [{v:=pv,recovered:=false}]) S')):AW P c (.regdx bef os) Q S:=by
 intro code hc a w r;cases code with
 | region id ops d=>
  simp only[iH,aC]at hc;obtain⟨⟨⟨h1,h2⟩,h3⟩,h4⟩:=hc;subst h1;have none:∀{β:Type} (l:List (List (Nat × β))) (i:Nat) (f:Nat->β),gM (jy (Array.replicate ops.size false)) i f l=f:=by
   intro β l
   induction l with
   |nil=>intro i f;rfl
   | cons x l ih=>
    intro i f;have:jy (Array.replicate ops.size false) i=false:=by
     unfold jy;simp only[aT,bK];split<;>rfl
    simp only[gM,this];exact ih _ _
  have l0:∀i,jy (Array.replicate ops.size false) i=false:=λi=>by
   unfold jy;simp only[aT,bK];split<;>rfl
  have c0:cnt (Array.replicate ops.size false)+ops.size=ops.size:=by
   have:cnt (Array.replicate ops.size false)=0:=by
    unfold cnt;simp
   omega
  rcases Km (ops:=ops) (by simp) h2 h with⟨es,S',t1,t2,t3,t4⟩|⟨pj,pv,wrp,n,es,g0,g1,g2,g3⟩
  ·simp only[List.reverse_nil,List.nil_append]at t4;refine wp_region_any hm ?_;refine Ki h2 t1 h3 h4 t4.1 (λa w r=>⟨S',by rw[t2,t3];exact r,t4.2⟩) ops.size _ a _ (by simp) c0 (λj i hj _ _=>by rw[l0]at hj;cases hj) ?_;rw[none,none];obtain⟨ph,ρ,H,S0,e0,hg⟩:=r.ex;exact⟨r.gnd,r.sd,r.defers,r.size,ph,ρ,H,S0,⟨e0.1,e0.2.1,e0.2.2⟩,hg⟩
  ·simp only[List.reverse_nil,List.nil_append,dP]at g3;refine wp_region_any hm ?_;refine Kh (pj:=pj) (pv:=pv) (wrp:=wrp) (es:=es) (get:=S.get) (m:=S.m) h2 g2.len (λj o ho=>by
    obtain⟨mo,e,e1,e2,e3⟩:=g2.nth ho;rw[Nat.zero_add]at e3
    exact⟨mo,e,e1,e2,e3⟩) h3 h4 g3.1 (λh=>absurd g1 h) (λ_ i e he hw=>?_) (λ_ L a w r=>⟨⟨[],jc (gM (λi=>decide (i<pj)) 0 S.m (es.map λx:E=>x.wr)) wrp,n⟩,zfO r,g3.2.2⟩) ops.size _ a _ (λ_=>l0 _) (by simp) c0 (λj i hj _ _=>by rw[l0]at hj;cases hj) ?_
   ·have hlt:i<(es.map λe=>(e.rd,e.wr.map (·.1))).length:=by
     rcases aX i es.length with h|h
     ·simpa using h
     ·rw[aM h]at he;cases he
    have:=aZ.1 g3.2.1 i (by simpa using hlt);rw[aF,List.getElem?_map,he]at this;simp only[Option.map_some,Option.getD_some,bS,aC,aI,List.isEmpty_iff,List.map_eq_nil_iff]at this;exact this.resolve_left hw
   ·rw[none,none];obtain⟨ph,ρ,H,S0,e0,hg⟩:=r.ex;exact⟨r.gnd,r.sd,r.defers,r.size,ph,ρ,H,S0,⟨e0.1,e0.2.1,e0.2.2⟩,hg⟩
 |_=>simp[iH]at hc
def hd(t:List (Nat × AV))(bs:List Blk):St:=⟨t,hpOf bs,bs.length⟩
def xR(S:St)(l:List Nat):List (Nat × AV)->Prop
|[]=>True
|(k,v)::t=>(S.get k=v.ren (gm l)/\v.lt l.length=true)/\xR S l t
def uZ(S:St)(l:List Nat):List Nat->List Blk->Prop
|[],[]=>True
|j::js,b::bs=>(S.m j=b.ren (gm l)/\b.lt l.length=true)/\uZ S l js bs
|_,_=>False
def iU(l:List Nat)(S:St)(t:List (Nat × AV))(bs:List Blk):Prop:=l.Nodup/\xR S l t/\uZ S l l bs
def RY{S:St}{l:List Nat}:∀{t:List (Nat × AV)},xR S l t->∀k,look t k=.c (.d .any)\/(S.get k=(look t k).ren (gm l)/\(look t k).lt l.length=true)
|[],_,k=>.inl rfl
|(j,v)::t,h,k=>by
 simp only[xR]at h;simp only[look];split
 ·rename_i e;subst e;exact .inr h.1
 ·exact RY h.2 k
def RZ{S:St}{l:List Nat}:∀{js:List Nat} {bs:List Blk},uZ S l js bs->js.length=bs.length/\∀i,i<js.length->S.m (js.getD i 0)=(bs.getD i .non).ren (gm l)/\(bs.getD i .non).lt l.length=true
|[],[],_=>⟨rfl,λi hi=>by simp at hi⟩
|[],_::_,h=>by simp[uZ]at h
|_::_,[],h=>by simp[uZ]at h
|j::js,b::bs,h=>by
 simp only[uZ]at h;obtain⟨h1,h2⟩:=RZ h.2;refine⟨by simp[h1],λi hi=>?_⟩;cases i with
 |zero=>simpa using h.1
 |succ i=>simpa using h2 i (by simpa using hi)
def Ctx.pure(_:Ctx):Prop:=True
def kR.view(hp:c.pure){l:List Nat}{S:St}{t:List (Nat × AV)}{bs:List Blk}{a:Act}{w:World}(hm:iU l S t bs)(r:kR P c S.get S.m a w):kR P c (hd t bs).get (hd t bs).m a w:=by
 obtain⟨hnd,ht,hb⟩:=hm;obtain⟨hlen,hb⟩:=RZ hb;obtain⟨ph,ρ,H,S0,e0,hg⟩:=r.ex;have at_:∀b,b<l.length->S.m (gm l b)=(hpOf bs b).ren (gm l)/\(hpOf bs b).lt l.length=true:=λb hbl=>hb b hbl;have inj:∀b c,b<l.length->c<l.length->gm l b=gm l c->b=c:=by
  intro b c h1 h2 e;unfold gm at e;rw[aF,aF,aD h1,aD h2]at e;simp only[Option.getD_some]at e;exact(List.getElem?_inj h1 hnd).1 (by rw[aD h1,aD h2,e])
 have beyond:∀b,¬b<l.length->hpOf bs b=.non:=by
  intro b hb';unfold hpOf;rw[aF,aM (by omega)];rfl
 have rs:∀{b:Nat} {p:Nat × Nat},nz (gm l) l.length ρ b=some p->b<l.length/\ρ (gm l b)=some p:=by
  intro b p h;unfold nz at h;split at h
  ·exact⟨by assumption,h⟩
  ·cases h
 refine⟨r.gnd,r.sd,r.defers,r.size,ph,nz (gm l) l.length ρ,⟨H.pers,?_,?_,?_,?_⟩,⟨S0.hle,S0.hlow,S0.size,S0.frame,?_⟩,e0,λk=>?_⟩
 ·intro b;show hpOf bs b=.non↔_;unfold nz;by_cases hbl:b<l.length
  ·rw[aB hbl,<-H.dom,(at_ b hbl).1];cases hpOf bs b<;>simp[Blk.ren]
  ·rw[aA hbl];simp[beyond b hbl]
 ·intro b p hp';obtain⟨h1,h2⟩:=rs hp';have:=H.own _ p h2;rw[(at_ b h1).1]at this;exact zaj.ren (at_ b h1).2 this
 ·intro b c' p q h1 h2 hr hs e;obtain⟨g1,g2⟩:=rs h1;obtain⟨g3,g4⟩:=rs h2;refine inj b c' g1 g3 (H.inj _ _ p q g2 g4 ?_ ?_ e)
  ·rw[(at_ b g1).1];exact Real.ren.2 hr
  ·rw[(at_ c' g3).1];exact Real.ren.2 hs
 ·intro b p h1 hr;obtain⟨g1,g2⟩:=rs h1;exact H.sep _ p g2 (by rw[(at_ b g1).1];exact Real.ren.2 hr)
 ·intro b p h1 hr;obtain⟨g1,g2⟩:=rs h1;exact S0.own _ p g2 (by rw[(at_ b g1).1];exact Real.ren.2 hr)
 ·have rk:=hg k;show RepV ph (nz (gm l) l.length ρ) (look t k) _;rcases RY ht k with h1|⟨h1,h2⟩
  ·rw[h1];simp[RepV,RepC,RepD]
  ·rw[h1]at rk;exact RepV.ren _ _ h2 rk
def AW.loop{Y:Type}(hp:c.pure){body:MC}(I:Y->Prop)(t:Y->List (Nat × AV))(bs:Y->List Blk)(μ:Y->Nat){x0:Y}{l0:List Nat}(hI:I x0)(h0:iU l0 S (t x0) (bs x0))
  (round:∀x,I x->AW P c body (vg (λS'=>∃x' l,I x'/\iU l S' (t x') (bs x')/\μ x'<μ x) Q) (hd (t x) (bs x))):AW P c (.loop body) Q S:=by
 intro code hc a w r;cases code with
 | loop b=>
  simp only[iH]at hc;intro fr k cs
  have key:∀n:Nat,∀x,μ x=n->I x->∀a w,kR P c (hd (t x) (bs x)).get (hd (t x) (bs x)).m a w->
    ∃e a' w',(∃S':St,kR P c S'.get S'.m a' w'/\Q e S')/\Arrives P (lone (fr.at a (.code b::.inLoop b::k)) cs w) fr k cs e a' w':=by
   intro n
   induction n using Nat.strongRecOn with
   | _ n ih=>
    intro x hn hx a w r;obtain⟨e,a₁,w₁,⟨S',r',q⟩,harr⟩:=round x hx b hc a w r fr (.inLoop b::k) cs;cases e with
    |normal=>
     obtain⟨x',l,hx',hm,hlt⟩:=q;obtain⟨e₂,a₂,w₂,hq₂,harr₂⟩:=ih (μ x') (hn▸hlt) x' rfl hx' a₁ w₁ (kR.view hp hm r');exact⟨e₂,a₂,w₂,hq₂,.of_steps (Steps.trans harr (.one step_inLoop)) harr₂⟩
    |exit id=>exact⟨_,a₁,w₁,⟨S',r',q⟩,.pass (x:=.inLoop b) rfl (λ_ _=>.inl (by simp)) harr⟩
    |goto l=>exact⟨_,a₁,w₁,⟨S',r',q⟩,.pass (x:=.inLoop b) rfl (λ_ _=>.inl (by simp)) harr⟩
    |ret=>exact⟨_,a₁,w₁,⟨S',r',q⟩,.pass (x:=.inLoop b) rfl (λ_ _=>.inl (by simp)) harr⟩
    |panic ch=>exact⟨_,a₁,w₁,⟨S',r',q⟩,.pass (x:=.inLoop b) rfl (λ_ _=>.inl (by simp)) harr⟩
    |outgrown=>exact⟨_,a₁,w₁,⟨S',r',q⟩,.pass (x:=.inLoop b) rfl (λ_ _=>.inl (by simp)) harr⟩
  obtain⟨e,a',w',hq,harr⟩:=key _ x0 rfl hI a w (kR.view hp h0 r);exact⟨e,a',w',hq,.of_steps (.one step_loop) harr⟩
 |_=>simp[iH]at hc
end
end Go.Abs
namespace Go.Abs
variable [jQ]
def oo:List (List AC)->Option (List (List D))
|[]=>some []
|r::rs=>match jC r,oo rs with
 |some x,some xs=>some (x::xs)
 |_,_=>none
@[simp] theorem Kn(es:List (List D)):oo (es.map (·.map .d))=some es:=by
 induction es with
 |nil=>rfl
 |cons e es ih=>simp[oo,ih]
@[simp] theorem zf8(a b:List (List AC)):oo (a++b)=(oo a).bind λx=>(oo b).map λy=>x++y:=by
 induction a with
 |nil=>simp[oo]
 | cons e a ih=>
  simp only[List.cons_append,oo];cases jC e with
  |none=>simp
  | some x=>
   rw[ih];cases oo a with
   |none=>simp
   |some y=>
    cases oo b with
    |none=>simp
    |some z=>simp
def Ko:∀{es:List (List AC)} {ds:List (List D)},oo es=some ds->es=ds.map (·.map .d)
|[],ds,h=>by simp[oo]at h;simp[<-h]
| e::es,ds,h=>by
 simp only[oo]at h;split at h
 ·rename_i x xs h1 h2;cases h;rw[AY h1,Ko h2];rfl
 ·cases h
mutual
def jH(m:Hp):Nat->AC->Option D
|_,.d x=>some x
|_,.msl s b off len=>match m b with
 |.arr s' es=>if s=s'/\off+len<=es.length then(oo es).map λds=>.sl false s ((ds.drop off).take len)else none
 |_=>none
|f+1,.ptr b off=>match m b with
 |.box cs=>(qV m f cs).map λds=>.rp ds off
 |_=>none
|f+1,.fn g caps=>(qV m f caps).map λds=>.fn g ds
|_,_=>none
def qV(m:Hp):Nat->List AC->Option (List D)
|_,[]=>some []
|f,c::cs=>match jH m f c,qV m f cs with
 |some x,some xs=>some (x::xs)
 |_,_=>none
end
mutual
def frzV(m:Hp):AV->Option DV
|.c x=>(jH m 4 x).map .one
|.ag cs=>(qV m 4 cs).map .agg
|.tup vs=>(uL m vs).map .tup
def uL(m:Hp):List AV->Option (List DV)
|[]=>some []
|v::vs=>match frzV m v,uL m vs with
 |some x,some xs=>some (x::xs)
 |_,_=>none
end
@[simp] theorem zhP(m:Hp)(f:Nat)(ds:List D):qV m f (ds.map .d)=some ds:=by
 induction ds with
 |nil=>unfold qV;rfl
 |cons d ds ih=>simp[qV,ih,jH]
def Kq{m:Hp}:∀(f:Nat) (cs:List AC) (ds:List D),qV m f cs=some ds->ds.length=cs.length
|f,[],ds,e=>by unfold qV at e;cases e;rfl
| f,c::cs,ds,e=>by
 unfold qV at e;split at e
 ·rename_i x xs h1 h2;cases e;simp[Kq f cs xs h2]
 ·cases e
def rT(h:PH)(n:Nat)(w:Heap):PH:=λB=>if B<n then h B else w[B]?
section
variable {h:PH} {ρ:RM} {m:Hp} {w:Heap} {n:Nat}
def D6(H:HRel h ρ m w):h.le (rT h n w):=λB o e=>by
 unfold rT;split
 ·exact e
 ·exact H.pers B o e
def IA(H:HRel h ρ m w):∀B o,rT h n w B=some o->w[B]?=some o:=λB o e=>by
 unfold rT at e;split at e
 ·exact H.pers B o e
 ·exact e
mutual
def R3 (H:HRel h ρ m w) (hnew:∀b p,ρ b=some p->Real (m b) p->n<=p.1):∀(f:Nat) (x:AC) (d:D) (v:Value),jH m f x=some d->RepC h ρ x v->RepD (rT h n w) d v
|f,.d x,d,v,e,r=>by
 unfold jH at e;cases e;simp only[RepC]at r;exact RepD.mono (D6 H) x v r
| f, .msl s b off len,d,v,e,r=>by
 unfold jH at e;split at e
 ·rename_i s' es eb;split at e
  ·rename_i hh;obtain⟨h1,h2⟩:=hh;subst h1;simp only[aJ]at e;obtain⟨ds,e1,e2⟩:=e;subst e2;have:=Ko e1;subst this;simp only[RepC]at r;obtain⟨p,a,r1,r2,r3,r4,r5⟩:=r;simp only[ah]at h2;have hlen:((ds.drop off).take len).length=len:=by simp;omega
   have how:=H.own b p r1;rw[eb]at how;unfold RepD;rcases how with⟨q1,q2⟩|⟨us,U,g1,g2,g3,g5,g4⟩
   ·have hds:ds=[]:=by simpa using q2
    subst hds;have hl0:len=0:=by simp at h2;omega
    have ho0:off=0:=by simp at h2;omega
    subst hl0 ho0;refine⟨a,p.2-0,by rw[r2];simp,by simp,(λh=>by cases h),by simp[zao],(λha=>⟨by simp,by omega⟩),r5,by simp[RepE]⟩
   ·refine⟨a,p.2-off,by rw[r2,hlen],by omega,(λh=>by cases h),by simp at g5;omega,λha=>?_,r5,?_⟩
    ·have:¬off<p.2:=λhlt=>by rw[r4 hlt]at ha;cases ha
     have hl0:len=0:=by omega
     subst hl0;exact⟨by simp,by omega⟩
    ·by_cases hlt:off<p.2
     ·have ha:=r4 hlt;subst ha;have hn:n<=p.1:=hnew b p r1 (by rw[eb];show 0<p.2;omega);have e4:cellsAt (rT h n w) (some ⟨p.1,off*s,none⟩)=us.drop (off*s):=by
       simp only[cellsAt,hcells,rT];rw[aA (by omega),g1]
      rw[e4];have g6:=gp.to_E g4;have:=(g6.drop off).take len;have key:∀(es:List (List D)) (vs:List Value),RepE h s es vs->RepE (rT h n w) s es vs:=λes vs r=>by
       simpa using RepE.mono (D6 H) es vs [] r
      exact key _ _ this
     ·have hl0:len=0:=by omega
      subst hl0;simp[RepE]
  ·cases e
 ·cases e
| f+1,.ptr b off,d,v,e,r=>by
 unfold jH at e;split at e
 ·rename_i cs eb;simp only[aJ]at e;obtain⟨ds,e1,e2⟩:=e;subst e2;simp only[RepC]at r;obtain⟨p,r1,r2⟩:=r;have how:=H.own b p r1;rw[eb]at how;obtain⟨us,U,g1,g2,g3⟩:=how;have hn:n<=p.1:=hnew b p r1 (by rw[eb];trivial);unfold RepD;refine⟨p.1,0,by rw[r2];simp,?_⟩;have e4:hcells (rT h n w) p.1=us:=by
   simp only[hcells,rT];rw[aA (by omega),g1]
  rw[e4];exact IB H hnew f cs ds us e1 (by simpa using g3)
 ·cases e
|f+1,.fn g caps,d,v,e,r=>by
 unfold jH at e;simp only[aJ]at e;obtain⟨ds,e1,e2⟩:=e;subst e2;simp only[RepC]at r;obtain⟨vs,r1,r2,r3⟩:=r;unfold RepD;have hl:ds.length=caps.length:=Kq f caps ds e1;exact⟨vs,r1,by rw[r2,hl],IB H hnew f caps ds vs e1 r3⟩
|0,.ptr b off,d,v,e,r=>by unfold jH at e;cases e
|0,.fn g caps,d,v,e,r=>by unfold jH at e;cases e
|0,.ept s b i off,d,v,e,r=>by unfold jH at e;cases e
|_+1,.ept s b i off,d,v,e,r=>by unfold jH at e;cases e
|0,.map b,d,v,e,r=>by unfold jH at e;cases e
|_+1,.map b,d,v,e,r=>by unfold jH at e;cases e
|0,.op q,d,v,e,r=>by unfold jH at e;cases e
|_+1,.op q,d,v,e,r=>by unfold jH at e;cases e
def IB(H:HRel h ρ m w)(hnew:∀b p,ρ b=some p->Real (m b) p->n<=p.1):∀(f:Nat) (cs:List AC) (ds:List D) (vs:List Value),qV m f cs=some ds->gK h ρ cs vs->RepL (rT h n w) ds vs
|f,[],ds,vs,e,r=>by unfold qV at e;cases e;simp[RepL]
|f,_::_,ds,[],e,r=>by simp[gK]at r
| f,c::cs,ds,v::vs,e,r=>by
 unfold qV at e;split at e
 ·rename_i x xs h1 h2;cases e;simp only[gK]at r;simp only[RepL];exact⟨⟨r.1.1,R3 H hnew f c x v h1 r.1.2⟩,IB H hnew f cs xs vs h2 r.2⟩
 ·cases e
end
mutual
def Kr(H:HRel h ρ m w)(hnew:∀b p,ρ b=some p->Real (m b) p->n<=p.1):∀(x:AV) (d:DV) (v:Value),frzV m x=some d->RepV h ρ x v->jZ (rT h n w) d v
|.c x,d,v,e,r=>by
 unfold frzV at e;simp only[aJ]at e;obtain⟨y,e1,e2⟩:=e;subst e2;simp only[RepV]at r;simp only[jZ];exact R3 H hnew _ _ _ _ e1 r
|.ag cs,d,v,e,r=>by
 unfold frzV at e;simp only[aJ]at e;obtain⟨y,e1,e2⟩:=e;subst e2;simp only[RepV]at r;obtain⟨vs,r1,r2,r3⟩:=r;simp only[jZ];exact⟨vs,r1,by rw[r2,Kq _ _ _ e1],IB H hnew _ _ _ _ e1 r3⟩
|.tup xs,d,v,e,r=>by
 unfold frzV at e;simp only[aJ]at e;obtain⟨y,e1,e2⟩:=e;subst e2;simp only[RepV]at r;obtain⟨vs,r1,r2⟩:=r;simp only[jZ];exact⟨vs,r1,IC H hnew _ _ _ e1 r2⟩
def IC(H:HRel h ρ m w)(hnew:∀b p,ρ b=some p->Real (m b) p->n<=p.1):∀(xs:List AV) (ds:List DV) (vs:List Value),uL m xs=some ds->zad h ρ xs vs->ja (rT h n w) ds vs
|[],ds,vs,e,r=>by unfold uL at e;cases e;simpa[zad,ja]using r
|_::_,ds,[],e,r=>by simp[zad]at r
| x::xs,ds,v::vs,e,r=>by
 unfold uL at e;split at e
 ·rename_i y ys h1 h2;cases e;simp only[zad]at r;simp only[ja];exact⟨Kr H hnew x y v h1 r.1,IC H hnew xs ys vs h2 r.2⟩
 ·cases e
end
end
mutual
def D.ok:D->Prop
|.any=>True
|.int k n=>k.min<=n/\n<=k.max
|.bool _=>True
|.str s=>s.size<=zao
|.sc _=>True
|.sl _ s es=>es.length<=zao/\D.okE s es
|.rp cs _=>D.okL cs
|.fn _ cs=>D.okL cs
|.ifc _ _ cs=>D.okL cs
|.mp _ _=>True
def D.okL:List D->Prop
|[]=>True
|d::ds=>d.ok/\D.okL ds
def D.okE(s:Nat):List (List D)->Prop
|[]=>True
|e::es=>(e.length=s/\D.okL e)/\D.okE s es
end
mutual
def RepD.ok{h:PH}:∀(d:D) (v:Value),RepD h d v->d.ok
|.any,_,_=>by simp[D.ok]
|.int k n,v,r=>by simp only[RepD]at r;simp only[D.ok];exact r.2
|.bool _,_,_=>by simp[D.ok]
|.str s,v,r=>by simp only[RepD]at r;simp only[D.ok];exact r.2
|.sc _,_,_=>by simp[D.ok]
|.sl x s es,v,r=>by
 simp only[RepD]at r;obtain⟨a,cap,r1,r2,r3,r4,r5,r6,r7⟩:=r;simp only[D.ok];exact⟨r4,RepE.ok s es _ r7⟩
|.rp cs off,v,r=>by
 simp only[RepD]at r;obtain⟨B,o,r1,r2⟩:=r;simp only[D.ok];exact RepL.ok cs _ r2
|.fn f caps,v,r=>by
 simp only[RepD]at r;obtain⟨vs,r1,r2,r3⟩:=r;simp only[D.ok];exact RepL.ok caps _ r3
|.ifc t ag cs,v,r=>by
 simp only[RepD]at r;obtain⟨vs,r1,r2,r3,r4⟩:=r;simp only[D.ok];exact RepL.ok cs _ r4
|.mp _ _,_,_=>by simp[D.ok]
def RepL.ok{h:PH}:∀(ds:List D) (vs:List Value),RepL h ds vs->D.okL ds
|[],_,_=>by simp[D.okL]
|_::_,[],r=>by simp[RepL]at r
|d::ds,v::vs,r=>by
 simp only[RepL]at r;simp only[D.okL];exact⟨RepD.ok d v r.1.2,RepL.ok ds vs r.2⟩
def RepE.ok{h:PH}(s:Nat):∀(es:List (List D)) (vs:List Value),RepE h s es vs->D.okE s es
|[],_,_=>by simp[D.okE]
|e::es,vs,r=>by
 simp only[RepE]at r;simp only[D.okE];exact⟨⟨r.1,RepL.ok e vs r.2.1⟩,RepE.ok s es _ r.2.2⟩
end
mutual
def DV.ok:DV->Prop
|.one x=>x.ok
|.agg cs=>D.okL cs
|.tup vs=>DV.okL vs
def DV.okL:List DV->Prop
|[]=>True
|v::vs=>v.ok/\DV.okL vs
end
mutual
def jZ.ok{h:PH}:∀(d:DV) (v:Value),jZ h d v->d.ok
|.one x,v,r=>by simp only[jZ]at r;simp only[DV.ok];exact RepD.ok _ _ r
|.agg cs,v,r=>by
 simp only[jZ]at r;obtain⟨vs,r1,r2,r3⟩:=r;simp only[DV.ok];exact RepL.ok _ _ r3
|.tup xs,v,r=>by
 simp only[jZ]at r;obtain⟨vs,r1,r2⟩:=r;simp only[DV.ok];exact ja.ok _ _ r2
def ja.ok{h:PH}:∀(ds:List DV) (vs:List Value),ja h ds vs->DV.okL ds
|[],_,_=>by simp[DV.okL]
|_::_,[],r=>by simp[ja]at r
|d::ds,v::vs,r=>by
 simp only[ja]at r;simp only[DV.okL];exact⟨jZ.ok d v r.1,ja.ok ds vs r.2⟩
end
def D.er:D->D
|.sl _ s es=>.sl false s es
|d=>d
def RepD.er{h:PH}{d:D}{v:Value}(r:RepD h d v):RepD h d.er v:=by
 cases d with
 |sl x s es=>
  simp only[D.er];simp only[RepD]at r⊢;obtain⟨a,cap,r1,r2,r3,r4⟩:=r;exact⟨a,cap,r1,r2,(λh=>by cases h),r4⟩
 |_=>exact r
def RepL.er{h:PH}:∀{ds:List D} {vs:List Value},RepL h ds vs->RepL h (ds.map D.er) vs
|[],_,_=>by simp[RepL]
|_::_,[],r=>by simp[RepL]at r
|d::ds,v::vs,r=>by
 simp only[RepL]at r;simp only[List.map_cons,RepL];exact⟨⟨r.1.1,r.1.2.er⟩,r.2.er⟩
mutual
def DV.er:DV->DV
|.one x=>.one x.er
|.agg cs=>.agg (cs.map D.er)
|.tup vs=>.tup (DV.ers vs)
def DV.ers:List DV->List DV
|[]=>[]
|v::vs=>v.er::DV.ers vs
end
mutual
def jZ.er{h:PH}:∀{d:DV} {v:Value},jZ h d v->jZ h d.er v
|.one x,v,r=>by simp only[jZ,DV.er]at r⊢;exact RepD.er r
|.agg cs,v,r=>by
 simp only[jZ,DV.er]at r⊢;obtain⟨vs,r1,r2,r3⟩:=r;exact⟨vs,r1,by simpa using r2,r3.er⟩
|.tup xs,v,r=>by
 simp only[jZ,DV.er]at r⊢;obtain⟨vs,r1,r2⟩:=r;exact⟨vs,r1,ja.ers r2⟩
def ja.ers{h:PH}:∀{ds:List DV} {vs:List Value},ja h ds vs->ja h (DV.ers ds) vs
|[],_,r=>by simpa[ja,DV.ers]using r
|_::_,[],r=>by simp[ja]at r
|d::ds,v::vs,r=>by
 simp only[ja]at r;simp only[DV.ers,ja];exact⟨r.1.er,ja.ers r.2⟩
end
inductive MR where
|tmp (t:Nat)
|cell (t:Nat) (ag:Bool) (sz:Nat)
def ku(P:Program):List MR->List ResultVar->Bool
|[],[]=>true
|.tmp t::rs,.tmp t'::vs=>t==t'&&ku P rs vs
|.cell t ag sz::rs,.cell t' T::vs=>t==t'&&yQ P T==some (ag,sz)&&ku P rs vs
|_,_=>false
def vk(S:St)(K:AV->Prop):MR->Prop
|.tmp t=>K (S.get t)
| .cell t ag sz=>match S.get t with
 |.c (.d (.rp cs off))=>A7 ag sz cs off K
 |.c (.ptr b off)=>match S.m b with
  |.box cs=>wu ag sz cs off K
  |_=>False
 |_=>False
def vo(S:St):List MR->(List AV->Prop)->Prop
|[],K=>K []
|r::rs,K=>vk S (λv=>vo S rs λvs=>K (v::vs)) r
def vv:List Value->Value
|[v]=>v
|vs=>.tuple vs.toArray
def one?:List AV->AV
|[v]=>v
|vs=>.tup vs
section
variable {P:Program} {c:Ctx}
def zfR{S:St}{K:AV->Prop}{r:MR}{rv:ResultVar}(hc:ku P [r] [rv]=true)(hK:vk S K r):∃v,K v/\∀{h:PH} {ρ:RM} {a:Act} {w:World},HRel h ρ S.m w.heap->(∀k,RepV h ρ (S.get k) (a.tmps.getD k undef))->
  ∃vC,fe P (match rv with|.tmp t=>(Pure.pure (a.tmps.getD t undef):Sem Value)|.cell t T=>do loadVar T (<-asAddr (a.tmps.getD t undef))) w vC w/\RepV h ρ v vC:=by
 cases r with
 | tmp t=>
  cases rv with
  |tmp t'=>
   simp only[ku,Bool.and_true,aV]at hc;subst hc;exact⟨_,hK,λ{h ρ a w} H hg=>⟨_,dx _,hg t⟩⟩
  |cell _ _=>simp[ku]at hc
 | cell t ag sz=>
  cases rv with
  |tmp _=>simp[ku]at hc
  | cell t' T=>
   simp only[ku,Bool.and_true,aC,aV]at hc;obtain⟨h1,hT⟩:=hc;subst h1;simp only[vk]at hK;split at hK
   ·rename_i cs off ex;obtain⟨v,kv,F⟩:=Q6 hT hK;refine⟨v,kv,λ{h ρ a w} H hg=>?_⟩;have r1:=hg t;rw[ex]at r1;simp only[RepV,RepC,RepD]at r1;obtain⟨B,o',e,rl⟩:=r1;obtain⟨vC,h2,h3⟩:=F (ρ:=ρ) H rl;refine⟨vC,?_,h3⟩;show fe P (do loadVar T (<-asAddr (a.tmps.getD t undef))) w vC w;rw[e];exact(dx (⟨B,o'+off,none⟩:Addr)).bind h2
   ·rename_i b off ex;split at hK
    ·rename_i cs eb;obtain⟨v,kv,F⟩:=Gy hT hK;refine⟨v,kv,λ{h ρ a w} H hg=>?_⟩;have r1:=hg t;rw[ex]at r1;simp only[RepV,RepC]at r1;obtain⟨q,hq,e⟩:=r1;have how:=H.own b q hq;rw[eb]at how;obtain⟨vs,U,g1,g2,g3⟩:=how;obtain⟨vC,h2,h3⟩:=F (w:=w) (o:=0) g1 (by simpa using g3);refine⟨vC,?_,h3⟩;show fe P (do loadVar T (<-asAddr (a.tmps.getD t undef))) w vC w;rw[e];simp only[Nat.zero_add]at h2;exact(dx (⟨q.1,off,none⟩:Addr)).bind h2
    ·exact hK.elim
   ·exact hK.elim
def IE{S:St}:∀{rs:List MR} {K:List AV->Prop} {rvs:List ResultVar},ku P rs rvs=true->vo S rs K->∃vs,K vs/\∀{h:PH} {ρ:RM} {a:Act} {w:World},HRel h ρ S.m w.heap->(∀k,RepV h ρ (S.get k) (a.tmps.getD k undef))->
 ∃us:List Value,fe P (rvs.mapM λ|.tmp t=>(Pure.pure (a.tmps.getD t undef):Sem Value)|.cell t T=>do loadVar T (<-asAddr (a.tmps.getD t undef))) w us w/\zad h ρ vs us
|[],K,[],_,hK=>⟨[],hK,λ_ _=>⟨[],dx _,rfl⟩⟩
|[],_,_::_,h,_=>by simp[ku]at h
|r::rs,_,[],h,_=>by cases r<;>simp[ku]at h
| r::rs,K,rv::rvs,hc,hK=>by
 have h1:ku P [r] [rv]=true/\ku P rs rvs=true:=by
  cases r<;>cases rv<;>simp_all[ku]
 simp only[vo]at hK;obtain⟨v,kv,F⟩:=zfR h1.1 hK;obtain⟨vs,kvs,G⟩:=IE h1.2 kv;refine⟨v::vs,kvs,λ{h ρ a w} H hg=>?_⟩;obtain⟨vC,f1,f2⟩:=F (a:=a) H hg;obtain⟨us,g1,g2⟩:=G (a:=a) H hg;refine⟨vC::us,?_,⟨f2,g2⟩⟩;rw[List.mapM_cons];exact f1.bind (g1.bind (dx _))
def oQ:Nat->List DV->List (Nat × AV)
|_,[]=>[]
|i,v::vs=>(i,v.av)::oQ (i+1) vs
def zO(rs:List MR)(v:DV):Exit->St->Prop
|.ret,S|.normal,S=>vo S rs λvs=>(frzV S.m (one? vs)).map DV.er=some v
|_,_=>False
def Kt{h:PH}{ρ:RM}:∀{ds:List DV} {us:List Value} (i:Nat),ja h ds us->∀k,RepV h ρ (look (oQ i ds) k) (if i<=k then us.getD (k-i) undef else undef)
|[],us,i,_,k=>by simp[oQ,look,RepV,RepC,RepD]
|_::_,[],_,r,_=>by simp[ja]at r
| d::ds,u::us,i,r,k=>by
 simp only[ja]at r;simp only[oQ,look];by_cases hk:k=i
 ·subst hk;simp;exact jZ.av r.1
 ·rw[aA hk];have:=Kt (ρ:=ρ) (i+1) r.2 k;by_cases hle:i<=k
  ·rw[aB hle];rw[aB (by omega)]at this;rw[show k-i=(k-(i+1))+1 from by omega];simpa using this
  ·rw[aA hle];rw[aA (by omega)]at this;exact this
def fu.of_walk {f : FuncId} {fn : Func} {code : Code} {mc : MC} {rs : List MR} {args : List DV} {v : DV} (hf : P.funcs[f]? = some fn) (hb : fn.body = some code) (hname : (fn.name != "runtime.NumGoroutine") = true)
  (hc:iH P fn.ntmps mc code=true) (hr:ku P rs fn.results.toList=true) (hn:args.length<=fn.ntmps) (h:DV.okL args->∀c:Ctx,c.N=fn.ntmps->c.pure->AW P c mc (zO rs v) ⟨oQ 0 args,λ_=>.non,0⟩):fu P f args v:=by
 refine⟨by unfold callee;rw[hf];simp only[hb];simpa using hname,λph w us hp hG hS ra=>?_⟩;have hlen:=ra.length;let c:Ctx:=⟨ph,λ_=>none,λ_=>.non,w,fn.ntmps,[]⟩
 have hpure:c.pure:=trivial;refine calls_of_wp hf hb (wp_mono (h (ja.ok _ _ ra) c rfl hpure code hc _ w ?_) λe a' w' ⟨S',r',q⟩=>?_)
 ·refine⟨hG,jQ.mono hS (eZ _) (aK _) (λ_ _ _=>⟨rfl,rfl,λb p hp=>by cases hp⟩),rfl,?_,ph,λ_=>none,⟨hp,λb=>by simp,(λb p e=>by cases e),(λb c p q e=>by cases e),(λb p e=>by cases e)⟩,(Step.refl _ _ _ _).wk,fC w,λk=>?_⟩
  ·simp[c];omega
  ·show RepV ph (λ_=>none) (look (oQ 0 args) k) _;have:=Kt (ρ:=λ_=>none) 0 ra k;simp only[dO,if_true,dP]at this;have e1:(us.toArray++Array.replicate (fn.ntmps-us.toArray.size) undef).getD k undef=us.getD k undef:=by
    rw[aT,aF,Array.getElem?_append];split
    ·simp
    ·rename_i hh;rw[aM (by simpa using hh)];simp only[bK];split<;>rfl
   rw[e1];exact this
 ·obtain⟨ph',ρ',H,S0,e0,hg⟩:=r'.ex
  have fin:vo S' rs (λvs=>(frzV S'.m (one? vs)).map DV.er=some v)->∃vC,(results fn a'.tmps).run P w'=.ok vC w'/\∃(vC':Value) (h':PH),Ending.returned vC=.returned vC'/\ph.le h'/\(∀B,B<w.heap.size->h' B=ph B)/\(∀B o,h' B=some o->w'.heap[B]?=some o)/\
    w.heap.size<=w'.heap.size/\(∀B,B<w.heap.size->w'.heap[B]?=w.heap[B]?)/\Same w w'/\jZ h' v vC':=by
   intro hk;obtain⟨vs,kv,F⟩:=IE hr hk;simp only[aJ]at kv;obtain⟨v',kv,ev⟩:=kv;subst ev;obtain⟨us',g1,g2⟩:=F (a:=a') H hg;have hnew:∀b p,ρ' b=some p->Real (S'.m b) p->w.heap.size<=p.1:=by
    intro b p h1 h2;rcases S0.own b p h1 h2 with h3|⟨c',q,h3,_⟩
    ·exact h3
    ·cases h3
   have free:∀B,jm c.ρ c.m B:=λB b p h1=>by cases h1
   have hres:fe P (results fn a'.tmps) w' (vv us') w':=by
    unfold results;refine dz (a:=us'.toArray) (w':=w') ?_ ?_
    ·rw[cO];exact g1.map (f:=List.toArray)
    ·cases us' with
     |nil=>exact dx _
     |cons u us'=>
      cases us' with
      |nil=>exact dx _
      |cons u' us'=>exact dx _
   have hrep:RepV ph' ρ' (one? vs) (vv us'):=by
    cases vs with
    |nil=>
     simp only[zad]at g2;subst g2;simp only[one?,RepV];exact⟨[],rfl,rfl⟩
    | cons x xs=>
     cases us' with
     |nil=>simp[zad]at g2
     | cons u us'=>
      cases xs with
      |nil=>
       simp only[zad]at g2;rw[g2.2];exact g2.1
      | cons y ys=>
       cases us' with
       |nil=>simp[zad]at g2
       |cons u' us'=>
        simp only[one?,RepV];exact⟨_,rfl,g2⟩
   refine⟨_,hres,_,rT ph' w.heap.size w'.heap,rfl,PH.le_trans S0.hle (D6 H),λB hB=>?_,IA H,S0.size,λB hB=>S0.frame B hB (free B),e0,(Kr H hnew _ _ _ kv hrep).er⟩;unfold rT;rw[aB hB];exact S0.hlow B hB (free B)
  cases e with
  |normal=>exact⟨r'.defers,fin q⟩
  |ret=>exact⟨r'.defers,fin q⟩
  |exit _=>exact q.elim
  |goto _=>exact q.elim
  |panic _=>exact q.elim
  |outgrown=>exact q.elim
end
end Go.Abs
namespace Go.Abs
variable [jQ]
def AC.fz(b s:Nat)(ds:List (List D)):AC->AC
|.msl s' b' off len=>if b'=b/\s'=s/\off+len<=ds.length then .d (.sl false s ((ds.drop off).take len))else .msl s' b' off len
|x=>x
def AV.fz(b s:Nat)(ds:List (List D)):AV->AV
|.c x=>.c (x.fz b s ds)
|.ag cs=>match jC cs with
 |some _=>.ag cs
 |none=>.ag (cs.map (AC.fz b s ds))
|.tup vs=>.tup vs
def Blk.fz(b s:Nat)(ds:List (List D)):Blk->Blk
|.box cs=>match jC cs with
 |some _=>.box cs
 |none=>.box (cs.map (AC.fz b s ds))
|.arr s' es=>match oo es with
 |some _=>.arr s' es
 |none=>.arr s' (es.map (·.map (AC.fz b s ds)))
|x=>x
@[simp] theorem AC.fz_msl{b s:Nat}{ds:List (List D)}{s' b' off len:Nat}:(AC.msl s' b' off len).fz b s ds=if b'=b/\s'=s/\off+len<=ds.length then .d (.sl false s ((ds.drop off).take len))else .msl s' b' off len:=(aL _).trans rfl
@[simp] theorem AC.fz_d{b s:Nat}{ds:List (List D)}{x:D}:(AC.d x).fz b s ds=.d x:=(aL _).trans rfl
@[simp] theorem AC.fz_ptr{b s:Nat}{ds:List (List D)}{i j:Nat}:(AC.ptr i j).fz b s ds=.ptr i j:=(aL _).trans rfl
@[simp] theorem AC.fz_ept{b s:Nat}{ds:List (List D)}{i j k l:Nat}:(AC.ept i j k l).fz b s ds=.ept i j k l:=(aL _).trans rfl
@[simp] theorem AV.fz_c{b s:Nat}{ds:List (List D)}{x:AC}:(AV.c x).fz b s ds=.c (x.fz b s ds):=(aL _).trans rfl
@[simp] theorem AV.fz_ag{b s:Nat}{ds:List (List D)}{cs:List AC}:(AV.ag cs).fz b s ds=(match jC cs with
 |some _=>.ag cs
 |none=>.ag (cs.map (AC.fz b s ds))):=(aL _).trans rfl
@[simp] theorem AV.fz_tup{b s:Nat}{ds:List (List D)}{vs:List AV}:(AV.tup vs).fz b s ds=.tup vs:=(aL _).trans rfl
@[simp] theorem Blk.fz_box{b s:Nat}{ds:List (List D)}{cs:List AC}:(Blk.box cs).fz b s ds=(match jC cs with
 |some _=>.box cs
 |none=>.box (cs.map (AC.fz b s ds))):=(aL _).trans rfl
@[simp] theorem Blk.fz_arr{b s:Nat}{ds:List (List D)}{s':Nat}{es:List (List AC)}:(Blk.arr s' es).fz b s ds=(match oo es with
 |some _=>.arr s' es
 |none=>.arr s' (es.map (·.map (AC.fz b s ds)))):=(aL _).trans rfl
@[simp] theorem Blk.fz_dead{b s:Nat}{ds:List (List D)}:Blk.dead.fz b s ds=.dead:=(aL _).trans rfl
@[simp] theorem Blk.fz_nonB{b s:Nat}{ds:List (List D)}:Blk.non.fz b s ds=.non:=(aL _).trans rfl
@[simp] theorem Blk.fz_mapB{b s:Nat}{ds:List (List D)}{es:List (D × AV)}:(Blk.map es).fz b s ds=.map es:=(aL _).trans rfl
@[simp] theorem Blk.fz_pin{b s:Nat}{ds:List (List D)}{t:Nat × Nat}{i:Nat}:(Blk.pin t i).fz b s ds=.pin t i:=(aL _).trans rfl
@[simp] theorem R4{α:Type}(l:List α)(f:α->List D):oo (l.map ((λx=>List.map AC.d x)∘f))=some (l.map f):=by
 rw[<-dK];exact Kn _
section
variable {h:PH} {ρ:RM} {m:Hp} {w:Heap} {b s:Nat} {ds:List (List D)}
noncomputable def u6 (h:PH) (p:Nat × Nat) (w:Heap):PH:=if 0<p.2 then upd h p.1 w[p.1]? else h
def Eb(H:HRel h ρ m w){p:Nat × Nat}(e:ρ b=some p)(hb:m b=.arr s (ds.map (·.map .d))):
  HRel (u6 h p w) ρ (upd m b .dead) w/\Step h ρ m w (u6 h p w) ρ (upd m b .dead) w/\h.le (u6 h p w):=by
 unfold u6;by_cases hp:0<p.2
 ·rw[aB hp];obtain⟨a,c⟩:=H.freeze e (show Real (m b) p by rw[hb];exact hp);exact⟨a,c,c.hle⟩
 ·rw[aA hp];obtain⟨a,c⟩:=H.kill (b:=b) (by rw[hb];intro h;cases h);exact⟨a,c,c.hle⟩
def RepC.fz(H:HRel h ρ m w){p:Nat × Nat}(e:ρ b=some p)(hb:m b=.arr s (ds.map (·.map .d))){x:AC}{v:Value}(r:RepC h ρ x v):RepC (u6 h p w) ρ (x.fz b s ds) v:=by
 have hle:=(Eb H e hb).2.2;cases x with
 | msl s' b' off len=>
  show RepC _ _ (if b'=b/\s'=s/\off+len<=ds.length then AC.d (.sl false s ((ds.drop off).take len))else .msl s' b' off len) v;by_cases hh:b'=b/\s'=s/\off+len<=ds.length
  ·rw [aB hh];obtain⟨rfl,rfl,h2⟩:=hh;simp only[RepC]at r⊢;obtain⟨p',a,r1,r2,r3,r4,r5⟩:=r;rw[e]at r1;cases r1;have hlen:((ds.drop off).take len).length=len:=by simp;omega
   have how:=H.own b' p e;rw[hb]at how;unfold RepD;rcases how with⟨q1,q2⟩|⟨us,U,g1,g2,g3,g5,g4⟩
   ·have hds:ds=[]:=by simpa using q2
    subst hds;have hl0:len=0:=by simp at h2;omega
    have ho0:off=0:=by simp at h2;omega
    subst hl0 ho0;exact⟨a,p.2-0,by rw[r2];simp,by simp,(λh=>by cases h),by simp[zao],(λha=>⟨by simp,by omega⟩),r5,by simp[RepE]⟩
   ·refine⟨a,p.2-off,by rw[r2,hlen],by omega,(λh=>by cases h),by simp at g5;omega,λha=>?_,r5,?_⟩
    ·have:¬off<p.2:=λhlt=>by rw[r4 hlt]at ha;cases ha
     have hl0:len=0:=by omega
     subst hl0;exact⟨by simp,by omega⟩
    ·by_cases hlt:off<p.2
     ·have ha:=r4 hlt;subst ha;have e4:cellsAt (u6 h p w) (some ⟨p.1,off*s',none⟩)=us.drop (off*s'):=by
       unfold u6;rw[aB (by omega)];simp only[cellsAt,hcells,zae];rw[g1]
      rw[e4];have g6:=gp.to_E g4;have:=(g6.drop off).take len;have key:∀(es:List (List D)) (vs:List Value),RepE h s' es vs->RepE (u6 h p w) s' es vs:=λes vs r=>by
       simpa using RepE.mono hle es vs [] r
      exact key _ _ this
     ·have hl0:len=0:=by omega
      subst hl0;simp[RepE]
  ·rw[aA hh];exact RepC.mono hle (fA _) _ _ r
 |_=>exact RepC.mono hle (fA _) _ _ r
def gK.fz(H:HRel h ρ m w){p:Nat × Nat}(e:ρ b=some p)(hb:m b=.arr s (ds.map (·.map .d))):∀{cs:List AC} {vs:List Value},gK h ρ cs vs->gK (u6 h p w) ρ (cs.map (AC.fz b s ds)) vs
|[],_,_=>by simp[gK]
|_::_,[],r=>by simp[gK]at r
|c::cs,v::vs,r=>by
 simp only[gK,List.map_cons]at r⊢;exact⟨⟨r.1.1,RepC.fz H e hb r.1.2⟩,gK.fz H e hb r.2⟩
def gp.fz(H:HRel h ρ m w){p:Nat × Nat}(e:ρ b=some p)(hb:m b=.arr s (ds.map (·.map .d))){t:Nat}:∀{es:List (List AC)} {vs:List Value},gp h ρ t es vs->gp (u6 h p w) ρ t (es.map (·.map (AC.fz b s ds))) vs
|[],_,_=>by simp[gp]
|c::cs,vs,r=>by
 simp only[gp,List.map_cons,ah]at r⊢;exact⟨r.1,gK.fz H e hb r.2.1,gp.fz H e hb r.2.2⟩
def RepV.fz(H:HRel h ρ m w){p:Nat × Nat}(e:ρ b=some p)(hb:m b=.arr s (ds.map (·.map .d))){x:AV}{v:Value}(r:RepV h ρ x v):RepV (u6 h p w) ρ (x.fz b s ds) v:=by
 cases x with
 |c x=>simp only[RepV,AV.fz]at r⊢;exact RepC.fz H e hb r
 | ag cs=>
  rw[AV.fz_ag];split
  ·exact RepV.mono (Eb H e hb).2.2 (fA _) _ _ r
  ·simp only[RepV,ah]at r⊢;obtain⟨vs,r1,r2,r3⟩:=r;exact⟨vs,r1,r2,gK.fz H e hb r3⟩
 |tup vs=>exact RepV.mono (Eb H e hb).2.2 (fA _) _ _ r
def Blk.fz_non{x:Blk}:x.fz b s ds=.non↔x=.non:=by cases x<;>simp<;>split<;>simp
def Blk.fz_real{x:Blk}{p:Nat × Nat}:Real (x.fz b s ds) p↔Real x p:=by cases x<;>simp<;>split<;>simp[Real]
def zaj.fz(H:HRel h ρ m w){p q:Nat × Nat}(e:ρ b=some p)(hb:m b=.arr s (ds.map (·.map .d))){x:Blk}(r:zaj h ρ q x w):zaj (u6 h p w) ρ q (x.fz b s ds) w:=by
 have hle:=(Eb H e hb).2.2;cases x with
 | box cs=>
  rw[Blk.fz_box];split
  ·exact zaj.congr hle (fA _) rfl r
  ·simp only[zaj,ah]at r⊢;obtain⟨vs,T,r1,r2,r3⟩:=r;exact⟨vs,T,r1,r2,gK.fz H e hb r3⟩
 | arr t es=>
  rw[Blk.fz_arr];split
  ·exact zaj.congr hle (fA _) rfl r
  ·simp only[zaj,ah,List.map_eq_nil_iff]at r⊢;rcases r with r|⟨vs,T,r1,r2,r3,r4,r5⟩
   ·exact .inl r
   ·exact .inr ⟨vs,T,r1,r2,r3,r4,gp.fz H e hb r5⟩
 |_=>exact zaj.congr hle (fA _) rfl r
def vM(m:Hp)(b s:Nat)(ds:List (List D)):Hp:=λi=>if i=b then .dead else(m i).fz b s ds
@[simp] theorem Ku(m:Hp)(b s:Nat)(ds:List (List D))(i:Nat):vM m b s ds i=if i=b then .dead else(m i).fz b s ds:=(aL _).trans rfl
def HRel.fz(H:HRel h ρ m w){p:Nat × Nat}(e:ρ b=some p)(hb:m b=.arr s (ds.map (·.map .d))):
  HRel (u6 h p w) ρ (vM m b s ds) w/\Step h ρ m w (u6 h p w) ρ (vM m b s ds) w:=by
 obtain⟨K,S,hle⟩:=Eb H e hb;have hn:∀i,vM m b s ds i=.non↔upd m b .dead i=.non:=λi=>by
  unfold vM;by_cases hi:i=b
  ·subst hi;rw[aB rfl,zae]
  ·rw[aA hi,zah _ _ hi];exact Blk.fz_non
 have hr:∀i q,Real (vM m b s ds i) q↔Real (upd m b .dead i) q:=λi q=>by
  unfold vM;by_cases hi:i=b
  ·subst hi;rw[aB rfl,zae]
  ·rw[aA hi,zah _ _ hi];exact Blk.fz_real
 refine⟨⟨K.pers,λi=>(hn i).trans (K.dom i),λi q hq=>?_,λi j q q' h1 h2 h3 h4=>K.inj i j q q' h1 h2 ((hr _ _).1 h3) ((hr _ _).1 h4),λi q h1 h2=>K.sep i q h1 ((hr _ _).1 h2)⟩,
  ⟨S.hle,S.hlow,S.rle,S.size,S.frame,λi q h1 h2=>S.own i q h1 ((hr _ _).1 h2)⟩⟩
 unfold vM;by_cases hi:i=b
 ·subst hi;rw[aB rfl];trivial
 ·rw[aA hi];exact zaj.fz H e hb (H.own i q hq)
end
def kR.fz{P:Program}{c:Ctx}{get:Nat->AV}{m:Hp}{a:Act}{w:World}{b s:Nat}{ds:List (List D)}(R:kR P c get m a w)(hb:m b=.arr s (ds.map (·.map .d))):kR P c (λk=>(get k).fz b s ds) (vM m b s ds) a w:=by
 obtain⟨h,ρ,H,S,sm,r⟩:=R.ex;have hne:ρ b≠none:=λe=>by have:=(H.dom b).2 e;rw[hb]at this;cases this
 obtain⟨p,e⟩:=Option.ne_none_iff_exists'.1 hne;obtain⟨K,T⟩:=H.fz e hb;exact⟨R.gnd,R.sd,R.defers,R.size,⟨_,ρ,K,S.trans T,sm,λk=>RepV.fz H e hb (r k)⟩⟩
def uM:List (D × AV)->Option (List D × List D)
|[]=>some ([],[])
|(k,.c (.d v))::es=>if k.one&&v.one then(uM es).map λp=>(k::p.1,v::p.2)else none
|_=>none
def AC.fm(b:Nat)(ks us:List D):AC->AC
|.map b'=>if b'=b then .d (.mp ks us)else .map b'
|x=>x
def AV.fm(b:Nat)(ks us:List D):AV->AV
|.c x=>.c (x.fm b ks us)
|.ag cs=>match jC cs with
 |some _=>.ag cs
 |none=>.ag (cs.map (AC.fm b ks us))
|.tup vs=>.tup vs
def Blk.fm(b:Nat)(ks us:List D):Blk->Blk
|.box cs=>match jC cs with
 |some _=>.box cs
 |none=>.box (cs.map (AC.fm b ks us))
|.arr s' es=>match oo es with
 |some _=>.arr s' es
 |none=>.arr s' (es.map (·.map (AC.fm b ks us)))
|x=>x
section
variable {b:Nat} {ks us:List D}
@[simp] theorem AC.fm_map{i:Nat}:(AC.map i).fm b ks us=if i=b then .d (.mp ks us)else .map i:=(aL _).trans rfl
@[simp] theorem AC.fm_d{x:D}:(AC.d x).fm b ks us=.d x:=(aL _).trans rfl
@[simp] theorem AC.fm_ptr{i j:Nat}:(AC.ptr i j).fm b ks us=.ptr i j:=(aL _).trans rfl
@[simp] theorem AC.fm_msl{i j k l:Nat}:(AC.msl i j k l).fm b ks us=.msl i j k l:=(aL _).trans rfl
@[simp] theorem AV.fm_c{x:AC}:(AV.c x).fm b ks us=.c (x.fm b ks us):=(aL _).trans rfl
@[simp] theorem AV.fm_ag{cs:List AC}:(AV.ag cs).fm b ks us=(match jC cs with
 |some _=>.ag cs
 |none=>.ag (cs.map (AC.fm b ks us))):=(aL _).trans rfl
@[simp] theorem Blk.fm_box{cs:List AC}:(Blk.box cs).fm b ks us=(match jC cs with
 |some _=>.box cs
 |none=>.box (cs.map (AC.fm b ks us))):=(aL _).trans rfl
@[simp] theorem Blk.fm_arr{s':Nat}{es:List (List AC)}:(Blk.arr s' es).fm b ks us=(match oo es with
 |some _=>.arr s' es
 |none=>.arr s' (es.map (·.map (AC.fm b ks us)))):=(aL _).trans rfl
@[simp] theorem Blk.fm_dead:Blk.dead.fm b ks us=.dead:=(aL _).trans rfl
@[simp] theorem Blk.fm_nonB:Blk.non.fm b ks us=.non:=(aL _).trans rfl
@[simp] theorem Blk.fm_mapB{es:List (D × AV)}:(Blk.map es).fm b ks us=.map es:=(aL _).trans rfl
@[simp] theorem Blk.fm_pin{t:Nat × Nat}{i:Nat}:(Blk.pin t i).fm b ks us=.pin t i:=(aL _).trans rfl
end
section
variable {h:PH} {ρ:RM} {m:Hp} {w:Heap} {b:Nat} {ks us:List D} {es:List (D × AV)}
def R5:∀{es:List (D × AV)} {ks us:List D} {ms:List MapEntry},uM es=some (ks,us)->RepM h ρ es ms->ms.length=ks.length/\ms.length=us.length/\RepL h ks (ms.map (·.key))/\RepL h us (ms.map (·.val))
|[],ks,us,ms,e,r=>by
 simp only[uM,aO,ax]at e;simp only[RepM]at r;subst r;obtain⟨rfl,rfl⟩:=e;simp[RepL]
|_::_,ks,us,[],e,r=>by simp[RepM]at r
| (k,v)::es,ks,us,x::ms,e,r=>by
 simp only[RepM]at r;unfold uM at e;split at e
 ·rename_i h0;cases h0
 ·rename_i k' v' es' h0;cases h0;split at e
  ·rename_i h1;simp only[aC]at h1;simp only[aJ]at e;obtain⟨⟨p,q⟩,e1,e2⟩:=e;simp only[ax]at e2;obtain⟨rfl,rfl⟩:=e2;obtain⟨g1,g2,g3,g4⟩:=R5 e1 r.2;have r2:=r.1.2;simp only[RepV,RepC]at r2;simp only[List.length_cons,List.map_cons,RepL,g1];exact⟨trivial,by rw[<-g1,g2],⟨⟨D.one_ok r.1.1 h1.1,r.1.1⟩,g3⟩,⟨D.one_ok r2 h1.2,r2⟩,g4⟩
  ·cases e
 ·cases e
def Ec(H:HRel h ρ m w){p:Nat × Nat}(e:ρ b=some p)(hb:m b=.map es):
  HRel (upd h p.1 w[p.1]?) ρ (upd m b .dead) w/\Step h ρ m w (upd h p.1 w[p.1]?) ρ (upd m b .dead) w/\h.le (upd h p.1 w[p.1]?):=by
 obtain⟨a,c⟩:=H.freeze e (show Real (m b) p by rw[hb];trivial);exact⟨a,c,c.hle⟩
def RepC.fm(H:HRel h ρ m w){p:Nat × Nat}(e:ρ b=some p)(hb:m b=.map es)(ha:uM es=some (ks,us)){x:AC}{v:Value}(r:RepC h ρ x v):RepC (upd h p.1 w[p.1]?) ρ (x.fm b ks us) v:=by
 have hle:=(Ec H e hb).2.2;cases x with
 | map b'=>
  rw[AC.fm_map];by_cases hh:b'=b
  ·subst hh;rw[aB rfl];simp only[RepC]at r⊢;obtain⟨p',r1,r2⟩:=r;rw[e]at r1;cases r1;have how:=H.own b' p e;rw[hb]at how;obtain⟨ms,ck,g1,g2,g3,g4⟩:=how;obtain⟨q1,q2,q3,q4⟩:=R5 ha g2;simp only[RepD];refine⟨p.1,ms,ck,r2,by rw[zae];exact g1,q1,q2,⟨?_,?_⟩,g3,g4⟩
   ·simpa using fJ hle ks (ms.map (·.key)) [] q3
   ·simpa using fJ hle us (ms.map (·.val)) [] q4
  ·rw[aA hh];exact RepC.mono hle (fA _) _ _ r
 |_=>exact RepC.mono hle (fA _) _ _ r
def gK.fm(H:HRel h ρ m w){p:Nat × Nat}(e:ρ b=some p)(hb:m b=.map es)(ha:uM es=some (ks,us)):∀{cs:List AC} {vs:List Value},gK h ρ cs vs->gK (upd h p.1 w[p.1]?) ρ (cs.map (AC.fm b ks us)) vs
|[],_,_=>by simp[gK]
|_::_,[],r=>by simp[gK]at r
|c::cs,v::vs,r=>by
 simp only[gK,List.map_cons]at r⊢;exact⟨⟨r.1.1,RepC.fm H e hb ha r.1.2⟩,gK.fm H e hb ha r.2⟩
def gp.fm(H:HRel h ρ m w){p:Nat × Nat}(e:ρ b=some p)(hb:m b=.map es)(ha:uM es=some (ks,us)){t:Nat}:∀{es:List (List AC)} {vs:List Value},gp h ρ t es vs->gp (upd h p.1 w[p.1]?) ρ t (es.map (·.map (AC.fm b ks us))) vs
|[],_,_=>by simp[gp]
|c::cs,vs,r=>by
 simp only[gp,List.map_cons,ah]at r⊢;exact⟨r.1,gK.fm H e hb ha r.2.1,gp.fm H e hb ha r.2.2⟩
def RepV.fm(H:HRel h ρ m w){p:Nat × Nat}(e:ρ b=some p)(hb:m b=.map es)(ha:uM es=some (ks,us)){x:AV}{v:Value}(r:RepV h ρ x v):RepV (upd h p.1 w[p.1]?) ρ (x.fm b ks us) v:=by
 cases x with
 |c x=>simp only[RepV,AV.fm]at r⊢;exact RepC.fm H e hb ha r
 | ag cs=>
  rw[AV.fm_ag];split
  ·exact RepV.mono (Ec H e hb).2.2 (fA _) _ _ r
  ·simp only[RepV,ah]at r⊢;obtain⟨vs,r1,r2,r3⟩:=r;exact⟨vs,r1,r2,gK.fm H e hb ha r3⟩
 |tup vs=>exact RepV.mono (Ec H e hb).2.2 (fA _) _ _ r
def Blk.fm_non{x:Blk}:x.fm b ks us=.non↔x=.non:=by cases x<;>simp<;>split<;>simp
def Blk.fm_real{x:Blk}{p:Nat × Nat}:Real (x.fm b ks us) p↔Real x p:=by cases x<;>simp<;>split<;>simp[Real]
def zaj.fm(H:HRel h ρ m w){p q:Nat × Nat}(e:ρ b=some p)(hb:m b=.map es)(ha:uM es=some (ks,us)){x:Blk}(r:zaj h ρ q x w):zaj (upd h p.1 w[p.1]?) ρ q (x.fm b ks us) w:=by
 have hle:=(Ec H e hb).2.2;cases x with
 | box cs=>
  rw[Blk.fm_box];split
  ·exact zaj.congr hle (fA _) rfl r
  ·simp only[zaj,ah]at r⊢;obtain⟨vs,T,r1,r2,r3⟩:=r;exact⟨vs,T,r1,r2,gK.fm H e hb ha r3⟩
 | arr t es=>
  rw[Blk.fm_arr];split
  ·exact zaj.congr hle (fA _) rfl r
  ·simp only[zaj,ah,List.map_eq_nil_iff]at r⊢;rcases r with r|⟨vs,T,r1,r2,r3,r4,r5⟩
   ·exact .inl r
   ·exact .inr ⟨vs,T,r1,r2,r3,r4,gp.fm H e hb ha r5⟩
 |_=>exact zaj.congr hle (fA _) rfl r
def wy(m:Hp)(b:Nat)(ks us:List D):Hp:=λi=>if i=b then .dead else(m i).fm b ks us
@[simp] theorem zia(m:Hp)(b:Nat)(ks us:List D)(i:Nat):wy m b ks us i=if i=b then .dead else(m i).fm b ks us:=(aL _).trans rfl
def HRel.fm(H:HRel h ρ m w){p:Nat × Nat}(e:ρ b=some p)(hb:m b=.map es)(ha:uM es=some (ks,us)):
  HRel (upd h p.1 w[p.1]?) ρ (wy m b ks us) w/\Step h ρ m w (upd h p.1 w[p.1]?) ρ (wy m b ks us) w:=by
 obtain⟨K,S,hle⟩:=Ec H e hb;have hn:∀i,wy m b ks us i=.non↔upd m b .dead i=.non:=λi=>by
  unfold wy;by_cases hi:i=b
  ·subst hi;rw[aB rfl,zae]
  ·rw[aA hi,zah _ _ hi];exact Blk.fm_non
 have hr:∀i q,Real (wy m b ks us i) q↔Real (upd m b .dead i) q:=λi q=>by
  unfold wy;by_cases hi:i=b
  ·subst hi;rw[aB rfl,zae]
  ·rw[aA hi,zah _ _ hi];exact Blk.fm_real
 refine⟨⟨K.pers,λi=>(hn i).trans (K.dom i),λi q hq=>?_,λi j q q' h1 h2 h3 h4=>K.inj i j q q' h1 h2 ((hr _ _).1 h3) ((hr _ _).1 h4),λi q h1 h2=>K.sep i q h1 ((hr _ _).1 h2)⟩,
  ⟨S.hle,S.hlow,S.rle,S.size,S.frame,λi q h1 h2=>S.own i q h1 ((hr _ _).1 h2)⟩⟩
 unfold wy;by_cases hi:i=b
 ·subst hi;rw[aB rfl];trivial
 ·rw[aA hi];exact zaj.fm H e hb ha (H.own i q hq)
end
def kR.fm{P:Program}{c:Ctx}{get:Nat->AV}{m:Hp}{a:Act}{w:World}{b:Nat}{ks us:List D}{es:List (D × AV)}(R:kR P c get m a w)(hb:m b=.map es)(ha:uM es=some (ks,us)):kR P c (λk=>(get k).fm b ks us) (wy m b ks us) a w:=by
 obtain⟨h,ρ,H,S,sm,r⟩:=R.ex;have hne:ρ b≠none:=λe=>by have:=(H.dom b).2 e;rw[hb]at this;cases this
 obtain⟨p,e⟩:=Option.ne_none_iff_exists'.1 hne;obtain⟨K,T⟩:=H.fm e hb ha;exact⟨R.gnd,R.sd,R.defers,R.size,⟨_,ρ,K,S.trans T,sm,λk=>RepV.fm H e hb ha (r k)⟩⟩
def zfT(t:List (Nat × AV))(b:Nat)(ks us:List D)(k:Nat):look (t.map λkv=>(kv.1,kv.2.fm b ks us)) k=(look t k).fm b ks us:=by
 induction t with
 |nil=>rfl
 |cons x t ih=>
  obtain⟨j,v⟩:=x;simp only[List.map_cons,look];split
  ·rfl
  ·exact ih
def uN(S:St):List Nat->(St->Prop)->Prop
|[],K=>K S
| b::l,K=>match S.m b with
 |.arr s es=>match oo es with
  |some ds=>uN ⟨S.t.map λkv=>(kv.1,kv.2.fz b s ds),vM S.m b s ds,S.n⟩ l K
  |none=>False
 |_=>False
@[simp] theorem R6{S:St}{K:St->Prop}:uN S [] K=K S:=(aL _).trans rfl
@[simp] theorem R7{S:St}{K:St->Prop}{b:Nat}{l:List Nat}:uN S (b::l) K=(match S.m b with
 |.arr s es=>match oo es with
  |some ds=>uN ⟨S.t.map λkv=>(kv.1,kv.2.fz b s ds),vM S.m b s ds,S.n⟩ l K
  |none=>False
 |_=>False):=(aL _).trans rfl
def uN.mono{K K':St->Prop}:∀(l:List Nat) {S:St},uN S l K->(∀S',K S'->K' S')->uN S l K'
|[],S,h,k=>k S h
| b::l,S,h,k=>by
 unfold uN at h⊢;split
 ·rename_i s es eb;rw[eb]at h;simp only at h;split
  ·rename_i ds ed;rw[ed]at h;exact uN.mono l h k
  ·rename_i ed;rw[ed]at h;exact h
 ·rename_i hn;split at h
  ·rename_i s es eb;exact(hn s es eb).elim
  ·exact h
def jT(t:List (Nat × AV))(b s:Nat)(ds:List (List D))(k:Nat):look (t.map λkv=>(kv.1,kv.2.fz b s ds)) k=(look t k).fz b s ds:=by
 induction t with
 |nil=>rfl
 |cons x t ih=>
  obtain⟨j,v⟩:=x;simp only[List.map_cons,look];split
  ·rfl
  ·exact ih
def AW.fzq{P:Program}{c:Ctx}{mc:MC}{Q:Exit->St->Prop}:∀(l:List Nat) {S:St},uN S l (λS'=>AW P c mc Q S')->AW P c (.fzq mc) Q S
|[],S,h=>λcode hc a w r=>h code (by simpa[iH]using hc) a w r
| b::l,S,h=>by
 unfold uN at h;split at h
 ·rename_i s es eb;split at h
  ·rename_i ds ed;have:=Ko ed;subst this;have k:=AW.fzq l h;intro code hc a w r;refine k code hc a w ?_;have:=r.fz eb;have eg:(St.get ⟨S.t.map λkv=>(kv.1,kv.2.fz b s ds),vM S.m b s ds,S.n⟩)=λk=>(S.get k).fz b s ds:=funext λk=>jT _ _ _ _ _;rw[eg];exact this
  ·exact h.elim
 ·exact h.elim
def u7(S:St):List Nat->(St->Prop)->Prop
|[],K=>K S
| b::l,K=>match S.m b with
 |.map es=>match uM es with
  |some (ks,us)=>u7 ⟨S.t.map λkv=>(kv.1,kv.2.fm b ks us),wy S.m b ks us,S.n⟩ l K
  |none=>False
 |_=>False
@[simp] theorem zhR{S:St}{K:St->Prop}:u7 S [] K=K S:=(aL _).trans rfl
@[simp] theorem zhf{S:St}{K:St->Prop}{b:Nat}{l:List Nat}:u7 S (b::l) K=(match S.m b with
 |.map es=>match uM es with
  |some (ks,us)=>u7 ⟨S.t.map λkv=>(kv.1,kv.2.fm b ks us),wy S.m b ks us,S.n⟩ l K
  |none=>False
 |_=>False):=(aL _).trans rfl
def u7.mono{K K':St->Prop}:∀(l:List Nat) {S:St},u7 S l K->(∀S',K S'->K' S')->u7 S l K'
|[],S,h,k=>k S h
| b::l,S,h,k=>by
 unfold u7 at h⊢;cases eb:S.m b with
 |map es=>
  rw[eb]at h;simp only at h⊢;cases ed:uM es with
  |some p=>rw[ed]at h;exact u7.mono l h k
  |none=>rw[ed]at h;exact h
 |non=>rw[eb]at h;exact h
 |dead=>rw[eb]at h;exact h
 |box cs=>rw[eb]at h;exact h
 |arr s es=>rw[eb]at h;exact h
 |pin t b=>rw[eb]at h;exact h
def AW.fmq{P:Program}{c:Ctx}{mc:MC}{Q:Exit->St->Prop}:∀(l:List Nat) {S:St},u7 S l (λS'=>AW P c mc Q S')->AW P c mc Q S
|[],S,h=>h
| b::l,S,h=>by
 unfold u7 at h;split at h
 ·rename_i es eb;split at h
  ·rename_i ks us ed;have k:=AW.fmq l h;intro code hc a w r;refine k code hc a w ?_;have:=r.fm eb ed;have eg:(St.get ⟨S.t.map λkv=>(kv.1,kv.2.fm b ks us),wy S.m b ks us,S.n⟩)=λk=>(S.get k).fm b ks us:=funext λk=>zfT _ _ _ _ _;rw[eg];exact this
  ·exact h.elim
 ·exact h.elim
end Go.Abs
namespace Go.Abs
variable [jQ]
inductive D7 where
|t (k:Nat)
|c (b i:Nat)
|a (k i:Nat)
section
variable {h:PH} {ρ:RM} {m:Hp} {w:Heap}
def HRel.reblk(H:HRel h ρ m w){b:Nat}{p:Nat × Nat}(e:ρ b=some p){blk:Blk}(hn:blk≠.non)(hr:Real blk p↔Real (m b) p)(r:zaj h ρ p blk w):
  HRel h ρ (upd m b blk) w/\Step h ρ m w h ρ (upd m b blk) w:=by
 have key:∀c q,ρ c=some q->(Real (upd m b blk c) q↔Real (m c) q):=λc q hq=>by
  by_cases hc:c=b
  ·subst hc;rw[zae];rw[e]at hq;cases hq;exact hr
  ·rw[zah _ _ hc]
 refine⟨⟨H.pers,?_,?_,?_,?_⟩,⟨eZ h,λB hB _=>rfl,fA _,aK _,λB hB _=>rfl,?_⟩⟩
 ·intro c;by_cases hc:c=b
  ·subst hc;rw[zae,e];simp[hn]
  ·rw[zah _ _ hc];exact H.dom c
 ·intro c q hq;by_cases hc:c=b
  ·subst hc;rw[zae];rw[e]at hq;cases hq;exact r
  ·rw[zah _ _ hc];exact H.own c q hq
 ·intro c d q r hc hd hs ht heq;exact H.inj c d q r hc hd ((key c q hc).1 hs) ((key d r hd).1 ht) heq
 ·intro c q hq hs;exact H.sep c q hq ((key c q hq).1 hs)
 ·intro c q hq hs;exact .inr ⟨c,q,hq,(key c q hq).1 hs,rfl⟩
def RepC.own{s n:Nat}{v:Value}(e:ρ n=some (0,0))(r:RepC h ρ (.d (.sl true s [])) v):RepC h ρ (.msl s n 0 0) v:=by
 simp only[RepC,RepD]at r⊢;obtain⟨a,cap,r1,r2,r3,r4,r5,r6,r7⟩:=r;have hc:cap=0:=by simpa using r3 trivial
 subst hc;exact⟨(0,0),a,e,by simpa using r1,aK _,λh=>absurd h (by simp),λq _ h=>absurd h (by simp)⟩
def gK.setAt{c':AC}:∀{cs:List AC} {vs:List Value} {i:Nat} {c:AC},cs[i]?=some c->(∀v:Value,RepC h ρ c v->RepC h ρ c' v)->gK h ρ cs vs->gK h ρ (cs.set i c') vs
|[],vs,i,c,e,_,_=>by simp at e
|_::_,[],_,_,_,_,r=>by simp[gK]at r
|d::cs,v::vs,0,c,e,hc,r=>by
 simp only[List.getElem?_cons_zero,aO]at e;subst e;simp only[gK,List.set_cons_zero]at r⊢;exact⟨⟨r.1.1,hc v r.1.2⟩,r.2⟩
|d::cs,v::vs,i+1,c,e,hc,r=>by
 simp only[List.getElem?_cons_succ]at e;simp only[gK,List.set_cons_succ]at r⊢;exact⟨r.1,gK.setAt e hc r.2⟩
end
def o7(S:St):List D7->(St->Prop)->Prop
|[],K=>K S
|.t k::l,K=>match S.get k with
 |.c (.d (.sl true s []))=>S.m S.n=.non/\o7 ⟨(k,.c (.msl s S.n 0 0))::S.t,upd S.m S.n (.arr s []),S.n+1⟩ l K
 |_=>False
| .a k i::l,K=>match S.get k with
 |.ag cs=>match cs[i]? with
  |some (.d (.sl true s []))=>S.m S.n=.non/\o7 ⟨(k,.ag (cs.set i (.msl s S.n 0 0)))::S.t,upd S.m S.n (.arr s []),S.n+1⟩ l K
  |_=>False
 |_=>False
| .c b i::l,K=>match S.m b with
 |.box cs=>match cs[i]? with
  |some (.d (.sl true s []))=>S.m S.n=.non/\o7 ⟨S.t,upd (upd S.m S.n (.arr s [])) b (.box (cs.set i (.msl s S.n 0 0))),S.n+1⟩ l K
  |_=>False
 |_=>False
@[simp] theorem zhi{S:St}{K:St->Prop}:o7 S [] K=K S:=(aL _).trans rfl
@[simp] theorem zib{S:St}{K:St->Prop}{k:Nat}{l:List D7}:o7 S (.t k::l) K=(match S.get k with
 |.c (.d (.sl true s []))=>S.m S.n=.non/\o7 ⟨(k,.c (.msl s S.n 0 0))::S.t,upd S.m S.n (.arr s []),S.n+1⟩ l K
 |_=>False):=(aL _).trans rfl
@[simp] theorem zic{S:St}{K:St->Prop}{b i:Nat}{l:List D7}:o7 S (.c b i::l) K=(match S.m b with
 |.box cs=>match cs[i]? with
  |some (.d (.sl true s []))=>S.m S.n=.non/\o7 ⟨S.t,upd (upd S.m S.n (.arr s [])) b (.box (cs.set i (.msl s S.n 0 0))),S.n+1⟩ l K
  |_=>False
 |_=>False):=(aL _).trans rfl
def o7.mono{K K':St->Prop}:∀(l:List D7) {S:St},o7 S l K->(∀S',K S'->K' S')->o7 S l K'
|[],S,h,k=>k S h
| .t i::l,S,h,k=>by
 unfold o7 at h⊢;split<;>rename_i q
 ·rename_i s;rw[q]at h;exact⟨h.1,o7.mono l h.2 k⟩
 ·split at h
  ·rename_i s e;exact(q s e).elim
  ·exact h
| .a j i::l,S,h,k=>by
 unfold o7 at h⊢;split<;>rename_i q
 ·rename_i cs;rw[q]at h;simp only at h;split<;>rename_i q'
  ·rename_i s;rw[q']at h;exact⟨h.1,o7.mono l h.2 k⟩
  ·split at h
   ·rename_i s e;exact(q' s e).elim
   ·exact h
 ·split at h
  ·rename_i s e;exact(q s e).elim
  ·exact h
| .c b i::l,S,h,k=>by
 unfold o7 at h⊢;split<;>rename_i q
 ·rename_i cs;rw[q]at h;simp only at h;split<;>rename_i q'
  ·rename_i s;rw[q']at h;exact⟨h.1,o7.mono l h.2 k⟩
  ·split at h
   ·rename_i s e;exact(q' s e).elim
   ·exact h
 ·split at h
  ·rename_i s e;exact(q s e).elim
  ·exact h
section
variable {P:Program} {c:Ctx} {S:St} {a:Act} {w:World}
def kR.own0(R:kR P c S.get S.m a w)(hn:S.m S.n=.non)(s:Nat):
  ∃(h:PH) (ρ:RM),HRel h ρ (upd S.m S.n (.arr s [])) w.heap/\ng c.h c.ρ c.m c.w.heap h ρ (upd S.m S.n (.arr s [])) w.heap/\Same c.w w/\(∀k,RepV h ρ (S.get k) (a.tmps.getD k undef))/\ρ S.n=some (0,0):=by
 obtain⟨h,ρ,H,S0,sm,r⟩:=R.ex;obtain⟨K,T⟩:=H.none hn s;exact⟨h,_,K,S0.trans T,sm,λk=>RepV.mono T.hle T.rle _ _ (r k),zae _ _ _⟩
end
def AW.owq{P:Program}{c:Ctx}{mc:MC}{Q:Exit->St->Prop}:∀(l:List D7) {S:St},o7 S l (λS'=>AW P c mc Q S')->AW P c (.owq mc) Q S
|[],S,h=>λcode hc a w r=>h code (by simpa[iH]using hc) a w r
| .t k::l,S,h=>by
 unfold o7 at h;split at h
 ·rename_i s e;have k:=AW.owq l h.2;intro code hc a w r;refine k code hc a w ?_;obtain⟨hh,ρ,H,S0,sm,rr,e0⟩:=r.own0 h.1 s;refine⟨r.gnd,r.sd,r.defers,r.size,hh,ρ,H,S0,sm,λj=>?_⟩;show RepV hh ρ (look _ j) _;simp only[look];split
  ·rename_i ej;subst ej;have:=rr j;rw[e]at this;simp only[RepV]at this⊢;exact this.own e0
  ·exact rr j
 ·exact h.elim
| .a k i::l,S,h=>by
 unfold o7 at h;split at h
 ·rename_i cs e;split at h
  ·rename_i s e';have k:=AW.owq l h.2;intro code hc a w r;refine k code hc a w ?_;obtain⟨hh,ρ,H,S0,sm,rr,e0⟩:=r.own0 h.1 s;refine⟨r.gnd,r.sd,r.defers,r.size,hh,ρ,H,S0,sm,λj=>?_⟩;show RepV hh ρ (look _ j) _;simp only[look];split
   ·rename_i ej;subst ej;have:=rr j;rw[e]at this;simp only[RepV,List.length_set]at this⊢;obtain⟨vs,r1,r2,r3⟩:=this;exact⟨vs,r1,r2,r3.setAt e' λv q=>q.own e0⟩
   ·exact rr j
  ·exact h.elim
 ·exact h.elim
| .c b i::l,S,h=>by
 unfold o7 at h;split at h
 ·rename_i cs e;split at h
  ·rename_i s e';have k:=AW.owq l h.2;intro code hc a w r;refine k code hc a w ?_;obtain⟨hh,ρ,H,S0,sm,rr,e0⟩:=r.own0 h.1 s;have hne:b≠S.n:=λq=>by rw[q,h.1]at e;cases e
   have hb:upd S.m S.n (.arr s []) b=.box cs:=by rw[zah _ _ hne];exact e
   have hρ:ρ b≠none:=λq=>by have:=(H.dom b).2 q;rw[hb]at this;cases this
   obtain⟨p,ep⟩:=Option.ne_none_iff_exists'.1 hρ;have hB:=H.own b p ep;rw[hb]at hB;obtain⟨vs,T,r1,r2,r3⟩:=hB;obtain⟨K,T⟩:=H.reblk (blk:=.box (cs.set i (.msl s S.n 0 0))) ep (by simp) (by rw[hb];exact Iff.rfl) ⟨vs,T,r1,by simpa using r2,r3.setAt e' λv q=>q.own e0⟩;exact⟨r.gnd,r.sd,r.defers,r.size,hh,ρ,K,S0.trans T,sm,rr⟩
  ·exact h.elim
 ·exact h.elim
end Go.Abs
