/- Of ours. -/
import Derived.Test.YtlfjlokfciejnaaGreatJ03
set_option maxRecDepth 20000
set_option maxHeartbeats 4000000
set_option linter.unusedVariables false
set_option linter.unusedSectionVars false
set_option linter.unusedSimpArgs false
set_option linter.defProp false
open List renaming length->lN
open Bool renaming true->tT,false->oK
open Option renaming some->sS,none->nN
namespace Go.Abs
variable {h:PH}{pv v:Value}{d:D}
variable [jE]
def JQ:D->Option Value
|.int k n=>sS (.int k n)
|.bool b=>sS (.bool b)
|.str s=>sS (.string s)
|.sc v=>sS v
|_=>nN
def IE:List D->Option (List Value)
|[]=>sS []
|d::l=>match JQ d,IE l with
 |some v,sS vs=>sS (v::vs)
 |_,_=>nN
def IG:D->Option (TypeId × Value)
|.ifc t tT ds=>(IE ds).map λvs=>(t,.agg vs.toArray)
|.ifc t oK [d]=>(JQ d).map λv=>(t,v)
|_=>nN
def Wm{u:Value}(r:RepD h d v)(e:JQ d=sS u):v=u:=by
 cases d<;>simp only[JQ,aU]at e<;>first|(simp only[RepD]at r;subst e;first|exact r|exact r.1)|cases e
def Wn:∀{ds:List D} {vs us:List Value},RepL h ds vs->lN vs=lN ds->IE ds=sS us->vs=us
|[],[],us,_,_,e=>by simpa[IE]using e
|[],_::_,us,_,l,e=>by simp at l
|_::_,[],us,_,l,e=>by simp at l
| d::ds,v::vs,us,r,l,e=>by
 simp only[RepL]at r;simp only[IE]at e;split at e
 next u _F e1 e2=>
  simp only[aU]at e;subst e;rw[Wm r.1.2 e1,Wn r.2 (uM l) e2]
 .cases e
def zFO{u:TypeId × Value}(r:RepD h d v)(e:IG d=sS u):v=.iface u.1 u.2:=by
 cases d with
 | ifc t ag ds=>
  simp only[RepD]at r;let⟨vs,e1,e2,e3,e4⟩:=r;cases ag with
  |true=>
   simp only[IG,aP]at e;obtain⟨us,h1,rfl⟩:=e;rw[e1,Wn e4 e2 h1];rfl
  | false=>
   match ds,e3 rfl,e,e4,e2 with
   | [x],_,e,e4,e2=>
    simp only[IG,aP]at e;obtain⟨u',h1,rfl⟩:=e
    match vs,e2,e4,e1 with
    |[y],_,e4,e1=>
     simp only[RepL]at e4;rw[e1];simp only[List.headD_cons];rw[Wm e4.1.2 h1];rfl
 |_=>cases e
def F6(P:Program)(get:Nat->AV)(m:Hp)(n:Nat)(K:AV->oU->Nat->Prop)(Kp:Value->oU->Nat->Prop):ni->Prop
|.callX f xs=>Ad P f (xs.map (X get)) m n (λv _ wr n'=>K v wr n')\/JI P f (xs.map (X get)) m n Kp
| .panicX x=>match X get x with
 |.c (.d d)=>(match IG d with
  |some u=>Kp (.iface u.1 u.2) [] n
  |none=>False)
 |_=>False
|op=>ev P get m n (λv _ wr n'=>K v wr n') op
section
variable {P:Program} {get:Nat->AV} {m:Hp} {n:Nat}
def Wo{K:AV->oU->Nat->Prop}{Kp:Value->oU->Nat->Prop}{mo:ni}{o:Oper}(hc:gu P mo o.op=tT)(hK:F6 P get m n K Kp mo):
  (∃v rd wr n',gz P o get m rd wr v/\K v wr n')\/∃pv wr n',Ll P o get m wr pv/\Kp pv wr n':=by
 have base:ev P get m n (λv _ wr n'=>K v wr n') mo->(∃v rd wr n',gz P o get m rd wr v/\K v wr n')\/∃pv wr n',Ll P o get m wr pv/\Kp pv wr n':=λh=>by
  let⟨v,rd,wr,n',h1,h2⟩:=IB hc h;exact .inl ⟨v,rd,wr,n',h1,h2⟩
 cases mo with
 | callX f xs=>
  have hc':gu P (.callM f xs) o.op=tT:=by
   cases ho:o.op<;>rw[ho]at hc<;>first|(simp[gu]at hc;done)|exact hc
  simp only[F6]at hK;rcases hK with hK|hK
  .let⟨v,rd,wr,n',h1,h2⟩:=IB (P:=P) (get:=get) (m:=m) (n:=n) (K:=λv _ wr n'=>K v wr n') (mo:=.callM f xs) hc' hK;exact .inl ⟨v,rd,wr,n',h1,h2⟩
  .refine .inr ?_;cases ho:o.op<;>rw[ho]at hc<;>first|(simp[gu]at hc;done)|skip
   simp only[JI]at hK;let⟨l,args,bs,pv,_d,hp,hnd,_V,hvs,hal,_k,hat,hfr,hK⟩:=hK;refine⟨_,_,_,zFM hp hnd _V hal _k hat hfr (λph ρ w a hg=>?_),hK⟩;simp only[gu,aG]at hc;let⟨c0,c1⟩:=hc;rename_i c;split at c0
   next g hg'=>
    simp only[ae]at c0;subst c0;have rv:=JG c1 (ph:=ph) (ρ:=ρ) (get:=get) (a:=a) λk hk=>hg k (by rw[ho];simp[Op.operands,Call.operands,hg'];simpa using hk);refine⟨_,hvs▸rv,?_⟩;unfold execOp;rw[ho];show j_ P (do let d<-resolve a.eval c o.type;invoke d.target d.args) w _ w;unfold resolve;rw[hg'];refine(fF _).bind ?_;have e1:(c.args.toList.map a.eval).toArray=c.args.map a.eval:=by apply dV;simp
    rw[e1];simp only[invoke,dz,Array.append_empty];have:=Lm (w:=w) (args:=c.args.map a.eval) hp.1;simpa using this
   .cases c0
 | panicX x=>
  refine .inr ?_;cases ho:o.op<;>rw[ho]at hc<;>first|(simp[gu]at hc;done)|skip
  rename_i ox;simp only[gu]at hc;simp only[F6]at hK;split at hK
  next d ex=>
   split at hK
   next u eu=>
    refine⟨_,_,_,λm' h2 ph ρ w a hr hG hS hg next Q hn=>?_,hK⟩;have r1:=iV hc (ph:=ph) (ρ:=ρ) (get:=get) (a:=a) λk hk=>hg k (by rw[ho];simp[Op.operands,hk]);rw[ex]at r1;simp only[g_,m_]at r1;have e1:=zFO r1 eu;unfold Oper.wp execOp;rw[ho];show o.upon P a next Q ((do let v<-Instr.panic (a.eval ox);pure (Next.value v):Sem Next).run P w);rw[e1];exact hn ph ρ w (Step.refl _ _ _ _) hr (fZ w)
   .exact hK.elim
  .exact hK.elim
 |_=>exact base hK
end
def tu(P:Program):List MO->St->(St->Prop)->(Value->St->Prop)->Prop
|[],S,K,_=>K S
| o::os,S,K,Kp=>match o.g with
 |none=>F6 P S.get S.m S.n (λv wr n=>tu P os (S.put o.dst v wr n) K Kp) (λpv wr n=>Kp pv (S.put nN jm wr n)) o.op
 |some (t,want)=>match S.get t with
  |.c (.d (.bool b))=>(b=want->F6 P (S.D? t want).get S.m S.n (λv wr n=>tu P os ((S.D? t want).put o.dst v wr n) K Kp) (λpv wr n=>Kp pv ((S.D? t want).put nN jm wr n)) o.op)/\(b=(!want)->tu P os ((S.D? t (!want)).put o.dst jm [] S.n) K Kp)
  |.c (.d (.sc (.tuple _)))=>tu P os (S.put o.dst jm [] S.n) K Kp
  |_=>False
section
variable {P:Program} {c:Ctx}
def P9{ops:Array Oper}{Q:Exit->Act->World->Prop}{K:St->Prop}{Kp:Value->St->Prop}(hQ:∀S a w,jo P c S.get S.m a w->K S->Q .normal a w)(hP:∀pv S a w,jo P c S.get S.m a w->Kp pv S->Q (.panic [{v:=pv,recovered:=oK}]) a w):
 ∀{_l:List MO} {os:List Oper} {i:Nat} {S:St} {a:Act} {w:World},lw P c.N ops _l os=tT->
 (∀j o,os[j]?=sS o->ops[i+j]?=sS o)->tu P _l S K Kp->jo P c S.get S.m a w->wpOps P ops Q (List.range' i (lN os)) a w
|[],[],i,S,a,w,_,_,h,r=>by simp only[List.length_nil,List.range'_zero,wpOps];exact hQ S a w r h
|[],_::_,_,_,_,_,h,_,_,_=>by simp[lw]at h
|_::_,[],_,_,_,_,h,_,_,_=>by simp[lw]at h
| mo::_l,o::os,i,S,a,w,hc,hi,h,r=>by
 simp only[lw,aG]at hc;let⟨hc0,_W⟩:=hc;simp only[DW,aG,ae]at hc0;let⟨⟨⟨c1,c2⟩,c3⟩,c4⟩:=hc0;have hd:∀d,mo.dst=sS d->d<c.N:=λd hd=>by rw[hd]at c3;simpa using c3
 have ho:=hi 0 o oC;simp only[Nat.add_zero]at ho;have hi':∀j o',os[j]?=sS o'->ops[i+1+j]?=sS o':=λj o' hj=>by
  have:=hi (j+1) o' (uM hj);rwa[show i+(j+1)=i+1+j from by omega]at this
 simp only[List.length_cons,dQ,wpOps,ho];have run:∀S₁:St,S₁.get=S.get->S₁.m=S.m->F6 P S.get S.m S.n (λv wr n=>tu P _l (S₁.put mo.dst v wr n) K Kp) (λpv wr n=>Kp pv (S₁.put nN jm wr n)) mo.op->o.wp P a w (wpOps P ops Q (List.range' (i+1) (lN os))) Q:=by
  intro S₁ eg em he;let⟨ph,ρ,H,S0,e0,hg⟩:=r.ex;rcases Wo c1 he with⟨v,rd,wr,n',hs,hk⟩|⟨pv,wr,n',hs,hk⟩
  .refine hs S.m (λ_ _=>rfl) (λ_ _=>rfl) ph ρ w a H (r.gnd.mono S0.hle) (r.side S0) (λk _=>hg k) _ _ λh' ρ' w' vC st K' e rv=>?_;rw[<-c2];apply P9 hQ hP _W hi' hk;rw[St.put_get,eg];have e2:(S₁.put mo.dst v wr n').m=jW S.m wr:=by rw[<-em];rfl
   rw[e2];exact PQ r.gnd r.sd r.defers r.size hd S0 e0 hg st K' e rv
  .refine hs S.m (λ_ _=>rfl) ph ρ w a H (r.gnd.mono S0.hle) (r.side S0) (λk _=>hg k) _ _ λh' ρ' w' st K' e=>?_;refine hP pv _ _ _ ?_ hk;have e1:(S₁.put nN jm wr n').get=S.get:=by rw[<-eg];funext k;rfl
   have e2:(S₁.put nN jm wr n').m=jW S.m wr:=by rw[<-em];rfl
   rw[e1,e2];exact Wi r.gnd r.sd r.defers r.size S0 e0 hg st K' e
 have skip:∀S₁:St,S₁.get=S.get->S₁.m=S.m->tu P _l (S₁.put mo.dst jm [] S.n) K Kp->wpOps P ops Q (List.range' (i+1) (lN os)) (a.put o.dst undef) w:=by
  intro S₁ eg em hk;rw[<-c2];apply P9 hQ hP _W hi' hk;rw[St.put_get,eg];have e2:(S₁.put mo.dst jm [] S.n).m=S.m:=by rw[<-em];rfl
  rw[e2];exact PR r hd
 let⟨ph,ρ,H,S0,e0,hg⟩:=r.ex;simp only[tu]at h;split at h
 next hgm=>
  rw[hgm]at c4;rw[aC (IC c4 (λt b hh=>by cases hh))];exact .inl (run S rfl rfl h)
 next t want hgm=>
  rw[hgm]at c4;have rt:=hg t;split at h
  next b et=>
   rw[et]at rt;simp only[g_,m_,RepD]at rt;by_cases hb:b=want
   .subst hb;rw[aC (IC c4 (λt' b' hh=>by cases hh;exact rt))];have h1:=h.1 rfl;rw[gF et]at h1;exact .inl (run _ (gF et) rfl h1)
   .have hb':b=(!want):=by cases b<;>cases want<;>simp_all
    rw[aB (by rw[JM c4 (.inl (by rw[rt,hb']))];simp)];exact skip _ (gF (by rw[et,hb'])) rfl (h.2 hb')
  next x et=>
   rw[et]at rt;simp only[g_,m_,RepD]at rt;rw[aB (by rw[JM c4 (.inr ⟨x,rt⟩)];simp)];exact skip S rfl rfl h
  .exact h.elim
end
def BJ(P:Program)(_j:List Nat)(pj:Nat):Nat->List MO->St->List FP->(List FP->Prop)->Prop
|_,[],_,_i,K=>K _i.reverse
| k,o::os,S,_i,K=>if(_j.getD k 0).testBit pj=tT then BJ P _j pj (k+1) os (S.put o.dst jm [] S.n) (([],[])::_i) K else
 match o.g with
 |none=>ev P S.get S.m S.n (λv rd wr n=>BJ P _j pj (k+1) os (S.put o.dst v wr n) ((rd,wr.map (·.1))::_i) K) o.op
 |some (t,want)=>match S.get t with
  |.c (.d (.bool b))=>(b=want->ev P (S.D? t want).get S.m S.n (λv rd wr n=>BJ P _j pj (k+1) os ((S.D? t want).put o.dst v wr n) ((rd,wr.map (·.1))::_i) K) o.op)/\(b=(!want)->BJ P _j pj (k+1) os ((S.D? t (!want)).put o.dst jm [] S.n) (([],[])::_i) K)
  |.c (.d (.sc (.tuple _)))=>BJ P _j pj (k+1) os (S.put o.dst jm [] S.n) (([],[])::_i) K
  |_=>False
def Pb(P:Program)(get:Nat->AV)(m:Hp)(n:Nat)(K:AV->oO->oU->Nat->Prop)(Kp:Value->oU->Nat->Prop):ni->Prop
|.callX f xs=>Ad P f (xs.map (X get)) m n K\/JI P f (xs.map (X get)) m n Kp
|op=>ev P get m n K op
def wP(P:Program) (_j:List Nat):Nat->List MO->St->List FP->(St->List FP->Prop)->(Value->St->Nat->List FP->Prop)->Prop
|_,[],S,_i,K,_=>K S _i.reverse
| k,o::os,S,_i,K,Kp=>match o.g with
 | none=>Pb P S.get S.m S.n (λv rd wr n=>wP P _j (k+1) os (S.put o.dst v wr n) ((rd,wr.map (·.1))::_i) K Kp)
   (λpv wr n=>BJ P _j k (k+1) os (S.put o.dst jm [] S.n) (([],[])::_i) λ_i=>Kp pv ⟨[],jW S.m wr,n⟩ k _i) o.op
 |some (t,want)=>match S.get t with
  |.c (.d (.bool b))=>(b=want->ev P (S.D? t want).get S.m S.n (λv rd wr n=>wP P _j (k+1) os ((S.D? t want).put o.dst v wr n) ((rd,wr.map (·.1))::_i) K Kp) o.op)/\(b=(!want)->wP P _j (k+1) os ((S.D? t (!want)).put o.dst jm [] S.n) (([],[])::_i) K Kp)
  |.c (.d (.sc (.tuple _)))=>wP P _j (k+1) os (S.put o.dst jm [] S.n) (([],[])::_i) K Kp
  |_=>False
def Pd(_j:oO)(pj:Nat)(_i:sK):Bool:=
(List.range (lN _i)).all λi=>(_i.getD i ([],[])).2.isEmpty||((_j.getD pj 0).testBit i&&decide (i<pj))
def vL(P:Program)(N:Nat)(_j:List Nat)(pj:Nat)(pv:Value)(wrp:List (Nat × A_)):Nat->(Nat->AV)->Hp->List MO->List Oper->List E->Prop
|_,_,_,[],[],[]=>True
|k,get,m,mo::_l,o::os,e::es=>P8 P N _j pj pv wrp get m mo o e k/\vL P N _j pj pv wrp (k+1) (lW get mo.dst e.v) (jW m e.wr) _l os es
|_,_,_,_,_,_=>False
def vL.len{P:Program}{N:Nat}{_j:List Nat}{pj:Nat}{wrp:List (Nat × A_)}:∀{_l:List MO} {os:List Oper} {es:List E} {get:Nat->AV} {m:Hp} {k:Nat},vL P N _j pj pv wrp k get m _l os es->lN es=lN os
|[],[],[],_,_,_,_=>rfl
|[],[],_::_,_,_,_,h=>by simp[vL]at h
|[],_::_,_,_,_,_,h=>by simp[vL]at h
|_::_,[],_,_,_,_,h=>by simp[vL]at h
|_::_,_::_,[],_,_,_,h=>by simp[vL]at h
|_::_,_::_,_::_,_,_,_,h=>by simp only[vL]at h;simp[vL.len h.2]
def vL.nth{P:Program}{N:Nat}{_j:List Nat}{pj:Nat}{wrp:List (Nat × A_)}:∀{_l:List MO} {os:List Oper} {es:List E} {get:Nat->AV} {m:Hp} {k j:Nat} {o:Oper},vL P N _j pj pv wrp k get m _l os es->os[j]?=sS o->
 ∃mo e,_l[j]?=sS mo/\es[j]?=sS e/\P8 P N _j pj pv wrp (I_ (λi=>decide (i<j)) 0 get ((_l.zip es).map λx=>dw x.1 x.2)) (I_ (λi=>decide (i<j)) 0 m (es.map (·.wr))) mo o e (k+j)
|[],[],[],_,_,_,j,o,_,h=>by simp at h
|[],[],_::_,_,_,_,_,_,h,_=>by simp[vL]at h
|[],_::_,_,_,_,_,_,_,h,_=>by simp[vL]at h
|_::_,[],_,_,_,_,_,_,h,_=>by simp[vL]at h
|_::_,_::_,[],_,_,_,_,_,h,_=>by simp[vL]at h
| mo::_l,o'::os,e::es,get,m,k,0,o,h,ho=>by
 simp only[vL]at h;simp at ho;subst ho;have nN:∀{β:Type} (l:List (List (Nat × β))) (i:Nat) (f:Nat->β),I_ (λi=>decide (i<0)) i f l=f:=by
  intro β l
  induction l with
  |nil=>intro i f;rfl
  |cons x l ih=>intro i f;simp only[I_];simpa using ih _ _
 refine⟨mo,e,rfl,rfl,?_⟩;rw[nN,nN];exact h.1
| mo::_l,o'::os,e::es,get,m,k,j+1,o,h,ho=>by
 simp only[vL]at h;obtain⟨mo',e',h1,h2,h3⟩:=vL.nth h.2 (by simpa using ho);have shift:∀{β:Type} (l:List (List (Nat × β))) (i:Nat) (f:Nat->β),I_ (λi=>decide (i<j+1)) (i+1) f l=I_ (λi=>decide (i<j)) i f l:=by
  intro β l
  induction l with
  |nil=>intro i f;rfl
  |cons x l ih=>intro i f;simp only[I_];rw[ih];simp
 refine⟨mo',e',by simpa using h1,by simpa using h2,?_⟩;simp only[List.zip_cons_cons,List.map_cons,I_,Nat.zero_lt_succ,decide_true,if_true];rw[shift,shift,<-JP,<-F3,show k+(j+1)=k+1+j by omega];exact h3
section
variable {P:Program} {N:Nat} {ops:Array Oper}
def Wp{mo:MO}{o:Oper}{S:St}{R:St->FP->Prop}(c1:gu P mo.op o.op=tT)
  (h:match mo.g with
  |none=>ev P S.get S.m S.n (λv rd wr n=>R (S.put mo.dst v wr n) (rd,wr.map (·.1))) mo.op
  |some (t,want)=>match S.get t with
   |.c (.d (.bool b))=>(b=want->ev P (S.D? t want).get S.m S.n (λv rd wr n=>R ((S.D? t want).put mo.dst v wr n) (rd,wr.map (·.1))) mo.op)/\(b=(!want)->R ((S.D? t (!want)).put mo.dst jm [] S.n) ([],[]))
   |.c (.d (.sc (.tuple _)))=>R (S.put mo.dst jm [] S.n) ([],[])
   |_=>False):∃(S':St) (e:E),zV P S.get S.m mo o e/\S'.get=lW S.get mo.dst e.v/\S'.m=jW S.m e.wr/\R S' (e.rd,e.wr.map (·.1)):=by
 have fin:∀(S₁:St) (e:E) (n:Nat),S₁.get=S.get->S₁.m=S.m->zV P S.get S.m mo o e->R (S₁.put mo.dst e.v e.wr n) (e.rd,e.wr.map (·.1))->∃(S':St) (e:E),zV P S.get S.m mo o e/\S'.get=lW S.get mo.dst e.v/\S'.m=jW S.m e.wr/\R S' (e.rd,e.wr.map (·.1)):=by
  intro S₁ e n eg em hs hr;exact⟨_,e,hs,by rw[<-eg];exact St.put_get ..,by rw[<-em];rfl,hr⟩
 have run:∀S₁:St,S₁.get=S.get->S₁.m=S.m->zU S.get mo.g->ev P S.get S.m S.n (λv rd wr n=>R (S₁.put mo.dst v wr n) (rd,wr.map (·.1))) mo.op->∃(S':St) (e:E),zV P S.get S.m mo o e/\S'.get=lW S.get mo.dst e.v/\S'.m=jW S.m e.wr/\R S' (e.rd,e.wr.map (·.1)):=by
  intro S₁ eg em hy he;let⟨v,rd,wr,n',hs,hk⟩:=IB c1 he;exact fin S₁ ⟨v,rd,wr⟩ n' eg em (.inl ⟨hy,hs⟩) hk
 split at h
 next hg=>exact run S rfl rfl (by rw[hg];trivial) h
 next t want hg=>
  split at h
  next b et=>
   by_cases hb:b=want
   .subst hb;have h1:=h.1 rfl;rw[gF et]at h1;exact run _ (gF et) rfl (by rw[hg];exact et) h1
   .have hb':b=(!want):=by cases b<;>cases want<;>simp_all
    exact fin _ ⟨jm,[],[]⟩ S.n (gF (by rw[et,hb'])) rfl (.inr ⟨by rw[hg];exact .inl (by rw[et,hb']),rfl,rfl,rfl⟩) (h.2 hb')
  next x et=>
   exact fin S ⟨jm,[],[]⟩ S.n rfl rfl (.inr ⟨by rw[hg];exact .inr ⟨x,et⟩,rfl,rfl,rfl⟩) h
  .exact h.elim
def F7{β:Type}:∀(l:List (List (Nat × β))) (i j:Nat) (f:Nat->β),I_ (λ_=>tT) i f l=I_ (λ_=>tT) j f l
|[],_,_,_=>rfl
|x::l,i,j,f=>by simp only[I_];exact F7 l _ _ _
def Pe{_j:List Nat}{pj:Nat}{pv:Value}{wrp:List (Nat × A_)}{K:List FP->Prop}(hp:pj<ops.size):∀{_l:List MO} {os:List Oper} {k:Nat} {S:St} {_i:List FP},pj<k->lw P N ops _l os=tT->BJ P _j pj k _l S _i K->
 ∃es:List E,vL P ops.size _j pj pv wrp k S.get S.m _l os es/\K (_i.reverse++es.map λe=>(e.rd,e.wr.map (·.1)))
|[],[],k,S,_i,_,_,h=>⟨[],trivial,by simpa[BJ]using h⟩
|[],_::_,_,_,_,_,h,_=>by simp[lw]at h
|_::_,[],_,_,_,_,h,_=>by simp[lw]at h
| mo::_l,o::os,k,S,_i,hk,hc,h=>by
 simp only[lw,aG]at hc;let⟨hc0,_W⟩:=hc;simp only[DW,aG,ae]at hc0;let⟨⟨⟨c1,c2⟩,c3⟩,c4⟩:=hc0;simp only[BJ]at h;split at h
 next hb=>
  let⟨es,t1,t2⟩:=Pe (pv:=pv) (wrp:=wrp) hp oM _W h;rw[St.put_get]at t1;exact⟨⟨jm,[],[]⟩::es,⟨.inr (.inr ⟨hp,hb⟩),t1⟩,uM t2⟩
 .let⟨S',e,h1,h2,h3,h4⟩:=Wp (R:=λS' fp=>BJ P _j pj (k+1) _l S' (fp::_i) K) c1 h;let⟨es,t1,t2⟩:=Pe (pv:=pv) (wrp:=wrp) hp oM _W h4;rw[h2,h3]at t1;exact⟨e::es,⟨.inl ⟨oM,h1⟩,t1⟩,uM t2⟩
def Ec(P:Program)(ops:Array Oper)(_j:oO)(K:St->sK->Prop)(Kp:Value->St->Nat->sK->Prop)(k:Nat)(S:St)(_i:sK)(_l:sH)(os:si):Prop:=
 (∃(es:List E) (S':St),kC P S.get S.m _l os es/\S'.get=I_ (λ_=>tT) 0 S.get ((_l.zip es).map λx=>dw x.1 x.2)/\S'.m=I_ (λ_=>tT) 0 S.m (es.map (·.wr))/\K S' (_i.reverse++es.map λe=>(e.rd,e.wr.map (·.1))))\/
 ∃(pj:Nat) (pv:Value) (wrp:oU) (n:Nat) (es:List E),k<=pj/\pj<ops.size/\vL P ops.size _j pj pv wrp k S.get S.m _l os es/\
  Kp pv ⟨[],jW (I_ (λi=>decide (i<pj-k)) 0 S.m (es.map (·.wr))) wrp,n⟩ pj (_i.reverse++es.map λe=>(e.rd,e.wr.map (·.1)))
def Wq{_j:List Nat} {K:St->List FP->Prop} {Kp:Value->St->Nat->List FP->Prop}:∀{_l:List MO} {os:List Oper} {k:Nat} {S:St} {_i:List FP},k+lN os=ops.size->lw P N ops _l os=tT->wP P _j k _l S _i K Kp->
 Ec P ops _j K Kp k S _i _l os
|[],[],k,S,_i,_,_,h=>.inl ⟨[],S,trivial,rfl,rfl,by simpa[wP]using h⟩
|[],_::_,_,_,_,_,h,_=>by simp[lw]at h
|_::_,[],_,_,_,_,h,_=>by simp[lw]at h
| mo ::_l,o::os,k,S,_i,hk,hc,h=>by
 simp only[lw,aG]at hc;let⟨hc0,_W⟩:=hc;simp only[DW,aG,ae]at hc0;let⟨⟨⟨c1,c2⟩,c3⟩,c4⟩:=hc0;simp only[List.length_cons]at hk;have fin:∀(S':St) (e:E),zV P S.get S.m mo o e->S'.get=lW S.get mo.dst e.v->S'.m=jW S.m e.wr->wP P _j (k+1) _l S' ((e.rd,e.wr.map (·.1))::_i) K Kp->Ec P ops _j K Kp k S _i (mo::_l) (o::os):=by
  intro S' e h1 h2 h3 h4;rcases Wq oM _W h4 with⟨es,S'',t1,t2,t3,t4⟩|⟨pj,pv,wrp,n,es,t1,t2,t3,t4⟩
  .rw[h2,h3]at t1;refine .inl ⟨e::es,S'',⟨h1,t1⟩,?_,?_,uM t4⟩
   .rw[t2,h2,JP];simp only[List.zip_cons_cons,List.map_cons,I_,if_true];exact F7 _ _ _ _
   .rw[t3,h3,F3];simp only[List.map_cons,I_,if_true];exact F7 _ _ _ _
  .rw [h2,h3]at t3;refine .inr ⟨pj,pv,wrp,n,e::es,oM,t2,⟨.inl ⟨oM,h1⟩,t3⟩,?_⟩;have e1:I_ (λi=>decide (i<pj-k)) 0 S.m ((e::es).map (·.wr))=I_ (λi=>decide (i<pj-(k+1))) 0 S'.m (es.map (·.wr)):=by
    have shift:∀(l:List (List (Nat × A_))) (i:Nat) (f:Hp),I_ (λi=>decide (i<pj-k)) (i+1) f l=I_ (λi=>decide (i<pj-(k+1))) i f l:=by
     intro l
     induction l with
     |nil=>intro i f;rfl
     | cons x l ih=>
      intro i f;simp only[I_];rw[ih];have:decide (i+1<pj-k)=decide (i<pj-(k+1)):=by
       by_cases hh:i+1<pj-k
       .rw[bS hh,bS oM]
       .rw[bL hh,bL oM]
      simp only[this]
    simp only[List.map_cons,I_];rw[shift,h3,bS (show 0<pj-k by omega),aC rfl,F3]
   rw[e1];simpa using t4
 by_cases hx:mo.g=nN/\∃f xs,mo.op=.callX f xs
 .let⟨hg,f,xs,hop⟩:=hx;simp only[wP,hg,hop,Pb]at h;rw[hop]at c1;have hc':gu P (.callM f xs) o.op=tT:=by
   cases ho:o.op<;>rw[ho]at c1<;>first|(simp[gu]at c1;done)|exact c1
  rcases h with h|h
  .let⟨v,rd,wr,n',hs,hk'⟩:=IB (P:=P) (get:=S.get) (m:=S.m) (n:=S.n) (K:=λ(v:AV) (rd:List Nat) (wr:List (Nat × A_)) (n:Nat)=>wP P _j (k+1) _l (S.put mo.dst v wr n) ((rd,wr.map λ(x:Nat × A_)=>x.1)::_i) K Kp) (mo:=.callM f xs) hc' h;exact fin _ ⟨v,rd,wr⟩ (.inl ⟨by rw[hg];trivial,hs⟩) (St.put_get ..) rfl hk'
  .rcases Wo (P:=P) (get:=S.get) (m:=S.m) (n:=S.n) (K:=λ_ _ _=>False) (mo:=.callX f xs) c1 (.inr h)with⟨_,_,_,_,_,hh⟩|⟨pv,wr,n',hs,hk'⟩
   .exact hh.elim
   .let⟨es,t1,t2⟩:=Pe (pv:=pv) (wrp:=wr) oM oM _W hk';rw[St.put_get]at t1;refine .inr ⟨k,pv,wr,n',⟨jm,[],[]⟩::es,aJ _,oM,⟨.inr (.inl ⟨rfl,rfl,by rw[hg];trivial,hs⟩),t1⟩,?_⟩;have nN:∀(l:List (List (Nat × A_))) (i:Nat) (f:Hp),I_ (λi=>decide (i<k-k)) i f l=f:=by
     intro l
     induction l with
     |nil=>intro i f;rfl
     |cons x l ih=>intro i f;simp only[I_];simpa using ih _ _
    rw[nN];simpa using t2
 .have h':match mo.g with
   |none=>ev P S.get S.m S.n (λv rd wr n=>wP P _j (k+1) _l (S.put mo.dst v wr n) ((rd,wr.map (·.1))::_i) K Kp) mo.op
   |some (t,want)=>match S.get t with
    |.c (.d (.bool b))=>(b=want->ev P (S.D? t want).get S.m S.n (λv rd wr n=>wP P _j (k+1) _l ((S.D? t want).put mo.dst v wr n) ((rd,wr.map (·.1))::_i) K Kp) mo.op)/\(b=(!want)->wP P _j (k+1) _l ((S.D? t (!want)).put mo.dst jm [] S.n) (([],[])::_i) K Kp)
    |.c (.d (.sc (.tuple _)))=>wP P _j (k+1) _l (S.put mo.dst jm [] S.n) (([],[])::_i) K Kp
    |_=>False:=by
   simp only[wP]at h;cases hg:mo.g with
   |none=>
    rw[hg]at h;simp only at h⊢;cases hop:mo.op with
    |callX f xs=>exact absurd ⟨hg,f,xs,hop⟩ hx
    |_=>rw[hop]at h;exact h
   |some p=>rw[hg]at h;exact h
  let⟨S',e,h1,h2,h3,h4⟩:=Wp (R:=λS' fp=>wP P _j (k+1) _l S' (fp::_i) K Kp) c1 h';exact fin S' e h1 h2 h3 h4
end
end Go.Abs
namespace Go.Abs
variable {os:List MO}{l _j:List Nat}{x:MX}
variable [jE]
inductive MC where
|skip
|reg (os:List MO)
|regd (_j:List Nat) (os:List MO)
|regx (os:List MO)
|regdx (_j:List Nat) (os:List MO)
|seq (a b:MC)
|cond (x:MX) (a b:MC)
|block (id:Nat) (b:MC)
|loop (b:MC)
|exit (id:Nat)
|ret
|fzq (a:MC)
|owq (a:MC)
variable {b a:MC}
def w?(P:Program)(N:Nat):MC->Code->Bool
|.skip,.skip=>tT
|.reg os,.region _ ops d=> !d&&lw P N ops os ops.toList
|.regd _j os,.region _ ops d=>d&&lw P N ops os ops.toList&&JN ops _j&&JO ops _j
|.regx os,.region _ ops d=> !d&&lw P N ops os ops.toList
|.regdx _j os,.region _ ops d=>d&&lw P N ops os ops.toList&&JN ops _j&&JO ops _j
|.seq a b,.seq a' b'=>w? P N a a'&&w? P N b b'
|.cond x a b,.cond o a' b'=>M_ x o&&w? P N a a'&&w? P N b b'
|.block i b,.block i' b'=>i==i'&&w? P N b b'
|.loop b,.loop b'=>w? P N b b'
|.exit i,.exit i'=>i==i'
|.ret,.ret=>tT
|.fzq a,c=>w? P N a c
|.owq a,c=>w? P N a c
|_,_=>oK
def AW(P:Program)(c:Ctx)(mc:MC)(Q:Exit->St->Prop)(S:St):Prop:=
∀code:Code,w? P c.N mc code=tT->∀(a:Act) (w:World),jo P c S.get S.m a w->code.wp P (λe a' w'=>∃S':St,jo P c S'.get S'.m a' w'/\Q e S') a w
def yE(K:St->Prop)(Q:Exit->St->Prop):Exit->St->Prop
|.normal,S=>K S
|e,S=>Q e S
def Af(id:Nat)(Q:Exit->St->Prop):Exit->St->Prop
|.exit i,S=>if i=id then Q .normal S else Q (.exit i) S
|e,S=>Q e S
section
variable {P:Program} {c:Ctx} {Q:Exit->St->Prop} {S:St}
def AW.mono{mc:MC}{Q':Exit->St->Prop}(h:AW P c mc Q S)(hq:∀e S,Q e S->Q' e S):AW P c mc Q' S:=λcode hc a w r=>
 wp_mono (h code hc a w r) λe a' w' ⟨S',r',q⟩=>⟨S',r',hq e S' q⟩
def AW.skip(h:Q .normal S):AW P c .skip Q S:=by
 intro code hc a w r;cases code<;>simp[w?]at hc;exact wp_skip ⟨S,r,h⟩
def AW.exit{id:Nat}(h:Q (.exit id) S):AW P c (.exit id) Q S:=by
 intro code hc a w r;cases code<;>simp[w?]at hc;subst hc;exact wp_exit ⟨S,r,h⟩
def AW.ret(h:Q .ret S):AW P c .ret Q S:=by
 intro code hc a w r;cases code<;>simp[w?]at hc;exact wp_ret ⟨S,r,h⟩
def AW.seq{x y:MC}(h:AW P c x (yE (AW P c y Q) Q) S):AW P c (.seq x y) Q S:=by
 intro code hc a w r;cases code with
 |seq x' y'=>
  simp only[w?,aG]at hc;refine wp_seq (wp_mono (h x' hc.1 a w r) λe a' w' ⟨S',r',q⟩=>?_);cases e with
  |normal=>exact q y' hc.2 a' w' r'
  |_=>exact⟨S',r',q⟩
 |_=>simp[w?]at hc
def AW.cond{t:Bool}(e:X S.get x=.c (.d (.bool t)))(h1:t=tT->AW P c a Q S)(h2:t=oK->AW P c b Q S):AW P c (.cond x a b) Q S:=by
 intro code hc ac w r;cases code with
 |cond o a' b'=>
  simp only[w?,aG]at hc;let⟨ph,ρ,H,S0,e0,hg⟩:=r.ex;have r1:=iV hc.1.1 (ph:=ph) (ρ:=ρ) (get:=S.get) (a:=ac) λk _=>hg k;rw[e]at r1;simp only[g_,m_,RepD]at r1;exact wp_cond_split r1 (λht=>h1 ht a' hc.1.2 ac w r) (λht=>h2 ht b' hc.2 ac w r)
 |_=>simp[w?]at hc
def AW.condU{q:Value->Prop}(e:X S.get x=.c (.op q))(hq:∀v,q v->Hl v)(h1:AW P c a Q S)(h2:AW P c b Q S):AW P c (.cond x a b) Q S:=by
 intro code hc ac w r;cases code with
 |cond o a' b'=>
  simp only[w?,aG]at hc;let⟨ph,ρ,H,S0,e0,hg⟩:=r.ex;have r1:=iV hc.1.1 (ph:=ph) (ρ:=ρ) (get:=S.get) (a:=ac) λk _=>hg k;rw[e]at r1;simp only[g_,m_]at r1;let⟨t,r1⟩:=hq _ r1;exact wp_cond_split r1 (λht=>h1 a' hc.1.2 ac w r) (λht=>h2 b' hc.2 ac w r)
 |_=>simp[w?]at hc
def AW.block{id:Nat}(h:AW P c b (Af id Q) S):AW P c (.block id b) Q S:=by
 intro code hc a w r;cases code with
 | block id' b'=>
  simp only[w?,aG,ae]at hc;let⟨h1,h2⟩:=hc;subst h1;refine wp_block (wp_mono (h b' h2 a w r) λe a' w' ⟨S',r',q⟩=>?_);cases e with
  |exit i=>
   simp only[Af]at q;simp only[Exit.inBlock];split
   next hh=>rw[aC hh]at q;exact⟨S',r',q⟩
   next hh=>rw[aB hh]at q;exact⟨S',r',q⟩
  |_=>exact⟨S',r',q⟩
 |_=>simp[w?]at hc
def AW.reg{os:sH}(h:qc P os S (λS'=>Q .normal S')):AW P c (.reg os) Q S:=by
 intro code hc a w r;cases code with
 |region id ops d=>
  simp only[w?,aG,bB]at hc;let⟨h1,h2⟩:=hc;subst h1;apply wp_region;have hl:=Ls h2;have:=PT (Q:=λe a' w'=>∃S':St,jo P c S'.get S'.m a' w'/\Q e S') (K:=λS'=>Q .normal S') (λS a w r k=>⟨S,r,k⟩) (i:=0) h2 (λj o hj=>uM hj) h r;rw[dD];simpa using this
 |_=>simp[w?]at hc
def AW.regx{os:sH}(h:tu P os S (λS'=>Q .normal S') (λpv S'=>Q (.panic [{v:=pv,recovered:=oK}]) S')):AW P c (.regx os) Q S:=by
 intro code hc a w r;cases code with
 |region id ops d=>
  simp only[w?,aG,bB]at hc;let⟨h1,h2⟩:=hc;subst h1;apply wp_region;have hl:=Ls h2;have:=P9 (Q:=λe a' w'=>∃S':St,jo P c S'.get S'.m a' w'/\Q e S') (K:=λS'=>Q .normal S') (Kp:=λpv S'=>Q (.panic [{v:=pv,recovered:=oK}]) S') (λS a w r k=>⟨S,r,k⟩) (λpv S a w r k=>⟨S,r,k⟩) (i:=0) h2 (λj o hj=>uM hj) h r;rw[dD];simpa using this
 |_=>simp[w?]at hc
def AW.regd{_j:oO}{os:sH}(hm:P.follows .mixedOrders=tT)(h:lJ P os S [] (λS' _i=>zT _j _i=tT/\Q .normal S')):AW P c (.regd _j os) Q S:=by
 intro code hc a w r;cases code with
 | region id ops d=>
  simp only[w?,aG]at hc;let⟨⟨⟨h1,h2⟩,h3⟩,h4⟩:=hc;subst h1;let⟨es,S',t1,t2,t3,t4⟩:=We h2 h;simp only[List.reverse_nil,List.nil_append]at t4;apply wp_region_any hm;have nN:∀{β:Type} (l:List (List (Nat × β))) (i:Nat) (f:Nat->β),I_ (jT (Array.replicate ops.size oK)) i f l=f:=by
   intro β l
   induction l with
   |nil=>intro i f;rfl
   | cons x l ih=>
    intro i f;have:jT (Array.replicate ops.size oK) i=oK:=by
     unfold jT;simp only[aZ,bZ];split<;>rfl
    simp only[I_,this];exact ih _ _
  refine Wl h2 t1 h3 h4 t4.1 (λa w r=>⟨S',by rw[t2,t3];exact r,t4.2⟩) ops.size _ a _ oC ?_ (λj i hj _ _=>?_) ?_
  .have:cnt (Array.replicate ops.size oK)=0:=by
    simp[cnt]
   omega
  .unfold jT at hj;simp only[aZ,bZ]at hj;split at hj<;>simp at hj
  .rw[nN,nN];let⟨ph,ρ,H,S0,e0,hg⟩:=r.ex;exact⟨r.gnd,r.sd,r.defers,r.size,ph,ρ,H,S0,⟨e0.1,e0.2.1,e0.2.2⟩,hg⟩
 |_=>simp[w?]at hc
def AW.regdx{_j:oO}{os:sH}(hm:P.follows .mixedOrders=tT)(h:wP P _j 0 os S [] (λS' _i=>zT _j _i=tT/\Q .normal S') (λpv S' pj _i=>zT _j _i=tT/\Pd _j pj _i=tT/\Q (.panic [{v:=pv,recovered:=oK}]) S')):AW P c (.regdx _j os) Q S:=by
 intro code hc a w r;cases code with
 | region id ops d=>
  simp only[w?,aG]at hc;let⟨⟨⟨h1,h2⟩,h3⟩,h4⟩:=hc;subst h1;have nN:∀{β:Type} (l:List (List (Nat × β))) (i:Nat) (f:Nat->β),I_ (jT (Array.replicate ops.size oK)) i f l=f:=by
   intro β l
   induction l with
   |nil=>intro i f;rfl
   | cons x l ih=>
    intro i f;have:jT (Array.replicate ops.size oK) i=oK:=by
     unfold jT;simp only[aZ,bZ];split<;>rfl
    simp only[I_,this];exact ih _ _
  have l0:∀i,jT (Array.replicate ops.size oK) i=oK:=λi=>by
   unfold jT;simp only[aZ,bZ];split<;>rfl
  have c0:cnt (Array.replicate ops.size oK)+ops.size=ops.size:=by
   have:cnt (Array.replicate ops.size oK)=0:=by
    simp[cnt]
   omega
  rcases Wq (ops:=ops) oC h2 h with⟨es,S',t1,t2,t3,t4⟩|⟨pj,pv,wrp,n,es,g0,g1,g2,g3⟩
  .simp only[List.reverse_nil,List.nil_append]at t4;apply wp_region_any hm;refine Wl h2 t1 h3 h4 t4.1 (λa w r=>⟨S',by rw[t2,t3];exact r,t4.2⟩) ops.size _ a _ oC c0 (λj i hj _ _=>by rw[l0]at hj;cases hj) ?_;rw[nN,nN];let⟨ph,ρ,H,S0,e0,hg⟩:=r.ex;exact⟨r.gnd,r.sd,r.defers,r.size,ph,ρ,H,S0,⟨e0.1,e0.2.1,e0.2.2⟩,hg⟩
  .simp only[List.reverse_nil,List.nil_append,dW]at g3;apply wp_region_any hm;refine Wj (pj:=pj) (pv:=pv) (wrp:=wrp) (es:=es) (get:=S.get) (m:=S.m) h2 g2.len (λj o ho=>by
    let⟨mo,e,e1,e2,e3⟩:=g2.nth ho;rw[Nat.zero_add]at e3
    exact⟨mo,e,e1,e2,e3⟩) h3 h4 g3.1 (λh=>absurd g1 h) (λ_ i e he hw=>?_) (λ_ a w r=>⟨⟨[],jW (I_ (λi=>decide (i<pj)) 0 S.m (es.map λx:E=>x.wr)) wrp,n⟩,r,g3.2.2⟩) ops.size _ a _ (λ_=>l0 _) oC c0 (λj i hj _ _=>by rw[l0]at hj;cases hj) ?_
   .have _k:i<(es.map λe=>(e.rd,e.wr.map (·.1))).length:=by
     rcases aY i (lN es) with h|h
     .simpa using h
     .rw[aR h]at he;cases he
    have:=ai.1 g3.2.1 i (uM _k);rw[aH,List.getElem?_map,he]at this;simp only[Option.map_some,Option.getD_some,cz,aG,aI,List.isEmpty_iff,List.map_eq_nil_iff]at this;exact this.resolve_left hw
   .rw[nN,nN];let⟨ph,ρ,H,S0,e0,hg⟩:=r.ex;exact⟨r.gnd,r.sd,r.defers,r.size,ph,ρ,H,S0,⟨e0.1,e0.2.1,e0.2.2⟩,hg⟩
 |_=>simp[w?]at hc
def hd(t:oZ)(bs:oV):St:=⟨t,r_ bs,lN bs⟩
def BK(S:St)(l:List Nat):List (Nat × AV)->Prop
|[]=>True
|(k,v)::t=>(S.get k=v.N_ (Z' l)/\v.lt (lN l)=tT)/\BK S l t
def yF(S:St)(l:List Nat):List Nat->List A_->Prop
|[],[]=>True
|j::js,b::bs=>(S.m j=b.N_ (Z' l)/\b.lt (lN l)=tT)/\yF S l js bs
|_,_=>False
def gy(l:oO)(S:St)(t:oZ)(bs:oV):Prop:=l.Nodup/\BK S l t/\yF S l l bs
def Ws{S:St}:∀{t:List (Nat × AV)},BK S l t->∀k,look t k=.c (.d .any)\/(S.get k=(look t k).N_ (Z' l)/\(look t k).lt (lN l)=tT)
|[],_,k=>.inl rfl
|(j,v)::t,h,k=>by
 simp only[BK]at h;simp only[look];split
 next e=>subst e;exact .inr h.1
 .exact Ws h.2 k
def Wt{S:St}:∀{js:List Nat} {bs:List A_},yF S l js bs->lN js=lN bs/\∀i,i<lN js->S.m (js.getD i 0)=(bs.getD i .c?).N_ (Z' l)/\(bs.getD i .c?).lt (lN l)=tT
|[],[],_=>⟨rfl,λi hi=>by simp at hi⟩
|[],_::_,h=>by simp[yF]at h
|_::_,[],h=>by simp[yF]at h
|j::js,b::bs,h=>by
 simp only[yF]at h;let⟨h1,h2⟩:=Wt h.2;refine⟨by simp[h1],λi hi=>?_⟩;cases i with
 |zero=>simpa using h.1
 |succ i=>simpa using h2 i (uM hi)
def Ctx.pure(_:Ctx):Prop:=True
def jo.view(hp:c.pure){l:oO}{S:St}{t:oZ}{bs:oV}{a:Act}{w:World}(hm:gy l S t bs)(r:jo P c S.get S.m a w):jo P c (hd t bs).get (hd t bs).m a w:=by
 let⟨hnd,ht,hb⟩:=hm;let⟨hlen,hb⟩:=Wt hb;let⟨ph,ρ,H,S0,e0,hg⟩:=r.ex;have at_:∀b,b<lN l->S.m (Z' l b)=(r_ bs b).N_ (Z' l)/\(r_ bs b).lt (lN l)=tT:=λb hbl=>hb b hbl;have inj:∀b c,b<lN l->c<lN l->Z' l b=Z' l c->b=c:=by
  intro b c h1 h2 e;unfold Z' at e;rw[aH,aH,aA h1,aA h2]at e;simp only[Option.getD_some]at e;exact(List.getElem?_inj h1 hnd).1 (by rw[aA h1,aA h2,e])
 have beyond:∀b,¬b<lN l->r_ bs b=.c?:=by
  intro b hb';unfold r_;rw[aH,aR oM];rfl
 have rs:∀{b:Nat} {p:Nat × Nat},pG (Z' l) (lN l) ρ b=sS p->b<lN l/\ρ (Z' l b)=sS p:=by
  intro b p h;unfold pG at h;split at h
  .exact⟨by assumption,h⟩
  .cases h
 refine⟨r.gnd,r.sd,r.defers,r.size,ph,pG (Z' l) (lN l) ρ,⟨H.pers,?_,?_,?_,?_⟩,⟨S0.hle,S0.hlow,S0.size,S0.frame,?_⟩,e0,λk=>?_⟩
 .intro b;show r_ bs b=.c?↔_;unfold pG;by_cases hbl:b<lN l
  .rw[aC hbl,<-H.dom,(at_ b hbl).1];cases r_ bs b<;>simp[A_.N_]
  .rw[aB hbl];simp[beyond b hbl]
 .intro b p _C;let⟨h1,h2⟩:=rs _C;have:=H.own _ p h2;rw[(at_ b h1).1]at this;exact iw.N_ (at_ b h1).2 this
 .intro b c' p q h1 h2 hr hs e;let⟨g1,g2⟩:=rs h1;let⟨g3,g4⟩:=rs h2;refine inj b c' g1 g3 (H.inj _ _ p q g2 g4 ?_ ?_ e)
  .rw[(at_ b g1).1];exact Real.N_.2 hr
  .rw[(at_ c' g3).1];exact Real.N_.2 hs
 .intro b p h1 hr;let⟨g1,g2⟩:=rs h1;exact H.sep _ p g2 (by rw[(at_ b g1).1];exact Real.N_.2 hr)
 .intro b p h1 hr;let⟨g1,g2⟩:=rs h1;exact S0.own _ p g2 (by rw[(at_ b g1).1];exact Real.N_.2 hr)
 .have rk:=hg k;show g_ ph (pG (Z' l) (lN l) ρ) (look t k) _;rcases Ws ht k with h1|⟨h1,h2⟩
  .rw[h1];simp[g_,m_,RepD]
  .rw[h1]at rk;exact g_.N_ _ _ h2 rk
def AW.loop{Y:Type}(hp:c.pure){body:MC}(I:Y->Prop)(t:Y->oZ)(bs:Y->oV)(μ:Y->Nat){x0:Y}{l0:oO}(hI:I x0)(h0:gy l0 S (t x0) (bs x0))
  (round:∀x,I x->AW P c body (yE (λS'=>∃x' l,I x'/\gy l S' (t x') (bs x')/\μ x'<μ x) Q) (hd (t x) (bs x))):AW P c (.loop body) Q S:=by
 intro code hc a w r;cases code with
 | loop b=>
  simp only[w?]at hc;intro fr k cs
  have key:∀n:Nat,∀x,μ x=n->I x->∀a w,jo P c (hd (t x) (bs x)).get (hd (t x) (bs x)).m a w->
    ∃e a' w',(∃S':St,jo P c S'.get S'.m a' w'/\Q e S')/\Arrives P (lone (fr.at a (.code b::.inLoop b::k)) cs w) fr k cs e a' w':=by
   intro n
   induction n using Nat.strongRecOn with
   | _ n ih=>
    intro x hn hx a w r;let⟨e,a₁,w₁,⟨S',r',q⟩,_O⟩:=round x hx b hc a w r fr (.inLoop b::k) cs;cases e with
    |normal=>
     let⟨x',l,hx',hm,_k⟩:=q;let⟨e₂,a₂,w₂,hq₂,_O₂⟩:=ih (μ x') (hn▸_k) x' rfl hx' a₁ w₁ (jo.view hp hm r');exact⟨e₂,a₂,w₂,hq₂,.of_steps (Steps.trans _O (.one step_inLoop)) _O₂⟩
    |exit id=>exact⟨_,a₁,w₁,⟨S',r',q⟩,.pass (x:=.inLoop b) rfl (λ_ _=>.inl oC) _O⟩
    |goto l=>exact⟨_,a₁,w₁,⟨S',r',q⟩,.pass (x:=.inLoop b) rfl (λ_ _=>.inl oC) _O⟩
    |ret=>exact⟨_,a₁,w₁,⟨S',r',q⟩,.pass (x:=.inLoop b) rfl (λ_ _=>.inl oC) _O⟩
    |panic ch=>exact⟨_,a₁,w₁,⟨S',r',q⟩,.pass (x:=.inLoop b) rfl (λ_ _=>.inl oC) _O⟩
    |outgrown=>exact⟨_,a₁,w₁,⟨S',r',q⟩,.pass (x:=.inLoop b) rfl (λ_ _=>.inl oC) _O⟩
  let⟨e,a',w',hq,_O⟩:=key _ x0 rfl hI a w (jo.view hp h0 r);exact⟨e,a',w',hq,.of_steps (.one step_loop) _O⟩
 |_=>simp[w?]at hc
end
end Go.Abs
namespace Go.Abs
variable {S:St}
variable [jE]
def nA:List (List AC)->Option (List (List D))
|[]=>sS []
|r::rs=>match A? r,nA rs with
 |some x,sS xs=>sS (x::xs)
 |_,_=>nN
@[simp] theorem CV(es:o5):nA (es.map (·.map .d))=sS es:=by
 induction es with
 |nil=>rfl
 |cons e es ih=>simp[nA,ih]
@[simp] theorem zKm(a b:oh):nA (a++b)=(nA a).bind λx=>(nA b).map λy=>x++y:=by
 induction a with
 |nil=>simp[nA]
 | cons e a ih=>
  simp only[List.cons_append,nA];cases A? e with
  |none=>simp
  | some x=>
   rw[ih];cases nA a with
   |none=>simp
   |some y=>
    cases nA b with
    |none=>simp
    |some z=>simp
def Pf:∀{es:List (List AC)} {ds:List (List D)},nA es=sS ds->es=ds.map (·.map .d)
|[],ds,h=>by simp[nA]at h;simp[<-h]
| e::es,ds,h=>by
 simp only[nA]at h;split at h
 next x xs h1 h2=>
  cases h;rw[FV h1,Pf h2];rfl
 .cases h
mutual
def S?(m:Hp):Nat->AC->Option D
|_,.d x=>sS x
|_,.x_ s b off len=>match m b with
 |.arr s' es=>if s=s'/\off+len<=lN es then(nA es).map λds=>.sl oK s ((ds.drop off).take len)else nN
 |_=>nN
|f+1,.ptr b off=>match m b with
 |.box cs=>(uk m f cs).map λds=>.rp ds off
 |_=>nN
|f+1,.fn g k_=>(uk m f k_).map λds=>.fn g ds
|_,_=>nN
def uk(m:Hp):Nat->List AC->Option (List D)
|_,[]=>sS []
|f,c::cs=>match S? m f c,uk m f cs with
 |some x,sS xs=>sS (x::xs)
 |_,_=>nN
end
mutual
def frzV(m:Hp):AV->Option DV
|.c x=>(S? m 4 x).map .one
|.ag cs=>(uk m 4 cs).map .agg
|.a? vs=>(wQ m vs).map .a?
def wQ(m:Hp):List AV->Option (List DV)
|[]=>sS []
|v::vs=>match frzV m v,wQ m vs with
 |some x,sS xs=>sS (x::xs)
 |_,_=>nN
end
@[simp] theorem zNf(m:Hp)(f:Nat)(ds:oQ):uk m f (ds.map .d)=sS ds:=by
 induction ds with
 |nil=>unfold uk;rfl
 |cons d ds ih=>simp[uk,ih,S?]
def Ph{m:Hp}:∀(f:Nat) (cs:List AC) (ds:List D),uk m f cs=sS ds->lN ds=lN cs
|f,[],ds,e=>by unfold uk at e;cases e;rfl
| f,c::cs,ds,e=>by
 unfold uk at e;split at e
 next x xs h1 h2=>
  cases e;simp[Ph f cs xs h2]
 .cases e
def vR(h:PH)(n:Nat)(w:Heap):PH:=λB=>if B<n then h B else w[B]?
section
variable {h:PH} {ρ:RM} {m:Hp} {w:Heap} {n:Nat}
def II(H:E_ h ρ m w):h.le (vR h n w):=λB o e=>by
 unfold vR;split
 .exact e
 .exact H.pers B o e
def Lt(H:E_ h ρ m w):∀B o,vR h n w B=sS o->w[B]?=sS o:=λB o e=>by
 unfold vR at e;split at e
 .exact H.pers B o e
 .exact e
mutual
def Wu (H:E_ h ρ m w) (_w:∀b p,ρ b=sS p->Real (m b) p->n<=p.1):∀(f:Nat) (x:AC) (d:D) (v:Value),S? m f x=sS d->m_ h ρ x v->RepD (vR h n w) d v
|f,.d x,d,v,e,r=>by
 unfold S? at e;cases e;simp only[m_]at r;exact RepD.mono (II H) x v r
| f, .x_ s b off len,d,v,e,r=>by
 unfold S? at e;split at e
 next s' es eb=>
  split at e
  next hh=>
   let⟨h1,h2⟩:=hh;subst h1;simp only[aP]at e;let⟨ds,e1,e2⟩:=e;subst e2;have:=Pf e1;subst this;simp only[m_]at r;let⟨p,a,r1,r2,r3,r4,r5⟩:=r;simp only[aa]at h2;have hlen:((ds.drop off).take len).length=len:=by simp;omega
   have _Q:=H.own b p r1;rw[eb]at _Q;unfold RepD;rcases _Q with⟨q1,q2⟩|⟨us,U,g1,g2,g3,g5,g4⟩
   .have hds:ds=[]:=uM q2;subst hds;have hl0:len=0:=oI h2;have ho0:off=0:=oI h2;subst hl0 ho0;refine⟨a,p.2-0,by rw[r2];simp,oC,(λh=>by cases h),by simp[zaf],(λha=>⟨oC,oM⟩),r5,by simp[RepE]⟩
   .refine⟨a,p.2-off,by rw[r2,hlen],oM,(λh=>by cases h),by simp at g5;omega,λha=>?_,r5,?_⟩
    .have:¬off<p.2:=λ_k=>by rw[r4 _k]at ha;cases ha
     have hl0:len=0:=oM;subst hl0;exact⟨oC,oM⟩
    .by_cases _k:off<p.2
     .have ha:=r4 _k;subst ha;have hn:n<=p.1:=_w b p r1 (by rw[eb];show 0<p.2;omega);have e4:cellsAt (vR h n w) (sS ⟨p.1,off*s,nN⟩)=us.drop (off*s):=by
       simp only[cellsAt,hcells,vR];rw[aB oM,g1]
      rw[e4];have g6:=gp.to_E g4;have:=(g6.drop off).take len;have key:∀(es:List (List D)) (vs:List Value),RepE h s es vs->RepE (vR h n w) s es vs:=λes vs r=>by
       simpa using RepE.mono (II H) es vs [] r
      exact key _ _ this
     .have hl0:len=0:=oM;subst hl0;simp[RepE]
  .cases e
 .cases e
| f+1,.ptr b off,d,v,e,r=>by
 unfold S? at e;split at e
 next cs eb=>
  simp only[aP]at e;let⟨ds,e1,e2⟩:=e;subst e2;simp only[m_]at r;let⟨p,r1,r2⟩:=r;have _Q:=H.own b p r1;rw[eb]at _Q;let⟨us,U,g1,g2,g3⟩:=_Q;have hn:n<=p.1:=_w b p r1 (by rw[eb];trivial);unfold RepD;refine⟨p.1,0,by rw[r2];simp,?_⟩;have e4:hcells (vR h n w) p.1=us:=by
   simp only[hcells,vR];rw[aB oM,g1]
  rw[e4];exact Lu H _w f cs ds us e1 (uM g3)
 .cases e
|f+1,.fn g k_,d,v,e,r=>by
 unfold S? at e;simp only[aP]at e;let⟨ds,e1,e2⟩:=e;subst e2;simp only[m_]at r;let⟨vs,r1,r2,r3⟩:=r;unfold RepD;have hl:lN ds=lN k_:=Ph f k_ ds e1;exact⟨vs,r1,by rw[r2,hl],Lu H _w f k_ ds vs e1 r3⟩
|0,.ptr b off,d,v,e,r=>by unfold S? at e;cases e
|0,.fn g k_,d,v,e,r=>by unfold S? at e;cases e
|0,.ept s b i off,d,v,e,r=>by unfold S? at e;cases e
|_+1,.ept s b i off,d,v,e,r=>by unfold S? at e;cases e
|0,.map b,d,v,e,r=>by unfold S? at e;cases e
|_+1,.map b,d,v,e,r=>by unfold S? at e;cases e
|0,.op q,d,v,e,r=>by unfold S? at e;cases e
|_+1,.op q,d,v,e,r=>by unfold S? at e;cases e
def Lu(H:E_ h ρ m w)(_w:∀b p,ρ b=sS p->Real (m b) p->n<=p.1):∀(f:Nat) (cs:List AC) (ds:List D) (vs:List Value),uk m f cs=sS ds->gY h ρ cs vs->RepL (vR h n w) ds vs
|f,[],ds,vs,e,r=>by unfold uk at e;cases e;simp[RepL]
|f,_::_,ds,[],e,r=>by simp[gY]at r
| f,c::cs,ds,v::vs,e,r=>by
 unfold uk at e;split at e
 next x xs h1 h2=>
  cases e;simp only[gY]at r;simp only[RepL];exact⟨⟨r.1.1,Wu H _w f c x v h1 r.1.2⟩,Lu H _w f cs xs vs h2 r.2⟩
 .cases e
end
mutual
def Pi(H:E_ h ρ m w)(_w:∀b p,ρ b=sS p->Real (m b) p->n<=p.1):∀(x:AV) (d:DV) (v:Value),frzV m x=sS d->g_ h ρ x v->jJ (vR h n w) d v
|.c x,d,v,e,r=>by
 unfold frzV at e;simp only[aP]at e;let⟨y,e1,e2⟩:=e;subst e2;simp only[g_]at r;simp only[jJ];exact Wu H _w _ _ _ _ e1 r
|.ag cs,d,v,e,r=>by
 unfold frzV at e;simp only[aP]at e;let⟨y,e1,e2⟩:=e;subst e2;simp only[g_]at r;let⟨vs,r1,r2,r3⟩:=r;simp only[jJ];exact⟨vs,r1,by rw[r2,Ph _ _ _ e1],Lu H _w _ _ _ _ e1 r3⟩
|.a? xs,d,v,e,r=>by
 unfold frzV at e;simp only[aP]at e;let⟨y,e1,e2⟩:=e;subst e2;simp only[g_]at r;let⟨vs,r1,r2⟩:=r;simp only[jJ];exact⟨vs,r1,Lv H _w _ _ _ e1 r2⟩
def Lv(H:E_ h ρ m w)(_w:∀b p,ρ b=sS p->Real (m b) p->n<=p.1):∀(xs:List AV) (ds:List DV) (vs:List Value),wQ m xs=sS ds->iC h ρ xs vs->il (vR h n w) ds vs
|[],ds,vs,e,r=>by unfold wQ at e;cases e;simpa[iC,il]using r
|_::_,ds,[],e,r=>by simp[iC]at r
| x::xs,ds,v::vs,e,r=>by
 unfold wQ at e;split at e
 next y ys h1 h2=>
  cases e;simp only[iC]at r;simp only[il];exact⟨Pi H _w x y v h1 r.1,Lv H _w xs ys vs h2 r.2⟩
 .cases e
end
end
mutual
def D.ok:D->Prop
|.any=>True
|.int k n=>k.min<=n/\n<=k.max
|.bool _=>True
|.str s=>s.size<=zaf
|.sc _=>True
|.sl _ s es=>lN es<=zaf/\D.okE s es
|.rp cs _=>D.okL cs
|.fn _ cs=>D.okL cs
|.ifc _ _ cs=>D.okL cs
|.mp _ _=>True
def D.okL:List D->Prop
|[]=>True
|d::ds=>d.ok/\D.okL ds
def D.okE(s:Nat):List (List D)->Prop
|[]=>True
|e::es=>(lN e=s/\D.okL e)/\D.okE s es
end
mutual
def RepD.ok{h:PH}:∀(d:D) (v:Value),RepD h d v->d.ok
|.any,_,_=>by simp[D.ok]
|.int k n,v,r=>by simp only[RepD]at r;simp only[D.ok];exact r.2
|.bool _,_,_=>by simp[D.ok]
|.str s,v,r=>by simp only[RepD]at r;simp only[D.ok];exact r.2
|.sc _,_,_=>by simp[D.ok]
|.sl x s es,v,r=>by
 simp only[RepD]at r;let⟨a,cap,r1,r2,r3,r4,r5,r6,r7⟩:=r;simp only[D.ok];exact⟨r4,RepE.ok s es _ r7⟩
|.rp cs off,v,r=>by
 simp only[RepD]at r;let⟨B,o,r1,r2⟩:=r;simp only[D.ok];exact RepL.ok cs _ r2
|.fn f k_,v,r=>by
 simp only[RepD]at r;let⟨vs,r1,r2,r3⟩:=r;simp only[D.ok];exact RepL.ok k_ _ r3
|.ifc t ag cs,v,r=>by
 simp only[RepD]at r;let⟨vs,r1,r2,r3,r4⟩:=r;simp only[D.ok];exact RepL.ok cs _ r4
|.mp _ _,_,_=>by simp[D.ok]
def RepL.ok{h:PH}:∀(ds:List D) (vs:List Value),RepL h ds vs->D.okL ds
|[],_,_=>by simp[D.okL]
|_::_,[],r=>by simp[RepL]at r
|d::ds,v::vs,r=>by
 simp only[RepL]at r;simp only[D.okL];exact⟨RepD.ok d v r.1.2,RepL.ok ds vs r.2⟩
def RepE.ok{h:PH}(s:Nat):∀(es:List (List D)) (vs:List Value),RepE h s es vs->D.okE s es
|[],_,_=>by simp[D.okE]
|e::es,vs,r=>by
 simp only[RepE]at r;simp only[D.okE];exact⟨⟨r.1,RepL.ok e vs r.2.1⟩,RepE.ok s es _ r.2.2⟩
end
mutual
def DV.ok:DV->Prop
|.one x=>x.ok
|.agg cs=>D.okL cs
|.a? vs=>DV.okL vs
def DV.okL:List DV->Prop
|[]=>True
|v::vs=>v.ok/\DV.okL vs
end
mutual
def jJ.ok{h:PH}:∀(d:DV) (v:Value),jJ h d v->d.ok
|.one x,v,r=>by simp only[jJ]at r;simp only[DV.ok];exact RepD.ok _ _ r
|.agg cs,v,r=>by
 simp only[jJ]at r;let⟨vs,r1,r2,r3⟩:=r;simp only[DV.ok];exact RepL.ok _ _ r3
|.a? xs,v,r=>by
 simp only[jJ]at r;let⟨vs,r1,r2⟩:=r;simp only[DV.ok];exact il.ok _ _ r2
def il.ok{h:PH}:∀(ds:List DV) (vs:List Value),il h ds vs->DV.okL ds
|[],_,_=>by simp[DV.okL]
|_::_,[],r=>by simp[il]at r
|d::ds,v::vs,r=>by
 simp only[il]at r;simp only[DV.okL];exact⟨jJ.ok d v r.1,il.ok ds vs r.2⟩
end
def D.er:D->D
|.sl _ s es=>.sl oK s es
|d=>d
def RepD.er{h:PH}{d:D}{v:Value}(r:RepD h d v):RepD h d.er v:=by
 cases d with
 |sl x s es=>
  simp only[D.er];simp only[RepD]at r⊢;let⟨a,cap,r1,r2,r3,r4⟩:=r;exact⟨a,cap,r1,r2,(λh=>by cases h),r4⟩
 |_=>exact r
def RepL.er{h:PH}:∀{ds:oQ} {vs:oP},RepL h ds vs->RepL h (ds.map D.er) vs
|[],_,_=>by simp[RepL]
|_::_,[],r=>by simp[RepL]at r
|d::ds,v::vs,r=>by
 simp only[RepL]at r;simp only[List.map_cons,RepL];exact⟨⟨r.1.1,r.1.2.er⟩,r.2.er⟩
mutual
def DV.er:DV->DV
|.one x=>.one x.er
|.agg cs=>.agg (cs.map D.er)
|.a? vs=>.a? (DV.ers vs)
def DV.ers:List DV->List DV
|[]=>[]
|v::vs=>v.er::DV.ers vs
end
mutual
def jJ.er{h:PH}:∀{d:DV} {v:Value},jJ h d v->jJ h d.er v
|.one x,v,r=>by simp only[jJ,DV.er]at r⊢;exact RepD.er r
|.agg cs,v,r=>by
 simp only[jJ,DV.er]at r⊢;let⟨vs,r1,r2,r3⟩:=r;exact⟨vs,r1,uM r2,r3.er⟩
|.a? xs,v,r=>by
 simp only[jJ,DV.er]at r⊢;let⟨vs,r1,r2⟩:=r;exact⟨vs,r1,il.ers r2⟩
def il.ers{h:PH}:∀{ds:List DV} {vs:List Value},il h ds vs->il h (DV.ers ds) vs
|[],_,r=>by simpa[il,DV.ers]using r
|_::_,[],r=>by simp[il]at r
|d::ds,v::vs,r=>by
 simp only[il]at r;simp only[DV.ers,il];exact⟨r.1.er,il.ers r.2⟩
end
inductive MR where
|tmp (t:Nat)
|cell (t:Nat) (ag:Bool) (sz:Nat)
abbrev qC:=List MR
def kJ(P:Program):List MR->List ResultVar->Bool
|[],[]=>tT
|.tmp t::rs,.tmp t'::vs=>t==t'&&kJ P rs vs
|.cell t ag sz::rs,.cell t' T::vs=>t==t'&&CQ P T==sS (ag,sz)&&kJ P rs vs
|_,_=>oK
def zW(S:St)(K:AV->Prop):MR->Prop
|.tmp t=>K (S.get t)
| .cell t ag sz=>match S.get t with
 |.c (.d (.rp cs off))=>E8 ag sz cs off K
 |.c (.ptr b off)=>match S.m b with
  |.box cs=>Ae ag sz cs off K
  |_=>False
 |_=>False
def zX(S:St):List MR->(List AV->Prop)->Prop
|[],K=>K []
|r::rs,K=>zW S (λv=>zX S rs λvs=>K (v::vs)) r
def zY:oP->Value
|[v]=>v
|vs=>.tuple vs.toArray
def one?:oo->AV
|[v]=>v
|vs=>.a? vs
section
variable {P:Program} {c:Ctx}
def zJb{K:AV->Prop}{r:MR}{rv:ResultVar}(hc:kJ P [r] [rv]=tT)(hK:zW S K r):∃v,K v/\∀{h:PH} {ρ:RM} {a:Act} {w:World},E_ h ρ S.m w.heap->(∀k,g_ h ρ (S.get k) (a.tmps.getD k undef))->
  ∃vC,j_ P (match rv with|.tmp t=>(Pure.pure (a.tmps.getD t undef):Sem Value)|.cell t T=>do loadVar T (<-asAddr (a.tmps.getD t undef))) w vC w/\g_ h ρ v vC:=by
 cases r with
 | tmp t=>
  cases rv with
  |tmp t'=>
   simp only[kJ,Bool.and_true,ae]at hc;subst hc;exact⟨_,hK,λ{h ρ a w} H hg=>⟨_,fF _,hg t⟩⟩
  |cell _ _=>simp[kJ]at hc
 | cell t ag sz=>
  cases rv with
  |tmp _=>simp[kJ]at hc
  | cell t' T=>
   simp only[kJ,Bool.and_true,aG,ae]at hc;obtain⟨h1,hT⟩:=hc;subst h1;simp only[zW]at hK;split at hK
   next cs off ex=>
    obtain⟨v,kv,F⟩:=Vt hT hK;refine⟨v,kv,λ{h ρ a w} H hg=>?_⟩;have r1:=hg t;rw[ex]at r1;simp only[g_,m_,RepD]at r1;obtain⟨B,o',e,rl⟩:=r1;obtain⟨vC,h2,h3⟩:=F (ρ:=ρ) H rl;refine⟨vC,?_,h3⟩;show j_ P (do loadVar T (<-asAddr (a.tmps.getD t undef))) w vC w;rw[e];exact(fF (⟨B,o'+off,nN⟩:Addr)).bind h2
   next b off ex=>
    split at hK
    next cs eb=>
     obtain⟨v,kv,F⟩:=L6 hT hK;refine⟨v,kv,λ{h ρ a w} H hg=>?_⟩;have r1:=hg t;rw[ex]at r1;simp only[g_,m_]at r1;obtain⟨q,hq,e⟩:=r1;have _Q:=H.own b q hq;rw[eb]at _Q;obtain⟨vs,U,g1,g2,g3⟩:=_Q;obtain⟨vC,h2,h3⟩:=F (w:=w) (o:=0) g1 (by simpa using g3);refine⟨vC,?_,h3⟩;show j_ P (do loadVar T (<-asAddr (a.tmps.getD t undef))) w vC w;rw[e];simp only[Nat.zero_add]at h2;exact(fF (⟨q.1,off,nN⟩:Addr)).bind h2
    .exact hK.elim
   .exact hK.elim
def Lx:∀{rs:List MR} {K:List AV->Prop} {rvs:List ResultVar},kJ P rs rvs=tT->zX S rs K->∃vs,K vs/\∀{h:PH} {ρ:RM} {a:Act} {w:World},E_ h ρ S.m w.heap->(∀k,g_ h ρ (S.get k) (a.tmps.getD k undef))->
 ∃us:List Value,j_ P (rvs.mapM λ|.tmp t=>(Pure.pure (a.tmps.getD t undef):Sem Value)|.cell t T=>do loadVar T (<-asAddr (a.tmps.getD t undef))) w us w/\iC h ρ vs us
|[],K,[],_,hK=>⟨[],hK,λ_ _=>⟨[],fF _,rfl⟩⟩
|[],_,_::_,h,_=>by simp[kJ]at h
|r::rs,_,[],h,_=>by cases r<;>simp[kJ]at h
| r::rs,K,rv::rvs,hc,hK=>by
 have h1:kJ P [r] [rv]=tT/\kJ P rs rvs=tT:=by
  cases r<;>cases rv<;>simp_all[kJ]
 simp only[zX]at hK;let⟨v,kv,F⟩:=zJb h1.1 hK;let⟨vs,kvs,G⟩:=Lx h1.2 kv;refine⟨v::vs,kvs,λ{h ρ a w} H hg=>?_⟩;let⟨vC,f1,f2⟩:=F (a:=a) H hg;let⟨us,g1,g2⟩:=G (a:=a) H hg;refine⟨vC::us,?_,⟨f2,g2⟩⟩;rw[List.mapM_cons];exact f1.bind (g1.bind (fF _))
def qd:Nat->List DV->List (Nat × AV)
|_,[]=>[]
|i,v::vs=>(i,v.av)::qd (i+1) vs
def BL(rs:List MR)(v:DV):Exit->St->Prop
|.ret,S|.normal,S=>zX S rs λvs=>(frzV S.m (one? vs)).map DV.er=sS v
|_,_=>False
def Pj{h:PH}{ρ:RM}:∀{ds:List DV} {us:List Value} (i:Nat),il h ds us->∀k,g_ h ρ (look (qd i ds) k) (if i<=k then us.getD (k-i) undef else undef)
|[],us,i,_,k=>by simp[qd,look,g_,m_,RepD]
|_::_,[],_,r,_=>by simp[il]at r
| d::ds,u::us,i,r,k=>by
 simp only[il]at r;simp only[qd,look];by_cases hk:k=i
 .subst hk;simp;exact jJ.av r.1
 .rw[aB hk];have:=Pj (ρ:=ρ) (i+1) r.2 k;by_cases hle:i<=k
  .rw[aC hle];rw[aC oM]at this;rw[show k-i=(k-(i+1))+1 from by omega];simpa using this
  .rw[aB hle];rw[aB oM]at this;exact this
def h_.of_walk {f : FuncId} {fn : Func} {code : Code} {mc : MC} {rs : List MR} {args : List DV} {v : DV} (hf : P.funcs[f]? = some fn) (hb : fn.body = some code) (hname : (fn.name != "runtime.NumGoroutine") = true)
  (hc:w? P fn.ntmps mc code=true) (hr:kJ P rs fn.results.toList=true) (hn:args.length<=fn.ntmps) (h:DV.okL args->∀c:Ctx,c.N=fn.ntmps->c.pure->AW P c mc (BL rs v) ⟨qd 0 args,λ_=>.c?,0⟩):h_ P f args v:=by
 refine⟨by unfold callee;rw[hf];simp only[hb];simpa using hname,λph w us hp hG hS ra=>?_⟩;have hlen:=ra.length;let c:Ctx:=⟨ph,λ_=>none,λ_=>.c?,w,fn.ntmps,[]⟩
 have hpure:c.pure:=trivial;refine calls_of_wp hf hb (wp_mono (h (il.ok _ _ ra) c rfl hpure code hc _ w ?_) λe a' w' ⟨S',r',q⟩=>?_)
 .refine⟨hG,jE.mono hS (fU _) (aJ _) (λ_ _ _=>⟨rfl,rfl,λb p hp=>by cases hp⟩),rfl,?_,ph,λ_=>none,⟨hp,λb=>by simp,(λb p e=>by cases e),(λb c p q e=>by cases e),(λb p e=>by cases e)⟩,(Step.refl _ _ _ _).wk,fZ w,λk=>?_⟩
  .simp[c];omega
  .show g_ ph (λ_=>none) (look (qd 0 args) k) _;have:=Pj (ρ:=λ_=>none) 0 ra k;simp only[eF,if_true,dW]at this;have e1:(us.toArray++Array.replicate (fn.ntmps-us.toArray.size) undef).getD k undef=us.getD k undef:=by
    rw[aZ,aH,Array.getElem?_append];split
    .simp
    .rename_i hh;rw[aR (by simpa using hh)];simp only[bZ];split<;>rfl
   rw[e1];exact this
 .obtain⟨ph',ρ',H,S0,e0,hg⟩:=r'.ex
  have fin:zX S' rs (λvs=>(frzV S'.m (one? vs)).map DV.er=some v)->∃vC,(results fn a'.tmps).run P w'=.ok vC w'/\∃(vC':Value) (h':PH),Ending.returned vC=.returned vC'/\ph.le h'/\(∀B,B<w.heap.size->h' B=ph B)/\(∀B o,h' B=some o->w'.heap[B]?=some o)/\
    w.heap.size<=w'.heap.size/\(∀B,B<w.heap.size->w'.heap[B]?=w.heap[B]?)/\Same w w'/\jJ h' v vC':=by
   intro hk;obtain⟨vs,kv,F⟩:=Lx hr hk;simp only[aP]at kv;obtain⟨v',kv,ev⟩:=kv;subst ev;obtain⟨_F,g1,g2⟩:=F (a:=a') H hg;have _w:∀b p,ρ' b=some p->Real (S'.m b) p->w.heap.size<=p.1:=by
    intro b p h1 h2;rcases S0.own b p h1 h2 with h3|⟨c',q,h3,_⟩
    .exact h3
    .cases h3
   have free:∀B,jK c.ρ c.m B:=λB b p h1=>by cases h1
   have hres:j_ P (results fn a'.tmps) w' (zY _F) w':=by
    unfold results;refine fG (a:=_F.toArray) (w':=w') ?_ ?_
    .rw[dK];exact g1.map (f:=List.toArray)
    .cases _F with
     |nil=>exact fF _
     |cons u _F=>
      cases _F with
      |nil=>exact fF _
      |cons u' _F=>exact fF _
   have _U:g_ ph' ρ' (one? vs) (zY _F):=by
    cases vs with
    |nil=>
     simp only[iC]at g2;subst g2;simp only[one?,g_];exact⟨[],rfl,rfl⟩
    | cons x xs=>
     cases _F with
     |nil=>simp[iC]at g2
     | cons u _F=>
      cases xs with
      |nil=>
       simp only[iC]at g2;rw[g2.2];exact g2.1
      | cons y ys=>
       cases _F with
       |nil=>simp[iC]at g2
       |cons u' _F=>
        simp only[one?,g_];exact⟨_,rfl,g2⟩
   refine⟨_,hres,_,vR ph' w.heap.size w'.heap,rfl,PH.le_trans S0.hle (II H),λB hB=>?_,Lt H,S0.size,λB hB=>S0.frame B hB (free B),e0,(Pi H _w _ _ _ kv _U).er⟩;unfold vR;rw[aC hB];exact S0.hlow B hB (free B)
  cases e with
  |normal=>exact⟨r'.defers,fin q⟩
  |ret=>exact⟨r'.defers,fin q⟩
  |exit _=>exact q.elim
  |goto _=>exact q.elim
  |panic _=>exact q.elim
  |outgrown=>exact q.elim
end
end Go.Abs
namespace Go.Abs
variable {x:A_}{K K':St->Prop}{v:Value}{P:Program}{c:Ctx}{S:St}{a:Act}{mc:MC}{Q:Exit->St->Prop}
variable [jE]
def AC.fz(b s:Nat)(ds:o5):AC->AC
|.x_ s' b' off len=>if b'=b/\s'=s/\off+len<=lN ds then .d (.sl oK s ((ds.drop off).take len))else .x_ s' b' off len
|x=>x
def AV.fz(b s:Nat)(ds:o5):AV->AV
|.c x=>.c (x.fz b s ds)
|.ag cs=>match A? cs with
 |some _=>.ag cs
 |none=>.ag (cs.map (AC.fz b s ds))
|.a? vs=>.a? vs
def A_.fz(b s:Nat)(ds:o5):A_->A_
|.box cs=>match A? cs with
 |some _=>.box cs
 |none=>.box (cs.map (AC.fz b s ds))
|.arr s' es=>match nA es with
 |some _=>.arr s' es
 |none=>.arr s' (es.map (·.map (AC.fz b s ds)))
|x=>x
@[simp] theorem AC.fz_msl{b s:Nat}{ds:o5}{s' b' off len:Nat}:(AC.x_ s' b' off len).fz b s ds=if b'=b/\s'=s/\off+len<=lN ds then .d (.sl oK s ((ds.drop off).take len))else .x_ s' b' off len:=oF
@[simp] theorem AC.fz_d{b s:Nat}{ds:o5}{x:D}:(AC.d x).fz b s ds=.d x:=oF
@[simp] theorem AC.fz_ptr{b s:Nat}{ds:o5}{i j:Nat}:(AC.ptr i j).fz b s ds=.ptr i j:=oF
@[simp] theorem AC.fz_ept{b s:Nat}{ds:o5}{i j k l:Nat}:(AC.ept i j k l).fz b s ds=.ept i j k l:=oF
@[simp] theorem AC.fz_map{b s:Nat}{ds:o5}{i:Nat}:(AC.map i).fz b s ds=.map i:=oF
@[simp] theorem AV.fz_c{b s:Nat}{ds:o5}{x:AC}:(AV.c x).fz b s ds=.c (x.fz b s ds):=oF
@[simp] theorem AV.fz_ag{b s:Nat}{ds:o5}{cs:o7}:(AV.ag cs).fz b s ds=(match A? cs with
 |some _=>.ag cs
 |none=>.ag (cs.map (AC.fz b s ds))):=oF
@[simp] theorem AV.fz_tup{b s:Nat}{ds:o5}{vs:oo}:(AV.a? vs).fz b s ds=.a? vs:=oF
@[simp] theorem A_.fz_box{b s:Nat}{ds:o5}{cs:o7}:(A_.box cs).fz b s ds=(match A? cs with
 |some _=>.box cs
 |none=>.box (cs.map (AC.fz b s ds))):=oF
@[simp] theorem A_.fz_arr{b s:Nat}{ds:o5}{s':Nat}{es:oh}:(A_.arr s' es).fz b s ds=(match nA es with
 |some _=>.arr s' es
 |none=>.arr s' (es.map (·.map (AC.fz b s ds)))):=oF
@[simp] theorem A_.fz_dead{b s:Nat}{ds:o5}:A_.dead.fz b s ds=.dead:=oF
@[simp] theorem A_.fz_nonB{b s:Nat}{ds:o5}:A_.c?.fz b s ds=.c?:=oF
@[simp] theorem A_.fz_mapB{b s:Nat}{ds:o5}{es:oz}:(A_.map es).fz b s ds=.map es:=oF
@[simp] theorem A_.fz_pin{b s:Nat}{ds:o5}{t:Nat × Nat}{i:Nat}:(A_.G_ t i).fz b s ds=.G_ t i:=oF
@[simp] theorem F8{α:Type}(l:List α)(f:α->oQ):nA (l.map ((λx=>List.map AC.d x)∘f))=sS (l.map f):=by
 rw[<-dP];exact CV _
section
variable {h:PH} {ρ:RM} {m:Hp} {w:Heap} {b s:Nat} {ds:List (List D)}
noncomputable def ym(h:PH) (p:Nat × Nat) (w:Heap):PH:=if 0<p.2 then upd h p.1 w[p.1]? else h
def JR(H:E_ h ρ m w){p:Nat × Nat}(e:ρ b=sS p)(hb:m b=.arr s (ds.map (·.map .d))):
  E_ (ym h p w) ρ (upd m b .dead) w/\Step h ρ m w (ym h p w) ρ (upd m b .dead) w/\h.le (ym h p w):=by
 unfold ym;by_cases hp:0<p.2
 .rw[aC hp];let⟨a,c⟩:=H.freeze e (show Real (m b) p by rw[hb];exact hp);exact⟨a,c,c.hle⟩
 .rw[aB hp];let⟨a,c⟩:=H.kill (b:=b) (by rw[hb];intro h;cases h);exact⟨a,c,c.hle⟩
def m_.fz(H:E_ h ρ m w){p:Nat × Nat}(e:ρ b=sS p)(hb:m b=.arr s (ds.map (·.map .d))){x:AC}(r:m_ h ρ x v):m_ (ym h p w) ρ (x.fz b s ds) v:=by
 have hle:=(JR H e hb).2.2;cases x with
 | x_ s' b' off len=>
  show m_ _ _ (if b'=b/\s'=s/\off+len<=lN ds then AC.d (.sl oK s ((ds.drop off).take len))else .x_ s' b' off len) v;by_cases hh:b'=b/\s'=s/\off+len<=lN ds
  .rw [aC hh];obtain⟨rfl,rfl,h2⟩:=hh;simp only[m_]at r⊢;let⟨p',a,r1,r2,r3,r4,r5⟩:=r;rw[e]at r1;cases r1;have hlen:((ds.drop off).take len).length=len:=by simp;omega
   have _Q:=H.own b' p e;rw[hb]at _Q;unfold RepD;rcases _Q with⟨q1,q2⟩|⟨us,U,g1,g2,g3,g5,g4⟩
   .have hds:ds=[]:=uM q2;subst hds;have hl0:len=0:=oI h2;have ho0:off=0:=oI h2;subst hl0 ho0;exact⟨a,p.2-0,by rw[r2];simp,oC,(λh=>by cases h),by simp[zaf],(λha=>⟨oC,oM⟩),r5,by simp[RepE]⟩
   .refine⟨a,p.2-off,by rw[r2,hlen],oM,(λh=>by cases h),by simp at g5;omega,λha=>?_,r5,?_⟩
    .have:¬off<p.2:=λ_k=>by rw[r4 _k]at ha;cases ha
     have hl0:len=0:=oM;subst hl0;exact⟨oC,oM⟩
    .by_cases _k:off<p.2
     .have ha:=r4 _k;subst ha;have e4:cellsAt (ym h p w) (sS ⟨p.1,off*s',nN⟩)=us.drop (off*s'):=by
       unfold ym;rw[aC oM];simp only[cellsAt,hcells,zam];rw[g1]
      rw[e4];have g6:=gp.to_E g4;have:=(g6.drop off).take len;have key:∀(es:o5) (vs:oP),RepE h s' es vs->RepE (ym h p w) s' es vs:=λes vs r=>by
       simpa using RepE.mono hle es vs [] r
      exact key _ _ this
     .have hl0:len=0:=oM;subst hl0;simp[RepE]
  .rw[aB hh];exact m_.mono hle (fV _) _ _ r
 |_=>exact m_.mono hle (fV _) _ _ r
def gY.fz(H:E_ h ρ m w){p:Nat × Nat}(e:ρ b=sS p)(hb:m b=.arr s (ds.map (·.map .d))):∀{cs:List AC} {vs:List Value},gY h ρ cs vs->gY (ym h p w) ρ (cs.map (AC.fz b s ds)) vs
|[],_,_=>by simp[gY]
|_::_,[],r=>by simp[gY]at r
|c::cs,v::vs,r=>by
 simp only[gY,List.map_cons]at r⊢;exact⟨⟨r.1.1,m_.fz H e hb r.1.2⟩,gY.fz H e hb r.2⟩
def gp.fz(H:E_ h ρ m w){p:Nat × Nat}(e:ρ b=sS p)(hb:m b=.arr s (ds.map (·.map .d))){t:Nat}:∀{es:List (List AC)} {vs:List Value},gp h ρ t es vs->gp (ym h p w) ρ t (es.map (·.map (AC.fz b s ds))) vs
|[],_,_=>by simp[gp]
|c::cs,vs,r=>by
 simp only[gp,List.map_cons,aa]at r⊢;exact⟨r.1,gY.fz H e hb r.2.1,gp.fz H e hb r.2.2⟩
def g_.fz(H:E_ h ρ m w){p:Nat × Nat}(e:ρ b=sS p)(hb:m b=.arr s (ds.map (·.map .d))){x:AV}(r:g_ h ρ x v):g_ (ym h p w) ρ (x.fz b s ds) v:=by
 cases x with
 |c x=>simp only[g_,AV.fz]at r⊢;exact m_.fz H e hb r
 | ag cs=>
  rw[AV.fz_ag];split
  .exact g_.mono (JR H e hb).2.2 (fV _) _ _ r
  .simp only[g_,aa]at r⊢;let⟨vs,r1,r2,r3⟩:=r;exact⟨vs,r1,r2,gY.fz H e hb r3⟩
 |a? vs=>exact g_.mono (JR H e hb).2.2 (fV _) _ _ r
def A_.fz_non:x.fz b s ds=.c?↔x=.c?:=by cases x<;>simp<;>split<;>simp
def A_.fz_real{p:Nat × Nat}:Real (x.fz b s ds) p↔Real x p:=by cases x<;>simp<;>split<;>simp[Real]
def iw.fz(H:E_ h ρ m w){p q:Nat × Nat}(e:ρ b=sS p)(hb:m b=.arr s (ds.map (·.map .d)))(r:iw h ρ q x w):iw (ym h p w) ρ q (x.fz b s ds) w:=by
 have hle:=(JR H e hb).2.2;cases x with
 | box cs=>
  rw[A_.fz_box];split
  .exact iw.congr hle (fV _) rfl r
  .simp only[iw,aa]at r⊢;let⟨vs,T,r1,r2,r3⟩:=r;exact⟨vs,T,r1,r2,gY.fz H e hb r3⟩
 | arr t es=>
  rw[A_.fz_arr];split
  .exact iw.congr hle (fV _) rfl r
  .simp only[iw,aa,List.map_eq_nil_iff]at r⊢;rcases r with r|⟨vs,T,r1,r2,r3,r4,r5⟩
   .exact .inl r
   .exact .inr ⟨vs,T,r1,r2,r3,r4,gp.fz H e hb r5⟩
 |_=>exact iw.congr hle (fV _) rfl r
def Ag(m:Hp)(b s:Nat)(ds:o5):Hp:=λi=>if i=b then .dead else(m i).fz b s ds
@[simp] theorem yG(m:Hp)(b s:Nat)(ds:o5)(i:Nat):Ag m b s ds i=if i=b then .dead else(m i).fz b s ds:=oF
def E_.fz(H:E_ h ρ m w){p:Nat × Nat}(e:ρ b=sS p)(hb:m b=.arr s (ds.map (·.map .d))):
  E_ (ym h p w) ρ (Ag m b s ds) w/\Step h ρ m w (ym h p w) ρ (Ag m b s ds) w:=by
 let⟨K,S,hle⟩:=JR H e hb;have hn:∀i,Ag m b s ds i=.c?↔upd m b .dead i=.c?:=λi=>by
  unfold Ag;by_cases hi:i=b
  .subst hi;rw[aC rfl,zam]
  .rw[aB hi,zao _ _ hi];exact A_.fz_non
 have hr:∀i q,Real (Ag m b s ds i) q↔Real (upd m b .dead i) q:=λi q=>by
  unfold Ag;by_cases hi:i=b
  .subst hi;rw[aC rfl,zam]
  .rw[aB hi,zao _ _ hi];exact A_.fz_real
 refine⟨⟨K.pers,λi=>(hn i).trans (K.dom i),λi q hq=>?_,λi j q q' h1 h2 h3 h4=>K.inj i j q q' h1 h2 ((hr _ _).1 h3) ((hr _ _).1 h4),λi q h1 h2=>K.sep i q h1 ((hr _ _).1 h2)⟩,
  ⟨S.hle,S.hlow,S.rle,S.size,S.frame,λi q h1 h2=>S.own i q h1 ((hr _ _).1 h2)⟩⟩
 unfold Ag;by_cases hi:i=b
 .subst hi;rw[aC rfl];trivial
 .rw[aB hi];exact iw.fz H e hb (H.own i q hq)
end
def jo.fz{get:Nat->AV}{m:Hp}{w:World}{b s:Nat}{ds:o5}(R:jo P c get m a w)(hb:m b=.arr s (ds.map (·.map .d))):jo P c (λk=>(get k).fz b s ds) (Ag m b s ds) a w:=by
 let⟨h,ρ,H,S,sm,r⟩:=R.ex;have _A:ρ b≠nN:=λe=>by have:=(H.dom b).2 e;rw[hb]at this;cases this
 let⟨p,e⟩:=Option.ne_none_iff_exists'.1 _A;let⟨K,T⟩:=H.fz e hb;exact⟨R.gnd,R.sd,R.defers,R.size,⟨_,ρ,K,S.trans T,sm,λk=>g_.fz H e hb (r k)⟩⟩
def vS:List (D × AV)->Option (List D × List D)
|[]=>sS ([],[])
|(k,.c (.d v))::es=>if k.one&&v.one then(vS es).map λp=>(k::p.1,v::p.2)else nN
|_=>nN
def AC.fm(b:Nat)(ks us:oQ):AC->AC
|.map b'=>if b'=b then .d (.mp ks us)else .map b'
|x=>x
def AV.fm(b:Nat)(ks us:oQ):AV->AV
|.c x=>.c (x.fm b ks us)
|.ag cs=>match A? cs with
 |some _=>.ag cs
 |none=>.ag (cs.map (AC.fm b ks us))
|.a? vs=>.a? vs
def A_.fm(b:Nat)(ks us:oQ):A_->A_
|.box cs=>match A? cs with
 |some _=>.box cs
 |none=>.box (cs.map (AC.fm b ks us))
|.arr s' es=>match nA es with
 |some _=>.arr s' es
 |none=>.arr s' (es.map (·.map (AC.fm b ks us)))
|x=>x
section
variable {b:Nat} {ks us:List D}
@[simp] theorem AC.fm_map{i:Nat}:(AC.map i).fm b ks us=if i=b then .d (.mp ks us)else .map i:=oF
@[simp] theorem AC.fm_d{x:D}:(AC.d x).fm b ks us=.d x:=oF
@[simp] theorem AC.fm_ptr{i j:Nat}:(AC.ptr i j).fm b ks us=.ptr i j:=oF
@[simp] theorem AC.fm_msl{i j k l:Nat}:(AC.x_ i j k l).fm b ks us=.x_ i j k l:=oF
@[simp] theorem AV.fm_c{x:AC}:(AV.c x).fm b ks us=.c (x.fm b ks us):=oF
@[simp] theorem AV.fm_ag{cs:o7}:(AV.ag cs).fm b ks us=(match A? cs with
 |some _=>.ag cs
 |none=>.ag (cs.map (AC.fm b ks us))):=oF
@[simp] theorem A_.fm_box{cs:o7}:(A_.box cs).fm b ks us=(match A? cs with
 |some _=>.box cs
 |none=>.box (cs.map (AC.fm b ks us))):=oF
@[simp] theorem A_.fm_arr{s':Nat}{es:oh}:(A_.arr s' es).fm b ks us=(match nA es with
 |some _=>.arr s' es
 |none=>.arr s' (es.map (·.map (AC.fm b ks us)))):=oF
@[simp] theorem A_.fm_dead:A_.dead.fm b ks us=.dead:=oF
@[simp] theorem A_.fm_nonB:A_.c?.fm b ks us=.c?:=oF
@[simp] theorem A_.fm_mapB{es:oz}:(A_.map es).fm b ks us=.map es:=oF
@[simp] theorem A_.fm_pin{t:Nat × Nat}{i:Nat}:(A_.G_ t i).fm b ks us=.G_ t i:=oF
end
section
variable {h:PH} {ρ:RM} {m:Hp} {w:Heap} {b:Nat} {ks us:List D} {es:List (D × AV)}
def Wv:∀{es:List (D × AV)} {ks us:List D} {ms:List MapEntry},vS es=sS (ks,us)->Y' h ρ es ms->lN ms=lN ks/\lN ms=lN us/\RepL h ks (ms.map (·.key))/\RepL h us (ms.map (·.val))
|[],ks,us,ms,e,r=>by
 simp only[vS,aU,au]at e;simp only[Y']at r;subst r;obtain⟨rfl,rfl⟩:=e;simp[RepL]
|_::_,ks,us,[],e,r=>by simp[Y']at r
| (k,v)::es,ks,us,x::ms,e,r=>by
 simp only[Y']at r;unfold vS at e;split at e
 next h0=>cases h0
 next k' v' es' h0=>
  cases h0;split at e
  next h1=>
   simp only[aG]at h1;simp only[aP]at e;let⟨⟨p,q⟩,e1,e2⟩:=e;simp only[au]at e2;obtain⟨rfl,rfl⟩:=e2;let⟨g1,g2,g3,g4⟩:=Wv e1 r.2;have r2:=r.1.2;simp only[g_,m_]at r2;simp only[List.length_cons,List.map_cons,RepL,g1];exact⟨trivial,by rw[<-g1,g2],⟨⟨D.one_ok r.1.1 h1.1,r.1.1⟩,g3⟩,⟨D.one_ok r2 h1.2,r2⟩,g4⟩
  .cases e
 .cases e
def JS(H:E_ h ρ m w){p:Nat × Nat}(e:ρ b=sS p)(hb:m b=.map es):
  E_ (upd h p.1 w[p.1]?) ρ (upd m b .dead) w/\Step h ρ m w (upd h p.1 w[p.1]?) ρ (upd m b .dead) w/\h.le (upd h p.1 w[p.1]?):=by
 let⟨a,c⟩:=H.freeze e (show Real (m b) p by rw[hb];trivial);exact⟨a,c,c.hle⟩
def m_.fm(H:E_ h ρ m w){p:Nat × Nat}(e:ρ b=sS p)(hb:m b=.map es)(ha:vS es=sS (ks,us)){x:AC}(r:m_ h ρ x v):m_ (upd h p.1 w[p.1]?) ρ (x.fm b ks us) v:=by
 have hle:=(JS H e hb).2.2;cases x with
 | map b'=>
  rw[AC.fm_map];by_cases hh:b'=b
  .subst hh;rw[aC rfl];simp only[m_]at r⊢;let⟨p',r1,r2⟩:=r;rw[e]at r1;cases r1;have _Q:=H.own b' p e;rw[hb]at _Q;let⟨ms,ck,g1,g2,_,_⟩:=_Q;let⟨q1,q2,q3,q4⟩:=Wv ha g2;simp only[RepD];refine⟨p.1,ms,ck,r2,by rw[zam];exact g1,q1,q2,?_,?_⟩
   .simpa using RepL.mono hle ks (ms.map (·.key)) [] q3
   .simpa using RepL.mono hle us (ms.map (·.val)) [] q4
  .rw[aB hh];exact m_.mono hle (fV _) _ _ r
 |_=>exact m_.mono hle (fV _) _ _ r
def gY.fm(H:E_ h ρ m w){p:Nat × Nat}(e:ρ b=sS p)(hb:m b=.map es)(ha:vS es=sS (ks,us)):∀{cs:List AC} {vs:List Value},gY h ρ cs vs->gY (upd h p.1 w[p.1]?) ρ (cs.map (AC.fm b ks us)) vs
|[],_,_=>by simp[gY]
|_::_,[],r=>by simp[gY]at r
|c::cs,v::vs,r=>by
 simp only[gY,List.map_cons]at r⊢;exact⟨⟨r.1.1,m_.fm H e hb ha r.1.2⟩,gY.fm H e hb ha r.2⟩
def gp.fm(H:E_ h ρ m w){p:Nat × Nat}(e:ρ b=sS p)(hb:m b=.map es)(ha:vS es=sS (ks,us)){t:Nat}:∀{es:List (List AC)} {vs:List Value},gp h ρ t es vs->gp (upd h p.1 w[p.1]?) ρ t (es.map (·.map (AC.fm b ks us))) vs
|[],_,_=>by simp[gp]
|c::cs,vs,r=>by
 simp only[gp,List.map_cons,aa]at r⊢;exact⟨r.1,gY.fm H e hb ha r.2.1,gp.fm H e hb ha r.2.2⟩
def g_.fm(H:E_ h ρ m w){p:Nat × Nat}(e:ρ b=sS p)(hb:m b=.map es)(ha:vS es=sS (ks,us)){x:AV}(r:g_ h ρ x v):g_ (upd h p.1 w[p.1]?) ρ (x.fm b ks us) v:=by
 cases x with
 |c x=>simp only[g_,AV.fm]at r⊢;exact m_.fm H e hb ha r
 | ag cs=>
  rw[AV.fm_ag];split
  .exact g_.mono (JS H e hb).2.2 (fV _) _ _ r
  .simp only[g_,aa]at r⊢;let⟨vs,r1,r2,r3⟩:=r;exact⟨vs,r1,r2,gY.fm H e hb ha r3⟩
 |a? vs=>exact g_.mono (JS H e hb).2.2 (fV _) _ _ r
def A_.fm_non:x.fm b ks us=.c?↔x=.c?:=by cases x<;>simp<;>split<;>simp
def A_.fm_real{p:Nat × Nat}:Real (x.fm b ks us) p↔Real x p:=by cases x<;>simp<;>split<;>simp[Real]
def iw.fm(H:E_ h ρ m w){p q:Nat × Nat}(e:ρ b=sS p)(hb:m b=.map es)(ha:vS es=sS (ks,us))(r:iw h ρ q x w):iw (upd h p.1 w[p.1]?) ρ q (x.fm b ks us) w:=by
 have hle:=(JS H e hb).2.2;cases x with
 | box cs=>
  rw[A_.fm_box];split
  .exact iw.congr hle (fV _) rfl r
  .simp only[iw,aa]at r⊢;let⟨vs,T,r1,r2,r3⟩:=r;exact⟨vs,T,r1,r2,gY.fm H e hb ha r3⟩
 | arr t es=>
  rw[A_.fm_arr];split
  .exact iw.congr hle (fV _) rfl r
  .simp only[iw,aa,List.map_eq_nil_iff]at r⊢;rcases r with r|⟨vs,T,r1,r2,r3,r4,r5⟩
   .exact .inl r
   .exact .inr ⟨vs,T,r1,r2,r3,r4,gp.fm H e hb ha r5⟩
 |_=>exact iw.congr hle (fV _) rfl r
def yn(m:Hp)(b:Nat)(ks us:oQ):Hp:=λi=>if i=b then .dead else(m i).fm b ks us
@[simp] theorem zNA(m:Hp)(b:Nat)(ks us:oQ)(i:Nat):yn m b ks us i=if i=b then .dead else(m i).fm b ks us:=oF
def E_.fm(H:E_ h ρ m w){p:Nat × Nat}(e:ρ b=sS p)(hb:m b=.map es)(ha:vS es=sS (ks,us)):
  E_ (upd h p.1 w[p.1]?) ρ (yn m b ks us) w/\Step h ρ m w (upd h p.1 w[p.1]?) ρ (yn m b ks us) w:=by
 let⟨K,S,hle⟩:=JS H e hb;have hn:∀i,yn m b ks us i=.c?↔upd m b .dead i=.c?:=λi=>by
  unfold yn;by_cases hi:i=b
  .subst hi;rw[aC rfl,zam]
  .rw[aB hi,zao _ _ hi];exact A_.fm_non
 have hr:∀i q,Real (yn m b ks us i) q↔Real (upd m b .dead i) q:=λi q=>by
  unfold yn;by_cases hi:i=b
  .subst hi;rw[aC rfl,zam]
  .rw[aB hi,zao _ _ hi];exact A_.fm_real
 refine⟨⟨K.pers,λi=>(hn i).trans (K.dom i),λi q hq=>?_,λi j q q' h1 h2 h3 h4=>K.inj i j q q' h1 h2 ((hr _ _).1 h3) ((hr _ _).1 h4),λi q h1 h2=>K.sep i q h1 ((hr _ _).1 h2)⟩,
  ⟨S.hle,S.hlow,S.rle,S.size,S.frame,λi q h1 h2=>S.own i q h1 ((hr _ _).1 h2)⟩⟩
 unfold yn;by_cases hi:i=b
 .subst hi;rw[aC rfl];trivial
 .rw[aB hi];exact iw.fm H e hb ha (H.own i q hq)
end
def jo.fm{get:Nat->AV}{m:Hp}{w:World}{b:Nat}{ks us:oQ}{es:oz}(R:jo P c get m a w)(hb:m b=.map es)(ha:vS es=sS (ks,us)):jo P c (λk=>(get k).fm b ks us) (yn m b ks us) a w:=by
 let⟨h,ρ,H,S,sm,r⟩:=R.ex;have _A:ρ b≠nN:=λe=>by have:=(H.dom b).2 e;rw[hb]at this;cases this
 let⟨p,e⟩:=Option.ne_none_iff_exists'.1 _A;let⟨K,T⟩:=H.fm e hb ha;exact⟨R.gnd,R.sd,R.defers,R.size,⟨_,ρ,K,S.trans T,sm,λk=>g_.fm H e hb ha (r k)⟩⟩
def Ww(t:oZ)(b:Nat)(ks us:oQ)(k:Nat):look (t.map λkv=>(kv.1,kv.2.fm b ks us)) k=(look t k).fm b ks us:=by
 induction t with
 |nil=>rfl
 |cons x t ih=>
  let⟨j,v⟩:=x;simp only[List.map_cons,look];split
  .rfl
  .exact ih
def xu(S:St):List Nat->(St->Prop)->Prop
|[],K=>K S
| b::l,K=>match S.m b with
 |.arr s es=>match nA es with
  |some ds=>xu ⟨S.t.map λkv=>(kv.1,kv.2.fz b s ds),Ag S.m b s ds,S.n⟩ l K
  |none=>False
 |_=>False
@[simp] theorem DZ:xu S [] K=K S:=oF
@[simp] theorem D5{b:Nat}{l:oO}:xu S (b::l) K=(match S.m b with
 |.arr s es=>match nA es with
  |some ds=>xu ⟨S.t.map λkv=>(kv.1,kv.2.fz b s ds),Ag S.m b s ds,S.n⟩ l K
  |none=>False
 |_=>False):=oF
def xu.mono:∀(l:List Nat) {S:St},xu S l K->(∀S',K S'->K' S')->xu S l K'
|[],S,h,k=>k S h
| b::l,S,h,k=>by
 unfold xu at h⊢;split
 next s es eb=>
  rw[eb]at h;simp only at h;split
  next ds ed=>
   rw[ed]at h;exact xu.mono l h k
  next ed=>
   rw[ed]at h;exact h
 next hn=>
  split at h
  next s es eb=>
   exact(hn s es eb).elim
  .exact h
def iE(t:oZ)(b s:Nat)(ds:o5)(k:Nat):look (t.map λkv=>(kv.1,kv.2.fz b s ds)) k=(look t k).fz b s ds:=by
 induction t with
 |nil=>rfl
 |cons x t ih=>
  let⟨j,v⟩:=x;simp only[List.map_cons,look];split
  .rfl
  .exact ih
def AW.fzq:∀(l:List Nat) {S:St},xu S l (λS'=>AW P c mc Q S')->AW P c (.fzq mc) Q S
|[],S,h=>λcode hc a w r=>h code (by simpa[w?]using hc) a w r
| b::l,S,h=>by
 unfold xu at h;split at h
 next s es eb=>
  split at h
  next ds ed=>
   have:=Pf ed;subst this;have k:=AW.fzq l h;intro code hc a w r;apply k code hc a w;have:=r.fz eb;have eg:(St.get ⟨S.t.map λkv=>(kv.1,kv.2.fz b s ds),Ag S.m b s ds,S.n⟩)=λk=>(S.get k).fz b s ds:=funext λk=>iE _ _ _ _ _;rw[eg];exact this
  .exact h.elim
 .exact h.elim
def yH(S:St):List Nat->(St->Prop)->Prop
|[],K=>K S
| b::l,K=>match S.m b with
 |.map es=>match vS es with
  |some (ks,us)=>yH ⟨S.t.map λkv=>(kv.1,kv.2.fm b ks us),yn S.m b ks us,S.n⟩ l K
  |none=>False
 |_=>False
@[simp] theorem zJg:yH S [] K=K S:=oF
@[simp] theorem zHg{b:Nat}{l:oO}:yH S (b::l) K=(match S.m b with
 |.map es=>match vS es with
  |some (ks,us)=>yH ⟨S.t.map λkv=>(kv.1,kv.2.fm b ks us),yn S.m b ks us,S.n⟩ l K
  |none=>False
 |_=>False):=oF
def yH.mono:∀(l:List Nat) {S:St},yH S l K->(∀S',K S'->K' S')->yH S l K'
|[],S,h,k=>k S h
| b::l,S,h,k=>by
 unfold yH at h⊢;cases eb:S.m b with
 |map es=>
  rw[eb]at h;simp only at h⊢;cases ed:vS es with
  |some p=>rw[ed]at h;exact yH.mono l h k
  |none=>rw[ed]at h;exact h
 |c?=>rw[eb]at h;exact h
 |dead=>rw[eb]at h;exact h
 |box cs=>rw[eb]at h;exact h
 |arr s es=>rw[eb]at h;exact h
 |G_ t b=>rw[eb]at h;exact h
def AW.fmq:∀(l:List Nat) {S:St},yH S l (λS'=>AW P c mc Q S')->AW P c mc Q S
|[],S,h=>h
| b::l,S,h=>by
 unfold yH at h;split at h
 next es eb=>
  split at h
  next ks us ed=>
   have k:=AW.fmq l h;intro code hc a w r;apply k code hc a w;have:=r.fm eb ed;have eg:(St.get ⟨S.t.map λkv=>(kv.1,kv.2.fm b ks us),yn S.m b ks us,S.n⟩)=λk=>(S.get k).fm b ks us:=funext λk=>Ww _ _ _ _ _;rw[eg];exact this
  .exact h.elim
 .exact h.elim
abbrev gG:=@AV.fz_c
end Go.Abs
namespace Go.Abs
variable {b:Nat}
variable [jE]
inductive JU where
|t (k:Nat)
|c (b i:Nat)
|a (k i:Nat)
variable {l:List JU}
section
variable {h:PH} {ρ:RM} {m:Hp} {w:Heap}
def E_.reblk(H:E_ h ρ m w){p:Nat × Nat}(e:ρ b=sS p){blk:A_}(hn:blk≠.c?)(hr:Real blk p↔Real (m b) p)(r:iw h ρ p blk w):
  E_ h ρ (upd m b blk) w/\Step h ρ m w h ρ (upd m b blk) w:=by
 have key:∀c q,ρ c=sS q->(Real (upd m b blk c) q↔Real (m c) q):=λc q hq=>by
  by_cases hc:c=b
  .subst hc;rw[zam];rw[e]at hq;cases hq;exact hr
  .rw[zao _ _ hc]
 refine⟨⟨H.pers,?_,?_,?_,?_⟩,⟨fU h,λB hB _=>rfl,fV _,aJ _,λB hB _=>rfl,?_⟩⟩
 .intro c;by_cases hc:c=b
  .subst hc;rw[zam,e];simp[hn]
  .rw[zao _ _ hc];exact H.dom c
 .intro c q hq;by_cases hc:c=b
  .subst hc;rw[zam];rw[e]at hq;cases hq;exact r
  .rw[zao _ _ hc];exact H.own c q hq
 .intro c d q r hc hd hs ht heq;exact H.inj c d q r hc hd ((key c q hc).1 hs) ((key d r hd).1 ht) heq
 .intro c q hq hs;exact H.sep c q hq ((key c q hq).1 hs)
 .intro c q hq hs;exact .inr ⟨c,q,hq,(key c q hq).1 hs,rfl⟩
def m_.own{s n:Nat}{v:Value}(e:ρ n=sS (0,0))(r:m_ h ρ (.d (.sl tT s [])) v):m_ h ρ (.x_ s n 0 0) v:=by
 simp only[m_,RepD]at r⊢;let⟨a,cap,r1,r2,r3,r4,r5,r6,r7⟩:=r;have hc:cap=0:=uM (r3 trivial);subst hc;exact⟨(0,0),a,e,uM r1,aJ _,λh=>absurd h oC,λq _ h=>absurd h oC⟩
def gY.setAt{c':AC}:∀{cs:List AC} {vs:List Value} {i:Nat} {c:AC},cs[i]?=sS c->(∀v:Value,m_ h ρ c v->m_ h ρ c' v)->gY h ρ cs vs->gY h ρ (cs.set i c') vs
|[],vs,i,c,e,_,_=>by simp at e
|_::_,[],_,_,_,_,r=>by simp[gY]at r
|d::cs,v::vs,0,c,e,hc,r=>by
 simp only[List.getElem?_cons_zero,aU]at e;subst e;simp only[gY,List.set_cons_zero]at r⊢;exact⟨⟨r.1.1,hc v r.1.2⟩,r.2⟩
|d::cs,v::vs,i+1,c,e,hc,r=>by
 simp only[List.getElem?_cons_succ]at e;simp only[gY,List.set_cons_succ]at r⊢;exact⟨r.1,gY.setAt e hc r.2⟩
end
def p9(S:St):List JU->(St->Prop)->Prop
|[],K=>K S
|.t k::l,K=>match S.get k with
 |.c (.d (.sl tT s []))=>S.m S.n=.c?/\p9 ⟨(k,.c (.x_ s S.n 0 0))::S.t,upd S.m S.n (.arr s []),S.n+1⟩ l K
 |_=>False
| .a k i::l,K=>match S.get k with
 |.ag cs=>match cs[i]? with
  |some (.d (.sl tT s []))=>S.m S.n=.c?/\p9 ⟨(k,.ag (cs.set i (.x_ s S.n 0 0)))::S.t,upd S.m S.n (.arr s []),S.n+1⟩ l K
  |_=>False
 |_=>False
| .c b i::l,K=>match S.m b with
 |.box cs=>match cs[i]? with
  |some (.d (.sl tT s []))=>S.m S.n=.c?/\p9 ⟨S.t,upd (upd S.m S.n (.arr s [])) b (.box (cs.set i (.x_ s S.n 0 0))),S.n+1⟩ l K
  |_=>False
 |_=>False
@[simp] theorem Ed{S:St}{K:St->Prop}:p9 S [] K=K S:=oF
@[simp] theorem Pk{S:St}{K:St->Prop}{k:Nat}:p9 S (.t k::l) K=(match S.get k with
 |.c (.d (.sl tT s []))=>S.m S.n=.c?/\p9 ⟨(k,.c (.x_ s S.n 0 0))::S.t,upd S.m S.n (.arr s []),S.n+1⟩ l K
 |_=>False):=oF
@[simp] theorem Wx{S:St}{K:St->Prop}{i:Nat}:p9 S (.c b i::l) K=(match S.m b with
 |.box cs=>match cs[i]? with
  |some (.d (.sl tT s []))=>S.m S.n=.c?/\p9 ⟨S.t,upd (upd S.m S.n (.arr s [])) b (.box (cs.set i (.x_ s S.n 0 0))),S.n+1⟩ l K
  |_=>False
 |_=>False):=oF
def p9.mono{K K':St->Prop}:∀(l:List JU) {S:St},p9 S l K->(∀S',K S'->K' S')->p9 S l K'
|[],S,h,k=>k S h
| .t i::l,S,h,k=>by
 unfold p9 at h⊢;split<;>rename_i q
 next s=>
  rw[q]at h;exact⟨h.1,p9.mono l h.2 k⟩
 .split at h
  next s e=>exact(q s e).elim
  .exact h
| .a j i::l,S,h,k=>by
 unfold p9 at h⊢;split<;>rename_i q
 next cs=>
  rw[q]at h;simp only at h;split<;>rename_i q'
  next s=>
   rw[q']at h;exact⟨h.1,p9.mono l h.2 k⟩
  .split at h
   next s e=>exact(q' s e).elim
   .exact h
 .split at h
  next s e=>exact(q s e).elim
  .exact h
| .c b i::l,S,h,k=>by
 unfold p9 at h⊢;split<;>rename_i q
 next cs=>
  rw[q]at h;simp only at h;split<;>rename_i q'
  next s=>
   rw[q']at h;exact⟨h.1,p9.mono l h.2 k⟩
  .split at h
   next s e=>exact(q' s e).elim
   .exact h
 .split at h
  next s e=>exact(q s e).elim
  .exact h
section
variable {P:Program} {c:Ctx} {S:St} {a:Act} {w:World}
def jo.own0(R:jo P c S.get S.m a w)(hn:S.m S.n=.c?)(s:Nat):
  ∃(h:PH) (ρ:RM),E_ h ρ (upd S.m S.n (.arr s [])) w.heap/\tY c.h c.ρ c.m c.w.heap h ρ (upd S.m S.n (.arr s [])) w.heap/\Same c.w w/\(∀k,g_ h ρ (S.get k) (a.tmps.getD k undef))/\ρ S.n=sS (0,0):=by
 let⟨h,ρ,H,S0,sm,r⟩:=R.ex;let⟨K,T⟩:=H.none hn s;exact⟨h,_,K,S0.trans T,sm,λk=>g_.mono T.hle T.rle _ _ (r k),zam _ _ _⟩
end
def AW.owq{P:Program}{c:Ctx}{mc:MC}{Q:Exit->St->Prop}:∀(l:List JU) {S:St},p9 S l (λS'=>AW P c mc Q S')->AW P c (.owq mc) Q S
|[],S,h=>λcode hc a w r=>h code (by simpa[w?]using hc) a w r
| .t k::l,S,h=>by
 unfold p9 at h;split at h
 next s e=>
  have k:=AW.owq l h.2;intro code hc a w r;apply k code hc a w;let⟨hh,ρ,H,S0,sm,rr,e0⟩:=r.own0 h.1 s;refine⟨r.gnd,r.sd,r.defers,r.size,hh,ρ,H,S0,sm,λj=>?_⟩;show g_ hh ρ (look _ j) _;simp only[look];split
  next ej=>
   subst ej;have:=rr j;rw[e]at this;simp only[g_]at this⊢;exact this.own e0
  .exact rr j
 .exact h.elim
| .a k i::l,S,h=>by
 unfold p9 at h;split at h
 next cs e=>
  split at h
  next s e'=>
   have k:=AW.owq l h.2;intro code hc a w r;apply k code hc a w;let⟨hh,ρ,H,S0,sm,rr,e0⟩:=r.own0 h.1 s;refine⟨r.gnd,r.sd,r.defers,r.size,hh,ρ,H,S0,sm,λj=>?_⟩;show g_ hh ρ (look _ j) _;simp only[look];split
   next ej=>
    subst ej;have:=rr j;rw[e]at this;simp only[g_,List.length_set]at this⊢;let⟨vs,r1,r2,r3⟩:=this;exact⟨vs,r1,r2,r3.setAt e' λv q=>q.own e0⟩
   .exact rr j
  .exact h.elim
 .exact h.elim
| .c b i::l,S,h=>by
 unfold p9 at h;split at h
 next cs e=>
  split at h
  next s e'=>
   have k:=AW.owq l h.2;intro code hc a w r;apply k code hc a w;let⟨hh,ρ,H,S0,sm,rr,e0⟩:=r.own0 h.1 s;have _A:b≠S.n:=λq=>by rw[q,h.1]at e;cases e
   have hb:upd S.m S.n (.arr s []) b=.box cs:=by rw[zao _ _ _A];exact e
   have hρ:ρ b≠nN:=λq=>by have:=(H.dom b).2 q;rw[hb]at this;cases this
   let⟨p,ep⟩:=Option.ne_none_iff_exists'.1 hρ;have hB:=H.own b p ep;rw[hb]at hB;let⟨vs,T,r1,r2,r3⟩:=hB;let⟨K,T⟩:=H.reblk (blk:=.box (cs.set i (.x_ s S.n 0 0))) ep oC (by rw[hb];exact Iff.rfl) ⟨vs,T,r1,uM r2,r3.setAt e' λv q=>q.own e0⟩;exact⟨r.gnd,r.sd,r.defers,r.size,hh,ρ,K,S0.trans T,sm,rr⟩
  .exact h.elim
 .exact h.elim
end Go.Abs
