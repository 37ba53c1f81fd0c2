/- Of ours. -/
import Derived.Test.YtlfjlokfciejnaaGreatJ23
set_option maxRecDepth 20000
set_option maxHeartbeats 4000000
set_option linter.unusedVariables false
set_option linter.unusedSectionVars false
set_option linter.unusedSimpArgs false
set_option linter.defProp false
set_option linter.unnecessarySimpa false
open List renaming length->lN
open Bool renaming true->tT,false->oK
open Option renaming some->sS,none->nN
namespace Go.Gr
open Go.Abs Go.Proofs List
variable {c k:n_}{p:lC}
mutual
def uj:n_->Prop
|.mk _ _ _ _ _ _ cs ks=>lN cs<=1/\lq ks
def lq:List n_->Prop
|[]=>True
|c::l=>uj c/\lq l
end
mutual
def zEi:∀c:n_,uj c->wm c<=Q_ c
|.mk k n t is ns ts cs ks,h=>by
 rw[uj]at h;rw[wm,Q_];have:=zAx ks h.2;omega
def zAx:∀l:List n_,lq l->rE l<=B_ l
|[],_=>by simp[rE]
|c::l,h=>by
 rw[lq]at h;rw[rE,B_];have:=zEi c h.1;have:=zAx l h.2;omega
end
mutual
def Va{M G:Nat}:∀c:n_,V? M G c->uj (tC c)
|.mk k n t is ns ts cs ks,h=>by
 rw[V?]at h;rw[tC];split
 .rw[uj];exact⟨oC,Vb ks h.2⟩
 .rw[uj];exact⟨by rw[h.1.2];simp,Vb ks h.2⟩
def Vb{M G:Nat}:∀l:List n_,G? M G l->lq (wN l)
|[],_=>by simp[wN,lq]
|c::l,h=>by
 rw[G?]at h;rw[wN,lq];exact⟨Va c h.1,Vb l h.2⟩
end
def zH6:uj noC:=by simp[noC,cN,uj,lq]
def zKb(h:uj c):uj (c.b_.getD 0 noC):=by
 cases c with
 |mk k n t is ns ts cs ks=>
  rw[uj]at h;cases ks with
  |nil=>exact zH6
  |cons x l=>simp[n_.b_];rw[lq]at h;exact h.2.1
def zLb{d:gT}(h:uj k):uj (A7 d k):=by
 unfold A7;rw[uj];exact⟨oC,by rw[lq];exact⟨h,by simp[lq]⟩⟩
def zGN(d:gT)(h:uj k):uj (CK d k):=by
 unfold CK;have h2:uj (if k.d_=22 then k.b_.getD 0 noC else k):=by split;exact zKb h;exact h
 simp only;generalize (if k.d_=22 then k.b_.getD 0 noC else k)=k' at*
 generalize (if k.d_=22 then uT 32 (k.cos.getD 0 r?) d else d)=d' at*
 by_cases q:idleC d' k'=tT
 .rw[aC q];exact h2
 .rw[aB q];exact zLb h2
mutual
def zAy:∀c:n_,uj c->uj (tF c)
| .mk k n t is ns ts cs ks,h=>by
 rw[uj]at h;rw[tF];have hk:=zxy ks h.2;split
 .apply zGN _;cases e:DJ ks with
  |nil=>exact zH6
  |cons x l=>rw[e,lq]at hk;simpa using hk.1
 .rw[uj];exact⟨h.1,hk⟩
def zxy:∀l:List n_,lq l->lq (DJ l)
|[],_=>by simp[DJ,lq]
|c::l,h=>by
 rw[lq]at h;rw[DJ,lq];exact⟨zAy c h.1,zxy l h.2⟩
end
def zIT{M G:Nat}(ho:V? M G c)(trim:Bool):uj (wh trim c):=by
 unfold wh;split
 .exact zAy _ (Va c ho)
 .exact Va c ho
mutual
def zsv:∀c:n_,ku True c->wm c=0->ku False c
|.mk k n t is ns ts cs ks,h,e=>by
 rw[ku]at h⊢;rw[wm]at e;refine⟨λhk=>?_,zqd ks h.2 oM⟩;let⟨_,d,h1,_⟩:=h.1 hk;rw[h1]at e;simp at e
def zqd:∀l:List n_,Aa True l->rE l=0->Aa False l
|[],_,_=>by rw[Aa];trivial
|c::l,h,e=>by
 rw[Aa]at h⊢;rw[rE]at e;exact⟨zsv c h.1 oM,zqd l h.2 oM⟩
end
def rG:List jN->Nat
|[]=>0
|f::l=>wm f.body+rG l
def zIU{l:List jN}{j:Nat}(h:j<lN l):rG (l.drop j)=wm l[j].body+rG (l.drop (j+1)):=by
 rw[aF h,rG]
def zAz:∀{l:List jN},(∀p,p∈l->wm p.body<=120005)->rG l<=120005*lN l
|[],_=>by simp[rG]
|p::l,h=>by
 have:=zAz (l:=l) λq hq=>h q (by simp[hq]);have:=h p oC;simp only[rG,length_cons];omega
def zEj:∀{l:List jN},rG l=0->∀f,f∈l->wm f.body=0
|[],_,f,h=>by cases h
|p::l,e,f,h=>by
 rw[rG]at e;rcases aM.1 h with rfl|h
 .omega
 .exact zEj oM f h
def zGO(h:xk p)(trim:Bool):∀f,f∈(rC trim p).v_->wm f.body<=120005/\Q_ f.body<=120005:=λf hf=>by
 have hg:=(JC h trim).1 f hf;obtain⟨g,hg',rfl⟩:=af.1 hf;have:=zEi _ (zIT (h.ok g hg') trim);have h2:=hg.1.2;exact⟨by simp only at h2⊢;omega,h2⟩
def zIV(h:xk p)(trim:Bool)(e:rG (rC trim p).v_=0):LQ (t? trim p) (lN p.v_) False:=
 zrR h trim λf hf=>zsv _ (Og (h.ok f hf) (h.good.1 f hf).1.1 trim).2.1 (zEj e ⟨f.name,f.type,wh trim f.body⟩ (af.2 ⟨f,hf,rfl⟩))
def zzt{l:og}(H:∀f,f∈l->nX l False f){main:Int}{merge:Bool}{c:iN}{e:Int}(h0:e=0)(he:ji l main merge=(c,e)){j k:Nat}(hj:j<lN c.procs)(hk:k<c.procs[j].code.length):c.procs[j].code[k].op≠21:=λho=>by
 let⟨R,_,_,e1,_,h4,h5⟩:=V9 H h0 he;have _q:j<lN l:=oM;rcases(h5 j l[j] _ (aA _q) (aA hj)).ins (aA hk)with⟨h,_⟩|⟨_,h⟩
 .rw[h]at ho;simp at ho
 .exact(h.k21 ho).1
end Go.Gr
namespace Go.Gr
open Go.Abs Go.Proofs
def DL(l:ow)(trim:Bool):h_ Pg 6 [.one (.sl oK 2 (l.map jg)),.one (.bool trim)] (.one (.bool tT)):=by
 refine zq0 oC λo cx hN hp=>?_;have hpr:=Kc l;have hpk:=λh=>LK (l:=l) h;generalize uH l=r at*
 let⟨p,ok⟩:=r;simp only at hpk;simp[zic];apply gQ Oq;simp;apply gQ hpr;simp;by_cases hok:ok=tT;rotate_left
 .simp[hok]
 have h:=hpk hok;have F:=LW h trim;have hd:=V7 h trim;have hn:=Oi p h trim;have hf:=zGO h trim;have hfl:(rC trim p).v_.length<=257:=(JC h trim).2;have ha:=λe0 c e h0 he j k=>@zzt _ (zIV h trim e0).fns p.main trim c e h0 he j k;have hs:=λc e he=>@zAL _ _ F.fns p.main trim c e he;have hsum:=zAz λf hf'=>(hf f hf').1;generalize ji (t? trim p) p.main trim=r at*
 let⟨c,e⟩:=r;have hs:=hs c e rfl;have ha:=λe0 h0 j k=>ha e0 c e h0 rfl j k;generalize rC trim p=q at*
 simp[hok];apply gQ hn;simp;refine fM gm hp (λY:Nat × Nat=>Y.1<=lN q.v_/\Y.2+rG (q.v_.drop Y.1)=rG q.v_) (λY=>[(10,.c (.d (.int .i64 Y.1))),(9,.c (.ptr 1 0)),(8,.c (.d (.int .i64 Y.2))),(6,.c (.ptr 0 0)),(1,.c (.d (.bool trim)))]) (λ_=>[.box (p.enc.map .d),.box (q.enc.map .d)]) (λY=>lN q.v_-Y.1) (0,0) [0,1] ⟨oC,oC⟩ oC λ⟨i,s⟩ ⟨i1,i2⟩=>?_;unfold zgG;simp only at i1 i2;simp;apply gM<;>intro h2
 .have hi:i<lN q.v_:=uM h2;have hk:=hf _ (aO hi);have hc:=zxW _ q.v_[i].body (aJ _) oM oM;rw[zIU hi]at i2;simp[hi];apply gQ hc;simp;apply fE (i+1,s+wm q.v_[i].body) [0,1] ⟨Nat.succ_le_of_lt hi,qM⟩ qM;simp;exact⟨wI,by rw[wI]⟩
 .have hj:i=lN q.v_:=oI h2;subst hj;rw[aS]at i2;simp only[rG,Nat.add_zero]at i2;apply gQ hd;simp;by_cases he:e=0;rotate_left
  .simp[he]
  by_cases h0:s=0;rotate_left
  .have h0':0<s:=oM;simp[he,h0']
  have ha:=λj k=>ha oM he j k;simp[he,h0];refine fM gm hp (λi:Nat=>i<=lN c.procs) (λi=>[(14,.c (.d (.int .i64 i))),(11,.c (.ptr 0 0))]) (λ_=>[.box (c.enc.map .d)]) (λi=>lN c.procs-i) 0 [2] oC oC λi i1=>?_;simp[zgI];apply gM<;>intro h
  .have hi:i<lN c.procs:=uM h;simp[hi];refine fM gm hp (λk:Nat=>k<=c.procs[i].code.length) (λk=>[(15,.c (.d (.int .i64 k))),(14,.c (.d (.int .i64 i))),(11,.c (.ptr 0 0))]) (λ_=>[.box (c.enc.map .d)]) (λk=>c.procs[i].code.length-k) 0 [0] oC oC λk k1=>?_;unfold zgH;simp[hi];apply gM<;>intro h2
   .have hk:k<c.procs[i].code.length:=uM h2;have hlk:=hs.2 i hi;have hw:=wI (n:=(k:Int)+1);have hak:=ha i k hi hk;simp[hi,hk,Ins.enc,hak];apply fE (k+1) [0] oM oM;simp[hw]
   .have hw:=wI (n:=(i:Int)+1);apply fE (i+1) [0] oM oM;simp[hw]
  .simp
end Go.Gr
