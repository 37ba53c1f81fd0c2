/- Texts of ours, joined and written short by a program of ours. -/
import Derived.Test.YtlfjlokfciejnaaGreatDoorFJ24
import Derived.Test.YtlfjlokfciejnaaGreatDoorRows
import Derived.Test.YtlfjlokfciejnaaGreatDoorCards
import Derived.Test.YtlfjlokfciejnaaGreatDoorTie
import Derived.WalkKit
import Derived.ProofKit
import Derived.OpenShut
import Derived.JoinedCond
import Derived.LaidMore
import Derived.Stop.Joined
import Derived.SevenTiedAt
import Derived.Stop.LaidErr
import Derived.Lib.LaidTab
import Derived.Lib.Space
set_option maxRecDepth 20000
set_option maxHeartbeats 4000000
set_option linter.unusedVariables false
set_option linter.unusedSimpArgs false
namespace Go.Gr
open Go.Abs Go.Proofs
mutual
theorem zMx:∀c:gu,vo c->pW c/\qx c=false
|.mk k n t is ns ts cs ks,h=>by
 rw[vo]at h;obtain⟨e1,e2⟩:=zMs ks h.2.2;rw[pW,qx,e2];refine⟨⟨λq=>?_,e1⟩,by simp[h.1]⟩;obtain⟨⟨d,a,_⟩,b⟩:=h.2.1 q
 match ks,b with
 |[x],_=>exact⟨d,x,a,rfl⟩
theorem zMs:∀l:List gu,tH l->Ay l/\yF l=false
|[],_=>⟨trivial,rfl⟩
|c::l,h=>by
 rw[tH]at h;obtain⟨e1,e2⟩:=zMx c h.1;obtain⟨f1,f2⟩:=zMs l h.2;rw[Ay,yF,e2,f2];exact⟨⟨e1,f1⟩,rfl⟩
end
theorem zMD{k:gu}{d:gY}(h:idleC d k=false):jW d idC=false:=by
 unfold idleC at h;simp only[Bool.or_eq_false_iff]at h;exact h.1
mutual
theorem zMt{B:Nat}:∀c:gu,vv B c->xf c->pW c/\qx c=false/\Aw c=true
| .mk k n t is ns ts cs ks,h,hn=>by
 rw[vv]at h;rw[xf]at hn;obtain⟨e1,e2,e3⟩:=zMl ks h.2.2 hn.2;rw[pW,qx,Aw,e2,e3];refine⟨⟨λq=>?_,e1⟩,by simp[h.1],?_⟩
 ·obtain⟨d,x,a,b,_⟩:=h.2.1 q;exact⟨d,x,a,b⟩
 ·rw[Bool.and_true];unfold DN;by_cases q:k=22
  ·obtain⟨d,x,a,b,c,_⟩:=h.2.1 q;have hi:=zMD (hn.1 q).2.2.2.2.2;subst a;subst b;have hi:jW d idC=false:=hi;simp[gu.cos,gu.kids,hi,c]
  ·have:¬(gu.mk k n t is ns ts cs ks).kind=22:=q;simp[this]
theorem zMl{B:Nat}:∀l:List gu,uZ B l->qw l->Ay l/\yF l=false/\yE l=true
|[],_,_=>⟨trivial,rfl,rfl⟩
|c::l,h,hn=>by
 rw[uZ]at h;rw[qw]at hn;obtain⟨e1,e2,e3⟩:=zMt c h.1 hn.1;obtain⟨f1,f2,f3⟩:=zMl l h.2 hn.2;rw[Ay,yF,yE,e2,e3,f2,f3];exact⟨⟨e1,f1⟩,rfl,rfl⟩
end
theorem zMy{B m s:Nat}{d:gY}{k:gu}(h:TK B m s k):kF (wY d k)<=1+kF k:=by
 have key:∀(d':gY) (k':gu),kF (if idleC d' k'=true then k' else vk d' k')<=1+kF k':=λd' k'=>by
  split
  ·omega
  ·unfold vk;rw[kF,rE,rE];simp
 unfold wY;simp only;by_cases q:k.kind=22
 ·rw[aC q,aC q];obtain⟨k0,n,t,is,ns,ts,cs,ks⟩:=k;have q:k0=22:=q;subst q;have ht:=h.tc;rw[vv]at ht;obtain⟨e,x,h1,h2,h3,h4⟩:=ht.2.1 rfl;subst h1;subst h2;have:=key (nD 32 e d) x;rw[kF,rE,rE];simp only[if_true];show kF (if idleC (nD 32 e d) x=true then x else vk (nD 32 e d) x)<=_;omega
 ·rw[aB q,aB q];exact key _ _
theorem zMm:∀(s:Nat) (c:gu) (m:Nat),kC c<=s->vo c->lQ m c->kF (oJ c)<=kF c
|0,c,m,h,_,_=>by have:=yA c;omega
| s +1,.mk k n t is ns ts cs ks,m,h,hp,hw=>by
 rw[vo]at hp;rw[kC]at h;have kid:∀x,x∈ks->kF (oJ x)<=kF x/\∃m',vo x/\lQ m' x:=λx hx=>by
  obtain⟨j,hj,rfl⟩:=bJ hx;have hsj:=zW hj;have hw':=hw;rw[lQ]at hw';have h1:=JX.1 hp.2.2 _ hx;obtain⟨m',hm'⟩:∃m',lQ m' ks[j]:=by
   by_cases q5:k=5
   ·subst q5;have hl:=hw'.2.2.2.2.1 rfl
    match ks,hl,hw',j,hj with
    |[x],_,hw,0,_=>exact⟨m+1,by have:=hw.2.2.2.2.2;rw[jf]at this;show lQ (m+1) x;simpa using this.1⟩
   ·exact⟨_,EE q5 hj hw'.2.2.2.2.2⟩
  exact⟨zMm s ks[j] m' (by omega) h1 hm',m',h1,hm'⟩
 by_cases q:k=22
 ·subst q;obtain⟨⟨d,e1,gd⟩,h1⟩:=hp.2.1 rfl;subst e1
  match ks,h1,kid with
  |[x],_,kid=>
   obtain⟨h2,m',px,wx⟩:=kid x (by simp);have tk:=GR (kC x) x m' (aM _) px wx;have e:oJ (.mk 22 n t is ns ts [d] [x])=wY d (oJ x):=by rw[oJ,aC rfl];try rfl
   rw[e];have:=zMy (d:=d) tk;rw[kF,rE,rE];simp only[if_true];omega
 ·have all:∀l:List gu,(∀x,x∈l->kF (oJ x)<=kF x)->rE (x8 l)<=rE l:=λl=>by
   induction l with
   |nil=>intro _;exact aM _
   |cons x l ih=>
    intro hh;have:=hh x (by simp);have:=ih λy hy=>hh y (by simp[hy]);rw[x8,rE,rE];omega
  have:=all ks λx hx=>(kid x hx).1;rw[Px q,kF,kF,aB q];omega
theorem zMz{p:lT}(hp:Al p){f:jb}(hf:f∈p.funs):(kC (uw false f.body)<=1000000000/\kC (uw true f.body)<=1000000000)/\(pW (uw false f.body)/\pW (uw true f.body))/\(qx (uw false f.body)=false/\qx (uw true f.body)=false)/\Aw (uw true f.body)=true/\kF (uw true f.body)<=kF (uw false f.body):=by
 have hgg:=(hp.good.1 f hf).1;have hok:=hp.ok f hf;have hz:=hgg.2;have pc:=JZ _ hok;have wf:=J3 _ _ hgg.1;have tk:=GR (kC (o8 f.body)) (o8 f.body) 1 (aM _) pc wf;have ni:=zMv (kC (o8 f.body)) (o8 f.body) 1 (aM _) pc wf;have cn:=zMm (kC (o8 f.body)) (o8 f.body) 1 (aM _) pc wf;have u:=zMx _ pc;obtain⟨t1,t2,t3⟩:=zMt _ tk.tc ni;have hs:=tk.sz;rw[J2]at hs;unfold uw;simp only[if_true,aa,if_false];exact⟨⟨by rw[J2];omega,by omega⟩,⟨u.1,t1⟩,⟨u.2,t2⟩,t3,cn⟩
theorem NormFewer_ok(l:List (fE × fE)):gU Pg 4 [.one (.sl false 2 (l.map lM))] (.one (.bool true)):=by
 refine zMf (by simp) λo cx hN hp=>?_;have hpr:=Wq l;have hk:=Yb (l:=l);generalize ul l=r at*
 obtain⟨p,ok⟩:=r;simp only at hk;unfold Yl;simp;refine gQ zDv ?_;simp;refine gQ hpr ?_;simp;by_cases hok:ok=true;rotate_left
 ·simp[hok]
 have hk:=hk hok;have hn:=Jw hk false;have hn2:=Jw hk true;have hlen:p.funs.length<=1000000:=by have:=hk.good.2;omega
 have hat:=λj (hj:j<p.funs.length)=>zMz hk (aR hj);have e1:(lS false p).funs=p.funs.map λf=>(⟨f.name,f.type,uw false f.body⟩:jb):=rfl;have e2:(lS true p).funs=p.funs.map λf=>(⟨f.name,f.type,uw true f.body⟩:jb):=rfl;generalize lS false p=q1 at*
 generalize lS true p=q2 at*
 simp[hok];refine gQ hn ?_;simp;refine gQ hn2 ?_;simp[e1,e2];refine fO gy hp (λj:Nat=>j<=p.funs.length) (λj=>[(8,.c (.d (.int .i64 j))),(7,.c (.ptr 2 0)),(6,.c (.ptr 1 0))]) (λ_=>[.box (p.enc.map .d),.box (q1.enc.map .d),.box (q2.enc.map .d)]) (λj=>p.funs.length-j) 0 [0,1,2] (by simp) (by simp) λj hj=>?_;unfold Yk;simp[e1,e2];apply gM<;>intro h
 ·have hj:j<p.funs.length:=by simpa using h
  have hw:=wI (n:=(j:Int)+1);obtain⟨⟨s1,s2⟩,⟨u1,u2⟩,⟨c1,c2⟩,f1,n1⟩:=hat j hj;have k1:=QA _ s1 u1;have k2:=QA _ s2 u2;have k3:=QB _ s1;have k4:=QB _ s2;rw[c1]at k3;rw[c2]at k4;rw[f1]at k2;simp[hj,e1,e2];refine gQ k1 ?_;simp[hj,e1,e2];refine gQ k2 ?_;simp[hj,e1,e2];refine gQ k3 ?_;simp[hj,e1,e2];refine gQ k4 ?_;have n2:¬(kF (uw false p.funs[j].body)<kF (uw true p.funs[j].body)):=by omega
  simp[n2];refine fF (j+1) [0,1,2] (by omega) (by omega) ?_;simp[hw]
 ·simp
theorem zI9{n:Nat}{ds:List D}(h:oo Tryz.prog n 50 ds):∃x:fE × fE,ds=lM x:=by
 obtain⟨m,_,h⟩:=zBw Tryz.underlying50 h;obtain⟨a,b,rfl,ha,h⟩:=Qz h;obtain⟨c,d,rfl,hc,h⟩:=Qz h;obtain rfl:=zFs h;obtain⟨s,rfl⟩:=Qy Tryz.underlying9 ha;obtain⟨i,rfl⟩:=Qy Tryz.underlying9 hc;exact⟨(s,i),rfl⟩
theorem zIl{n:Nat}{ds:List D}(h:oo Tryz.prog n 22 ds):∃l:List (fE × fE),ds=[.sl false 2 (l.map lM)]:=
 zCn (enc:=lM) Tryz.underlying22 (by kernel_rfl) (λm _ x hx=>zI9 hx) h
def types:List TypeId:=[4,9,22,50]
theorem own:ownKnob Tryz.prog.godebug=none:=by kernel_rfl
theorem laidOut:laidOutB Tryz.prog=true:=by kernel_rfl
theorem typesOk:(types.all λt=>mq Tryz.prog types t&&Tryz.prog.readableRec t&&decide (t<Tryz.prog.types.size))=true:=by kernel_rfl
theorem zJO:Abs.isAgg Tryz.prog 22=false:=by kernel_rfl
theorem args22{dvs:List DV}(h:Ec Tryz.prog [22] dvs):∃l:List (fE × fE),dvs=[.one (.sl false 2 (l.map lM))]:=by
 match dvs,h with
 |a::r,h=>
  simp only[Ec,zJO,vJ]at h;obtain⟨⟨n,x,h1,rfl⟩,rfl⟩:=h;obtain⟨l,rfl⟩:=zIl h1;exact⟨l,rfl⟩
end Go.Gr
namespace Go.Proofs.YtlfjlokfciejnaaGreatDoor
open Go.Abs Go.Gr
noncomputable def laid2 {H : Type} : List (String × DataW H) := [("unicode.White_Space", Rows.laid_unicode_White_Space), ("strings.asciiSpace", Rows.laid_strings_asciiSpace)]
noncomputable def doorW (os:Os):World:=World.doorLaid Tryz.prog 40 os
theorem door_met(os:Os)(args:Array Value):laidMetH Tryz.prog laid2 ((doorW os).forCall (λ_ _=>0) ⟨#[],args,[]⟩).memory:=
 laidMetH_of_parts3 (fuel:=8) (laidMet_of_run' 8 (by kernel_rfl) (by kernel_rfl)) (by kernel_rfl) (by kernel_rfl)
def emptySl:Value:=.slice none 0 0
theorem zIF:∀c,c<256->Jz c=if Lib.isSp (UInt8.ofNat c)then 1 else 0:=by decide+kernel
set_option maxRecDepth 100000 in
theorem gnd_of(w:World)(h:laidMetH Tryz.prog laid2 w):yH Tryz.prog λB=>w.heap[B]?:=by
 have h1:laidMet Tryz.prog laid2 w:=by
  have e:((laid2 (H:=Unit)).filter λx=>x.2.handleName?.isSome)=[]:=by kernel_rfl
  unfold laidMetH at h;rw[e]at h;exact h
 have h2 : laidMet Tryz.prog (("strings.asciiSpace", Lib.tabData .u8 Lib.asciiSpaceTab) :: []) w := laidMet.tail h1;have h3:=Lib.tabIs_of_head (g:=1) (t:=274) (e:=5) (n:=256) (by kernel_rfl) (by kernel_rfl) (by kernel_rfl) (by kernel_rfl) (by kernel_rfl) (by kernel_rfl) h2;intro g hg;have hv:=h3;unfold Lib.TabIs World.var? at hv;rw[hg]at hv;simp only[Option.bind_some]at hv;cases ho:w.heap[g]? with
 |none=>rw[ho]at hv;cases hv
 | some o=>
  refine⟨o,ho,λw' hw' c hc=>?_⟩;have h4 : Lib.TabIs Tryz.prog w' "strings.asciiSpace" .u8 Lib.asciiSpaceTab := by
   unfold Lib.TabIs World.var?;rw[hg];simp only[Option.bind_some];rw[ho]at hv;rw[hw'];exact hv
  rw[h4.cell hg c (by rw[Lib.asciiSpaceTab_length];exact hc),Lib.asciiSpaceTab_at c hc,zIF c hc]
end Go.Proofs.YtlfjlokfciejnaaGreatDoor
