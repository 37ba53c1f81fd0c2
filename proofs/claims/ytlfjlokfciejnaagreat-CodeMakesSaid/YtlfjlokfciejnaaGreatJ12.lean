/- Of ours. -/
import Derived.Test.YtlfjlokfciejnaaGreatJ11
import Derived.WalkKit
import Derived.OwnWalkIn
import Derived.TacticsInMore
import Derived.LoopNIn
import Derived.LoopIn
import Derived.Laws.BytesArg
import Derived.RangeFuncBox
set_option maxRecDepth 20000
set_option maxHeartbeats 4000000
set_option linter.unusedVariables false
set_option linter.unusedSectionVars false
set_option linter.unusedSimpArgs false
set_option linter.defProp false
set_option linter.unnecessarySimpa false
open List renaming length->lN
open Bool renaming true->tT,false->oK
open Option renaming some->sS,none->nN
namespace Go.Gr
open Go.Abs Go.Proofs List
section
variable (L:f?)
abbrev ck9(s:CS):oV:=[xS L s 6 7 8,AJ 256 (lN s.n?) 9,.dead,.dead,.dead,.dead,r9 s.v_,uK s.sites,kg s.bad,nS s.n?]
def zsE(l:oL)(i:Nat)(s:fD)(h:i<lN l):xP (l.drop i) i s=xP (l.drop (i+1)) (i+1) (s++(if i=0 then bs [91]else bs [44,32])++Al l[i]):=by
 rw[aF h,xP]
abbrev Sn(L:f?)(s:CS)(vD wD:D)(tb a b d:Nat):A_:=.box [.d (.sl oK 1 (encS L.a_)),.d (.sl oK 2 (L.u_.map X?.enc)),.d (.sl oK 1 (L.scopes.map uJ)),.d (.str L.main.name),.d (.int .i64 L.main.module),.d (.int .i64 L.main.decl),.ptr tb 0,.x_ 13 a 0 (lN s.v_),.d (.int .i64 s.main),.x_ 3 b 0 (lN s.sites),.x_ 4 d 0 (lN s.bad),.d (.int .i64 s.module),.d vD,.d wD,.d (.int .i64 s.e),.d (.int .i64 s.line),.d (.int .i64 s.t_)]
abbrev ck5(L:f?)(s:CS)(vD wD:D):oV:=[Sn L s vD wD 1 2 3 4,AJ 256 (lN s.n?) 5,r9 s.v_,uK s.sites,kg s.bad,nS s.n?]
theorem zxL(a b:Int):(o_.mk 0 (bs []) 0 a b [] [] []).enc=[.int .i64 0,.str (bs []),.int .i64 0,.int .i64 a,.int .i64 b,.sl oK 4 [],.sl oK 1 [],.sl oK 8 []]:=rfl
@[simp] theorem cut_body(d:P?):cut (d.enc.map AC.d) 5 8=d.body.enc.map AC.d:=by
 let⟨a,b,c,e,f,g,h,i⟩:=d;cases g;rfl
abbrev zH7(z:fD):o7:=[.d (.str z),.d (.int .i64 0),.d (.str (bs [])),.d (.sl tT 1 []),.d (.sl tT 4 []),.d (.int .i64 0),.d (.int .i64 0),.d (.str (bs [])),.d (.sl tT 1 []),.d (.sl tT 1 []),.d (.sl tT 4 []),.d (.sl tT 5 []),.d (.sl tT 8 [])]
def NR(z:fD)(T:f_):13<=(z_ (zH7 z) 1 (T.enc.map AC.d)).length:=by
 rw[CP];exact aJ _
def NS(z:fD)(T:f_)(b:n_):put (z_ (zH7 z) 1 (T.enc.map AC.d)) 5 (b.enc.map AC.d)=(jN.enc ⟨z,T,b⟩).map AC.d:=by
 unfold jN.enc;rw[T.l_,b.l_];try rfl
abbrev K9(L:f?)(s:CS)(P:oV)(d:P?)(a b T:f_)(E:oV):oV:=uL L s++(P++[.box (d.enc.map .d),.box [.d (.int .i64 0),.d (.str (bs [])),.d (.int .i64 0),.d (.int .i64 d.line),.d (.int .i64 d.t_),.d (.sl tT 4 []),.d (.sl tT 1 []),.d (.sl tT 8 [])],.box (a.enc.map .d),.box (b.enc.map .d),.dead,.box (T.enc.map .d)]++E)
def St.cut{F:St->Prop}{t:oZ}{m:Hp}{n:Nat}(ts:oZ)(bs:oV)(ht:∀p,p∈ts->Abs.look t p.1=p.2)(hm:∀i,m i=r_ bs i)(h:∀T,(∀p,p∈ts->Abs.look T p.1=p.2)->F ⟨T,r_ bs,n⟩):F ⟨t,m,n⟩:=by
 have e:m=r_ bs:=funext hm;subst e;exact h t ht
abbrev Ka(X:jc)(j:Nat)(z:fD):oZ:=[(13,.c (.d (.int .i64 j))),(12,.c (.d (.str z))),(10,.c (.ptr 7 0)),(8,.c (.ptr 6 0)),(3,.c (.d (.rp X.enc 0))),(0,.c (.ptr 0 0))]
abbrev Kb(L:f?)(s:CS)(P:oV)(T:f_)(z:n_):oV:=[xS L s 2 8 3,AJ 256 (lN s.n?) 9,r9 s.v_,kg s.bad]++(P++[.box (T.enc.map .d),.box (z.enc.map .d),uK s.sites,nS s.n?])
def zxM(hF:lF L)(X:jc)(hX:ik L ⟨bs [],X.module,X.decl⟩)(hXt:lN X.types<=1000000)(s0:CS)(vD wD:D)(k:Nat)(hs:jy L (zD L X s0) (8*30001+1+k)):
  q_ Pg 40 [.c (.ptr 0 0),.ag (X.enc.map .d)] (ck5 L s0 vD wD) (.a? []) (ck9 L (lL L X s0)):=by
 refine ztX kW λts _e ok hbk c hN hp=>?_;obtain⟨t,u,v,w,x,y,rfl⟩:=lM _e;have hdG:=(K8 hF hX).1;have hdn:=(K8 hF hX).2;let⟨mn,kn,M,e1,e2,g1,g2,hd⟩:=Ib hF.good hX;have hb1:=jr 1;unfold lL;unfold zD at hs;simp only;generalize hdd:xO L X.module X.decl=d at*
 have hv:=zA3 d hd.vars;let⟨ta,tb,_J⟩:=Rz hd.types;have e3:d.types.getD 0 C_=ta:=by rw[_J];try rfl
 have e4:d.types.getD 1 C_=tb:=by rw[_J];try rfl
 rw[e3,e4];let⟨s,hss⟩:∃s:CS,{s0 with module:=X.module,vars:=d.vars.map (·.1),V_:=X.types,e:=0}=s:=⟨_,rfl⟩
 have m1:=GY L ta d.line d.t_ s (by rw[<-hss]at*;exact hs.V_);rw[hss]at hs⊢;have p1:=yx hs ta d.line d.t_;generalize ig ta d.line d.t_ s=r1 at*
 have m2:=GY L tb d.line d.t_ r1.2 p1.1.V_;have p2:=yx p1.1 tb d.line d.t_;generalize ig tb d.line d.t_ r1.2=r2 at*
 unfold zli;have b0:uL L s=uL L {s0 with module:=X.module,vars:=d.vars.map (·.1),V_:=X.types,e:=0}:=by rw[hss]
 rw[b0]at m1;simp[e1,e2,g1,g2];refine oG ?_;refine gQ hv ?_;simp[_J];refine gP [0,1,2,3,4,5] m1 (by simp[e1]) ?_;simp[_J];refine oG ?_;refine gN [0,1,2,3,4,5] m2 ?_;simp;refine oG ?_;have hfits:=zAp (bT 1) r1.1;generalize Di (bT 1) r1.1=ft at*
 have mm:=q_.K_ (args:=[.c (.ptr 0 0),.ag [.d (.int .i64 6),.d (.str (bs [])),.d (.sl tT 1 []),.d (.sl oK 4 [r1.1.enc,r2.1.enc])],.ag [.d (.int .i64 0),.d (.str (bs [])),.d (.int .i64 0),.d (.int .i64 d.line),.d (.int .i64 d.t_),.d (.sl tT 4 []),.d (.sl tT 1 []),.d (.sl tT 8 [])]]) (GZ L (jO r1.1 r2.1) (.mk 0 (bs []) 0 d.line d.t_ [] [] []) r2.2) (by simp[AV.R_,AV.K_,AC.K_,D.K_,D.W_,D.O_,jO,vz,mG,yR,encS,o_.enc,o_.j?,zxL]);simp only[o_.line,o_.t_]at mm;have pm:=KU p2.1 (jO r1.1 r2.1) d.line d.t_;have fin:∀q:CS,jy L q (8*30001+1+k)->q_ Pg 67 [.c (.ptr 0 0),.ag [.d (.int .i64 0),.d (.str (bs [])),.d (.int .i64 0),.d (.int .i64 d.line),.d (.int .i64 d.t_),.d (.sl tT 4 []),.d (.sl tT 1 []),.d (.sl tT 8 [])],.c (.d (.int .i64 14))] (uL L q) (.a? []) (uL L (jw d.line d.t_ 14 q))/\jy L (jw d.line d.t_ 14 q) (8*30001+1+k):=λq hq=>⟨q_.K_ (yD L (.mk 0 (bs []) 0 d.line d.t_ [] [] []) 14 q) (by simp[AV.R_,AV.K_,AC.K_,D.K_,D.W_,D.O_,encS,zxL]),yU hq _ _ _⟩
 have _A:vF [(d.param,r1.1)] (P_ d.body):=⟨by have:=hdG.size;simp;omega,λv hv=>by simp at hv;subst hv;exact p1.2⟩
 have hi:=SV L hF.good d.body hdG.body;have minf:∀q:CS,jy L q (8*30001+1+k)->q_ Pg 68 [.c (.ptr 0 0),.ag (d.body.enc.map .d),.c (.d (.sl tT 5 [.str d.param::r1.1.enc]))] (uL L q) (KV (iD L d.body [(d.param,r1.1)] q).1.1 (iD L d.body [(d.param,r1.1)] q).1.2) (ND L (iD L d.body [(d.param,r1.1)] q).2)/\jy L (iD L d.body [(d.param,r1.1)] q).2 (1+k):=λq hq=>⟨q_.K_ (hi.1 [(d.param,r1.1)] q (1+k) _A (hq.less (by have:=hdG.size;omega))) (by simp[AV.R_,AV.K_,AC.K_,D.K_,D.W_,D.O_,p?]),(hi.2 [(d.param,r1.1)] q (1+k) _A (hq.less (by have:=hdG.size;omega))).1⟩
 have hnm:∃nm,L.a_.getD X.module.toNat (bs [])=nm/\L.a_[mn]?=sS nm:=by
  rw[e1];simp only[bC];have:mn<lN L.a_:=by have:=hF.good.a_;have:=hX.m1;simp only at this;omega
  exact⟨L.a_[mn],by rw[aH,aA this];rfl,aA this⟩
 let⟨nm,hnm1,hnm2⟩:=hnm;have hnz:=hF.modNames nm (ah hnm2);rw[hnm1];let⟨R,hR⟩:=oJ (xP X.types 0 (nm++bs [46]++d.name));rw[hR];by_cases q0:r2.2.e=0
 .rw [aC q0];generalize qh (jO r1.1 r2.1) d.line d.t_ r2.2=T at*
  simp[q0];refine fQ [16] ?_;simp[iE];refine gP [0,1,2,3,4,5] mm (by simp[q0]) ?_;simp;refine fT [] ?_;simp;refine gQ hb1 ?_;simp;refine gQ hfits ?_;simp;refine oG ?_;refine fQ [] ?_;simp only[D5,Ef,aC,aB,reduceIte,Nat.reduceEqDiff,CV,yG,A_.fz_arr,F8,DZ];refine St.cut (F:=w_ Pg c _ _ _) [(0,.c (.ptr 0 0)),(3,.c (.d (.rp X.enc 0))),(4,.c (.ptr 12 0)),(5,.c (.ptr 13 0)),(6,.c (.ptr 14 0)),(7,.c (.ptr 15 0)),(8,.c (.ptr 17 0)),(9,.c (.d (.bool ft)))] (K9 L T.2 [.G_ t 0,.G_ u 1,.G_ v 2,.G_ w 3,.G_ x 4,.G_ y 5] d r1.1 r2.1 (T.1) []) ?_ ?_ λT' hT=>?_
  .simp[iE]
  .intro i;by_cases q:i<18
   .rcases(show i=0\/i=1\/i=2\/i=3\/i=4\/i=5\/i=6\/i=7\/i=8\/i=9\/i=10\/i=11\/i=12\/i=13\/i=14\/i=15\/i=16\/i=17 from by omega)with rfl|rfl|rfl|rfl|rfl|rfl|rfl|rfl|rfl|rfl|rfl|rfl|rfl|rfl|rfl|rfl|rfl|rfl<;>simp[iE]
   .refine Eq.trans (b:=A_.c?) ?_ (wR (by simp;omega)).symm;try simp[show i≠0 from by omega,show i≠1 from by omega,show i≠2 from by omega,show i≠3 from by omega,show i≠4 from by omega,show i≠5 from by omega,show i≠6 from by omega,show i≠7 from by omega,show i≠8 from by omega,show i≠9 from by omega,show i≠10 from by omega,show i≠11 from by omega,show i≠12 from by omega,show i≠13 from by omega,show i≠14 from by omega,show i≠15 from by omega,show i≠16 from by omega,show i≠17 from by omega]
    rw[wR (show 12<=i from by omega)];try rfl
  simp only[dx,bv,false_implies,implies_true,and_true]at hT;let⟨l0,l3,l4,l5,l6,l7,l8,l9⟩:=hT;simp[l0,l3,l4,l5,l6,l7,l8,l9];have P5:=pm.1;generalize T.1=Ty at*
  generalize T.2=S2 at*
  let⟨S5,pa,hS5⟩:∃S5,jy L S5 (8*30001+1+k)/\(if X.module=L.main.module/\X.decl=L.main.decl/\ft=oK then jw d.line d.t_ 14 S2 else S2)=S5:=by
   split
   .exact⟨_,(fin S2 P5).2,rfl⟩
   .exact⟨_,P5,rfl⟩
  rw[hS5];by_cases cm:X.module=L.main.module;rotate_left;rw[aB (λz=>cm z.1)]at hS5;subst hS5;simp[cm,l0,l3,l4,l5,l6,l7,l8,l9];refine oG ?_;generalize S2=S5 at*
  rotate_left;by_cases cd:X.decl=L.main.decl;rotate_left;rw[aB (λz=>cd z.2.1)]at hS5;subst hS5;simp[cm,cd,l0,l3,l4,l5,l6,l7,l8,l9];refine oG ?_;generalize S2=S5 at*
  rotate_left;rotate_left;by_cases cf:ft=tT;rw[aB (λz=>by rw[cf]at z;simp at z)]at hS5;subst hS5;simp[cm,cd,cf,l0,l3,l4,l5,l6,l7,l8,l9];refine oG ?_;generalize S2=S5 at*
  rotate_left;rw[aC ⟨cm,cd,uM cf⟩]at hS5;have ma:=(fin S2 P5).1;rw[hS5]at ma;simp[cm,cd,cf,l0,l3,l4,l5,l6,l7,l8,l9];refine oG ?_;refine gP [0,1,2,3,4,5] ma (by simp[l0,l3,l4,l5,l6,l7,l8,l9]) ?_;simp[l0,l3,l4,l5,l6,l7,l8,l9]
  all_goals
   have mi:=(minf S5 pa).1;have pi:=(minf S5 pa).2;generalize iD L d.body [(d.param,r1.1)] (S5)=r3 at*
   have mc:=Bo L r3.1.1 r3.1.2 r2.1 d.body r3.2 (by have:=pi.sites;omega);have pc:=AL (b:=k) (pi.less oM) r3.1.1 r3.1.2 r2.1 d.body.line d.body.t_;generalize jq r3.1.1 r3.1.2 r2.1 d.body.line d.body.t_ r3.2=r4 at*
   refine gP [0,1,2,3,4,5] mi (by simp[l0,l3,l4,l5,l6,l7,l8,l9]) ?_;simp[l0,l3,l4,l5,l6,l7,l8,l9];refine gP [0,1,2,18,4,19] mc (by simp[l0,l3,l4,l5,l6,l7,l8,l9]) ?_;simp[e1,hnm2,l0,l3,l4,l5,l6,l7,l8,l9];refine⟨by unfold zaf;omega,by unfold zaf;omega,oD,?_⟩;refine fM gm hp (λY:Nat × fD=>Y.1<=lN X.types/\Y.2.size<=100+Y.1*20010/\xP (X.types.drop Y.1) Y.1 Y.2=R) (λY=>Ka X Y.1 Y.2) (λ_=>Kb L r4.2 [.G_ t 0,.G_ u 1] Ty r4.1) (λY=>lN X.types-Y.1) (0,nm++bs [46]++d.name) [0,1,2,4,6,7,17,20,22,19] ⟨oC,by simp only[ax,Dp,length_cons,length_nil];omega,uM hR⟩ (by simp[l0,l3,l4,l5,l6,l7,l8,l9]) λ⟨j,z⟩ ⟨i1,i3,i2⟩=>?_;unfold Qa;simp only at i1 i3 i2;simp;apply gM<;>intro h
   .have hj:j<lN X.types:=uM h;rw[zsE _ _ _ hj]at i2;let⟨q,hq⟩:=oJ (X.types[j]);rw[hq]at i2;have hw:=wrap_i64 (n:=(j:Int)+1) (by have:=hXt;omega) (by have:=hXt;omega);have hsq:=Sa q;by_cases j0:j=0
    .subst j0;simp[hj,hq];refine⟨by unfold zaf;omega,?_⟩;refine gQ (Ms q) ?_;simp;refine⟨by unfold zaf;omega,?_⟩;refine fE (0+1,z++bs [91]++Al q) [0,1,2,3,4,5,6,7,8,9] ⟨qM,by simp only[ax,Dp,length_cons,length_nil];omega,uM i2⟩ qM ?_;simp[show IntKind.i64.wrap 1=1 from by decide]
    .rw[aB j0]at i2;simp[hj,hq,j0];refine⟨by unfold zaf;omega,?_⟩;refine gQ (Ms q) ?_;simp;refine⟨by unfold zaf;omega,?_⟩;refine fE (j+1,z++bs [44,32]++Al q) [0,1,2,3,4,5,6,7,8,9] ⟨qM,by simp only[ax,Dp,length_cons,length_nil];omega,i2⟩ qM ?_;simp[hw]
   have hj:j=lN X.types:=oI h;subst hj;rw[aS,xP]at i2;subst i2;have hfew:=pc.few;have tf:(r4.2.v_.map ((λx=>List.map AC.d x)∘jN.enc)).take (lN r4.2.v_)=r4.2.v_.map ((λx=>List.map AC.d x)∘jN.enc):=aD oC;have td:(r4.2.bad.map ((λx=>List.map AC.d x)∘l?.enc)).take (lN r4.2.bad)=r4.2.bad.map ((λx=>List.map AC.d x)∘l?.enc):=aD oC;by_cases l0:0<lN X.types
   .rw[aC l0];simp[l0,NR,NS,jN.F_];refine⟨by unfold zaf;omega,oM,oD,?_⟩;by_cases qe:r4.2.e=0
    .simp[qe];exact fH [0,1,4,5,6,7,10,8,3,9] [4,5,4,4,4,4] (by simp[AV.R_,AV.K_,l?.enc,tf,td])
    .simp[qe];refine⟨oM,oD,?_⟩;exact fH [0,1,4,5,6,7,10,8,11,9] [4,5,4,4,4,4] (by simp[AV.R_,AV.K_,l?.enc,tf,td])
   .rw[aB l0];simp[l0,NR,NS,jN.F_];refine⟨oM,oD,?_⟩;by_cases qe:r4.2.e=0
    .simp[qe];exact fH [0,1,4,5,6,7,10,8,3,9] [4,5,4,4,4,4] (by simp[AV.R_,AV.K_,l?.enc,tf,td])
    .simp[qe];refine⟨oM,oD,?_⟩;exact fH [0,1,4,5,6,7,10,8,11,9] [4,5,4,4,4,4] (by simp[AV.R_,AV.K_,l?.enc,tf,td])
 .rw [aB q0];simp[q0];refine fT [.c 17 2] ?_;simp;refine gQ hb1 ?_;simp;refine gQ hfits ?_;simp;refine oG ?_;refine fQ [16,18] ?_;simp only[D5,Ef,aC,aB,reduceIte,Nat.reduceEqDiff,CV,yG,A_.fz_arr,F8,DZ,nA,Vi];refine St.cut (F:=w_ Pg c _ _ _) [(0,.c (.ptr 0 0)),(3,.c (.d (.rp X.enc 0))),(4,.c (.ptr 12 0)),(5,.c (.ptr 13 0)),(6,.c (.ptr 14 0)),(7,.c (.ptr 15 0)),(8,.c (.ptr 17 0)),(9,.c (.d (.bool ft)))] (K9 L r2.2 [.G_ t 0,.G_ u 1,.G_ v 2,.G_ w 3,.G_ x 4,.G_ y 5] d r1.1 r2.1 (jO r1.1 r2.1) [.dead]) ?_ ?_ λT' hT=>?_
  .simp[iE]
  .intro i;by_cases q:i<19
   .rcases(show i=0\/i=1\/i=2\/i=3\/i=4\/i=5\/i=6\/i=7\/i=8\/i=9\/i=10\/i=11\/i=12\/i=13\/i=14\/i=15\/i=16\/i=17\/i=18 from by omega)with rfl|rfl|rfl|rfl|rfl|rfl|rfl|rfl|rfl|rfl|rfl|rfl|rfl|rfl|rfl|rfl|rfl|rfl|rfl<;>simp[iE,jO,vz]
   .refine Eq.trans (b:=A_.c?) ?_ (wR (by simp;omega)).symm;try simp[show i≠0 from by omega,show i≠1 from by omega,show i≠2 from by omega,show i≠3 from by omega,show i≠4 from by omega,show i≠5 from by omega,show i≠6 from by omega,show i≠7 from by omega,show i≠8 from by omega,show i≠9 from by omega,show i≠10 from by omega,show i≠11 from by omega,show i≠12 from by omega,show i≠13 from by omega,show i≠14 from by omega,show i≠15 from by omega,show i≠16 from by omega,show i≠17 from by omega,show i≠18 from by omega]
    rw[wR (show 12<=i from by omega)];try rfl
  simp only[dx,bv,false_implies,implies_true,and_true]at hT;let⟨l0,l3,l4,l5,l6,l7,l8,l9⟩:=hT;simp[l0,l3,l4,l5,l6,l7,l8,l9];have P5:=p2.1;generalize jO r1.1 r2.1=Ty at*
  generalize r2.2=S2 at*
  let⟨S5,pa,hS5⟩:∃S5,jy L S5 (8*30001+1+k)/\(if X.module=L.main.module/\X.decl=L.main.decl/\ft=oK then jw d.line d.t_ 14 S2 else S2)=S5:=by
   split
   .exact⟨_,(fin S2 P5).2,rfl⟩
   .exact⟨_,P5,rfl⟩
  rw[hS5];by_cases cm:X.module=L.main.module;rotate_left;rw[aB (λz=>cm z.1)]at hS5;subst hS5;simp[cm,l0,l3,l4,l5,l6,l7,l8,l9];refine oG ?_;generalize S2=S5 at*
  rotate_left;by_cases cd:X.decl=L.main.decl;rotate_left;rw[aB (λz=>cd z.2.1)]at hS5;subst hS5;simp[cm,cd,l0,l3,l4,l5,l6,l7,l8,l9];refine oG ?_;generalize S2=S5 at*
  rotate_left;rotate_left;by_cases cf:ft=tT;rw[aB (λz=>by rw[cf]at z;simp at z)]at hS5;subst hS5;simp[cm,cd,cf,l0,l3,l4,l5,l6,l7,l8,l9];refine oG ?_;generalize S2=S5 at*
  rotate_left;rw[aC ⟨cm,cd,uM cf⟩]at hS5;have ma:=(fin S2 P5).1;rw[hS5]at ma;simp[cm,cd,cf,l0,l3,l4,l5,l6,l7,l8,l9];refine oG ?_;refine gP [0,1,2,3,4,5] ma (by simp[l0,l3,l4,l5,l6,l7,l8,l9]) ?_;simp[l0,l3,l4,l5,l6,l7,l8,l9]
  all_goals
   have mi:=(minf S5 pa).1;have pi:=(minf S5 pa).2;generalize iD L d.body [(d.param,r1.1)] (S5)=r3 at*
   have mc:=Bo L r3.1.1 r3.1.2 r2.1 d.body r3.2 (by have:=pi.sites;omega);have pc:=AL (b:=k) (pi.less oM) r3.1.1 r3.1.2 r2.1 d.body.line d.body.t_;generalize jq r3.1.1 r3.1.2 r2.1 d.body.line d.body.t_ r3.2=r4 at*
   refine gP [0,1,2,3,4,5] mi (by simp[l0,l3,l4,l5,l6,l7,l8,l9]) ?_;simp[l0,l3,l4,l5,l6,l7,l8,l9];refine gP [0,1,2,19,4,20] mc (by simp[l0,l3,l4,l5,l6,l7,l8,l9]) ?_;simp[e1,hnm2,l0,l3,l4,l5,l6,l7,l8,l9];refine⟨by unfold zaf;omega,by unfold zaf;omega,oD,?_⟩;refine fM gm hp (λY:Nat × fD=>Y.1<=lN X.types/\Y.2.size<=100+Y.1*20010/\xP (X.types.drop Y.1) Y.1 Y.2=R) (λY=>Ka X Y.1 Y.2) (λ_=>Kb L r4.2 [.G_ t 0,.G_ u 1] Ty r4.1) (λY=>lN X.types-Y.1) (0,nm++bs [46]++d.name) [0,1,2,4,6,7,17,21,23,20] ⟨oC,by simp only[ax,Dp,length_cons,length_nil];omega,uM hR⟩ (by simp[l0,l3,l4,l5,l6,l7,l8,l9]) λ⟨j,z⟩ ⟨i1,i3,i2⟩=>?_;unfold Qa;simp only at i1 i3 i2;simp;apply gM<;>intro h
   .have hj:j<lN X.types:=uM h;rw[zsE _ _ _ hj]at i2;let⟨q,hq⟩:=oJ (X.types[j]);rw[hq]at i2;have hw:=wrap_i64 (n:=(j:Int)+1) (by have:=hXt;omega) (by have:=hXt;omega);have hsq:=Sa q;by_cases j0:j=0
    .subst j0;simp[hj,hq];refine⟨by unfold zaf;omega,?_⟩;refine gQ (Ms q) ?_;simp;refine⟨by unfold zaf;omega,?_⟩;refine fE (0+1,z++bs [91]++Al q) [0,1,2,3,4,5,6,7,8,9] ⟨qM,by simp only[ax,Dp,length_cons,length_nil];omega,uM i2⟩ qM ?_;simp[show IntKind.i64.wrap 1=1 from by decide]
    .rw[aB j0]at i2;simp[hj,hq,j0];refine⟨by unfold zaf;omega,?_⟩;refine gQ (Ms q) ?_;simp;refine⟨by unfold zaf;omega,?_⟩;refine fE (j+1,z++bs [44,32]++Al q) [0,1,2,3,4,5,6,7,8,9] ⟨qM,by simp only[ax,Dp,length_cons,length_nil];omega,i2⟩ qM ?_;simp[hw]
   have hj:j=lN X.types:=oI h;subst hj;rw[aS,xP]at i2;subst i2;have hfew:=pc.few;have tf:(r4.2.v_.map ((λx=>List.map AC.d x)∘jN.enc)).take (lN r4.2.v_)=r4.2.v_.map ((λx=>List.map AC.d x)∘jN.enc):=aD oC;have td:(r4.2.bad.map ((λx=>List.map AC.d x)∘l?.enc)).take (lN r4.2.bad)=r4.2.bad.map ((λx=>List.map AC.d x)∘l?.enc):=aD oC;by_cases l0:0<lN X.types
   .rw[aC l0];simp[l0,NR,NS,jN.F_];refine⟨by unfold zaf;omega,oM,oD,?_⟩;by_cases qe:r4.2.e=0
    .simp[qe];exact fH [0,1,4,5,6,7,10,8,3,9] [4,5,4,4,4,4] (by simp[AV.R_,AV.K_,l?.enc,tf,td])
    .simp[qe];refine⟨oM,oD,?_⟩;exact fH [0,1,4,5,6,7,10,8,11,9] [4,5,4,4,4,4] (by simp[AV.R_,AV.K_,l?.enc,tf,td])
   .rw[aB l0];simp[l0,NR,NS,jN.F_];refine⟨oM,oD,?_⟩;by_cases qe:r4.2.e=0
    .simp[qe];exact fH [0,1,4,5,6,7,10,8,3,9] [4,5,4,4,4,4] (by simp[AV.R_,AV.K_,l?.enc,tf,td])
    .simp[qe];refine⟨oM,oD,?_⟩;exact fH [0,1,4,5,6,7,10,8,11,9] [4,5,4,4,4,4] (by simp[AV.R_,AV.K_,l?.enc,tf,td])
end
abbrev chT(L:f?)(i:Nat):oZ:=[(5,.c (.d (.int .i64 i))),(4,.c (.ptr 2 0)),(2,.c (.ptr 0 0)),(1,.c (.d (.rp L.enc 0)))]
abbrev chB(L:f?)(s:CS):oV:=[.box [.d (.sl tT 13 []),.d (.int .i64 0),.d (.sl tT 3 [])],.box [.d (.int .i64 256),.x_ 3 6 0 (lN s.n?)],Sn L s (.sl tT 1 []) (.sl tT 4 []) 1 3 4 5,r9 s.v_,uK s.sites,kg s.bad,nS s.n?]
abbrev Sq(i:Nat):oZ:=[(10,.c (.d (.int .i64 i))),(4,.c (.ptr 2 0)),(2,.c (.ptr 0 0))]
abbrev Sr(L:f?)(s:CS)(vD wD:D):oV:=[.box [.d (.sl tT 13 []),.d (.int .i64 0),.d (.sl tT 3 [])],.box [.d (.int .i64 256),.x_ 3 6 0 (lN s.n?)],Sn L s vD wD 1 3 4 5,r9 s.v_,uK s.sites,kg s.bad,nS s.n?]
theorem zJ6(a0 a1 a2 a3 a4 a5 a6 a7 a8 a9 a10 a11 a12 a13 a14 a15 a16:AC):cut [a0,a1,a2,a3,a4,a5,a6,a7,a8,a9,a10,a11,a12,a13,a14,a15,a16] 7 3=[a7,a8,a9]:=rfl
theorem zJ7(L:f?):put (z_ [.d (.sl tT 1 []),.d (.sl tT 2 []),.d (.sl tT 1 []),.d (.str (bs [])),.d (.int .i64 0),.d (.int .i64 0),.d (.sc (.pointer nN)),.d (.sl tT 13 []),.d (.int .i64 0),.d (.sl tT 3 []),.d (.sl tT 4 []),.d (.int .i64 0),.d (.sl tT 1 []),.d (.sl tT 4 []),.d (.int .i64 0),.d (.int .i64 0),.d (.int .i64 0)] 0 (L.enc.map AC.d)) 6 [AC.ptr 1 0]=[.d (.sl oK 1 (encS L.a_)),.d (.sl oK 2 (L.u_.map X?.enc)),.d (.sl oK 1 (L.scopes.map uJ)),.d (.str L.main.name),.d (.int .i64 L.main.module),.d (.int .i64 L.main.decl),.ptr 1 0,.d (.sl tT 13 []),.d (.int .i64 0),.d (.sl tT 3 []),.d (.sl tT 4 []),.d (.int .i64 0),.d (.sl tT 1 []),.d (.sl tT 4 []),.d (.int .i64 0),.d (.int .i64 0),.d (.int .i64 0)]:=rfl
theorem zGt(L:f?)(hG:lF L):h_ Pg 20 [.agg L.enc] (.a? [.agg (Cm L).1.enc,.one (.sl oK 4 ((Cm L).2.map l?.enc))]):=by
 refine zzK oC λo c hN hp=>?_;let⟨R,hR⟩:=oJ (Cm L);rw[hR];unfold Cm at hR;unfold zox;simp;refine fT [.c 2 7,.c 2 9,.c 2 10,.c 1 1] ?_;simp[zJ7];refine fM gm hp (λY:Nat × CS=>Y.1<=lN L.u_/\yz L Y.2 0/\Y.2.v_=[]/\Y.2.sites=[]/\Y.2.bad=[]/\Y.2.module=0/\Y.2.e=0/\Y.2.line=0/\Y.2.t_=0/\nE L (L.u_.drop Y.1) Y.1 Y.2=nE L L.u_ 0 cs0) (λY=>chT L Y.1) (λY=>chB L Y.2) (λY=>lN L.u_-Y.1) (0,cs0) [0,1,2,3,4,5,6] ⟨oC,⟨by simp[cs0],by simp[cs0],by simp[cs0],by simp[cs0],by simp[cs0]⟩,rfl,rfl,rfl,rfl,rfl,rfl,rfl,oC⟩ (by simp[cs0]) λ⟨i,S⟩ ⟨i1,i2,i3,i4,i5,i6,i7,i8,i9,i10⟩=>?_;unfold zlk;simp only at i1 i2 i3 i4 i5 i6 i7 i8 i9 i10;simp;apply gM<;>intro h
 .have hi:i<lN L.u_:=uM h;let⟨m,hm⟩:=oJ (L.u_[i]);rw[aF hi,hm,nE]at i10;simp[hi,hm];refine fM gm hp (λY:Nat × CS=>Y.1<=lN m.T_/\yz L Y.2 0/\Y.2.v_=[]/\Y.2.sites=[]/\Y.2.bad=[]/\Y.2.module=0/\Y.2.e=0/\Y.2.line=0/\Y.2.t_=0/\(if 0<(vE L i (m.T_.drop Y.1) Y.1 Y.2).2.length then vE L i (m.T_.drop Y.1) Y.1 Y.2 else nE L (L.u_.drop (i+1)) (i+1) (vE L i (m.T_.drop Y.1) Y.1 Y.2).1)=nE L L.u_ 0 cs0) (λY=>(6,.c (.d (.int .i64 Y.1)))::chT L i) (λY=>chB L Y.2) (λY=>lN m.T_-Y.1) (0,S) [0,1,2,3,4,5,6] ⟨oC,i2,i3,i4,i5,i6,i7,i8,i9,uM i10⟩ oC λ⟨k,S2⟩ ⟨j1,j2,j3,j4,j5,j6,j7,j8,j9,j10⟩=>?_;unfold zlj;simp only at j1 j2 j3 j4 j5 j6 j7 j8 j9 j10;have hmi:L.u_[i]?=sS m:=by rw[aA hi,hm]
  simp[hi,hm];apply gM<;>intro h
  .have hk:k<lN m.T_:=uM h;let⟨d,hd⟩:=oJ (m.T_[k]);rw[aF hk,hd,vE]at j10;have hdl:=(hG.small m (ah hmi)).T_;have hw:=wI (n:=(k:Int)+1);by_cases c0:0<lN d.vars
   .rw[aC c0]at j10;simp[hi,hm,hk,hd,c0];refine fE (k+1,S2) [0,1,2,3,4,5,6] ⟨qM,j2,j3,j4,j5,j6,j7,j8,j9,j10⟩ qM ?_;simp[hw]
   rw[aB c0]at j10;have hx:∀x,x∈(jf 256 S2.n? ⟨i,k,[]⟩).2->ik L ⟨bs [],x.module,x.decl⟩/\lN x.types<=1000000:=λx hx=>by
    have hm2:L.u_.getD i pO=m:=by rw[aH,hmi];try rfl
    rcases SA hx with hx|hx
    .exact j2.ist x hx
    .subst hx;exact⟨⟨qM,qM,qM,by simp only[bC];rw[hm2];omega⟩,oC⟩
   have hx2:=NG j2.n? ⟨i,k,[]⟩;have le4:L.enc[4]?=sS (D.int .i64 L.main.module):=rfl;have le5:L.enc[5]?=sS (D.int .i64 L.main.decl):=rfl;have ma:=q_.K_ (args:=[.c (.ptr 0 0),.ag [.d (.int .i64 i),.d (.int .i64 k),.d (.sl tT 4 [])]]) (zEv 256 S2.n? (by have:=j2.n?;omega) ⟨i,k,[]⟩ oC) (by simp[AV.R_,AV.K_,AC.K_,D.K_,D.W_,D.O_,jc.enc]);generalize jf 256 S2.n? ⟨i,k,[]⟩=r at*
   simp only at j10;by_cases r0:r.1.2=0;rotate_left
   .simp only[aC (show r.1.2≠0 from r0)]at j10;simp at j10;rw[<-j10]at hR;simp at hR;subst hR;simp[hi,hm,hk,hd,c0];refine gP [1,6] ma (by simp[jc.enc]) ?_;simp[r0];refine oG ?_;refine fQ [] ?_;simp[Ao,lC.enc,l?.enc];try decide
   .simp only[aB (show¬r.1.2≠0 fromλz=>z r0)]at j10;by_cases cm:(i:Int)=L.main.module
    .by_cases cd:(k:Int)=L.main.decl
     .simp only[aC (show(i:Int)=L.main.module/\(k:Int)=L.main.decl from⟨cm,cd⟩)]at j10;simp[hi,hm,hk,hd,c0];refine gP [1,6] ma (by simp[jc.enc]) ?_;simp[r0,cm,cd,le4,le5];refine fE (k+1,{S2 with n?:=r.2,main:=r.1.1}) [0,1,2,3,4,5,8] ⟨qM,⟨hx2,hx,j2.sites,j2.v_,j2.bad⟩,j3,j4,j5,j6,j7,j8,j9,j10⟩ qM ?_;simp;rw[<-cd];exact hw
     .simp only[aB (show¬((i:Int)=L.main.module/\(k:Int)=L.main.decl)fromλz=>cd z.2)]at j10;simp[hi,hm,hk,hd,c0];refine gP [1,6] ma (by simp[jc.enc]) ?_;simp[r0,cm,cd,le4,le5];refine fE (k+1,{S2 with n?:=r.2}) [0,1,2,3,4,5,8] ⟨qM,⟨hx2,hx,j2.sites,j2.v_,j2.bad⟩,j3,j4,j5,j6,j7,j8,j9,j10⟩ qM ?_;simp[hw]
    .simp only[aB (show¬((i:Int)=L.main.module/\(k:Int)=L.main.decl)fromλz=>cm z.1)]at j10;simp[hi,hm,hk,hd,c0];refine gP [1,6] ma (by simp[jc.enc]) ?_;simp[r0,cm,le4,le5];refine fE (k+1,{S2 with n?:=r.2}) [0,1,2,3,4,5,8] ⟨qM,⟨hx2,hx,j2.sites,j2.v_,j2.bad⟩,j3,j4,j5,j6,j7,j8,j9,j10⟩ qM ?_;simp[hw]
  .have hk:k=lN m.T_:=oI h;subst hk;rw[aS,vE]at j10;simp at j10;have hw:=wrap_i64 (n:=(i:Int)+1) (by have:=hG.good.few;omega) (by have:=hG.good.few;omega);refine fE (i+1,S2) [0,1,2,3,4,5,6] ⟨qM,j2,j3,j4,j5,j6,j7,j8,j9,j10⟩ qM ?_;simp[hw]
 .have hi:i=lN L.u_:=oI h;subst hi;rw[aS,nE]at i10;rw[<-i10]at hR;simp only[length_nil,Nat.lt_irrefl,if_false]at hR;let⟨F,hF⟩:=oJ (nG L 257 0 S);rw[hF]at hR;refine fM gm hp (λY:Nat × CS × D × D=>Y.1<=256/\yz L Y.2.1 Y.1/\nG L (257-Y.1) Y.1 Y.2.1=F) (λY=>Sq Y.1) (λY=>Sr L Y.2.1 Y.2.2.1 Y.2.2.2) (λY=>257-Y.1) (0,S,.sl tT 1 [],.sl tT 4 []) [0,1,2,3,4,5,6] ⟨oC,i2,uM hF⟩ oC λ⟨j,S2,vD,wD⟩ ⟨j1,j2,j3⟩=>?_;unfold zll;simp only at j1 j2 j3;simp;apply gM<;>intro h
  .have hj:j<S2.n?.length:=uM h;have hjt:=j2.n?;let⟨X,hX⟩:=oJ (S2.n?[j]);have hXm:X∈S2.n?:=hX▸aO hj;have hXi:=j2.ist X hXm;have hw:=wI (n:=(j:Int)+1);have mf:=zxM L hG X hXi.1 hXi.2 S2 vD wD ((257-(j+1))*240009) (zyB hXi.1 hXi.2 oM j2);have mk:=NP hG hXi.1 hXi.2 oM j2;have e3:nG L (257-(j+1)) (j+1) (lL L X S2)=F:=by
    have e:257-j=(257-(j+1))+1:=oM;rw[e,nG,aC hj]at j3;rw[aH,aA hj,hX]at j3;exact j3
   generalize lL L X S2=S3 at*
   simp[hj,hX];refine gN [2,1,3,4,5,6] mf ?_;simp;refine fE (j+1,S3,.sl oK 1 (encS S3.vars),.sl oK 4 (S3.V_.map f_.enc)) [0,1,2,7,8,9,10] ⟨qM,mk,e3⟩ qM ?_;simp[hw]
  .have hj:¬j<S2.n?.length:=uM h;have e3:S2=F:=by
    have e:257-j=(257-(j+1))+1:=oM;rw[e,nG,aB hj]at j3;exact j3
   subst e3;by_cases hb:0<S2.bad.length
   .rw[aC hb]at hR;subst hR;simp[hb];refine oG ?_;refine fQ [5] ?_;simp[Ao,lC.enc];exact aD oC
   .rw[aB hb]at hR;subst hR;simp[hb,zJ6];refine fQ [3,4] ?_;simp[lC.enc];exact⟨aD oC,aD oC⟩
@[simp] theorem lC.F_(p:lC):lN p.enc=3:=rfl
@[simp] theorem lC.cut_map(p:lC):cut (p.enc.map AC.d) 0 3=p.enc.map .d:=rfl
@[simp] theorem lC.cut_enc(p:lC):cut p.enc 0 3=p.enc:=rfl
@[simp] theorem lC.er_map(p:lC):p.enc.map D.er=p.enc:=rfl
abbrev prV(r:lC × Bool):DV:=.a? [.agg r.1.enc,.one (.bool r.2)]
def Kc(l:ow):h_ Pg 8 [.one (.sl oK 2 (l.map jg))] (prV (uH l)):=by
 refine zvY oC λo c hN hp=>?_;let⟨R,hR⟩:=oJ (uH l);rw[hR];unfold uH at hR;have hfew:=zJY l;let⟨f,hf⟩:=oJ (decide (lN l<=20)&&rY l 0);rw[hf]at hfew;simp[zlm];apply gQ hfew;simp;cases f with
 | false=>
  have hc:20<lN l\/rY l 0=oK\/5000<vo l:=by
   simp at hf;by_cases q:lN l<=20
   .exact .inr (.inl (hf q))
   .exact .inl oM
  rw[aC hc]at hR;refine fM gm hp (λ_:Nat=>True) (λ_=>[(6,.c (.d (.int .i64 0))),(5,.c (.d (.int .i64 0))),(4,.c (.d (.bool oK))),(2,.c (.ptr 0 0)),(0,.c (.d (.sl oK 2 (l.map jg))))]) (λ_=>[.box [.d (.sl tT 13 []),.d (.int .i64 0),.d (.sl tT 3 [])]]) (λ_=>0) 0 [0] oC oC λj h1=>?_;simp[Qb];apply gM<;>intro h
  .subst hR;simp[Ao,lC.enc]
  .subst hR;simp[Ao,lC.enc]
 | true=>
  simp at hf;have hl:=hf.1;refine fM gm hp (λY:Nat × Nat=>Y.1<=lN l/\Y.2<=70000/\rY (l.drop Y.1) Y.2=tT/\(Y.2:Int)+vo (l.drop Y.1)=vo l) (λY=>[(6,.c (.d (.int .i64 Y.1))),(5,.c (.d (.int .i64 Y.2))),(4,.c (.d (.bool tT))),(2,.c (.ptr 0 0)),(0,.c (.d (.sl oK 2 (l.map jg))))]) (λ_=>[.box [.d (.sl tT 13 []),.d (.int .i64 0),.d (.sl tT 3 [])]]) (λY=>lN l-Y.1) (0,0) [0] ⟨oC,oC,uM hf.2,oC⟩ oC λ⟨j,n⟩ ⟨i1,i2,i3,i4⟩=>?_;unfold Qb;simp only at i1 i2 i3 i4;simp;apply gM<;>intro h
  .have hj:j<lN l:=uM h;let⟨s,hs⟩:=oJ (l[j]);rw[aF hj,hs,rY]at i3;rw[aF hj,hs,vo]at i4;have hw:=wI (n:=(j:Int)+1);by_cases c1:(70000:Int)-n<s.2.size\/1000<s.1.size
   .rw[aC c1]at i3;cases i3
   rw[aB c1]at i3;have hw3:=wI (n:=(n:Int)+s.2.size);simp[hj,hs];apply fE (j+1,n+s.2.size) [0] ⟨qM,qM,uM i3,qM⟩ qM;simp[hw,hw3]
  .have hj:j=lN l:=oI h;subst hj;rw[aS,vo]at i4;have i5:vo l=n:=oM;by_cases c5:(5000:Int)<n
   .rw[aC (.inr (.inr oM))]at hR;subst hR;simp[c5,Ao,lC.enc]
   .have hc:¬(20<lN l\/rY l 0=oK\/5000<vo l):=by
     rw[hf.2];simp;omega
    rw[aB hc]at hR;have hlk:=zIr l;have hlg:=K7 l;generalize vN l=x at*
    simp only at hR;simp[c5];apply gQ hlk;simp;by_cases c6:0<lN x.2
    .rw[aC c6]at hR;subst hR;simp[c6,Ao,lC.enc]
    .rw[aB c6]at hR;have hck:=zGt x.1 (hlg oM);generalize Cm x.1=y at*
     simp[c6];apply gQ hck;subst hR;simp
end Go.Gr
namespace Go.Gr
open Go.Abs Go.Proofs Tryz
def zdw:MC:=(λx(_:x=gC tt [(7,0)] [] [] (gB f213))=>x) _ (by dsimp[f213])
def zgy:WM Pg 213 8 zdw [.tmp 2]:=wZ func213
def zdd:MC:=(λx(_:x=gC tt [(7,0)] [] [] (gB f74))=>x) _ (by dsimp[f74])
def zf8:WM Pg 74 8 zdd [.tmp 2]:=wZ func74
def zhz:MC:=(λx(_:x=oH (gB f167))=>x) _ (by dsimp[f167])
def zpA:WT Pg 167 17 zhz [.tmp 4]:=wY func167
def zfi:MC:=(λx(_:x=oH (gB f168))=>x) _ (by dsimp[f168])
def zkP:WT Pg 168 6 zfi [.tmp 2]:=wY func168
def zgA:MC:=(λx(_:x=oH (gB f192))=>x) _ (by dsimp[f192])
def znN:WT Pg 192 6 zgA [.tmp 2]:=wY func192
def zck:MC:=(λx(_:x=oH (Y_ 0 (gB f121)))=>x) _ (by dsimp[f121])
def zcA:MC:=(λx(_:x=gC tt [] [] [(0,zck)] (gB f121))=>x) _ (by dsimp[f121])
def zeK:WT Pg 121 54 zcA [.tmp 4,.tmp 5]:=wY func121
def zde:MC:=(λx(_:x=oH (gB f120))=>x) _ (by dsimp[f120])
def zgz:WT Pg 120 4 zde [.tmp 2]:=wY func120
def zjj:MC:=(λx(_:x=gC tt [] [(5,[0,0,2,6,14,0,32,0,224,480,992,0,2048,0,14336,30720,63488,131040,262112,524286,1048575,2097151,4194303])] [] (Y_ 0 (gB f10)))=>x) _ (by dsimp[f10])
def zjk:MC:=(λx(_:x=gC tt [(9,23)] [(7,[0,1,3,7,0,16,48,112,240,511]),(8,[0,1,3,7,0,16,48,112,255,511,0,2047])] [] (Y_ 2 (gB f10)))=>x) _ (by dsimp[f10])
def zk7:MC:=(λx(_:x=gC tt [(0,9),(6,0),(6,2),(7,1)] [] [(0,zjj),(2,zjk)] (gB f10))=>x) _ (by dsimp[f10])
def zvT:WT Pg 10 84 zk7 [.tmp 2]:=wY func10
def zfT:MC:=(λx(_:x=gC tt [(9,45)] [(12,[0,1,0,0,0,24,56,124,252,511,1023,2047])] [] (Y_ 1 (gB f23)))=>x) _ (by dsimp[f23])
def zfU:MC:=(λx(_:x=gC tt [(9,23)] [] [] (Y_ 3 (gB f23)))=>x) _ (by dsimp[f23])
def zgJ:MC:=(λx(_:x=gC tt [(0,4),(9,45),(9,46),(4,59),(6,1),(6,3),(7,1)] [(7,[0,0,2,6,14,0,32,96,224,0,512,1536,3584,8160,16352,32736,65504,0,131072,393216,917504,0,0,8388576,16777184,33554430,67108863,134217727,268435455])] [(1,zfT),(3,zfU)] (gB f23))=>x) _ (by dsimp[f23])
def znm:WM Pg 23 117 zgJ [.cell 6 tT 8]:=wZ func23
def zgi:MC:=(λx(_:x=oH (Y_ 0 (gB f45)))=>x) _ (by dsimp[f45])
def zhJ:MC:=(λx(_:x=gC tt [] [(1,[0,1,3,7,0,16,48,112,255,511,0,2047])] [(0,zgi)] (gB f45))=>x) _ (by dsimp[f45])
def zon:WM Pg 45 40 zhJ [.tmp 4]:=wZ func45
def Su:MC:=(λx(_:x=gC tt [] [(3,[0,0,2,7,15,31,31,127,255,31,543,2047,4095])] [] (Y_ 0 (gB f46)))=>x) _ (by dsimp[f46])
def Ke:MC:=(λx(_:x=gC tt [(9,46)] [] [] (Y_ 2 (gB f46)))=>x) _ (by dsimp[f46])
def G7:MC:=(λx(_:x=gC tt [(5,18)] [(5,[0,0,2,7,15,31,31,127,255,31,543,2047,4095]),(7,[0,0,3,0,8,24,63,127])] [(0,Su),(2,Ke)] (gB f46))=>x) _ (by dsimp[f46])
def zqe:WM Pg 46 77 G7 [.tmp 6]:=wZ func46
def Sv:oO:=[2,3,5]
def zmY:MC:=(λx(_:x=gC tt [] [(6,[0,1,0,7,15,0,32,0,224,480,1023])] [] (Y_ 0 (gB f31)))=>x) _ (by dsimp[f31])
def Sw:oO:=[2,3,6]
def zmZ:MC:=(λx(_:x=gC tt [] [(11,[0,1,0,7,15,0,32,0,224,480,1023])] [] (Y_ 2 (gB f31)))=>x) _ (by dsimp[f31])
def Sy:oO:=[2,3,7]
def zm0:MC:=(λx(_:x=gC tt [] [(16,[0,1,0,7,15,0,32,0,224,480,1023])] [] (Y_ 4 (gB f31)))=>x) _ (by dsimp[f31])
def Sz:oO:=[2,3,8]
def zm1:MC:=(λx(_:x=gC tt [] [(21,[0,1,0,7,15,0,32,0,224,480,1023,2047])] [] (Y_ 6 (gB f31)))=>x) _ (by dsimp[f31])
def TA:oO:=[2,3,10]
def zm2:MC:=(λx(_:x=gC tt [] [(27,[0,1,0,7,15,0,32,0,224,480,1023,2047])] [] (Y_ 8 (gB f31)))=>x) _ (by dsimp[f31])
def zqf:MC:=(λx(_:x=gC tt [] [] [(0,zmY),(2,zmZ),(4,zm0),(6,zm1),(8,zm2)] (gB f31))=>x) _ (by dsimp[f31])
def zCs:WT Pg 31 149 zqf [.tmp 4]:=wY func31
def zqg:MC:=(λx(_:x=gC tt [] [(1,[0,0,3,7])] [] (gB f44))=>x) _ (by dsimp[f44])
def zCt:WT Pg 44 6 zqg [.tmp 2]:=wY func44
def NT:MC:=(λx(_:x=gC tt [(1,1)] [] [] (gB f73))=>x) _ (by dsimp[f73])
def zHr:WT Pg 73 3 NT [.cell 0 tT 5]:=wY func73
def zE2:WM Pg 73 3 NT [.cell 0 tT 5]:=wZ func73
def TB:oO:=[1,4]
def zoo:MC:=(λx(_:x=oH (Y_ 0 (gB f29)))=>x) _ (by dsimp[f29])
def zsY:MC:=(λx(_:x=gC tt [] [] [(0,zoo)] (gB f29))=>x) _ (by dsimp[f29])
def zE3:WT Pg 29 74 zsY [.tmp 2]:=wY func29
def TC:MC:=(λx(_:x=gC tt [] [(13,[0,1,0,7,15,31,0,64,0,448,960,1984,4095])] [] (Y_ 2 (gB f51)))=>x) _ (by dsimp[f51])
def TD:MC:=(λx(_:x=gC tt [] [] [(2,TC)] (Y_ 0 (gB f51)))=>x) _ (by dsimp[f51])
def TF:MC:=(λx(_:x=gC tt [] [(18,[0,1,0,7,15,0,32,0,128,480,992,2047])] [] (Y_ 4 (gB f51)))=>x) _ (by dsimp[f51])
def zsZ:MC:=(λx(_:x=gC tt [] [] [(0,TD),(4,TF)] (gB f51))=>x) _ (by dsimp[f51])
def zE4:WT Pg 51 106 zsZ [.tmp 2]:=wY func51
def zqh:MC:=(λx(_:x=oH (gB f114))=>x) _ (by dsimp[f114])
def zCu:WT Pg 114 18 zqh [.tmp 4]:=wY func114
def NU:MC:=(λx(_:x=gC tt [(0,3)] [] [] (gB f117))=>x) _ (by dsimp[f117])
def TG:WM Pg 117 25 NU [.cell 6 tT 5]:=wZ func117
def TH:oO:=[1,2,4,5]
def zk8:MC:=(λx(_:x=oH (Y_ 0 (gB f118)))=>x) _ (by dsimp[f118])
def zop:MC:=(λx(_:x=gC tt [] [] [(0,zk8)] (gB f118))=>x) _ (by dsimp[f118])
def zzE:WT Pg 118 26 zop [.cell 4 tT 5]:=wY func118
def zk9:MC:=(λx(_:x=gC tt [(5,7)] [(5,[0,0,2,7,15,31,31,95,255,511,1023,1023,4095,8191,1023,1023,50175,115711,262143,524287,1048575]),(9,[0,0,2,7,15,31,31,127,255,31,31,1567,3615,8191,16383])] [] (Y_ 0 (gB f116)))=>x) _ (by dsimp[f116])
def zoq:MC:=(λx(_:x=gC tt [(5,7)] [] [(0,zk9)] (gB f116))=>x) _ (by dsimp[f116])
def zzF:WT Pg 116 75 zoq [.tmp 4]:=wY func116
def zj0:MC:=(λx(_:x=gC tt [(3,44)] [(5,[0,0,2,6,0,30,62,0,128,384,0,1920,3968,0,0,32640,65535,131071])] [] (Y_ 0 (gB f115)))=>x) _ (by dsimp[f115])
def zj1:MC:=(λx(_:x=gC tt [(3,102)] [(10,[0,1,0,4,12,0,60,124,255,511,1023,1023,0,6143,16383]),(12,[0,1,0,4,12,0,60,124,0,508,1020,2047,4095,8191]),(14,[0,0,2,6,0,30,62,0,0,256,768,0,3840,7936,0,32640,65535,131071])] [] (Y_ 2 (gB f115)))=>x) _ (by dsimp[f115])
def zm3:MC:=(λx(_:x=gC tt [(0,4),(5,14),(7,1)] [] [(0,zj0),(2,zj1)] (gB f115))=>x) _ (by dsimp[f115])
def zvU:WM Pg 115 104 zm3 [.cell 8 tT 5]:=wZ func115
def TI:MC:=(λx(_:x=gC tt [] [(11,[0,0,2,7,15,31,31,127,255,511,31,1055,4095,8191])] [] (Y_ 2 (gB f71)))=>x) _ (by dsimp[f71])
def TJ:MC:=(λx(_:x=gC tt [(9,115)] [(17,[0,1,3,7,15,0,32,96,224,480,0,1024,4095,0,8192,24576,57344,122880,0,262144,786432,1835008,3932160,0,16777215,33554431,67108863,134217727])] [(2,TI)] (Y_ 0 (gB f71)))=>x) _ (by dsimp[f71])
def TL:MC:=(λx(_:x=gC tt [(3,14),(7,1)] [] [(0,TJ)] (gB f71))=>x) _ (by dsimp[f71])
def zs1:WT Pg 71 107 TL [.cell 6 tT 5]:=wY func71
def zqi:MC:=(λx(_:x=oH (gB f41))=>x) _ (by dsimp[f41])
def zCv:WT Pg 41 33 zqi [.cell 6 tT 5]:=wY func41
def zla:MC:=(λx(_:x=oH (gB f42))=>x) _ (by dsimp[f42])
def zvV:WT Pg 42 21 zla [.cell 4 tT 5]:=wY func42
def TM:MC:=(λx(_:x=gC tt [] [(5,[0,1,0,0,8,0,56,120,255,511]),(7,[0,1,0,0,8,0,56,120,255,511])] [] (Y_ 0 (gB f72)))=>x) _ (by dsimp[f72])
def zid:MC:=(λx(_:x=gC tt [] [(16,[0,1,3,7,3,31,63,127,3,259,3,1795,3843,7939,16383,32767,65535])] [] (Y_ 4 (gB f72)))=>x) _ (by dsimp[f72])
def NV:MC:=(λx(_:x=gC tt [] [(18,[0,1,0,4,0,28,60,124,255,511,1023])] [(4,zid)] (Y_ 2 (gB f72)))=>x) _ (by dsimp[f72])
def NW:MC:=(λx(_:x=gC tt [(3,134),(5,11)] [(23,[0,0,0,6,14,0,0,0,192,448,992,0,0,0,12288,28672,65504,131040,262143,524287])] [] (Y_ 6 (gB f72)))=>x) _ (by dsimp[f72])
def zj2:MC:=(λx(_:x=gC tt [(3,14),(5,43),(4,98),(5,11),(4,135)] [(32,[0,1,3,0,8,24,63,0,128,384,0,1024,3072,8191,16383,32767,65535])] [(0,TM),(2,NV),(6,NW)] (gB f72))=>x) _ (by dsimp[f72])
def ztW:WT Pg 72 188 zj2 [.cell 4 tT 5]:=wY func72
def zm4:MC:=(λx(_:x=oH (Y_ 0 (gB f9)))=>x) _ (by dsimp[f9])
def zqj:MC:=(λx(_:x=gC tt [(4,40),(6,0)] [] [(0,zm4)] (gB f9))=>x) _ (by dsimp[f9])
def zCw:WT Pg 9 41 zqj [.cell 4 tT 3]:=wY func9
def zlb:MC:=(λx(_:x=oH (Y_ 0 (gB f21)))=>x) _ (by dsimp[f21])
def zor:MC:=(λx(_:x=gC tt [(0,1),(4,23),(6,0)] [(7,[0,1,3,7,0,16,48,112,0,256,768,1792,4095,8191,0,32767,65535])] [(0,zlb)] (gB f21))=>x) _ (by dsimp[f21])
def zzG:WT Pg 21 43 zor [.cell 2 tT 8]:=wY func21
def zjq:MC:=(λx(_:x=oH (Y_ 0 (gB f22)))=>x) _ (by dsimp[f22])
def zjr:MC:=(λx(_:x=gC tt [] [(12,[0,1,3,7,0,31,63])] [] (Y_ 2 (gB f22)))=>x) _ (by dsimp[f22])
def zlc:MC:=(λx(_:x=gC tt [(0,1),(4,24),(6,0)] [] [(0,zjq),(2,zjr)] (gB f22))=>x) _ (by dsimp[f22])
def zvW:WT Pg 22 82 zlc [.cell 2 tT 8]:=wY func22
def zs2:MC:=(λx(_:x=oH (gB f43))=>x) _ (by dsimp[f43])
def zE5:WT Pg 43 17 zs2 [.tmp 2]:=wY func43
def zi3:MC:=(λx(_:x=oH (gB f212))=>x) _ (by dsimp[f212])
def zqW:WM Pg 212 22 zi3 [.tmp 4]:=wZ func212
def TP:MC:=(λx(_:x=oH (Y_ 0 (gB f193)))=>x) _ (by dsimp[f193])
def zh9:MC:=(λx(_:x=gC tt [(9,212),(3,49),(4,81)] [(18,[0,0,2,6,14,0,32,126,255,511,1023])] [(0,TP)] (gB f193))=>x) _ (by dsimp[f193])
def zpB:WM Pg 193 92 zh9 [.tmp 6,.tmp 7]:=wZ func193
def zhB:MC:=(λx(_:x=gC tt [(9,193)] [] [] (Y_ 0 (gB f169)))=>x) _ (by dsimp[f169])
def zi4:MC:=(λx(_:x=gC tt [] [] [(0,zhB)] (gB f169))=>x) _ (by dsimp[f169])
def zqX:WM Pg 169 30 zi4 [.tmp 4,.tmp 5]:=wZ func169
def zn4:MC:=(λx(_:x=gC tt [(5,1),(1,2),(0,5)] [] [] (gB f25))=>x) _ (by dsimp[f25])
def zxu:WM Pg 25 6 zn4 [.tmp 0]:=wZ func25
def zga:MC:=(λx(_:x=oH (gB f171))=>x) _ (by dsimp[f171])
def zlS:WM Pg 171 35 zga [.tmp 8]:=wZ func171
def ze8:MC:=(λx(_:x=oH (gB f170))=>x) _ (by dsimp[f170])
def zju:WM Pg 170 35 ze8 [.tmp 8]:=wZ func170
def zd6:MC:=(λx(_:x=oH (gB f123))=>x) _ (by dsimp[f123])
def zhX:WM Pg 123 35 zd6 [.tmp 8]:=wZ func123
def zjQ:MC:=(λx(_:x=gC tt [(9,171)] [(1,[0,1,3,7,0,0,32,96,224,0,1023,2047])] [] (gB f124))=>x) _ (by dsimp[f124])
def zsp:WM Pg 124 16 zjQ [.tmp 4]:=wZ func124
def zjR:MC:=(λx(_:x=gC tt [(9,123)] [(1,[0,1,3,7,0,0,32,96,224,0,1023,2047])] [] (gB f78))=>x) _ (by dsimp[f78])
def zsq:WM Pg 78 16 zjR [.tmp 4]:=wZ func78
def zi5:MC:=(λx(_:x=gC tt [(9,169),(9,170)] [(2,[0,1,3,7,0,0,32,96,224,0,1023,2047])] [] (gB f122))=>x) _ (by dsimp[f122])
def zqY:WM Pg 122 27 zi5 [.tmp 4]:=wZ func122
def zkT:MC:=(λx(_:x=gC tt [] [(1,[0,1,3,7,15,0,31,0,255,511,1023,511,2559,6655,14847])] [] (gB f125))=>x) _ (by dsimp[f125])
def ztH:WM Pg 125 25 zkT [.tmp 4]:=wZ func125
def zi6:MC:=(λx(_:x=oH (gB f47))=>x) _ (by dsimp[f47])
def zqZ:WX Pg 47 21 zi6 []:=wX gm func47 kR
def zia:MC:=(λx(_:x=gC tt [(0,5)] [(4,[0,0,2,6,14,0,0,0,0,480,992,2046,4095,8191,16383])] [] (gB f49))=>x) _ (by dsimp[f49])
def zpC:WX Pg 49 36 zia [.tmp 10]:=wX gm func49 kR
def zgB:MC:=(λx(_:x=gC tt [] [(0,[0,1,3,7,0,0,32,96,224,480,1023,2047,4095])] [] (gB f80))=>x) _ (by dsimp[f80])
def zni:WM Pg 80 14 zgB []:=wZ func80
def zgb:MC:=(λx(_:x=gC tt [(11,48)] [(7,[0,0,0,0,8,24,0,0,192,511])] [] (Y_ 1 (gB f48)))=>x) _ (by dsimp[f48])
def zhC:MC:=(λx(_:x=gC tt [(11,47),(11,48),(9,74),(11,75),(11,76),(11,77),(9,78),(11,49),(11,79)] [(12,[0,0,2,6,14,0,32,0,128,480,0,0,2048,8191]),(22,[0,0,0,0,8,24,56,0,128,504,1023])] [(1,zgb)] (gB f48))=>x) _ (by dsimp[f48])
def zn5:WX Pg 48 129 zhC []:=wX gm func48 kR
def zgC:MC:=(λx(_:x=gC tt [(11,48),(11,49),(2,36),(2,47)] [] [] (gB f75))=>x) _ (by dsimp[f75])
def znj:WX Pg 75 48 zgC []:=wX gm func75 kR
def zfP:MC:=(λx(_:x=gC tt [(11,48)] [] [] (Y_ 0 (gB f76)))=>x) _ (by dsimp[f76])
def zgD:MC:=(λx(_:x=gC tt [(9,122),(11,49)] [] [(0,zfP)] (gB f76))=>x) _ (by dsimp[f76])
def znk:WX Pg 76 59 zgD []:=wX gm func76 kR
def zgE:MC:=(λx(_:x=gC tt [(11,47),(11,49)] [] [] (Y_ 0 (gB f77)))=>x) _ (by dsimp[f77])
def zib:MC:=(λx(_:x=gC tt [(11,49)] [] [(0,zgE)] (gB f77))=>x) _ (by dsimp[f77])
def zpD:WX Pg 77 41 zib []:=wX gm func77 kR
def zgF:MC:=(λx(_:x=gC tt [(9,124),(11,49),(9,78),(9,125)] [(3,[0,0,0,4,12,28,0,64,252,511]),(5,[0,0,0,4,12,28,0,64,252,511]),(17,[0,0,0,0,8,24,56,0,128,504,1023]),(35,[0,0,0,0,8,24,56,0,128,384,896,2040,4095])] [] (gB f79))=>x) _ (by dsimp[f79])
def znl:WX Pg 79 154 zgF []:=wX gm func79 kR
def zfk:MC:=(λx(_:x=gC tt [(11,47)] [] [] (Y_ 0 (gB f26)))=>x) _ (by dsimp[f26])
def zgc:MC:=(λx(_:x=gC tt [(0,10),(5,11),(11,48),(11,49),(4,39)] [(12,[0,0,2,6,14,30,0,64,0,256,768,1792,0,4096,12288,28672,65472,131008,262142,524287,1048575,2097151,4194303])] [(0,zfk)] (gB f26))=>x) _ (by dsimp[f26])
def zlT:WX Pg 26 61 zgc []:=wX gm func26 kR
def zn6:MC:=(λx(_:x=oH (gB f7))=>x) _ (by dsimp[f7])
def zzr:WT Pg 7 31 zn6 [.tmp 0]:=wY func7
def zsr:MC:=(λx(_:x=oH (gB f17))=>x) _ (by dsimp[f17])
def zEf:WT Pg 17 41 zsr [.cell 2 tT 4]:=wY func17
def zmV:MC:=(λx(_:x=oH (Y_ 0 (gB f14)))=>x) _ (by dsimp[f14])
def zqb:MC:=(λx(_:x=gC tt [] [(2,[0,1,0,4,0,31,63,127,127,0,767,2047])] [(0,zmV)] (gB f14))=>x) _ (by dsimp[f14])
def zBZ:WT Pg 14 44 zqb [.cell 4 tT 7,.tmp 5,.tmp 6]:=wY func14
def zhD:MC:=(λx(_:x=oH (Y_ 0 (gB f3)))=>x) _ (by dsimp[f3])
def zhE:MC:=(λx(_:x=gC tt [] [(20,[0,1,0,7,15,31,0,0,192,448,960,2047])] [] (Y_ 2 (gB f3)))=>x) _ (by dsimp[f3])
def zi7:MC:=(λx(_:x=gC tt [] [] [(0,zhD),(2,zhE)] (gB f3))=>x) _ (by dsimp[f3])
def zss:WT Pg 3 121 zi7 [.tmp 4]:=wY func3
def zhF:MC:=(λx(_:x=oH (Y_ 2 (gB f4)))=>x) _ (by dsimp[f4])
def zhG:MC:=(λx(_:x=gC tt [] [] [(2,zhF)] (Y_ 0 (gB f4)))=>x) _ (by dsimp[f4])
def zi8:MC:=(λx(_:x=gC tt [] [] [(0,zhG)] (gB f4))=>x) _ (by dsimp[f4])
def zst:WT Pg 4 77 zi8 [.tmp 4]:=wY func4
def zi9:MC:=(λx(_:x=oH (gB f5))=>x) _ (by dsimp[f5])
def zsu:WT Pg 5 58 zi9 [.tmp 4]:=wY func5
def zgG:MC:=(λx(_:x=oH (Y_ 0 (gB f6)))=>x) _ (by dsimp[f6])
def zgH:MC:=(λx(_:x=oH (Y_ 4 (gB f6)))=>x) _ (by dsimp[f6])
def zgI:MC:=(λx(_:x=gC tt [] [] [(4,zgH)] (Y_ 2 (gB f6)))=>x) _ (by dsimp[f6])
def zic:MC:=(λx(_:x=gC tt [] [] [(0,zgG),(2,zgI)] (gB f6))=>x) _ (by dsimp[f6])
def zq0:WT Pg 6 90 zic [.tmp 4]:=wY func6
def zmW:MC:=(λx(_:x=oH (Y_ 0 (gB f12)))=>x) _ (by dsimp[f12])
def zqc:MC:=(λx(_:x=gC tt [] [] [(0,zmW)] (gB f12))=>x) _ (by dsimp[f12])
def zB0:WT Pg 12 21 zqc [.tmp 2]:=wY func12
def zkU:MC:=(λx(_:x=oH (Y_ 0 (gB f16)))=>x) _ (by dsimp[f16])
def zn7:MC:=(λx(_:x=gC tt [] [] [(0,zkU)] (gB f16))=>x) _ (by dsimp[f16])
def zzs:WT Pg 16 24 zn7 [.tmp 2]:=wY func16
def zm5:MC:=(λx(_:x=gC tt [(11,26)] [] [] (Y_ 0 (gB f11)))=>x) _ (by dsimp[f11])
def Ih:MC:=(λx(_:x=gC tt [(9,25),(0,21),(5,22)] [] [(0,zm5)] (gB f11))=>x) _ (by dsimp[f11])
def zm6:MC:=(λx(_:x=oH (gB f24))=>x) _ (by dsimp[f24])
def zlo:MC:=(λx(_:x=gC tt [] [(6,[0,0,3,7,0,0,48,112,255])] [] (Y_ 0 (gB f30)))=>x) _ (by dsimp[f30])
def zoA:MC:=(λx(_:x=gC tt [] [] [(0,zlo)] (gB f30))=>x) _ (by dsimp[f30])
def zzN:WT Pg 30 26 zoA [.tmp 4]:=wY func30
def zlp:MC:=(λx(_:x=gC tt [] [(6,[0,1,0,7,15,0,32,0,224,480,1023])] [] (Y_ 0 (gB f32)))=>x) _ (by dsimp[f32])
def zoB:MC:=(λx(_:x=gC tt [] [] [(0,zlp)] (gB f32))=>x) _ (by dsimp[f32])
def zzO:WT Pg 32 45 zoB [.tmp 4]:=wY func32
def zlq:MC:=(λx(_:x=gC tt [] [(7,[0,1,0,7,15,0,32,0,224,480,1023])] [] (Y_ 0 (gB f15)))=>x) _ (by dsimp[f15])
def zlr:MC:=(λx(_:x=gC tt [] [(12,[0,1,0,7,15,0,32,0,224,480,1023,2047])] [] (Y_ 2 (gB f15)))=>x) _ (by dsimp[f15])
def zls:MC:=(λx(_:x=gC tt [] [(18,[0,1,0,7,15,0,32,0,224,480,1023,2047])] [] (Y_ 4 (gB f15)))=>x) _ (by dsimp[f15])
def zlt:MC:=(λx(_:x=gC tt [] [(24,[0,1,0,7,15,0,32,0,224,480,1023,2047])] [] (Y_ 6 (gB f15)))=>x) _ (by dsimp[f15])
def zoC:MC:=(λx(_:x=gC tt [] [] [(0,zlq),(2,zlr),(4,zls),(6,zlt)] (gB f15))=>x) _ (by dsimp[f15])
def zzP:WT Pg 15 148 zoC [.tmp 4]:=wY func15
def zqt:MC:=(λx(_:x=oH (gB f126))=>x) _ (by dsimp[f126])
def zCU:WT Pg 126 20 zqt [.tmp 4]:=wY func126
def znd:MC:=(λx(_:x=oH (gB f127))=>x) _ (by dsimp[f127])
def zyG:WT Pg 127 20 znd [.tmp 4]:=wY func127
def zoD:MC:=(λx(_:x=oH (Y_ 0 (gB f128)))=>x) _ (by dsimp[f128])
def zte:MC:=(λx(_:x=gC tt [] [] [(0,zoD)] (gB f128))=>x) _ (by dsimp[f128])
def zCV:WM Pg 128 23 zte [.tmp 4]:=wZ func128
def zqu:MC:=(λx(_:x=gC tt [(9,128)] [(22,[0,1,0,0,8,28,63,127]),(24,[0,1,0,0,8,28,63,127])] [] (gB f83))=>x) _ (by dsimp[f83])
def zzQ:WM Pg 83 71 zqu [.tmp 4]:=wZ func83
def zqv:MC:=(λx(_:x=oH (gB f82))=>x) _ (by dsimp[f82])
def zCW:WT Pg 82 28 zqv [.tmp 2]:=wY func82
def zvA:MC:=(λx(_:x=oH (gB f27))=>x) _ (by dsimp[f27])
def zHD:WT Pg 27 12 zvA [.tmp 4]:=wY func27
def zne:MC:=(λx(_:x=gC tt [] [(11,[0,1,0,4,12,31,63,127,255,127,639,1663,4095,8191,16383,32767,32767,98303,262143,32767,557055,32767,2129919,7897087,16777215,33554431,67108863]),(13,[0,1,0,4,12,31,63,127,255,127,639,1663,4095,8191,16383,32767,32767,98303,262143,32767,557055,32767,2129919,7897087,16777215,33554431,67108863])] [] (gB f81))=>x) _ (by dsimp[f81])
def zyH:WT Pg 81 127 zne [.tmp 6]:=wY func81
def Au:oO:=[4,10,11]
def Kg:MC:=(λx(_:x=gC tt [] [(12,[0,0,3,7,0,16,63,127])] [] (Y_ 0 (gB f50)))=>x) _ (by dsimp[f50])
def zoE:MC:=(λx(_:x=gC tt [(9,83)] [] [(0,Kg)] (gB f50))=>x) _ (by dsimp[f50])
def zzR:WT Pg 50 56 zoE [.tmp 6]:=wY func50
def TQ:oO:=[2,3,5,7]
def znf:MC:=(λx(_:x=gC tt [] [(10,[0,0,0,4,0,28,60,127,255])] [] (Y_ 0 (gB f28)))=>x) _ (by dsimp[f28])
def zqw:MC:=(λx(_:x=gC tt [] [] [(0,znf)] (gB f28))=>x) _ (by dsimp[f28])
def zCX:WT Pg 28 63 zqw [.tmp 4]:=wY func28
def TR:oO:=[1,4]
def zj7:MC:=(λx(_:x=oH (Y_ 0 (gB f13)))=>x) _ (by dsimp[f13])
def TS:oO:=[1,6]
def zj8:MC:=(λx(_:x=gC tt [] [(13,[0,0,2,0,14,30,63,127])] [] (Y_ 2 (gB f13)))=>x) _ (by dsimp[f13])
def TU:oO:=[1,8]
def zj9:MC:=(λx(_:x=oH (Y_ 4 (gB f13)))=>x) _ (by dsimp[f13])
def TV:oO:=[1,10,11]
def zka:MC:=(λx(_:x=gC tt [] [(28,[0,1,0,7,15,0,63,127,0,256,0,1792,3840,0,8192,32512,65280,131071])] [] (Y_ 8 (gB f13)))=>x) _ (by dsimp[f13])
def TW:oO:=[1,10]
def zkb:MC:=(λx(_:x=gC tt [] [] [(8,zka)] (Y_ 6 (gB f13)))=>x) _ (by dsimp[f13])
def zng:MC:=(λx(_:x=gC tt [] [] [(0,zj7),(2,zj8),(4,zj9),(6,zkb)] (gB f13))=>x) _ (by dsimp[f13])
def zyI:WT Pg 13 127 zng [.tmp 2]:=wY func13
def TZ(ops:si):oO:=ops.foldl (λr o=>r++[o.after.toList.foldl (λb e=>if Region.binds .any e then(b|||(1<<<e.on))|||r.getD e.on 0 else b) 0]) []
def yX:Code->List (Nat × List Nat)
|.region i ops d=>if d then [(i,TZ ops.toList)]else []
|.seq a b=>yX a++yX b
|.cond _ a b=>yX a++yX b
|.block _ b=>yX b
|.loop b=>yX b
|_=>[]
def mrO:ResultVar->MR
|.tmp t=>.tmp t
|.cell t ty=>.cell t (JX (tt ty)) (wS (tt ty))
def hN(f:Func):Nat × MC × List MR:=(f.ntmps,hC tt (yX (gB f)) (gB f),f.results.toList.map mrO)
def NY:List (Nat × Func)->Nat->Option Func
|[],_=>nN
|(i,f)::l,n=>if i=n then sS f else NY l n
noncomputable def zHX:List (Nat × Func):=[(33,f33),(13,f13),(27,f27),(28,f28),(29,f29),(50,f50),(51,f51),(52,f52),(53,f53),(54,f54),(81,f81),(82,f82),(83,f83),(84,f84),(85,f85),(86,f86),(87,f87),(126,f126),(127,f127),(128,f128),(129,f129),(130,f130),(131,f131),(132,f132),(133,f133),(134,f134),(135,f135),(136,f136),(137,f137),(138,f138),(139,f139),(172,f172),(174,f174),(175,f175),(176,f176),(195,f195),(44,f44),(73,f73),(31,f31),(194,f194)]
noncomputable def T9:Go.Abs.TE:=λf=>(NY zHX f).map hN
def Ta:List (Nat × Func)->Prop
|[]=>True
|(i,f)::l=>(Pg.funcs[i]?=sS f/\yJ Pg f (hN f).1 (hN f).2.1 (hN f).2.2=tT)/\Ta l
def zDs:∀{l:List (Nat × Func)} {n:Nat} {f:Func},Ta l->NY l n=sS f->Pg.funcs[n]?=sS f/\yJ Pg f (hN f).1 (hN f).2.1 (hN f).2.2=tT
| (i,g)::l,n,f,h,e=>by
 unfold NY at e;split at e
 next q=>
  cases e;subst q;exact h.1
 .exact zDs h.2 e
set_option maxRecDepth 100000 in
def zFV:Ta zHX:=⟨⟨func33,by kernel_rfl⟩,⟨func13,by kernel_rfl⟩,⟨func27,by kernel_rfl⟩,⟨func28,by kernel_rfl⟩,⟨func29,by kernel_rfl⟩,⟨func50,by kernel_rfl⟩,⟨func51,by kernel_rfl⟩,⟨func52,by kernel_rfl⟩,⟨func53,by kernel_rfl⟩,⟨func54,by kernel_rfl⟩,⟨func81,by kernel_rfl⟩,⟨func82,by kernel_rfl⟩,⟨func83,by kernel_rfl⟩,⟨func84,by kernel_rfl⟩,⟨func85,by kernel_rfl⟩,⟨func86,by kernel_rfl⟩,⟨func87,by kernel_rfl⟩,⟨func126,by kernel_rfl⟩,⟨func127,by kernel_rfl⟩,⟨func128,by kernel_rfl⟩,⟨func129,by kernel_rfl⟩,⟨func130,by kernel_rfl⟩,⟨func131,by kernel_rfl⟩,⟨func132,by kernel_rfl⟩,⟨func133,by kernel_rfl⟩,⟨func134,by kernel_rfl⟩,⟨func135,by kernel_rfl⟩,⟨func136,by kernel_rfl⟩,⟨func137,by kernel_rfl⟩,⟨func138,by kernel_rfl⟩,⟨func139,by kernel_rfl⟩,⟨func172,by kernel_rfl⟩,⟨func174,by kernel_rfl⟩,⟨func175,by kernel_rfl⟩,⟨func176,by kernel_rfl⟩,⟨func195,by kernel_rfl⟩,⟨func44,by kernel_rfl⟩,⟨func73,by kernel_rfl⟩,⟨func31,by kernel_rfl⟩,⟨func194,by kernel_rfl⟩,trivial⟩
def zDt:∀f N mc rs,T9 f=sS (N,mc,rs)->∃fn,Pg.funcs[f]?=sS fn/\yJ Pg fn N mc rs=tT:=λf N mc rs h=>by
 unfold T9 at h;simp only[aP]at h;let⟨g,h1,h2⟩:=h;let⟨k1,k2⟩:=zDs zFV h1;rw[h2]at k2;exact⟨g,k1,k2⟩
end Go.Gr
namespace Go.Gr
open Go.RowKit Go.Proofs
attribute [local go_sem] Oper.semAt_some
def cvS(c:Int)(b:UInt8)(hb:c=b.toNat)(w:World):(convert 314 9 (.slice (sS ⟨w.heap.size,0,nN⟩) 1 1)).run Tryz.prog (w.alloc (.cells #[.int .u8 c] 5))=.ok (.string ⟨#[b]⟩) (w.alloc (.cells #[.int .u8 c] 5)):=by
 have h:=run_convert_bytes_arg (P:=Tryz.prog) (w.alloc (.cells #[.int .u8 c] 5)) 314 5 Tryz.underlying314 Tryz.underlying5 w.heap.size 0 1 1 [c] rfl (λi hi=>by
  have:i=0:=oM;subst this
  exact(Boxed.new w 5 (.int .u8 c)).cell) 9 Tryz.underlying9
 rw[h];subst hb;simp[strOfNums]
set_option maxRecDepth 100000 in
def zLs(F:Fence)(n:Nat)(h:F.fn 173)(hro:F.round=none)(w:World):CallsIn F n Tryz.prog 173 #[.int .i64 3] w λe w'=>e=.returned (.string ⟨#[51]⟩)/\Below w.heap.size w w':=by
 refine callsIn_of_wp Tryz.func173 rfl h ?_ hro;simp only[Tryz.ntmps173,List.size_toArray,List.length_cons,List.length_nil,Nat.reduceAdd,Nat.reduceSub,Array.replicate_succ,Array.replicate_zero,List.push_toArray,List.append_toArray,List.nil_append,List.cons_append]
 gi_wp2
 refine wpIn_loop_rounds 2 ?_;rw[roundsIn_succ];have hcv:=cvS 51 51 rfl
 gi_wp2
 rw[roundsIn_succ]
 gi_wp2
 go_ret
 exact⟨rfl,(Below.refl _ w).alloc (aJ _) _⟩
set_option maxRecDepth 100000 in
def zLt(F:Fence)(n:Nat)(h:F.fn 173)(hro:F.round=none)(w:World):CallsIn F n Tryz.prog 173 #[.int .i64 1] w λe w'=>e=.returned (.string ⟨#[49]⟩)/\Below w.heap.size w w':=by
 refine callsIn_of_wp Tryz.func173 rfl h ?_ hro;simp only[Tryz.ntmps173,List.size_toArray,List.length_cons,List.length_nil,Nat.reduceAdd,Nat.reduceSub,Array.replicate_succ,Array.replicate_zero,List.push_toArray,List.append_toArray,List.nil_append,List.cons_append]
 gi_wp2
 refine wpIn_loop_rounds 2 ?_;rw[roundsIn_succ];have hcv:=cvS 49 49 rfl
 gi_wp2
 rw[roundsIn_succ]
 gi_wp2
 go_ret
 exact⟨rfl,(Below.refl _ w).alloc (aJ _) _⟩
end Go.Gr
namespace Go.Gr
open Go.Abs Go.Proofs List
variable {m b b':Nat}{c d:n_}{k n x:Int}{t:fD}{ns:List fD}{ts:List f_}{l:List Int}
def vH(l:List Int)(x:Int):List Int:=if x∈l then l else l++[x]
def uN(l r:List Int):List Int:=r.foldl vH l
@[simp] theorem zMB(l:List Int):uN l []=l:=rfl
def zHc{l:List Int}{x y:Int}:y∈vH l x↔y∈l\/y=x:=by
 unfold vH;split
 .rename_i h;exact⟨.inl,λh'=>h'.elim id λe=>e▸h⟩
 .simp
def zCj{l:List Int}{x:Int}(h:l.Nodup):(vH l x).Nodup:=by
 unfold vH;split
 .exact h
 .rename_i q;refine bK.2 ⟨h,by simp,λa ha b hb e=>?_⟩;rw[aK]at hb;exact q (hb▸e▸ha)
def zHd(l:List Int)(x:Int):(vH l x).length<=l.length+1:=by
 unfold vH;split<;>simp
theorem zx5:∀{r l:List Int} {y:Int},y∈uN l r↔y∈l\/y∈r
|[],l,y=>by simp[uN]
|x::r,l,y=>by
 have:uN l (x::r)=uN (vH l x) r:=rfl;rw[this,zx5,zHc,aM,or_assoc]
def zsN:∀{r l:List Int},l.Nodup->(uN l r).Nodup
|[],l,h=>h
|x::r,l,h=>zsN (r:=r) (zCj h)
theorem zx6:∀(r l:List Int),(uN l r).length<=l.length+r.length
|[],l=>aJ _
|x::r,l=>by
 have h1:=zx6 r (vH l x);have h2:=zHd l x;have:uN l (x::r)=uN (vH l x) r:=rfl;rw[this,length_cons];omega
def uO(x:Int):List Int->List Int
|[]=>[x]
|y::l=>if x<=y then x::y::l else y::uO x l
def Bp:List Int->List Int
|[]=>[]
|x::l=>uO x (Bp l)
def Kh(x:Int):∀l:List Int,(uO x l).Perm (x::l)
|[]=>.refl _
|y::l=>by
 rw[uO];split
 .exact .refl _
 .exact((Kh x l).cons y).trans (.swap x y l)
def NZ:∀l:List Int,(Bp l).Perm l
|[]=>.refl _
|x::l=>(Kh x _).trans ((NZ l).cons x)
def Tc(x:Int):∀l:List Int,l.Pairwise (· < ·)->x∉l->(uO x l).Pairwise (· < ·)
|[],_,_=>by simp[uO]
| y::l,h,hx=>by
 rw[ak]at h;simp only[aM,d9]at hx;rw[uO];split
 .rename_i q;refine ak.2 ⟨λz hz=>?_,ak.2 h⟩;rcases aM.1 hz with e|e
  .subst e;omega
  .have:=h.1 z e;omega
 .refine ak.2 ⟨λz hz=>?_,Tc x l h.2 hx.2⟩;rcases aM.1 ((Kh x l).mem_iff.1 hz)with e|e
  .subst e;omega
  .exact h.1 z e
def zsO:∀l:List Int,l.Nodup->(Bp l).Pairwise (· < ·)
|[],_=>by simp[Bp]
|x::l,h=>by
 rw[dY]at h;exact Tc x _ (zsO l h.2) λhx=>h.1 ((NZ l).mem_iff.1 hx)
structure D_ where
 name:fD
 body:n_
 k_:List Int
 deep:Int
 none:Bool
abbrev ou:=List D_
def D_.enc(t:D_):List D:=.str t.name::(t.body.enc++[.sl t.none 1 (encI t.k_),.int .i64 t.deep])
structure B? where
 name:fD
 k_:Int
 body:n_
abbrev og:=List B?
def B?.enc(t:B?):List D:=.str t.name::.int .i64 t.k_::t.body.enc
def qp(x:Int):List Int->Nat->Int
|[],_=> -1
|y::l,i=>if x=y then i else qp x l (i+1)
def lZ(t:D_)(n:Int):Int:=if t.deep<=n then n-t.deep+t.k_.length else qp n t.k_ 0
mutual
def iQ:n_->Int->List Int
|.mk k n _ _ _ _ _ ks,b=>(if k=4/\n<b then [n]else [])++lQ ks b
def lQ:List n_->Int->List Int
|[],_=>[]
|c::l,b=>iQ c b++lQ l b
end
def yA(c:n_)(b:Int):List Int:=Bp (uN [] (iQ c b))
mutual
def lG(t:D_):n_->Int->List D_->n_ × List D_
| .mk k n tx is ns ts cs ks=>λdeep l=>
 if k=4 then(.mk k (lZ t n) tx is ns ts cs ks,l)
 else if k=5 then
  (.mk 23 l.length (bs []) ((yA (ks.getD 0 noC) deep).map (lZ t)) [] [] [] [],l++[⟨t.name++bs [39],ks.getD 0 noC,yA (ks.getD 0 noC) deep,deep,false⟩])
 else(.mk k n tx is ns ts cs (ko t k ks 0 deep l).1,(ko t k ks 0 deep l).2)
def ko(t:D_)(k:Int):List n_->Nat->Int->List D_->List n_ × List D_
|[]=>λ_ _ l=>([],l)
|c::r=>λi deep l=>
 let x:=lG t c (if k=18 then deep+i else deep) l;let y:=ko t k r (i+1) deep x.2
 (x.1::y.1,y.2)
end
mutual
def Cs:n_->Nat
|.mk k _ _ _ _ _ _ ks=>(if k=5 then 1 else 0)+nU ks
def nU:List n_->Nat
|[]=>0
|c::l=>Cs c+nU l
end
mutual
def Q_:n_->Nat
|.mk _ _ _ _ _ _ _ ks=>1+B_ ks
def B_:List n_->Nat
|[]=>0
|c::l=>Q_ c+B_ l
end
def G8:Nat->Nat->List D_->List B?->List B?
|0,_,_,o=>o
| n+1,i,l,o=>match l[i]? with
 |none=>o
 |some t=>
  let r:=lG t t.body (t.deep+1) l
  G8 n (i+1) r.2 (o++[⟨t.name,t.k_.length,r.1⟩])
def pg(f:jN):D_:=⟨f.name,f.body,[],0,true⟩
def Bq(l:List jN):Nat:=l.length+nU (l.map (·.body))
def Ct(p:lC):List B?:=G8 (Bq p.v_+1) 0 (p.v_.map pg) []
mutual
def jD:Nat->n_->Prop
|m,.mk k n _ _ _ ts _ ks=>k≠23/\(k=18->ks.length<=2)/\(k=21->ks.length=1/\ts.length=2)/\(k=4->0<=n/\n<m/\ks=[])/\(k=5->ks.length=1)/\h? m k ks 0
def h?:Nat->Int->List n_->Nat->Prop
|_,_,[],_=>True
|m,k,c::l,i=>jD (if k=5 then m+1 else if k=18 then m+i else m) c/\h? m k l (i+1)
end
def CW(m b:Nat)(c:n_):Prop:=jD m c/\Q_ c<=b
def CW.less{m b b':Nat}{c:n_}(h:CW m b c)(hb:b<=b'):CW m b' c:=⟨h.1,aX h.2 hb⟩
def CW.n0(m:Nat)(k n:Int)(t:fD)(h4:k≠4)(h5:k≠5)(h23:k≠23)(h21:k≠21):CW m 1 (.mk k n t [] [] [] [] []):=by
 simp[CW,jD,h?,Q_,B_,h4,h5,h23,h21]
def CW.n1{m b:Nat}{k n:Int}{t:fD}{ns:List fD}{ts:List f_}{c:n_}(h:CW m b c)(h4:k≠4)(h5:k≠5)(h23:k≠23)(h21:k=21->ts.length=2):CW m (b+1) (.mk k n t [] ns ts [] [c]):=by
 have:=h.2;refine⟨by simpa[jD,h?,h4,h5,h23]using ⟨h21,h.1⟩,by simp only[Q_,B_];omega⟩
def CW.n2{m b b':Nat}{k n:Int}{t:fD}{ns:oN}{ts:oL}{c d:n_}(h:CW m b c)(h':CW m b' d)(h4:k≠4)(h5:k≠5)(h18:k≠18)(h23:k≠23)(h21:k≠21):CW m (b+b'+1) (.mk k n t [] ns ts [] [c,d]):=by
 have:=h.2;have:=h'.2;refine⟨by simpa[jD,h?,h4,h5,h18,h23,h21]using ⟨h.1,h'.1⟩,by simp only[Q_,B_];omega⟩
def CW.n3{m b b' b'':Nat}{k n:Int}{t:fD}{ns:oN}{ts:oL}{c d e:n_}(h:CW m b c)(h':CW m b' d)(h'':CW m b'' e)(h4:k≠4)(h5:k≠5)(h18:k≠18)(h23:k≠23)(h21:k≠21):CW m (b+b'+b''+1) (.mk k n t [] ns ts [] [c,d,e]):=by
 have:=h.2;have:=h'.2;have:=h''.2;refine⟨by simpa[jD,h?,h4,h5,h18,h23,h21]using ⟨h.1,h'.1,h''.1⟩,by simp only[Q_,B_];omega⟩
def CW.noC(m:Nat):CW m 1 noC:=CW.n0 m 0 0 _ (by decide) (by decide) (by decide) (by decide)
def CW.cast{m b:Nat}{x:n_}(h:CW m b x)(t u:f_)(ln cl:Int)(s:CS):CW m (b+1) (lD x t u ln cl s).1:=by
 unfold lD;split
 .exact h.less (by omega)
 .exact h.n1 (by decide) (by decide) (by decide) (λ_=>rfl)
def CW.coerce{m b:Nat}{x:n_}(h:CW m b x)(t u:f_)(ln cl:Int)(s:CS):CW m (b+1) (jq x t u ln cl s).1:=by
 unfold jq;split
 .exact h.less (by omega)
 split
 .exact h.less (by omega)
 split
 .exact h.cast _ _ _ _ _
 .exact h.less (by omega)
def CW.any{m b:Nat}{x:(n_ × f_) × CS}(h:CW m b x.1.1)(u:f_)(ln cl:Int):CW m (b+1) (jZ u ln cl x).1.1:=by
 unfold jZ;split
 .exact h.cast _ _ _ _ _
 .exact h.less (by omega)
def CW.global(L:f?)(m:Nat)(ln cl:Int)(e:iO)(l:List f_)(s:CS):CW m 1 (vk L ln cl e l s).1.1:=by
 unfold vk;split
 .exact CW.noC m
 .exact CW.n0 m 6 _ _ (by decide) (by decide) (by decide) (by decide)
def zx7{m:Nat}{k:Int}(h5:k≠5)(h18:k≠18):∀{l:List n_} {i:Nat},(∀c,c∈l->jD m c)->h? m k l i
|[],_,_=>by simp[h?]
|c::l,i,h=>by
 rw[h?,aB h5,aB h18];exact⟨h c (by simp),zx7 h5 h18 λx hx=>h x (by simp[hx])⟩
variable {ba bb:Nat}{ia ib i:Inf}
def F?(b:Nat)(i:Inf):Prop:=∀env s,CW (lN env) b (i env s).1.1
def F?.less{b':Nat}(h:F? b i)(hb:b<=b'):F? b' i:=λenv s=>(h env s).less hb
def Cu(n:o_)(h:F? b i)(t:f_)(env:Env)(s:CS):CW (lN env) (b+1) (mF n i t env s).1:=(h env s).coerce _ _ _ _ _
section
variable (L:f?)
def zI3(n:o_):F? 1 (zu L n):=λenv s=>by
 unfold zu;simp only;split
 next h=>
  have:=Ry env n.text;have h0:=h.1;refine⟨?_,by simp[cN,Q_,B_]⟩;simp only[cN,jD,h?,and_true,true_and];exact⟨oD,λh=>absurd h oD,λh=>absurd h oD,λ_=>⟨h0,oM⟩,λh=>absurd h oD⟩
 repeat' split
 all_goals first|exact CW.noC _|exact CW.global L _ _ _ _ _ _
def zLd(n a:o_)(ha:F? ba ia)(hb:F? bb ib):F? (ba+bb+4) (qi n a ia ib):=λenv s=>by
 unfold qi;simp only;let⟨y,hy⟩:=oJ (if 0<lN n.types/\(ia env s).2.e=0 then(((jq (ia env s).1.1 (ia env s).1.2 (ig (n.types.getD 0 C_) n.line n.t_ (ia env s).2).1 a.line a.t_ (ig (n.types.getD 0 C_) n.line n.t_ (ia env s).2).2).1,(ig (n.types.getD 0 C_) n.line n.t_ (ia env s).2).1),(jq (ia env s).1.1 (ia env s).1.2 (ig (n.types.getD 0 C_) n.line n.t_ (ia env s).2).1 a.line a.t_ (ig (n.types.getD 0 C_) n.line n.t_ (ia env s).2).2).2)else ia env s);have h1:CW (lN env) (ba+1) y.1.1:=by
  rw[<-hy];split
  .exact(ha env s).coerce _ _ _ _ _
  .exact(ha env s).less oM
 rw[hy];have h2:=hb (env++[(n.text,y.1.2)]) y.2;rw[aV]at h2;have:=h1.2;have:=h2.2;refine⟨?_,by simp only[cK,Q_,B_];omega⟩;simp only[cK,jD,h?,and_true,true_and];exact⟨oD,λ_=>by simp,λh=>absurd h oD,λh=>absurd h oD,λh=>absurd h oD,uM h1.1,uM h2.1⟩
def Td(n a:o_)(ha:F? ba ia):F? (ba+4) (zw n a ia):=λenv s=>by
 unfold zw;simp only;generalize (if 1<lN n.types/\(ig (n.types.getD 0 C_) n.line n.t_ s).2.e=0 then ig (n.types.getD 1 C_) n.line n.t_ (ig (n.types.getD 0 C_) n.line n.t_ s).2 else(C_,(ig (n.types.getD 0 C_) n.line n.t_ s).2))=q;generalize (ig (n.types.getD 0 C_) n.line n.t_ s).1=p;have h2:=ha (env++[(n.text,p)]) q.2;rw[aV]at h2;generalize ia (env++[(n.text,p)]) q.2=x at*
 let⟨y,hy⟩:=oJ (if 1<lN n.types then(((jq x.1.1 x.1.2 q.1 a.line a.t_ x.2).1,q.1),(jq x.1.1 x.1.2 q.1 a.line a.t_ x.2).2)else x);have h3:CW (lN env+[(n.text,p)].length) (ba+1) y.1.1:=by
  rw[<-hy];split
  .exact h2.coerce _ _ _ _ _
  .exact h2.less oM
 rw[hy];have:=h3.2;refine⟨?_,by simp only[cK,Q_,B_];omega⟩;simp only[cK,jD,h?,and_true,true_and];exact⟨oD,λh=>absurd h oD,λh=>absurd h oD,λh=>absurd h oD,λ_=>rfl,uM h3.1⟩
def c_call(n b:o_)(ha:F? ba ia)(hb:F? bb ib):F? (ba+bb+4) (zx n b ia ib):=λenv s=>by
 unfold zx;simp only;split
 .exact(CW.noC _).less oM
 .exact(((ha env s).any _ _ _).n2 ((hb env _).coerce _ _ _ _ _) oD oD oD oD oD).less oM
def zLe(n:o_)(ha:F? ba ia):F? (ba+4) (qj n ia):=λenv s=>by
 unfold qj;simp only;refine CW.less (b:=ba+1+1) (CW.n1 ?_ oD oD oD oD) oM;split
 .exact(ha env s).cast _ _ _ _ _
 .exact(ha env s).less oM
def zKf(n:o_)(ha:F? ba ia)(hb:F? bb ib):F? (ba+bb+4) (zy n ia ib):=λenv s=>by
 unfold zy;simp only;split
 .exact(CW.noC _).less oM
 .exact(((ha env s).any _ _ _).n2 (hb env _) oD oD oD oD oD).less oM
def zsy(q:o_)(env:Env):(pE q env).1.length=lN env/\(pE q env).2.length=lN env:=by
 unfold pE;split<;>simp
def Te(q a b:o_){bq:Nat}{iq:Inf}(hq:F? bq iq)(ha:F? ba ia)(hb:F? bb ib):F? (bq+ba+bb+4) (zz q a b iq ia ib):=λenv s=>by
 unfold zz;simp only;have h1:=ha (pE q env).1 (jq (iq env s).1.1 (iq env s).1.2 (bT 2) q.line q.t_ (iq env s).2).2;rw[(zsy q env).1]at h1;have h2:=hb (pE q env).2 (ia (pE q env).1 (jq (iq env s).1.1 (iq env s).1.2 (bT 2) q.line q.t_ (iq env s).2).2).2;rw[(zsy q env).2]at h2;exact(CW.n3 ((hq env s).coerce _ _ _ _ _) (h1.coerce _ _ _ _ _) (h2.coerce _ _ _ _ _) oD oD oD oD oD).less oM
def Tf(n:o_)(ha:F? ba ia):F? (ba+4) (AA n ia):=λenv s=>by
 unfold AA;simp only;split
 .exact(ha env s).less oM
 split
 .exact(ha env s).less oM
 generalize (ig (n.types.getD 0 C_) n.line n.t_ (ia env s).2)=u;let⟨y,hy⟩:=oJ (if(ia env s).1.2.d_≠0 then lD (ia env s).1.1 (ia env s).1.2 C_ n.line n.t_ u.2 else((ia env s).1.1,u.2));have h3:CW (lN env) (ba+1) y.1:=by
  rw[<-hy];split
  .exact(ha env s).cast _ _ _ _ _
  .exact(ha env s).less oM
 rw[hy];split
 .exact h3.less oM
 split
 .exact(h3.cast _ _ _ _ _).less oM
 .exact(h3.n1 oD oD oD (λ_=>rfl)).less oM
def Tg(n a b:o_)(ha:F? ba ia)(hb:F? bb ib):F? (ba+bb+4) (opC n a b ia ib):=λenv s=>by
 unfold opC;simp only;split
 .exact(CW.n3 (Cu a ha _ env s) (CW.n0 _ 2 1 _ oD oD oD oD) (Cu b hb _ env _) oD oD oD oD oD).less oM
 split
 .exact(CW.n3 (Cu a ha _ env s) (Cu b hb _ env _) (CW.n0 _ 2 0 _ oD oD oD oD) oD oD oD oD oD).less oM
 split
 .exact(CW.n2 (ha env s) (hb env _) oD oD oD oD oD).less oM
 split
 .exact(CW.n2 (Cu a ha _ env s) (Cu b hb _ env _) oD oD oD oD oD).less oM
 .exact(CW.n2 (Cu a ha _ env s) (Cu b hb _ env _) oD oD oD oD oD).less oM
def zLf(n a:o_)(ha:F? ba ia):F? (ba+4) (ql n a ia):=λenv s=>by
 unfold ql;split
 .exact(CW.n1 (Cu a ha _ env s) oD oD oD oD).less oM
 split
 .exact(CW.n1 (Cu a ha _ env s) oD oD oD oD).less oM
 split
 .exact(CW.n1 (ha env s) oD oD oD oD).less oM
 .exact(CW.n1 (ha env s) oD oD oD oD).less oM
def zxF:∀(l:List o_),(∀x,x∈l->F? (4*P_ x) (iD L x))->∀env s,(∀c,c∈(nP L l env s).1.1->jD (lN env) c)/\B_ (nP L l env s).1.1<=4*e? l
|[],_,env,s=>by rw[nP];exact⟨λc h=>(by cases h),by simp[B_]⟩
|n::l,h,env,s=>by
 rw[nP];simp only;have h1:=h n oC env s;have h2:=zxF l (λx hx=>h x (by simp[hx])) env (iD L n env s).2;have:=h1.2;have:=h2.2;refine⟨λc hc=>?_,by rw[B_,e?];omega⟩;rcases aM.1 hc with e|hc
 .rw[e];exact h1.1
 .exact h2.1 c hc
def zLg(n:o_)(h:∀x,x∈n.b_->F? (4*P_ x) (iD L x)):F? (4*P_ n) (rW n (nP L n.b_)):=λenv s=>by
 unfold rW;simp only;have h1:=zxF L n.b_ h env (if kZ [] n.a_=tT then jw n.line n.t_ 8 s else s);have:=h1.2;have:=rf n;refine⟨?_,by simp only[Q_];omega⟩;simp only[jD,true_and];exact⟨oD,λh=>absurd h oD,λh=>absurd h oD,λh=>absurd h oD,λh=>absurd h oD,zx7 oD oD h1.1⟩
def N7{j:Inf}(h:F? b j)(hb:1<=b):F? b (jI j):=λenv s=>by
 unfold jI;split
 .exact(CW.noC _).less hb
 .exact h env s
def N8(n:o_){rest:Inf}(hr:F? (4*P_ n) rest)(h:∀x,x∈n.b_->F? (4*P_ x) (iD L x)):F? (4*P_ n) (qo L n rest):=λenv s=>by
 have:=rf n;unfold qo;split
 .exact(CW.n0 _ 0 _ _ oD oD oD oD).less oM
 split
 .exact(CW.n0 _ 1 _ _ oD oD oD oD).less oM
 split
 .exact(CW.n0 _ 2 _ _ oD oD oD oD).less oM
 split
 .exact(CW.n0 _ 3 _ _ oD oD oD oD).less oM
 split
 .exact(CW.n0 _ 20 _ _ oD oD oD oD).less oM
 split
 .exact(zI3 L n env s).less oM
 split
 .exact zLg L n h env s
 .exact hr env s
def zGV(n:o_)(h:∀x,x∈n.b_->F? (4*P_ x) (iD L x)):F? (4*P_ n) (iD L n):=by
 let⟨k,tx,nn,ln,cl,ts,ns,ks⟩:=n
 match ks,h with
 |[],h=>
  rw[NI];exact N7 (N8 L _ (λenv s=>(CW.noC _).less (by rw[rf];omega)) h) (by rw[rf];omega)
 |[a],h=>
  have ha:=h a (by simp[o_.b_]);have e:4*P_ (o_.mk k tx nn ln cl ts ns [a])=4*P_ a+4:=by simp only[P_,e?];omega
  rw[Ev];refine N7 (N8 L _ (λenv s=>?_) h) oM;rw[e];unfold Et;split
  .exact Td _ _ ha env s
  split
  .exact zLe _ ha env s
  split
  .exact Tf _ ha env s
  .exact zLf _ _ ha env s
 |[a,b],h=>
  have ha:=h a (by simp[o_.b_]);have hb:=h b (by simp[o_.b_]);have e:4*P_ (o_.mk k tx nn ln cl ts ns [a,b])=4*P_ a+4*P_ b+4:=by simp only[P_,e?];omega
  rw[Ew];refine N7 (N8 L _ (λenv s=>?_) h) oM;rw[e];unfold Eu;split
  .exact zLd _ _ ha hb env s
  split
  .exact c_call _ _ ha hb env s
  split
  .exact zKf _ ha hb env s
  .exact Tg _ _ _ ha hb env s
 |a::b::c::l,h=>
  have e:4*P_ a+4*P_ b+4*P_ c+4<=4*P_ (o_.mk k tx nn ln cl ts ns (a::b::c::l)):=by simp only[P_,e?];omega
  rw[K5];exact N7 (N8 L _ ((Te a b c (h a (by simp[o_.b_])) (h b (by simp[o_.b_])) (h c (by simp[o_.b_]))).less e) h) oM
mutual
def zAG:∀n:o_,F? (4*P_ n) (iD L n)
|.mk k tx nn ln cl ts ns ks=>zGV L _ (zxG ks)
def zxG:∀l:List o_,∀x,x∈l->F? (4*P_ x) (iD L x)
|[],x,hx=>by cases hx
|n::l,x,hx=>by
 rcases aM.1 hx with e|hx
 .rw[e];exact zAG n
 .exact zxG l x hx
end
end
def wC(f:jN):Prop:=CW 1 120005 f.body/\f.name.size<=30000000000
def zsB:∀(l:List f_) (i:Nat) (s:fD),(xP l i s).size<=s.size+lN l*20010
|[],i,s=>by rw[xP];omega
|t::l,i,s=>by
 have h:=zsB l (i+1) (s++(if i=0 then bs [91]else bs [44,32])++Al t);have h2:=Sa t;have h3:(if i=0 then bs [91]else bs [44,32]).size<=2:=by split<;>decide
 rw[xP,length_cons];rw[ax,ax]at h;omega
theorem zGW{L:f?}(hG:lF L){x:jc}(hx:ik L ⟨bs [],x.module,x.decl⟩)(hxt:lN x.types<=1000000)(s:CS)(hs:∀f,f∈s.v_->wC f):(∀f,f∈(lL L x s).v_->wC f)/\(lL L x s).main=s.main:=by
 have hd:=(K8 hG hx).1;have hdn:=(K8 hG hx).2;have hmn:(L.a_.getD x.module.toNat (bs [])).size<=32:=by
  rw[aH];cases q:L.a_[x.module.toNat]? with
  |none=>decide
  |some z=>exact hG.modNames z (ah q)
 have f0:fb (zD L x s)=fb s:=rfl;unfold lL;unfold zD at f0;simp only;generalize xO L x.module x.decl=d at*
 generalize ({s with module:=x.module,vars:=d.vars.map (·.1),V_:=x.types,e:=0}:CS)=s0 at*
 have f1:=Ig (d.types.getD 0 C_) d.line d.t_ s0;generalize ig (d.types.getD 0 C_) d.line d.t_ s0=r1 at*
 have f2:=Ig (d.types.getD 1 C_) d.line d.t_ r1.2;generalize ig (d.types.getD 1 C_) d.line d.t_ r1.2=r2 at*
 let⟨T,hT⟩:=oJ (if r2.2.e=0 then qh (jO r1.1 r2.1) d.line d.t_ r2.2 else(jO r1.1 r2.1,r2.2));have p3:fb T.2=fb r2.2:=by
  rw[<-hT];split
  .exact NK _ _ _ _
  .rfl
 rw[hT];clear hT;let⟨S,hS⟩:=oJ (if x.module=L.main.module/\x.decl=L.main.decl/\Di (bT 1) r1.1=oK then jw d.line d.t_ 14 T.2 else T.2);have p4:fb S=fb T.2:=by
  rw[<-hS];split
  .exact Sc _ _ _ _
  .rfl
 rw[hS];clear hS;have p5:=zAG L d.body [(d.param,r1.1)] S;have f5:=NN L d.body [(d.param,r1.1)] S;generalize iD L d.body [(d.param,r1.1)] S=y at*
 have p6:=p5.coerce y.1.2 r2.1 d.body.line d.body.t_ y.2;have f6:=Sd y.1.1 y.1.2 r2.1 d.body.line d.body.t_ y.2;generalize jq y.1.1 y.1.2 r2.1 d.body.line d.body.t_ y.2=z at*
 have f:fb z.2=fb s:=by rw[f6,f5,p4,p3,f2,f1,f0]
 have g1:z.2.v_=s.v_:=dM (·.1) f;have g3:z.2.main=s.main:=dM (·.2.2) f;have hsz:CW 1 120005 z.1:=p6.less (by have:=hd.size;omega);have key:∀nm:fD,nm.size<=30000000000->∀f,f∈z.2.v_++[(⟨nm,T.1,z.1⟩:jN)]->wC f:=λnm hnm f hf=>by
  rw[g1]at hf;rcases aL.1 hf with hf|hf
  .exact hs f hf
  .rw[aK.1 hf];exact⟨hsz,hnm⟩
 have hn1:=zsB x.types 0 (L.a_.getD x.module.toNat (bs [])++bs [46]++d.name);have hb1:(bs [46]).size=1:=rfl;have hb2:(bs [93]).size=1:=rfl;have hn2:(if 0<lN x.types then xP x.types 0 (L.a_.getD x.module.toNat (bs [])++bs [46]++d.name)++bs [93]else xP x.types 0 (L.a_.getD x.module.toNat (bs [])++bs [46]++d.name)).size<=30000000000:=by
  rw[ax,ax]at hn1;split
  .rw[ax];omega
  .omega
 split
 .exact⟨key _ hn2,g3⟩
 .exact⟨key _ hn2,g3⟩
def Ti{L:f?}(hG:lF L):∀(n i:Nat) (s:CS),i+n<=257->yz L s i->(∀f,f∈s.v_->wC f)->(∀f,f∈(nG L n i s).v_->wC f)/\(nG L n i s).v_.length<=257/\(nG L n i s).main=s.main
|0,i,s,hi,h,hf=>by rw[nG];exact⟨hf,by have:=h.v_;omega,rfl⟩
| n+1,i,s,hi,h,hf=>by
 rw[nG];split
 next q=>
  have hm:s.n?.getD i ⟨0,0,[]⟩∈s.n?:=by
   rw[aH,aA q];exact aO q
  have h1:=h.ist _ hm;have r:=zGW hG h1.1 h1.2 s hf;have q:=Ti hG n (i+1) _ oM (NP hG h1.1 h1.2 oM h) r.1;exact⟨q.1,q.2.1,q.2.2.trans r.2⟩
 .exact⟨hf,by have:=h.v_;omega,rfl⟩
def N9(L:f?)(i:Nat):∀(l:List P?) (k:Nat) (s:CS),(vE L i l k s).1.v_=s.v_
|[],k,s=>by rw[vE]
| d::l,k,s=>by
 rw[vE];split
 .exact N9 L i l (k+1) s
 .simp only;split
  .rfl
  .rw[N9 L i l (k+1)]
def Ki(L:f?):∀(l:List X?) (i:Nat) (s:CS),(nE L l i s).1.v_=s.v_
|[],i,s=>by rw[nE]
|m::l,i,s=>by
 rw[nE];split
 .exact N9 L i m.T_ 0 s
 .rw[Ki L l,N9]
def Tj(L:f?):yz L cs0 0:=⟨by simp[cs0],by simp[cs0],by simp[cs0],by simp[cs0],by simp[cs0]⟩
def wE(p:lC):Prop:=(∀f,f∈p.v_->wC f)/\lN p.v_<=257
def zzv{L:f?}(hG:lF L):wE (Cm L).1:=by
 have n0:wE Ao:=⟨λf h=>(by cases h),oD⟩
 unfold Cm;simp only;split
 .exact n0
 split
 .exact n0
 .have h0:=NQ L.u_ 0 cs0 oC (Tj L);have h:=Ti hG 257 0 (nE L L.u_ 0 cs0).1 oM h0 (by rw[Ki];intro f hf;cases hf);exact⟨h.1,h.2.1⟩
def zvQ(l:ow):wE (uH l).1:=by
 have n0:wE Ao:=⟨λf h=>(by cases h),oD⟩
 unfold uH;split
 .exact n0
 simp only;split
 .exact n0
 .exact zzv (K7 l oM)
end Go.Gr
namespace Go.Gr
open Go.Abs Go.Proofs
@[simp] theorem n_.get3(c:n_)(h:3<lN c.enc):c.enc[3]=.sl oK 1 (encI c.ints):=by simp only[c.l_];rfl
@[simp] theorem n_.get7(c:n_)(h:7<lN c.enc):c.enc[7]=.sl oK 8 (c.b_.map n_.enc):=by simp only[c.l_];rfl
def EB{ts:o6}(h:lN ts=([]:oV).length):ts=[]:=uM h
def Br:∀{l:List n_} {c:n_},c∈l->Q_ c<=B_ l
|d::l,c,h=>by
 rw[B_];rcases aM.1 h with e|h
 .rw[e];omega
 .have:=Br h;omega
def lc(c:n_):Q_ c=1+B_ c.b_:=by cases c;rw[Q_];try rfl
def Cv:∀l:List n_,lN l<=B_ l
|[]=>by simp
|c::l=>by
 have:=Cv l;have:=lc c;rw[B_,List.length_cons];omega
def xW(c:n_)(b:Int):oW:=if c.d_=4/\c.n<b then [c.n]else []
def Na(c:n_)(b:Int):iQ c b=xW c b++lQ c.b_ b:=by cases c;rw[iQ];try rfl
def Tk{l:o8}{j:Nat}(h:j<lN l)(b:Int):lQ (l.drop j) b=iQ l[j] b++lQ (l.drop (j+1)) b:=by
 rw[aF h,lQ]
@[simp] theorem D_.F_(t:D_):lN t.enc=11:=by simp[D_.enc]
def D_.l_(t:D_):t.enc=[.str t.name,.int .i64 t.body.d_,.int .i64 t.body.n,.str t.body.text,.sl oK 1 (encI t.body.ints),.sl oK 1 (encS t.body.a_),.sl oK 4 (t.body.types.map f_.enc),.sl oK 5 (t.body.cos.map gT.enc),.sl oK 8 (t.body.b_.map n_.enc),.sl t.none 1 (encI t.k_),.int .i64 t.deep]:=by
 unfold D_.enc;rw[t.body.l_];try rfl
@[simp] theorem D_.get0(t:D_)(h:0<lN t.enc):t.enc[0]=.str t.name:=by simp only[t.l_];rfl
@[simp] theorem D_.get9(t:D_)(h:9<lN t.enc):t.enc[9]=.sl t.none 1 (encI t.k_):=by simp only[t.l_];rfl
@[simp] theorem D_.get10(t:D_)(h:10<lN t.enc):t.enc[10]=.int .i64 t.deep:=by simp only[t.l_];rfl
@[simp] theorem D_.cut_body(t:D_):cut (t.enc.map AC.d) 1 8=t.body.enc.map AC.d:=by rw[t.l_,t.body.l_];try rfl
end Go.Gr
namespace Go.Gr
open Go.Abs Go.Proofs List
mutual
def Kj:∀(c:n_) (m:Nat) (b x:Int),jD m c->x∈iQ c b->0<=x/\x<b
| .mk k n t is ns ts cs ks,m,b,x,h,hx=>by
 rw[jD]at h;rw[iQ]at hx;rcases aL.1 hx with hx|hx
 .split at hx
  next q=>
   rw[aK]at hx;subst hx;exact⟨(h.2.2.2.1 q.1).1,q.2⟩
  .cases hx
 .exact zws ks m k 0 b x h.2.2.2.2.2 hx
def zws:∀(l:List n_) (m:Nat) (k:Int) (i:Nat) (b x:Int),h? m k l i->x∈lQ l b->0<=x/\x<b
|[],m,k,i,b,x,h,hx=>by rw[lQ]at hx;cases hx
|c::l,m,k,i,b,x,h,hx=>by
 rw[h?]at h;rw[lQ]at hx;rcases aL.1 hx with hx|hx
 .exact Kj c _ b x h.1 hx
 .exact zws l m k (i+1) b x h.2 hx
end
mutual
def Nb:∀(c:n_) (b:Int),(iQ c b).length<=Q_ c
|.mk k n t is ns ts cs ks,b=>by
 have:=zuu ks b;rw[iQ,Q_,aV];split<;>simp<;>omega
def zuu:∀(l:List n_) (b:Int),(lQ l b).length<=B_ l
|[],b=>by simp[lQ]
|c::l,b=>by
 have:=Nb c b;have:=zuu l b;rw[lQ,B_,aV];omega
end
def Tn(c:n_)(b:Int):(yA c b).length<=Q_ c:=by
 have h1:=(NZ (uN [] (iQ c b))).length_eq;have h2:=zx6 (iQ c b) [];have h3:=Nb c b;unfold yA;simp only[length_nil]at h2;omega
def Ii{c:n_}{b x:Int}:x∈yA c b↔x∈iQ c b:=by
 unfold yA;rw[(NZ _).mem_iff,zx5];simp
def Tp(c:n_)(b:Int):(yA c b).Pairwise (· < ·):=zsO _ (zsN oC)
def zFZ(t:D_)(c:n_)(deep:Int)(l:ou):lG t c deep l=
  if c.d_=4 then(.mk c.d_ (lZ t c.n) c.text c.ints c.a_ c.types c.cos c.b_,l)
  else if c.d_=5 then
   (.mk 23 (lN l) (bs []) ((yA (c.b_.getD 0 noC) deep).map (lZ t)) [] [] [] [],l++[⟨t.name++bs [39],c.b_.getD 0 noC,yA (c.b_.getD 0 noC) deep,deep,oK⟩])
  else(.mk c.d_ c.n c.text c.ints c.a_ c.types c.cos (ko t c.d_ c.b_ 0 deep l).1,(ko t c.d_ c.b_ 0 deep l).2):=by
 cases c;rw[lG];try rfl
structure Kk (t:D_):Prop where
 d0:0<=t.deep
 d1:t.deep<=1000000000
 k_:lN t.k_<=1000000000
 name:t.name.size<=100000000000
abbrev xX(l:ou):A_:=.arr 11 ((l.map D_.enc).map (·.map .d))
def zKR(c:n_)(x:Int):put (c.enc.map AC.d) 1 [.d (.int .i64 x)]=(n_.mk c.d_ x c.text c.ints c.a_ c.types c.cos c.b_).enc.map .d:=by
 rw[c.l_,n_.l_];try rfl
abbrev AO(c:n_)(x:AC):o7:=[.d (.int .i64 c.d_),.d (.int .i64 c.n),.d (.str c.text),.d (.sl oK 1 (encI c.ints)),.d (.sl oK 1 (encS c.a_)),.d (.sl oK 4 (c.types.map f_.enc)),.d (.sl oK 5 (c.cos.map gT.enc)),x]
def zKS(c:n_)(x:AC):put (c.enc.map AC.d) 7 [x]=AO c x:=by
 rw[c.l_];try rfl
def zy6(t:D_)(k:Int){l:o8}{j:Nat}(h:j<lN l)(deep:Int)(q:ou):ko t k (l.drop j) j deep q=((lG t l[j] (if k=18 then deep+j else deep) q).1::(ko t k (l.drop (j+1)) (j+1) deep (lG t l[j] (if k=18 then deep+j else deep) q).2).1,(ko t k (l.drop (j+1)) (j+1) deep (lG t l[j] (if k=18 then deep+j else deep) q).2).2):=by
 rw[aF h,ko]
def Kl{m:Nat}{k:Int}(h5:k≠5):∀{l:List n_} {i j:Nat} (h:j<lN l),h? m k l i->jD (if k=18 then m+(i+j)else m) l[j]
|c::l,i,0,h,hw=>by
 rw[h?,aB h5]at hw;exact hw.1
|c::l,i,j+1,h,hw=>by
 rw[h?]at hw;have:=Kl h5 (i:=i+1) (j:=j) (uM h) hw.2;rw[show i+1+j=i+(j+1)from by omega]at this;exact this
def G9:∀{l:List n_} {j:Nat} (h:j<lN l),j+Q_ l[j]<=B_ l
|c::l,0,h=>by rw[B_];simp
|c::l,j+1,h=>by
 have:=G9 (l:=l) (j:=j) (uM h);have:=lc c;rw[B_];simp only[getElem_cons_succ];omega
def zwt{α:Type}(f:α->Int):∀l:List α,D.O_ (List.map ((λi=>[D.int .i64 i])∘f) l)=List.map ((λi=>[D.int .i64 i])∘f) l
|[]=>rfl
|x::l=>by simp[D.O_,D.W_,D.K_,zwt f l]
mutual
def Nc(t:D_):∀(c:n_) (m:Int) (l:List D_),(lG t c m l).2.length<=lN l+Q_ c
|.mk k n tx is ns ts cs ks,m,l=>by
 have:=zrC t k ks 0 m l;rw[lG,Q_];simp only;split
 .simp only;omega
 split
 .simp only[aV,length_cons,length_nil];omega
 .simp only;omega
def zrC(t:D_)(k:Int):∀(c:List n_) (i:Nat) (m:Int) (l:List D_),(ko t k c i m l).2.length<=lN l+B_ c
|[],i,m,l=>by simp[ko,B_]
|c::r,i,m,l=>by
 have h1:=Nc t c (if k=18 then m+i else m) l;have h2:=zrC t k r (i+1) m (lG t c (if k=18 then m+i else m) l).2;rw[ko,B_];simp only;omega
end
abbrev Nf(z:fD):o7:=[.d (.str z),.d (.int .i64 0),.d (.int .i64 0),.d (.str (bs [])),.d (.sl tT 1 []),.d (.sl tT 1 []),.d (.sl tT 4 []),.d (.sl tT 5 []),.d (.sl tT 8 []),.d (.sl tT 1 []),.d (.int .i64 0)]
def zF0(z:fD)(a:n_):10<=(z_ (Nf z) 1 (a.enc.map AC.d)).length:=by rw[CP];show 10<=11;decide
def zDz(z:fD)(a:n_)(x:AC):11<=(put (z_ (Nf z) 1 (a.enc.map AC.d)) 9 [x]).length:=by
 rw[a.l_];exact aJ _
def zF1(z:fD)(a:n_)(C:oW)(m:Int):put (put (z_ (Nf z) 1 (a.enc.map AC.d)) 9 [.d (.sl oK 1 (encI C))]) 10 [.d (.int .i64 m)]=(D_.enc ⟨z,a,C,m,oK⟩).map .d:=by
 unfold D_.enc;rw[a.l_];try rfl
mutual
def jh(t:D_):n_->Int->List D_
|.mk k n tx is ns ts cs ks=>λdeep=>
 if k=4 then []
 else if k=5 then [⟨t.name++bs [39],ks.getD 0 noC,yA (ks.getD 0 noC) deep,deep,oK⟩]
 else pF t k ks 0 deep
def pF(t:D_)(k:Int):List n_->Nat->Int->List D_
|[]=>λ_ _=>[]
|c::r=>λi deep=>jh t c (if k=18 then deep+i else deep)++pF t k r (i+1) deep
end
mutual
def Ga(t:D_):∀(c:n_) (m:Int) (l:List D_),(lG t c m l).2=l++jh t c m
|.mk k n tx is ns ts cs ks,m,l=>by
 have:=zr4 t k ks 0 m l;rw[lG,jh];simp only;split
 .simp
 split
 .rfl
 .exact this
def zr4(t:D_)(k:Int):∀(c:List n_) (i:Nat) (m:Int) (l:List D_),(ko t k c i m l).2=l++pF t k c i m
|[],i,m,l=>by simp[ko,pF]
|c::r,i,m,l=>by
 have h1:=Ga t c (if k=18 then m+i else m) l;have h2:=zr4 t k r (i+1) m (lG t c (if k=18 then m+i else m) l).2;rw[ko,pF];simp only;rw[h2,h1,dC]
end
def jH(f:n_->Nat)(l:ou):Nat:=(l.map λt=>f t.body).sum
@[simp] theorem zMx(f:n_->Nat):jH f []=0:=rfl
def Ij(f:n_->Nat)(a b:ou):jH f (a++b)=jH f a+jH f b:=by simp[jH]
def Tq(f:n_->Nat)(t:D_)(b:ou):jH f (t::b)=f t.body+jH f b:=by simp[jH]
def Gb{ks:o8}(h:lN ks=1):ks=[ks.getD 0 noC]:=by
 match ks,h with
 |[a],_=>rfl
def Ey(k:Int)(m i:Nat):(if k=18 then(m:Int)+i else m)=((if k=18 then m+i else m:Nat):Int):=by
 split<;>simp
mutual
def zxf(t:D_):∀(c:n_) (m:Nat),jD m c->(jh t c m).length+jH Cs (jh t c m)=Cs c
| .mk k n tx is ns ts cs ks,m,h=>by
 rw[jD]at h;rw[jh,Cs];by_cases k4:k=4
 .simp only[aC k4];rw[(h.2.2.2.1 k4).2.2,k4];try rfl
 by_cases k5:k=5
 .simp only[aB k4,aC k5];have e:=Gb (h.2.2.2.2.1 k5);have e2:nU ks=Cs (ks.getD 0 noC):=by rw[e];simp[nU]
  simp only[jH,e2,length_cons,length_nil,map_cons,map_nil,List.sum_cons,List.sum_nil];omega
 .simp only[aB k4,aB k5];rw[zuS t k k5 ks m 0 h.2.2.2.2.2];omega
def zuS(t:D_)(k:Int)(k5:k≠5):∀(l:List n_) (m i:Nat),h? m k l i->(pF t k l i m).length+jH Cs (pF t k l i m)=nU l
|[],m,i,h=>by simp[pF,nU]
|c::r,m,i,h=>by
 rw[h?,aB k5]at h;have h1:=zxf t c _ h.1;have h2:=zuS t k k5 r m (i+1) h.2;rw[pF,nU];simp only;rw[Ey,aV,Ij];omega
end
mutual
def zxg(t:D_):∀(c:n_) (m:Nat),jD m c->(jh t c m).length+jH Q_ (jh t c m)<=Q_ c
| .mk k n tx is ns ts cs ks,m,h=>by
 rw[jD]at h;rw[jh,Q_];by_cases k4:k=4
 .simp only[aC k4];simp
 by_cases k5:k=5
 .simp only[aB k4,aC k5];have e:=Gb (h.2.2.2.2.1 k5);have e2:B_ ks=Q_ (ks.getD 0 noC):=by rw[e];simp[B_]
  simp only[jH,e2,length_cons,length_nil,map_cons,map_nil,List.sum_cons,List.sum_nil];omega
 .simp only[aB k4,aB k5];have:=zuT t k k5 ks m 0 h.2.2.2.2.2;omega
def zuT(t:D_)(k:Int)(k5:k≠5):∀(l:List n_) (m i:Nat),h? m k l i->(pF t k l i m).length+jH Q_ (pF t k l i m)<=B_ l
|[],m,i,h=>by simp[pF]
|c::r,m,i,h=>by
 rw[h?,aB k5]at h;have h1:=zxg t c _ h.1;have h2:=zuT t k k5 r m (i+1) h.2;rw[pF,B_];simp only;rw[Ey,aV,Ij];omega
end
structure Ik (t:D_):Prop where
 ex:∃D:Nat,t.deep=D/\jD (D+1) t.body/\D+1+Q_ t.body<=500000000/\(∀x,x∈t.k_->0<=x/\x<D)/\(∀x,x∈iQ t.body D->x∈t.k_)
 name:t.name.size+Q_ t.body<=50000000000
 k_:lN t.k_<=1000000000
 rise:t.k_.Pairwise (· < ·)
def Ik.S{t:D_}(h:Ik t):Kk t:=by
 let⟨D,e,_,b,_⟩:=h.ex;have:=h.name;exact⟨oM,oM,h.k_,oM⟩
mutual
theorem zuU(t:D_):∀(c:n_) (m:Nat),jD m c->m+Q_ c<=500000000->t.name.size+Q_ c<=50000000000->∀q,q∈jh t c m->Ik q
| .mk k n tx is ns ts cs ks,m,h,hb,hn,q,hq=>by
 rw[jD]at h;rw[jh]at hq;rw[Q_]at hb hn;by_cases k4:k=4
 .simp only[aC k4]at hq;cases hq
 by_cases k5:k=5
 .simp only[aB k4,aC k5,aK]at hq;subst hq;have e:=Gb (h.2.2.2.2.1 k5);have e2:B_ ks=Q_ (ks.getD 0 noC):=by rw[e];simp[B_]
  have hw:=h.2.2.2.2.2;generalize ks.getD 0 noC=a at*
  rw[e,k5,h?,aC rfl]at hw;have hl:=Tn a m;refine⟨⟨m,rfl,hw.1,?_,λx hx=>Kj a _ _ x hw.1 (Ii.1 hx),λx hx=>Ii.2 hx⟩,?_,?_,Tp a m⟩
  .simp only;omega
  .have hb1:(bs [39]).size=1:=rfl;simp only;rw[ax];omega
  .simp only;omega
 .simp only[aB k4,aB k5]at hq;exact zr5 t k k5 ks m 0 h.2.2.2.2.2 oM oM q hq
theorem zr5(t:D_)(k:Int)(k5:k≠5):∀(l:List n_) (m i:Nat),h? m k l i->m+i+B_ l<=500000000->t.name.size+B_ l<=50000000000->∀q,q∈pF t k l i m->Ik q
|[],m,i,h,hb,hn,q,hq=>by rw[pF]at hq;cases hq
|c::r,m,i,h,hb,hn,q,hq=>by
 rw[h?,aB k5]at h;rw[pF]at hq;rw[B_]at hb hn;have:=lc c;simp only at hq;rw[Ey]at hq;rcases aL.1 hq with hq|hq
 .exact zuU t c _ h.1 (by split<;>omega) oM q hq
 .exact zr5 t k k5 r m (i+1) h.2 oM oM q hq
end
variable {l:List D_}{i:Nat}
abbrev Tt(l:og):DV:=.one (.sl oK 10 (l.map B?.enc))
@[simp] theorem B?.F_(f:B?):lN f.enc=10:=by simp[B?.enc]
@[simp] theorem jN.get0(f:jN)(h:0<lN f.enc):f.enc[0]=.str f.name:=rfl
@[simp] theorem jN.cut_body(f:jN):cut (f.enc.map AC.d) 5 8=f.body.enc.map .d:=by unfold jN.enc;rw[f.type.l_,f.body.l_];try rfl
def Ng(f:n_->Nat){l:ou}(h:i<lN l):jH f (l.drop i)=f l[i].body+jH f (l.drop (i+1)):=by
 rw[aF h,Tq]
def uh(l:ou)(i:Nat):Prop:=i<=lN l/\(∀t,t∈l->Ik t)/\lN l+jH Q_ (l.drop i)<=500000000
def uh.step{l:ou}(h:uh l i)(hi:i<lN l){D:Nat}(hD:l[i].deep=D)(hw:jD (D+1) l[i].body)(hb:D+1+Q_ l[i].body<=500000000):uh (lG l[i] l[i].body (l[i].deep+1) l).2 (i+1):=by
 let⟨h1,h2,h3⟩:=h;have hm:=h2 _ (aO hi);rw[Ng Q_ hi]at h3;have e:l[i].deep+1=((D+1:Nat):Int):=by rw[hD];omega
 rw[Ga,e];have hc:=zxg l[i] l[i].body (D+1) hw;have hg:=zuU l[i] l[i].body (D+1) hw hb hm.name;refine⟨by simp;omega,λt ht=>?_,?_⟩
 .rcases aL.1 ht with ht|ht
  .exact h2 t ht
  .exact hg t ht
 .rw[bV oM,Ij,aV];omega
def zCN{f:jN}(h:wC f):Ik (pg f):=by
 have hc:=h.1.2;have hn:=h.2;refine⟨⟨0,rfl,h.1.1,by show 0+1+Q_ f.body<=_;omega,λx hx=>(by cases hx),λx hx=>?_⟩,by show f.name.size+Q_ f.body<=_;omega,by simp[pg],by simp[pg]⟩;have:=Kj f.body _ _ x h.1.1 hx;omega
theorem uh.start{p:lC}(h:wE p):uh (p.v_.map pg) 0:=by
 refine⟨oC,λt ht=>?_,?_⟩
 .let⟨f,hf,e⟩:=af.1 ht;subst e;exact zCN (h.1 f hf)
 .have key:∀l:List jN,(∀f,f∈l->wC f)->jH Q_ (l.map pg)<=lN l*120005:=λl=>by
   induction l with
   |nil=>intro _;simp
   |cons f l ih=>
    intro hl;have h1:=ih λx hx=>hl x (by simp[hx]);have h2:=(hl f oC).1.2;have h3:(pg f).body=f.body:=rfl;rw[map_cons,Tq,length_cons,h3];omega
  have h1:=key p.v_ h.1;have h2:=h.2;rw[fC,aa];omega
def Av(l:ou)(i:Nat):Nat:=lN l-i+jH Cs (l.drop i)
def zyC{l:ou}(hi:i<lN l){D:Nat}(hD:l[i].deep=D)(hw:jD (D+1) l[i].body):Av (lG l[i] l[i].body (l[i].deep+1) l).2 (i+1)+1=Av l i:=by
 unfold Av;have e:l[i].deep+1=((D+1:Nat):Int):=by rw[hD];omega
 rw[Ga,e];have hc:=zxf l[i] l[i].body (D+1) hw;rw[bV oM,Ij,aV,Ng Cs hi];omega
def zFi(z:fD)(a:n_):z_ (Nf z) 1 (a.enc.map AC.d)=(D_.enc ⟨z,a,[],0,tT⟩).map .d:=by
 unfold D_.enc;rw[a.l_];try rfl
abbrev zId(z:fD)(n:Int):o7:=[.d (.str z),.d (.int .i64 n),.d (.int .i64 0),.d (.int .i64 0),.d (.str (bs [])),.d (.sl tT 1 []),.d (.sl tT 1 []),.d (.sl tT 4 []),.d (.sl tT 5 []),.d (.sl tT 8 [])]
def zJu(z:fD)(n:Int)(a:n_):put (zId z n) 2 (a.enc.map AC.d)=(B?.enc ⟨z,n,a⟩).map .d:=by
 unfold B?.enc;rw[a.l_];try rfl
def zJv(z:fD)(n:Int)(a:n_):z_ (zId z n) 2 (a.enc.map AC.d)=(B?.enc ⟨z,n,a⟩).map .d:=by
 unfold B?.enc;rw[a.l_];try rfl
abbrev Tu(l:og):A_:=.arr 10 ((l.map B?.enc).map (·.map .d))
end Go.Gr
