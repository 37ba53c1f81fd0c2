/- Texts of ours, joined and written short by a program of ours. -/
import Derived.Test.YtlfjlokfciejnaaGreatDoorLJ16
import Derived.Test.YtlfjlokfciejnaaGreatDoorLJ15
set_option maxRecDepth 20000
set_option maxHeartbeats 4000000
set_option linter.unusedVariables false
set_option linter.unusedSimpArgs false
namespace Go.Gr.P
open Go.Abs Go.Proofs List
@[simp] theorem zKA(l:List (fF × Int))(k:Nat):(iK l)[k]?=(l[k]?).map λx=>[.str x.1,.int .i64 x.2]:=by simp[iK]
theorem zFk(a b:List Int):gY Pg 107 [.one (.sl false 1 (encI a)),.one (.sl false 1 (encI b))] (.one (.bool (decide (a=b)))):=by
 refine ztK (by simp) λo c hN hp=>?_;have hl:a.length<=zah:=by have:=o.1;simp only[DV.ok,D.ok]at this;simpa[encI]using this.1
 unfold zah at hl;unfold Zp;simp;apply gN<;>intro h
 ·simp at h;intro e;rw[e]at h;exact h rfl
 ·simp at h;refine fQ gz hp PR [13] (λj:Nat=>j<=a.length/\a.take j=b.take j) (λj=>[.c (.d (.int .i64 j))]) (λ_=>[]) (λj=>a.length-j) 0 [] (by simp) (by simp[PR]) λj ⟨h1,h2⟩=>?_;unfold Zo PR;simp;apply gN<;>intro h
  ·have hj:j<a.length:=by simpa using h
   have hj':j<b.length:=by omega
   simp[aA hj,aA hj'];refine⟨by decide,gN (λh=>?_) (λh=>?_)⟩
   ·simp at h;intro e;subst e;exact h rfl
   ·simp at h;refine fG (j+1) [] ⟨by omega,?_⟩ (by omega) (by simp;exact wI);rw[aJ hj,aJ hj',h2,h]
  ·have hj:j=a.length:=by simp at h;omega
   subst hj;rw[bO,aD (by omega)]at h2;exact h2
theorem zlY(a b:List fF):gY Pg 109 [.one (.sl false 1 (encS a)),.one (.sl false 1 (encS b))] (.one (.bool (decide (a=b)))):=by
 refine zck (by simp) λo c hN hp=>?_;have hl:a.length<=zah:=by have:=o.1;simp only[DV.ok,D.ok]at this;simpa[encS]using this.1
 unfold zah at hl;unfold Zr;simp;apply gN<;>intro h
 ·simp at h;intro e;rw[e]at h;exact h rfl
 ·simp at h;refine fQ gz hp PT [13] (λj:Nat=>j<=a.length/\a.take j=b.take j) (λj=>[.c (.d (.int .i64 j))]) (λ_=>[]) (λj=>a.length-j) 0 [] (by simp) (by simp[PT]) λj ⟨h1,h2⟩=>?_;unfold Zq PT;simp;apply gN<;>intro h
  ·have hj:j<a.length:=by simpa using h
   have hj':j<b.length:=by omega
   simp[aA hj,aA hj'];refine⟨by decide,gN (λh=>?_) (λh=>?_)⟩
   ·simp at h;intro e;subst e;exact h rfl
   ·simp at h;refine fG (j+1) [] ⟨by omega,?_⟩ (by omega) (by simp;exact wI);rw[aJ hj,aJ hj',h2,h]
  ·have hj:j=a.length:=by simp at h;omega
   subst hj;rw[bO,aD (by omega)]at h2;exact h2
theorem zDW(a b:List (fF × Int)):gY Pg 108 [.one (.sl false 2 (iK a)),.one (.sl false 2 (iK b))] (.one (.bool (decide (a=b)))):=by
 refine zrp (by simp) λo c hN hp=>?_;have hl:a.length<=zah:=by have:=o.1;simp only[DV.ok,D.ok]at this;simpa[iK]using this.1
 unfold zah at hl;unfold Zu;simp;apply gN<;>intro h
 ·simp at h;intro e;rw[e]at h;exact h rfl
 ·simp at h;refine fQ gz hp PU [13] (λj:Nat=>j<=a.length/\a.take j=b.take j) (λj=>[.c (.d (.int .i64 j))]) (λ_=>[]) (λj=>a.length-j) 0 [] (by simp) (by simp[PU]) λj ⟨h1,h2⟩=>?_;unfold Zt PU;simp;apply gN<;>intro h
  ·have hj:j<a.length:=by simpa using h
   have hj':j<b.length:=by omega
   simp[aA hj,aA hj'];refine⟨by decide,gN (λh=>?_) (λh=>?_)⟩
   ·simp at h;intro e;subst e;simp at h
   ·simp at h;refine fG (j+1) [] ⟨by omega,?_⟩ (by omega) (by simp;exact wI);rw[aJ hj,aJ hj',h2,Prod.ext h.1 h.2]
  ·have hj:j=a.length:=by simp at h;omega
   subst hj;rw[bO,aD (by omega)]at h2;exact h2
theorem Jo:gY Pg 66 [] (.agg idC.enc):=by
 refine zCg (by simp) λo c hN hp=>?_;unfold Jk;simp[idC,gp.enc,encI,iK,encS,gp.encs]
def lL{α:Type}(q:α->α->Bool):List α->List α->Bool
|[],[]=>true
|a::l,b::k=>q a b&&lL q l k
|_,_=>false
theorem Cv{α:Type}(q:α->α->Bool):∀{a b:List α},a.length≠b.length->lL q a b=false
|[],[],h=>by simp at h
|[],_::_,h=>rfl
|_::_,[],h=>rfl
|a::l,b::k,h=>by simp only[lL];rw[Cv q (a:=l) (b:=k) (by simpa using h)];simp
theorem zvx(a b:List gp)(g:FuncId)(caps:List D)(q:gp->gp->Bool)(H:∀x,x∈a->∀y,gY Pg g (.agg x.enc::.agg y.enc::caps.map .one) (.one (.bool (q x y)))):
  gY Pg 110 [.one (.sl false 5 (a.map gp.enc)),.one (.sl false 5 (b.map gp.enc)),.one (.fn (.func g) caps)] (.one (.bool (lL q a b))):=by
 refine zp0 (by simp) λo c hN hp=>?_;have hl:a.length<=zah:=by have:=o.1;simp only[DV.ok,D.ok]at this;simpa using this.1
 unfold zah at hl;unfold Zw;simp;apply gN<;>intro h
 ·simp at h;exact Cv q (by omega)
 ·simp at h;refine fQ gz hp PV [17] (λj:Nat=>j<=a.length/\lL q (a.drop j) (b.drop j)=lL q a b) (λj=>[.c (.d (.int .i64 j))]) (λ_=>[]) (λj=>a.length-j) 0 [] (by simp) (by simp[PV]) λj ⟨h1,h2⟩=>?_;unfold Zv PV;simp;apply gN<;>intro h
  ·have hj:j<a.length:=by simpa using h
   have hj':j<b.length:=by omega
   rw[aG hj,aG hj',lL]at h2;simp[aA hj,aA hj'];refine gT (H _ (aO hj) _) ?_;simp;apply gN<;>intro h
   ·simp at h;rw[h,Bool.false_and]at h2;exact h2.symm
   ·simp at h;rw[h,Bool.true_and]at h2;exact fG (j+1) [] ⟨by omega,h2⟩ (by omega) (by simp;exact wI)
  ·have hj:j=a.length:=by simp at h;omega
   subst hj;rw[aQ,bH (by omega)]at h2;rw[<-h2];try rfl
theorem zcv:∀(a b:List gp),xk a b=lL lX a b
|[],[]=>by simp[xk,lL]
|[],_::_=>by simp[xk,lL]
|_::_,[]=>by simp[xk,lL]
|a::l,b::k=>by simp[xk,lL,zcv l k]
theorem zi3(a b:gp):lX a b=(decide (a.tags=b.tags)&&(decide (a.needs=b.needs)&&(decide (a.names=b.names)&&(lL lX a.fields b.fields&&lL lX a.fn b.fn)))):=by
 cases a;cases b;simp only[lX,zcv];rfl
theorem zGn(a b:gp)(ih:∀x,x∈a.fields\/x∈a.fn->∀y,gY Pg 65 [.agg x.enc,.agg y.enc] (.one (.bool (lX x y)))):gY Pg 65 [.agg a.enc,.agg b.enc] (.one (.bool (lX a b))):=by
 have e:=zi3 a b;rw[gp.enc_eq a,gp.enc_eq b];refine zz5 (by simp) λo c hN hp=>?_;unfold ZL;simp;refine gT (zFk _ _) ?_;generalize decide (a.tags=b.tags)=p1 at e⊢;simp;apply gN<;>intro h1
 ·refine gT (zDW _ _) ?_;generalize decide (a.needs=b.needs)=p2 at e⊢;simp;apply gN<;>intro h2
  ·refine gT (zlY _ _) ?_;generalize decide (a.names=b.names)=p3 at e⊢;simp;apply gN<;>intro h3
   ·refine gT (zvx _ _ 65 [] lX λx hx y=>ih x (.inl hx) y) ?_;generalize lL lX a.fields b.fields=p4 at e⊢;simp;apply gN<;>intro h4
    ·refine gT (zvx _ _ 65 [] lX λx hx y=>ih x (.inr hx) y) ?_;simp[e,h1,h2,h3,h4]
    ·simp at h4;simp[e,h4]
   ·simp at h3;simp[e,h3]
  ·simp at h2;simp[e,h2]
 ·simp at h1;simp[e,h1]
mutual
theorem P6:∀(a b:gp),gY Pg 65 [.agg a.enc,.agg b.enc] (.one (.bool (lX a b)))
|.mk t n s f g,b=>zGn _ b λx hx y=>hx.elim (λh=>P7 f x h y) (λh=>P7 g x h y)
theorem P7:∀(l:List gp) (x:gp),x∈l->∀y,gY Pg 65 [.agg x.enc,.agg y.enc] (.one (.bool (lX x y)))
|c::l,x,h,y=>by
 cases aN.1 h with
 |inl e=>rw[e];exact P6 c y
 |inr e=>exact P7 l x e y
end
end Go.Gr.P
namespace Go.Gr.P
open Go.Abs Go.Proofs
theorem yK(a:gp):gY Pg 102 [.agg a.enc] (.one (.bool (lX a idC))):=by
 refine zz4 (by simp) λo c hN hp=>?_;unfold ZI;simp;refine gT Jo ?_;simp;refine gT (P6 a idC) ?_;simp;decide
theorem zDZ(a b:fF):gY Pg 101 [.one (.str a),.one (.str b)] (.one (.int .i64 (Lib.compareBytes a.data.toList b.data.toList))):=by
 have h:gY Pg 147 [.one (.str a),.one (.str b)] (.one (.int .i64 (Lib.compareBytes a.data.toList b.data.toList))):=by
  refine zrq (by simp) λo c hN hp=>?_;unfold Zy;simp
 refine zwz (by simp) λo c hN hp=>?_;unfold Zx;simp;refine gT h ?_;simp
end Go.Gr.P
namespace Go.Gr.P
open Go.Abs Go.Proofs List
theorem Jp{c:Ctx}(hp:c.pure)(d:gp)(hl:d.needs.length<=zah){Q:Exit->St->Prop}{S:St}{g}(l0:List Nat)
  (h0:iM l0 S [(62,.c (.d (.int .i64 0))),(1,.c (.d (.rp d.enc 0))),(60,.c (.d (.sl false 2 (iK d.needs)))),(61,.c (.d (.int .i64 d.needs.length))),(3,.c (.map 0))] [.map []])
  (hQ:∀T b x,vz [] d.needs=true->Abs.look T 1=.c (.d (.rp d.enc 0))->Q (.exit 0) ⟨T,hpOf [b],x⟩)
  (hR:∀T m x,vz [] d.needs=false->Abs.look T 2=.c (.d (.bool false))->Q .ret ⟨T,m,x⟩):mV Pg c Oz Q g S:=by
 unfold zah at hl;refine fP gz hp (λj:Nat=>j<=d.needs.length/\GZ d.needs j) (λj=>[(62,.c (.d (.int .i64 j))),(1,.c (.d (.rp d.enc 0))),(60,.c (.d (.sl false 2 (iK d.needs)))),(61,.c (.d (.int .i64 d.needs.length))),(3,.c (.map 0))]) (λj=>[.map (ng (d.needs.take j))]) (λj=>d.needs.length-j) 0 l0 ⟨by simp,λi h hj=>by omega⟩ h0 λj ⟨g1,g2⟩=>?_;unfold Oz;simp;apply gN<;>intro h
 ·have hj:j<d.needs.length:=by simpa using h
  simp[aA hj];apply gN<;>intro h
  ·simp at h;by_cases hm:∃x,x∈d.needs.take j/\d.needs[j].1=x.1
   ·obtain⟨k,hk⟩:=X5 _ _ 0 hm;simp[hk];refine hR _ _ _ (XY λH=>?_) (by simp);obtain⟨x,hx,e⟩:=hm;obtain⟨i,hi,rfl⟩:=bF hx;simp at hi;rw[getElem_take]at e;exact(H j hj hj).2 i (by omega) e.symm
   ·have hk:=X4 d.needs[j].1 (d.needs.take j) 0 λx hx e=>hm ⟨x,hx,e⟩;simp[hk];refine fG (j+1) [0] ⟨by omega,λi hi hij=>?_⟩ (by omega) ?_
    ·by_cases e:i=j
     ·subst e;refine⟨h,λk hk e=>hm ⟨d.needs[k],?_,e.symm⟩⟩;exact List.mem_iff_getElem.2 ⟨k,by simp;omega,by rw[getElem_take]⟩
     ·exact g2 i hi (by omega)
    ·simp;exact⟨wI,by rw[zGX,aJ hj,zCj],λa b hab=>zH7 hab⟩
  ·simp at h;exact hR _ _ _ (XY λH=>(H j hj hj).1 h) (by simp)
 ·have hj:j=d.needs.length:=by simp at h;omega
  subst hj;exact hQ _ _ _ (zjT g2) (by simp)
theorem Jq{c:Ctx}(hp:c.pure)(d:gp)(hn:d.names.length=d.fields.length)(hl:d.fields.length<=zah){Q:Exit->St->Prop}{S:St}{g}
  (ih:∀x,x∈d.fields\/x∈d.fn->gY Pg 63 [.agg x.enc] (.one (.bool (iY x))))
  (h0:iM [] S [(82,.c (.d (.int .i64 0))),(1,.c (.d (.rp d.enc 0))),(80,.c (.d (.sl false 5 (d.fields.map gp.enc)))),(81,.c (.d (.int .i64 d.fields.length)))] [])
  (hQ:∀T m x,(wm d.names&&d.fields.all λc=>iY c&& !lX c idC)=true->Abs.look T 1=.c (.d (.rp d.enc 0))->Q (.exit 2) ⟨T,m,x⟩)
  (hR:∀T m x,(wm d.names&&d.fields.all λc=>iY c&& !lX c idC)=false->Abs.look T 2=.c (.d (.bool false))->Q .ret ⟨T,m,x⟩):mV Pg c PD Q g S:=by
 unfold zah at hl;refine fP gz hp (λj:Nat=>j<=d.fields.length/\(∀i (h:i+1<d.names.length),i+1<j->Bq d.names[i+1] d.names[i]=false)/\((d.fields.drop j).all λc=>iY c&& !lX c idC)=d.fields.all λc=>iY c&& !lX c idC) (λj=>[(82,.c (.d (.int .i64 j))),(1,.c (.d (.rp d.enc 0))),(80,.c (.d (.sl false 5 (d.fields.map gp.enc)))),(81,.c (.d (.int .i64 d.fields.length)))]) (λj=>[]) (λj=>d.fields.length-j) 0 [] ⟨by simp,λi h hj=>by omega,by simp⟩ h0 λj ⟨g1,g2,g3⟩=>?_;unfold PD;simp;apply gN<;>intro h
 ·have hj:j<d.fields.length:=by simpa using h
  have hj':j<d.names.length:=by omega
  rw[aG hj,all_cons]at g3;simp[aA hj];cases j with
  | zero=>
   simp;refine gT (ih _ (.inl (aO hj))) ?_;simp;apply gN<;>intro h1
   ·simp at h1;refine gT (yK _) ?_;simp;refine⟨by decide,gN (λh2=>?_) (λh2=>?_)⟩
    ·refine hR _ _ _ ?_ (by simp);rw[<-g3,h1,h2];simp
    ·simp at h2;rw[h1,h2]at g3;exact fG (0+1) [] ⟨by omega,λi hi hij=>by omega,by simpa using g3⟩ (by omega) (by simp;exact wI)
   ·simp at h1;refine⟨by decide,hR _ _ _ ?_ (by simp)⟩;rw[<-g3,h1];simp
  | succ k=>
   have hk:k<d.names.length:=by omega
   have hw:IntKind.i64.wrap (k:Int)=k:=wI;simp[hw,aA hk,aA hj',show(0:Int)<(k:Int)+1 by omega];refine gT (zDZ _ _) ?_;have hcmp:=zIv d.names[k+1] d.names[k];simp;rw[<-hcmp];apply gN<;>intro hle
   ·refine gT (ih _ (.inl (aO hj))) ?_;simp;apply gN<;>intro h1
    ·simp at h1;refine gT (yK _) ?_;simp;refine⟨by decide,gN (λh2=>?_) (λh2=>?_)⟩
     ·refine hR _ _ _ ?_ (by simp);rw[<-g3,h1,h2];simp
     ·simp at h2;rw[h1,h2]at g3;exact fG ((k+1)+1) [] ⟨by omega,λi hi hij=>by
       by_cases e:i=k
       ·subst e;exact hle
       ·exact g2 i hi (by omega),by simpa using g3⟩ (by omega) (by simp;exact wI)
    ·simp at h1;refine⟨by decide,hR _ _ _ ?_ (by simp)⟩;rw[<-g3,h1];simp
   ·refine⟨by decide,hR _ _ _ ?_ (by simp)⟩;rw[XW (by omega) hle];try rfl
 ·have hj:j=d.fields.length:=by simp at h;omega
  subst hj;refine hQ _ _ _ ?_ (by simp);rw[XX λi h=>g2 i h (by omega),<-g3,aQ];try rfl
theorem zHd (d:gp) (ih:∀x,x∈d.fields\/x∈d.fn->gY Pg 63 [.agg x.enc] (.one (.bool (iY x)))):gY Pg 63 [.agg d.enc] (.one (.bool (iY d))):=by
 have e:=X0 d;refine zAX (by simp) λo c hN hp=>?_;have hl:d.needs.length<=zah/\d.fields.length<=zah/\d.fn.length<=zah:=by
  have:=o.1;rw[gp.enc_eq]at this;simp only[DV.ok,D.okL,D.ok,Ld,Sy,Cc,aV]at this;exact⟨this.2.1.1,this.2.2.2.1.1,this.2.2.2.2.1.1⟩
 have hl3:=hl.2.2;unfold zah at hl3;unfold ZK;by_cases k1:d.tags.length=6;rotate_left
 ·simp[show¬((d.tags.length:Int)=6) by omega,e,wB,k1]
 by_cases k2:d.names.length=d.fields.length;rotate_left
 ·simp[k1,show¬((d.names.length:Int)=(d.fields.length:Int)) by omega,e,wB,k2]
 have k2i:((d.names.length:Int)=(d.fields.length:Int))=True:=eq_true (by omega);have k1i:(d.tags.length:Int)=6:=by omega
 have ht4:d.tags[4]?=some (iF d 4):=by unfold iF;rw[getD,aA (by omega)];try rfl
 have ht5:d.tags[5]?=some (iF d 5):=by unfold iF;rw[getD,aA (by omega)];try rfl
 have fin:(d.fn.length=0\/d.fn.length=2)->¬(iF d 4≠0/\0<d.names.length\/iF d 5≠0/\0<d.fn.length)->iY d=(vz [] d.needs&&((wm d.names&&d.fields.all λc=>iY c&& !lX c idC)&&Av d.fn)):=λh h'=>by
  rw[e];unfold wB;rw[fC ⟨k1,k2,h⟩,fC h'];simp[Bool.and_assoc]
 have fon:¬(d.fn.length=0\/d.fn.length=2)\/(iF d 4≠0/\0<d.names.length\/iF d 5≠0/\0<d.fn.length)->iY d=false:=λh=>by
  rw[e];unfold wB;rcases h with h|h
  ·rw[fA (λx=>h x.2.2)];try rfl
  ·rw[fA (p:=¬_) (λx=>x h)];simp
 have kn:d.names.length=0\/0<d.names.length:=by omega
 have kf:(d.fn=[]\/∃x y,d.fn=[x,y])\/¬(d.fn.length=0\/d.fn.length=2):=by
  match d.fn with
  |[]=>simp
  |[_]=>simp
  |[x,y]=>simp
  |_::_::_::_=>simp
 rcases kf with k3|k3;rotate_right
 ·have hf:=fon (.inl k3);have a2:((d.fn.length:Int).tmod 2=0)->(2<(d.fn.length:Int)):=by
   intro h;have h2:((d.fn.length:Int).tmod 2)=(d.fn.length:Int)%2:=Int.tmod_eq_emod_of_nonneg (by omega);omega
  simp[k1i,k2i];apply gN<;>intro h
  ·have h3:=a2 (by simpa using h);simp[h3,hf]
  ·simp[hf]
 rcases k3 with k3|⟨x0,y0,k3⟩
 ·have k3l :d.fn.length=0:=by rw[k3];try rfl
  by_cases k4:iF d 4=0;rotate_left
  ·rcases kn with kn|kn;rotate_left
   ·have hf:=fon (.inr (.inl ⟨k4,kn⟩));simp[k1i,k2i,k3,ht4,ht5,k4,kn,show(0:Int)<d.names.length by omega,hf]
   ·have kn':((0:Int)=d.fields.length)=True:=eq_true (by omega);by_cases k5:iF d 5=0
    all_goals
     first
       | (
         have hf:=fin (by omega) (by omega);simp[k1i,k2i,k3,ht4,ht5,k4,kn,kn',k5];refine Jp hp d hl.1 [0] (by simp) (λT b x H e1=>?_) (λT m x H e2=>?_)
         ·simp[e1];refine Jq hp d k2 hl.2.1 ih (by simp[e1]) (λT m x H' e1=>?_) (λT m x H' e2=>?_)
          ·simp[e1,k3];simp[hf,H,H',k3,Av]
          ·simp[e2,hf,H,H']
         ·simp[e2,hf,H])
       | (
         have hf:=fon (.inr (.inr ⟨k5,by omega⟩))
         simp[k1i,k2i,k3,ht4,ht5,k4,kn,kn',k5,hf])
  ·by_cases k5:iF d 5=0
   all_goals
    first
      | (
        have hf:=fin (by omega) (by omega);simp[k1i,k2i,k3,ht4,ht5,k4,k5];refine Jp hp d hl.1 [0] (by simp) (λT b x H e1=>?_) (λT m x H e2=>?_)
        ·simp[e1];refine Jq hp d k2 hl.2.1 ih (by simp[e1]) (λT m x H' e1=>?_) (λT m x H' e2=>?_)
         ·simp[e1,k3];simp[hf,H,H',k3,Av]
         ·simp[e2,hf,H,H']
        ·simp[e2,hf,H])
      | (
        have hf:=fon (.inr (.inr ⟨k5,by omega⟩))
        simp[k1i,k2i,k3,ht4,ht5,k4,k5,hf])
 ·have k3l : d.fn.length=2:=by rw[k3];try rfl
  by_cases k4:iF d 4=0;rotate_left
  ·rcases kn with kn|kn;rotate_left
   ·have hf:=fon (.inr (.inl ⟨k4,kn⟩));simp[k1i,k2i,k3,ht4,ht5,k4,kn,show(0:Int)<d.names.length by omega,hf]
   ·have kn' :((0:Int)=d.fields.length)=True:=eq_true (by omega);by_cases k5:iF d 5=0
    all_goals
     first
       | (
         have hf:=fin (by omega) (by omega);simp[k1i,k2i,k3,ht4,ht5,k4,kn,kn',k5];refine Jp hp d hl.1 [0] (by simp) (λT b x H e1=>?_) (λT m x H e2=>?_)
         ·simp[e1];refine Jq hp d k2 hl.2.1 ih (by simp[e1]) (λT m x H' e1=>?_) (λT m x H' e2=>?_)
          ·simp[e1,k3];rw[H,H',k3,Av]at hf;refine gT (ih x0 (.inr (by simp[k3]))) ?_;simp[e1,k3];apply gN<;>intro m1
           ·refine gT (ih y0 (.inr (by simp[k3]))) ?_;simp[e1,k3];apply gN<;>intro m2
            ·refine gT (yK x0) ?_;simp[e1,k3];apply gN<;>intro m3
             ·refine gT (yK y0) ?_;simp;rw[hf,m1,m2,m3];simp
             ·simp at m3;rw[hf,m1,m2,m3];simp
            ·simp at m2;rw[hf,m1,m2];simp
           ·simp at m1;rw[hf,m1];simp
          ·simp[e2,hf,H,H']
         ·simp[e2,hf,H])
       | (
         have hf:=fon (.inr (.inr ⟨k5,by omega⟩))
         simp[k1i,k2i,k3,ht4,ht5,k4,kn,kn',k5,hf])
  ·by_cases k5:iF d 5=0
   all_goals
    first
      | (
        have hf:=fin (by omega) (by omega);simp[k1i,k2i,k3,ht4,ht5,k4,k5];refine Jp hp d hl.1 [0] (by simp) (λT b x H e1=>?_) (λT m x H e2=>?_)
        ·simp[e1];refine Jq hp d k2 hl.2.1 ih (by simp[e1]) (λT m x H' e1=>?_) (λT m x H' e2=>?_)
         ·simp[e1,k3];rw[H,H',k3,Av]at hf;refine gT (ih x0 (.inr (by simp[k3]))) ?_;simp[e1,k3];apply gN<;>intro m1
          ·refine gT (ih y0 (.inr (by simp[k3]))) ?_;simp[e1,k3];apply gN<;>intro m2
           ·refine gT (yK x0) ?_;simp[e1,k3];apply gN<;>intro m3
            ·refine gT (yK y0) ?_;simp;rw[hf,m1,m2,m3];simp
            ·simp at m3;rw[hf,m1,m2,m3];simp
           ·simp at m2;rw[hf,m1,m2];simp
          ·simp at m1;rw[hf,m1];simp
         ·simp[e2,hf,H,H']
        ·simp[e2,hf,H])
      | (
        have hf:=fon (.inr (.inr ⟨k5,by omega⟩))
        simp[k1i,k2i,k3,ht4,ht5,k4,k5,hf])
mutual
theorem P8:∀(a:gp),gY Pg 63 [.agg a.enc] (.one (.bool (iY a)))
|.mk t n s f g=>zHd _ λx hx=>hx.elim (λh=>P9 f x h) (λh=>P9 g x h)
theorem P9:∀(l:List gp) (x:gp),x∈l->gY Pg 63 [.agg x.enc] (.one (.bool (iY x)))
|c::l,x,h=>by
 cases aN.1 h with
 |inl e=>rw[e];exact P8 c
 |inr e=>exact P9 l x e
end
theorem yu{ts:List (Nat × Nat)}(h:ts.length=([]:List Blk).length):ts=[]:=by simpa using h
theorem lw{ts:List (Nat × Nat)}{b:Blk}(h:ts.length=[b].length):∃t,ts=[t]:=by
 match ts,h with
 |[t],_=>exact⟨t,rfl⟩
theorem Fs{ts:List (Nat × Nat)}{b c:Blk}(h:ts.length=[b,c].length):∃t u,ts=[t,u]:=by
 match ts,h with
 |[t,u],_=>exact⟨t,u,rfl⟩
theorem Gc:MCall Pg 66 [] [] (.ag [.msl 1 0 0 6,.d (.sl true 2 []),.d (.sl true 1 []),.d (.sl true 5 []),.d (.sl true 5 [])]) [.arr 1 ((encI rF).map (·.map .d))]:=by
 refine zAW ⟨by simp,by simp,by simp,by simp,by simp,by simp[encI,rF,live],by simp[encI,rF]⟩ λts hts ok hb c hN hp=>?_;obtain rfl:=yu hts;unfold Jk;simp;exact fO [1] [] (by simp[encI,rF])
theorem zFw(l:List (fF × Int))(hl:l.length<=1073741824):MCall Pg 103 [.c (.d (.sl false 2 (iK l)))] [] (.c (.msl 2 0 0 l.length)) [.arr 2 ((iK l).map (·.map .d))]:=by
 refine zra ⟨by simp,by simp,by simp,by simp,by simp,by simp[iK,live],by simp[iK]⟩ λts hts ok hb c hN hp=>?_;obtain rfl:=yu hts;unfold Jn;cases l with
 | nil=>
  simp[iK];refine⟨fV [.t 2] ?_,fV [] ?_⟩
  ·simp;exact fM [0] []
  ·simp;exact fM [0] []
 |cons x l=>
  simp[iK];refine⟨by simp at hl;omega,?_⟩;refine fV [] ?_;simp;exact fM [0] []
theorem zFx(l:List (fF × Int))(g:FuncId)(caps:List D)(q:fF × Int->Bool)(H:∀x,x∈l->gY Pg g (.agg (zg x)::caps.map .one) (.one (.bool (q x)))):
  gY Pg 172 [.one (.sl false 2 (iK l)),.one (.fn (.func g) caps)] (.one (.int .i64 (ix q 0 l))):=by
 refine zqL (by simp) λo c' hN hp=>?_;have hl:l.length<=zah:=by
  have:=o.1;simp only[DV.ok,D.ok]at this;simpa using this.1
 unfold zah at hl;unfold zpz;simp;refine fQ gz hp PW [8] (λj:Nat=>j<=l.length/\ix q j (l.drop j)=ix q 0 l) (λj=>[.c (.d (.int .i64 j))]) (λ_=>[]) (λj=>l.length-j) 0 [] ⟨by simp,by simp⟩ (by simp[PW]) λj ⟨h1,h2⟩=>?_;unfold zpr PW;simp;apply gN<;>intro h
 ·simp at h;have hj:j<l.length:=by omega
  simp[aA hj];rw[aG hj,ix]at h2;refine gT (H _ (aO hj)) ?_;simp;refine gN (λh'=>?_) (λh'=>?_)
  ·rw[aC h']at h2;exact h2
  ·rw[Bool.not_true]at h';rw[aB (by rw[h'];simp)]at h2;refine fG (j+1) [] ⟨by omega,h2⟩ (by omega) ?_;simp;exact wI
 ·have hj:j=l.length:=by simp at h;omega
  rw[<-h2,hj];simp[ix]
theorem zBy(l:List (fF × Int))(g:FuncId)(caps:List D)(q:fF × Int->Bool)(H:∀x,x∈l->gY Pg g (.agg (zg x)::caps.map .one) (.one (.bool (q x)))):
  gY Pg 148 [.one (.sl false 2 (iK l)),.one (.fn (.func g) caps)] (.one (.bool (l.any q))):=by
 refine zqt (by simp) λo c' hN hp=>?_;unfold Zz;simp;refine gT (zFx l g caps q H) ?_;simp[X6]
theorem zFy(m n:fF × Int):gY Pg 149 [.agg (zg m),.one (.rp (zg n) 0)] (.one (.bool (decide (m.1=n.1)))):=by
 refine zxm (by simp) λo c' hN hp=>?_;unfold ZQ;simp[zg]
theorem zBz(a b:List (fF × Int))(ha:a.length<=1073741824)(hb:b.length<=1073741824):gY Pg 104 [.one (.sl false 2 (iK a)),.one (.sl false 2 (iK b))] (.one (.sl false 2 (iK (o5 a b)))):=by
 refine zyW (by simp) λo c' hN hp=>?_;unfold ZP;simp;refine gP [] (zFw a ha) ?_;simp;have K:∀j,(b.take j).length<=1073741824:=λj=>by rw[bN];omega
 refine fQ gz hp PG [12,5] (λj:Nat=>j<=b.length) (λj=>[.c (.d (.int .i64 j)),.c (.msl 2 0 0 (o5 a (b.take j)).length)]) (λj=>[.arr 2 ((iK (o5 a (b.take j))).map (·.map .d))]) (λj=>b.length-j) 0 [0] (by simp) (by simp[PG,o5]) λj h1=>?_;unfold ZO PG;simp;apply gN<;>intro h
 ·have hj:j<b.length:=by simpa using h
  simp[aA hj];have hc:gY Pg 148 [.one (.sl false 2 (iK a)),.one (.fn (.func 149) [.rp (zg b[j]) 0])] (.one (.bool (a.any λm=>decide (m.1=b[j].1)))):=zBy a 149 [.rp (zg b[j]) 0] (λm=>decide (m.1=b[j].1)) λm hm=>zFy m b[j];have hs:o5 a (b.take (j+1))=if(a.any λm=>decide (m.1=b[j].1))=true then o5 a (b.take j)else o5 a (b.take j)++[b[j]]:=by
   unfold o5;rw[aJ hj,dJ];by_cases hq:(a.any λm=>decide (m.1=b[j].1))=true<;>simp[hq]
  generalize (a.any λm=>decide (m.1=b[j].1))=t at hc hs;refine gQ [1] (MCall.frzB (bs:=[.box ((zg b[j]).map .d)]) (args:=[.c (.d (.sl false 2 (iK a))),.c (.fn (.func 149) [.ptr 0 0])]) hc (by simp) (by simp) (by simp)) (by simp[zg]) ?_;simp[zg];have hlen:(o5 a (b.take j)).length<=2147483648:=by
   unfold o5;have:=bP (λn:fF × Int=> !a.any λm=>decide (m.1=n.1)) (b.take j);have:=K j;simp only[aT];omega
  apply gN<;>intro h
  ·simp at h;refine⟨by omega,?_⟩;rw[h]at hs;simp at hs;refine fG (j+1) [2] (by omega) (by omega) ?_;simp[hs];exact⟨wI,by rw[aD (by simp)];simp[iK]⟩
  ·simp at h;rw[h]at hs;simp at hs;refine fG (j+1) [0] (by omega) (by omega) ?_;simp[hs];exact wI
 ·have hj:j=b.length:=by simp at h;omega
  subst hj;simp;rw[aD (by simp)]
theorem E5(c:gp)(h:c.fn.length=0\/c.fn.length=2):gY Pg 106 [.agg c.enc] (.tup [.agg (jD c).1.enc,.agg (jD c).2.enc]):=by
 refine zz6 (by simp) λo c' hN hp=>?_;unfold ZM;simp;apply gN<;>intro h1
 ·have h0:c.fn=[]:=by simpa using h1
  refine gT Jo ?_;simp;refine gT Jo ?_;simp[jD,h0]
 ·have h0:c.fn≠[]:=by simpa using h1
  have h2:c.fn.length=2:=h.resolve_left λe=>h0 (aU.1 e);obtain⟨x,y,hxy⟩:∃x y,c.fn=[x,y]:=by
   match c.fn,h2 with
   |[x,y],_=>exact⟨x,y,rfl⟩
  simp[hxy,jD];decide
theorem Pb(a b s x:D)(h1:a.one=true)(f g:gp):MCall Pg 99 [.c (.ptr 0 0),.ag (f.enc.map .d),.ag (g.enc.map .d)] [.box [.d a,.d b,.d s,.d x,.d (.sl true 5 [])]] (.tup []) [.box [.d a,.d b,.d s,.d x,.d (.sl true 5 ((mU f g).map gp.enc))]]:=by
 refine ZN nD λts hts ok hb c hN hp=>?_;obtain⟨t,rfl⟩:=lw hts;unfold PE;simp;refine gT (yK f) ?_;simp;apply gN<;>intro h2
 ·simp at h2;refine gT (yK g) ?_;simp;apply gN<;>intro h3
  ·simp at h3;exact fO [0] [1] (by simp[mU,h2,h3])
  ·simp at h3;exact fO [0] [1] (by simp[mU,h2,h3])
 ·simp at h2;exact fO [0] [1] (by simp[mU,h2])
end Go.Gr.P
